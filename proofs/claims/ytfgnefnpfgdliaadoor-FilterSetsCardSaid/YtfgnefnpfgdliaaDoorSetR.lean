/- FilterSets, in plain Lean: the ideal run of the law. FilterSets, in plain Lean: the ideal run of the law, whole. -/
import Derived.Test.YtfgnefnpfgdliaaDoorSetP
import Derived.Test.YtfgnefnpfgdliaaDoorFltQ
namespace Go.Proofs.YtfgnefnpfgdliaaDoor
set_option linter.unusedVariables false
set_option linter.unusedSimpArgs false
set_option maxRecDepth 10000
def lp4_0 : XC := .seq (.seq (.reg [⟨some 65, .mov (.t 12), none, false⟩, ⟨some 66, .mov (.t 1), none, false⟩, ⟨some 67, .len 8 (.t 66), none, false⟩, ⟨some 68, .bin .lss (.t 65) (.t 67), none, false⟩] [0, 1, 2, 11, 12, 68]) (.cond (.t 68) .skip (.exit 0))) (.seq (.block 1 (.seq (.reg [⟨some 71, .mov (.t 1), none, false⟩, ⟨some 72, .mov (.t 12), none, false⟩, ⟨some 73, .iaddr 8 (.t 71) (.t 72), none, false⟩, ⟨some 74, .load true 8 (.t 73), none, false⟩, ⟨some 13, .alloc 41 [.int .i64 0, .int .i64 0, .int .i64 0, .int .i64 0, .str ⟨#[]⟩, .bool false, .int .i64 0, .int .i64 0], none, false⟩, ⟨none, .store 8 (.t 13) (.t 74), none, false⟩] [0, 1, 2, 11, 12, 13]) (.seq (.seq (.reg [⟨some 75, .faddr 6 (.t 13), none, false⟩, ⟨some 76, .load false 1 (.t 75), none, false⟩, ⟨some 77, .mov (.t 12), none, false⟩, ⟨some 78, .bin .geq (.t 76) (.t 77), none, false⟩, ⟨some 79, .mov (.t 78), none, false⟩, ⟨some 80, .faddr 6 (.t 13), some (79, false), false⟩, ⟨some 81, .load false 1 (.t 80), some (79, false), false⟩, ⟨some 82, .bin .lss (.t 81) (.c (.int .i64 0)), some (79, false), false⟩, ⟨some 83, .pick (.t 79) (.c (.bool true)) (.t 82), none, false⟩, ⟨some 84, .mov (.t 83), none, false⟩, ⟨some 85, .faddr 7 (.t 13), some (84, false), false⟩, ⟨some 86, .load false 1 (.t 85), some (84, false), false⟩, ⟨some 87, .mov (.t 12), some (84, false), false⟩, ⟨some 88, .bin .geq (.t 86) (.t 87), some (84, false), false⟩, ⟨some 89, .pick (.t 84) (.c (.bool true)) (.t 88), none, false⟩, ⟨some 90, .mov (.t 89), none, false⟩, ⟨some 91, .faddr 7 (.t 13), some (90, false), false⟩, ⟨some 92, .load false 1 (.t 91), some (90, false), false⟩, ⟨some 93, .bin .lss (.t 92) (.c (.int .i64 0)), some (90, false), false⟩, ⟨some 94, .pick (.t 90) (.c (.bool true)) (.t 93), none, false⟩] [0, 1, 2, 11, 12, 13, 94]) (.cond (.t 94) (.seq (.reg [⟨some 95, .mov (.t 0), none, false⟩, ⟨some 96, .len 8 (.t 95), none, false⟩, ⟨some 97, .un .neg (.t 96), none, false⟩, ⟨some 98, .bin .sub (.t 97) (.c (.int .i64 1)), none, false⟩, ⟨some 99, .faddr 6 (.t 13), none, false⟩, ⟨none, .store 1 (.t 99) (.t 98), none, false⟩] [0, 1, 2, 11, 12, 13]) (.seq (.reg [⟨some 100, .mov (.t 0), none, false⟩, ⟨some 101, .len 8 (.t 100), none, false⟩, ⟨some 102, .un .neg (.t 101), none, false⟩, ⟨some 103, .bin .sub (.t 102) (.c (.int .i64 1)), none, false⟩, ⟨some 104, .faddr 7 (.t 13), none, false⟩, ⟨none, .store 1 (.t 104) (.t 103), none, false⟩] [0, 1, 2, 11, 12, 13]) (.seq (.reg [⟨some 105, .mov (.t 1), none, false⟩, ⟨some 106, .mov (.t 12), none, false⟩, ⟨some 107, .iaddr 8 (.t 105) (.t 106), none, false⟩, ⟨some 108, .faddr 0 (.t 107), none, false⟩, ⟨some 109, .load false 1 (.t 108), none, false⟩, ⟨some 110, .bin .geq (.t 109) (.c (.int .i64 8)), none, false⟩] [0, 1, 2, 11, 12, 13, 110]) (.cond (.t 110) (.seq (.reg [⟨some 6, .mov (.c (.bool true)), none, false⟩] [6]) .ret) .skip)))) .skip)) (.seq (.reg [⟨some 111, .faddr 6 (.t 13), none, false⟩, ⟨some 112, .load false 1 (.t 111), none, false⟩, ⟨some 113, .mov (.t 0), none, false⟩, ⟨some 114, .len 8 (.t 113), none, false⟩, ⟨some 115, .bin .add (.t 112) (.t 114), none, false⟩, ⟨some 116, .faddr 6 (.t 13), none, false⟩, ⟨none, .store 1 (.t 116) (.t 115), none, false⟩] [0, 1, 2, 11, 12, 13]) (.seq (.reg [⟨some 117, .faddr 7 (.t 13), none, false⟩, ⟨some 118, .load false 1 (.t 117), none, false⟩, ⟨some 119, .mov (.t 0), none, false⟩, ⟨some 120, .len 8 (.t 119), none, false⟩, ⟨some 121, .bin .add (.t 118) (.t 120), none, false⟩, ⟨some 122, .faddr 7 (.t 13), none, false⟩, ⟨none, .store 1 (.t 122) (.t 121), none, false⟩] [0, 1, 2, 11, 12, 13]) (.reg [⟨some 123, .mov (.t 11), none, false⟩, ⟨some 124, .load true 8 (.t 13), none, false⟩, ⟨some 125, .mkslice true 41 8 [.t 124], none, false⟩, ⟨some 126, .app 41 8 72 (.t 123) (.t 125), none, false⟩, ⟨some 11, .mov (.t 126), none, false⟩] [0, 1, 2, 11, 12])))))) (.reg [⟨some 69, .mov (.t 12), none, false⟩, ⟨some 70, .bin .add (.t 69) (.c (.int .i64 1)), none, false⟩, ⟨some 12, .mov (.t 70), none, false⟩] [0, 1, 2, 11, 12]))
theorem nW (a c k n : Int) (s : ByteArray) (t : Bool) (i j : Int) : Wc 8 (.agg [.int .i64 a, .int .i64 c, .int .i64 k, .int .i64 n, .str s, .bool t, .int .i64 i, .int .i64 j]) := by simp [Wc, DV.cells, DV.one]
theorem nN (a c k n : Int) (s : ByteArray) (t : Bool) (i j : Int) : Nr (.agg [.int .i64 a, .int .i64 c, .int .i64 k, .int .i64 n, .str s, .bool t, .int .i64 i, .int .i64 j]) := .agg (fun x hx => by
  simp at hx
  rcases hx with rfl | rfl | rfl | rfl | rfl | rfl | rfl | rfl
  · exact .int _ _
  · exact .int _ _
  · exact .int _ _
  · exact .int _ _
  · exact .str _
  · exact .bool _
  · exact .int _ _
  · exact .int _ _)
theorem nE (a c k n : Int) (s : ByteArray) (t : Bool) (i j : Int) (h : Heap) : eltL [.agg [.int .i64 a, .int .i64 c, .int .i64 k, .int .i64 n, .str s, .bool t, .int .i64 i, .int .i64 j]] h = some ([.agg [.int .i64 a, .int .i64 c, .int .i64 k, .int .i64 n, .str s, .bool t, .int .i64 i, .int .i64 j]], h) := rfl
theorem nS (d : DV) (h : Heap) : srcOf h 8 (.list 8 [d] true) = some [d] := rfl
/-- Where nodes are collected. -/
def NAt (h : Heap) (g : Nat) (zs : List N) : Prop := h[0]? = some (.row 41 8 g (zs.map N.d))
theorem NAt.vw {h : Heap} {g : Nat} {zs : List N} (hN : NAt h g zs) (G : Heap) : vw (h ++ G) 8 (.row 0 g 0 zs.length false) = some (zs.map N.d) := by
  have := hle hN G
  simp [Go.Proofs.YtfgnefnpfgdliaaDoor.vw, this, List.take_of_length_le]
theorem NAt.app {h : Heap} {g : Nat} {zs : List N} (hN : NAt h g zs) (hb : zs.length ≤ 1000000) (G : Heap) (y : DV) : appx (h ++ G) 41 8 72 (.row 0 g 0 zs.length false) (zs.map N.d) [y] = some (.row 0 (g + 1) 0 (zs.length + 1) false, (h ++ G).set 0 (.row 41 8 (g + 1) (zs.map N.d ++ [y]))) := by
  have := hle hN G
  have hle' : ((zs.map N.d).length + [y].length) * 72 ≤ 140737488355328 := by simp; omega
  simp only [appx, if_pos hle', this]
  simp
theorem NAt.next {h : Heap} {g : Nat} {zs : List N} (hN : NAt h g zs) (G : Heap) (x : N) : NAt ((h ++ G).set 0 (.row 41 8 (g + 1) (zs.map N.d ++ [x.d]))) (g + 1) (zs ++ [x]) := by
  have h1 := (List.getElem?_eq_some_iff.1 hN).1
  unfold NAt
  rw [List.getElem?_set_self (by simp; omega)]
  simp
section
variable {H1 : Heap} {L M A R : DV} {o : Nat} {ask col vk vn xa xb : Int} {vs' : ByteArray} {vt : Bool} {i : Nat}
theorem rgS (hb : H1[o]? = some (.box 41 [.int .i64 ask, .int .i64 col, .int .i64 vk, .int .i64 vn, .str vs', .bool vt, .int .i64 xa, .int .i64 xb])) :
    C X (.reg [⟨some 75, .faddr 6 (.t 13), none, false⟩, ⟨some 76, .load false 1 (.t 75), none, false⟩, ⟨some 77, .mov (.t 12), none, false⟩, ⟨some 78, .bin .geq (.t 76) (.t 77), none, false⟩, ⟨some 79, .mov (.t 78), none, false⟩, ⟨some 80, .faddr 6 (.t 13), some (79, false), false⟩, ⟨some 81, .load false 1 (.t 80), some (79, false), false⟩, ⟨some 82, .bin .lss (.t 81) (.c (.int .i64 0)), some (79, false), false⟩, ⟨some 83, .pick (.t 79) (.c (.bool true)) (.t 82), none, false⟩, ⟨some 84, .mov (.t 83), none, false⟩, ⟨some 85, .faddr 7 (.t 13), some (84, false), false⟩, ⟨some 86, .load false 1 (.t 85), some (84, false), false⟩, ⟨some 87, .mov (.t 12), some (84, false), false⟩, ⟨some 88, .bin .geq (.t 86) (.t 87), some (84, false), false⟩, ⟨some 89, .pick (.t 84) (.c (.bool true)) (.t 88), none, false⟩, ⟨some 90, .mov (.t 89), none, false⟩, ⟨some 91, .faddr 7 (.t 13), some (90, false), false⟩, ⟨some 92, .load false 1 (.t 91), some (90, false), false⟩, ⟨some 93, .bin .lss (.t 92) (.c (.int .i64 0)), some (90, false), false⟩, ⟨some 94, .pick (.t 90) (.c (.bool true)) (.t 93), none, false⟩] [0, 1, 2, 11, 12, 13, 94]) [(0, L), (1, M), (2, A), (11, R), (12, .int .i64 i), (13, .ref o 0)] H1 = some (.norm, [(0, L), (1, M), (2, A), (11, R), (12, .int .i64 i), (13, .ref o 0), (94, .bool (!(okA xa i && okA xb i)))], H1) := by
  by_cases c1 : (i : Int) ≤ xa
  · have d1 : okA xa i = false := by simp [okA]; omega
    rw [s_reg (by simp [evOps, evOp_n, evOp_r, evOp_d, evOp_dr, kpo_refl, kpo_app, cnd_some, cnd_pair, cnd_cnd_t, cnd_cnd_f, cnd_same, cnd_dvb, cnd_and, cnd_or, ↓evx_pick, gd_bool, gd_boolf, gd_tup, cnd_t, cnd_f, evTo, isCall, evx, put, lk, Od.v, keepEnv, enterEnv, ldx_ref, rdc, binx, binI, binS, unx, eqk, DV.isU, DV.cells, hget, hget0, hset, hset0, stx_ref, splice, DV.one, fillp, mat, eqcs, eqs, hb, c1]; exact ⟨rfl, rfl⟩)]
    simp [keepEnv, lk, d1]
  by_cases c2 : xa < 0
  · have d1 : okA xa i = false := by simp [okA]; omega
    rw [s_reg (by simp [evOps, evOp_n, evOp_r, evOp_d, evOp_dr, kpo_refl, kpo_app, cnd_some, cnd_pair, cnd_cnd_t, cnd_cnd_f, cnd_same, cnd_dvb, cnd_and, cnd_or, ↓evx_pick, gd_bool, gd_boolf, gd_tup, cnd_t, cnd_f, evTo, isCall, evx, put, lk, Od.v, keepEnv, enterEnv, ldx_ref, rdc, binx, binI, binS, unx, eqk, DV.isU, DV.cells, hget, hget0, hset, hset0, stx_ref, splice, DV.one, fillp, mat, eqcs, eqs, hb, c1, c2]; exact ⟨rfl, rfl⟩)]
    simp [keepEnv, lk, d1]
  have d1 : okA xa i = true := by simp [okA]; omega
  by_cases c3 : (i : Int) ≤ xb
  · have d2 : okA xb i = false := by simp [okA]; omega
    rw [s_reg (by simp [evOps, evOp_n, evOp_r, evOp_d, evOp_dr, kpo_refl, kpo_app, cnd_some, cnd_pair, cnd_cnd_t, cnd_cnd_f, cnd_same, cnd_dvb, cnd_and, cnd_or, ↓evx_pick, gd_bool, gd_boolf, gd_tup, cnd_t, cnd_f, evTo, isCall, evx, put, lk, Od.v, keepEnv, enterEnv, ldx_ref, rdc, binx, binI, binS, unx, eqk, DV.isU, DV.cells, hget, hget0, hset, hset0, stx_ref, splice, DV.one, fillp, mat, eqcs, eqs, hb, c1, c2, c3]; exact ⟨rfl, rfl⟩)]
    simp [keepEnv, lk, d1, d2]
  by_cases c4 : xb < 0
  · have d2 : okA xb i = false := by simp [okA]; omega
    rw [s_reg (by simp [evOps, evOp_n, evOp_r, evOp_d, evOp_dr, kpo_refl, kpo_app, cnd_some, cnd_pair, cnd_cnd_t, cnd_cnd_f, cnd_same, cnd_dvb, cnd_and, cnd_or, ↓evx_pick, gd_bool, gd_boolf, gd_tup, cnd_t, cnd_f, evTo, isCall, evx, put, lk, Od.v, keepEnv, enterEnv, ldx_ref, rdc, binx, binI, binS, unx, eqk, DV.isU, DV.cells, hget, hget0, hset, hset0, stx_ref, splice, DV.one, fillp, mat, eqcs, eqs, hb, c1, c2, c3, c4]; exact ⟨rfl, rfl⟩)]
    simp [keepEnv, lk, d1, d2]
  have d2 : okA xb i = true := by simp [okA]; omega
  rw [s_reg (by simp [evOps, evOp_n, evOp_r, evOp_d, evOp_dr, kpo_refl, kpo_app, cnd_some, cnd_pair, cnd_cnd_t, cnd_cnd_f, cnd_same, cnd_dvb, cnd_and, cnd_or, ↓evx_pick, gd_bool, gd_boolf, gd_tup, cnd_t, cnd_f, evTo, isCall, evx, put, lk, Od.v, keepEnv, enterEnv, ldx_ref, rdc, binx, binI, binS, unx, eqk, DV.isU, DV.cells, hget, hget0, hset, hset0, stx_ref, splice, DV.one, fillp, mat, eqcs, eqs, hb, c1, c2, c3, c4]; exact ⟨rfl, rfl⟩)]
  simp [keepEnv, lk, d1, d2]
end
set_option maxHeartbeats 2000000 in
theorem step4 {h : Heap} {L M A : DV} {xs ys zs : List N} {g i I : Nat} {x : N} (hL : ∀ h, vw h 8 L = some (xs.map N.d)) (hM : ∀ h, vw h 8 M = some (ys.map N.d)) (hx30 : xs.length ≤ 30) (hy30 : ys.length ≤ 30) (hz : zs.length ≤ 100) (hN : NAt h g zs) (hi : i < ys.length) (hI : I = i + 1) (hx : ys[i] = x) :
    (goodN i x = true → ∃ h', C X lp4_0 [(0, L), (1, M), (2, A), (11, .row 0 g 0 zs.length false), (12, .int .i64 i)] h = some (.norm, [(0, L), (1, M), (2, A), (11, .row 0 (g + 1) 0 (zs.length + 1) false), (12, .int .i64 I)], h') ∧ NAt h' (g + 1) (zs ++ [shN xs.length i x])) ∧
    (goodN i x = false → ∃ h', C X lp4_0 [(0, L), (1, M), (2, A), (11, .row 0 g 0 zs.length false), (12, .int .i64 i)] h = some (.ret, [(6, .bool true)], h')) := by
  have w1 : IntKind.i64.wrap ((i : Int) + 1) = (I : Int) := (by rw [wrap64 _ (by omega) (by omega)]; omega)
  have vL := hL
  have vM := hM
  have vR := hN.vw
  have aR := hN.app (by omega)
  have hnx := fun G => hN.next G (shN xs.length i x)
  have hl : (xs.map N.d).length = xs.length := by simp
  generalize zs.length = m at *
  clear hL hM hN hz
  obtain ⟨ask, col, ⟨vk, vn, vs', vt⟩, xa, xb⟩ := x
  have hbx : (h ++ [HO.box 41 [.int .i64 ask, .int .i64 col, .int .i64 vk, .int .i64 vn, .str vs', .bool vt, .int .i64 xa, .int .i64 xb]])[h.length]? = some (.box 41 [.int .i64 ask, .int .i64 col, .int .i64 vk, .int .i64 vn, .str vs', .bool vt, .int .i64 xa, .int .i64 xb]) := by simp
  simp only [goodN, shN] at *
  rcases bft (okA xa i && okA xb i) with ok | ok
  · rcases bft (decide (ask < 8)) with lo | lo
    · refine ⟨fun hg => (by rw [ok, lo] at hg; cases hg), fun _ => ?_⟩
      have lo' : 8 ≤ ask := by simpa using lo
      refine ⟨(h ++ [HO.box 41 [.int .i64 ask, .int .i64 col, .int .i64 vk, .int .i64 vn, .str vs', .bool vt, .int .i64 (-xs.length - 1), .int .i64 (-xs.length - 1)]]), ?_⟩
      have v1 : IntKind.i64.wrap (0 - (xs.length : Int)) = -(xs.length : Int) := by rw [wrap64 _ (by omega) (by omega)]; omega
      have v2 : IntKind.i64.wrap (-(xs.length : Int) - 1) = -(xs.length : Int) - 1 := wrap64 _ (by omega) (by omega)
      have v1' : IntKind.i64.wrap (-(xs.length : Int)) = -(xs.length : Int) := wrap64 _ (by omega) (by omega)
      clear hnx aR
      unfold lp4_0
      (repeat (first | rw [s_assoc] | rw [s_seq_reg (by simp [evOps, evOp_n, evOp_r, evOp_d, evOp_dr, kpo_refl, kpo_app, cnd_some, cnd_pair, cnd_cnd_t, cnd_cnd_f, cnd_same, cnd_dvb, cnd_and, cnd_or, ↓evx_pick, gd_bool, gd_boolf, gd_tup, cnd_t, cnd_f, evTo, isCall, evx, put, lk, Od.v, keepEnv, enterEnv, ldx_ref, rdc, binx, binI, binS, unx, eqk, DV.isU, DV.cells, hget, hget0, hset, hset0, stx_ref, splice, DV.one, fillp, mat, eqcs, eqs, hi, w1, vM, hx, ldx_ref, ldx]; exact ⟨rfl, rfl⟩)] | rw [s_cnd (by simp [lk, keepEnv, Od.v, hi, w1, vM, hx, ldx_ref, ldx]; exact rfl)] | rw [cnd_t] | rw [cnd_f] | rw [s_skip] | rw [s_ret] | rw [s_exit] | rw [C_ret] | rw [C_exit] | rw [C_skip] | rw [blk_ret] | rw [blk_norm] | rw [blk_exit] | rw [blk_exit' (by decide)] | rw [blkT_ret] | rw [blkT_norm] | rw [blkT_exit] | rw [blkT_exit' (by decide)] | rw [s_blk] | rw [s_reg (by simp [evOps, evOp_n, evOp_r, evOp_d, evOp_dr, kpo_refl, kpo_app, cnd_some, cnd_pair, cnd_cnd_t, cnd_cnd_f, cnd_same, cnd_dvb, cnd_and, cnd_or, ↓evx_pick, gd_bool, gd_boolf, gd_tup, cnd_t, cnd_f, evTo, isCall, evx, put, lk, Od.v, keepEnv, enterEnv, ldx_ref, rdc, binx, binI, binS, unx, eqk, DV.isU, DV.cells, hget, hget0, hset, hset0, stx_ref, splice, DV.one, fillp, mat, eqcs, eqs, hi, w1, vM, hx, ldx_ref, ldx]; exact ⟨rfl, rfl⟩)] | rw [t_cnd (by simp [lk, keepEnv, Od.v, hi, w1, vM, hx, ldx_ref, ldx]; exact rfl)] | rw [t_blk]))
      (try simp only [keepEnv, List.map_cons, List.map_nil, lk, reduceIte, Nat.reduceEqDiff, Nat.zero_ne_one, Nat.one_ne_zero])
      rw [s_seq (rgS hbx), ok]
      (repeat (first | rw [s_assoc] | rw [s_seq_reg (by simp [evOps, evOp_n, evOp_r, evOp_d, evOp_dr, kpo_refl, kpo_app, cnd_some, cnd_pair, cnd_cnd_t, cnd_cnd_f, cnd_same, cnd_dvb, cnd_and, cnd_or, ↓evx_pick, gd_bool, gd_boolf, gd_tup, cnd_t, cnd_f, evTo, isCall, evx, put, lk, Od.v, keepEnv, enterEnv, ldx_ref, rdc, binx, binI, binS, unx, eqk, DV.isU, DV.cells, hget, hget0, hset, hset0, stx_ref, splice, DV.one, fillp, mat, eqcs, eqs, hi, w1, vM, vL, hx, hbx, ldx_ref, ldx, v1, v2, v1', lo']; exact ⟨rfl, rfl⟩)] | rw [s_cnd (by simp [lk, keepEnv, Od.v, hi, w1, vM, vL, hx, hbx, ldx_ref, ldx, v1, v2, v1', lo']; exact rfl)] | rw [cnd_t] | rw [cnd_f] | rw [s_skip] | rw [s_ret] | rw [s_exit] | rw [C_ret] | rw [C_exit] | rw [C_skip] | rw [blk_ret] | rw [blk_norm] | rw [blk_exit] | rw [blk_exit' (by decide)] | rw [blkT_ret] | rw [blkT_norm] | rw [blkT_exit] | rw [blkT_exit' (by decide)] | rw [s_blk] | rw [s_reg (by simp [evOps, evOp_n, evOp_r, evOp_d, evOp_dr, kpo_refl, kpo_app, cnd_some, cnd_pair, cnd_cnd_t, cnd_cnd_f, cnd_same, cnd_dvb, cnd_and, cnd_or, ↓evx_pick, gd_bool, gd_boolf, gd_tup, cnd_t, cnd_f, evTo, isCall, evx, put, lk, Od.v, keepEnv, enterEnv, ldx_ref, rdc, binx, binI, binS, unx, eqk, DV.isU, DV.cells, hget, hget0, hset, hset0, stx_ref, splice, DV.one, fillp, mat, eqcs, eqs, hi, w1, vM, vL, hx, hbx, ldx_ref, ldx, v1, v2, v1', lo']; exact ⟨rfl, rfl⟩)] | rw [t_cnd (by simp [lk, keepEnv, Od.v, hi, w1, vM, vL, hx, hbx, ldx_ref, ldx, v1, v2, v1', lo']; exact rfl)] | rw [t_blk]))
      simp [keepEnv, lk]
    · refine ⟨fun _ => ?_, fun hg => (by rw [ok, lo] at hg; cases hg)⟩
      have lo' : ¬ 8 ≤ ask := by have : ask < 8 := by simpa using lo
                                 omega
      have no : ¬ (okA xa i = true ∧ okA xb i = true) := by rw [Bool.and_eq_false_iff] at ok; rcases ok with ok | ok <;> simp [ok]
      rw [if_neg no] at *
      refine ⟨_, ?_, hnx [HO.box 41 [.int .i64 ask, .int .i64 col, .int .i64 vk, .int .i64 vn, .str vs', .bool vt, .int .i64 (-1), .int .i64 (-1)]]⟩
      have v1 : IntKind.i64.wrap (0 - (xs.length : Int)) = -(xs.length : Int) := by rw [wrap64 _ (by omega) (by omega)]; omega
      have v1' : IntKind.i64.wrap (-(xs.length : Int)) = -(xs.length : Int) := wrap64 _ (by omega) (by omega)
      have v2 : IntKind.i64.wrap (-(xs.length : Int) - 1) = -(xs.length : Int) - 1 := wrap64 _ (by omega) (by omega)
      have v3 : IntKind.i64.wrap (-(xs.length : Int) - 1 + (xs.length : Int)) = -1 := by rw [wrap64 _ (by omega) (by omega)]; omega
      clear hnx
      simp only [N.d] at *
      unfold lp4_0
      (repeat (first | rw [s_assoc] | rw [s_seq_reg (by simp [evOps, evOp_n, evOp_r, evOp_d, evOp_dr, kpo_refl, kpo_app, cnd_some, cnd_pair, cnd_cnd_t, cnd_cnd_f, cnd_same, cnd_dvb, cnd_and, cnd_or, ↓evx_pick, gd_bool, gd_boolf, gd_tup, cnd_t, cnd_f, evTo, isCall, evx, put, lk, Od.v, keepEnv, enterEnv, ldx_ref, rdc, binx, binI, binS, unx, eqk, DV.isU, DV.cells, hget, hget0, hset, hset0, stx_ref, splice, DV.one, fillp, mat, eqcs, eqs, hi, w1, vM, hx, ldx_ref, ldx]; exact ⟨rfl, rfl⟩)] | rw [s_cnd (by simp [lk, keepEnv, Od.v, hi, w1, vM, hx, ldx_ref, ldx]; exact rfl)] | rw [cnd_t] | rw [cnd_f] | rw [s_skip] | rw [s_ret] | rw [s_exit] | rw [C_ret] | rw [C_exit] | rw [C_skip] | rw [blk_ret] | rw [blk_norm] | rw [blk_exit] | rw [blk_exit' (by decide)] | rw [blkT_ret] | rw [blkT_norm] | rw [blkT_exit] | rw [blkT_exit' (by decide)] | rw [s_blk] | rw [s_reg (by simp [evOps, evOp_n, evOp_r, evOp_d, evOp_dr, kpo_refl, kpo_app, cnd_some, cnd_pair, cnd_cnd_t, cnd_cnd_f, cnd_same, cnd_dvb, cnd_and, cnd_or, ↓evx_pick, gd_bool, gd_boolf, gd_tup, cnd_t, cnd_f, evTo, isCall, evx, put, lk, Od.v, keepEnv, enterEnv, ldx_ref, rdc, binx, binI, binS, unx, eqk, DV.isU, DV.cells, hget, hget0, hset, hset0, stx_ref, splice, DV.one, fillp, mat, eqcs, eqs, hi, w1, vM, hx, ldx_ref, ldx]; exact ⟨rfl, rfl⟩)] | rw [t_cnd (by simp [lk, keepEnv, Od.v, hi, w1, vM, hx, ldx_ref, ldx]; exact rfl)] | rw [t_blk]))
      (try simp only [keepEnv, List.map_cons, List.map_nil, lk, reduceIte, Nat.reduceEqDiff, Nat.zero_ne_one, Nat.one_ne_zero])
      rw [s_seq (rgS hbx), ok]
      (repeat (first | rw [s_assoc] | rw [s_seq_reg (by simp [evOps, evOp_n, evOp_r, evOp_d, evOp_dr, kpo_refl, kpo_app, cnd_some, cnd_pair, cnd_cnd_t, cnd_cnd_f, cnd_same, cnd_dvb, cnd_and, cnd_or, ↓evx_pick, gd_bool, gd_boolf, gd_tup, cnd_t, cnd_f, evTo, isCall, evx, put, lk, Od.v, keepEnv, enterEnv, ldx_ref, rdc, binx, binI, binS, unx, eqk, DV.isU, DV.cells, hget, hget0, hset, hset0, stx_ref, splice, DV.one, fillp, mat, eqcs, eqs, hi, w1, vM, vL, vR, aR, hx, hbx, ldx_ref, ldx, v1, v1', v2, v3, lo', nW, nN, nE, nS]; exact ⟨rfl, rfl⟩)] | rw [s_cnd (by simp [lk, keepEnv, Od.v, hi, w1, vM, vL, vR, aR, hx, hbx, ldx_ref, ldx, v1, v1', v2, v3, lo', nW, nN, nE, nS]; exact rfl)] | rw [cnd_t] | rw [cnd_f] | rw [s_skip] | rw [s_ret] | rw [s_exit] | rw [C_ret] | rw [C_exit] | rw [C_skip] | rw [blk_ret] | rw [blk_norm] | rw [blk_exit] | rw [blk_exit' (by decide)] | rw [blkT_ret] | rw [blkT_norm] | rw [blkT_exit] | rw [blkT_exit' (by decide)] | rw [s_blk] | rw [s_reg (by simp [evOps, evOp_n, evOp_r, evOp_d, evOp_dr, kpo_refl, kpo_app, cnd_some, cnd_pair, cnd_cnd_t, cnd_cnd_f, cnd_same, cnd_dvb, cnd_and, cnd_or, ↓evx_pick, gd_bool, gd_boolf, gd_tup, cnd_t, cnd_f, evTo, isCall, evx, put, lk, Od.v, keepEnv, enterEnv, ldx_ref, rdc, binx, binI, binS, unx, eqk, DV.isU, DV.cells, hget, hget0, hset, hset0, stx_ref, splice, DV.one, fillp, mat, eqcs, eqs, hi, w1, vM, vL, vR, aR, hx, hbx, ldx_ref, ldx, v1, v1', v2, v3, lo', nW, nN, nE, nS]; exact ⟨rfl, rfl⟩)] | rw [t_cnd (by simp [lk, keepEnv, Od.v, hi, w1, vM, vL, vR, aR, hx, hbx, ldx_ref, ldx, v1, v1', v2, v3, lo', nW, nN, nE, nS]; exact rfl)] | rw [t_blk]))
      simp [keepEnv, lk]
  · refine ⟨fun _ => ?_, fun hg => (by rw [ok] at hg; cases hg)⟩
    obtain ⟨oa, ob⟩ := Bool.and_eq_true_iff.1 ok
    rw [if_pos ⟨oa, ob⟩] at *
    refine ⟨_, ?_, hnx [HO.box 41 [.int .i64 ask, .int .i64 col, .int .i64 vk, .int .i64 vn, .str vs', .bool vt, .int .i64 (xa + xs.length), .int .i64 (xb + xs.length)]]⟩
    obtain ⟨a, rfl, ha⟩ := okA_ok oa
    obtain ⟨b, rfl, hb⟩ := okA_ok ob
    have v3 : IntKind.i64.wrap ((a : Int) + (xs.length : Int)) = (a : Int) + xs.length := wrap64 _ (by omega) (by omega)
    have v4 : IntKind.i64.wrap ((b : Int) + (xs.length : Int)) = (b : Int) + xs.length := wrap64 _ (by omega) (by omega)
    clear hnx
    simp only [N.d] at *
    unfold lp4_0
    (repeat (first | rw [s_assoc] | rw [s_seq_reg (by simp [evOps, evOp_n, evOp_r, evOp_d, evOp_dr, kpo_refl, kpo_app, cnd_some, cnd_pair, cnd_cnd_t, cnd_cnd_f, cnd_same, cnd_dvb, cnd_and, cnd_or, ↓evx_pick, gd_bool, gd_boolf, gd_tup, cnd_t, cnd_f, evTo, isCall, evx, put, lk, Od.v, keepEnv, enterEnv, ldx_ref, rdc, binx, binI, binS, unx, eqk, DV.isU, DV.cells, hget, hget0, hset, hset0, stx_ref, splice, DV.one, fillp, mat, eqcs, eqs, hi, w1, vM, hx, ldx_ref, ldx]; exact ⟨rfl, rfl⟩)] | rw [s_cnd (by simp [lk, keepEnv, Od.v, hi, w1, vM, hx, ldx_ref, ldx]; exact rfl)] | rw [cnd_t] | rw [cnd_f] | rw [s_skip] | rw [s_ret] | rw [s_exit] | rw [C_ret] | rw [C_exit] | rw [C_skip] | rw [blk_ret] | rw [blk_norm] | rw [blk_exit] | rw [blk_exit' (by decide)] | rw [blkT_ret] | rw [blkT_norm] | rw [blkT_exit] | rw [blkT_exit' (by decide)] | rw [s_blk] | rw [s_reg (by simp [evOps, evOp_n, evOp_r, evOp_d, evOp_dr, kpo_refl, kpo_app, cnd_some, cnd_pair, cnd_cnd_t, cnd_cnd_f, cnd_same, cnd_dvb, cnd_and, cnd_or, ↓evx_pick, gd_bool, gd_boolf, gd_tup, cnd_t, cnd_f, evTo, isCall, evx, put, lk, Od.v, keepEnv, enterEnv, ldx_ref, rdc, binx, binI, binS, unx, eqk, DV.isU, DV.cells, hget, hget0, hset, hset0, stx_ref, splice, DV.one, fillp, mat, eqcs, eqs, hi, w1, vM, hx, ldx_ref, ldx]; exact ⟨rfl, rfl⟩)] | rw [t_cnd (by simp [lk, keepEnv, Od.v, hi, w1, vM, hx, ldx_ref, ldx]; exact rfl)] | rw [t_blk]))
    (try simp only [keepEnv, List.map_cons, List.map_nil, lk, reduceIte, Nat.reduceEqDiff, Nat.zero_ne_one, Nat.one_ne_zero])
    rw [s_seq (rgS hbx), ok]
    (repeat (first | rw [s_assoc] | rw [s_seq_reg (by simp [evOps, evOp_n, evOp_r, evOp_d, evOp_dr, kpo_refl, kpo_app, cnd_some, cnd_pair, cnd_cnd_t, cnd_cnd_f, cnd_same, cnd_dvb, cnd_and, cnd_or, ↓evx_pick, gd_bool, gd_boolf, gd_tup, cnd_t, cnd_f, evTo, isCall, evx, put, lk, Od.v, keepEnv, enterEnv, ldx_ref, rdc, binx, binI, binS, unx, eqk, DV.isU, DV.cells, hget, hget0, hset, hset0, stx_ref, splice, DV.one, fillp, mat, eqcs, eqs, hi, w1, vM, vL, vR, aR, hx, hbx, ldx_ref, ldx, v3, v4, nW, nN, nE, nS]; exact ⟨rfl, rfl⟩)] | rw [s_cnd (by simp [lk, keepEnv, Od.v, hi, w1, vM, vL, vR, aR, hx, hbx, ldx_ref, ldx, v3, v4, nW, nN, nE, nS]; exact rfl)] | rw [cnd_t] | rw [cnd_f] | rw [s_skip] | rw [s_ret] | rw [s_exit] | rw [C_ret] | rw [C_exit] | rw [C_skip] | rw [blk_ret] | rw [blk_norm] | rw [blk_exit] | rw [blk_exit' (by decide)] | rw [blkT_ret] | rw [blkT_norm] | rw [blkT_exit] | rw [blkT_exit' (by decide)] | rw [s_blk] | rw [s_reg (by simp [evOps, evOp_n, evOp_r, evOp_d, evOp_dr, kpo_refl, kpo_app, cnd_some, cnd_pair, cnd_cnd_t, cnd_cnd_f, cnd_same, cnd_dvb, cnd_and, cnd_or, ↓evx_pick, gd_bool, gd_boolf, gd_tup, cnd_t, cnd_f, evTo, isCall, evx, put, lk, Od.v, keepEnv, enterEnv, ldx_ref, rdc, binx, binI, binS, unx, eqk, DV.isU, DV.cells, hget, hget0, hset, hset0, stx_ref, splice, DV.one, fillp, mat, eqcs, eqs, hi, w1, vM, vL, vR, aR, hx, hbx, ldx_ref, ldx, v3, v4, nW, nN, nE, nS]; exact ⟨rfl, rfl⟩)] | rw [t_cnd (by simp [lk, keepEnv, Od.v, hi, w1, vM, vL, vR, aR, hx, hbx, ldx_ref, ldx, v3, v4, nW, nN, nE, nS]; exact rfl)] | rw [t_blk]))
    simp [keepEnv, lk]
end Go.Proofs.YtfgnefnpfgdliaaDoor
namespace Go.Proofs.YtfgnefnpfgdliaaDoor
set_option linter.unusedVariables false
set_option linter.unusedSimpArgs false
set_option maxRecDepth 10000
theorem loop4 {L M A : DV} {xs ys : List N} (hL : ∀ h, vw h 8 L = some (xs.map N.d)) (hM : ∀ h, vw h 8 M = some (ys.map N.d)) (hx30 : xs.length ≤ 30) (hy30 : ys.length ≤ 30) :
    ∀ (m i g : Nat) (h : Heap), ys.length - i ≤ m → i ≤ ys.length → NAt h g (xs ++ shL xs.length 0 (ys.take i)) → goodL 0 (ys.take i) = true →
      (∃ h', C X (.loop lp4_0) [(0, L), (1, M), (2, A), (11, .row 0 g 0 (xs.length + i) false), (12, .int .i64 i)] h = some (.ret, [(6, .bool true)], h')) ∨
      (goodL 0 ys = true ∧ ∃ y ex h' g', C X (.loop lp4_0) [(0, L), (1, M), (2, A), (11, .row 0 g 0 (xs.length + i) false), (12, .int .i64 i)] h = some (.exit 0, (0, L) :: (1, M) :: (2, A) :: (11, .row 0 g' 0 (xs.length + ys.length) false) :: (12, y) :: ex, h') ∧ NAt h' g' (xs ++ shL xs.length 0 ys)) := by
  intro m
  induction m with
  | zero =>
    intro i g h hm hi hN hg
    obtain rfl : i = ys.length := by omega
    rw [List.take_length] at hN hg
    have hv := hM h
    refine .inr ⟨hg, .int .i64 ys.length, [(68, .bool false)], h, g, ?_, hN⟩
    rw [t_loop]
    unfold lp4_0
    (repeat (first | rw [s_assoc] | rw [s_seq_reg (by simp [evOps, evOp_n, evOp_r, evOp_d, evOp_dr, kpo_refl, kpo_app, cnd_some, cnd_pair, cnd_cnd_t, cnd_cnd_f, cnd_same, cnd_dvb, cnd_and, cnd_or, ↓evx_pick, gd_bool, gd_boolf, gd_tup, cnd_t, cnd_f, evTo, isCall, evx, put, lk, Od.v, keepEnv, enterEnv, ldx_ref, rdc, binx, binI, binS, unx, eqk, DV.isU, DV.cells, hget, hget0, hset, hset0, stx_ref, splice, DV.one, fillp, mat, eqcs, eqs, hv]; exact ⟨rfl, rfl⟩)] | rw [s_cnd (by simp [lk, keepEnv, Od.v, hv]; exact rfl)] | rw [cnd_t] | rw [cnd_f] | rw [s_skip] | rw [s_ret] | rw [s_exit] | rw [C_ret] | rw [C_exit] | rw [C_skip] | rw [blk_ret] | rw [blk_norm] | rw [blk_exit] | rw [blk_exit' (by decide)] | rw [blkT_ret] | rw [blkT_norm] | rw [blkT_exit] | rw [blkT_exit' (by decide)] | rw [s_blk] | rw [s_reg (by simp [evOps, evOp_n, evOp_r, evOp_d, evOp_dr, kpo_refl, kpo_app, cnd_some, cnd_pair, cnd_cnd_t, cnd_cnd_f, cnd_same, cnd_dvb, cnd_and, cnd_or, ↓evx_pick, gd_bool, gd_boolf, gd_tup, cnd_t, cnd_f, evTo, isCall, evx, put, lk, Od.v, keepEnv, enterEnv, ldx_ref, rdc, binx, binI, binS, unx, eqk, DV.isU, DV.cells, hget, hget0, hset, hset0, stx_ref, splice, DV.one, fillp, mat, eqcs, eqs, hv]; exact ⟨rfl, rfl⟩)] | rw [t_cnd (by simp [lk, keepEnv, Od.v, hv]; exact rfl)] | rw [t_blk]))
    rw [lp_exit]
    simp [keepEnv, lk]
  | succ m ih =>
    intro i g h hm hi hN hg
    by_cases c1 : i < ys.length
    · obtain ⟨I, hI⟩ : ∃ I, I = i + 1 := ⟨_, rfl⟩
      have ht : ys.take I = ys.take i ++ [ys[i]] := by rw [hI, List.take_add_one, List.getElem?_eq_getElem c1]; rfl
      have htl : (ys.take i).length = i := by rw [List.length_take]; omega
      have hzl : (xs ++ shL xs.length 0 (ys.take i)).length = xs.length + i := by rw [List.length_append, shL_len, htl]
      have hs := step4 (A := A) hL hM hx30 hy30 (by rw [hzl]; omega) hN c1 hI rfl
      rw [hzl] at hs
      rw [t_loop]
      cases hgn : goodN i ys[i] with
      | false =>
        obtain ⟨h', hc⟩ := hs.2 hgn
        rw [hc, lp_ret]
        exact .inl ⟨h', rfl⟩
      | true =>
        obtain ⟨h', hc, hN'⟩ := hs.1 hgn
        have e1 : xs ++ shL xs.length 0 (ys.take I) = xs ++ shL xs.length 0 (ys.take i) ++ [shN xs.length i ys[i]] := by
          rw [ht, shL_snoc, htl, Nat.zero_add, List.append_assoc]
        have e2 : goodL 0 (ys.take I) = true := by rw [ht, goodL_snoc, hg, htl, Nat.zero_add, hgn]; rfl
        rw [← e1] at hN'
        rw [hc, lp_norm, show xs.length + i + 1 = xs.length + I by omega]
        exact ih I (g + 1) h' (by omega) (by omega) hN' e2
    · exact ih i g h (by omega) hi hN hg
theorem WL.one {W : DV} {ws : List Nat} (h : WL W ws) : W.one = true := by
  rcases h with rfl | ⟨rfl, _⟩ <;> rfl
theorem appA (P G : Heap) (Z : List DV) (hne : Z ≠ []) (hb : Z.length ≤ 1000000) : appx (P ++ G) 41 8 72 .nils [] Z = some (.row (P.length + G.length) 0 0 Z.length false, P ++ (G ++ [.row 41 8 0 Z])) := by
  have q2 : (([] : List DV).length + Z.length) * 72 ≤ 140737488355328 := by simp; omega
  simp only [appx, if_neg hne, if_pos q2]
  simp
theorem appB (P G : Heap) (Z : List DV) (z : DV) (hb : Z.length ≤ 1000000) : appx (P ++ (G ++ [.row 41 8 0 Z])) 41 8 72 (.row (P.length + G.length) 0 0 Z.length false) Z [z] = some (.row (P.length + G.length) 1 0 (Z.length + 1) false, P ++ (G ++ [.row 41 8 1 (Z ++ [z])])) := by
  have q2 : (Z.length + [z].length) * 72 ≤ 140737488355328 := by simp; omega
  have q3 : (P ++ (G ++ [HO.row 41 8 0 Z]))[P.length + G.length]? = some (.row 41 8 0 Z) := by
    rw [hget, hget0]; rfl
  simp only [appx, if_neg (show [z] ≠ [] by simp), if_pos q2, q3]
  simp only [List.length_singleton, and_self, if_true]
  rw [hset, hset0]; rfl
theorem vwB (P G : Heap) (g : Nat) (Z : List DV) : vw (P ++ (G ++ [.row 41 8 g Z])) 8 (.row (P.length + G.length) g 0 Z.length false) = some Z := by
  have q3 : (P ++ (G ++ [HO.row 41 8 g Z]))[P.length + G.length]? = some (.row 41 8 g Z) := by
    rw [hget, hget0]; rfl
  simp [vw, q3, List.take_of_length_le]
set_option maxHeartbeats 8000000 in
theorem run4 {L M A : DV} {xs ys : List N} {ds : List DV} {rs : List (List V)} (hL : ∀ h, vw h 8 L = some (xs.map N.d)) (hM : ∀ h, vw h 8 M = some (ys.map N.d)) (hLs : ∀ h, srcOf h 8 L = some (xs.map N.d)) (hA : ∀ h, vw h 1 A = some ds) (hd : RowsL ds rs) : E X 4 [L, M, A] [] = some (.bool true, []) := by
  have e9 := run9 []
  have e10 := run10 (hL [])
  have e10' := run10 (hM [])
  have e11 := run11 (hA []) hd
  have v0 := hL []
  have v1 := hM []
  cases hf : fewN xs
  · rw [hf] at e10
    generalize lightR rs = lr at *
    generalize fewN ys = fy at *
    rw [E_go (X := X) _ b4 _ rfl rfl]; unfold b4; (repeat (first | rw [s_assoc] | rw [s_seq_reg (by simp [evOps, evOp_n, evOp_r, evOp_d, evOp_dr, kpo_refl, kpo_app, cnd_some, cnd_pair, cnd_cnd_t, cnd_cnd_f, cnd_same, cnd_dvb, cnd_and, cnd_or, ↓evx_pick, gd_bool, gd_boolf, gd_tup, cnd_t, cnd_f, evTo, isCall, evx, put, lk, Od.v, keepEnv, enterEnv, ldx_ref, rdc, binx, binI, binS, unx, eqk, DV.isU, DV.cells, hget, hget0, hset, hset0, stx_ref, splice, DV.one, fillp, mat, eqcs, eqs, e9, e10, e10', e11]; exact ⟨rfl, rfl⟩)] | rw [s_cnd (by simp [lk, keepEnv, Od.v, e9, e10, e10', e11]; exact rfl)] | rw [cnd_t] | rw [cnd_f] | rw [s_skip] | rw [s_ret] | rw [s_exit] | rw [C_ret] | rw [C_exit] | rw [C_skip] | rw [blk_ret] | rw [blk_norm] | rw [blk_exit] | rw [blk_exit' (by decide)] | rw [blkT_ret] | rw [blkT_norm] | rw [blkT_exit] | rw [blkT_exit' (by decide)] | rw [s_blk] | rw [s_reg (by simp [evOps, evOp_n, evOp_r, evOp_d, evOp_dr, kpo_refl, kpo_app, cnd_some, cnd_pair, cnd_cnd_t, cnd_cnd_f, cnd_same, cnd_dvb, cnd_and, cnd_or, ↓evx_pick, gd_bool, gd_boolf, gd_tup, cnd_t, cnd_f, evTo, isCall, evx, put, lk, Od.v, keepEnv, enterEnv, ldx_ref, rdc, binx, binI, binS, unx, eqk, DV.isU, DV.cells, hget, hget0, hset, hset0, stx_ref, splice, DV.one, fillp, mat, eqcs, eqs, e9, e10, e10', e11]; exact ⟨rfl, rfl⟩)] | rw [t_cnd (by simp [lk, keepEnv, Od.v, e9, e10, e10', e11]; exact rfl)] | rw [t_blk])); simp [ends_ret, ends_norm, resL, evOps, evOp_n, evOp_r, evOp_d, evOp_dr, kpo_refl, kpo_app, cnd_some, cnd_pair, cnd_cnd_t, cnd_cnd_f, cnd_same, cnd_dvb, cnd_and, cnd_or, ↓evx_pick, gd_bool, gd_boolf, gd_tup, cnd_t, cnd_f, evTo, isCall, evx, put, lk, Od.v, keepEnv, enterEnv, ldx_ref, rdc, binx, binI, binS, unx, eqk, DV.isU, DV.cells, hget, hget0, hset, hset0, stx_ref, splice, DV.one, fillp, mat, eqcs, eqs, fin, fz0, fz1, fzT, fzL, nlt, e9, e10, e10', e11]
  cases hf' : fewN ys
  · rw [hf] at e10
    rw [hf'] at e10'
    generalize lightR rs = lr at *
    rw [E_go (X := X) _ b4 _ rfl rfl]; unfold b4; (repeat (first | rw [s_assoc] | rw [s_seq_reg (by simp [evOps, evOp_n, evOp_r, evOp_d, evOp_dr, kpo_refl, kpo_app, cnd_some, cnd_pair, cnd_cnd_t, cnd_cnd_f, cnd_same, cnd_dvb, cnd_and, cnd_or, ↓evx_pick, gd_bool, gd_boolf, gd_tup, cnd_t, cnd_f, evTo, isCall, evx, put, lk, Od.v, keepEnv, enterEnv, ldx_ref, rdc, binx, binI, binS, unx, eqk, DV.isU, DV.cells, hget, hget0, hset, hset0, stx_ref, splice, DV.one, fillp, mat, eqcs, eqs, e9, e10, e10', e11]; exact ⟨rfl, rfl⟩)] | rw [s_cnd (by simp [lk, keepEnv, Od.v, e9, e10, e10', e11]; exact rfl)] | rw [cnd_t] | rw [cnd_f] | rw [s_skip] | rw [s_ret] | rw [s_exit] | rw [C_ret] | rw [C_exit] | rw [C_skip] | rw [blk_ret] | rw [blk_norm] | rw [blk_exit] | rw [blk_exit' (by decide)] | rw [blkT_ret] | rw [blkT_norm] | rw [blkT_exit] | rw [blkT_exit' (by decide)] | rw [s_blk] | rw [s_reg (by simp [evOps, evOp_n, evOp_r, evOp_d, evOp_dr, kpo_refl, kpo_app, cnd_some, cnd_pair, cnd_cnd_t, cnd_cnd_f, cnd_same, cnd_dvb, cnd_and, cnd_or, ↓evx_pick, gd_bool, gd_boolf, gd_tup, cnd_t, cnd_f, evTo, isCall, evx, put, lk, Od.v, keepEnv, enterEnv, ldx_ref, rdc, binx, binI, binS, unx, eqk, DV.isU, DV.cells, hget, hget0, hset, hset0, stx_ref, splice, DV.one, fillp, mat, eqcs, eqs, e9, e10, e10', e11]; exact ⟨rfl, rfl⟩)] | rw [t_cnd (by simp [lk, keepEnv, Od.v, e9, e10, e10', e11]; exact rfl)] | rw [t_blk])); simp [ends_ret, ends_norm, resL, evOps, evOp_n, evOp_r, evOp_d, evOp_dr, kpo_refl, kpo_app, cnd_some, cnd_pair, cnd_cnd_t, cnd_cnd_f, cnd_same, cnd_dvb, cnd_and, cnd_or, ↓evx_pick, gd_bool, gd_boolf, gd_tup, cnd_t, cnd_f, evTo, isCall, evx, put, lk, Od.v, keepEnv, enterEnv, ldx_ref, rdc, binx, binI, binS, unx, eqk, DV.isU, DV.cells, hget, hget0, hset, hset0, stx_ref, splice, DV.one, fillp, mat, eqcs, eqs, fin, fz0, fz1, fzT, fzL, nlt, e9, e10, e10', e11]
  cases hl : lightR rs
  · rw [hf] at e10
    rw [hf'] at e10'
    rw [hl] at e11
    rw [E_go (X := X) _ b4 _ rfl rfl]; unfold b4; (repeat (first | rw [s_assoc] | rw [s_seq_reg (by simp [evOps, evOp_n, evOp_r, evOp_d, evOp_dr, kpo_refl, kpo_app, cnd_some, cnd_pair, cnd_cnd_t, cnd_cnd_f, cnd_same, cnd_dvb, cnd_and, cnd_or, ↓evx_pick, gd_bool, gd_boolf, gd_tup, cnd_t, cnd_f, evTo, isCall, evx, put, lk, Od.v, keepEnv, enterEnv, ldx_ref, rdc, binx, binI, binS, unx, eqk, DV.isU, DV.cells, hget, hget0, hset, hset0, stx_ref, splice, DV.one, fillp, mat, eqcs, eqs, e9, e10, e10', e11]; exact ⟨rfl, rfl⟩)] | rw [s_cnd (by simp [lk, keepEnv, Od.v, e9, e10, e10', e11]; exact rfl)] | rw [cnd_t] | rw [cnd_f] | rw [s_skip] | rw [s_ret] | rw [s_exit] | rw [C_ret] | rw [C_exit] | rw [C_skip] | rw [blk_ret] | rw [blk_norm] | rw [blk_exit] | rw [blk_exit' (by decide)] | rw [blkT_ret] | rw [blkT_norm] | rw [blkT_exit] | rw [blkT_exit' (by decide)] | rw [s_blk] | rw [s_reg (by simp [evOps, evOp_n, evOp_r, evOp_d, evOp_dr, kpo_refl, kpo_app, cnd_some, cnd_pair, cnd_cnd_t, cnd_cnd_f, cnd_same, cnd_dvb, cnd_and, cnd_or, ↓evx_pick, gd_bool, gd_boolf, gd_tup, cnd_t, cnd_f, evTo, isCall, evx, put, lk, Od.v, keepEnv, enterEnv, ldx_ref, rdc, binx, binI, binS, unx, eqk, DV.isU, DV.cells, hget, hget0, hset, hset0, stx_ref, splice, DV.one, fillp, mat, eqcs, eqs, e9, e10, e10', e11]; exact ⟨rfl, rfl⟩)] | rw [t_cnd (by simp [lk, keepEnv, Od.v, e9, e10, e10', e11]; exact rfl)] | rw [t_blk])); simp [ends_ret, ends_norm, resL, evOps, evOp_n, evOp_r, evOp_d, evOp_dr, kpo_refl, kpo_app, cnd_some, cnd_pair, cnd_cnd_t, cnd_cnd_f, cnd_same, cnd_dvb, cnd_and, cnd_or, ↓evx_pick, gd_bool, gd_boolf, gd_tup, cnd_t, cnd_f, evTo, isCall, evx, put, lk, Od.v, keepEnv, enterEnv, ldx_ref, rdc, binx, binI, binS, unx, eqk, DV.isU, DV.cells, hget, hget0, hset, hset0, stx_ref, splice, DV.one, fillp, mat, eqcs, eqs, fin, fz0, fz1, fzT, fzL, nlt, e9, e10, e10', e11]
  rw [hf] at e10
  rw [hf'] at e10'
  rw [hl] at e11
  by_cases k1 : (xs.length : Int) < 1
  · rw [E_go (X := X) _ b4 _ rfl rfl]; unfold b4; (repeat (first | rw [s_assoc] | rw [s_seq_reg (by simp [evOps, evOp_n, evOp_r, evOp_d, evOp_dr, kpo_refl, kpo_app, cnd_some, cnd_pair, cnd_cnd_t, cnd_cnd_f, cnd_same, cnd_dvb, cnd_and, cnd_or, ↓evx_pick, gd_bool, gd_boolf, gd_tup, cnd_t, cnd_f, evTo, isCall, evx, put, lk, Od.v, keepEnv, enterEnv, ldx_ref, rdc, binx, binI, binS, unx, eqk, DV.isU, DV.cells, hget, hget0, hset, hset0, stx_ref, splice, DV.one, fillp, mat, eqcs, eqs, e9, e10, e10', e11, v0, v1, k1]; exact ⟨rfl, rfl⟩)] | rw [s_cnd (by simp [lk, keepEnv, Od.v, e9, e10, e10', e11, v0, v1, k1]; exact rfl)] | rw [cnd_t] | rw [cnd_f] | rw [s_skip] | rw [s_ret] | rw [s_exit] | rw [C_ret] | rw [C_exit] | rw [C_skip] | rw [blk_ret] | rw [blk_norm] | rw [blk_exit] | rw [blk_exit' (by decide)] | rw [blkT_ret] | rw [blkT_norm] | rw [blkT_exit] | rw [blkT_exit' (by decide)] | rw [s_blk] | rw [s_reg (by simp [evOps, evOp_n, evOp_r, evOp_d, evOp_dr, kpo_refl, kpo_app, cnd_some, cnd_pair, cnd_cnd_t, cnd_cnd_f, cnd_same, cnd_dvb, cnd_and, cnd_or, ↓evx_pick, gd_bool, gd_boolf, gd_tup, cnd_t, cnd_f, evTo, isCall, evx, put, lk, Od.v, keepEnv, enterEnv, ldx_ref, rdc, binx, binI, binS, unx, eqk, DV.isU, DV.cells, hget, hget0, hset, hset0, stx_ref, splice, DV.one, fillp, mat, eqcs, eqs, e9, e10, e10', e11, v0, v1, k1]; exact ⟨rfl, rfl⟩)] | rw [t_cnd (by simp [lk, keepEnv, Od.v, e9, e10, e10', e11, v0, v1, k1]; exact rfl)] | rw [t_blk])); simp [ends_ret, ends_norm, resL, evOps, evOp_n, evOp_r, evOp_d, evOp_dr, kpo_refl, kpo_app, cnd_some, cnd_pair, cnd_cnd_t, cnd_cnd_f, cnd_same, cnd_dvb, cnd_and, cnd_or, ↓evx_pick, gd_bool, gd_boolf, gd_tup, cnd_t, cnd_f, evTo, isCall, evx, put, lk, Od.v, keepEnv, enterEnv, ldx_ref, rdc, binx, binI, binS, unx, eqk, DV.isU, DV.cells, hget, hget0, hset, hset0, stx_ref, splice, DV.one, fillp, mat, eqcs, eqs, fin, fz0, fz1, fzT, fzL, nlt, e9, e10, e10', e11, v0, v1, k1]
  by_cases k2 : (ys.length : Int) < 1
  · rw [E_go (X := X) _ b4 _ rfl rfl]; unfold b4; (repeat (first | rw [s_assoc] | rw [s_seq_reg (by simp [evOps, evOp_n, evOp_r, evOp_d, evOp_dr, kpo_refl, kpo_app, cnd_some, cnd_pair, cnd_cnd_t, cnd_cnd_f, cnd_same, cnd_dvb, cnd_and, cnd_or, ↓evx_pick, gd_bool, gd_boolf, gd_tup, cnd_t, cnd_f, evTo, isCall, evx, put, lk, Od.v, keepEnv, enterEnv, ldx_ref, rdc, binx, binI, binS, unx, eqk, DV.isU, DV.cells, hget, hget0, hset, hset0, stx_ref, splice, DV.one, fillp, mat, eqcs, eqs, e9, e10, e10', e11, v0, v1, k1, k2]; exact ⟨rfl, rfl⟩)] | rw [s_cnd (by simp [lk, keepEnv, Od.v, e9, e10, e10', e11, v0, v1, k1, k2]; exact rfl)] | rw [cnd_t] | rw [cnd_f] | rw [s_skip] | rw [s_ret] | rw [s_exit] | rw [C_ret] | rw [C_exit] | rw [C_skip] | rw [blk_ret] | rw [blk_norm] | rw [blk_exit] | rw [blk_exit' (by decide)] | rw [blkT_ret] | rw [blkT_norm] | rw [blkT_exit] | rw [blkT_exit' (by decide)] | rw [s_blk] | rw [s_reg (by simp [evOps, evOp_n, evOp_r, evOp_d, evOp_dr, kpo_refl, kpo_app, cnd_some, cnd_pair, cnd_cnd_t, cnd_cnd_f, cnd_same, cnd_dvb, cnd_and, cnd_or, ↓evx_pick, gd_bool, gd_boolf, gd_tup, cnd_t, cnd_f, evTo, isCall, evx, put, lk, Od.v, keepEnv, enterEnv, ldx_ref, rdc, binx, binI, binS, unx, eqk, DV.isU, DV.cells, hget, hget0, hset, hset0, stx_ref, splice, DV.one, fillp, mat, eqcs, eqs, e9, e10, e10', e11, v0, v1, k1, k2]; exact ⟨rfl, rfl⟩)] | rw [t_cnd (by simp [lk, keepEnv, Od.v, e9, e10, e10', e11, v0, v1, k1, k2]; exact rfl)] | rw [t_blk])); simp [ends_ret, ends_norm, resL, evOps, evOp_n, evOp_r, evOp_d, evOp_dr, kpo_refl, kpo_app, cnd_some, cnd_pair, cnd_cnd_t, cnd_cnd_f, cnd_same, cnd_dvb, cnd_and, cnd_or, ↓evx_pick, gd_bool, gd_boolf, gd_tup, cnd_t, cnd_f, evTo, isCall, evx, put, lk, Od.v, keepEnv, enterEnv, ldx_ref, rdc, binx, binI, binS, unx, eqk, DV.isU, DV.cells, hget, hget0, hset, hset0, stx_ref, splice, DV.one, fillp, mat, eqcs, eqs, fin, fz0, fz1, fzT, fzL, nlt, e9, e10, e10', e11, v0, v1, k1, k2]
  by_cases k3 : (30 : Int) < xs.length
  · rw [E_go (X := X) _ b4 _ rfl rfl]; unfold b4; (repeat (first | rw [s_assoc] | rw [s_seq_reg (by simp [evOps, evOp_n, evOp_r, evOp_d, evOp_dr, kpo_refl, kpo_app, cnd_some, cnd_pair, cnd_cnd_t, cnd_cnd_f, cnd_same, cnd_dvb, cnd_and, cnd_or, ↓evx_pick, gd_bool, gd_boolf, gd_tup, cnd_t, cnd_f, evTo, isCall, evx, put, lk, Od.v, keepEnv, enterEnv, ldx_ref, rdc, binx, binI, binS, unx, eqk, DV.isU, DV.cells, hget, hget0, hset, hset0, stx_ref, splice, DV.one, fillp, mat, eqcs, eqs, e9, e10, e10', e11, v0, v1, k1, k2, k3]; exact ⟨rfl, rfl⟩)] | rw [s_cnd (by simp [lk, keepEnv, Od.v, e9, e10, e10', e11, v0, v1, k1, k2, k3]; exact rfl)] | rw [cnd_t] | rw [cnd_f] | rw [s_skip] | rw [s_ret] | rw [s_exit] | rw [C_ret] | rw [C_exit] | rw [C_skip] | rw [blk_ret] | rw [blk_norm] | rw [blk_exit] | rw [blk_exit' (by decide)] | rw [blkT_ret] | rw [blkT_norm] | rw [blkT_exit] | rw [blkT_exit' (by decide)] | rw [s_blk] | rw [s_reg (by simp [evOps, evOp_n, evOp_r, evOp_d, evOp_dr, kpo_refl, kpo_app, cnd_some, cnd_pair, cnd_cnd_t, cnd_cnd_f, cnd_same, cnd_dvb, cnd_and, cnd_or, ↓evx_pick, gd_bool, gd_boolf, gd_tup, cnd_t, cnd_f, evTo, isCall, evx, put, lk, Od.v, keepEnv, enterEnv, ldx_ref, rdc, binx, binI, binS, unx, eqk, DV.isU, DV.cells, hget, hget0, hset, hset0, stx_ref, splice, DV.one, fillp, mat, eqcs, eqs, e9, e10, e10', e11, v0, v1, k1, k2, k3]; exact ⟨rfl, rfl⟩)] | rw [t_cnd (by simp [lk, keepEnv, Od.v, e9, e10, e10', e11, v0, v1, k1, k2, k3]; exact rfl)] | rw [t_blk])); simp [ends_ret, ends_norm, resL, evOps, evOp_n, evOp_r, evOp_d, evOp_dr, kpo_refl, kpo_app, cnd_some, cnd_pair, cnd_cnd_t, cnd_cnd_f, cnd_same, cnd_dvb, cnd_and, cnd_or, ↓evx_pick, gd_bool, gd_boolf, gd_tup, cnd_t, cnd_f, evTo, isCall, evx, put, lk, Od.v, keepEnv, enterEnv, ldx_ref, rdc, binx, binI, binS, unx, eqk, DV.isU, DV.cells, hget, hget0, hset, hset0, stx_ref, splice, DV.one, fillp, mat, eqcs, eqs, fin, fz0, fz1, fzT, fzL, nlt, e9, e10, e10', e11, v0, v1, k1, k2, k3]
  by_cases k4 : (30 : Int) < ys.length
  · rw [E_go (X := X) _ b4 _ rfl rfl]; unfold b4; (repeat (first | rw [s_assoc] | rw [s_seq_reg (by simp [evOps, evOp_n, evOp_r, evOp_d, evOp_dr, kpo_refl, kpo_app, cnd_some, cnd_pair, cnd_cnd_t, cnd_cnd_f, cnd_same, cnd_dvb, cnd_and, cnd_or, ↓evx_pick, gd_bool, gd_boolf, gd_tup, cnd_t, cnd_f, evTo, isCall, evx, put, lk, Od.v, keepEnv, enterEnv, ldx_ref, rdc, binx, binI, binS, unx, eqk, DV.isU, DV.cells, hget, hget0, hset, hset0, stx_ref, splice, DV.one, fillp, mat, eqcs, eqs, e9, e10, e10', e11, v0, v1, k1, k2, k3, k4]; exact ⟨rfl, rfl⟩)] | rw [s_cnd (by simp [lk, keepEnv, Od.v, e9, e10, e10', e11, v0, v1, k1, k2, k3, k4]; exact rfl)] | rw [cnd_t] | rw [cnd_f] | rw [s_skip] | rw [s_ret] | rw [s_exit] | rw [C_ret] | rw [C_exit] | rw [C_skip] | rw [blk_ret] | rw [blk_norm] | rw [blk_exit] | rw [blk_exit' (by decide)] | rw [blkT_ret] | rw [blkT_norm] | rw [blkT_exit] | rw [blkT_exit' (by decide)] | rw [s_blk] | rw [s_reg (by simp [evOps, evOp_n, evOp_r, evOp_d, evOp_dr, kpo_refl, kpo_app, cnd_some, cnd_pair, cnd_cnd_t, cnd_cnd_f, cnd_same, cnd_dvb, cnd_and, cnd_or, ↓evx_pick, gd_bool, gd_boolf, gd_tup, cnd_t, cnd_f, evTo, isCall, evx, put, lk, Od.v, keepEnv, enterEnv, ldx_ref, rdc, binx, binI, binS, unx, eqk, DV.isU, DV.cells, hget, hget0, hset, hset0, stx_ref, splice, DV.one, fillp, mat, eqcs, eqs, e9, e10, e10', e11, v0, v1, k1, k2, k3, k4]; exact ⟨rfl, rfl⟩)] | rw [t_cnd (by simp [lk, keepEnv, Od.v, e9, e10, e10', e11, v0, v1, k1, k2, k3, k4]; exact rfl)] | rw [t_blk])); simp [ends_ret, ends_norm, resL, evOps, evOp_n, evOp_r, evOp_d, evOp_dr, kpo_refl, kpo_app, cnd_some, cnd_pair, cnd_cnd_t, cnd_cnd_f, cnd_same, cnd_dvb, cnd_and, cnd_or, ↓evx_pick, gd_bool, gd_boolf, gd_tup, cnd_t, cnd_f, evTo, isCall, evx, put, lk, Od.v, keepEnv, enterEnv, ldx_ref, rdc, binx, binI, binS, unx, eqk, DV.isU, DV.cells, hget, hget0, hset, hset0, stx_ref, splice, DV.one, fillp, mat, eqcs, eqs, fin, fz0, fz1, fzT, fzL, nlt, e9, e10, e10', e11, v0, v1, k1, k2, k3, k4]
  have hr : rs.length ≤ 60 := by simp [lightR] at hl; exact hl.1
  have hx0 : 0 < xs.length := by omega
  have hy0 : 0 < ys.length := by omega
  have hx30 : xs.length ≤ 30 := by omega
  have hy30 : ys.length ≤ 30 := by omega
  have a1 : appx [] 41 8 72 .nils [] (xs.map N.d) = some (.row 0 0 0 xs.length false, [.row 41 8 0 (xs.map N.d)]) := by
    have q1 : xs.map N.d ≠ [] := by intro h; rw [List.map_eq_nil_iff] at h; rw [h] at hx0; simp at hx0
    have q2 : (([] : List DV).length + (xs.map N.d).length) * 72 ≤ 140737488355328 := by simp; omega
    simp only [appx, if_neg q1, if_pos q2]
    simp
  have n1 : ∀ h, vw h 8 .nils = some [] := fun _ => rfl
  have s1 := hLs []
  have hlp := loop4 (A := A) hL hM hx30 hy30 ys.length 0 0 [.row 41 8 0 (xs.map N.d)] (by omega) (by omega) (by simp [NAt, shL]) (by simp [goodL])
  rw [show ((0 : Nat) : Int) = 0 from rfl, Nat.add_zero] at hlp
  unfold lp4_0 at hlp
  have hl1 : (xs.map N.d).length = xs.length := by simp
  rw [E_go (X := X) _ b4 _ rfl rfl]; unfold b4
  (repeat (first | rw [s_assoc] | rw [s_seq_reg (by simp [evOps, evOp_n, evOp_r, evOp_d, evOp_dr, kpo_refl, kpo_app, cnd_some, cnd_pair, cnd_cnd_t, cnd_cnd_f, cnd_same, cnd_dvb, cnd_and, cnd_or, ↓evx_pick, gd_bool, gd_boolf, gd_tup, cnd_t, cnd_f, evTo, isCall, evx, put, lk, Od.v, keepEnv, enterEnv, ldx_ref, rdc, binx, binI, binS, unx, eqk, DV.isU, DV.cells, hget, hget0, hset, hset0, stx_ref, splice, DV.one, fillp, mat, eqcs, eqs, e9, e10, e10', e11, v0, v1, k1, k2, k3, k4, a1, n1, s1]; exact ⟨rfl, rfl⟩)] | rw [s_cnd (by simp [lk, keepEnv, Od.v, e9, e10, e10', e11, v0, v1, k1, k2, k3, k4, a1, n1, s1]; exact rfl)] | rw [cnd_t] | rw [cnd_f] | rw [s_skip] | rw [s_ret] | rw [s_exit] | rw [C_ret] | rw [C_exit] | rw [C_skip] | rw [blk_ret] | rw [blk_norm] | rw [blk_exit] | rw [blk_exit' (by decide)] | rw [blkT_ret] | rw [blkT_norm] | rw [blkT_exit] | rw [blkT_exit' (by decide)] | rw [s_blk] | rw [s_reg (by simp [evOps, evOp_n, evOp_r, evOp_d, evOp_dr, kpo_refl, kpo_app, cnd_some, cnd_pair, cnd_cnd_t, cnd_cnd_f, cnd_same, cnd_dvb, cnd_and, cnd_or, ↓evx_pick, gd_bool, gd_boolf, gd_tup, cnd_t, cnd_f, evTo, isCall, evx, put, lk, Od.v, keepEnv, enterEnv, ldx_ref, rdc, binx, binI, binS, unx, eqk, DV.isU, DV.cells, hget, hget0, hset, hset0, stx_ref, splice, DV.one, fillp, mat, eqcs, eqs, e9, e10, e10', e11, v0, v1, k1, k2, k3, k4, a1, n1, s1]; exact ⟨rfl, rfl⟩)] | rw [t_cnd (by simp [lk, keepEnv, Od.v, e9, e10, e10', e11, v0, v1, k1, k2, k3, k4, a1, n1, s1]; exact rfl)] | rw [t_blk]))
  (try simp only [keepEnv, List.map_cons, List.map_nil, lk, reduceIte, Nat.reduceEqDiff, Nat.zero_ne_one, Nat.one_ne_zero])
  rcases hlp with ⟨h', hc⟩ | ⟨hgood, y, ex, P, g, hc, hN⟩
  · rw [hc]
    (repeat (first | rw [s_assoc] | rw [s_seq_reg (by simp [evOps, evOp_n, evOp_r, evOp_d, evOp_dr, kpo_refl, kpo_app, cnd_some, cnd_pair, cnd_cnd_t, cnd_cnd_f, cnd_same, cnd_dvb, cnd_and, cnd_or, ↓evx_pick, gd_bool, gd_boolf, gd_tup, cnd_t, cnd_f, evTo, isCall, evx, put, lk, Od.v, keepEnv, enterEnv, ldx_ref, rdc, binx, binI, binS, unx, eqk, DV.isU, DV.cells, hget, hget0, hset, hset0, stx_ref, splice, DV.one, fillp, mat, eqcs, eqs]; exact ⟨rfl, rfl⟩)] | rw [s_cnd (by simp [lk, keepEnv, Od.v]; exact rfl)] | rw [cnd_t] | rw [cnd_f] | rw [s_skip] | rw [s_ret] | rw [s_exit] | rw [C_ret] | rw [C_exit] | rw [C_skip] | rw [blk_ret] | rw [blk_norm] | rw [blk_exit] | rw [blk_exit' (by decide)] | rw [blkT_ret] | rw [blkT_norm] | rw [blkT_exit] | rw [blkT_exit' (by decide)] | rw [s_blk] | rw [s_reg (by simp [evOps, evOp_n, evOp_r, evOp_d, evOp_dr, kpo_refl, kpo_app, cnd_some, cnd_pair, cnd_cnd_t, cnd_cnd_f, cnd_same, cnd_dvb, cnd_and, cnd_or, ↓evx_pick, gd_bool, gd_boolf, gd_tup, cnd_t, cnd_f, evTo, isCall, evx, put, lk, Od.v, keepEnv, enterEnv, ldx_ref, rdc, binx, binI, binS, unx, eqk, DV.isU, DV.cells, hget, hget0, hset, hset0, stx_ref, splice, DV.one, fillp, mat, eqcs, eqs]; exact ⟨rfl, rfl⟩)] | rw [t_cnd (by simp [lk, keepEnv, Od.v]; exact rfl)] | rw [t_blk]))
    simp [ends_ret, ends_norm, resL, evOps, evOp_n, evOp_r, evOp_d, evOp_dr, kpo_refl, kpo_app, cnd_some, cnd_pair, cnd_cnd_t, cnd_cnd_f, cnd_same, cnd_dvb, cnd_and, cnd_or, ↓evx_pick, gd_bool, gd_boolf, gd_tup, cnd_t, cnd_f, evTo, isCall, evx, put, lk, Od.v, keepEnv, enterEnv, ldx_ref, rdc, binx, binI, binS, unx, eqk, DV.isU, DV.cells, hget, hget0, hset, hset0, stx_ref, splice, DV.one, fillp, mat, eqcs, eqs, fin, fz0, fz1, fzT, fzL, nlt]
  rw [hc]
  clear hc e9 e10 e10' e11 a1 s1 hl1
  have hzl : (xs ++ shL xs.length 0 ys).length = xs.length + ys.length := by rw [List.length_append, shL_len]
  obtain ⟨zs, hzs⟩ : ∃ zs, zs = xs ++ shL xs.length 0 ys := ⟨_, rfl⟩
  rw [← hzs] at hN hzl
  obtain ⟨a0, ha0⟩ : ∃ a0 : Int, a0 = ((xs.length - 1 : Nat) : Int) := ⟨_, rfl⟩
  obtain ⟨b0, hb0⟩ : ∃ b0 : Int, b0 = ((xs.length + ys.length - 1 : Nat) : Int) := ⟨_, rfl⟩
  have u1 : IntKind.i64.wrap ((xs.length : Int) - 1) = a0 := by rw [ha0]; exact (by rw [wrap64 _ (by omega) (by omega)]; omega)
  have u2 : IntKind.i64.wrap (((xs.length + ys.length : Nat) : Int) - 1) = b0 := by rw [hb0]; exact (by rw [wrap64 _ (by omega) (by omega)]; omega)
  have hne : zs.map N.d ≠ [] := by intro h; rw [List.map_eq_nil_iff] at h; rw [h] at hzl; simp at hzl; omega
  have vR := hN.vw
  have sR : ∀ G, srcOf (P ++ G) 8 (.row 0 g 0 zs.length false) = some (zs.map N.d) := fun G => vR G
  have hzb : zs.length ≤ 1000000 := by omega
  obtain ⟨W1, f1, q1, r1, t1⟩ := run16 (H := P) (L := L) (A := A) (fun G => hL _) (fun G => hA _) hd (by omega) (by omega)
  obtain ⟨W2, f2, q2, r2, t2⟩ := run16 (H := P ++ [.box 34 [W1]]) (L := M) (A := A) (fun G => hM _) (fun G => hA _) hd (by omega) (by omega)
  have joinV : ∀ (G G' : Heap) (z : N), vw (P ++ (G ++ [.row 41 8 1 (zs.map N.d ++ [z.d])]) ++ G') 8 (.row (P.length + G.length) 1 0 (zs.length + 1) false) = some ((zs ++ [z]).map N.d) := by
    intro G G' z
    have q3 : (P ++ (G ++ [HO.row 41 8 1 (zs.map N.d ++ [z.d])]) ++ G')[P.length + G.length]? = some (.row 41 8 1 (zs.map N.d ++ [z.d])) := by
      refine hle ?_ G'
      rw [hget, hget0]; rfl
    simp [vw, q3, List.take_of_length_le]
  have hz1 : ∀ z : N, (zs ++ [z]).length ≤ 1000000 := fun z => by simp; omega
  obtain ⟨W3, f3, q3, r3, t3⟩ := run16 (A := A) (joinV [.box 34 [W1], .box 34 [W2]] · ⟨8, 0, V0, a0, b0⟩) (fun G => hA _) hd (hz1 _) (by omega)
  obtain ⟨W4, f4, q4, r4, t4⟩ := run16 (A := A) (joinV [.box 34 [W1], .box 34 [W2], .row 41 8 1 (zs.map N.d ++ [(N.mk 8 0 V0 a0 b0).d]), .box 34 [W3]] · ⟨9, 0, V0, a0, b0⟩) (fun G => hA _) hd (hz1 _) (by omega)
  obtain ⟨W5, f5, q5, r5, t5⟩ := run16 (A := A) (joinV [.box 34 [W1], .box 34 [W2], .row 41 8 1 (zs.map N.d ++ [(N.mk 8 0 V0 a0 b0).d]), .box 34 [W3], .row 41 8 1 (zs.map N.d ++ [(N.mk 9 0 V0 a0 b0).d]), .box 34 [W4]] · ⟨10, 0, V0, b0, 0⟩) (fun G => hA _) hd (hz1 _) (by omega)
  have a3 := appA P [.box 34 [W1], .box 34 [W2]] (zs.map N.d) hne (by simpa using hzb)
  have b3 := appB P [.box 34 [W1], .box 34 [W2]] (zs.map N.d) (N.mk 8 0 V0 a0 b0).d (by simpa using hzb)
  have v3 := vwB P [.box 34 [W1], .box 34 [W2]] 0 (zs.map N.d)
  have a4 := appA P [.box 34 [W1], .box 34 [W2], .row 41 8 1 (zs.map N.d ++ [(N.mk 8 0 V0 a0 b0).d]), .box 34 [W3]] (zs.map N.d) hne (by simpa using hzb)
  have b4 := appB P [.box 34 [W1], .box 34 [W2], .row 41 8 1 (zs.map N.d ++ [(N.mk 8 0 V0 a0 b0).d]), .box 34 [W3]] (zs.map N.d) (N.mk 9 0 V0 a0 b0).d (by simpa using hzb)
  have v4 := vwB P [.box 34 [W1], .box 34 [W2], .row 41 8 1 (zs.map N.d ++ [(N.mk 8 0 V0 a0 b0).d]), .box 34 [W3]] 0 (zs.map N.d)
  have a5 := appA P [.box 34 [W1], .box 34 [W2], .row 41 8 1 (zs.map N.d ++ [(N.mk 8 0 V0 a0 b0).d]), .box 34 [W3], .row 41 8 1 (zs.map N.d ++ [(N.mk 9 0 V0 a0 b0).d]), .box 34 [W4]] (zs.map N.d) hne (by simpa using hzb)
  have b5 := appB P [.box 34 [W1], .box 34 [W2], .row 41 8 1 (zs.map N.d ++ [(N.mk 8 0 V0 a0 b0).d]), .box 34 [W3], .row 41 8 1 (zs.map N.d ++ [(N.mk 9 0 V0 a0 b0).d]), .box 34 [W4]] (zs.map N.d) (N.mk 10 0 V0 b0 0).d (by simpa using hzb)
  have v5 := vwB P [.box 34 [W1], .box 34 [W2], .row 41 8 1 (zs.map N.d ++ [(N.mk 8 0 V0 a0 b0).d]), .box 34 [W3], .row 41 8 1 (zs.map N.d ++ [(N.mk 9 0 V0 a0 b0).d]), .box 34 [W4]] 0 (zs.map N.d)
  have e19 := fun G => run19 q1 q2 r1 r2 (by omega) (P ++ G)
  have e20 := fun G => run20 q1 q2 r1 r2 (by omega) (by omega) (P ++ G)
  have e21 := fun G => run21 q2 r2 rs.length (by omega) (P ++ G)
  have hla : (andW (rowsW xs rs) (rowsW ys rs)).length ≤ 1000000 := by simp [andW]; omega
  have hlo : (orW (rowsW xs rs) (rowsW ys rs)).length ≤ 1000000 := by simp [orW]; omega
  have hln : (notW (rowsW ys rs) rs.length).length ≤ 1000000 := by simp [notW]; omega
  have e18a := fun G => run18 q3 (T := .list 1 ((andW (rowsW xs rs) (rowsW ys rs)).map uD) false) (.inl rfl) (by omega) hla (at_ext r3 (andW_WB r1) fun i => by rw [hzs]; exact (join_W hx0 hy0 hgood ⟨8, 0, V0, a0, b0⟩ ha0 hb0 i).1 rfl) (P ++ G)
  have e18o := fun G => run18 q4 (T := .list 1 ((orW (rowsW xs rs) (rowsW ys rs)).map uD) false) (.inl rfl) (by omega) hlo (at_ext r4 (orW_WB r1 r2) fun i => by rw [hzs]; exact (join_W hx0 hy0 hgood ⟨9, 0, V0, a0, b0⟩ ha0 hb0 i).2 rfl) (P ++ G)
  have e18n := fun G => run18 q5 (T := .list 1 ((notW (rowsW ys rs) rs.length).map uD) false) (.inl rfl) (by omega) hln (at_ext r5 (notW_WB _ _) fun i => by rw [hzs]; exact neg_W hy0 hgood ⟨10, 0, V0, b0, 0⟩ hb0 rfl r2 i) (P ++ G)
  have o1 := q1.one
  have o2 := q2.one
  have o3 := q3.one
  have o4 := q4.one
  have o5 := q5.one
  have hdl := hd.1
  clear q1 q2 q3 q4 q5 r1 r2 r3 r4 r5 t1 t2 t3 t4 t5 hla hlo hln joinV hz1 hN hgood hd k1 k2 k3 k4 hf hf' hl
  generalize andW (rowsW xs rs) (rowsW ys rs) = ws3 at *
  generalize orW (rowsW xs rs) (rowsW ys rs) = ws4 at *
  generalize notW (rowsW ys rs) rs.length = ws5 at *
  rw [← hzl] at u2
  rw [← hzl]
  clear hzs hzl
  have hZl : (zs.map N.d).length = zs.length := by simp
  generalize zs.map N.d = Z at *
  simp only [hZl] at a3 b3 v3 a4 b4 v4 a5 b5 v5
  generalize zs.length = m at *
  simp only [N.d, V0, List.length_cons, List.length_nil, List.cons_append, List.nil_append, Nat.reduceAdd, Nat.zero_add] at *
  have hMl : (ys.map N.d).length = ys.length := by simp
  (repeat (first | rw [s_assoc] | rw [s_seq_reg (by simp [evOps, evOp_n, evOp_r, evOp_d, evOp_dr, kpo_refl, kpo_app, cnd_some, cnd_pair, cnd_cnd_t, cnd_cnd_f, cnd_same, cnd_dvb, cnd_and, cnd_or, ↓evx_pick, gd_bool, gd_boolf, gd_tup, cnd_t, cnd_f, evTo, isCall, evx, put, lk, Od.v, keepEnv, enterEnv, ldx_ref, rdc, binx, binI, binS, unx, eqk, DV.isU, DV.cells, hget, hget0, hset, hset0, stx_ref, splice, DV.one, fillp, mat, eqcs, eqs, hL, hM, hA, hdl, hZl, f1, f2, f3, f4, f5, a3, b3, v3, a4, b4, v4, a5, b5, v5, u1, u2, vR, sR, n1, nW, nN, nE, nS, o1, o2, o3, o4, o5, e19, e20, e21, e18a, e18o, e18n]; exact ⟨rfl, rfl⟩)] | rw [s_cnd (by simp [lk, keepEnv, Od.v, hL, hM, hA, hdl, hZl, f1, f2, f3, f4, f5, a3, b3, v3, a4, b4, v4, a5, b5, v5, u1, u2, vR, sR, n1, nW, nN, nE, nS, o1, o2, o3, o4, o5, e19, e20, e21, e18a, e18o, e18n]; exact rfl)] | rw [cnd_t] | rw [cnd_f] | rw [s_skip] | rw [s_ret] | rw [s_exit] | rw [C_ret] | rw [C_exit] | rw [C_skip] | rw [blk_ret] | rw [blk_norm] | rw [blk_exit] | rw [blk_exit' (by decide)] | rw [blkT_ret] | rw [blkT_norm] | rw [blkT_exit] | rw [blkT_exit' (by decide)] | rw [s_blk] | rw [s_reg (by simp [evOps, evOp_n, evOp_r, evOp_d, evOp_dr, kpo_refl, kpo_app, cnd_some, cnd_pair, cnd_cnd_t, cnd_cnd_f, cnd_same, cnd_dvb, cnd_and, cnd_or, ↓evx_pick, gd_bool, gd_boolf, gd_tup, cnd_t, cnd_f, evTo, isCall, evx, put, lk, Od.v, keepEnv, enterEnv, ldx_ref, rdc, binx, binI, binS, unx, eqk, DV.isU, DV.cells, hget, hget0, hset, hset0, stx_ref, splice, DV.one, fillp, mat, eqcs, eqs, hL, hM, hA, hdl, hZl, f1, f2, f3, f4, f5, a3, b3, v3, a4, b4, v4, a5, b5, v5, u1, u2, vR, sR, n1, nW, nN, nE, nS, o1, o2, o3, o4, o5, e19, e20, e21, e18a, e18o, e18n]; exact ⟨rfl, rfl⟩)] | rw [t_cnd (by simp [lk, keepEnv, Od.v, hL, hM, hA, hdl, hZl, f1, f2, f3, f4, f5, a3, b3, v3, a4, b4, v4, a5, b5, v5, u1, u2, vR, sR, n1, nW, nN, nE, nS, o1, o2, o3, o4, o5, e19, e20, e21, e18a, e18o, e18n]; exact rfl)] | rw [t_blk]))
  (repeat (first | rw [s_assoc] | rw [s_seq_reg (by simp [evOps, evOp_n, evOp_r, evOp_d, evOp_dr, kpo_refl, kpo_app, cnd_some, cnd_pair, cnd_cnd_t, cnd_cnd_f, cnd_same, cnd_dvb, cnd_and, cnd_or, ↓evx_pick, gd_bool, gd_boolf, gd_tup, cnd_t, cnd_f, evTo, isCall, evx, put, lk, Od.v, keepEnv, enterEnv, ldx_ref, rdc, binx, binI, binS, unx, eqk, DV.isU, DV.cells, hget, hget0, hset, hset0, stx_ref, splice, fillp, mat, eqcs, eqs, one_bool, one_int, one_str, one_nilp, one_ref, one_elem, one_nils, one_list, one_row, one_nilm, one_map, one_nilf, one_func, one_nili, one_ifc, one_agg, one_tup, one_undef, one_fresh, hL, hM, hA, hdl, hZl, f1, f2, f3, f4, f5, a3, b3, v3, a4, b4, v4, a5, b5, v5, u1, u2, vR, sR, n1, nW, nN, nE, nS, o1, o2, o3, o4, o5, e19, e20, e21, e18a, e18o, e18n]; exact ⟨rfl, rfl⟩)] | rw [s_cnd (by simp [lk, keepEnv, Od.v, hL, hM, hA, hdl, hZl, f1, f2, f3, f4, f5, a3, b3, v3, a4, b4, v4, a5, b5, v5, u1, u2, vR, sR, n1, nW, nN, nE, nS, o1, o2, o3, o4, o5, e19, e20, e21, e18a, e18o, e18n]; exact rfl)] | rw [cnd_t] | rw [cnd_f] | rw [s_skip] | rw [s_ret] | rw [s_exit] | rw [C_ret] | rw [C_exit] | rw [C_skip] | rw [blk_ret] | rw [blk_norm] | rw [blk_exit] | rw [blk_exit' (by decide)] | rw [blkT_ret] | rw [blkT_norm] | rw [blkT_exit] | rw [blkT_exit' (by decide)] | rw [s_blk] | rw [s_reg (by simp [evOps, evOp_n, evOp_r, evOp_d, evOp_dr, kpo_refl, kpo_app, cnd_some, cnd_pair, cnd_cnd_t, cnd_cnd_f, cnd_same, cnd_dvb, cnd_and, cnd_or, ↓evx_pick, gd_bool, gd_boolf, gd_tup, cnd_t, cnd_f, evTo, isCall, evx, put, lk, Od.v, keepEnv, enterEnv, ldx_ref, rdc, binx, binI, binS, unx, eqk, DV.isU, DV.cells, hget, hget0, hset, hset0, stx_ref, splice, fillp, mat, eqcs, eqs, one_bool, one_int, one_str, one_nilp, one_ref, one_elem, one_nils, one_list, one_row, one_nilm, one_map, one_nilf, one_func, one_nili, one_ifc, one_agg, one_tup, one_undef, one_fresh, hL, hM, hA, hdl, hZl, f1, f2, f3, f4, f5, a3, b3, v3, a4, b4, v4, a5, b5, v5, u1, u2, vR, sR, n1, nW, nN, nE, nS, o1, o2, o3, o4, o5, e19, e20, e21, e18a, e18o, e18n]; exact ⟨rfl, rfl⟩)] | rw [t_cnd (by simp [lk, keepEnv, Od.v, hL, hM, hA, hdl, hZl, f1, f2, f3, f4, f5, a3, b3, v3, a4, b4, v4, a5, b5, v5, u1, u2, vR, sR, n1, nW, nN, nE, nS, o1, o2, o3, o4, o5, e19, e20, e21, e18a, e18o, e18n]; exact rfl)] | rw [t_blk]))
  simp [ends_ret, ends_norm, resL, evOps, evOp_n, evOp_r, evOp_d, evOp_dr, kpo_refl, kpo_app, cnd_some, cnd_pair, cnd_cnd_t, cnd_cnd_f, cnd_same, cnd_dvb, cnd_and, cnd_or, ↓evx_pick, gd_bool, gd_boolf, gd_tup, cnd_t, cnd_f, evTo, isCall, evx, put, lk, Od.v, keepEnv, enterEnv, ldx_ref, rdc, binx, binI, binS, unx, eqk, DV.isU, DV.cells, hget, hget0, hset, hset0, stx_ref, splice, fillp, mat, eqcs, eqs, one_bool, one_int, one_str, one_nilp, one_ref, one_elem, one_nils, one_list, one_row, one_nilm, one_map, one_nilf, one_func, one_nili, one_ifc, one_agg, one_tup, one_undef, one_fresh, fin, fz0, fz1, fzT, fzL, nlt, e19]
end Go.Proofs.YtfgnefnpfgdliaaDoor
