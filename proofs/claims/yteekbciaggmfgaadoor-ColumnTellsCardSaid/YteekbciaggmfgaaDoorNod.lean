/- Ideal runs. -/
import Derived.Test.YteekbciaggmfgaaDoorPlainB
import Derived.Test.YteekbciaggmfgaaDoorStep
import Derived.Test.YteekbciaggmfgaaDoorCode
import Derived.Test.YteekbciaggmfgaaDoorPlainM
import Derived.Test.YteekbciaggmfgaaDoorGrow
namespace Go.Proofs.YteekbciaggmfgaaDoor
structure N where
 ask : Int
 col : Int
 val : V
 a : Int
 b : Int
abbrev N.d (x : N) : DV := .agg [.int .i64 x.ask, .int .i64 x.col, .int .i64 x.val.k, .int .i64 x.val.n, .str x.val.s, .bool x.val.t, .int .i64 x.a, .int .i64 x.b]
end Go.Proofs.YteekbciaggmfgaaDoor
namespace Go.Proofs.YteekbciaggmfgaaDoor
attribute [local go_sem] ZF Zy ZA ZB Zp Zf Zm Zi Zk Zc Zd Zj Zq Zr ZC Zo Zg Zz Zu Zt ZR Zv Yj put lk Od.v Za Ze Zl Yv Yb Ya Yd ai Yt DV.isU DV.cells ae ZJ ZX ZK Zn splice ZM af ZT Ys bz bR bL bf bP bu aZ bn bN bg bQ bj bq bh bU bV bK aQ aR
attribute [local go_sem ↓] Zh
set_option linter.unusedVariables false
set_option linter.unusedSimpArgs false
set_option maxRecDepth 10000
abbrev uD (n : Nat) : DV := .int .u64 (n : Int)
def WL (W : DV) (ws : List Nat) : Prop := W = .list 1 (ws.map uD) false ∨ (W = .nils ∧ ws = [])
theorem WL.vw {W : DV} {ws : List Nat} (h : WL W ws) (g : Zb) : vw g 1 W = some (ws.map uD) := by
 rcases h with rfl | ⟨rfl, rfl⟩ <;> rfl
def at_ (ws : List Nat) (k : Nat) : Nat := ws.getD k 0
theorem Ki (i : Int) (h : Zb) : E X 80 [.int .i64 i] h = some (.bool (decide (0 ≤ i) && decide (i < 65536)), h) := by
 by_cases a : 0 ≤ i
 ·rw [ZO (X := X) _ BQ _ rfl rfl]; unfold BQ; exact rg @a
 ·rw [ZO (X := X) _ BQ _ rfl rfl]; unfold BQ; exact rg @a
def hb (H : Zb) (ws : List Nat) : Zb := H ++ [.box 41 [.nils], .row 92 1 0 (ws.map uD)]
section
variable {H : Zb} {ws : List Nat} {n : Nat}
end
end Go.Proofs.YteekbciaggmfgaaDoor
namespace Go.Proofs.YteekbciaggmfgaaDoor
set_option linter.unusedVariables false
set_option linter.unusedSimpArgs false
set_option maxRecDepth 10000
def WB (ws : List Nat) : Prop := ∀ x ∈ ws, x < 18446744073709551616
theorem WB.at {ws : List Nat} (h : WB ws) (k : Nat) : at_ ws k < 18446744073709551616 := by
 unfold at_
 by_cases hk : k < ws.length
 ·simp only [List.getD, List.getElem?_eq_getElem hk, Option.getD_some]; exact h _ (List.getElem_mem _)
 ·simp [List.getD, List.getElem?_eq_none (Nat.le_of_not_lt hk)]
theorem ME {a b : Nat} (ha : a < 18446744073709551616) (hb : b < 18446744073709551616) : IntKind.u64.wrap ((a % 2 ^ IntKind.u64.bits ||| b % 2 ^ IntKind.u64.bits : Nat) : Int) = ((a ||| b : Nat) : Int) := by
 rw [BJ, Nat.mod_eq_of_lt ha, Nat.mod_eq_of_lt hb, fB, Nat.mod_eq_of_lt]
 exact Nat.or_lt_two_pow (n := 64) ha hb
theorem CS (n : Nat) : mm true .i64 (n : Int) [.int .i64 0] = some (n : Int) := by
 have h : ¬ (n : Int) < 0 := by omega
 simp [mm, h]
def nw (a b : Nat) : Nat := a &&& (18446744073709551615 - b)
def bit (ws : List Nat) (i : Nat) : Bool := (at_ ws (i / 64)).testBit (i % 64)
def dM (ws : List Nat) (n : Nat) : List Nat := ws ++ List.replicate (n - ws.length) 0
def ez (ws : List Nat) (i : Nat) : List Nat := (dM ws (i / 64 + 1)).set (i / 64) (at_ (dM ws (i / 64 + 1)) (i / 64) ||| 2 ^ (i % 64))
theorem qc (ws : List Nat) (n : Nat) : (dM ws n).length = max ws.length n := by simp [dM]; omega
theorem uQ (ws : List Nat) (i : Nat) : (ez ws i).length = max ws.length (i / 64 + 1) := by simp [ez, qc]
theorem Fu {ws : List Nat} {n : Nat} (h : n ≤ ws.length) : dM ws n = ws := by simp [dM, show n - ws.length = 0 by omega]
theorem z8 {ws : List Nat} {n : Nat} (h : ws.length < n) : dM (ws ++ [0]) n = dM ws n := by
 simp only [dM, List.length_append, List.length_cons, List.length_nil, List.append_assoc]
 rw [show n - ws.length = (n - (ws.length + (0 + 1))) + 1 by omega, List.replicate_succ]
 rfl
theorem MD {a j : Nat} (ha : a < 18446744073709551616) (hj : j < 64) : IntKind.u64.wrap ((a % 2 ^ IntKind.u64.bits ||| 2 ^ j % 2 ^ IntKind.u64.bits : Nat) : Int) = ((a ||| 2 ^ j : Nat) : Int) :=
 ME ha (Nat.pow_lt_pow_right (by omega : 1 < 2) hj)
def gw (h : Zb) (H : Zb) (w : DV) (ws : List Nat) : Prop := (w = .nils ∧ ws = [] ∧ h = H) ∨ ∃ g, w = .row H.length g 0 ws.length false ∧ h = H ++ [.row 92 1 g (ws.map uD)]
theorem gw.vw {h H : Zb} {w : DV} {ws : List Nat} (hm : gw h H w ws) : vw h 1 w = some (ws.map uD) := by
 rcases hm with ⟨rfl, rfl, rfl⟩ | ⟨g, rfl, rfl⟩
 ·rfl
 ·simp [Go.Proofs.YteekbciaggmfgaaDoor.vw, ZJ, List.take_of_length_le]
theorem gw.app {h H : Zb} {w : DV} {ws : List Nat} (hm : gw h H w ws) (hb : ws.length ≤ 1000000) (x : Nat) : ∃ w' h', aX h 92 1 8 w (ws.map uD) [uD x] = some (w', h') ∧ gw h' H w' (ws ++ [x]) := by
 have hle : ((ws.map uD).length + [uD x].length) * 8 ≤ 140737488355328 := by simp; omega
 rcases hm with ⟨rfl, rfl, rfl⟩ | ⟨g, rfl, rfl⟩
 ·exact ⟨_, _, by simp [aX], .inr ⟨0, rfl, rfl⟩⟩
 ·refine ⟨.row H.length (g + 1) 0 (ws.length + 1) false, H ++ [.row 92 1 (g + 1) ((ws ++ [x]).map uD)], ?_, .inr ⟨g + 1, by simp, rfl⟩⟩
  simp only [aX, if_pos hle, ZJ]
  simp [ZK]
theorem G7 {H : Zb} (i : Nat) (hi : i < 65536) : ∀ (m : Nat) (w : DV) (ws : List Nat) (h : Zb), i / 64 + 1 - ws.length ≤ m → ws.length ≤ 100000 → gw h H w ws →
 ∃ w' ex h', C X (.loop nW) [(0, w), (1, .int .i64 i)] h = some (.exit 0, (0, w') :: (1, .int .i64 i) :: ex, h') ∧ gw h' H w' (dM ws (i / 64 + 1)) := by
 intro m
 obtain ⟨k, hk⟩ : ∃ k, k = i / 64 := ⟨_, rfl⟩
 have w1 : IntKind.i64.wrap ((i : Int) / 64) = (k : Int) := wr
 induction m with
 | zero =>
  intro w ws h hm hb hM
  have hv := hM.vw
  have c1 : ¬ ws.length ≤ k := by omega
  refine ⟨w, [(9, .bool false)], h, ?_, by rw [Fu (by omega)]; exact hM⟩
  rw [Zx]
  unfold nW
  (repeat (first | rw [ZL] | rw [Zs (by simp [ZF, Zy, ZA, ZB, Zp, Zf, Zm, Zi, Zk, Zc, Zd, Zj, Zq, Zr, ZC, ↓Zh, Zo, Zg, Zz, Zu, Zt, ZR, Zv, Yj, put, lk, Od.v, Za, Ze, Zl, Yv, Yb, Ya, Yd, ai, Yt, DV.isU, DV.cells, ae, ZJ, ZX, ZK, Zn, splice, DV.one, ZM, af, ZT, Ys, hv, w1, c1]; exact ⟨rfl, rfl⟩)] | rw [Yi (by simp [lk, Za, Od.v, hv, w1, c1]; exact rfl)] | rw [Zu] | rw [Zt] | rw [ZY] | rw [Yo] | rw [Ye] | rw [Yl] | rw [Yg] | rw [Yf] | rw [ZU] | rw [ZP] | rw [ZQ] | rw [ZI (by decide)] | rw [ZN] | rw [ZG] | rw [ZH] | rw [ZE (by decide)] | rw [Yq] | rw [Ym (by simp [ZF, Zy, ZA, ZB, Zp, Zf, Zm, Zi, Zk, Zc, Zd, Zj, Zq, Zr, ZC, ↓Zh, Zo, Zg, Zz, Zu, Zt, ZR, Zv, Yj, put, lk, Od.v, Za, Ze, Zl, Yv, Yb, Ya, Yd, ai, Yt, DV.isU, DV.cells, ae, ZJ, ZX, ZK, Zn, splice, DV.one, ZM, af, ZT, Ys, hv, w1, c1]; exact ⟨rfl, rfl⟩)] | rw [Yp (by simp [lk, Za, Od.v, hv, w1, c1]; exact rfl)] | rw [Yk]))
  rw [ZS]
  simp [Za, lk]
 | succ m ih =>
  intro w ws h hm hb hM
  by_cases c1 : ws.length ≤ k
  ·obtain ⟨w', h', ha, oJ⟩ := hM.app (by omega) 0
   have hv := hM.vw
   have hs : C X nW [(0, w), (1, .int .i64 i)] h = some (.norm, [(0, w'), (1, .int .i64 i)], h') := by
    unfold nW
    have z1 : vw h 1 (.list 1 [.int .u64 0] true) = some [.int .u64 0] := rfl
    have z2 : aJ h 1 (.list 1 [.int .u64 0] true) = some [.int .u64 0] := rfl
    have z5 : ∀ h, cM [.int .u64 0] h = some ([.int .u64 0], h) := fun _ => rfl
    rw [show uD 0 = .int .u64 0 from rfl] at ha
    have z3 : Wc 1 (.int .u64 0) := by simp [Wc, DV.cells, DV.one]
    have z4 : Nr (.int .u64 0) := .int _ _
    (repeat (first | rw [ZL] | rw [Zs (by simp [ZF, Zy, ZA, ZB, Zp, Zf, Zm, Zi, Zk, Zc, Zd, Zj, Zq, Zr, ZC, ↓Zh, Zo, Zg, Zz, Zu, Zt, ZR, Zv, Yj, put, lk, Od.v, Za, Ze, Zl, Yv, Yb, Ya, Yd, ai, Yt, DV.isU, DV.cells, ae, ZJ, ZX, ZK, Zn, splice, DV.one, ZM, af, ZT, Ys, hv, w1, c1, ha, z1, z2, z3, z4, z5]; exact ⟨rfl, rfl⟩)] | rw [Yi (by simp [lk, Za, Od.v, hv, w1, c1, ha, z1, z2, z3, z4, z5]; exact rfl)] | rw [Zu] | rw [Zt] | rw [ZY] | rw [Yo] | rw [Ye] | rw [Yl] | rw [Yg] | rw [Yf] | rw [ZU] | rw [ZP] | rw [ZQ] | rw [ZI (by decide)] | rw [ZN] | rw [ZG] | rw [ZH] | rw [ZE (by decide)] | rw [Yq] | rw [Ym (by simp [ZF, Zy, ZA, ZB, Zp, Zf, Zm, Zi, Zk, Zc, Zd, Zj, Zq, Zr, ZC, ↓Zh, Zo, Zg, Zz, Zu, Zt, ZR, Zv, Yj, put, lk, Od.v, Za, Ze, Zl, Yv, Yb, Ya, Yd, ai, Yt, DV.isU, DV.cells, ae, ZJ, ZX, ZK, Zn, splice, DV.one, ZM, af, ZT, Ys, hv, w1, c1, ha, z1, z2, z3, z4, z5]; exact ⟨rfl, rfl⟩)] | rw [Yp (by simp [lk, Za, Od.v, hv, w1, c1, ha, z1, z2, z3, z4, z5]; exact rfl)] | rw [Yk]))
    simp [Za, lk]
   rw [Zx, hs, ZZ]
   obtain ⟨w2, ex, h2, r1, r2⟩ := ih w' (ws ++ [0]) h' (by simp; omega) (by simp; omega) oJ
   exact ⟨w2, ex, h2, r1, by rw [← z8 (by omega)]; exact r2⟩
  ·exact ih w ws h (by omega) hb hM
theorem KS {H : Zb} {g : Nat} {ws : List Nat} {n : Nat} (hn : ws.length = n) {i : Nat} (hi : i < n) (x : Nat) : stx (H ++ [.row 92 1 g (ws.map uD)]) 1 (.elem (.row H.length g 0 n false) 1 i 0) (.int .u64 x) = some (H ++ [.row 92 1 g ((ws.set i x).map uD)]) := by
 subst hn
 have h1 : (H ++ [HO.row 92 1 g (ws.map uD)])[H.length]? = some (.row 92 1 g (ws.map uD)) := by simp [ZJ]
 have h2 : (ws.map uD)[i]? = some (uD ws[i]) := by simp [List.getElem?_eq_getElem hi]
 rw [stx, if_pos (by simp [DV.cells, DV.one])]
 simp only [h1]
 rw [if_pos (by simp [hi])]
 simp only [Nat.zero_add, h2]
 simp [mW, DV.one, ZK]
theorem BI {H h : Zb} {w : DV} {ws : List Nat} (hM : gw h H w ws) (bw : WB ws) (i : Nat) (hi : i < 65536) (hb : ws.length ≤ 100000) :
 ∃ g, C X BP [(0, w), (1, .int .i64 i)] h = some (.ret, [(4, .row H.length g 0 (ez ws i).length false)], H ++ [.row 92 1 g ((ez ws i).map uD)]) := by
 obtain ⟨w', ex, h', c1, oJ⟩ := G7 (H := H) i hi (i / 64 + 1) w ws h (by omega) hb hM
 have bp : WB (dM ws (i / 64 + 1)) := by
  intro x hx
  rcases List.mem_append.1 hx with hx | hx
  ·exact bw x hx
  ·rw [List.mem_replicate] at hx; omega
 have hpl := qc ws (i / 64 + 1)
 have N6 : ez ws i = (dM ws (i / 64 + 1)).set (i / 64) (at_ (dM ws (i / 64 + 1)) (i / 64) ||| 2 ^ (i % 64)) := rfl
 rw [N6]
 generalize dM ws (i / 64 + 1) = us at *
 rcases oJ with ⟨_, hn, _⟩ | ⟨g, rfl, rfl⟩
 ·subst hn; simp at hpl; omega
 obtain ⟨k, hk⟩ : ∃ k, k = i / 64 := ⟨_, rfl⟩
 obtain ⟨j, hj⟩ : ∃ j, j = i % 64 := ⟨_, rfl⟩
 have hj' : j < 64 := by omega
 have hk' : k < us.length := by omega
 rw [← hk, ← hj]
 have w1 : IntKind.i64.wrap ((i : Int) / 64) = (k : Int) := wr
 have w2 : ((i : Int)).tmod 64 = (j : Int) := by rw [Int.tmod_eq_emod_of_nonneg (by omega)]; omega
 have w3 : IntKind.u64.wrap (2 ^ min j IntKind.u64.bits) = ((2 ^ j : Nat) : Int) := by
  have vo : 2 ^ j < 18446744073709551616 := Nat.pow_lt_pow_right (by omega : 1 < 2) hj'
  rw [show min j IntKind.u64.bits = j from Nat.min_eq_left (by simp [IntKind.bits]; omega), show (2 : Int) ^ j = ((2 ^ j : Nat) : Int) by simp, fB, Nat.mod_eq_of_lt vo]
 have w4 := MD (bp.at k) hj'
 have d0 : ¬ (j : Int) < 0 := by omega
 have e1 : at_ us k = us[k] := by simp [at_, List.getD, List.getElem?_eq_getElem hk']
 have a2 := KS (H := H) (g := g) (ws := us) rfl hk' (at_ us k ||| 2 ^ j)
 obtain ⟨P, hP⟩ : ∃ P, P = 2 ^ j := ⟨_, rfl⟩
 rw [← hP] at w3 w4 a2 ⊢
 have a1 : vw (H ++ [HO.row 92 1 g (us.map uD)]) 1 (.row H.length g 0 us.length false) = some (us.map uD) := by
  simp [vw, ZJ, List.take_of_length_le]
 refine ⟨g, ?_⟩
 unfold BP
 (repeat (first | rw [ZL] | rw [Zs (by simp [ZF, Zy, ZA, ZB, Zp, Zf, Zm, Zi, Zk, Zc, Zd, Zj, Zq, Zr, ZC, ↓Zh, Zo, Zg, Zz, Zu, Zt, ZR, Zv, Yj, put, lk, Od.v, Za, Ze, Zl, Yv, Yb, Ya, Yd, ai, Yt, DV.isU, DV.cells, ae, ZJ, ZX, ZK, Zn, splice, DV.one, ZM, af, ZT, Ys, w1]; exact ⟨rfl, rfl⟩)] | rw [Yi (by simp [lk, Za, Od.v, w1]; exact rfl)] | rw [Zu] | rw [Zt] | rw [ZY] | rw [Yo] | rw [Ye] | rw [Yl] | rw [Yg] | rw [Yf] | rw [ZU] | rw [ZP] | rw [ZQ] | rw [ZI (by decide)] | rw [ZN] | rw [ZG] | rw [ZH] | rw [ZE (by decide)] | rw [Yq] | rw [Ym (by simp [ZF, Zy, ZA, ZB, Zp, Zf, Zm, Zi, Zk, Zc, Zd, Zj, Zq, Zr, ZC, ↓Zh, Zo, Zg, Zz, Zu, Zt, ZR, Zv, Yj, put, lk, Od.v, Za, Ze, Zl, Yv, Yb, Ya, Yd, ai, Yt, DV.isU, DV.cells, ae, ZJ, ZX, ZK, Zn, splice, DV.one, ZM, af, ZT, Ys, w1]; exact ⟨rfl, rfl⟩)] | rw [Yp (by simp [lk, Za, Od.v, w1]; exact rfl)] | rw [Yk]))
 (try simp only [Za, List.map_cons, List.map_nil, lk, reduceIte, Nat.reduceEqDiff, Nat.zero_ne_one, Nat.one_ne_zero])
 rw [c1]
 rw [e1] at w4 a2 ⊢
 (repeat (first | rw [ZL] | rw [Zs (by simp [ZF, Zy, ZA, ZB, Zp, Zf, Zm, Zi, Zk, Zc, Zd, Zj, Zq, Zr, ZC, ↓Zh, Zo, Zg, Zz, Zu, Zt, ZR, Zv, Yj, put, lk, Od.v, Za, Ze, Zl, Yv, Yb, Ya, Yd, ai, Yt, DV.isU, DV.cells, ae, ZJ, ZX, ZK, Zn, splice, DV.one, ZM, af, ZT, Ys, w1, w2, w3, w4, d0, a1, a2, hk', ay]; exact ⟨rfl, rfl⟩)] | rw [Yi (by simp [lk, Za, Od.v, w1, w2, w3, w4, d0, a1, a2, hk', ay]; exact rfl)] | rw [Zu] | rw [Zt] | rw [ZY] | rw [Yo] | rw [Ye] | rw [Yl] | rw [Yg] | rw [Yf] | rw [ZU] | rw [ZP] | rw [ZQ] | rw [ZI (by decide)] | rw [ZN] | rw [ZG] | rw [ZH] | rw [ZE (by decide)] | rw [Yq] | rw [Ym (by simp [ZF, Zy, ZA, ZB, Zp, Zf, Zm, Zi, Zk, Zc, Zd, Zj, Zq, Zr, ZC, ↓Zh, Zo, Zg, Zz, Zu, Zt, ZR, Zv, Yj, put, lk, Od.v, Za, Ze, Zl, Yv, Yb, Ya, Yd, ai, Yt, DV.isU, DV.cells, ae, ZJ, ZX, ZK, Zn, splice, DV.one, ZM, af, ZT, Ys, w1, w2, w3, w4, d0, a1, a2, hk', ay]; exact ⟨rfl, rfl⟩)] | rw [Yp (by simp [lk, Za, Od.v, w1, w2, w3, w4, d0, a1, a2, hk', ay]; exact rfl)] | rw [Yk]))
 simp [Za, lk]
theorem Gg (i : Nat) (hi : i < 65536) (H : Zb) : E X 81 [.nils, .int .i64 i] H = some (.fresh 92 1 ((ez [] i).map uD), H) := by
 obtain ⟨g, c⟩ := BI (H := H) (h := H) (w := .nils) (ws := []) (.inl ⟨rfl, rfl, rfl⟩) (by intro x hx; cases hx) i hi (by simp)
 rw [ZO (X := X) _ BP _ rfl rfl]
 simp only [Ze]
 rw [c, Zw]
 simp only [Yc, lk, Option.map_some, reduceIte, Option.some.injEq]
 simp only [fin]
 rw [if_pos List.take_left]
 have q1 : ∀ y ∈ (ez [] i).map uD, Nr y := by intro y hy; obtain ⟨z, _, rfl⟩ := List.mem_map.1 hy; exact .int _ _
 simp only [aO, aV]
 rw [if_neg (by omega), ZJ]
 simp only [List.getElem?_cons_zero]
 rw [if_pos ⟨rfl, by simp, q1⟩, if_pos (by simp)]
theorem Gf {ws : List Nat} {g : Nat} (bw : WB ws) (i : Nat) (hi : i < 65536) (hb : ws.length ≤ 100000) (H : Zb) : ∃ g', E X 81 [.row H.length g 0 ws.length false, .int .i64 i] (H ++ [.row 92 1 g (ws.map uD)]) =
 some (.row H.length g' 0 (ez ws i).length false, H ++ [.row 92 1 g' ((ez ws i).map uD)]) := by
 obtain ⟨g', c⟩ := BI (H := H) (h := H ++ [.row 92 1 g (ws.map uD)]) (w := .row H.length g 0 ws.length false) (ws := ws) (.inr ⟨g, rfl, rfl⟩) bw i hi hb
 refine ⟨g', ?_⟩
 rw [ZO (X := X) _ BP _ rfl rfl]
 simp only [Ze]
 rw [c, Zw]
 simp only [Yc, lk, Option.map_some, reduceIte, Option.some.injEq]
 simp only [fin]
 split
 ·rename_i ht
  rw [List.take_of_length_le (by simp)] at ht
  simp only [aO, aV]
  rw [if_pos (by simp)]
  simp [ht]
 ·rfl
abbrev iD (n : Nat) : DV := .int .i64 (n : Int)
theorem wW {ws : List Nat} (bw : WB ws) (i : Nat) : WB (ez ws i) := by
 have bp : WB (dM ws (i / 64 + 1)) := by
  intro x hx
  rcases List.mem_append.1 hx with hx | hx
  ·exact bw x hx
  ·rw [List.mem_replicate] at hx; omega
 intro x hx
 unfold ez at hx
 rcases List.mem_or_eq_of_mem_set hx with hx | rfl
 ·exact bp x hx
 ·exact Nat.or_lt_two_pow (n := 64) (bp.at _) (Nat.pow_lt_pow_right (by omega : 1 < 2) (by omega : i % 64 < 64))
def jk (l : List Nat) : List Nat := l.foldl ez []
theorem Hh {H : Zb} {A : DV} {l : List Nat} (hA : ∀ L, vw (H ++ L) 1 A = some (l.map iD)) (hl : ∀ x ∈ l, x < 65536) (vh : l.length ≤ 1000000) :
 ∀ (m i : Nat) (w : DV) (ws : List Nat) (h : Zb), l.length - i ≤ m → i ≤ l.length → WB ws → ws.length ≤ 1024 → gw h (H ++ [.box 41 [.nils]]) w ws →
  ∃ x ex w' h', C X (.loop lQ) [(2, .ref H.length 0), (3, w), (6, A), (7, .int .i64 l.length), (8, .int .i64 i)] h = some (.exit 0, (2, .ref H.length 0) :: (3, w') :: (6, A) :: (7, .int .i64 l.length) :: (8, x) :: ex, h') ∧
   gw h' (H ++ [.box 41 [.nils]]) w' ((l.drop i).foldl ez ws) := by
 intro m
 induction m with
 | zero =>
  intro i w ws h hm hi bw hb hM
  obtain rfl : i = l.length := by omega
  refine ⟨.int .i64 l.length, [(9, .bool false)], w, h, ?_, by simpa using hM⟩
  rw [Zx]
  unfold lQ
  (repeat (first | rw [ZL] | rw [Zs (by simp [ZF, Zy, ZA, ZB, Zp, Zf, Zm, Zi, Zk, Zc, Zd, Zj, Zq, Zr, ZC, ↓Zh, Zo, Zg, Zz, Zu, Zt, ZR, Zv, Yj, put, lk, Od.v, Za, Ze, Zl, Yv, Yb, Ya, Yd, ai, Yt, DV.isU, DV.cells, ae, ZJ, ZX, ZK, Zn, splice, DV.one, ZM, af, ZT, Ys]; exact ⟨rfl, rfl⟩)] | rw [Yi (by simp [lk, Za, Od.v]; exact rfl)] | rw [Zu] | rw [Zt] | rw [ZY] | rw [Yo] | rw [Ye] | rw [Yl] | rw [Yg] | rw [Yf] | rw [ZU] | rw [ZP] | rw [ZQ] | rw [ZI (by decide)] | rw [ZN] | rw [ZG] | rw [ZH] | rw [ZE (by decide)] | rw [Yq] | rw [Ym (by simp [ZF, Zy, ZA, ZB, Zp, Zf, Zm, Zi, Zk, Zc, Zd, Zj, Zq, Zr, ZC, ↓Zh, Zo, Zg, Zz, Zu, Zt, ZR, Zv, Yj, put, lk, Od.v, Za, Ze, Zl, Yv, Yb, Ya, Yd, ai, Yt, DV.isU, DV.cells, ae, ZJ, ZX, ZK, Zn, splice, DV.one, ZM, af, ZT, Ys]; exact ⟨rfl, rfl⟩)] | rw [Yp (by simp [lk, Za, Od.v]; exact rfl)] | rw [Yk]))
  rw [ZS]
  simp [Za, lk]
 | succ m ih =>
  intro i w ws h hm hi bw hb hM
  by_cases c1 : i < l.length
  ·obtain ⟨I, hI⟩ : ∃ I, I = i + 1 := ⟨_, rfl⟩
   have w1 : IntKind.i64.wrap ((i : Int) + 1) = (I : Int) := wr
   have hx : l[i] < 65536 := hl _ (List.getElem_mem _)
   have hd : l.drop i = l[i] :: l.drop I := by rw [hI]; exact List.drop_eq_getElem_cons c1
   obtain ⟨L, hL⟩ : ∃ L, h = H ++ L := by
    rcases hM with ⟨_, _, rfl⟩ | ⟨g, _, rfl⟩
    ·exact ⟨_, rfl⟩
    ·exact ⟨_, List.append_assoc _ _ _⟩
   have hv : vw h 1 A = some (l.map iD) := by rw [hL]; exact hA _
   have c2 := Ki (l[i] : Int)
   have d1 : decide ((0 : Int) ≤ l[i]) = true := by simp
   have d2 : decide ((l[i] : Int) < 65536) = true := by simp; omega
   rw [d1, d2, Bool.and_self] at c2
   have hg : (l.map iD)[i]? = some (iD l[i]) := by simp [List.getElem?_eq_getElem c1]
   obtain ⟨w', h', hc, oJ⟩ : ∃ w' h', C X lQ [(2, .ref H.length 0), (3, w), (6, A), (7, .int .i64 l.length), (8, .int .i64 i)] h = some (.norm, [(2, .ref H.length 0), (3, w'), (6, A), (7, .int .i64 l.length), (8, .int .i64 I)], h') ∧ gw h' (H ++ [.box 41 [.nils]]) w' (ez ws l[i]) := by
    clear ih
    rcases hM with ⟨rfl, rfl, rfl⟩ | ⟨g, rfl, rfl⟩
    ·have e1 := Gg l[i] hx (H ++ [.box 41 [.nils]])
     generalize hq : ez [] l[i] = q at *
     refine ⟨.row (H ++ [HO.box 41 [.nils]]).length 0 0 q.length false, H ++ [.box 41 [.nils]] ++ [.row 92 1 0 (q.map uD)], ?_, .inr ⟨0, rfl, rfl⟩⟩
     unfold lQ
     (repeat (first | rw [ZL] | rw [Zs (by simp [ZF, Zy, ZA, ZB, Zp, Zf, Zm, Zi, Zk, Zc, Zd, Zj, Zq, Zr, ZC, ↓Zh, Zo, Zg, Zz, Zu, Zt, ZR, Zv, Yj, put, lk, Od.v, Za, Ze, Zl, Yv, Yb, Ya, Yd, ai, Yt, DV.isU, DV.cells, ae, ZJ, ZX, ZK, Zn, splice, DV.one, ZM, af, ZT, Ys, c1, w1, hv, hg, ay, c2, e1]; exact ⟨rfl, rfl⟩)] | rw [Yi (by simp [lk, Za, Od.v, c1, w1, hv, hg, ay, c2, e1]; exact rfl)] | rw [Zu] | rw [Zt] | rw [ZY] | rw [Yo] | rw [Ye] | rw [Yl] | rw [Yg] | rw [Yf] | rw [ZU] | rw [ZP] | rw [ZQ] | rw [ZI (by decide)] | rw [ZN] | rw [ZG] | rw [ZH] | rw [ZE (by decide)] | rw [Yq] | rw [Ym (by simp [ZF, Zy, ZA, ZB, Zp, Zf, Zm, Zi, Zk, Zc, Zd, Zj, Zq, Zr, ZC, ↓Zh, Zo, Zg, Zz, Zu, Zt, ZR, Zv, Yj, put, lk, Od.v, Za, Ze, Zl, Yv, Yb, Ya, Yd, ai, Yt, DV.isU, DV.cells, ae, ZJ, ZX, ZK, Zn, splice, DV.one, ZM, af, ZT, Ys, c1, w1, hv, hg, ay, c2, e1]; exact ⟨rfl, rfl⟩)] | rw [Yp (by simp [lk, Za, Od.v, c1, w1, hv, hg, ay, c2, e1]; exact rfl)] | rw [Yk]))
     simp [Za, lk]
    ·obtain ⟨g', e1⟩ := Gf (g := g) bw l[i] hx (by omega) (H ++ [.box 41 [.nils]])
     generalize hq : ez ws l[i] = q at *
     refine ⟨.row (H ++ [HO.box 41 [.nils]]).length g' 0 q.length false, H ++ [.box 41 [.nils]] ++ [.row 92 1 g' (q.map uD)], ?_, .inr ⟨g', rfl, rfl⟩⟩
     generalize hh : H ++ [HO.box 41 [.nils]] ++ [.row 92 1 g (ws.map uD)] = h1 at *
     generalize hh2 : H ++ [HO.box 41 [.nils]] ++ [.row 92 1 g' (q.map uD)] = h2 at *
     generalize (H ++ [HO.box 41 [.nils]]).length = o at *
     unfold lQ
     (repeat (first | rw [ZL] | rw [Zs (by simp [ZF, Zy, ZA, ZB, Zp, Zf, Zm, Zi, Zk, Zc, Zd, Zj, Zq, Zr, ZC, ↓Zh, Zo, Zg, Zz, Zu, Zt, ZR, Zv, Yj, put, lk, Od.v, Za, Ze, Zl, Yv, Yb, Ya, Yd, ai, Yt, DV.isU, DV.cells, ae, ZJ, ZX, ZK, Zn, splice, DV.one, ZM, af, ZT, Ys, c1, w1, hv, hg, ay, c2, e1]; exact ⟨rfl, rfl⟩)] | rw [Yi (by simp [lk, Za, Od.v, c1, w1, hv, hg, ay, c2, e1]; exact rfl)] | rw [Zu] | rw [Zt] | rw [ZY] | rw [Yo] | rw [Ye] | rw [Yl] | rw [Yg] | rw [Yf] | rw [ZU] | rw [ZP] | rw [ZQ] | rw [ZI (by decide)] | rw [ZN] | rw [ZG] | rw [ZH] | rw [ZE (by decide)] | rw [Yq] | rw [Ym (by simp [ZF, Zy, ZA, ZB, Zp, Zf, Zm, Zi, Zk, Zc, Zd, Zj, Zq, Zr, ZC, ↓Zh, Zo, Zg, Zz, Zu, Zt, ZR, Zv, Yj, put, lk, Od.v, Za, Ze, Zl, Yv, Yb, Ya, Yd, ai, Yt, DV.isU, DV.cells, ae, ZJ, ZX, ZK, Zn, splice, DV.one, ZM, af, ZT, Ys, c1, w1, hv, hg, ay, c2, e1]; exact ⟨rfl, rfl⟩)] | rw [Yp (by simp [lk, Za, Od.v, c1, w1, hv, hg, ay, c2, e1]; exact rfl)] | rw [Yk]))
     simp [Za, lk]
   rw [Zx, hc, ZZ, hd, List.foldl_cons]
   exact ih I w' _ h' (by omega) (by omega) (wW bw _) (by rw [uQ]; omega) oJ
  ·exact ih i w ws h (by omega) hi bw hb hM
theorem Dk {H h : Zb} {w : DV} {ws : List Nat} (hm : gw h (H ++ [.box 41 [w]]) w ws) : ∃ W, fin H h [.agg [w]] = (.agg [W], H) ∧ WL W ws := by
 rcases hm with ⟨rfl, rfl, rfl⟩ | ⟨g, hw, rfl⟩
 ·refine ⟨.nils, ?_, .inr ⟨rfl, rfl⟩⟩
  simp only [fin]
  rw [if_pos List.take_left]
  simp [aO, cL, aV]
 ·have hw' : w = .row (H.length + 1) g 0 ws.length false := by simpa using hw
  clear hw
  subst hw'
  refine ⟨_, ?_, .inl rfl⟩
  have q1 : ∀ y ∈ ws.map uD, Nr y := by intro y hy; obtain ⟨z, _, rfl⟩ := List.mem_map.1 hy; exact .int _ _
  simp only [fin]
  rw [if_pos (by rw [List.append_assoc, List.take_left])]
  simp only [aO, cL]
  rw [aV, if_neg (by simp), List.append_assoc, ae]
  simp only [List.cons_append, List.nil_append, List.getElem?_cons_succ, List.getElem?_cons_zero]
  rw [if_pos ⟨rfl, by simp, q1⟩, if_neg (by simp)]
  simp [List.take_of_length_le]
theorem vD : ∀ (l ws : List Nat), WB ws → WB (l.foldl ez ws)
 | [], ws, h => h
 | x :: l, ws, h => vD l _ (wW h x)
theorem Ad (l : List Nat) : WB (jk l) := vD l [] (by intro x hx; cases hx)
theorem Ef {A : DV} {l : List Nat} {H : Zb} (hA : ∀ L, vw (H ++ L) 1 A = some (l.map iD)) (hl : ∀ x ∈ l, x < 65536) (vh : l.length ≤ 1000000) : ∃ W, E X 58 [A] H = some (.agg [W], H) ∧ WL W (jk l) := by
 obtain ⟨x, ex, w', h', c1, hM⟩ := Hh hA hl vh l.length 0 .nils [] (H ++ [.box 41 [.nils]]) (by omega) (by omega) (by intro x hx; cases hx) (by simp) (.inl ⟨rfl, rfl, rfl⟩)
 rw [List.drop_zero] at hM
 have oJ : gw (h'.set H.length (.box 41 [w'])) (H ++ [.box 41 [w']]) w' (jk l) := by
  rcases hM with ⟨a1, a2, rfl⟩ | ⟨g, a1, rfl⟩
  ·exact .inl ⟨a1, a2, by simp [ZK]⟩
  ·exact .inr ⟨g, by rw [a1]; simp [jk], by rw [List.append_assoc, ZK]; simp [jk]⟩
 have g1 : h'[H.length]? = some (.box 41 [.nils]) := by
  rcases hM with ⟨a1, a2, rfl⟩ | ⟨g, a1, rfl⟩
  ·simp [ZJ]
  ·rw [List.append_assoc, ZJ]; rfl
 have g2 : w' = .nils ∨ ∃ o g n, w' = .row o g 0 n false := by
  rcases hM with ⟨rfl, a2, rfl⟩ | ⟨g, rfl, rfl⟩
  ·exact .inl rfl
  ·exact .inr ⟨_, _, _, rfl⟩
 obtain ⟨W, hf, hW⟩ := Dk oJ
 have hv := hA [.box 41 [.nils]]
 refine ⟨W, ?_, hW⟩
 rw [show ((0 : Nat) : Int) = 0 from rfl] at c1
 rw [ZO (X := X) _ JH _ rfl rfl]; unfold JH
 (repeat (first | rw [ZL] | rw [Zs (by simp [ZF, Zy, ZA, ZB, Zp, Zf, Zm, Zi, Zk, Zc, Zd, Zj, Zq, Zr, ZC, ↓Zh, Zo, Zg, Zz, Zu, Zt, ZR, Zv, Yj, put, lk, Od.v, Za, Ze, Zl, Yv, Yb, Ya, Yd, ai, Yt, DV.isU, DV.cells, ae, ZJ, ZX, ZK, Zn, splice, DV.one, ZM, af, ZT, Ys, hv]; exact ⟨rfl, rfl⟩)] | rw [Yi (by simp [lk, Za, Od.v, hv]; exact rfl)] | rw [Zu] | rw [Zt] | rw [ZY] | rw [Yo] | rw [Ye] | rw [Yl] | rw [Yg] | rw [Yf] | rw [ZU] | rw [ZP] | rw [ZQ] | rw [ZI (by decide)] | rw [ZN] | rw [ZG] | rw [ZH] | rw [ZE (by decide)] | rw [Yq] | rw [Ym (by simp [ZF, Zy, ZA, ZB, Zp, Zf, Zm, Zi, Zk, Zc, Zd, Zj, Zq, Zr, ZC, ↓Zh, Zo, Zg, Zz, Zu, Zt, ZR, Zv, Yj, put, lk, Od.v, Za, Ze, Zl, Yv, Yb, Ya, Yd, ai, Yt, DV.isU, DV.cells, ae, ZJ, ZX, ZK, Zn, splice, DV.one, ZM, af, ZT, Ys, hv]; exact ⟨rfl, rfl⟩)] | rw [Yp (by simp [lk, Za, Od.v, hv]; exact rfl)] | rw [Yk]))
 (try simp only [Za, List.map_cons, List.map_nil, lk, reduceIte, Nat.reduceEqDiff, Nat.zero_ne_one, Nat.one_ne_zero])
 rw [c1]
 have g3 : (h'.set H.length (.box 41 [w']))[H.length]? = some (.box 41 [w']) := List.getElem?_set_self (List.getElem?_eq_some_iff.1 g1).1
 clear hM oJ
 rcases g2 with rfl | ⟨o, g, n, rfl⟩
 ·(repeat (first | rw [ZL] | rw [Zs (by simp [ZF, Zy, ZA, ZB, Zp, Zf, Zm, Zi, Zk, Zc, Zd, Zj, Zq, Zr, ZC, ↓Zh, Zo, Zg, Zz, Zu, Zt, ZR, Zv, Yj, put, lk, Od.v, Za, Ze, Zl, Yv, Yb, Ya, Yd, ai, Yt, DV.isU, DV.cells, ae, ZJ, ZX, ZK, Zn, splice, DV.one, ZM, af, ZT, Ys, g1]; exact ⟨rfl, rfl⟩)] | rw [Yi (by simp [lk, Za, Od.v, g1]; exact rfl)] | rw [Zu] | rw [Zt] | rw [ZY] | rw [Yo] | rw [Ye] | rw [Yl] | rw [Yg] | rw [Yf] | rw [ZU] | rw [ZP] | rw [ZQ] | rw [ZI (by decide)] | rw [ZN] | rw [ZG] | rw [ZH] | rw [ZE (by decide)] | rw [Yq] | rw [Ym (by simp [ZF, Zy, ZA, ZB, Zp, Zf, Zm, Zi, Zk, Zc, Zd, Zj, Zq, Zr, ZC, ↓Zh, Zo, Zg, Zz, Zu, Zt, ZR, Zv, Yj, put, lk, Od.v, Za, Ze, Zl, Yv, Yb, Ya, Yd, ai, Yt, DV.isU, DV.cells, ae, ZJ, ZX, ZK, Zn, splice, DV.one, ZM, af, ZT, Ys, g1]; exact ⟨rfl, rfl⟩)] | rw [Yp (by simp [lk, Za, Od.v, g1]; exact rfl)] | rw [Yk]))
  simp [ZV, Zw, Yc, Za, lk, Zl, g3, Yv]
  exact hf
 ·(repeat (first | rw [ZL] | rw [Zs (by simp [ZF, Zy, ZA, ZB, Zp, Zf, Zm, Zi, Zk, Zc, Zd, Zj, Zq, Zr, ZC, ↓Zh, Zo, Zg, Zz, Zu, Zt, ZR, Zv, Yj, put, lk, Od.v, Za, Ze, Zl, Yv, Yb, Ya, Yd, ai, Yt, DV.isU, DV.cells, ae, ZJ, ZX, ZK, Zn, splice, DV.one, ZM, af, ZT, Ys, g1]; exact ⟨rfl, rfl⟩)] | rw [Yi (by simp [lk, Za, Od.v, g1]; exact rfl)] | rw [Zu] | rw [Zt] | rw [ZY] | rw [Yo] | rw [Ye] | rw [Yl] | rw [Yg] | rw [Yf] | rw [ZU] | rw [ZP] | rw [ZQ] | rw [ZI (by decide)] | rw [ZN] | rw [ZG] | rw [ZH] | rw [ZE (by decide)] | rw [Yq] | rw [Ym (by simp [ZF, Zy, ZA, ZB, Zp, Zf, Zm, Zi, Zk, Zc, Zd, Zj, Zq, Zr, ZC, ↓Zh, Zo, Zg, Zz, Zu, Zt, ZR, Zv, Yj, put, lk, Od.v, Za, Ze, Zl, Yv, Yb, Ya, Yd, ai, Yt, DV.isU, DV.cells, ae, ZJ, ZX, ZK, Zn, splice, DV.one, ZM, af, ZT, Ys, g1]; exact ⟨rfl, rfl⟩)] | rw [Yp (by simp [lk, Za, Od.v, g1]; exact rfl)] | rw [Yk]))
  simp [ZV, Zw, Yc, Za, lk, Zl, g3, Yv]
  exact hf
end Go.Proofs.YteekbciaggmfgaaDoor
namespace Go.Proofs.YteekbciaggmfgaaDoor
attribute [local go_sem] ZF Zy ZA ZB Zp Zf Zm Zi Zk Zc Zd Zj Zq Zr ZC Zo Zg Zz Zu Zt ZR Zv Yj put lk Od.v Za Ze Zl Yv Yb Ya Yd ai Yt DV.isU DV.cells ae ZJ ZX ZK Zn splice ZM af ZT Ys bz bR bL bf bP bu aZ bn bN bg bQ bj bq bh bU bV bK aQ aR
attribute [local go_sem ↓] Zh
set_option linter.unusedVariables false
set_option linter.unusedSimpArgs false
set_option maxRecDepth 10000
def zx (d : DV) (vs : List V) : Prop := (∃ c, d = .list 4 (vs.map V.d) c) ∨ (d = .nils ∧ vs = [])
theorem zx.vw {d : DV} {vs : List V} (h : zx d vs) (g : Zb) : vw g 4 d = some (vs.map V.d) := by
 rcases h with ⟨c, rfl⟩ | ⟨rfl, rfl⟩ <;> rfl
def jg (h : Zb) (H : Zb) (w : DV) (ws : List Nat) : Prop := (w = .nils ∧ ws = [] ∧ h = H) ∨ ∃ g, w = .row H.length g 0 ws.length false ∧ h = H ++ [.row 3 1 g (ws.map iD)]
theorem jg.vw {h H : Zb} {w : DV} {ws : List Nat} (hm : jg h H w ws) (L : Zb) : vw (h ++ L) 1 w = some (ws.map iD) := by
 rcases hm with ⟨rfl, rfl, rfl⟩ | ⟨g, rfl, rfl⟩
 ·rfl
 ·simp [Go.Proofs.YteekbciaggmfgaaDoor.vw, ZJ, List.take_of_length_le]
theorem jg.app {h H : Zb} {w : DV} {ws : List Nat} (hm : jg h H w ws) (hb : ws.length ≤ 1000000) (x : Nat) : ∃ w' h', aX h 3 1 8 w (ws.map iD) [iD x] = some (w', h') ∧ jg h' H w' (ws ++ [x]) := by
 have hle : ((ws.map iD).length + [iD x].length) * 8 ≤ 140737488355328 := by simp; omega
 rcases hm with ⟨rfl, rfl, rfl⟩ | ⟨g, rfl, rfl⟩
 ·exact ⟨_, _, by simp [aX], .inr ⟨0, rfl, rfl⟩⟩
 ·refine ⟨.row H.length (g + 1) 0 (ws.length + 1) false, H ++ [.row 3 1 (g + 1) ((ws ++ [x]).map iD)], ?_, .inr ⟨g + 1, by simp, rfl⟩⟩
  simp only [aX, if_pos hle, ZJ]
  simp [ZK]
theorem jg.ext {h H : Zb} {w : DV} {ws : List Nat} (hm : jg h H w ws) : ∃ L, h = H ++ L := by
 rcases hm with ⟨_, _, rfl⟩ | ⟨g, _, rfl⟩
 ·exact ⟨[], by simp⟩
 ·exact ⟨_, rfl⟩
theorem rF {H h : Zb} {W : DV} {ws : List Nat} (hW : WL W ws) (ht : h.take H.length = H) : fin H h [.agg [W]] = (.agg [W], H) := by
 simp only [fin]
 rw [if_pos ht]
 rcases hW with rfl | ⟨rfl, rfl⟩ <;> simp [aO, cL, aV]
def Mf (H h : Zb) : Prop := h.take H.length = H
theorem Mf.ex {H h : Zb} (u : Mf H h) : ∃ L, h = H ++ L := ⟨h.drop H.length, by
 have := List.take_append_drop H.length h
 rw [u] at this
 exact this.symm⟩
theorem me : ∀ (l ws : List Nat), (∀ x ∈ l, x < 65536) → ws.length ≤ 1024 → (l.foldl ez ws).length ≤ 1024
 | [], ws, _, h => h
 | x :: l, ws, hl, h => by
  rw [List.foldl_cons]
  refine me l _ (fun y hy => hl y (List.mem_cons_of_mem _ hy)) ?_
  have := hl x (List.mem_cons_self ..)
  rw [uQ]
  omega
theorem Fv {l : List Nat} (hl : ∀ x ∈ l, x < 65536) : (jk l).length ≤ 1024 := me l [] hl (by simp)
theorem V.nr (v : V) : Nr v.d := .agg (fun x hx => by
 simp at hx
 rcases hx with rfl | rfl | rfl | rfl
 ·exact .int _ _
 ·exact .int _ _
 ·exact .str _
 ·exact .bool _)
theorem zx.nr {d : DV} {vs : List V} (h : zx d vs) : Nr d := by
 rcases h with ⟨c, rfl⟩ | ⟨rfl, _⟩
 ·exact .list (fun x hx => by obtain ⟨v, _, rfl⟩ := List.mem_map.1 hx; exact v.nr)
 ·exact .nils
theorem Cn {n : Nat} (h : n < 18446744073709551616) : nH (uD n) = some n := by
 simp [nH, uD]; omega
theorem sS : ∀ {ws : List Nat}, WB ws → jW (ws.map uD) = some ws
 | [], _ => rfl
 | w :: ws, h => by
  simp only [List.map_cons, jW, Cn (h w (List.mem_cons_self ..)), sS (fun x hx => h x (List.mem_cons_of_mem _ hx))]
def pq (l : List Nat) : DV := if l = [] then .nils else .fresh 3 1 (l.map iD)
theorem Eo {W : DV} {ws : List Nat} (hW : WL W ws) (bw : WB ws) (hl : ws.length ≤ 1024) (H : Zb) : E X 13 [.agg [W], .int .i64 (-1)] H = some (pq (bitsOf ws 0), H) := by
 rw [K7 (X := X) (g := rD) H rfl, rD]
 rw [hW.vw]
 dsimp only
 rw [sS bw]
 dsimp only
 rw [if_pos ⟨by omega, rfl⟩]
 rfl
structure RefAt (H h : Zb) (n : Nat) (bl : List DV) (dn : List Bool) : Prop where
 pre : h.take H.length = H
 row : h[H.length]? = some (.row 4 1 0 bl)
 len : bl.length = n
 all : ∀ y ∈ bl, ∃ b, y = .bool b
 get : ∀ j, j < dn.length → bl[j]? = some (.bool (dn.getD j false))
theorem RefAt.len' {H h : Zb} {n : Nat} {bl : List DV} {dn : List Bool} (hR : RefAt H h n bl dn) : H.length < h.length := (List.getElem?_eq_some_iff.1 hR.row).1
theorem RefAt.vw {H h : Zb} {n : Nat} {bl : List DV} {dn : List Bool} (hR : RefAt H h n bl dn) (G : Zb) : vw (h ++ G) 1 (.row H.length 0 0 n false) = some bl := by
 have := hle hR.row G
 obtain rfl := hR.len
 simp [Go.Proofs.YteekbciaggmfgaaDoor.vw, this, List.take_of_length_le]
theorem RefAt.st {H h : Zb} {n : Nat} {bl : List DV} {dn : List Bool} (hR : RefAt H h n bl dn) (G : Zb) {i : Nat} (hi : i < n) (b : Bool) : stx (h ++ G) 1 (.elem (.row H.length 0 0 n false) 1 i 0) (.bool b) = some ((h ++ G).set H.length (.row 4 1 0 (bl.set i (.bool b)))) := by
 have h1 := hle hR.row G
 have hi' : i < bl.length := by rw [hR.len]; exact hi
 have h2 : bl[i]? = some bl[i] := List.getElem?_eq_getElem hi'
 rw [stx, if_pos (by simp [DV.cells, DV.one])]
 simp only [h1]
 rw [if_pos (by simp [hi, hR.len])]
 simp only [Nat.zero_add, h2]
 obtain ⟨b0, hb0⟩ := hR.all _ (List.getElem_mem hi')
 rw [hb0]
 simp [mW, DV.one]
theorem RefAt.next {H h : Zb} {n : Nat} {bl : List DV} {dn : List Bool} (hR : RefAt H h n bl dn) (G : Zb) (hi : dn.length < n) (b : Bool) : RefAt H ((h ++ G).set H.length (.row 4 1 0 (bl.set dn.length (.bool b)))) n (bl.set dn.length (.bool b)) (dn ++ [b]) where
 pre := by
  have := hR.len'
  rw [List.take_set, List.set_eq_of_length_le (by simp; omega), List.take_append_of_le_length (by omega)]
  exact hR.pre
 row := List.getElem?_set_self (by have := hR.len'; simp; omega)
 len := by simp [hR.len]
 all := by
  intro y hy
  rcases List.mem_or_eq_of_mem_set hy with hy | rfl
  ·exact hR.all y hy
  ·exact ⟨_, rfl⟩
 get := by
  intro j hj
  rw [List.length_append, List.length_singleton] at hj
  by_cases c : j = dn.length
  ·subst c
   rw [List.getElem?_set_self (by rw [hR.len]; exact hi)]
   simp [List.getD]
  ·rw [List.getElem?_set_ne (Ne.symm c), hR.get j (by omega)]
   simp [List.getD, List.getElem?_append_left (show j < dn.length by omega)]
section
variable {H1 : Zb} {L A R I6 : DV} {ds : List DV} {o : Nat} {ask col vk vn xa xb : Int} {vs' : ByteArray} {vt b8 b9 : Bool} {i : Nat}
end
def LD (d : DV) (ws : List Nat) : Prop := (d = .nils ∧ ws = []) ∨ d = .fresh 3 1 (ws.map iD)
theorem Bu {H h : Zb} {w : DV} {ws : List Nat} (hm : jg h H w ws) : ∃ d, fin H h [w] = (d, H) ∧ LD d ws := by
 rcases hm with ⟨rfl, rfl, rfl⟩ | ⟨g, rfl, rfl⟩
 ·exact ⟨.nils, by simp [fin, aO, aV], .inl ⟨rfl, rfl⟩⟩
 ·refine ⟨_, ?_, .inr rfl⟩
  have q1 : ∀ y ∈ ws.map iD, Nr y := by intro y hy; obtain ⟨z, _, rfl⟩ := List.mem_map.1 hy; exact .int _ _
  simp only [fin]
  rw [if_pos List.take_left]
  simp only [aO, aV]
  rw [if_neg (by omega), ZJ]
  simp only [List.getElem?_cons_zero]
  rw [if_pos ⟨rfl, by simp, q1⟩, if_pos (by simp)]
end Go.Proofs.YteekbciaggmfgaaDoor
namespace Go.Proofs.YteekbciaggmfgaaDoor
set_option linter.unusedVariables false
set_option linter.unusedSimpArgs false
theorem JV {ws : List Nat} {k : Nat} (h : ws.length ≤ k) : at_ ws k = 0 := by simp [at_, List.getD, List.getElem?_eq_none h]
theorem xU {ws : List Nat} {i : Nat} (h : 64 * ws.length ≤ i) : bit ws i = false := by
 rw [bit, JV (by omega)]; simp
theorem Ch (ws : List Nat) (n k : Nat) : at_ (dM ws n) k = at_ ws k := by
 simp only [at_, dM, List.getD]
 by_cases c : k < ws.length
 ·rw [List.getElem?_append_left c]
 ·rw [List.getElem?_append_right (by omega), List.getElem?_eq_none (l := ws) (by omega), List.getElem?_replicate]
  split <;> rfl
theorem FR (ws : List Nat) (x i : Nat) : bit (ez ws x) i = (bit ws i || decide (i = x)) := by
 have hl : x / 64 < (dM ws (x / 64 + 1)).length := by rw [qc]; omega
 simp only [bit, ez]
 by_cases c : i / 64 = x / 64
 ·rw [c]
  have : at_ ((dM ws (x / 64 + 1)).set (x / 64) (at_ (dM ws (x / 64 + 1)) (x / 64) ||| 2 ^ (x % 64))) (x / 64) = at_ (dM ws (x / 64 + 1)) (x / 64) ||| 2 ^ (x % 64) := by
   simp only [at_, List.getD]
   rw [List.getElem?_set_self hl]; rfl
  rw [this, Nat.testBit_or, Ch, Nat.testBit_two_pow]
  congr 1
  apply decide_eq_decide.2
  omega
 ·have : at_ ((dM ws (x / 64 + 1)).set (x / 64) (at_ (dM ws (x / 64 + 1)) (x / 64) ||| 2 ^ (x % 64))) (i / 64) = at_ (dM ws (x / 64 + 1)) (i / 64) := by
   simp only [at_, List.getD]
   rw [List.getElem?_set_ne (by omega)]
  rw [this, Ch]
  have : decide (i = x) = false := by simp; intro h; exact c (by rw [h])
  rw [this, Bool.or_false]
theorem tZ : ∀ (l ws : List Nat) (i : Nat), bit (l.foldl ez ws) i = (bit ws i || decide (i ∈ l))
 | [], ws, i => by simp
 | x :: l, ws, i => by
  rw [List.foldl_cons, tZ l, FR, Bool.or_assoc]
  congr 1
  simp
theorem vZ (l : List Nat) (i : Nat) : bit (jk l) i = decide (i ∈ l) := by
 rw [jk, tZ, xU (by simp)]; rfl
theorem zq (ws : List Nat) (i : Nat) (hi : i ≤ ws.length) : bitsOf (ws.take i) 0 = (List.range (64 * i)).filter (bit ws) := by
 induction i with
 | zero => simp [bitsOf]
 | succ i ih =>
  rw [lq ws 0 i (by omega), ih (by omega), Nat.mul_succ, List.range_add, List.filter_append]
  congr 1
  simp only [iF, List.filter_map, Nat.zero_add]
  have e1 : (List.range 64).filter (bit ws ∘ fun x => 64 * i + x) = (List.range 64).filter fun j => (pY ws i).testBit j := by
   apply List.filter_congr
   intro j hj
   have hj' := List.mem_range.1 hj
   simp only [Function.comp, bit]
   rw [show (64 * i + j) / 64 = i by omega, show (64 * i + j) % 64 = j by omega]
   rfl
  rw [e1, Nat.mul_comm]
theorem rU {ws : List Nat} {n : Nat} (h : ∀ i, n ≤ i → bit ws i = false) : bitsOf ws 0 = (List.range n).filter (bit ws) := by
 have h1 := zq ws ws.length (Nat.le_refl _)
 rw [List.take_length] at h1
 rw [h1]
 have key : ∀ a b, (∀ i, a ≤ i → bit ws i = false) → (List.range (a + b)).filter (bit ws) = (List.range a).filter (bit ws) := by
  intro a b ha
  rw [List.range_add, List.filter_append]
  have : ((List.range b).map (a + ·)).filter (bit ws) = [] := by
   rw [List.filter_eq_nil_iff]
   intro y hy
   obtain ⟨z, _, rfl⟩ := List.mem_map.1 hy
   rw [ha _ (by omega)]; simp
  rw [this, List.append_nil]
 rcases Nat.le_total n (64 * ws.length) with c | c
 ·obtain ⟨b, hb⟩ := Nat.le.dest c
  rw [← hb]; exact key n b h
 ·obtain ⟨b, hb⟩ := Nat.le.dest c
  rw [← hb]; exact (key _ b (fun i hi => xU hi)).symm
end Go.Proofs.YteekbciaggmfgaaDoor
namespace Go.Proofs.YteekbciaggmfgaaDoor
attribute [local go_sem] ZF Zy ZA ZB Zp Zf Zm Zi Zk Zc Zd Zj Zq Zr ZC Zo Zg Zz Zu Zt ZR Zv Yj put lk Od.v Za Ze Zl Yv Yb Ya Yd ai Yt DV.isU DV.cells ae ZJ ZX ZK Zn splice ZM af ZT Ys bz bR bL bf bP bu aZ bn bN bg bQ bj bq bh bU bV bK aQ aR
attribute [local go_sem ↓] Zh
set_option linter.unusedVariables false
set_option linter.unusedSimpArgs false
set_option maxRecDepth 10000
def vI (i : Int) : V := ⟨1, i, ⟨#[]⟩, false⟩
def ds0 : List DV := [.list 4 [(vI 3).d] true, .list 4 [V0.d] true, .list 4 [(vI 7).d] true]
theorem Ja {h : Zb} {A B : DV} {l : List Nat} (hA : vw h 1 A = some (l.map iD)) (hB : vw h 1 B = some (l.map iD)) (hl : l.length ≤ 1000000) : E X 12 [A, B] h = some (.bool true, h) := by
 have e : l.map iD = (l.map fun n : Nat => (n : Int)).map (.int .i64) := by simp [Function.comp_def]
 rw [e] at hA hB
 rw [yx hA hB (by simpa using hl)]
 simp
section
variable {L A : DV} {xs : List N} {ds : List DV} {rs : List (List V)}
end
end Go.Proofs.YteekbciaggmfgaaDoor
