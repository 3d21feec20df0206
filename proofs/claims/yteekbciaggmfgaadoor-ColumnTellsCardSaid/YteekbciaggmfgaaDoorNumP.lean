/- Ideal runs. -/
import Derived.Test.YteekbciaggmfgaaDoorPackP
import Derived.Test.YteekbciaggmfgaaDoorColH
import Derived.Test.YteekbciaggmfgaaDoorStep
import Derived.Test.YteekbciaggmfgaaDoorFltR
import Derived.Test.YteekbciaggmfgaaDoorColT
namespace Go.Proofs.YteekbciaggmfgaaDoor
set_option linter.unusedVariables false
set_option linter.unusedSimpArgs false
def ax (u : Nat) : List Nat := if h : u < 128 then [u] else (u % 128 + 128) :: ax (u / 128)
termination_by u
decreasing_by omega
theorem jD {u : Nat} (h : u < 128) : ax u = [u] := by rw [ax, dif_pos h]
theorem rR {u : Nat} (h : ¬ u < 128) : ax u = (u % 128 + 128) :: ax (u / 128) := by rw [ax, dif_neg h]
theorem FN : ∀ (k u : Nat), u < 128 ^ (k + 1) → (ax u).length ≤ k + 1 := by
 intro k
 induction k with
 | zero => intro u hu; rw [jD (by simpa using hu)]; simp
 | succ k ih =>
  intro u hu
  by_cases c : u < 128
  ·rw [jD c]; simp
  ·rw [rR c, List.length_cons]
   have : u / 128 < 128 ^ (k + 1) := by
    rw [Nat.div_lt_iff_lt_mul (by omega)]
    rw [Nat.pow_succ] at hu; exact hu
   have := ih _ this
   omega
theorem da {u : Nat} (h : u < 18446744073709551616) : (ax u).length ≤ 10 := FN 9 u (by omega)
theorem vU (u : Nat) : ax u ≠ [] := by
 by_cases c : u < 128
 ·rw [jD c]; simp
 ·rw [rR c]; simp
theorem Dx (a b : Nat) (h : b ≤ 1) : ax (2 * a + b) = if a < 64 then [2 * a + b] else (2 * (a % 64) + b + 128) :: ax (2 * (a / 64 / 2) + a / 64 % 2) := by
 by_cases c : a < 64
 ·rw [if_pos c, jD (by omega)]
 ·rw [if_neg c, rR (by omega)]
  rw [show (2 * a + b) % 128 + 128 = 2 * (a % 64) + b + 128 by omega, show (2 * a + b) / 128 = 2 * (a / 64 / 2) + a / 64 % 2 by omega]
def eV (n : Int) : Nat := if 0 ≤ n then 2 * n.toNat else 2 * (-(n + 1)).toNat + 1
theorem wL {n : Int} (h1 : -9223372036854775808 ≤ n) (h2 : n ≤ 9223372036854775807) : eV n < 18446744073709551616 := by
 unfold eV; split <;> omega
def vB (v : V) : List Nat := if v.k = 1 then ax (eV v.n) else if v.k = 2 then ax v.s.size ++ v.s.data.toList.map UInt8.toNat else if v.k = 3 then [if v.t then 1 else 0] else []
def zi (n : Nat) (ys : List V) (bs : List Nat) : List Nat := ax n ++ ax ys.length ++ (ys.flatMap fun v => v.k.toNat :: vB v) ++ bs
end Go.Proofs.YteekbciaggmfgaaDoor
namespace Go.Proofs.YteekbciaggmfgaaDoor
attribute [local go_sem] ZF Zy ZA ZB Zp Zf Zm Zi Zk Zc Zd Zj Zq Zr ZC Zo Zg Zz Zu Zt ZR Zv Yj put lk Od.v Za Ze Zl Yv Yb Ya Yd ai Yt DV.isU DV.cells ae ZJ ZX ZK Zn splice ZM af ZT Ys bz bR bL bf bP bu aZ bn bN bg bQ bj bq bh bU bV bK aQ aR
attribute [local go_sem ↓] Zh
set_option linter.unusedVariables false
set_option linter.unusedSimpArgs false
set_option linter.unusedSectionVars false
set_option maxRecDepth 10000
def Nt (d : DV) : Prop := (∃ sz l, d = .list sz l true) ∨ ∃ o g lo n, d = .row o g lo n true
def kL (T : Nat) (H h : Zb) (d : DV) (xs : List DV) : Prop := cE T 1 H h d xs ∨ (h.take H.length = H ∧ Nt d ∧ vw h 1 d = some xs)
section
variable {T : Nat} {H h : Zb} {d : DV} {xs : List DV}
theorem kL.pre (hg : kL T H h d xs) : h.take H.length = H := by
 rcases hg with hg | hg
 ·exact hg.1
 ·exact hg.1
theorem kL.vw (hg : kL T H h d xs) : Go.Proofs.YteekbciaggmfgaaDoor.vw h 1 d = some xs := by
 rcases hg with hg | hg
 ·exact hg.vw
 ·exact hg.2.2
theorem kL.app (hg : kL T H h d xs) (b : Nat) (ys : List DV) (hy : ys ≠ []) (hb : (xs.length + ys.length) * b ≤ 140737488355328) : ∃ d' h', aX h T 1 b d xs ys = some (d', h') ∧ cE T 1 H h' d' (xs ++ ys) := by
 rcases hg with hg | ⟨ht, hc, hv⟩
 ·exact hg.app b ys hb
 ·refine ⟨.row h.length 0 0 (xs.length + ys.length) false, h ++ [.row T 1 0 (xs ++ ys)], ?_, ?_⟩
  ·rcases hc with ⟨sz, l, rfl⟩ | ⟨o, g, lo, n, rfl⟩ <;> (simp only [aX, if_neg hy]; rw [if_pos hb])
  ·exact ⟨by rw [List.take_append_of_le_length (fG ht)]; exact ht, .inr ⟨0, h.length, by simp, fG ht, by simp⟩⟩
theorem xP (ht : h.take H.length = H) (hv : Go.Proofs.YteekbciaggmfgaaDoor.vw h 1 d = some xs) : ∃ d', dI h d 0 xs.length xs.length true = some (d', h) ∧ kL T H h d' xs := by
 rcases Cq hv with rfl | ⟨s, l, c, rfl⟩ | ⟨o, g, lo, n, c, rfl⟩
 ·have hx : xs = [] := by
   have h1 : some ([] : List DV) = some xs := hv
   injection h1 with h1; exact h1.symm
  subst hx
  exact ⟨.nils, rfl, .inl ⟨ht, .inl ⟨rfl, rfl⟩⟩⟩
 ·simp only [Go.Proofs.YteekbciaggmfgaaDoor.vw] at hv
  split at hv
  ·injection hv with hv; subst hv
   rename_i hs
   refine ⟨.list s l true, by simp [dI], .inr ⟨ht, .inl ⟨_, _, rfl⟩, ?_⟩⟩
   simp only [Go.Proofs.YteekbciaggmfgaaDoor.vw]
   rw [if_pos hs]
  ·cases hv
 ·have hn : xs.length = n := by
   simp only [Go.Proofs.YteekbciaggmfgaaDoor.vw] at hv
   cases hx : h[o]? with
   | none => rw [hx] at hv; cases hv
   | some x =>
    rw [hx] at hv
    cases x <;> simp at hv <;> (obtain ⟨q1, q2⟩ := hv; rw [← q2]; simp; omega)
  refine ⟨.row o g lo n true, by simp [dI, hn], .inr ⟨ht, .inr ⟨_, _, _, _, rfl⟩, ?_⟩⟩
  simp only [Go.Proofs.YteekbciaggmfgaaDoor.vw] at hv ⊢
  exact hv
end
theorem sI {T : Nat} {H : Zb} {l : List Nat} : fin H (H ++ [.row T 1 0 (l.map bD)]) [.row H.length 0 0 (l.map bD).length false] = (.fresh T 1 (l.map bD), H) := by
 have hg : cE T 1 H (H ++ [.row T 1 0 (l.map bD)]) (.row H.length 0 0 (l.map bD).length false) (l.map bD) := ⟨List.take_left, .inr ⟨0, H.length, rfl, Nat.le_refl _, by simp⟩⟩
 rcases hg.fin (fun x hx => by obtain ⟨y, _, rfl⟩ := List.mem_map.1 hx; exact .int _ _) with ⟨h1, _⟩ | ⟨_, h1⟩
 ·cases h1
 ·exact h1
theorem sO {d : DV} (h : d.one = true) : d.cells = [d] := by
 cases d <;> simp [DV.one] at h <;> rfl
theorem Kh {n : Int} (h1 : -9223372036854775808 ≤ n) (h2 : n ≤ 9223372036854775807) (H : Zb) : E X 82 [.int .i64 n] H = some (.int .u64 (eV n : Nat), H) := by
 have u0 : ∀ m : Int, 0 ≤ m → m < 18446744073709551616 → IntKind.u64.wrap m = m := fun m h3 h4 => by
  obtain ⟨k, rfl⟩ : ∃ k : Nat, m = k := ⟨m.toNat, by omega⟩
  exact pZ (by omega)
 have um : ∀ m : Int, IntKind.u64.wrap m = m % 18446744073709551616 := fun m => by simp [IntKind.wrap, IntKind.bits, IntKind.signed]
 unfold eV
 by_cases c : 0 ≤ n
 ·rw [if_pos c]
  have e1 : IntKind.u64.wrap n = n := u0 n c (by omega)
  have e2 : IntKind.u64.wrap (n * 2) = n * 2 := u0 _ (by omega) (by omega)
  have e3 : n.fdiv 9223372036854775808 = 0 := by rw [Int.fdiv_eq_ediv_of_nonneg _ (by omega)]; omega
  have e4 : IntKind.u64.wrap 0 = 0 := u0 _ (by omega) (by omega)
  have e5 : ((2 * n.toNat : Nat) : Int) = n * 2 := by omega
  have e6 : IntKind.u64.wrap (((BitVec.ofInt 64 (n * 2) ^^^ 0#64).toNat : Nat) : Int) = n * 2 := by
   rw [BitVec.xor_zero, BitVec.toNat_ofInt]
   rw [u0 _ (by omega) (by omega)]
   omega
  rw [e5]
  rw [ZO (X := X) _ BO _ rfl rfl]; unfold BO; refine Lc (d8 @e1 @e2 @e3 @e4) ?_; simp [Zw, ZV, Yc, go_sem, fin, aV, aO, bH, cL, dD, e1, e2, e3, e4, IntKind.bits]
  exact e6
 ·rw [if_neg c]
  have e1 : IntKind.u64.wrap n = n + 18446744073709551616 := by rw [um]; omega
  have e2 : IntKind.u64.wrap ((n + 18446744073709551616) * 2) = n * 2 + 18446744073709551616 := by rw [um]; omega
  have e3 : n.fdiv 9223372036854775808 = -1 := by rw [Int.fdiv_eq_ediv_of_nonneg _ (by omega)]; omega
  have e4 : IntKind.u64.wrap (-1) = 18446744073709551615 := by rw [um]; omega
  have e5 : ((2 * (-(n + 1)).toNat + 1 : Nat) : Int) = -2 * n - 1 := by omega
  have e6 : IntKind.u64.wrap (((BitVec.ofInt 64 (n * 2 + 18446744073709551616) ^^^ 18446744073709551615#64).toNat : Nat) : Int) = -2 * n - 1 := by
   rw [show 18446744073709551615#64 = BitVec.allOnes 64 from rfl, BitVec.xor_allOnes, BitVec.toNat_not, BitVec.toNat_ofInt]
   rw [u0 _ (by omega) (by omega)]
   omega
  rw [e5]
  rw [ZO (X := X) _ BO _ rfl rfl]; unfold BO; refine Lc (d8 @e1 @e2 @e3 @e4) ?_; simp [Zw, ZV, Yc, go_sem, fin, aV, aO, bH, cL, dD, e1, e2, e3, e4, IntKind.bits]
  exact e6
theorem KR {m : Nat} (h : m < 128) : IntKind.u8.wrap (((BitVec.ofInt 8 (m : Int) ||| BitVec.ofInt 8 128).toNat : Nat) : Int) = ((m + 128 : Nat) : Int) := by
 have e : (BitVec.ofInt 8 (m : Int) ||| BitVec.ofInt 8 128).toNat = m + 128 := by
  rw [BitVec.toNat_or, BitVec.ofInt_natCast, show BitVec.ofInt 8 128 = 128#8 from rfl, BitVec.toNat_ofNat, BitVec.toNat_ofNat]
  rw [Nat.mod_eq_of_lt (by omega : m < 2 ^ 8), Nat.mod_eq_of_lt (by omega : 128 < 2 ^ 8)]
  rw [Nat.or_comm]
  have := Nat.two_pow_add_eq_or_of_lt (i := 7) (b := m) (by omega) 1
  simp at this
  omega
 rw [e]
 exact gb (by omega)
theorem Hg {Hb : Zb} :
 ∀ (q u : Nat) (h : Zb) (d : DV) (l : List Nat), u ≤ q → u < 18446744073709551616 → l.length + (ax u).length ≤ 1000000 → kL 5 Hb h d (l.map bD) → ∃ ex h' d' v l', C X (.loop lP) [(0, d), (1, .int .u64 u)] h = some (.exit 0, (0, d') :: (1, .int .u64 (v : Nat)) :: ex, h') ∧ kL 5 Hb h' d' (l'.map bD) ∧ v < 128 ∧ l' ++ [v] = l ++ ax u := by
 intro q
 induction q with
 | zero =>
  intro u h d l hu AA hl hg
  obtain rfl : u = 0 := by omega
  refine ⟨[(12, .bool false)], h, d, 0, l, ?_, hg, by omega, by rw [jD (by omega)]⟩
  clear hg
  rw [Zx]
  unfold lP
  rw [show ((0 : Nat) : Int) = 0 from rfl]
  refine rn trivial ?_
  rw [ZS]
  simp [Za, lk]
 | succ q ih =>
  intro u h d l hu AA hl hg
  by_cases c : u < 128
  ·have c' : ¬ (128 : Int) ≤ (u : Int) := by omega
   have Jj : ¬ 128 ≤ u := by omega
   refine ⟨[(12, .bool false)], h, d, u, l, ?_, hg, c, by rw [jD c]⟩
   clear hg
   rw [Zx]
   unfold lP
   refine rn (cC @c' @Jj) ?_
   rw [ZS]
   simp [Za, lk]
  ·have c' : (128 : Int) ≤ (u : Int) := by omega
   have Jj : 128 ≤ u := by omega
   obtain ⟨M, hM⟩ : ∃ M, M = u % 128 := ⟨_, rfl⟩
   obtain ⟨Q, hQ⟩ : ∃ Q, Q = u / 128 := ⟨_, rfl⟩
   have AW := rR c
   rw [← hM, ← hQ] at AW
   have m1 : (u : Int).tmod 128 = (M : Int) := by rw [Int.tmod_eq_emod_of_nonneg (by omega)]; omega
   have m2 : IntKind.u8.wrap (M : Int) = (M : Int) := gb (by omega)
   have m3 := KR (m := M) (by omega)
   have m4 : (u : Int).tdiv 128 = (Q : Int) := by rw [Int.tdiv_eq_ediv_of_nonneg (by omega)]; omega
   have m5 : IntKind.u64.wrap (Q : Int) = (Q : Int) := pZ (by omega)
   obtain ⟨N, hN⟩ : ∃ N, N = M + 128 := ⟨_, rfl⟩
   rw [← hN] at m3 AW
   have m6 : Ya .or .u8 (M : Int) 128 = some (.int .u8 (N : Int)) := by
    show some (DV.int .u8 (IntKind.u8.wrap (((BitVec.ofInt 8 (M : Int) ||| BitVec.ofInt 8 128).toNat : Nat) : Int))) = _
    rw [m3]
   have m8 : IntKind.u8.wrap (((@HOr.hOr (BitVec 8) (BitVec 8) (BitVec 8) (@instHOrOfOrOp (BitVec IntKind.u8.bits) (@BitVec.instOrOp IntKind.u8.bits)) (BitVec.ofNat 8 M) (128#8)).toNat : Nat) : Int) = (N : Int) := by
    have h := m3
    rw [BitVec.ofInt_natCast] at h
    exact h
   rw [AW, List.length_cons] at hl
   obtain ⟨d2, h2, ha, hg2⟩ := hg.app 1 [bD N] (by simp) (by simp; omega)
   have hw := hg.vw
   rw [show l.map bD ++ [bD N] = (l ++ [N]).map bD by simp] at hg2
   obtain ⟨ex, h', d', v, l', hc, hg', hv, he⟩ := ih Q h2 d2 (l ++ [N]) (by omega) (by omega) (by rw [List.length_append, List.length_cons, List.length_nil]; omega) (.inl hg2)
   refine ⟨ex, h', d', v, l', ?_, hg', hv, by rw [he, AW]; simp⟩
   have y1 : ∀ h, cM [bD N] h = some ([bD N], h) := fun _ => rfl
   have y2 : Wc 1 (bD N) := by simp [Wc, DV.cells, DV.one]
   have y3 : Nr (bD N) := .int _ _
   have y4 : ∀ h, aJ h 1 (.list 1 [bD N] true) = some [bD N] := fun _ => rfl
   have hs : C X lP [(0, d), (1, .int .u64 u)] h = some (.norm, [(0, d2), (1, .int .u64 Q)], h2) := by
    clear ih hg hg2 hc hg' he AW hl
    generalize l.map bD = xs at *
    unfold lP
    refine rn (mU @c' @Jj @m1 @m2 @m8 @m4 @m5 @y1 @y2 @y3 @y4 @hw @ha) ?_
    simp [Za, lk]
   rw [Zx, hs, ZZ]
   exact hc
theorem Ee {H : Zb} {B : DV} {l : List Nat} {u : Nat} (hB : vw H 1 B = some (l.map bD)) (jA : B.one = true) (hu : u < 18446744073709551616) (hl : l.length ≤ 900000) : E X 59 [B, .int .u64 u] H = some (.fresh 5 1 ((l ++ ax u).map bD), H) := by
 have M7 := da hu
 obtain ⟨d, hsl, hg⟩ := xP (T := 5) (H := H) List.take_length hB
 obtain ⟨ex, h', d', v, l', hc, hg', hv, he⟩ := Hg u u H d l (Nat.le_refl _) hu (by omega) hg
 have vh : l'.length + 1 = l.length + (ax u).length := by
  have h9 := congrArg List.length he
  rw [List.length_append, List.length_append, List.length_cons, List.length_nil] at h9
  omega
 obtain ⟨d2, h2, ha, hg2⟩ := hg'.app 1 [bD v] (by simp) (by simp; omega)
 have hw := hg'.vw
 rw [show l'.map bD ++ [bD v] = (l ++ ax u).map bD by rw [← he]; simp] at hg2
 have hf : fin H h2 [d2] = (.fresh 5 1 ((l ++ ax u).map bD), H) := by
  rcases hg2.fin (fun x hx => by obtain ⟨y, _, rfl⟩ := List.mem_map.1 hx; exact .int _ _) with ⟨h1, _⟩ | ⟨_, h1⟩
  ·rcases hg2.2 with ⟨_, h3⟩ | ⟨g, o, h3, _⟩
   ·have h4 := congrArg List.length h3
    have := List.length_pos_iff.2 (vU u)
    rw [List.length_map, List.length_append, List.length_nil] at h4
    omega
   ·rw [h1] at h3; cases h3
  ·exact h1
 have m2 : IntKind.u8.wrap (v : Int) = (v : Int) := gb (by omega)
 have y1 : ∀ h, cM [bD v] h = some ([bD v], h) := fun _ => rfl
 have y2 : Wc 1 (bD v) := by simp [Wc, DV.cells, DV.one]
 have y3 : Nr (bD v) := .int _ _
 have y4 : ∀ h, aJ h 1 (.list 1 [bD v] true) = some [bD v] := fun _ => rfl
 have hBl : (l.map bD).length = l.length := List.length_map _
 rw [hBl] at hsl
 clear hg hg' hg2 he vh M7
 generalize (l ++ ax u).map bD = rs at *
 generalize l.map bD = xs at *
 generalize l'.map bD = DY at *
 rw [ZO (X := X) _ JG _ rfl rfl]; unfold JG
 refine NG (d8 @hB @hBl @hsl @jA) ?_
 refine aD ?_
 rw [hc]
 refine rn (kE @m2 @y1 @y2 @y3 @y4 @hw @ha) ?_
 simp only [Zw, Yc, lk, Za, List.map_cons, List.map_nil, reduceIte, Option.map_some, Nat.reduceEqDiff, hf]
theorem Kr {H : Zb} {B : DV} {l : List Nat} {n : Int} (hB : vw H 1 B = some (l.map bD)) (jA : B.one = true) (h1 : -9223372036854775808 ≤ n) (h2 : n ≤ 9223372036854775807) (hl : l.length ≤ 900000) : E X 61 [B, .int .i64 n] H = some (.fresh 5 1 ((l ++ ax (eV n)).map bD), H) := by
 have e1 := fun g => Kh h1 h2 g
 have e2 := Ee hB jA (wL h1 h2) hl
 have hf := sI (T := 5) (H := H) (l := l ++ ax (eV n))
 generalize (l ++ ax (eV n)).map bD = rs at *
 generalize eV n = z at *
 have hc := sO jA
 unfold DV.cells at hc
 rw [ZO (X := X) _ JF _ rfl rfl]; unfold JF
 refine rn (d8 @e1 @e2 @jA @hc) ?_
 simp only [Zw, Yc, lk, Za, List.map_cons, List.map_nil, reduceIte, Option.map_some, Nat.reduceEqDiff, hf]
theorem yw {H : Zb} {B : DV} {l : List Nat} {n : Nat} (hB : vw H 1 B = some (l.map bD)) (jA : B.one = true) (hn : n < 9223372036854775808) (hl : l.length ≤ 900000) : E X 35 [B, .int .i64 n] H = some (.fresh 5 1 ((l ++ ax n).map bD), H) := by
 have e2 := Ee (u := n) hB jA (by omega) hl
 have hf := sI (T := 5) (H := H) (l := l ++ ax n)
 have c0 : ¬ (n : Int) < 0 := by omega
 have w0 : IntKind.u64.wrap (n : Int) = (n : Int) := pZ (by omega)
 generalize (l ++ ax n).map bD = rs at *
 have hc := sO jA
 unfold DV.cells at hc
 rw [ZO (X := X) _ JO _ rfl rfl]; unfold JO
 refine rn (mh @e2 @jA @hc @c0 @w0) ?_
 simp only [Zw, Yc, lk, Za, List.map_cons, List.map_nil, reduceIte, Option.map_some, Nat.reduceEqDiff, hf]
def lh (v : V) : Prop := -9223372036854775808 ≤ v.n ∧ v.n ≤ 9223372036854775807
theorem mL {v : V} (h : aG v = true) : (v.k = 0 ∨ v.k = 1 ∨ v.k = 2 ∨ v.k = 3) := by
 unfold aG at h
 by_cases h1 : v.k = 1
 ·exact .inr (.inl h1)
 by_cases h2 : v.k = 2
 ·exact .inr (.inr (.inl h2))
 by_cases h3 : v.k = 3
 ·exact .inr (.inr (.inr h3))
 by_cases h4 : v.k = 0
 ·exact .inl h4
 ·simp [h1, h2, h3, h4] at h
theorem su {v : V} (h : aG v = true) (hk : v.k = 2) : v.s.size ≤ 64 := by
 unfold aG at h
 simp [hk] at h
 omega
theorem uq {v : V} (h : aG v = true) (hi : lh v) : (vB v).length ≤ 76 := by
 unfold vB
 have h1 := da (wL hi.1 hi.2)
 split
 ·omega
 ·split
  ·rename_i hk
   have h2 := su h hk
   have h3 := da (u := v.s.size) (by omega)
   rw [List.length_append, List.length_map]
   have : v.s.data.toList.length = v.s.size := by simp
   omega
  ·split <;> simp
theorem ng (s : ByteArray) : bytesOf s = (s.data.toList.map UInt8.toNat).map bD := by
 unfold bytesOf; rw [List.map_map]; rfl
theorem dS {T sz : Nat} {H h : Zb} {d : DV} {xs : List DV} (hg : cE T sz H h d xs) : d.one = true := by
 rcases hg.2 with ⟨rfl, _⟩ | ⟨g, o, rfl, _, _⟩ <;> rfl
theorem Eu (l : List Nat) : ∀ x ∈ l.map bD, Nr x := fun x hx => by obtain ⟨y, _, rfl⟩ := List.mem_map.1 hx; exact .int _ _
theorem kD {T : Nat} {H h : Zb} {d : DV} {l : List Nat} (hg : cE T 1 H h d (l.map bD)) (e : Int) : ∃ R, fin H h [d, .int .i64 e] = (.tup [R, .int .i64 e], H) ∧ aC R l := by
 obtain ⟨ht, hr⟩ := hg
 rcases hr with ⟨rfl, h0⟩ | ⟨g, o, rfl, h2, h3⟩
 ·exact ⟨.nils, by simp [fin, ht, bH, aO, aV], .inl ⟨rfl, List.map_eq_nil_iff.1 h0⟩⟩
 ·refine ⟨.list 1 (l.map bD) false, ?_, .inr rfl⟩
  simp only [fin]
  rw [if_pos ht]
  simp only [bH, aO, aV]
  rw [if_neg (by omega), h3]
  simp only
  rw [if_pos ⟨rfl, by simp, Eu l⟩]
  simp [List.take_of_length_le]
theorem ja {T : Nat} {Hb h : Zb} (ht : h.take Hb.length = Hb) (l : List Nat) : cE T 1 Hb (h ++ [.row T 1 0 (l.map bD)]) (.row h.length 0 0 (l.map bD).length false) (l.map bD) :=
 ⟨by rw [List.take_append_of_le_length (fG ht)]; exact ht, .inr ⟨0, h.length, rfl, fG ht, by simp⟩⟩
theorem Gh (t : Bool) (H : Zb) : E X 62 [.bool t] H = some (.int .i64 (if t = true then 1 else 0), H) := by
 cases t
 ·rw [ZO (X := X) _ rY _ rfl rfl]; unfold rY; exact kQ trivial
 ·rw [ZO (X := X) _ rY _ rfl rfl]; unfold rY; exact kQ trivial
set_option maxHeartbeats 1000000 in
theorem Kz {Hb h : Zb} {d : DV} {l : List Nat} {v : V} (hg : cE 5 1 Hb h d (l.map bD)) (hm : aG v = true) (hi : lh v) (hl : l.length ≤ 800000) : ∃ d' h', E X 36 [d, v.d] h = some (.tup [d', .int .i64 0], h') ∧ cE 5 1 Hb h' d' ((l ++ vB v).map bD) := by
 obtain ⟨h1, iW⟩ : ∃ h1, h1 = h ++ [HO.box 34 [.int .i64 v.k, .int .i64 v.n, .str v.s, .bool v.t]] := ⟨_, rfl⟩
 have hg1 : cE 5 1 Hb h1 d (l.map bD) := by rw [iW]; exact hg.ext _
 have iU := hg1.vw
 have cz := dS hg
 have hdc := sO cz
 unfold DV.cells at hdc
 have vR := fun g => pg v g
 rw [hm] at vR
 have vh : (l.map bD).length = l.length := List.length_map _
 rcases mL hm with hk | hk | hk | hk
 ·refine ⟨d, h1, ?_, by rw [show vB v = [] by simp [vB, hk], List.append_nil]; exact hg1⟩
  clear hg hg1 hm hi
  obtain ⟨vk, vn, vs', vt⟩ := v
  simp only [V.d] at *
  subst hk
  subst iW
  rw [uh (X := X) _ r5 _ rfl rfl]; unfold r5
  refine aT (ew @vR @cz @hdc) ?_
  simp only [k8, Yc, lk, Za, List.map_cons, List.map_nil, reduceIte, Option.map_some, Nat.reduceEqDiff, iJ]
 ·have ET := Kr (H := h1) (n := v.n) iU cz hi.1 hi.2 (by omega)
  refine ⟨_, _, ?_, by rw [show vB v = ax (eV v.n) by simp [vB, hk]]; exact ja hg1.1 (l ++ ax (eV v.n))⟩
  generalize (l ++ ax (eV v.n)).map bD = rs at *
  clear hg hg1 hm hi
  obtain ⟨vk, vn, vs', vt⟩ := v
  simp only [V.d] at *
  subst hk
  subst iW
  rw [uh (X := X) _ r5 _ rfl rfl]; unfold r5
  refine aT (d8 @vR @ET @cz @hdc) ?_
  simp only [k8, Yc, lk, Za, List.map_cons, List.map_nil, reduceIte, Option.map_some, Nat.reduceEqDiff, iJ, List.append_assoc, List.length_append, List.length_cons, List.length_nil, Nat.zero_add, List.cons_append, List.nil_append]
 ·have MN := su hm hk
  have I7 := yw (H := h1) (n := v.s.size) iU cz (by omega) (by omega)
  have hg2 := ja (T := 5) hg1.1 (l ++ ax v.s.size)
  have h10 := da (u := v.s.size) (by omega)
  have hsl : v.s.data.toList.length = v.s.size := by simp
  obtain ⟨d3, h3, ha, eH⟩ := hg2.app 1 (bytesOf v.s) (by rw [ng]; simp only [List.length_map, List.length_append]; omega)
  have hw := hg2.vw
  rw [ng, ← List.map_append, List.append_assoc, show ax v.s.size ++ v.s.data.toList.map UInt8.toNat = vB v by simp [vB, hk]] at eH
  refine ⟨d3, h3, ?_, eH⟩
  have y4 : ∀ h, aJ h 1 (.str v.s) = some (bytesOf v.s) := fun _ => rfl
  have kp := Zm h1 [HO.row 5 1 0 ((l ++ ax v.s.size).map bD)] (.row h1.length 0 0 ((l ++ ax v.s.size).map bD).length false)
  generalize (l ++ ax v.s.size).map bD = rs at *
  generalize bytesOf v.s = bsx at *
  clear hg hg1 hm hi hg2 eH
  obtain ⟨vk, vn, vs', vt⟩ := v
  simp only [V.d] at *
  subst hk
  subst iW
  simp only [List.append_assoc, List.length_append, List.length_cons, List.length_nil, Nat.zero_add, List.cons_append, List.nil_append] at hw ha kp
  rw [uh (X := X) _ r5 _ rfl rfl]; unfold r5
  refine aT (gN @vR @I7 @cz @hdc @hw @ha @kp @y4) ?_
  simp only [k8, Yc, lk, Za, List.map_cons, List.map_nil, reduceIte, Option.map_some, Nat.reduceEqDiff, iJ]
 ·obtain ⟨d2, hsl, hg2⟩ := xP (T := 5) (H := Hb) hg1.1 iU
  rw [vh] at hsl
  obtain ⟨K, hK⟩ : ∃ K : Nat, K = if v.t = true then 1 else 0 := ⟨_, rfl⟩
  have k9 := fun g => Gh v.t g
  have LX : (if v.t = true then (1 : Int) else 0) = (K : Int) := by rw [hK]; split <;> rfl
  rw [LX] at k9
  have m2 : IntKind.u8.wrap (K : Int) = (K : Int) := gb (by rw [hK]; split <;> omega)
  obtain ⟨d3, h3, ha, eH⟩ := hg2.app 1 [bD K] (by simp) (by simp only [List.length_map, List.length_cons, List.length_nil]; omega)
  have hw := hg2.vw
  rw [show l.map bD ++ [bD K] = (l ++ vB v).map bD by simp [vB, hk, hK]] at eH
  refine ⟨d3, h3, ?_, eH⟩
  have y1 : ∀ h, cM [bD K] h = some ([bD K], h) := fun _ => rfl
  have y2 : Wc 1 (bD K) := by simp [Wc, DV.cells, DV.one]
  have y3 : Nr (bD K) := .int _ _
  have y4 : ∀ h, aJ h 1 (.list 1 [bD K] true) = some [bD K] := fun _ => rfl
  generalize l.map bD = xs at *
  clear hg hg1 hm hi hg2 eH hK LX
  obtain ⟨vk, vn, vs', vt⟩ := v
  simp only [V.d] at *
  subst hk
  subst iW
  rw [uh (X := X) _ r5 _ rfl rfl]; unfold r5
  refine NF (zc @vR @k9 @m2 @cz @hdc @iU @vh @hsl @hw @ha @y1 @y2 @y3 @y4 @Zf) ?_
  simp only [k8, Yc, lk, Za, List.map_cons, List.map_nil, reduceIte, Option.map_some, Nat.reduceEqDiff, iJ]
def eN (ys : List V) : List Nat := ys.flatMap fun v => v.k.toNat :: vB v
theorem HC {Hb : Zb} {D : DV} {ys : List V} {b : Nat} (hD : ∀ g, vw g 4 D = some (ys.map V.d)) (hm : ∀ v ∈ ys, aG v = true) (hi : ∀ v ∈ ys, lh v) (iC : ys.length ≤ 256) :
 ∀ (q i : Nat) (h : Zb) (d : DV) (l : List Nat), ys.length - i ≤ q → i ≤ ys.length → l.length ≤ 100 + i * 100 → cE 5 1 Hb h d (l.map bD) → ∃ ex h' d', C X (.loop ou) [(1, .ref b 0), (4, d), (18, D), (19, .int .i64 ys.length), (20, .int .i64 i)] h = some (.exit 0, (1, .ref b 0) :: (4, d') :: ex, h') ∧ cE 5 1 Hb h' d' ((l ++ eN (ys.drop i)).map bD) ∧ (l ++ eN (ys.drop i)).length ≤ 100 + ys.length * 100 := by
 intro q
 induction q with
 | zero =>
  intro i h d l hq hk hl hg
  obtain rfl : i = ys.length := by omega
  refine ⟨[(18, D), (19, .int .i64 ys.length), (20, .int .i64 ys.length), (21, .bool false)], h, d, ?_, by rw [List.drop_length]; simpa [eN] using hg, by rw [List.drop_length]; simpa [eN] using hl⟩
  rw [Zx]
  unfold ou
  refine rn trivial ?_
  rw [ZS]
  simp [Za, lk]
 | succ q ih =>
  intro i h d l hq hk hl hg
  by_cases c : i < ys.length
  case neg => exact ih i h d l (by omega) hk hl hg
  obtain ⟨I, hI⟩ : ∃ I, I = i + 1 := ⟨_, rfl⟩
  have z1 : IntKind.i64.wrap ((i : Int) + 1) = (I : Int) := wr
  obtain ⟨v, hv⟩ : ∃ v, v = ys[i] := ⟨_, rfl⟩
  have qX := hm v (by rw [hv]; exact List.getElem_mem c)
  have iT := hi v (by rw [hv]; exact List.getElem_mem c)
  have hge : ys[i].d = .agg [.int .i64 v.k, .int .i64 v.n, .str v.s, .bool v.t] := by rw [← hv]
  obtain ⟨K, hK⟩ : ∃ K : Nat, K = v.k.toNat := ⟨_, rfl⟩
  have AR : v.k = (K : Int) ∧ K < 4 := by rcases mL qX with h | h | h | h <;> omega
  have m2 : IntKind.u8.wrap v.k = (K : Int) := by rw [AR.1]; exact gb (by omega)
  obtain ⟨h1, iW⟩ : ∃ h1, h1 = h ++ [HO.box 34 [.int .i64 v.k, .int .i64 v.n, .str v.s, .bool v.t]] := ⟨_, rfl⟩
  have hg1 : cE 5 1 Hb h1 d (l.map bD) := by rw [iW]; exact hg.ext _
  have hw := hg1.vw
  obtain ⟨d2, h2, ha, hg2⟩ := hg1.app 1 [bD K] (by simp only [List.length_map, List.length_cons, List.length_nil]; omega)
  rw [show l.map bD ++ [bD K] = (l ++ [K]).map bD by simp] at hg2
  have eR : h1[h.length]? = some (.box 34 [.int .i64 v.k, .int .i64 v.n, .str v.s, .bool v.t]) := by rw [iW]; simp
  have gB := wA ha eR
  obtain ⟨d3, h3, OZ, eH⟩ := Kz (v := v) hg2 qX iT (by rw [List.length_append, List.length_cons, List.length_nil]; omega)
  have hvl := uq qX iT
  have pQ : eN (ys.drop i) = K :: vB v ++ eN (ys.drop I) := by
   rw [hI, List.drop_eq_getElem_cons c, ← hv, hK]
   simp [eN]
  obtain ⟨ex, h', d', hc, hg', hl'⟩ := ih I h3 d3 ((l ++ [K]) ++ vB v) (by omega) (by omega) (by simp only [List.length_append, List.length_cons, List.length_nil]; omega) eH
  have hls : ((l ++ [K]) ++ vB v) ++ eN (ys.drop I) = l ++ eN (ys.drop i) := by rw [pQ]; simp
  rw [hls] at hg' hl'
  refine ⟨ex, h', d', ?_, hg', hl'⟩
  have y1 : ∀ h, cM [bD K] h = some ([bD K], h) := fun _ => rfl
  have y2 : Wc 1 (bD K) := by simp [Wc, DV.cells, DV.one]
  have y3 : Nr (bD K) := .int _ _
  have y4 : ∀ h, aJ h 1 (.list 1 [bD K] true) = some [bD K] := fun _ => rfl
  have iX := dS hg2
  have l6 := dS eH
  have hs : C X ou [(1, .ref b 0), (4, d), (18, D), (19, .int .i64 ys.length), (20, .int .i64 i)] h = some (.norm, [(1, .ref b 0), (4, d3), (18, D), (19, .int .i64 ys.length), (20, .int .i64 I)], h3) := by
   clear ih hg hg1 hg2 eH hc hg' hl' hls pQ hm hi qX iT hvl AR hl
   generalize l.map bD = xs at *
   subst iW
   obtain ⟨vk, vn, vs', vt⟩ := v
   simp only [V.d] at *
   unfold ou
   refine aT (vM @c @z1 @hD @hge @m2 @hw @ha @gB @OZ @iX @l6 @y1 @y2 @y3 @y4 @Zf) ?_
   simp [Za, lk]
  rw [Zx, hs, ZZ]
  exact hc
end Go.Proofs.YteekbciaggmfgaaDoor
