/- Ideal runs. -/
import Derived.Test.YteekbciaggmfgaaDoorStep
import Derived.Test.YteekbciaggmfgaaDoorPlainM
import Derived.Sort.AssemblyPlain
namespace Go.Proofs.YteekbciaggmfgaaDoor
attribute [local go_sem] ZF Zy ZA ZB Zp Zf Zm Zi Zk Zc Zd Zj Zq Zr ZC Zo Zg Zz Zu Zt ZR Zv Yj put lk Od.v Za Ze Zl Yv Yb Ya Yd ai Yt DV.isU DV.cells ae ZJ ZX ZK Zn splice ZM af ZT Ys bz bR bL bf bP bu aZ bn bN bg bQ bj bq bh bU bV bK aQ aR
attribute [local go_sem ↓] Zh
set_option linter.unusedVariables false
set_option linter.unusedSimpArgs false
set_option maxRecDepth 10000
theorem cF {H : Zb} {r n : Nat} (g : Nat) (d : Array V) (hr : r < H.length) (hd : d.size = n) : vw (hp H r g d) 4 (au r g n) = some (d.toList.map V.d) := by
 subst hd; exact rf g d hr
theorem cG {H : Zb} {r n : Nat} (g : Nat) (d : Array V) (hr : r < H.length) (hd : d.size = n) {i : Nat} (hi : i < n) : ay (hp H r g d) true 4 (.elem (au r g n) 4 i 0) = some (el d i).d := by
 subst hd; exact yL g d hr hi
theorem ig {H : Zb} {r n : Nat} (g : Nat) (d : Array V) (hr : r < H.length) (hd : d.size = n) {i : Nat} (hi : i < n) (v : V) : stx (hp H r g d) 4 (.elem (au r g n) 4 i 0) (.agg [.int .i64 v.k, .int .i64 v.n, .str v.s, .bool v.t]) = some (hp H r g (iG d i v)) := by
 subst hd; exact yK g d hr hi v
theorem dh {a b : V} (h : lt a b = true) : ord a b < 0 := by simpa [lt] using h
theorem di {a b : V} (h : lt a b = false) : ¬ ord a b < 0 := by simpa [lt] using h
theorem jd (hi first root : Nat) (d : Array V) : Go.Sort.siftDown lt hi first root d =
 if 2 * root + 1 ≥ hi then d else
  let c := if 2 * root + 1 + 1 < hi ∧ lt (el d (first + (2 * root + 1))) (el d (first + (2 * root + 1) + 1)) = true then 2 * root + 1 + 1 else 2 * root + 1
  if lt (el d (first + root)) (el d (first + c)) = true then Go.Sort.siftDown lt hi first c (Go.Sort.swp d (first + root) (first + c)) else d := by
 rw [Go.Sort.siftDown]
 by_cases h1 : 2 * root + 1 ≥ hi
 ·rw [dif_pos h1, if_pos h1]
 ·rw [dif_neg h1, if_neg h1]
  by_cases h2 : 2 * root + 1 + 1 < hi ∧ lt (el d (first + (2 * root + 1))) (el d (first + (2 * root + 1) + 1)) = true
  ·have h3 : (decide (2 * root + 1 + 1 < hi) && lt d[first + (2 * root + 1)]! d[first + (2 * root + 1) + 1]!) = true := by
    simp only [Bool.and_eq_true, decide_eq_true_eq]; exact h2
   rw [if_pos h3, if_pos h2]
   have h4 : lt d[first + root]! d[first + (2 * root + 2)]! = lt (el d (first + root)) (el d (first + (2 * root + 1 + 1))) := rfl
   rw [h4]
   cases h5 : lt (el d (first + root)) (el d (first + (2 * root + 1 + 1)))
   ·simp [h5]
   ·simp only [Bool.not_true, Bool.false_eq_true, if_false, if_true]
    rw [dif_pos (by omega), if_pos h5]
  ·have h3 : ¬ (decide (2 * root + 1 + 1 < hi) && lt d[first + (2 * root + 1)]! d[first + (2 * root + 1) + 1]!) = true := by
    simp only [Bool.and_eq_true, decide_eq_true_eq]; exact h2
   rw [if_neg h3, if_neg h2]
   have h4 : lt d[first + root]! d[first + (2 * root + 1)]! = lt (el d (first + root)) (el d (first + (2 * root + 1))) := rfl
   rw [h4]
   cases h5 : lt (el d (first + root)) (el d (first + (2 * root + 1)))
   ·simp [h5]
   ·simp [h5]
theorem FF {H : Zb} {r g n hi first : Nat} (hr : r < H.length) (hn : n ≤ 1000000) (hb : first + hi ≤ n) :
 ∀ (k root : Nat) (d : Array V), hi - root ≤ k → root < hi + 1 → d.size = n → ∃ ex e', (ex = .exit 0 ∨ ex = .ret) ∧ C X (.loop ei) [(0, au r g n), (2, .int .i64 hi), (3, .int .i64 first), (4, .func 69 [] []), (10, .int .i64 root)] (hp H r g d) = some (ex, e', hp H r g (Go.Sort.siftDown lt hi first root d)) := by
 intro k
 induction k with
 | zero =>
  intro root d hk hroot hd
  obtain rfl : root = hi := by omega
  obtain ⟨R, hR⟩ : ∃ R, R = 2 * root := ⟨_, rfl⟩
  obtain ⟨c, hc⟩ : ∃ c, c = 2 * root + 1 := ⟨_, rfl⟩
  have w1 : IntKind.i64.wrap (2 * (root : Int)) = (R : Int) := wr
  have w2 : IntKind.i64.wrap ((R : Int) + 1) = (c : Int) := wr
  have w3 : root ≤ c := by omega
  rw [jd, if_pos (by omega), Zx]
  unfold ei
  refine rn (ew @w1 @w2 @w3) ?_
  rw [ZS]
  exact ⟨_, _, .inl rfl, rfl⟩
 | succ k ih =>
  intro root d hk hroot hd
  obtain ⟨R, hR⟩ : ∃ R, R = 2 * root := ⟨_, rfl⟩
  obtain ⟨c, hc⟩ : ∃ c, c = 2 * root + 1 := ⟨_, rfl⟩
  have w1 : IntKind.i64.wrap (2 * (root : Int)) = (R : Int) := wr
  have w2 : IntKind.i64.wrap ((R : Int) + 1) = (c : Int) := wr
  rw [jd, ← hc]
  by_cases w3 : hi ≤ c
  ·rw [if_pos w3, Zx]
   unfold ei
   refine rn (ew @w1 @w2 @w3) ?_
   rw [ZS]
   exact ⟨_, _, .inl rfl, rfl⟩
  rw [if_neg w3]
  obtain ⟨c1, hc1⟩ : ∃ c1, c1 = c + 1 := ⟨_, rfl⟩
  obtain ⟨a, ha⟩ : ∃ a, a = first + c := ⟨_, rfl⟩
  obtain ⟨a1, ha1⟩ : ∃ a1, a1 = first + c + 1 := ⟨_, rfl⟩
  obtain ⟨b, hb'⟩ : ∃ b, b = first + root := ⟨_, rfl⟩
  have w4 : IntKind.i64.wrap ((c : Int) + 1) = (c1 : Int) := wr
  have w5 : IntKind.i64.wrap ((first : Int) + c) = (a : Int) := wr
  have w6 : IntKind.i64.wrap ((a : Int) + 1) = (a1 : Int) := wr
  have w7 : IntKind.i64.wrap ((first : Int) + c1) = (a1 : Int) := wr
  have w8 : IntKind.i64.wrap ((first : Int) + root) = (b : Int) := wr
  have u1 : a < n := by omega
  have u2 : b < n := by omega
  rw [← ha1, ← ha, ← hb', ← hc1]
  have fin : ∀ (c' a' : Nat), c' = c ∨ (c' = c1 ∧ c1 < hi) → a' = first + c' → C X ei [(0, au r g n), (2, .int .i64 hi), (3, .int .i64 first), (4, .func 69 [] []), (10, .int .i64 root)] (hp H r g d) =
   (if lt (el d b) (el d a') = true then some (.norm, [(0, au r g n), (2, .int .i64 hi), (3, .int .i64 first), (4, .func 69 [] []), (10, .int .i64 c')], hp H r g (Go.Sort.swp d b a')) else some (.ret, [(0, au r g n), (2, .int .i64 hi), (3, .int .i64 first), (4, .func 69 [] []), (10, .int .i64 root), (11, .int .i64 c'), (58, .bool true)], hp H r g d)) →
   ∃ ex e', (ex = .exit 0 ∨ ex = .ret) ∧ C X (.loop ei) [(0, au r g n), (2, .int .i64 hi), (3, .int .i64 first), (4, .func 69 [] []), (10, .int .i64 root)] (hp H r g d) = some (ex, e', hp H r g (if lt (el d b) (el d (first + c')) = true then Go.Sort.siftDown lt hi first c' (Go.Sort.swp d b (first + c')) else d)) := by
   intro c' a' h1 h2 h3
   rw [Zx, h3, ← h2]
   by_cases h4 : lt (el d b) (el d a') = true
   ·rw [if_pos h4, if_pos h4, ZZ]
    exact ih c' _ (by omega) (by omega) (by rw [swp_size, hd])
   ·rw [if_neg h4, if_neg h4, cQ]
    exact ⟨_, _, .inr rfl, rfl⟩
  by_cases h1 : c1 < hi
  ·have gM : ¬ hi ≤ c1 := by omega
   have u3 : a1 < n := by omega
   cases h2 : lt (el d a) (el d a1)
   ·rw [if_neg (show ¬ (c1 < hi ∧ false = true) by simp)]
    refine fin c a (.inl rfl) ha ?_
    have q1 := di h2
    cases h3 : lt (el d b) (el d a)
    ·have q2 := di h3
     unfold ei
     refine rn (vL @w1 @w2 @w3 @w4 @w5 @w6 @w7 @w8 @u1 @u2 @u3 @h1 @gM @hr @hd @cF @cG @bC @q1 @q2) ?_
     simp [Za, lk]
    ·have q2 := dh h3
     unfold ei
     rw [cW]
     refine rn (Dn @w1 @w2 @w3 @w4 @w5 @w6 @w7 @w8 @u1 @u2 @u3 @h1 @gM @hr @hd @cF @cG @ig @aW @bC @q1 @q2) ?_
     simp [Za, lk]
   ·rw [if_pos (show c1 < hi ∧ true = true from ⟨h1, rfl⟩)]
    refine fin c1 a1 (.inr ⟨rfl, h1⟩) (by omega) ?_
    have q1 := dh h2
    cases h3 : lt (el d b) (el d a1)
    ·have q2 := di h3
     unfold ei
     refine rn (vL @w1 @w2 @w3 @w4 @w5 @w6 @w7 @w8 @u1 @u2 @u3 @h1 @gM @hr @hd @cF @cG @bC @q1 @q2) ?_
     simp [Za, lk]
    ·have q2 := dh h3
     unfold ei
     rw [cW]
     refine rn (Dn @w1 @w2 @w3 @w4 @w5 @w6 @w7 @w8 @u1 @u2 @u3 @h1 @gM @hr @hd @cF @cG @ig @aW @bC @q1 @q2) ?_
     simp [Za, lk]
  ·rw [if_neg (show ¬ (c1 < hi ∧ lt (el d a) (el d a1) = true) from fun h => h1 h.1)]
   refine fin c a (.inl rfl) ha ?_
   cases h3 : lt (el d b) (el d a)
   ·have q2 := di h3
    unfold ei
    refine rn (zb @w1 @w2 @w3 @w4 @w5 @w6 @w7 @w8 @u1 @u2 @h1 @hr @hd @cF @cG @bC @q2) ?_
    simp [Za, lk]
   ·have q2 := dh h3
    unfold ei
    rw [cW]
    refine rn (sK @w1 @w2 @w3 @w4 @w5 @w6 @w7 @w8 @u1 @u2 @h1 @hr @hd @cF @cG @ig @aW @bC @q2) ?_
    simp [Za, lk]
theorem zU {H : Zb} {r g n hi first root : Nat} (hr : r < H.length) (hn : n ≤ 1000000) (hb : first + hi ≤ n) (hroot : root ≤ hi) (d : Array V) (hd : d.size = n) :
 E X 104 [au r g n, .int .i64 root, .int .i64 hi, .int .i64 first, .func 69 [] []] (hp H r g d) = some (.tup [], hp H r g (Go.Sort.siftDown lt hi first root d)) := by
 obtain ⟨ex, e', h1, h2⟩ := FF (H := H) (r := r) (g := g) (n := n) (hi := hi) (first := first) hr hn hb hi root d (by omega) (by omega) hd
 rw [ZO (X := X) _ DL _ rfl rfl]; unfold DL
 refine rn trivial ?_
 refine aD ?_
 rw [h2]
 rcases h1 with rfl | rfl
 ·refine rn trivial ?_
  simp [ZV, Yc, mg]
 ·refine rn trivial ?_
  simp [Zw, Yc, mg]
theorem jb {h h' : Zb} (hl : h'.length = h.length) {d : DV} (hd : d.plain = true) : fin h h' [d] = (d, h') := by
 have h1 : h'.take h.length = h' := by rw [← hl]; exact List.take_length
 rw [fin, h1]
 split
 ·rename_i h2
  rw [eS _ _ _ hd]
  simp only
  rw [h2]
 ·rfl
theorem mS {h h' : Zb} (hl : h'.length = h.length) {d e : DV} (hd : d.plain = true) (he : e.plain = true) : fin h h' [d, e] = (.tup [d, e], h') := by
 have h1 : h'.take h.length = h' := by rw [← hl]; exact List.take_length
 rw [fin, h1]
 ·split
  ·rename_i h2
   simp only [bH, eS _ _ _ hd, eS _ _ _ he]
   rw [h2]
  ·rfl
 ·intro d h; cases h
def hs (H : Zb) (r g : Nat) (d : Array V) (s : Nat) : Zb := hp (H ++ [.box 3 [.int .i64 s]]) r g d
theorem lW (H : Zb) (r g : Nat) (d : Array V) (s : Nat) : (hs H r g d s).length = H.length + 1 := by simp [hs, dW]
theorem qZ {H : Zb} {r : Nat} (g : Nat) (d : Array V) (s : Nat) (hr : r < H.length) : (hs H r g d s)[H.length]? = some (.box 3 [.int .i64 s]) := by
 rw [hs, hp, List.getElem?_set_ne (by omega : r ≠ H.length), ZJ]; rfl
theorem Ia {H : Zb} {r : Nat} (g : Nat) (d : Array V) (s s' : Nat) (hr : r < H.length) : (hs H r g d s).set H.length (.box 3 [.int .i64 s']) = hs H r g d s' := by
 simp only [hs, hp]
 rw [List.set_comm _ _ (by omega : r ≠ H.length), ZK]
 rfl
theorem KZ {H : Zb} {r n : Nat} (g : Nat) (d : Array V) (s : Nat) (hr : r < H.length) (hd : d.size = n) : vw (hs H r g d s) 4 (au r g n) = some (d.toList.map V.d) := cF g d (by simp; omega) hd
theorem ED {H : Zb} {r n : Nat} (g : Nat) (d : Array V) (s : Nat) (hr : r < H.length) (hd : d.size = n) {i : Nat} (hi : i < n) : ay (hs H r g d s) true 4 (.elem (au r g n) 4 i 0) = some (el d i).d := cG g d (by simp; omega) hd hi
theorem uG {H : Zb} {r g n a b s : Nat} (hr : r < H.length) (hn : n ≤ 1000000) (ha : a < n) (hb : b < n) (hs' : s ≤ 1000) (d : Array V) (hd : d.size = n) :
 E X 109 [au r g n, .int .i64 a, .int .i64 b, .ref H.length 0, .func 69 [] []] (hs H r g d s) = some (.tup [.int .i64 (Go.Sort.order2 lt d a b s).1, .int .i64 (Go.Sort.order2 lt d a b s).2.1], hs H r g d (Go.Sort.order2 lt d a b s).2.2) := by
 obtain ⟨S, hS⟩ : ∃ S, S = s + 1 := ⟨_, rfl⟩
 have w1 : IntKind.i64.wrap ((s : Int) + 1) = (S : Int) := wr
 have g1 := qZ g d s hr
 have g2 := Ia g d s S hr
 have v1 := KZ (n := n) g d s hr hd
 have r1 := ED (n := n) g d s hr hd ha
 have r2 := ED (n := n) g d s hr hd hb
 have h3 : Go.Sort.order2 lt d a b s = if lt (el d b) (el d a) = true then (b, a, S) else (a, b, s) := by rw [hS]; rfl
 rw [h3]
 cases h1 : lt (el d b) (el d a)
 ·have q := di h1
  rw [ZO (X := X) _ wm _ rfl rfl]; unfold wm
  refine aA (eJ @w1 @g1 @g2 @v1 @r1 @r2 @ha @hb @hd @bC @q) ?_
  simp only [Zw, Yc, Za, List.map_cons, List.map_nil, lk, reduceIte, Nat.reduceEqDiff, Option.map_some]
  rw [mS rfl rfl rfl]
  rfl
 ·have q := dh h1
  rw [ZO (X := X) _ wm _ rfl rfl]; unfold wm
  refine aA (eJ @w1 @g1 @g2 @v1 @r1 @r2 @ha @hb @hd @bC @q) ?_
  simp only [Zw, Yc, Za, List.map_cons, List.map_nil, lk, reduceIte, Nat.reduceEqDiff, Option.map_some]
  rw [mS (by rw [lW, lW]) rfl rfl]
theorem iv (d : Array V) (a b s : Nat) : ((Go.Sort.order2 lt d a b s).1 = a ∨ (Go.Sort.order2 lt d a b s).1 = b) ∧ ((Go.Sort.order2 lt d a b s).2.1 = a ∨ (Go.Sort.order2 lt d a b s).2.1 = b) ∧ (Go.Sort.order2 lt d a b s).2.2 ≤ s + 1 := by
 unfold Go.Sort.order2
 split <;> simp
theorem uH {H : Zb} {r g n a b c s : Nat} (hr : r < H.length) (hn : n ≤ 1000000) (ha : a < n) (hb : b < n) (hc : c < n) (hs' : s ≤ 900) (d : Array V) (hd : d.size = n) :
 E X 108 [au r g n, .int .i64 a, .int .i64 b, .int .i64 c, .ref H.length 0, .func 69 [] []] (hs H r g d s) = some (.int .i64 (Go.Sort.median lt d a b c s).1, hs H r g d (Go.Sort.median lt d a b c s).2) := by
 have i1 := iv d a b s
 have e1 := uG (H := H) (r := r) (g := g) hr hn ha hb (by omega : s ≤ 1000) d hd
 have hm : Go.Sort.median lt d a b c s = ((Go.Sort.order2 lt d (Go.Sort.order2 lt d a b s).1 (Go.Sort.order2 lt d (Go.Sort.order2 lt d a b s).2.1 c (Go.Sort.order2 lt d a b s).2.2).1 (Go.Sort.order2 lt d (Go.Sort.order2 lt d a b s).2.1 c (Go.Sort.order2 lt d a b s).2.2).2.2).2.1, (Go.Sort.order2 lt d (Go.Sort.order2 lt d a b s).1 (Go.Sort.order2 lt d (Go.Sort.order2 lt d a b s).2.1 c (Go.Sort.order2 lt d a b s).2.2).1 (Go.Sort.order2 lt d (Go.Sort.order2 lt d a b s).2.1 c (Go.Sort.order2 lt d a b s).2.2).2.2).2.2) := rfl
 rw [hm]
 generalize Go.Sort.order2 lt d a b s = o1 at e1 i1 ⊢
 obtain ⟨a1, b1, s1⟩ := o1
 simp only at e1 i1 ⊢
 have eR : b1 < n := by rcases i1.2.1 with h | h <;> omega
 have ha1 : a1 < n := by rcases i1.1 with h | h <;> omega
 have i2 := iv d b1 c s1
 have e2 := uG (H := H) (r := r) (g := g) hr hn eR hc (by omega : s1 ≤ 1000) d hd
 generalize Go.Sort.order2 lt d b1 c s1 = o2 at e2 i2 ⊢
 obtain ⟨b2, c2, s2⟩ := o2
 simp only at e2 i2 ⊢
 have gB : b2 < n := by rcases i2.1 with h | h <;> omega
 have i3 := iv d a1 b2 s2
 have e3 := uG (H := H) (r := r) (g := g) hr hn ha1 gB (by omega : s2 ≤ 1000) d hd
 generalize Go.Sort.order2 lt d a1 b2 s2 = o3 at e3 i3 ⊢
 obtain ⟨a3, b3, s3⟩ := o3
 simp only at e3 i3 ⊢
 rw [ZO (X := X) _ DG _ rfl rfl]; unfold DG
 refine aA (ew @e1 @e2 @e3) ?_
 simp only [Zw, Yc, Za, List.map_cons, List.map_nil, lk, reduceIte, Nat.reduceEqDiff, Option.map_some]
 rw [jb (by rw [lW, lW]) rfl]
theorem Ag (d : Array V) (a b c s : Nat) : ((Go.Sort.median lt d a b c s).1 = a ∨ (Go.Sort.median lt d a b c s).1 = b ∨ (Go.Sort.median lt d a b c s).1 = c) ∧ (Go.Sort.median lt d a b c s).2 ≤ s + 3 := by
 simp only [Go.Sort.median]
 have i1 := iv d a b s
 generalize Go.Sort.order2 lt d a b s = o1 at i1 ⊢
 have i2 := iv d o1.2.1 c o1.2.2
 generalize Go.Sort.order2 lt d o1.2.1 c o1.2.2 = o2 at i2 ⊢
 have i3 := iv d o1.1 o2.1 o2.2.2
 generalize Go.Sort.order2 lt d o1.1 o2.1 o2.2.2 = o3 at i3 ⊢
 omega
theorem jl (d : Array V) {a b c s lo hi : Nat} (ha : lo ≤ a) (ha' : a < hi) (hb : lo ≤ b) (hb' : b < hi) (hc : lo ≤ c) (dx : c < hi) : lo ≤ (Go.Sort.median lt d a b c s).1 ∧ (Go.Sort.median lt d a b c s).1 < hi ∧ (Go.Sort.median lt d a b c s).2 ≤ s + 3 := by
 have h := Ag d a b c s
 generalize Go.Sort.median lt d a b c s = m at h ⊢
 omega
theorem uI {H : Zb} {r g n a s : Nat} (hr : r < H.length) (hn : n ≤ 1000000) (ha0 : 1 ≤ a) (ha : a + 1 < n) (hs' : s ≤ 900) (d : Array V) (hd : d.size = n) :
 E X 107 [au r g n, .int .i64 a, .ref H.length 0, .func 69 [] []] (hs H r g d s) = some (.int .i64 (Go.Sort.medianAdjacent lt d a s).1, hs H r g d (Go.Sort.medianAdjacent lt d a s).2) := by
 obtain ⟨p, hp'⟩ : ∃ p, p = a - 1 := ⟨_, rfl⟩
 obtain ⟨q, hq⟩ : ∃ q, q = a + 1 := ⟨_, rfl⟩
 have w1 : IntKind.i64.wrap ((a : Int) - 1) = (p : Int) := wr
 have w2 : IntKind.i64.wrap ((a : Int) + 1) = (q : Int) := wr
 have e1 := uH (H := H) (r := r) (g := g) hr hn (by omega : p < n) (by omega : a < n) (by omega : q < n) hs' d hd
 have hm : Go.Sort.medianAdjacent lt d a s = Go.Sort.median lt d p a q s := by rw [hp', hq]; rfl
 rw [hm]
 rw [ZO (X := X) _ DI _ rfl rfl]; unfold DI
 refine aA (ew @w1 @w2 @e1) ?_
 simp only [Zw, Yc, Za, List.map_cons, List.map_nil, lk, reduceIte, Nat.reduceEqDiff, Option.map_some]
 rw [jb (by rw [lW, lW]) rfl]
def iI : Go.Sort.Hint → Int
 | .unknown => 0
 | .increasing => 1
 | .decreasing => 2
set_option maxHeartbeats 1000000 in
theorem Ea {H : Zb} {r g n a b : Nat} (hr : r < H.length) (hn : n ≤ 1000000) (hab : a < b) (hb : b ≤ n) (d : Array V) (hd : d.size = n) :
 E X 95 [au r g n, .int .i64 a, .int .i64 b, .func 69 [] []] (hp H r g d) = some (.tup [.int .i64 (Go.Sort.choosePivot lt d a b).1, .int .i64 (iI (Go.Sort.choosePivot lt d a b).2)], hp H r g d) ∧ a ≤ (Go.Sort.choosePivot lt d a b).1 ∧ (Go.Sort.choosePivot lt d a b).1 < b := by
 obtain ⟨l, hl⟩ : ∃ l, l = b - a := ⟨_, rfl⟩
 obtain ⟨l4, AP⟩ : ∃ l4, l4 = l / 4 := ⟨_, rfl⟩
 obtain ⟨fP, vi⟩ : ∃ fP, fP = l4 * 2 := ⟨_, rfl⟩
 obtain ⟨Ao, M3⟩ : ∃ Ao, Ao = l4 * 3 := ⟨_, rfl⟩
 obtain ⟨i, hi⟩ : ∃ i, i = a + l4 := ⟨_, rfl⟩
 obtain ⟨j, hj⟩ : ∃ j, j = a + fP := ⟨_, rfl⟩
 obtain ⟨k, hk⟩ : ∃ k, k = a + Ao := ⟨_, rfl⟩
 have w1 : IntKind.i64.wrap ((b : Int) - a) = (l : Int) := wr
 have w2 : IntKind.i64.wrap ((l : Int) / 4) = (l4 : Int) := wr
 have w3 : IntKind.i64.wrap ((l4 : Int)) = (l4 : Int) := wrap64 _ (by omega) (by omega)
 have w4 : IntKind.i64.wrap ((l4 : Int) * 2) = (fP : Int) := wr
 have w5 : IntKind.i64.wrap ((l4 : Int) * 3) = (Ao : Int) := wr
 have w6 : IntKind.i64.wrap ((a : Int) + l4) = (i : Int) := wr
 have w7 : IntKind.i64.wrap ((a : Int) + fP) = (j : Int) := wr
 have w8 : IntKind.i64.wrap ((a : Int) + Ao) = (k : Int) := wr
 have pL : (hp H r g d).length = H.length := dW H r g d
 have hst : ∀ s : Nat, hp H r g d ++ [HO.box 3 [.int .i64 s]] = hs H r g d s := fun s => by
  simp only [hs, hp]; rw [List.set_append_left _ _ hr]
 have qh : hp H r g d ++ [HO.box 3 [.int .i64 0]] = hs H r g d 0 := hst 0
 have hg : ∀ s : Nat, (hs H r g d s)[H.length]? = some (.box 3 [.int .i64 s]) := fun s => qZ g d s hr
 have ht : ∀ s : Nat, (hs H r g d s).take (hp H r g d).length = hp H r g d := fun s => by rw [← hst]; exact List.take_left
 have hdef : Go.Sort.choosePivot lt d a b = (let rr : Nat × Nat := if l ≥ 8 then (if l ≥ 50 then
  Go.Sort.median lt d (Go.Sort.medianAdjacent lt d i 0).1 (Go.Sort.medianAdjacent lt d j (Go.Sort.medianAdjacent lt d i 0).2).1 (Go.Sort.medianAdjacent lt d k (Go.Sort.medianAdjacent lt d j (Go.Sort.medianAdjacent lt d i 0).2).2).1 (Go.Sort.medianAdjacent lt d k (Go.Sort.medianAdjacent lt d j (Go.Sort.medianAdjacent lt d i 0).2).2).2
  else Go.Sort.median lt d i j k 0) else (j, 0)
  (rr.1, if rr.2 = 0 then .increasing else if rr.2 = 12 then .decreasing else .unknown)) := by
  rw [hi, hj, hk, vi, M3, AP, hl]
  simp only [Go.Sort.choosePivot, Nat.mul_one]
 have h0 : (hs H r g d 0)[H.length]? = some (.box 3 [.int .i64 0]) := qZ g d 0 hr
 have h12 : (hs H r g d 12)[H.length]? = some (.box 3 [.int .i64 12]) := qZ g d 12 hr
 have k7 : ∀ (s : Nat) (x y : DV), x.plain = true → y.plain = true → fin (hp H r g d) (hs H r g d s) [x, y] = (.tup [x, y], hp H r g d) := by
  intro s x y hx hy
  rw [← hst]; exact vK _ _ hx hy
 rw [hdef]
 by_cases g8 : l < 8
 ·have l9 : ¬ 8 ≤ l := by omega
  have i8 : ¬ (8 : Int) ≤ l := by omega
  refine ⟨?_, by simp [l9]; omega, by simp [l9]; omega⟩
  rw [ZO (X := X) _ kI _ rfl rfl]; unfold kI
  refine aA (Ng @w1 @w2 @w3 @w4 @w5 @w6 @w7 @w8 @i8 @g8 @l9 @pL @qh @h0) ?_
  simp only [Zw, Yc, Za, List.map_cons, List.map_nil, lk, reduceIte, Nat.reduceEqDiff, Option.map_some]
  rw [k7 _ _ _ rfl rfl]
  simp [l9, iI]
 have l9 : 8 ≤ l := by omega
 have i8 : (8 : Int) ≤ l := by omega
 by_cases g50 : l < 50
 ·have qm : ¬ 50 ≤ l := by omega
  have i50 : ¬ (50 : Int) ≤ l := by omega
  have e1 := uH (H := H) (r := r) (g := g) hr hn (by omega : i < n) (by omega : j < n) (by omega : k < n) (by omega : 0 ≤ 900) d hd
  have i1 := jl d (s := 0) (lo := a) (hi := b) (by omega : a ≤ i) (by omega) (by omega : a ≤ j) (by omega) (by omega : a ≤ k) (by omega)
  rw [if_pos l9, if_neg (by omega : ¬ l ≥ 50)]
  generalize Go.Sort.median lt d i j k 0 = m at e1 i1 ⊢
  obtain ⟨p, s⟩ := m
  simp only at e1 i1 ⊢
  refine ⟨?_, by omega, by omega⟩
  have Ip := hg s
  by_cases s0 : s = 0
  ·subst s0
   rw [ZO (X := X) _ kI _ rfl rfl]; unfold kI
   refine aA (za @w1 @w2 @w3 @w4 @w5 @w6 @w7 @w8 @i8 @i50 @g8 @l9 @g50 @qm @pL @qh @h0 @e1) ?_
   simp only [Zw, Yc, Za, List.map_cons, List.map_nil, lk, reduceIte, Nat.reduceEqDiff, Option.map_some]
   rw [k7 _ _ _ rfl rfl]
   rfl
  have Gc : ((s : Int) == 0) = false := by simpa using s0
  by_cases s1 : s = 12
  ·subst s1
   rw [ZO (X := X) _ kI _ rfl rfl]; unfold kI
   refine aA (za @w1 @w2 @w3 @w4 @w5 @w6 @w7 @w8 @i8 @i50 @g8 @l9 @g50 @qm @pL @qh @h12 @e1) ?_
   simp only [Zw, Yc, Za, List.map_cons, List.map_nil, lk, reduceIte, Nat.reduceEqDiff, Option.map_some]
   rw [k7 _ _ _ rfl rfl]
   rfl
  have s1' : ((s : Int) == 12) = false := by simp only [beq_eq_false_iff_ne, ne_eq]; omega
  rw [ZO (X := X) _ kI _ rfl rfl]; unfold kI
  refine aA (vL @w1 @w2 @w3 @w4 @w5 @w6 @w7 @w8 @i8 @i50 @g8 @l9 @g50 @qm @pL @qh @Ip @e1 @Gc @s1') ?_
  simp only [Zw, Yc, Za, List.map_cons, List.map_nil, lk, reduceIte, Nat.reduceEqDiff, Option.map_some]
  rw [k7 _ _ _ rfl rfl, if_neg s0, if_neg s1]
  rfl
 ·have qm : 50 ≤ l := by omega
  have i50 : (50 : Int) ≤ l := by omega
  have e1 := uI (H := H) (r := r) (g := g) (a := i) hr hn (by omega) (by omega) (by omega : 0 ≤ 900) d hd
  have i1 := jl d (s := 0) (lo := a) (hi := b) (by omega : a ≤ i - 1) (by omega) (by omega : a ≤ i) (by omega) (by omega : a ≤ i + 1) (by omega)
  rw [if_pos l9, if_pos (by omega : l ≥ 50)]
  have m1 : Go.Sort.medianAdjacent lt d i 0 = Go.Sort.median lt d (i - 1) i (i + 1) 0 := rfl
  rw [← m1] at i1
  generalize Go.Sort.medianAdjacent lt d i 0 = o1 at e1 i1 ⊢
  obtain ⟨p1, s1⟩ := o1
  simp only at e1 i1 ⊢
  have e2 := uI (H := H) (r := r) (g := g) (a := j) hr hn (by omega) (by omega) (by omega : s1 ≤ 900) d hd
  have i2 := jl d (s := s1) (lo := a) (hi := b) (by omega : a ≤ j - 1) (by omega) (by omega : a ≤ j) (by omega) (by omega : a ≤ j + 1) (by omega)
  have m2 : Go.Sort.medianAdjacent lt d j s1 = Go.Sort.median lt d (j - 1) j (j + 1) s1 := rfl
  rw [← m2] at i2
  generalize Go.Sort.medianAdjacent lt d j s1 = o2 at e2 i2 ⊢
  obtain ⟨p2, s2⟩ := o2
  simp only at e2 i2 ⊢
  have e3 := uI (H := H) (r := r) (g := g) (a := k) hr hn (by omega) (by omega) (by omega : s2 ≤ 900) d hd
  have i3 := jl d (s := s2) (lo := a) (hi := b) (by omega : a ≤ k - 1) (by omega) (by omega : a ≤ k) (by omega) (by omega : a ≤ k + 1) (by omega)
  have m3 : Go.Sort.medianAdjacent lt d k s2 = Go.Sort.median lt d (k - 1) k (k + 1) s2 := rfl
  rw [← m3] at i3
  generalize Go.Sort.medianAdjacent lt d k s2 = o3 at e3 i3 ⊢
  obtain ⟨p3, s3⟩ := o3
  simp only at e3 i3 ⊢
  have e4 := uH (H := H) (r := r) (g := g) hr hn (by omega : p1 < n) (by omega : p2 < n) (by omega : p3 < n) (by omega : s3 ≤ 900) d hd
  have i4 := jl d (s := s3) i1.1 i1.2.1 i2.1 i2.2.1 i3.1 i3.2.1
  generalize Go.Sort.median lt d p1 p2 p3 s3 = m at e4 i4 ⊢
  obtain ⟨p, s⟩ := m
  simp only at e4 i4 ⊢
  refine ⟨?_, by omega, by omega⟩
  have Ip := hg s
  by_cases s0 : s = 0
  ·subst s0
   rw [ZO (X := X) _ kI _ rfl rfl]; unfold kI
   refine aA (sJ @w1 @w2 @w3 @w4 @w5 @w6 @w7 @w8 @i8 @i50 @g8 @l9 @g50 @qm @pL @qh @h0 @e1 @e2 @e3 @e4) ?_
   simp only [Zw, Yc, Za, List.map_cons, List.map_nil, lk, reduceIte, Nat.reduceEqDiff, Option.map_some]
   rw [k7 _ _ _ rfl rfl]
   rfl
  have Gc : ((s : Int) == 0) = false := by simpa using s0
  by_cases s1 : s = 12
  ·subst s1
   rw [ZO (X := X) _ kI _ rfl rfl]; unfold kI
   refine aA (sJ @w1 @w2 @w3 @w4 @w5 @w6 @w7 @w8 @i8 @i50 @g8 @l9 @g50 @qm @pL @qh @h12 @e1 @e2 @e3 @e4) ?_
   simp only [Zw, Yc, Za, List.map_cons, List.map_nil, lk, reduceIte, Nat.reduceEqDiff, Option.map_some]
   rw [k7 _ _ _ rfl rfl]
   rfl
  have s1' : ((s : Int) == 12) = false := by simp only [beq_eq_false_iff_ne, ne_eq]; omega
  rw [ZO (X := X) _ kI _ rfl rfl]; unfold kI
  refine aA (Nf @w1 @w2 @w3 @w4 @w5 @w6 @w7 @w8 @i8 @i50 @g8 @l9 @g50 @qm @pL @qh @Ip @e1 @e2 @e3 @e4 @Gc @s1') ?_
  simp only [Zw, Yc, Za, List.map_cons, List.map_nil, lk, reduceIte, Nat.reduceEqDiff, Option.map_some]
  rw [k7 _ _ _ rfl rfl, if_neg s0, if_neg s1]
  rfl
theorem gT (hi first : Nat) : ∀ (k root : Nat) (d : Array V), hi - root ≤ k → (Go.Sort.siftDown lt hi first root d).size = d.size := by
 intro k
 induction k with
 | zero => intro root d h; rw [jd, if_pos (by omega)]
 | succ k ih =>
  intro root d h
  rw [jd]
  by_cases h1 : 2 * root + 1 ≥ hi
  ·rw [if_pos h1]
  ·rw [if_neg h1]
   simp only
   split
   ·split
    ·rw [ih _ _ (by omega), swp_size]
    ·rfl
   ·split
    ·rw [ih _ _ (by omega), swp_size]
    ·rfl
theorem CV {H : Zb} {r g n hi first : Nat} (hr : r < H.length) (hn : n ≤ 1000000) (hb : first + hi ≤ n) :
 ∀ (k : Nat) (d : Array V), d.size = n → k ≤ hi + 1 → ∃ x y, C X (.loop nU) [(0, au r g n), (3, .func 69 [] []), (8, .int .i64 first), (9, .int .i64 0), (10, .int .i64 hi), (11, .int .i64 ((k : Int) - 1))] (hp H r g d) =
  some (.exit 0, [(0, au r g n), (3, .func 69 [] []), (8, .int .i64 first), (9, .int .i64 0), (10, .int .i64 hi), (11, x), (21, y)], hp H r g (Go.Sort.heapBuild lt hi first k d)) ∧ (Go.Sort.heapBuild lt hi first k d).size = n := by
 intro k
 induction k with
 | zero =>
  intro d hd hk
  rw [Zx]
  unfold nU
  refine aA trivial ?_
  rw [ZS]
  exact ⟨_, _, by simp [Za, lk, Go.Sort.heapBuild]; exact ⟨rfl, rfl⟩, hd⟩
 | succ k ih =>
  intro d hd hk
  rw [show ((k + 1 : Nat) : Int) - 1 = (k : Int) by omega]
  have w1 : IntKind.i64.wrap ((k : Int) - 1) = (k : Int) - 1 := wrap64 _ (by omega) (by omega)
  have e1 := zU (H := H) (r := r) (g := g) (n := n) (hi := hi) (first := first) (root := k) hr hn hb (by omega) d hd
  have hs : C X nU [(0, au r g n), (3, .func 69 [] []), (8, .int .i64 first), (9, .int .i64 0), (10, .int .i64 hi), (11, .int .i64 k)] (hp H r g d) = some (.norm, [(0, au r g n), (3, .func 69 [] []), (8, .int .i64 first), (9, .int .i64 0), (10, .int .i64 hi), (11, .int .i64 ((k : Int) - 1))], hp H r g (Go.Sort.siftDown lt hi first k d)) := by
   unfold nU
   refine aA (cC @w1 @e1) ?_
   simp [Za, lk]
  rw [Zx, hs, ZZ, Go.Sort.heapBuild]
  exact ih _ (by rw [gT hi first hi k d (by omega), hd]) (by omega)
theorem CU {H : Zb} {r g n first : Nat} (hr : r < H.length) (hn : n ≤ 1000000) :
 ∀ (k : Nat) (d : Array V), d.size = n → first + k ≤ n → ∃ e', C X (.loop nS) [(0, au r g n), (3, .func 69 [] []), (8, .int .i64 first), (9, .int .i64 0), (12, .int .i64 ((k : Int) - 1))] (hp H r g d) =
  some (.exit 2, e', hp H r g (Go.Sort.heapPop lt first k d)) := by
 intro k
 induction k with
 | zero =>
  intro d hd hk
  rw [Zx]
  unfold nS
  refine aA trivial ?_
  rw [ZS]
  exact ⟨_, rfl⟩
 | succ k ih =>
  intro d hd hk
  rw [show ((k + 1 : Nat) : Int) - 1 = (k : Int) by omega]
  obtain ⟨b, hb⟩ : ∃ b, b = first + k := ⟨_, rfl⟩
  have w1 : IntKind.i64.wrap ((k : Int) - 1) = (k : Int) - 1 := wrap64 _ (by omega) (by omega)
  have w2 : IntKind.i64.wrap ((first : Int) + k) = (b : Int) := wr
  have u1 : first < n := by omega
  have u2 : b < n := by omega
  have e1 := zU (H := H) (r := r) (g := g) (n := n) (hi := k) (first := first) (root := 0) hr hn (by omega) (by omega) (Go.Sort.swp d first b) (by rw [swp_size, hd])
  rw [show ((0 : Nat) : Int) = 0 from rfl] at e1
  have hs : C X nS [(0, au r g n), (3, .func 69 [] []), (8, .int .i64 first), (9, .int .i64 0), (12, .int .i64 k)] (hp H r g d) = some (.norm, [(0, au r g n), (3, .func 69 [] []), (8, .int .i64 first), (9, .int .i64 0), (12, .int .i64 ((k : Int) - 1))], hp H r g (Go.Sort.siftDown lt k first 0 (Go.Sort.swp d first b))) := by
   unfold nS
   rw [cW] at *
   refine aA (eJ @w1 @w2 @e1 @u1 @u2 @hr @hd @cF @cG @ig @aW) ?_
   simp [Za, lk]
  rw [Zx, hs, ZZ, Go.Sort.heapPop, ← hb]
  exact ih _ (by rw [gT k first k 0 _ (by omega), swp_size, hd]) (by omega)
theorem Ka {H : Zb} {r g n a b : Nat} (hr : r < H.length) (hn : n ≤ 1000000) (hab : a < b) (hb : b ≤ n) (d : Array V) (hd : d.size = n) :
 E X 93 [au r g n, .int .i64 a, .int .i64 b, .func 69 [] []] (hp H r g d) = some (.tup [], hp H r g (Go.Sort.heapSort lt d a b)) := by
 obtain ⟨l, hl⟩ : ∃ l, l = b - a := ⟨_, rfl⟩
 obtain ⟨k, hk⟩ : ∃ k, k = (l - 1) / 2 + 1 := ⟨_, rfl⟩
 obtain ⟨m, hm⟩ : ∃ m, m = l - 1 := ⟨_, rfl⟩
 obtain ⟨x, y, c1, c2⟩ := CV (H := H) (r := r) (g := g) (n := n) (hi := l) (first := a) hr hn (by omega) k d hd (by omega)
 obtain ⟨e', c3⟩ := CU (H := H) (r := r) (g := g) (n := n) (first := a) hr hn l _ c2 (by omega)
 have hdef : Go.Sort.heapSort lt d a b = Go.Sort.heapPop lt a l (Go.Sort.heapBuild lt l a k d) := by rw [Go.Sort.heapSort, hk, hl]
 rw [hdef]
 have w1 : IntKind.i64.wrap ((b : Int) - a) = (l : Int) := wr
 have w2 : IntKind.i64.wrap ((l : Int) - 1) = (m : Int) := wr
 have w3 : IntKind.i64.wrap ((m : Int) / 2) = (k : Int) - 1 := wr
 have w4 : (l : Int) - 1 = (m : Int) := by omega
 rw [w4] at c3
 rw [ZO (X := X) _ Jp _ rfl rfl]; unfold Jp
 refine aA (ew @w1 @w2 @w3) ?_
 refine aD ?_
 rw [c1]
 refine aA (ew @w1 @w2 @w3) ?_
 refine aD ?_
 rw [c3]
 refine aA trivial ?_
 simp [ZV, Yc, mg]
theorem G5 {H : Zb} {r g n : Nat} (hr : r < H.length) (hn : n ≤ 1000000) :
 ∀ (k i j : Nat) (d : Array V), j - i ≤ k → d.size = n → j < n → i ≤ j + 1 → ∃ e', C X (.loop nR) [(0, au r g n), (8, .int .i64 i), (9, .int .i64 j)] (hp H r g d) =
  some (.exit 0, e', hp H r g (Go.Sort.reverseLoop i j d)) := by
 intro k
 induction k with
 | zero =>
  intro i j d hk hd hj hi
  have w0 : ¬ i < j := by omega
  rw [Zx]
  unfold nR
  refine aA @w0 ?_
  rw [ZS, Go.Sort.reverseLoop, if_neg w0]
  exact ⟨_, rfl⟩
 | succ k ih =>
  intro i j d hk hd hj hi
  by_cases w0 : i < j
  ·obtain ⟨I, hI⟩ : ∃ I, I = i + 1 := ⟨_, rfl⟩
   obtain ⟨J, hJ⟩ : ∃ J, J = j - 1 := ⟨_, rfl⟩
   have w1 : IntKind.i64.wrap ((i : Int) + 1) = (I : Int) := wr
   have w2 : IntKind.i64.wrap ((j : Int) - 1) = (J : Int) := wr
   have u1 : i < n := by omega
   have hs : C X nR [(0, au r g n), (8, .int .i64 i), (9, .int .i64 j)] (hp H r g d) = some (.norm, [(0, au r g n), (8, .int .i64 I), (9, .int .i64 J)], hp H r g (Go.Sort.swp d i j)) := by
    unfold nR
    rw [cW]
    refine aA (eJ @w0 @w1 @w2 @u1 @hj @hr @hd @cF @cG @ig @aW) ?_
    simp [Za, lk]
   rw [Zx, hs, ZZ, Go.Sort.reverseLoop, if_pos w0, ← hI, ← hJ]
   exact ih I J _ (by omega) (by rw [swp_size, hd]) (by omega) (by omega)
  ·exact ih i j d (by omega) hd hj hi
theorem J8 {H : Zb} {r g n a b : Nat} (hr : r < H.length) (hn : n ≤ 1000000) (hab : a < b) (hb : b ≤ n) (d : Array V) (hd : d.size = n) :
 E X 96 [au r g n, .int .i64 a, .int .i64 b, .func 69 [] []] (hp H r g d) = some (.tup [], hp H r g (Go.Sort.reverseRange d a b)) := by
 obtain ⟨j, hj⟩ : ∃ j, j = b - 1 := ⟨_, rfl⟩
 have w1 : IntKind.i64.wrap ((b : Int) - 1) = (j : Int) := wr
 obtain ⟨e', c1⟩ := G5 (H := H) (r := r) (g := g) (n := n) hr hn n a j d (by omega) hd (by omega) (by omega)
 rw [Go.Sort.reverseRange, ← hj]
 rw [ZO (X := X) _ Jo _ rfl rfl]; unfold Jo
 refine aA @w1 ?_
 refine aD ?_
 rw [c1]
 refine aA trivial ?_
 simp [ZV, Yc, mg]
theorem D7 (x : UInt64) (k : Nat) (hk : k < 64) : IntKind.u64.wrap ((x.toNat : Int) * 2 ^ min k IntKind.u64.bits) = ((x <<< (UInt64.ofNat k)).toNat : Int) := by
 rw [show min k IntKind.u64.bits = k from Nat.min_eq_left (by simp [IntKind.bits]; omega), show (x.toNat : Int) * 2 ^ k = ((x.toNat * 2 ^ k : Nat) : Int) by simp, fB]
 rw [UInt64.toNat_shiftLeft, UInt64.toNat_ofNat', Nat.mod_eq_of_lt (by omega : k < 2 ^ 64), Nat.mod_eq_of_lt hk, Nat.shiftLeft_eq]
theorem J5 (x : UInt64) (k : Nat) (hk : k < 64) : (x.toNat : Int).fdiv (2 ^ min k IntKind.u64.bits) = ((x >>> (UInt64.ofNat k)).toNat : Int) := by
 rw [show min k IntKind.u64.bits = k from Nat.min_eq_left (by simp [IntKind.bits]; omega)]
 rw [UInt64.toNat_shiftRight, UInt64.toNat_ofNat', Nat.mod_eq_of_lt (by omega : k < 2 ^ 64), Nat.mod_eq_of_lt hk, Nat.shiftRight_eq_div_pow]
 rw [Int.fdiv_eq_ediv_of_nonneg _ (Int.pow_nonneg (by omega))]
 simp
theorem x8 (x y : UInt64) : IntKind.u64.wrap ((x.toNat % 2 ^ IntKind.u64.bits ^^^ y.toNat % 2 ^ IntKind.u64.bits : Nat) : Int) = ((x ^^^ y).toNat : Int) := by
 have hb : 2 ^ IntKind.u64.bits = 18446744073709551616 := rfl
 have h1 := x.toNat_lt
 have h2 := y.toNat_lt
 rw [hb, Nat.mod_eq_of_lt h1, Nat.mod_eq_of_lt h2, fB, UInt64.toNat_xor, Nat.mod_eq_of_lt]
 exact Nat.xor_lt_two_pow (n := 64) h1 h2
theorem K4 (x : UInt64) (m : Nat) (hm : m < 18446744073709551616) : IntKind.u64.wrap ((x.toNat % 2 ^ IntKind.u64.bits &&& m % 2 ^ IntKind.u64.bits : Nat) : Int) = ((x.toNat &&& m : Nat) : Int) := by
 have hb : 2 ^ IntKind.u64.bits = 18446744073709551616 := rfl
 have h1 := x.toNat_lt
 rw [hb, Nat.mod_eq_of_lt h1, Nat.mod_eq_of_lt hm, fB, Nat.mod_eq_of_lt]
 exact Nat.lt_of_le_of_lt Nat.and_le_right hm
theorem KN (k : Nat) (hk : k < 64) : IntKind.u64.wrap (2 ^ min k IntKind.u64.bits) = ((1 <<< k : Nat) : Int) := by
 rw [show min k IntKind.u64.bits = k from Nat.min_eq_left (by simp [IntKind.bits]; omega), show (2 : Int) ^ k = ((2 ^ k : Nat) : Int) by simp, fB, Nat.one_shiftLeft, Nat.mod_eq_of_lt]
 exact Nat.pow_lt_pow_right (by omega : 1 < 2) hk
theorem GI {h : Zb} {q t : Nat} (x : UInt64) (hq : h[q]? = some (.box t [.int .u64 x.toNat])) : E X 106 [.ref q 0] h = some (.int .u64 (Go.Sort.xorNext x).toNat, h.set q (.box t [.int .u64 (Go.Sort.xorNext x).toNat])) := by
 have hl : q < h.length := (List.getElem?_eq_some_iff.1 hq).1
 have a1 := D7 x 13 (by omega)
 have a2 := x8 x (x <<< UInt64.ofNat 13)
 obtain ⟨y, hy⟩ : ∃ y, y = x ^^^ (x <<< UInt64.ofNat 13) := ⟨_, rfl⟩
 rw [← hy] at a2
 have b1 := J5 y 7 (by omega)
 have b2 := x8 y (y >>> UInt64.ofNat 7)
 obtain ⟨z, hz⟩ : ∃ z, z = y ^^^ (y >>> UInt64.ofNat 7) := ⟨_, rfl⟩
 rw [← hz] at b2
 have c1 := D7 z 17 (by omega)
 have c2 := x8 z (z <<< UInt64.ofNat 17)
 have hdef : Go.Sort.xorNext x = z ^^^ (z <<< UInt64.ofNat 17) := by rw [hz, hy]; rfl
 rw [← hdef] at c2
 generalize Go.Sort.xorNext x = w at c2 ⊢
 generalize x <<< UInt64.ofNat 13 = x' at a1 a2
 generalize y >>> UInt64.ofNat 7 = y' at b1 b2
 generalize z <<< UInt64.ofNat 17 = z' at c1 c2
 have g1 : ∀ B : HO, (h.set q B)[q]? = some B := fun B => List.getElem?_set_self hl
 have g2 : ∀ B B' : HO, (h.set q B).set q B' = h.set q B' := fun B B' => List.set_set ..
 rw [ZO (X := X) _ DJ _ rfl rfl]; unfold DJ
 refine Mt (gN @g1 @g2 @a1 @a2 @b1 @b2 @c1 @c2) ?_
 simp only [Zw, Yc, Za, List.map_cons, List.map_nil, lk, reduceIte, Nat.reduceEqDiff, Option.map_some]
 rw [jb (by simp) rfl]
theorem GJ (n : Nat) (hn : n < 256) (h : Zb) : E X 105 [.int .i64 n] h = some (.int .u64 (1 <<< Go.Sort.bitsLen n : Nat), h) := by
 have e1 := Eb n hn
 have w1 : IntKind.u64.wrap (n : Int) = n := by rw [fB, Nat.mod_eq_of_lt (by omega)]
 have h8 := ni n hn
 have w2 := KN (Go.Sort.bitsLen n) (by omega)
 generalize 1 <<< Go.Sort.bitsLen n = m at w2 ⊢
 generalize Go.Sort.bitsLen n = l at e1 w2
 have w3 : ¬ (l : Int) < 0 := by omega
 rw [ZO (X := X) _ DK _ rfl rfl]; unfold DK; exact NH (d8 @e1 @w1 @w2 @w3)
def hx (H : Zb) (r g : Nat) (d : Array V) (x : UInt64) : Zb := hp (H ++ [.box 133 [.int .u64 x.toNat]]) r g d
theorem HY {H : Zb} {r : Nat} (g : Nat) (d : Array V) (x : UInt64) (hr : r < H.length) : (hx H r g d x)[H.length]? = some (.box 133 [.int .u64 x.toNat]) := by
 rw [hx, hp, List.getElem?_set_ne (by omega : r ≠ H.length), ZJ]; rfl
theorem HX {H : Zb} {r : Nat} (g : Nat) (d : Array V) (x y : UInt64) (hr : r < H.length) : (hx H r g d x).set H.length (.box 133 [.int .u64 y.toNat]) = hx H r g d y := by
 simp only [hx, hp]
 rw [List.set_comm _ _ (by omega : r ≠ H.length), ZK]
 rfl
theorem EB {H : Zb} {r n : Nat} (g : Nat) (d : Array V) (s : UInt64) (hr : r < H.length) (hd : d.size = n) : vw (hx H r g d s) 4 (au r g n) = some (d.toList.map V.d) := cF g d (by simp; omega) hd
theorem EC {H : Zb} {r n : Nat} (g : Nat) (d : Array V) (s : UInt64) (hr : r < H.length) (hd : d.size = n) {i : Nat} (hi : i < n) : ay (hx H r g d s) true 4 (.elem (au r g n) 4 i 0) = some (el d i).d := cG g d (by simp; omega) hd hi
theorem EA {H : Zb} {r n : Nat} (g : Nat) (d : Array V) (s : UInt64) (hr : r < H.length) (hd : d.size = n) {i : Nat} (hi : i < n) (v : V) : stx (hx H r g d s) 4 (.elem (au r g n) 4 i 0) (.agg [.int .i64 v.k, .int .i64 v.n, .str v.s, .bool v.t]) = some (hx H r g (iG d i v) s) := ig g d (by simp; omega) hd hi v
theorem ux {H : Zb} {r g n a l m i : Nat} (hr : r < H.length) (hn : n ≤ 1000000) (hal : a + l ≤ n) (hl : 8 ≤ l) (hm : m = 1 <<< Go.Sort.bitsLen l) (lY : l < 256) (hi : i ≤ a + l / 4 * 2 + 1) (d : Array V) (hd : d.size = n) (x : UInt64) :
 C X kg [(0, au r g n), (1, .int .i64 a), (8, .int .i64 l), (9, .ref H.length 0), (10, .int .u64 m), (11, .int .i64 i)] (hx H r g d x) =
  some (.norm, [(0, au r g n), (1, .int .i64 a), (8, .int .i64 l), (9, .ref H.length 0), (10, .int .u64 m), (11, .int .i64 (i + 1 : Nat))], hx H r g (Go.Sort.breakStep a l m (x, d) i).2 (Go.Sort.breakStep a l m (x, d) i).1) := by
 obtain ⟨y, hy⟩ : ∃ y, y = Go.Sort.xorNext x := ⟨_, rfl⟩
 obtain ⟨M, hM⟩ : ∃ M, M = m - 1 := ⟨_, rfl⟩
 obtain ⟨o, ho⟩ : ∃ o, o = y.toNat &&& M := ⟨_, rfl⟩
 obtain ⟨l4, AP⟩ : ∃ l4, l4 = l / 4 := ⟨_, rfl⟩
 obtain ⟨fP, vi⟩ : ∃ fP, fP = l4 * 2 := ⟨_, rfl⟩
 obtain ⟨p, hp'⟩ : ∃ p, p = a + fP := ⟨_, rfl⟩
 obtain ⟨p1, hp1⟩ : ∃ p1, p1 = p + 1 := ⟨_, rfl⟩
 obtain ⟨I, hI⟩ : ∃ I, I = i + 1 := ⟨_, rfl⟩
 have Ik : m ≤ 2 * l := by
  rw [hm, Nat.one_shiftLeft, Go.Sort.bitsLen, if_neg (by omega), Nat.pow_succ]
  have := Nat.log2_self_le (show l ≠ 0 by omega)
  omega
 have Il : 1 ≤ m := by rw [hm, Nat.one_shiftLeft]; exact Nat.pos_of_ne_zero (by simp)
 have Pg : o ≤ M := by rw [ho]; exact Nat.and_le_right
 have e1 := GI x (HY g d x hr)
 rw [← hy, HX g d x y hr] at e1
 have wM : IntKind.u64.wrap ((m : Int) - 1) = (M : Int) := by
  rw [show (m : Int) - 1 = ((M : Nat) : Int) by omega, fB, Nat.mod_eq_of_lt (by omega)]
 have wo := K4 y M (by omega)
 rw [← ho] at wo
 have w0 : IntKind.i64.wrap ((l : Int) / 4) = (l4 : Int) := wr
 have w1 : IntKind.i64.wrap ((l4 : Int) * 2) = (fP : Int) := wr
 have w2 : IntKind.i64.wrap ((a : Int) + fP) = (p : Int) := wr
 have w3 : IntKind.i64.wrap ((p : Int) + 1) = (p1 : Int) := wr
 have w4 : IntKind.i64.wrap (o : Int) = (o : Int) := wrap64 _ (by omega) (by omega)
 have w5 : IntKind.i64.wrap ((i : Int) + 1) = (I : Int) := wr
 have c0 : i ≤ p1 := by omega
 have u1 : i < n := by omega
 rw [← hI]
 have hdef : Go.Sort.breakStep a l m (x, d) i = (y, Go.Sort.swp d i (a + (if o ≥ l then o - l else o))) := by rw [Go.Sort.breakStep, ho, hM, hy]
 rw [hdef]
 by_cases hol : l ≤ o
 ·obtain ⟨o', aF⟩ : ∃ o', o' = o - l := ⟨_, rfl⟩
  obtain ⟨b, hb⟩ : ∃ b, b = a + o' := ⟨_, rfl⟩
  have w6 : IntKind.i64.wrap ((o : Int) - l) = (o' : Int) := wr
  have w7 : IntKind.i64.wrap ((a : Int) + o') = (b : Int) := wr
  have u2 : b < n := by omega
  rw [if_pos hol, ← aF, ← hb, cW]
  unfold kg
  refine aA (sJ @e1 @wM @wo @w0 @w1 @w2 @w3 @w4 @w5 @w6 @w7 @c0 @u1 @u2 @hol @hr @hd @EB @EC @EA @aW) ?_
  simp [Za, lk]
 ·obtain ⟨b, hb⟩ : ∃ b, b = a + o := ⟨_, rfl⟩
  have w7 : IntKind.i64.wrap ((a : Int) + o) = (b : Int) := wr
  have u2 : b < n := by omega
  rw [if_neg hol, ← hb, cW]
  unfold kg
  refine aA (vL @e1 @wM @wo @w0 @w1 @w2 @w3 @w4 @w5 @w7 @c0 @u1 @u2 @hol @hr @hd @EB @EC @EA @aW) ?_
  simp [Za, lk]
theorem F9 {H : Zb} {r g n a l m i : Nat} (hr : r < H.length) (hn : n ≤ 1000000) (hal : a + l ≤ n) (hi : a + l / 4 * 2 + 1 < i) (d : Array V) (x : UInt64) :
 ∃ e', C X kg [(0, au r g n), (1, .int .i64 a), (8, .int .i64 l), (9, .ref H.length 0), (10, .int .u64 m), (11, .int .i64 i)] (hx H r g d x) = some (.exit 0, e', hx H r g d x) := by
 obtain ⟨l4, AP⟩ : ∃ l4, l4 = l / 4 := ⟨_, rfl⟩
 obtain ⟨fP, vi⟩ : ∃ fP, fP = l4 * 2 := ⟨_, rfl⟩
 obtain ⟨p, hp'⟩ : ∃ p, p = a + fP := ⟨_, rfl⟩
 obtain ⟨p1, hp1⟩ : ∃ p1, p1 = p + 1 := ⟨_, rfl⟩
 have w0 : IntKind.i64.wrap ((l : Int) / 4) = (l4 : Int) := wr
 have w1 : IntKind.i64.wrap ((l4 : Int) * 2) = (fP : Int) := wr
 have w2 : IntKind.i64.wrap ((a : Int) + fP) = (p : Int) := wr
 have w3 : IntKind.i64.wrap ((p : Int) + 1) = (p1 : Int) := wr
 have c0 : ¬ i ≤ p1 := by omega
 unfold kg
 refine aA (mh @w0 @w1 @w2 @w3 @c0) ?_
 exact ⟨_, rfl⟩
theorem IU {H : Zb} {r g : Nat} (hr : r < H.length) (d d' : Array V) (x : UInt64) : ∃ l, fin (hp H r g d) (hx H r g d' x) [] = (.tup [], hp (H ++ l) r g d') := by
 have h1 : (hx H r g d' x).take (hp H r g d).length = hp H r g d' := by
  simp only [hx, hp]
  rw [List.set_append_left _ _ hr, List.take_append_of_le_length (by simp), List.take_of_length_le (by simp)]
 rw [fin, h1]
 ·split
  ·rename_i h2
   simp only [bH]
   exact ⟨[], by rw [List.append_nil, h2]⟩
  ·exact ⟨_, rfl⟩
 ·intro d h; cases h
theorem jU (a l m i : Nat) (x : UInt64) (d : Array V) : (Go.Sort.breakStep a l m (x, d) i).2.size = d.size := by
 simp only [Go.Sort.breakStep]; rw [swp_size]
theorem J9 {H : Zb} {r g n a b : Nat} (hr : r < H.length) (hn : n ≤ 1000000) (hab : a < b) (hb : b ≤ n) (lY : b - a < 256) (d : Array V) (hd : d.size = n) :
 ∃ l, E X 94 [au r g n, .int .i64 a, .int .i64 b, .func 69 [] []] (hp H r g d) = some (.tup [], hp (H ++ l) r g (Go.Sort.breakPatterns d a b)) := by
 obtain ⟨l, hl⟩ : ∃ l, l = b - a := ⟨_, rfl⟩
 have w0 : IntKind.i64.wrap ((b : Int) - a) = (l : Int) := wr
 by_cases h8 : l < 8
 ·refine ⟨[], ?_⟩
  have hdef : Go.Sort.breakPatterns d a b = d := by
   rw [Go.Sort.breakPatterns]; simp only; rw [if_neg (by omega)]
  have i8 : ¬ (8 : Int) ≤ l := by omega
  rw [hdef, List.append_nil, ZO (X := X) _ BN _ rfl rfl]; unfold BN
  refine aA (cC @w0 @i8) ?_
  simp [ZV, Yc, mg]
 ·have i8 : (8 : Int) ≤ l := by omega
  obtain ⟨m, hm⟩ : ∃ m, m = 1 <<< Go.Sort.bitsLen l := ⟨_, rfl⟩
  obtain ⟨l4, AP⟩ : ∃ l4, l4 = l / 4 := ⟨_, rfl⟩
  obtain ⟨fP, vi⟩ : ∃ fP, fP = l4 * 2 := ⟨_, rfl⟩
  obtain ⟨p, hp'⟩ : ∃ p, p = a + fP := ⟨_, rfl⟩
  obtain ⟨i, hi⟩ : ∃ i, i = p - 1 := ⟨_, rfl⟩
  have w1 : IntKind.i64.wrap ((l : Int) / 4) = (l4 : Int) := wr
  have w2 : IntKind.i64.wrap ((l4 : Int) * 2) = (fP : Int) := wr
  have w3 : IntKind.i64.wrap ((a : Int) + fP) = (p : Int) := wr
  have w4 : IntKind.i64.wrap ((p : Int) - 1) = (i : Int) := wr
  have wu : IntKind.u64.wrap (l : Int) = (l : Int) := by rw [fB, Nat.mod_eq_of_lt (by omega)]
  have e1 := GJ l (by omega)
  rw [← hm] at e1
  have hdef : Go.Sort.breakPatterns d a b = (Go.Sort.breakStep a l m (Go.Sort.breakStep a l m (Go.Sort.breakStep a l m (UInt64.ofNat l, d) i) (i + 1)) (i + 2)).2 := by
   rw [Go.Sort.breakPatterns]; simp only; rw [if_pos (by omega)]
   rw [hm, hi, hp', vi, AP, hl]
  have s1 := ux (H := H) (r := r) (g := g) (n := n) (a := a) (l := l) (m := m) (i := i) hr hn (by omega) (by omega) hm (by omega) (by omega) d hd (UInt64.ofNat l)
  have z1 := jU a l m i (UInt64.ofNat l) d
  generalize Go.Sort.breakStep a l m (UInt64.ofNat l, d) i = o1 at s1 z1 hdef
  obtain ⟨x1, d1⟩ := o1
  have s2 := ux (H := H) (r := r) (g := g) (n := n) (a := a) (l := l) (m := m) (i := i + 1) hr hn (by omega) (by omega) hm (by omega) (by omega) d1 (by rw [z1, hd]) x1
  have z2 := jU a l m (i + 1) x1 d1
  generalize Go.Sort.breakStep a l m (x1, d1) (i + 1) = o2 at s2 z2 hdef
  obtain ⟨x2, d2⟩ := o2
  have s3 := ux (H := H) (r := r) (g := g) (n := n) (a := a) (l := l) (m := m) (i := i + 2) hr hn (by omega) (by omega) hm (by omega) (by omega) d2 (by rw [z2, z1, hd]) x2
  have z3 := jU a l m (i + 2) x2 d2
  generalize Go.Sort.breakStep a l m (x2, d2) (i + 2) = o3 at s3 z3 hdef
  obtain ⟨x3, d3⟩ := o3
  obtain ⟨e', s4⟩ := F9 (H := H) (r := r) (g := g) (n := n) (a := a) (l := l) (m := m) (i := i + 3) hr hn (by omega) (by omega) d3 x3
  have hl : C X (.loop kg) [(0, au r g n), (1, .int .i64 a), (8, .int .i64 l), (9, .ref H.length 0), (10, .int .u64 m), (11, .int .i64 i)] (hx H r g d (UInt64.ofNat l)) = some (.exit 0, e', hx H r g d3 x3) := by
   rw [Zx, s1, ZZ, Zx, s2, ZZ, Zx, s3, ZZ, Zx, s4, ZS]
  have hst : hp H r g d ++ [HO.box 133 [.int .u64 l]] = hx H r g d (UInt64.ofNat l) := by
   simp only [hx, hp]
   rw [List.set_append_left _ _ hr, UInt64.toNat_ofNat', Nat.mod_eq_of_lt (by omega)]
  have pL := dW H r g d
  obtain ⟨q, hq⟩ := IU (g := g) hr d d3 x3
  refine ⟨q, ?_⟩
  rw [hdef, ZO (X := X) _ BN _ rfl rfl]; unfold BN
  refine aA (eY @w0 @i8 @w1 @w2 @w3 @w4 @wu @e1 @hst @pL) ?_
  refine aD ?_
  rw [hl]
  refine aA trivial ?_
  simp only [ZV, Yc, Option.map_some]
  rw [hq]
theorem FY {H : Zb} {r g n a : Nat} (hr : r < H.length) (hn : n ≤ 1000000) (ha : a < n) (d : Array V) (hd : d.size = n) : ∀ (k i j : Nat), j + 1 - i ≤ k → j < n → i ≤ n →
 (∃ y, C X (.loop lI) [(0, au r g n), (1, .int .i64 a), (4, .func 69 [] []), (11, .int .i64 i), (12, .int .i64 j)] (hp H r g d) =
  some (.exit 2, [(0, au r g n), (1, .int .i64 a), (4, .func 69 [] []), (11, .int .i64 (Go.Sort.scanUp (fun x => !lt d[a]! x) d j i : Nat)), (12, .int .i64 j), (47, y)], hp H r g d)) ∧ i ≤ Go.Sort.scanUp (fun x => !lt d[a]! x) d j i ∧ (Go.Sort.scanUp (fun x => !lt d[a]! x) d j i ≤ j + 1 ∨ Go.Sort.scanUp (fun x => !lt d[a]! x) d j i = i) := by
 intro k
 induction k with
 | zero =>
  intro i j hk hj hi
  have w0 : ¬ i ≤ j := by omega
  rw [Go.Sort.scanUp, if_neg (by simp [w0])]
  refine ⟨?_, Nat.le_refl _, .inr rfl⟩
  rw [Zx]
  unfold lI
  refine rn @w0 ?_
  rw [ZS]
  exact ⟨_, by simp [Za, lk]; exact rfl⟩
 | succ k ih =>
  intro i j hk hj hi
  by_cases w0 : i ≤ j
  ·obtain ⟨I, hI⟩ : ∃ I, I = i + 1 := ⟨_, rfl⟩
   have w1 : IntKind.i64.wrap ((i : Int) + 1) = (I : Int) := wr
   have u1 : i < n := by omega
   cases hp' : lt (el d a) (el d i)
   ·have q := di hp'
    have hs : C X lI [(0, au r g n), (1, .int .i64 a), (4, .func 69 [] []), (11, .int .i64 i), (12, .int .i64 j)] (hp H r g d) = some (.norm, [(0, au r g n), (1, .int .i64 a), (4, .func 69 [] []), (11, .int .i64 I), (12, .int .i64 j)], hp H r g d) := by
     unfold lI
     refine rn (eY @w0 @w1 @u1 @ha @hr @hd @cF @cG @bC @q) ?_
     simp [Za, lk]
    have hdef : Go.Sort.scanUp (fun x => !lt d[a]! x) d j i = Go.Sort.scanUp (fun x => !lt d[a]! x) d j I := by
     rw [Go.Sort.scanUp.eq_1 _ d j i, if_pos, hI]
     have hp2 : lt (el d a) (el d i) = _ := hp'
     unfold el at hp2
     simp [w0, hp2]
    have h3 := ih I j (by omega) hj (by omega)
    rw [Zx, hs, ZZ, hdef]
    exact ⟨h3.1, by omega, by omega⟩
   ·have q := dh hp'
    have hdef : Go.Sort.scanUp (fun x => !lt d[a]! x) d j i = i := by
     rw [Go.Sort.scanUp.eq_1 _ d j i, if_neg]
     have hp2 : lt (el d a) (el d i) = _ := hp'
     unfold el at hp2
     simp [hp2]
    rw [hdef]
    refine ⟨?_, Nat.le_refl _, .inr rfl⟩
    rw [Zx]
    unfold lI
    refine rn (eY @w0 @w1 @u1 @ha @hr @hd @cF @cG @bC @q) ?_
    rw [ZS]
    exact ⟨_, by simp [Za, lk]; exact rfl⟩
  ·exact ih i j (by omega) hj hi
theorem rQ {H : Zb} {r g n a i : Nat} (hr : r < H.length) (hn : n ≤ 1000000) (ha : a < n) (hi1 : 1 ≤ i) (hi : i ≤ n) (d : Array V) (hd : d.size = n) : ∀ (j : Nat) (ex : Env), j < n →
 (∃ y, C X (.loop j9) ((0, au r g n) :: (1, .int .i64 a) :: (4, .func 69 [] []) :: (11, .int .i64 i) :: (12, .int .i64 j) :: ex) (hp H r g d) =
  some (.exit 4, [(0, au r g n), (1, .int .i64 a), (4, .func 69 [] []), (11, .int .i64 i), (12, .int .i64 (Go.Sort.scanDown (fun x => lt d[a]! x) d i j : Nat)), (65, y)], hp H r g d)) ∧ Go.Sort.scanDown (fun x => lt d[a]! x) d i j ≤ j ∧ (i ≤ j + 1 → i ≤ Go.Sort.scanDown (fun x => lt d[a]! x) d i j + 1) := by
 intro j
 induction j with
 | zero =>
  intro ex hj
  have w0 : ¬ i = 0 := by omega
  have kM : ¬ (i : Int) ≤ 0 := by omega
  rw [Go.Sort.scanDown]
  refine ⟨?_, Nat.le_refl _, fun h => h⟩
  rw [Zx]
  unfold j9
  refine rn (cC @w0 @kM) ?_
  rw [ZS]
  exact ⟨_, by simp [Za, lk]; exact rfl⟩
 | succ J ih =>
  intro ex hj
  obtain ⟨j, hJ⟩ : ∃ j, j = J + 1 := ⟨_, rfl⟩
  rw [← hJ]
  have cz : Go.Sort.scanDown (fun x => lt d[a]! x) d i j = if (decide (i ≤ j) && ((fun x => lt d[a]! x)) (el d j)) = true then Go.Sort.scanDown (fun x => lt d[a]! x) d i J else j := by
   rw [hJ, Go.Sort.scanDown]; rfl
  have w1 : IntKind.i64.wrap ((j : Int) - 1) = (J : Int) := wr
  have u1 : j < n := by omega
  rw [cz]
  by_cases w0 : i ≤ j
  ·cases hp' : lt (el d a) (el d j)
   ·have q := di hp'
    rw [if_neg (by unfold el at hp' ⊢; simp [hp'])]
    refine ⟨?_, Nat.le_refl _, fun h => h⟩
    rw [Zx]
    unfold j9
    refine rn (eY @w0 @w1 @u1 @ha @hr @hd @cF @cG @bC @q) ?_
    rw [ZS]
    exact ⟨_, by simp [Za, lk]; exact rfl⟩
   ·have q := dh hp'
    have hs : C X j9 ((0, au r g n) :: (1, .int .i64 a) :: (4, .func 69 [] []) :: (11, .int .i64 i) :: (12, .int .i64 j) :: ex) (hp H r g d) = some (.norm, [(0, au r g n), (1, .int .i64 a), (4, .func 69 [] []), (11, .int .i64 i), (12, .int .i64 J)], hp H r g d) := by
     unfold j9
     refine rn (eY @w0 @w1 @u1 @ha @hr @hd @cF @cG @bC @q) ?_
     simp [Za, lk]
    have h3 := ih [] (by omega)
    rw [if_pos (by unfold el at hp' ⊢; simp [w0, hp']), Zx, hs, ZZ]
    exact ⟨h3.1, by omega, fun h => h3.2.2 (by omega)⟩
  ·rw [if_neg (by simp [w0])]
   refine ⟨?_, Nat.le_refl _, fun h => h⟩
   rw [Zx]
   unfold j9
   refine rn @w0 ?_
   rw [ZS]
   exact ⟨_, by simp [Za, lk]; exact rfl⟩
theorem J2 {H : Zb} {r g n a : Nat} (hr : r < H.length) (hn : n ≤ 1000000) (ha : a < n) (d : Array V) (hd : d.size = n) : ∀ (k i j : Nat), j + 1 - i ≤ k → j < n → i ≤ n →
 (∃ y, C X (.loop lH) [(0, au r g n), (1, .int .i64 a), (4, .func 69 [] []), (12, .int .i64 i), (13, .int .i64 j)] (hp H r g d) =
  some (.exit 0, [(0, au r g n), (1, .int .i64 a), (4, .func 69 [] []), (12, .int .i64 (Go.Sort.scanUp (fun x => lt x d[a]!) d j i : Nat)), (13, .int .i64 j), (47, y)], hp H r g d)) ∧ i ≤ Go.Sort.scanUp (fun x => lt x d[a]!) d j i ∧ (Go.Sort.scanUp (fun x => lt x d[a]!) d j i ≤ j + 1 ∨ Go.Sort.scanUp (fun x => lt x d[a]!) d j i = i) := by
 intro k
 induction k with
 | zero =>
  intro i j hk hj hi
  have w0 : ¬ i ≤ j := by omega
  rw [Go.Sort.scanUp, if_neg (by simp [w0])]
  refine ⟨?_, Nat.le_refl _, .inr rfl⟩
  rw [Zx]
  unfold lH
  refine rn @w0 ?_
  rw [ZS]
  exact ⟨_, by simp [Za, lk]; exact rfl⟩
 | succ k ih =>
  intro i j hk hj hi
  by_cases w0 : i ≤ j
  ·obtain ⟨I, hI⟩ : ∃ I, I = i + 1 := ⟨_, rfl⟩
   have w1 : IntKind.i64.wrap ((i : Int) + 1) = (I : Int) := wr
   have u1 : i < n := by omega
   cases hp' : lt (el d i) (el d a)
   ·have q := di hp'
    have hdef : Go.Sort.scanUp (fun x => lt x d[a]!) d j i = i := by
     rw [Go.Sort.scanUp.eq_1 _ d j i, if_neg]
     have hp2 : lt (el d i) (el d a) = _ := hp'
     unfold el at hp2
     simp [hp2]
    rw [hdef]
    refine ⟨?_, Nat.le_refl _, .inr rfl⟩
    rw [Zx]
    unfold lH
    refine rn (eY @w0 @w1 @u1 @ha @hr @hd @cF @cG @bC @q) ?_
    rw [ZS]
    exact ⟨_, by simp [Za, lk]; exact rfl⟩
   ·have q := dh hp'
    have hs : C X lH [(0, au r g n), (1, .int .i64 a), (4, .func 69 [] []), (12, .int .i64 i), (13, .int .i64 j)] (hp H r g d) = some (.norm, [(0, au r g n), (1, .int .i64 a), (4, .func 69 [] []), (12, .int .i64 I), (13, .int .i64 j)], hp H r g d) := by
     unfold lH
     refine rn (eY @w0 @w1 @u1 @ha @hr @hd @cF @cG @bC @q) ?_
     simp [Za, lk]
    have hdef : Go.Sort.scanUp (fun x => lt x d[a]!) d j i = Go.Sort.scanUp (fun x => lt x d[a]!) d j I := by
     rw [Go.Sort.scanUp.eq_1 _ d j i, if_pos, hI]
     have hp2 : lt (el d i) (el d a) = _ := hp'
     unfold el at hp2
     simp [w0, hp2]
    have h3 := ih I j (by omega) hj (by omega)
    rw [Zx, hs, ZZ, hdef]
    exact ⟨h3.1, by omega, by omega⟩
  ·exact ih i j (by omega) hj hi
theorem FM {H : Zb} {r g n a i : Nat} (hr : r < H.length) (hn : n ≤ 1000000) (ha : a < n) (hi1 : 1 ≤ i) (hi : i ≤ n) (d : Array V) (hd : d.size = n) : ∀ (j : Nat) (ex : Env), j < n →
 (∃ y, C X (.loop j8) ((0, au r g n) :: (1, .int .i64 a) :: (4, .func 69 [] []) :: (12, .int .i64 i) :: (13, .int .i64 j) :: ex) (hp H r g d) =
  some (.exit 2, [(0, au r g n), (1, .int .i64 a), (4, .func 69 [] []), (12, .int .i64 i), (13, .int .i64 (Go.Sort.scanDown (fun x => !lt x d[a]!) d i j : Nat)), (66, y)], hp H r g d)) ∧ Go.Sort.scanDown (fun x => !lt x d[a]!) d i j ≤ j ∧ (i ≤ j + 1 → i ≤ Go.Sort.scanDown (fun x => !lt x d[a]!) d i j + 1) := by
 intro j
 induction j with
 | zero =>
  intro ex hj
  have w0 : ¬ i = 0 := by omega
  have kM : ¬ (i : Int) ≤ 0 := by omega
  rw [Go.Sort.scanDown]
  refine ⟨?_, Nat.le_refl _, fun h => h⟩
  rw [Zx]
  unfold j8
  refine rn (cC @w0 @kM) ?_
  rw [ZS]
  exact ⟨_, by simp [Za, lk]; exact rfl⟩
 | succ J ih =>
  intro ex hj
  obtain ⟨j, hJ⟩ : ∃ j, j = J + 1 := ⟨_, rfl⟩
  rw [← hJ]
  have cz : Go.Sort.scanDown (fun x => !lt x d[a]!) d i j = if (decide (i ≤ j) && ((fun x => !lt x d[a]!)) (el d j)) = true then Go.Sort.scanDown (fun x => !lt x d[a]!) d i J else j := by
   rw [hJ, Go.Sort.scanDown]; rfl
  have w1 : IntKind.i64.wrap ((j : Int) - 1) = (J : Int) := wr
  have u1 : j < n := by omega
  rw [cz]
  by_cases w0 : i ≤ j
  ·cases hp' : lt (el d j) (el d a)
   ·have q := di hp'
    have hs : C X j8 ((0, au r g n) :: (1, .int .i64 a) :: (4, .func 69 [] []) :: (12, .int .i64 i) :: (13, .int .i64 j) :: ex) (hp H r g d) = some (.norm, [(0, au r g n), (1, .int .i64 a), (4, .func 69 [] []), (12, .int .i64 i), (13, .int .i64 J)], hp H r g d) := by
     unfold j8
     refine rn (eY @w0 @w1 @u1 @ha @hr @hd @cF @cG @bC @q) ?_
     simp [Za, lk]
    have h3 := ih [] (by omega)
    rw [if_pos (by unfold el at hp' ⊢; simp [w0, hp']), Zx, hs, ZZ]
    exact ⟨h3.1, by omega, fun h => h3.2.2 (by omega)⟩
   ·have q := dh hp'
    rw [if_neg (by unfold el at hp' ⊢; simp [hp'])]
    refine ⟨?_, Nat.le_refl _, fun h => h⟩
    rw [Zx]
    unfold j8
    refine rn (eY @w0 @w1 @u1 @ha @hr @hd @cF @cG @bC @q) ?_
    rw [ZS]
    exact ⟨_, by simp [Za, lk]; exact rfl⟩
  ·rw [if_neg (by simp [w0])]
   refine ⟨?_, Nat.le_refl _, fun h => h⟩
   rw [Zx]
   unfold j8
   refine rn @w0 ?_
   rw [ZS]
   exact ⟨_, by simp [Za, lk]; exact rfl⟩
theorem D4 {H : Zb} {r g n a : Nat} (hr : r < H.length) (hn : n ≤ 1000000) (ha : a < n) (d : Array V) (hd : d.size = n) : ∀ (k i j : Nat), j + 1 - i ≤ k → j < n → i ≤ n →
 (∃ y, C X (.loop lD) [(0, au r g n), (1, .int .i64 a), (4, .func 69 [] []), (12, .int .i64 i), (13, .int .i64 j)] (hp H r g d) =
  some (.exit 6, [(0, au r g n), (1, .int .i64 a), (4, .func 69 [] []), (12, .int .i64 (Go.Sort.scanUp (fun x => lt x d[a]!) d j i : Nat)), (13, .int .i64 j), (120, y)], hp H r g d)) ∧ i ≤ Go.Sort.scanUp (fun x => lt x d[a]!) d j i ∧ (Go.Sort.scanUp (fun x => lt x d[a]!) d j i ≤ j + 1 ∨ Go.Sort.scanUp (fun x => lt x d[a]!) d j i = i) := by
 intro k
 induction k with
 | zero =>
  intro i j hk hj hi
  have w0 : ¬ i ≤ j := by omega
  rw [Go.Sort.scanUp, if_neg (by simp [w0])]
  refine ⟨?_, Nat.le_refl _, .inr rfl⟩
  rw [Zx]
  unfold lD
  refine rn @w0 ?_
  rw [ZS]
  exact ⟨_, by simp [Za, lk]; exact rfl⟩
 | succ k ih =>
  intro i j hk hj hi
  by_cases w0 : i ≤ j
  ·obtain ⟨I, hI⟩ : ∃ I, I = i + 1 := ⟨_, rfl⟩
   have w1 : IntKind.i64.wrap ((i : Int) + 1) = (I : Int) := wr
   have u1 : i < n := by omega
   cases hp' : lt (el d i) (el d a)
   ·have q := di hp'
    have hdef : Go.Sort.scanUp (fun x => lt x d[a]!) d j i = i := by
     rw [Go.Sort.scanUp.eq_1 _ d j i, if_neg]
     have hp2 : lt (el d i) (el d a) = _ := hp'
     unfold el at hp2
     simp [hp2]
    rw [hdef]
    refine ⟨?_, Nat.le_refl _, .inr rfl⟩
    rw [Zx]
    unfold lD
    refine rn (eY @w0 @w1 @u1 @ha @hr @hd @cF @cG @bC @q) ?_
    rw [ZS]
    exact ⟨_, by simp [Za, lk]; exact rfl⟩
   ·have q := dh hp'
    have hs : C X lD [(0, au r g n), (1, .int .i64 a), (4, .func 69 [] []), (12, .int .i64 i), (13, .int .i64 j)] (hp H r g d) = some (.norm, [(0, au r g n), (1, .int .i64 a), (4, .func 69 [] []), (12, .int .i64 I), (13, .int .i64 j)], hp H r g d) := by
     unfold lD
     refine rn (eY @w0 @w1 @u1 @ha @hr @hd @cF @cG @bC @q) ?_
     simp [Za, lk]
    have hdef : Go.Sort.scanUp (fun x => lt x d[a]!) d j i = Go.Sort.scanUp (fun x => lt x d[a]!) d j I := by
     rw [Go.Sort.scanUp.eq_1 _ d j i, if_pos, hI]
     have hp2 : lt (el d i) (el d a) = _ := hp'
     unfold el at hp2
     simp [w0, hp2]
    have h3 := ih I j (by omega) hj (by omega)
    rw [Zx, hs, ZZ, hdef]
    exact ⟨h3.1, by omega, by omega⟩
  ·exact ih i j (by omega) hj hi
theorem pz {H : Zb} {r g n a i : Nat} (hr : r < H.length) (hn : n ≤ 1000000) (ha : a < n) (hi1 : 1 ≤ i) (hi : i ≤ n) (d : Array V) (hd : d.size = n) : ∀ (j : Nat) (ex : Env), j < n →
 (∃ y, C X (.loop j7) ((0, au r g n) :: (1, .int .i64 a) :: (4, .func 69 [] []) :: (12, .int .i64 i) :: (13, .int .i64 j) :: ex) (hp H r g d) =
  some (.exit 8, [(0, au r g n), (1, .int .i64 a), (4, .func 69 [] []), (12, .int .i64 i), (13, .int .i64 (Go.Sort.scanDown (fun x => !lt x d[a]!) d i j : Nat)), (139, y)], hp H r g d)) ∧ Go.Sort.scanDown (fun x => !lt x d[a]!) d i j ≤ j ∧ (i ≤ j + 1 → i ≤ Go.Sort.scanDown (fun x => !lt x d[a]!) d i j + 1) := by
 intro j
 induction j with
 | zero =>
  intro ex hj
  have w0 : ¬ i = 0 := by omega
  have kM : ¬ (i : Int) ≤ 0 := by omega
  rw [Go.Sort.scanDown]
  refine ⟨?_, Nat.le_refl _, fun h => h⟩
  rw [Zx]
  unfold j7
  refine rn (cC @w0 @kM) ?_
  rw [ZS]
  exact ⟨_, by simp [Za, lk]; exact rfl⟩
 | succ J ih =>
  intro ex hj
  obtain ⟨j, hJ⟩ : ∃ j, j = J + 1 := ⟨_, rfl⟩
  rw [← hJ]
  have cz : Go.Sort.scanDown (fun x => !lt x d[a]!) d i j = if (decide (i ≤ j) && ((fun x => !lt x d[a]!)) (el d j)) = true then Go.Sort.scanDown (fun x => !lt x d[a]!) d i J else j := by
   rw [hJ, Go.Sort.scanDown]; rfl
  have w1 : IntKind.i64.wrap ((j : Int) - 1) = (J : Int) := wr
  have u1 : j < n := by omega
  rw [cz]
  by_cases w0 : i ≤ j
  ·cases hp' : lt (el d j) (el d a)
   ·have q := di hp'
    have hs : C X j7 ((0, au r g n) :: (1, .int .i64 a) :: (4, .func 69 [] []) :: (12, .int .i64 i) :: (13, .int .i64 j) :: ex) (hp H r g d) = some (.norm, [(0, au r g n), (1, .int .i64 a), (4, .func 69 [] []), (12, .int .i64 i), (13, .int .i64 J)], hp H r g d) := by
     unfold j7
     refine rn (eY @w0 @w1 @u1 @ha @hr @hd @cF @cG @bC @q) ?_
     simp [Za, lk]
    have h3 := ih [] (by omega)
    rw [if_pos (by unfold el at hp' ⊢; simp [w0, hp']), Zx, hs, ZZ]
    exact ⟨h3.1, by omega, fun h => h3.2.2 (by omega)⟩
   ·have q := dh hp'
    rw [if_neg (by unfold el at hp' ⊢; simp [hp'])]
    refine ⟨?_, Nat.le_refl _, fun h => h⟩
    rw [Zx]
    unfold j7
    refine rn (eY @w0 @w1 @u1 @ha @hr @hd @cF @cG @bC @q) ?_
    rw [ZS]
    exact ⟨_, by simp [Za, lk]; exact rfl⟩
  ·rw [if_neg (by simp [w0])]
   refine ⟨?_, Nat.le_refl _, fun h => h⟩
   rw [Zx]
   unfold j7
   refine rn @w0 ?_
   rw [ZS]
   exact ⟨_, by simp [Za, lk]; exact rfl⟩
theorem G3 {H : Zb} {r g n a : Nat} (hr : r < H.length) (hn : n ≤ 1000000) (ha : a < n) : ∀ (k i j : Nat) (d : Array V), j + 1 - i ≤ k → 1 ≤ i → i ≤ n → j < n → d.size = n →
 ∃ e', C X (.loop lJ) [(0, au r g n), (1, .int .i64 a), (4, .func 69 [] []), (11, .int .i64 i), (12, .int .i64 j)] (hp H r g d) = some (.exit 0, e', hp H r g (Go.Sort.partEqLoop lt a i j d).2) ∧ lk e' 11 = .int .i64 (Go.Sort.partEqLoop lt a i j d).1 := by
 intro k
 induction k with
 | zero =>
  intro i j d hk h1 hi hj hd
  obtain ⟨⟨y, c1⟩, b1, b2⟩ := FY (H := H) (r := r) (g := g) (n := n) (a := a) hr hn ha d hd n i j (by omega) hj hi
  have hdef : Go.Sort.partEqLoop lt a i j d = (Go.Sort.scanUp (fun x => !lt d[a]! x) d j i, d) := by
   rw [Go.Sort.partEqLoop]
   have h2 := (rQ (H := H) (r := r) (g := g) (n := n) (a := a) hr hn ha (i := Go.Sort.scanUp (fun x => !lt d[a]! x) d j i) (by omega) (by omega) d hd j [] hj).2
   try simp only
   rw [if_pos (by omega)]
  rw [hdef]
  generalize Go.Sort.scanUp (fun x => !lt d[a]! x) d j i = i2 at c1 b1 b2
  obtain ⟨⟨y2, c2⟩, b3, b4⟩ := rQ (H := H) (r := r) (g := g) (n := n) (a := a) hr hn ha (i := i2) (by omega) (by omega) d hd j [(47, y)] hj
  generalize Go.Sort.scanDown (fun x => lt d[a]! x) d i2 j = j2 at c2 b3 b4
  have w0 : j2 < i2 := by omega
  rw [Zx]
  unfold lJ
  refine aA trivial ?_
  rw [c1]
  refine aA trivial ?_
  refine aD ?_
  rw [c2]
  refine aA @w0 ?_
  rw [ZS]
  exact ⟨_, rfl, by simp [Za, lk]⟩
 | succ k ih =>
  intro i j d hk h1 hi hj hd
  obtain ⟨⟨y, c1⟩, b1, b2⟩ := FY (H := H) (r := r) (g := g) (n := n) (a := a) hr hn ha d hd n i j (by omega) hj hi
  have hdef : Go.Sort.partEqLoop lt a i j d = if Go.Sort.scanUp (fun x => !lt d[a]! x) d j i > Go.Sort.scanDown (fun x => lt d[a]! x) d (Go.Sort.scanUp (fun x => !lt d[a]! x) d j i) j then (Go.Sort.scanUp (fun x => !lt d[a]! x) d j i, d) else Go.Sort.partEqLoop lt a (Go.Sort.scanUp (fun x => !lt d[a]! x) d j i + 1) (Go.Sort.scanDown (fun x => lt d[a]! x) d (Go.Sort.scanUp (fun x => !lt d[a]! x) d j i) j - 1) (Go.Sort.swp d (Go.Sort.scanUp (fun x => !lt d[a]! x) d j i) (Go.Sort.scanDown (fun x => lt d[a]! x) d (Go.Sort.scanUp (fun x => !lt d[a]! x) d j i) j)) := by
   rw [Go.Sort.partEqLoop]
   have h2 := (rQ (H := H) (r := r) (g := g) (n := n) (a := a) hr hn ha (i := Go.Sort.scanUp (fun x => !lt d[a]! x) d j i) (by omega) (by omega) d hd j [] hj).2
   try simp only
   split
   ·rfl
   ·rw [dif_pos (by omega)]
  rw [hdef]
  generalize Go.Sort.scanUp (fun x => !lt d[a]! x) d j i = i2 at c1 b1 b2 ⊢
  obtain ⟨⟨y2, c2⟩, b3, b4⟩ := rQ (H := H) (r := r) (g := g) (n := n) (a := a) hr hn ha (i := i2) (by omega) (by omega) d hd j [(47, y)] hj
  generalize Go.Sort.scanDown (fun x => lt d[a]! x) d i2 j = j2 at c2 b3 b4 ⊢
  by_cases w0 : j2 < i2
  ·rw [if_pos w0, Zx]
   unfold lJ
   refine aA trivial ?_
   rw [c1]
   refine aA trivial ?_
   refine aD ?_
   rw [c2]
   refine aA @w0 ?_
   rw [ZS]
   exact ⟨_, rfl, by simp [Za, lk]⟩
  ·rw [if_neg w0]
   obtain ⟨I, hI⟩ : ∃ I, I = i2 + 1 := ⟨_, rfl⟩
   obtain ⟨J, hJ⟩ : ∃ J, J = j2 - 1 := ⟨_, rfl⟩
   have w1 : IntKind.i64.wrap ((i2 : Int) + 1) = (I : Int) := wr
   have w2 : IntKind.i64.wrap ((j2 : Int) - 1) = (J : Int) := wr
   have u1 : i2 < n := by omega
   have u2 : j2 < n := by omega
   have hs : C X lJ [(0, au r g n), (1, .int .i64 a), (4, .func 69 [] []), (11, .int .i64 i), (12, .int .i64 j)] (hp H r g d) = some (.norm, [(0, au r g n), (1, .int .i64 a), (4, .func 69 [] []), (11, .int .i64 I), (12, .int .i64 J)], hp H r g (Go.Sort.swp d i2 j2)) := by
    unfold lJ
    rw [cW]
    refine aA trivial ?_
    rw [c1]
    refine aA trivial ?_
    refine aD ?_
    rw [c2]
    refine aA (eJ @w0 @w1 @w2 @u1 @u2 @hr @hd @cF @cG @ig @aW) ?_
    simp [Za, lk]
   rw [Zx, hs, ZZ, ← hI, ← hJ]
   exact ih I J _ (by omega) (by omega) (by omega) (by omega) (by rw [swp_size, hd])
theorem J7 {H : Zb} {r g n a b p : Nat} (hr : r < H.length) (hn : n ≤ 1000000) (hab : a < b) (hb : b ≤ n) (hp' : p < n) (d : Array V) (hd : d.size = n) :
 E X 98 [au r g n, .int .i64 a, .int .i64 b, .int .i64 p, .func 69 [] []] (hp H r g d) = some (.int .i64 (Go.Sort.partitionEqual lt d a b p).1, hp H r g (Go.Sort.partitionEqual lt d a b p).2) := by
 obtain ⟨i, hi⟩ : ∃ i, i = a + 1 := ⟨_, rfl⟩
 obtain ⟨j, hj⟩ : ∃ j, j = b - 1 := ⟨_, rfl⟩
 have w1 : IntKind.i64.wrap ((a : Int) + 1) = (i : Int) := wr
 have w2 : IntKind.i64.wrap ((b : Int) - 1) = (j : Int) := wr
 have u1 : a < n := by omega
 obtain ⟨e', c1, c2⟩ := G3 (H := H) (r := r) (g := g) (n := n) (a := a) hr hn (by omega) n i j (Go.Sort.swp d a p) (by omega) (by omega) (by omega) (by omega) (by rw [swp_size, hd])
 have hdef : Go.Sort.partitionEqual lt d a b p = Go.Sort.partEqLoop lt a i j (Go.Sort.swp d a p) := by rw [Go.Sort.partitionEqual, hi, hj]
 rw [hdef]
 generalize Go.Sort.partEqLoop lt a i j (Go.Sort.swp d a p) = o at c1 c2 ⊢
 rw [cW] at c1
 rw [ZO (X := X) _ Jm _ rfl rfl]; unfold Jm
 refine aA (eY @w1 @w2 @u1 @hp' @hr @hd @cF @cG @ig @aW) ?_
 refine aD ?_
 rw [c1]
 refine aA @c2 ?_
 simp only [Zw, Yc, Za, List.map_cons, List.map_nil, lk, reduceIte, Nat.reduceEqDiff, Option.map_some, c2]
 rw [jb (by rw [dW, dW]) rfl]
theorem G2 {H : Zb} {r g n a : Nat} (hr : r < H.length) (hn : n ≤ 1000000) (ha : a < n) : ∀ (k i j : Nat) (d : Array V), j + 1 - i ≤ k → 1 ≤ i → i ≤ n → j < n → d.size = n →
 (∃ e', C X (.loop lG) [(0, au r g n), (1, .int .i64 a), (4, .func 69 [] []), (12, .int .i64 i), (13, .int .i64 j)] (hp H r g d) = some (.exit 4, e', hp H r g (Go.Sort.partLoop lt a i j d).2) ∧ lk e' 0 = au r g n ∧ lk e' 1 = .int .i64 a ∧ lk e' 13 = .int .i64 (Go.Sort.partLoop lt a i j d).1) ∧ (Go.Sort.partLoop lt a i j d).1 < n ∧ (Go.Sort.partLoop lt a i j d).2.size = n := by
 intro k
 induction k with
 | zero =>
  intro i j d hk h1 hi hj hd
  obtain ⟨⟨y, c1⟩, b1, b2⟩ := D4 (H := H) (r := r) (g := g) (n := n) (a := a) hr hn ha d hd n i j (by omega) hj hi
  have hdef : Go.Sort.partLoop lt a i j d = (Go.Sort.scanDown (fun x => !lt x d[a]!) d (Go.Sort.scanUp (fun x => lt x d[a]!) d j i) j, d) := by
   rw [Go.Sort.partLoop]
   have h2 := (pz (H := H) (r := r) (g := g) (n := n) (a := a) hr hn ha (i := Go.Sort.scanUp (fun x => lt x d[a]!) d j i) (by omega) (by omega) d hd j [] hj).2
   try simp only
   rw [if_pos (by omega)]
  rw [hdef]
  generalize Go.Sort.scanUp (fun x => lt x d[a]!) d j i = i2 at c1 b1 b2
  obtain ⟨⟨y2, c2⟩, b3, b4⟩ := pz (H := H) (r := r) (g := g) (n := n) (a := a) hr hn ha (i := i2) (by omega) (by omega) d hd j [(120, y)] hj
  generalize Go.Sort.scanDown (fun x => !lt x d[a]!) d i2 j = j2 at c2 b3 b4
  have w0 : j2 < i2 := by omega
  refine ⟨?_, by omega, hd⟩
  rw [Zx]
  unfold lG
  refine aA trivial ?_
  rw [c1]
  refine aA trivial ?_
  refine aD ?_
  rw [c2]
  refine aA @w0 ?_
  rw [ZS]
  exact ⟨_, rfl, by simp [Za, lk], by simp [Za, lk], by simp [Za, lk]⟩
 | succ k ih =>
  intro i j d hk h1 hi hj hd
  obtain ⟨⟨y, c1⟩, b1, b2⟩ := D4 (H := H) (r := r) (g := g) (n := n) (a := a) hr hn ha d hd n i j (by omega) hj hi
  have hdef : Go.Sort.partLoop lt a i j d = if Go.Sort.scanUp (fun x => lt x d[a]!) d j i > Go.Sort.scanDown (fun x => !lt x d[a]!) d (Go.Sort.scanUp (fun x => lt x d[a]!) d j i) j then (Go.Sort.scanDown (fun x => !lt x d[a]!) d (Go.Sort.scanUp (fun x => lt x d[a]!) d j i) j, d) else Go.Sort.partLoop lt a (Go.Sort.scanUp (fun x => lt x d[a]!) d j i + 1) (Go.Sort.scanDown (fun x => !lt x d[a]!) d (Go.Sort.scanUp (fun x => lt x d[a]!) d j i) j - 1) (Go.Sort.swp d (Go.Sort.scanUp (fun x => lt x d[a]!) d j i) (Go.Sort.scanDown (fun x => !lt x d[a]!) d (Go.Sort.scanUp (fun x => lt x d[a]!) d j i) j)) := by
   rw [Go.Sort.partLoop]
   have h2 := (pz (H := H) (r := r) (g := g) (n := n) (a := a) hr hn ha (i := Go.Sort.scanUp (fun x => lt x d[a]!) d j i) (by omega) (by omega) d hd j [] hj).2
   try simp only
   split
   ·rfl
   ·rw [dif_pos (by omega)]
  rw [hdef]
  generalize Go.Sort.scanUp (fun x => lt x d[a]!) d j i = i2 at c1 b1 b2 ⊢
  obtain ⟨⟨y2, c2⟩, b3, b4⟩ := pz (H := H) (r := r) (g := g) (n := n) (a := a) hr hn ha (i := i2) (by omega) (by omega) d hd j [(120, y)] hj
  generalize Go.Sort.scanDown (fun x => !lt x d[a]!) d i2 j = j2 at c2 b3 b4 ⊢
  by_cases w0 : j2 < i2
  ·rw [if_pos w0]
   refine ⟨?_, by show j2 < n; omega, hd⟩
   rw [Zx]
   unfold lG
   refine aA trivial ?_
   rw [c1]
   refine aA trivial ?_
   refine aD ?_
   rw [c2]
   refine aA @w0 ?_
   rw [ZS]
   exact ⟨_, rfl, by simp [Za, lk], by simp [Za, lk], by simp [Za, lk]⟩
  ·rw [if_neg w0]
   obtain ⟨I, hI⟩ : ∃ I, I = i2 + 1 := ⟨_, rfl⟩
   obtain ⟨J, hJ⟩ : ∃ J, J = j2 - 1 := ⟨_, rfl⟩
   have w1 : IntKind.i64.wrap ((i2 : Int) + 1) = (I : Int) := wr
   have w2 : IntKind.i64.wrap ((j2 : Int) - 1) = (J : Int) := wr
   have u1 : i2 < n := by omega
   have u2 : j2 < n := by omega
   have hs : C X lG [(0, au r g n), (1, .int .i64 a), (4, .func 69 [] []), (12, .int .i64 i), (13, .int .i64 j)] (hp H r g d) = some (.norm, [(0, au r g n), (1, .int .i64 a), (4, .func 69 [] []), (12, .int .i64 I), (13, .int .i64 J)], hp H r g (Go.Sort.swp d i2 j2)) := by
    unfold lG
    rw [cW]
    refine aA trivial ?_
    rw [c1]
    refine aA trivial ?_
    refine aD ?_
    rw [c2]
    refine aA (eJ @w0 @w1 @w2 @u1 @u2 @hr @hd @cF @cG @ig @aW) ?_
    simp [Za, lk]
   rw [Zx, hs, ZZ, ← hI, ← hJ]
   exact ih I J _ (by omega) (by omega) (by omega) (by omega) (by rw [swp_size, hd])
theorem J6 {H : Zb} {r g n a b p : Nat} (hr : r < H.length) (hn : n ≤ 1000000) (hab : a < b) (hb : b ≤ n) (hp' : p < n) (d : Array V) (hd : d.size = n) :
 E X 99 [au r g n, .int .i64 a, .int .i64 b, .int .i64 p, .func 69 [] []] (hp H r g d) = some (.tup [.int .i64 (Go.Sort.partition lt d a b p).1, .bool (Go.Sort.partition lt d a b p).2.1], hp H r g (Go.Sort.partition lt d a b p).2.2) := by
 obtain ⟨i0, hi⟩ : ∃ i, i = a + 1 := ⟨_, rfl⟩
 obtain ⟨j0, hj⟩ : ∃ j, j = b - 1 := ⟨_, rfl⟩
 have w1 : IntKind.i64.wrap ((a : Int) + 1) = (i0 : Int) := wr
 have w2 : IntKind.i64.wrap ((b : Int) - 1) = (j0 : Int) := wr
 have u1 : a < n := by omega
 obtain ⟨d1, cz⟩ : ∃ d1, d1 = Go.Sort.swp d a p := ⟨_, rfl⟩
 have hs1 : d1.size = n := by rw [cz, swp_size, hd]
 obtain ⟨⟨y, c1⟩, b1, b2⟩ := J2 (H := H) (r := r) (g := g) (n := n) (a := a) hr hn u1 d1 hs1 n i0 j0 (by omega) (by omega) (by omega)
 have hdef : Go.Sort.partition lt d a b p = if Go.Sort.scanUp (fun x => lt x d1[a]!) d1 j0 i0 > Go.Sort.scanDown (fun x => !lt x d1[a]!) d1 (Go.Sort.scanUp (fun x => lt x d1[a]!) d1 j0 i0) j0 then (Go.Sort.scanDown (fun x => !lt x d1[a]!) d1 (Go.Sort.scanUp (fun x => lt x d1[a]!) d1 j0 i0) j0, true, Go.Sort.swp d1 (Go.Sort.scanDown (fun x => !lt x d1[a]!) d1 (Go.Sort.scanUp (fun x => lt x d1[a]!) d1 j0 i0) j0) a) else
  ((Go.Sort.partLoop lt a (Go.Sort.scanUp (fun x => lt x d1[a]!) d1 j0 i0 + 1) (Go.Sort.scanDown (fun x => !lt x d1[a]!) d1 (Go.Sort.scanUp (fun x => lt x d1[a]!) d1 j0 i0) j0 - 1) (Go.Sort.swp d1 (Go.Sort.scanUp (fun x => lt x d1[a]!) d1 j0 i0) (Go.Sort.scanDown (fun x => !lt x d1[a]!) d1 (Go.Sort.scanUp (fun x => lt x d1[a]!) d1 j0 i0) j0))).1, false, Go.Sort.swp (Go.Sort.partLoop lt a (Go.Sort.scanUp (fun x => lt x d1[a]!) d1 j0 i0 + 1) (Go.Sort.scanDown (fun x => !lt x d1[a]!) d1 (Go.Sort.scanUp (fun x => lt x d1[a]!) d1 j0 i0) j0 - 1) (Go.Sort.swp d1 (Go.Sort.scanUp (fun x => lt x d1[a]!) d1 j0 i0) (Go.Sort.scanDown (fun x => !lt x d1[a]!) d1 (Go.Sort.scanUp (fun x => lt x d1[a]!) d1 j0 i0) j0))).2 (Go.Sort.partLoop lt a (Go.Sort.scanUp (fun x => lt x d1[a]!) d1 j0 i0 + 1) (Go.Sort.scanDown (fun x => !lt x d1[a]!) d1 (Go.Sort.scanUp (fun x => lt x d1[a]!) d1 j0 i0) j0 - 1) (Go.Sort.swp d1 (Go.Sort.scanUp (fun x => lt x d1[a]!) d1 j0 i0) (Go.Sort.scanDown (fun x => !lt x d1[a]!) d1 (Go.Sort.scanUp (fun x => lt x d1[a]!) d1 j0 i0) j0))).1 a) := by
  rw [cz, hi, hj]; rfl
 rw [hdef]
 generalize Go.Sort.scanUp (fun x => lt x d1[a]!) d1 j0 i0 = i at c1 b1 b2 ⊢
 obtain ⟨⟨y2, c2⟩, b3, b4⟩ := FM (H := H) (r := r) (g := g) (n := n) (a := a) hr hn u1 (i := i) (by omega) (by omega) d1 hs1 j0 [(47, y)] (by omega)
 generalize Go.Sort.scanDown (fun x => !lt x d1[a]!) d1 i j0 = j at c2 b3 b4 ⊢
 have u3 : j < n := by omega
 have Iu : hp H r g (iG (iG d a (el d p)) p (el d a)) = hp H r g d1 := by rw [cz, cW]
 by_cases w0 : j < i
 ·rw [if_pos w0, ZO (X := X) _ BM _ rfl rfl]; unfold BM
  refine aA (eJ @w1 @w2 @u1 @hp' @hr @hd @cF @cG @ig @aW @Iu) ?_
  refine aD ?_
  rw [c1]
  refine aA trivial ?_
  refine aD ?_
  rw [c2]
  refine aA (jC @w0 @u1 @u3 @hr @hs1 @cF @cG @ig @aW) ?_
  simp only [Zw, Yc, Za, List.map_cons, List.map_nil, lk, reduceIte, Nat.reduceEqDiff, Option.map_some]
  rw [mS (by rw [dW, dW]) rfl rfl]
  rfl
 ·rw [if_neg w0]
  have u2 : i < n := by omega
  obtain ⟨I, hI⟩ : ∃ I, I = i + 1 := ⟨_, rfl⟩
  obtain ⟨J, hJ⟩ : ∃ J, J = j - 1 := ⟨_, rfl⟩
  have w3 : IntKind.i64.wrap ((i : Int) + 1) = (I : Int) := wr
  have w4 : IntKind.i64.wrap ((j : Int) - 1) = (J : Int) := wr
  rw [← hI, ← hJ]
  obtain ⟨⟨e', c3, c4, c5, c6⟩, b5, b6⟩ := G2 (H := H) (r := r) (g := g) (n := n) (a := a) hr hn u1 n I J (Go.Sort.swp d1 i j) (by omega) (by omega) (by omega) (by omega) (by rw [swp_size, hs1])
  have qi : hp H r g (iG (iG d1 i (el d1 j)) j (el d1 i)) = hp H r g (Go.Sort.swp d1 i j) := by rw [cW]
  generalize Go.Sort.swp d1 i j = d2 at c3 c6 b5 b6 qi ⊢
  generalize Go.Sort.partLoop lt a I J d2 = o at c3 c6 b5 b6 ⊢
  obtain ⟨q, d3⟩ := o
  simp only at c3 c6 b5 b6 ⊢
  rw [ZO (X := X) _ BM _ rfl rfl]; unfold BM
  refine aA (eJ @w1 @w2 @u1 @hp' @hr @hd @cF @cG @ig @aW @Iu) ?_
  refine aD ?_
  rw [c1]
  refine aA trivial ?_
  refine aD ?_
  rw [c2]
  refine aA (mU @w0 @w3 @w4 @u1 @u2 @u3 @hr @hs1 @cF @cG @ig @aW @qi) ?_
  refine aD ?_
  rw [c3]
  refine Ms (jC @c4 @c5 @c6 @u1 @hr @cF @cG @ig @aW) ?_
  simp only [Zw, Yc, Za, List.map_cons, List.map_nil, lk, reduceIte, Nat.reduceEqDiff, Option.map_some]
  rw [mS (by rw [dW, dW]) rfl rfl]
  rfl
theorem Gb {H : Zb} {r g n a b : Nat} {s : Int} (hr : r < H.length) (hn : n ≤ 1000000) (hb : b ≤ n) (d : Array V) (hd : d.size = n) : ∀ (k i : Nat) (ex : Env), b - i ≤ k → 1 ≤ i → i ≤ b →
 (∃ y, C X (.loop lO) ((0, au r g n) :: (1, .int .i64 a) :: (2, .int .i64 b) :: (3, .func 69 [] []) :: (9, .int .i64 i) :: (10, .int .i64 s) :: ex) (hp H r g d) =
  some (.exit 2, [(0, au r g n), (1, .int .i64 a), (2, .int .i64 b), (3, .func 69 [] []), (9, .int .i64 (Go.Sort.scanSorted lt d b i : Nat)), (10, .int .i64 s), (36, y)], hp H r g d)) ∧ i ≤ Go.Sort.scanSorted lt d b i ∧ Go.Sort.scanSorted lt d b i ≤ b := by
 intro k
 induction k with
 | zero =>
  intro i ex hk h1 hi
  have w0 : ¬ i < b := by omega
  rw [Go.Sort.scanSorted, if_neg (by simp [w0])]
  refine ⟨?_, Nat.le_refl _, hi⟩
  rw [Zx]
  unfold lO
  refine aA @w0 ?_
  rw [ZS]
  exact ⟨_, by simp [Za, lk]; exact rfl⟩
 | succ k ih =>
  intro i ex hk h1 hi
  by_cases w0 : i < b
  ·obtain ⟨I, hI⟩ : ∃ I, I = i + 1 := ⟨_, rfl⟩
   obtain ⟨J, hJ⟩ : ∃ J, J = i - 1 := ⟨_, rfl⟩
   have w1 : IntKind.i64.wrap ((i : Int) + 1) = (I : Int) := wr
   have w2 : IntKind.i64.wrap ((i : Int) - 1) = (J : Int) := wr
   have u1 : i < n := by omega
   have u2 : J < n := by omega
   cases hp' : lt (el d i) (el d J)
   ·have q := di hp'
    have hs : C X lO ((0, au r g n) :: (1, .int .i64 a) :: (2, .int .i64 b) :: (3, .func 69 [] []) :: (9, .int .i64 i) :: (10, .int .i64 s) :: ex) (hp H r g d) = some (.norm, [(0, au r g n), (1, .int .i64 a), (2, .int .i64 b), (3, .func 69 [] []), (9, .int .i64 I), (10, .int .i64 s)], hp H r g d) := by
     unfold lO
     refine aA (eJ @w0 @w1 @w2 @u1 @u2 @hr @hd @cF @cG @bC @q) ?_
     simp [Za, lk]
    have hdef : Go.Sort.scanSorted lt d b i = Go.Sort.scanSorted lt d b I := by
     rw [Go.Sort.scanSorted.eq_1 lt d b i, if_pos, hI]
     rw [hJ] at hp'
     unfold el at hp'
     simp [w0, hp']
    have h3 := ih I [] (by omega) (by omega) (by omega)
    rw [Zx, hs, ZZ, hdef]
    exact ⟨h3.1, by omega, h3.2.2⟩
   ·have q := dh hp'
    have hdef : Go.Sort.scanSorted lt d b i = i := by
     rw [Go.Sort.scanSorted.eq_1 lt d b i, if_neg]
     rw [hJ] at hp'
     unfold el at hp'
     simp [hp']
    rw [hdef]
    refine ⟨?_, Nat.le_refl _, hi⟩
    rw [Zx]
    unfold lO
    refine aA (eJ @w0 @w1 @w2 @u1 @u2 @hr @hd @cF @cG @bC @q) ?_
    rw [ZS]
    exact ⟨_, by simp [Za, lk]; exact rfl⟩
  ·exact ih i ex (by omega) h1 hi
theorem lA : ∀ (j : Nat) (d : Array V), (Go.Sort.shiftDown lt j d).size = d.size
 | 0, d => rfl
 | j + 1, d => by
  rw [Go.Sort.shiftDown]
  split
  ·rfl
  ·rw [lA j, swp_size]
theorem Jc {H : Zb} {r g n a b i : Nat} {s : Int} (hr : r < H.length) (hn : n ≤ 1000000) : ∀ (j : Nat) (d : Array V), d.size = n → j < n →
 ∃ x ex, C X (.loop lM) [(0, au r g n), (1, .int .i64 a), (2, .int .i64 b), (3, .func 69 [] []), (9, .int .i64 i), (10, .int .i64 s), (11, .int .i64 j)] (hp H r g d) =
  some (.exit 4, (0, au r g n) :: (1, .int .i64 a) :: (2, .int .i64 b) :: (3, .func 69 [] []) :: (9, .int .i64 i) :: (10, .int .i64 s) :: (11, x) :: ex, hp H r g (Go.Sort.shiftDown lt j d)) := by
 intro j
 induction j with
 | zero =>
  intro d hd hj
  rw [Zx]
  unfold lM
  refine aA trivial ?_
  rw [ZS]
  exact ⟨_, _, by simp [Za, lk, Go.Sort.shiftDown]; exact ⟨rfl, rfl⟩⟩
 | succ J ih =>
  intro d hd hj
  obtain ⟨j, hJ⟩ : ∃ j, j = J + 1 := ⟨_, rfl⟩
  rw [← hJ]
  have hdef : Go.Sort.shiftDown lt j d = if (!lt (el d j) (el d J)) = true then d else Go.Sort.shiftDown lt J (Go.Sort.swp d j J) := by rw [hJ, Go.Sort.shiftDown]; rfl
  rw [hdef]
  have w0 : (1 : Int) ≤ j := by omega
  have w1 : IntKind.i64.wrap ((j : Int) - 1) = (J : Int) := wr
  have u1 : j < n := by omega
  have u2 : J < n := by omega
  cases hp' : lt (el d j) (el d J)
  ·have q := di hp'
   rw [if_pos (show (!false) = true from rfl), Zx]
   unfold lM
   refine aA (eY @w0 @w1 @u1 @u2 @hr @hd @cF @cG @bC @q) ?_
   rw [ZS]
   exact ⟨_, _, by simp [Za, lk]; exact ⟨rfl, rfl⟩⟩
  ·have q := dh hp'
   have hs : C X lM [(0, au r g n), (1, .int .i64 a), (2, .int .i64 b), (3, .func 69 [] []), (9, .int .i64 i), (10, .int .i64 s), (11, .int .i64 j)] (hp H r g d) = some (.norm, [(0, au r g n), (1, .int .i64 a), (2, .int .i64 b), (3, .func 69 [] []), (9, .int .i64 i), (10, .int .i64 s), (11, .int .i64 J)], hp H r g (Go.Sort.swp d j J)) := by
    unfold lM
    rw [cW]
    refine aA (lm @w0 @w1 @u1 @u2 @hr @hd @cF @cG @ig @aW @bC @q) ?_
    simp [Za, lk]
   rw [Zx, hs, ZZ, if_neg (show ¬ (!true) = true by simp)]
   exact ih _ (by rw [swp_size, hd]) (by omega)
theorem uz (b : Nat) : ∀ (k j : Nat) (d : Array V), b - j ≤ k → (Go.Sort.shiftUp lt b j d).size = d.size := by
 intro k
 induction k with
 | zero => intro j d h; rw [Go.Sort.shiftUp, if_neg (by omega)]
 | succ k ih =>
  intro j d h
  rw [Go.Sort.shiftUp]
  split
  ·split
   ·rfl
   ·rw [ih _ _ (by omega), swp_size]
  ·rfl
theorem FZ {H : Zb} {r g n a b i : Nat} {s : Int} (hr : r < H.length) (hn : n ≤ 1000000) (hb : b ≤ n) : ∀ (k j : Nat) (d : Array V), b - j ≤ k → d.size = n → 1 ≤ j → j ≤ n →
 ∃ x ex, C X (.loop lK) [(0, au r g n), (1, .int .i64 a), (2, .int .i64 b), (3, .func 69 [] []), (9, .int .i64 i), (10, .int .i64 s), (12, .int .i64 j)] (hp H r g d) =
  some (.exit 6, (0, au r g n) :: (1, .int .i64 a) :: (2, .int .i64 b) :: (3, .func 69 [] []) :: (9, .int .i64 i) :: (10, .int .i64 s) :: (12, x) :: ex, hp H r g (Go.Sort.shiftUp lt b j d)) := by
 intro k
 induction k with
 | zero =>
  intro j d hk hd h1 hj
  have w0 : ¬ j < b := by omega
  rw [Zx, Go.Sort.shiftUp, if_neg w0]
  unfold lK
  refine aA @w0 ?_
  rw [ZS]
  exact ⟨_, _, by simp [Za, lk]; exact ⟨rfl, rfl⟩⟩
 | succ k ih =>
  intro j d hk hd h1 hj
  by_cases w0 : j < b
  ·obtain ⟨J, hJ⟩ : ∃ J, J = j - 1 := ⟨_, rfl⟩
   obtain ⟨K, hK⟩ : ∃ K, K = j + 1 := ⟨_, rfl⟩
   have w1 : IntKind.i64.wrap ((j : Int) - 1) = (J : Int) := wr
   have w2 : IntKind.i64.wrap ((j : Int) + 1) = (K : Int) := wr
   have u1 : j < n := by omega
   have u2 : J < n := by omega
   have hdef : Go.Sort.shiftUp lt b j d = if (!lt (el d j) (el d J)) = true then d else Go.Sort.shiftUp lt b K (Go.Sort.swp d j J) := by rw [Go.Sort.shiftUp.eq_1 lt b j d, if_pos w0, hJ, hK]; rfl
   rw [hdef]
   cases hp' : lt (el d j) (el d J)
   ·have q := di hp'
    rw [if_pos (show (!false) = true from rfl), Zx]
    unfold lK
    refine aA (eJ @w0 @w1 @w2 @u1 @u2 @hr @hd @cF @cG @bC @q) ?_
    rw [ZS]
    exact ⟨_, _, by simp [Za, lk]; exact ⟨rfl, rfl⟩⟩
   ·have q := dh hp'
    have hs : C X lK [(0, au r g n), (1, .int .i64 a), (2, .int .i64 b), (3, .func 69 [] []), (9, .int .i64 i), (10, .int .i64 s), (12, .int .i64 j)] (hp H r g d) = some (.norm, [(0, au r g n), (1, .int .i64 a), (2, .int .i64 b), (3, .func 69 [] []), (9, .int .i64 i), (10, .int .i64 s), (12, .int .i64 K)], hp H r g (Go.Sort.swp d j J)) := by
     unfold lK
     rw [cW]
     refine aA (mU @w0 @w1 @w2 @u1 @u2 @hr @hd @cF @cG @ig @aW @bC @q) ?_
     simp [Za, lk]
    rw [Zx, hs, ZZ, if_neg (show ¬ (!true) = true by simp)]
    exact ih K _ (by omega) (by rw [swp_size, hd]) (by omega) (by omega)
  ·exact ih j d (by omega) hd h1 hj
theorem G4 {H : Zb} {r g n a b : Nat} (hr : r < H.length) (hn : n ≤ 1000000) (hb : b ≤ n) (hab : a < b) : ∀ (s i : Nat) (d : Array V), s ≤ 5 → a + 1 ≤ i → i ≤ b → d.size = n →
 ((C X (.loop fI) [(0, au r g n), (1, .int .i64 a), (2, .int .i64 b), (3, .func 69 [] []), (9, .int .i64 i), (10, .int .i64 (5 - s : Int))] (hp H r g d) = some (.ret, [(8, .bool (Go.Sort.partialIns lt a b s i d).2)], hp H r g (Go.Sort.partialIns lt a b s i d).1)) ∨
 ((Go.Sort.partialIns lt a b s i d).2 = false ∧ ∃ e', C X (.loop fI) [(0, au r g n), (1, .int .i64 a), (2, .int .i64 b), (3, .func 69 [] []), (9, .int .i64 i), (10, .int .i64 (5 - s : Int))] (hp H r g d) = some (.exit 0, e', hp H r g (Go.Sort.partialIns lt a b s i d).1))) ∧ (Go.Sort.partialIns lt a b s i d).1.size = n := by
 intro s
 induction s with
 | zero =>
  intro i d hs ha hi hd
  refine ⟨.inr ⟨rfl, ?_⟩, hd⟩
  rw [Zx]
  unfold fI
  refine aA trivial ?_
  rw [ZS]
  exact ⟨_, rfl⟩
 | succ s ih =>
  intro i d hs ha hi hd
  obtain ⟨S, hS⟩ : ∃ S : Int, S = 5 - ((s + 1 : Nat) : Int) := ⟨_, rfl⟩
  rw [← hS]
  have v0 : S < 5 := by omega
  have v1 : IntKind.i64.wrap (S + 1) = 5 - (s : Int) := wr
  obtain ⟨⟨y, c1⟩, b1, b2⟩ := Gb (H := H) (r := r) (g := g) (n := n) (a := a) (b := b) (s := S) hr hn hb d hd b i [(16, .bool true)] (by omega) (by omega) hi
  obtain ⟨i2, hi2⟩ : ∃ i2, i2 = Go.Sort.scanSorted lt d b i := ⟨_, rfl⟩
  rw [← hi2] at c1 b1 b2
  obtain ⟨d2, iX⟩ : ∃ d2, d2 = Go.Sort.swp d i2 (i2 - 1) := ⟨_, rfl⟩
  obtain ⟨d3, l6⟩ : ∃ d3, d3 = if i2 - a ≥ 2 then Go.Sort.shiftDown lt (i2 - 1) d2 else d2 := ⟨_, rfl⟩
  obtain ⟨d4, oG⟩ : ∃ d4, d4 = if b - i2 ≥ 2 then Go.Sort.shiftUp lt b (i2 + 1) d3 else d3 := ⟨_, rfl⟩
  have hdef : Go.Sort.partialIns lt a b (s + 1) i d = if i2 = b then (d, true) else if b - a < 50 then (d, false) else Go.Sort.partialIns lt a b s i2 d4 := by
   rw [Go.Sort.partialIns, oG, l6, iX, hi2]
  rw [hdef]
  by_cases g1 : i2 = b
  ·rw [if_pos g1]
   refine ⟨.inl ?_, hd⟩
   have vC : ((i2 : Int) == b) = true := by simp [g1]
   rw [Zx]
   unfold fI
   refine r9 trivial ?_
   refine aD ?_
   rw [c1]
   refine aA (cC @g1 @vC) ?_
   rw [cQ]
   simp [Za, lk]
  rw [if_neg g1]
  have vC : ((i2 : Int) == b) = false := by simp only [beq_eq_false_iff_ne, ne_eq]; omega
  obtain ⟨l, hl⟩ : ∃ l, l = b - a := ⟨_, rfl⟩
  have w1 : IntKind.i64.wrap ((b : Int) - a) = (l : Int) := wr
  by_cases g2 : l < 50
  ·rw [if_pos (by omega)]
   refine ⟨.inl ?_, hd⟩
   have xF : (l : Int) < 50 := by omega
   rw [Zx]
   unfold fI
   refine r9 trivial ?_
   refine aD ?_
   rw [c1]
   refine aA (d8 @vC @w1 @g2 @xF) ?_
   rw [cQ]
   simp [Za, lk]
  rw [if_neg (by omega)]
  have xF : ¬ (l : Int) < 50 := by omega
  obtain ⟨j, hj⟩ : ∃ j, j = i2 - 1 := ⟨_, rfl⟩
  obtain ⟨K, hK⟩ : ∃ K, K = i2 + 1 := ⟨_, rfl⟩
  obtain ⟨p, hp'⟩ : ∃ p, p = i2 - a := ⟨_, rfl⟩
  obtain ⟨q, hq⟩ : ∃ q, q = b - i2 := ⟨_, rfl⟩
  rw [← hj] at iX l6
  rw [← hp'] at l6
  rw [← hK, ← hq] at oG
  have w2 : IntKind.i64.wrap ((i2 : Int) - 1) = (j : Int) := wr
  have w3 : IntKind.i64.wrap ((i2 : Int) + 1) = (K : Int) := wr
  have w4 : IntKind.i64.wrap ((i2 : Int) - a) = (p : Int) := wr
  have w5 : IntKind.i64.wrap ((b : Int) - i2) = (q : Int) := wr
  have u1 : i2 < n := by omega
  have u2 : j < n := by omega
  have z2 : d2.size = n := by rw [iX, swp_size, hd]
  have z3 : d3.size = n := by rw [l6]; split <;> simp [lA, z2]
  have z4 : d4.size = n := by rw [oG]; split <;> simp [uz b b _ _ (Nat.sub_le _ _), z3]
  have qi : hp H r g (iG (iG d i2 (el d j)) j (el d i2)) = hp H r g d2 := by rw [iX, cW]
  have h9 := ih i2 d4 (by omega) (by omega) (by omega) z4
  have hs : C X fI [(0, au r g n), (1, .int .i64 a), (2, .int .i64 b), (3, .func 69 [] []), (9, .int .i64 i), (10, .int .i64 S)] (hp H r g d) = some (.norm, [(0, au r g n), (1, .int .i64 a), (2, .int .i64 b), (3, .func 69 [] []), (9, .int .i64 i2), (10, .int .i64 (5 - s : Int))], hp H r g d4) := by
   by_cases gp : 2 ≤ p
   ·have Bb : (2 : Int) ≤ p := by omega
    rw [if_pos gp] at l6
    obtain ⟨x3, Pq, c3⟩ := Jc (H := H) (r := r) (g := g) (n := n) (a := a) (b := b) (i := i2) (s := S) hr hn j d2 z2 u2
    rw [← l6] at c3
    by_cases gq : 2 ≤ q
    ·have rA : (2 : Int) ≤ q := by omega
     rw [if_pos gq] at oG
     obtain ⟨x4, IV, c4⟩ := FZ (H := H) (r := r) (g := g) (n := n) (a := a) (b := b) (i := i2) (s := S) hr hn hb n K d3 (by omega) z3 (by omega) (by omega)
     rw [← oG] at c4
     unfold fI
     refine r9 trivial ?_
     refine aD ?_
     rw [c1]
     refine aA (sK @vC @w1 @w2 @w3 @w4 @w5 @g2 @xF @Bb @rA @u1 @u2 @hr @hd @cF @cG @ig @aW @qi) ?_
     refine aD ?_
     rw [c3]
     refine aA (ew @w3 @w5 @rA) ?_
     refine aD ?_
     rw [c4]
     refine aA @v1 ?_
     simp [Za, lk]
    ·have rA : ¬ (2 : Int) ≤ q := by omega
     rw [if_neg gq] at oG
     unfold fI
     refine r9 trivial ?_
     refine aD ?_
     rw [c1]
     refine aA (sK @vC @w1 @w2 @w3 @w4 @w5 @g2 @xF @Bb @rA @u1 @u2 @hr @hd @cF @cG @ig @aW @qi) ?_
     refine aD ?_
     rw [c3]
     refine aA (d8 @w3 @w5 @rA @v1) ?_
     simp [Za, lk, oG]
   ·have Bb : ¬ (2 : Int) ≤ p := by omega
    rw [if_neg gp] at l6
    by_cases gq : 2 ≤ q
    ·have rA : (2 : Int) ≤ q := by omega
     rw [if_pos gq] at oG
     obtain ⟨x4, IV, c4⟩ := FZ (H := H) (r := r) (g := g) (n := n) (a := a) (b := b) (i := i2) (s := S) hr hn hb n K d3 (by omega) z3 (by omega) (by omega)
     rw [← oG, l6] at c4
     unfold fI
     refine r9 trivial ?_
     refine aD ?_
     rw [c1]
     refine aA (sK @vC @w1 @w2 @w3 @w4 @w5 @g2 @xF @Bb @rA @u1 @u2 @hr @hd @cF @cG @ig @aW @qi) ?_
     refine aD ?_
     rw [c4]
     refine aA @v1 ?_
     simp [Za, lk]
    ·have rA : ¬ (2 : Int) ≤ q := by omega
     rw [if_neg gq] at oG
     unfold fI
     refine r9 trivial ?_
     refine aD ?_
     rw [c1]
     refine aA (vL @vC @w1 @w2 @w3 @w4 @w5 @g2 @xF @Bb @rA @u1 @u2 @hr @hd @cF @cG @ig @aW @qi @v1) ?_
     simp [Za, lk, oG, l6]
  rw [Zx, hs, ZZ]
  exact h9
theorem yf {H : Zb} {r g n a b : Nat} (hr : r < H.length) (hn : n ≤ 1000000) (hab : a < b) (hb : b ≤ n) (d : Array V) (hd : d.size = n) :
 E X 97 [au r g n, .int .i64 a, .int .i64 b, .func 69 [] []] (hp H r g d) = some (.bool (Go.Sort.partialInsertionSort lt d a b).2, hp H r g (Go.Sort.partialInsertionSort lt d a b).1) ∧ (Go.Sort.partialInsertionSort lt d a b).1.size = n := by
 obtain ⟨i, hi⟩ : ∃ i, i = a + 1 := ⟨_, rfl⟩
 have w1 : IntKind.i64.wrap ((a : Int) + 1) = (i : Int) := wr
 have hdef : Go.Sort.partialInsertionSort lt d a b = Go.Sort.partialIns lt a b 5 i d := by rw [hi]; rfl
 rw [hdef]
 obtain ⟨c, hz⟩ := G4 (H := H) (r := r) (g := g) (n := n) (a := a) (b := b) hr hn hb hab 5 i d (by omega) (by omega) (by omega) hd
 refine ⟨?_, hz⟩
 rw [show (5 - ((5 : Nat) : Int)) = 0 from rfl] at c
 generalize Go.Sort.partialIns lt a b 5 i d = o at c ⊢
 obtain ⟨d1, f⟩ := o
 rw [ZO (X := X) _ Jn _ rfl rfl]; unfold Jn
 refine aA @w1 ?_
 refine aD ?_
 rcases c with c | ⟨cf, e', c⟩
 ·rw [c]
  refine aA trivial ?_
  simp only [Zw, Yc, Za, List.map_cons, List.map_nil, lk, reduceIte, Nat.reduceEqDiff, Option.map_some]
  rw [jb (by rw [dW, dW]) rfl]
 ·rw [c]
  refine aA trivial ?_
  simp only [Zw, Yc, Za, List.map_cons, List.map_nil, lk, reduceIte, Nat.reduceEqDiff, Option.map_some]
  rw [jb (by rw [dW, dW]) rfl]
  simp only at cf
  rw [cf]
set_option linter.unusedSectionVars false
theorem ji (p : V → Bool) (d : Array V) : ∀ (k i j : Nat), j + 1 - i ≤ k → i ≤ Go.Sort.scanUp p d j i ∧ (Go.Sort.scanUp p d j i ≤ j + 1 ∨ Go.Sort.scanUp p d j i = i) := by
 intro k
 induction k with
 | zero =>
  intro i j h
  rw [Go.Sort.scanUp, if_neg (by simp; omega)]
  exact ⟨Nat.le_refl _, .inr rfl⟩
 | succ k ih =>
  intro i j h
  rw [Go.Sort.scanUp]
  split
  ·rename_i hc
   simp at hc
   have := ih (i + 1) j (by omega)
   omega
  ·exact ⟨Nat.le_refl _, .inr rfl⟩
theorem fu (p : V → Bool) (d : Array V) (i : Nat) (h1 : 1 ≤ i) : ∀ (j : Nat), Go.Sort.scanDown p d i j ≤ j ∧ (i ≤ j + 1 → i ≤ Go.Sort.scanDown p d i j + 1) ∧ (j < i → Go.Sort.scanDown p d i j = j)
 | 0 => by simp [Go.Sort.scanDown]
 | j + 1 => by
  have ih := fu p d i h1 j
  rw [Go.Sort.scanDown]
  split
  ·rename_i hc
   simp at hc
   omega
  ·exact ⟨Nat.le_refl _, fun h => h, fun _ => rfl⟩
theorem zZ (a : Nat) : ∀ (k i j : Nat) (d : Array V), j + 1 - i ≤ k → 1 ≤ i → i ≤ j + 2 → (Go.Sort.partEqLoop lt a i j d).2.size = d.size ∧ i ≤ (Go.Sort.partEqLoop lt a i j d).1 ∧ (i ≤ j + 1 → (Go.Sort.partEqLoop lt a i j d).1 ≤ j + 1) ∧ (j + 2 = i → (Go.Sort.partEqLoop lt a i j d).1 = i) := by
 intro k
 induction k with
 | zero =>
  intro i j d hk h1 hij
  have b1 := ji (fun x => !lt d[a]! x) d (j + 1) i j (by omega)
  rw [Go.Sort.partEqLoop]
  generalize Go.Sort.scanUp (fun x => !lt d[a]! x) d j i = i2 at b1 ⊢
  have b2 := fu (fun x => lt d[a]! x) d i2 (by omega) j
  generalize Go.Sort.scanDown (fun x => lt d[a]! x) d i2 j = j2 at b2 ⊢
  try simp only
  rw [if_pos (by omega)]
  exact ⟨rfl, by show i ≤ i2; omega, fun _ => by show i2 ≤ j + 1; omega, fun _ => by show i2 = i; omega⟩
 | succ k ih =>
  intro i j d hk h1 hij
  have b1 := ji (fun x => !lt d[a]! x) d (j + 1) i j (by omega)
  rw [Go.Sort.partEqLoop]
  generalize Go.Sort.scanUp (fun x => !lt d[a]! x) d j i = i2 at b1 ⊢
  have b2 := fu (fun x => lt d[a]! x) d i2 (by omega) j
  generalize Go.Sort.scanDown (fun x => lt d[a]! x) d i2 j = j2 at b2 ⊢
  try simp only
  by_cases hc : i2 > j2
  ·rw [if_pos hc]
   exact ⟨rfl, by show i ≤ i2; omega, fun _ => by show i2 ≤ j + 1; omega, fun _ => by show i2 = i; omega⟩
  ·rw [if_neg hc, dif_pos (by omega)]
   have h := ih (i2 + 1) (j2 - 1) (Go.Sort.swp d i2 j2) (by omega) (by omega) (by omega)
   rw [swp_size] at h
   refine ⟨h.1, by omega, fun hh => ?_, fun hh => by omega⟩
   by_cases hq : i2 + 1 ≤ j2 - 1 + 1
   ·have := h.2.2.1 hq; omega
   ·have := h.2.2.2 (by omega); omega
theorem Ft (a : Nat) : ∀ (k i j : Nat) (d : Array V), j + 1 - i ≤ k → 1 ≤ i → i ≤ j + 2 → (Go.Sort.partLoop lt a i j d).2.size = d.size ∧ (Go.Sort.partLoop lt a i j d).1 ≤ j ∧ (i ≤ j + 1 → i ≤ (Go.Sort.partLoop lt a i j d).1 + 1) ∧ (j + 2 = i → (Go.Sort.partLoop lt a i j d).1 = j) := by
 intro k
 induction k with
 | zero =>
  intro i j d hk h1 hij
  have b1 := ji (fun x => lt x d[a]!) d (j + 1) i j (by omega)
  rw [Go.Sort.partLoop]
  generalize Go.Sort.scanUp (fun x => lt x d[a]!) d j i = i2 at b1 ⊢
  have b2 := fu (fun x => !lt x d[a]!) d i2 (by omega) j
  generalize Go.Sort.scanDown (fun x => !lt x d[a]!) d i2 j = j2 at b2 ⊢
  try simp only
  rw [if_pos (by omega)]
  exact ⟨rfl, b2.1, fun _ => by show i ≤ j2 + 1; omega, fun _ => by show j2 = j; omega⟩
 | succ k ih =>
  intro i j d hk h1 hij
  have b1 := ji (fun x => lt x d[a]!) d (j + 1) i j (by omega)
  rw [Go.Sort.partLoop]
  generalize Go.Sort.scanUp (fun x => lt x d[a]!) d j i = i2 at b1 ⊢
  have b2 := fu (fun x => !lt x d[a]!) d i2 (by omega) j
  generalize Go.Sort.scanDown (fun x => !lt x d[a]!) d i2 j = j2 at b2 ⊢
  try simp only
  by_cases hc : i2 > j2
  ·rw [if_pos hc]
   exact ⟨rfl, b2.1, fun _ => by show i ≤ j2 + 1; omega, fun _ => by show j2 = j; omega⟩
  ·rw [if_neg hc, dif_pos (by omega)]
   have h := ih (i2 + 1) (j2 - 1) (Go.Sort.swp d i2 j2) (by omega) (by omega) (by omega)
   rw [swp_size] at h
   refine ⟨h.1, by omega, fun hh => ?_, fun hh => by omega⟩
   by_cases hq : i2 + 1 ≤ j2 - 1 + 1
   ·have := h.2.2.1 hq; omega
   ·have := h.2.2.2 (by omega); omega
theorem pD {a b p : Nat} (hab : a < b) (d : Array V) : (Go.Sort.partitionEqual lt d a b p).2.size = d.size ∧ a < (Go.Sort.partitionEqual lt d a b p).1 ∧ (Go.Sort.partitionEqual lt d a b p).1 ≤ b := by
 have h := zZ a (b + 1) (a + 1) (b - 1) (Go.Sort.swp d a p) (by omega) (by omega) (by omega)
 rw [swp_size] at h
 rw [Go.Sort.partitionEqual]
 refine ⟨h.1, by omega, ?_⟩
 have := h.2.2.1 (by omega)
 omega
theorem uW {a b p : Nat} (hab : a < b) (d : Array V) : (Go.Sort.partition lt d a b p).2.2.size = d.size ∧ a ≤ (Go.Sort.partition lt d a b p).1 ∧ (Go.Sort.partition lt d a b p).1 < b := by
 obtain ⟨d1, cz⟩ : ∃ d1, d1 = Go.Sort.swp d a p := ⟨_, rfl⟩
 have hs : d1.size = d.size := by rw [cz, swp_size]
 have b1 := ji (fun x => lt x d1[a]!) d1 (b + 1) (a + 1) (b - 1) (by omega)
 simp only [Go.Sort.partition]
 rw [← cz]
 generalize Go.Sort.scanUp (fun x => lt x d1[a]!) d1 (b - 1) (a + 1) = i at b1 ⊢
 have b2 := fu (fun x => !lt x d1[a]!) d1 i (by omega) (b - 1)
 generalize Go.Sort.scanDown (fun x => !lt x d1[a]!) d1 i (b - 1) = j at b2 ⊢
 split
 ·refine ⟨by simp only [swp_size]; exact hs, by show a ≤ j; omega, by show j < b; omega⟩
 ·rename_i hc
  have h := Ft a (b + 1) (i + 1) (j - 1) (Go.Sort.swp d1 i j) (by omega) (by omega) (by omega)
  rw [swp_size] at h
  refine ⟨by simp only [swp_size]; rw [h.1, hs], ?_, ?_⟩
  ·by_cases hq : i + 1 ≤ j - 1 + 1
   ·have := h.2.2.1 hq; show a ≤ (Go.Sort.partLoop lt a (i + 1) (j - 1) (Go.Sort.swp d1 i j)).1; omega
   ·have := h.2.2.2 (by omega); show a ≤ (Go.Sort.partLoop lt a (i + 1) (j - 1) (Go.Sort.swp d1 i j)).1; omega
  ·show (Go.Sort.partLoop lt a (i + 1) (j - 1) (Go.Sort.swp d1 i j)).1 < b; omega
theorem oD (a b : Nat) (d : Array V) : (Go.Sort.insertionSort lt d a b).size = d.size := nz a b (a + 1) d
theorem oE (first : Nat) : ∀ (k : Nat) (d : Array V), (Go.Sort.heapPop lt first k d).size = d.size
 | 0, d => rfl
 | k + 1, d => by rw [Go.Sort.heapPop, oE first k, gT k first k 0 _ (by omega), swp_size]
theorem l5 (hi first : Nat) : ∀ (k : Nat) (d : Array V), (Go.Sort.heapBuild lt hi first k d).size = d.size
 | 0, d => rfl
 | k + 1, d => by rw [Go.Sort.heapBuild, l5 hi first k, gT hi first hi k _ (by omega)]
theorem ua (a b : Nat) (d : Array V) : (Go.Sort.heapSort lt d a b).size = d.size := by
 rw [Go.Sort.heapSort, oE, l5]
theorem qb : ∀ (k i j : Nat) (d : Array V), j - i ≤ k → (Go.Sort.reverseLoop i j d).size = d.size := by
 intro k
 induction k with
 | zero => intro i j d h; rw [Go.Sort.reverseLoop, if_neg (by omega)]
 | succ k ih =>
  intro i j d h
  rw [Go.Sort.reverseLoop]
  split
  ·rw [ih _ _ _ (by omega), swp_size]
  ·rfl
theorem pC (a b : Nat) (d : Array V) : (Go.Sort.reverseRange d a b).size = d.size := qb b a (b - 1) d (by omega)
theorem oU (a b : Nat) (d : Array V) : (Go.Sort.breakPatterns d a b).size = d.size := by
 rw [Go.Sort.breakPatterns]
 simp only
 split
 ·have e : ∀ (l m i : Nat) (q : UInt64 × Array V), (Go.Sort.breakStep a l m q i).2.size = q.2.size := fun l m i q => jU a l m i q.1 q.2
  rw [e, e, e]
 ·rfl
def q1 : XC := .reg [⟨some 21, .mov (.t 2), none, false⟩, ⟨some 22, .mov (.t 1), none, false⟩, ⟨some 23, .bin .sub (.t 21) (.t 22), none, false⟩, ⟨some 12, .mov (.t 23), none, false⟩] [0, 1, 2, 3, 4, 10, 11, 12]
def q2 : XC := .seq (.reg [⟨some 24, .mov (.t 12), none, false⟩, ⟨some 25, .bin .leq (.t 24) (.c (.int .i64 12)), none, false⟩] [0, 1, 2, 3, 4, 10, 11, 12, 25]) (.cond (.t 25) (.seq (.reg [⟨some 26, .mov (.t 0), none, false⟩, ⟨some 27, .mov (.t 1), none, false⟩, ⟨some 28, .mov (.t 2), none, false⟩, ⟨some 29, .mov (.t 4), none, false⟩, ⟨some 30, .call (.c (.func 92 [] [])) [.t 26, .t 27, .t 28, .t 29], none, false⟩] []) .ret) .skip)
def q3 : XC := .seq (.reg [⟨some 31, .mov (.t 3), none, false⟩, ⟨some 32, .bin .eql (.t 31) (.c (.int .i64 0)), none, false⟩] [0, 1, 2, 3, 4, 10, 11, 12, 32]) (.cond (.t 32) (.seq (.reg [⟨some 33, .mov (.t 0), none, false⟩, ⟨some 34, .mov (.t 1), none, false⟩, ⟨some 35, .mov (.t 2), none, false⟩, ⟨some 36, .mov (.t 4), none, false⟩, ⟨some 37, .call (.c (.func 93 [] [])) [.t 33, .t 34, .t 35, .t 36], none, false⟩] []) .ret) .skip)
def q4 : XC := .seq (.reg [⟨some 38, .mov (.t 10), none, false⟩, ⟨some 39, .un .not (.t 38), none, false⟩] [0, 1, 2, 3, 4, 10, 11, 12, 39]) (.cond (.t 39) (.seq (.reg [⟨some 40, .mov (.t 0), none, false⟩, ⟨some 41, .mov (.t 1), none, false⟩, ⟨some 42, .mov (.t 2), none, false⟩, ⟨some 43, .mov (.t 4), none, false⟩, ⟨some 44, .call (.c (.func 94 [] [])) [.t 40, .t 41, .t 42, .t 43], none, false⟩] [0, 1, 2, 3, 4, 10, 11, 12]) (.reg [⟨some 45, .mov (.t 3), none, false⟩, ⟨some 46, .bin .sub (.t 45) (.c (.int .i64 1)), none, false⟩, ⟨some 3, .mov (.t 46), none, false⟩] [0, 1, 2, 3, 4, 10, 11, 12])) .skip)
def q5 : XC := .reg [⟨some 48, .mov (.t 0), none, false⟩, ⟨some 49, .mov (.t 1), none, false⟩, ⟨some 50, .mov (.t 2), none, false⟩, ⟨some 51, .mov (.t 4), none, false⟩, ⟨some 52, .call (.c (.func 95 [] [])) [.t 48, .t 49, .t 50, .t 51], none, false⟩, ⟨some 47, .mov (.t 52), none, false⟩, ⟨some 53, .ext (.t 47) 0, none, false⟩, ⟨some 54, .ext (.t 47) 1, none, false⟩, ⟨some 13, .mov (.t 53), none, false⟩, ⟨some 14, .mov (.t 54), none, false⟩] [0, 1, 2, 3, 4, 10, 11, 12, 13, 14]
def q6 : XC := .seq (.reg [⟨some 55, .mov (.t 14), none, false⟩, ⟨some 56, .bin .eql (.t 55) (.c (.int .i64 2)), none, false⟩] [0, 1, 2, 3, 4, 10, 11, 12, 13, 14, 56]) (.cond (.t 56) (.seq (.reg [⟨some 57, .mov (.t 0), none, false⟩, ⟨some 58, .mov (.t 1), none, false⟩, ⟨some 59, .mov (.t 2), none, false⟩, ⟨some 60, .mov (.t 4), none, false⟩, ⟨some 61, .call (.c (.func 96 [] [])) [.t 57, .t 58, .t 59, .t 60], none, false⟩] [0, 1, 2, 3, 4, 10, 11, 12, 13]) (.seq (.reg [⟨some 62, .mov (.t 2), none, false⟩, ⟨some 63, .bin .sub (.t 62) (.c (.int .i64 1)), none, false⟩, ⟨some 64, .mov (.t 13), none, false⟩, ⟨some 65, .mov (.t 1), none, false⟩, ⟨some 66, .bin .sub (.t 64) (.t 65), none, false⟩, ⟨some 67, .bin .sub (.t 63) (.t 66), none, false⟩, ⟨some 13, .mov (.t 67), none, false⟩] [0, 1, 2, 3, 4, 10, 11, 12, 13]) (.reg [⟨some 14, .mov (.c (.int .i64 1)), none, false⟩] [0, 1, 2, 3, 4, 10, 11, 12, 13, 14]))) .skip)
def q7 : XC := .seq (.reg [⟨some 68, .mov (.t 10), none, false⟩, ⟨some 69, .mov (.t 68), none, false⟩, ⟨some 70, .mov (.t 11), some (69, true), false⟩, ⟨some 71, .pick (.t 69) (.t 70) (.c (.bool false)), none, false⟩, ⟨some 72, .mov (.t 71), none, false⟩, ⟨some 73, .mov (.t 14), some (72, true), false⟩, ⟨some 74, .bin .eql (.t 73) (.c (.int .i64 1)), some (72, true), false⟩, ⟨some 75, .pick (.t 72) (.t 74) (.c (.bool false)), none, false⟩] [0, 1, 2, 3, 4, 10, 11, 12, 13, 75]) (.cond (.t 75) (.seq (.reg [⟨some 76, .mov (.t 0), none, false⟩, ⟨some 77, .mov (.t 1), none, false⟩, ⟨some 78, .mov (.t 2), none, false⟩, ⟨some 79, .mov (.t 4), none, false⟩, ⟨some 80, .call (.c (.func 97 [] [])) [.t 76, .t 77, .t 78, .t 79], none, false⟩] [0, 1, 2, 3, 4, 10, 11, 12, 13, 80]) (.cond (.t 80) .ret .skip)) .skip)
def q8 : XC := .seq (.reg [⟨some 81, .mov (.t 1), none, false⟩, ⟨some 82, .bin .gtr (.t 81) (.c (.int .i64 0)), none, false⟩, ⟨some 83, .mov (.t 82), none, false⟩, ⟨some 84, .mov (.t 4), some (83, true), false⟩, ⟨some 85, .mov (.t 0), some (83, true), false⟩, ⟨some 86, .mov (.t 1), some (83, true), false⟩, ⟨some 87, .bin .sub (.t 86) (.c (.int .i64 1)), some (83, true), false⟩, ⟨some 88, .iaddr 4 (.t 85) (.t 87), some (83, true), false⟩, ⟨some 89, .load true 4 (.t 88), some (83, true), false⟩, ⟨some 90, .mov (.t 0), some (83, true), false⟩, ⟨some 91, .mov (.t 13), some (83, true), false⟩, ⟨some 92, .iaddr 4 (.t 90) (.t 91), some (83, true), false⟩, ⟨some 93, .load true 4 (.t 92), some (83, true), false⟩, ⟨some 94, .call (.t 84) [.t 89, .t 93], some (83, true), false⟩, ⟨some 95, .bin .lss (.t 94) (.c (.int .i64 0)), some (83, true), false⟩, ⟨some 96, .un .not (.t 95), some (83, true), false⟩, ⟨some 97, .pick (.t 83) (.t 96) (.c (.bool false)), none, false⟩] [0, 1, 2, 3, 4, 10, 11, 12, 13, 97]) (.cond (.t 97) (.seq (.reg [⟨some 98, .mov (.t 0), none, false⟩, ⟨some 99, .mov (.t 1), none, false⟩, ⟨some 100, .mov (.t 2), none, false⟩, ⟨some 101, .mov (.t 13), none, false⟩, ⟨some 102, .mov (.t 4), none, false⟩, ⟨some 103, .call (.c (.func 98 [] [])) [.t 98, .t 99, .t 100, .t 101, .t 102], none, false⟩, ⟨some 15, .mov (.t 103), none, false⟩] [0, 2, 3, 4, 10, 11, 15]) (.seq (.reg [⟨some 104, .mov (.t 15), none, false⟩, ⟨some 1, .mov (.t 104), none, false⟩] [0, 1, 2, 3, 4, 10, 11]) (.exit 1))) .skip)
def q9 : XC := .reg [⟨some 106, .mov (.t 0), none, false⟩, ⟨some 107, .mov (.t 1), none, false⟩, ⟨some 108, .mov (.t 2), none, false⟩, ⟨some 109, .mov (.t 13), none, false⟩, ⟨some 110, .mov (.t 4), none, false⟩, ⟨some 111, .call (.c (.func 99 [] [])) [.t 106, .t 107, .t 108, .t 109, .t 110], none, false⟩, ⟨some 105, .mov (.t 111), none, false⟩, ⟨some 112, .ext (.t 105) 0, none, false⟩, ⟨some 113, .ext (.t 105) 1, none, false⟩, ⟨some 16, .mov (.t 112), none, false⟩, ⟨some 17, .mov (.t 113), none, false⟩] [0, 1, 2, 3, 4, 12, 16, 17]
def tf : XC := .reg [⟨some 114, .mov (.t 17), none, false⟩, ⟨some 11, .mov (.t 114), none, false⟩] [0, 1, 2, 3, 4, 11, 12, 16]
def tc : XC := .reg [⟨some 115, .mov (.t 16), none, false⟩, ⟨some 116, .mov (.t 1), none, false⟩, ⟨some 117, .bin .sub (.t 115) (.t 116), none, false⟩, ⟨some 118, .mov (.t 2), none, false⟩, ⟨some 119, .mov (.t 16), none, false⟩, ⟨some 120, .bin .sub (.t 118) (.t 119), none, false⟩, ⟨some 18, .mov (.t 117), none, false⟩, ⟨some 19, .mov (.t 120), none, false⟩] [0, 1, 2, 3, 4, 11, 12, 16, 18, 19]
def sZ : XC := .reg [⟨some 121, .mov (.t 12), none, false⟩, ⟨some 122, .bin .quo (.t 121) (.c (.int .i64 8)), none, false⟩, ⟨some 20, .mov (.t 122), none, false⟩] [0, 1, 2, 3, 4, 11, 16, 18, 19, 20]
def sY : XC := .seq (.reg [⟨some 123, .mov (.t 18), none, false⟩, ⟨some 124, .mov (.t 19), none, false⟩, ⟨some 125, .bin .lss (.t 123) (.t 124), none, false⟩] [0, 1, 2, 3, 4, 11, 16, 18, 19, 20, 125]) (.cond (.t 125) (.seq (.reg [⟨some 126, .mov (.t 18), none, false⟩, ⟨some 127, .mov (.t 20), none, false⟩, ⟨some 128, .bin .geq (.t 126) (.t 127), none, false⟩, ⟨some 10, .mov (.t 128), none, false⟩] [0, 1, 2, 3, 4, 10, 11, 16]) (.seq (.reg [⟨some 129, .mov (.t 0), none, false⟩, ⟨some 130, .mov (.t 1), none, false⟩, ⟨some 131, .mov (.t 16), none, false⟩, ⟨some 132, .mov (.t 3), none, false⟩, ⟨some 133, .mov (.t 4), none, false⟩, ⟨some 134, .call (.c (.func 83 [] [])) [.t 129, .t 130, .t 131, .t 132, .t 133], none, false⟩] [0, 2, 3, 4, 10, 11, 16]) (.reg [⟨some 135, .mov (.t 16), none, false⟩, ⟨some 136, .bin .add (.t 135) (.c (.int .i64 1)), none, false⟩, ⟨some 1, .mov (.t 136), none, false⟩] [0, 1, 2, 3, 4, 10, 11]))) (.seq (.reg [⟨some 137, .mov (.t 19), none, false⟩, ⟨some 138, .mov (.t 20), none, false⟩, ⟨some 139, .bin .geq (.t 137) (.t 138), none, false⟩, ⟨some 10, .mov (.t 139), none, false⟩] [0, 1, 2, 3, 4, 10, 11, 16]) (.seq (.reg [⟨some 140, .mov (.t 0), none, false⟩, ⟨some 141, .mov (.t 16), none, false⟩, ⟨some 142, .bin .add (.t 141) (.c (.int .i64 1)), none, false⟩, ⟨some 143, .mov (.t 2), none, false⟩, ⟨some 144, .mov (.t 3), none, false⟩, ⟨some 145, .mov (.t 4), none, false⟩, ⟨some 146, .call (.c (.func 83 [] [])) [.t 140, .t 142, .t 143, .t 144, .t 145], none, false⟩] [0, 1, 3, 4, 10, 11, 16]) (.reg [⟨some 147, .mov (.t 16), none, false⟩, ⟨some 2, .mov (.t 147), none, false⟩] [0, 1, 2, 3, 4, 10, 11]))))
theorem jZ : gH = .block 1 (.seq q1 (.seq q2 (.seq q3 (.seq q4 (.seq q5 (.seq q6 (.seq q7 (.seq q8 (.seq q9 (.seq tf (.seq tc (.seq sZ sY)))))))))))) := rfl
section
variable {H : Zb} {r g n a b Yu len : Nat} {wb wp : Bool} (hr : r < H.length) (hn : n ≤ 1000000) (hab : a < b) (hb : b ≤ n) (d : Array V) (hd : d.size = n)
include hr hn hab hb hd
theorem st1 (hlen : len = b - a) (ex : Env) (R : XC) : C X (.seq q1 R) ((0, au r g n) :: (1, .int .i64 a) :: (2, .int .i64 b) :: (3, .int .i64 Yu) :: (4, .func 69 [] []) :: (10, .bool wb) :: (11, .bool wp) :: ex) (hp H r g d) = C X R ((0, au r g n) :: (1, .int .i64 a) :: (2, .int .i64 b) :: (3, .int .i64 Yu) :: (4, .func 69 [] []) :: (10, .bool wb) :: (11, .bool wp) :: (12, .int .i64 len) :: []) (hp H r g d) := by
 have w1 : IntKind.i64.wrap ((b : Int) - a) = (len : Int) := wr
 unfold q1
 rw [Zs (by simp [ZF, Zy, ZA, ZB, Zp, Zf, Zm, Zi, Zk, Zc, Zd, Zj, Zq, Zr, ZC, ↓Zh, Zo, Zg, Zz, Zu, Zt, ZR, Zv, Yj, put, lk, Od.v, Za, Ze, Zl, Yv, Yb, Ya, Yd, ai, Yt, DV.isU, DV.cells, ae, ZJ, ZX, ZK, Zn, splice, DV.one, ZM, af, ZT, Ys, w1]; exact ⟨rfl, rfl⟩)]
 simp [Za, lk]
theorem Mm (hs : 12 < len) (ex : Env) (R : XC) : C X (.seq q2 R) ((0, au r g n) :: (1, .int .i64 a) :: (2, .int .i64 b) :: (3, .int .i64 Yu) :: (4, .func 69 [] []) :: (10, .bool wb) :: (11, .bool wp) :: (12, .int .i64 len) :: ex) (hp H r g d) = C X R ((0, au r g n) :: (1, .int .i64 a) :: (2, .int .i64 b) :: (3, .int .i64 Yu) :: (4, .func 69 [] []) :: (10, .bool wb) :: (11, .bool wp) :: (12, .int .i64 len) :: (25, .bool false) :: []) (hp H r g d) := by
 have w2 : ¬ (len : Int) ≤ 12 := by omega
 unfold q2
 rw [ZL]
 rw [Zs (by simp [ZF, Zy, ZA, ZB, Zp, Zf, Zm, Zi, Zk, Zc, Zd, Zj, Zq, Zr, ZC, ↓Zh, Zo, Zg, Zz, Zu, Zt, ZR, Zv, Yj, put, lk, Od.v, Za, Ze, Zl, Yv, Yb, Ya, Yd, ai, Yt, DV.isU, DV.cells, ae, ZJ, ZX, ZK, Zn, splice, DV.one, ZM, af, ZT, Ys, w2]; exact ⟨rfl, rfl⟩)]
 rw [Yi (by simp [lk, Za, Od.v]; exact rfl), Zt, ZY]
 simp [Za, lk]
theorem Mk (hs : Yu = 0) (ex : Env) (R : XC) : ∃ e', C X (.seq q3 R) ((0, au r g n) :: (1, .int .i64 a) :: (2, .int .i64 b) :: (3, .int .i64 Yu) :: (4, .func 69 [] []) :: (10, .bool wb) :: (11, .bool wp) :: (12, .int .i64 len) :: ex) (hp H r g d) = some (.ret, e', hp H r g (Go.Sort.heapSort lt d a b)) := by
 have e := Ka (H := H) (r := r) (g := g) (n := n) (a := a) (b := b) hr hn hab hb d hd
 subst hs
 unfold q3
 rw [show ((0 : Nat) : Int) = 0 from rfl]
 refine aA @e ?_
 exact ⟨_, rfl⟩
theorem Ml (hs : Yu ≠ 0) (ex : Env) (R : XC) : C X (.seq q3 R) ((0, au r g n) :: (1, .int .i64 a) :: (2, .int .i64 b) :: (3, .int .i64 Yu) :: (4, .func 69 [] []) :: (10, .bool wb) :: (11, .bool wp) :: (12, .int .i64 len) :: ex) (hp H r g d) = C X R ((0, au r g n) :: (1, .int .i64 a) :: (2, .int .i64 b) :: (3, .int .i64 Yu) :: (4, .func 69 [] []) :: (10, .bool wb) :: (11, .bool wp) :: (12, .int .i64 len) :: (32, .bool false) :: []) (hp H r g d) := by
 have w2 : ((Yu : Int) == 0) = false := by simpa using hs
 unfold q3
 rw [ZL]
 rw [Zs (by simp [ZF, Zy, ZA, ZB, Zp, Zf, Zm, Zi, Zk, Zc, Zd, Zj, Zq, Zr, ZC, ↓Zh, Zo, Zg, Zz, Zu, Zt, ZR, Zv, Yj, put, lk, Od.v, Za, Ze, Zl, Yv, Yb, Ya, Yd, ai, Yt, DV.isU, DV.cells, ae, ZJ, ZX, ZK, Zn, splice, DV.one, ZM, af, ZT, Ys, w2]; exact ⟨rfl, rfl⟩)]
 rw [Yi (by simp [lk, Za, Od.v]; exact rfl), Zt, ZY]
 simp [Za, lk]
theorem ND (hl0 : Yu ≠ 0) (hl : Yu ≤ 64) (hlen : b - a < 256) (ex : Env) : ∃ l xJ, ∀ R, C X (.seq q4 R) ((0, au r g n) :: (1, .int .i64 a) :: (2, .int .i64 b) :: (3, .int .i64 Yu) :: (4, .func 69 [] []) :: (10, .bool wb) :: (11, .bool wp) :: (12, .int .i64 len) :: ex) (hp H r g d) =
 C X R ((0, au r g n) :: (1, .int .i64 a) :: (2, .int .i64 b) :: (3, .int .i64 (if !wb then Yu - 1 else Yu : Nat)) :: (4, .func 69 [] []) :: (10, .bool wb) :: (11, .bool wp) :: (12, .int .i64 len) :: xJ) (hp (H ++ l) r g (if !wb then Go.Sort.breakPatterns d a b else d)) := by
 cases wb
 ·obtain ⟨l, e⟩ := J9 (H := H) (r := r) (g := g) (n := n) (a := a) (b := b) hr hn hab hb hlen d hd
  obtain ⟨L, hL⟩ : ∃ L, L = Yu - 1 := ⟨_, rfl⟩
  have w1 : IntKind.i64.wrap ((Yu : Int) - 1) = (L : Int) := wr
  refine ⟨l, [], fun R => ?_⟩
  unfold q4
  rw [ZL]
  rw [Zs (by simp [ZF, Zy, ZA, ZB, Zp, Zf, Zm, Zi, Zk, Zc, Zd, Zj, Zq, Zr, ZC, ↓Zh, Zo, Zg, Zz, Zu, Zt, ZR, Zv, Yj, put, lk, Od.v, Za, Ze, Zl, Yv, Yb, Ya, Yd, ai, Yt, DV.isU, DV.cells, ae, ZJ, ZX, ZK, Zn, splice, DV.one, ZM, af, ZT, Ys]; exact ⟨rfl, rfl⟩)]
  rw [Yi (by simp [lk, Za, Od.v]; exact rfl), Zu, ZL]
  rw [Zs (by simp [ZF, Zy, ZA, ZB, Zp, Zf, Zm, Zi, Zk, Zc, Zd, Zj, Zq, Zr, ZC, ↓Zh, Zo, Zg, Zz, Zu, Zt, ZR, Zv, Yj, put, lk, Od.v, Za, Ze, Zl, Yv, Yb, Ya, Yd, ai, Yt, DV.isU, DV.cells, ae, ZJ, ZX, ZK, Zn, splice, DV.one, ZM, af, ZT, Ys, e]; exact ⟨rfl, rfl⟩)]
  rw [Zs (by simp [ZF, Zy, ZA, ZB, Zp, Zf, Zm, Zi, Zk, Zc, Zd, Zj, Zq, Zr, ZC, ↓Zh, Zo, Zg, Zz, Zu, Zt, ZR, Zv, Yj, put, lk, Od.v, Za, Ze, Zl, Yv, Yb, Ya, Yd, ai, Yt, DV.isU, DV.cells, ae, ZJ, ZX, ZK, Zn, splice, DV.one, ZM, af, ZT, Ys, w1]; exact ⟨rfl, rfl⟩)]
  simp [Za, lk, hL]
 ·refine ⟨[], [(39, .bool false)], fun R => ?_⟩
  unfold q4
  rw [ZL]
  rw [Zs (by simp [ZF, Zy, ZA, ZB, Zp, Zf, Zm, Zi, Zk, Zc, Zd, Zj, Zq, Zr, ZC, ↓Zh, Zo, Zg, Zz, Zu, Zt, ZR, Zv, Yj, put, lk, Od.v, Za, Ze, Zl, Yv, Yb, Ya, Yd, ai, Yt, DV.isU, DV.cells, ae, ZJ, ZX, ZK, Zn, splice, DV.one, ZM, af, ZT, Ys]; exact ⟨rfl, rfl⟩)]
  rw [Yi (by simp [lk, Za, Od.v]; exact rfl), Zt, ZY]
  simp [Za, lk]
theorem NC (ex : Env) (R : XC) : C X (.seq q5 R) ((0, au r g n) :: (1, .int .i64 a) :: (2, .int .i64 b) :: (3, .int .i64 Yu) :: (4, .func 69 [] []) :: (10, .bool wb) :: (11, .bool wp) :: (12, .int .i64 len) :: ex) (hp H r g d) = C X R ((0, au r g n) :: (1, .int .i64 a) :: (2, .int .i64 b) :: (3, .int .i64 Yu) :: (4, .func 69 [] []) :: (10, .bool wb) :: (11, .bool wp) :: (12, .int .i64 len) :: (13, .int .i64 (Go.Sort.choosePivot lt d a b).1) :: (14, .int .i64 (iI (Go.Sort.choosePivot lt d a b).2)) :: []) (hp H r g d) := by
 have e := (Ea (H := H) (r := r) (g := g) (n := n) (a := a) (b := b) hr hn hab hb d hd).1
 generalize Go.Sort.choosePivot lt d a b = o at e ⊢
 unfold q5
 rw [Zs (by simp [ZF, Zy, ZA, ZB, Zp, Zf, Zm, Zi, Zk, Zc, Zd, Zj, Zq, Zr, ZC, ↓Zh, Zo, Zg, Zz, Zu, Zt, ZR, Zv, Yj, put, lk, Od.v, Za, Ze, Zl, Yv, Yb, Ya, Yd, ai, Yt, DV.isU, DV.cells, ae, ZJ, ZX, ZK, Zn, splice, DV.one, ZM, af, ZT, Ys, e]; exact ⟨rfl, rfl⟩)]
 simp [Za, lk]
theorem NA {p : Nat} (hp1 : a ≤ p) (hp2 : p < b) (hint : Go.Sort.Hint) (ex : Env) : ∃ xJ, ∀ R, C X (.seq q6 R) ((0, au r g n) :: (1, .int .i64 a) :: (2, .int .i64 b) :: (3, .int .i64 Yu) :: (4, .func 69 [] []) :: (10, .bool wb) :: (11, .bool wp) :: (12, .int .i64 len) :: (13, .int .i64 p) :: (14, .int .i64 (iI hint)) :: ex) (hp H r g d) =
 C X R ((0, au r g n) :: (1, .int .i64 a) :: (2, .int .i64 b) :: (3, .int .i64 Yu) :: (4, .func 69 [] []) :: (10, .bool wb) :: (11, .bool wp) :: (12, .int .i64 len) :: (13, .int .i64 (if hint = .decreasing then (b - 1) - (p - a) else p : Nat)) :: (14, .int .i64 (iI (if hint = .decreasing then .increasing else hint))) :: xJ) (hp H r g (if hint = .decreasing then Go.Sort.reverseRange d a b else d)) := by
 by_cases hh : hint = .decreasing
 ·have e := J8 (H := H) (r := r) (g := g) (n := n) (a := a) (b := b) hr hn hab hb d hd
  subst hh
  obtain ⟨B1, jA⟩ : ∃ B1, B1 = b - 1 := ⟨_, rfl⟩
  obtain ⟨P1, OA⟩ : ∃ P1, P1 = p - a := ⟨_, rfl⟩
  obtain ⟨P2, Oz⟩ : ∃ P2, P2 = B1 - P1 := ⟨_, rfl⟩
  have w1 : IntKind.i64.wrap ((b : Int) - 1) = (B1 : Int) := wr
  have w2 : IntKind.i64.wrap ((p : Int) - a) = (P1 : Int) := wr
  have w3 : IntKind.i64.wrap ((B1 : Int) - P1) = (P2 : Int) := wr
  refine ⟨[], fun R => ?_⟩
  rw [if_pos rfl, if_pos rfl, if_pos rfl, ← jA, ← OA, ← Oz]
  rw [show iI .decreasing = 2 from rfl, show iI .increasing = 1 from rfl]
  unfold q6
  rw [ZL]
  rw [Zs (by simp [ZF, Zy, ZA, ZB, Zp, Zf, Zm, Zi, Zk, Zc, Zd, Zj, Zq, Zr, ZC, ↓Zh, Zo, Zg, Zz, Zu, Zt, ZR, Zv, Yj, put, lk, Od.v, Za, Ze, Zl, Yv, Yb, Ya, Yd, ai, Yt, DV.isU, DV.cells, ae, ZJ, ZX, ZK, Zn, splice, DV.one, ZM, af, ZT, Ys]; exact ⟨rfl, rfl⟩)]
  rw [Yi (by simp [lk, Za, Od.v]; exact rfl), Zu, ZL]
  rw [Zs (by simp [ZF, Zy, ZA, ZB, Zp, Zf, Zm, Zi, Zk, Zc, Zd, Zj, Zq, Zr, ZC, ↓Zh, Zo, Zg, Zz, Zu, Zt, ZR, Zv, Yj, put, lk, Od.v, Za, Ze, Zl, Yv, Yb, Ya, Yd, ai, Yt, DV.isU, DV.cells, ae, ZJ, ZX, ZK, Zn, splice, DV.one, ZM, af, ZT, Ys, e]; exact ⟨rfl, rfl⟩)]
  rw [ZL]
  rw [Zs (by simp [ZF, Zy, ZA, ZB, Zp, Zf, Zm, Zi, Zk, Zc, Zd, Zj, Zq, Zr, ZC, ↓Zh, Zo, Zg, Zz, Zu, Zt, ZR, Zv, Yj, put, lk, Od.v, Za, Ze, Zl, Yv, Yb, Ya, Yd, ai, Yt, DV.isU, DV.cells, ae, ZJ, ZX, ZK, Zn, splice, DV.one, ZM, af, ZT, Ys, w1, w2, w3]; exact ⟨rfl, rfl⟩)]
  rw [Zs (by simp [ZF, Zy, ZA, ZB, Zp, Zf, Zm, Zi, Zk, Zc, Zd, Zj, Zq, Zr, ZC, ↓Zh, Zo, Zg, Zz, Zu, Zt, ZR, Zv, Yj, put, lk, Od.v, Za, Ze, Zl, Yv, Yb, Ya, Yd, ai, Yt, DV.isU, DV.cells, ae, ZJ, ZX, ZK, Zn, splice, DV.one, ZM, af, ZT, Ys]; exact ⟨rfl, rfl⟩)]
  simp [Za, lk]
 ·have hne : (iI hint == 2) = false := by cases hint <;> first | rfl | exact absurd rfl hh
  refine ⟨[(56, .bool false)], fun R => ?_⟩
  rw [if_neg hh, if_neg hh, if_neg hh]
  unfold q6
  rw [ZL]
  rw [Zs (by simp [ZF, Zy, ZA, ZB, Zp, Zf, Zm, Zi, Zk, Zc, Zd, Zj, Zq, Zr, ZC, ↓Zh, Zo, Zg, Zz, Zu, Zt, ZR, Zv, Yj, put, lk, Od.v, Za, Ze, Zl, Yv, Yb, Ya, Yd, ai, Yt, DV.isU, DV.cells, ae, ZJ, ZX, ZK, Zn, splice, DV.one, ZM, af, ZT, Ys, hne]; exact ⟨rfl, rfl⟩)]
  rw [Yi (by simp [lk, Za, Od.v]; exact rfl), Zt, ZY]
  simp [Za, lk]
theorem Nz {p : Nat} (hint : Go.Sort.Hint) (ex : Env) :
 (∃ e', (wb && wp && decide (hint = .increasing)) = true ∧ (Go.Sort.partialInsertionSort lt d a b).2 = true ∧ ∀ R, C X (.seq q7 R) ((0, au r g n) :: (1, .int .i64 a) :: (2, .int .i64 b) :: (3, .int .i64 Yu) :: (4, .func 69 [] []) :: (10, .bool wb) :: (11, .bool wp) :: (12, .int .i64 len) :: (13, .int .i64 p) :: (14, .int .i64 (iI hint)) :: ex) (hp H r g d) = some (.ret, e', hp H r g (Go.Sort.partialInsertionSort lt d a b).1)) ∨
 (∃ xJ, ((wb && wp && decide (hint = .increasing)) = true → (Go.Sort.partialInsertionSort lt d a b).2 = false) ∧ ∀ R, C X (.seq q7 R) ((0, au r g n) :: (1, .int .i64 a) :: (2, .int .i64 b) :: (3, .int .i64 Yu) :: (4, .func 69 [] []) :: (10, .bool wb) :: (11, .bool wp) :: (12, .int .i64 len) :: (13, .int .i64 p) :: (14, .int .i64 (iI hint)) :: ex) (hp H r g d) =
  C X R ((0, au r g n) :: (1, .int .i64 a) :: (2, .int .i64 b) :: (3, .int .i64 Yu) :: (4, .func 69 [] []) :: (10, .bool wb) :: (11, .bool wp) :: (12, .int .i64 len) :: (13, .int .i64 p) :: xJ) (hp H r g (if (wb && wp && decide (hint = .increasing)) = true then (Go.Sort.partialInsertionSort lt d a b).1 else d))) := by
 have e := (yf (H := H) (r := r) (g := g) (n := n) (a := a) (b := b) hr hn hab hb d hd).1
 have hi : (iI hint == 1) = decide (hint = .increasing) := by cases hint <;> rfl
 cases wb
 ·refine .inr ⟨[(75, .bool false)], by simp, fun R => ?_⟩
  rw [if_neg (by simp)]
  unfold q7
  rw [ZL]
  rw [Zs (by simp [ZF, Zy, ZA, ZB, Zp, Zf, Zm, Zi, Zk, Zc, Zd, Zj, Zq, Zr, ZC, ↓Zh, Zo, Zg, Zz, Zu, Zt, ZR, Zv, Yj, put, lk, Od.v, Za, Ze, Zl, Yv, Yb, Ya, Yd, ai, Yt, DV.isU, DV.cells, ae, ZJ, ZX, ZK, Zn, splice, DV.one, ZM, af, ZT, Ys]; exact ⟨rfl, rfl⟩)]
  rw [Yi (by simp [lk, Za, Od.v]; exact rfl), Zt, ZY]
  simp [Za, lk]
 cases wp
 ·refine .inr ⟨[(75, .bool false)], by simp, fun R => ?_⟩
  rw [if_neg (by simp)]
  unfold q7
  rw [ZL]
  rw [Zs (by simp [ZF, Zy, ZA, ZB, Zp, Zf, Zm, Zi, Zk, Zc, Zd, Zj, Zq, Zr, ZC, ↓Zh, Zo, Zg, Zz, Zu, Zt, ZR, Zv, Yj, put, lk, Od.v, Za, Ze, Zl, Yv, Yb, Ya, Yd, ai, Yt, DV.isU, DV.cells, ae, ZJ, ZX, ZK, Zn, splice, DV.one, ZM, af, ZT, Ys]; exact ⟨rfl, rfl⟩)]
  rw [Yi (by simp [lk, Za, Od.v]; exact rfl), Zt, ZY]
  simp [Za, lk]
 cases hh : decide (hint = .increasing)
 ·rw [hh] at hi
  refine .inr ⟨[(75, .bool false)], by simp, fun R => ?_⟩
  rw [if_neg (by simp)]
  unfold q7
  rw [ZL]
  rw [Zs (by simp [ZF, Zy, ZA, ZB, Zp, Zf, Zm, Zi, Zk, Zc, Zd, Zj, Zq, Zr, ZC, ↓Zh, Zo, Zg, Zz, Zu, Zt, ZR, Zv, Yj, put, lk, Od.v, Za, Ze, Zl, Yv, Yb, Ya, Yd, ai, Yt, DV.isU, DV.cells, ae, ZJ, ZX, ZK, Zn, splice, DV.one, ZM, af, ZT, Ys, hi]; exact ⟨rfl, rfl⟩)]
  rw [Yi (by simp [lk, Za, Od.v]; exact rfl), Zt, ZY]
  simp [Za, lk]
 ·rw [hh] at hi
  cases hf : (Go.Sort.partialInsertionSort lt d a b).2
  ·rw [hf] at e
   refine .inr ⟨[(80, .bool false)], fun _ => rfl, fun R => ?_⟩
   rw [if_pos (by simp)]
   unfold q7
   rw [ZL]
   rw [Zs (by simp [ZF, Zy, ZA, ZB, Zp, Zf, Zm, Zi, Zk, Zc, Zd, Zj, Zq, Zr, ZC, ↓Zh, Zo, Zg, Zz, Zu, Zt, ZR, Zv, Yj, put, lk, Od.v, Za, Ze, Zl, Yv, Yb, Ya, Yd, ai, Yt, DV.isU, DV.cells, ae, ZJ, ZX, ZK, Zn, splice, DV.one, ZM, af, ZT, Ys, hi]; exact ⟨rfl, rfl⟩)]
   rw [Yi (by simp [lk, Za, Od.v]; exact rfl), Zu, ZL]
   rw [Zs (by simp [ZF, Zy, ZA, ZB, Zp, Zf, Zm, Zi, Zk, Zc, Zd, Zj, Zq, Zr, ZC, ↓Zh, Zo, Zg, Zz, Zu, Zt, ZR, Zv, Yj, put, lk, Od.v, Za, Ze, Zl, Yv, Yb, Ya, Yd, ai, Yt, DV.isU, DV.cells, ae, ZJ, ZX, ZK, Zn, splice, DV.one, ZM, af, ZT, Ys, e]; exact ⟨rfl, rfl⟩)]
   rw [Yi (by simp [lk, Za, Od.v]; exact rfl), Zt, ZY]
   simp [Za, lk]
  ·rw [hf] at e
   refine .inl ⟨Za [0, 1, 2, 3, 4, 10, 11, 12, 13, 80] [(80, .bool true), (0, au r g n), (1, .int .i64 a), (2, .int .i64 b), (3, .int .i64 Yu), (4, .func 69 [] []), (10, .bool true), (11, .bool true), (12, .int .i64 len), (13, .int .i64 p)], by simp, rfl, fun R => ?_⟩
   unfold q7
   rw [ZL]
   rw [Zs (by simp [ZF, Zy, ZA, ZB, Zp, Zf, Zm, Zi, Zk, Zc, Zd, Zj, Zq, Zr, ZC, ↓Zh, Zo, Zg, Zz, Zu, Zt, ZR, Zv, Yj, put, lk, Od.v, Za, Ze, Zl, Yv, Yb, Ya, Yd, ai, Yt, DV.isU, DV.cells, ae, ZJ, ZX, ZK, Zn, splice, DV.one, ZM, af, ZT, Ys, hi]; exact ⟨rfl, rfl⟩)]
   rw [Yi (by simp [lk, Za, Od.v]; exact rfl), Zu, ZL]
   rw [Zs (by simp [ZF, Zy, ZA, ZB, Zp, Zf, Zm, Zi, Zk, Zc, Zd, Zj, Zq, Zr, ZC, ↓Zh, Zo, Zg, Zz, Zu, Zt, ZR, Zv, Yj, put, lk, Od.v, Za, Ze, Zl, Yv, Yb, Ya, Yd, ai, Yt, DV.isU, DV.cells, ae, ZJ, ZX, ZK, Zn, splice, DV.one, ZM, af, ZT, Ys, e]; exact ⟨rfl, rfl⟩)]
   rw [Yi (by simp [lk, Za, Od.v]; exact rfl), Zu, Yo]
   simp [Za, lk]
theorem Mi {p : Nat} (hp2 : p < b) (ha : 0 < a) (hlt : lt (el d (a - 1)) (el d p) = false) (ex : Env) (R : XC) :
 C X (.seq q8 R) ((0, au r g n) :: (1, .int .i64 a) :: (2, .int .i64 b) :: (3, .int .i64 Yu) :: (4, .func 69 [] []) :: (10, .bool wb) :: (11, .bool wp) :: (12, .int .i64 len) :: (13, .int .i64 p) :: ex) (hp H r g d) = some (.exit 1, (0, au r g n) :: (1, .int .i64 (Go.Sort.partitionEqual lt d a b p).1) :: (2, .int .i64 b) :: (3, .int .i64 Yu) :: (4, .func 69 [] []) :: (10, .bool wb) :: (11, .bool wp) :: [], hp H r g (Go.Sort.partitionEqual lt d a b p).2) := by
 have e := J7 (H := H) (r := r) (g := g) (n := n) (a := a) (b := b) (p := p) hr hn hab hb (by omega) d hd
 obtain ⟨A, hA⟩ : ∃ A, A = a - 1 := ⟨_, rfl⟩
 rw [← hA] at hlt
 have q := di hlt
 have w1 : IntKind.i64.wrap ((a : Int) - 1) = (A : Int) := wr
 have u1 : A < n := by omega
 have u2 : p < n := by omega
 have u3 : (0 : Int) < a := by omega
 generalize Go.Sort.partitionEqual lt d a b p = o at e ⊢
 unfold q8
 rw [ZL]
 rw [Zs (by simp [ZF, Zy, ZA, ZB, Zp, Zf, Zm, Zi, Zk, Zc, Zd, Zj, Zq, Zr, ZC, ↓Zh, Zo, Zg, Zz, Zu, Zt, ZR, Zv, Yj, put, lk, Od.v, Za, Ze, Zl, Yv, Yb, Ya, Yd, ai, Yt, DV.isU, DV.cells, ae, ZJ, ZX, ZK, Zn, splice, DV.one, ZM, af, ZT, Ys, ha, u3, w1, u1, u2, hr, hd, cF, cG, bC, q]; exact ⟨rfl, rfl⟩)]
 rw [Yi (by simp [lk, Za, Od.v]; exact rfl), Zu, ZL]
 rw [Zs (by simp [ZF, Zy, ZA, ZB, Zp, Zf, Zm, Zi, Zk, Zc, Zd, Zj, Zq, Zr, ZC, ↓Zh, Zo, Zg, Zz, Zu, Zt, ZR, Zv, Yj, put, lk, Od.v, Za, Ze, Zl, Yv, Yb, Ya, Yd, ai, Yt, DV.isU, DV.cells, ae, ZJ, ZX, ZK, Zn, splice, DV.one, ZM, af, ZT, Ys, e]; exact ⟨rfl, rfl⟩)]
 rw [ZL]
 rw [Zs (by simp [ZF, Zy, ZA, ZB, Zp, Zf, Zm, Zi, Zk, Zc, Zd, Zj, Zq, Zr, ZC, ↓Zh, Zo, Zg, Zz, Zu, Zt, ZR, Zv, Yj, put, lk, Od.v, Za, Ze, Zl, Yv, Yb, Ya, Yd, ai, Yt, DV.isU, DV.cells, ae, ZJ, ZX, ZK, Zn, splice, DV.one, ZM, af, ZT, Ys]; exact ⟨rfl, rfl⟩)]
 rw [Ye]
 simp [Za, lk]
theorem Mj {p : Nat} (hp2 : p < b) (hc : 0 < a → lt (el d (a - 1)) (el d p) = true) (ex : Env) (R : XC) :
 C X (.seq q8 R) ((0, au r g n) :: (1, .int .i64 a) :: (2, .int .i64 b) :: (3, .int .i64 Yu) :: (4, .func 69 [] []) :: (10, .bool wb) :: (11, .bool wp) :: (12, .int .i64 len) :: (13, .int .i64 p) :: ex) (hp H r g d) = C X R ((0, au r g n) :: (1, .int .i64 a) :: (2, .int .i64 b) :: (3, .int .i64 Yu) :: (4, .func 69 [] []) :: (10, .bool wb) :: (11, .bool wp) :: (12, .int .i64 len) :: (13, .int .i64 p) :: (97, .bool false) :: []) (hp H r g d) := by
 by_cases ha : 0 < a
 ·obtain ⟨A, hA⟩ : ∃ A, A = a - 1 := ⟨_, rfl⟩
  have hlt := hc ha
  rw [← hA] at hlt
  have q := dh hlt
  have w1 : IntKind.i64.wrap ((a : Int) - 1) = (A : Int) := wr
  have u1 : A < n := by omega
  have u2 : p < n := by omega
  have u3 : (0 : Int) < a := by omega
  unfold q8
  rw [ZL]
  rw [Zs (by simp [ZF, Zy, ZA, ZB, Zp, Zf, Zm, Zi, Zk, Zc, Zd, Zj, Zq, Zr, ZC, ↓Zh, Zo, Zg, Zz, Zu, Zt, ZR, Zv, Yj, put, lk, Od.v, Za, Ze, Zl, Yv, Yb, Ya, Yd, ai, Yt, DV.isU, DV.cells, ae, ZJ, ZX, ZK, Zn, splice, DV.one, ZM, af, ZT, Ys, ha, u3, w1, u1, u2, hr, hd, cF, cG, bC, q]; exact ⟨rfl, rfl⟩)]
  rw [Yi (by simp [lk, Za, Od.v]; exact rfl), Zt, ZY]
  simp [Za, lk]
 ·have u3 : ¬ (0 : Int) < a := by omega
  unfold q8
  rw [ZL]
  rw [Zs (by simp [ZF, Zy, ZA, ZB, Zp, Zf, Zm, Zi, Zk, Zc, Zd, Zj, Zq, Zr, ZC, ↓Zh, Zo, Zg, Zz, Zu, Zt, ZR, Zv, Yj, put, lk, Od.v, Za, Ze, Zl, Yv, Yb, Ya, Yd, ai, Yt, DV.isU, DV.cells, ae, ZJ, ZX, ZK, Zn, splice, DV.one, ZM, af, ZT, Ys, ha, u3]; exact ⟨rfl, rfl⟩)]
  rw [Yi (by simp [lk, Za, Od.v]; exact rfl), Zt, ZY]
  simp [Za, lk]
end
theorem vH {H : Zb} {r g : Nat} (hr : r < H.length) (d d' : Array V) (l : Zb) : ∃ l', fin (hp H r g d) (hp (H ++ l) r g d') [] = (.tup [], hp (H ++ l') r g d') := by
 have h1 : (hp (H ++ l) r g d').take (hp H r g d).length = hp H r g d' := by
  simp only [hp]
  rw [List.set_append_left _ _ hr, List.take_append_of_le_length (by simp), List.take_of_length_le (by simp)]
 rw [fin, h1]
 ·split
  ·rename_i h2
   simp only [bH]
   exact ⟨[], by rw [List.append_nil, h2]⟩
  ·exact ⟨l, rfl⟩
 ·intro d h; cases h
def Pd (n r g : Nat) (a b Yu : Nat) (H : Zb) (d : Array V) : Prop :=
 ∃ l, E X 83 [au r g n, .int .i64 a, .int .i64 b, .int .i64 Yu, .func 69 [] []] (hp H r g d) = some (.tup [], hp (H ++ l) r g (Go.Sort.pdq lt d a b Yu true true))
theorem yA {n r g a b Yu : Nat} {H : Zb} {d : Array V} (hr : r < H.length) (h : ∃ l e', C X (.loop gH) ((0, au r g n) :: (1, .int .i64 a) :: (2, .int .i64 b) :: (3, .int .i64 Yu) :: (4, .func 69 [] []) :: (10, .bool true) :: (11, .bool true) :: []) (hp H r g d) = some (.ret, e', hp (H ++ l) r g (Go.Sort.pdq lt d a b Yu true true))) : Pd n r g a b Yu H d := by
 obtain ⟨l, e', h⟩ := h
 obtain ⟨l', h2⟩ := vH (g := g) hr d (Go.Sort.pdq lt d a b Yu true true) l
 refine ⟨l', ?_⟩
 rw [ZO (X := X) _ Ju _ rfl rfl]; unfold Ju
 refine aA trivial ?_
 refine aD ?_
 rw [h]
 refine aA trivial ?_
 simp only [Zw, Yc, Option.map_some]
 rw [h2]
section
variable {H : Zb} {r g n a b Yu len : Nat} {wb wp : Bool} (hr : r < H.length) (hn : n ≤ 1000000)
theorem Mn (hr : r < H.length) (hn : n ≤ 1000000) (hab : a ≤ b) (hb : b ≤ n) (d : Array V) (hd : d.size = n) (hs : b - a ≤ 12) (R : XC) : ∃ e', C X (.seq q1 (.seq q2 R)) ((0, au r g n) :: (1, .int .i64 a) :: (2, .int .i64 b) :: (3, .int .i64 Yu) :: (4, .func 69 [] []) :: (10, .bool wb) :: (11, .bool wp) :: []) (hp H r g d) = some (.ret, e', hp H r g (Go.Sort.insertionSort lt d a b)) := by
 obtain ⟨len, hlen⟩ : ∃ len, len = b - a := ⟨_, rfl⟩
 have w1 : IntKind.i64.wrap ((b : Int) - a) = (len : Int) := wr
 have e := Kb (H := H) (r := r) (g := g) (n := n) (a := a) (b := b) hr hn hb (by omega) d hd
 have w2 : (len : Int) ≤ 12 := by omega
 unfold q1 q2
 refine aA (ew @w1 @w2 @e) ?_
 exact ⟨_, rfl⟩
theorem Ny (hr : r < H.length) (hn : n ≤ 1000000) (hab : a < b) (hb : b ≤ n) (hlen : len = b - a) (d : Array V) (hd : d.size = n) {p : Nat} (hp2 : p < b) (ex : Env)
 {mid : Nat} {al : Bool} {d4 : Array V} (K1 : Go.Sort.partition lt d a b p = (mid, al, d4)) (h1 : a ≤ mid) (h2 : mid < b)
 (i1 : mid - a < b - mid → Pd n r g a mid Yu H d4) (i2 : ¬ mid - a < b - mid → Pd n r g (mid + 1) b Yu H d4) :
 ∃ l, C X (.seq q9 (.seq tf (.seq tc (.seq sZ sY)))) ((0, au r g n) :: (1, .int .i64 a) :: (2, .int .i64 b) :: (3, .int .i64 Yu) :: (4, .func 69 [] []) :: (10, .bool wb) :: (11, .bool wp) :: (12, .int .i64 len) :: (13, .int .i64 p) :: ex) (hp H r g d) =
  some (.norm, (0, au r g n) :: (1, .int .i64 (if mid - a < b - mid then mid + 1 else a : Nat)) :: (2, .int .i64 (if mid - a < b - mid then b else mid : Nat)) :: (3, .int .i64 Yu) :: (4, .func 69 [] []) :: (10, .bool (if mid - a < b - mid then decide (mid - a ≥ (b - a) / 8) else decide (b - mid ≥ (b - a) / 8))) :: (11, .bool al) :: [], hp (H ++ l) r g (if mid - a < b - mid then Go.Sort.pdq lt d4 a mid Yu true true else Go.Sort.pdq lt d4 (mid + 1) b Yu true true)) := by
 have e := J6 (H := H) (r := r) (g := g) (n := n) (a := a) (b := b) (p := p) hr hn hab hb (by omega) d hd
 rw [K1] at e
 simp only at e
 obtain ⟨L, hL⟩ : ∃ L, L = mid - a := ⟨_, rfl⟩
 obtain ⟨Q, hQ⟩ : ∃ Q, Q = b - mid := ⟨_, rfl⟩
 obtain ⟨T, hT⟩ : ∃ T, T = len / 8 := ⟨_, rfl⟩
 obtain ⟨M, hM⟩ : ∃ M, M = mid + 1 := ⟨_, rfl⟩
 have w1 : IntKind.i64.wrap ((mid : Int) - a) = (L : Int) := wr
 have w2 : IntKind.i64.wrap ((b : Int) - mid) = (Q : Int) := wr
 have w3 : IntKind.i64.wrap ((len : Int) / 8) = (T : Int) := wr
 have w4 : IntKind.i64.wrap ((mid : Int) + 1) = (M : Int) := wr
 rw [← hlen, ← hL, ← hQ, ← hT, ← hM]
 rw [← hL, ← hQ] at i1 i2
 rw [← hM] at i2
 by_cases hc : L < Q
 ·obtain ⟨l, e2⟩ := i1 hc
  refine ⟨l, ?_⟩
  rw [if_pos hc, if_pos hc, if_pos hc, if_pos hc]
  by_cases ht : T ≤ L
  ·unfold q9 tf tc sZ sY
   refine aA (gN @e @w1 @w2 @w3 @w4 @hc @ht @e2) ?_
   simp [Za, lk, ht]
  ·unfold q9 tf tc sZ sY
   refine aA (gN @e @w1 @w2 @w3 @w4 @hc @ht @e2) ?_
   simp [Za, lk, ht]
 ·obtain ⟨l, e2⟩ := i2 hc
  refine ⟨l, ?_⟩
  rw [if_neg hc, if_neg hc, if_neg hc, if_neg hc]
  by_cases ht : T ≤ Q
  ·unfold q9 tf tc sZ sY
   refine aA (gN @e @w1 @w2 @w3 @w4 @hc @ht @e2) ?_
   simp [Za, lk, ht]
  ·unfold q9 tf tc sZ sY
   refine aA (gN @e @w1 @w2 @w3 @w4 @hc @ht @e2) ?_
   simp [Za, lk, ht]
end
theorem CQ {a b Yu : Nat} {wb wp : Bool} {d : Array V} (hs : ¬ b - a ≤ 12) (h0 : ¬ Yu = 0) {dc p mid : Nat} {hint : Go.Sort.Hint} {al : Bool} {d1 d2 d4 : Array V} {c : Nat × Go.Sort.Hint} {pi : Array V × Bool}
 (q1 : d1 = if (!wb) = true then Go.Sort.breakPatterns d a b else d) (q2 : dc = if (!wb) = true then Yu - 1 else Yu) (q3 : c = Go.Sort.choosePivot lt d1 a b)
 (q4 : d2 = if c.2 = .decreasing then Go.Sort.reverseRange d1 a b else d1) (q5 : p = if c.2 = .decreasing then (b - 1) - (c.1 - a) else c.1) (q6 : hint = if c.2 = .decreasing then .increasing else c.2)
 (q7 : pi = if (wb && wp && decide (hint = .increasing)) = true then Go.Sort.partialInsertionSort lt d2 a b else (d2, false)) :
 Go.Sort.pdq lt d a b Yu wb wp = if pi.2 = true then pi.1 else
  if (decide (a > 0) && !lt pi.1[a - 1]! pi.1[p]!) = true then
   (if a < (Go.Sort.partitionEqual lt pi.1 a b p).1 ∧ (Go.Sort.partitionEqual lt pi.1 a b p).1 ≤ b then Go.Sort.pdq lt (Go.Sort.partitionEqual lt pi.1 a b p).2 (Go.Sort.partitionEqual lt pi.1 a b p).1 b dc wb wp else (Go.Sort.partitionEqual lt pi.1 a b p).2)
  else (if a ≤ (Go.Sort.partition lt pi.1 a b p).1 ∧ (Go.Sort.partition lt pi.1 a b p).1 < b then
   (if (Go.Sort.partition lt pi.1 a b p).1 - a < b - (Go.Sort.partition lt pi.1 a b p).1 then
    Go.Sort.pdq lt (Go.Sort.pdq lt (Go.Sort.partition lt pi.1 a b p).2.2 a (Go.Sort.partition lt pi.1 a b p).1 dc true true) ((Go.Sort.partition lt pi.1 a b p).1 + 1) b dc (decide ((Go.Sort.partition lt pi.1 a b p).1 - a ≥ (b - a) / 8)) (Go.Sort.partition lt pi.1 a b p).2.1
   else Go.Sort.pdq lt (Go.Sort.pdq lt (Go.Sort.partition lt pi.1 a b p).2.2 ((Go.Sort.partition lt pi.1 a b p).1 + 1) b dc true true) a (Go.Sort.partition lt pi.1 a b p).1 dc (decide (b - (Go.Sort.partition lt pi.1 a b p).1 ≥ (b - a) / 8)) (Go.Sort.partition lt pi.1 a b p).2.1)
   else (Go.Sort.partition lt pi.1 a b p).2.2) := by
 rw [Go.Sort.pdq, if_neg hs, if_neg h0]
 simp only
 subst q1 q2 q3 q4 q5 q6 q7
 rfl
theorem Fs {r g n : Nat} (hn : n < 256) : ∀ (k a b Yu : Nat) (wb wp : Bool) (d : Array V) (H : Zb), b - a ≤ k → a ≤ b → b ≤ n → d.size = n → Yu ≤ 64 → r < H.length →
 (∃ l e', C X (.loop gH) ((0, au r g n) :: (1, .int .i64 a) :: (2, .int .i64 b) :: (3, .int .i64 Yu) :: (4, .func 69 [] []) :: (10, .bool wb) :: (11, .bool wp) :: []) (hp H r g d) = some (.ret, e', hp (H ++ l) r g (Go.Sort.pdq lt d a b Yu wb wp))) ∧ (Go.Sort.pdq lt d a b Yu wb wp).size = n := by
 intro k
 induction k using Nat.strongRecOn with
 | _ k ih =>
 intro a b Yu wb wp d H hk hab hb hd hlim hr
 by_cases hs : b - a ≤ 12
 ·have hdef : Go.Sort.pdq lt d a b Yu wb wp = Go.Sort.insertionSort lt d a b := by rw [Go.Sort.pdq, if_pos hs]
  rw [hdef]
  refine ⟨?_, by rw [oD, hd]⟩
  obtain ⟨e', h⟩ := Mn (H := H) (r := r) (g := g) (n := n) (a := a) (b := b) (Yu := Yu) (wb := wb) (wp := wp) hr (by omega) hab hb d hd hs (.seq q3 (.seq q4 (.seq q5 (.seq q6 (.seq q7 (.seq q8 (.seq q9 (.seq tf (.seq tc (.seq sZ sY))))))))))
  refine ⟨[], e', ?_⟩
  have hb' : C X gH ((0, au r g n) :: (1, .int .i64 a) :: (2, .int .i64 b) :: (3, .int .i64 Yu) :: (4, .func 69 [] []) :: (10, .bool wb) :: (11, .bool wp) :: []) (hp H r g d) = some (.ret, e', hp H r g (Go.Sort.insertionSort lt d a b)) := by
   rw [jZ, Yk, h, ZN]
  rw [Zx, hb', cQ, List.append_nil]
 have gC : a < b := by omega
 have hn' : n ≤ 1000000 := by omega
 obtain ⟨len, hlen⟩ : ∃ len, len = b - a := ⟨_, rfl⟩
 have s1 := st1 (H := H) (r := r) (g := g) (n := n) (a := a) (b := b) (Yu := Yu) (wb := wb) (wp := wp) hr hn' gC hb d hd hlen []
 have s2 := Mm (H := H) (r := r) (g := g) (n := n) (a := a) (b := b) (Yu := Yu) (len := len) (wb := wb) (wp := wp) hr hn' gC hb d hd (by omega) []
 by_cases h0 : Yu = 0
 ·have hdef : Go.Sort.pdq lt d a b Yu wb wp = Go.Sort.heapSort lt d a b := by rw [Go.Sort.pdq, if_neg hs, if_pos h0]
  rw [hdef]
  refine ⟨?_, by rw [ua, hd]⟩
  obtain ⟨e', h⟩ := Mk (H := H) (r := r) (g := g) (n := n) (a := a) (b := b) (Yu := Yu) (len := len) (wb := wb) (wp := wp) hr hn' gC hb d hd h0 [(25, .bool false)] (.seq q4 (.seq q5 (.seq q6 (.seq q7 (.seq q8 (.seq q9 (.seq tf (.seq tc (.seq sZ sY)))))))))
  refine ⟨[], e', ?_⟩
  have hb' : C X gH ((0, au r g n) :: (1, .int .i64 a) :: (2, .int .i64 b) :: (3, .int .i64 Yu) :: (4, .func 69 [] []) :: (10, .bool wb) :: (11, .bool wp) :: []) (hp H r g d) = some (.ret, e', hp H r g (Go.Sort.heapSort lt d a b)) := by
   rw [jZ, Yk, s1, s2, h, ZN]
  rw [Zx, hb', cQ, List.append_nil]
 have s3 := Ml (H := H) (r := r) (g := g) (n := n) (a := a) (b := b) (Yu := Yu) (len := len) (wb := wb) (wp := wp) hr hn' gC hb d hd h0 [(25, .bool false)]
 obtain ⟨l1, IV, s4⟩ := ND (H := H) (r := r) (g := g) (n := n) (a := a) (b := b) (Yu := Yu) (len := len) (wb := wb) (wp := wp) hr hn' gC hb d hd h0 hlim (by omega) [(32, .bool false)]
 obtain ⟨d1, g1⟩ : ∃ d1, d1 = if (!wb) = true then Go.Sort.breakPatterns d a b else d := ⟨_, rfl⟩
 obtain ⟨dc, g2⟩ : ∃ dc, dc = if (!wb) = true then Yu - 1 else Yu := ⟨_, rfl⟩
 obtain ⟨c, g3⟩ : ∃ c, c = Go.Sort.choosePivot lt d1 a b := ⟨_, rfl⟩
 obtain ⟨d2, g4⟩ : ∃ d2, d2 = if c.2 = .decreasing then Go.Sort.reverseRange d1 a b else d1 := ⟨_, rfl⟩
 obtain ⟨p, g5⟩ : ∃ p, p = if c.2 = .decreasing then (b - 1) - (c.1 - a) else c.1 := ⟨_, rfl⟩
 obtain ⟨hint, g6⟩ : ∃ hint : Go.Sort.Hint, hint = if c.2 = .decreasing then .increasing else c.2 := ⟨_, rfl⟩
 obtain ⟨pi, g7⟩ : ∃ pi, pi = if (wb && wp && decide (hint = .increasing)) = true then Go.Sort.partialInsertionSort lt d2 a b else (d2, false) := ⟨_, rfl⟩
 rw [CQ (wp := wp) hs h0 (mid := 0) (al := true) (d4 := d) g1 g2 g3 g4 g5 g6 g7]
 have z1 : d1.size = n := by rw [g1]; split <;> simp [oU, hd]
 have ri : dc ≤ 64 := by rw [g2]; split <;> omega
 have z2 : d2.size = n := by rw [g4]; split <;> simp [pC, z1]
 rw [← g1, ← g2] at s4
 have hr1 : r < (H ++ l1).length := by simp; omega
 have s5 := NC (H := H ++ l1) (r := r) (g := g) (n := n) (a := a) (b := b) (Yu := dc) (len := len) (wb := wb) (wp := wp) hr1 hn' gC hb d1 z1 IV
 have hc := (Ea (H := H ++ l1) (r := r) (g := g) (n := n) (a := a) (b := b) hr1 hn' gC hb d1 z1).2
 rw [← g3] at s5 hc
 obtain ⟨OV, s6⟩ := NA (H := H ++ l1) (r := r) (g := g) (n := n) (a := a) (b := b) (Yu := dc) (len := len) (wb := wb) (wp := wp) hr1 hn' gC hb d1 z1 (p := c.1) hc.1 hc.2 c.2 []
 rw [← g4, ← g5, ← g6] at s6
 have hp1 : a ≤ p ∧ p < b := by rw [g5]; split <;> omega
 have s7 := Nz (H := H ++ l1) (r := r) (g := g) (n := n) (a := a) (b := b) (Yu := dc) (len := len) (wb := wb) (wp := wp) hr1 hn' gC hb d2 z2 (p := p) hint OV
 rcases s7 with ⟨e', c1, c2, s7⟩ | ⟨L9, c1, s7⟩
 ·have gp : pi = Go.Sort.partialInsertionSort lt d2 a b := by rw [g7, if_pos c1]
  rw [gp, if_pos c2]
  refine ⟨⟨l1, e', ?_⟩, (yf (H := H ++ l1) (r := r) (g := g) (n := n) (a := a) (b := b) hr1 hn' gC hb d2 z2).2⟩
  have hb' : C X gH ((0, au r g n) :: (1, .int .i64 a) :: (2, .int .i64 b) :: (3, .int .i64 Yu) :: (4, .func 69 [] []) :: (10, .bool wb) :: (11, .bool wp) :: []) (hp H r g d) = some (.ret, e', hp (H ++ l1) r g (Go.Sort.partialInsertionSort lt d2 a b).1) := by
   rw [jZ, Yk, s1, s2, s3, s4, s5, s6, s7, ZN]
  rw [Zx, hb', cQ]
 have OQ : (if (wb && wp && decide (hint = .increasing)) = true then (Go.Sort.partialInsertionSort lt d2 a b).1 else d2) = pi.1 := by
  rw [g7]; split <;> rfl
 have OP : pi.2 = false := by
  rw [g7]; split
  ·rename_i h; exact c1 h
  ·rfl
 have z3 : pi.1.size = n := by
  rw [g7]; split
  ·exact (yf (H := H ++ l1) (r := r) (g := g) (n := n) (a := a) (b := b) hr1 hn' gC hb d2 z2).2
  ·exact z2
 rw [OQ] at s7
 rw [if_neg (by rw [OP]; simp)]
 generalize pi.1 = d3 at s7 z3 ⊢
 by_cases hq : (decide (a > 0) && !lt d3[a - 1]! d3[p]!) = true
 ·rw [if_pos hq]
  simp only [Bool.and_eq_true, decide_eq_true_eq, Bool.not_eq_true'] at hq
  have s8 := Mi (H := H ++ l1) (r := r) (g := g) (n := n) (a := a) (b := b) (Yu := dc) (len := len) (wb := wb) (wp := wp) hr1 hn' gC hb d3 z3 (p := p) hp1.2 hq.1 hq.2 L9
  have hbd := pD (p := p) gC d3
  rw [if_pos hbd.2]
  generalize Go.Sort.partitionEqual lt d3 a b p = o at s8 hbd ⊢
  obtain ⟨mid, d4⟩ := o
  simp only at s8 hbd ⊢
  obtain ⟨⟨l2, e', hl⟩, hz⟩ := ih (b - mid) (by omega) mid b dc wb wp d4 (H ++ l1) (Nat.le_refl _) hbd.2.2 hb (by rw [hbd.1, z3]) ri hr1
  refine ⟨⟨l1 ++ l2, e', ?_⟩, hz⟩
  have hb' : C X gH ((0, au r g n) :: (1, .int .i64 a) :: (2, .int .i64 b) :: (3, .int .i64 Yu) :: (4, .func 69 [] []) :: (10, .bool wb) :: (11, .bool wp) :: []) (hp H r g d) = some (.norm, (0, au r g n) :: (1, .int .i64 mid) :: (2, .int .i64 b) :: (3, .int .i64 dc) :: (4, .func 69 [] []) :: (10, .bool wb) :: (11, .bool wp) :: [], hp (H ++ l1) r g d4) := by
   rw [jZ, Yk, s1, s2, s3, s4, s5, s6, s7, s8, ZH]
  rw [Zx, hb', ZZ, hl, List.append_assoc]
 ·rw [if_neg hq]
  have s8 := Mj (H := H ++ l1) (r := r) (g := g) (n := n) (a := a) (b := b) (Yu := dc) (len := len) (wb := wb) (wp := wp) hr1 hn' gC hb d3 z3 (p := p) hp1.2 (fun ha => by
   cases h : lt (el d3 (a - 1)) (el d3 p)
   ·exact absurd (by unfold el at h; simp [ha, h]) hq
   ·rfl) L9
  have hbd := uW (p := p) gC d3
  rw [if_pos hbd.2]
  obtain ⟨o, ho⟩ : ∃ o, o = Go.Sort.partition lt d3 a b p := ⟨_, rfl⟩
  rw [← ho] at hbd ⊢
  obtain ⟨mid, al, d4⟩ := o
  simp only at hbd ⊢
  have z4 : d4.size = n := by rw [hbd.1, z3]
  have ia := ih (mid - a) (by omega) a mid dc true true d4 (H ++ l1) (Nat.le_refl _) hbd.2.1 (by omega) z4 ri hr1
  have ib := ih (b - (mid + 1)) (by omega) (mid + 1) b dc true true d4 (H ++ l1) (Nat.le_refl _) (by omega) hb z4 ri hr1
  obtain ⟨l2, s9⟩ := Ny (H := H ++ l1) (r := r) (g := g) (n := n) (a := a) (b := b) (Yu := dc) (len := len) (wb := wb) (wp := wp) hr1 hn' gC hb hlen d3 z3 (p := p) hp1.2 [(97, .bool false)] ho.symm hbd.2.1 hbd.2.2 (fun _ => yA hr1 ia.1) (fun _ => yA hr1 ib.1)
  have hr2 : r < (H ++ l1 ++ l2).length := by simp; omega
  by_cases hc2 : mid - a < b - mid
  ·rw [if_pos hc2, if_pos hc2, if_pos hc2, if_pos hc2] at s9
   rw [if_pos hc2]
   obtain ⟨⟨l3, e', hl⟩, hz⟩ := ih (b - (mid + 1)) (by omega) (mid + 1) b dc (decide (mid - a ≥ (b - a) / 8)) al (Go.Sort.pdq lt d4 a mid dc true true) (H ++ l1 ++ l2) (Nat.le_refl _) (by omega) hb ia.2 ri hr2
   refine ⟨⟨l1 ++ (l2 ++ l3), e', ?_⟩, hz⟩
   have hb' : C X gH ((0, au r g n) :: (1, .int .i64 a) :: (2, .int .i64 b) :: (3, .int .i64 Yu) :: (4, .func 69 [] []) :: (10, .bool wb) :: (11, .bool wp) :: []) (hp H r g d) = some (.norm, (0, au r g n) :: (1, .int .i64 (mid + 1 : Nat)) :: (2, .int .i64 b) :: (3, .int .i64 dc) :: (4, .func 69 [] []) :: (10, .bool (decide (mid - a ≥ (b - a) / 8))) :: (11, .bool al) :: [], hp (H ++ l1 ++ l2) r g (Go.Sort.pdq lt d4 a mid dc true true)) := by
    rw [jZ, Yk, s1, s2, s3, s4, s5, s6, s7, s8, s9, ZG]
   rw [Zx, hb', ZZ, hl, List.append_assoc, List.append_assoc]
  ·rw [if_neg hc2, if_neg hc2, if_neg hc2, if_neg hc2] at s9
   rw [if_neg hc2]
   obtain ⟨⟨l3, e', hl⟩, hz⟩ := ih (mid - a) (by omega) a mid dc (decide (b - mid ≥ (b - a) / 8)) al (Go.Sort.pdq lt d4 (mid + 1) b dc true true) (H ++ l1 ++ l2) (Nat.le_refl _) hbd.2.1 (by omega) ib.2 ri hr2
   refine ⟨⟨l1 ++ (l2 ++ l3), e', ?_⟩, hz⟩
   have hb' : C X gH ((0, au r g n) :: (1, .int .i64 a) :: (2, .int .i64 b) :: (3, .int .i64 Yu) :: (4, .func 69 [] []) :: (10, .bool wb) :: (11, .bool wp) :: []) (hp H r g d) = some (.norm, (0, au r g n) :: (1, .int .i64 a) :: (2, .int .i64 mid) :: (3, .int .i64 dc) :: (4, .func 69 [] []) :: (10, .bool (decide (b - mid ≥ (b - a) / 8))) :: (11, .bool al) :: [], hp (H ++ l1 ++ l2) r g (Go.Sort.pdq lt d4 (mid + 1) b dc true true)) := by
    rw [jZ, Yk, s1, s2, s3, s4, s5, s6, s7, s8, s9, ZG]
   rw [Zx, hb', ZZ, hl, List.append_assoc, List.append_assoc]
end Go.Proofs.YteekbciaggmfgaaDoor
