/- Ideal runs. -/
import Derived.Test.YteekbciaggmfgaaDoorStep
import Derived.Test.YteekbciaggmfgaaDoorColH
import Derived.Test.YteekbciaggmfgaaDoorNod
import Derived.Test.YteekbciaggmfgaaDoorFltR
namespace Go.Proofs.YteekbciaggmfgaaDoor
attribute [local go_sem] ZF Zy ZA ZB Zp Zf Zm Zi Zk Zc Zd Zj Zq Zr ZC Zo Zg Zz Zu Zt ZR Zv Yj put lk Od.v Za Ze Zl Yv Yb Ya Yd ai Yt DV.isU DV.cells ae ZJ ZX ZK Zn splice ZM af ZT Ys bz bR bL bf bP bu aZ bn bN bg bQ bj bq bh bU bV bK aQ aR
attribute [local go_sem ↓] Zh
set_option linter.unusedVariables false
set_option linter.unusedSimpArgs false
set_option maxRecDepth 10000
def vJ (i : Int) : V := ⟨1, i, ⟨#[]⟩, false⟩
theorem KH (i : Int) (H : Zb) : E X 25 [.int .i64 i] H = some (.agg [.int .i64 1, .int .i64 i, .str ⟨#[]⟩, .bool false], H) := by
 rw [ZO (X := X) _ JR _ rfl rfl]; unfold JR; exact rg trivial
theorem KQ : ord (vJ 3) (vJ 7) < 0 := by decide
theorem ya : Up [vJ 3, vJ 7] := by
 refine List.Pairwise.cons (fun x hx => ?_) (List.pairwise_singleton _ _)
 simp at hx; subst hx; exact KQ
theorem MF : [vJ 7, vJ 3, vJ 7].map (place [vJ 3, vJ 7]) = [1, 0, 1] := by
 have h3 : place [vJ 3, vJ 7] (vJ 3) = 0 := uv ya rfl
 have h7 : place [vJ 3, vJ 7] (vJ 7) = 1 := uv ya rfl
 simp [h3, h7]
theorem GV : pack [1, 0, 1] (wC 2) = [5] := by decide
theorem E4 : ColOk 3 (.list 4 ([vJ 3, vJ 7].map V.d) false) (.list 1 [bD 5] false) [vJ 3, vJ 7] [1, 0, 1] where
 dict := .inl rfl
 up := ya
 may := by
  intro x hx
  simp at hx
  rcases hx with rfl | rfl <;> rfl
 yb := by simp
 bytes := .inr (by
  have : ([vJ 3, vJ 7] : List V).length = 2 := rfl
  rw [this, GV]; rfl)
 len := rfl
 nb := by omega
 mem := by intro p; simp; omega
theorem Jl : bitsOf (jk [0, 2]) 0 = [0, 2] := by
 rw [rU (n := 3) (fun i hi => by rw [vZ]; simp; omega)]
 have : (List.range 3).filter (bit (jk [0, 2])) = (List.range 3).filter (fun i => decide (i ∈ [0, 2])) := List.filter_congr fun i _ => vZ _ _
 rw [this]
 decide
set_option maxHeartbeats 1000000 in
theorem Mr (H : Zb) : E X 5 [] H = some (.bool true, H) := by
 have OY := KH
 have O1 : E X 22 [.list 4 [.agg [.int .i64 1, .int .i64 7, .str ⟨#[]⟩, .bool false], .agg [.int .i64 1, .int .i64 3, .str ⟨#[]⟩, .bool false], .agg [.int .i64 1, .int .i64 7, .str ⟨#[]⟩, .bool false]] true] H = some (.tup [aI 3 (.list 4 [.agg [.int .i64 1, .int .i64 3, .str ⟨#[]⟩, .bool false], .agg [.int .i64 1, .int .i64 7, .str ⟨#[]⟩, .bool false]] false) (.list 1 [.int .u8 5] false), .int .i64 0], H) := by
  rcases KI (H := H) (A := .list 4 ([vJ 7, vJ 3, vJ 7].map V.d) true) (ls := [vJ 7, vJ 3, vJ 7]) (fun _ => rfl) (by simp) with ⟨S, ys, h1, hS, hU, hm, _, _⟩ | ⟨_, v, hv, nB⟩
  ·have hys : ys = [vJ 3, vJ 7] := zI _ _ hU ya (fun v => by rw [hm]; simp; intro h; exact .inr h)
   subst hys
   rw [MF] at h1
   have hl : ([vJ 3, vJ 7] : List V).length = 2 := rfl
   rw [hl, GV] at h1
   rcases hS with rfl | ⟨_, h⟩
   ·exact h1
   ·cases h
  ·exfalso
   simp at hv
   rcases hv with rfl | rfl | rfl <;> cases nB
 have O0 : ∀ g, E X 9 [.list 4 [.agg [.int .i64 1, .int .i64 3, .str ⟨#[]⟩, .bool false], .agg [.int .i64 1, .int .i64 7, .str ⟨#[]⟩, .bool false]] false, .list 4 [.agg [.int .i64 1, .int .i64 3, .str ⟨#[]⟩, .bool false], .agg [.int .i64 1, .int .i64 7, .str ⟨#[]⟩, .bool false]] true] g = some (.bool true, g) := fun g => D9 (xs := [vJ 3, vJ 7]) rfl rfl (by simp)
 have I4 : ∀ g, E X 18 [.list 1 [.int .u8 5] false, .list 1 [.int .u8 5] true] g = some (.bool true, g) := fun g => Em (bs := [5]) rfl rfl (by simp)
 have gO := fun g => pn E4 g
 obtain ⟨W, I8, hW⟩ := En (H := H ++ [HO.box 25 [.int .i64 3, .list 4 ([vJ 3, vJ 7].map V.d) false, .list 1 [bD 5] false]]) E4 1 2
 have hrw : bE (fun p => decide ((1 : Int) ≤ (p : Int)) && decide ((p : Int) < 2)) [1, 0, 1] 3 = [0, 2] := by decide
 rw [hrw] at hW
 have vS := fun g => Eo hW (Ad _) (by decide) g
 rw [Jl] at vS
 have vS : ∀ g, E X 13 [.agg [W], .int .i64 (-1)] g = some (.fresh 3 1 [.int .i64 0, .int .i64 2], g) := vS
 have EZ : ∀ g, E X 12 [.row g.length 0 0 2 false, .list 1 [.int .i64 0, .int .i64 2] true] (g ++ [.row 3 1 0 [.int .i64 0, .int .i64 2]]) = some (.bool true, g ++ [.row 3 1 0 [.int .i64 0, .int .i64 2]]) := fun g => by
  have := yx (h := g ++ [.row 3 1 0 [.int .i64 0, .int .i64 2]]) (A := .row g.length 0 0 2 false) (B := .list 1 [.int .i64 0, .int .i64 2] true) (xs := [0, 2]) (ys := [0, 2]) (by simp [vw]) rfl (by simp)
  simpa using this
 have EZ := EZ (H ++ [HO.box 25 [.int .i64 3, .list 4 [.agg [.int .i64 1, .int .i64 3, .str ⟨#[]⟩, .bool false], .agg [.int .i64 1, .int .i64 7, .str ⟨#[]⟩, .bool false]] false, .list 1 [.int .u8 5] false]])
 simp only [List.length_append, List.length_cons, List.length_nil, List.append_assoc, List.cons_append, List.nil_append, Nat.zero_add] at EZ
 have I8 : E X 14 [.agg [.int .i64 3, .list 4 [.agg [.int .i64 1, .int .i64 3, .str ⟨#[]⟩, .bool false], .agg [.int .i64 1, .int .i64 7, .str ⟨#[]⟩, .bool false]] false, .list 1 [.int .u8 5] false], .int .i64 1, .int .i64 2] (H ++ [HO.box 25 [.int .i64 3, .list 4 [.agg [.int .i64 1, .int .i64 3, .str ⟨#[]⟩, .bool false], .agg [.int .i64 1, .int .i64 7, .str ⟨#[]⟩, .bool false]] false, .list 1 [.int .u8 5] false]]) = some (.agg [W], H ++ [HO.box 25 [.int .i64 3, .list 4 [.agg [.int .i64 1, .int .i64 3, .str ⟨#[]⟩, .bool false], .agg [.int .i64 1, .int .i64 7, .str ⟨#[]⟩, .bool false]] false, .list 1 [.int .u8 5] false]]) := I8
 have gO : ∀ g, E X 19 [.agg [.int .i64 3, .list 4 [.agg [.int .i64 1, .int .i64 3, .str ⟨#[]⟩, .bool false], .agg [.int .i64 1, .int .i64 7, .str ⟨#[]⟩, .bool false]] false, .list 1 [.int .u8 5] false]] g = some (.bool true, g) := gO
 have hone : W.one = true := by rcases hW with rfl | ⟨rfl, _⟩ <;> rfl
 have y1 : ∀ a b c k n s t k' n' s' t' h, cM [.agg [.int .i64 a, .int .i64 b, .str c, .bool k], .agg [.int .i64 n, .int .i64 s, .str t, .bool k'], .agg [.int .i64 n', .int .i64 s', .str t', .bool h]] = fun H => some ([.agg [.int .i64 a, .int .i64 b, .str c, .bool k], .agg [.int .i64 n, .int .i64 s, .str t, .bool k'], .agg [.int .i64 n', .int .i64 s', .str t', .bool h]], H) := fun _ _ _ _ _ _ _ _ _ _ _ _ => rfl
 have Nu : ∀ a b c k n s t k', cM [.agg [.int .i64 a, .int .i64 b, .str c, .bool k], .agg [.int .i64 n, .int .i64 s, .str t, .bool k']] = fun H => some ([.agg [.int .i64 a, .int .i64 b, .str c, .bool k], .agg [.int .i64 n, .int .i64 s, .str t, .bool k']], H) := fun _ _ _ _ _ _ _ _ => rfl
 have y2 : ∀ k n s t, Wc 4 (.agg [.int .i64 k, .int .i64 n, .str s, .bool t]) := fun k n s t => by simp [Wc, DV.cells, DV.one]
 have y3 : ∀ k n s t, Nr (.agg [.int .i64 k, .int .i64 n, .str s, .bool t]) := fun k n s t => (V.mk k n s t).nr
 have y4 : ∀ (a : IntKind) (b : Int) h, cM [.int a b] h = some ([.int a b], h) := fun _ _ _ => rfl
 have y5 : ∀ (a : IntKind) (b c : Int) h, cM [.int a b, .int a c] h = some ([.int a b, .int a c], h) := fun _ _ _ _ => rfl
 have y6 : ∀ k a, Wc 1 (.int k a) := fun k a => by simp [Wc, DV.cells, DV.one]
 have y7 : ∀ k a, Nr (.int k a) := fun k a => .int _ _
 clear hW
 rw [ZO (X := X) _ b5 _ rfl rfl]; unfold b5
 refine ro (zb @OY @O1 @O0 @I4 @gO @I8 @vS @EZ @hone @y1 @Nu @y2 @y3 @y4 @y5 @y6 @y7) ?_
 exact NI @gO
theorem aC.one {R : DV} {bs : List Nat} (h : aC R bs) : R.one = true := by
 rcases h with ⟨rfl, _⟩ | rfl <;> rfl
theorem KC {H : Zb} {L : DV} {il : List Nat} {w i p : Nat} (hB : aC L (pack il w)) (hw : w ≤ 62) (hb : il.length ≤ 4096) (hp : il[i]? = some p) (Ic : wN p ≤ w) :
 E X 30 [L, .int .i64 i, .int .i64 w] H = some (.int .i64 p, H) := by
 obtain ⟨hi, hpi⟩ := List.getElem?_eq_some_iff.1 hp
 have hpl := iZ il w
 have hle : i * w + w ≤ il.length * w := by rw [← Nat.succ_mul]; exact Nat.mul_le_mul_right w hi
 have gA : il.length * w ≤ 4096 * 62 := Nat.mul_le_mul hb hw
 have oO := Eh (H := H) (i := i) hB (po il w) hw (by omega) (by omega)
 rw [tr il w i hi (by rw [hpi]; exact Ic), hpi] at oO
 have gG := ud w hw
 have hv := hB.vw
 have xy : ((pack il w).map bD).length = (pack il w).length := by simp
 have hP : (i + 1) * w = i * w + w := Nat.succ_mul i w
 obtain ⟨I, hI⟩ : ∃ I, I = i + 1 := ⟨_, rfl⟩
 rw [← hI] at hP
 obtain ⟨P, Oy⟩ : ∃ P, P = I * w := ⟨_, rfl⟩
 have z1 : IntKind.i64.wrap ((i : Int) + 1) = (I : Int) := wr
 have z2 : IntKind.i64.wrap ((I : Int) * (w : Int)) = (P : Int) := by
  rw [show (I : Int) * (w : Int) = ((I * w : Nat) : Int) by simp, ← Oy, wrap64 _ (by omega) (by omega)]
 obtain ⟨bl, hbb⟩ : ∃ bl, bl = (pack il w).length := ⟨_, rfl⟩
 rw [← hbb] at hpl
 obtain ⟨Q, hQ⟩ : ∃ Q, Q = 8 * bl := ⟨_, rfl⟩
 have z3 : IntKind.i64.wrap (8 * (bl : Int)) = (Q : Int) := wr
 have d0 : ¬ (i : Int) < 0 := by omega
 have d1 : ¬ (1099511627776 : Int) < (i : Int) := by omega
 have d2 : ¬ (Q : Int) < (P : Int) := by omega
 have d3 : ¬ Q < P := by omega
 have d4 : ¬ 1099511627776 < i := by omega
 have sC := hbb.symm
 clear hB
 generalize pack il w = bs at *
 clear hle gA hpl hpi hp hP
 rw [ZO (X := X) _ JP _ rfl rfl]; unfold JP; exact rg (lm @oO @gG @hv @sC @z1 @z2 @z3 @d0 @d1 @d2 @d3 @d4)
theorem KL {n : Nat} {D B : DV} {ys : List V} {il : List Nat} (hC : ColOk n D B ys il) {i p : Nat} {v : V} (hp : il[i]? = some p) (hv : ys[p]? = some v) (H : Zb) :
 E X 11 [aI n D B, .int .i64 i] H = some (.tup [v.d, .bool true], H) := by
 have gO := fun g => pn hC g
 have k9 := uf ys.length hC.yb
 have hpl : p < ys.length := (List.getElem?_eq_some_iff.1 hv).1
 have pJ : wC ys.length ≤ 62 := by
  have h1 := ij (ys.length - 1) 255 (by have := hC.yb; omega)
  have h2 : wN 255 = 8 := by decide
  unfold wC; omega
 have OX := fun g => KC (H := g) hC.bytes pJ (by have := hC.len; have := hC.nb; omega) hp (ij _ _ (by omega))
 have hi : i < n := by rw [← hC.len]; exact (List.getElem?_eq_some_iff.1 hp).1
 have hD := hC.dict.vw
 have d0 : ¬ (i : Int) < 0 := by omega
 have d1 : ¬ (n : Int) ≤ (i : Int) := by omega
 have d2 : ¬ n ≤ i := by omega
 obtain ⟨xs, hxs⟩ : ∃ xs, xs = ys.map V.d := ⟨_, rfl⟩
 rw [← hxs] at hD
 have iC : xs.length = ys.length := by rw [hxs]; simp
 have Ie : xs[p]? = some v.d := by rw [hxs, List.getElem?_map, hv]; rfl
 have N5 : p < xs.length := by omega
 have MP : xs[p] = v.d := by rw [List.getElem?_eq_getElem N5] at Ie; injection Ie
 generalize wC ys.length = w at *
 clear hxs
 clear hC hp hv
 obtain ⟨vk, vn, vs', vt⟩ := v
 simp only [V.d] at *
 rw [ZO (X := X) _ r6 _ rfl rfl]; unfold r6; exact kQ (eJ @gO @k9 @OX @hD @d0 @d1 @d2 @Ie @MP @iC @hpl)
def fW : List V → List V
 | [] => []
 | y :: t => if y.k = 0 then t else y :: t
theorem Gr {n : Nat} {D B : DV} {ys : List V} {il : List Nat} (hC : ColOk n D B ys il) (he : fW ys = []) (H : Zb) :
 E X 20 [aI n D B] H = some (.tup [.agg [.int .i64 0, .int .i64 0, .str ⟨#[]⟩, .bool false], .agg [.int .i64 0, .int .i64 0, .str ⟨#[]⟩, .bool false], .bool false], H) := by
 have gO := fun g => pn hC g
 have hd := hC.dict
 clear hC
 rcases hd with rfl | ⟨rfl, rfl⟩
 ·cases ys with
  | nil =>
   simp only [List.map_nil] at gO ⊢
   rw [ZO (X := X) _ mC _ rfl rfl]; unfold mC; exact Le @gO
  | cons y t =>
   by_cases h0 : y.k = 0
   ·have ht : t = [] := by simpa [fW, h0] using he
    subst ht
    obtain ⟨yk, yn, ys', yt⟩ := y
    simp only at h0
    subst h0
    simp only [List.map_nil, List.map_cons, V.d] at gO ⊢
    rw [ZO (X := X) _ mC _ rfl rfl]; unfold mC; exact GN @gO
   ·simp [fW, h0] at he
 ·rw [ZO (X := X) _ mC _ rfl rfl]; unfold mC; exact Le @gO
theorem Gq {n : Nat} {D B : DV} {ys : List V} {il : List Nat} (hC : ColOk n D B ys il) {us : List V} {a z : V} (he : fW ys = us) (ha : us[0]? = some a) (hz : us[us.length - 1]? = some z) (H : Zb) :
 E X 20 [aI n D B] H = some (.tup [a.d, z.d, .bool true], H) := by
 have gO := fun g => pn hC g
 have hd := hC.dict
 have cH := hC.yb
 clear hC
 have H7 : 0 < us.length := (List.getElem?_eq_some_iff.1 ha).1
 obtain ⟨q, hq⟩ : ∃ q, q = us.length - 1 := ⟨_, rfl⟩
 rw [← hq] at hz
 obtain ⟨xs, hxs⟩ : ∃ xs, xs = us.map V.d := ⟨_, rfl⟩
 have hx0 : xs[0]? = some a.d := by rw [hxs, List.getElem?_map, ha]; rfl
 have Ez : xs[q]? = some z.d := by rw [hxs, List.getElem?_map, hz]; rfl
 have iR : xs.length = us.length := by rw [hxs]; simp
 obtain ⟨m, hm⟩ : ∃ m, m = us.length := ⟨_, rfl⟩
 rw [← hm] at iR hq H7
 have hml : m ≤ 256 := by
  cases ys with
  | nil => rw [hm, ← he]; simp [fW]
  | cons y t =>
   rw [hm, ← he, fW]
   simp only [List.length_cons] at cH
   split
   ·omega
   ·simpa using cH
 have n1 : ¬ (m : Int) = 0 := by omega
 have n2 : ¬ m = 0 := by omega
 have n3 : (0 : Int) < (m : Int) := by omega
 have n4 : ((m : Int) == 0) = false := by simpa using n2
 have z1 : IntKind.i64.wrap ((m : Int) - 1) = (q : Int) := wr
 have jN : q < m := by omega
 have hne : ¬ xs = [] := by rintro rfl; simp at iR; omega
 have hy0 : xs[0]'(by omega) = a.d := by rw [List.getElem?_eq_getElem (by omega)] at hx0; injection hx0
 have qV : xs[q]'(by omega) = z.d := by rw [List.getElem?_eq_getElem (by omega)] at Ez; injection Ez
 have htk : List.take m xs = xs := List.take_of_length_le (by omega)
 obtain ⟨ak, an, as', at'⟩ := a
 obtain ⟨zk, zn, zs, zt⟩ := z
 rcases hd with rfl | ⟨rfl, rfl⟩
 ·cases ys with
  | nil => subst he; simp [fW] at hm; omega
  | cons y t =>
   by_cases h0 : y.k = 0
   ·have ht : t = us := by simpa [fW, h0] using he
    subst ht
    obtain ⟨yk, yn, ys', yt⟩ := y
    simp only at h0
    subst h0
    rw [List.map_cons, ← hxs] at gO ⊢
    clear hxs he
    (try simp only [V.d] at *)
    rw [ZO (X := X) _ mC _ rfl rfl]; unfold mC; exact GN (zc @gO @hx0 @Ez @hy0 @qV @iR @n1 @n2 @n3 @n4 @z1 @jN @H7 @hne @htk)
   ·have ht : y :: t = us := by simpa [fW, h0] using he
    rw [ht, ← hxs] at gO ⊢
    have hy : y = ⟨ak, an, as', at'⟩ := by
     have := ha
     rw [← ht] at this
     simpa using this
    have h0' : ¬ ak = 0 := by rw [hy] at h0; exact h0
    have Na : (ak == 0) = false := by simpa using h0'
    clear hxs he hy h0 ht ha hz
    (try simp only [V.d] at *)
    rw [ZO (X := X) _ mC _ rfl rfl]; unfold mC; exact GN (vM @gO @hx0 @Ez @hy0 @qV @iR @n1 @n2 @n3 @n4 @z1 @jN @H7 @hne @h0' @Na)
 ·subst he; simp [fW] at hm; omega
theorem BK (hold : Nat → Bool) (il : List Nat) (n : Nat) : bitsOf (jk (bE hold il n)) 0 = bE hold il n := by
 have hb : ∀ i, bit (jk (bE hold il n)) i = (decide (i < n) && hold (il.getD i 0)) := by
  intro i
  rw [vZ]
  simp only [bE, List.mem_filter, List.mem_range]
  by_cases h1 : i < n <;> cases h2 : hold (il.getD i 0) <;> simp [h1]
 rw [rU (n := n) (fun i hi => by rw [hb]; simp; omega)]
 exact List.filter_congr fun i hi => by rw [hb]; rw [List.mem_range] at hi; simp [hi]
theorem Fp {hold : Nat → Bool} {il : List Nat} {n x : Nat} (h : x ∈ bE hold il n) : x < n := by
 have := (List.mem_filter.1 h).1
 exact List.mem_range.1 this
theorem zT {hold : Nat → Bool} {il : List Nat} {n : Nat} {W : DV} (hW : WL W (jk (bE hold il n))) (hn : n ≤ 4096) (H : Zb) : E X 13 [.agg [W], .int .i64 (-1)] H = some (pq (bE hold il n), H) := by
 have hl := Fv (l := bE hold il n) (fun x hx => by have := Fp hx; omega)
 have := Eo hW (Ad _) hl H
 rw [BK] at this
 exact this
end Go.Proofs.YteekbciaggmfgaaDoor
