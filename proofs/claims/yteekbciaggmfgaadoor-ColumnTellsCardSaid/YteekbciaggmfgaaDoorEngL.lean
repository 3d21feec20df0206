/- Ideal runs. -/
import Derived.Lib.AppendZerosOnto
import Derived.Test.YteekbciaggmfgaaDoorEngA
import Derived.MapKept
import Derived.Orders
import Derived.LoopN
import Derived.Scope
namespace Go.Proofs.YteekbciaggmfgaaDoor
open Go.RowKit
set_option linter.unusedVariables false
set_option linter.unusedSimpArgs false
section
variable {P : Program} {β β' : Bm} {w w' : World} {h h' : Zb}
theorem Fh {sz : Nat} {xs : List DV} {vs : List Value} (hr : RVs β w h (flat xs) vs) (hw : ∀ x ∈ xs, Wc sz x) : ∀ u ∈ vs, u.oneCell' = true := by
 intro u hu
 obtain ⟨d, hd, hrd⟩ := hr.mem hu
 obtain ⟨x, hx, Om⟩ := List.mem_flatMap.1 hd
 exact hrd.one ((hw x hx).2 d Om)
theorem ul (hI : Inv β w h) {d : DV} {sz : Nat} {xs : List DV} {A : Option Addr} {n cap : Nat} (hr : RV β w h d (.slice A n cap)) (hv : vw h sz d = some xs) :
 ∃ olds, RVs β w h (flat xs) olds ∧ olds.length = n * sz ∧ n = xs.length ∧ (∀ x ∈ xs, Wc sz x) ∧ (∀ W : World, W.heap = w.heap → ∀ k, (Builtin.firstCells sz n (.slice A n k)).run P W = .ok olds.toArray W) ∧
  (A = none → n = 0 ∧ cap = 0) ∧ (∀ a, A = some a → ∀ (j : Nat) u, olds[j]? = some u → w.cell? (a.add j) = some u) := by
 obtain ⟨hn, hw, hc⟩ := gW hI hr hv
 have hA : A = none → n = 0 ∧ cap = 0 := by
  rintro rfl
  cases hr with
  | nils => exact ⟨rfl, rfl⟩
  | undef => simp [vw] at hv
 rcases hc with rfl | ⟨a, vs, rfl, hrs, hcs⟩
 ·simp at hn; subst hn
  refine ⟨[], .nil, by simp, rfl, hw, fun W hW k => ?_, hA, fun a ha j u hu => by simp at hu⟩
  cases A with
  | none => exact run_firstCells_none W sz 0 0 k
  | some a => exact run_firstCells_some W sz 0 a 0 k [] (by simp) (by simp)
 ·have hl : vs.length = n * sz := by rw [← hrs.len, bY (fun x hx => (hw x hx).1), hn]
  refine ⟨vs, hrs, hl, hn, hw, fun W hW k => run_firstCells_some W sz n a n k vs hl (fun j v hj => ?_), hA, fun a' ha j u hu => by injection ha with ha; subst ha; exact hcs j u hu⟩
  have h1 := hcs j v hj
  simpa [World.cell?, hW] using h1
theorem BG (s : ByteArray) : RVs β w h (flat (bytesOf s)) (byteCells s) := by
 unfold bytesOf byteCells flat
 generalize s.data.toList = l
 induction l with
 | nil => exact .nil
 | cons b l ih => exact .cons (.int _ _) ih
theorem Da (hI : Inv β w h) {y : DV} {v : Value} {sz : Nat} {ys : List DV} {u : TypeId} (hr : RV β w h y v) (hs : aJ h sz y = some ys) (hk : (∃ e', P.underlying u = some (.slice e')) ∨ P.underlying u = some .string) :
 ∃ news, Src P sz u v ys.length news w ∧ RVs β w h (flat ys) news ∧ ∀ y ∈ ys, Wc sz y := by
 unfold aJ at hs
 split at hs
 ·rename_i s
  split at hs
  ·rename_i h1
   injection hs with hs; subst hs
   subst h1
   cases hr
   have hl : (bytesOf s).length = s.size := by unfold bytesOf; simp
   refine ⟨byteCells s, ⟨hk, fun W => by rw [hl]; rfl, by rw [hl]; exact firstCells_string s w, by rw [hl]; exact firstCells_string s w.drew, by rw [hl, byteCells_length, Nat.mul_one], fun q hq => ?_⟩, BG s, fun y hy => ?_⟩
   ·obtain ⟨_, _, rfl⟩ := List.mem_map.1 hq; rfl
   ·obtain ⟨b, _, rfl⟩ := List.mem_map.1 hy
    exact ⟨rfl, fun c hc => by simp [DV.cells] at hc; subst hc; rfl⟩
  ·cases hs
 ·obtain ⟨A, n, cap, rfl⟩ := gV hr hs
  obtain ⟨olds, h1, h2, h3, h4, h5, h6, h7⟩ := ul (P := P) hI hr hs
  subst h3
  refine ⟨olds, ⟨hk, fun W => rfl, ?_, ?_, h2, Fh h1 h4⟩, h1, h4⟩
  ·cases A with
   | none => exact h5 w rfl cap
   | some a => exact h5 w rfl cap
  ·exact h5 w.drew rfl cap
theorem qD {t tx ty e : TypeId} {i : TypeInfo} (ht : P.underlying t = some (.slice e)) (hi : P.info? e = some i) (base : Option Addr) (sLen sCap : Nat) (x : Value) (hs : Src P i.size tx x 0 [] w) (hc : sLen ≤ sCap) :
 (Builtin.append_ #[t, tx] ty #[.slice base sLen sCap, x]).run P w = .ok (.slice base sLen sCap) w := by
 have h1 := hs.len w
 have h2 := hs.cells
 rcases hs.kind with ⟨e', hk⟩ | hk <;> (cases base <;> simp [Builtin.append_, run_underlying ht, run_underlying hk, sizeOf, typeInfo, hi, h1, hc, h2, storeCells])
theorem run_append_room {t tx ty e : TypeId} {i : TypeInfo} (ht : P.underlying t = some (.slice e)) (hi : P.info? e = some i) (b sLen sCap : Nat) (x : Value) (n : Nat) (news : List Value) (hs : Src P i.size tx x n news w) (hc : sLen + n ≤ sCap)
 {cur : Array Value} {e' : TypeId} (hb : w.heap[b]? = some (.cells cur e' (0, 0))) (hcs : cur.size = sCap * i.size) :
 (Builtin.append_ #[t, tx] ty #[.slice (some ⟨b, 0, none⟩) sLen sCap, x]).run P w = .ok (.slice (some ⟨b, 0, none⟩) (sLen + n) sCap) (w.setRow b (cur.toList.take (sLen * i.size) ++ news ++ cur.toList.drop ((sLen + n) * i.size)).toArray) := by
 have hle : (sLen + n) * i.size ≤ sCap * i.size := Nat.mul_le_mul_right _ hc
 have hst := run_storeCells_at P b (sLen * i.size) e' news 0 cur w hb (by rw [hs.newsLen, hcs]; rw [Nat.add_mul] at hle; omega) hs.one
 rw [Nat.add_zero, hs.newsLen, ← Nat.add_mul] at hst
 rcases hs.kind with ⟨e', hk⟩ | hk <;> simp [Builtin.append_, run_underlying ht, run_underlying hk, sizeOf, typeInfo, hi, hs.len, hc, hs.cells, gU, hst]
theorem jB (w : World) (o : Obj) (row : Option Nat) : w.grownBy (w.drew.alloc o) row :=
 ⟨rfl, rfl, rfl, by simp, fun k hk _ => alloc_old w.drew o (b := k) (by simpa using hk)⟩
theorem sE (w : World) (b : Nat) (cs : Array Value) : w.grownBy (w.setRow b cs) (some b) :=
 ⟨rfl, rfl, rfl, by simp [World.setRow], fun k hk hne => by simp [World.setRow, Array.getElem?_modify, Ne.symm (show k ≠ b from fun e => hne (by rw [e]))]⟩
theorem Dj (hI : Inv β w h) {t u ty et : TypeId} {i : TypeInfo} {z : Value} {x y d : DV} {vx vy : Value} {xs ys : List DV} (ht : P.underlying t = some (.slice et)) (hk : (∃ e', P.underlying u = some (.slice e')) ∨ P.underlying u = some .string)
 (hi : P.info? et = some i) (hz : i.zero = some z) (hzs : z.cells.size = i.size) (hs0 : 0 < i.size) (hb0 : 0 < i.bytes) (hx : RV β w h x vx) (hy : RV β w h y vy) (nA : vw h i.size x = some xs) (tF : aJ h i.size y = some ys)
 (hd : aX h et i.size i.bytes x xs ys = some (d, h')) :
 ∃ v w' β', (Builtin.append_ #[t, u] ty #[vx, vy]).run P w = .ok v w' ∧ aj β w h β' w' h' ∧ Inv β' w' h' ∧ RV β' w' h' d v := by
 unfold aX at hd
 obtain ⟨A, n, cap, rfl⟩ := gV hx nA
 obtain ⟨olds, Lx, Ob, AG, Ih, Oa, Pj, Ph⟩ := ul (P := P) hI hx nA
 obtain ⟨news, hn1, hn2, EF⟩ := Da hI hy tF hk
 have hcap : n ≤ cap := by
  cases hx with
  | nils => exact Nat.le_refl _
  | list hn hc => exact hc
  | row hb hc => exact hc
  | undef => simp [vw] at nA
 split at hd
 ·rename_i hy0
  simp only [Option.some.injEq, Prod.mk.injEq] at hd
  obtain ⟨rfl, rfl⟩ := hd
  subst hy0
  have : news = [] := by have := hn2.len; simp [flat] at this; exact List.length_eq_zero_iff.1 this.symm
  subst this
  exact ⟨_, w, β, qD ht hi A n cap vy hn1 hcap, aj.refl _ _ _, hI, hx⟩
 rename_i hy0
 have iC : 0 < ys.length := List.length_pos_iff.2 hy0
 split at hd
 case isFalse => cases hd
 rename_i hfit
 have O4 : (xs.length + ys.length) ≤ (xs.length + ys.length) * i.bytes := Nat.le_mul_of_pos_right _ hb0
 have hmax : n + ys.length ≤ maxLen := by simp [maxLen]; omega
 have hgrow : cap < n + ys.length → ∃ w' cur C, (Builtin.append_ #[t, u] ty #[.slice A n cap, vy]).run P w = .ok (.slice (some ⟨w.heap.size, 0, none⟩) (n + ys.length) C) w' ∧ w.grownBy w' none ∧ w'.heap.size = w.heap.size + 1 ∧ w'.heap[w.heap.size]? = some (.cells cur et (0, 0)) ∧
  cur.size = C * i.size ∧ n + ys.length ≤ C ∧ C ≤ maxLen ∧ cur.toList.take ((n + ys.length) * i.size) = olds ++ news := by
  intro hlt
  have yQ : Builtin.nextslicecap (n + ys.length) cap * i.bytes ≤ 281474976710656 := growslice_fits hlt (by rw [AG]; exact hfit)
  have hrun := run_append_grow_src w t u ty et i z ht hi hz A n cap olds (Oa w.drew rfl cap) vy ys.length news hn1 hlt (by omega) yQ
  have hge := grownCap_ge w (n + ys.length) cap et
  have hle := grownCap_le_maxLen w (n + ys.length) cap et hmax
  have hlen : (olds ++ news).length = (n + ys.length) * i.size := by rw [List.length_append, Ob, hn1.newsLen, Nat.add_mul]
  refine ⟨_, _, _, hrun, jB _ _ _, by simp, heap_alloc_new w.drew _, ?_, hge, hle, ?_⟩
  ·rw [Array.size_append, size_zeroCells, hzs, List.size_toArray, hlen, ← Nat.add_mul]
   congr 1; omega
  ·rw [Array.toList_append, List.take_append_of_le_length (by show _ ≤ (olds ++ news).length; rw [hlen]; exact Nat.le_refl _)]
   exact List.take_of_length_le (by show (olds ++ news).length ≤ _; rw [hlen]; exact Nat.le_refl _)
 have hnew : cap < n + ys.length → ∃ v w' β', (Builtin.append_ #[t, u] ty #[.slice A n cap, vy]).run P w = .ok v w' ∧ aj β w h β' w' (h ++ [.row et i.size 0 (xs ++ ys)]) ∧ Inv β' w' (h ++ [.row et i.size 0 (xs ++ ys)]) ∧
  RV β' w' (h ++ [.row et i.size 0 (xs ++ ys)]) (.row h.length 0 0 (xs.length + ys.length) false) v := by
  intro hlt
  obtain ⟨w1, cur, C, hrun, hg, hsz, hat, hcs, hge, hle, htk⟩ := hgrow hlt
  have he := aj.allocG hI (.row et i.size 0 (xs ++ ys)) hg (Nat.le_refl w.heap.size)
  have hi2 := Inv.allocG hI (.row et i.size 0 (xs ++ ys)) hg (Nat.le_refl w.heap.size) (by omega) ⟨cur, C, hat, hcs, by rw [List.length_append]; omega, hle, hs0, fun q hq => by
   rcases List.mem_append.1 hq with hq | hq
   ·exact Ih q hq
   ·exact EF q hq, by
   rw [List.length_append, ← AG, htk, eC]
   exact (RVs.ext he Lx).append (RVs.ext he hn2)⟩
  refine ⟨_, w1, _, hrun, he, hi2, ?_⟩
  rw [← AG]
  exact .row (ZW _ _ _) hge (fun h => by cases h) (.inl (fO _ _)) (Nat.le_refl _) (fun _ => ⟨by rw [List.length_append]; omega, fun _ => by simp, fun _ => ⟨rfl, fun _ _ => ⟨cur, hat, hcs⟩⟩⟩)
 split at hd
 ·simp only [Option.some.injEq, Prod.mk.injEq] at hd
  obtain ⟨rfl, rfl⟩ := hd
  simp [vw] at nA; subst nA
  cases hx
  simpa using hnew (by omega)
 ·simp only [Option.some.injEq, Prod.mk.injEq] at hd
  obtain ⟨rfl, rfl⟩ := hd
  cases hx with
  | list hn hc cK =>
   have := cK rfl
   exact hnew (by omega)
 ·simp only [Option.some.injEq, Prod.mk.injEq] at hd
  obtain ⟨rfl, rfl⟩ := hd
  cases hx with
  | row hb hc cK =>
   have := cK rfl
   exact hnew (by omega)
 ·rename_i o g n'
  split at hd
  ·rename_i t' cP g0 zs tH
   have hdd : t' = et ∧ n' ≤ zs.length ∧ d = .row o (g + 1) 0 (n' + ys.length) false ∧ h' = h.set o (.row et cP (g + 1) (zs.take n' ++ ys)) := by
    split at hd
    ·rename_i hq
     obtain ⟨rfl, hnz⟩ := hq
     simp only [Option.some.injEq, Prod.mk.injEq] at hd
     obtain ⟨rfl, rfl⟩ := hd
     exact ⟨rfl, by omega, rfl, by rw [List.take_of_length_le (by omega)]⟩
    ·split at hd
     ·rename_i hq
      obtain ⟨rfl, hnz⟩ := hq
      simp only [Option.some.injEq, Prod.mk.injEq] at hd
      obtain ⟨rfl, rfl⟩ := hd
      exact ⟨rfl, by omega, rfl, rfl⟩
     ·cases hd
   clear hd
   ·obtain ⟨rfl, hnz, rfl, rfl⟩ := hdd
    have xj : cP = i.size ∧ g0 = g ∧ xs = zs.take n' := by
     simp only [vw, tH] at nA
     split at nA
     ·rename_i hq
      injection nA with nA
      refine ⟨hq.1, hq.2.1, ?_⟩
      rw [← nA]; simp
     ·cases nA
    obtain ⟨rfl, rfl, hxz⟩ := xj
    rw [← hxz]
    cases hx with
    | row hb hc cK ho hg hs =>
     rename_i a b Pt bZ Pp O5
     rw [tH] at ho
     rcases ho with ho | ho
     ·injection ho with ho
      injection ho with MV MU MS MR
      subst MV; subst MU; subst MS; subst MR
      obtain ⟨k1, k2, k3⟩ := hs rfl
      obtain ⟨ka, kb⟩ := k3 rfl
      obtain ⟨cur, qj, hcsz⟩ := kb rfl tH
      subst ka
      by_cases hroom : n + ys.length ≤ cap
      ·have hrun := run_append_room (ty := ty) ht hi b n cap vy ys.length news hn1 hroom qj hcsz
       have hg1 := sE w b (cur.toList.take (n * i.size) ++ news ++ cur.toList.drop ((n + ys.length) * i.size)).toArray
       have hlt := hI.lt o b hb
       have he := aj.moveG (ys := xs ++ ys) hI hg1 (.inl rfl) hb tH
       obtain ⟨O8, C, q1, q2, q3, q4, q5, q6, q7⟩ := hI.ob o b _ hb tH
       rw [qj] at q1
       injection q1 with q1
       injection q1 with q1; subst q1
       have hC : C = cap := Nat.eq_of_mul_eq_mul_right hs0 (by rw [← q2, hcsz])
       subst hC
       have hat := kN w b (cur.toList.take (n * i.size) ++ news ++ cur.toList.drop ((n + ys.length) * i.size)).toArray qj
       have hle : (n + ys.length) * i.size ≤ C * i.size := Nat.mul_le_mul_right _ hroom
       have hcl : cur.toList.length = C * i.size := by rw [Array.length_toList]; exact hcsz
       have hnl := hn1.newsLen
       have hmul : (n + ys.length) * i.size = n * i.size + ys.length * i.size := Nat.add_mul _ _ _
       have htl : (cur.toList.take (n * i.size)).length = n * i.size := by rw [List.length_take]; omega
       have H8 : (cur.toList.take (n * i.size) ++ news ++ cur.toList.drop ((n + ys.length) * i.size)).toArray.size = C * i.size := by
        rw [List.size_toArray, List.length_append, List.length_append, List.length_drop, htl]; omega
       have hi2 := Inv.moveG (ys := xs ++ ys) hI hg1 (.inl rfl) (by have := hg1.size; omega) hb tH ⟨_, C, hat, H8, by rw [List.length_append]; omega, q4, hs0, fun q hq => by
        rcases List.mem_append.1 hq with hq | hq
        ·exact Ih q hq
        ·exact EF q hq, by
        rw [List.length_append, ← AG, eC]
        have : (cur.toList.take (n * i.size) ++ news ++ cur.toList.drop ((n + ys.length) * i.size)).toArray.toList.take ((n + ys.length) * i.size) = cur.toList.take (n * i.size) ++ news := by
         show List.take _ (cur.toList.take (n * i.size) ++ news ++ cur.toList.drop ((n + ys.length) * i.size)) = _
         rw [List.take_append_of_le_length (by rw [List.length_append, htl]; omega), List.take_of_length_le (by rw [List.length_append, htl]; omega)]
        rw [this]
        have GU : RVs β w h (flat xs) (cur.toList.take (n * i.size)) := by
         have Lv := q7.take (n * i.size)
         rw [← iE n (fun x hx => (q6 x hx).1), ← hxz, List.take_take, Nat.min_eq_left (Nat.mul_le_mul_right _ hnz)] at Lv
         exact Lv
        exact (RVs.ext he GU).append (RVs.ext he hn2)⟩
       refine ⟨_, _, _, hrun, he, hi2, ?_⟩
       exact .row (ZW _ _ _) hroom (fun h => by cases h) (.inl (List.getElem?_set_self hlt.1)) (Nat.le_refl _) (fun _ => ⟨by rw [List.length_append]; omega, fun _ => by simp, fun _ => ⟨rfl, fun _ _ => ⟨_, hat, H8⟩⟩⟩)
      ·obtain ⟨w1, Jg, C, hrun, hg1, hsz, hat, hcs, hge, hle, htk⟩ := hgrow (by omega)
       have hlt := hI.lt o b hb
       have hg2 : w.grownBy w1 (some b) := ⟨hg1.os, hg1.tape, hg1.output, hg1.size, fun k hk _ => hg1.block k hk (by simp)⟩
       have he := aj.moveG (ys := xs ++ ys) hI hg2 (.inr (Nat.le_refl w.heap.size)) hb tH
       have hi2 := Inv.moveG (ys := xs ++ ys) hI hg2 (.inr (Nat.le_refl w.heap.size)) (by omega) hb tH ⟨Jg, C, hat, hcs, by rw [List.length_append]; omega, hle, hs0, fun q hq => by
        rcases List.mem_append.1 hq with hq | hq
        ·exact Ih q hq
        ·exact EF q hq, by
        rw [List.length_append, ← AG, htk, eC]
        exact (RVs.ext he Lx).append (RVs.ext he hn2)⟩
       refine ⟨_, w1, _, hrun, he, hi2, ?_⟩
       exact .row (ZW _ _ _) hge (fun h => by cases h) (.inl (List.getElem?_set_self hlt.1)) (Nat.le_refl _) (fun _ => ⟨by rw [List.length_append]; omega, fun _ => by simp, fun _ => ⟨rfl, fun _ _ => ⟨Jg, hat, hcs⟩⟩⟩)
     ·cases ho
  ·cases hd
 ·cases hd
theorem Bl (hI : Inv β w h) {t u ty et : TypeId} {i : TypeInfo} {z : Value} {zd : DV} {kn kq : IntKind} {k : Int} (ht : P.underlying t = some (.slice et)) (hu : P.underlying u = some (.int kn)) (hi : P.info? et = some i) (hz : i.zero = some z) (hzd : vd z = some zd)
 (hzs : z.cells.size = i.size) (hs0 : 0 < i.size) (hb0 : 0 < i.bytes) (h0 : 0 < k) (hfit : k * i.bytes ≤ 140737488355328) (hw : Wc i.size zd) :
 ∃ v w' β', (Builtin.append_ #[t, u] ty #[.slice none 0 0, .int kq k]).run P w = .ok v w' ∧ aj β w h β' w' (h ++ [.row et i.size 0 (List.replicate k.toNat zd)]) ∧ Inv β' w' (h ++ [.row et i.size 0 (List.replicate k.toNat zd)]) ∧
  RV β' w' (h ++ [.row et i.size 0 (List.replicate k.toNat zd)]) (.row h.length 0 0 k.toNat false) v := by
 obtain ⟨n, rfl⟩ : ∃ n : Nat, k = n := ⟨k.toNat, by omega⟩
 have hfn : n * i.bytes ≤ 140737488355328 := by
  have : ((n * i.bytes : Nat) : Int) ≤ 140737488355328 := by rw [Int.natCast_mul]; exact hfit
  omega
 have hnb : n ≤ n * i.bytes := Nat.le_mul_of_pos_right _ hb0
 have yQ : Builtin.nextslicecap (0 + n) 0 * i.bytes ≤ 281474976710656 := growslice_fits (by omega) (by rw [Nat.zero_add]; exact hfn)
 have hrun := Go.Lib.run_append_grow_zeros (P := P) w t u ty et i z kq kn ht hu hi hz none 0 0 [] (by simp [Builtin.firstCells]) n (by omega) hs0 (by omega) (by omega) (by omega) yQ
 have hge := grownCap_ge w (0 + n) 0 et
 have hle := grownCap_le_maxLen w (0 + n) 0 et (by simp [maxLen]; omega)
 rw [Nat.zero_add] at hrun hge hle
 obtain ⟨C, hC⟩ : ∃ C, C = grownCap w n 0 et := ⟨_, rfl⟩
 rw [← hC] at hrun hge hle
 have hg := jB w (.cells (([] : List Value).toArray ++ Builtin.zeroCells z.cells n ++ Builtin.zeroCells z.cells (C - n)) et) none
 have hcs : (([] : List Value).toArray ++ Builtin.zeroCells z.cells n ++ Builtin.zeroCells z.cells (C - n)).size = C * i.size := by
  rw [Array.size_append, Array.size_append, size_zeroCells, size_zeroCells, hzs]
  simp only [List.size_toArray, List.length_nil, Nat.zero_add]
  rw [← Nat.add_mul]
  congr 1; omega
 have hat := heap_alloc_new w.drew (.cells (([] : List Value).toArray ++ Builtin.zeroCells z.cells n ++ Builtin.zeroCells z.cells (C - n)) et)
 have htk : (([] : List Value).toArray ++ Builtin.zeroCells z.cells n ++ Builtin.zeroCells z.cells (C - n)).toList.take (n * i.size) = (madeCells z.cells (n * i.size)).toList.take (n * i.size) := by
  have e1 : Builtin.zeroCells z.cells n = madeCells z.cells (n * i.size) := by rw [← hzs]; rfl
  have e2 : (madeCells z.cells (n * i.size)).toList.length = n * i.size := by rw [Array.length_toList]; exact size_madeCells _ _
  rw [e1, Array.toList_append, Array.toList_append, List.take_append_of_le_length (by rw [List.length_append, e2]; simp)]
  rfl
 have he := aj.allocG hI (.row et i.size 0 (List.replicate n zd)) hg (Nat.le_refl w.heap.size)
 have hi2 := Inv.allocG hI (.row et i.size 0 (List.replicate n zd)) hg (Nat.le_refl w.heap.size) (by simp) ⟨_, C, hat, hcs, by rw [List.length_replicate]; omega, hle, hs0,
  fun q hq => by rw [List.eq_of_mem_replicate hq]; exact hw, by
  rw [List.length_replicate, htk]
  exact jH (qx hzd).1 hw hs0 _ _ (Nat.le_refl _)⟩
 refine ⟨_, _, _, hrun, he, hi2, ?_⟩
 exact .row (ZW _ _ _) hge (fun h => by cases h) (.inl (fO _ _)) (Nat.le_refl _) (fun _ => ⟨by simp, fun _ => by simp, fun _ => ⟨rfl, fun _ _ => ⟨_, hat, hcs⟩⟩⟩)
theorem Dg (hI : Inv β w h) {t ty et : TypeId} {sz : Nat} {z v : Value} {zd : DV} {o g lo n e : Nat} {c : Bool} {xs : List DV} (ht : P.underlying t = some (.slice et)) (hz : fe P et = some z) (hzd : vd z = some zd)
 (hzs : z.cells.size = sz) (hw : Wc sz zd) (h0 : 0 < n) (hx : RV β w h (.row o g lo n c) v) (cJ : h[o]? = some (.row e sz g xs)) (hl : lo + n ≤ xs.length) :
 ∃ w', (Builtin.clear_ #[t] ty #[v]).run P w = .ok (.tuple #[]) w' ∧ aj β w h β w' (h.set o (.row e sz g (xs.take lo ++ List.replicate n zd ++ xs.drop (lo + n)))) ∧ Inv β w' (h.set o (.row e sz g (xs.take lo ++ List.replicate n zd ++ xs.drop (lo + n)))) := by
 cases hx with
 | row hb hcap cK ho hg hs' =>
 rename_i a cap b e0 F8 g0 FX
 have hrow : e = e0 ∧ sz = F8 ∧ g = g0 ∧ xs = FX := by
  rcases ho with ho | ho
  ·rw [cJ] at ho; injection ho with ho; injection ho with k1 k2 k3 k4; exact ⟨k1, k2, k3, k4⟩
  ·rw [cJ] at ho; cases ho
 obtain ⟨rfl, rfl, rfl, rfl⟩ := hrow
 obtain ⟨k1, k2, k3⟩ := hs' rfl
 have ha := k2 h0
 subst ha
 obtain ⟨cur, C, h1, h2, h3, h4, h5, h6, h7⟩ := hI.ob _ _ _ hb cJ
 have hwx : ∀ x ∈ xs, x.cells.length = sz := fun x hx => (h6 x hx).1
 have NR : RVs β w h _ _ := jH (qx hzd).1 hw h5 n n (Nat.le_refl _)
 obtain ⟨vs, hvs⟩ : ∃ vs, vs = (Builtin.zeroCells z.cells n).toList := ⟨_, rfl⟩
 have hvl : vs.length = n * sz := by rw [hvs, Array.length_toList, size_zeroCells, hzs]
 have Ll : RVs β w h (flat (List.replicate n zd)) vs := by
  have e1 : Builtin.zeroCells z.cells n = madeCells z.cells (n * sz) := by rw [← hzs]; rfl
  have e2 : (madeCells z.cells (n * sz)).toList.length = n * sz := by rw [Array.length_toList]; exact size_madeCells _ _
  rw [hvs, e1]
  rwa [List.take_of_length_le (by omega)] at NR
 have iU : ∀ u ∈ vs, u.oneCell' = true := by
  intro u hu
  obtain ⟨d, hd, hr⟩ := Ll.mem hu
  obtain ⟨y, hy, hd⟩ := List.mem_flatMap.1 hd
  rw [List.eq_of_mem_replicate hy] at hd
  exact hr.one (hw.2 d hd)
 have OJ : xs.length * sz ≤ C * sz := Nat.mul_le_mul_right _ h3
 have hls : (lo + n) * sz ≤ xs.length * sz := Nat.mul_le_mul_right _ hl
 have yS : (lo + n) * sz = lo * sz + n * sz := Nat.add_mul _ _ _
 have hrun := run_storeCells_at P b (lo * sz) e vs 0 cur w h1 (by omega) iU
 rw [Nat.add_zero] at hrun
 generalize mP : (cur.toList.take (lo * sz) ++ vs ++ cur.toList.drop (lo * sz + vs.length)).toArray = dN at hrun
 have hcs' : dN.size = cur.size := by
  rw [← mP]
  simp only [List.size_toArray, List.length_append, List.length_take, List.length_drop, Array.length_toList]
  omega
 have hb' := kN w b dN h1
 have hlt := (hI.lt _ _ hb).1
 have hnew : (xs.take lo ++ List.replicate n zd ++ xs.drop (lo + n)).length = xs.length := by
  simp only [List.length_append, List.length_take, List.length_drop, List.length_replicate]
  omega
 have hL : Later w (w.setRow b dN) b β o (h.set o (.row e sz g (xs.take lo ++ List.replicate n zd ++ xs.drop (lo + n)))) (.row e sz g xs) :=
  ⟨b, g, _, hb, .inl (List.getElem?_set_self hlt), Nat.le_refl _, fun _ => ⟨rfl, hnew, fun c0 hc0 => ⟨dN, hb', by rw [h1] at hc0; injection hc0 with hc0; injection hc0 with hc0; rw [hcs', hc0]⟩⟩⟩
 have he := aj.write hI hb cJ (fq w b dN) hL (fun _ _ _ _ e => by cases e)
 refine ⟨w.setRow b dN, ?_, he, Inv.write hI hb (fq w b dN) he ⟨dN, C, hb', hcs'.trans h2, by rw [hnew]; exact h3, h4, h5, ?_, ?_⟩⟩
 ·obtain ⟨m, rfl⟩ : ∃ m, n = m + 1 := ⟨n - 1, by omega⟩
  rw [hvs] at hrun
  simp [Builtin.clear_, run_underlying ht, dJ hz, hrun]
 ·intro q hq
  rcases List.mem_append.1 hq with hq | hq
  ·rcases List.mem_append.1 hq with hq | hq
   ·exact h6 q (List.mem_of_mem_take hq)
   ·rw [List.eq_of_mem_replicate hq]; exact hw
  ·exact h6 q (List.mem_of_mem_drop hq)
 ·rw [hnew, eC, eC]
  have q1 : flat (xs.take lo) = (flat xs).take (lo * sz) := iE lo hwx
  have q2 : flat (xs.drop (lo + n)) = (flat xs).drop ((lo + n) * sz) := kZ (lo + n) hwx
  rw [q1, q2]
  have h8 := RVs.ext he h7
  have h9 := ((h8.take (lo * sz)).append (RVs.ext he Ll)).append (h8.drop ((lo + n) * sz))
  have h10 : (cur.toList.take (xs.length * sz)).take (lo * sz) ++ vs ++ (cur.toList.take (xs.length * sz)).drop ((lo + n) * sz) = dN.toList.take (xs.length * sz) := by
   rw [← mP]
   simp only [List.toList_toArray]
   rw [List.take_take, Nat.min_eq_left (by omega), List.drop_take]
   rw [List.take_append, List.take_append]
   have q1 : (cur.toList.take (lo * sz)).length = lo * sz := by rw [List.length_take, Array.length_toList]; omega
   rw [List.take_of_length_le (by omega : (cur.toList.take (lo * sz)).length ≤ xs.length * sz), q1, List.take_of_length_le (by omega : vs.length ≤ xs.length * sz - lo * sz)]
   rw [List.length_append, q1, hvl, yS]
  rw [← h10]
  exact h9
end
section
variable {P : Program} {β β' : Bm} {w w' : World} {h h' : Zb}
theorem sV {γ : Type} (g : γ → PUnit → Sem (ForInStep PUnit)) : ∀ (l : List γ), (∀ x ∈ l, (g x ⟨⟩).run P w = .ok (.yield ⟨⟩) w) → (forIn l PUnit.unit g : Sem PUnit).run P w = .ok ⟨⟩ w
 | [], _ => rfl
 | x :: l, hg => by
  rw [List.forIn_cons, Sem.run_bind, hg x (by simp)]
  simp only [Result.andThen_ok]
  exact sV g l (fun y hy => hg y (by simp [hy]))
theorem fE {t : TypeId} {td : TypeDesc} {v : Value} (b : Bool) (n : Nat) (hu : P.underlying t = some td) (hs : td = .bool ∨ (∃ q, td = .int q) ∨ td = .string) : (Instr.checkKey b (n + 1) t v).run P w = .ok () w := by
 unfold Instr.checkKey
 rw [Sem.run_bind, run_underlying hu]
 simp only [Result.andThen_ok]
 rcases hs with rfl | ⟨q, rfl⟩ | rfl <;> rfl
theorem Bt {fs : List Field} : ∀ {n : Nat} {ks : List Nat}, je P fs n = some ks → ks.length = fs.length ∧ ∀ (i : Nat) f, fs[i]? = some f → f.offset = n + i ∧ gR P f.type = some false ∧ ∃ td, P.underlying f.type = some td ∧ (td = .bool ∨ (∃ q, td = .int q) ∨ td = .string) := by
 induction fs with
 | nil => intro n ks h; simp [je] at h; subst h; exact ⟨rfl, fun i f hf => by simp at hf⟩
 | cons f0 fs ih =>
  intro n ks h
  simp only [je] at h
  split at h
  ·rename_i hc
   have hk : ∃ k ks', ks = k :: ks' ∧ je P fs (n + 1) = some ks' ∧ ∃ td, P.underlying f0.type = some td ∧ (td = .bool ∨ (∃ q, td = .int q) ∨ td = .string) := by
    split at h <;> first | cases h | skip
    all_goals (rename_i h1 h2)
    ·exact ⟨0, _, rfl, h2, _, h1, .inl rfl⟩
    ·exact ⟨1, _, rfl, h2, _, h1, .inr (.inl ⟨_, rfl⟩)⟩
    ·exact ⟨2, _, rfl, h2, _, h1, .inr (.inr rfl)⟩
   obtain ⟨k, ks', rfl, h1, h2⟩ := hk
   obtain ⟨q1, q2⟩ := ih h1
   refine ⟨by simp [q1], fun i f hf => ?_⟩
   cases i with
   | zero =>
    simp at hf; subst hf
    refine ⟨hc.2, ?_, h2⟩
    obtain ⟨td, h3, h4⟩ := h2
    unfold gR; rw [h3]
    rcases h4 with rfl | ⟨q, rfl⟩ | rfl <;> rfl
   | succ i =>
    have := q2 i f (by simpa using hf)
    refine ⟨by omega, this.2⟩
  ·cases h
theorem vP : ∀ {ks : List Nat} {a b : List DV} {r : Bool}, ZT ks a b = some r → ks.length = a.length ∧ ks.length = b.length
 | [], [], [], _, _ => ⟨rfl, rfl⟩
 | [], [], _ :: _, _, h => by simp [ZT] at h
 | [], _ :: _, _, _, h => by simp [ZT] at h
 | _ :: _, [], _, _, h => by simp [ZT] at h
 | _ :: _, _ :: _, [], _, h => by simp [ZT] at h
 | k :: ks, a :: x, b :: y, r, h => by
  simp only [ZT] at h
  split at h
  ·split at h
   ·rename_i h2
    have := vP h2
    simp [this.1, this.2]
    omega
   ·cases h
  ·cases h
theorem qa {ks : List Nat} {cs ds : List DV} {u v : Value} {t : TypeId} {r : Bool} (hx : RV β w h (.agg cs) u) (hy : RV β w h (.agg ds) v) (hd : ZT ks cs ds = some r) (ht : mR P t = some ks) :
 (Op.equal t u v).run P w = .ok r w := by
 cases hx with
 | agg hr1 =>
 cases hy with
 | agg hr2 =>
 rename_i vs us
 unfold mR at ht
 split at ht
 ·rename_i fs hu
  split at ht
  ·rename_i hc
   have qY : P.underlying t = some (.struct (P.fieldsOf t)) := by simp [Program.fieldsOf, hu]
   have hfs : P.fieldsOf t = fs := by simp [Program.fieldsOf, hu]
   have h1 := run_equalIn_struct (P := P) w 9999 t vs.toArray us.toArray qY hc.1
   have h2 := nL (P := P) (β := β) (w := w) (h := h) 9998 fs.toList 0 ks cs ds vs us ht (by simpa using hr1) (by simpa using hr2) r hd
   rw [hfs] at h1
   exact h1.trans h2
  ·cases ht
 ·cases ht
theorem ny {t : TypeId} {ag : Bool} {ks : List Nat} {k : DV} {v : Value} (b : Bool) (n : Nat) (hk : iB P t = some (ag, ks)) (hr : RV β w h k v) (hq : (eP ag ks k k).isSome = true) : (Instr.checkKey b (n + 2) t v).run P w = .ok () w := by
 unfold iB at hk
 split at hk
 ·rename_i hu; exact fE b (n + 1) hu (.inl rfl)
 ·rename_i hu; exact fE b (n + 1) hu (.inr (.inl ⟨_, rfl⟩))
 ·rename_i hu; exact fE b (n + 1) hu (.inr (.inr rfl))
 ·rename_i fs hu
  split at hk
  ·rename_i ks' hks
   injection hk with hk; injection hk with kY AU; subst kY; subst AU
   unfold mR at hks
   rw [hu] at hks
   simp only at hks
   split at hks
   case isFalse => cases hks
   obtain ⟨hlen, hmem⟩ := Bt hks
   have hag : ∃ cs, k = .agg cs ∧ cs.length = fs.toList.length := by
    simp only [eP, if_true] at hq
    split at hq
    ·rename_i x y
     obtain ⟨r, hr'⟩ := Option.isSome_iff_exists.1 hq
     exact ⟨_, rfl, by have := vP hr'; omega⟩
    ·simp at hq
   obtain ⟨cs, rfl, hcl⟩ := hag
   cases hr with
   | agg hrs =>
    rename_i vs
    unfold Instr.checkKey
    rw [Sem.run_bind, run_underlying hu]
    simp only [Result.andThen_ok]
    rw [← Array.forIn_toList]
    rw [Sem.run_bind, sV]
    ·rfl
    ·intro f hf
     obtain ⟨i, hi⟩ := List.mem_iff_getElem?.1 hf
     obtain ⟨ho, hagg, td, AA, htd⟩ := hmem i f hi
     have hil : i < vs.length := by have := (List.getElem?_eq_some_iff.1 hi).1; have := hrs.len; omega
     have hp : (part f.type vs.toArray f.offset).run P w = .ok vs[i] w := by
      simp only [part, Sem.run_bind, kO hagg, Result.andThen_ok, Bool.false_eq_true, if_false, ho, Nat.zero_add]
      simp [hil]
     split
     ·rw [Sem.run_bind, hp]
      simp only [Result.andThen_ok]
      rw [Sem.run_bind, fE b n AA htd]
      rfl
     ·rfl
  ·cases hk
 ·cases hk
theorem zl {a b : ByteArray} (h : (a == b) = true) : a = b := by
 cases a with
 | mk x =>
 cases b with
 | mk y =>
 have : (x == y) = true := h
 rw [eq_of_beq this]
theorem vO {k : Nat} {a b : DV} {u v : Value} (h1 : RV β w h a u) (h2 : RV β w h b v) (he : Ys k a b = some true) : u = v := by
 unfold Ys at he
 split at he
 ·injection he with he; have hr := eq_of_beq he; subst hr; cases h1; cases h2; rfl
 ·split at he
  ·rename_i hk; subst hk; injection he with he; have hr := eq_of_beq he; subst hr; cases h1; cases h2; rfl
  ·cases he
 ·injection he with he; have hr := zl he; subst hr; cases h1; cases h2; rfl
 ·cases he
theorem tT : ∀ {ks : List Nat} {a b : List DV} {u v : List Value}, RVs β w h a u → RVs β w h b v → ZT ks a b = some true → u = v
 | [], [], [], _, _, h1, h2, _ => by cases h1; cases h2; rfl
 | [], [], _ :: _, _, _, _, _, he => by simp [ZT] at he
 | [], _ :: _, _, _, _, _, _, he => by simp [ZT] at he
 | _ :: _, [], _, _, _, _, _, he => by simp [ZT] at he
 | _ :: _, _ :: _, [], _, _, _, _, he => by simp [ZT] at he
 | k :: ks, a :: x, b :: y, _, _, .cons h1 hs1, .cons h2 hs2, he => by
  simp only [ZT] at he
  cases hq : Ys k a b with
  | none => rw [hq] at he; cases he
  | some q =>
   rw [hq] at he
   cases hq2 : ZT ks x y with
   | none => rw [hq2] at he; cases he
   | some q2 =>
    rw [hq2] at he
    injection he with he
    simp at he
    obtain ⟨rfl, rfl⟩ := he
    rw [vO h1 h2 hq, tT hs1 hs2 hq2]
theorem u6 {ag : Bool} {ks : List Nat} {a b : DV} {u v : Value} (h1 : RV β w h a u) (h2 : RV β w h b v) (he : eP ag ks a b = some true) : u = v := by
 unfold eP at he
 split at he
 ·split at he
  ·cases h1 with
   | agg r1 => cases h2 with
    | agg r2 => rw [tT r1 r2 he]
  ·cases he
 ·split at he
  ·exact vO h1 h2 he
  ·cases he
def xX (β : Bm) (w : World) (h : Zb) (ag : Bool) (ks : List Nat) (k : DV) (kv : Value) (es : List (DV × DV)) (ms : List MapEntry) (i : Nat) (r : Option DV) (a : Option (Nat × Value)) : Prop :=
 (r = none ∧ a = none ∧ ∀ v, fw ag ks k v es = some (es ++ [(k, v)])) ∨
 ∃ j d m, r = some d ∧ ms[j]? = some m ∧ m.key = kv ∧ RV β w h d m.val ∧ a = some (i + j, m.val) ∧ ∀ v, fw ag ks k v es = some (es.set j (k, v))
theorem vl {ag : Bool} {ks : List Nat} {k : DV} {kv : Value} {a0 v0 : DV} {es : List (DV × DV)} {m0 : MapEntry} {ms : List MapEntry} {i : Nat} {r : Option DV} {a : Option (Nat × Value)} (hq : eP ag ks k a0 = some false)
 (hh : xX β w h ag ks k kv es ms (i + 1) r a) : xX β w h ag ks k kv ((a0, v0) :: es) (m0 :: ms) i r a := by
 rcases hh with ⟨rfl, rfl, q⟩ | ⟨j, d, m, rfl, q2, q3, q4, rfl, q6⟩
 ·exact .inl ⟨rfl, rfl, fun v => by simp only [fw, hq, q v, Option.map_some]; rfl⟩
 ·exact .inr ⟨j + 1, d, m, rfl, by simpa using q2, q3, q4, by rw [Nat.add_assoc, Nat.add_comm 1 j], fun v => by simp only [fw, hq, q6 v, Option.map_some]; rfl⟩
theorem vG {td : TypeDesc} {ag : Bool} {ks : List Nat} {k : DV} {kv : Value} (hk : RV β w h k kv) (hsame : ∀ {a : DV} {av : Value} {r : Bool}, RV β w h a av → eP ag ks k a = some r → Instr.sameNow td kv av = some r) :
 ∀ {es : List (DV × DV)} {ms : List MapEntry} {i : Nat} {r : Option DV}, RVs β w h (es.map (·.1)) (ms.map (·.key)) → RVs β w h (es.map (·.2)) (ms.map (·.val)) → gm ag ks k es = some r →
 ∃ a, Instr.findNow td kv ms i = some a ∧ xX β w h ag ks k kv es ms i r a
 | [], [], i, r, h1, h2, hf => by
  simp only [gm] at hf
  injection hf with hf; subst hf
  exact ⟨none, rfl, .inl ⟨rfl, rfl, fun v => rfl⟩⟩
 | [], _ :: _, i, r, h1, h2, hf => by have := h1.len; simp at this
 | _ :: _, [], i, r, h1, h2, hf => by have := h1.len; simp at this
 | (a0, v0) :: es, m0 :: ms, i, r, .cons lZ hks, .cons hv0 hvs, hf => by
  simp only [gm] at hf
  split at hf
  ·rename_i hq
   injection hf with hf; subst hf
   refine ⟨some (i, m0.val), ?_, .inr ⟨0, v0, m0, rfl, rfl, (u6 hk lZ hq).symm, hv0, rfl, fun v => by simp only [fw, hq]; rfl⟩⟩
   simp only [Instr.findNow, hsame lZ hq]
  ·rename_i hq
   obtain ⟨a, g1, g2⟩ := vG hk hsame (i := i + 1) hks hvs hf
   exact ⟨a, by simp only [Instr.findNow, hsame lZ hq]; exact g1, vl hq g2⟩
  ·cases hf
theorem pS {t : TypeId} {ag : Bool} {ks : List Nat} {k : DV} {kv : Value} (hk : RV β w h k kv) (hsame : ∀ {a : DV} {av : Value} {r : Bool}, RV β w h a av → eP ag ks k a = some r → (Op.equal t kv av).run P w = .ok r w) :
 ∀ {es : List (DV × DV)} {ms : List MapEntry} {i : Nat} {r : Option DV}, RVs β w h (es.map (·.1)) (ms.map (·.key)) → RVs β w h (es.map (·.2)) (ms.map (·.val)) → gm ag ks k es = some r →
 ∃ a, (Instr.findAsking t kv ms i).run P w = .ok a w ∧ xX β w h ag ks k kv es ms i r a
 | [], [], i, r, h1, h2, hf => by
  simp only [gm] at hf
  injection hf with hf; subst hf
  exact ⟨none, rfl, .inl ⟨rfl, rfl, fun v => rfl⟩⟩
 | [], _ :: _, i, r, h1, h2, hf => by have := h1.len; simp at this
 | _ :: _, [], i, r, h1, h2, hf => by have := h1.len; simp at this
 | (a0, v0) :: es, m0 :: ms, i, r, .cons lZ hks, .cons hv0 hvs, hf => by
  simp only [gm] at hf
  split at hf
  ·rename_i hq
   injection hf with hf; subst hf
   refine ⟨some (i, m0.val), ?_, .inr ⟨0, v0, m0, rfl, rfl, (u6 hk lZ hq).symm, hv0, rfl, fun v => by simp only [fw, hq]; rfl⟩⟩
   simp only [Instr.findAsking, Sem.run_bind, hsame lZ hq, Result.andThen_ok, if_true]
   rfl
  ·rename_i hq
   obtain ⟨a, g1, g2⟩ := pS hk hsame (i := i + 1) hks hvs hf
   exact ⟨a, by simp only [Instr.findAsking, Sem.run_bind, hsame lZ hq, Result.andThen_ok, Bool.false_eq_true, if_false]; exact g1, vl hq g2⟩
  ·cases hf
theorem sH {td : TypeDesc} (hs : ∃ fs, td = .struct fs) {kv : Value} {m : MapEntry} {ms : List MapEntry} {i : Nat} : Instr.findNow td kv (m :: ms) i = none := by
 obtain ⟨fs, rfl⟩ := hs
 simp [Instr.findNow, Instr.sameNow]
theorem find_ok {t : TypeId} {ag : Bool} {ks : List Nat} {k : DV} {kv : Value} (ht : iB P t = some (ag, ks)) (hk : RV β w h k kv) {es : List (DV × DV)} {ms : List MapEntry} {r : Option DV}
 (h1 : RVs β w h (es.map (·.1)) (ms.map (·.key))) (h2 : RVs β w h (es.map (·.2)) (ms.map (·.val))) (hf : gm ag ks k es = some r) :
 ∃ a, (Instr.findKey t kv ms).run P w = .ok a w ∧ xX β w h ag ks k kv es ms 0 r a := by
 have now : ∀ td, P.underlying t = some td → (∀ {a : DV} {av : Value} {r : Bool}, RV β w h a av → eP ag ks k a = some r → Instr.sameNow td kv av = some r) → ∃ a, (Instr.findKey t kv ms).run P w = .ok a w ∧ xX β w h ag ks k kv es ms 0 r a := by
  intro td hu hsame
  obtain ⟨a, g1, g2⟩ := vG hk hsame (i := 0) h1 h2 hf
  refine ⟨a, ?_, g2⟩
  unfold Instr.findKey
  rw [Sem.run_bind, run_underlying hu]
  simp only [Result.andThen_ok, g1]
  rfl
 unfold iB at ht
 split at ht
 ·rename_i hu
  injection ht with ht; injection ht with e1 e2; subst e1; subst e2
  refine now _ hu (fun hr hq => ?_)
  simp only [eP, Bool.false_eq_true, if_false] at hq
  obtain ⟨a, b, rfl, rfl, rfl⟩ := IZ hq
  cases hk; cases hr; rfl
 ·rename_i hu
  injection ht with ht; injection ht with e1 e2; subst e1; subst e2
  refine now _ hu (fun hr hq => ?_)
  simp only [eP, Bool.false_eq_true, if_false] at hq
  obtain ⟨q, a, b, rfl, rfl, rfl⟩ := IY hq
  cases hk; cases hr; simp [Instr.sameNow]
 ·rename_i hu
  injection ht with ht; injection ht with e1 e2; subst e1; subst e2
  refine now _ hu (fun hr hq => ?_)
  simp only [eP, Bool.false_eq_true, if_false] at hq
  obtain ⟨a, b, rfl, rfl, rfl⟩ := IX hq
  cases hk; cases hr; rfl
 ·rename_i fs hu
  split at ht
  ·rename_i ks' hks
   injection ht with ht; injection ht with e1 e2; subst e1; subst e2
   obtain ⟨a, g1, g2⟩ := pS (P := P) (t := t) hk (fun {a av r} hr hq => by
    simp only [eP, if_true] at hq
    split at hq
    ·exact qa hk hr hq hks
    ·cases hq) (i := 0) h1 h2 hf
   refine ⟨a, ?_, g2⟩
   unfold Instr.findKey
   rw [Sem.run_bind, run_underlying hu]
   simp only [Result.andThen_ok]
   cases ms with
   | nil =>
    simp only [Instr.findAsking] at g1
    simpa [Instr.findNow] using g1
   | cons m ms =>
    rw [sH ⟨_, rfl⟩]
    exact g1
  ·cases ht
 ·cases ht
theorem pX {k : Nat} {a : DV} {v : Value} (n : Nat) (hr : RV β w h a v) (he : (Ys k a a).isSome = true) : Instr.sameBits n v v = true := by
 unfold Ys at he
 split at he
 ·cases hr; cases n <;> simp [Instr.sameBits]
 ·cases hr; cases n <;> simp [Instr.sameBits]
 ·cases hr; cases n <;> (simp only [Instr.sameBits]; exact (Go.MapKept.bytes_beq _ _).2 rfl)
 ·cases he
theorem RVs.set : ∀ {ds : List DV} {us : List Value} (j : Nat) {d : DV} {u : Value}, RVs β w h ds us → RV β w h d u → RVs β w h (ds.set j d) (us.set j u)
 | [], _, j, _, _, .nil, _ => .nil
 | _ :: _, _, 0, _, _, .cons _ h2, hd => .cons hd h2
 | _ :: _, _, j + 1, _, _, .cons h1 h2, hd => .cons h1 (RVs.set j h2 hd)
theorem tY : ∀ {ks : List Nat} {cs : List DV} {vs : List Value} (n : Nat), RVs β w h cs vs → (ZT ks cs cs).isSome = true → (vs.zip vs).all (fun (x, y) => Instr.sameBits n x y) = true
 | [], [], _, n, .nil, _ => rfl
 | _ :: _, [], _, n, .nil, _ => rfl
 | [], _ :: _, _, n, _, he => by simp [ZT] at he
 | k :: ks, a :: cs, _, n, .cons h1 hs1, he => by
  simp only [ZT] at he
  cases hq : Ys k a a with
  | none => rw [hq] at he; cases he
  | some q =>
   rw [hq] at he
   cases hq2 : ZT ks cs cs with
   | none => rw [hq2] at he; cases he
   | some q2 =>
    simp only [List.zip_cons_cons, List.all_cons, Bool.and_eq_true]
    exact ⟨pX n h1 (by rw [hq]; rfl), tY n hs1 (by rw [hq2]; rfl)⟩
theorem DC {ag : Bool} {ks : List Nat} {k : DV} {v : Value} (n : Nat) (hr : RV β w h k v) (he : (eP ag ks k k).isSome = true) : Instr.sameBits (n + 1) v v = true := by
 unfold eP at he
 split at he
 ·split at he
  ·cases hr with
   | agg hrs =>
    simp only [Instr.sameBits, beq_self_eq_true, Bool.true_and]
    exact tY n hrs he
  ·cases he
 ·split at he
  ·exact pX (n + 1) hr he
  ·cases he
theorem yX (hI : Inv β w h) {t kt et : TypeId} {r : Option Value} (ht : P.underlying t = some (.map kt et)) (hr : ∀ v, r = some v → ∃ k n, v = .int k n) :
 ∃ v w' β', (Instr.makeMap t r).run P w = .ok v w' ∧ aj β w h β' w' (h ++ [.map 0 0 []]) ∧ Inv β' w' (h ++ [.map 0 0 []]) ∧ RV β' w' (h ++ [.map 0 0 []]) (.map h.length) v := by
 have he := aj.alloc hI (.map #[] 0) (.map 0 0 [])
 have hi := Inv.alloc hI (.map #[] 0) (.map 0 0 []) ⟨#[], 0, dO _ _, .nil, .nil⟩
 refine ⟨.map (some w.heap.size), w.alloc (.map #[] 0), _, ?_, he, hi, .map (ZW _ _ _) (fO _ _)⟩
 cases r with
 | none => rfl
 | some v =>
  obtain ⟨k, n, rfl⟩ := hr v rfl
  unfold Instr.makeMap
  simp only [Sem.run_bind, run_underlying ht, Result.andThen_ok, asInt, asIntOf, Sem.run_pure]
  rfl
theorem Bd (hI : Inv β w h) {t kt et : TypeId} {ag ok : Bool} {ks : List Nat} {m k z : DV} {mv kv zv : Value} {r : Option DV} (ht : P.underlying t = some (.map kt et)) (hkk : iB P kt = some (ag, ks)) (hz : fe P et = some zv) (Aw : RV β w h z zv)
 (hm : RV β w h m mv) (hk : RV β w h k kv) (kX : (eP ag ks k k).isSome = true)
 (hf : eX ag ks h m k = some r) :
 ∃ v, (Instr.lookup t mv kv ok).run P w = .ok v w ∧ RV β w h (if ok = true then .tup [r.getD z, .bool r.isSome] else r.getD z) v := by
 unfold eX at hf
 have fin : ∀ (es : Array MapEntry), (Instr.lookup t mv kv ok).run P w = (do
  Instr.checkKey es.isEmpty 10000 kt kv
  let (v, ok') ← match ← Instr.findKey kt kv es.toList with
   | some (_, v) => pure (v, true)
   | none => pure (← zeroValue et, false)
  pure (if ok then .tuple #[v, .bool ok'] else v) : Sem Value).run P w → (∃ a, (Instr.findKey kt kv es.toList).run P w = .ok a w ∧ ((r = none ∧ a = none) ∨ ∃ d i u, r = some d ∧ a = some (i, u) ∧ RV β w h d u)) →
  ∃ v, (Instr.lookup t mv kv ok).run P w = .ok v w ∧ RV β w h (if ok = true then .tup [r.getD z, .bool r.isSome] else r.getD z) v := by
  intro es hes ⟨a, ha, Ib⟩
  rw [hes, Sem.run_bind, ny es.isEmpty 9998 hkk hk kX]
  simp only [Result.andThen_ok]
  rw [Sem.run_bind, ha]
  simp only [Result.andThen_ok]
  rcases Ib with ⟨rfl, rfl⟩ | ⟨d, i, u, rfl, rfl, jM⟩
  ·simp only [Sem.run_bind, dJ hz, Result.andThen_ok, Sem.run_pure]
   refine ⟨_, rfl, ?_⟩
   cases ok
   ·exact Aw
   ·exact .tup (.cons Aw (.cons (.bool _) .nil))
  ·simp only [Sem.run_bind, Result.andThen_ok, Sem.run_pure]
   refine ⟨_, rfl, ?_⟩
   cases ok
   ·exact jM
   ·exact .tup (.cons jM (.cons (.bool _) .nil))
 cases hm with
 | nilm =>
  simp only at hf
  injection hf with hf; subst hf
  refine fin #[] ?_ ?_
  ·unfold Instr.lookup
   rw [Sem.run_bind, run_underlying ht]
   simp only [Result.andThen_ok]
   rw [Sem.run_bind]
   rfl
  obtain ⟨a, g1, g2⟩ := find_ok (P := P) hkk hk (es := []) (ms := []) (r := none) .nil .nil rfl
  refine ⟨a, g1, .inl ⟨rfl, ?_⟩⟩
  rcases g2 with ⟨_, q, _⟩ | ⟨_, _, _, q, _⟩
  ·exact q
  ·cases q
 | map hb ho =>
  simp only [ho] at hf
  obtain ⟨ms, jF, q1, q2, q3⟩ := hI.ob _ _ _ hb ho
  obtain ⟨a, g1, g2⟩ := find_ok (P := P) hkk hk q2 q3 hf
  refine fin ms ?_ ⟨a, g1, ?_⟩
  ·unfold Instr.lookup
   rw [Sem.run_bind, run_underlying ht]
   simp only [Result.andThen_ok]
   rw [Sem.run_bind]
   have ae : ∀ b : Nat, w.heap[b]? = some (.map ms jF) → (getObj b).run P w = .ok (.map ms jF) w := fun b q => by simp [getObj, Sem.run, q]
   rw [ae _ q1]
   simp only [Result.andThen_ok]
   rw [Sem.run_bind]
   rfl
  rcases g2 with ⟨e1, e2, _⟩ | ⟨j, d, m, e1, _, _, e4, e5, _⟩
  ·exact .inl ⟨e1, e2⟩
  ·exact .inr ⟨d, _, _, e1, e5, e4⟩
 | bool | int | str | nilp | ref | elem | nils | list | row | nilf | func | nili | ifc | agg | tup | undef => simp at hf
theorem Bc (hI : Inv β w h) {t kt et : TypeId} {ag : Bool} {ks : List Nat} {k v : DV} {mv kv vv : Value} {o ct ce : Nat} {es es' : List (DV × DV)} (ht : P.underlying t = some (.map kt et)) (hkk : iB P kt = some (ag, ks))
 (hm : RV β w h (.map o) mv) (hk : RV β w h k kv) (hv : RV β w h v vv) (kX : (eP ag ks k k).isSome = true) (ho : h[o]? = some (.map ct ce es)) (hp : fw ag ks k v es = some es') :
 ∃ w', (Instr.mapUpdate t mv kv vv).run P w = .ok () w' ∧ aj β w h β w' (h.set o (.map ct ce es')) ∧ Inv β w' (h.set o (.map ct ce es')) := by
 cases hm with
 | map hb aF =>
  rename_i b _ _ _
  obtain ⟨ms, jF, q1, q2, q3⟩ := hI.ob _ _ _ hb ho
  have hfind : ∃ r, gm ag ks k es = some r := by
   clear q2 q3 ho
   induction es generalizing es' with
   | nil => exact ⟨none, rfl⟩
   | cons p es ih =>
    obtain ⟨a, u⟩ := p
    simp only [fw] at hp
    simp only [gm]
    split at hp
    ·exact ⟨_, rfl⟩
    ·rw [Option.map_eq_some_iff] at hp
     obtain ⟨r', hr', _⟩ := hp
     exact ih hr'
    ·cases hp
  obtain ⟨r, hr⟩ := hfind
  obtain ⟨a, g1, g2⟩ := find_ok (P := P) hkk hk q2 q3 hr
  have hlt := (hI.lt o b hb).2
  have main : ∀ (qN : Array MapEntry) (qp : Nat), RVs β w h (es'.map (·.1)) (qN.toList.map (·.key)) → RVs β w h (es'.map (·.2)) (qN.toList.map (·.val)) →
   (Instr.mapUpdate t (.map (some b)) kv vv).run P w = .ok () { w with heap := w.heap.setIfInBounds b (.map qN qp) } →
   ∃ w', (Instr.mapUpdate t (.map (some b)) kv vv).run P w = .ok () w' ∧ aj β w h β w' (h.set o (.map ct ce es')) ∧ Inv β w' (h.set o (.map ct ce es')) := by
   intro qN qp r1 r2 hrun
   have hO : OnlyAt w { w with heap := w.heap.setIfInBounds b (.map qN qp) } b := ⟨rfl, rfl, rfl, by simp, fun j hj => by simp [Array.getElem?_setIfInBounds, Ne.symm hj]⟩
   have hat : ({ w with heap := w.heap.setIfInBounds b (.map qN qp) } : World).heap[b]? = some (.map qN qp) := by simp [hlt]
   have he : aj β w h β { w with heap := w.heap.setIfInBounds b (.map qN qp) } (h.set o (.map ct ce es')) := aj.write hI hb ho hO ⟨hb, es', List.getElem?_set_self (hI.lt o b hb).1⟩ (by simp)
   exact ⟨_, hrun, he, Inv.write hI hb hO he ⟨qN, qp, hat, RVs.ext he r1, RVs.ext he r2⟩⟩
  have Oo := ny (P := P) false 9998 hkk hk kX
  have KY : (Instr.keyThatStays kv kv).run P w = .ok kv w := by
   unfold Instr.keyThatStays
   rw [if_pos (DC 9999 hk kX)]
   rfl
  have hpre : ∀ (s : Sem Unit), (Instr.mapUpdate t (.map (some b)) kv vv).run P w = ((Instr.findKey kt kv ms.toList).run P w).andThen (fun a w => (match a with
   | some (i, _) => do
    let key ← Instr.keyThatStays (((ms[i]?).map (·.key)).getD kv) kv
    setObj b (.map (ms.modify i fun e => { e with key, val := vv }) jF)
   | none => setObj b (.map (ms.push { key := kv, val := vv, born := jF }) (jF + 1)) : Sem Unit).run P w) := by
   intro s
   unfold Instr.mapUpdate
   rw [Sem.run_bind, run_underlying ht]
   simp only [Result.andThen_ok]
   rw [Sem.run_bind]
   have : (getObj b).run P w = .ok (.map ms jF) w := by simp [getObj, Sem.run, q1]
   rw [this]
   simp only [Result.andThen_ok]
   rw [Sem.run_bind, Oo]
   simp only [Result.andThen_ok]
   rw [Sem.run_bind]
   rfl
  rcases g2 with ⟨e1, e2, e3⟩ | ⟨j, d, m, e1, e2, e3, e4, e5, e6⟩
  ·subst e1; subst e2
   rw [e3 v] at hp
   injection hp with hp; subst hp
   refine main (ms.push { key := kv, val := vv, born := jF }) (jF + 1) ?_ ?_ ?_
   ·simpa using q2.append (.cons hk .nil)
   ·simpa using q3.append (.cons hv .nil)
   ·rw [hpre (pure ()), g1]
    simp only [Result.andThen_ok]
    exact Go.MapKept.run_setObj_map _ q1
  ·subst e1; subst e5
   rw [e6 v] at hp
   injection hp with hp; subst hp
   have hj : j < ms.size := by have := (List.getElem?_eq_some_iff.1 e2).1; simpa using this
   have EH : j < es.length := by have := q2.len; simp at this; omega
   have Lz : ms[j]? = some m := by rw [← Array.getElem?_toList]; exact e2
   have Ii : (ms.modify (0 + j) fun e => { e with key := kv, val := vv }).toList = ms.toList.set j { m with key := kv, val := vv } := by
    rw [Nat.zero_add]
    apply List.ext_getElem?
    intro i
    rw [Array.getElem?_toList, Array.getElem?_modify, List.getElem?_set]
    by_cases hij : j = i
    ·subst hij
     rw [if_pos rfl, Lz]
     simp [hj]
    ·rw [if_neg hij, if_neg hij, Array.getElem?_toList]
   refine main (ms.modify (0 + j) fun e => { e with key := kv, val := vv }) jF ?_ ?_ ?_
   ·rw [Ii, List.map_set, List.map_set]; exact RVs.set j q2 hk
   ·rw [Ii, List.map_set, List.map_set]; exact RVs.set j q3 hv
   ·rw [hpre (pure ()), g1]
    simp only [Result.andThen_ok]
    have : (((ms[0 + j]?).map (·.key)).getD kv) = kv := by rw [Nat.zero_add, Lz]; simp [e3]
    rw [Sem.run_bind, this, KY]
    simp only [Result.andThen_ok]
    exact Go.MapKept.run_setObj_map _ q1
end
section
variable {P : Program} {β β' : Bm} {w w' : World} {h h' : Zb}
theorem Good.v (hI : Inv β w h) {s : Sem Value} {d : DV} (hs : ∃ v, s.run P w = .ok v w ∧ RV β w h d v) : Good P β w h (do pure (.value (← s))) d h := by
 obtain ⟨v, h1, h2⟩ := hs
 exact Good.quiet hI (by rw [Sem.run_bind, h1]; rfl) h2
theorem Good.val {s : Sem Value} {d : DV} (hs : ∃ v w' β', s.run P w = .ok v w' ∧ aj β w h β' w' h' ∧ Inv β' w' h' ∧ RV β' w' h' d v) : Good P β w h (do pure (.value (← s))) d h' := by
 obtain ⟨v, w', β', h1, h2, h3, h4⟩ := hs
 exact ⟨v, w', β', .inl (by rw [Sem.run_bind, h1]; rfl), h2, h3, h4⟩
theorem zQ {a : Act} {o : Oper} {c : Call} {b : Builtin} (ho : o.op = .call c) (hb : c.callee = .builtin b) :
 (execOp a.eval o).run P w = (builtin b c.argTypes o.type (c.args.map fun | .const _ => true | _ => false) (c.args.map a.eval)).run P w := by
 unfold execOp
 simp only [ho, resolve, hb]
 rfl
theorem sR {α : Type} {a : Array α} {x : α} (h : a.toList = [x]) : a = #[x] := by
 apply Array.ext'; simpa using h
theorem JW {α : Type} {a : Array α} {x y : α} (h : a.toList = [x, y]) : a = #[x, y] := by
 apply Array.ext'; simpa using h
theorem Bh (hI : Inv β w h) {e : Env} {a : Act} (hE : ER β w h e a) {o : Oper} {c : Call} {x : XOp} {d : DV} (ho : o.op = .call c) (hx : oS P c = some x) (hc : Zv x = none) (hd : Yj x e h = some (d, h')) :
 Good P β w h (execOp a.eval o) d h' := by
 have goal : ∀ {b : Builtin} {s : Sem Next}, c.callee = .builtin b → (builtin b c.argTypes o.type (c.args.map fun | .const _ => true | _ => false) (c.args.map a.eval)) = s → Good P β w h s d h' → Good P β w h (execOp a.eval o) d h' := by
  intro b s hb hs hg
  obtain ⟨v, w', β', oF, pu⟩ := hg
  refine ⟨v, w', β', ?_, pu⟩
  unfold Did at oF ⊢
  rw [zQ ho hb, hs]
  exact oF
 unfold oS at hx
 split at hx
 ·
  split at hx
  ·injection hx with hx; subst hx; cases hc
  ·cases hx
 ·
  rename_i cx t eB has hts
  have ha := sR has; have lV := sR hts
  split at hx
  ·rename_i o' hu cA
   injection hx with hx; subst hx
   simp only [Yj] at hd
   split at hd
   ·rename_i s hs
    simp only [Option.some.injEq, Prod.mk.injEq] at hd
    obtain ⟨rfl, rfl⟩ := hd
    have h1 := Yr hE cA
    rw [hs] at h1
    refine goal eB rfl ?_
    rw [ha, lV]
    refine Good.v hI ⟨.int .i64 s.size, ?_, .int _ _⟩
    generalize hv : a.eval cx = v at h1
    cases h1
    simp [Builtin.len_, run_underlying hu, hv, goInt]
   ·cases hd
  ·rename_i e' o' hu cA
   split at hx
   ·rename_i sz hsz
    injection hx with hx; subst hx
    simp only [Yj] at hd
    cases gK : vw h sz (o'.v e) with
    | none => rw [gK] at hd; cases hd
    | some xs =>
     rw [gK] at hd
     simp only [Option.map_some, Option.some.injEq, Prod.mk.injEq] at hd
     obtain ⟨rfl, rfl⟩ := hd
     have h1 := Yr hE cA
     obtain ⟨A, n, cap, hv⟩ := gV h1 gK
     rw [hv] at h1
     obtain ⟨hn, _⟩ := gW hI h1 gK
     refine goal eB rfl ?_
     rw [ha, lV]
     refine Good.v hI ⟨.int .i64 xs.length, ?_, .int _ _⟩
     simp [Builtin.len_, run_underlying hu, hv, goInt, hn]
   ·cases hx
  ·rename_i o' k' e' hu cA
   injection hx with hx; subst hx
   simp only [Yj] at hd
   have h1 := Yr hE cA
   generalize hv : a.eval cx = v at h1
   split at hd
   ·rename_i hm
    rw [hm] at h1
    simp only [Option.some.injEq, Prod.mk.injEq] at hd
    obtain ⟨rfl, rfl⟩ := hd
    cases h1
    refine goal eB rfl ?_
    rw [ha, lV]
    refine Good.v hI ⟨.int .i64 0, ?_, .int _ _⟩
    simp [Builtin.len_, run_underlying hu, hv, goInt]
   ·rename_i ob hm
    rw [hm] at h1
    split at hd
    ·rename_i kt et es vg
     simp only [Option.some.injEq, Prod.mk.injEq] at hd
     obtain ⟨rfl, rfl⟩ := hd
     cases h1 with
     | map hb aF =>
      obtain ⟨ms, jF, q1, q2, q3⟩ := hI.ob _ _ _ hb vg
      refine goal eB rfl ?_
      rw [ha, lV]
      refine Good.v hI ⟨.int .i64 es.length, ?_, .int _ _⟩
      have hl : es.length = ms.size := by simpa using q2.len
      simp [Builtin.len_, run_underlying hu, hv, goInt, getObj, q1, hl, Sem.run]
    ·cases hd
   ·cases hd
  ·cases hx
 ·
  rename_i cx cy t u eB has hts
  have ha := JW has; have lV := JW hts
  split at hx
  ·rename_i r hz
   injection hx with hx; subst hx
   unfold rT at hz
   split at hz
   case h_2 => cases hz
   rename_i kn et hu ht
   split at hz
   case h_2 => cases hz
   rename_i i oa ob hi hca hcb
   split at hz
   case h_2 => cases hz
   rename_i z hzz
   split at hz
   case h_2 => cases hz
   rename_i zd hzd
   split at hz
   case isFalse => cases hz
   rename_i hq
   injection hz with hz; subst hz
   simp only [Yj] at hd
   split at hd
   case h_2 => cases hd
   rename_i kq k e1 e2
   split at hd
   case isFalse => cases hd
   rename_i tG
   simp only [Option.some.injEq, Prod.mk.injEq] at hd
   obtain ⟨rfl, rfl⟩ := hd
   have h1 := Yr hE hca
   have h2 := Yr hE hcb
   rw [e1] at h1; rw [e2] at h2
   refine goal eB rfl ?_
   rw [ha, lV, show Array.map a.eval #[cx, cy] = #[a.eval cx, a.eval cy] by simp]
   generalize iU : a.eval cx = v1 at h1
   generalize nB : a.eval cy = v2 at h2
   cases h1; cases h2
   exact Good.val (Bl hI (ty := o.type) ht hu hi hzz hzd hq.1 hq.2.1 hq.2.2 tG.1 tG.2.1 tG.2.2)
  split at hx
  ·rename_i e' ht Lp
   split at hx
   ·rename_i i oa ob hi hca hcb
    split at hx
    ·rename_i z hz
     split at hx
     ·rename_i hq
      injection hx with hx; subst hx
      simp only [Yj] at hd
      have h1 := Yr hE hca
      have h2 := Yr hE hcb
      have hk : (∃ e', P.underlying u = some (.slice e')) ∨ P.underlying u = some .string := by
       split at Lp
       ·rename_i q hq; exact .inl ⟨_, hq⟩
       ·rename_i hq; exact .inr hq
       ·cases Lp
      cases gK : vw h i.size (oa.v e) with
      | none => rw [gK] at hd; cases hd
      | some xs =>
       rw [gK] at hd
       cases tF : aJ h i.size (ob.v e) with
       | none => rw [tF] at hd; cases hd
       | some ys =>
        rw [tF] at hd
        simp only at hd
        refine goal eB rfl ?_
        rw [ha, lV, show Array.map a.eval #[cx, cy] = #[a.eval cx, a.eval cy] by simp]
        exact Good.val (Dj hI (ty := o.type) ht hk hi hz hq.1 hq.2.1 hq.2.2 h1 h2 gK tF hd)
     ·cases hx
    ·cases hx
   ·cases hx
  ·cases hx
 ·
  rename_i eB
  split at hx
  ·rename_i os hcl
   injection hx with hx; subst hx
   simp only [Yj] at hd
   have h1 := jE hE hcl
   split at hd
   ·rename_i k n l hl
    cases hm : mm false k n l with
    | none => rw [hm] at hd; cases hd
    | some r =>
     rw [hm] at hd
     simp only [Option.map_some, Option.some.injEq, Prod.mk.injEq] at hd
     obtain ⟨rfl, rfl⟩ := hd
     rw [hl] at h1
     refine goal eB rfl ?_
     refine Good.v hI ⟨.int k r, ?_, .int _ _⟩
     generalize hvs : List.map a.eval c.args.toList = vs at h1
     cases h1 with
     | cons cz hs1 =>
      cases cz
      have := sF (mx := false) (P := P) hs1 hm
      simp only [Builtin.min_, Array.toList_map, hvs]
      simpa using this
   ·cases hd
  ·cases hx
 ·
  rename_i eB
  split at hx
  ·rename_i os hcl
   injection hx with hx; subst hx
   simp only [Yj] at hd
   have h1 := jE hE hcl
   split at hd
   ·rename_i k n l hl
    cases hm : mm true k n l with
    | none => rw [hm] at hd; cases hd
    | some r =>
     rw [hm] at hd
     simp only [Option.map_some, Option.some.injEq, Prod.mk.injEq] at hd
     obtain ⟨rfl, rfl⟩ := hd
     rw [hl] at h1
     refine goal eB rfl ?_
     refine Good.v hI ⟨.int k r, ?_, .int _ _⟩
     generalize hvs : List.map a.eval c.args.toList = vs at h1
     cases h1 with
     | cons cz hs1 =>
      cases cz
      have := sF (mx := true) (P := P) hs1 hm
      simp only [Builtin.max_, Array.toList_map, hvs]
      simpa using this
   ·cases hd
  ·cases hx
 ·
  rename_i cx t eB has hts
  have ha := sR has; have lV := sR hts
  split at hx
  ·rename_i e' o' hu cA
   injection hx with hx; subst hx
   simp only [Yj] at hd
   split at hd
   ·rename_i hs
    simp only [Option.some.injEq, Prod.mk.injEq] at hd
    obtain ⟨rfl, rfl⟩ := hd
    have h1 := Yr hE cA
    rw [hs] at h1
    refine goal eB rfl ?_
    rw [ha, lV]
    refine Good.v hI ⟨.int .i64 0, ?_, .int _ _⟩
    generalize hv : a.eval cx = v at h1
    cases h1
    simp [Builtin.cap_, run_underlying hu, hv, goInt]
   ·cases hd
  ·cases hx
 ·
  rename_i cx t eB has hts
  have ha := sR has; have lV := sR hts
  split at hx
  ·rename_i e' o' hu cA
   split at hx
   case h_2 => cases hx
   rename_i z hz
   split at hx
   case h_2 => cases hx
   rename_i zd hzd
   injection hx with hx; subst hx
   simp only [Yj] at hd
   have h1 := Yr hE cA
   split at hd
   ·rename_i hs
    simp only [Option.some.injEq, Prod.mk.injEq] at hd
    obtain ⟨rfl, rfl⟩ := hd
    rw [hs] at h1
    refine goal eB rfl ?_
    rw [ha, lV]
    refine Good.v hI ⟨.tuple #[], ?_, .tup .nil⟩
    generalize hv : a.eval cx = v at h1
    cases h1
    simp [Builtin.clear_, run_underlying hu, hv]
   ·rename_i ob g lo n c hs
    rw [hs] at h1
    split at hd
    ·rename_i hn
     simp only [Option.some.injEq, Prod.mk.injEq] at hd
     obtain ⟨rfl, rfl⟩ := hd
     refine goal eB rfl ?_
     rw [ha, lV]
     refine Good.v hI ⟨.tuple #[], ?_, .tup .nil⟩
     generalize hv : a.eval cx = v at h1
     subst hn
     cases h1
     simp [Builtin.clear_, run_underlying hu, hv]
    ·rename_i hn
     split at hd
     case h_2 => cases hd
     rename_i e2 Nw g2 xs cJ
     split at hd
     case isFalse => cases hd
     rename_i hq
     obtain ⟨rfl, rfl, N4, N3⟩ := hq
     simp only [Option.some.injEq, Prod.mk.injEq] at hd
     obtain ⟨rfl, rfl⟩ := hd
     refine goal eB rfl ?_
     rw [ha, lV, show Array.map a.eval #[cx] = #[a.eval cx] by simp]
     obtain ⟨w', r1, r2, r3⟩ := Dg (ty := o.type) hI hu hz hzd rfl N3 (Nat.pos_of_ne_zero hn) h1 cJ N4
     exact Good.val ⟨_, _, _, r1, r2, r3, .tup .nil⟩
   ·cases hd
  ·cases hx
 ·cases hx
end
section
variable {P : Program} {β β' : Bm} {w w' : World} {h h' : Zb}
theorem ZD {α β : Type} {a a' : α} {b b' : β} (h : some (a, b) = some (a', b')) : a = a' ∧ b = b' := by
 injection h with h; injection h with h1 h2; exact ⟨h1, h2⟩
theorem aN {α β γ : Type} {x : Option α} {f : α → β} {c : γ} {d : β} {c' : γ} (h : x.map (fun y => (f y, c)) = some (d, c')) : ∃ y, x = some y ∧ d = f y ∧ c' = c := by
 cases x with
 | none => cases h
 | some y => simp at h; exact ⟨y, rfl, h.1.symm, h.2.symm⟩
set_option maxHeartbeats 1000000 in
theorem Dp (hI : Inv β w h) {e : Env} {a : Act} (hE : ER β w h e a) {o : Oper} {x : XOp} {d : DV} (hx : aK P o.op = some x) (hc : Zv x = none) (hd : Yj x e h = some (d, h')) :
 Good P β w h (execOp a.eval o) d h' := by
 obtain ⟨dst, op, guard, ty, pos⟩ : ∃ p : Oper, p = o := ⟨o, rfl⟩
 cases hop : o.op with
 | move y =>
  unfold execOp; rw [hop] at hx ⊢
  simp only [aK] at hx ⊢
  split at hx
  ·rename_i ox cJ
   injection hx with hx; subst hx
   obtain ⟨rfl, rfl⟩ := ZD hd
   exact Good.quiet hI rfl (Yr hE cJ)
  ·cases hx
 | assign y =>
  unfold execOp; rw [hop] at hx ⊢
  simp only [aK] at hx ⊢
  split at hx
  ·rename_i ox cJ
   injection hx with hx; subst hx
   obtain ⟨rfl, rfl⟩ := ZD hd
   exact Good.quiet hI rfl (Yr hE cJ)
  ·cases hx
 | pick c y z =>
  unfold execOp; rw [hop] at hx ⊢
  simp only [aK] at hx ⊢
  split at hx
  ·rename_i oc oa ob h1 h2 h3
   injection hx with hx; subst hx
   simp only [Yj] at hd
   split at hd
   ·rename_i t ht
    obtain ⟨rfl, rfl⟩ := ZD hd
    have hc := Yr hE h1
    rw [ht] at hc
    generalize hv : a.eval c = v at hc
    cases hc
    refine Good.quiet hI (v := if t = true then a.eval y else a.eval z) (by simp [hv, asBool]) ?_
    cases t
    ·exact Yr hE h3
    ·exact Yr hE h2
   ·cases hd
  ·cases hx
 | alloc t =>
  unfold execOp; rw [hop] at hx ⊢
  simp only [aK] at hx ⊢
  split at hx
  ·rename_i z hz
   split at hx
   ·rename_i cs hcs
    injection hx with hx; subst hx
    obtain ⟨rfl, rfl⟩ := ZD hd
    obtain ⟨w', β', q⟩ := yZ hI hz hcs
    exact Good.val ⟨_, w', β', q⟩
   ·cases hx
  ·cases hx
 | box t y =>
  unfold execOp; rw [hop] at hx ⊢
  simp only [aK] at hx ⊢
  split at hx
  ·rename_i ox cJ
   injection hx with hx; subst hx
   simp only [Yj] at hd
   split at hd
   ·cases hd
   ·rename_i hu
    obtain ⟨rfl, rfl⟩ := ZD hd
    obtain ⟨w', β', q⟩ := Dh hI (t := t) (Yr hE cJ) (by simpa using hu)
    exact Good.val ⟨_, w', β', q⟩
  ·cases hx
 | build t ps =>
  unfold execOp; rw [hop] at hx ⊢
  simp only [aK] at hx ⊢
  split at hx
  ·rename_i z fs hz hu
   split at hx
   ·rename_i pl hpl
    split at hx
    ·rename_i cs l hcs hl
     injection hx with hx; subst hx
     simp only [Yj] at hd
     obtain ⟨ds, hds, rfl, rfl⟩ := aN hd
     obtain ⟨us, h1, h2⟩ := tN hE ps.toList (vs := z.cells) hl (nJ hcs).1 hds
     refine Good.v hI ⟨.agg us, ?_, ?_⟩
     ·have MO := run_places (P := P) (w := w) fs.toList hpl
      have hm : (fs.mapM (fun f => (do pure (f.offset, ← sizeOf f.type) : Sem (Nat × Nat)))).run P w = .ok pl.toArray w := by
       rw [Array.mapM_eq_mapM_toList, map_eq_pure_bind, Sem.run_bind, MO]
       rfl
      unfold Instr.build
      rw [Sem.run_bind, dJ hz]
      simp only [Result.andThen_ok]
      rw [Sem.run_bind, run_underlying hu]
      simp only [Result.andThen_ok]
      rw [Sem.run_bind, hm]
      simp only [Result.andThen_ok, Array.toList_map, List.getElem?_toArray]
      rw [h1]
      rfl
     ·have := RV.agg h2
      simpa using this
    ·cases hx
   ·cases hx
  ·cases hx
 | buildSlice t n ps =>
  unfold execOp; rw [hop] at hx ⊢
  simp only [aK] at hx ⊢
  split at hx
  ·rename_i et xs hu Oh
   split at hx
   ·rename_i sz z os hs hz hcl
    split at hx
    ·rename_i hq
     injection hx with hx; subst hx
     obtain ⟨v, w', β', q⟩ := vr hI hE hu Oh hs hz hcl hq.1 hq.2.1 hq.2.2.1 hq.2.2.2 hd
     exact Good.val ⟨v, w', β', q⟩
    ·cases hx
   ·cases hx
  ·cases hx
 | makeSlice t n m =>
  unfold execOp; rw [hop] at hx ⊢
  simp only [aK] at hx ⊢
  split at hx
  ·rename_i et hu
   split at hx
   ·rename_i i oa ob hi h1 h2
    split at hx
    ·rename_i z hz
     split at hx
     ·rename_i zd hzd
      split at hx
      ·rename_i hq
       injection hx with hx; subst hx
       simp only [Yj] at hd
       split at hd
       ·rename_i ka n1 kb n2 e1 e2
        split at hd
        ·rename_i tG
         obtain ⟨rfl, rfl⟩ := ZD hd
         have c1 := Yr hE h1
         have c2 := Yr hE h2
         rw [e1] at c1; rw [e2] at c2
         generalize iU : a.eval n = v1 at c1
         generalize nB : a.eval m = v2 at c2
         cases c1; cases c2
         exact Good.val (Be hI hu hi hz hzd hq.2.1 hq.2.2 tG.1 tG.2.1 tG.2.2.1 tG.2.2.2)
        ·cases hd
       ·cases hd
      ·cases hx
     ·cases hx
    ·cases hx
   ·cases hx
  ·cases hx
 | load t y =>
  unfold execOp; rw [hop] at hx ⊢
  simp only [aK] at hx ⊢
  split at hx
  ·rename_i ag sz ox h1 h2 h3
   injection hx with hx; subst hx
   simp only [Yj] at hd
   obtain ⟨u, hu, rfl, rfl⟩ := aN (f := fun d => d) hd
   exact Good.v hI (tL hI h1 h2 (Yr hE h3) hu)
  ·cases hx
 | store t y z =>
  unfold execOp; rw [hop] at hx ⊢
  simp only [aK] at hx ⊢
  split at hx
  ·rename_i sz ox oy h1 h2 h3
   injection hx with hx; subst hx
   simp only [Yj] at hd
   cases hs : stx h sz (ox.v e) (oy.v e) with
   | none => rw [hs] at hd; cases hd
   | some gM =>
    rw [hs] at hd
    simp only [Option.map_some] at hd
    obtain ⟨rfl, rfl⟩ := ZD hd
    obtain ⟨w', q1, q2, q3⟩ := yW hI h1 (Yr hE h2) (Yr hE h3) hs
    exact ⟨undef, w', β, .inr ⟨by rw [Sem.run_bind, q1]; rfl, rfl⟩, q2, q3, .undef _⟩
  ·cases hx
 | nilCheck y =>
  unfold execOp; rw [hop] at hx ⊢
  simp only [aK] at hx ⊢
  split at hx
  ·rename_i ox cJ
   injection hx with hx; subst hx
   have h1 := Yr hE cJ
   simp only [Yj] at hd
   generalize hv : a.eval y = v at h1
   split at hd
   ·rename_i ob p hq
    obtain ⟨rfl, rfl⟩ := ZD hd
    rw [hq] at h1
    cases h1 with
    | ref hb ho => exact Good.quiet hI rfl (.ref hb ho)
   ·rename_i dd s i p hq
    obtain ⟨rfl, rfl⟩ := ZD hd
    rw [hq] at h1
    cases h1 with
    | elem h2 hi => exact Good.quiet hI rfl (.elem h2 hi)
   ·rename_i f x1 x2 hq
    obtain ⟨rfl, rfl⟩ := ZD hd
    rw [hq] at h1
    cases h1 with
    | func ha hb => exact Good.quiet hI rfl (.func ha hb)
   ·cases hd
  ·cases hx
 | binOp jQ t y z q =>
  unfold execOp; rw [hop] at hx ⊢
  simp only [aK] at hx ⊢
  have hgo : ∀ {r : Value} {d : DV}, (eqGuard jQ t y z (a.eval y) (a.eval z)).run P w = .ok () w → (binOp jQ t (a.eval y) (a.eval z)).run P w = .ok r w → RV β w h d r →
   Good P β w h (do let r ← (do eqGuard jQ t y z (a.eval y) (a.eval z); binOp jQ t (a.eval y) (a.eval z)); pure (.value r)) d h := by
   intro r d h1 h2 h3
   refine Good.v hI ⟨r, ?_, h3⟩
   rw [Sem.run_bind, h1]
   exact h2
  split at hx
  ·rename_i oa ob h1 h2
   have c1 := Yr hE h1
   have c2 := Yr hE h2
   have C9 : ∀ {x : XOp}, x = .bin jQ oa ob → Yj x e h = some (d, h') → Good P β w h (do let r ← (do eqGuard jQ t y z (a.eval y) (a.eval z); binOp jQ t (a.eval y) (a.eval z)); pure (.value r)) d h' := by
    rintro _ rfl hd
    simp only [Yj] at hd
    obtain ⟨u, hu, rfl, rfl⟩ := aN (f := fun d => d) hd
    obtain ⟨r, g1, g2, g3⟩ := Di (P := P) (t := t) (ox := y) (oy := z) c1 c2 hu
    exact hgo g1 g2 g3
   split at hx
   ·rename_i MQ
    have hneg : jQ = (if (jQ == .neq) = true then .neq else .eql) := by rcases MQ with rfl | rfl <;> rfl
    have hk : ∀ {kd : Nat} {td : TypeDesc} {x : XOp}, P.underlying t = some td → yH kd td → (kd = 5 → fQ y = true ∨ fQ z = true) → x = .Yt kd (jQ == .neq) oa ob → Yj x e h = some (d, h') →
     Good P β w h (do let r ← (do eqGuard jQ t y z (a.eval y) (a.eval z); binOp jQ t (a.eval y) (a.eval z)); pure (.value r)) d h' := by
     rintro kd td _ hu hok h5 rfl hd
     simp only [Yj] at hd
     obtain ⟨u, qY, rfl, rfl⟩ := aN (f := fun r => DV.bool (if (jQ == .neq) = true then !r else r)) hd
     obtain ⟨g1, g2⟩ := vu (P := P) (neg := jQ == .neq) (ox := y) (oy := z) c1 c2 qY hu hok h5
     rw [← hneg] at g1 g2
     exact hgo g1 g2 (.bool _)
    split at hx
    ·rename_i fs hu
     split at hx
     ·rename_i ks hks
      injection hx with hx; subst hx
      simp only [Yj] at hd
      split at hd
      ·rename_i cs ds e1 e2
       rw [e1] at c1; rw [e2] at c2
       obtain ⟨u, qY, rfl, rfl⟩ := aN (f := fun r => DV.bool (if (jQ == .neq) = true then !r else r)) hd
       obtain ⟨g1, g2⟩ := De (P := P) (neg := jQ == .neq) (ox := y) (oy := z) c1 c2 qY hks
       rw [← hneg] at g1 g2
       exact hgo g1 g2 (.bool _)
      ·cases hd
     ·cases hx
    ·rename_i m hu
     split at hx
     ·rename_i cK
      injection hx with hx
      exact hk (kd := 5) hu ⟨_, rfl⟩ (fun _ => by simpa using cK) hx.symm hd
     ·cases hx
    ·rename_i hu
     injection hx with hx
     exact hk (kd := 0) hu rfl (fun h => by cases h) hx.symm hd
    ·rename_i hu
     injection hx with hx
     exact hk (kd := 1) hu ⟨_, rfl⟩ (fun h => by cases h) hx.symm hd
    ·rename_i hu
     injection hx with hx
     exact hk (kd := 2) hu ⟨_, rfl⟩ (fun h => by cases h) hx.symm hd
    ·rename_i hu
     injection hx with hx
     exact hk (kd := 3) hu ⟨_, _, rfl⟩ (fun h => by cases h) hx.symm hd
    ·rename_i hu
     injection hx with hx
     exact hk (kd := 4) hu ⟨_, _, _, rfl⟩ (fun h => by cases h) hx.symm hd
    ·injection hx with hx
     exact C9 hx.symm hd
    ·injection hx with hx
     exact C9 hx.symm hd
    ·cases hx
   ·injection hx with hx
    exact C9 hx.symm hd
  ·cases hx
 | unOp O9 t y =>
  unfold execOp; rw [hop] at hx ⊢
  simp only [aK] at hx ⊢
  split at hx
  ·rename_i ox cJ
   injection hx with hx; subst hx
   simp only [Yj] at hd
   obtain ⟨u, hu, rfl, rfl⟩ := aN (f := fun d => d) hd
   exact Good.v hI (FJ (Yr hE cJ) hu)
  ·cases hx
 | convert src dst y =>
  unfold execOp; rw [hop] at hx ⊢
  simp only [aK] at hx ⊢
  split at hx
  ·rename_i j k ox hs ht cJ
   injection hx with hx; subst hx
   simp only [Yj] at hd
   split at hd
   ·rename_i q n hv
    obtain ⟨rfl, rfl⟩ := ZD hd
    have h1 := Yr hE cJ
    rw [hv] at h1
    generalize hv' : a.eval y = v at h1
    cases h1
    exact Good.v hI ⟨_, yV hs ht, .int _ _⟩
   ·cases hd
  ·rename_i et ox hs ht cJ
   split at hx
   ·rename_i he
    injection hx with hx; subst hx
    simp only [Yj] at hd
    split at hd
    ·rename_i xs gK
     obtain ⟨u, hu, rfl, rfl⟩ := aN (f := fun bs : List UInt8 => DV.str ⟨bs.toArray⟩) hd
     exact Good.v hI ⟨_, yU hI hs he ht (Yr hE cJ) gK hu, .str _⟩
    ·cases hd
   ·cases hx
  ·rename_i et ox hs ht cJ
   split at hx
   ·rename_i he
    injection hx with hx; subst hx
    simp only [Yj] at hd
    split at hd
    ·rename_i s hv
     obtain ⟨rfl, rfl⟩ := ZD hd
     have h1 := Yr hE cJ
     rw [hv] at h1
     generalize hv' : a.eval y = v at h1
     cases h1
     exact Good.val (vp hI hs ht he s)
    ·cases hd
   ·cases hx
  ·cases hx
 | makeInterface t y =>
  unfold execOp; rw [hop] at hx ⊢
  simp only [aK] at hx ⊢
  split at hx
  ·cases hx
  ·rename_i td ox hne hu cJ
   injection hx with hx; subst hx
   obtain ⟨rfl, rfl⟩ := ZD hd
   refine Good.v hI ⟨.iface t (a.eval y), ?_, .ifc (Yr hE cJ)⟩
   unfold Instr.makeInterface
   rw [Sem.run_bind, run_underlying hu]
   cases td <;> first | rfl | exact (hne _ rfl).elim | exact (hne _ _ rfl).elim | exact False.elim (hne _ _)
  ·cases hx
 | makeFunc fn y z =>
  unfold execOp; rw [hop] at hx ⊢
  cases fn with
  | func f =>
   simp only [aK] at hx ⊢
   split at hx
   ·rename_i oa ob h1 h2
    injection hx with hx; subst hx
    obtain ⟨rfl, rfl⟩ := ZD hd
    refine Good.v hI ⟨_, rfl, ?_⟩
    have h3 := jE hE h1
    have h4 := jE hE h2
    rw [← Array.toList_map (f := a.eval) (xs := y)] at h3
    rw [← Array.toList_map (f := a.eval) (xs := z)] at h4
    have := RV.func (f := f) h3 h4
    rwa [Array.toArray_toList, Array.toArray_toList] at this
   ·cases hx
  | _ => simp [aK] at hx
 | slice t y lo hi mx =>
  unfold execOp; rw [hop] at hx ⊢
  simp only [aK] at hx ⊢
  split at hx
  ·rename_i ox l m hu cJ hl hm gA
   injection hx with hx; subst hx
   simp only [Yj] at hd
   have h1 := Yr hE cJ
   split at hd
   ·rename_i s hs
    rw [hs] at h1
    generalize hv : a.eval y = v at h1
    cases h1
    split at hd
    ·rename_i l' m' hl' AL
     split at hd
     ·rename_i hq
      obtain ⟨rfl, rfl⟩ := ZD hd
      have MZ : mx = none := by
       cases mx with
       | none => rfl
       | some q => simp only [eF] at gA; split at gA <;> cases gA
      subst MZ
      have hb := qC (P := P) (w := w) hE false (len := s.size) (cap := s.size) (Nat.le_refl _) hl hm (mx := none) (m' := none) rfl hl' AL hq.1 hq.2 (by simp)
      refine Good.v hI ⟨_, ?_, .str _⟩
      unfold Instr.sliceAt
      rw [Sem.run_bind, run_underlying hu]
      simp only [Result.andThen_ok]
      unfold Instr.slice
      rw [Sem.run_bind, run_underlying hu]
      simp only [Result.andThen_ok, Option.map_none, Option.isSome_none, Bool.false_eq_true, if_false]
      simp only [Option.map_none] at hb
      rw [Sem.run_bind, hb]
      rfl
     ·cases hd
    ·cases hd
   ·cases hd
  ·rename_i et ox l m q hu cJ hl hm gA
   split at hx
   ·rename_i sz hsz
    split at hx
    case isFalse => cases hx
    rename_i hcond
    injection hx with hx; subst hx
    simp only [Yj] at hd
    split at hd
    ·rename_i xs gK
     split at hd
     ·rename_i l' m' hl' AL
      split at hd
      ·rename_i hq
       have h1 := Yr hE cJ
       obtain ⟨A, n, cap, hv⟩ := gV h1 gK
       rw [hv] at h1
       obtain ⟨hn, _⟩ := gW hI h1 gK
       have hmain : ∀ cc, (∀ o, q = some o → aY e 0 (some o) = some m' ∧ m ≠ none) → cc = mx.isSome → dI h (ox.v e) l' m' xs.length cc = some (d, h') →
        Good P β w h (do let r ← Instr.sliceAt t (a.eval y) (lo.map a.eval) (hi.map a.eval) (mx.map a.eval); pure (.value r)) d h' := by
        intro cc hq2 cK hd
        have hb := fun c hc => qC (P := P) (w := w) hE true (len := xs.length) (cap := c) hc hl hm gA hl' AL hq.1 hq.2 hq2
        obtain ⟨hh, r, g1, g2⟩ := Db (P := P) hI hu hsz h1 gK hq.1 hq.2 cK hb hd
        subst hh
        rw [hv]
        exact Good.v hI ⟨r, g1, g2⟩
       cases i7 : de e m' q with
       | none => rw [i7] at hd; cases hd
       | some cc =>
        rw [i7] at hd
        simp only [Option.bind_some] at hd
        refine hmain cc (fun o ho => ?_) ?_ hd
        ·subst ho
         simp only [de] at i7
         split at i7
         ·rename_i h5
          refine ⟨h5, ?_⟩
          rintro rfl
          simp at hcond
         ·cases i7
        ·cases mx with
         | none =>
          simp [eF] at gA; subst gA
          simp [de] at i7; subst i7; rfl
         | some mo =>
          simp only [eF] at gA
          split at gA
          ·injection gA with gA; subst gA
           simp only [de] at i7
           split at i7
           ·injection i7 with i7; subst i7; rfl
           ·cases i7
          ·cases gA
      ·cases hd
     ·cases hd
    ·cases hd
   ·cases hx
  ·cases hx
 | fieldAddr s y f =>
  unfold execOp; rw [hop] at hx ⊢
  simp only [aK] at hx ⊢
  split at hx
  ·rename_i fs ox hu cJ
   split at hx
   ·rename_i fl hf
    split at hx
    ·rename_i sz hsz
     split at hx
     ·cases hx
     ·rename_i h0
      injection hx with hx; subst hx
      simp only [Yj] at hd
      have h1 := Yr hE cJ
      split at hd
      ·rename_i ob p hq
       obtain ⟨rfl, rfl⟩ := ZD hd
       rw [hq] at h1
       exact Good.v hI (rC hI hu hf hsz h0 rfl h1 rfl)
      ·rename_i dd s' i p hq
       obtain ⟨rfl, rfl⟩ := ZD hd
       rw [hq] at h1
       exact Good.v hI (rC hI hu hf hsz h0 rfl h1 rfl)
      ·cases hd
    ·cases hx
   ·cases hx
  ·cases hx
 | field s y f =>
  unfold execOp; rw [hop] at hx ⊢
  simp only [aK] at hx ⊢
  split at hx
  ·rename_i fs ox hu cJ
   split at hx
   ·rename_i fl hf
    split at hx
    ·rename_i ag sz hag hsz
     injection hx with hx; subst hx
     simp only [Yj] at hd
     have h1 := Yr hE cJ
     split at hd
     ·rename_i cs hq
      rw [hq] at h1
      obtain ⟨u, qY, rfl, rfl⟩ := aN (f := fun d => d) hd
      exact Good.v hI (Dc hI hu hf hsz hag rfl h1 qY)
     ·cases hd
    ·cases hx
   ·cases hx
  ·cases hx
 | indexAddr t y i =>
  unfold execOp; rw [hop] at hx ⊢
  simp only [aK] at hx ⊢
  split at hx
  ·rename_i et ox oi hu cJ AF
   split at hx
   ·rename_i sz hsz
    injection hx with hx; subst hx
    simp only [Yj] at hd
    have h1 := BD hI hE cJ
    have h2 := Yr hE AF
    split at hd
    ·rename_i k n hn
     split at hd
     ·rename_i xs gK
      split at hd
      ·rename_i hq
       obtain ⟨rfl, rfl⟩ := ZD hd
       rw [hn] at h2
       generalize hv : a.eval i = v at h2
       cases h2
       exact Good.v hI (yY hI hu hsz h1 gK hq.1 hq.2)
      ·cases hd
     ·cases hd
    ·cases hd
   ·cases hx
  ·rename_i len et ox oi hu cJ AF
   split at hx
   ·rename_i sz hsz
    injection hx with hx; subst hx
    simp only [Yj] at hd
    have h1 := BD hI hE cJ
    have h2 := Yr hE AF
    split at hd
    ·rename_i ob p k n e1 e2
     split at hd
     ·rename_i hq
      obtain ⟨rfl, rfl⟩ := ZD hd
      rw [e1] at h1; rw [e2] at h2
      generalize hv : a.eval i = v at h2
      cases h2
      exact Good.v hI (pR hI hu hsz h1 hq rfl)
     ·cases hd
    ·rename_i dd s j p k n e1 e2
     split at hd
     ·rename_i hq
      obtain ⟨rfl, rfl⟩ := ZD hd
      rw [e1] at h1; rw [e2] at h2
      generalize hv : a.eval i = v at h2
      cases h2
      exact Good.v hI (pR hI hu hsz h1 hq rfl)
     ·cases hd
    ·cases hd
   ·cases hx
  ·cases hx
 | index t y i =>
  unfold execOp; rw [hop] at hx ⊢
  simp only [aK] at hx ⊢
  split at hx
  ·rename_i ox oi hu cJ AF
   injection hx with hx; subst hx
   simp only [Yj] at hd
   have h1 := Yr hE cJ
   have h2 := Yr hE AF
   split at hd
   ·rename_i s k n e1 e2
    split at hd
    ·rename_i h0
     rw [e1] at h1; rw [e2] at h2
     generalize hv : a.eval i = v at h2
     generalize hv' : a.eval y = v' at h1
     cases h2; cases h1
     obtain ⟨b, hb, rfl, rfl⟩ := aN (f := fun b : UInt8 => DV.int .u8 b.toNat) hd
     exact Good.v hI ⟨_, Bg hu h0 hb, .int _ _⟩
    ·cases hd
   ·cases hd
  ·cases hx
 | extract y i =>
  unfold execOp; rw [hop] at hx ⊢
  simp only [aK] at hx ⊢
  split at hx
  ·rename_i ox cJ
   injection hx with hx; subst hx
   simp only [Yj] at hd
   have h1 := Yr hE cJ
   split at hd
   ·rename_i vs hv
    rw [hv] at h1
    generalize hv' : a.eval y = v' at h1
    cases h1 with
    | tup hr =>
     obtain ⟨u, hu, rfl, rfl⟩ := aN (f := fun d => d) hd
     obtain ⟨v, hv, iV⟩ := hr.get hu
     refine Good.v hI ⟨v, ?_, iV⟩
     simp [Instr.extract, hv]
   ·cases hd
  ·cases hx
 | call c =>
  rw [hop] at hx
  exact Bh hI hE hop hx hc hd
 | makeMap t r =>
  unfold execOp; rw [hop] at hx ⊢
  simp only [aK] at hx ⊢
  split at hx
  ·rename_i kt et r' hu hr'
   injection hx with hx; subst hx
   simp only [Yj] at hd
   split at hd
   case isFalse => cases hd
   rename_i hint
   obtain ⟨rfl, rfl⟩ := ZD hd
   refine Good.val (yX hI hu (fun v hv => ?_))
   cases r with
   | none => simp at hv
   | some x =>
    simp only [eF] at hr'
    split at hr'
    ·rename_i ox cJ
     injection hr' with hr'; subst hr'
     have h1 := Yr hE cJ
     simp only [Option.map_some] at hv
     injection hv with hv; subst hv
     simp only [ep] at hint
     split at hint
     ·rename_i k n hkn
      rw [hkn] at h1
      generalize a.eval x = u at h1
      cases h1
      exact ⟨_, _, rfl⟩
     ·cases hint
    ·cases hr'
  ·cases hx
 | lookup t m k ok =>
  unfold execOp; rw [hop] at hx ⊢
  simp only [aK] at hx ⊢
  split at hx
  ·rename_i kt et om ok' hu xo hok
   split at hx
   ·rename_i q z hq hz
    split at hx
    ·rename_i zd hzd
     injection hx with hx; subst hx
     simp only [Yj] at hd
     split at hd
     case isFalse => cases hd
     rename_i kX
     split at hd
     ·rename_i r hr
      obtain ⟨rfl, rfl⟩ := ZD hd
      exact Good.v hI (Bd hI hu hq hz (qx hzd).1 (Yr hE xo) (Yr hE hok) kX hr)
     ·cases hd
    ·cases hx
   ·cases hx
  ·cases hx
 | mapUpdate t m k v =>
  unfold execOp; rw [hop] at hx ⊢
  simp only [aK] at hx ⊢
  split at hx
  ·rename_i kt et om ok' ov hu xo hok N9
   split at hx
   ·rename_i q hq
    injection hx with hx; subst hx
    simp only [Yj] at hd
    split at hd
    case isFalse => cases hd
    rename_i kX
    split at hd
    ·rename_i o hmo
     split at hd
     ·rename_i ct ce es AE
      cases hp : fw q.1 q.2 (ok'.v e) (ov.v e) es with
      | none => rw [hp] at hd; cases hd
      | some es' =>
       rw [hp] at hd
       simp only [Option.map_some] at hd
       obtain ⟨rfl, rfl⟩ := ZD hd
       have h1 := Yr hE xo
       rw [hmo] at h1
       obtain ⟨w', q1, q2, q3⟩ := Bc (P := P) hI hu hq h1 (Yr hE hok) (Yr hE N9) kX AE hp
       exact ⟨undef, w', β, .inr ⟨by rw [Sem.run_bind, q1]; rfl, rfl⟩, q2, q3, .undef _⟩
     ·cases hd
    ·cases hd
   ·cases hx
  ·cases hx
 | panic y =>
  rw [hop] at hx
  simp only [aK] at hx
  injection hx with hx; subst hx
  simp [Yj, Od.v] at hd
 | _ => rw [hop] at hx; simp [aK] at hx
end
def iO (P : Program) (call : cg) : Prop := ∀ f args h d h' β w vs, call f args h = some (d, h') → Inv β w h → RVs β w h args vs →
 (callFunc f vs.toArray).run P w = .ok (.enter f vs.toArray) w ∧
 Calls P f vs.toArray w (fun e w' => ∃ v β', e = .returned v ∧ aj β w h β' w' (af d h').2 ∧ Inv β' w' (af d h').2 ∧ RV β' w' (af d h').2 (af d h').1 v)
section
variable {P : Program} {β β' : Bm} {w w' : World} {h h' : Zb}
theorem mZ {t u : TypeId} {x y : Operand} {r : XOp} (h : rT P t u x y = some r) : ∃ e sz b z a n, r = .appz e sz b z a n := by
 unfold rT at h
 revert h
 repeat' split
 all_goals first | (intro h; injection h with h; exact ⟨_, _, _, _, _, _, h.symm⟩) | (intro h; cases h)
theorem FO {op : Op} {f : Od} {as : List Od} (hx : aK P op = some (.call f as)) : ∃ c cf, op = .call c ∧ c.callee = .value cf ∧ cm cf = some f ∧ nE c.args.toList = some as := by
 cases op with
 | call c =>
  simp only [aK] at hx
  unfold oS at hx
  split at hx
  ·rename_i cf eB
   split at hx
   ·rename_i h1 h2
    injection hx with hx
    injection hx with iS Az
    subst iS; subst Az
    exact ⟨c, cf, rfl, eB, h1, h2⟩
   ·cases hx
  all_goals (repeat' split at hx) <;> first | (cases hx; done) | (cases hx; rename_i hq; obtain ⟨_, _, _, _, _, _, hq⟩ := mZ hq; cases hq)
 | _ =>
  exfalso
  simp only [aK] at hx
  revert hx
  repeat' split
  all_goals first | (simp; done) | (rename_i hq; cases hq)
theorem Dy {op : Op} {t : Nat} {cs : List DV} (hx : aK P op = some (.alloc t cs)) : ∃ z, op = .alloc t ∧ fe P t = some z ∧ qy z.cells.toList = some cs := by
 cases op with
 | alloc t0 =>
  simp only [aK] at hx
  split at hx
  ·rename_i z hz
   split at hx
   ·rename_i BF hcs
    injection hx with hx
    injection hx with h1 h2
    subst h1; subst h2
    exact ⟨z, rfl, hz, hcs⟩
   ·cases hx
  ·cases hx
 | call c =>
  exfalso
  simp only [aK] at hx
  unfold oS at hx
  revert hx
  repeat' split
  all_goals first | (intro h; cases h; done) | (intro h; injection h with h; cases h; done) | (simp; done) | (intro h; contradiction) | (intro h; injection h with h; subst h; rename_i hq; obtain ⟨_, _, _, _, _, _, hq⟩ := mZ hq; cases hq)
 | _ =>
  exfalso
  simp only [aK] at hx
  revert hx
  repeat' split
  all_goals first | (intro h; cases h; done) | (intro h; injection h with h; cases h; done) | (simp; done) | (intro h; contradiction) | (intro h; injection h with h; subst h; rename_i hq; obtain ⟨_, _, _, _, _, _, hq⟩ := mZ hq; cases hq)
theorem Bf (hI : Inv β w h) {a : Act} {o : Oper} {t : Nat} {cs : List DV} (hx : aK P o.op = some (.alloc t cs)) {k : Nat} (hk : β k = none) (hb : h[k]? = some (.box t cs))
 {K : Act → World → Prop} {Q : Exit → Act → World → Prop} (hK : ∀ us, Inv (upd β k w.heap.size) (w.alloc (.cells us t)) h → K (a.put o.dst (.pointer (some ⟨w.heap.size, 0, none⟩))) (w.alloc (.cells us t))) : o.wp P a w K Q := by
 obtain ⟨z, hop, hz, hcs⟩ := Dy hx
 have hrun : (Instr.alloc t true (.tuple #[])).run P w = .ok (.pointer (some ⟨w.heap.size, 0, none⟩)) (w.alloc (.cells z.cells t)) := by
  simp only [Instr.alloc, Sem.run_bind, dJ hz, Result.andThen_ok]
  rfl
 have hex : (execOp a.eval o).run P w = .ok (.value (.pointer (some ⟨w.heap.size, 0, none⟩))) (w.alloc (.cells z.cells t)) := by
  unfold execOp
  rw [hop]
  show (do pure (Next.value (← Instr.alloc t true (.tuple #[]))) : Sem Next).run P w = _
  rw [Sem.run_bind, hrun]; rfl
 unfold Oper.wp
 rw [hex]
 exact hK _ (Inv.fill hI hk hb (fun β' w' => (nJ hcs).1))
theorem good_step {call : cg} (hc : iO P call) (hI : Inv β w h) {e : Env} {a : Act} (hE : ER β w h e a) {o : Oper} {x : XOp} {d : DV} (hx : aK P o.op = some x) (hd : ZR call x e h = some (d, h'))
 {K : Act → World → Prop} {Q : Exit → Act → World → Prop} (hK : ∀ v w' β', aj β w h β' w' h' → Inv β' w' h' → RV β' w' h' d v → K (a.put o.dst v) w') : o.wp P a w K Q := by
 unfold ZR at hd
 split at hd
 ·rename_i f args hi
  split at hd
  ·rename_i k fa fb hf
   rw [Option.map_eq_some_iff] at hd
   obtain ⟨⟨r, hr⟩, hcall, Ij⟩ := hd
   simp only at Ij
   cases x <;> simp only [Zv] at hi <;> try cases hi
   obtain ⟨c, cf, hop, eB, h1, h2⟩ := FO hx
   have c1 := Yr hE h1
   have c2 := jE hE h2
   rw [hf] at c1
   generalize hv : a.eval cf = v at c1
   cases c1 with
   | func ha hb =>
    rename_i va vb
    have hargs := (ha.append c2).append hb
    obtain ⟨hrun, hC⟩ := hc _ _ _ _ _ _ _ _ hcall hI hargs
    have hvs : va.toArray ++ c.args.map a.eval ++ vb.toArray = (va ++ c.args.toList.map a.eval ++ vb).toArray := by
     apply Array.ext'; simp
    have hex : (execOp a.eval o).run P w = .ok (.enter k (va ++ c.args.toList.map a.eval ++ vb).toArray) w := by
     unfold execOp
     simp only [hop, resolve, eB, hv, Deferred.ofValue, Sem.run_bind, Sem.run_pure, Result.andThen_ok, invoke]
     rw [hvs]
     exact hrun
    unfold Oper.wp
    rw [hex, Oper.upon_enter]
    refine hC.mono ?_
    rintro en w' ⟨v, β', rfl, q1, q2, q3⟩
    rw [Ij] at q1 q2 q3
    exact hK v w' β' q1 q2 q3
  ·cases hd
 ·rename_i hi
  obtain ⟨v, w', β', oF, q1, q2, q3⟩ := Dp hI hE hx hi hd
  unfold Oper.wp
  rcases oF with oF | ⟨oF, rfl⟩
  ·rw [oF]; exact hK v w' β' q1 q2 q3
  ·rw [oF]; exact hK _ w' β' q1 q2 q3
theorem aM {e e' : Env} {o : Od} (h : ∀ s ∈ fC o, lk e s = lk e' s) : o.v e = o.v e' := by
 cases o with
 | t n => exact h n (by simp [fC])
 | c d => rfl
theorem iy {e e' : Env} {l : List Od} (h : ∀ s ∈ l.flatMap fC, lk e s = lk e' s) : l.map (Od.v e) = l.map (Od.v e') :=
 List.map_congr_left fun o ho => aM fun s hs => h s (List.mem_flatMap.2 ⟨o, ho, hs⟩)
theorem gJ {e e' : Env} {d : Nat} {o : Option Od} (h : ∀ s ∈ tq o, lk e s = lk e' s) : aY e d o = aY e' d o := by
 cases o with
 | none => rfl
 | some o => simp only [aY, aM h]
theorem zh {e e' : Env} {m : Nat} {o : Option Od} (h : ∀ s ∈ tq o, lk e s = lk e' s) : de e m o = de e' m o := by
 cases o with
 | none => rfl
 | some o => simp only [de, gJ (o := some o) h]
theorem Bv {x : XOp} {e e' : Env} {h : Zb} (hs : ∀ s ∈ x.sl, lk e s = lk e' s) : Yj x e h = Yj x e' h := by
 cases x <;> simp only [XOp.sl, List.mem_append] at hs <;> simp only [Yj]
 case pick a b c => rw [aM (o := a) (fun s h => hs s (.inl (.inl h))), aM (o := b) (fun s h => hs s (.inl (.inr h))), aM (o := c) (fun s h => hs s (.inr h))]
 case build z ps =>
  have : (ps.map fun p => (p.1, p.2.1, p.2.2.v e)) = ps.map fun p => (p.1, p.2.1, p.2.2.v e') :=
   List.map_congr_left fun p hp => by rw [aM (o := p.2.2) (fun s h => hs s (List.mem_flatMap.2 ⟨p, hp, h⟩))]
  rw [this]
 case mkslice ro t sz ps => rw [iy hs]
 case mklist sz ps => rw [iy hs]
 case appz e0 sz by0 z x y => rw [aM (o := x) (fun s h => hs s (.inl h)), aM (o := y) (fun s h => hs s (.inr h))]
 case mkfn f a b => rw [iy (l := a) (fun s h => hs s (.inl h)), iy (l := b) (fun s h => hs s (.inr h))]
 case mmx m xs => rw [iy hs]
 case slcs x a b => rw [aM (o := x) (fun s h => hs s (.inl (.inl h))), gJ (o := a) (fun s h => hs s (.inl (.inr h)))]; simp only [gJ (o := b) (fun s h => hs s (.inr h))]
 case slc sz x a b c =>
  rw [aM (o := x) (fun s h => hs s (.inl (.inl (.inl h)))), gJ (o := a) (fun s h => hs s (.inl (.inl (.inr h))))]
  simp only [gJ (o := b) (fun s h => hs s (.inl (.inr h))), zh (o := c) (fun s h => hs s (.inr h))]
 case mkmap r =>
  cases r with
  | none => rfl
  | some o =>
   have : ep e (some o) = ep e' (some o) := by simp only [ep]; rw [aM (o := o) (fun s h => hs s h)]
   rw [this]
 case mget ag ks z ok x y => simp only [aM (o := x) (fun s h => hs s (.inl h)), aM (o := y) (fun s h => hs s (.inr h))]
 case mset ag ks x y z => rw [aM (o := x) (fun s h => hs s (.inl (.inl h))), aM (o := y) (fun s h => hs s (.inl (.inr h))), aM (o := z) (fun s h => hs s (.inr h))]
 all_goals first
  | rfl
  | (rename_i x; rw [aM (o := x) hs]; done)
  | (rename_i x y; rw [aM (o := x) (fun s h => hs s (.inl h)), aM (o := y) (fun s h => hs s (.inr h))]; done)
  | (rename_i x y; simp only [aM (o := x) (fun s h => hs s (.inl h)), aM (o := y) (fun s h => hs s (.inr h))]; done)
  | (rename_i x _; rw [aM (o := x) hs]; done)
theorem rI {call : cg} {x : XOp} {e e' : Env} {h : Zb} (hs : ∀ s ∈ x.sl, lk e s = lk e' s) : ZR call x e h = ZR call x e' h := by
 unfold ZR
 split
 ·rename_i f args hi
  cases x <;> simp only [Zv] at hi <;> try cases hi
  simp only [XOp.sl, List.mem_append] at hs
  rw [aM (o := f) (fun s h => hs s (.inl h)), iy (l := args) (fun s h => hs s (.inr h))]
 ·exact Bv hs
end
theorem Ey {x : XOp} (hk : x.kind = 0) (e : Env) (h h2 : Zb) : Yj x e h = ((Yj x e h2).map (·.1)).map fun d => (d, h) := by
 cases x <;> simp only [XOp.kind] at hk <;> try cases hk
 all_goals simp only [Yj]
 all_goals first
  | rfl
  | (simp only [Option.map_map]; rfl)
  | (split <;> first | rfl | (simp only [Option.map_map]; rfl) | (split <;> first | rfl | (simp only [Option.map_map]; rfl) | (split <;> rfl)))
theorem xg (x : XOp) : x.kind ≤ 2 := by cases x <;> simp [XOp.kind]
theorem oz {x : XOp} (hk : x.kind = 0) : Zv x = none := by
 cases x <;> simp only [XOp.kind] at hk <;> first | rfl | cases hk
theorem ky {x : XOp} (hk : x.kind = 1) : Zv x = none := by
 cases x <;> simp only [XOp.kind] at hk <;> first | rfl | cases hk
theorem gY {h t : Zb} {o : Nat} {x : HO} (hx : h[o]? = some x) : (h ++ t)[o]? = some x := by
 have := (List.getElem?_eq_some_iff.1 hx).1
 rw [List.getElem?_append_left this, hx]
theorem iq {h t : Zb} {sz : Nat} {d : DV} {xs : List DV} (hv : vw h sz d = some xs) : vw (h ++ t) sz d = some xs := by
 cases d <;> simp only [vw] at hv ⊢ <;> try exact hv
 rename_i o g lo n c
 cases hx : h[o]? with
 | none => rw [hx] at hv; cases hv
 | some x => rw [hx] at hv; rw [gY hx]; exact hv
theorem u4 {h t : Zb} {ag : Bool} {sz : Nat} {d r : DV} (hv : ay h ag sz d = some r) : ay (h ++ t) ag sz d = some r := by
 cases d <;> simp only [ay] at hv ⊢ <;> try exact hv
 ·rename_i o p
  cases hx : h[o]? with
  | none => rw [hx] at hv; cases hv
  | some x => rw [hx] at hv; rw [gY hx]; exact hv
 ·rename_i d cP i p
  cases hx : vw h cP d with
  | none => rw [hx] at hv; cases hv
  | some xs => rw [hx] at hv; rw [iq hx]; exact hv
theorem qT {x : XOp} (hk : x.kind = 1) {e : Env} {h h1 : Zb} {d : DV} (hd : Yj x e h = some (d, h1)) : h1 = h ∧ ∀ t, Yj x e (h ++ t) = some (d, h ++ t) := by
 cases x <;> simp only [XOp.kind] at hk <;> try cases hk
 ·
  simp only [Yj] at hd ⊢
  obtain ⟨u, hu, rfl, rfl⟩ := aN (f := fun d => d) hd
  exact ⟨rfl, fun t => by rw [u4 hu]; rfl⟩
 ·
  rename_i ag sz x
  simp only [Yj] at hd ⊢
  cases hx : x.v e with
  | ref o p =>
   rw [hx] at hd
   obtain ⟨u, hu, rfl, rfl⟩ := aN (f := fun d => d) hd
   exact ⟨rfl, fun t => by simp only; rw [u4 hu]; rfl⟩
  | _ => rw [hx] at hd; cases hd
 ·
  simp only [Yj] at hd ⊢
  split at hd
  ·rename_i xs hv
   obtain ⟨u, hu, rfl, rfl⟩ := aN (f := fun bs : List UInt8 => DV.str ⟨bs.toArray⟩) hd
   exact ⟨rfl, fun t => by rw [iq hv]; simp only [hu]; rfl⟩
  ·cases hd
 ·
  simp only [Yj] at hd ⊢
  split at hd
  ·rename_i k n hn
   split at hd
   ·rename_i xs hv
    split at hd
    ·rename_i hq
     obtain ⟨rfl, rfl⟩ := ZD hd
     exact ⟨rfl, fun t => by rw [iq hv]; simp only [if_pos hq]⟩
    ·cases hd
   ·cases hd
  ·cases hd
 ·
  rename_i sz x lo hi mx
  simp only [Yj] at hd ⊢
  split at hd
  ·rename_i xs hv
   split at hd
   ·rename_i l m hl hm
    split at hd
    ·rename_i hq
     cases hc : de e m mx with
     | none => rw [hc] at hd; cases hd
     | some cc =>
      rw [hc] at hd
      simp only [Option.bind_some] at hd
      have hs : ∀ h2 : Zb, dI h2 (x.v e) l m xs.length cc = (dI h (x.v e) l m xs.length cc).map fun r => (r.1, h2) := by
       intro h2
       unfold dI
       split <;> first | rfl | (split <;> rfl)
      have hh : h1 = h := by
       have := hs h
       rw [hd] at this
       simpa using this
      refine ⟨hh, fun t => ?_⟩
      rw [iq hv]
      simp only [hl, hm, if_pos hq, hc, Option.bind_some]
      rw [hs (h ++ t), hd]
      rfl
    ·cases hd
   ·cases hd
  ·cases hd
 ·
  simp only [Yj] at hd ⊢
  obtain ⟨u, hu, rfl, rfl⟩ := aN (f := fun xs : List DV => DV.int .i64 xs.length) hd
  exact ⟨rfl, fun t => by rw [iq hu]; rfl⟩
 ·
  simp only [Yj] at hd ⊢
  split at hd
  case isFalse => cases hd
  rename_i kX
  rename_i ag ks z ok m k
  split at hd
  ·rename_i r hr
   obtain ⟨rfl, hh⟩ := ZD hd
   refine ⟨hh.symm, fun t => ?_⟩
   rw [if_pos kX]
   have : eX ag ks (h ++ t) (m.v e) (k.v e) = some r := by
    unfold eX at hr ⊢
    split at hr
    ·exact hr
    ·split at hr
     ·rename_i ho; rw [gY ho]; exact hr
     ·cases hr
    ·cases hr
   rw [this]
  ·cases hd
 ·
  simp only [Yj] at hd ⊢
  split at hd
  ·obtain ⟨rfl, rfl⟩ := ZD hd
   exact ⟨rfl, fun t => rfl⟩
  ·split at hd
   ·rename_i ho
    obtain ⟨rfl, rfl⟩ := ZD hd
    exact ⟨rfl, fun t => by rw [gY ho]⟩
   ·cases hd
  ·cases hd
theorem o7 {d : DV} (hf : d.flat2 = true) (h h2 : Zb) (sz : Nat) : vw h sz d = vw h2 sz d := by
 cases d <;> first | rfl | (simp [DV.flat2] at hf)
theorem CZ {d : DV} (hf : d.flat2 = true) (h h2 : Zb) (ag : Bool) (sz : Nat) : ay h ag sz d = ay h2 ag sz d := by
 cases d with
 | elem d cP i p => cases d <;> first | rfl | (simp [DV.flat2] at hf)
 | ref o p => simp [DV.flat2] at hf
 | _ => rfl
theorem yD {d : DV} (hf : d.flat2 = true) (h h2 : Zb) (ag : Bool) (ks : List Nat) (k : DV) : eX ag ks h d k = eX ag ks h2 d k := by
 cases d <;> first | rfl | (simp [DV.flat2] at hf)
theorem yF {x : XOp} (hk : x.kind = 1) {e : Env} (hf : x.frd e = true) {h h1 : Zb} {d : DV} (hd : Yj x e h = some (d, h1)) (h2 : Zb) : Yj x e h2 = some (d, h2) := by
 cases x <;> simp only [XOp.kind] at hk <;> try cases hk
 ·
  simp only [XOp.frd, XOp.main] at hf
  simp only [Yj] at hd ⊢
  obtain ⟨u, hu, rfl, rfl⟩ := aN (f := fun d => d) hd
  rw [CZ hf h2 h1, hu]; rfl
 ·
  rename_i ag sz x
  simp only [XOp.frd, XOp.main] at hf
  simp only [Yj] at hd ⊢
  cases hx : x.v e with
  | ref o p => rw [hx] at hf; simp [DV.flat2] at hf
  | _ => rw [hx] at hd; cases hd
 ·
  simp only [XOp.frd, XOp.main] at hf
  simp only [Yj] at hd ⊢
  rw [o7 hf h2 h]
  split at hd
  ·rename_i xs hv
   obtain ⟨u, hu, rfl, rfl⟩ := aN (f := fun bs : List UInt8 => DV.str ⟨bs.toArray⟩) hd
   simp only [hu]; rfl
  ·cases hd
 ·
  simp only [XOp.frd, XOp.main] at hf
  simp only [Yj] at hd ⊢
  rw [o7 hf h2 h]
  split at hd
  ·split at hd
   ·split at hd
    ·rename_i hq
     obtain ⟨rfl, rfl⟩ := ZD hd
     simp only [if_pos hq]
    ·cases hd
   ·cases hd
  ·cases hd
 ·
  rename_i sz x lo hi mx
  simp only [XOp.frd, XOp.main] at hf
  simp only [Yj] at hd ⊢
  rw [o7 hf h2 h]
  split at hd
  ·rename_i xs hv
   split at hd
   ·rename_i l m hl hm
    split at hd
    ·rename_i hq
     cases hc : de e m mx with
     | none => rw [hc] at hd; cases hd
     | some cc =>
      rw [hc] at hd
      simp only [Option.bind_some] at hd
      have hs : ∀ h2 : Zb, dI h2 (x.v e) l m xs.length cc = (dI h (x.v e) l m xs.length cc).map fun r => (r.1, h2) := by
       intro h2
       unfold dI
       split <;> first | rfl | (split <;> rfl)
      simp only [hl, hm, if_pos hq, Option.bind_some]
      rw [hs h2, hd]
      rfl
    ·cases hd
   ·cases hd
  ·cases hd
 ·
  simp only [XOp.frd, XOp.main] at hf
  simp only [Yj] at hd ⊢
  obtain ⟨u, hu, rfl, rfl⟩ := aN (f := fun xs : List DV => DV.int .i64 xs.length) hd
  rw [o7 hf h2 h1, hu]; rfl
 ·
  simp only [XOp.frd, XOp.main] at hf
  simp only [Yj] at hd ⊢
  split at hd
  case isFalse => cases hd
  rename_i kX
  rename_i ag ks z ok m k
  split at hd
  ·rename_i r hr
   obtain ⟨rfl, hh⟩ := ZD hd
   rw [if_pos kX]
   rw [yD hf h2 h, hr]
  ·cases hd
 ·
  rename_i m
  simp only [XOp.frd, XOp.main] at hf
  simp only [Yj] at hd ⊢
  cases hm : m.v e <;> rw [hm] at hd hf <;> first | (simp only at hd; cases hd; done) | (simp [DV.flat2] at hf; done) | (obtain ⟨rfl, rfl⟩ := ZD hd; rfl)
section
variable {P : Program} {β β' : Bm} {w w' : World} {h h' : Zb}
theorem vz {t : Zb} {o : Nat} (hx : ∃ x, h[o]? = some x) : (h ++ t)[o]? = h[o]? := by
 obtain ⟨x, hx⟩ := hx
 rw [gY hx, hx]
theorem wO {t : Zb} {sz : Nat} {d : DV} {v : Value} (hr : RV β w h d v) : vw (h ++ t) sz d = vw h sz d := by
 cases hr <;> simp only [vw]
 rename_i ho _ _
 rw [vz (by rcases ho with ho | ho <;> exact ⟨_, ho⟩)]
theorem C2 {t : Zb} {ag : Bool} {sz : Nat} {d : DV} {v : Value} (hr : RV β w h d v) : ay (h ++ t) ag sz d = ay h ag sz d := by
 cases hr <;> simp only [ay]
 ·rename_i ho; rw [vz ⟨_, ho⟩]
 ·rename_i hd hi; rw [wO hd]
theorem mE {t : Zb} {sz : Nat} {d : DV} (hr : (∃ v, RV β w h d v) ∨ d.flat1 = true) : vw (h ++ t) sz d = vw h sz d := by
 rcases hr with ⟨v, hr⟩ | hr
 ·exact wO hr
 ·cases d <;> first | rfl | cases hr
theorem tu {t : Zb} {ag : Bool} {sz : Nat} {d : DV} (hr : (∃ v, RV β w h d v) ∨ d.flat1 = true) : ay (h ++ t) ag sz d = ay h ag sz d := by
 rcases hr with ⟨v, hr⟩ | hr
 ·exact C2 hr
 ·cases d <;> first | rfl | cases hr
theorem yG {x : XOp} (hk : x.kind = 1) {e : Env} {a : Act} (hE : ∀ o : Od, x.main = some o → (∃ v, RV β w h (o.v e) v) ∨ (o.v e).flat1 = true) {t h1 : Zb} {d : DV} (hd : Yj x e (h ++ t) = some (d, h1)) : h1 = h ++ t ∧ Yj x e h = some (d, h) := by
 cases x <;> simp only [XOp.kind] at hk <;> try cases hk
 ·
  simp only [Yj] at hd ⊢
  obtain ⟨u, hu, rfl, rfl⟩ := aN (f := fun d => d) hd
  rename_i ag sz x
  have hv := hE x rfl
  rw [tu hv] at hu
  exact ⟨rfl, by rw [hu]; rfl⟩
 ·
  rename_i ag sz x
  have hv := hE x rfl
  simp only [Yj] at hd ⊢
  cases hx : x.v e with
  | ref o p =>
   rw [hx] at hd hv
   obtain ⟨u, hu, rfl, rfl⟩ := aN (f := fun d => d) hd
   rw [tu hv] at hu
   exact ⟨rfl, by simp only; rw [hu]; rfl⟩
  | _ => rw [hx] at hd; cases hd
 ·
  rename_i x
  have hv := hE x rfl
  simp only [Yj] at hd ⊢
  rw [mE hv] at hd
  split at hd
  ·obtain ⟨u, hu, rfl, rfl⟩ := aN (f := fun bs : List UInt8 => DV.str ⟨bs.toArray⟩) hd
   exact ⟨rfl, by simp only [hu]; rfl⟩
  ·cases hd
 ·
  rename_i sz x i
  have hv := hE x rfl
  simp only [Yj] at hd ⊢
  rw [mE hv] at hd
  split at hd
  ·split at hd
   ·split at hd
    ·rename_i hq
     obtain ⟨rfl, rfl⟩ := ZD hd
     exact ⟨rfl, by simp only [if_pos hq]⟩
    ·cases hd
   ·cases hd
  ·cases hd
 ·
  rename_i sz x lo hi mx
  have hv := hE x rfl
  simp only [Yj] at hd ⊢
  rw [mE hv] at hd
  split at hd
  ·rename_i xs nA
   split at hd
   ·rename_i l m hl hm
    split at hd
    ·rename_i hq
     cases hc : de e m mx with
     | none => rw [hc] at hd; cases hd
     | some cc =>
      rw [hc] at hd
      simp only [Option.bind_some] at hd
      have hs : ∀ h2 : Zb, dI h2 (x.v e) l m xs.length cc = (dI (h ++ t) (x.v e) l m xs.length cc).map fun r => (r.1, h2) := by
       intro h2
       unfold dI
       split <;> first | rfl | (split <;> rfl)
      have hh : h1 = h ++ t := by
       have := hs (h ++ t)
       rw [hd] at this
       simpa using this
      refine ⟨hh, ?_⟩
      simp only [hl, hm, if_pos hq, hc, Option.bind_some]
      rw [hs h, hd]
      rfl
    ·cases hd
   ·cases hd
  ·cases hd
 ·
  rename_i sz x
  have hv := hE x rfl
  simp only [Yj] at hd ⊢
  rw [mE hv] at hd
  obtain ⟨u, hu, rfl, rfl⟩ := aN (f := fun xs : List DV => DV.int .i64 xs.length) hd
  exact ⟨rfl, by rw [hu]; rfl⟩
 ·
  rename_i ag ks z ok m k
  have hv := hE m rfl
  simp only [Yj] at hd ⊢
  have hback : eX ag ks (h ++ t) (m.v e) (k.v e) = eX ag ks h (m.v e) (k.v e) := by
   generalize m.v e = mv at hv ⊢
   rcases hv with ⟨v, hv⟩ | hv
   ·cases hv <;> simp only [eX]
    rename_i ho; simp only [gY ho, ho]
   ·cases mv <;> first | rfl | (simp [DV.flat1] at hv; done)
  rw [hback] at hd
  split at hd
  case isFalse => cases hd
  rename_i kX
  rw [if_pos kX]
  split at hd
  ·obtain ⟨rfl, rfl⟩ := ZD hd
   exact ⟨rfl, rfl⟩
  ·cases hd
 ·
  rename_i m
  have hv := hE m rfl
  simp only [Yj] at hd ⊢
  generalize m.v e = mv at hv hd ⊢
  rcases hv with ⟨v, hv⟩ | hv
  case inr => cases mv <;> first | (simp at hd; done) | (obtain ⟨rfl, rfl⟩ := ZD hd; exact ⟨rfl, rfl⟩) | (simp [DV.flat1] at hv; done)
  cases hv
  case map hb ho =>
   simp only [gY ho] at hd
   simp only [ho]
   obtain ⟨rfl, rfl⟩ := ZD hd
   exact ⟨rfl, rfl⟩
  case nilm =>
   obtain ⟨rfl, rfl⟩ := ZD hd
   exact ⟨rfl, rfl⟩
  all_goals simp at hd
end
theorem Al (dst : Option Nat) (d : DV) (e : Env) (s : Nat) : lk (put dst d e) s = if dst = some s then d else lk e s := by
 cases dst with
 | none => simp [put]
 | some t => simp [put, lk]
theorem gZ {a : Act} {t s : Nat} {v : Value} (ht : t < a.tmps.size) : (a.put (some t) v).tmps.getD s undef = if t = s then v else a.tmps.getD s undef := by
 simp only [Act.put, Array.getD_eq_getD_getElem?, Array.getElem?_setIfInBounds]
 by_cases h : t = s
 ·subst h; simp [ht]
 ·simp [h]
theorem qJ {m : Nat} {B : List Nat} {j : Nat} {y : ah} : ∀ {xs : List ah} {i0 : Nat}, rowOk m B j y xs i0 = true → ∀ i x, xs[i]? = some x → i0 + i < j → jf x y = true ∧ nO m B (i0 + i) x j y = true
 | [], _, _, i, x, hx, _ => by simp at hx
 | x0 :: xs, i0, h, i, x, hx, hi => by
  unfold rowOk at h
  rw [if_pos (by omega)] at h
  simp only [Bool.and_eq_true] at h
  cases i with
  | zero => simp at hx; subst hx; exact h.1
  | succ i =>
   have := qJ h.2 i x (by simpa using hx) (by omega)
   rw [show i0 + 1 + i = i0 + (i + 1) by omega] at this
   exact this
theorem jV {m : Nat} {xs : List ah} {B : List Nat} : ∀ {Es : List (List Nat)} {ys : List ah} {j0 : Nat}, ug m xs B Es ys j0 = true → ∀ (j : Nat) es y, Es[j]? = some es → ys[j]? = some y →
 (∀ k ∈ es, k < j0 + j) ∧ qQ y.op = true ∧ (∀ i x, i < j0 + j → xs[i]? = some x → jf x y = true ∧ nO m B i x (j0 + j) y = true) ∧ (j0 + j < m → oC y = true)
 | [], _, _, _, j, es, y, he, _ => by simp at he
 | _ :: _, [], _, _, j, es, y, _, hy => by simp at hy
 | es0 :: Es, y0 :: ys, j0, h, j, es, y, he, hy => by
  unfold ug at h
  simp only [Bool.and_eq_true, List.all_eq_true, decide_eq_true_eq] at h
  cases j with
  | zero =>
   simp at he hy; subst he; subst hy
   refine ⟨h.1.1.1.1, h.1.1.1.2, fun i x hi hx => ?_, fun hm => ?_⟩
   ·have := qJ h.1.2 i x hx (by omega)
    simpa using this
   ·have := h.1.1.2
    rw [if_pos (by omega), Bool.and_eq_true] at this
    exact this.1
  | succ j =>
   have := jV h.2 j es y (by simpa using he) (by simpa using hy)
   rw [show j0 + 1 + j = j0 + (j + 1) by omega] at this
   exact this
def Closed (Es : List (List Nat)) (L : Nat → Prop) : Prop := ∀ (j : Nat) es, L j → Es[j]? = some es → ∀ k ∈ es, L k
theorem vE {acc : List Nat} : ∀ {es : List Nat} {m i : Nat}, (es.foldl (fun m j => m ||| 2 ^ j ||| acc.getD j 0) m).testBit i = true → m.testBit i = true ∨ ∃ k ∈ es, i = k ∨ (acc.getD k 0).testBit i = true
 | [], m, i, h => .inl h
 | k :: es, m, i, h => by
  rw [List.foldl_cons] at h
  rcases vE h with h1 | ⟨k', hk', h1⟩
  ·simp only [Nat.testBit_or, Bool.or_eq_true, Nat.testBit_two_pow, decide_eq_true_eq] at h1
   rcases h1 with (h1 | h1) | h1
   ·exact .inl h1
   ·exact .inr ⟨k, by simp, .inl h1.symm⟩
   ·exact .inr ⟨k, by simp, .inr h1⟩
  ·exact .inr ⟨k', by simp [hk'], h1⟩
theorem t6 {All : List (List Nat)} : ∀ {rest pre : List (List Nat)} {acc : List Nat}, All = pre ++ rest → acc.length = pre.length →
 (∀ j, j < acc.length → ∀ i, (acc.getD j 0).testBit i = true → ∀ L, Closed All L → (∀ es, All[j]? = some es → ∀ k ∈ es, L k) → L i) →
 ∀ j i, ((eZ rest acc).getD j 0).testBit i = true → ∀ L, Closed All L → (∀ es, All[j]? = some es → ∀ k ∈ es, L k) → L i
 | [], pre, acc, hA, hl, hacc, j, i, hb, L, hL, hj => by
  unfold eZ at hb
  by_cases hlt : j < acc.length
  ·exact hacc j hlt i hb L hL hj
  ·rw [List.getD_eq_getElem?_getD, List.getElem?_eq_none (by omega)] at hb
   simp at hb
 | es0 :: rest, pre, acc, hA, hl, hacc, j, i, hb, L, hL, hj => by
  unfold eZ at hb
  refine t6 (rest := rest) (pre := pre ++ [es0]) (acc := acc ++ [es0.foldl (fun m j => m ||| 2 ^ j ||| acc.getD j 0) 0]) (by simp [hA]) (by simp [hl]) (fun j hj i hb L hL EH => ?_) j i hb L hL hj
  by_cases hlt : j < acc.length
  ·rw [List.getD_eq_getElem?_getD, List.getElem?_append_left hlt, ← List.getD_eq_getElem?_getD] at hb
   exact hacc j hlt i hb L hL EH
  ·have M4 : j = acc.length := by simp at hj; omega
   subst M4
   rw [List.getD_eq_getElem?_getD, List.getElem?_append_right (Nat.le_refl _)] at hb
   simp only [Nat.sub_self, List.getElem?_cons_zero, Option.getD_some] at hb
   have hes : All[acc.length]? = some es0 := by rw [hA, hl, List.getElem?_append_right (Nat.le_refl _)]; simp
   rcases vE hb with h1 | ⟨k, hk, rfl | h1⟩
   ·simp at h1
   ·exact EH es0 hes i hk
   ·by_cases AQ : k < acc.length
    ·exact hacc k AQ i h1 L hL (fun es he => hL k es (EH es0 hes k hk) he)
    ·rw [List.getD_eq_getElem?_getD, List.getElem?_eq_none (by omega)] at h1
     simp at h1
structure TextRun (call : cg) (xs : List ah) (Ev : Nat → Env) (Hv : Nat → Zb) (Dv : Nat → DV) : Prop where
 op : ∀ (j : Nat) x, xs[j]? = some x → cV call x (Ev j) (Hv j) = some (Dv j, Hv (j + 1))
 env : ∀ (j : Nat) x, xs[j]? = some x → Ev (j + 1) = put x.dst (Dv j) (Ev j)
theorem qz {call : cg} : ∀ {xs : List ah} {e : Env} {h : Zb} {e' : Env} {h' : Zb}, ZF call xs e h = some (e', h') →
 ∃ Ev Hv Dv, TextRun call xs Ev Hv Dv ∧ Ev 0 = e ∧ Hv 0 = h ∧ Ev xs.length = e' ∧ Hv xs.length = h'
 | [], e, h, e', h', hr => by
  unfold ZF at hr
  obtain ⟨rfl, rfl⟩ := ZD hr
  exact ⟨fun _ => e, fun _ => h, fun _ => .undef, ⟨fun j x hx => by simp at hx, fun j x hx => by simp at hx⟩, rfl, rfl, rfl, rfl⟩
 | x :: xs, e, h, e', h', hr => by
  unfold ZF at hr
  split at hr
  ·rename_i d h1 hd
   obtain ⟨Ev, Hv, Dv, hT, gM, h2', II, OM⟩ := qz hr
   refine ⟨fun j => match j with | 0 => e | j + 1 => Ev j, fun j => match j with | 0 => h | j + 1 => Hv j, fun j => match j with | 0 => d | j + 1 => Dv j, ⟨fun j y hy => ?_, fun j y hy => ?_⟩, rfl, rfl, II, OM⟩
   ·cases j with
    | zero =>
     simp at hy; subst hy
     show cV call x e h = some (d, Hv 0)
     rw [hd, h2']
    | succ j => exact hT.op j y (by simpa using hy)
   ·cases j with
    | zero =>
     simp at hy; subst hy
     show Ev 0 = _
     rw [gM]
    | succ j => exact hT.env j y (by simpa using hy)
  ·cases hr
section
variable {call : cg} {xs : List ah} {Ev : Nat → Env} {Hv : Nat → Zb} {Dv : Nat → DV}
theorem TextRun.lk (hT : TextRun call xs Ev Hv Dv) (s : Nat) : ∀ j, j ≤ xs.length → (∃ i x, i < j ∧ xs[i]? = some x ∧ x.dst = some s ∧ Proofs.YteekbciaggmfgaaDoor.lk (Ev j) s = Dv i ∧ ∀ i' x', i < i' → i' < j → xs[i']? = some x' → x'.dst ≠ some s) ∨
 ((∀ i x, i < j → xs[i]? = some x → x.dst ≠ some s) ∧ Proofs.YteekbciaggmfgaaDoor.lk (Ev j) s = Proofs.YteekbciaggmfgaaDoor.lk (Ev 0) s)
 | 0, _ => .inr ⟨fun i x hi => by omega, rfl⟩
 | j + 1, hj => by
  obtain ⟨x, hx⟩ : ∃ x, xs[j]? = some x := ⟨xs[j], by simp⟩
  rw [hT.env j x hx, Al]
  by_cases hd : x.dst = some s
  ·rw [if_pos hd]
   exact .inl ⟨j, x, by omega, hx, hd, rfl, fun i' x' h1 h2 => by omega⟩
  ·rw [if_neg hd]
   rcases TextRun.lk hT s j (by omega) with ⟨i, x', h1, h2, h3, h4, h5⟩ | ⟨h1, h2⟩
   ·refine .inl ⟨i, x', by omega, h2, h3, h4, fun i' Nv q1 q2 q3 => ?_⟩
    by_cases hij : i' = j
    ·subst hij; rw [hx] at q3; injection q3 with q3; subst q3; exact hd
    ·exact h5 i' Nv q1 (by omega) q3
   ·refine .inr ⟨fun i x' q1 q2 => ?_, h2⟩
    by_cases hij : i = j
    ·subst hij; rw [hx] at q2; injection q2 with q2; subst q2; exact hd
    ·exact h1 i x' (by omega) q2
theorem TextRun.quiet (hT : TextRun call xs Ev Hv Dv) {i : Nat} {x : ah} (hx : xs[i]? = some x) (hk : x.op.kind ≠ 2) : Hv (i + 1) = Hv i := by
 have h1 := hT.op i x hx
 unfold cV at h1
 split at h1
 ·cases h1
 ·exact (ZD h1).2.symm
 ·split at h1
  ·rename_i d h' hd
   split at h1
   ·cases h1
   ·obtain ⟨rfl, rfl⟩ := ZD h1
    unfold ZR at hd
    have hk' : x.op.kind = 0 ∨ x.op.kind = 1 := by
     have : x.op.kind ≤ 2 := xg _
     omega
    rcases hk' with hk' | hk'
    ·rw [oz hk'] at hd
     simp only at hd
     rw [Ey hk' _ _ (Hv i)] at hd
     obtain ⟨y, _, _, h3⟩ := aN (f := fun d => d) hd
     exact h3
    ·rw [ky hk'] at hd
     exact (qT hk' hd).1
  ·cases h1
theorem TextRun.grow (hT : TextRun call xs Ev Hv Dv) {i : Nat} {x : ah} (hx : xs[i]? = some x) (hg : x.gr = true ∨ x.op.kind ≠ 2) : ∃ t, Hv (i + 1) = Hv i ++ t := by
 rcases hg with hg | hg
 ·have h1 := hT.op i x hx
  unfold cV at h1
  split at h1
  ·cases h1
  ·exact ⟨[], by rw [← (ZD h1).2]; simp⟩
  ·split at h1
   ·rename_i d h' hd
    split at h1
    ·cases h1
    ·rename_i hn
     obtain ⟨rfl, rfl⟩ := ZD h1
     have : (Hv (i + 1)).take (Hv i).length = Hv i := Classical.byContradiction fun hne => hn ⟨hg, .inl hne⟩
     exact ⟨(Hv (i + 1)).drop (Hv i).length, by have h5 := List.take_append_drop (Hv i).length (Hv (i + 1)); rw [this] at h5; exact h5.symm⟩
   ·cases h1
 ·exact ⟨[], by rw [hT.quiet hx hg]; simp⟩
theorem grows {Hv : Nat → Zb} {p : Nat} : ∀ q, p ≤ q → (∀ i, p ≤ i → i < q → ∃ t, Hv (i + 1) = Hv i ++ t) → ∃ t, Hv q = Hv p ++ t
 | 0, hpq, _ => ⟨[], by
  have : p = 0 := by omega
  subst this; simp⟩
 | q + 1, hpq, hg => by
  by_cases h : p = q + 1
  ·subst h; exact ⟨[], by simp⟩
  ·obtain ⟨t, ht⟩ := grows q (by omega) (fun i h1 h2 => hg i h1 (by omega))
   obtain ⟨t', ht'⟩ := hg q (by omega) (by omega)
   exact ⟨t ++ t', by rw [ht', ht, List.append_assoc]⟩
end
def t7 (P : Program) (op : Op) (x : XOp) : Prop := aK P op = some x ∨ (∃ t sz ps, aK P op = some (.mkslice true t sz ps) ∧ x = .mklist sz ps) ∨ ∃ ag sz o, aK P op = some (.load ag sz o) ∧ x = .loadb ag sz o
theorem zV : ∀ (cs : List DV) (h : Zb), (∀ x ∈ cs, Nr x) → uN cs h = some (cs, h)
 | [], _, _ => rfl
 | c :: cs, h, hn => by
  have h1 : uM h c = some (c, h) := by
   have := hn c List.mem_cons_self
   cases this <;> rfl
  unfold uN
  rw [h1]
  simp only
  rw [zV cs h fun x hx => hn x (List.mem_cons_of_mem _ hx)]
theorem xK : ∀ (cs : List DV) (h : Zb), (∀ x ∈ cs, Nr x) → cM cs h = some (cs, h)
 | [], _, _ => rfl
 | c :: cs, h, hn => by
  have h1 : rJ h c = some (c, h) := by
   have := hn c List.mem_cons_self
   cases this with
   | agg hh => simp only [rJ, zV _ h hh]
   | _ => rfl
  unfold cM
  rw [h1]
  simp only
  rw [xK cs h fun x hx => hn x (List.mem_cons_of_mem _ hx)]
theorem Af {sz : Nat} {ps : List Od} {e : Env} {h h' : Zb} {d : DV} (t : Nat) (hd : Yj (.mklist sz ps) e h = some (d, h')) : Yj (.mkslice true t sz ps) e h = some (d, h') := by
 simp only [Yj] at hd ⊢
 split at hd
 ·rename_i hq
  rw [xK _ h hq.2]
  simp only
  rw [if_pos hq.1]
  simp only [if_pos hq.2, if_true]
  exact hd
 ·cases hd
theorem CY {ag : Bool} {sz : Nat} {o : Od} {e : Env} {h h' : Zb} {d : DV} (hd : Yj (.loadb ag sz o) e h = some (d, h')) : Yj (.load ag sz o) e h = some (d, h') := by
 simp only [Yj] at hd ⊢
 split at hd
 ·rename_i b p hx
  rw [hx]; exact hd
 ·cases hd
theorem mM {x : XOp} (h : x.kind = 2) : x.isLb = false := by
 cases x <;> first | rfl | (simp [XOp.kind] at h)
theorem wA {h h' : Zb} {t sz bytes : Nat} {x d : DV} {xs ys : List DV} (hd : aX h t sz bytes x xs ys = some (d, h')) {b k : Nat} {cs : List DV} (hb : h[b]? = some (.box k cs)) : h'[b]? = some (.box k cs) := by
 unfold aX at hd
 have hlt := (List.getElem?_eq_some_iff.1 hb).1
 split at hd
 ·obtain ⟨_, rfl⟩ := ZD hd; exact hb
 ·split at hd
  ·split at hd
   ·obtain ⟨_, rfl⟩ := ZD hd; rw [List.getElem?_append_left hlt]; exact hb
   ·obtain ⟨_, rfl⟩ := ZD hd; rw [List.getElem?_append_left hlt]; exact hb
   ·obtain ⟨_, rfl⟩ := ZD hd; rw [List.getElem?_append_left hlt]; exact hb
   ·rename_i o g n
    split at hd
    ·rename_i t' cP g' zs ho
     have hne : o ≠ b := by rintro rfl; rw [hb] at ho; cases ho
     split at hd
     ·obtain ⟨_, rfl⟩ := ZD hd; rw [List.getElem?_set_ne hne]; exact hb
     ·split at hd
      ·obtain ⟨_, rfl⟩ := ZD hd; rw [List.getElem?_set_ne hne]; exact hb
      ·cases hd
    ·cases hd
   ·cases hd
  ·cases hd
theorem FT {call : cg} {x : ah} (hx : x.op.isAp = true) {e : Env} {h h' : Zb} {d : DV} (hd : cV call x e h = some (d, h')) {b k : Nat} {cs : List DV} (hb : h[b]? = some (.box k cs)) : h'[b]? = some (.box k cs) := by
 unfold cV at hd
 split at hd
 ·cases hd
 ·obtain ⟨_, rfl⟩ := ZD hd; exact hb
 ·split at hd
  ·rename_i d1 h1 h2
   split at hd
   ·cases hd
   ·obtain ⟨_, rfl⟩ := ZD hd
    cases hop : x.op <;> rw [hop] at hx h2 <;> simp only [XOp.isAp] at hx <;> try cases hx
    simp only [ZR, Zv, Yj] at h2
    split at h2
    ·exact wA h2 hb
    ·cases h2
  ·cases hd
theorem qs {Hv : Nat → Zb} {p : Nat} : ∀ q, p ≤ q → (∀ i, p ≤ i → i < q → ∀ (b k : Nat) (cs : List DV), (Hv i)[b]? = some (.box k cs) → (Hv (i + 1))[b]? = some (.box k cs)) → ∀ (b k : Nat) (cs : List DV), (Hv p)[b]? = some (.box k cs) → (Hv q)[b]? = some (.box k cs)
 | 0, hpq, _, b, k, cs, hb => by
  have : p = 0 := by omega
  subst this; exact hb
 | q + 1, hpq, hg, b, k, cs, hb => by
  by_cases h : p = q + 1
  ·subst h; exact hb
  ·exact hg q (by omega) (by omega) b k cs (qs q (by omega) (fun i h1 h2 => hg i h1 (by omega)) b k cs hb)
theorem rB {P : Program} {β : Bm} {w : World} {h h' : Zb} {call : cg} (hc : iO P call) (hI : Inv β w h) {e : Env} {a : Act} (hE : ER β w h e a) {o : Oper} {x : XOp} {d : DV} (hx : t7 P o.op x) (hd : ZR call x e h = some (d, h'))
 {K : Act → World → Prop} {Q : Exit → Act → World → Prop} (hK : ∀ v w' β', aj β w h β' w' h' → Inv β' w' h' → RV β' w' h' d v → K (a.put o.dst v) w') : o.wp P a w K Q := by
 rcases hx with hx | ⟨t, sz, ps, hx, rfl⟩ | ⟨ag, sz, q, hx, rfl⟩
 ·exact good_step hc hI hE hx hd hK
 ·exact good_step hc hI hE hx (show ZR call (.mkslice true t sz ps) e h = some (d, h') from Af t hd) hK
 ·exact good_step hc hI hE hx (show ZR call (.load ag sz q) e h = some (d, h') from CY hd) hK
def Conv (P : Program) (nt : Nat) (pm : Nat → Nat) (ops : List Oper) (xs : List ah) : Prop :=
 ops.length = xs.length ∧ ∀ (j : Nat) x, xs[j]? = some x → ∃ o, ops[pm j]? = some o ∧ t7 P o.op x.op ∧ o.dst = x.dst ∧ ej ops o.guard = some x.guard ∧ ∀ d, o.dst = some d → d < nt
theorem sw (ks : List Nat) (e : Env) (s : Nat) : lk (Za ks e) s = if s ∈ ks then lk e s else .undef := by
 unfold Za
 induction ks with
 | nil => simp [lk]
 | cons k ks ih =>
  simp only [List.map_cons, lk, ih]
  by_cases h : k = s
  ·subst h; simp
  ·simp [h, Ne.symm h]
section
variable {P : Program} {β β' : Bm} {w w' : World} {h h' : Zb}
theorem nI {ops : Array Oper} {o : Oper} {g : Option (Nat × Bool)} {e : Env} {a : Act} {b : Bool} (hg : ej ops.toList o.guard = some g) (hE : ∀ s q, g = some (s, q) → RV β w h (lk e s) (a.tmps.getD s undef)) (hw : wanted g e = some b) :
 Region.wanted o (yielded ops a.tmps) = b := by
 unfold Region.wanted
 cases hgo : o.guard with
 | none =>
  rw [hgo] at hg
  simp only [ej] at hg
  injection hg with hg; subst hg
  simp only [wanted] at hw
  injection hw
 | some jq =>
  obtain ⟨j, q⟩ := jq
  rw [hgo] at hg
  simp only [ej] at hg
  split at hg
  ·rename_i p hp
   split at hg
   ·rename_i s hs
    injection hg with hg; subst hg
    have hr := hE s q rfl
    simp only [wanted] at hw
    have hy : yielded ops a.tmps j = match a.tmps[s]? with | some (.bool b) => some b | _ => none := by
     unfold yielded
     have : (ops[j]?).bind (·.dst) = some s := by
      rw [Array.getElem?_toList] at hp
      rw [hp]; exact hs
     rw [this]; rfl
    simp only [hy]
    split at hw
    ·rename_i t ht
     injection hw with hw; subst hw
     rw [ht] at hr
     have : a.tmps[s]? = some (.bool t) := by
      rw [Array.getD_eq_getD_getElem?] at hr
      cases hq : a.tmps[s]? with
      | none => rw [hq] at hr; cases hr
      | some v => rw [hq] at hr; cases hr; rfl
     rw [this]
     cases t <;> cases q <;> rfl
    ·rename_i vs ht
     injection hw with hw; subst hw
     rw [ht] at hr
     have : ∀ t, a.tmps[s]? ≠ some (.bool t) := by
      intro t hq
      rw [Array.getD_eq_getD_getElem?, hq] at hr
      cases hr
     split
     ·rename_i b hb; exact absurd hb (this b)
     ·rfl
    ·cases hw
   ·cases hg
  ·cases hg
end
structure DSt (m : Nat) (xs : List ah) (Ev : Nat → Env) (Hv : Nat → Zb) (Dv : Nat → DV) (β0 : Bm) (w0 : World) (nt : Nat) (D : List Deferred) (L : Nat → Prop) (a : Act) (w : World) (β : Bm) (c : Nat) : Prop where
 le : c ≤ xs.length
 mle : m ≤ c
 ext : aj β0 w0 (Hv 0) β w (Hv c)
 inv : Inv β w (Hv c)
 size : a.tmps.size = nt
 defers : a.defers = D
 set : ∀ (i : Nat) x s, L i → xs[i]? = some x → x.dst = some s → RV β w (Hv c) (Dv i) (a.tmps.getD s undef)
 old : ∀ s, (∀ (i : Nat) x, L i → xs[i]? = some x → x.dst ≠ some s) → RV β w (Hv c) (lk (Ev 0) s) (a.tmps.getD s undef)
 done : ∀ (i : Nat) x, m ≤ i → i < c → xs[i]? = some x → x.op.kind = 2 → L i
 todo : ∀ (i : Nat) x, c ≤ i → xs[i]? = some x → L i → x.op.kind ≠ 2
 pend : ∀ (i : Nat) x, i < m → xs[i]? = some x → ¬ L i → ∃ t cs, x.op = .alloc t cs ∧ (Hv c)[(Hv 0).length + i]? = some (.box t cs) ∧ β ((Hv 0).length + i) = none
section
variable {P : Program} {call : cg} {xs : List ah} {Ev : Nat → Env} {Hv : Nat → Zb} {Dv : Nat → DV} {ops : Array Oper} {nt m : Nat} {pm : Nat → Nat} {Es : List (List Nat)} {B : List Nat}
theorem Bz (hc : iO P call) (hT : TextRun call xs Ev Hv Dv) (cA : Conv P nt pm ops.toList xs) (hB : B = eZ Es []) (IA : Es.length = xs.length) (hok : rP m Es xs B = true) (C8 : ∀ (i : Nat) x, i < m → xs[i]? = some x → Dv i = .ref ((Hv 0).length + i) 0) {β0 : Bm} {w0 : World} (h0 : Inv β0 w0 (Hv 0)) {D : List Deferred}
 {L : Nat → Prop} {j : Nat} (hL : Closed Es L) (pO : ¬ L j) (hj : j < xs.length) (iH : ∀ es, Es[j]? = some es → ∀ k ∈ es, L k) {a : Act} {w : World} {β : Bm} {c : Nat} (hS : DSt m xs Ev Hv Dv β0 w0 nt D L a w β c)
 {Q : Exit → Act → World → Prop} {K : Act → World → Prop} (hK : ∀ a' w' β' c', DSt m xs Ev Hv Dv β0 w0 nt D (fun i => L i ∨ i = j) a' w' β' c' → K a' w') : wpOp P ops Q (pm j) K a w := by
 obtain ⟨y, hy⟩ : ∃ y, xs[j]? = some y := ⟨xs[j], by simp⟩
 have hlo : ops.toList.length = xs.length := cA.1
 obtain ⟨o, ho, hop, hdst, hgd, hnt⟩ := cA.2 j y hy
 obtain ⟨es, hes⟩ : ∃ es, Es[j]? = some es := ⟨Es[j], by simp⟩
 have spec := fun (p : Nat) (z : ah) es (h1 : Es[p]? = some es) (h2 : xs[p]? = some z) => jV hok p es z h1 h2
 have IW : ∀ p, p < xs.length → ∃ es, Es[p]? = some es := fun p hp => ⟨Es[p], by simp⟩
 have pair : ∀ (i p : Nat) (x z : ah), m ≤ i → i < p → xs[i]? = some x → xs[p]? = some z → jf x z = true ∧ ((B.getD p 0).testBit i = true ∨ (iL x z = true ∧ iL z x = true ∧ gv x z = true)) := by
  intro i p x z pN EI hx hz
  have hp := (List.getElem?_eq_some_iff.1 hz).1
  obtain ⟨es, he⟩ := IW p hp
  have := (spec p z es he hz).2.2.1 i x (by omega) hx
  refine ⟨this.1, ?_⟩
  have h2 := this.2
  simp only [nO, Nat.zero_add, if_neg (show ¬ i < m by omega), Bool.or_eq_true, Bool.and_eq_true] at h2
  rcases h2 with h2 | ⟨⟨h2, h3⟩, h4⟩
  ·exact .inl h2
  ·exact .inr ⟨h2, h3, h4⟩
 have Er : ∀ (i p : Nat) (x z : ah), i < m → i < p → xs[i]? = some x → xs[p]? = some z → jf x z = true ∧ ((B.getD p 0).testBit i = true ∨ (iL x z = true ∧ (p < m ∨ z.op.kind ≠ 2 ∨ z.gr = true))) := by
  intro i p x z pN EI hx hz
  have hp := (List.getElem?_eq_some_iff.1 hz).1
  obtain ⟨es, he⟩ := IW p hp
  have := (spec p z es he hz).2.2.1 i x (by omega) hx
  refine ⟨this.1, ?_⟩
  have h2 := this.2
  simp only [nO, Nat.zero_add, if_pos pN, Bool.or_eq_true, Bool.and_eq_true, decide_eq_true_eq, bne_iff_ne, ne_eq] at h2
  rcases h2 with h2 | ⟨h2, (h3 | h3) | h3⟩
  ·exact .inl h2
  ·exact .inr ⟨h2, .inl h3⟩
  ·exact .inr ⟨h2, .inr (.inl h3)⟩
  ·exact .inr ⟨h2, .inr (.inr h3)⟩
 have qL : ∀ (i p : Nat) (x z : ah), i < p → xs[i]? = some x → xs[p]? = some z → jf x z = true ∧ ((B.getD p 0).testBit i = true ∨ iL x z = true) := by
  intro i p x z EI hx hz
  by_cases pN : i < m
  ·rcases Er i p x z pN EI hx hz with ⟨h1, h2 | h2⟩
   ·exact ⟨h1, .inl h2⟩
   ·exact ⟨h1, .inr h2.1⟩
  ·rcases pair i p x z (by omega) EI hx hz with ⟨h1, h2 | h2⟩
   ·exact ⟨h1, .inl h2⟩
   ·exact ⟨h1, .inr h2.1⟩
 have wh : ∀ p i, (B.getD p 0).testBit i = true → (∀ es, Es[p]? = some es → ∀ k ∈ es, L k) → L i := by
  intro p i hb hp
  subst hB
  exact t6 (All := Es) (rest := Es) (pre := []) (acc := []) rfl rfl (fun j hj => by simp at hj) p i hb L hL hp
 have DF : ∀ p i, (B.getD p 0).testBit i = true → L p → L i := fun p i hb hp => wh p i hb (fun es he => hL p es hp he)
 have NN : ∀ x : XOp, x.kind ≤ 2 := fun x => xg x
 have Ac : ∀ {x z : ah} {s : Nat}, iL x z = true → x.dst = some s → s ∉ z.looks := by
  intro x z s hoff hs hin
  simp only [iL, hs, Bool.not_eq_true', List.contains_eq_mem, decide_eq_false_iff_not] at hoff
  exact hoff hin
 have MC : ∀ v : Value, (a.put o.dst v).defers = a.defers := fun v => by cases o.dst <;> rfl
 have MB : ∀ v : Value, (a.put o.dst v).tmps.size = nt := fun v => by
  cases o.dst with
  | none => simpa [Act.put] using hS.size
  | some d => simpa [Act.put] using hS.size
 by_cases hjm : j < m
 ·obtain ⟨t, cs, hal, oH, hβ⟩ := hS.pend j y hjm hy pO
  have LZ := (spec j y es hes hy).2.2.2 (by omega)
  have rq : y.guard = none := by
   simp only [oC, Bool.and_eq_true, Option.isNone_iff_eq_none] at LZ
   exact LZ.1.2
  rw [hal] at hop
  have hop : aK P o.op = some (.alloc t cs) := by
   rcases hop with hop | ⟨_, _, _, _, hop⟩ | ⟨_, _, _, _, hop⟩
   ·exact hop
   ·cases hop
   ·cases hop
  have hw : Region.wanted o (yielded ops a.tmps) = true := by
   refine nI (β := β) (w := w) (h := Hv c) (e := Ev j) hgd (fun s q hq => ?_) (by rw [rq]; rfl)
   rw [rq] at hq; cases hq
  unfold wpOp
  rw [Array.getElem?_toList] at ho
  rw [ho]
  simp only
  rw [if_pos hw]
  refine .inl ?_
  refine Bf hS.inv hop hβ oH fun us dG => ?_
  have IB := Ext0.fill hS.inv (.cells us t) hβ
  have hk : (Hv 0).length ≤ (Hv 0).length + j := by omega
  refine hK _ _ (upd β ((Hv 0).length + j) w.heap.size) c ⟨hS.le, hS.mle, ⟨Ext0.trans h0 hS.ext.toExt0 IB, fun o' aF hn' => ?_⟩, dG, MB _, ?_, ?_, ?_, ?_, ?_, ?_⟩
  ·rw [Yh _ _ (by omega : o' ≠ (Hv 0).length + j)]; exact hS.ext.old o' aF hn'
  ·rw [MC]; exact hS.defers
  ·intro i x s dZ hx hxs
   rcases dZ with dZ | rfl
   ·have hne : i ≠ j := fun h => pO (h ▸ dZ)
    have hold := RV.ext0 IB (hS.set i x s dZ hx hxs)
    cases hd : o.dst with
    | none => exact hold
    | some d =>
     rw [gZ (by rw [hS.size]; exact hnt d hd)]
     have : d ≠ s := by
      rintro rfl
      rw [hdst] at hd
      rcases Nat.lt_or_gt_of_ne hne with hij | hij
      ·have := (qL i j x y hij hx hy).1
       simp [jf, hxs, hd] at this
      ·have := (qL j i y x hij hy hx).1
       simp [jf, hxs, hd] at this
     rw [if_neg this]
     exact hold
   ·rw [hy] at hx; injection hx with hx; subst hx
    rw [hdst, hxs, gZ (by rw [hS.size]; exact hnt s (by rw [hdst, hxs])), if_pos rfl, C8 i y hjm hy]
    exact .ref (ZW _ _ _) oH
  ·intro s hs
   have hold := RV.ext0 IB (hS.old s (fun i x dZ hx => hs i x (.inl dZ) hx))
   cases hd : o.dst with
   | none => exact hold
   | some d =>
    rw [gZ (by rw [hS.size]; exact hnt d hd)]
    have : d ≠ s := by
     rintro rfl
     exact hs j y (.inr rfl) hy (by rw [← hdst, hd])
    rw [if_neg this]
    exact hold
  ·intro i x pN nC hx dl
   exact .inl (hS.done i x pN nC hx dl)
  ·intro i x nC hx dZ
   rcases dZ with dZ | rfl
   ·exact hS.todo i x nC hx dZ
   ·have := hS.mle; omega
  ·intro i x pP hx AJ
   have hij : i ≠ j := fun h => AJ (.inr h)
   obtain ⟨t', cs', q1, q2, q3⟩ := hS.pend i x pP hx (fun h => AJ (.inl h))
   exact ⟨t', cs', q1, q2, by rw [Yh _ _ (by omega)]; exact q3⟩
 have EG : ∀ s ∈ y.looks, RV β w (Hv c) (lk (Ev j) s) (a.tmps.getD s undef) := by
  intro s hs
  rcases hT.lk s j (by omega) with ⟨i, x, h1, h2, h3, h4, h5⟩ | ⟨h1, h2⟩
  ·rw [h4]
   refine hS.set i x s ?_ h2 h3
   rcases (qL i j x y h1 h2 hy).2 with hb | hoff
   ·exact wh j i hb iH
   ·exact absurd hs (Ac hoff h3)
  ·rw [h2]
   refine hS.old s (fun i x dZ hx hxs => ?_)
   rcases Nat.lt_trichotomy i j with hij | hij | hij
   ·exact h1 i x hij hx hxs
   ·subst hij; exact pO dZ
   ·rcases (pair j i y x (by omega) hij hy hx).2 with hb | ⟨_, hoff, _⟩
    ·exact pO (DF i j hb dZ)
    ·exact Ac hoff hxs hs
 have tK : ER β w (Hv c) (Za y.looks (Ev j)) a := by
  intro s
  rw [sw]
  split
  ·rename_i hs; exact EG s hs
  ·exact .undef _
 have qW : ∀ b, wanted y.guard (Ev j) = some b → Region.wanted o (yielded ops a.tmps) = b := by
  intro b hb
  refine nI (β := β) (w := w) (h := Hv c) hgd (fun s q hq => ?_) hb
  exact EG s (by unfold ah.looks; rw [hq]; simp)
 have chain : y.op.kind = 2 → c ≤ j ∧ Hv j = Hv c := by
  intro hk
  have l7 : c ≤ j := by
   rcases Nat.lt_or_ge j c with h | h
   ·exact absurd (hS.done j y (by omega) h hy hk) pO
   ·exact h
  refine ⟨l7, ?_⟩
  have hq : ∀ q, c ≤ q → q ≤ j → Hv q = Hv c := by
   intro q
   induction q with
   | zero =>
    intro h1 _
    have : c = 0 := by omega
    subst this; rfl
   | succ q ih =>
    intro h1 h2
    by_cases hcq : c = q + 1
    ·rw [hcq]
    ·obtain ⟨x, hx⟩ : ∃ x, xs[q]? = some x := ⟨xs[q], by simp⟩
     have hnk : x.op.kind ≠ 2 := by
      intro dl
      rcases (pair q j x y (by have := hS.mle; omega) (by omega) hx hy).2 with hb | ⟨_, _, hcm⟩
      ·exact hS.todo q x (by omega) hx (wh j q hb iH) dl
      ·simp [gv, hk, dl, mM hk, mM dl] at hcm
     rw [hT.quiet hx hnk, ih (by omega) (by omega)]
  exact hq j l7 (Nat.le_refl _)
 have next : ∀ (v : Value) (w' : World) (β' : Bm) (c' : Nat), (y.op.kind = 2 → c' = j + 1) → (y.op.kind ≠ 2 → c' = c) → aj β w (Hv c) β' w' (Hv c') → Inv β' w' (Hv c') → RV β' w' (Hv c') (Dv j) v → K (a.put o.dst v) w' := by
  intro v w' β' c' hc1 hc2 he hi hr
  refine hK _ w' β' c' ⟨?_, ?_, aj.trans h0 hS.ext he, hi, ?_, ?_, ?_, ?_, ?_, ?_, ?_⟩
  ·by_cases hk : y.op.kind = 2
   ·rw [hc1 hk]; omega
   ·rw [hc2 hk]; exact hS.le
  ·by_cases hk : y.op.kind = 2
   ·rw [hc1 hk]; omega
   ·rw [hc2 hk]; exact hS.mle
  ·rw [hdst]
   cases hd : y.dst with
   | none => simpa [Act.put] using hS.size
   | some d => simpa [Act.put] using hS.size
  ·have : (a.put o.dst v).defers = a.defers := by cases o.dst <;> rfl
   rw [this]; exact hS.defers
  ·intro i x s dZ hx hxs
   rcases dZ with dZ | rfl
   ·have hne : i ≠ j := fun h => pO (h ▸ dZ)
    have hold := RV.ext he (hS.set i x s dZ hx hxs)
    cases hd : o.dst with
    | none => exact hold
    | some d =>
     rw [gZ (by rw [hS.size]; exact hnt d hd)]
     have : d ≠ s := by
      rintro rfl
      rw [hdst] at hd
      rcases Nat.lt_or_gt_of_ne hne with hij | hij
      ·have := (qL i j x y hij hx hy).1
       simp [jf, hxs, hd] at this
      ·have := (qL j i y x hij hy hx).1
       simp [jf, hxs, hd] at this
     rw [if_neg this]
     exact hold
   ·rw [hy] at hx; injection hx with hx; subst hx
    rw [hdst, hxs, gZ (by rw [hS.size]; exact hnt s (by rw [hdst, hxs])), if_pos rfl]
    exact hr
  ·intro s hs
   have hold := RV.ext he (hS.old s (fun i x dZ hx => hs i x (.inl dZ) hx))
   cases hd : o.dst with
   | none => exact hold
   | some d =>
    rw [gZ (by rw [hS.size]; exact hnt d hd)]
    have : d ≠ s := by
     rintro rfl
     exact hs j y (.inr rfl) hy (by rw [← hdst, hd])
    rw [if_neg this]
    exact hold
  ·intro i x pN nC hx dl
   by_cases hk : y.op.kind = 2
   ·rw [hc1 hk] at nC
    by_cases hij : i = j
    ·exact .inr hij
    ·by_cases cK : i < c
     ·exact .inl (hS.done i x pN cK hx dl)
     ·exfalso
      rcases (pair i j x y pN (by omega) hx hy).2 with hb | ⟨_, _, hcm⟩
      ·exact hS.todo i x (by omega) hx (wh j i hb iH) dl
      ·simp [gv, hk, dl, mM hk, mM dl] at hcm
   ·rw [hc2 hk] at nC
    exact .inl (hS.done i x pN nC hx dl)
  ·intro i x nC hx dZ
   rcases dZ with dZ | rfl
   ·refine hS.todo i x ?_ hx dZ
    by_cases hk : y.op.kind = 2
    ·rw [hc1 hk] at nC; have := (chain hk).1; omega
    ·rw [hc2 hk] at nC; exact nC
   ·rw [hy] at hx; injection hx with hx; subst hx
    intro hk
    rw [hc1 hk] at nC
    omega
  ·intro i x pP hx AJ
   obtain ⟨t, cs, q1, q2, q3⟩ := hS.pend i x pP hx (fun h => AJ (.inl h))
   have hlt : (Hv 0).length + i < (Hv c).length := (List.getElem?_eq_some_iff.1 q2).1
   refine ⟨t, cs, q1, ?_, he.old _ hlt q3⟩
   by_cases hk : y.op.kind = 2
   ·rw [hc1 hk]
    rcases (Er i j x y pP (by omega) hx hy).2 with hb | ⟨_, h3⟩
    ·exact absurd (.inl (wh j i hb iH)) AJ
    ·have hg : y.gr = true := by
      rcases h3 with h3 | h3 | h3
      ·exact absurd h3 hjm
      ·exact absurd hk h3
      ·exact h3
     obtain ⟨u, hu⟩ := hT.grow hy (.inl hg)
     rw [hu, (chain hk).2, List.getElem?_append_left hlt]
     exact q2
   ·rw [hc2 hk]; exact q2
 have hgo := hT.op j y hy
 unfold wpOp
 rw [Array.getElem?_toList] at ho
 rw [ho]
 simp only
 unfold cV at hgo
 split at hgo
 ·cases hgo
 ·rename_i hw
  obtain ⟨e1, e2⟩ := ZD hgo
  rw [if_neg (by rw [qW false hw]; simp)]
  by_cases hk : y.op.kind = 2
  ·refine next undef w β (j + 1) (fun _ => rfl) (fun h => absurd hk h) ?_ ?_ ?_
   ·rw [← e2, (chain hk).2]; exact aj.refl _ _ _
   ·rw [← e2, (chain hk).2]; exact hS.inv
   ·rw [← e1]; exact .tup .nil
  ·refine next undef w β c (fun h => absurd h hk) (fun _ => rfl) (aj.refl _ _ _) hS.inv ?_
   rw [← e1]; exact .tup .nil
 ·rename_i hw
  rw [if_pos (qW true hw)]
  split at hgo
  case h_2 => cases hgo
  rename_i d h1 hd
  split at hgo
  ·cases hgo
  rename_i AH
  obtain ⟨rfl, rfl⟩ := ZD hgo
  have eE := hd
  have hsl : ∀ s ∈ y.op.sl, lk (Ev j) s = lk (Za y.looks (Ev j)) s := by
   intro s hs
   rw [sw, if_pos (by unfold ah.looks; simp [hs])]
  rw [rI hsl] at hd
  refine .inl ?_
  by_cases hk : y.op.kind = 2
  ·rw [(chain hk).2] at hd
   exact rB hc hS.inv tK hop hd fun v w' β' q1 q2 q3 => next v w' β' (j + 1) (fun _ => rfl) (fun h => absurd hk h) q1 q2 q3
  ·have MX : ZR call y.op (Za y.looks (Ev j)) (Hv c) = some (Dv j, Hv c) := by
    have hk' : y.op.kind = 0 ∨ y.op.kind = 1 := by have := NN y.op; omega
    rcases hk' with lZ | kY
    ·unfold ZR at hd ⊢
     rw [oz lZ] at hd ⊢
     simp only at hd ⊢
     rw [Ey lZ _ _ (Hv j)]
     rw [hd]; rfl
    ·by_cases xh : y.gr = true
     ·have hf : y.op.frd (Ev j) = true := by
       cases hq : y.op.frd (Ev j) with
       | true => rfl
       | false => exact absurd ⟨xh, .inr hq⟩ AH
      rw [← rI hsl]
      unfold ZR at eE ⊢
      rw [ky kY] at eE ⊢
      simp only at eE ⊢
      exact yF kY hf eE (Hv c)
     have xh : y.gr = false := by simpa using xh
     unfold ZR at hd ⊢
     rw [ky kY] at hd ⊢
     simp only at hd ⊢
     cases cH : y.op.isLb
     case true =>
      obtain ⟨ag, sz, q, qV⟩ : ∃ ag sz q, y.op = .loadb ag sz q := by
       cases hop : y.op <;> rw [hop] at cH <;> simp only [XOp.isLb] at cH <;> first | exact ⟨_, _, _, rfl⟩ | cases cH
      have hkeep : ∀ (i : Nat) x, xs[i]? = some x → (x.op.kind = 2 → x.gr = true ∨ x.op.isAp = true) → ∀ (b k : Nat) (cs : List DV), (Hv i)[b]? = some (.box k cs) → (Hv (i + 1))[b]? = some (.box k cs) := by
       intro i x hx Ig b k cs hb
       by_cases dl : x.op.kind = 2
       ·rcases Ig dl with hg | ha
        ·obtain ⟨t, ht⟩ := hT.grow hx (.inl hg)
         rw [ht, List.getElem?_append_left (List.getElem?_eq_some_iff.1 hb).1]; exact hb
        ·exact FT ha (hT.op i x hx) hb
       ·rw [hT.quiet hx dl]; exact hb
      have hcom : ∀ {x : ah}, x.op.kind = 2 → (gv x y = true ∨ gv y x = true) → x.gr = true ∨ x.op.isAp = true := by
       intro x dl hcm
       rcases hcm with hcm | hcm <;> simp [gv, kY, dl, xh, mM dl, cH] at hcm <;> exact hcm
      have hmo := (spec j y es hes hy).2.1
      rw [qV] at hd hmo ⊢
      simp only [Yj] at hd ⊢
      cases hxv : q.v (Za y.looks (Ev j)) with
      | ref b p =>
       rw [hxv] at hd
       obtain ⟨u, hu, AA, Pb⟩ := aN (f := fun d => d) hd
       simp only
       have iV : ∃ v, RV β w (Hv c) (.ref b p) v := by
        cases q with
        | t n => exact ⟨_, by have := tK n; rw [show lk (Za y.looks (Ev j)) n = .ref b p from hxv] at this; exact this⟩
        | c dd =>
         simp only [qQ, XOp.main] at hmo
         rw [show dd = .ref b p from hxv] at hmo
         cases hmo
       obtain ⟨v, iV⟩ := iV
       have hbc : ∃ k cs, (Hv c)[b]? = some (.box k cs) := by cases iV with | ref hb ho => exact ⟨_, _, ho⟩
       have hsame : (Hv c)[b]? = (Hv j)[b]? := by
        rcases Nat.le_total c j with l7 | l7
        ·obtain ⟨k, cs, hb⟩ := hbc
         rw [hb, qs (Hv := Hv) (p := c) j l7 (fun i h1 h2 => by
          obtain ⟨x, hx⟩ : ∃ x, xs[i]? = some x := ⟨xs[i], by simp⟩
          refine hkeep i x hx (fun dl => ?_)
          rcases (pair i j x y (by have := hS.mle; omega) h2 hx hy).2 with hb | ⟨_, _, hcm⟩
          ·exact absurd dl (hS.todo i x h1 hx (wh j i hb iH))
          ·exact hcom dl (.inl hcm)) b k cs hb]
        ·have Ot : ∃ k cs, (Hv j)[b]? = some (.box k cs) := by
          simp only [ay] at hu
          split at hu
          ·exact ⟨_, _, by assumption⟩
          ·cases hu
         obtain ⟨k, cs, hb⟩ := Ot
         rw [hb, qs (Hv := Hv) (p := j) c l7 (fun i h1 h2 => by
          obtain ⟨x, hx⟩ : ∃ x, xs[i]? = some x := ⟨xs[i]'(by have := hS.le; omega), by simp⟩
          refine hkeep i x hx (fun dl => ?_)
          have dZ := hS.done i x (by omega) h2 hx dl
          have hij : j ≠ i := fun h => pO (h ▸ dZ)
          rcases (pair j i y x (by omega) (by omega) hy hx).2 with hb | ⟨_, _, hcm⟩
          ·exact absurd (DF i j hb dZ) pO
          ·exact hcom dl (.inr hcm)) b k cs hb]
       have xq : ay (Hv c) ag sz (.ref b p) = ay (Hv j) ag sz (.ref b p) := by simp only [ay]; rw [hsame]
       rw [xq, hu, AA]; rfl
      | _ => rw [hxv] at hd; cases hd
     rcases Nat.le_total c j with l7 | l7
     ·obtain ⟨t, ht⟩ := grows (Hv := Hv) (p := c) j l7 (fun i h1 h2 => by
       obtain ⟨x, hx⟩ : ∃ x, xs[i]? = some x := ⟨xs[i], by simp⟩
       refine hT.grow hx ?_
       by_cases dl : x.op.kind = 2
       ·rcases (pair i j x y (by have := hS.mle; omega) h2 hx hy).2 with hb | ⟨_, _, hcm⟩
        ·exact absurd dl (hS.todo i x h1 hx (wh j i hb iH))
        ·simp [gv, kY, dl, xh, mM dl, cH] at hcm
         exact .inl hcm
       ·exact .inr dl)
      rw [ht] at hd
      refine (yG (β := β) (w := w) kY (a := a) (fun o' aF => ?_) hd).2
      cases o' with
      | t n => exact .inl ⟨_, tK n⟩
      | c dd =>
       refine .inr ?_
       have hm := (spec j y es hes hy).2.1
       unfold qQ at hm
       rw [aF] at hm
       exact hm
     ·obtain ⟨t, ht⟩ := grows (Hv := Hv) (p := j) c l7 (fun i h1 h2 => by
       obtain ⟨x, hx⟩ : ∃ x, xs[i]? = some x := ⟨xs[i]'(by have := hS.le; omega), by simp⟩
       refine hT.grow hx ?_
       by_cases dl : x.op.kind = 2
       ·have dZ := hS.done i x (by omega) h2 hx dl
        have hij : j ≠ i := fun h => pO (h ▸ dZ)
        rcases (pair j i y x (by omega) (by omega) hy hx).2 with hb | ⟨_, _, hcm⟩
        ·exact absurd (DF i j hb dZ) pO
        ·simp [gv, kY, dl, xh, mM dl, cH] at hcm
         exact .inl hcm
       ·exact .inr dl)
      rw [ht]
      obtain ⟨q1, q2⟩ := qT kY hd
      exact q2 t
   exact rB hc hS.inv tK hop MX fun v w' β' q1 q2 q3 => next v w' β' c (fun h => absurd h hk) (fun _ => rfl) q1 q2 q3
end
section
variable {P : Program} {call : cg} {nt : Nat}
theorem oQ {ops : List Oper} : ∀ {l : List Oper} {xs : List ah}, mq P ops l = some xs → l.length = xs.length ∧ ∀ (i : Nat) o, l[i]? = some o → ∃ x, xs[i]? = some x ∧ aK P o.op = some x.op ∧ o.dst = x.dst ∧ ej ops o.guard = some x.guard
 | [], xs, h => by
  simp [mq] at h; subst h
  exact ⟨rfl, fun i o ho => by simp at ho⟩
 | o :: l, xs, h => by
  unfold mq at h
  split at h
  ·rename_i x r h1 h2
   injection h with h; subst h
   obtain ⟨q1, q2⟩ := oQ h2
   refine ⟨by simp [q1], fun i p hp => ?_⟩
   cases i with
   | zero =>
    simp at hp; subst hp
    unfold BA at h1
    split at h1
    ·rename_i y g h3 h4
     injection h1 with h1; subst h1
     exact ⟨_, rfl, h3, rfl, h4⟩
    ·cases h1
   | succ i => exact q2 i p (by simpa using hp)
  ·cases h
theorem ye {m : Nat} {xs : List ah} {B : List Nat} {i : Nat} {x : ah} (hx : xs[i]? = some x) : ∃ g, (qA m xs B)[i]? = some { x with gr := g } := by
 unfold qA
 refine ⟨HK m xs B i x, ?_⟩
 simp [List.getElem?_map, List.getElem?_zipIdx, hx]
theorem uA (m : Nat) (xs : List ah) (B : List Nat) : (qA m xs B).length = xs.length := by simp [qA]
theorem pG (hc : iO P call) {ops : Array Oper} {β0 : Bm} {w0 : World} {h0 : Zb} (L3 : Inv β0 w0 h0) {D : List Deferred} {e' : Env} {h' : Zb} {Q : Exit → Act → World → Prop}
 (hQ : ∀ β' w' a', aj β0 w0 h0 β' w' h' → Inv β' w' h' → ER β' w' h' e' a' → a'.tmps.size = nt → a'.defers = D → Q .normal a' w') :
 ∀ {l : List Oper} {xs : List ah} {e : Env} {h : Zb} {a : Act} {w : World} {β : Bm}, l.length = xs.length → (∀ (i : Nat) o, l[i]? = some o → ∃ x, xs[i]? = some x ∧ aK P o.op = some x.op ∧ o.dst = x.dst ∧ ej ops.toList o.guard = some x.guard ∧ ∀ d, o.dst = some d → d < nt) →
 ZF call xs e h = some (e', h') → aj β0 w0 h0 β w h → Inv β w h → ER β w h e a → a.tmps.size = nt → a.defers = D → wpList P ops Q l a w
 | [], xs, e, h, a, w, β, hl, hm, hev, hX, hI, hE, hs, hD => by
  obtain rfl : xs = [] := by cases xs with | nil => rfl | cons => simp at hl
  unfold ZF at hev
  obtain ⟨rfl, rfl⟩ := ZD hev
  exact hQ β w a hX hI hE hs hD
 | o :: l, [], e, h, a, w, β, hl, hm, hev, hX, hI, hE, hs, hD => by simp at hl
 | o :: l, x :: xs, e, h, a, w, β, hl, hm, hev, hX, hI, hE, hs, hD => by
  obtain ⟨x', hx', hop, hdst, hgd, hnt⟩ := hm 0 o rfl
  simp at hx'; subst hx'
  unfold ZF at hev
  split at hev
  case h_2 => cases hev
  rename_i d h1 hd
  have rest : ∀ v w' β', aj β w h β' w' h1 → Inv β' w' h1 → RV β' w' h1 d v → wpList P ops Q l (a.put o.dst v) w' := by
   intro v w' β' q1 q2 q3
   refine pG hc L3 hQ (by simpa using hl) (fun i p hp => hm (i + 1) p (by simpa using hp)) hev (aj.trans L3 hX q1) q2 (fun s => ?_) ?_ ?_
   ·rw [Al]
    cases hdd : o.dst with
    | none =>
     rw [if_neg (by rw [← hdst, hdd]; simp)]
     exact RV.ext q1 (hE s)
    | some t =>
     rw [gZ (by rw [hs]; exact hnt t hdd), ← hdst, hdd]
     by_cases hts : t = s
     ·subst hts; rw [if_pos rfl, if_pos rfl]; exact q3
     ·rw [if_neg hts, if_neg (by simpa using hts)]; exact RV.ext q1 (hE s)
   ·cases o.dst <;> simpa [Act.put] using hs
   ·have : (a.put o.dst v).defers = a.defers := by cases o.dst <;> rfl
    rw [this]; exact hD
  have qW : ∀ b, wanted x.guard e = some b → Region.wanted o (yielded ops a.tmps) = b := fun b hb => nI (β := β) (w := w) (h := h) hgd (fun s q hq => hE s) hb
  unfold wpList
  unfold cV at hd
  split at hd
  ·cases hd
  ·rename_i hw
   obtain ⟨e1, e2⟩ := ZD hd
   rw [if_neg (by rw [qW false hw]; simp)]
   subst e2
   exact rest undef w β (aj.refl _ _ _) hI (by rw [← e1]; exact .tup .nil)
  ·rename_i hw
   rw [if_pos (qW true hw)]
   split at hd
   case h_2 => cases hd
   rename_i d' h2 hd'
   split at hd
   ·cases hd
   obtain ⟨rfl, rfl⟩ := ZD hd
   exact .inl (good_step hc hI hE hop hd' rest)
theorem yB {d : DV} (h : d.zeroish = true) : Nr d := by
 cases d <;> first | (constructor; done) | cases h
def E9 (x : HO) : Prop := ∃ t cs, x = .box t cs ∧ ∀ c ∈ cs, Nr c
theorem aj.holes {β : Bm} {w : World} {h : Zb} (hI : Inv β w h) (l : Zb) : aj β w h β w (h ++ l) where
 os := rfl
 tape := rfl
 output := rfl
 size := Nat.le_refl _
 len := by simp
 keep _ _ _ := rfl
 old _ _ hn := hn
 new _ _ hb := .inl hb
 obj o b y hb hy := jR w b β o _ y hb (by rw [List.getElem?_append_left (hI.lt o b hb).1]; exact hy)
theorem Inv.holes {β : Bm} {w : World} {h : Zb} (hI : Inv β w h) {l : Zb} (hl : ∀ x ∈ l, E9 x) : Inv β w (h ++ l) := by
 refine hI.step (aj.holes hI l) (fun o b hb => ⟨by have := (hI.lt o b hb).1; simp; omega, (hI.lt o b hb).2⟩) hI.inj (fun o ho => ?_) (fun o b x hb hx => ?_)
 ·by_cases h1 : o < h.length
  ·rcases hI.tot o h1 with h2 | h2
   ·exact .inl h2
   ·exact .inr (h2.app l)
  ·refine .inr ?_
   have aF : o - h.length < l.length := by simp at ho; omega
   obtain ⟨t, cs, h2, h3⟩ := hl _ (List.getElem_mem aF)
   exact ⟨t, cs, by rw [List.getElem?_append_right (by omega), List.getElem?_eq_getElem aF, h2], h3⟩
 ·have hlt := hI.lt o b hb
  rw [List.getElem?_append_left hlt.1] at hx
  exact .inl ⟨hb, hx, rfl⟩
theorem JX {x : ah} (hx : oC x = true) {e : Env} {h : Zb} {d : DV} {h' : Zb} (hr : cV call x e h = some (d, h')) : ∃ t cs, x.op = .alloc t cs ∧ (∀ c ∈ cs, Nr c) ∧ d = .ref h.length 0 ∧ h' = h ++ [.box t cs] := by
 unfold oC at hx
 simp only [Bool.and_eq_true, Option.isNone_iff_eq_none] at hx
 obtain ⟨⟨h1, h2⟩, h3⟩ := hx
 split at h1
 ·rename_i t cs hop
  have hw : wanted x.guard e = some true := by rw [h2]; rfl
  unfold cV at hr
  rw [hw] at hr
  simp only at hr
  have hd : ZR call x.op e h = some (.ref h.length 0, h ++ [.box t cs]) := by
   rw [hop]; rfl
  rw [hd] at hr
  simp only at hr
  split at hr
  ·cases hr
  ·obtain ⟨rfl, rfl⟩ := ZD hr
   exact ⟨t, cs, hop, fun c hc => yB (List.all_eq_true.1 h1 c hc), rfl, rfl⟩
 ·cases h1
theorem lead {xs : List ah} {Ev : Nat → Env} {Hv : Nat → Zb} {Dv : Nat → DV} (hT : TextRun call xs Ev Hv Dv) {m : Nat} (hm : m ≤ xs.length) (hal : ∀ (i : Nat) x, i < m → xs[i]? = some x → oC x = true) :
 ∀ i, i ≤ m → ∃ l, Hv i = Hv 0 ++ l ∧ l.length = i ∧ (∀ x ∈ l, E9 x) ∧ ∀ (k : Nat) x, k < i → xs[k]? = some x → ∃ t cs, x.op = .alloc t cs ∧ l[k]? = some (.box t cs) ∧ Dv k = .ref ((Hv 0).length + k) 0
 | 0, _ => ⟨[], by simp, rfl, by simp, fun k x hk => by omega⟩
 | i + 1, hi => by
  obtain ⟨l, h1, h2, h3, h4⟩ := lead hT hm hal i (by omega)
  obtain ⟨x, hx⟩ : ∃ x, xs[i]? = some x := ⟨xs[i]'(by omega), by simp⟩
  obtain ⟨t, cs, q1, q2, q3, q4⟩ := JX (hal i x (by omega) hx) (hT.op i x hx)
  refine ⟨l ++ [.box t cs], by rw [q4, h1, List.append_assoc], by simp [h2], fun y hy => ?_, fun k y hk hy => ?_⟩
  ·rcases List.mem_append.1 hy with hy | hy
   ·exact h3 y hy
   ·simp at hy; subst hy; exact ⟨t, cs, rfl, q2⟩
  ·by_cases hki : k = i
   ·subst hki
    rw [hx] at hy; injection hy with hy; subst hy
    refine ⟨t, cs, q1, by rw [List.getElem?_append_right (by omega), h2]; simp, ?_⟩
    rw [q3, h1, List.length_append, h2]
   ·obtain ⟨t', cs', p1, p2, p3⟩ := h4 k y (by omega) hy
    exact ⟨t', cs', p1, by rw [List.getElem?_append_left (by omega)]; exact p2, p3⟩
theorem Dw (hc : iO P call) {xs : List ah} {Ev : Nat → Env} {Hv : Nat → Zb} {Dv : Nat → DV} (hT : TextRun call xs Ev Hv Dv) {ops : Array Oper} {m : Nat} {pm ps : Nat → Nat} (cA : Conv P nt pm ops.toList xs)
 (hpm : ∀ j, j < ops.size → pm j < ops.size ∧ ps (pm j) = j) (hps : ∀ i, i < ops.size → ps i < ops.size ∧ pm (ps i) = i) (hlt : ∀ (i : Nat) o, ops[i]? = some o → ∀ k ∈ dm o, k < ops.size)
 {Es : List (List Nat)} (L4 : Es.length = xs.length) (IA : ∀ (j : Nat) o, j < ops.size → ops[pm j]? = some o → Es[j]? = some ((dm o).map ps)) (hok : rP m Es xs (eZ Es []) = true)
 (C8 : ∀ (i : Nat) x, i < m → xs[i]? = some x → Dv i = .ref ((Hv 0).length + i) 0)
 {β0 : Bm} {w0 : World} (h0 : Inv β0 w0 (Hv 0)) {D : List Deferred} {Q : Exit → Act → World → Prop}
 (hQ : ∀ β' w' a', aj β0 w0 (Hv 0) β' w' (Hv xs.length) → Inv β' w' (Hv xs.length) → ER β' w' (Hv xs.length) (Ev xs.length) a' → a'.tmps.size = nt → a'.defers = D → Q .normal a' w') :
 ∀ (fuel : Nat) (listed : Array Bool) (a : Act) (w : World) (β : Bm) (c : Nat), listed.size = ops.size → ((List.range ops.size).filter fun i => !listed.getD i true).length ≤ fuel → Closed Es (fun j => j < ops.size ∧ listed[pm j]? = some true) →
  DSt m xs Ev Hv Dv β0 w0 nt D (fun j => j < ops.size ∧ listed[pm j]? = some true) a w β c → wpAny P .any ops Q fuel listed a w := by
 have lX : ops.size = xs.length := by have := cA.1; simpa using this
 have edge : ∀ (j : Nat) es, Es[j]? = some es → ∀ k ∈ es, k < j := by
  intro j es he k hk
  have hj := (List.getElem?_eq_some_iff.1 he).1
  rw [L4] at hj
  obtain ⟨y, hy⟩ : ∃ y, xs[j]? = some y := ⟨xs[j], by simp⟩
  have := (jV hok j es y he hy).1 k hk
  omega
 have K5 : ∀ listed : Array Bool, listed.size = ops.size → Region.ready .any ops listed = [] → ∀ j, j < ops.size → listed[pm j]? = some true := by
  intro listed hsz hr j
  induction j using Nat.strongRecOn with
  | _ j ih =>
   intro hj
   have hi := (hpm j hj).1
   generalize hpi : pm j = i at hi
   refine Classical.byContradiction fun hne => ?_
   have AO : listed.getD i true = false := by
    rw [Array.getD_eq_getD_getElem?]
    have : listed[i]? = some listed[i] := Array.getElem?_eq_getElem (by omega)
    rw [this] at hne ⊢
    cases hb : listed[i] with
    | true => rw [hb] at hne; exact absurd rfl hne
    | false => rfl
   obtain ⟨o, ho⟩ : ∃ o, ops[i]? = some o := ⟨ops[i], by simp [hi]⟩
   have hmem : i ∈ Region.ready .any ops listed := by
    unfold Region.ready
    rw [List.mem_filter]
    refine ⟨List.mem_range.2 hi, ?_⟩
    rw [AO, ho]
    simp only [Bool.not_false, Bool.true_and, Option.map_some, Option.getD_some]
    rw [Array.all_eq_true_iff_forall_mem]
    intro e he
    by_cases hb : Region.binds .any e = true
    ·have hk : e.on ∈ dm o := List.mem_map.2 ⟨e, List.mem_filter.2 ⟨Array.mem_toList_iff.2 he, hb⟩, rfl⟩
     have hkn := hlt i o ho e.on hk
     have hq := hps e.on hkn
     have hE := IA j o hj (by rw [hpi]; exact ho)
     have C5 := edge j _ hE (ps e.on) (List.mem_map.2 ⟨_, hk, rfl⟩)
     have := ih (ps e.on) C5 (by omega)
     rw [hq.2] at this
     rw [Array.getD_eq_getD_getElem?, this]
     simp
    ·simp [hb]
   rw [hr] at hmem
   cases hmem
 have finish : ∀ (listed : Array Bool) (a : Act) (w : World) (β : Bm) (c : Nat), listed.size = ops.size → (∀ j, j < ops.size → listed[pm j]? = some true) → DSt m xs Ev Hv Dv β0 w0 nt D (fun j => j < ops.size ∧ listed[pm j]? = some true) a w β c → Q .normal a w := by
  intro listed a w β c hsz hall hS
  have hH : Hv xs.length = Hv c := by
   have hq : ∀ q, c ≤ q → q ≤ xs.length → Hv q = Hv c := by
    intro q
    induction q with
    | zero =>
     intro h1 _
     have : c = 0 := by omega
     subst this; rfl
    | succ q ih =>
     intro h1 h2
     by_cases hcq : c = q + 1
     ·rw [hcq]
     ·obtain ⟨x, hx⟩ : ∃ x, xs[q]? = some x := ⟨xs[q], by simp⟩
      rw [hT.quiet hx (hS.todo q x (by omega) hx ⟨by omega, hall q (by omega)⟩), ih (by omega) (by omega)]
   exact hq _ hS.le (Nat.le_refl _)
  rw [hH] at hQ
  refine hQ β w a hS.ext hS.inv (fun s => ?_) hS.size hS.defers
  rcases hT.lk s xs.length (Nat.le_refl _) with ⟨i, x, h1, h2, h3, h4, h5⟩ | ⟨h1, h2⟩
  ·rw [h4]; exact hS.set i x s ⟨by omega, hall i (by omega)⟩ h2 h3
  ·rw [h2]; exact hS.old s (fun i x _ hx => h1 i x (List.getElem?_eq_some_iff.1 hx).1 hx)
 intro fuel
 induction fuel with
 | zero =>
  intro listed a w β c hsz hf hcl hS
  have hall : ∀ i, i < ops.size → listed[i]? = some true := by
   intro i hi
   have hnil := List.length_eq_zero_iff.1 (Nat.le_zero.1 hf)
   refine Classical.byContradiction fun hne => ?_
   have : i ∈ (List.range ops.size).filter fun i => !listed.getD i true := by
    rw [List.mem_filter]
    refine ⟨List.mem_range.2 hi, ?_⟩
    rw [Array.getD_eq_getD_getElem?]
    have : listed[i]? = some listed[i] := Array.getElem?_eq_getElem (by omega)
    rw [this] at hne ⊢
    cases hb : listed[i] with
    | true => rw [hb] at hne; exact absurd rfl hne
    | false => rfl
   rw [hnil] at this
   cases this
  refine ⟨?_, finish listed a w β c hsz (fun j hj => hall (pm j) (hpm j hj).1) hS⟩
  unfold Region.ready
  rw [List.filter_eq_nil_iff]
  intro i hi
  rw [Array.getD_eq_getD_getElem?, hall i (List.mem_range.1 hi)]
  simp
 | succ fuel ih =>
  intro listed a w β c hsz hf hcl hS
  refine ⟨fun hr => finish listed a w β c hsz (K5 listed hsz hr) hS, fun i hi => ?_⟩
  unfold Region.ready at hi
  rw [List.mem_filter] at hi
  obtain ⟨LH, hcond⟩ := hi
  have hin := List.mem_range.1 LH
  obtain ⟨N7, hpi⟩ := hps i hin
  obtain ⟨o, ho⟩ : ∃ o, ops[i]? = some o := ⟨ops[i], by simp [hin]⟩
  rw [ho] at hcond
  simp only [Option.map_some, Option.getD_some, Bool.and_eq_true, Bool.not_eq_true'] at hcond
  obtain ⟨AO, AV⟩ := hcond
  have hnl : ¬ (ps i < ops.size ∧ listed[pm (ps i)]? = some true) := by
   rw [hpi]
   intro h; rw [Array.getD_eq_getD_getElem?, h.2] at AO; simp at AO
  have iH : ∀ es, Es[ps i]? = some es → ∀ k ∈ es, k < ops.size ∧ listed[pm k]? = some true := by
   intro es he k hk
   rw [IA (ps i) o N7 (by rw [hpi]; exact ho)] at he
   injection he with he; subst he
   obtain ⟨k0, lZ, rfl⟩ := List.mem_map.1 hk
   have hkn := hlt i o ho k0 lZ
   obtain ⟨e, he, rfl⟩ := List.mem_map.1 lZ
   rw [List.mem_filter] at he
   rw [Array.all_eq_true_iff_forall_mem] at AV
   have := AV e (Array.mem_toList_iff.1 he.1)
   rw [he.2] at this
   simp only [Bool.not_true, Bool.false_or] at this
   rw [Array.getD_eq_getD_getElem?] at this
   refine ⟨(hps e.on hkn).1, ?_⟩
   rw [(hps e.on hkn).2]
   cases hq : listed[e.on]? with
   | none => rw [hq] at this; cases this
   | some b => rw [hq] at this; simp at this; rw [this]
  have ZX : ∀ k, (k < ops.size ∧ (listed.setIfInBounds i true)[pm k]? = some true) ↔ ((k < ops.size ∧ listed[pm k]? = some true) ∨ k = ps i) := by
   intro k
   by_cases hk : k < ops.size
   ·rw [Array.getElem?_setIfInBounds]
    by_cases hki : i = pm k
    ·have : k = ps i := by rw [hki]; exact (hpm k hk).2.symm
     subst hki; simp [this.symm, hk, hsz, hin]
    ·have : k ≠ ps i := fun h => hki (by rw [h, hpi])
     simp [hki, this]
   ·have : k ≠ ps i := fun h => hk (by omega)
    simp [hk, this]
  have hgoal := Bz hc hT cA (B := eZ Es []) rfl L4 hok C8 h0 hcl hnl (by omega) iH hS (Q := Q) (K := fun a' w' => wpAny P .any ops Q fuel (listed.setIfInBounds i true) a' w') (fun a' w' β' c' Ow => ?_)
  ·rw [hpi] at hgoal; exact hgoal
  have Iz : (fun k => k < ops.size ∧ (listed.setIfInBounds i true)[pm k]? = some true) = fun k => (k < ops.size ∧ listed[pm k]? = some true) ∨ k = ps i := funext fun k => propext (ZX k)
  refine ih (listed.setIfInBounds i true) a' w' β' c' (by simpa using hsz) ?_ ?_ (by rw [Iz]; exact Ow)
  ·have hlt : (((List.range ops.size).filter fun i => !listed.getD i true).filter fun k => k != i).length < ((List.range ops.size).filter fun i => !listed.getD i true).length := by
    rw [List.length_filter_lt_length_iff_exists]
    exact ⟨i, List.mem_filter.2 ⟨LH, by rw [AO]; rfl⟩, by simp⟩
   have heq : ((List.range ops.size).filter fun k => !(listed.setIfInBounds i true).getD k true) = (((List.range ops.size).filter fun i => !listed.getD i true).filter fun k => k != i) := by
    rw [List.filter_filter]
    refine List.filter_congr fun k hk => ?_
    rw [Array.getD_eq_getD_getElem?, Array.getElem?_setIfInBounds, Array.getD_eq_getD_getElem?]
    by_cases hki : i = k
    ·subst hki; simp [hsz, List.mem_range.1 hk]
    ·simp [hki, Ne.symm hki]
   rw [heq]; omega
  ·rw [Iz]
   intro j es hj he k hk
   rcases hj with hj | rfl
   ·exact .inl (hcl j es hj he k hk)
   ·exact .inl (iH es he k hk)
structure Drawn (ops : List Oper) (xs xs' : List ah) (m : Nat) (pm ps : Nat → Nat) (Es : List (List Nat)) : Prop where
 len : xs'.length = xs.length
 mle : m ≤ xs.length
 hpm : ∀ j, j < xs.length → pm j < xs.length ∧ ps (pm j) = j
 hps : ∀ i, i < xs.length → ps i < xs.length ∧ pm (ps i) = i
 lt : ∀ (i : Nat) o, ops[i]? = some o → ∀ k ∈ dm o, k < xs.length
 el : Es.length = xs.length
 es : ∀ (j : Nat) o, j < xs.length → ops[pm j]? = some o → Es[j]? = some ((dm o).map ps)
 op : ∀ (j : Nat), j < xs.length → ∃ x g, xs[pm j]? = some x ∧ xs'[j]? = some { x with gr := g }
 ok : rP m Es xs' (eZ Es []) = true
theorem iM {ops : List Oper} {xs xs' : List ah} {E : List Nat} (hl : ops.length = xs.length) (h : mY (ops.map dm) xs E = some xs') : ∃ m pm ps Es, Drawn ops xs xs' m pm ps Es := by
 unfold mY at h
 simp only at h
 split at h
 case isFalse => cases h
 rename_i hc
 injection h with h
 generalize hO : Et xs.length E = O at h hc
 simp only [Bool.and_eq_true, decide_eq_true_eq, List.all_eq_true] at hc
 obtain ⟨⟨⟨⟨h1, h2⟩, h3⟩, h4⟩, h5⟩ := hc
 unfold zY at h1
 simp only [Bool.and_eq_true, decide_eq_true_eq, List.all_eq_true, List.mem_range] at h1
 obtain ⟨⟨p1, p2⟩, p3⟩ := h1
 have LV : ∀ j, j < xs.length → O[j]? = some (O.getD j xs.length) := by
  intro j hj
  rw [List.getD_eq_getElem?_getD, List.getElem?_eq_getElem (by omega)]; rfl
 refine ⟨E.length, fun j => O.getD j xs.length, fun i => O.idxOf i, O.map (fun i => ((ops.map dm).getD i []).map fun k => O.idxOf k), ?_⟩
 refine ⟨by rw [← h, uA]; simpa using p1, h4, p3, fun i hi => ⟨(p2 i hi).2, (p2 i hi).1⟩, fun i o ho k hk => h2 (dm o) (List.mem_map.2 ⟨o, List.mem_of_getElem? ho, rfl⟩) k hk, by simpa using p1, fun j o hj ho => ?_, fun j hj => ?_, by rw [← h]; exact h5⟩
 ·rw [List.getElem?_map, LV j hj]
  simp only [Option.map_some, List.getD_eq_getElem?_getD, List.getElem?_map] at ho ⊢
  rw [ho]; rfl
 ·have hx : xs[O.getD j xs.length]? = some (xs[O.getD j xs.length]'(p3 j hj).1) := List.getElem?_eq_getElem _
  have hy : (O.map fun i => xs.getD i Ae)[j]? = some (xs[O.getD j xs.length]'(p3 j hj).1) := by
   rw [List.getElem?_map, LV j hj]
   simp only [Option.map_some]
   rw [List.getD_eq_getElem?_getD, hx]; rfl
  obtain ⟨g, hg⟩ := ye (m := E.length) (B := eZ (O.map (fun i => ((ops.map dm).getD i []).map fun k => O.idxOf k)) []) hy
  exact ⟨_, g, hx, by rw [← h]; exact hg⟩
theorem Cu (x : ah) : (nu x).dst = x.dst ∧ (nu x).guard = x.guard ∧ ∀ P op, aK P op = some x.op → t7 P op (nu x).op := by
 unfold nu
 split
 ·rename_i t sz ps h
  exact ⟨rfl, rfl, fun P op hc => .inr (.inl ⟨t, sz, ps, by rw [hc, h], rfl⟩)⟩
 ·exact ⟨rfl, rfl, fun P op hc => .inl hc⟩
theorem Cv (xs : List ah) (B : List Nat) (x : ah) (i : Nat) : (r8 xs B x i).dst = x.dst ∧ (r8 xs B x i).guard = x.guard ∧ ∀ P op, aK P op = some x.op → t7 P op (r8 xs B x i).op := by
 unfold r8
 split
 ·rename_i ag sz o h
  split
  ·exact ⟨rfl, rfl, fun P op hc => .inr (.inr ⟨ag, sz, o, by rw [hc, h], rfl⟩)⟩
  ·exact ⟨rfl, rfl, fun P op hc => .inl hc⟩
 ·exact ⟨rfl, rfl, fun P op hc => .inl hc⟩
theorem zf {P : Program} {ops : List Oper} {xs xs' : List ah} (hl : ops.length = xs.length) (cA : ∀ (i : Nat) o, ops[i]? = some o → ∃ x, xs[i]? = some x ∧ aK P o.op = some x.op ∧ o.dst = x.dst ∧ ej ops o.guard = some x.guard) (h : zg (ops.map dm) xs = some xs') :
 ∃ zs, ops.length = zs.length ∧ (∀ (i : Nat) o, ops[i]? = some o → ∃ x, zs[i]? = some x ∧ t7 P o.op x.op ∧ o.dst = x.dst ∧ ej ops o.guard = some x.guard) ∧ ∃ m pm ps Es, Drawn ops zs xs' m pm ps Es := by
 have same : ∀ (i : Nat) o, ops[i]? = some o → ∃ x, xs[i]? = some x ∧ t7 P o.op x.op ∧ o.dst = x.dst ∧ ej ops o.guard = some x.guard := fun i o ho => by
  obtain ⟨x, h1, h2, h3, h4⟩ := cA i o ho
  exact ⟨x, h1, .inl h2, h3, h4⟩
 have lit : ∀ (i : Nat) o, ops[i]? = some o → ∃ x, (xs.map nu)[i]? = some x ∧ t7 P o.op x.op ∧ o.dst = x.dst ∧ ej ops o.guard = some x.guard := fun i o ho => by
  obtain ⟨x, h1, h2, h3, h4⟩ := cA i o ho
  obtain ⟨q1, q2, q3⟩ := Cu x
  exact ⟨nu x, by rw [List.getElem?_map, h1]; rfl, q3 P o.op h2, by rw [q1]; exact h3, by rw [q2]; exact h4⟩
 have lY : ops.length = (xs.map nu).length := by simpa using hl
 have box : ∀ (i : Nat) o, ops[i]? = some o → ∃ x, (wU xs (eZ (ops.map dm) []))[i]? = some x ∧ t7 P o.op x.op ∧ o.dst = x.dst ∧ ej ops o.guard = some x.guard := fun i o ho => by
  obtain ⟨x, h1, h2, h3, h4⟩ := cA i o ho
  obtain ⟨q1, q2, q3⟩ := Cv xs (eZ (ops.map dm) []) x i
  refine ⟨r8 xs (eZ (ops.map dm) []) x i, ?_, q3 P o.op h2, by rw [q1]; exact h3, by rw [q2]; exact h4⟩
  unfold wU
  rw [List.getElem?_map, List.getElem?_zipIdx, h1]
  simp
 have LC : ops.length = (wU xs (eZ (ops.map dm) [])).length := by simp [wU]; omega
 unfold zg at h
 split at h
 ·rename_i r hr
  injection h with h; subst h
  unfold E1 at hr
  split at hr
  ·exact ⟨_, LC, box, iM LC hr⟩
  ·cases hr
 split at h
 ·rename_i r hr
  injection h with h; subst h
  exact ⟨xs, hl, same, iM hl hr⟩
 ·split at h
  ·rename_i r hr
   injection h with h; subst h
   exact ⟨xs, hl, same, iM hl hr⟩
  ·split at h
   ·rename_i r hr
    injection h with h; subst h
    exact ⟨xs.map nu, lY, lit, iM lY hr⟩
   ·exact ⟨xs.map nu, lY, lit, iM lY h⟩
end
def Ex.to : Ex → Exit
 | .norm => .normal
 | .exit id => .exit id
 | .ret => .ret
def Ends (β : Bm) (w : World) (h : Zb) (nt : Nat) (D : List Deferred) (r : Ex × Env × Zb) (Q : Exit → Act → World → Prop) : Prop :=
 ∀ β' w' a', aj β w h β' w' r.2.2 → Inv β' w' r.2.2 → ER β' w' r.2.2 r.2.1 a' → a'.tmps.size = nt → a'.defers = D → Q r.1.to a' w'
section
variable {P : Program} {call : cg} {nt : Nat} {H : Hints}
theorem ER.keep {β : Bm} {w : World} {h : Zb} {e : Env} {a : Act} (hE : ER β w h e a) (ks : List Nat) : ER β w h (Za ks e) a := by
 intro s
 rw [sw]
 split
 ·exact hE s
 ·exact .undef _
theorem wI (hc : iO P call) (hm : P.follows .mixedOrders = true) {id : Nat} {ops : Array Oper} {draw : Bool} {x : XC} (hx : gP P nt H (.region id ops draw) = some x) {e : Env} {h : Zb} {n : Nat} {r : Ex × Env × Zb} (hr : aL call n x e h = some r)
 {β : Bm} {w : World} {a : Act} {D : List Deferred} (hI : Inv β w h) (hE : ER β w h e a) (hs : a.tmps.size = nt) (hD : a.defers = D) {Q : Exit → Act → World → Prop} (hQ : Ends β w h nt D r Q) : (Code.region id ops draw).wp P Q a w := by
 simp only [gP] at hx
 split at hx
 case h_2 => cases hx
 rename_i xs hxs
 obtain ⟨hlen, EL⟩ := oQ hxs
 split at hx
 case isFalse => cases hx
 rename_i K3
 have hnt : ∀ (i : Nat) o, ops.toList[i]? = some o → ∀ d, o.dst = some d → d < nt := by
  intro i o ho d hd
  have := List.all_eq_true.1 K3 o (List.mem_of_getElem? ho)
  rw [hd] at this
  simpa using this
 cases draw with
 | false =>
  simp only [Bool.false_eq_true, if_false] at hx
  injection hx with hx; subst hx
  simp only [aL] at hr
  split at hr
  ·rename_i e' h' hev
   injection hr with hr; subst hr
   refine wp_region_list ?_
   refine pG hc hI (fun β' w' a' q1 q2 q3 q4 q5 => hQ β' w' a' q1 q2 (q3.keep _) q4 q5) hlen (fun i o ho => ?_) hev (aj.refl _ _ _) hI hE hs hD
   obtain ⟨x, q1, q2, q3, q4⟩ := EL i o ho
   exact ⟨x, q1, q2, q3, q4, hnt i o ho⟩
  ·cases hr
 | true =>
  simp only [if_true] at hx
  split at hx
  case h_2 => cases hx
  rename_i xs' pQ
  injection hx with hx; subst hx
  simp only [aL] at hr
  split at hr
  ·rename_i e' h' hev
   injection hr with hr; subst hr
   obtain ⟨Ev, Hv, Dv, hT, rfl, rfl, rfl, rfl⟩ := qz hev
   obtain ⟨zs, yN, Iv, m, pm, ps, Es, hd⟩ := zf hlen EL pQ
   have hsz : ops.size = zs.length := by simpa using yN
   have cA : Conv P nt pm ops.toList xs' := by
    refine ⟨by rw [hd.len]; exact yN, fun j y hy => ?_⟩
    have hj : j < zs.length := by have := (List.getElem?_eq_some_iff.1 hy).1; rw [hd.len] at this; exact this
    obtain ⟨x, g, h1, h2⟩ := hd.op j hj
    rw [h2] at hy; injection hy with hy; subst hy
    have ho : ops.toList[pm j]? = some (ops.toList[pm j]'(by rw [yN]; exact (hd.hpm j hj).1)) := List.getElem?_eq_getElem _
    obtain ⟨x', q1, q2, q3, q4⟩ := Iv _ _ ho
    rw [h1] at q1; injection q1 with q1; subst q1
    exact ⟨_, ho, q2, q3, q4, hnt _ _ ho⟩
   have hsame : Same w { w with drawn := w.drawn + 1 } := ⟨rfl, rfl, rfl, rfl⟩
   have hX := aj.same hI hsame
   have dG := Inv.same hI hsame
   have hml : m ≤ xs'.length := by rw [hd.len]; exact hd.mle
   have hal : ∀ (i : Nat) x, i < m → xs'[i]? = some x → oC x = true := by
    intro i x pP hx
    have hi : i < Es.length := by rw [hd.el]; have := hd.mle; omega
    have := (jV hd.ok i _ x (List.getElem?_eq_getElem hi) hx).2.2.2
    rw [Nat.zero_add] at this
    exact this pP
   obtain ⟨l, l1, l2, l3, l4⟩ := lead hT hml hal m (Nat.le_refl _)
   refine wp_region_any hm ?_
   refine Dw (m := m) (pm := pm) (ps := ps) hc hT cA (by rw [hsz]; exact hd.hpm) (by rw [hsz]; exact hd.hps) (by intro i o ho; rw [hsz]; exact hd.lt i o (by rw [Array.getElem?_toList]; exact ho)) (by rw [hd.el, hd.len])
    (by intro j o hj ho; rw [hsz] at hj; exact hd.es j o hj (by rw [Array.getElem?_toList]; exact ho)) hd.ok (fun i x pP hx => by obtain ⟨t, cs, _, _, h3⟩ := l4 i x pP hx; exact h3) dG
    (fun β' w' a' q1 q2 q3 q4 q5 => hQ β' w' a' (aj.trans hI hX q1) q2 (q3.keep _) q4 q5) _ _ _ _ β m (by simp) ?_ ?_ ⟨hml, Nat.le_refl _, ?_, ?_, hs, hD, ?_, ?_, ?_, ?_, ?_⟩
   ·exact Nat.le_trans (List.length_filter_le _ _) (by simp)
   ·intro j es hj
    simp [Array.getElem?_replicate] at hj
   ·rw [l1]; exact aj.holes dG l
   ·rw [l1]; exact Inv.holes dG l3
   ·intro i x s hL
    simp [Array.getElem?_replicate] at hL
   ·intro s _
    rw [l1]
    exact RV.ext (aj.trans hI hX (aj.holes dG l)) (hE s)
   ·intro i x h1 h2
    omega
   ·intro i x _ _ hL
    simp [Array.getElem?_replicate] at hL
   ·intro i x pP hx _
    obtain ⟨t, cs, h1, h2, h3⟩ := l4 i x pP hx
    refine ⟨t, cs, h1, ?_, ?_⟩
    ·rw [l1, List.getElem?_append_right (by omega), Nat.add_sub_cancel_left]; exact h2
    ·cases hb : β ((Hv 0).length + i) with
     | none => rfl
     | some b => have := (hI.lt _ b hb).1; omega
  ·cases hr
theorem xS (hc : iO P call) (hm : P.follows .mixedOrders = true) : ∀ (n : Nat) (c : Code) (x : XC), gP P nt H c = some x → ∀ e h r, aL call n x e h = some r → ∀ β w a D, Inv β w h → ER β w h e a → a.tmps.size = nt → a.defers = D →
 ∀ Q, Ends β w h nt D r Q → c.wp P Q a w := by
 intro n
 induction n using Nat.strongRecOn with
 | _ n HP =>
 intro c
 induction c with
 | skip =>
  intro x hx e h r hr β w a D hI hE hs hD Q hQ
  simp only [gP] at hx; injection hx with hx; subst hx
  simp only [aL] at hr; injection hr with hr; subst hr
  exact wp_skip (hQ β w a (aj.refl _ _ _) hI hE hs hD)
 | label l =>
  intro x hx e h r hr β w a D hI hE hs hD Q hQ
  simp only [gP] at hx; injection hx with hx; subst hx
  simp only [aL] at hr; injection hr with hr; subst hr
  exact wp_label (hQ β w a (aj.refl _ _ _) hI hE hs hD)
 | ret =>
  intro x hx e h r hr β w a D hI hE hs hD Q hQ
  simp only [gP] at hx; injection hx with hx; subst hx
  simp only [aL] at hr; injection hr with hr; subst hr
  exact wp_ret (hQ β w a (aj.refl _ _ _) hI hE hs hD)
 | exit id =>
  intro x hx e h r hr β w a D hI hE hs hD Q hQ
  simp only [gP] at hx; injection hx with hx; subst hx
  simp only [aL] at hr; injection hr with hr; subst hr
  exact wp_exit (hQ β w a (aj.refl _ _ _) hI hE hs hD)
 | region id ops draw =>
  intro x hx e h r hr β w a D hI hE hs hD Q hQ
  exact wI hc hm hx hr hI hE hs hD hQ
 | seq c1 c2 HR Au =>
  intro x hx e h r hr β w a D hI hE hs hD Q hQ
  simp only [gP] at hx
  split at hx
  case h_2 => cases hx
  rename_i x1 x2 h1 h2
  injection hx with hx; subst hx
  simp only [aL] at hr
  cases ha : aL call n x1 e h with
  | none => rw [ha] at hr; cases hr
  | some p =>
   rw [ha] at hr
   refine wp_seq (HR x1 h1 e h p ha β w a D hI hE hs hD _ ?_)
   intro β' w' a' q1 q2 q3 q4 q5
   obtain ⟨ex, e1, hp1⟩ := p
   cases ex with
   | norm => exact Au x2 h2 e1 hp1 r hr β' w' a' D q2 q3 q4 q5 Q (fun β2 w2 a2 p1 p2 p3 p4 p5 => hQ β2 w2 a2 (aj.trans hI q1 p1) p2 p3 p4 p5)
   | exit id => simp only at hr; injection hr with hr; subst hr; exact hQ β' w' a' q1 q2 q3 q4 q5
   | ret => simp only at hr; injection hr with hr; subst hr; exact hQ β' w' a' q1 q2 q3 q4 q5
 | cond oc c1 c2 HR Au =>
  intro x hx e h r hr β w a D hI hE hs hD Q hQ
  simp only [gP] at hx
  split at hx
  case h_2 => cases hx
  rename_i o x1 x2 h0 h1 h2
  injection hx with hx; subst hx
  simp only [aL] at hr
  have xx := Yr hE h0
  split at hr
  ·rename_i ht
   rw [ht] at xx
   generalize hv : a.eval oc = v at xx
   cases xx
   exact wp_cond_true hv (HR x1 h1 e h r hr β w a D hI hE hs hD Q hQ)
  ·rename_i ht
   rw [ht] at xx
   generalize hv : a.eval oc = v at xx
   cases xx
   exact wp_cond_false hv (Au x2 h2 e h r hr β w a D hI hE hs hD Q hQ)
  ·cases hr
 | block id c ih =>
  intro x hx e h r hr β w a D hI hE hs hD Q hQ
  simp only [gP] at hx
  split at hx
  case h_2 => cases hx
  rename_i x1 h1
  injection hx with hx; subst hx
  simp only [aL] at hr
  cases ha : aL call n x1 e h with
  | none => rw [ha] at hr; cases hr
  | some p =>
   rw [ha] at hr
   refine wp_block (ih x1 h1 e h p ha β w a D hI hE hs hD _ ?_)
   intro β' w' a' q1 q2 q3 q4 q5
   obtain ⟨ex, e1, hp1⟩ := p
   cases ex with
   | norm => simp only at hr; injection hr with hr; subst hr; exact hQ β' w' a' q1 q2 q3 q4 q5
   | ret => simp only at hr; injection hr with hr; subst hr; exact hQ β' w' a' q1 q2 q3 q4 q5
   | exit id' =>
    simp only at hr
    simp only [Ex.to, Exit.inBlock]
    split at hr
    ·rename_i hid
     injection hr with hr; subst hr
     rw [if_pos hid]
     exact hQ β' w' a' q1 q2 q3 q4 q5
    ·rename_i hid
     injection hr with hr; subst hr
     rw [if_neg hid]
     exact hQ β' w' a' q1 q2 q3 q4 q5
 | loop c ih =>
  intro x hx e h r hr β w a D hI hE hs hD Q hQ
  simp only [gP] at hx
  split at hx
  case h_2 => cases hx
  rename_i x1 h1
  injection hx with hx; subst hx
  suffices key : ∀ m, m ≤ n → ∀ e h r, aL call m (.loop x1) e h = some r → ∀ β w a, Inv β w h → ER β w h e a → a.tmps.size = nt → a.defers = D → Ends β w h nt D r Q → Code.rounds P c Q m a w from
   wp_loop_rounds n (key n (Nat.le_refl _) e h r hr β w a hI hE hs hD hQ)
  intro m
  induction m with
  | zero => intro _ e h r hr; simp [aL] at hr
  | succ m NP =>
   intro hmn e h r hr β w a hI hE hs hD hQ
   simp only [aL] at hr
   cases ha : aL call (m + 1) x1 e h with
   | none => rw [ha] at hr; cases hr
   | some p =>
    rw [ha] at hr
    rw [rounds_succ]
    have hbody : ∀ Q', Ends β w h nt D p Q' → c.wp P Q' a w := by
     intro Q' LU
     by_cases hmn' : m + 1 = n
     ·rw [hmn'] at ha
      exact ih x1 h1 e h p ha β w a D hI hE hs hD Q' LU
     ·exact HP (m + 1) (by omega) c x1 h1 e h p ha β w a D hI hE hs hD Q' LU
    refine hbody _ ?_
    intro β' w' a' q1 q2 q3 q4 q5
    obtain ⟨ex, e1, hp1⟩ := p
    cases ex with
    | norm => exact NP (by omega) e1 hp1 r hr β' w' a' q2 q3 q4 q5 (fun β2 w2 a2 p1 p2 p3 p4 p5 => hQ β2 w2 a2 (aj.trans hI q1 p1) p2 p3 p4 p5)
    | exit id => simp only at hr; injection hr with hr; subst hr; exact hQ β' w' a' q1 q2 q3 q4 q5
    | ret => simp only at hr; injection hr with hr; subst hr; exact hQ β' w' a' q1 q2 q3 q4 q5
 | scope c ih =>
  intro x hx e h r hr β w a D hI hE hs hD Q hQ
  simp only [gP] at hx
  refine wp_scope_straight (ih x hx e h r hr β w a D hI hE hs hD _ ?_)
  intro β' w' a' q1 q2 q3 q4 q5
  have := hQ β' w' a' q1 q2 q3 q4 q5
  obtain ⟨ex, _⟩ := r
  cases ex <;> exact this
 | _ => intro x hx; simp [gP] at hx
end
end Go.Proofs.YteekbciaggmfgaaDoor
namespace Go.Proofs.YteekbciaggmfgaaDoor
open Go.RowKit
set_option linter.unusedVariables false
set_option linter.unusedSimpArgs false
theorem Ah {d : DV} {h : Zb} (hd : ∀ e sz xs, d ≠ .fresh e sz xs) : af d h = (d, h) := by
 cases d <;> first | rfl | exact absurd rfl (hd _ _ _)
theorem nQ {β : Bm} {w : World} {h h2 : Zb} {d : DV} {v : Value} (hr : RV β w h d v) : af d h2 = (d, h2) :=
 Ah (fun e sz xs hd => by subst hd; cases hr)
theorem sr {xs : List DV} (hn : ∀ x ∈ xs, Nr x) : ∀ c ∈ flat xs, Nr c := by
 intro c hc
 obtain ⟨x, hx, xw⟩ := List.mem_flatMap.1 hc
 have := hn x hx
 cases x <;> simp only [DV.cells, List.mem_singleton] at xw <;> try (subst xw; exact this)
 cases this with
 | agg h => exact h c xw
theorem zM {hc h : Zb} {n o : Nat} {x : HO} (hge : ¬ o < n) (hag : ∀ k, k < n → hc[k]? = h[k]?) : ∀ k, k < n → (hc.set o x)[k]? = h[k]? := fun k hk => by rw [List.getElem?_set_ne (by omega)]; exact hag k hk
section
variable {β β' βf : Bm} {w w' : World} {h h' hf : Zb}
theorem Cg (hA : ∀ o b, βf o = some b → β' o = some b ∧ hf[o]? = h'[o]?) {b : Nat} (ha : dB β' h' b) : dB βf hf b := by
 intro o ho
 obtain ⟨q1, q2⟩ := hA o b ho
 rw [q2]
 exact ha o q1
mutual
theorem o8 (hA : ∀ b, dB β' h' b → dB βf hf b) : ∀ {d v}, Nr d → RV β' w' h' d v → RV βf w' hf d v
 | _, _, _, .bool b => .bool b
 | _, _, _, .int k n => .int k n
 | _, _, _, .str s => .str s
 | _, _, _, .nilp => .nilp
 | _, _, hn, .ref _ _ => by cases hn
 | _, _, hn, .elem _ _ => by cases hn
 | _, _, _, .nils => .nils
 | _, _, _, .list hn hc cK hnr hw hr ha => .list hn hc cK hnr hw (j5 hA (sr hnr) hr) (fun j v hj => ⟨hA _ (ha j v hj).1, (ha j v hj).2⟩)
 | _, _, hn, .row _ _ _ _ _ _ => by cases hn
 | _, _, _, .nilm => .nilm
 | _, _, hn, .map _ _ => by cases hn
 | _, _, _, .nilf => .nilf
 | _, _, hn, .func ha hb => by
  cases hn
  cases ha; cases hb
  exact .func .nil .nil
 | _, _, _, .nili => .nili
 | _, _, hn, .ifc hd => by
  cases hn
  cases hd
  exact .ifc (.int _ _)
 | _, _, hn, .agg hr => .agg (j5 hA (by cases hn with | agg h => exact h) hr)
 | _, _, hn, .tup hr => by cases hn
 | _, _, hn, .undef v => by cases hn
theorem j5 (hA : ∀ b, dB β' h' b → dB βf hf b) : ∀ {ds vs}, (∀ d ∈ ds, Nr d) → RVs β' w' h' ds vs → RVs βf w' hf ds vs
 | _, _, _, .nil => .nil
 | _, _, hn, .cons hd hs => .cons (o8 hA (hn _ (by simp)) hd) (j5 hA (fun d hd => hn d (by simp [hd])) hs)
end
mutual
theorem uw (hA : ∀ b, dB β' h' b → dB βf hf b) (hβ : ∀ o b0, β o = some b0 → βf o = β' o ∧ hf[o]? = h'[o]?) : ∀ {d v0 v}, RV β w h d v0 → RV β' w' h' d v → RV βf w' hf d v
 | _, _, _, _, .bool b => .bool b
 | _, _, _, _, .int k n => .int k n
 | _, _, _, _, .str s => .str s
 | _, _, _, _, .nilp => .nilp
 | _, _, _, .ref hb0 _, .ref hb ho => by
  obtain ⟨q1, q2⟩ := hβ _ _ hb0
  exact .ref (q1.trans hb) (q2.trans ho)
 | _, _, _, .elem eE _, .elem hd hi => .elem (uw hA hβ eE hd) hi
 | _, _, _, _, .nils => .nils
 | _, _, _, _, .list hn hc cK hnr hw hr ha => .list hn hc cK hnr hw (j5 hA (sr hnr) hr) (fun j v hj => ⟨hA _ (ha j v hj).1, (ha j v hj).2⟩)
 | _, _, _, .row hb0 _ _ _ _ _, .row hb hc cK ho hg hs => by
  obtain ⟨q1, q2⟩ := hβ _ _ hb0
  refine .row (q1.trans hb) hc cK (by rw [q2]; exact ho) hg (fun Iq => ?_)
  obtain ⟨k1, k2, k3⟩ := hs Iq
  exact ⟨k1, k2, fun hlo => ⟨(k3 hlo).1, fun ru hrw => (k3 hlo).2 ru (by rw [← q2]; exact hrw)⟩⟩
 | _, _, _, _, .nilm => .nilm
 | _, _, _, .map hb0 _, .map hb ho => by
  obtain ⟨q1, q2⟩ := hβ _ _ hb0
  exact .map (q1.trans hb) (q2.trans ho)
 | _, _, _, _, .nilf => .nilf
 | _, _, _, .func ha0 hb0, .func ha hb => .func (gh hA hβ ha0 ha) (gh hA hβ hb0 hb)
 | _, _, _, _, .nili => .nili
 | _, _, _, .ifc eE, .ifc hd => .ifc (uw hA hβ eE hd)
 | _, _, _, .agg hr0, .agg hr => .agg (gh hA hβ hr0 hr)
 | _, _, _, .tup hr0, .tup hr => .tup (gh hA hβ hr0 hr)
 | _, _, _, _, .undef v => .undef v
theorem gh (hA : ∀ b, dB β' h' b → dB βf hf b) (hβ : ∀ o b0, β o = some b0 → βf o = β' o ∧ hf[o]? = h'[o]?) : ∀ {ds vs0 vs}, RVs β w h ds vs0 → RVs β' w' h' ds vs → RVs βf w' hf ds vs
 | _, _, _, .nil, .nil => .nil
 | _, _, _, .cons eE hs0, .cons hd hs => .cons (uw hA hβ eE hd) (gh hA hβ hs0 hs)
end
theorem D6 (hA : ∀ b, dB β' h' b → dB βf hf b) (hβ : ∀ o b0, β o = some b0 → βf o = β' o ∧ hf[o]? = h'[o]?) {b0 b : Nat} {x : HO} (h0 : OR β w h b0 x) (h1 : OR β' w' h' b x) : OR βf w' hf b x := by
 have row : ∀ {e sz xs}, dY β w h b0 e sz xs → dY β' w' h' b e sz xs → dY βf w' hf b e sz xs := by
  rintro e sz xs ⟨c0, C0, _, _, _, _, _, _, p7⟩ ⟨c1, C1, q1, q2, q3, q4, q5, q6, q7⟩
  exact ⟨c1, C1, q1, q2, q3, q4, q5, q6, gh hA hβ p7 q7⟩
 cases x with
 | box t cs =>
  obtain ⟨vs0, _, p2⟩ := h0
  obtain ⟨vs, q1, q2⟩ := h1
  exact ⟨vs, q1, gh hA hβ p2 q2⟩
 | row e sz g xs => exact row h0 h1
 | frz e sz g xs => exact row h0 h1
 | map kt et es =>
  obtain ⟨m0, c0, _, p2, p3⟩ := h0
  obtain ⟨ms, jF, q1, q2, q3⟩ := h1
  exact ⟨ms, jF, q1, gh hA hβ p2 q2, gh hA hβ p3 q3⟩
def dA (β : Bm) (n : Nat) : Bm := fun o => if o < n then β o else none
theorem dR {n o b : Nat} (hb : dA β n o = some b) : o < n ∧ β o = some b := by
 unfold dA at hb
 split at hb
 ·rename_i h; exact ⟨h, hb⟩
 ·cases hb
section
variable {n : Nat} {hc dx : Zb}
theorem kG (hag : ∀ o, o < n → hc[o]? = h[o]?) : ∀ b, dB β' hc b → dB (dA β' n) h b := by
 intro b ha
 refine Cg (β' := β') (h' := hc) (fun o b ho => ?_) ha
 obtain ⟨q1, q2⟩ := dR ho
 exact ⟨q2, (hag o q1).symm⟩
theorem Bq (hI : Inv β' w' hc) (hag : ∀ o, o < n → hc[o]? = h[o]?) {d d' : DV} {v : Value} (hr : RV β' w' hc d v) (hz : aV n hc false d = some (d', dx)) :
 Inv β' w' dx ∧ (∀ {ds vs}, RVs β' w' hc ds vs → RVs β' w' dx ds vs) ∧ (∀ o, o < n → dx[o]? = h[o]?) ∧ RV (dA β' n) w' h d' v := by
 have hA := kG (β' := β') (h := h) hag
 have same : ∀ {x}, Nr x → RV β' w' hc x v → hc = dx → Inv β' w' dx ∧ (∀ {ds vs}, RVs β' w' hc ds vs → RVs β' w' dx ds vs) ∧ (∀ o, o < n → dx[o]? = h[o]?) ∧ RV (dA β' n) w' h x v := by
  rintro x hn hx rfl
  exact ⟨hI, fun h => h, hag, o8 hA hn hx⟩
 cases d <;> simp only [aV] at hz
 case bool b => obtain ⟨rfl, hh⟩ := ZD hz; exact same (.bool _) hr hh
 case int k i => obtain ⟨rfl, hh⟩ := ZD hz; exact same (.int _ _) hr hh
 case str k => obtain ⟨rfl, hh⟩ := ZD hz; exact same (.str _) hr hh
 case nilp => obtain ⟨rfl, hh⟩ := ZD hz; exact same .nilp hr hh
 case nils => obtain ⟨rfl, hh⟩ := ZD hz; exact same .nils hr hh
 case nilm => obtain ⟨rfl, hh⟩ := ZD hz; exact same .nilm hr hh
 case nilf => obtain ⟨rfl, hh⟩ := ZD hz; exact same .nilf hr hh
 case nili => obtain ⟨rfl, hh⟩ := ZD hz; exact same .nili hr hh
 case list sz xs c =>
  obtain ⟨rfl, hh⟩ := ZD hz
  refine same (.list ?_) hr hh
  cases hr with
  | list hn hc cK hnr => exact hnr
 case ifc t x =>
  split at hz
  all_goals first
   | (rename_i heq; cases heq; done)
   | (rename_i heq; injection heq with e1 e2; subst e1; subst e2; obtain ⟨rfl, hh⟩ := ZD hz; exact same (.ifc _ _ _) hr hh)
   | cases hz
 case func f a b =>
  split at hz
  all_goals first
   | (rename_i heq; cases heq; done)
   | (rename_i heq; injection heq with e1 e2 e3; subst e1; subst e2; subst e3; obtain ⟨rfl, hh⟩ := ZD hz; exact same (.func _) hr hh)
   | cases hz
 case ref o p =>
  split at hz
  ·rename_i hlt
   obtain ⟨rfl, rfl⟩ := ZD hz
   refine ⟨hI, fun h => h, hag, ?_⟩
   cases hr with
   | ref hb ho => exact .ref (by unfold dA; rw [if_pos hlt]; exact hb) (by rw [← hag o hlt]; exact ho)
  ·cases hz
 case map o =>
  split at hz
  ·rename_i hlt
   obtain ⟨rfl, rfl⟩ := ZD hz
   refine ⟨hI, fun h => h, hag, ?_⟩
   cases hr with
   | map hb ho => exact .map (by unfold dA; rw [if_pos hlt]; exact hb) (by rw [← hag o hlt]; exact ho)
  ·cases hz
 case row o g lo m c =>
  cases hr with
  | row hb AX cK ho hg hs =>
  split at hz
  ·rename_i hlt
   obtain ⟨rfl, rfl⟩ := ZD hz
   refine ⟨hI, fun h => h, hag, ?_⟩
   refine .row (by unfold dA; rw [if_pos hlt]; exact hb) AX cK (by rw [← hag o hlt]; exact ho) hg (fun Iq => ?_)
   obtain ⟨k1, k2, k3⟩ := hs Iq
   exact ⟨k1, k2, fun hlo => ⟨(k3 hlo).1, fun ru hrw => (k3 hlo).2 ru (by rw [hag o hlt]; exact hrw)⟩⟩
  ·rename_i hge
   rcases ho with ho | ho
   ·rw [ho] at hz
    simp only at hz
    split at hz
    ·rename_i hq
     obtain ⟨rfl, hl, hnr⟩ := hq
     split at hz
     ·rename_i hbad; exact absurd hbad.1 (by simp)
     ·obtain ⟨rfl, rfl⟩ := ZD hz
      have he := aj.freeze hI hb ho
      have hi := Inv.freeze hI hb ho
      exact ⟨hi, fun h => RVs.ext he h, zM hge hag, o8 (kG (zM hge hag)) (.list (qM hnr)) (mQ hi hb (List.getElem?_set_self (hI.lt _ _ hb).1) AX cK hl (hs rfl).2.1 hnr)⟩
    ·cases hz
   ·rw [ho] at hz
    simp only at hz
    split at hz
    ·rename_i hq
     obtain ⟨rfl, hl, hnr⟩ := hq
     obtain ⟨rfl, rfl⟩ := ZD hz
     exact ⟨hI, fun h => h, hag, o8 hA (.list (qM hnr)) (mQ hI hb ho AX cK hl (hs rfl).2.1 hnr)⟩
    ·cases hz
 all_goals cases hz
theorem Bo : ∀ {ds ds' : List DV} {vs : List Value} {hc dx : Zb}, Inv β' w' hc → (∀ o, o < n → hc[o]? = h[o]?) → RVs β' w' hc ds vs → cL n ds hc = some (ds', dx) →
 Inv β' w' dx ∧ (∀ {ds vs}, RVs β' w' hc ds vs → RVs β' w' dx ds vs) ∧ (∀ o, o < n → dx[o]? = h[o]?) ∧ RVs (dA β' n) w' h ds' vs
 | [], ds', vs, hc, dx, hI, hag, hr, hz => by
  cases hr
  simp only [cL] at hz
  obtain ⟨rfl, rfl⟩ := ZD hz
  exact ⟨hI, fun h => h, hag, .nil⟩
 | d :: ds, ds', vs, hc, dx, hI, hag, hr, hz => by
  cases hr with
  | cons hd hs =>
   simp only [cL] at hz
   split at hz
   ·rename_i d' h1 h0
    split at hz
    ·rename_i l' h2 hl
     obtain ⟨rfl, rfl⟩ := ZD hz
     obtain ⟨q1, q2, q3, q4⟩ := Bq hI hag hd h0
     obtain ⟨p1, p2, p3, p4⟩ := Bo q1 q3 (q2 hs) hl
     exact ⟨p1, fun h => p2 (q2 h), p3, .cons q4 p4⟩
    ·cases hz
   ·cases hz
theorem Bp (hI : Inv β' w' hc) (hag : ∀ o, o < n → hc[o]? = h[o]?) {d d' : DV} {v : Value} (hr : RV β' w' hc d v) (hz : aO n hc false d = some (d', dx)) :
 Inv β' w' dx ∧ (∀ {ds vs}, RVs β' w' hc ds vs → RVs β' w' dx ds vs) ∧ (∀ o, o < n → dx[o]? = h[o]?) ∧ RV (dA β' n) w' h d' v := by
 unfold aO at hz
 split at hz
 ·split at hz
  ·rename_i cs' h1 hl
   obtain ⟨rfl, rfl⟩ := ZD hz
   cases hr with
   | agg hrs =>
    obtain ⟨p1, p2, p3, p4⟩ := Bo hI hag hrs hl
    exact ⟨p1, p2, p3, .agg p4⟩
  ·cases hz
 ·exact Bq hI hag hr hz
theorem Bn : ∀ {ds ds' : List DV} {vs : List Value} {hc dx : Zb}, Inv β' w' hc → (∀ o, o < n → hc[o]? = h[o]?) → RVs β' w' hc ds vs → bH n ds hc = some (ds', dx) → RVs (dA β' n) w' h ds' vs
 | [], ds', vs, hc, dx, hI, hag, hr, hz => by
  cases hr
  simp only [bH] at hz
  obtain ⟨rfl, rfl⟩ := ZD hz
  exact .nil
 | d :: ds, ds', vs, hc, dx, hI, hag, hr, hz => by
  cases hr with
  | cons hd hs =>
   simp only [bH] at hz
   split at hz
   ·rename_i d' h1 h0
    split at hz
    ·rename_i l' h2 hl
     obtain ⟨rfl, rfl⟩ := ZD hz
     obtain ⟨q1, q2, q3, q4⟩ := Bp hI hag hd h0
     exact .cons q4 (Bn q1 q3 (q2 hs) hl)
    ·cases hz
   ·cases hz
end
end
end Go.Proofs.YteekbciaggmfgaaDoor
namespace Go.Proofs.YteekbciaggmfgaaDoor
open Go.RowKit
set_option linter.unusedVariables false
set_option linter.unusedSimpArgs false
def valOf : List Value → Value
 | [v] => v
 | vs => .tuple vs.toArray
section
variable {P : Program} {β β' : Bm} {w w' : World} {h h' : Zb}
theorem cr {h h' : Zb} (ht : h'.take h.length = h) {o : Nat} (ho : o < h.length) : h'[o]? = h[o]? := by
 have h1 : (h'.take h.length)[o]? = h'[o]? := by rw [List.getElem?_take, if_pos ho]
 rw [← h1, ht]
theorem xQ (hI : Inv β w h) (hX : aj β w h β' w' h') (dG : Inv β' w' h') (ht : h'.take h.length = h) : Inv (dA β' h.length) w' h where
 tab p hp := ⟨o8 (kG (fun o ho => cr ht ho)) (.list (by intro x hx; simp at hx; subst hx; exact .agg (dG.tab p hp).2)) (dG.tab p hp).1, (dG.tab p hp).2⟩
 lt o b hb := ⟨(dR hb).1, (dG.lt o b (dR hb).2).2⟩
 inj o o' b hb hb' := dG.inj o o' b (dR hb).2 (dR hb').2
 tot o ho := by
  rcases dG.tot o (by have := hX.len; omega) with ⟨b, hb⟩ | ⟨t, cs, h1, h2⟩
  ·exact .inl ⟨b, by unfold dA; rw [if_pos ho]; exact hb⟩
  ·exact .inr ⟨t, cs, by rw [← cr ht ho]; exact h1, h2⟩
 ob o b x hb hx := by
  obtain ⟨q1, q2⟩ := dR hb
  rcases hI.tot o q1 with ⟨b0, hb0⟩ | ⟨t, cs, h1, h2⟩
  ·refine D6 (β := β) (w := w) (h := h) (β' := β') (h' := h') (kG (fun o ho => cr ht ho)) (fun o b0 ho => ?_) (hI.ob o b0 x hb0 hx) (dG.ob o b x q2 (by rw [cr ht q1]; exact hx))
   have hlt := (hI.lt o b0 ho).1
   exact ⟨by unfold dA; rw [if_pos hlt], (cr ht hlt).symm⟩
  ·rw [hx] at h1; injection h1 with h1; subst h1
   obtain ⟨vs, g1, g2⟩ := dG.ob o b (.box t cs) q2 (by rw [cr ht q1]; exact hx)
   exact ⟨vs, g1, j5 (kG (fun o ho => cr ht ho)) h2 g2⟩
theorem xR (hI : Inv β w h) (hX : aj β w h β' w' h') (dG : Inv β' w' h') (ht : h'.take h.length = h) : aj β w h (dA β' h.length) w' h where
 os := hX.os
 tape := hX.tape
 output := hX.output
 size := hX.size
 len := Nat.le_refl _
 keep := hX.keep
 old o ho hn := by unfold dA; rw [if_pos ho]; exact hX.old o ho hn
 new o b hb := hX.new o b (dR hb).2
 obj o b x hb hx := by
  have hlt := (hI.lt o b hb).1
  have hL := hX.obj o b x hb hx
  have hc : ∀ b', β' o = some b' → dA β' h.length o = some b' := fun b' hb' => by unfold dA; rw [if_pos hlt]; exact hb'
  cases x with
  | box t cs =>
   obtain ⟨q1, cs', q2⟩ := hL
   exact ⟨hc b q1, cs', by rw [← cr ht hlt]; exact q2⟩
  | frz e sz g xs => exact ⟨hc b hL.1, hx⟩
  | map kt et es =>
   obtain ⟨q1, es', q2⟩ := hL
   exact ⟨hc b q1, es', by rw [← cr ht hlt]; exact q2⟩
  | row e sz g xs =>
   obtain ⟨b', g', xs', q1, q2, q3, q4⟩ := hL
   rw [cr ht hlt] at q2
   exact ⟨b', g', xs', hc b' q1, q2, q3, q4⟩
theorem IL {n : Nat} {hc h2 : Zb} {d d' : DV} (hz : aO n hc true d = some (d', h2)) :
 (∃ e sz zs xs o g, d = .row o g 0 xs.length false ∧ ¬ o < n ∧ hc[o]? = some (.row e sz g zs) ∧ (∀ x ∈ xs, Nr x) ∧ xs = zs.take xs.length ∧ d' = .fresh e sz xs) ∨ ∃ h3, aO n hc false d = some (d', h3) := by
 cases d <;> try exact .inr ⟨h2, hz⟩
 case func f a b => cases a <;> cases b <;> exact .inr ⟨h2, hz⟩
 case ifc t v => cases v <;> exact .inr ⟨h2, hz⟩
 rename_i o g lo m c
 simp only [aO, aV] at hz ⊢
 split at hz
 ·rename_i hlt
  exact .inr ⟨h2, by rw [if_pos hlt]; exact hz⟩
 ·rename_i hge
  split at hz
  ·rename_i e sz g' xs ho
   split at hz
   ·rename_i hq
    obtain ⟨rfl, hl, hnr⟩ := hq
    split at hz
    ·rename_i hq2
     obtain ⟨rfl, rfl⟩ := ZD hz
     obtain ⟨_, rfl, rfl, rfl⟩ := hq2
     exact .inl ⟨e, sz, xs, xs, o, g', rfl, hge, ho, hnr, by simp, rfl⟩
    ·split at hz
     ·rename_i hq2
      obtain ⟨rfl, rfl⟩ := ZD hz
      obtain ⟨_, rfl, rfl, rfl⟩ := hq2
      exact .inl ⟨e, sz, xs, [], o, g', rfl, hge, ho, by simp, by simp, rfl⟩
     ·obtain ⟨rfl, rfl⟩ := ZD hz
      exact .inr ⟨_, by rw [if_neg hge, if_pos ⟨rfl, hl, hnr⟩, if_neg (by simp), if_neg (by simp)]⟩
   ·cases hz
  ·rename_i ho
   exact .inr ⟨h2, by rw [if_neg hge]; exact hz⟩
  ·cases hz
theorem IQ (hI : Inv β w h) (hX : aj β w h β' w' h') (dG : Inv β' w' h') {ds : List DV} {vs : List Value} (hR : RVs β' w' h' ds vs) {d : DV} {hE : Zb} (hf : fin h h' ds = (d, hE)) :
 ∃ β2, aj β w h β2 w' (af d hE).2 ∧ Inv β2 w' (af d hE).2 ∧ RV β2 w' (af d hE).2 (af d hE).1 (valOf vs) := by
 have plain : ∀ {d : DV}, RV β' w' h' d (valOf vs) → ∃ β2, aj β w h β2 w' (af d h').2 ∧ Inv β2 w' (af d h').2 ∧ RV β2 w' (af d h').2 (af d h').1 (valOf vs) := by
  intro d hr
  rw [nQ (h2 := h') hr]
  exact ⟨β', hX, dG, hr⟩
 have cut : ∀ {d : DV}, h'.take h.length = h → RV (dA β' h.length) w' h d (valOf vs) → ∃ β2, aj β w h β2 w' (af d h).2 ∧ Inv β2 w' (af d h).2 ∧ RV β2 w' (af d h).2 (af d h).1 (valOf vs) := by
  intro d ht hr
  rw [nQ (h2 := h) hr]
  exact ⟨_, xR hI hX dG ht, xQ hI hX dG ht, hr⟩
 unfold fin at hf
 split at hf
 ·rename_i d0
  cases hR with
  | cons eE hs0 =>
  rename_i v0 vs0
  cases hs0
  have cz : RV β' w' h' d0 (valOf [v0]) := eE
  split at hf
  ·rename_i ht
   split at hf
   ·rename_i d' h2 hz
    injection hf with e1 e2; subst e1; subst e2
    rcases IL hz with ⟨e, sz, zs, xs, o, g, rfl, hge, ho, hnr, hys, rfl⟩ | ⟨h3, NS⟩
    ·cases cz with
     | row hb AX cK aF hg hs =>
     rename_i a cap b e' cP g' xs'
     rw [ho] at aF
     rcases aF with aF | aF
     ·injection aF with aF
      injection aF with i1 i2 i3 i4
      subst i1; subst i2; subst i3; subst i4
      obtain ⟨k1, k2, k3⟩ := hs rfl
      obtain ⟨ka, kb⟩ := k3 rfl
      obtain ⟨cur, qj, hcsz⟩ := kb rfl ho
      have xC := xR hI hX dG ht
      have oK := xQ hI hX dG ht
      have M8 : w.heap.size ≤ b := by
       rcases hX.new o b hb with h1 | h1
       ·exact absurd (hI.lt o b h1).1 hge
       ·exact h1
      have hA : ∀ b0, dB β' h' b0 → dB (upd (dA β' h.length) h.length b) (h ++ [.row e sz 0 xs]) b0 := by
       intro b0 ha k hk
       by_cases hkn : k = h.length
       ·subst hkn
        rw [ZW] at hk; injection hk with hk; subst hk
        obtain ⟨_, _, _, _, h5⟩ := ha o hb
        rw [ho] at h5; cases h5
       ·rw [Yh _ _ hkn] at hk
        obtain ⟨q1, q2⟩ := dR hk
        rw [List.getElem?_append_left q1, ← cr ht q1]
        exact ha k q2
      have hfresh : ∀ k, dA β' h.length k ≠ some b := by
       intro k hk
       obtain ⟨q1, q2⟩ := dR hk
       have := dG.inj k o b q2 hb
       omega
      have hrow : dY (upd (dA β' h.length) h.length b) w' (h ++ [.row e sz 0 xs]) b e sz xs := by
       obtain ⟨c1, C1, q1, q2, q3, q4, q5, q6, q7⟩ := dG.ob o b _ hb ho
       have iR : xs.length ≤ zs.length := by
        have := congrArg List.length hys
        rw [List.length_take] at this
        omega
       have NL : ∀ x ∈ xs, Wc sz x := fun x hx => q6 x (List.mem_of_mem_take (by rw [hys] at hx; exact hx))
       have GU : RVs β' w' h' (flat xs) (c1.toList.take (xs.length * sz)) := by
        have h8 := q7.take (xs.length * sz)
        rw [← iE xs.length (fun x hx => (q6 x hx).1), ← hys, List.take_take, Nat.min_eq_left (Nat.mul_le_mul_right _ iR)] at h8
        exact h8
       exact ⟨c1, C1, q1, q2, by omega, q4, q5, NL, j5 hA (sr hnr) GU⟩
      refine ⟨upd (dA β' h.length) h.length b, ⟨⟨hX.os, hX.tape, hX.output, hX.size, by simp [af], hX.keep, fun k c hk => ?_, fun k c x hk hx => ?_⟩, fun k hk hn => by rw [Yh _ _ (by omega : k ≠ h.length)]; exact xC.old k hk hn⟩, ⟨fun p hp => ⟨o8 hA (.list (by intro x hx; simp at hx; subst hx; exact .agg (dG.tab p hp).2)) (dG.tab p hp).1, (dG.tab p hp).2⟩, fun k c hk => ?_, fun k k' c hk hk' => ?_, fun k c x hk hx => ?_, ?_⟩, ?_⟩
      ·by_cases hkn : k = h.length
       ·subst hkn; rw [ZW] at hk; injection hk with hk; subst hk; exact .inr M8
       ·rw [Yh _ _ hkn] at hk; exact xC.new k c hk
      ·have hlt := (hI.lt k c hk).1
       have hkn : k ≠ h.length := by omega
       have hL := xC.obj k c x hk hx
       have ae : (h ++ [HO.row e sz 0 xs])[k]? = h[k]? := List.getElem?_append_left hlt
       have hup : ∀ c', dA β' h.length k = some c' → upd (dA β' h.length) h.length b k = some c' := fun c' dx => by rw [Yh _ _ hkn]; exact dx
       cases x with
       | box t cs =>
        obtain ⟨q1, cs', q2⟩ := hL
        exact ⟨hup c q1, cs', ae.trans q2⟩
       | frz e sz g xs => exact ⟨hup c hL.1, ae.trans hx⟩
       | map kt et es =>
        obtain ⟨q1, es', q2⟩ := hL
        exact ⟨hup c q1, es', ae.trans q2⟩
       | row e2 Nw g2 DY =>
        obtain ⟨b', g', xs', q1, q2, q3, q4⟩ := hL
        exact ⟨b', g', xs', hup b' q1, by simpa [af, ae] using q2, q3, q4⟩
      ·by_cases hkn : k = h.length
       ·subst hkn; rw [ZW] at hk; injection hk with hk; subst hk
        exact ⟨by simp [af], (dG.lt o b hb).2⟩
       ·rw [Yh _ _ hkn] at hk
        have := oK.lt k c hk
        exact ⟨by simp [af]; omega, this.2⟩
      ·by_cases hkn : k = h.length
       ·subst hkn; rw [ZW] at hk; injection hk with hk; subst hk
        by_cases hkn' : k' = h.length
        ·exact hkn'.symm
        ·rw [Yh _ _ hkn'] at hk'
         exact absurd hk' (hfresh k')
       ·rw [Yh _ _ hkn] at hk
        by_cases hkn' : k' = h.length
        ·subst hkn'; rw [ZW] at hk'; injection hk' with hk'; subst hk'
         exact absurd hk (hfresh k)
        ·rw [Yh _ _ hkn'] at hk'
         exact oK.inj k k' c hk hk'
      ·by_cases hkn : k = h.length
       ·subst hkn; rw [ZW] at hk; injection hk with hk; subst hk
        have : x = .row e sz 0 xs := by simpa [af] using hx.symm
        subst this
        exact hrow
       ·rw [Yh _ _ hkn] at hk
        obtain ⟨q1, q2⟩ := dR hk
        have hx' : h[k]? = some x := by rw [← hx]; exact (List.getElem?_append_left q1).symm
        rcases hI.tot k q1 with ⟨b0, hb0⟩ | ⟨t, cs, h1, h2⟩
        ·refine D6 (β := β) (w := w) (h := h) (β' := β') (h' := h') hA (fun o b0 ho => ?_) (hI.ob k b0 x hb0 hx') (dG.ob k c x q2 (by rw [cr ht q1]; exact hx'))
         have hlt := (hI.lt o b0 ho).1
         have hne : o ≠ h.length := by omega
         refine ⟨?_, ?_⟩
         ·rw [Yh _ _ hne]; unfold dA; rw [if_pos hlt]
         ·rw [cr ht hlt]; exact List.getElem?_append_left hlt
        ·rw [hx'] at h1; injection h1 with h1; subst h1
         obtain ⟨vs, g1, g2⟩ := dG.ob k c (.box t cs) q2 (by rw [cr ht q1]; exact hx')
         exact ⟨vs, g1, j5 hA h2 g2⟩
      ·exact mG oK.tot _ _
      ·refine .row (ZW _ _ _) AX (fun h => by cases h) (.inl (fO _ _)) (Nat.le_refl _) (fun _ => ⟨by omega, fun h0 => ?_, fun _ => ⟨ka, fun _ _ => ⟨cur, qj, hcsz⟩⟩⟩)
       rw [ka]; simp
     ·cases aF
    ·exact cut ht (Bp dG (fun o ho => cr ht ho) cz NS).2.2.2
   ·injection hf with e1 e2; subst e1; subst e2; exact plain cz
  ·injection hf with e1 e2; subst e1; subst e2; exact plain cz
 ·rename_i hne
  have hv : valOf vs = .tuple vs.toArray := by
   unfold valOf
   split
   ·rename_i v
    cases hR with
    | cons hd hs => cases hs; exact absurd rfl (hne _)
   ·rfl
  have yI : RV β' w' h' (.tup ds) (valOf vs) := by rw [hv]; exact .tup hR
  split at hf
  ·rename_i ht
   split at hf
   ·rename_i vs' h2 hz
    injection hf with e1 e2; subst e1; subst e2
    refine cut ht ?_
    rw [hv]
    exact .tup (Bn dG (fun o ho => cr ht ho) hR hz)
   ·injection hf with e1 e2; subst e1; subst e2; exact plain yI
  ·injection hf with e1 e2; subst e1; subst e2; exact plain yI
theorem FL (hX : aj β w h β' w' h') (dG : Inv β' w' h') {ds : List DV} {vs : List Value} (hR : RVs β' w' h' ds vs) {d : DV} {hE : Zb} (hf : iJ h' ds = (d, hE)) :
 ∃ β2, aj β w h β2 w' (af d hE).2 ∧ Inv β2 w' (af d hE).2 ∧ RV β2 w' (af d hE).2 (af d hE).1 (valOf vs) := by
 have plain : ∀ {d : DV}, RV β' w' h' d (valOf vs) → ∃ β2, aj β w h β2 w' (af d h').2 ∧ Inv β2 w' (af d h').2 ∧ RV β2 w' (af d h').2 (af d h').1 (valOf vs) := by
  intro d hr
  rw [nQ (h2 := h') hr]
  exact ⟨β', hX, dG, hr⟩
 unfold iJ at hf
 split at hf
 ·rename_i d0
  cases hR with
  | cons eE hs0 =>
  rename_i v0 vs0
  cases hs0
  have cz : RV β' w' h' d0 (valOf [v0]) := eE
  injection hf with e1 e2; subst e1; subst e2; exact plain cz
 ·rename_i hne
  have hv : valOf vs = .tuple vs.toArray := by
   unfold valOf
   split
   ·rename_i v
    cases hR with
    | cons hd hs => cases hs; exact absurd rfl (hne _)
   ·rfl
  have yI : RV β' w' h' (.tup ds) (valOf vs) := by rw [hv]; exact .tup hR
  injection hf with e1 e2; subst e1; subst e2; exact plain yI
end
def xY (P : Program) (f : Nat) (g : List DV → Zb → Option (DV × Zb)) : Prop := ∀ args h d h' β w vs, g args h = some (d, h') → Inv β w h → RVs β w h args vs →
 (callFunc f vs.toArray).run P w = .ok (.enter f vs.toArray) w ∧
 Calls P f vs.toArray w (fun e w' => ∃ v β', e = .returned v ∧ aj β w h β' w' (af d h').2 ∧ Inv β' w' (af d h').2 ∧ RV β' w' (af d h').2 (af d h').1 v)
structure Sound (P : Program) (X : Nat → Option XK) (H : Nat → Hints) : Prop where
 mixed : P.follows .mixedOrders = true
 fn : ∀ f x, X f = some (.fn x) → ∃ fn, P.funcs[f]? = some fn ∧ xO P (H f) fn = some x
 ext : ∀ f g, X f = some (.ext g) → xY P f g
 fnl : ∀ f x, X f = some (.fnl x) → ∃ fn, P.funcs[f]? = some fn ∧ xO P (H f) fn = some x
section
variable {P : Program} {β β' : Bm} {w w' : World} {h h' : Zb}
def yy (tmps : Array Value) : ResultVar → Sem Value
 | .tmp t => pure (tmps.getD t undef)
 | .cell q t => do loadVar t (← asAddr (tmps.getD q undef))
theorem t8 {r : ResultVar} {x : XRes} (hx : gu P [r] = some [x]) (hI : Inv β w h) {e : Env} {a : Act} (hE : ER β w h e a) {ds : List DV} (hd : Yc [x] e h = some ds) :
 ∃ v, RVs β w h ds [v] ∧ (yy a.tmps r).run P w = .ok v w := by
 cases r with
 | tmp t =>
  simp only [gu] at hx
  injection hx with hx; injection hx with hx; subst hx
  simp only [Yc, Option.map_some] at hd
  injection hd with hd; subst hd
  exact ⟨_, .cons (hE t) .nil, rfl⟩
 | cell q t =>
  simp only [gu] at hx
  split at hx
  ·rename_i ag sz r h1 h2 h3
   injection h3 with h3; subst h3
   injection hx with hx; injection hx with hx; subst hx
   simp only [Yc] at hd
   split at hd
   ·rename_i d xq
    simp only [Option.map_some] at hd
    injection hd with hd; subst hd
    have hr := hE q
    obtain ⟨u, hu, jM⟩ := tL (P := P) hI h1 h2 hr xq
    refine ⟨u, .cons jM .nil, ?_⟩
    show (do loadVar t (← asAddr (a.tmps.getD q undef)) : Sem Value).run P w = _
    generalize a.tmps.getD q undef = v at hr hu ⊢
    generalize lk e q = dd at hr xq
    cases hr <;> simp [ay] at xq
    ·simpa [Instr.loadAt, Instr.sureAddr, asAddr] using hu
    ·simpa [Instr.loadAt, Instr.sureAddr, asAddr] using hu
   ·cases hd
  ·cases hx
theorem pI (hI : Inv β w h) {e : Env} {a : Act} (hE : ER β w h e a) : ∀ {rs : List ResultVar} {xs : List XRes} {ds : List DV}, gu P rs = some xs → Yc xs e h = some ds →
 ∃ vs, RVs β w h ds vs ∧ (rs.mapM (yy a.tmps)).run P w = .ok vs w
 | [], xs, ds, hx, hd => by
  simp only [gu] at hx
  injection hx with hx; subst hx
  simp only [Yc] at hd
  injection hd with hd; subst hd
  exact ⟨[], .nil, rfl⟩
 | r :: rs, xs, ds, hx, hd => by
  have H9 : ∃ x xs', xs = x :: xs' ∧ gu P [r] = some [x] ∧ gu P rs = some xs' := by
   cases r with
   | tmp t =>
    simp only [gu] at hx ⊢
    split at hx
    ·rename_i r h1
     injection hx with hx; subst hx
     exact ⟨_, _, rfl, rfl, h1⟩
    ·cases hx
   | cell q t =>
    simp only [gu] at hx ⊢
    split at hx
    ·rename_i ag sz r h1 h2 h3
     injection hx with hx; subst hx
     exact ⟨_, _, rfl, by rw [h1, h2], h3⟩
    ·cases hx
  obtain ⟨x, xs', rfl, h1, h2⟩ := H9
  have hds : ∃ d ds', ds = d :: ds' ∧ Yc [x] e h = some [d] ∧ Yc xs' e h = some ds' := by
   cases x with
   | t s =>
    simp only [Yc] at hd ⊢
    rw [Option.map_eq_some_iff] at hd
    obtain ⟨r', hr', rfl⟩ := hd
    exact ⟨_, _, rfl, rfl, hr'⟩
   | cell s ag sz =>
    simp only [Yc] at hd ⊢
    split at hd
    ·rename_i d xq
     rw [Option.map_eq_some_iff] at hd
     obtain ⟨r', hr', rfl⟩ := hd
     exact ⟨_, _, rfl, rfl, hr'⟩
    ·cases hd
  obtain ⟨d, ds', rfl, h3, h4⟩ := hds
  obtain ⟨v, hv, hrun⟩ := t8 h1 hI hE h3
  obtain ⟨vs, hvs, K0⟩ := pI hI hE h2 h4
  cases hv with
  | cons iU _ =>
   refine ⟨v :: vs, .cons iU hvs, ?_⟩
   rw [List.mapM_cons, Sem.run_bind]
   rw [hrun]
   simp only [Result.andThen_ok]
   rw [Sem.run_bind, K0]
   rfl
theorem qK {fn : Func} {xs : List XRes} (hx : gu P fn.results.toList = some xs) (hI : Inv β w h) {e : Env} {a : Act} (hE : ER β w h e a) {ds : List DV} (hd : Yc xs e h = some ds) :
 ∃ vs, RVs β w h ds vs ∧ (results fn a.tmps).run P w = .ok (valOf vs) w := by
 obtain ⟨vs, h1, h2⟩ := pI hI hE hx hd
 refine ⟨vs, h1, ?_⟩
 have hfun : results fn a.tmps = (do let vs ← fn.results.mapM (yy a.tmps); pure (if h : vs.size = 1 then vs[0] else .tuple vs)) := by
  unfold results
  congr 1
 rw [hfun]
 rw [Array.mapM_eq_mapM_toList, map_eq_pure_bind, Sem.run_bind, Sem.run_bind, h2]
 simp only [Result.andThen_ok, Sem.run_pure]
 congr 1
 match vs with
 | [] => rfl
 | [v] => rfl
 | v :: u :: l =>
  have : (v :: u :: l).toArray.size ≠ 1 := by simp
  rw [dif_neg this]
  rfl
theorem qf : ∀ (args : List DV) (i s : Nat), lk (Ze args i) s = if i ≤ s then (args[s - i]?).getD .undef else .undef
 | [], i, s => by simp [Ze, lk]
 | d :: l, i, s => by
  simp only [Ze, lk, qf l (i + 1) s]
  by_cases h1 : i = s
  ·subst h1; simp
  ·by_cases h2 : i ≤ s
   ·rw [if_neg h1, if_pos h2, if_pos (by omega), show s - i = (s - (i + 1)) + 1 by omega, List.getElem?_cons_succ]
   ·rw [if_neg h1, if_neg h2, if_neg (by omega)]
theorem vN {X : Nat → Option XK} {H : Nat → Hints} (hS : Sound P X H) : ∀ n, iO P (d9 X n)
 | 0 => fun f args h d h' β w vs hev => by simp [d9] at hev
 | n + 1 => fun f args h d h' β w vs hev hI hR => by
  simp only [d9] at hev
  split at hev
  ·cases hev
  ·rename_i g hX
   exact hS.ext f g hX args h d h' β w vs hev hI hR
  ·rename_i x hX
   obtain ⟨fn, hfn, cA⟩ := hS.fn f x hX
   split at hev
   case isFalse => cases hev
   rename_i hlen
   unfold xO at cA
   split at cA
   case h_2 => cases cA
   rename_i c hbody
   split at cA
   case h_2 => cases cA
   rename_i xc xr lU HW
   split at cA
   case isFalse => cases cA
   rename_i hq
   injection cA with cA; subst cA
   obtain ⟨hnp, hname⟩ := hq
   simp only at hlen hev
   have hvl : vs.length = args.length := hR.len.symm
   have hrun : (callFunc f vs.toArray).run P w = .ok (.enter f vs.toArray) w := by
    simp [callFunc, hfn, hname, hbody]
   refine ⟨hrun, calls_of_wp hfn hbody ?_⟩
   have hsz : (vs.toArray ++ Array.replicate (fn.ntmps - vs.toArray.size) undef).size = fn.ntmps := by
    simp; omega
   have tK : ER β w h (Ze args 0) { tmps := vs.toArray ++ Array.replicate (fn.ntmps - vs.toArray.size) undef, defers := [] } := by
    intro s
    rw [qf]
    simp only [Nat.zero_le, if_true, Nat.sub_zero]
    cases hs : args[s]? with
    | none => exact .undef _
    | some d0 =>
     obtain ⟨v, hv, iV⟩ := hR.get hs
     have : (vs.toArray ++ Array.replicate (fn.ntmps - vs.toArray.size) undef).getD s undef = v := by
      rw [Array.getD_eq_getD_getElem?, Array.getElem?_append_left (by have := (List.getElem?_eq_some_iff.1 hv).1; simpa using this)]
      simp [hv]
     simp only [Option.getD_some]
     rw [this]
     exact iV
   have final : ∀ (ex : Ex) (e : Env) (h1 : Zb) (ds : List DV), aL (d9 X n) n xc (Ze args 0) h = some (ex, e, h1) → (ex = .norm ∨ ex = .ret) → Yc xr e h1 = some ds → fin h h1 ds = (d, h') →
    c.wp P (bodyPost P fn (fun e w' => ∃ v β', e = .returned v ∧ aj β w h β' w' (af d h').2 ∧ Inv β' w' (af d h').2 ∧ RV β' w' (af d h').2 (af d h').1 v))
     { tmps := vs.toArray ++ Array.replicate (fn.ntmps - vs.toArray.size) undef, defers := [] } w := by
    intro ex e h1 ds sB hex hres aB
    refine xS (vN hS n) hS.mixed n c xc lU _ _ _ sB β w _ [] hI tK hsz rfl _ ?_
    intro β' w' a' q1 q2 q3 q4 q5
    obtain ⟨us, r1, r2⟩ := qK HW q2 q3 hres
    obtain ⟨β2, p1, p2, p3⟩ := IQ hI q1 q2 r1 aB
    rcases hex with rfl | rfl
    ·exact ⟨q5, _, r2, _, β2, rfl, p1, p2, p3⟩
    ·exact ⟨q5, _, r2, _, β2, rfl, p1, p2, p3⟩
   split at hev
   ·rename_i e h1 hb
    rw [Option.map_eq_some_iff] at hev
    obtain ⟨ds, hds, aB⟩ := hev
    exact final .norm e h1 ds hb (.inl rfl) hds aB
   ·rename_i e h1 hb
    rw [Option.map_eq_some_iff] at hev
    obtain ⟨ds, hds, aB⟩ := hev
    exact final .ret e h1 ds hb (.inr rfl) hds aB
   ·cases hev
  ·rename_i x hX
   obtain ⟨fn, hfn, cA⟩ := hS.fnl f x hX
   split at hev
   case isFalse => cases hev
   rename_i hlen
   unfold xO at cA
   split at cA
   case h_2 => cases cA
   rename_i c hbody
   split at cA
   case h_2 => cases cA
   rename_i xc xr lU HW
   split at cA
   case isFalse => cases cA
   rename_i hq
   injection cA with cA; subst cA
   obtain ⟨hnp, hname⟩ := hq
   simp only at hlen hev
   have hvl : vs.length = args.length := hR.len.symm
   have hrun : (callFunc f vs.toArray).run P w = .ok (.enter f vs.toArray) w := by
    simp [callFunc, hfn, hname, hbody]
   refine ⟨hrun, calls_of_wp hfn hbody ?_⟩
   have hsz : (vs.toArray ++ Array.replicate (fn.ntmps - vs.toArray.size) undef).size = fn.ntmps := by
    simp; omega
   have tK : ER β w h (Ze args 0) { tmps := vs.toArray ++ Array.replicate (fn.ntmps - vs.toArray.size) undef, defers := [] } := by
    intro s
    rw [qf]
    simp only [Nat.zero_le, if_true, Nat.sub_zero]
    cases hs : args[s]? with
    | none => exact .undef _
    | some d0 =>
     obtain ⟨v, hv, iV⟩ := hR.get hs
     have : (vs.toArray ++ Array.replicate (fn.ntmps - vs.toArray.size) undef).getD s undef = v := by
      rw [Array.getD_eq_getD_getElem?, Array.getElem?_append_left (by have := (List.getElem?_eq_some_iff.1 hv).1; simpa using this)]
      simp [hv]
     simp only [Option.getD_some]
     rw [this]
     exact iV
   have final : ∀ (ex : Ex) (e : Env) (h1 : Zb) (ds : List DV), aL (d9 X n) n xc (Ze args 0) h = some (ex, e, h1) → (ex = .norm ∨ ex = .ret) → Yc xr e h1 = some ds → iJ h1 ds = (d, h') →
    c.wp P (bodyPost P fn (fun e w' => ∃ v β', e = .returned v ∧ aj β w h β' w' (af d h').2 ∧ Inv β' w' (af d h').2 ∧ RV β' w' (af d h').2 (af d h').1 v))
     { tmps := vs.toArray ++ Array.replicate (fn.ntmps - vs.toArray.size) undef, defers := [] } w := by
    intro ex e h1 ds sB hex hres aB
    refine xS (vN hS n) hS.mixed n c xc lU _ _ _ sB β w _ [] hI tK hsz rfl _ ?_
    intro β' w' a' q1 q2 q3 q4 q5
    obtain ⟨us, r1, r2⟩ := qK HW q2 q3 hres
    obtain ⟨β2, p1, p2, p3⟩ := FL q1 q2 r1 aB
    rcases hex with rfl | rfl
    ·exact ⟨q5, _, r2, _, β2, rfl, p1, p2, p3⟩
    ·exact ⟨q5, _, r2, _, β2, rfl, p1, p2, p3⟩
   split at hev
   ·rename_i e h1 hb
    rw [Option.map_eq_some_iff] at hev
    obtain ⟨ds, hds, aB⟩ := hev
    exact final .norm e h1 ds hb (.inl rfl) hds aB
   ·rename_i e h1 hb
    rw [Option.map_eq_some_iff] at hev
    obtain ⟨ds, hds, aB⟩ := hev
    exact final .ret e h1 ds hb (.inr rfl) hds aB
   ·cases hev
theorem J0 {X : Nat → Option XK} {H : Nat → Hints} (hS : Sound P X H) : iO P (E X) := by
 intro f args h d h' β w vs hev hI hR
 obtain ⟨n, hn⟩ := (pB _ _ _ _ _).1 hev
 exact vN hS n f args h d h' β w vs hn hI hR
end
end Go.Proofs.YteekbciaggmfgaaDoor
