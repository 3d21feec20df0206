/- append. -/
import Derived.Test.YtfgnefnpfgdliaaDoorEngK
namespace Go.Proofs.YtfgnefnpfgdliaaDoor
open Go.RowKit
set_option linter.unusedVariables false
set_option linter.unusedSimpArgs false

section
variable {P : Program} {β β' : Bm} {w w' : World} {h h' : Heap}

theorem rvs_one {sz : Nat} {xs : List DV} {vs : List Value} (hr : RVs β w h (flat xs) vs) (hw : ∀ x ∈ xs, Wc sz x) : ∀ u ∈ vs, u.oneCell' = true := by
  intro u hu
  obtain ⟨d, hd, hrd⟩ := hr.mem hu
  obtain ⟨x, hx, hdx⟩ := List.mem_flatMap.1 hd
  exact hrd.one ((hw x hx).2 d hdx)
/-- What a slice's first cells are. -/
theorem vw_first (hI : Inv β w h) {d : DV} {sz : Nat} {xs : List DV} {A : Option Addr} {n cap : Nat} (hr : RV β w h d (.slice A n cap)) (hv : vw h sz d = some xs) :
    ∃ olds, RVs β w h (flat xs) olds ∧ olds.length = n * sz ∧ n = xs.length ∧ (∀ x ∈ xs, Wc sz x) ∧ (∀ W : World, W.heap = w.heap → ∀ k, (Builtin.firstCells sz n (.slice A n k)).run P W = .ok olds.toArray W) ∧
      (A = none → n = 0 ∧ cap = 0) ∧ (∀ a, A = some a → ∀ (j : Nat) u, olds[j]? = some u → w.cell? (a.add j) = some u) := by
  obtain ⟨hn, hw, hc⟩ := vw_cells hI hr hv
  have hA : A = none → n = 0 ∧ cap = 0 := by
    rintro rfl
    cases hr with
    | nils => exact ⟨rfl, rfl⟩
    | undef => simp [vw] at hv
  rcases hc with rfl | ⟨a, vs, rfl, hrs, hcs⟩
  · simp at hn; subst hn
    refine ⟨[], .nil, by simp, rfl, hw, fun W hW k => ?_, hA, fun a ha j u hu => by simp at hu⟩
    cases A with
    | none => exact run_firstCells_none W sz 0 0 k
    | some a => exact run_firstCells_some W sz 0 a 0 k [] (by simp) (by simp)
  · have hl : vs.length = n * sz := by rw [← hrs.len, flat_length (fun x hx => (hw x hx).1), hn]
    refine ⟨vs, hrs, hl, hn, hw, fun W hW k => run_firstCells_some W sz n a n k vs hl (fun j v hj => ?_), hA, fun a' ha j u hu => by injection ha with ha; subst ha; exact hcs j u hu⟩
    have h1 := hcs j v hj
    simpa [World.cell?, hW] using h1

theorem bytes_rvs (s : ByteArray) : RVs β w h (flat (bytesOf s)) (byteCells s) := by
  unfold bytesOf byteCells flat
  generalize s.data.toList = l
  induction l with
  | nil => exact .nil
  | cons b l ih => exact .cons (.int _ _) ih
theorem good_src (hI : Inv β w h) {y : DV} {v : Value} {sz : Nat} {ys : List DV} {u : TypeId} (hr : RV β w h y v) (hs : srcOf h sz y = some ys) (hk : (∃ e', P.underlying u = some (.slice e')) ∨ P.underlying u = some .string) :
    ∃ news, Src P sz u v ys.length news w ∧ RVs β w h (flat ys) news ∧ ∀ y ∈ ys, Wc sz y := by
  unfold srcOf at hs
  split at hs
  · rename_i s
    split at hs
    · rename_i h1
      injection hs with hs; subst hs
      subst h1
      cases hr
      have hl : (bytesOf s).length = s.size := by unfold bytesOf; simp
      refine ⟨byteCells s, ⟨hk, fun W => by rw [hl]; rfl, by rw [hl]; exact firstCells_string s w, by rw [hl]; exact firstCells_string s w.drew, by rw [hl, byteCells_length, Nat.mul_one], fun q hq => ?_⟩, bytes_rvs s, fun y hy => ?_⟩
      · obtain ⟨_, _, rfl⟩ := List.mem_map.1 hq; rfl
      · obtain ⟨b, _, rfl⟩ := List.mem_map.1 hy
        exact ⟨rfl, fun c hc => by simp [DV.cells] at hc; subst hc; rfl⟩
    · cases hs
  · obtain ⟨A, n, cap, rfl⟩ := vw_slice hr hs
    obtain ⟨olds, h1, h2, h3, h4, h5, h6, h7⟩ := vw_first (P := P) hI hr hs
    subst h3
    refine ⟨olds, ⟨hk, fun W => rfl, ?_, ?_, h2, rvs_one h1 h4⟩, h1, h4⟩
    · cases A with
      | none => exact h5 w rfl cap
      | some a => exact h5 w rfl cap
    · exact h5 w.drew rfl cap

theorem run_append_zero {t tx ty e : TypeId} {i : TypeInfo} (ht : P.underlying t = some (.slice e)) (hi : P.info? e = some i) (base : Option Addr) (sLen sCap : Nat) (x : Value) (hs : Src P i.size tx x 0 [] w) (hc : sLen ≤ sCap) :
    (Builtin.append_ #[t, tx] ty #[.slice base sLen sCap, x]).run P w = .ok (.slice base sLen sCap) w := by
  have h1 := hs.len w
  have h2 := hs.cells
  rcases hs.kind with ⟨e', hk⟩ | hk <;> (cases base <;> simp [Builtin.append_, run_underlying ht, run_underlying hk, sizeOf, typeInfo, hi, h1, hc, h2, storeCells])

theorem run_append_room {t tx ty e : TypeId} {i : TypeInfo} (ht : P.underlying t = some (.slice e)) (hi : P.info? e = some i) (b sLen sCap : Nat) (x : Value) (n : Nat) (news : List Value) (hs : Src P i.size tx x n news w) (hc : sLen + n ≤ sCap)
    {cur : Array Value} {e' : TypeId} (hb : w.heap[b]? = some (.cells cur e' (0, 0))) (hcs : cur.size = sCap * i.size) :
    (Builtin.append_ #[t, tx] ty #[.slice (some ⟨b, 0, none⟩) sLen sCap, x]).run P w = .ok (.slice (some ⟨b, 0, none⟩) (sLen + n) sCap) (w.setRow b (cur.toList.take (sLen * i.size) ++ news ++ cur.toList.drop ((sLen + n) * i.size)).toArray) := by
  have hle : (sLen + n) * i.size ≤ sCap * i.size := Nat.mul_le_mul_right _ hc
  have hst := run_storeCells_at P b (sLen * i.size) e' news 0 cur w hb (by rw [hs.newsLen, hcs]; rw [Nat.add_mul] at hle; omega) hs.one
  rw [Nat.add_zero, hs.newsLen, ← Nat.add_mul] at hst
  rcases hs.kind with ⟨e', hk⟩ | hk <;> simp [Builtin.append_, run_underlying ht, run_underlying hk, sizeOf, typeInfo, hi, hs.len, hc, hs.cells, add_p, hst]

theorem grownBy_drew_alloc (w : World) (o : Obj) (row : Option Nat) : w.grownBy (w.drew.alloc o) row :=
  ⟨rfl, rfl, rfl, by simp, fun k hk _ => alloc_old w.drew o (b := k) (by simpa using hk)⟩
theorem grownBy_setRow (w : World) (b : Nat) (cs : Array Value) : w.grownBy (w.setRow b cs) (some b) :=
  ⟨rfl, rfl, rfl, by simp [World.setRow], fun k hk hne => by simp [World.setRow, Array.getElem?_modify, Ne.symm (show k ≠ b from fun e => hne (by rw [e]))]⟩

theorem good_app (hI : Inv β w h) {t u ty et : TypeId} {i : TypeInfo} {z : Value} {x y d : DV} {vx vy : Value} {xs ys : List DV} (ht : P.underlying t = some (.slice et)) (hk : (∃ e', P.underlying u = some (.slice e')) ∨ P.underlying u = some .string)
    (hi : P.info? et = some i) (hz : i.zero = some z) (hzs : z.cells.size = i.size) (hs0 : 0 < i.size) (hb0 : 0 < i.bytes) (hx : RV β w h x vx) (hy : RV β w h y vy) (hvx : vw h i.size x = some xs) (hvy : srcOf h i.size y = some ys)
    (hd : appx h et i.size i.bytes x xs ys = some (d, h')) :
    ∃ v w' β', (Builtin.append_ #[t, u] ty #[vx, vy]).run P w = .ok v w' ∧ Ext β w h β' w' h' ∧ Inv β' w' h' ∧ RV β' w' h' d v := by
  unfold appx at hd
  obtain ⟨A, n, cap, rfl⟩ := vw_slice hx hvx
  obtain ⟨olds, ho1, ho2, ho3, ho4, ho5, ho6, ho7⟩ := vw_first (P := P) hI hx hvx
  obtain ⟨news, hn1, hn2, hn3⟩ := good_src hI hy hvy hk
  have hcap : n ≤ cap := by
    cases hx with
    | nils => exact Nat.le_refl _
    | list hn hc => exact hc
    | row hb hc => exact hc
    | undef => simp [vw] at hvx
  split at hd
  · rename_i hy0
    simp only [Option.some.injEq, Prod.mk.injEq] at hd
    obtain ⟨rfl, rfl⟩ := hd
    subst hy0
    have : news = [] := by have := hn2.len; simp [flat] at this; exact List.length_eq_zero_iff.1 this.symm
    subst this
    exact ⟨_, w, β, run_append_zero ht hi A n cap vy hn1 hcap, Ext.refl _ _ _, hI, hx⟩
  rename_i hy0
  have hyl : 0 < ys.length := List.length_pos_iff.2 hy0
  split at hd
  case isFalse => cases hd
  rename_i hfit
  have hneed : (xs.length + ys.length) ≤ (xs.length + ys.length) * i.bytes := Nat.le_mul_of_pos_right _ hb0
  have hmax : n + ys.length ≤ maxLen := by simp [maxLen]; omega
  -- a new row
  have hgrow : cap < n + ys.length → ∃ w' cur C, (Builtin.append_ #[t, u] ty #[.slice A n cap, vy]).run P w = .ok (.slice (some ⟨w.heap.size, 0, none⟩) (n + ys.length) C) w' ∧ w.grownBy w' none ∧ w'.heap.size = w.heap.size + 1 ∧ w'.heap[w.heap.size]? = some (.cells cur et (0, 0)) ∧
      cur.size = C * i.size ∧ n + ys.length ≤ C ∧ C ≤ maxLen ∧ cur.toList.take ((n + ys.length) * i.size) = olds ++ news := by
    intro hlt
    have hfit' : Builtin.nextslicecap (n + ys.length) cap * i.bytes ≤ 281474976710656 := growslice_fits hlt (by rw [ho3]; exact hfit)
    have hrun := run_append_grow_src w t u ty et i z ht hi hz A n cap olds (ho5 w.drew rfl cap) vy ys.length news hn1 hlt (by omega) hfit'
    have hge := grownCap_ge w (n + ys.length) cap et
    have hle := grownCap_le_maxLen w (n + ys.length) cap et hmax
    have hlen : (olds ++ news).length = (n + ys.length) * i.size := by rw [List.length_append, ho2, hn1.newsLen, Nat.add_mul]
    refine ⟨_, _, _, hrun, grownBy_drew_alloc _ _ _, by simp, heap_alloc_new w.drew _, ?_, hge, hle, ?_⟩
    · rw [Array.size_append, size_zeroCells, hzs, List.size_toArray, hlen, ← Nat.add_mul]
      congr 1; omega
    · rw [Array.toList_append, List.take_append_of_le_length (by show _ ≤ (olds ++ news).length; rw [hlen]; exact Nat.le_refl _)]
      exact List.take_of_length_le (by show (olds ++ news).length ≤ _; rw [hlen]; exact Nat.le_refl _)
  have hnew : cap < n + ys.length → ∃ v w' β', (Builtin.append_ #[t, u] ty #[.slice A n cap, vy]).run P w = .ok v w' ∧ Ext β w h β' w' (h ++ [.row et i.size 0 (xs ++ ys)]) ∧ Inv β' w' (h ++ [.row et i.size 0 (xs ++ ys)]) ∧
      RV β' w' (h ++ [.row et i.size 0 (xs ++ ys)]) (.row h.length 0 0 (xs.length + ys.length) false) v := by
    intro hlt
    obtain ⟨w1, cur, C, hrun, hg, hsz, hat, hcs, hge, hle, htk⟩ := hgrow hlt
    have he := Ext.allocG hI (.row et i.size 0 (xs ++ ys)) hg (Nat.le_refl w.heap.size)
    have hi2 := Inv.allocG hI (.row et i.size 0 (xs ++ ys)) hg (Nat.le_refl w.heap.size) (by omega) ⟨cur, C, hat, hcs, by rw [List.length_append]; omega, hle, hs0, fun q hq => by
      rcases List.mem_append.1 hq with hq | hq
      · exact ho4 q hq
      · exact hn3 q hq, by
      rw [List.length_append, ← ho3, htk, flat_append]
      exact (RVs.ext he ho1).append (RVs.ext he hn2)⟩
    refine ⟨_, w1, _, hrun, he, hi2, ?_⟩
    rw [← ho3]
    exact .row (upd_self _ _ _) hge (fun h => by cases h) (.inl (last_get _ _)) (Nat.le_refl _) (fun _ => ⟨by rw [List.length_append]; omega, fun _ => by simp, fun _ => ⟨rfl, fun _ _ => ⟨cur, hat, hcs⟩⟩⟩)
  split at hd
  · simp only [Option.some.injEq, Prod.mk.injEq] at hd
    obtain ⟨rfl, rfl⟩ := hd
    simp [vw] at hvx; subst hvx
    cases hx
    simpa using hnew (by omega)
  · simp only [Option.some.injEq, Prod.mk.injEq] at hd
    obtain ⟨rfl, rfl⟩ := hd
    cases hx with
    | list hn hc hcc =>
      have := hcc rfl
      exact hnew (by omega)
  · simp only [Option.some.injEq, Prod.mk.injEq] at hd
    obtain ⟨rfl, rfl⟩ := hd
    cases hx with
    | row hb hc hcc =>
      have := hcc rfl
      exact hnew (by omega)
  · rename_i o g n'
    split at hd
    · rename_i t' sz' g0 zs hoz
      split at hd
      · rename_i hq
        obtain ⟨rfl, hnz⟩ := hq
        simp only [Option.some.injEq, Prod.mk.injEq] at hd
        obtain ⟨rfl, rfl⟩ := hd
        have hvv : sz' = i.size ∧ g0 = g ∧ xs = zs := by
          simp only [vw, hoz] at hvx
          split at hvx
          · rename_i hq
            injection hvx with hvx
            refine ⟨hq.1, hq.2.1, ?_⟩
            rw [← hvx, hnz]; simp
          · cases hvx
        obtain ⟨rfl, rfl, rfl⟩ := hvv
        cases hx with
        | row hb hc hcc ho hg hs =>
          rename_i a b e'' sz'' g'' xs''
          rw [hoz] at ho
          rcases ho with ho | ho
          · injection ho with ho
            injection ho with ho1' ho2' ho3' ho4'
            subst ho1'; subst ho2'; subst ho3'; subst ho4'
            obtain ⟨k1, k2, k3⟩ := hs rfl
            obtain ⟨ka, kb⟩ := k3 rfl
            obtain ⟨cur, hcur, hcsz⟩ := kb rfl hoz
            subst ka
            by_cases hroom : n + ys.length ≤ cap
            · have hrun := run_append_room (ty := ty) ht hi b n cap vy ys.length news hn1 hroom hcur hcsz
              have hg1 := grownBy_setRow w b (cur.toList.take (n * i.size) ++ news ++ cur.toList.drop ((n + ys.length) * i.size)).toArray
              have hlt := hI.lt o b hb
              have he := Ext.moveG (ys := xs ++ ys) hI hg1 (.inl rfl) hb hoz
              obtain ⟨cur2, C, q1, q2, q3, q4, q5, q6, q7⟩ := hI.ob o b _ hb hoz
              rw [hcur] at q1
              injection q1 with q1
              injection q1 with q1; subst q1
              have hC : C = cap := Nat.eq_of_mul_eq_mul_right hs0 (by rw [← q2, hcsz])
              subst hC
              have hat := setRow_at w b (cur.toList.take (n * i.size) ++ news ++ cur.toList.drop ((n + ys.length) * i.size)).toArray hcur
              have hle : (n + ys.length) * i.size ≤ C * i.size := Nat.mul_le_mul_right _ hroom
              have hcl : cur.toList.length = C * i.size := by rw [Array.length_toList]; exact hcsz
              have hnl := hn1.newsLen
              have hmul : (n + ys.length) * i.size = n * i.size + ys.length * i.size := Nat.add_mul _ _ _
              have htl : (cur.toList.take (n * i.size)).length = n * i.size := by rw [List.length_take]; omega
              have hsz2 : (cur.toList.take (n * i.size) ++ news ++ cur.toList.drop ((n + ys.length) * i.size)).toArray.size = C * i.size := by
                rw [List.size_toArray, List.length_append, List.length_append, List.length_drop, htl]; omega
              have hi2 := Inv.moveG (ys := xs ++ ys) hI hg1 (.inl rfl) (by have := hg1.size; omega) hb hoz ⟨_, C, hat, hsz2, by rw [List.length_append]; omega, q4, hs0, fun q hq => by
                rcases List.mem_append.1 hq with hq | hq
                · exact ho4 q hq
                · exact hn3 q hq, by
                rw [List.length_append, ← ho3, flat_append]
                have : (cur.toList.take (n * i.size) ++ news ++ cur.toList.drop ((n + ys.length) * i.size)).toArray.toList.take ((n + ys.length) * i.size) = cur.toList.take (n * i.size) ++ news := by
                  show List.take _ (cur.toList.take (n * i.size) ++ news ++ cur.toList.drop ((n + ys.length) * i.size)) = _
                  rw [List.take_append_of_le_length (by rw [List.length_append, htl]; omega), List.take_of_length_le (by rw [List.length_append, htl]; omega)]
                rw [this]
                rw [← ho3] at q7
                exact (RVs.ext he q7).append (RVs.ext he hn2)⟩
              refine ⟨_, _, _, hrun, he, hi2, ?_⟩
              exact .row (upd_self _ _ _) hroom (fun h => by cases h) (.inl (List.getElem?_set_self hlt.1)) (Nat.le_refl _) (fun _ => ⟨by rw [List.length_append]; omega, fun _ => by simp, fun _ => ⟨rfl, fun _ _ => ⟨_, hat, hsz2⟩⟩⟩)
            · obtain ⟨w1, cur1, C, hrun, hg1, hsz, hat, hcs, hge, hle, htk⟩ := hgrow (by omega)
              have hlt := hI.lt o b hb
              have hg2 : w.grownBy w1 (some b) := ⟨hg1.os, hg1.tape, hg1.output, hg1.size, fun k hk _ => hg1.block k hk (by simp)⟩
              have he := Ext.moveG (ys := xs ++ ys) hI hg2 (.inr (Nat.le_refl w.heap.size)) hb hoz
              have hi2 := Inv.moveG (ys := xs ++ ys) hI hg2 (.inr (Nat.le_refl w.heap.size)) (by omega) hb hoz ⟨cur1, C, hat, hcs, by rw [List.length_append]; omega, hle, hs0, fun q hq => by
                rcases List.mem_append.1 hq with hq | hq
                · exact ho4 q hq
                · exact hn3 q hq, by
                rw [List.length_append, ← ho3, htk, flat_append]
                exact (RVs.ext he ho1).append (RVs.ext he hn2)⟩
              refine ⟨_, w1, _, hrun, he, hi2, ?_⟩
              exact .row (upd_self _ _ _) hge (fun h => by cases h) (.inl (List.getElem?_set_self hlt.1)) (Nat.le_refl _) (fun _ => ⟨by rw [List.length_append]; omega, fun _ => by simp, fun _ => ⟨rfl, fun _ _ => ⟨cur1, hat, hcs⟩⟩⟩)
          · cases ho
      · cases hd
    · cases hd
  · cases hd
end
end Go.Proofs.YtfgnefnpfgdliaaDoor
