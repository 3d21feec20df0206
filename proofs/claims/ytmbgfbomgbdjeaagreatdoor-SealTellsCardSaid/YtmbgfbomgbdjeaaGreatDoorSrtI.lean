/- Ideal runs. -/
import Derived.Test.YtmbgfbomgbdjeaaGreatDoorGrow
import Derived.Test.YtmbgfbomgbdjeaaGreatDoorShlf
namespace Go.Proofs.YtmbgfbomgbdjeaaGreatDoor
open Go.RowKit Go.Sort
set_option linter.unusedVariables false
set_option linter.unusedSimpArgs false
def l6 : List DV → Option (List Int)
 | [] => some []
 | .int .i64 a :: l => (l6 l).map fun r => a :: r
 | _ => none
def cO (zs : List Int) : List Int := zs.mergeSort fun x y => decide (x ≤ y)
def ky : List DV → Zb → Option (DV × Zb)
 | [.nils], h => some (.tup [], h)
 | [.row o g lo n _], h => if n = 0 then some (.tup [], h) else match h[o]? with
  | some (.row e sz g' xs) => if sz = 1 ∧ g' = g ∧ lo + n ≤ xs.length ∧ n < 4611686018427387904 then (match l6 ((xs.drop lo).take n) with
   | some zs => some (.tup [], h.set o (.row e 1 g (xs.take lo ++ (cO zs).map (DV.int .i64) ++ xs.drop (lo + n))))
   | none => none)
   else none
  | _ => none
 | [.list _ [] _], h => some (.tup [], h)
 | _, _ => none
theorem xI : ∀ {l : List DV} {zs : List Int}, l6 l = some zs → l = zs.map (DV.int .i64)
 | [], zs, h => by simp only [l6, Option.some.injEq] at h; subst h; rfl
 | .int .i64 a :: l, zs, h => by
  simp only [l6] at h
  cases hl : l6 l with
  | none => rw [hl] at h; cases h
  | some r =>
   rw [hl] at h
   simp only [Option.map_some, Option.some.injEq] at h
   subst h
   rw [xI hl]; rfl
theorem AX (zs : List Int) : (cO zs).length = zs.length := List.length_mergeSort _
theorem yU {β : Bm} {w : World} {h : Zb} : ∀ {zs : List Int} {vs : List Value}, RVs β w h (zs.map (DV.int .i64)) vs → vs = zs.map (Value.int .i64)
 | [], _, .nil => rfl
 | a :: l, _, .cons h1 h2 => by cases h1; rw [yU h2]; rfl
theorem tG {β : Bm} {w : World} {h : Zb} : ∀ (zs : List Int), RVs β w h (zs.map (DV.int .i64)) (zs.map (Value.int .i64))
 | [] => .nil
 | a :: l => .cons (.int _ _) (tG l)
theorem sG : ∀ (zs : List Int), flat (zs.map (DV.int .i64)) = zs.map (DV.int .i64)
 | [] => rfl
 | a :: l => by simp only [flat, List.map_cons, List.flatMap_cons] at *; rw [show List.flatMap DV.cells (l.map (DV.int .i64)) = l.map (DV.int .i64) from sG l]; rfl
theorem yC (lo : Nat) (d : List Int) (c : Array Value) (h : lo + d.length ≤ c.size) :
 (putCells (Value.int .i64) lo d.toArray c).toList = c.toList.take lo ++ d.map (Value.int .i64) ++ c.toList.drop (lo + d.length) := by
 apply List.ext_getElem?
 intro k
 have e : (putCells (Value.int .i64) lo d.toArray c).toList[k]? = (c.toList[k]?).map fun x => if lo ≤ k ∧ k < lo + d.length then Value.int .i64 d.toArray[k - lo]! else x := by
  rw [Array.getElem?_toList, Array.getElem?_toList]
  simp only [putCells, Array.getElem?_mapIdx, List.size_toArray]
 rw [e]
 have h1 : (c.toList.take lo).length = lo := by rw [List.length_take, Array.length_toList]; omega
 by_cases c1 : k < lo
 ·rw [List.append_assoc, List.getElem?_append_left (by omega), List.getElem?_take_of_lt c1]
  have : ¬ (lo ≤ k ∧ k < lo + d.length) := by omega
  cases c.toList[k]? <;> simp [this]
 ·by_cases c2 : k < lo + d.length
  ·rw [List.getElem?_append_left (by rw [List.length_append, h1, List.length_map]; omega), List.getElem?_append_right (by omega), h1]
   have hk : k < c.toList.length := by rw [Array.length_toList]; omega
   have hd : k - lo < d.length := by omega
   rw [List.getElem?_eq_getElem hk, List.getElem?_map, List.getElem?_eq_getElem hd]
   simp only [Option.map_some, Option.some.injEq]
   rw [if_pos ⟨by omega, c2⟩]
   simp [hd]
  ·rw [List.getElem?_append_right (by rw [List.length_append, h1, List.length_map]; omega), List.length_append, h1, List.length_map, List.getElem?_drop]
   rw [show lo + d.length + (k - (lo + d.length)) = k by omega]
   have : ¬ (lo ≤ k ∧ k < lo + d.length) := by omega
   cases c.toList[k]? <;> simp [this]
theorem KH : Cb Tryz.prog 48 ky := by
 intro args h d h' β w vs hg hI hR
 refine ⟨enters_of Tryz.func48 (by kernel_rfl) rfl _ _, ?_⟩
 unfold ky at hg
 split at hg
 ·simp only [Option.some.injEq, Prod.mk.injEq] at hg
  obtain ⟨rfl, rfl⟩ := hg
  cases hR with
  | cons h1 h2 =>
  cases h2; cases h1
  refine (Tryz.slices_Sort_int_none none 0 w).mono ?_
  rintro e w' ⟨rfl, rfl⟩
  exact ⟨_, β, rfl, ai.refl β _ h, hI, .tup .nil⟩
 ·rename_i o g lo n c
  cases hR with
  | cons h1 h2 =>
  cases h2
  split at hg
  ·rename_i hn
   simp only [Option.some.injEq, Prod.mk.injEq] at hg
   obtain ⟨rfl, rfl⟩ := hg
   subst hn
   cases h1
   rename_i a cap b e sz g' xs hb hc cC ho hg hs
   refine (Tryz.slices_Sort_int_none (some a) cap w).mono ?_
   rintro e w' ⟨rfl, rfl⟩
   exact ⟨_, β, rfl, ai.refl β _ h, hI, .tup .nil⟩
  ·rename_i hn
   split at hg
   case h_2 => cases hg
   rename_i e sz g' xs cG
   split at hg
   case isFalse => cases hg
   rename_i hq
   obtain ⟨rfl, rfl, hl, hbig⟩ := hq
   split at hg
   case h_2 => cases hg
   rename_i zs hzs
   simp only [Option.some.injEq, Prod.mk.injEq] at hg
   obtain ⟨rfl, rfl⟩ := hg
   cases h1 with
   | row hb hcap cC ho hg hs' =>
   rename_i a cap b e0 DL g0 Dw
   have hrow : e = e0 ∧ 1 = DL ∧ g' = g0 ∧ xs = Dw := by
    rcases ho with ho | ho
    ·rw [cG] at ho; injection ho with ho; injection ho with k1 k2 k3 k4; exact ⟨k1, k2, k3, k4⟩
    ·rw [cG] at ho; cases ho
   obtain ⟨rfl, rfl, rfl, rfl⟩ := hrow
   obtain ⟨k1, k2, k3⟩ := hs' rfl
   have ha := k2 (Nat.pos_of_ne_zero hn)
   subst ha
   rw [Nat.mul_one] at *
   obtain ⟨cur, C, h1, h2, h3, h4, h5, h6, h7⟩ := hI.ob _ _ _ hb cG
   rw [Nat.mul_one] at h2 h7
   have hwx : ∀ x ∈ xs, x.cells.length = 1 := fun x hx => (h6 x hx).1
   have cW := xI hzs
   have RE : zs.length = n := by
    have := congrArg List.length cW
    rw [List.length_map, List.length_take, List.length_drop] at this
    omega
   have zM : (cur.toList.drop lo).take n = zs.map (Value.int .i64) := by
    have h8 := (h7.drop lo).take n
    have e1 : ((flat xs).drop lo).take n = zs.map (DV.int .i64) := by
     have q1 := j5 (sz := 1) lo hwx
     have q2 := gI (sz := 1) (xs := xs.drop lo) n (fun x hx => hwx x (List.mem_of_mem_drop hx))
     rw [Nat.mul_one] at q1 q2
     rw [← q1, ← q2, cW, sG]
    rw [e1] at h8
    have h9 := yU h8
    rw [List.drop_take, List.take_take, Nat.min_eq_left (by omega)] at h9
    exact h9
   have hlt := hI.lt _ _ hb
   have hcell : ∀ j, j < zs.length → cur.toList[lo + j]? = some (.int .i64 zs.toArray[j]!) := fun j hj => by
    have : ((cur.toList.drop lo).take n)[j]? = (zs.map (Value.int .i64))[j]? := by rw [zM]
    rw [List.getElem?_take_of_lt (by omega), List.getElem?_drop, List.getElem?_map, List.getElem?_eq_getElem hj] at this
    rw [this]
    simp [hj]
   have hH : Holds (Value.int .i64) w b lo zs.toArray := fun j hj => by
    have hj' : j < zs.length := by simpa using hj
    have := hcell j hj'
    rw [Array.getElem?_toList] at this
    exact ⟨by simp [World.cell?, h1, this], by simp [World.frozen?, h1]⟩
   have Oh := Tryz.slices_Sort_int b lo cap zs w hH hlt.2 (by omega)
   rw [RE] at Oh
   refine Oh.mono ?_
   rintro e1 w' ⟨rfl, m, os, rfl⟩
   obtain ⟨w1, NM⟩ : ∃ w1, w1 = putRow (Value.int .i64) (Sort.ahead w m) b lo (cO zs).toArray := ⟨_, rfl⟩
   have hsl := AX zs
   have dH : w1.heap[b]? = some (.cells (putCells (Value.int .i64) lo (cO zs).toArray cur) e (0, 0)) := by
    rw [NM]
    simp [putRow, mapBlock, Array.getElem?_modify, h1, onCells, Sort.ahead]
   have hpl := yC lo (cO zs) cur (by omega)
   generalize putCells (Value.int .i64) lo (cO zs).toArray cur = dM at dH hpl
   have hcs' : dM.size = cur.size := by
    have := congrArg List.length hpl
    simp only [Array.length_toList, List.length_append, List.length_take, List.length_drop, List.length_map] at this
    omega
   have hO : OnlyAt w w1 b := by
    rw [NM]
    exact ⟨rfl, rfl, rfl, by simp, fun k hk => by simp [putRow, mapBlock, Array.getElem?_modify, Ne.symm hk, Sort.ahead]⟩
   have hnew : (xs.take lo ++ (cO zs).map (DV.int .i64) ++ xs.drop (lo + n)).length = xs.length := by
    simp only [List.length_append, List.length_take, List.length_drop, List.length_map]
    omega
   obtain ⟨ys, hys⟩ : ∃ ys, ys = xs.take lo ++ (cO zs).map (DV.int .i64) ++ xs.drop (lo + n) := ⟨_, rfl⟩
   have hL : Later w w1 b β o (h.set o (.row e 1 g' ys)) (.row e 1 g' xs) :=
    ⟨b, g', _, hb, .inl (List.getElem?_set_self hlt.1), Nat.le_refl _, fun _ => ⟨rfl, by rw [hys]; exact hnew, fun c0 hc0 => ⟨dM, dH, by rw [h1] at hc0; injection hc0 with hc0; injection hc0 with hc0; rw [hcs', hc0]⟩⟩⟩
   have he := ai.write hI hb cG hO hL (fun _ _ _ _ e => by cases e)
   have o7 : Inv β w1 (h.set o (.row e 1 g' ys)) := by
    refine Inv.write hI hb hO he ⟨dM, C, dH, by rw [hcs', h2, Nat.mul_one], by rw [hys, hnew]; exact h3, h4, h5, ?_, ?_⟩
    ·intro q hq
     rw [hys] at hq
     rcases List.mem_append.1 hq with hq | hq
     ·rcases List.mem_append.1 hq with hq | hq
      ·exact h6 q (List.mem_of_mem_take hq)
      ·obtain ⟨z, _, rfl⟩ := List.mem_map.1 hq
       simp [Wc, DV.cells, DV.one]
     ·exact h6 q (List.mem_of_mem_drop hq)
    ·have q1 := gI (sz := 1) lo hwx
     have q2 := j5 (sz := 1) (lo + n) hwx
     rw [Nat.mul_one] at q1 q2
     have hfl : flat ys = (flat xs).take lo ++ (cO zs).map (DV.int .i64) ++ (flat xs).drop (lo + n) := by
      rw [hys, dW, dW, q1, q2, sG]
     have ax : ys.length = xs.length := by rw [hys]; exact hnew
     rw [hfl, ax, Nat.mul_one, hpl]
     have h8 := RVs.ext he h7
     have h9 := ((h8.take lo).append (tG (β := β) (w := w1) (h := h.set o (.row e 1 g' ys)) (cO zs))).append (h8.drop (lo + n))
     have h10 : (cur.toList.take xs.length).take lo ++ (cO zs).map (Value.int .i64) ++ (cur.toList.take xs.length).drop (lo + n) = (cur.toList.take lo ++ (cO zs).map (Value.int .i64) ++ cur.toList.drop (lo + (cO zs).length)).take xs.length := by
      rw [List.take_take, Nat.min_eq_left (by omega), List.drop_take]
      rw [List.take_append, List.take_append]
      have q1 : (cur.toList.take lo).length = lo := by rw [List.length_take, Array.length_toList]; omega
      rw [List.take_of_length_le (by omega : (cur.toList.take lo).length ≤ xs.length), q1, List.take_of_length_le (by rw [List.length_map]; omega : ((cO zs).map (Value.int .i64)).length ≤ xs.length - lo)]
      rw [List.length_append, q1, List.length_map, hsl, RE]
     rw [← h10]
     exact h9
   have hB : Below w1.heap.size w1 (grow w1 os) := ⟨rfl, rfl, rfl, by simp, fun k hk => heap_grow_old w1 os hk⟩
   rw [show zs.mergeSort (fun x y => decide (x ≤ y)) = cO zs from rfl, ← NM]
   rw [← hys]
   exact ⟨_, β, rfl, ai.trans hI he (ai.grow o7 hB), Inv.grow o7 hB, .tup .nil⟩
 ·simp only [Option.some.injEq, Prod.mk.injEq] at hg
  obtain ⟨rfl, rfl⟩ := hg
  cases hR with
  | cons h1 h2 =>
  cases h2
  cases h1 with
  | list hn hc cC hnr hw hr ha =>
   rename_i vs' a n cap
   obtain rfl : n = 0 := by simpa using hn
   refine (Tryz.slices_Sort_int_none (some a) cap w).mono ?_
   rintro e w' ⟨rfl, rfl⟩
   exact ⟨_, β, rfl, ai.refl β _ h, hI, .tup .nil⟩
 ·cases hg
end Go.Proofs.YtmbgfbomgbdjeaaGreatDoor
