/- Ideal runs. -/
import Derived.Test.YteekbciaggmfgaaDoorEngL
import Derived.Test.YteekbciaggmfgaaDoorFrameA
import Derived.Test.YteekbciaggmfgaaDoorStep
import Derived.RangeFuncKeeps
import Derived.RangeFuncCalls
import Derived.RangeFuncLeaves
import Derived.Shelf.Abstract
import Derived.WalkKit
import Derived.OwnWalkIn
import Derived.TacticsInMore
import Derived.LoopNIn
import Derived.LoopIn
import Derived.Maps.AppendAt
import Derived.RangeFuncBox
namespace Go.Proofs.YteekbciaggmfgaaDoor
open Go.RowKit
set_option linter.unusedVariables false
set_option linter.unusedSimpArgs false
section
variable {β : Bm} {w w' : World} {h : Zb}
theorem aj.grow (hI : Inv β w h) (hs : Below w.heap.size w w') : aj β w h β w' h where
 os := hs.os
 tape := hs.tape
 output := hs.output
 size := hs.size
 len := Nat.le_refl _
 keep b hb _ := hs.block b hb
 old _ _ hn := hn
 new o b hb := .inl hb
 obj o b y hb hy := by
  have hlt := hI.lt o b hb
  cases y with
  | box t cs => exact ⟨hb, cs, hy⟩
  | frz e sz g xs => exact ⟨hb, hy⟩
  | map kt et es => exact ⟨hb, es, hy⟩
  | row e sz g xs => exact ⟨b, g, xs, hb, .inl hy, Nat.le_refl _, fun _ => ⟨rfl, rfl, fun cur hc => ⟨cur, by rw [hs.block _ hlt.2]; exact hc, rfl⟩⟩⟩
theorem Inv.grow (hI : Inv β w h) (hs : Below w.heap.size w w') : Inv β w' h :=
 hI.step (aj.grow hI hs) (fun o b hb => ⟨(hI.lt o b hb).1, Nat.lt_of_lt_of_le (hI.lt o b hb).2 hs.size⟩) hI.inj hI.tot
  (fun o b x hb hx => .inl ⟨hb, hx, hs.block _ (hI.lt o b hb).2⟩)
theorem aj.grow1 (hI : Inv β w h) (hs : Below w.heap.size w w') {n : Nat} (hn : w.heap.size ≤ n) (x : HO) : aj β w h (upd β h.length n) w' (h ++ [x]) where
 os := hs.os
 tape := hs.tape
 output := hs.output
 size := hs.size
 len := by simp
 keep b hb _ := hs.block b hb
 old o ho hn := by rw [Yh _ _ (by omega : o ≠ h.length)]; exact hn
 new o b hb := by
  by_cases ho : o = h.length
  ·subst ho; rw [ZW] at hb; injection hb with hb; subst hb; exact .inr hn
  ·rw [Yh _ _ ho] at hb; exact .inl hb
 obj o b y hb hy := by
  have hlt := hI.lt o b hb
  have ho : o ≠ h.length := by omega
  have hb' : upd β h.length n o = some b := by rw [Yh _ _ ho]; exact hb
  have hy' : (h ++ [x])[o]? = some y := by rw [List.getElem?_append_left hlt.1]; exact hy
  cases y with
  | box t cs => exact ⟨hb', cs, hy'⟩
  | frz e sz g xs => exact ⟨hb', hy'⟩
  | map kt et es => exact ⟨hb', es, hy'⟩
  | row e sz g xs => exact ⟨b, g, xs, hb', .inl hy', Nat.le_refl _, fun _ => ⟨rfl, rfl, fun cur hc => ⟨cur, by rw [hs.block _ hlt.2]; exact hc, rfl⟩⟩⟩
theorem Inv.grow1 (hI : Inv β w h) (hs : Below w.heap.size w w') {n : Nat} (hn : w.heap.size ≤ n) (hn' : n < w'.heap.size) (x : HO) (hx : OR (upd β h.length n) w' (h ++ [x]) n x) : Inv (upd β h.length n) w' (h ++ [x]) := by
 refine hI.step (aj.grow1 hI hs hn x) (fun o b hb => ?_) (fun o o' b hb hb' => ?_) (mG hI.tot _ _) (fun o b y hb hy => ?_)
 ·by_cases ho : o = h.length
  ·subst ho; rw [ZW] at hb; injection hb with hb; subst hb; exact ⟨by simp, hn'⟩
  ·rw [Yh _ _ ho] at hb
   have := hI.lt o b hb
   exact ⟨by simp; omega, by omega⟩
 ·by_cases ho : o = h.length
  ·subst ho; rw [ZW] at hb; injection hb with hb; subst hb
   by_cases aF : o' = h.length
   ·exact aF.symm
   ·rw [Yh _ _ aF] at hb'
    have := hI.lt o' _ hb'
    omega
  ·rw [Yh _ _ ho] at hb
   by_cases aF : o' = h.length
   ·subst aF; rw [ZW] at hb'; injection hb' with hb'; subst hb'
    have := hI.lt o _ hb
    omega
   ·rw [Yh _ _ aF] at hb'
    exact hI.inj o o' b hb hb'
 ·by_cases ho : o = h.length
  ·subst ho; rw [ZW] at hb; injection hb with hb; subst hb
   have : y = x := by simpa using hy.symm
   subst this
   exact .inr hx
  ·rw [Yh _ _ ho] at hb
   have hlt := hI.lt o b hb
   rw [List.getElem?_append_left hlt.1] at hy
   exact .inl ⟨hb, hy, hs.block _ hlt.2⟩
end
theorem sx {β : Bm} {w : World} {h : Zb} {k : IntKind} : ∀ {l : List Int} {vs : List Value}, RVs β w h (l.map (.int k)) vs → vs = l.map (Value.int k)
 | [], _, .nil => rfl
 | i :: l, _, .cons hd hs => by
  cases hd
  rw [sx hs]; rfl
theorem qg (β : Bm) (w : World) (h : Zb) (k : IntKind) : ∀ (l : List Int), RVs β w h (l.map (.int k)) (l.map (Value.int k))
 | [] => .nil
 | i :: l => .cons (.int k i) (qg β w h k l)
theorem Ff {β : Bm} {w w' : World} {h : Zb} (ht : kK β w h) (hk : ∀ p ∈ tabs, ∃ k l, p.2 = List.map (DV.int k) l) (hs : Below w.heap.size w w') : kK B0 w' [] := by
 intro p hp
 obtain ⟨h1, h2⟩ := ht p hp
 refine ⟨?_, h2⟩
 obtain ⟨k, l, hl⟩ := hk p hp
 cases h1 with
 | list hn hc cK hnr hw hr ha =>
  rename_i vs
  have hf : flat [DV.agg p.2] = l.map (DV.int k) := by simp [flat, DV.cells, hl]
  rw [hf] at hr
  have hv := sx hr
  subst hv
  refine .list hn hc cK hnr hw (by rw [hf]; exact qg _ _ _ _ _) ?_
  intro j v hv
  obtain ⟨a1, a2⟩ := ha j v hv
  refine ⟨fun o ho => (by cases ho), ?_⟩
  have hlt := World.block_lt_of_cell? w _ a2
  rw [World.cell?_of_block (w := w) (hs.block _ hlt)]
  exact a2
end Go.Proofs.YteekbciaggmfgaaDoor
namespace Go.Proofs.YteekbciaggmfgaaDoor
open Go.RowKit Go.Shelf Go.Maps
set_option linter.unusedVariables false
set_option linter.unusedSimpArgs false
attribute [local go_sem] Oper.semAt_some
def bitsOf : List Nat → Nat → List Nat
 | [], _ => []
 | w :: ws, k => iF k w ++ bitsOf ws (k + 1)
def pY (ws : List Nat) (k : Nat) : Nat := ws.getD k 0
theorem Ci {ws : List Nat} {k : Nat} (h : k < ws.length) : pY ws k = ws[k] := by simp [pY, List.getD, List.getElem?_eq_getElem h]
theorem lq : ∀ (ws : List Nat) (k0 i : Nat), i < ws.length → bitsOf (ws.take (i + 1)) k0 = bitsOf (ws.take i) k0 ++ iF (k0 + i) (pY ws i)
 | w :: ws, k0, 0, _ => by simp [bitsOf, pY]
 | w :: ws, k0, i + 1, h => by
  simp only [List.take_succ_cons, bitsOf]
  rw [lq ws (k0 + 1) i (by simpa using h), show k0 + 1 + i = k0 + (i + 1) by omega, List.append_assoc]
  simp [pY]
theorem sQ (ws : List Nat) (k0 i : Nat) (h : i ≤ ws.length) : (bitsOf (ws.take i) k0).length ≤ (bitsOf ws k0).length := by
 induction ws generalizing k0 i with
 | nil => simp
 | cons w ws ih =>
  cases i with
  | zero => simp [bitsOf]
  | succ i =>
   simp only [List.take_succ_cons, bitsOf, List.length_append]
   have := ih (k0 + 1) i (by simpa using h)
   omega
theorem J4 {t m : Nat} (h : 2 ^ t * (2 * m + 1) < 18446744073709551616) (n : Nat) (W : World) (hT : kK B0 W []) :
 CallsIn Fence.wide n Tryd.prog 57 #[.int .u64 ((2 ^ t * (2 * m + 1) : Nat) : Int)] W fun e W' => e = .returned (.int .i64 (t : Int)) ∧ W.grownBy W' none := by
 have h1 := (J0 Ga 57 [.int .u64 ((2 ^ t * (2 * m + 1) : Nat) : Int)] [] _ [] B0 W _ (Ks h []) (HM W hT) (.cons (.int _ _) .nil)).2
 refine (callsIn_wide.2 h1).mono ?_
 rintro e W' ⟨v, β', rfl, hx, -, hr⟩
 cases hr
 exact ⟨rfl, hx.os, hx.tape, hx.output, hx.size, fun k hk _ => hx.keep k hk (fun o ho => (by cases ho))⟩
def xW (W : World) (a : Addr) (ws : List Nat) : Prop := ∀ j, j < ws.length → W.cell? (a.add j) = some (.int .u64 (pY ws j : Nat))
set_option maxRecDepth 100000 in
set_option maxHeartbeats 2000000 in
theorem FU (n : Nat) (hn : 1 ≤ n) (l Bs n₀ : Nat) (a : Addr) (cap : Nat) (ws : List Nat) (vf : ws.length * 8 ≤ 140737488351232) (hb : 0 < ws.length → a.block < n₀) (hw : ∀ w ∈ ws, w < 18446744073709551616) (J Jx : List Nat → World → Prop)
 (hY : ∀ pre x W, J pre W → pre.length < (bitsOf ws 0).length → YieldAt Fence.wide (n - 1) Tryd.prog l #[.int .i64 (x : Nat)] W fun e W' =>
  (e = .returned (.bool true) ∧ J (pre ++ [x]) W' ∧ Below n₀ W W') ∨ (e = .returned (.bool false) ∧ Jx (pre ++ [x]) W'))
 (W : World) (hJ : AbidesFrom W.heap.size J) (hn0 : n₀ ≤ W.heap.size) (hT : ∀ W', Below n₀ W W' → kK B0 W' [])
 (IC : W.cell? ⟨Bs, 0, none⟩ = some (.slice (some a) ws.length cap)) (hc : xW W a ws) (h0 : J [] W) :
 CallsIn Fence.wide n Tryd.prog 56 #[.func (.yield l) #[] #[], .pointer (some ⟨Bs, 0, none⟩)] W fun e W' => (∃ v, e = .returned v) ∧
  ((∃ ys, ys = bitsOf ws 0 ∧ J ys W') ∨ (∃ pre, Jx pre W')) := by
 have hro : Fence.wide.round = none := rfl
 refine callsIn_of_wp Tryd.func56 rfl trivial ?_ hro
 simp only [Tryd.ntmps56, List.size_toArray, List.length_cons, List.length_nil, Nat.reduceAdd, Nat.reduceSub, Array.replicate_succ, Array.replicate_zero, List.push_toArray, List.append_toArray, List.nil_append, List.cons_append]
 gi_wp2
 gi_loopw [8] (fun p wr => ∃ i : Nat, i ≤ ws.length ∧ p = .int .i64 i ∧ J (bitsOf (ws.take i) 0) wr ∧ Below n₀ W wr)
  (fun p _ => ws.length - (intOf p).toNat)
 case atStart => exact ⟨0, Nat.zero_le _, rfl, by simpa [bitsOf] using h0, Below.refl _ _⟩
 case round =>
  obtain ⟨i, hi, rfl, tJ, hnx⟩ := hrel
  by_cases hlt : i < ws.length
  ·have xw : wr.cell? (a.add i) = some (.int .u64 (pY ws i : Nat)) := by
    rw [World.cell?_of_block (w := W) (by rw [add_block]; exact hnx.block _ (hb (by omega)))]
    exact hc i hlt
   have Lr : pY ws i < 18446744073709551616 := by rw [Ci hlt]; exact hw _ (List.getElem_mem _)
   generalize hu : pY ws i = u at xw Lr
   have hlen := sQ ws 0 (i + 1) (by omega)
   have jS := lq ws 0 i hlt
   rw [hu, Nat.zero_add] at jS
   gi_wp2
   clear xw
   gi_loopw [4] (fun p wq => ∃ (v : Nat) (pre : List Nat), p = .int .u64 v ∧ v < 18446744073709551616 ∧ bitsOf (ws.take (i + 1)) 0 = pre ++ iF i v ∧ J pre wq ∧ Below n₀ W wq)
    (fun p _ => (intOf p).toNat)
   case atStart => exact ⟨u, _, rfl, Lr, jS, tJ, hnx⟩
   case round =>
    clear tJ hnx jS
    obtain ⟨v, pre, rfl, hv, jS, tJ, hnx⟩ := hrel
    by_cases hv0 : v = 0
    ·subst hv0
     rw [x9, List.append_nil] at jS
     gi_wp2
     go_roundw
     case rel => exact ⟨i + 1, by omega, by simp, by rw [jS]; exact tJ, hnx⟩
     case measure => simp [intOf]; omega
    ·obtain ⟨t, m, hsp⟩ := Aj v v (Nat.le_refl _) (by omega)
     have MK : t < 64 := uy (by rw [← hsp]; exact hv)
     have hlow := zD i t m MK
     rw [← hsp] at hlow
     have hv' := wH (u := v) (by omega)
     have Ls := fun w2 => J4 (t := t) (m := m) (by rw [← hsp]; exact hv) (n - 1) w2
     rw [← hsp] at Ls
     clear hsp
     rw [hlow] at jS
     have yO : pre.length < (bitsOf ws 0).length := by
      rw [jS] at hlen; simp at hlen; omega
     gi_wp2
     refine ⟨trivial, (Ls _ (hT _ hnx)).mono ?_⟩
     rintro e w2 ⟨rfl, hg⟩
     have OD := hJ _ _ _ none tJ hg (fun r e => by cases e)
     have MW : Below n₀ wr w2 := ⟨hg.os, hg.tape, hg.output, hg.size, fun k hk => hg.block k (by have := hnx.size; omega) (fun e => by cases e)⟩
     obtain ⟨fn, tmps, assign, body, hy, hR⟩ := hY pre (i * 64 + t) w2 OD yO
     simp only [Int.natCast_add, Int.natCast_mul, Int.cast_ofNat_Int] at hy
     dsimp only
     gi_wp2
     refine hR.mono ?_
     rintro e W3 (⟨rfl, OC, LF⟩ | ⟨rfl, hJx3⟩)
     ·dsimp only
      have w1 : IntKind.u64.wrap ((v : Int) - 1) = ((v - 1 : Nat) : Int) := by
       rw [show (v : Int) - 1 = ((v - 1 : Nat) : Int) by omega, fB, Nat.mod_eq_of_lt (by omega)]
      have w2 := E8 hv (show v - 1 < 18446744073709551616 by omega)
      gi_wp2
      have w3 : bits BinOp.and IntKind.u64 (v : Int) ((v - 1 : Nat) : Int) = ((v &&& (v - 1) : Nat) : Int) := by
       simp only [bits]
       simpa using w2
      go_roundw
      case rel => exact ⟨v &&& (v - 1), pre ++ [i * 64 + t], by simp [w3], by omega, by rw [jS]; simp, OC, (hnx.trans MW).trans LF⟩
      case measure => simp [intOf, w3]; omega
     ·dsimp only
      gi_wp2
      refine bodyPost_ret (results_none rfl _ _ _) rfl ?_
      exact ⟨⟨_, rfl⟩, .inr ⟨_, hJx3⟩⟩
  ·obtain rfl : i = ws.length := by omega
   gi_wp2
   go_end0
   exact ⟨⟨_, rfl⟩, .inl ⟨_, by simp, tJ⟩⟩
set_option maxRecDepth 100000 in
set_option maxHeartbeats 2000000 in
theorem wK (n : Nat) (hn : 1 ≤ n) (l Bs : Nat) (J : List Nat → World → Prop) (W : World) (IC : W.cell? ⟨Bs, 0, none⟩ = some (.slice none 0 0)) (h0 : J [] W) :
 CallsIn Fence.wide n Tryd.prog 56 #[.func (.yield l) #[] #[], .pointer (some ⟨Bs, 0, none⟩)] W fun e W' => (∃ v, e = .returned v) ∧ J [] W' := by
 have hro : Fence.wide.round = none := rfl
 refine callsIn_of_wp Tryd.func56 rfl trivial ?_ hro
 simp only [Tryd.ntmps56, List.size_toArray, List.length_cons, List.length_nil, Nat.reduceAdd, Nat.reduceSub, Array.replicate_succ, Array.replicate_zero, List.push_toArray, List.append_toArray, List.nil_append, List.cons_append]
 gi_wp2
 gi_loopw [8] (fun p wr => p = .int .i64 0 ∧ J [] wr) (fun _ _ => 0)
 case atStart => exact ⟨rfl, h0⟩
 case round =>
  obtain ⟨rfl, tJ⟩ := hrel
  gi_wp2
  go_end0
  exact ⟨⟨_, rfl⟩, tJ⟩
set_option maxHeartbeats 1000000 in
theorem all_in (n : Nat) (sv : Value) (hs : sv.oneCell' = true) (w : World) :
 CallsIn Fence.wide n Tryd.prog 32 #[.agg #[sv]] w fun e w' => e = .returned (.func (.func 56) #[] #[.pointer (some ⟨w.heap.size, 0, none⟩)]) ∧ w' = w.alloc (.cells #[sv] 41) := by
 refine callsIn_of_wp Tryd.func32 rfl trivial ?_ rfl
 simp only [Tryd.ntmps32, List.size_toArray, List.length_cons, List.length_nil, Nat.reduceAdd, Nat.reduceSub, Array.replicate_succ, Array.replicate_zero, List.push_toArray, List.append_toArray, List.nil_append, List.cons_append]
 gi_wp2
 go_ret
 exact ⟨rfl, rfl⟩
def pA (n₀ : Nat) (W : World) (sv : Value) (ws : List Nat) : Prop :=
 (sv = .slice none 0 0 ∧ ws = []) ∨ ∃ a cap, sv = .slice (some a) ws.length cap ∧ (0 < ws.length → a.block < n₀) ∧ xW W a ws
theorem pA.below {n₀ : Nat} {A B : World} (h : Below n₀ A B) {sv : Value} {ws : List Nat} (hs : pA n₀ A sv ws) : pA n₀ B sv ws := by
 rcases hs with hs | ⟨a, cap, h1, h2, h3⟩
 ·exact .inl hs
 ·refine .inr ⟨a, cap, h1, h2, fun j hj => ?_⟩
  rw [World.cell?_of_block (w := A) (by rw [add_block]; exact h.block _ (h2 (by omega)))]
  exact h3 j hj
theorem all_stops (n : Nat) (hn : 1 ≤ n) (Bs n₀ : Nat) (sv : Value) (ws : List Nat) (vf : ws.length * 8 ≤ 140737488351232) (hw : ∀ w ∈ ws, w < 18446744073709551616) (w : World) (IC : Bs < w.heap.size) (hn₀ : n₀ ≤ w.heap.size)
 (hT : ∀ W', Below n₀ w W' → kK B0 W' []) (hc : w.cell? ⟨Bs, 0, none⟩ = some sv) (hS : pA n₀ w sv ws) :
 SeqStopsK Fence.wide n Tryd.prog 56 #[.pointer (some ⟨Bs, 0, none⟩)] (fun x : Nat => #[Value.int .i64 (x : Nat)]) (Below n₀) (fun ys => ys = bitsOf ws 0) (fun _ => True) (bitsOf ws 0).length w := fun l J Jx W hW hJ _ hY h0 => by
 have dx := (hW.cell (p := ⟨Bs, 0, none⟩) IC).trans hc
 rcases hS.below (hW.mono hn₀) with ⟨rfl, rfl⟩ | ⟨a, cap, rfl, h2, h3⟩
 ·exact (wK n hn l Bs J W dx h0).mono fun e W' ⟨he, hj⟩ => ⟨he, .inl ⟨_, rfl, hj⟩⟩
 ·refine (FU n hn l Bs n₀ a cap ws vf h2 hw J Jx hY W hJ (Nat.le_trans hn₀ hW.size) (fun W' hW' => hT _ ((hW.mono hn₀).trans hW')) dx h3 h0).mono ?_
  rintro e W' ⟨he, h | ⟨pre, hj⟩⟩
  ·exact ⟨he, .inl h⟩
  ·exact ⟨he, .inr ⟨pre, trivial, hj⟩⟩
theorem HN : (Tryd.prog.info? 3).map (fun i => (i.zero, i.size, i.bytes)) = some (some (.int .i64 0), 1, 8) := by kernel_rfl
theorem J3 : Tryd.prog.underlying 65 = some (.func #[68] #[] false) := by kernel_rfl
theorem IP (f : Nat) (v : Value) (w : World) : (binOp .eql 65 (.func (.func f) #[] #[v]) .nilFunc).run Tryd.prog w = .ok (.bool false) w :=
 (vu (β := B0) (h := []) (kd := 4) (neg := false) (x := .func f [] [.undef]) (y := .nilf) (ox := .tmp 0) (oy := .tmp 0) (RV.func .nil (.cons (.undef v) .nil)) .nilf rfl J3 ⟨_, _, _, rfl⟩ (by intro h; cases h)).2
abbrev ints (l : List Nat) : List Value := l.map fun x => Value.int .i64 (x : Nat)
theorem Fx {W : World} {n₀ M : Nat} {v : Value} {pre : List Nat} (hM : Boxed W M 3 (.int .i64 (-1))) (hr : W.ownsRow n₀ 3 1 v pre.length (ints pre)) (hnil : v = .slice none 0 0 ↔ pre = []) : some M ≠ v.ownBlock := by
 rcases hr.2 with ⟨rfl, _⟩ | ⟨g, cap, cur, rfl, _, hgb, hcap, _, hsz, htk⟩
 ·simp [Value.ownBlock]
 ·intro e
  obtain rfl : M = g := by simpa [Value.ownBlock] using e
  have hc := (show W.heap[M]? = _ from hM).symm.trans hgb
  simp only [Option.some.injEq, Obj.cells.injEq] at hc
  obtain ⟨rfl, -⟩ := hc
  match pre, hnil, hcap, htk with
  | [], hnil, _, _ => exact absurd (hnil.2 rfl) (by simp)
  | x :: pre, _, _, htk =>
   simp [ints] at htk
   try (have := htk.1; omega)
set_option maxRecDepth 100000 in
set_option maxHeartbeats 2000000 in
theorem FG (sv : Value) (hs1 : sv.oneCell' = true) (ws : List Nat) (vf : (bitsOf ws 0).length * 8 ≤ 140737488351232) (FI : ws.length * 8 ≤ 140737488351232) (gA : (bitsOf ws 0).length ≤ maxLen) (hw : ∀ w ∈ ws, w < 18446744073709551616) (w : World)
 (hT : ∀ W', Below w.heap.size w W' → kK B0 W' []) (hS : pA w.heap.size w sv ws) :
 CallsIn Fence.wide 9 Tryd.prog 13 #[.agg #[sv], .int .i64 (-1)] w fun e W' => ∃ v, e = .returned v ∧ W'.ownsRow w.heap.size 3 1 v (bitsOf ws 0).length (ints (bitsOf ws 0)) ∧ (v = .slice none 0 0 ↔ bitsOf ws 0 = []) ∧ Below w.heap.size w W' := by
 have hro : Fence.wide.round = none := rfl
 obtain ⟨i0, hi, hz0, hz1, hz2⟩ := info_parts HN
 refine callsIn_of_wp_marks Tryd.func13 rfl trivial ?_ hro
 simp only [Tryd.ntmps13, List.size_toArray, List.length_cons, List.length_nil, Nat.reduceAdd, Nat.reduceSub, Array.replicate_succ, Array.replicate_zero, List.push_toArray, List.append_toArray, List.nil_append, List.cons_append]
 gi_wp2
 refine ⟨trivial, (all_in 8 sv hs1 _).mono ?_⟩
 rintro e w2 ⟨rfl, rfl⟩
 dsimp only
 gi_wp2
 obtain ⟨W0, xA⟩ : ∃ W0, (((w.alloc (.cells #[sv] 41)).alloc (.cells #[.int .i64 (-1)] 3)).alloc (.cells #[.slice none 0 0] 28)).alloc (.cells #[sv] 41) = W0 := ⟨_, rfl⟩
 have hsz : W0.heap.size = w.heap.size + 4 := by rw [← xA]; simp
 have bM : Boxed W0 (w.heap.size + 1) 3 (.int .i64 (-1)) := by
  rw [← xA]
  have := Boxed.new (w.alloc (.cells #[sv] 41)) 3 (.int .i64 (-1))
  rw [World.size_alloc] at this
  exact (this.alloc _).alloc _
 have bO : Boxed W0 (w.heap.size + 2) 28 (.slice none 0 0) := by
  rw [← xA]
  have := Boxed.new ((w.alloc (.cells #[sv] 41)).alloc (.cells #[.int .i64 (-1)] 3)) 28 (.slice none 0 0)
  rw [World.size_alloc, World.size_alloc] at this
  exact this.alloc _
 have bS : Boxed W0 (w.heap.size + 3) 41 sv := by
  rw [← xA]
  have := Boxed.new (((w.alloc (.cells #[sv] 41)).alloc (.cells #[.int .i64 (-1)] 3)).alloc (.cells #[.slice none 0 0] 28)) 41 sv
  rw [World.size_alloc, World.size_alloc, World.size_alloc] at this
  exact this
 have A9 : Below w.heap.size w W0 := by
  rw [← xA]
  exact ((((Below.refl _ w).alloc (Nat.le_refl _) _).alloc (by simp) _).alloc (by simp; omega) _).alloc (by simp; omega) _
 simp only [World.size_alloc, Nat.add_assoc, Nat.reduceAdd]
 rw [xA, IP]
 gi_wp2
 refine wpIn_rangeFunc_ownG hro (by omega) (gf := 56) (lb := #[.pointer (some ⟨w.heap.size + 3, 0, none⟩)]) rfl trivial (enters_of Tryd.func56 (by kernel_rfl) rfl)
  (all_stops 8 (by omega) (w.heap.size + 3) w.heap.size sv ws FI hw _ (by omega) (by omega) (fun W' hW' => hT W' (A9.trans hW')) bS.cell (hS.below A9)) belowK_t (belowK_b (by omega)) (Below.refl _ _) (fun _ => rfl)
  (fun pre W => ((∃ v, Boxed W (w.heap.size + 2) 28 v ∧ W.ownsRow w.heap.size 3 1 v pre.length (ints pre) ∧ (v = .slice none 0 0 ↔ pre = [])) ∧ Boxed W (w.heap.size + 1) 3 (.int .i64 (-1))) ∧ Below w.heap.size w W)
  (fun _ _ _ => False)
  (OwnFrom.and (OwnFrom.and (Own.from (holdsRow_own w.heap.size (w.heap.size + 2) 28 3 1 (fun pre : List Nat => pre.length) (fun pre => ints pre) (fun pre v => v = .slice none 0 0 ↔ pre = [])) _)
   (fun s A B row hs hg hr => hs.kept hg (fun e' => by
    obtain ⟨hr1, o, ho, hc⟩ := hr _ e'.symm
    omega))) (ownFrom_below (Nat.le_refl _) (by omega)))
  (fun _ _ _ _ _ hs _ _ => hs)
  ⟨⟨⟨_, bO, World.ownsRow_nil _ _ _ _, by simp⟩, bM⟩, A9⟩
  (fun x => { tmps := #[.agg #[sv], .int .i64 (-1), .pointer (some ⟨w.heap.size, 0, none⟩), .pointer (some ⟨w.heap.size + 1, 0, none⟩), .slice none 0 0, .pointer (some ⟨w.heap.size + 2, 0, none⟩), .func (.func 56) #[] #[.pointer (some ⟨w.heap.size + 3, 0, none⟩)], .int .i64 (x : Nat), .int .i64 (-1), .bool false, undef, .agg #[sv], .func (.func 56) #[] #[.pointer (some ⟨w.heap.size + 3, 0, none⟩)], .func (.func 56) #[] #[.pointer (some ⟨w.heap.size + 3, 0, none⟩)], .bool false, undef, .func (.func 56) #[] #[.pointer (some ⟨w.heap.size + 3, 0, none⟩)], .int .i64 (x : Nat), undef, undef, undef, undef, undef, undef, undef, undef, undef], defers := [] }) ?assign ?body ?done ?stop
 case assign =>
  intro l x W K hK
  gi_wp2
  exact hK
 case body =>
  rintro l pre x W ⟨⟨⟨v, hv, hrow, hnil⟩, hM⟩, hB⟩ hlt
  have hc := hv.cell
  have Pk := hM.cell
  gi_wp2_with (gi_at_builtin; refine wpListIn_append_own _ rfl _ _ 28 rfl w.heap.size 3 i0 (.int .i64 0) 1 8 Tryd.underlying28 hi hz0 hz1 hz2 rfl (by decide) _ _ _ rfl (hrow.alloc _) ⟨W.heap.size, 0, none⟩ 1 1 [.int .i64 (x : Nat)] rfl rfl (cell_one_new _ _ _) (by simp [Value.oneCell']) (by omega) (by omega) (by have := hB.size; simp; omega) ?_; intro v' w1 hown' hgrow _; obtain ⟨g', cap', rfl⟩ := ownsRow_succ hown'; obtain ⟨iU, nB, hr2, AU, gB⟩ := hv.appended (by decide) hrow hB.size (by omega) hown' hgrow; have hc1 := iU.cell; have LM := iU.frozen; have hc2 := nB.cell; have xB := ((hM.alloc _).kept hgrow (Fx hM hrow hnil)).kept (grownBy_setCell' w1 (w.heap.size + 2) (.slice (some ⟨g', 0, none⟩) (pre.length + 1) cap')) (by simp); have O6 := xB.cell)
  all_goals first
   | (rename_i he; exact absurd (eq_of_beq he) (by omega))
   | exact ⟨AU.from _, gB, ⟨⟨_, nB, by simpa using hr2, by simp⟩, xB⟩, hB.trans gB⟩
 case done =>
  rintro D ys W hD rfl ⟨⟨⟨v, hv, hrow, hnil⟩, hM⟩, hB⟩ hK
  have hc := hv.cell
  gi_wp2
  refine ⟨by simp, .inl ⟨_, _, rfl, run_takeDeferred hK, ?_⟩⟩
  exact ⟨_, results_tmp rfl _ _ _, v, rfl, ownsRow_putObj hrow _ hK rfl, hnil, hB.trans (belowK_b (w := w) (Nat.le_refl _) W D _ _ (by omega) hK rfl rfl)⟩
 case stop =>
  rintro D c pre W _ _ h _
  exact h.elim
theorem zF (k u : Nat) : (iF k u).length ≤ 64 := by
 unfold iF
 rw [List.length_map]
 exact Nat.le_trans (List.length_filter_le _ _) (by simp)
theorem rV : ∀ (ws : List Nat) (k : Nat), (bitsOf ws k).length ≤ 64 * ws.length
 | [], _ => by simp [bitsOf]
 | w :: ws, k => by
  have h1 := zF k w
  have h2 := rV ws (k + 1)
  simp only [bitsOf, List.length_append, List.length_cons]
  omega
def nH : DV → Option Nat
 | .int .u64 n => if 0 ≤ n ∧ n < 18446744073709551616 then some n.toNat else none
 | _ => none
theorem zC {d : DV} {n : Nat} (h : nH d = some n) : d = .int .u64 (n : Nat) ∧ n < 18446744073709551616 := by
 unfold nH at h
 split at h
 ·split at h
  ·injection h with h
   exact ⟨by congr 1; omega, by omega⟩
  ·cases h
 ·cases h
def jW : List DV → Option (List Nat)
 | [] => some []
 | d :: l => match nH d, jW l with
  | some n, some ns => some (n :: ns)
  | _, _ => none
theorem qw : ∀ {l : List DV} {ns : List Nat}, jW l = some ns → l = ns.map (fun n : Nat => DV.int .u64 n) ∧ ∀ n ∈ ns, n < 18446744073709551616
 | [], _, h => by injection h with h; subst h; exact ⟨rfl, by simp⟩
 | d :: l, ns, h => by
  simp only [jW] at h
  split at h
  ·rename_i n Lg h1 h2
   injection h with h; subst h
   obtain ⟨a1, a2⟩ := zC h1
   obtain ⟨b1, b2⟩ := qw h2
   subst a1; subst b1
   exact ⟨rfl, by
    intro m hm
    rcases List.mem_cons.1 hm with rfl | hm
    ·exact a2
    ·exact b2 m hm⟩
  ·cases h
def rD : List DV → Zb → Option (DV × Zb)
 | [.agg [W], .int .i64 most], h => match vw h 1 W with
  | some xs => match jW xs with
   | some ns => if ns.length ≤ 100000 ∧ most = -1 then
    some (if bitsOf ns 0 = [] then .nils else .fresh 3 1 ((bitsOf ns 0).map fun (n : Nat) => .int .i64 n), h) else none
   | none => none
  | none => none
 | _, _ => none
theorem Cx : ∀ p ∈ tabs, ∃ k l, p.2 = List.map (DV.int k) l := by
 intro p hp
 simp only [tabs, List.mem_singleton] at hp
 subst hp
 exact ⟨_, _, rfl⟩
theorem Cz {β : Bm} {w : World} {h : Zb} (hI : Inv β w h) {W : DV} {v : Value} {ns : List Nat} (hr : RV β w h W v) (hv : vw h 1 W = some (ns.map fun n : Nat => DV.int .u64 n)) : pA w.heap.size w v ns := by
 obtain ⟨A, n, cap, rfl⟩ := gV hr hv
 obtain ⟨h1, h2, h3⟩ := gW hI hr hv
 rw [List.length_map] at h1
 cases A with
 | none =>
  cases hr with
  | nils =>
   simp [vw] at hv
   exact .inl ⟨rfl, hv⟩
  | undef => simp [vw] at hv
 | some a =>
  subst h1
  refine .inr ⟨a, cap, rfl, ?_, ?_⟩
  ·intro h0
   rcases h3 with h3 | ⟨a', vs, ha, iV, hc⟩
   ·simp at h3; subst h3; simp at h0
   ·injection ha with ha; subst ha
    obtain ⟨x, hx⟩ : ∃ x, vs[0]? = some x := by
     have hl := iV.len
     rw [bY (sz := 1) (fun x hx => (h2 x hx).1)] at hl
     simp at hl
     exact ⟨vs[0]'(by omega), List.getElem?_eq_getElem (by omega)⟩
    have := World.block_lt_of_cell? w _ (hc 0 x hx)
    rwa [add_block] at this
  ·intro j hj
   rcases h3 with h3 | ⟨a', vs, ha, iV, hc⟩
   ·simp at h3; subst h3; simp at hj
   ·injection ha with ha; subst ha
    have hfl : flat (ns.map fun n : Nat => DV.int .u64 n) = (ns.map Int.ofNat).map (DV.int .u64) := by
     rw [List.map_map]
     generalize ns = l
     induction l with
     | nil => rfl
     | cons n l ih => simp only [List.map_cons, flat, List.flatMap_cons] at ih ⊢; rw [ih]; rfl
    rw [hfl] at iV
    have := sx iV
    subst this
    refine hc j _ ?_
    rw [List.getElem?_map, List.getElem?_map, List.getElem?_eq_getElem hj, Ci hj]
    rfl
theorem HJ : xY Tryd.prog 13 rD := by
 intro args h d h' β w vs hg hI hR
 unfold rD at hg
 split at hg
 case h_2 => cases hg
 rename_i W most
 cases hR with
 | cons hd hs =>
 cases hd with
 | agg Ib =>
 cases Ib with
 | cons hW hnil =>
 cases hnil
 cases hs with
 | cons hm hnil =>
 cases hnil
 cases hm
 rename_i sv
 split at hg
 case h_2 => cases hg
 rename_i xs gK
 split at hg
 case h_2 => cases hg
 rename_i ns hns
 split at hg
 case isFalse => cases hg
 rename_i hc
 obtain ⟨hlen, rfl⟩ := hc
 injection hg with hg
 rw [Prod.mk.injEq] at hg
 obtain ⟨hd, rfl⟩ := hg
 obtain ⟨hxs, hlt⟩ := qw hns
 subst hxs
 have hS := Cz hI hW gK
 have xy := rV ns 0
 have hs1 : sv.oneCell' = true := by
  rcases hS with ⟨rfl, _⟩ | ⟨a, cap, rfl, _⟩ <;> rfl
 have hT : ∀ W', Below w.heap.size w W' → kK B0 W' [] := fun W' hW' => Ff hI.tab Cx hW'
 refine ⟨enters_of Tryd.func13 (by kernel_rfl) rfl _ _, ?_⟩
 refine (callsIn_wide.1 (FG sv hs1 ns (by omega) (by omega) (by unfold maxLen; omega) hlt w hT hS)).mono ?_
 rintro e w' ⟨v', rfl, hrow, hnil, hB⟩
 by_cases hb : bitsOf ns 0 = []
 ·rw [if_pos hb] at hd
  subst hd
  have := hnil.2 hb
  subst this
  exact ⟨_, β, rfl, aj.grow hI hB, Inv.grow hI hB, .nils⟩
 ·rw [if_neg hb] at hd
  subst hd
  rcases hrow.2 with ⟨h1, _⟩ | ⟨g, cap, cur, rfl, hg0, hgb, hcap, hmax, hsz, htk⟩
  ·exact absurd (hnil.1 h1) hb
  ·generalize hl : bitsOf ns 0 = l at *
   have M5 : g < w'.heap.size := (Array.getElem?_eq_some_iff.1 hgb).1
   have OB : OR (upd β h.length g) w' (h ++ [.row 3 1 0 (l.map fun n : Nat => DV.int .i64 n)]) g (.row 3 1 0 (l.map fun n : Nat => DV.int .i64 n)) := by
    refine ⟨cur, cap, hgb, hsz, by simpa using hcap, hmax, by omega, ?_, ?_⟩
    ·intro x hx
     obtain ⟨n, _, rfl⟩ := List.mem_map.1 hx
     simp [Wc, DV.cells, DV.one]
    ·have hfl : flat (l.map fun n : Nat => DV.int .i64 n) = (l.map Int.ofNat).map (DV.int .i64) := by
      rw [List.map_map]
      generalize l = l
      induction l with
      | nil => rfl
      | cons n l ih => simp only [List.map_cons, flat, List.flatMap_cons] at ih ⊢; rw [ih]; rfl
     rw [hfl, List.length_map, htk]
     have := qg (upd β h.length g) w' (h ++ [.row 3 1 0 (l.map fun n : Nat => DV.int .i64 n)]) .i64 (l.map Int.ofNat)
     have e2 : ints l = (l.map Int.ofNat).map (Value.int .i64) := by rw [List.map_map]; rfl
     rw [e2]
     exact this
   refine ⟨_, upd β h.length g, rfl, aj.grow1 hI hB hg0 _, Inv.grow1 hI hB hg0 M5 _ OB, ?_⟩
   have hel : (h ++ [HO.row 3 1 0 (l.map fun n : Nat => DV.int .i64 n)])[h.length]? = some (.row 3 1 0 (l.map fun n : Nat => DV.int .i64 n)) := by simp
   show RV (upd β h.length g) w' (h ++ [HO.row 3 1 0 (l.map fun n : Nat => DV.int .i64 n)]) (.row h.length 0 0 (l.map fun n : Nat => DV.int .i64 n).length false) _
   rw [List.length_map]
   exact RV.row (ZW _ _ _) hcap (by intro hf; cases hf) (.inl hel) (Nat.le_refl _) (fun _ => ⟨by simp, fun _ => by simp, fun _ => ⟨rfl, fun _ _ => ⟨cur, hgb, hsz⟩⟩⟩)
end Go.Proofs.YteekbciaggmfgaaDoor
