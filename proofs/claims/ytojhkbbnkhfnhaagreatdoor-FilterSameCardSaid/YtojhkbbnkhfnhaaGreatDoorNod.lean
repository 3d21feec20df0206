/- Nodes of filters. Ideal runs: sets of numbers, word by word. Ideal runs: both, one of both, all below a number, all but some. Ideal runs: all but some; is a number in a set. Ideal runs: the set of some numbers. Ideal runs: the set of some numbers; are two sets the same. Ideal runs: does a comparison hold for a value; is a node ahead. Ideal runs: the rows for which a node of a column holds. Ideal runs: the sets of a filter's nodes, one after the other. Ideal runs: the sets of all nodes of a filter; the rows for which it holds. Ideal runs: for which rows a filter holds; does it hold for a row; the numbers of a set. Ideal runs: the document's functions for filters: which inputs are few and light; does a filter hold for a row, node by node. Ideal runs: the document's function: does a filter hold for a row, node by node. Ideal runs: the document's functions: does a filter hold for a row; for which rows. Plain facts: what the words of sets hold; the program's filter and the document's are one. Ideal runs: the chapter's examples. FilterTells, in plain Lean: the ideal run of the law. -/
import Derived.Test.YtojhkbbnkhfnhaaGreatDoorPlainB
import Derived.Test.YtojhkbbnkhfnhaaGreatDoorCode
import Derived.Test.YtojhkbbnkhfnhaaGreatDoorStep
import Derived.Test.YtojhkbbnkhfnhaaGreatDoorPlainM
namespace Go.Proofs.YtojhkbbnkhfnhaaGreatDoor
structure N where
  ask : Int
  col : Int
  val : V
  a : Int
  b : Int
abbrev N.d (x : N) : DV := .agg [.int .i64 x.ask, .int .i64 x.col, .int .i64 x.val.k, .int .i64 x.val.n, .str x.val.s, .bool x.val.t, .int .i64 x.a, .int .i64 x.b]
end Go.Proofs.YtojhkbbnkhfnhaaGreatDoor
namespace Go.Proofs.YtojhkbbnkhfnhaaGreatDoor
attribute [local go_sem] Ya ZT ZV ZW ZO ZF ZM ZI ZK ZB ZC ZJ ZP ZQ ZX ZN ZG ZU Zp Zm Yg ZS Yq put lk Od.v Za ZE ZA YB Ym Yn Yo unx YE DV.isU DV.cells hget Yb Yj Yd ZL splice Ye mat Yi YD one_bool one_int one_str one_nilp one_ref one_elem one_nils one_list one_row one_nilm one_map one_nilf one_func one_nili one_ifc one_agg one_tup one_undef one_fresh
attribute [local go_sem ↓] ZH
set_option linter.unusedVariables false
set_option linter.unusedSimpArgs false
set_option maxRecDepth 10000
abbrev uD (n : Nat) : DV := .int .u64 (n : Int)
/-- A list of words that is only read. -/
def WL (W : DV) (ws : List Nat) : Prop := W = .list 1 (ws.map uD) false ∨ (W = .nils ∧ ws = [])
theorem WL.vw {W : DV} {ws : List Nat} (h : WL W ws) (g : ZD) : vw g 1 W = some (ws.map uD) := by
  rcases h with rfl | ⟨rfl, rfl⟩ <;> rfl
/-- The word at a place; nothing behind the last one. -/
def at_ (ws : List Nat) (k : Nat) : Nat := ws.getD k 0
theorem run35 {W : DV} {ws : List Nat} (hW : WL W ws) (k : Nat) (h : ZD) : E X 35 [.agg [W], .int .i64 k] h = some (uD (at_ ws k), h) := by
  have hv := hW.vw
  by_cases hk : k < ws.length
  · have e : at_ ws k = ws[k] := by simp [at_, List.getD, List.getElem?_eq_getElem hk]
    rw [Yc (X := X) _ b35 _ rfl rfl]; unfold b35; (repeat (first | rw [Zj] | rw [Zc (by simp [go_sem, hv, hk, e, ZR]; exact ⟨rfl, rfl⟩)] | rw [Zv (by simp [lk, Za, Od.v, hv, hk, e, ZR]; exact rfl)] | rw [Zp] | rw [Zm] | rw [Zl] | rw [Zy] | rw [Zq] | rw [Zt] | rw [Zo] | rw [Zn] | rw [Zk] | rw [Zg] | rw [Zh] | rw [Zd (by decide)] | rw [Zi] | rw [Ze] | rw [Zf] | rw [Zb (by decide)] | rw [Zz] | rw [Zu (by simp [go_sem, hv, hk, e, ZR]; exact ⟨rfl, rfl⟩)] | rw [Zw (by simp [lk, Za, Od.v, hv, hk, e, ZR]; exact rfl)] | rw [Zx])); simp [Zr, Zs, ZY, go_sem, fin, Yu, Yt, YA, Yy, YC, hv, hk, e, ZR]
  · have e : at_ ws k = 0 := by simp [at_, List.getD, List.getElem?_eq_none (Nat.le_of_not_lt hk)]
    rw [Yc (X := X) _ b35 _ rfl rfl]; unfold b35; (repeat (first | rw [Zj] | rw [Zc (by simp [go_sem, hv, hk, e]; exact ⟨rfl, rfl⟩)] | rw [Zv (by simp [lk, Za, Od.v, hv, hk, e]; exact rfl)] | rw [Zp] | rw [Zm] | rw [Zl] | rw [Zy] | rw [Zq] | rw [Zt] | rw [Zo] | rw [Zn] | rw [Zk] | rw [Zg] | rw [Zh] | rw [Zd (by decide)] | rw [Zi] | rw [Ze] | rw [Zf] | rw [Zb (by decide)] | rw [Zz] | rw [Zu (by simp [go_sem, hv, hk, e]; exact ⟨rfl, rfl⟩)] | rw [Zw (by simp [lk, Za, Od.v, hv, hk, e]; exact rfl)] | rw [Zx])); simp [Zr, Zs, ZY, go_sem, fin, Yu, Yt, YA, Yy, YC, hv, hk, e]
theorem run89 (i : Int) (h : ZD) : E X 89 [.int .i64 i] h = some (.bool (decide (0 ≤ i) && decide (i < 65536)), h) := by
  by_cases a : 0 ≤ i
  · rw [Yc (X := X) _ b89 _ rfl rfl]; unfold b89; (repeat (first | rw [Zj] | rw [Zc (by simp [go_sem, a]; exact ⟨rfl, rfl⟩)] | rw [Zv (by simp [lk, Za, Od.v, a]; exact rfl)] | rw [Zp] | rw [Zm] | rw [Zl] | rw [Zy] | rw [Zq] | rw [Zt] | rw [Zo] | rw [Zn] | rw [Zk] | rw [Zg] | rw [Zh] | rw [Zd (by decide)] | rw [Zi] | rw [Ze] | rw [Zf] | rw [Zb (by decide)] | rw [Zz] | rw [Zu (by simp [go_sem, a]; exact ⟨rfl, rfl⟩)] | rw [Zw (by simp [lk, Za, Od.v, a]; exact rfl)] | rw [Zx])); simp [Zr, Zs, ZY, go_sem, fin, Yu, Yt, YA, Yy, YC, a]
  · rw [Yc (X := X) _ b89 _ rfl rfl]; unfold b89; (repeat (first | rw [Zj] | rw [Zc (by simp [go_sem, a]; exact ⟨rfl, rfl⟩)] | rw [Zv (by simp [lk, Za, Od.v, a]; exact rfl)] | rw [Zp] | rw [Zm] | rw [Zl] | rw [Zy] | rw [Zq] | rw [Zt] | rw [Zo] | rw [Zn] | rw [Zk] | rw [Zg] | rw [Zh] | rw [Zd (by decide)] | rw [Zi] | rw [Ze] | rw [Zf] | rw [Zb (by decide)] | rw [Zz] | rw [Zu (by simp [go_sem, a]; exact ⟨rfl, rfl⟩)] | rw [Zw (by simp [lk, Za, Od.v, a]; exact rfl)] | rw [Zx])); simp [Zr, Zs, ZY, go_sem, fin, Yu, Yt, YA, Yy, YC, a]
/-- The heap in which a set is made. -/
def hb (H : ZD) (ws : List Nat) : ZD := H ++ [.box 38 [.nils], .row 72 1 0 (ws.map uD)]
section
variable {H : ZD} {ws : List Nat} {n : Nat}
theorem hb_vw (hn : ws.length = n) : vw (hb H ws) 1 (.row (H.length + 1) 0 0 n false) = some (ws.map uD) := by
  subst hn; simp [vw, hb, hget, List.take_of_length_le]
theorem hb_wr (hn : ws.length = n) {i : Nat} (hi : i < n) (x : Nat) : stx (hb H ws) 1 (.elem (.row (H.length + 1) 0 0 n false) 1 i 0) (.int .u64 x) = some (hb H (ws.set i x)) := by
  subst hn
  have h1 : (hb H ws)[H.length + 1]? = some (.row 72 1 0 (ws.map uD)) := by simp [hb, hget]
  have h2 : (ws.map uD)[i]? = some (uD ws[i]) := by simp [List.getElem?_eq_getElem hi]
  rw [stx, if_pos (by simp [DV.cells, DV.one])]
  simp only [h1]
  rw [if_pos (by simp [hi])]
  simp only [Nat.zero_add, h2]
  simp [eput, DV.one, hb, Yj]
end
theorem loop111 {H : ZD} {f n : Nat} {cap : List DV} {word : Nat → Nat} (hb' : n ≤ 1000000) (hf : ∀ k, k < n → ∀ l, E X f (.int .i64 k :: cap) (H ++ l) = some (uD (word k), H ++ l)) :
    ∀ (m i : Nat) (ws : List Nat), n - i ≤ m → i ≤ n → ws.length = n → (∀ j, j < i → ws[j]? = some (word j)) →
      ∃ x ex ws', C X (.loop lp111_0) [(1, .func f [] cap), (4, .ref H.length 0), (5, .row (H.length + 1) 0 0 n false), (10, .int .i64 n), (11, .int .i64 i)] (hb H ws) =
        some (.exit 0, (1, .func f [] cap) :: (4, .ref H.length 0) :: (5, .row (H.length + 1) 0 0 n false) :: (10, .int .i64 n) :: (11, x) :: ex, hb H ws') ∧ ws'.length = n ∧ ∀ j, j < n → ws'[j]? = some (word j) := by
  intro m
  induction m with
  | zero =>
    intro i ws hm hi hw hj
    obtain rfl : i = n := by omega
    refine ⟨.int .i64 i, [(12, .bool false)], ws, ?_, hw, hj⟩
    rw [Yh]
    unfold lp111_0
    (repeat (first | rw [Zj] | rw [Zc (by simp [go_sem]; exact ⟨rfl, rfl⟩)] | rw [Zv (by simp [lk, Za, Od.v]; exact rfl)] | rw [Zp] | rw [Zm] | rw [Zl] | rw [Zy] | rw [Zq] | rw [Zt] | rw [Zo] | rw [Zn] | rw [Zk] | rw [Zg] | rw [Zh] | rw [Zd (by decide)] | rw [Zi] | rw [Ze] | rw [Zf] | rw [Zb (by decide)] | rw [Zz] | rw [Zu (by simp [go_sem]; exact ⟨rfl, rfl⟩)] | rw [Zw (by simp [lk, Za, Od.v]; exact rfl)] | rw [Zx]))
    rw [Yx]
    simp [Za, lk]
  | succ m ih =>
    intro i ws hm hi hw hj
    by_cases w0 : i < n
    · obtain ⟨I, hI⟩ : ∃ I, I = i + 1 := ⟨_, rfl⟩
      have w1 : IntKind.i64.wrap ((i : Int) + 1) = (I : Int) := (by rw [wrap64 _ (by omega) (by omega)]; omega)
      have e1 : E X f (.int .i64 i :: cap) (hb H ws) = some (uD (word i), hb H ws) := hf i w0 _
      have a1 := hb_vw (H := H) hw
      have a2 := hb_wr (H := H) hw w0 (word i)
      have hs : C X lp111_0 [(1, .func f [] cap), (4, .ref H.length 0), (5, .row (H.length + 1) 0 0 n false), (10, .int .i64 n), (11, .int .i64 i)] (hb H ws) = some (.norm, [(1, .func f [] cap), (4, .ref H.length 0), (5, .row (H.length + 1) 0 0 n false), (10, .int .i64 n), (11, .int .i64 I)], hb H (ws.set i (word i))) := by
        unfold lp111_0
        (repeat (first | rw [Zj] | rw [Zc (by simp [go_sem, w0, w1, e1, a1, a2, hw]; exact ⟨rfl, rfl⟩)] | rw [Zv (by simp [lk, Za, Od.v, w0, w1, e1, a1, a2, hw]; exact rfl)] | rw [Zp] | rw [Zm] | rw [Zl] | rw [Zy] | rw [Zq] | rw [Zt] | rw [Zo] | rw [Zn] | rw [Zk] | rw [Zg] | rw [Zh] | rw [Zd (by decide)] | rw [Zi] | rw [Ze] | rw [Zf] | rw [Zb (by decide)] | rw [Zz] | rw [Zu (by simp [go_sem, w0, w1, e1, a1, a2, hw]; exact ⟨rfl, rfl⟩)] | rw [Zw (by simp [lk, Za, Od.v, w0, w1, e1, a1, a2, hw]; exact rfl)] | rw [Zx]))
        simp [Za, lk]
      rw [Yh, hs, Yw]
      refine ih I _ (by omega) (by omega) (by simpa using hw) (fun j hj' => ?_)
      by_cases hji : j = i
      · subst hji; exact List.getElem?_set_self (by omega)
      · rw [List.getElem?_set_ne (Ne.symm hji)]; exact hj j (by omega)
    · exact ih i ws (by omega) hi hw hj
theorem run111 {H : ZD} {f n : Nat} {cap : List DV} {word : Nat → Nat} (hb' : n ≤ 1000000) (hf : ∀ k, k < n → ∀ l, E X f (.int .i64 k :: cap) (H ++ l) = some (uD (word k), H ++ l)) :
    E X 111 [.int .i64 n, .func f [] cap] H = some (.agg [.list 1 (((List.range n).map word).map uD) false], H) := by
  obtain ⟨x, ex, ws, c1, hl, hw⟩ := loop111 hb' hf n 0 (List.replicate n 0) (by omega) (by omega) (by simp) (fun j hj => by omega)
  have hws : ws = (List.range n).map word := by
    apply List.ext_getElem?
    intro j
    by_cases hj : j < n
    · rw [hw j hj]; simp [hj]
    · rw [List.getElem?_eq_none (by omega), List.getElem?_eq_none (by simp; omega)]
  have h0 : H ++ [HO.box 38 [.nils], .row 72 1 0 (List.replicate n (.int .u64 0))] = hb H (List.replicate n 0) := by simp [hb, uD]
  have z1 : Wc 1 (.int .u64 0) := by simp [Wc, DV.cells, DV.one]
  have z2 : (n : Int) * 8 ≤ 140737488355328 := by omega
  have a1 := hb_vw (H := H) (ws := List.replicate n 0) (n := n) (by simp)
  have g1 : (hb H ws)[H.length]? = some (.box 38 [.nils]) := by simp [hb, Yb]
  have g2 : (hb H ws).set H.length (.box 38 [.row (H.length + 1) 0 0 n false]) = H ++ [.box 38 [.row (H.length + 1) 0 0 n false], .row 72 1 0 (ws.map uD)] := by simp [hb, Yd]
  rw [show ((0 : Nat) : Int) = 0 from rfl] at c1
  have q1 : ∀ y ∈ ws.map uD, Nr y := by intro y hy; obtain ⟨z, _, rfl⟩ := List.mem_map.1 hy; exact .int _ _
  rw [Yc (X := X) _ b111 _ rfl rfl]; unfold b111
  (repeat (first | rw [Zj] | rw [Zc (by simp [go_sem, z1, z2, h0, a1]; exact ⟨rfl, rfl⟩)] | rw [Zv (by simp [lk, Za, Od.v, z1, z2, h0, a1]; exact rfl)] | rw [Zp] | rw [Zm] | rw [Zl] | rw [Zy] | rw [Zq] | rw [Zt] | rw [Zo] | rw [Zn] | rw [Zk] | rw [Zg] | rw [Zh] | rw [Zd (by decide)] | rw [Zi] | rw [Ze] | rw [Zf] | rw [Zb (by decide)] | rw [Zz] | rw [Zu (by simp [go_sem, z1, z2, h0, a1]; exact ⟨rfl, rfl⟩)] | rw [Zw (by simp [lk, Za, Od.v, z1, z2, h0, a1]; exact rfl)] | rw [Zx]))
  (try simp only [Za, List.map_cons, List.map_nil, lk, reduceIte, Nat.reduceEqDiff, Nat.zero_ne_one, Nat.one_ne_zero])
  rw [c1]
  (repeat (first | rw [Zj] | rw [Zc (by simp [go_sem, g1, g2]; exact ⟨rfl, rfl⟩)] | rw [Zv (by simp [lk, Za, Od.v, g1, g2]; exact rfl)] | rw [Zp] | rw [Zm] | rw [Zl] | rw [Zy] | rw [Zq] | rw [Zt] | rw [Zo] | rw [Zn] | rw [Zk] | rw [Zg] | rw [Zh] | rw [Zd (by decide)] | rw [Zi] | rw [Ze] | rw [Zf] | rw [Zb (by decide)] | rw [Zz] | rw [Zu (by simp [go_sem, g1, g2]; exact ⟨rfl, rfl⟩)] | rw [Zw (by simp [lk, Za, Od.v, g1, g2]; exact rfl)] | rw [Zx]))
  rw [← hws]
  have f1 : Yt H.length (H ++ [HO.box 38 [.row (H.length + 1) 0 0 n false], HO.row 72 1 0 (ws.map uD)]) true (.agg [.row (H.length + 1) 0 0 n false]) = some (.agg [.list 1 (ws.map uD) false], (H ++ [HO.box 38 [.row (H.length + 1) 0 0 n false], HO.row 72 1 0 (ws.map uD)]).set (H.length + 1) (.frz 72 1 0 (ws.map uD))) := by
    rw [Yt]
    simp only [Yy]
    rw [Yu, if_neg (by omega), hget]
    simp only [List.getElem?_cons_succ, List.getElem?_cons_zero]
    rw [if_pos ⟨rfl, by simp [hl], q1⟩, if_neg (by simp)]
    simp [← hl, List.take_of_length_le]
  have c5 : fin H (H ++ [HO.box 38 [.row (H.length + 1) 0 0 n false], HO.row 72 1 0 (ws.map uD)]) [.agg [.row (H.length + 1) 0 0 n false]] = (.agg [.list 1 (ws.map uD) false], H) := by
    simp only [fin]
    rw [if_pos List.take_left, f1]
  simp [Zs, Zr, ZY, Za, lk, ZA, Yb, YB]
  rw [c5]
end Go.Proofs.YtojhkbbnkhfnhaaGreatDoor
namespace Go.Proofs.YtojhkbbnkhfnhaaGreatDoor
set_option linter.unusedVariables false
set_option linter.unusedSimpArgs false
set_option maxRecDepth 10000
def WB (ws : List Nat) : Prop := ∀ x ∈ ws, x < 18446744073709551616
theorem WB.at {ws : List Nat} (h : WB ws) (k : Nat) : at_ ws k < 18446744073709551616 := by
  unfold at_
  by_cases hk : k < ws.length
  · simp only [List.getD, List.getElem?_eq_getElem hk, Option.getD_some]; exact h _ (List.getElem_mem _)
  · simp [List.getD, List.getElem?_eq_none (Nat.le_of_not_lt hk)]
theorem or_n {a b : Nat} (ha : a < 18446744073709551616) (hb : b < 18446744073709551616) : IntKind.u64.wrap ((a % 2 ^ IntKind.u64.bits ||| b % 2 ^ IntKind.u64.bits : Nat) : Int) = ((a ||| b : Nat) : Int) := by
  rw [bits_u, Nat.mod_eq_of_lt ha, Nat.mod_eq_of_lt hb, wrapu, Nat.mod_eq_of_lt]
  exact Nat.or_lt_two_pow (n := 64) ha hb
theorem run114 {h : ZD} {p q : Nat} {W T : DV} {ws ts : List Nat} (hp : h[p]? = some (.box 38 [W])) (hq : h[q]? = some (.box 38 [T])) (hW : WL W ws) (hT : WL T ts) (bw : WB ws) (bt : WB ts) {k : Nat} (h1 : k < ws.length) (h2 : k < ts.length) :
    E X 114 [.int .i64 k, .ref p 0, .ref q 0] h = some (uD (at_ ws k &&& at_ ts k), h) := by
  have v1 := hW.vw
  have v2 := hT.vw
  have e1 : at_ ws k = ws[k] := by simp [at_, List.getD, List.getElem?_eq_getElem h1]
  have e2 : at_ ts k = ts[k] := by simp [at_, List.getD, List.getElem?_eq_getElem h2]
  have a1 := and_n (bw.at k) (bt.at k)
  rw [e1, e2] at a1
  rw [e1, e2]
  rw [Yc (X := X) _ b114 _ rfl rfl]; unfold b114; (repeat (first | rw [Zj] | rw [Zc (by simp [Ya, ZT, ZV, ZW, ZO, ZF, ZM, ZI, ZK, ZB, ZC, ZJ, ZP, ZQ, ZX, ↓ZH, ZN, ZG, ZU, Zp, Zm, Yg, ZS, Yq, put, lk, Od.v, Za, ZE, ZA, YB, Ym, Yn, Yo, unx, YE, DV.isU, DV.cells, hget, Yb, Yj, Yd, ZL, splice, DV.one, Ye, mat, Yi, YD, hp, hq, v1, v2, h1, h2, ZR, a1]; exact ⟨rfl, rfl⟩)] | rw [Zv (by simp [lk, Za, Od.v, hp, hq, v1, v2, h1, h2, ZR, a1]; exact rfl)] | rw [Zp] | rw [Zm] | rw [Zl] | rw [Zy] | rw [Zq] | rw [Zt] | rw [Zo] | rw [Zn] | rw [Zk] | rw [Zg] | rw [Zh] | rw [Zd (by decide)] | rw [Zi] | rw [Ze] | rw [Zf] | rw [Zb (by decide)] | rw [Zz] | rw [Zu (by simp [Ya, ZT, ZV, ZW, ZO, ZF, ZM, ZI, ZK, ZB, ZC, ZJ, ZP, ZQ, ZX, ↓ZH, ZN, ZG, ZU, Zp, Zm, Yg, ZS, Yq, put, lk, Od.v, Za, ZE, ZA, YB, Ym, Yn, Yo, unx, YE, DV.isU, DV.cells, hget, Yb, Yj, Yd, ZL, splice, DV.one, Ye, mat, Yi, YD, hp, hq, v1, v2, h1, h2, ZR, a1]; exact ⟨rfl, rfl⟩)] | rw [Zw (by simp [lk, Za, Od.v, hp, hq, v1, v2, h1, h2, ZR, a1]; exact rfl)] | rw [Zx])); simp [Zr, Zs, ZY, Ya, ZT, ZV, ZW, ZO, ZF, ZM, ZI, ZK, ZB, ZC, ZJ, ZP, ZQ, ZX, ↓ZH, ZN, ZG, ZU, Zp, Zm, Yg, ZS, Yq, put, lk, Od.v, Za, ZE, ZA, YB, Ym, Yn, Yo, unx, YE, DV.isU, DV.cells, hget, Yb, Yj, Yd, ZL, splice, DV.one, Ye, mat, Yi, YD, fin, Yu, Yt, YA, Yy, YC, hp, hq, v1, v2, h1, h2, ZR, a1]
theorem run115 {h : ZD} {p q : Nat} {W T : DV} {ws ts : List Nat} (hp : h[p]? = some (.box 38 [W])) (hq : h[q]? = some (.box 38 [T])) (hW : WL W ws) (hT : WL T ts) (bw : WB ws) (bt : WB ts) (k : Nat) :
    E X 115 [.int .i64 k, .ref p 0, .ref q 0] h = some (uD (at_ ws k ||| at_ ts k), h) := by
  have e1 := run35 hW k
  have e2 := run35 hT k
  have a1 := or_n (bw.at k) (bt.at k)
  rw [Yc (X := X) _ b115 _ rfl rfl]; unfold b115; (repeat (first | rw [Zj] | rw [Zc (by simp [Ya, ZT, ZV, ZW, ZO, ZF, ZM, ZI, ZK, ZB, ZC, ZJ, ZP, ZQ, ZX, ↓ZH, ZN, ZG, ZU, Zp, Zm, Yg, ZS, Yq, put, lk, Od.v, Za, ZE, ZA, YB, Ym, Yn, Yo, unx, YE, DV.isU, DV.cells, hget, Yb, Yj, Yd, ZL, splice, DV.one, Ye, mat, Yi, YD, hp, hq, e1, e2, a1]; exact ⟨rfl, rfl⟩)] | rw [Zv (by simp [lk, Za, Od.v, hp, hq, e1, e2, a1]; exact rfl)] | rw [Zp] | rw [Zm] | rw [Zl] | rw [Zy] | rw [Zq] | rw [Zt] | rw [Zo] | rw [Zn] | rw [Zk] | rw [Zg] | rw [Zh] | rw [Zd (by decide)] | rw [Zi] | rw [Ze] | rw [Zf] | rw [Zb (by decide)] | rw [Zz] | rw [Zu (by simp [Ya, ZT, ZV, ZW, ZO, ZF, ZM, ZI, ZK, ZB, ZC, ZJ, ZP, ZQ, ZX, ↓ZH, ZN, ZG, ZU, Zp, Zm, Yg, ZS, Yq, put, lk, Od.v, Za, ZE, ZA, YB, Ym, Yn, Yo, unx, YE, DV.isU, DV.cells, hget, Yb, Yj, Yd, ZL, splice, DV.one, Ye, mat, Yi, YD, hp, hq, e1, e2, a1]; exact ⟨rfl, rfl⟩)] | rw [Zw (by simp [lk, Za, Od.v, hp, hq, e1, e2, a1]; exact rfl)] | rw [Zx])); simp [Zr, Zs, ZY, Ya, ZT, ZV, ZW, ZO, ZF, ZM, ZI, ZK, ZB, ZC, ZJ, ZP, ZQ, ZX, ↓ZH, ZN, ZG, ZU, Zp, Zm, Yg, ZS, Yq, put, lk, Od.v, Za, ZE, ZA, YB, Ym, Yn, Yo, unx, YE, DV.isU, DV.cells, hget, Yb, Yj, Yd, ZL, splice, DV.one, Ye, mat, Yi, YD, fin, Yu, Yt, YA, Yy, YC, hp, hq, e1, e2, a1]
def andW (ws ts : List Nat) : List Nat := (List.range (min ws.length ts.length)).map fun k => at_ ws k &&& at_ ts k
def orW (ws ts : List Nat) : List Nat := (List.range (max ws.length ts.length)).map fun k => at_ ws k ||| at_ ts k
theorem mm_min (a b : Nat) : mm false .i64 (a : Int) [.int .i64 (b : Int)] = some ((min a b : Nat) : Int) := by
  simp only [mm]
  by_cases h : (b : Int) < a
  · simp [h]; omega
  · simp [h]; omega
theorem mm_max (a b : Nat) : mm true .i64 (a : Int) [.int .i64 (b : Int)] = some ((max a b : Nat) : Int) := by
  simp only [mm]
  by_cases h : (a : Int) < b
  · simp [h]; omega
  · simp [h]; omega
theorem fin_set {H l : ZD} {ws : List Nat} : fin H (H ++ l) [.agg [.list 1 (ws.map uD) false]] = (.agg [.list 1 (ws.map uD) false], H) := by
  simp only [fin]
  rw [if_pos List.take_left]
  simp [Yt, Yy, Yu]
theorem run68 {W T : DV} {ws ts : List Nat} (hW : WL W ws) (hT : WL T ts) (bw : WB ws) (bt : WB ts) (hb : ws.length ≤ 1000000) (H : ZD) : E X 68 [.agg [W], .agg [T]] H = some (.agg [.list 1 ((andW ws ts).map uD) false], H) := by
  have v1 := hW.vw
  have v2 := hT.vw
  have e1 := run111 (H := H ++ [HO.box 38 [W], HO.box 38 [T], HO.box 38 [.nils]]) (f := 114) (n := min ws.length ts.length) (cap := [.ref H.length 0, .ref (H.length + 1) 0]) (word := fun k => at_ ws k &&& at_ ts k) (by omega) (fun k hk l => run114 (by simp) (by simp [hget]) hW hT bw bt (by omega) (by omega))
  have e2 := mm_min ws.length ts.length
  generalize hM : min ws.length ts.length = M at e1 e2
  have hdef : andW ws ts = (List.range M).map fun k => at_ ws k &&& at_ ts k := by rw [andW, hM]
  rw [← hdef] at e1
  generalize andW ws ts = us at e1 ⊢
  rw [Yc (X := X) _ b68 _ rfl rfl]; unfold b68
  (repeat (first | rw [Zj] | rw [Zc (by simp [Ya, ZT, ZV, ZW, ZO, ZF, ZM, ZI, ZK, ZB, ZC, ZJ, ZP, ZQ, ZX, ↓ZH, ZN, ZG, ZU, Zp, Zm, Yg, ZS, Yq, put, lk, Od.v, Za, ZE, ZA, YB, Ym, Yn, Yo, unx, YE, DV.isU, DV.cells, hget, Yb, Yj, Yd, ZL, splice, DV.one, Ye, mat, Yi, YD, v1, v2, e1, e2]; exact ⟨rfl, rfl⟩)] | rw [Zv (by simp [lk, Za, Od.v, v1, v2, e1, e2]; exact rfl)] | rw [Zp] | rw [Zm] | rw [Zl] | rw [Zy] | rw [Zq] | rw [Zt] | rw [Zo] | rw [Zn] | rw [Zk] | rw [Zg] | rw [Zh] | rw [Zd (by decide)] | rw [Zi] | rw [Ze] | rw [Zf] | rw [Zb (by decide)] | rw [Zz] | rw [Zu (by simp [Ya, ZT, ZV, ZW, ZO, ZF, ZM, ZI, ZK, ZB, ZC, ZJ, ZP, ZQ, ZX, ↓ZH, ZN, ZG, ZU, Zp, Zm, Yg, ZS, Yq, put, lk, Od.v, Za, ZE, ZA, YB, Ym, Yn, Yo, unx, YE, DV.isU, DV.cells, hget, Yb, Yj, Yd, ZL, splice, DV.one, Ye, mat, Yi, YD, v1, v2, e1, e2]; exact ⟨rfl, rfl⟩)] | rw [Zw (by simp [lk, Za, Od.v, v1, v2, e1, e2]; exact rfl)] | rw [Zx]))
  simp [Zs, Zr, ZY, Za, lk, ZA, hget, Yb, Yj, YB]
  exact fin_set
theorem run69 {W T : DV} {ws ts : List Nat} (hW : WL W ws) (hT : WL T ts) (bw : WB ws) (bt : WB ts) (hb : ws.length ≤ 1000000) (hb' : ts.length ≤ 1000000) (H : ZD) : E X 69 [.agg [W], .agg [T]] H = some (.agg [.list 1 ((orW ws ts).map uD) false], H) := by
  have v1 := hW.vw
  have v2 := hT.vw
  have e1 := run111 (H := H ++ [HO.box 38 [W], HO.box 38 [T], HO.box 38 [.nils]]) (f := 115) (n := max ws.length ts.length) (cap := [.ref H.length 0, .ref (H.length + 1) 0]) (word := fun k => at_ ws k ||| at_ ts k) (by omega) (fun k hk l => run115 (by simp) (by simp [hget]) hW hT bw bt k)
  have e2 := mm_max ws.length ts.length
  generalize hM : max ws.length ts.length = M at e1 e2
  have hdef : orW ws ts = (List.range M).map fun k => at_ ws k ||| at_ ts k := by rw [orW, hM]
  rw [← hdef] at e1
  generalize orW ws ts = us at e1 ⊢
  rw [Yc (X := X) _ b69 _ rfl rfl]; unfold b69
  (repeat (first | rw [Zj] | rw [Zc (by simp [Ya, ZT, ZV, ZW, ZO, ZF, ZM, ZI, ZK, ZB, ZC, ZJ, ZP, ZQ, ZX, ↓ZH, ZN, ZG, ZU, Zp, Zm, Yg, ZS, Yq, put, lk, Od.v, Za, ZE, ZA, YB, Ym, Yn, Yo, unx, YE, DV.isU, DV.cells, hget, Yb, Yj, Yd, ZL, splice, DV.one, Ye, mat, Yi, YD, v1, v2, e1, e2]; exact ⟨rfl, rfl⟩)] | rw [Zv (by simp [lk, Za, Od.v, v1, v2, e1, e2]; exact rfl)] | rw [Zp] | rw [Zm] | rw [Zl] | rw [Zy] | rw [Zq] | rw [Zt] | rw [Zo] | rw [Zn] | rw [Zk] | rw [Zg] | rw [Zh] | rw [Zd (by decide)] | rw [Zi] | rw [Ze] | rw [Zf] | rw [Zb (by decide)] | rw [Zz] | rw [Zu (by simp [Ya, ZT, ZV, ZW, ZO, ZF, ZM, ZI, ZK, ZB, ZC, ZJ, ZP, ZQ, ZX, ↓ZH, ZN, ZG, ZU, Zp, Zm, Yg, ZS, Yq, put, lk, Od.v, Za, ZE, ZA, YB, Ym, Yn, Yo, unx, YE, DV.isU, DV.cells, hget, Yb, Yj, Yd, ZL, splice, DV.one, Ye, mat, Yi, YD, v1, v2, e1, e2]; exact ⟨rfl, rfl⟩)] | rw [Zw (by simp [lk, Za, Od.v, v1, v2, e1, e2]; exact rfl)] | rw [Zx]))
  simp [Zs, Zr, ZY, Za, lk, ZA, hget, Yb, Yj, YB]
  exact fin_set
/-- The words of all below n. -/
def uptoW (n : Nat) : List Nat := (List.range ((n + 63) / 64)).map fun k => if k * 64 + 64 ≤ n then 18446744073709551615 else 2 ^ (n - k * 64) - 1
theorem run112 {h : ZD} {q n : Nat} (hq : h[q]? = some (.box 3 [.int .i64 n])) (hn : n ≤ 65536) {k : Nat} (hk : k < (n + 63) / 64) : E X 112 [.int .i64 k, .ref q 0] h = some (uD (if k * 64 + 64 ≤ n then 18446744073709551615 else 2 ^ (n - k * 64) - 1), h) := by
  obtain ⟨K, hK⟩ : ∃ K, K = k * 64 := ⟨_, rfl⟩
  obtain ⟨D, hD⟩ : ∃ D, D = n - K := ⟨_, rfl⟩
  have w1 : IntKind.i64.wrap ((k : Int) * 64) = (K : Int) := (by rw [wrap64 _ (by omega) (by omega)]; omega)
  have w2 : IntKind.i64.wrap ((n : Int) - K) = (D : Int) := (by rw [wrap64 _ (by omega) (by omega)]; omega)
  rw [← hK, ← hD]
  by_cases c : 64 ≤ D
  · have c' : (64 : Int) ≤ D := by omega
    have c2 : K + 64 ≤ n := by omega
    rw [if_pos c2]
    rw [Yc (X := X) _ b112 _ rfl rfl]; unfold b112; (repeat (first | rw [Zj] | rw [Zc (by simp [Ya, ZT, ZV, ZW, ZO, ZF, ZM, ZI, ZK, ZB, ZC, ZJ, ZP, ZQ, ZX, ↓ZH, ZN, ZG, ZU, Zp, Zm, Yg, ZS, Yq, put, lk, Od.v, Za, ZE, ZA, YB, Ym, Yn, Yo, unx, YE, DV.isU, DV.cells, hget, Yb, Yj, Yd, ZL, splice, DV.one, Ye, mat, Yi, YD, hq, w1, w2, c, c']; exact ⟨rfl, rfl⟩)] | rw [Zv (by simp [lk, Za, Od.v, hq, w1, w2, c, c']; exact rfl)] | rw [Zp] | rw [Zm] | rw [Zl] | rw [Zy] | rw [Zq] | rw [Zt] | rw [Zo] | rw [Zn] | rw [Zk] | rw [Zg] | rw [Zh] | rw [Zd (by decide)] | rw [Zi] | rw [Ze] | rw [Zf] | rw [Zb (by decide)] | rw [Zz] | rw [Zu (by simp [Ya, ZT, ZV, ZW, ZO, ZF, ZM, ZI, ZK, ZB, ZC, ZJ, ZP, ZQ, ZX, ↓ZH, ZN, ZG, ZU, Zp, Zm, Yg, ZS, Yq, put, lk, Od.v, Za, ZE, ZA, YB, Ym, Yn, Yo, unx, YE, DV.isU, DV.cells, hget, Yb, Yj, Yd, ZL, splice, DV.one, Ye, mat, Yi, YD, hq, w1, w2, c, c']; exact ⟨rfl, rfl⟩)] | rw [Zw (by simp [lk, Za, Od.v, hq, w1, w2, c, c']; exact rfl)] | rw [Zx])); simp [Zr, Zs, ZY, Ya, ZT, ZV, ZW, ZO, ZF, ZM, ZI, ZK, ZB, ZC, ZJ, ZP, ZQ, ZX, ↓ZH, ZN, ZG, ZU, Zp, Zm, Yg, ZS, Yq, put, lk, Od.v, Za, ZE, ZA, YB, Ym, Yn, Yo, unx, YE, DV.isU, DV.cells, hget, Yb, Yj, Yd, ZL, splice, DV.one, Ye, mat, Yi, YD, fin, Yu, Yt, YA, Yy, YC, hq, w1, w2, c, c']
  · have c' : ¬ (64 : Int) ≤ D := by omega
    have c2 : ¬ K + 64 ≤ n := by omega
    rw [if_neg c2]
    have c3 : ¬ (D : Int) < 0 := by omega
    obtain ⟨P, hP⟩ : ∃ P, P = 2 ^ D := ⟨_, rfl⟩
    have hPp : 1 ≤ P := by rw [hP]; exact Nat.one_le_two_pow
    have hPl : P < 18446744073709551616 := by rw [hP]; exact Nat.pow_lt_pow_right (by omega : 1 < 2) (by omega : D < 64)
    have w3 : IntKind.u64.wrap (2 ^ min D IntKind.u64.bits) = (P : Int) := by
      rw [show min D IntKind.u64.bits = D from Nat.min_eq_left (by simp [IntKind.bits]; omega), show (2 : Int) ^ D = ((P : Nat) : Int) by rw [hP]; simp, wrapu, Nat.mod_eq_of_lt hPl]
    have w4 : IntKind.u64.wrap ((P : Int) - 1) = ((P - 1 : Nat) : Int) := by
      rw [show (P : Int) - 1 = ((P - 1 : Nat) : Int) by omega, wrapu, Nat.mod_eq_of_lt (by omega)]
    rw [← hP]
    obtain ⟨Q, hQ⟩ : ∃ Q, Q = P - 1 := ⟨_, rfl⟩
    rw [← hQ] at w4 ⊢
    rw [Yc (X := X) _ b112 _ rfl rfl]; unfold b112; (repeat (first | rw [Zj] | rw [Zc (by simp [Ya, ZT, ZV, ZW, ZO, ZF, ZM, ZI, ZK, ZB, ZC, ZJ, ZP, ZQ, ZX, ↓ZH, ZN, ZG, ZU, Zp, Zm, Yg, ZS, Yq, put, lk, Od.v, Za, ZE, ZA, YB, Ym, Yn, Yo, unx, YE, DV.isU, DV.cells, hget, Yb, Yj, Yd, ZL, splice, DV.one, Ye, mat, Yi, YD, hq, w1, w2, w3, w4, c, c', c3]; exact ⟨rfl, rfl⟩)] | rw [Zv (by simp [lk, Za, Od.v, hq, w1, w2, w3, w4, c, c', c3]; exact rfl)] | rw [Zp] | rw [Zm] | rw [Zl] | rw [Zy] | rw [Zq] | rw [Zt] | rw [Zo] | rw [Zn] | rw [Zk] | rw [Zg] | rw [Zh] | rw [Zd (by decide)] | rw [Zi] | rw [Ze] | rw [Zf] | rw [Zb (by decide)] | rw [Zz] | rw [Zu (by simp [Ya, ZT, ZV, ZW, ZO, ZF, ZM, ZI, ZK, ZB, ZC, ZJ, ZP, ZQ, ZX, ↓ZH, ZN, ZG, ZU, Zp, Zm, Yg, ZS, Yq, put, lk, Od.v, Za, ZE, ZA, YB, Ym, Yn, Yo, unx, YE, DV.isU, DV.cells, hget, Yb, Yj, Yd, ZL, splice, DV.one, Ye, mat, Yi, YD, hq, w1, w2, w3, w4, c, c', c3]; exact ⟨rfl, rfl⟩)] | rw [Zw (by simp [lk, Za, Od.v, hq, w1, w2, w3, w4, c, c', c3]; exact rfl)] | rw [Zx])); simp [Zr, Zs, ZY, Ya, ZT, ZV, ZW, ZO, ZF, ZM, ZI, ZK, ZB, ZC, ZJ, ZP, ZQ, ZX, ↓ZH, ZN, ZG, ZU, Zp, Zm, Yg, ZS, Yq, put, lk, Od.v, Za, ZE, ZA, YB, Ym, Yn, Yo, unx, YE, DV.isU, DV.cells, hget, Yb, Yj, Yd, ZL, splice, DV.one, Ye, mat, Yi, YD, fin, Yu, Yt, YA, Yy, YC, hq, w1, w2, w3, w4, c, c', c3]
theorem mm_clamp (n : Nat) : mm true .i64 (n : Int) [.int .i64 0] = some (n : Int) := by
  have h : ¬ (n : Int) < 0 := by omega
  simp [mm, h]
theorem mm_clamp2 (n : Nat) (hn : n ≤ 65536) : mm false .i64 (n : Int) [.int .i64 65536] = some (n : Int) := by
  have h : ¬ (65536 : Int) < n := by omega
  simp [mm, h]
theorem run65 (n : Nat) (hn : n ≤ 65536) (H : ZD) : E X 65 [.int .i64 n] H = some (.agg [.list 1 ((uptoW n).map uD) false], H) := by
  have m1 := mm_clamp n
  have m2 := mm_clamp2 n hn
  obtain ⟨a, ha⟩ : ∃ a, a = n + 64 := ⟨_, rfl⟩
  obtain ⟨b, hb⟩ : ∃ b, b = n + 63 := ⟨_, rfl⟩
  obtain ⟨c, hc⟩ : ∃ c, c = (n + 63) / 64 := ⟨_, rfl⟩
  have w1 : IntKind.i64.wrap ((n : Int) + 64) = (a : Int) := (by rw [wrap64 _ (by omega) (by omega)]; omega)
  have w2 : IntKind.i64.wrap ((a : Int) - 1) = (b : Int) := (by rw [wrap64 _ (by omega) (by omega)]; omega)
  have w3 : IntKind.i64.wrap ((b : Int) / 64) = (c : Int) := (by rw [wrap64 _ (by omega) (by omega)]; omega)
  have e1 := run111 (H := H ++ [HO.box 3 [.int .i64 n], HO.box 38 [.nils]]) (f := 112) (n := c) (cap := [.ref H.length 0]) (word := fun k => if k * 64 + 64 ≤ n then 18446744073709551615 else 2 ^ (n - k * 64) - 1) (by omega) (fun k hk l => run112 (by simp) hn (by rw [← hc]; exact hk))
  have hdef : uptoW n = (List.range c).map fun k => if k * 64 + 64 ≤ n then 18446744073709551615 else 2 ^ (n - k * 64) - 1 := by rw [uptoW, hc]
  rw [← hdef] at e1
  generalize uptoW n = us at e1 ⊢
  rw [Yc (X := X) _ b65 _ rfl rfl]; unfold b65
  (repeat (first | rw [Zj] | rw [Zc (by simp [Ya, ZT, ZV, ZW, ZO, ZF, ZM, ZI, ZK, ZB, ZC, ZJ, ZP, ZQ, ZX, ↓ZH, ZN, ZG, ZU, Zp, Zm, Yg, ZS, Yq, put, lk, Od.v, Za, ZE, ZA, YB, Ym, Yn, Yo, unx, YE, DV.isU, DV.cells, hget, Yb, Yj, Yd, ZL, splice, DV.one, Ye, mat, Yi, YD, m1, m2, w1, w2, w3, e1]; exact ⟨rfl, rfl⟩)] | rw [Zv (by simp [lk, Za, Od.v, m1, m2, w1, w2, w3, e1]; exact rfl)] | rw [Zp] | rw [Zm] | rw [Zl] | rw [Zy] | rw [Zq] | rw [Zt] | rw [Zo] | rw [Zn] | rw [Zk] | rw [Zg] | rw [Zh] | rw [Zd (by decide)] | rw [Zi] | rw [Ze] | rw [Zf] | rw [Zb (by decide)] | rw [Zz] | rw [Zu (by simp [Ya, ZT, ZV, ZW, ZO, ZF, ZM, ZI, ZK, ZB, ZC, ZJ, ZP, ZQ, ZX, ↓ZH, ZN, ZG, ZU, Zp, Zm, Yg, ZS, Yq, put, lk, Od.v, Za, ZE, ZA, YB, Ym, Yn, Yo, unx, YE, DV.isU, DV.cells, hget, Yb, Yj, Yd, ZL, splice, DV.one, Ye, mat, Yi, YD, m1, m2, w1, w2, w3, e1]; exact ⟨rfl, rfl⟩)] | rw [Zw (by simp [lk, Za, Od.v, m1, m2, w1, w2, w3, e1]; exact rfl)] | rw [Zx]))
  simp [Zs, Zr, ZY, Za, lk, ZA, hget, Yb, Yj, YB]
  exact fin_set
theorem uptoW_WB (n : Nat) : WB (uptoW n) := by
  intro x hx
  simp only [uptoW, List.mem_map, List.mem_range] at hx
  obtain ⟨k, hk, rfl⟩ := hx
  split
  · omega
  · rename_i h
    have : 2 ^ (n - k * 64) ≤ 2 ^ 63 := Nat.pow_le_pow_right (by omega) (by omega)
    omega
def nw (a b : Nat) : Nat := a &&& (18446744073709551615 - b)
theorem not_n {a b : Nat} (ha : a < 18446744073709551616) (hb : b < 18446744073709551616) : IntKind.u64.wrap ((a % 2 ^ IntKind.u64.bits &&& 2 ^ IntKind.u64.bits - 1 - b % 2 ^ IntKind.u64.bits : Nat) : Int) = ((nw a b : Nat) : Int) := by
  rw [bits_u, Nat.mod_eq_of_lt ha, Nat.mod_eq_of_lt hb, wrapu]
  rw [Nat.mod_eq_of_lt (Nat.lt_of_le_of_lt Nat.and_le_left ha)]
  rfl
theorem run113 {h : ZD} {p q : Nat} {W T : DV} {ws ts : List Nat} (hp : h[p]? = some (.box 38 [W])) (hq : h[q]? = some (.box 38 [T])) (hW : WL W ws) (hT : WL T ts) (bw : WB ws) (bt : WB ts) {k : Nat} (h1 : k < ws.length) :
    E X 113 [.int .i64 k, .ref p 0, .ref q 0] h = some (uD (nw (at_ ws k) (at_ ts k)), h) := by
  have v1 := hW.vw
  have e2 := run35 hT k
  have e1 : at_ ws k = ws[k] := by simp [at_, List.getD, List.getElem?_eq_getElem h1]
  have a1 := not_n (bw.at k) (bt.at k)
  rw [e1] at a1
  rw [e1]
  rw [Yc (X := X) _ b113 _ rfl rfl]; unfold b113; (repeat (first | rw [Zj] | rw [Zc (by simp [Ya, ZT, ZV, ZW, ZO, ZF, ZM, ZI, ZK, ZB, ZC, ZJ, ZP, ZQ, ZX, ↓ZH, ZN, ZG, ZU, Zp, Zm, Yg, ZS, Yq, put, lk, Od.v, Za, ZE, ZA, YB, Ym, Yn, Yo, unx, YE, DV.isU, DV.cells, hget, Yb, Yj, Yd, ZL, splice, DV.one, Ye, mat, Yi, YD, hp, hq, v1, e2, h1, ZR, a1]; exact ⟨rfl, rfl⟩)] | rw [Zv (by simp [lk, Za, Od.v, hp, hq, v1, e2, h1, ZR, a1]; exact rfl)] | rw [Zp] | rw [Zm] | rw [Zl] | rw [Zy] | rw [Zq] | rw [Zt] | rw [Zo] | rw [Zn] | rw [Zk] | rw [Zg] | rw [Zh] | rw [Zd (by decide)] | rw [Zi] | rw [Ze] | rw [Zf] | rw [Zb (by decide)] | rw [Zz] | rw [Zu (by simp [Ya, ZT, ZV, ZW, ZO, ZF, ZM, ZI, ZK, ZB, ZC, ZJ, ZP, ZQ, ZX, ↓ZH, ZN, ZG, ZU, Zp, Zm, Yg, ZS, Yq, put, lk, Od.v, Za, ZE, ZA, YB, Ym, Yn, Yo, unx, YE, DV.isU, DV.cells, hget, Yb, Yj, Yd, ZL, splice, DV.one, Ye, mat, Yi, YD, hp, hq, v1, e2, h1, ZR, a1]; exact ⟨rfl, rfl⟩)] | rw [Zw (by simp [lk, Za, Od.v, hp, hq, v1, e2, h1, ZR, a1]; exact rfl)] | rw [Zx])); simp [Zr, Zs, ZY, Ya, ZT, ZV, ZW, ZO, ZF, ZM, ZI, ZK, ZB, ZC, ZJ, ZP, ZQ, ZX, ↓ZH, ZN, ZG, ZU, Zp, Zm, Yg, ZS, Yq, put, lk, Od.v, Za, ZE, ZA, YB, Ym, Yn, Yo, unx, YE, DV.isU, DV.cells, hget, Yb, Yj, Yd, ZL, splice, DV.one, Ye, mat, Yi, YD, fin, Yu, Yt, YA, Yy, YC, hp, hq, v1, e2, h1, ZR, a1]
/-- The words of those below n that are not in a set. -/
def notW (ws : List Nat) (n : Nat) : List Nat := (List.range ((n + 63) / 64)).map fun k => nw (at_ (uptoW n) k) (at_ ws k)
theorem uptoW_len (n : Nat) : (uptoW n).length = (n + 63) / 64 := by simp [uptoW]
theorem run67 {W : DV} {ws : List Nat} (hW : WL W ws) (bw : WB ws) (n : Nat) (hn : n ≤ 65536) (H : ZD) : E X 67 [.agg [W], .int .i64 n] H = some (.agg [.list 1 ((notW ws n).map uD) false], H) := by
  have e0 := fun l => run65 n hn (H ++ l)
  have hlen := uptoW_len n
  have hu : WL (.list 1 ((uptoW n).map uD) false) (uptoW n) := .inl rfl
  have v1 := hu.vw
  have e1 := run111 (H := H ++ [HO.box 38 [W], HO.box 38 [.nils], HO.box 38 [.list 1 ((uptoW n).map uD) false]]) (f := 113) (n := (n + 63) / 64) (cap := [.ref (H.length + 2) 0, .ref H.length 0]) (word := fun k => nw (at_ (uptoW n) k) (at_ ws k)) (by omega) (fun k hk l => run113 (by simp [hget]) (by simp) hu hW (uptoW_WB n) bw (by rw [hlen]; exact hk))
  have hdef : notW ws n = (List.range ((n + 63) / 64)).map fun k => nw (at_ (uptoW n) k) (at_ ws k) := rfl
  rw [← hdef] at e1
  generalize notW ws n = us at e1 ⊢
  rw [← hlen] at e1
  generalize uptoW n = up at *
  rw [Yc (X := X) _ b67 _ rfl rfl]; unfold b67
  (repeat (first | rw [Zj] | rw [Zc (by simp [Ya, ZT, ZV, ZW, ZO, ZF, ZM, ZI, ZK, ZB, ZC, ZJ, ZP, ZQ, ZX, ↓ZH, ZN, ZG, ZU, Zp, Zm, Yg, ZS, Yq, put, lk, Od.v, Za, ZE, ZA, YB, Ym, Yn, Yo, unx, YE, DV.isU, DV.cells, hget, Yb, Yj, Yd, ZL, splice, DV.one, Ye, mat, Yi, YD, e0, v1, e1]; exact ⟨rfl, rfl⟩)] | rw [Zv (by simp [lk, Za, Od.v, e0, v1, e1]; exact rfl)] | rw [Zp] | rw [Zm] | rw [Zl] | rw [Zy] | rw [Zq] | rw [Zt] | rw [Zo] | rw [Zn] | rw [Zk] | rw [Zg] | rw [Zh] | rw [Zd (by decide)] | rw [Zi] | rw [Ze] | rw [Zf] | rw [Zb (by decide)] | rw [Zz] | rw [Zu (by simp [Ya, ZT, ZV, ZW, ZO, ZF, ZM, ZI, ZK, ZB, ZC, ZJ, ZP, ZQ, ZX, ↓ZH, ZN, ZG, ZU, Zp, Zm, Yg, ZS, Yq, put, lk, Od.v, Za, ZE, ZA, YB, Ym, Yn, Yo, unx, YE, DV.isU, DV.cells, hget, Yb, Yj, Yd, ZL, splice, DV.one, Ye, mat, Yi, YD, e0, v1, e1]; exact ⟨rfl, rfl⟩)] | rw [Zw (by simp [lk, Za, Od.v, e0, v1, e1]; exact rfl)] | rw [Zx]))
  simp [Zs, Zr, ZY, Za, lk, ZA, hget, Yb, Yj, YB]
  exact fin_set
/-- Is a number in a set? -/
def bit (ws : List Nat) (i : Nat) : Bool := (at_ ws (i / 64)).testBit (i % 64)
theorem run53 {W : DV} {ws : List Nat} (hW : WL W ws) (bw : WB ws) (i : Nat) (hi : i < 65536) (H : ZD) : E X 53 [.agg [W], .int .i64 i] H = some (.bool (bit ws i), H) := by
  obtain ⟨k, hk⟩ : ∃ k, k = i / 64 := ⟨_, rfl⟩
  obtain ⟨j, hj⟩ : ∃ j, j = i % 64 := ⟨_, rfl⟩
  have w1 : IntKind.i64.wrap ((i : Int) / 64) = (k : Int) := (by rw [wrap64 _ (by omega) (by omega)]; omega)
  have w2 : ((i : Int)).tmod 64 = (j : Int) := by rw [Int.tmod_eq_emod_of_nonneg (by omega)]; omega
  have e1 := fun l => run35 hW k (H ++ l)
  have hb : bit ws i = (at_ ws k).testBit j := by rw [bit, hk, hj]
  have hb' := bw.at k
  generalize at_ ws k = a at e1 hb hb'
  have hj' : j < 64 := by omega
  have w3 : (a : Int).fdiv (2 ^ min j IntKind.u64.bits) = ((a / 2 ^ j : Nat) : Int) := by
    rw [show min j IntKind.u64.bits = j from Nat.min_eq_left (by simp [IntKind.bits]; omega)]
    rw [show (2 : Int) ^ j = ((2 ^ j : Nat) : Int) by simp, Int.fdiv_eq_ediv_of_nonneg _ (Int.natCast_nonneg _)]
    rfl
  have w4 : IntKind.u64.wrap ((a / 2 ^ j % 2 ^ IntKind.u64.bits &&& 1 % 2 ^ IntKind.u64.bits : Nat) : Int) = if a.testBit j then 1 else 0 := by
    have hl : a / 2 ^ j < 18446744073709551616 := Nat.lt_of_le_of_lt (Nat.div_le_self _ _) hb'
    rw [bits_u, Nat.mod_eq_of_lt hl, wrapu, Nat.testBit_eq_decide_div_mod_eq]
    generalize a / 2 ^ j = q
    rw [show 1 % 18446744073709551616 = 1 from rfl, Nat.and_one_is_mod]
    by_cases c : q % 2 = 1
    · simp [c]
    · have : q % 2 = 0 := by omega
      simp [this]
  generalize a / 2 ^ j = q at w3 w4
  have e2 := run89 (i : Int)
  have c1 : decide ((0 : Int) ≤ i) = true := by simp
  have c2 : decide ((i : Int) < 65536) = true := by simp; omega
  have d0 : ¬ (j : Int) < 0 := by omega
  rw [c1, c2, Bool.and_self] at e2
  rw [hb]
  cases hc : a.testBit j
  all_goals rw [hc] at w4
  · rw [Yc (X := X) _ b53 _ rfl rfl]; unfold b53; (repeat (first | rw [Zj] | rw [Zc (by simp [Ya, ZT, ZV, ZW, ZO, ZF, ZM, ZI, ZK, ZB, ZC, ZJ, ZP, ZQ, ZX, ↓ZH, ZN, ZG, ZU, Zp, Zm, Yg, ZS, Yq, put, lk, Od.v, Za, ZE, ZA, YB, Ym, Yn, Yo, unx, YE, DV.isU, DV.cells, hget, Yb, Yj, Yd, ZL, splice, DV.one, Ye, mat, Yi, YD, e2, w1, w2, w3, w4, e1, d0]; exact ⟨rfl, rfl⟩)] | rw [Zv (by simp [lk, Za, Od.v, e2, w1, w2, w3, w4, e1, d0]; exact rfl)] | rw [Zp] | rw [Zm] | rw [Zl] | rw [Zy] | rw [Zq] | rw [Zt] | rw [Zo] | rw [Zn] | rw [Zk] | rw [Zg] | rw [Zh] | rw [Zd (by decide)] | rw [Zi] | rw [Ze] | rw [Zf] | rw [Zb (by decide)] | rw [Zz] | rw [Zu (by simp [Ya, ZT, ZV, ZW, ZO, ZF, ZM, ZI, ZK, ZB, ZC, ZJ, ZP, ZQ, ZX, ↓ZH, ZN, ZG, ZU, Zp, Zm, Yg, ZS, Yq, put, lk, Od.v, Za, ZE, ZA, YB, Ym, Yn, Yo, unx, YE, DV.isU, DV.cells, hget, Yb, Yj, Yd, ZL, splice, DV.one, Ye, mat, Yi, YD, e2, w1, w2, w3, w4, e1, d0]; exact ⟨rfl, rfl⟩)] | rw [Zw (by simp [lk, Za, Od.v, e2, w1, w2, w3, w4, e1, d0]; exact rfl)] | rw [Zx])); simp [Zr, Zs, ZY, Ya, ZT, ZV, ZW, ZO, ZF, ZM, ZI, ZK, ZB, ZC, ZJ, ZP, ZQ, ZX, ↓ZH, ZN, ZG, ZU, Zp, Zm, Yg, ZS, Yq, put, lk, Od.v, Za, ZE, ZA, YB, Ym, Yn, Yo, unx, YE, DV.isU, DV.cells, hget, Yb, Yj, Yd, ZL, splice, DV.one, Ye, mat, Yi, YD, fin, Yu, Yt, YA, Yy, YC, e2, w1, w2, w3, w4, e1, d0]
  · rw [Yc (X := X) _ b53 _ rfl rfl]; unfold b53; (repeat (first | rw [Zj] | rw [Zc (by simp [Ya, ZT, ZV, ZW, ZO, ZF, ZM, ZI, ZK, ZB, ZC, ZJ, ZP, ZQ, ZX, ↓ZH, ZN, ZG, ZU, Zp, Zm, Yg, ZS, Yq, put, lk, Od.v, Za, ZE, ZA, YB, Ym, Yn, Yo, unx, YE, DV.isU, DV.cells, hget, Yb, Yj, Yd, ZL, splice, DV.one, Ye, mat, Yi, YD, e2, w1, w2, w3, w4, e1, d0]; exact ⟨rfl, rfl⟩)] | rw [Zv (by simp [lk, Za, Od.v, e2, w1, w2, w3, w4, e1, d0]; exact rfl)] | rw [Zp] | rw [Zm] | rw [Zl] | rw [Zy] | rw [Zq] | rw [Zt] | rw [Zo] | rw [Zn] | rw [Zk] | rw [Zg] | rw [Zh] | rw [Zd (by decide)] | rw [Zi] | rw [Ze] | rw [Zf] | rw [Zb (by decide)] | rw [Zz] | rw [Zu (by simp [Ya, ZT, ZV, ZW, ZO, ZF, ZM, ZI, ZK, ZB, ZC, ZJ, ZP, ZQ, ZX, ↓ZH, ZN, ZG, ZU, Zp, Zm, Yg, ZS, Yq, put, lk, Od.v, Za, ZE, ZA, YB, Ym, Yn, Yo, unx, YE, DV.isU, DV.cells, hget, Yb, Yj, Yd, ZL, splice, DV.one, Ye, mat, Yi, YD, e2, w1, w2, w3, w4, e1, d0]; exact ⟨rfl, rfl⟩)] | rw [Zw (by simp [lk, Za, Od.v, e2, w1, w2, w3, w4, e1, d0]; exact rfl)] | rw [Zx])); simp [Zr, Zs, ZY, Ya, ZT, ZV, ZW, ZO, ZF, ZM, ZI, ZK, ZB, ZC, ZJ, ZP, ZQ, ZX, ↓ZH, ZN, ZG, ZU, Zp, Zm, Yg, ZS, Yq, put, lk, Od.v, Za, ZE, ZA, YB, Ym, Yn, Yo, unx, YE, DV.isU, DV.cells, hget, Yb, Yj, Yd, ZL, splice, DV.one, Ye, mat, Yi, YD, fin, Yu, Yt, YA, Yy, YC, e2, w1, w2, w3, w4, e1, d0]
/-- Words with a number put in. -/
def padW (ws : List Nat) (n : Nat) : List Nat := ws ++ List.replicate (n - ws.length) 0
def putW (ws : List Nat) (i : Nat) : List Nat := (padW ws (i / 64 + 1)).set (i / 64) (at_ (padW ws (i / 64 + 1)) (i / 64) ||| 2 ^ (i % 64))
theorem padW_len (ws : List Nat) (n : Nat) : (padW ws n).length = max ws.length n := by simp [padW]; omega
theorem putW_len (ws : List Nat) (i : Nat) : (putW ws i).length = max ws.length (i / 64 + 1) := by simp [putW, padW_len]
theorem padW_le {ws : List Nat} {n : Nat} (h : n ≤ ws.length) : padW ws n = ws := by simp [padW, show n - ws.length = 0 by omega]
theorem padW_step {ws : List Nat} {n : Nat} (h : ws.length < n) : padW (ws ++ [0]) n = padW ws n := by
  simp only [padW, List.length_append, List.length_cons, List.length_nil, List.append_assoc]
  rw [show n - ws.length = (n - (ws.length + (0 + 1))) + 1 by omega, List.replicate_succ]
  rfl
theorem or_p {a j : Nat} (ha : a < 18446744073709551616) (hj : j < 64) : IntKind.u64.wrap ((a % 2 ^ IntKind.u64.bits ||| 2 ^ j % 2 ^ IntKind.u64.bits : Nat) : Int) = ((a ||| 2 ^ j : Nat) : Int) :=
  or_n ha (Nat.pow_lt_pow_right (by omega : 1 < 2) hj)
/-- Where words lie that are made. -/
def MadeW (h : ZD) (H : ZD) (w : DV) (ws : List Nat) : Prop := (w = .nils ∧ ws = [] ∧ h = H) ∨ ∃ g, w = .row H.length g 0 ws.length false ∧ h = H ++ [.row 72 1 g (ws.map uD)]
theorem MadeW.vw {h H : ZD} {w : DV} {ws : List Nat} (hm : MadeW h H w ws) : vw h 1 w = some (ws.map uD) := by
  rcases hm with ⟨rfl, rfl, rfl⟩ | ⟨g, rfl, rfl⟩
  · rfl
  · simp [Go.Proofs.YtojhkbbnkhfnhaaGreatDoor.vw, Yb, List.take_of_length_le]
theorem MadeW.app {h H : ZD} {w : DV} {ws : List Nat} (hm : MadeW h H w ws) (hb : ws.length ≤ 1000000) (x : Nat) : ∃ w' h', appx h 72 1 8 w (ws.map uD) [uD x] = some (w', h') ∧ MadeW h' H w' (ws ++ [x]) := by
  have hle : ((ws.map uD).length + [uD x].length) * 8 ≤ 140737488355328 := by simp; omega
  rcases hm with ⟨rfl, rfl, rfl⟩ | ⟨g, rfl, rfl⟩
  · exact ⟨_, _, by simp [appx], .inr ⟨0, rfl, rfl⟩⟩
  · refine ⟨.row H.length (g + 1) 0 (ws.length + 1) false, H ++ [.row 72 1 (g + 1) ((ws ++ [x]).map uD)], ?_, .inr ⟨g + 1, by simp, rfl⟩⟩
    simp only [appx, if_pos hle, Yb]
    simp [Yd]
theorem loop119 {H : ZD} (i : Nat) (hi : i < 65536) : ∀ (m : Nat) (w : DV) (ws : List Nat) (h : ZD), i / 64 + 1 - ws.length ≤ m → ws.length ≤ 100000 → MadeW h H w ws →
      ∃ w' ex h', C X (.loop lp119_0) [(0, w), (1, .int .i64 i)] h = some (.exit 0, (0, w') :: (1, .int .i64 i) :: ex, h') ∧ MadeW h' H w' (padW ws (i / 64 + 1)) := by
  intro m
  obtain ⟨k, hk⟩ : ∃ k, k = i / 64 := ⟨_, rfl⟩
  have w1 : IntKind.i64.wrap ((i : Int) / 64) = (k : Int) := (by rw [wrap64 _ (by omega) (by omega)]; omega)
  induction m with
  | zero =>
    intro w ws h hm hb hM
    have hv := hM.vw
    have c1 : ¬ ws.length ≤ k := by omega
    refine ⟨w, [(9, .bool false)], h, ?_, by rw [padW_le (by omega)]; exact hM⟩
    rw [Yh]
    unfold lp119_0
    (repeat (first | rw [Zj] | rw [Zc (by simp [Ya, ZT, ZV, ZW, ZO, ZF, ZM, ZI, ZK, ZB, ZC, ZJ, ZP, ZQ, ZX, ↓ZH, ZN, ZG, ZU, Zp, Zm, Yg, ZS, Yq, put, lk, Od.v, Za, ZE, ZA, YB, Ym, Yn, Yo, unx, YE, DV.isU, DV.cells, hget, Yb, Yj, Yd, ZL, splice, DV.one, Ye, mat, Yi, YD, hv, w1, c1]; exact ⟨rfl, rfl⟩)] | rw [Zv (by simp [lk, Za, Od.v, hv, w1, c1]; exact rfl)] | rw [Zp] | rw [Zm] | rw [Zl] | rw [Zy] | rw [Zq] | rw [Zt] | rw [Zo] | rw [Zn] | rw [Zk] | rw [Zg] | rw [Zh] | rw [Zd (by decide)] | rw [Zi] | rw [Ze] | rw [Zf] | rw [Zb (by decide)] | rw [Zz] | rw [Zu (by simp [Ya, ZT, ZV, ZW, ZO, ZF, ZM, ZI, ZK, ZB, ZC, ZJ, ZP, ZQ, ZX, ↓ZH, ZN, ZG, ZU, Zp, Zm, Yg, ZS, Yq, put, lk, Od.v, Za, ZE, ZA, YB, Ym, Yn, Yo, unx, YE, DV.isU, DV.cells, hget, Yb, Yj, Yd, ZL, splice, DV.one, Ye, mat, Yi, YD, hv, w1, c1]; exact ⟨rfl, rfl⟩)] | rw [Zw (by simp [lk, Za, Od.v, hv, w1, c1]; exact rfl)] | rw [Zx]))
    rw [Yx]
    simp [Za, lk]
  | succ m ih =>
    intro w ws h hm hb hM
    by_cases c1 : ws.length ≤ k
    · obtain ⟨w', h', ha, hM'⟩ := hM.app (by omega) 0
      have hv := hM.vw
      have hs : C X lp119_0 [(0, w), (1, .int .i64 i)] h = some (.norm, [(0, w'), (1, .int .i64 i)], h') := by
        unfold lp119_0
        have z1 : vw h 1 (.list 1 [.int .u64 0] true) = some [.int .u64 0] := rfl
        have z2 : srcOf h 1 (.list 1 [.int .u64 0] true) = some [.int .u64 0] := rfl
        have z5 : ∀ h, eltL [.int .u64 0] h = some ([.int .u64 0], h) := fun _ => rfl
        rw [show uD 0 = .int .u64 0 from rfl] at ha
        have z3 : Wc 1 (.int .u64 0) := by simp [Wc, DV.cells, DV.one]
        have z4 : Nr (.int .u64 0) := .int _ _
        (repeat (first | rw [Zj] | rw [Zc (by simp [Ya, ZT, ZV, ZW, ZO, ZF, ZM, ZI, ZK, ZB, ZC, ZJ, ZP, ZQ, ZX, ↓ZH, ZN, ZG, ZU, Zp, Zm, Yg, ZS, Yq, put, lk, Od.v, Za, ZE, ZA, YB, Ym, Yn, Yo, unx, YE, DV.isU, DV.cells, hget, Yb, Yj, Yd, ZL, splice, DV.one, Ye, mat, Yi, YD, hv, w1, c1, ha, z1, z2, z3, z4, z5]; exact ⟨rfl, rfl⟩)] | rw [Zv (by simp [lk, Za, Od.v, hv, w1, c1, ha, z1, z2, z3, z4, z5]; exact rfl)] | rw [Zp] | rw [Zm] | rw [Zl] | rw [Zy] | rw [Zq] | rw [Zt] | rw [Zo] | rw [Zn] | rw [Zk] | rw [Zg] | rw [Zh] | rw [Zd (by decide)] | rw [Zi] | rw [Ze] | rw [Zf] | rw [Zb (by decide)] | rw [Zz] | rw [Zu (by simp [Ya, ZT, ZV, ZW, ZO, ZF, ZM, ZI, ZK, ZB, ZC, ZJ, ZP, ZQ, ZX, ↓ZH, ZN, ZG, ZU, Zp, Zm, Yg, ZS, Yq, put, lk, Od.v, Za, ZE, ZA, YB, Ym, Yn, Yo, unx, YE, DV.isU, DV.cells, hget, Yb, Yj, Yd, ZL, splice, DV.one, Ye, mat, Yi, YD, hv, w1, c1, ha, z1, z2, z3, z4, z5]; exact ⟨rfl, rfl⟩)] | rw [Zw (by simp [lk, Za, Od.v, hv, w1, c1, ha, z1, z2, z3, z4, z5]; exact rfl)] | rw [Zx]))
        simp [Za, lk]
      rw [Yh, hs, Yw]
      obtain ⟨w2, ex, h2, r1, r2⟩ := ih w' (ws ++ [0]) h' (by simp; omega) (by simp; omega) hM'
      exact ⟨w2, ex, h2, r1, by rw [← padW_step (by omega)]; exact r2⟩
    · exact ih w ws h (by omega) hb hM

theorem mw_wr {H : ZD} {g : Nat} {ws : List Nat} {n : Nat} (hn : ws.length = n) {i : Nat} (hi : i < n) (x : Nat) : stx (H ++ [.row 72 1 g (ws.map uD)]) 1 (.elem (.row H.length g 0 n false) 1 i 0) (.int .u64 x) = some (H ++ [.row 72 1 g ((ws.set i x).map uD)]) := by
  subst hn
  have h1 : (H ++ [HO.row 72 1 g (ws.map uD)])[H.length]? = some (.row 72 1 g (ws.map uD)) := by simp [Yb]
  have h2 : (ws.map uD)[i]? = some (uD ws[i]) := by simp [List.getElem?_eq_getElem hi]
  rw [stx, if_pos (by simp [DV.cells, DV.one])]
  simp only [h1]
  rw [if_pos (by simp [hi])]
  simp only [Nat.zero_add, h2]
  simp [eput, DV.one, Yd]
theorem body119 {H h : ZD} {w : DV} {ws : List Nat} (hM : MadeW h H w ws) (bw : WB ws) (i : Nat) (hi : i < 65536) (hb : ws.length ≤ 100000) :
    ∃ g, C X b119 [(0, w), (1, .int .i64 i)] h = some (.ret, [(4, .row H.length g 0 (putW ws i).length false)], H ++ [.row 72 1 g ((putW ws i).map uD)]) := by
  obtain ⟨w', ex, h', c1, hM'⟩ := loop119 (H := H) i hi (i / 64 + 1) w ws h (by omega) hb hM
  have bp : WB (padW ws (i / 64 + 1)) := by
    intro x hx
    rcases List.mem_append.1 hx with hx | hx
    · exact bw x hx
    · rw [List.mem_replicate] at hx; omega
  have hpl := padW_len ws (i / 64 + 1)
  have hpu : putW ws i = (padW ws (i / 64 + 1)).set (i / 64) (at_ (padW ws (i / 64 + 1)) (i / 64) ||| 2 ^ (i % 64)) := rfl
  rw [hpu]
  generalize padW ws (i / 64 + 1) = us at *
  rcases hM' with ⟨_, hn, _⟩ | ⟨g, rfl, rfl⟩
  · subst hn; simp at hpl; omega
  obtain ⟨k, hk⟩ : ∃ k, k = i / 64 := ⟨_, rfl⟩
  obtain ⟨j, hj⟩ : ∃ j, j = i % 64 := ⟨_, rfl⟩
  have hj' : j < 64 := by omega
  have hk' : k < us.length := by omega
  rw [← hk, ← hj]
  have w1 : IntKind.i64.wrap ((i : Int) / 64) = (k : Int) := (by rw [wrap64 _ (by omega) (by omega)]; omega)
  have w2 : ((i : Int)).tmod 64 = (j : Int) := by rw [Int.tmod_eq_emod_of_nonneg (by omega)]; omega
  have w3 : IntKind.u64.wrap (2 ^ min j IntKind.u64.bits) = ((2 ^ j : Nat) : Int) := by
    have hPl : 2 ^ j < 18446744073709551616 := Nat.pow_lt_pow_right (by omega : 1 < 2) hj'
    rw [show min j IntKind.u64.bits = j from Nat.min_eq_left (by simp [IntKind.bits]; omega), show (2 : Int) ^ j = ((2 ^ j : Nat) : Int) by simp, wrapu, Nat.mod_eq_of_lt hPl]
  have w4 := or_p (bp.at k) hj'
  have d0 : ¬ (j : Int) < 0 := by omega
  have e1 : at_ us k = us[k] := by simp [at_, List.getD, List.getElem?_eq_getElem hk']
  have a2 := mw_wr (H := H) (g := g) (ws := us) rfl hk' (at_ us k ||| 2 ^ j)
  obtain ⟨P, hP⟩ : ∃ P, P = 2 ^ j := ⟨_, rfl⟩
  rw [← hP] at w3 w4 a2 ⊢
  have a1 : vw (H ++ [HO.row 72 1 g (us.map uD)]) 1 (.row H.length g 0 us.length false) = some (us.map uD) := by
    simp [vw, Yb, List.take_of_length_le]
  refine ⟨g, ?_⟩
  unfold b119
  (repeat (first | rw [Zj] | rw [Zc (by simp [Ya, ZT, ZV, ZW, ZO, ZF, ZM, ZI, ZK, ZB, ZC, ZJ, ZP, ZQ, ZX, ↓ZH, ZN, ZG, ZU, Zp, Zm, Yg, ZS, Yq, put, lk, Od.v, Za, ZE, ZA, YB, Ym, Yn, Yo, unx, YE, DV.isU, DV.cells, hget, Yb, Yj, Yd, ZL, splice, DV.one, Ye, mat, Yi, YD, w1]; exact ⟨rfl, rfl⟩)] | rw [Zv (by simp [lk, Za, Od.v, w1]; exact rfl)] | rw [Zp] | rw [Zm] | rw [Zl] | rw [Zy] | rw [Zq] | rw [Zt] | rw [Zo] | rw [Zn] | rw [Zk] | rw [Zg] | rw [Zh] | rw [Zd (by decide)] | rw [Zi] | rw [Ze] | rw [Zf] | rw [Zb (by decide)] | rw [Zz] | rw [Zu (by simp [Ya, ZT, ZV, ZW, ZO, ZF, ZM, ZI, ZK, ZB, ZC, ZJ, ZP, ZQ, ZX, ↓ZH, ZN, ZG, ZU, Zp, Zm, Yg, ZS, Yq, put, lk, Od.v, Za, ZE, ZA, YB, Ym, Yn, Yo, unx, YE, DV.isU, DV.cells, hget, Yb, Yj, Yd, ZL, splice, DV.one, Ye, mat, Yi, YD, w1]; exact ⟨rfl, rfl⟩)] | rw [Zw (by simp [lk, Za, Od.v, w1]; exact rfl)] | rw [Zx]))
  (try simp only [Za, List.map_cons, List.map_nil, lk, reduceIte, Nat.reduceEqDiff, Nat.zero_ne_one, Nat.one_ne_zero])
  rw [c1]
  rw [e1] at w4 a2 ⊢
  (repeat (first | rw [Zj] | rw [Zc (by simp [Ya, ZT, ZV, ZW, ZO, ZF, ZM, ZI, ZK, ZB, ZC, ZJ, ZP, ZQ, ZX, ↓ZH, ZN, ZG, ZU, Zp, Zm, Yg, ZS, Yq, put, lk, Od.v, Za, ZE, ZA, YB, Ym, Yn, Yo, unx, YE, DV.isU, DV.cells, hget, Yb, Yj, Yd, ZL, splice, DV.one, Ye, mat, Yi, YD, w1, w2, w3, w4, d0, a1, a2, hk', ZR]; exact ⟨rfl, rfl⟩)] | rw [Zv (by simp [lk, Za, Od.v, w1, w2, w3, w4, d0, a1, a2, hk', ZR]; exact rfl)] | rw [Zp] | rw [Zm] | rw [Zl] | rw [Zy] | rw [Zq] | rw [Zt] | rw [Zo] | rw [Zn] | rw [Zk] | rw [Zg] | rw [Zh] | rw [Zd (by decide)] | rw [Zi] | rw [Ze] | rw [Zf] | rw [Zb (by decide)] | rw [Zz] | rw [Zu (by simp [Ya, ZT, ZV, ZW, ZO, ZF, ZM, ZI, ZK, ZB, ZC, ZJ, ZP, ZQ, ZX, ↓ZH, ZN, ZG, ZU, Zp, Zm, Yg, ZS, Yq, put, lk, Od.v, Za, ZE, ZA, YB, Ym, Yn, Yo, unx, YE, DV.isU, DV.cells, hget, Yb, Yj, Yd, ZL, splice, DV.one, Ye, mat, Yi, YD, w1, w2, w3, w4, d0, a1, a2, hk', ZR]; exact ⟨rfl, rfl⟩)] | rw [Zw (by simp [lk, Za, Od.v, w1, w2, w3, w4, d0, a1, a2, hk', ZR]; exact rfl)] | rw [Zx]))
  simp [Za, lk]
theorem run119a (i : Nat) (hi : i < 65536) (H : ZD) : E X 119 [.nils, .int .i64 i] H = some (.fresh 72 1 ((putW [] i).map uD), H) := by
  obtain ⟨g, c⟩ := body119 (H := H) (h := H) (w := .nils) (ws := []) (.inl ⟨rfl, rfl, rfl⟩) (by intro x hx; cases hx) i hi (by simp)
  rw [Yc (X := X) _ b119 _ rfl rfl]
  simp only [ZE]
  rw [c, Zr]
  simp only [ZY, lk, Option.map_some, reduceIte, Option.some.injEq]
  simp only [fin]
  rw [if_pos List.take_left]
  have q1 : ∀ y ∈ (putW [] i).map uD, Nr y := by intro y hy; obtain ⟨z, _, rfl⟩ := List.mem_map.1 hy; exact .int _ _
  simp only [Yt, Yu]
  rw [if_neg (by omega), Yb]
  simp only [List.getElem?_cons_zero]
  rw [if_pos ⟨rfl, by simp, q1⟩, if_pos (by simp)]
theorem run119b {ws : List Nat} {g : Nat} (bw : WB ws) (i : Nat) (hi : i < 65536) (hb : ws.length ≤ 100000) (H : ZD) : ∃ g', E X 119 [.row H.length g 0 ws.length false, .int .i64 i] (H ++ [.row 72 1 g (ws.map uD)]) =
    some (.row H.length g' 0 (putW ws i).length false, H ++ [.row 72 1 g' ((putW ws i).map uD)]) := by
  obtain ⟨g', c⟩ := body119 (H := H) (h := H ++ [.row 72 1 g (ws.map uD)]) (w := .row H.length g 0 ws.length false) (ws := ws) (.inr ⟨g, rfl, rfl⟩) bw i hi hb
  refine ⟨g', ?_⟩
  rw [Yc (X := X) _ b119 _ rfl rfl]
  simp only [ZE]
  rw [c, Zr]
  simp only [ZY, lk, Option.map_some, reduceIte, Option.some.injEq]
  simp only [fin]
  split
  · rename_i ht
    rw [List.take_of_length_le (by simp)] at ht
    simp only [Yt, Yu]
    rw [if_pos (by simp)]
    simp [ht]
  · rfl
abbrev iD (n : Nat) : DV := .int .i64 (n : Int)
theorem putW_WB {ws : List Nat} (bw : WB ws) (i : Nat) : WB (putW ws i) := by
  have bp : WB (padW ws (i / 64 + 1)) := by
    intro x hx
    rcases List.mem_append.1 hx with hx | hx
    · exact bw x hx
    · rw [List.mem_replicate] at hx; omega
  intro x hx
  unfold putW at hx
  rcases List.mem_or_eq_of_mem_set hx with hx | rfl
  · exact bp x hx
  · exact Nat.or_lt_two_pow (n := 64) (bp.at _) (Nat.pow_lt_pow_right (by omega : 1 < 2) (by omega : i % 64 < 64))
def ofW (l : List Nat) : List Nat := l.foldl putW []
theorem loop76 {H : ZD} {A : DV} {l : List Nat} (hA : ∀ L, vw (H ++ L) 1 A = some (l.map iD)) (hl : ∀ x ∈ l, x < 65536) (hll : l.length ≤ 1000000) :
    ∀ (m i : Nat) (w : DV) (ws : List Nat) (h : ZD), l.length - i ≤ m → i ≤ l.length → WB ws → ws.length ≤ 1024 → MadeW h (H ++ [.box 38 [.nils]]) w ws →
      ∃ x ex w' h', C X (.loop lp76_0) [(2, .ref H.length 0), (3, w), (6, A), (7, .int .i64 l.length), (8, .int .i64 i)] h = some (.exit 0, (2, .ref H.length 0) :: (3, w') :: (6, A) :: (7, .int .i64 l.length) :: (8, x) :: ex, h') ∧
        MadeW h' (H ++ [.box 38 [.nils]]) w' ((l.drop i).foldl putW ws) := by
  intro m
  induction m with
  | zero =>
    intro i w ws h hm hi bw hb hM
    obtain rfl : i = l.length := by omega
    refine ⟨.int .i64 l.length, [(9, .bool false)], w, h, ?_, by simpa using hM⟩
    rw [Yh]
    unfold lp76_0
    (repeat (first | rw [Zj] | rw [Zc (by simp [Ya, ZT, ZV, ZW, ZO, ZF, ZM, ZI, ZK, ZB, ZC, ZJ, ZP, ZQ, ZX, ↓ZH, ZN, ZG, ZU, Zp, Zm, Yg, ZS, Yq, put, lk, Od.v, Za, ZE, ZA, YB, Ym, Yn, Yo, unx, YE, DV.isU, DV.cells, hget, Yb, Yj, Yd, ZL, splice, DV.one, Ye, mat, Yi, YD]; exact ⟨rfl, rfl⟩)] | rw [Zv (by simp [lk, Za, Od.v]; exact rfl)] | rw [Zp] | rw [Zm] | rw [Zl] | rw [Zy] | rw [Zq] | rw [Zt] | rw [Zo] | rw [Zn] | rw [Zk] | rw [Zg] | rw [Zh] | rw [Zd (by decide)] | rw [Zi] | rw [Ze] | rw [Zf] | rw [Zb (by decide)] | rw [Zz] | rw [Zu (by simp [Ya, ZT, ZV, ZW, ZO, ZF, ZM, ZI, ZK, ZB, ZC, ZJ, ZP, ZQ, ZX, ↓ZH, ZN, ZG, ZU, Zp, Zm, Yg, ZS, Yq, put, lk, Od.v, Za, ZE, ZA, YB, Ym, Yn, Yo, unx, YE, DV.isU, DV.cells, hget, Yb, Yj, Yd, ZL, splice, DV.one, Ye, mat, Yi, YD]; exact ⟨rfl, rfl⟩)] | rw [Zw (by simp [lk, Za, Od.v]; exact rfl)] | rw [Zx]))
    rw [Yx]
    simp [Za, lk]
  | succ m ih =>
    intro i w ws h hm hi bw hb hM
    by_cases c1 : i < l.length
    · obtain ⟨I, hI⟩ : ∃ I, I = i + 1 := ⟨_, rfl⟩
      have w1 : IntKind.i64.wrap ((i : Int) + 1) = (I : Int) := (by rw [wrap64 _ (by omega) (by omega)]; omega)
      have hx : l[i] < 65536 := hl _ (List.getElem_mem _)
      have hd : l.drop i = l[i] :: l.drop I := by rw [hI]; exact List.drop_eq_getElem_cons c1
      obtain ⟨L, hL⟩ : ∃ L, h = H ++ L := by
        rcases hM with ⟨_, _, rfl⟩ | ⟨g, _, rfl⟩
        · exact ⟨_, rfl⟩
        · exact ⟨_, List.append_assoc _ _ _⟩
      have hv : vw h 1 A = some (l.map iD) := by rw [hL]; exact hA _
      have c2 := run89 (l[i] : Int)
      have d1 : decide ((0 : Int) ≤ l[i]) = true := by simp
      have d2 : decide ((l[i] : Int) < 65536) = true := by simp; omega
      rw [d1, d2, Bool.and_self] at c2
      have hg : (l.map iD)[i]? = some (iD l[i]) := by simp [List.getElem?_eq_getElem c1]
      obtain ⟨w', h', hc, hM'⟩ : ∃ w' h', C X lp76_0 [(2, .ref H.length 0), (3, w), (6, A), (7, .int .i64 l.length), (8, .int .i64 i)] h = some (.norm, [(2, .ref H.length 0), (3, w'), (6, A), (7, .int .i64 l.length), (8, .int .i64 I)], h') ∧ MadeW h' (H ++ [.box 38 [.nils]]) w' (putW ws l[i]) := by
        clear ih
        rcases hM with ⟨rfl, rfl, rfl⟩ | ⟨g, rfl, rfl⟩
        · have e1 := run119a l[i] hx (H ++ [.box 38 [.nils]])
          generalize hq : putW [] l[i] = q at *
          refine ⟨.row (H ++ [HO.box 38 [.nils]]).length 0 0 q.length false, H ++ [.box 38 [.nils]] ++ [.row 72 1 0 (q.map uD)], ?_, .inr ⟨0, rfl, rfl⟩⟩
          unfold lp76_0
          (repeat (first | rw [Zj] | rw [Zc (by simp [Ya, ZT, ZV, ZW, ZO, ZF, ZM, ZI, ZK, ZB, ZC, ZJ, ZP, ZQ, ZX, ↓ZH, ZN, ZG, ZU, Zp, Zm, Yg, ZS, Yq, put, lk, Od.v, Za, ZE, ZA, YB, Ym, Yn, Yo, unx, YE, DV.isU, DV.cells, hget, Yb, Yj, Yd, ZL, splice, DV.one, Ye, mat, Yi, YD, c1, w1, hv, hg, ZR, c2, e1]; exact ⟨rfl, rfl⟩)] | rw [Zv (by simp [lk, Za, Od.v, c1, w1, hv, hg, ZR, c2, e1]; exact rfl)] | rw [Zp] | rw [Zm] | rw [Zl] | rw [Zy] | rw [Zq] | rw [Zt] | rw [Zo] | rw [Zn] | rw [Zk] | rw [Zg] | rw [Zh] | rw [Zd (by decide)] | rw [Zi] | rw [Ze] | rw [Zf] | rw [Zb (by decide)] | rw [Zz] | rw [Zu (by simp [Ya, ZT, ZV, ZW, ZO, ZF, ZM, ZI, ZK, ZB, ZC, ZJ, ZP, ZQ, ZX, ↓ZH, ZN, ZG, ZU, Zp, Zm, Yg, ZS, Yq, put, lk, Od.v, Za, ZE, ZA, YB, Ym, Yn, Yo, unx, YE, DV.isU, DV.cells, hget, Yb, Yj, Yd, ZL, splice, DV.one, Ye, mat, Yi, YD, c1, w1, hv, hg, ZR, c2, e1]; exact ⟨rfl, rfl⟩)] | rw [Zw (by simp [lk, Za, Od.v, c1, w1, hv, hg, ZR, c2, e1]; exact rfl)] | rw [Zx]))
          simp [Za, lk]
        · obtain ⟨g', e1⟩ := run119b (g := g) bw l[i] hx (by omega) (H ++ [.box 38 [.nils]])
          generalize hq : putW ws l[i] = q at *
          refine ⟨.row (H ++ [HO.box 38 [.nils]]).length g' 0 q.length false, H ++ [.box 38 [.nils]] ++ [.row 72 1 g' (q.map uD)], ?_, .inr ⟨g', rfl, rfl⟩⟩
          generalize hh : H ++ [HO.box 38 [.nils]] ++ [.row 72 1 g (ws.map uD)] = h1 at *
          generalize hh2 : H ++ [HO.box 38 [.nils]] ++ [.row 72 1 g' (q.map uD)] = h2 at *
          generalize (H ++ [HO.box 38 [.nils]]).length = o at *
          unfold lp76_0
          (repeat (first | rw [Zj] | rw [Zc (by simp [Ya, ZT, ZV, ZW, ZO, ZF, ZM, ZI, ZK, ZB, ZC, ZJ, ZP, ZQ, ZX, ↓ZH, ZN, ZG, ZU, Zp, Zm, Yg, ZS, Yq, put, lk, Od.v, Za, ZE, ZA, YB, Ym, Yn, Yo, unx, YE, DV.isU, DV.cells, hget, Yb, Yj, Yd, ZL, splice, DV.one, Ye, mat, Yi, YD, c1, w1, hv, hg, ZR, c2, e1]; exact ⟨rfl, rfl⟩)] | rw [Zv (by simp [lk, Za, Od.v, c1, w1, hv, hg, ZR, c2, e1]; exact rfl)] | rw [Zp] | rw [Zm] | rw [Zl] | rw [Zy] | rw [Zq] | rw [Zt] | rw [Zo] | rw [Zn] | rw [Zk] | rw [Zg] | rw [Zh] | rw [Zd (by decide)] | rw [Zi] | rw [Ze] | rw [Zf] | rw [Zb (by decide)] | rw [Zz] | rw [Zu (by simp [Ya, ZT, ZV, ZW, ZO, ZF, ZM, ZI, ZK, ZB, ZC, ZJ, ZP, ZQ, ZX, ↓ZH, ZN, ZG, ZU, Zp, Zm, Yg, ZS, Yq, put, lk, Od.v, Za, ZE, ZA, YB, Ym, Yn, Yo, unx, YE, DV.isU, DV.cells, hget, Yb, Yj, Yd, ZL, splice, DV.one, Ye, mat, Yi, YD, c1, w1, hv, hg, ZR, c2, e1]; exact ⟨rfl, rfl⟩)] | rw [Zw (by simp [lk, Za, Od.v, c1, w1, hv, hg, ZR, c2, e1]; exact rfl)] | rw [Zx]))
          simp [Za, lk]
      rw [Yh, hc, Yw, hd, List.foldl_cons]
      exact ih I w' _ h' (by omega) (by omega) (putW_WB bw _) (by rw [putW_len]; omega) hM'
    · exact ih i w ws h (by omega) hi bw hb hM

theorem fin_made {H h : ZD} {w : DV} {ws : List Nat} (hm : MadeW h (H ++ [.box 38 [w]]) w ws) : ∃ W, fin H h [.agg [w]] = (.agg [W], H) ∧ WL W ws := by
  rcases hm with ⟨rfl, rfl, rfl⟩ | ⟨g, hw, rfl⟩
  · refine ⟨.nils, ?_, .inr ⟨rfl, rfl⟩⟩
    simp only [fin]
    rw [if_pos List.take_left]
    simp [Yt, Yy, Yu]
  · have hw' : w = .row (H.length + 1) g 0 ws.length false := by simpa using hw
    clear hw
    subst hw'
    refine ⟨_, ?_, .inl rfl⟩
    have q1 : ∀ y ∈ ws.map uD, Nr y := by intro y hy; obtain ⟨z, _, rfl⟩ := List.mem_map.1 hy; exact .int _ _
    simp only [fin]
    rw [if_pos (by rw [List.append_assoc, List.take_left])]
    simp only [Yt, Yy]
    rw [Yu, if_neg (by simp), List.append_assoc, hget]
    simp only [List.cons_append, List.nil_append, List.getElem?_cons_succ, List.getElem?_cons_zero]
    rw [if_pos ⟨rfl, by simp, q1⟩, if_neg (by simp)]
    simp [List.take_of_length_le]
theorem foldl_WB : ∀ (l ws : List Nat), WB ws → WB (l.foldl putW ws)
  | [], ws, h => h
  | x :: l, ws, h => foldl_WB l _ (putW_WB h x)
theorem ofW_WB (l : List Nat) : WB (ofW l) := foldl_WB l [] (by intro x hx; cases hx)
theorem run76 {A : DV} {l : List Nat} {H : ZD} (hA : ∀ L, vw (H ++ L) 1 A = some (l.map iD)) (hl : ∀ x ∈ l, x < 65536) (hll : l.length ≤ 1000000) : ∃ W, E X 76 [A] H = some (.agg [W], H) ∧ WL W (ofW l) := by
  obtain ⟨x, ex, w', h', c1, hM⟩ := loop76 hA hl hll l.length 0 .nils [] (H ++ [.box 38 [.nils]]) (by omega) (by omega) (by intro x hx; cases hx) (by simp) (.inl ⟨rfl, rfl, rfl⟩)
  rw [List.drop_zero] at hM
  have hM' : MadeW (h'.set H.length (.box 38 [w'])) (H ++ [.box 38 [w']]) w' (ofW l) := by
    rcases hM with ⟨a1, a2, rfl⟩ | ⟨g, a1, rfl⟩
    · exact .inl ⟨a1, a2, by simp [Yd]⟩
    · exact .inr ⟨g, by rw [a1]; simp [ofW], by rw [List.append_assoc, Yd]; simp [ofW]⟩
  have g1 : h'[H.length]? = some (.box 38 [.nils]) := by
    rcases hM with ⟨a1, a2, rfl⟩ | ⟨g, a1, rfl⟩
    · simp [Yb]
    · rw [List.append_assoc, Yb]; rfl
  have g2 : w' = .nils ∨ ∃ o g n, w' = .row o g 0 n false := by
    rcases hM with ⟨rfl, a2, rfl⟩ | ⟨g, rfl, rfl⟩
    · exact .inl rfl
    · exact .inr ⟨_, _, _, rfl⟩
  obtain ⟨W, hf, hW⟩ := fin_made hM'
  have hv := hA [.box 38 [.nils]]
  refine ⟨W, ?_, hW⟩
  rw [show ((0 : Nat) : Int) = 0 from rfl] at c1
  rw [Yc (X := X) _ b76 _ rfl rfl]; unfold b76
  (repeat (first | rw [Zj] | rw [Zc (by simp [Ya, ZT, ZV, ZW, ZO, ZF, ZM, ZI, ZK, ZB, ZC, ZJ, ZP, ZQ, ZX, ↓ZH, ZN, ZG, ZU, Zp, Zm, Yg, ZS, Yq, put, lk, Od.v, Za, ZE, ZA, YB, Ym, Yn, Yo, unx, YE, DV.isU, DV.cells, hget, Yb, Yj, Yd, ZL, splice, DV.one, Ye, mat, Yi, YD, hv]; exact ⟨rfl, rfl⟩)] | rw [Zv (by simp [lk, Za, Od.v, hv]; exact rfl)] | rw [Zp] | rw [Zm] | rw [Zl] | rw [Zy] | rw [Zq] | rw [Zt] | rw [Zo] | rw [Zn] | rw [Zk] | rw [Zg] | rw [Zh] | rw [Zd (by decide)] | rw [Zi] | rw [Ze] | rw [Zf] | rw [Zb (by decide)] | rw [Zz] | rw [Zu (by simp [Ya, ZT, ZV, ZW, ZO, ZF, ZM, ZI, ZK, ZB, ZC, ZJ, ZP, ZQ, ZX, ↓ZH, ZN, ZG, ZU, Zp, Zm, Yg, ZS, Yq, put, lk, Od.v, Za, ZE, ZA, YB, Ym, Yn, Yo, unx, YE, DV.isU, DV.cells, hget, Yb, Yj, Yd, ZL, splice, DV.one, Ye, mat, Yi, YD, hv]; exact ⟨rfl, rfl⟩)] | rw [Zw (by simp [lk, Za, Od.v, hv]; exact rfl)] | rw [Zx]))
  (try simp only [Za, List.map_cons, List.map_nil, lk, reduceIte, Nat.reduceEqDiff, Nat.zero_ne_one, Nat.one_ne_zero])
  rw [c1]
  have g3 : (h'.set H.length (.box 38 [w']))[H.length]? = some (.box 38 [w']) := List.getElem?_set_self (List.getElem?_eq_some_iff.1 g1).1
  clear hM hM'
  rcases g2 with rfl | ⟨o, g, n, rfl⟩
  · (repeat (first | rw [Zj] | rw [Zc (by simp [Ya, ZT, ZV, ZW, ZO, ZF, ZM, ZI, ZK, ZB, ZC, ZJ, ZP, ZQ, ZX, ↓ZH, ZN, ZG, ZU, Zp, Zm, Yg, ZS, Yq, put, lk, Od.v, Za, ZE, ZA, YB, Ym, Yn, Yo, unx, YE, DV.isU, DV.cells, hget, Yb, Yj, Yd, ZL, splice, DV.one, Ye, mat, Yi, YD, g1]; exact ⟨rfl, rfl⟩)] | rw [Zv (by simp [lk, Za, Od.v, g1]; exact rfl)] | rw [Zp] | rw [Zm] | rw [Zl] | rw [Zy] | rw [Zq] | rw [Zt] | rw [Zo] | rw [Zn] | rw [Zk] | rw [Zg] | rw [Zh] | rw [Zd (by decide)] | rw [Zi] | rw [Ze] | rw [Zf] | rw [Zb (by decide)] | rw [Zz] | rw [Zu (by simp [Ya, ZT, ZV, ZW, ZO, ZF, ZM, ZI, ZK, ZB, ZC, ZJ, ZP, ZQ, ZX, ↓ZH, ZN, ZG, ZU, Zp, Zm, Yg, ZS, Yq, put, lk, Od.v, Za, ZE, ZA, YB, Ym, Yn, Yo, unx, YE, DV.isU, DV.cells, hget, Yb, Yj, Yd, ZL, splice, DV.one, Ye, mat, Yi, YD, g1]; exact ⟨rfl, rfl⟩)] | rw [Zw (by simp [lk, Za, Od.v, g1]; exact rfl)] | rw [Zx]))
    simp [Zs, Zr, ZY, Za, lk, ZA, g3, YB]
    exact hf
  · (repeat (first | rw [Zj] | rw [Zc (by simp [Ya, ZT, ZV, ZW, ZO, ZF, ZM, ZI, ZK, ZB, ZC, ZJ, ZP, ZQ, ZX, ↓ZH, ZN, ZG, ZU, Zp, Zm, Yg, ZS, Yq, put, lk, Od.v, Za, ZE, ZA, YB, Ym, Yn, Yo, unx, YE, DV.isU, DV.cells, hget, Yb, Yj, Yd, ZL, splice, DV.one, Ye, mat, Yi, YD, g1]; exact ⟨rfl, rfl⟩)] | rw [Zv (by simp [lk, Za, Od.v, g1]; exact rfl)] | rw [Zp] | rw [Zm] | rw [Zl] | rw [Zy] | rw [Zq] | rw [Zt] | rw [Zo] | rw [Zn] | rw [Zk] | rw [Zg] | rw [Zh] | rw [Zd (by decide)] | rw [Zi] | rw [Ze] | rw [Zf] | rw [Zb (by decide)] | rw [Zz] | rw [Zu (by simp [Ya, ZT, ZV, ZW, ZO, ZF, ZM, ZI, ZK, ZB, ZC, ZJ, ZP, ZQ, ZX, ↓ZH, ZN, ZG, ZU, Zp, Zm, Yg, ZS, Yq, put, lk, Od.v, Za, ZE, ZA, YB, Ym, Yn, Yo, unx, YE, DV.isU, DV.cells, hget, Yb, Yj, Yd, ZL, splice, DV.one, Ye, mat, Yi, YD, g1]; exact ⟨rfl, rfl⟩)] | rw [Zw (by simp [lk, Za, Od.v, g1]; exact rfl)] | rw [Zx]))
    simp [Zs, Zr, ZY, Za, lk, ZA, g3, YB]
    exact hf
theorem loop11 {H : ZD} {p q n : Nat} {W T : DV} {ws ts : List Nat} (hp : H[p]? = some (.box 38 [W])) (hq : H[q]? = some (.box 38 [T])) (hW : WL W ws) (hT : WL T ts) (hn : n ≤ 1000000) (hs : ∀ k, k < n → at_ ws k = at_ ts k) :
    ∀ (m i : Nat), n - i ≤ m → i ≤ n → ∃ x ex, C X (.loop lp11_0) [(2, .ref p 0), (3, .ref q 0), (12, .int .i64 n), (13, .int .i64 i)] H = some (.exit 0, (2, .ref p 0) :: (3, .ref q 0) :: (12, .int .i64 n) :: (13, x) :: ex, H) := by
  intro m
  induction m with
  | zero =>
    intro i hm hi
    obtain rfl : i = n := by omega
    refine ⟨.int .i64 i, [(14, .bool false)], ?_⟩
    rw [Yh]
    unfold lp11_0
    (repeat (first | rw [Zj] | rw [Zc (by simp [Ya, ZT, ZV, ZW, ZO, ZF, ZM, ZI, ZK, ZB, ZC, ZJ, ZP, ZQ, ZX, ↓ZH, ZN, ZG, ZU, Zp, Zm, Yg, ZS, Yq, put, lk, Od.v, Za, ZE, ZA, YB, Ym, Yn, Yo, unx, YE, DV.isU, DV.cells, hget, Yb, Yj, Yd, ZL, splice, DV.one, Ye, mat, Yi, YD]; exact ⟨rfl, rfl⟩)] | rw [Zv (by simp [lk, Za, Od.v]; exact rfl)] | rw [Zp] | rw [Zm] | rw [Zl] | rw [Zy] | rw [Zq] | rw [Zt] | rw [Zo] | rw [Zn] | rw [Zk] | rw [Zg] | rw [Zh] | rw [Zd (by decide)] | rw [Zi] | rw [Ze] | rw [Zf] | rw [Zb (by decide)] | rw [Zz] | rw [Zu (by simp [Ya, ZT, ZV, ZW, ZO, ZF, ZM, ZI, ZK, ZB, ZC, ZJ, ZP, ZQ, ZX, ↓ZH, ZN, ZG, ZU, Zp, Zm, Yg, ZS, Yq, put, lk, Od.v, Za, ZE, ZA, YB, Ym, Yn, Yo, unx, YE, DV.isU, DV.cells, hget, Yb, Yj, Yd, ZL, splice, DV.one, Ye, mat, Yi, YD]; exact ⟨rfl, rfl⟩)] | rw [Zw (by simp [lk, Za, Od.v]; exact rfl)] | rw [Zx]))
    rw [Yx]
    simp [Za, lk]
  | succ m ih =>
    intro i hm hi
    by_cases c1 : i < n
    · obtain ⟨I, hI⟩ : ∃ I, I = i + 1 := ⟨_, rfl⟩
      have w1 : IntKind.i64.wrap ((i : Int) + 1) = (I : Int) := (by rw [wrap64 _ (by omega) (by omega)]; omega)
      have e1 := run35 hW i
      have e2 := run35 hT i
      rw [hs i c1] at e1
      have hc : C X lp11_0 [(2, .ref p 0), (3, .ref q 0), (12, .int .i64 n), (13, .int .i64 i)] H = some (.norm, [(2, .ref p 0), (3, .ref q 0), (12, .int .i64 n), (13, .int .i64 I)], H) := by
        clear ih
        unfold lp11_0
        (repeat (first | rw [Zj] | rw [Zc (by simp [Ya, ZT, ZV, ZW, ZO, ZF, ZM, ZI, ZK, ZB, ZC, ZJ, ZP, ZQ, ZX, ↓ZH, ZN, ZG, ZU, Zp, Zm, Yg, ZS, Yq, put, lk, Od.v, Za, ZE, ZA, YB, Ym, Yn, Yo, unx, YE, DV.isU, DV.cells, hget, Yb, Yj, Yd, ZL, splice, DV.one, Ye, mat, Yi, YD, c1, w1, hp, hq, e1, e2]; exact ⟨rfl, rfl⟩)] | rw [Zv (by simp [lk, Za, Od.v, c1, w1, hp, hq, e1, e2]; exact rfl)] | rw [Zp] | rw [Zm] | rw [Zl] | rw [Zy] | rw [Zq] | rw [Zt] | rw [Zo] | rw [Zn] | rw [Zk] | rw [Zg] | rw [Zh] | rw [Zd (by decide)] | rw [Zi] | rw [Ze] | rw [Zf] | rw [Zb (by decide)] | rw [Zz] | rw [Zu (by simp [Ya, ZT, ZV, ZW, ZO, ZF, ZM, ZI, ZK, ZB, ZC, ZJ, ZP, ZQ, ZX, ↓ZH, ZN, ZG, ZU, Zp, Zm, Yg, ZS, Yq, put, lk, Od.v, Za, ZE, ZA, YB, Ym, Yn, Yo, unx, YE, DV.isU, DV.cells, hget, Yb, Yj, Yd, ZL, splice, DV.one, Ye, mat, Yi, YD, c1, w1, hp, hq, e1, e2]; exact ⟨rfl, rfl⟩)] | rw [Zw (by simp [lk, Za, Od.v, c1, w1, hp, hq, e1, e2]; exact rfl)] | rw [Zx]))
        simp [Za, lk]
      rw [Yh, hc, Yw]
      exact ih I (by omega) (by omega)
    · exact ih i (by omega) hi
theorem run11 {W T : DV} {ws ts : List Nat} (hW : WL W ws) (hT : WL T ts) (hb : ws.length ≤ 1000000) (hb' : ts.length ≤ 1000000) (hs : ∀ k, at_ ws k = at_ ts k) (H : ZD) : E X 11 [.agg [W], .agg [T]] H = some (.bool true, H) := by
  have v1 := hW.vw
  have v2 := hT.vw
  obtain ⟨x, ex, c1⟩ := loop11 (H := H ++ [.box 38 [W], .box 38 [T]]) (p := H.length) (q := H.length + 1) (n := max ws.length ts.length) (by simp) (by simp [hget]) hW hT (by omega) (fun k _ => hs k) (max ws.length ts.length) 0 (by omega) (by omega)
  have e2 := mm_max ws.length ts.length
  generalize max ws.length ts.length = M at *
  rw [show ((0 : Nat) : Int) = 0 from rfl] at c1
  rw [Yc (X := X) _ b11 _ rfl rfl]; unfold b11
  (repeat (first | rw [Zj] | rw [Zc (by simp [Ya, ZT, ZV, ZW, ZO, ZF, ZM, ZI, ZK, ZB, ZC, ZJ, ZP, ZQ, ZX, ↓ZH, ZN, ZG, ZU, Zp, Zm, Yg, ZS, Yq, put, lk, Od.v, Za, ZE, ZA, YB, Ym, Yn, Yo, unx, YE, DV.isU, DV.cells, hget, Yb, Yj, Yd, ZL, splice, DV.one, Ye, mat, Yi, YD, v1, v2, e2]; exact ⟨rfl, rfl⟩)] | rw [Zv (by simp [lk, Za, Od.v, v1, v2, e2]; exact rfl)] | rw [Zp] | rw [Zm] | rw [Zl] | rw [Zy] | rw [Zq] | rw [Zt] | rw [Zo] | rw [Zn] | rw [Zk] | rw [Zg] | rw [Zh] | rw [Zd (by decide)] | rw [Zi] | rw [Ze] | rw [Zf] | rw [Zb (by decide)] | rw [Zz] | rw [Zu (by simp [Ya, ZT, ZV, ZW, ZO, ZF, ZM, ZI, ZK, ZB, ZC, ZJ, ZP, ZQ, ZX, ↓ZH, ZN, ZG, ZU, Zp, Zm, Yg, ZS, Yq, put, lk, Od.v, Za, ZE, ZA, YB, Ym, Yn, Yo, unx, YE, DV.isU, DV.cells, hget, Yb, Yj, Yd, ZL, splice, DV.one, Ye, mat, Yi, YD, v1, v2, e2]; exact ⟨rfl, rfl⟩)] | rw [Zw (by simp [lk, Za, Od.v, v1, v2, e2]; exact rfl)] | rw [Zx]))
  (try simp only [Za, List.map_cons, List.map_nil, lk, reduceIte, Nat.reduceEqDiff, Nat.zero_ne_one, Nat.one_ne_zero])
  rw [c1]
  (repeat (first | rw [Zj] | rw [Zc (by simp [Ya, ZT, ZV, ZW, ZO, ZF, ZM, ZI, ZK, ZB, ZC, ZJ, ZP, ZQ, ZX, ↓ZH, ZN, ZG, ZU, Zp, Zm, Yg, ZS, Yq, put, lk, Od.v, Za, ZE, ZA, YB, Ym, Yn, Yo, unx, YE, DV.isU, DV.cells, hget, Yb, Yj, Yd, ZL, splice, DV.one, Ye, mat, Yi, YD]; exact ⟨rfl, rfl⟩)] | rw [Zv (by simp [lk, Za, Od.v]; exact rfl)] | rw [Zp] | rw [Zm] | rw [Zl] | rw [Zy] | rw [Zq] | rw [Zt] | rw [Zo] | rw [Zn] | rw [Zk] | rw [Zg] | rw [Zh] | rw [Zd (by decide)] | rw [Zi] | rw [Ze] | rw [Zf] | rw [Zb (by decide)] | rw [Zz] | rw [Zu (by simp [Ya, ZT, ZV, ZW, ZO, ZF, ZM, ZI, ZK, ZB, ZC, ZJ, ZP, ZQ, ZX, ↓ZH, ZN, ZG, ZU, Zp, Zm, Yg, ZS, Yq, put, lk, Od.v, Za, ZE, ZA, YB, Ym, Yn, Yo, unx, YE, DV.isU, DV.cells, hget, Yb, Yj, Yd, ZL, splice, DV.one, Ye, mat, Yi, YD]; exact ⟨rfl, rfl⟩)] | rw [Zw (by simp [lk, Za, Od.v]; exact rfl)] | rw [Zx]))
  simp [Zr, Zs, ZY, Ya, ZT, ZV, ZW, ZO, ZF, ZM, ZI, ZK, ZB, ZC, ZJ, ZP, ZQ, ZX, ↓ZH, ZN, ZG, ZU, Zp, Zm, Yg, ZS, Yq, put, lk, Od.v, Za, ZE, ZA, YB, Ym, Yn, Yo, unx, YE, DV.isU, DV.cells, hget, Yb, Yj, Yd, ZL, splice, DV.one, Ye, mat, Yi, YD, fin, Yu, Yt, YA, Yy, YC]
end Go.Proofs.YtojhkbbnkhfnhaaGreatDoor
namespace Go.Proofs.YtojhkbbnkhfnhaaGreatDoor
attribute [local go_sem] Ya ZT ZV ZW ZO ZF ZM ZI ZK ZB ZC ZJ ZP ZQ ZX ZN ZG ZU Zp Zm Yg ZS Yq put lk Od.v Za ZE ZA YB Ym Yn Yo unx YE DV.isU DV.cells hget Yb Yj Yd ZL splice Ye mat Yi YD one_bool one_int one_str one_nilp one_ref one_elem one_nils one_list one_row one_nilm one_map one_nilf one_func one_nili one_ifc one_agg one_tup one_undef one_fresh
attribute [local go_sem ↓] ZH
set_option linter.unusedVariables false
set_option linter.unusedSimpArgs false
set_option maxRecDepth 10000
/-- Does a comparison of a kind hold, by how two values compare? -/
def cmpP (ask n : Int) : Bool :=
  if ask = 1 then decide (n = 0) else if ask = 2 then decide (¬ n = 0) else if ask = 3 then decide (n < 0) else if ask = 4 then decide (n ≤ 0) else if ask = 5 then decide (0 < n) else if ask = 6 then decide (0 ≤ n) else false
def oneP (x : N) (v : V) : Bool := if x.ask = 7 ∨ v.k = 0 then decide (x.ask = 7 ∧ v.k = 0) else cmpP x.ask (ord v x.val)
theorem run75 (x : N) (v : V) (h : ZD) : E X 75 [x.d, v.d] h = some (.bool (oneP x v), h) := by
  have e1 := fun h => run62 v x.val h
  generalize hO : ord v x.val = n at e1
  have hP : oneP x v = if x.ask = 7 ∨ v.k = 0 then decide (x.ask = 7 ∧ v.k = 0) else cmpP x.ask n := by rw [oneP, hO]
  rw [hP]
  clear hP hO
  obtain ⟨ask, col, ⟨k, m, s, t⟩, a, b⟩ := x
  obtain ⟨k', m', s', t'⟩ := v
  simp only [V.d, N.d] at *
  by_cases h1 : ask = 7
  · subst h1
    by_cases h2 : k' = 0
    · subst h2
      rw [Yc (X := X) _ b75 _ rfl rfl]; unfold b75; (repeat (first | rw [Zj] | rw [Zc (by simp [go_sem, e1, cmpP]; exact ⟨rfl, rfl⟩)] | rw [Zv (by simp [lk, Za, Od.v, e1, cmpP]; exact rfl)] | rw [Zp] | rw [Zm] | rw [Zl] | rw [Zy] | rw [Zq] | rw [Zt] | rw [Zo] | rw [Zn] | rw [Zk] | rw [Zg] | rw [Zh] | rw [Zd (by decide)] | rw [Zi] | rw [Ze] | rw [Zf] | rw [Zb (by decide)] | rw [Zz] | rw [Zu (by simp [go_sem, e1, cmpP]; exact ⟨rfl, rfl⟩)] | rw [Zw (by simp [lk, Za, Od.v, e1, cmpP]; exact rfl)] | rw [Zx])); simp [Zr, Zs, ZY, go_sem, fin, Yu, Yt, YA, Yy, YC, e1, cmpP]
    · have h3 : (k' == 0) = false := by simpa using h2
      rw [Yc (X := X) _ b75 _ rfl rfl]; unfold b75; (repeat (first | rw [Zj] | rw [Zc (by simp [go_sem, e1, h2, h3, cmpP]; exact ⟨rfl, rfl⟩)] | rw [Zv (by simp [lk, Za, Od.v, e1, h2, h3, cmpP]; exact rfl)] | rw [Zp] | rw [Zm] | rw [Zl] | rw [Zy] | rw [Zq] | rw [Zt] | rw [Zo] | rw [Zn] | rw [Zk] | rw [Zg] | rw [Zh] | rw [Zd (by decide)] | rw [Zi] | rw [Ze] | rw [Zf] | rw [Zb (by decide)] | rw [Zz] | rw [Zu (by simp [go_sem, e1, h2, h3, cmpP]; exact ⟨rfl, rfl⟩)] | rw [Zw (by simp [lk, Za, Od.v, e1, h2, h3, cmpP]; exact rfl)] | rw [Zx])); simp [Zr, Zs, ZY, go_sem, fin, Yu, Yt, YA, Yy, YC, e1, h2, h3, cmpP]
  have h1' : (ask == 7) = false := by simpa using h1
  by_cases h2 : k' = 0
  · subst h2
    rw [Yc (X := X) _ b75 _ rfl rfl]; unfold b75; (repeat (first | rw [Zj] | rw [Zc (by simp [go_sem, e1, h1, h1', cmpP]; exact ⟨rfl, rfl⟩)] | rw [Zv (by simp [lk, Za, Od.v, e1, h1, h1', cmpP]; exact rfl)] | rw [Zp] | rw [Zm] | rw [Zl] | rw [Zy] | rw [Zq] | rw [Zt] | rw [Zo] | rw [Zn] | rw [Zk] | rw [Zg] | rw [Zh] | rw [Zd (by decide)] | rw [Zi] | rw [Ze] | rw [Zf] | rw [Zb (by decide)] | rw [Zz] | rw [Zu (by simp [go_sem, e1, h1, h1', cmpP]; exact ⟨rfl, rfl⟩)] | rw [Zw (by simp [lk, Za, Od.v, e1, h1, h1', cmpP]; exact rfl)] | rw [Zx])); simp [Zr, Zs, ZY, go_sem, fin, Yu, Yt, YA, Yy, YC, e1, h1, h1', cmpP]
  have h2' : (k' == 0) = false := by simpa using h2
  by_cases h3 : ask = 1
  · subst h3
    by_cases c : n = 0
    · subst c
      rw [Yc (X := X) _ b75 _ rfl rfl]; unfold b75; (repeat (first | rw [Zj] | rw [Zc (by simp [go_sem, e1, h2, h2', cmpP]; exact ⟨rfl, rfl⟩)] | rw [Zv (by simp [lk, Za, Od.v, e1, h2, h2', cmpP]; exact rfl)] | rw [Zp] | rw [Zm] | rw [Zl] | rw [Zy] | rw [Zq] | rw [Zt] | rw [Zo] | rw [Zn] | rw [Zk] | rw [Zg] | rw [Zh] | rw [Zd (by decide)] | rw [Zi] | rw [Ze] | rw [Zf] | rw [Zb (by decide)] | rw [Zz] | rw [Zu (by simp [go_sem, e1, h2, h2', cmpP]; exact ⟨rfl, rfl⟩)] | rw [Zw (by simp [lk, Za, Od.v, e1, h2, h2', cmpP]; exact rfl)] | rw [Zx])); simp [Zr, Zs, ZY, go_sem, fin, Yu, Yt, YA, Yy, YC, e1, h2, h2', cmpP]
    · have c' : (n == 0) = false := by simpa using c
      rw [Yc (X := X) _ b75 _ rfl rfl]; unfold b75; (repeat (first | rw [Zj] | rw [Zc (by simp [go_sem, e1, h2, h2', c, c', cmpP]; exact ⟨rfl, rfl⟩)] | rw [Zv (by simp [lk, Za, Od.v, e1, h2, h2', c, c', cmpP]; exact rfl)] | rw [Zp] | rw [Zm] | rw [Zl] | rw [Zy] | rw [Zq] | rw [Zt] | rw [Zo] | rw [Zn] | rw [Zk] | rw [Zg] | rw [Zh] | rw [Zd (by decide)] | rw [Zi] | rw [Ze] | rw [Zf] | rw [Zb (by decide)] | rw [Zz] | rw [Zu (by simp [go_sem, e1, h2, h2', c, c', cmpP]; exact ⟨rfl, rfl⟩)] | rw [Zw (by simp [lk, Za, Od.v, e1, h2, h2', c, c', cmpP]; exact rfl)] | rw [Zx])); simp [Zr, Zs, ZY, go_sem, fin, Yu, Yt, YA, Yy, YC, e1, h2, h2', c, c', cmpP]
  have h3' : (ask == 1) = false := by simpa using h3
  by_cases h4 : ask = 2
  · subst h4
    by_cases c : n = 0
    · subst c
      rw [Yc (X := X) _ b75 _ rfl rfl]; unfold b75; (repeat (first | rw [Zj] | rw [Zc (by simp [go_sem, e1, h2, h2', cmpP]; exact ⟨rfl, rfl⟩)] | rw [Zv (by simp [lk, Za, Od.v, e1, h2, h2', cmpP]; exact rfl)] | rw [Zp] | rw [Zm] | rw [Zl] | rw [Zy] | rw [Zq] | rw [Zt] | rw [Zo] | rw [Zn] | rw [Zk] | rw [Zg] | rw [Zh] | rw [Zd (by decide)] | rw [Zi] | rw [Ze] | rw [Zf] | rw [Zb (by decide)] | rw [Zz] | rw [Zu (by simp [go_sem, e1, h2, h2', cmpP]; exact ⟨rfl, rfl⟩)] | rw [Zw (by simp [lk, Za, Od.v, e1, h2, h2', cmpP]; exact rfl)] | rw [Zx])); simp [Zr, Zs, ZY, go_sem, fin, Yu, Yt, YA, Yy, YC, e1, h2, h2', cmpP]
    · have c' : (n != 0) = true := by simpa using c
      rw [Yc (X := X) _ b75 _ rfl rfl]; unfold b75; (repeat (first | rw [Zj] | rw [Zc (by simp [go_sem, e1, h2, h2', c, c', cmpP]; exact ⟨rfl, rfl⟩)] | rw [Zv (by simp [lk, Za, Od.v, e1, h2, h2', c, c', cmpP]; exact rfl)] | rw [Zp] | rw [Zm] | rw [Zl] | rw [Zy] | rw [Zq] | rw [Zt] | rw [Zo] | rw [Zn] | rw [Zk] | rw [Zg] | rw [Zh] | rw [Zd (by decide)] | rw [Zi] | rw [Ze] | rw [Zf] | rw [Zb (by decide)] | rw [Zz] | rw [Zu (by simp [go_sem, e1, h2, h2', c, c', cmpP]; exact ⟨rfl, rfl⟩)] | rw [Zw (by simp [lk, Za, Od.v, e1, h2, h2', c, c', cmpP]; exact rfl)] | rw [Zx])); simp [Zr, Zs, ZY, go_sem, fin, Yu, Yt, YA, Yy, YC, e1, h2, h2', c, c', cmpP]
  have h4' : (ask == 2) = false := by simpa using h4
  by_cases h5 : ask = 3
  · subst h5
    rw [Yc (X := X) _ b75 _ rfl rfl]; unfold b75; (repeat (first | rw [Zj] | rw [Zc (by simp [go_sem, e1, h2, h2', cmpP]; exact ⟨rfl, rfl⟩)] | rw [Zv (by simp [lk, Za, Od.v, e1, h2, h2', cmpP]; exact rfl)] | rw [Zp] | rw [Zm] | rw [Zl] | rw [Zy] | rw [Zq] | rw [Zt] | rw [Zo] | rw [Zn] | rw [Zk] | rw [Zg] | rw [Zh] | rw [Zd (by decide)] | rw [Zi] | rw [Ze] | rw [Zf] | rw [Zb (by decide)] | rw [Zz] | rw [Zu (by simp [go_sem, e1, h2, h2', cmpP]; exact ⟨rfl, rfl⟩)] | rw [Zw (by simp [lk, Za, Od.v, e1, h2, h2', cmpP]; exact rfl)] | rw [Zx])); simp [Zr, Zs, ZY, go_sem, fin, Yu, Yt, YA, Yy, YC, e1, h2, h2', cmpP]
  have h5' : (ask == 3) = false := by simpa using h5
  by_cases h6 : ask = 4
  · subst h6
    rw [Yc (X := X) _ b75 _ rfl rfl]; unfold b75; (repeat (first | rw [Zj] | rw [Zc (by simp [go_sem, e1, h2, h2', cmpP]; exact ⟨rfl, rfl⟩)] | rw [Zv (by simp [lk, Za, Od.v, e1, h2, h2', cmpP]; exact rfl)] | rw [Zp] | rw [Zm] | rw [Zl] | rw [Zy] | rw [Zq] | rw [Zt] | rw [Zo] | rw [Zn] | rw [Zk] | rw [Zg] | rw [Zh] | rw [Zd (by decide)] | rw [Zi] | rw [Ze] | rw [Zf] | rw [Zb (by decide)] | rw [Zz] | rw [Zu (by simp [go_sem, e1, h2, h2', cmpP]; exact ⟨rfl, rfl⟩)] | rw [Zw (by simp [lk, Za, Od.v, e1, h2, h2', cmpP]; exact rfl)] | rw [Zx])); simp [Zr, Zs, ZY, go_sem, fin, Yu, Yt, YA, Yy, YC, e1, h2, h2', cmpP]
  have h6' : (ask == 4) = false := by simpa using h6
  by_cases h7 : ask = 5
  · subst h7
    rw [Yc (X := X) _ b75 _ rfl rfl]; unfold b75; (repeat (first | rw [Zj] | rw [Zc (by simp [go_sem, e1, h2, h2', cmpP]; exact ⟨rfl, rfl⟩)] | rw [Zv (by simp [lk, Za, Od.v, e1, h2, h2', cmpP]; exact rfl)] | rw [Zp] | rw [Zm] | rw [Zl] | rw [Zy] | rw [Zq] | rw [Zt] | rw [Zo] | rw [Zn] | rw [Zk] | rw [Zg] | rw [Zh] | rw [Zd (by decide)] | rw [Zi] | rw [Ze] | rw [Zf] | rw [Zb (by decide)] | rw [Zz] | rw [Zu (by simp [go_sem, e1, h2, h2', cmpP]; exact ⟨rfl, rfl⟩)] | rw [Zw (by simp [lk, Za, Od.v, e1, h2, h2', cmpP]; exact rfl)] | rw [Zx])); simp [Zr, Zs, ZY, go_sem, fin, Yu, Yt, YA, Yy, YC, e1, h2, h2', cmpP]
  have h7' : (ask == 5) = false := by simpa using h7
  by_cases h8 : ask = 6
  · subst h8
    rw [Yc (X := X) _ b75 _ rfl rfl]; unfold b75; (repeat (first | rw [Zj] | rw [Zc (by simp [go_sem, e1, h2, h2', cmpP]; exact ⟨rfl, rfl⟩)] | rw [Zv (by simp [lk, Za, Od.v, e1, h2, h2', cmpP]; exact rfl)] | rw [Zp] | rw [Zm] | rw [Zl] | rw [Zy] | rw [Zq] | rw [Zt] | rw [Zo] | rw [Zn] | rw [Zk] | rw [Zg] | rw [Zh] | rw [Zd (by decide)] | rw [Zi] | rw [Ze] | rw [Zf] | rw [Zb (by decide)] | rw [Zz] | rw [Zu (by simp [go_sem, e1, h2, h2', cmpP]; exact ⟨rfl, rfl⟩)] | rw [Zw (by simp [lk, Za, Od.v, e1, h2, h2', cmpP]; exact rfl)] | rw [Zx])); simp [Zr, Zs, ZY, go_sem, fin, Yu, Yt, YA, Yy, YC, e1, h2, h2', cmpP]
  have h8' : (ask == 6) = false := by simpa using h8
  rw [Yc (X := X) _ b75 _ rfl rfl]; unfold b75; (repeat (first | rw [Zj] | rw [Zc (by simp [go_sem, e1, h1, h1', h2, h2', h3, h3', h4, h4', h5, h5', h6, h6', h7, h7', h8, h8', cmpP]; exact ⟨rfl, rfl⟩)] | rw [Zv (by simp [lk, Za, Od.v, e1, h1, h1', h2, h2', h3, h3', h4, h4', h5, h5', h6, h6', h7, h7', h8, h8', cmpP]; exact rfl)] | rw [Zp] | rw [Zm] | rw [Zl] | rw [Zy] | rw [Zq] | rw [Zt] | rw [Zo] | rw [Zn] | rw [Zk] | rw [Zg] | rw [Zh] | rw [Zd (by decide)] | rw [Zi] | rw [Ze] | rw [Zf] | rw [Zb (by decide)] | rw [Zz] | rw [Zu (by simp [go_sem, e1, h1, h1', h2, h2', h3, h3', h4, h4', h5, h5', h6, h6', h7, h7', h8, h8', cmpP]; exact ⟨rfl, rfl⟩)] | rw [Zw (by simp [lk, Za, Od.v, e1, h1, h1', h2, h2', h3, h3', h4, h4', h5, h5', h6, h6', h7, h7', h8, h8', cmpP]; exact rfl)] | rw [Zx])); simp [Zr, Zs, ZY, go_sem, fin, Yu, Yt, YA, Yy, YC, e1, h1, h1', h2, h2', h3, h3', h4, h4', h5, h5', h6, h6', h7, h7', h8, h8', cmpP]
def cmpD (x : N) (v : V) : Bool := if v.k = 0 then false else cmpP x.ask (ord v x.val)
/-- Is a number one of those ahead? -/
def okA (a : Int) (n : Nat) : Bool := decide (0 ≤ a) && decide (a < n)
theorem run66 {h : ZD} {p : Nat} {D : DV} {ds : List DV} (hp : h[p]? = some (.box 104 [D])) (hD : vw h 1 D = some ds) (a : Int) : E X 66 [.int .i64 a, .ref p 0] h = some (.bool (okA a ds.length), h) := by
  unfold okA
  by_cases c : 0 ≤ a
  · rw [Yc (X := X) _ b66 _ rfl rfl]; unfold b66; (repeat (first | rw [Zj] | rw [Zc (by simp [go_sem, hp, hD, c]; exact ⟨rfl, rfl⟩)] | rw [Zv (by simp [lk, Za, Od.v, hp, hD, c]; exact rfl)] | rw [Zp] | rw [Zm] | rw [Zl] | rw [Zy] | rw [Zq] | rw [Zt] | rw [Zo] | rw [Zn] | rw [Zk] | rw [Zg] | rw [Zh] | rw [Zd (by decide)] | rw [Zi] | rw [Ze] | rw [Zf] | rw [Zb (by decide)] | rw [Zz] | rw [Zu (by simp [go_sem, hp, hD, c]; exact ⟨rfl, rfl⟩)] | rw [Zw (by simp [lk, Za, Od.v, hp, hD, c]; exact rfl)] | rw [Zx])); simp [Zr, Zs, ZY, go_sem, fin, Yu, Yt, YA, Yy, YC, hp, hD, c]
  · rw [Yc (X := X) _ b66 _ rfl rfl]; unfold b66; (repeat (first | rw [Zj] | rw [Zc (by simp [go_sem, hp, hD, c]; exact ⟨rfl, rfl⟩)] | rw [Zv (by simp [lk, Za, Od.v, hp, hD, c]; exact rfl)] | rw [Zp] | rw [Zm] | rw [Zl] | rw [Zy] | rw [Zq] | rw [Zt] | rw [Zo] | rw [Zn] | rw [Zk] | rw [Zg] | rw [Zh] | rw [Zd (by decide)] | rw [Zi] | rw [Ze] | rw [Zf] | rw [Zb (by decide)] | rw [Zz] | rw [Zu (by simp [go_sem, hp, hD, c]; exact ⟨rfl, rfl⟩)] | rw [Zw (by simp [lk, Za, Od.v, hp, hD, c]; exact rfl)] | rw [Zx])); simp [Zr, Zs, ZY, go_sem, fin, Yu, Yt, YA, Yy, YC, hp, hD, c]
/-- A row, that is only read. -/
def RowL (d : DV) (vs : List V) : Prop := (∃ c, d = .list 4 (vs.map V.d) c) ∨ (d = .nils ∧ vs = [])
theorem RowL.vw {d : DV} {vs : List V} (h : RowL d vs) (g : ZD) : vw g 4 d = some (vs.map V.d) := by
  rcases h with ⟨c, rfl⟩ | ⟨rfl, rfl⟩ <;> rfl
def RowsL (ds : List DV) (rs : List (List V)) : Prop := ds.length = rs.length ∧ ∀ (i : Nat) (d : DV) (vs : List V), ds[i]? = some d → rs[i]? = some vs → RowL d vs
/-- Does a node of a column hold for a row? -/
def leafP (x : N) (vs : List V) : Bool := decide (0 ≤ x.col) && match vs[x.col.toNat]? with
  | some v => oneP x v
  | none => false
def leafI (x : N) (rs : List (List V)) (n : Nat) : List Nat := (List.range n).filter fun i => leafP x (rs.getD i [])
/-- Where numbers lie that are collected. -/
def MadeI (h : ZD) (H : ZD) (w : DV) (ws : List Nat) : Prop := (w = .nils ∧ ws = [] ∧ h = H) ∨ ∃ g, w = .row H.length g 0 ws.length false ∧ h = H ++ [.row 3 1 g (ws.map iD)]
theorem MadeI.vw {h H : ZD} {w : DV} {ws : List Nat} (hm : MadeI h H w ws) (L : ZD) : vw (h ++ L) 1 w = some (ws.map iD) := by
  rcases hm with ⟨rfl, rfl, rfl⟩ | ⟨g, rfl, rfl⟩
  · rfl
  · simp [Go.Proofs.YtojhkbbnkhfnhaaGreatDoor.vw, Yb, List.take_of_length_le]
theorem MadeI.app {h H : ZD} {w : DV} {ws : List Nat} (hm : MadeI h H w ws) (hb : ws.length ≤ 1000000) (x : Nat) : ∃ w' h', appx h 3 1 8 w (ws.map iD) [iD x] = some (w', h') ∧ MadeI h' H w' (ws ++ [x]) := by
  have hle : ((ws.map iD).length + [iD x].length) * 8 ≤ 140737488355328 := by simp; omega
  rcases hm with ⟨rfl, rfl, rfl⟩ | ⟨g, rfl, rfl⟩
  · exact ⟨_, _, by simp [appx], .inr ⟨0, rfl, rfl⟩⟩
  · refine ⟨.row H.length (g + 1) 0 (ws.length + 1) false, H ++ [.row 3 1 (g + 1) ((ws ++ [x]).map iD)], ?_, .inr ⟨g + 1, by simp, rfl⟩⟩
    simp only [appx, if_pos hle, Yb]
    simp [Yd]
theorem MadeI.ext {h H : ZD} {w : DV} {ws : List Nat} (hm : MadeI h H w ws) : ∃ L, h = H ++ L := by
  rcases hm with ⟨_, _, rfl⟩ | ⟨g, _, rfl⟩
  · exact ⟨[], by simp⟩
  · exact ⟨_, rfl⟩
theorem leafI_succ (x : N) (rs : List (List V)) (i : Nat) {vs : List V} (h : rs[i]? = some vs) : leafI x rs (i + 1) = if leafP x vs = true then leafI x rs i ++ [i] else leafI x rs i := by
  simp only [leafI, List.range_succ, List.filter_append, List.filter_cons, List.filter_nil, List.getD, h, Option.getD_some]
  split <;> simp
theorem leafI_len (x : N) (rs : List (List V)) (i : Nat) : (leafI x rs i).length ≤ i := by
  have := List.length_filter_le (fun i => leafP x (rs.getD i [])) (List.range i)
  simpa [leafI] using this
theorem loop41 {H : ZD} {A : DV} {ds : List DV} {rs : List (List V)} (x : N) {p q : Nat} (hp : H[p]? = some (.box 54 x.d.cells)) (hq : q < H.length) (hA : ∀ L, vw (H ++ L) 1 A = some ds) (hd : RowsL ds rs) (hll : rs.length ≤ 1000000) :
    ∀ (m i : Nat) (w : DV) (h : ZD), rs.length - i ≤ m → i ≤ rs.length → MadeI h H w (leafI x rs i) →
      ∃ y ex w' h', C X (.loop lp41_0) [(3, .ref p 0), (4, .ref q 0), (5, w), (8, A), (9, .int .i64 rs.length), (10, .int .i64 i)] h = some (.exit 0, (3, .ref p 0) :: (4, .ref q 0) :: (5, w') :: (8, A) :: (9, .int .i64 rs.length) :: (10, y) :: ex, h') ∧
        MadeI h' H w' (leafI x rs rs.length) := by
  intro m
  induction m with
  | zero =>
    intro i w h hm hi hM
    obtain rfl : i = rs.length := by omega
    refine ⟨.int .i64 rs.length, [(11, .bool false)], w, h, ?_, hM⟩
    rw [Yh]
    unfold lp41_0
    (repeat (first | rw [Zj] | rw [Zc (by simp [go_sem]; exact ⟨rfl, rfl⟩)] | rw [Zv (by simp [lk, Za, Od.v]; exact rfl)] | rw [Zp] | rw [Zm] | rw [Zl] | rw [Zy] | rw [Zq] | rw [Zt] | rw [Zo] | rw [Zn] | rw [Zk] | rw [Zg] | rw [Zh] | rw [Zd (by decide)] | rw [Zi] | rw [Ze] | rw [Zf] | rw [Zb (by decide)] | rw [Zz] | rw [Zu (by simp [go_sem]; exact ⟨rfl, rfl⟩)] | rw [Zw (by simp [lk, Za, Od.v]; exact rfl)] | rw [Zx]))
    rw [Yx]
    simp [Za, lk]
  | succ m ih =>
    intro i w h hm hi hM
    by_cases c1 : i < rs.length
    · obtain ⟨I, hI⟩ : ∃ I, I = i + 1 := ⟨_, rfl⟩
      have w1 : IntKind.i64.wrap ((i : Int) + 1) = (I : Int) := (by rw [wrap64 _ (by omega) (by omega)]; omega)
      obtain ⟨L, hL⟩ := hM.ext
      have hv : vw h 1 A = some ds := by rw [hL]; exact hA _
      have hvs : rs[i]? = some rs[i] := List.getElem?_eq_getElem c1
      have c1' : i < ds.length := by rw [hd.1]; exact c1
      have hds : ds[i]? = some ds[i] := List.getElem?_eq_getElem c1'
      have hRow := hd.2 i _ _ hds hvs
      have hR := hRow.vw
      have hpb : h[p]? = some (.box 54 x.d.cells) := by rw [hL]; exact hle hp _
      have hlf := leafI_succ x rs i hvs
      have hll' := leafI_len x rs i
      obtain ⟨w', h', ha, hM'⟩ := hM.app (by omega) i
      have hv2 := hM.vw []
      rw [List.append_nil] at hv2
      generalize rs[i] = vs at *
      obtain ⟨d, hdg⟩ : ∃ d, ds[i] = d := ⟨_, rfl⟩
      rw [hdg] at hds hR hRow
      generalize leafI x rs i = l at *
      have key : ∃ w' h', C X lp41_0 [(3, .ref p 0), (4, .ref q 0), (5, w), (8, A), (9, .int .i64 rs.length), (10, .int .i64 i)] h = some (.norm, [(3, .ref p 0), (4, .ref q 0), (5, w'), (8, A), (9, .int .i64 rs.length), (10, .int .i64 I)], h') ∧ MadeI h' H w' (leafI x rs I) := by
        rw [← hI] at hlf
        rw [hlf]
        clear ih hlf hA hd hll
        have e1 := fun v h => run75 x v h
        have z1 : ∀ h, vw h 1 (.list 1 [iD i] true) = some [iD i] := fun _ => rfl
        have z2 : ∀ h, srcOf h 1 (.list 1 [iD i] true) = some [iD i] := fun _ => rfl
        have z3 : Wc 1 (iD i) := by simp [Wc, DV.cells, DV.one]
        have z4 : Nr (iD i) := .int _ _
        have z5 : ∀ h, eltL [iD i] h = some ([iD i], h) := fun _ => rfl
        unfold leafP
        generalize hop : oneP x = op at e1 ⊢
        obtain ⟨ask, col, ⟨vk, vn, vs', vt⟩, xa, xb⟩ := x
        simp only [N.d, V.d, DV.cells] at hpb e1 ⊢
        rcases hRow with ⟨cc, rfl⟩ | ⟨rfl, rfl⟩
        rotate_left
        · refine ⟨w, h, ?_, by simpa using hM⟩
          by_cases c2 : 0 ≤ col
          · have c3 : ¬ col < 0 := by omega
            unfold lp41_0
            (repeat (first | rw [Zj] | rw [Zc (by simp [go_sem, c1, c1', w1, hv, hdg, hR, hpb, c2, c3, ZR]; exact ⟨rfl, rfl⟩)] | rw [Zv (by simp [lk, Za, Od.v, c1, c1', w1, hv, hdg, hR, hpb, c2, c3, ZR]; exact rfl)] | rw [Zp] | rw [Zm] | rw [Zl] | rw [Zy] | rw [Zq] | rw [Zt] | rw [Zo] | rw [Zn] | rw [Zk] | rw [Zg] | rw [Zh] | rw [Zd (by decide)] | rw [Zi] | rw [Ze] | rw [Zf] | rw [Zb (by decide)] | rw [Zz] | rw [Zu (by simp [go_sem, c1, c1', w1, hv, hdg, hR, hpb, c2, c3, ZR]; exact ⟨rfl, rfl⟩)] | rw [Zw (by simp [lk, Za, Od.v, c1, c1', w1, hv, hdg, hR, hpb, c2, c3, ZR]; exact rfl)] | rw [Zx]))
            simp [Za, lk]
          · unfold lp41_0
            (repeat (first | rw [Zj] | rw [Zc (by simp [go_sem, c1, c1', w1, hv, hdg, hR, hpb, c2, ZR]; exact ⟨rfl, rfl⟩)] | rw [Zv (by simp [lk, Za, Od.v, c1, c1', w1, hv, hdg, hR, hpb, c2, ZR]; exact rfl)] | rw [Zp] | rw [Zm] | rw [Zl] | rw [Zy] | rw [Zq] | rw [Zt] | rw [Zo] | rw [Zn] | rw [Zk] | rw [Zg] | rw [Zh] | rw [Zd (by decide)] | rw [Zi] | rw [Ze] | rw [Zf] | rw [Zb (by decide)] | rw [Zz] | rw [Zu (by simp [go_sem, c1, c1', w1, hv, hdg, hR, hpb, c2, ZR]; exact ⟨rfl, rfl⟩)] | rw [Zw (by simp [lk, Za, Od.v, c1, c1', w1, hv, hdg, hR, hpb, c2, ZR]; exact rfl)] | rw [Zx]))
            simp [Za, lk]
        by_cases c2 : 0 ≤ col
        · obtain ⟨j, rfl⟩ : ∃ j : Nat, col = j := ⟨col.toNat, by omega⟩
          by_cases c3 : j < vs.length
          · have hj : vs[(j : Int).toNat]? = some vs[j] := by simp [List.getElem?_eq_getElem c3]
            have hj2 : (vs.map V.d)[j]? = some vs[j].d := by simp [List.getElem?_eq_getElem c3]
            have e2 := e1 vs[j]
            rw [hj]
            cases hq : op vs[j]
            · rw [hq] at e2
              refine ⟨w, h, ?_, by simpa [hq] using hM⟩
              unfold lp41_0
              (repeat (first | rw [Zj] | rw [Zc (by simp [go_sem, c1, c1', w1, hv, hdg, hR, hpb, c3, ZR, e2]; exact ⟨rfl, rfl⟩)] | rw [Zv (by simp [lk, Za, Od.v, c1, c1', w1, hv, hdg, hR, hpb, c3, ZR, e2]; exact rfl)] | rw [Zp] | rw [Zm] | rw [Zl] | rw [Zy] | rw [Zq] | rw [Zt] | rw [Zo] | rw [Zn] | rw [Zk] | rw [Zg] | rw [Zh] | rw [Zd (by decide)] | rw [Zi] | rw [Ze] | rw [Zf] | rw [Zb (by decide)] | rw [Zz] | rw [Zu (by simp [go_sem, c1, c1', w1, hv, hdg, hR, hpb, c3, ZR, e2]; exact ⟨rfl, rfl⟩)] | rw [Zw (by simp [lk, Za, Od.v, c1, c1', w1, hv, hdg, hR, hpb, c3, ZR, e2]; exact rfl)] | rw [Zx]))
              simp [Za, lk]
            · rw [hq] at e2
              refine ⟨w', h', ?_, by simpa [hq] using hM'⟩
              unfold lp41_0
              (repeat (first | rw [Zj] | rw [Zc (by simp [go_sem, c1, c1', w1, hv, hv2, hdg, hR, hpb, c3, ZR, e2, ha, z1, z2, z3, z4, z5]; exact ⟨rfl, rfl⟩)] | rw [Zv (by simp [lk, Za, Od.v, c1, c1', w1, hv, hv2, hdg, hR, hpb, c3, ZR, e2, ha, z1, z2, z3, z4, z5]; exact rfl)] | rw [Zp] | rw [Zm] | rw [Zl] | rw [Zy] | rw [Zq] | rw [Zt] | rw [Zo] | rw [Zn] | rw [Zk] | rw [Zg] | rw [Zh] | rw [Zd (by decide)] | rw [Zi] | rw [Ze] | rw [Zf] | rw [Zb (by decide)] | rw [Zz] | rw [Zu (by simp [go_sem, c1, c1', w1, hv, hv2, hdg, hR, hpb, c3, ZR, e2, ha, z1, z2, z3, z4, z5]; exact ⟨rfl, rfl⟩)] | rw [Zw (by simp [lk, Za, Od.v, c1, c1', w1, hv, hv2, hdg, hR, hpb, c3, ZR, e2, ha, z1, z2, z3, z4, z5]; exact rfl)] | rw [Zx]))
              simp [Za, lk]
          · have hj : vs[(j : Int).toNat]? = none := by simp; omega
            rw [hj]
            refine ⟨w, h, ?_, by simpa using hM⟩
            unfold lp41_0
            (repeat (first | rw [Zj] | rw [Zc (by simp [go_sem, c1, c1', w1, hv, hdg, hR, hpb, c3, ZR]; exact ⟨rfl, rfl⟩)] | rw [Zv (by simp [lk, Za, Od.v, c1, c1', w1, hv, hdg, hR, hpb, c3, ZR]; exact rfl)] | rw [Zp] | rw [Zm] | rw [Zl] | rw [Zy] | rw [Zq] | rw [Zt] | rw [Zo] | rw [Zn] | rw [Zk] | rw [Zg] | rw [Zh] | rw [Zd (by decide)] | rw [Zi] | rw [Ze] | rw [Zf] | rw [Zb (by decide)] | rw [Zz] | rw [Zu (by simp [go_sem, c1, c1', w1, hv, hdg, hR, hpb, c3, ZR]; exact ⟨rfl, rfl⟩)] | rw [Zw (by simp [lk, Za, Od.v, c1, c1', w1, hv, hdg, hR, hpb, c3, ZR]; exact rfl)] | rw [Zx]))
            simp [Za, lk]
        · refine ⟨w, h, ?_, by simpa [c2] using hM⟩
          unfold lp41_0
          (repeat (first | rw [Zj] | rw [Zc (by simp [go_sem, c1, c1', w1, hv, hdg, hR, hpb, c2, ZR]; exact ⟨rfl, rfl⟩)] | rw [Zv (by simp [lk, Za, Od.v, c1, c1', w1, hv, hdg, hR, hpb, c2, ZR]; exact rfl)] | rw [Zp] | rw [Zm] | rw [Zl] | rw [Zy] | rw [Zq] | rw [Zt] | rw [Zo] | rw [Zn] | rw [Zk] | rw [Zg] | rw [Zh] | rw [Zd (by decide)] | rw [Zi] | rw [Ze] | rw [Zf] | rw [Zb (by decide)] | rw [Zz] | rw [Zu (by simp [go_sem, c1, c1', w1, hv, hdg, hR, hpb, c2, ZR]; exact ⟨rfl, rfl⟩)] | rw [Zw (by simp [lk, Za, Od.v, c1, c1', w1, hv, hdg, hR, hpb, c2, ZR]; exact rfl)] | rw [Zx]))
          simp [Za, lk]
      obtain ⟨w2, h2, hc, hM2⟩ := key
      rw [Yh, hc, Yw]
      exact ih I w2 h2 (by omega) (by omega) hM2
    · exact ih i w h (by omega) hi hM

theorem fin_wl {H h : ZD} {W : DV} {ws : List Nat} (hW : WL W ws) (ht : h.take H.length = H) : fin H h [.agg [W]] = (.agg [W], H) := by
  simp only [fin]
  rw [if_pos ht]
  rcases hW with rfl | ⟨rfl, rfl⟩ <;> simp [Yt, Yy, Yu]
theorem run41 {A : DV} {ds : List DV} {rs : List (List V)} {H : ZD} (x : N) (hA : ∀ L, vw (H ++ L) 1 A = some ds) (hd : RowsL ds rs) (hll : rs.length ≤ 65536) : ∃ W, E X 41 [A, x.d] H = some (.agg [W], H) ∧ WL W (ofW (leafI x rs rs.length)) := by
  have hA2 : ∀ L, vw ((H ++ [.box 54 x.d.cells, .box 38 [.nils]]) ++ L) 1 A = some ds := fun L => by rw [List.append_assoc]; exact hA _
  obtain ⟨y, ex, O, h', c1, hM⟩ := loop41 (H := H ++ [.box 54 x.d.cells, .box 38 [.nils]]) x (p := H.length) (q := H.length + 1) (by simp) (by simp) hA2 hd (by omega) rs.length 0 .nils (H ++ [.box 54 x.d.cells, .box 38 [.nils]]) (by omega) (by omega) (.inl ⟨rfl, rfl, rfl⟩)
  have hlb := leafI_len x rs rs.length
  have hlt : ∀ k ∈ leafI x rs rs.length, k < 65536 := by
    intro k hk
    have := (List.mem_filter.1 hk).1
    rw [List.mem_range] at this
    omega
  obtain ⟨W, e1, hW⟩ := run76 (H := h') (fun L => hM.vw L) hlt (by omega)
  have g1 : h'[H.length + 1]? = some (.box 38 [.nils]) := by
    rcases hM with ⟨_, _, rfl⟩ | ⟨g, _, rfl⟩
    · simp [hget]
    · rw [List.append_assoc, hget]; rfl
  have g2 : h'.take H.length = H := by
    rcases hM with ⟨_, _, rfl⟩ | ⟨g, _, rfl⟩
    · exact List.take_left
    · rw [List.append_assoc, List.take_left]
  have g4 : H.length + 1 < h'.length := (List.getElem?_eq_some_iff.1 g1).1
  have g5 : (h'.set (H.length + 1) (.box 38 [W])).take H.length = H := by
    rw [List.take_set]
    rw [List.set_eq_of_length_le (by simp; omega)]
    exact g2
  have g3 : (h'.set (H.length + 1) (.box 38 [W]))[H.length + 1]? = some (.box 38 [W]) := List.getElem?_set_self g4
  have hf := fin_wl hW g5
  refine ⟨W, ?_, hW⟩
  have hv := hA [.box 54 x.d.cells, .box 38 [.nils]]
  have hl := hd.1
  clear hM hlt hlb hA hA2 g2 g4 g5
  generalize leafI x rs rs.length = l at *
  obtain ⟨ask, col, ⟨vk, vn, vs', vt⟩, xa, xb⟩ := x
  simp only [N.d, V.d, DV.cells] at *
  rw [← hl] at c1
  rw [show ((0 : Nat) : Int) = 0 from rfl] at c1
  rw [Yc (X := X) _ b41 _ rfl rfl]; unfold b41
  (repeat (first | rw [Zj] | rw [Zc (by simp [go_sem, hv]; exact ⟨rfl, rfl⟩)] | rw [Zv (by simp [lk, Za, Od.v, hv]; exact rfl)] | rw [Zp] | rw [Zm] | rw [Zl] | rw [Zy] | rw [Zq] | rw [Zt] | rw [Zo] | rw [Zn] | rw [Zk] | rw [Zg] | rw [Zh] | rw [Zd (by decide)] | rw [Zi] | rw [Ze] | rw [Zf] | rw [Zb (by decide)] | rw [Zz] | rw [Zu (by simp [go_sem, hv]; exact ⟨rfl, rfl⟩)] | rw [Zw (by simp [lk, Za, Od.v, hv]; exact rfl)] | rw [Zx]))
  (try simp only [Za, List.map_cons, List.map_nil, lk, reduceIte, Nat.reduceEqDiff, Nat.zero_ne_one, Nat.one_ne_zero])
  rw [c1]
  rcases hW with rfl | ⟨rfl, hn⟩
  · (repeat (first | rw [Zj] | rw [Zc (by simp [go_sem, g1, e1]; exact ⟨rfl, rfl⟩)] | rw [Zv (by simp [lk, Za, Od.v, g1, e1]; exact rfl)] | rw [Zp] | rw [Zm] | rw [Zl] | rw [Zy] | rw [Zq] | rw [Zt] | rw [Zo] | rw [Zn] | rw [Zk] | rw [Zg] | rw [Zh] | rw [Zd (by decide)] | rw [Zi] | rw [Ze] | rw [Zf] | rw [Zb (by decide)] | rw [Zz] | rw [Zu (by simp [go_sem, g1, e1]; exact ⟨rfl, rfl⟩)] | rw [Zw (by simp [lk, Za, Od.v, g1, e1]; exact rfl)] | rw [Zx]))
    simp [Zs, Zr, ZY, Za, lk, ZA, g3, YB]
    exact hf
  · (repeat (first | rw [Zj] | rw [Zc (by simp [go_sem, g1, e1]; exact ⟨rfl, rfl⟩)] | rw [Zv (by simp [lk, Za, Od.v, g1, e1]; exact rfl)] | rw [Zp] | rw [Zm] | rw [Zl] | rw [Zy] | rw [Zq] | rw [Zt] | rw [Zo] | rw [Zn] | rw [Zk] | rw [Zg] | rw [Zh] | rw [Zd (by decide)] | rw [Zi] | rw [Ze] | rw [Zf] | rw [Zb (by decide)] | rw [Zz] | rw [Zu (by simp [go_sem, g1, e1]; exact ⟨rfl, rfl⟩)] | rw [Zw (by simp [lk, Za, Od.v, g1, e1]; exact rfl)] | rw [Zx]))
    simp [Zs, Zr, ZY, Za, lk, ZA, g3, YB]
    exact hf
/-- The words of one node's set, by those of the nodes ahead. -/
def stepW (n : Nat) (leaf : N → List Nat) (dn : List (List Nat)) (x : N) : List Nat :=
  if x.ask = 0 then uptoW n
  else if 1 ≤ x.ask ∧ x.ask ≤ 7 then leaf x
  else if x.ask = 10 ∧ okA x.a dn.length = true then notW (dn.getD x.a.toNat []) n
  else if x.ask = 8 ∧ okA x.a dn.length = true ∧ okA x.b dn.length = true then andW (dn.getD x.a.toNat []) (dn.getD x.b.toNat [])
  else if x.ask = 9 ∧ okA x.a dn.length = true ∧ okA x.b dn.length = true then orW (dn.getD x.a.toNat []) (dn.getD x.b.toNat [])
  else []
/-- A set's value. -/
def SetV (d : DV) (ws : List Nat) : Prop := (∃ W, d = .agg [W] ∧ WL W ws) ∧ WB ws ∧ ws.length ≤ 1024
/-- Sets that are collected. -/
def SetsV (ds : List DV) (dn : List (List Nat)) : Prop := ds.length = dn.length ∧ ∀ (i : Nat) (d : DV) (ws : List Nat), ds[i]? = some d → dn[i]? = some ws → SetV d ws
theorem SetsV.snoc {ds : List DV} {dn : List (List Nat)} (h : SetsV ds dn) {d : DV} {ws : List Nat} (hd : SetV d ws) : SetsV (ds ++ [d]) (dn ++ [ws]) := by
  refine ⟨by simp [h.1], fun i e us h1 h2 => ?_⟩
  by_cases c : i < ds.length
  · rw [List.getElem?_append_left c] at h1
    rw [List.getElem?_append_left (by rw [← h.1]; exact c)] at h2
    exact h.2 i e us h1 h2
  · rw [List.getElem?_append_right (by omega)] at h1
    rw [List.getElem?_append_right (by rw [← h.1]; omega)] at h2
    rw [← h.1] at h2
    cases hk : i - ds.length with
    | zero =>
      rw [hk] at h1 h2
      simp at h1 h2
      rw [← h1, ← h2]; exact hd
    | succ k => rw [hk] at h1; simp at h1
structure DoneAt (H h : ZD) (D : DV) (ds : List DV) : Prop where
  pre : h.take H.length = H
  b6 : h[H.length]? = some (.box 38 [.nils])
  b7 : h[H.length + 1]? = some (.box 104 [D])
  row : (D = .nils ∧ ds = []) ∨ ∃ o g, D = .row o g 0 ds.length false ∧ H.length + 2 ≤ o ∧ h[o]? = some (.row 38 1 g ds)
theorem DoneAt.len {H h : ZD} {D : DV} {ds : List DV} (hD : DoneAt H h D ds) : H.length + 1 < h.length := (List.getElem?_eq_some_iff.1 hD.b7).1
theorem DoneAt.app {H h : ZD} {D : DV} {ds : List DV} (hD : DoneAt H h D ds) (L : ZD) : DoneAt H (h ++ L) D ds where
  pre := by have := hD.len; rw [List.take_append_of_le_length (by omega)]; exact hD.pre
  b6 := hle hD.b6 L
  b7 := hle hD.b7 L
  row := by
    rcases hD.row with h1 | ⟨o, g, h1, h2, h3⟩
    · exact .inl h1
    · exact .inr ⟨o, g, h1, h2, hle h3 L⟩
theorem DoneAt.vw {H h : ZD} {D : DV} {ds : List DV} (hD : DoneAt H h D ds) : vw h 1 D = some ds := by
  rcases hD.row with ⟨rfl, rfl⟩ | ⟨o, g, rfl, h2, h3⟩
  · rfl
  · simp [Go.Proofs.YtojhkbbnkhfnhaaGreatDoor.vw, h3, List.take_of_length_le]
theorem DoneAt.step {H h : ZD} {D : DV} {ds : List DV} (hD : DoneAt H h D ds) (hb : ds.length ≤ 1000000) (y : DV) : ∃ D' h2, appx h 38 1 24 D ds [y] = some (D', h2) ∧ h2[H.length + 1]? = some (.box 104 [D]) ∧ (∃ o g n, D' = .row o g 0 n false) ∧ DoneAt H (h2.set (H.length + 1) (.box 104 [D'])) D' (ds ++ [y]) := by
  have hle' : (ds.length + [y].length) * 24 ≤ 140737488355328 := by simp; omega
  have hl := hD.len
  have tk : ∀ (g : ZD) (i : Nat) (x : HO), H.length ≤ i → (g.set i x).take H.length = g.take H.length := by
    intro g i x hi
    rw [List.take_set, List.set_eq_of_length_le (by simp; omega)]
  rcases hD.row with ⟨rfl, rfl⟩ | ⟨o, g, rfl, h2, h3⟩
  · refine ⟨.row h.length 0 0 1 false, h ++ [.row 38 1 0 [y]], by simp [appx], hle hD.b7 _, ⟨_, _, _, rfl⟩, ?_, ?_, ?_, .inr ⟨h.length, 0, rfl, by omega, ?_⟩⟩
    · rw [tk _ _ _ (by omega)]; exact (hD.app _).pre
    · rw [List.getElem?_set_ne (by omega)]; exact hle hD.b6 _
    · exact List.getElem?_set_self (by simp; omega)
    · rw [List.getElem?_set_ne (by omega)]; simp
  · have ho : o < h.length := (List.getElem?_eq_some_iff.1 h3).1
    refine ⟨.row o (g + 1) 0 (ds.length + 1) false, h.set o (.row 38 1 (g + 1) (ds ++ [y])), ?_, ?_, ⟨_, _, _, rfl⟩, ?_, ?_, ?_, .inr ⟨o, g + 1, by simp, h2, ?_⟩⟩
    · simp only [appx, if_pos hle', h3]
      simp
    · rw [List.getElem?_set_ne (by omega)]; exact hD.b7
    · rw [tk _ _ _ (by omega), tk _ _ _ (by omega)]; exact hD.pre
    · rw [List.getElem?_set_ne (by omega), List.getElem?_set_ne (by omega)]; exact hD.b6
    · exact List.getElem?_set_self (by simp; omega)
    · rw [List.getElem?_set_ne (by omega)]; exact List.getElem?_set_self ho
theorem uptoW_ln {n : Nat} (hn : n ≤ 65536) : (uptoW n).length ≤ 1024 := by rw [uptoW_len]; omega
theorem notW_WB (ws : List Nat) (n : Nat) : WB (notW ws n) := by
  intro x hx
  obtain ⟨k, hk, rfl⟩ := List.mem_map.1 hx
  exact Nat.lt_of_le_of_lt Nat.and_le_left ((uptoW_WB n).at k)
theorem andW_WB {ws ts : List Nat} (h : WB ws) : WB (andW ws ts) := by
  intro x hx
  obtain ⟨k, hk, rfl⟩ := List.mem_map.1 hx
  exact Nat.lt_of_le_of_lt Nat.and_le_left (h.at k)
theorem orW_WB {ws ts : List Nat} (h : WB ws) (h' : WB ts) : WB (orW ws ts) := by
  intro x hx
  obtain ⟨k, hk, rfl⟩ := List.mem_map.1 hx
  exact Nat.or_lt_two_pow (n := 64) (h.at k) (h'.at k)
theorem okA_ok {a : Int} {n : Nat} (h : okA a n = true) : ∃ i : Nat, a = i ∧ i < n := by
  simp only [okA, Bool.and_eq_true, decide_eq_true_eq] at h
  exact ⟨a.toNat, by omega, by omega⟩
theorem bft (b : Bool) : b = false ∨ b = true := by cases b <;> simp
/-- What a leaf's function tells. -/
def LeafOk (H : ZD) (f : Nat) (cap : List DV) (leaf : N → List Nat) : Prop := ∀ L x, ∃ W, E X f (cap ++ [x.d]) (H ++ L) = some (.agg [W], H ++ L) ∧ WL W (leaf x) ∧ WB (leaf x) ∧ (leaf x).length ≤ 1024
set_option maxHeartbeats 4000000 in
theorem step39 {H h : ZD} {D L : DV} {ds : List DV} {dn : List (List Nat)} {xs : List N} {n f : Nat} {cap : List DV} {leaf : N → List Nat} (hn : n ≤ 65536) (hv : vw h 8 L = some (xs.map N.d)) (hb : xs.length ≤ 1000000)
    (hD : DoneAt H h D ds) (hS : SetsV ds dn) (hdb : ds.length ≤ 1000000) (hlf : ∀ G x, ∃ W, E X f (cap ++ [x.d]) (h ++ G) = some (.agg [W], h ++ G) ∧ WL W (leaf x) ∧ WB (leaf x) ∧ (leaf x).length ≤ 1024) {i I : Nat} (hi : i < xs.length) (hI : I = i + 1) :
    ∃ h' D' d, C X lp39_0 [(1, .int .i64 n), (2, .func f cap []), (6, .ref H.length 0), (7, .ref (H.length + 1) 0), (8, .func 66 [] [.ref (H.length + 1) 0]), (18, L), (19, .int .i64 xs.length), (20, .int .i64 i)] h =
        some (.norm, [(1, .int .i64 n), (2, .func f cap []), (6, .ref H.length 0), (7, .ref (H.length + 1) 0), (8, .func 66 [] [.ref (H.length + 1) 0]), (18, L), (19, .int .i64 xs.length), (20, .int .i64 I)], h') ∧
      DoneAt H h' D' (ds ++ [d]) ∧ SetV d (stepW n leaf dn xs[i]) := by
  have w1 : IntKind.i64.wrap ((i : Int) + 1) = (I : Int) := (by rw [wrap64 _ (by omega) (by omega)]; omega)
  generalize hxi : xs[i] = x
  have hpl : (xs.map N.d)[i]'(by simpa using hi) = x.d := by rw [List.getElem_map, hxi]
  have fin : ∀ (W : DV) (ws : List Nat), WL W ws → WB ws → ws.length ≤ 1024 → ws = stepW n leaf dn x →
      (∀ D' h2 o g m, D' = .row o g 0 m false → appx (h ++ [.box 54 x.d.cells, .box 38 [W]]) 38 1 24 D ds [.agg [W]] = some (D', h2) → h2[H.length + 1]? = some (.box 104 [D]) →
        C X lp39_0 [(1, .int .i64 n), (2, .func f cap []), (6, .ref H.length 0), (7, .ref (H.length + 1) 0), (8, .func 66 [] [.ref (H.length + 1) 0]), (18, L), (19, .int .i64 xs.length), (20, .int .i64 i)] h =
          some (.norm, [(1, .int .i64 n), (2, .func f cap []), (6, .ref H.length 0), (7, .ref (H.length + 1) 0), (8, .func 66 [] [.ref (H.length + 1) 0]), (18, L), (19, .int .i64 xs.length), (20, .int .i64 I)], h2.set (H.length + 1) (.box 104 [D']))) →
      ∃ h' D' d, C X lp39_0 [(1, .int .i64 n), (2, .func f cap []), (6, .ref H.length 0), (7, .ref (H.length + 1) 0), (8, .func 66 [] [.ref (H.length + 1) 0]), (18, L), (19, .int .i64 xs.length), (20, .int .i64 i)] h =
        some (.norm, [(1, .int .i64 n), (2, .func f cap []), (6, .ref H.length 0), (7, .ref (H.length + 1) 0), (8, .func 66 [] [.ref (H.length + 1) 0]), (18, L), (19, .int .i64 xs.length), (20, .int .i64 I)], h') ∧
      DoneAt H h' D' (ds ++ [d]) ∧ SetV d (stepW n leaf dn x) := by
    intro W ws hW hB hl he hr
    obtain ⟨D', h2, ha, h7, ⟨o, g, m, hrow⟩, hD'⟩ := (hD.app [.box 54 x.d.cells, .box 38 [W]]).step hdb (.agg [W])
    rw [← he]
    exact ⟨_, D', .agg [W], hr D' h2 o g m hrow ha h7, hD', ⟨W, rfl, hW⟩, hB, hl⟩
  have hlen : (xs.map N.d).length = xs.length := by simp
  have g7 : ∀ G, (h ++ G)[H.length + 1]? = some (.box 104 [D]) := fun G => (hD.app G).b7
  have gv : ∀ G, vw (h ++ G) 1 D = some ds := fun G => (hD.app G).vw
  have e40 := fun G => run65 n hn (h ++ G)
  have e60a := fun G => run66 (g7 G) (gv G) x.a
  have e60b := fun G => run66 (g7 G) (gv G) x.b
  have elf := fun G => hlf G x
  have z2 : ∀ W h, srcOf h 1 (.list 1 [.agg [W]] true) = some [.agg [W]] := fun _ _ => rfl
  have z3 : ∀ ws : List Nat, Wc 1 (.agg [.list 1 (ws.map uD) false]) := fun ws => by simp [Wc, DV.cells, DV.one]
  have z4 : ∀ ws : List Nat, Nr (.agg [.list 1 (ws.map uD) false]) := fun ws => .agg (fun x hx => by
    rw [List.mem_singleton] at hx; subst hx
    exact .list (fun y hy => by obtain ⟨z, _, rfl⟩ := List.mem_map.1 hy; exact .int _ _))
  have z5 : ∀ (ws : List Nat) h, eltL [.agg [.list 1 (ws.map uD) false]] h = some ([.agg [.list 1 (ws.map uD) false]], h) := fun _ _ => rfl
  have y3 : Wc 1 (.agg [.nils]) := by simp [Wc, DV.cells, DV.one]
  have y4 : Nr (.agg [.nils]) := .agg (fun x hx => by rw [List.mem_singleton] at hx; subst hx; exact .nils)
  have y5 : ∀ h, eltL [.agg [.nils]] h = some ([.agg [.nils]], h) := fun _ => rfl
  clear hlf hxi
  unfold stepW at *
  obtain ⟨ask, col, ⟨vk, vn, vs, vt⟩, xa, xb⟩ := x
  simp only [N.d, V.d, DV.cells] at *
  by_cases c0 : ask = 0
  · subst c0
    refine fin _ (uptoW n) (.inl rfl) (uptoW_WB n) (uptoW_ln hn) (by simp) ?_
    intro D' h2 o g m hrow ha h7
    subst hrow
    clear fin
    generalize uptoW n = up at *
    generalize H.length + 1 = p7 at *
    unfold lp39_0
    (repeat (first | rw [Zj] | rw [Zc (by simp [go_sem, hi, hlen, w1, hv, hpl, ZA, ZR, e40, g7, gv, ha, h7, z2, z3, z4, z5]; exact ⟨rfl, rfl⟩)] | rw [Zv (by simp [lk, Za, Od.v, hi, hlen, w1, hv, hpl, ZA, ZR, e40, g7, gv, ha, h7, z2, z3, z4, z5]; exact rfl)] | rw [Zp] | rw [Zm] | rw [Zl] | rw [Zy] | rw [Zq] | rw [Zt] | rw [Zo] | rw [Zn] | rw [Zk] | rw [Zg] | rw [Zh] | rw [Zd (by decide)] | rw [Zi] | rw [Ze] | rw [Zf] | rw [Zb (by decide)] | rw [Zz] | rw [Zu (by simp [go_sem, hi, hlen, w1, hv, hpl, ZA, ZR, e40, g7, gv, ha, h7, z2, z3, z4, z5]; exact ⟨rfl, rfl⟩)] | rw [Zw (by simp [lk, Za, Od.v, hi, hlen, w1, hv, hpl, ZA, ZR, e40, g7, gv, ha, h7, z2, z3, z4, z5]; exact rfl)] | rw [Zx]))
    simp [Za, lk]
  have c0' : (ask == 0) = false := by simpa using c0
  by_cases c1 : 1 ≤ ask ∧ ask ≤ 7
  · obtain ⟨c1, c2⟩ := c1
    have c3 : ¬ ask < 1 := by omega
    have c4 : ¬ 7 < ask := by omega
    obtain ⟨W, e1, hW, hB, hl⟩ := elf [.box 54 [.int .i64 ask, .int .i64 col, .int .i64 vk, .int .i64 vn, .str vs, .bool vt, .int .i64 xa, .int .i64 xb], .box 38 [.nils]]
    refine fin W _ hW hB hl (by simp [c0, c1, c2]) ?_
    intro D' h2 o g m hrow ha h7
    subst hrow
    clear fin elf
    rcases hW with rfl | ⟨rfl, hz⟩
    · generalize leaf _ = lw at *
      generalize H.length + 1 = p7 at *
      unfold lp39_0
      (repeat (first | rw [Zj] | rw [Zc (by simp [go_sem, hi, hlen, w1, hv, hpl, ZA, ZR, e1, c0, c0', c1, c2, c3, c4, g7, gv, ha, h7, z2, z3, z4, z5]; exact ⟨rfl, rfl⟩)] | rw [Zv (by simp [lk, Za, Od.v, hi, hlen, w1, hv, hpl, ZA, ZR, e1, c0, c0', c1, c2, c3, c4, g7, gv, ha, h7, z2, z3, z4, z5]; exact rfl)] | rw [Zp] | rw [Zm] | rw [Zl] | rw [Zy] | rw [Zq] | rw [Zt] | rw [Zo] | rw [Zn] | rw [Zk] | rw [Zg] | rw [Zh] | rw [Zd (by decide)] | rw [Zi] | rw [Ze] | rw [Zf] | rw [Zb (by decide)] | rw [Zz] | rw [Zu (by simp [go_sem, hi, hlen, w1, hv, hpl, ZA, ZR, e1, c0, c0', c1, c2, c3, c4, g7, gv, ha, h7, z2, z3, z4, z5]; exact ⟨rfl, rfl⟩)] | rw [Zw (by simp [lk, Za, Od.v, hi, hlen, w1, hv, hpl, ZA, ZR, e1, c0, c0', c1, c2, c3, c4, g7, gv, ha, h7, z2, z3, z4, z5]; exact rfl)] | rw [Zx]))
      simp [Za, lk]
    · clear hB hl hz
      generalize H.length + 1 = p7 at *
      unfold lp39_0
      (repeat (first | rw [Zj] | rw [Zc (by simp [go_sem, hi, hlen, w1, hv, hpl, ZA, ZR, e1, c0, c0', c1, c2, c3, c4, g7, gv, ha, h7, z2, y3, y4, y5]; exact ⟨rfl, rfl⟩)] | rw [Zv (by simp [lk, Za, Od.v, hi, hlen, w1, hv, hpl, ZA, ZR, e1, c0, c0', c1, c2, c3, c4, g7, gv, ha, h7, z2, y3, y4, y5]; exact rfl)] | rw [Zp] | rw [Zm] | rw [Zl] | rw [Zy] | rw [Zq] | rw [Zt] | rw [Zo] | rw [Zn] | rw [Zk] | rw [Zg] | rw [Zh] | rw [Zd (by decide)] | rw [Zi] | rw [Ze] | rw [Zf] | rw [Zb (by decide)] | rw [Zz] | rw [Zu (by simp [go_sem, hi, hlen, w1, hv, hpl, ZA, ZR, e1, c0, c0', c1, c2, c3, c4, g7, gv, ha, h7, z2, y3, y4, y5]; exact ⟨rfl, rfl⟩)] | rw [Zw (by simp [lk, Za, Od.v, hi, hlen, w1, hv, hpl, ZA, ZR, e1, c0, c0', c1, c2, c3, c4, g7, gv, ha, h7, z2, y3, y4, y5]; exact rfl)] | rw [Zx]))
      simp [Za, lk]
  clear elf
  have hSl := hS.1
  rw [hSl] at e60a e60b
  have at1 : ∀ {a : Int}, okA a dn.length = true → ∃ (j : Nat) (W : DV) (ws : List Nat), a = j ∧ j < ds.length ∧ (∃ hj : j < ds.length, ds[j] = .agg [W]) ∧ dn.getD a.toNat [] = ws ∧ WL W ws ∧ WB ws ∧ ws.length ≤ 1024 := by
    intro a ha
    obtain ⟨j, rfl, hj⟩ := okA_ok ha
    have hj' : j < ds.length := by omega
    obtain ⟨⟨W, hW1, hW2⟩, hB, hl⟩ := hS.2 j _ _ (List.getElem?_eq_getElem hj') (List.getElem?_eq_getElem hj)
    exact ⟨j, W, dn[j], rfl, hj', ⟨hj', hW1⟩, by simp [List.getD, List.getElem?_eq_getElem hj], hW2, hB, hl⟩
  have none_ : (∀ D' h2 o g m, D' = .row o g 0 m false → appx (h ++ [.box 54 [.int .i64 ask, .int .i64 col, .int .i64 vk, .int .i64 vn, .str vs, .bool vt, .int .i64 xa, .int .i64 xb], .box 38 [.nils]]) 38 1 24 D ds [.agg [.nils]] = some (D', h2) → h2[H.length + 1]? = some (.box 104 [D]) → True) := fun _ _ _ _ _ _ _ _ => trivial
  clear none_
  by_cases c10 : ask = 10
  · subst c10
    rcases bft (okA xa dn.length) with oa | oa
    · rw [oa] at e60a
      refine fin .nils [] (.inr ⟨rfl, rfl⟩) (by intro y hy; cases hy) (by simp) (by simp [oa]) ?_
      intro D' h2 o g m hrow ha h7
      subst hrow
      clear fin at1
      generalize H.length + 1 = p7 at *
      unfold lp39_0
      (repeat (first | rw [Zj] | rw [Zc (by simp [go_sem, hi, hlen, w1, hv, hpl, ZA, ZR, e60a, g7, gv, ha, h7, z2, y3, y4, y5]; exact ⟨rfl, rfl⟩)] | rw [Zv (by simp [lk, Za, Od.v, hi, hlen, w1, hv, hpl, ZA, ZR, e60a, g7, gv, ha, h7, z2, y3, y4, y5]; exact rfl)] | rw [Zp] | rw [Zm] | rw [Zl] | rw [Zy] | rw [Zq] | rw [Zt] | rw [Zo] | rw [Zn] | rw [Zk] | rw [Zg] | rw [Zh] | rw [Zd (by decide)] | rw [Zi] | rw [Ze] | rw [Zf] | rw [Zb (by decide)] | rw [Zz] | rw [Zu (by simp [go_sem, hi, hlen, w1, hv, hpl, ZA, ZR, e60a, g7, gv, ha, h7, z2, y3, y4, y5]; exact ⟨rfl, rfl⟩)] | rw [Zw (by simp [lk, Za, Od.v, hi, hlen, w1, hv, hpl, ZA, ZR, e60a, g7, gv, ha, h7, z2, y3, y4, y5]; exact rfl)] | rw [Zx]))
      simp [Za, lk]
    · rw [oa] at e60a
      obtain ⟨j, W, ws, rfl, hj, ⟨_, hd⟩, hg, hW, hB, hl⟩ := at1 oa
      have e21 := fun G => run67 hW hB n hn (h ++ G)
      refine fin _ (notW ws n) (.inl rfl) (notW_WB ws n) (by simp [notW]; omega) (by rw [← hg]; simp [oa]) ?_
      intro D' h2 o g m hrow ha h7
      subst hrow
      clear fin at1
      generalize notW ws n = us at *
      generalize H.length + 1 = p7 at *
      unfold lp39_0
      (repeat (first | rw [Zj] | rw [Zc (by simp [go_sem, hi, hlen, w1, hv, hpl, ZA, ZR, e60a, e21, hd, hj, g7, gv, ha, h7, z2, z3, z4, z5]; exact ⟨rfl, rfl⟩)] | rw [Zv (by simp [lk, Za, Od.v, hi, hlen, w1, hv, hpl, ZA, ZR, e60a, e21, hd, hj, g7, gv, ha, h7, z2, z3, z4, z5]; exact rfl)] | rw [Zp] | rw [Zm] | rw [Zl] | rw [Zy] | rw [Zq] | rw [Zt] | rw [Zo] | rw [Zn] | rw [Zk] | rw [Zg] | rw [Zh] | rw [Zd (by decide)] | rw [Zi] | rw [Ze] | rw [Zf] | rw [Zb (by decide)] | rw [Zz] | rw [Zu (by simp [go_sem, hi, hlen, w1, hv, hpl, ZA, ZR, e60a, e21, hd, hj, g7, gv, ha, h7, z2, z3, z4, z5]; exact ⟨rfl, rfl⟩)] | rw [Zw (by simp [lk, Za, Od.v, hi, hlen, w1, hv, hpl, ZA, ZR, e60a, e21, hd, hj, g7, gv, ha, h7, z2, z3, z4, z5]; exact rfl)] | rw [Zx]))
      simp [Za, lk]
  by_cases c8 : ask = 8
  · subst c8
    rcases bft (okA xa dn.length) with oa | oa
    · rw [oa] at e60a
      refine fin .nils [] (.inr ⟨rfl, rfl⟩) (by intro y hy; cases hy) (by simp) (by simp [oa]) ?_
      intro D' h2 o g m hrow ha h7
      subst hrow
      clear fin at1
      generalize H.length + 1 = p7 at *
      unfold lp39_0
      (repeat (first | rw [Zj] | rw [Zc (by simp [go_sem, hi, hlen, w1, hv, hpl, ZA, ZR, e60a, g7, gv, ha, h7, z2, y3, y4, y5]; exact ⟨rfl, rfl⟩)] | rw [Zv (by simp [lk, Za, Od.v, hi, hlen, w1, hv, hpl, ZA, ZR, e60a, g7, gv, ha, h7, z2, y3, y4, y5]; exact rfl)] | rw [Zp] | rw [Zm] | rw [Zl] | rw [Zy] | rw [Zq] | rw [Zt] | rw [Zo] | rw [Zn] | rw [Zk] | rw [Zg] | rw [Zh] | rw [Zd (by decide)] | rw [Zi] | rw [Ze] | rw [Zf] | rw [Zb (by decide)] | rw [Zz] | rw [Zu (by simp [go_sem, hi, hlen, w1, hv, hpl, ZA, ZR, e60a, g7, gv, ha, h7, z2, y3, y4, y5]; exact ⟨rfl, rfl⟩)] | rw [Zw (by simp [lk, Za, Od.v, hi, hlen, w1, hv, hpl, ZA, ZR, e60a, g7, gv, ha, h7, z2, y3, y4, y5]; exact rfl)] | rw [Zx]))
      simp [Za, lk]
    · rw [oa] at e60a
      rcases bft (okA xb dn.length) with ob | ob
      · rw [ob] at e60b
        refine fin .nils [] (.inr ⟨rfl, rfl⟩) (by intro y hy; cases hy) (by simp) (by simp [oa, ob]) ?_
        intro D' h2 o g m hrow ha h7
        subst hrow
        clear fin at1
        generalize H.length + 1 = p7 at *
        unfold lp39_0
        (repeat (first | rw [Zj] | rw [Zc (by simp [go_sem, hi, hlen, w1, hv, hpl, ZA, ZR, e60a, e60b, g7, gv, ha, h7, z2, y3, y4, y5]; exact ⟨rfl, rfl⟩)] | rw [Zv (by simp [lk, Za, Od.v, hi, hlen, w1, hv, hpl, ZA, ZR, e60a, e60b, g7, gv, ha, h7, z2, y3, y4, y5]; exact rfl)] | rw [Zp] | rw [Zm] | rw [Zl] | rw [Zy] | rw [Zq] | rw [Zt] | rw [Zo] | rw [Zn] | rw [Zk] | rw [Zg] | rw [Zh] | rw [Zd (by decide)] | rw [Zi] | rw [Ze] | rw [Zf] | rw [Zb (by decide)] | rw [Zz] | rw [Zu (by simp [go_sem, hi, hlen, w1, hv, hpl, ZA, ZR, e60a, e60b, g7, gv, ha, h7, z2, y3, y4, y5]; exact ⟨rfl, rfl⟩)] | rw [Zw (by simp [lk, Za, Od.v, hi, hlen, w1, hv, hpl, ZA, ZR, e60a, e60b, g7, gv, ha, h7, z2, y3, y4, y5]; exact rfl)] | rw [Zx]))
        simp [Za, lk]
      · rw [ob] at e60b
        obtain ⟨j, W, ws, rfl, hj, ⟨_, hd⟩, hg, hW, hB, hl⟩ := at1 oa
        obtain ⟨j', W', ws', rfl, hj', ⟨_, hd'⟩, hg', hW', hB', hl'⟩ := at1 ob
        have e19 := fun G => run68 hW hW' hB hB' (by omega) (h ++ G)
        refine fin _ (andW ws ws') (.inl rfl) (andW_WB hB) (by simp [andW]; omega) (by rw [← hg, ← hg']; simp [oa, ob]) ?_
        intro D' h2 o g m hrow ha h7
        subst hrow
        clear fin at1
        generalize andW ws ws' = us at *
        generalize H.length + 1 = p7 at *
        unfold lp39_0
        (repeat (first | rw [Zj] | rw [Zc (by simp [go_sem, hi, hlen, w1, hv, hpl, ZA, ZR, e60a, e60b, e19, hd, hj, hd', hj', g7, gv, ha, h7, z2, z3, z4, z5]; exact ⟨rfl, rfl⟩)] | rw [Zv (by simp [lk, Za, Od.v, hi, hlen, w1, hv, hpl, ZA, ZR, e60a, e60b, e19, hd, hj, hd', hj', g7, gv, ha, h7, z2, z3, z4, z5]; exact rfl)] | rw [Zp] | rw [Zm] | rw [Zl] | rw [Zy] | rw [Zq] | rw [Zt] | rw [Zo] | rw [Zn] | rw [Zk] | rw [Zg] | rw [Zh] | rw [Zd (by decide)] | rw [Zi] | rw [Ze] | rw [Zf] | rw [Zb (by decide)] | rw [Zz] | rw [Zu (by simp [go_sem, hi, hlen, w1, hv, hpl, ZA, ZR, e60a, e60b, e19, hd, hj, hd', hj', g7, gv, ha, h7, z2, z3, z4, z5]; exact ⟨rfl, rfl⟩)] | rw [Zw (by simp [lk, Za, Od.v, hi, hlen, w1, hv, hpl, ZA, ZR, e60a, e60b, e19, hd, hj, hd', hj', g7, gv, ha, h7, z2, z3, z4, z5]; exact rfl)] | rw [Zx]))
        simp [Za, lk]
  by_cases c9 : ask = 9
  · subst c9
    rcases bft (okA xa dn.length) with oa | oa
    · rw [oa] at e60a
      refine fin .nils [] (.inr ⟨rfl, rfl⟩) (by intro y hy; cases hy) (by simp) (by simp [oa]) ?_
      intro D' h2 o g m hrow ha h7
      subst hrow
      clear fin at1
      generalize H.length + 1 = p7 at *
      unfold lp39_0
      (repeat (first | rw [Zj] | rw [Zc (by simp [go_sem, hi, hlen, w1, hv, hpl, ZA, ZR, e60a, g7, gv, ha, h7, z2, y3, y4, y5]; exact ⟨rfl, rfl⟩)] | rw [Zv (by simp [lk, Za, Od.v, hi, hlen, w1, hv, hpl, ZA, ZR, e60a, g7, gv, ha, h7, z2, y3, y4, y5]; exact rfl)] | rw [Zp] | rw [Zm] | rw [Zl] | rw [Zy] | rw [Zq] | rw [Zt] | rw [Zo] | rw [Zn] | rw [Zk] | rw [Zg] | rw [Zh] | rw [Zd (by decide)] | rw [Zi] | rw [Ze] | rw [Zf] | rw [Zb (by decide)] | rw [Zz] | rw [Zu (by simp [go_sem, hi, hlen, w1, hv, hpl, ZA, ZR, e60a, g7, gv, ha, h7, z2, y3, y4, y5]; exact ⟨rfl, rfl⟩)] | rw [Zw (by simp [lk, Za, Od.v, hi, hlen, w1, hv, hpl, ZA, ZR, e60a, g7, gv, ha, h7, z2, y3, y4, y5]; exact rfl)] | rw [Zx]))
      simp [Za, lk]
    · rw [oa] at e60a
      rcases bft (okA xb dn.length) with ob | ob
      · rw [ob] at e60b
        refine fin .nils [] (.inr ⟨rfl, rfl⟩) (by intro y hy; cases hy) (by simp) (by simp [oa, ob]) ?_
        intro D' h2 o g m hrow ha h7
        subst hrow
        clear fin at1
        generalize H.length + 1 = p7 at *
        unfold lp39_0
        (repeat (first | rw [Zj] | rw [Zc (by simp [go_sem, hi, hlen, w1, hv, hpl, ZA, ZR, e60a, e60b, g7, gv, ha, h7, z2, y3, y4, y5]; exact ⟨rfl, rfl⟩)] | rw [Zv (by simp [lk, Za, Od.v, hi, hlen, w1, hv, hpl, ZA, ZR, e60a, e60b, g7, gv, ha, h7, z2, y3, y4, y5]; exact rfl)] | rw [Zp] | rw [Zm] | rw [Zl] | rw [Zy] | rw [Zq] | rw [Zt] | rw [Zo] | rw [Zn] | rw [Zk] | rw [Zg] | rw [Zh] | rw [Zd (by decide)] | rw [Zi] | rw [Ze] | rw [Zf] | rw [Zb (by decide)] | rw [Zz] | rw [Zu (by simp [go_sem, hi, hlen, w1, hv, hpl, ZA, ZR, e60a, e60b, g7, gv, ha, h7, z2, y3, y4, y5]; exact ⟨rfl, rfl⟩)] | rw [Zw (by simp [lk, Za, Od.v, hi, hlen, w1, hv, hpl, ZA, ZR, e60a, e60b, g7, gv, ha, h7, z2, y3, y4, y5]; exact rfl)] | rw [Zx]))
        simp [Za, lk]
      · rw [ob] at e60b
        obtain ⟨j, W, ws, rfl, hj, ⟨_, hd⟩, hg, hW, hB, hl⟩ := at1 oa
        obtain ⟨j', W', ws', rfl, hj', ⟨_, hd'⟩, hg', hW', hB', hl'⟩ := at1 ob
        have e20 := fun G => run69 hW hW' hB hB' (by omega) (by omega) (h ++ G)
        refine fin _ (orW ws ws') (.inl rfl) (orW_WB hB hB') (by simp [orW]; omega) (by rw [← hg, ← hg']; simp [oa, ob]) ?_
        intro D' h2 o g m hrow ha h7
        subst hrow
        clear fin at1
        generalize orW ws ws' = us at *
        generalize H.length + 1 = p7 at *
        unfold lp39_0
        (repeat (first | rw [Zj] | rw [Zc (by simp [go_sem, hi, hlen, w1, hv, hpl, ZA, ZR, e60a, e60b, e20, hd, hj, hd', hj', g7, gv, ha, h7, z2, z3, z4, z5]; exact ⟨rfl, rfl⟩)] | rw [Zv (by simp [lk, Za, Od.v, hi, hlen, w1, hv, hpl, ZA, ZR, e60a, e60b, e20, hd, hj, hd', hj', g7, gv, ha, h7, z2, z3, z4, z5]; exact rfl)] | rw [Zp] | rw [Zm] | rw [Zl] | rw [Zy] | rw [Zq] | rw [Zt] | rw [Zo] | rw [Zn] | rw [Zk] | rw [Zg] | rw [Zh] | rw [Zd (by decide)] | rw [Zi] | rw [Ze] | rw [Zf] | rw [Zb (by decide)] | rw [Zz] | rw [Zu (by simp [go_sem, hi, hlen, w1, hv, hpl, ZA, ZR, e60a, e60b, e20, hd, hj, hd', hj', g7, gv, ha, h7, z2, z3, z4, z5]; exact ⟨rfl, rfl⟩)] | rw [Zw (by simp [lk, Za, Od.v, hi, hlen, w1, hv, hpl, ZA, ZR, e60a, e60b, e20, hd, hj, hd', hj', g7, gv, ha, h7, z2, z3, z4, z5]; exact rfl)] | rw [Zx]))
        simp [Za, lk]
  have c8' : (ask == 8) = false := by simpa using c8
  have c9' : (ask == 9) = false := by simpa using c9
  have c10' : (ask == 10) = false := by simpa using c10
  by_cases d1 : 1 ≤ ask
  · have d2 : ¬ ask ≤ 7 := fun h => c1 ⟨d1, h⟩
    have d3 : ¬ ask < 1 := by omega
    have d4 : 7 < ask := by omega
    refine fin .nils [] (.inr ⟨rfl, rfl⟩) (by intro y hy; cases hy) (by simp) (by simp [c0, c1, c8, c9, c10]) ?_
    intro D' h2 o g m hrow ha h7
    subst hrow
    clear fin at1
    generalize H.length + 1 = p7 at *
    unfold lp39_0
    (repeat (first | rw [Zj] | rw [Zc (by simp [go_sem, hi, hlen, w1, hv, hpl, ZA, ZR, c0, c0', c8, c8', c9, c9', c10, c10', d1, d2, d3, d4, g7, gv, ha, h7, z2, y3, y4, y5]; exact ⟨rfl, rfl⟩)] | rw [Zv (by simp [lk, Za, Od.v, hi, hlen, w1, hv, hpl, ZA, ZR, c0, c0', c8, c8', c9, c9', c10, c10', d1, d2, d3, d4, g7, gv, ha, h7, z2, y3, y4, y5]; exact rfl)] | rw [Zp] | rw [Zm] | rw [Zl] | rw [Zy] | rw [Zq] | rw [Zt] | rw [Zo] | rw [Zn] | rw [Zk] | rw [Zg] | rw [Zh] | rw [Zd (by decide)] | rw [Zi] | rw [Ze] | rw [Zf] | rw [Zb (by decide)] | rw [Zz] | rw [Zu (by simp [go_sem, hi, hlen, w1, hv, hpl, ZA, ZR, c0, c0', c8, c8', c9, c9', c10, c10', d1, d2, d3, d4, g7, gv, ha, h7, z2, y3, y4, y5]; exact ⟨rfl, rfl⟩)] | rw [Zw (by simp [lk, Za, Od.v, hi, hlen, w1, hv, hpl, ZA, ZR, c0, c0', c8, c8', c9, c9', c10, c10', d1, d2, d3, d4, g7, gv, ha, h7, z2, y3, y4, y5]; exact rfl)] | rw [Zx]))
    simp [Za, lk]
  · have d3 : ask < 1 := by omega
    refine fin .nils [] (.inr ⟨rfl, rfl⟩) (by intro y hy; cases hy) (by simp) (by simp [c0, c1, c8, c9, c10]) ?_
    intro D' h2 o g m hrow ha h7
    subst hrow
    clear fin at1
    generalize H.length + 1 = p7 at *
    unfold lp39_0
    (repeat (first | rw [Zj] | rw [Zc (by simp [go_sem, hi, hlen, w1, hv, hpl, ZA, ZR, c0, c0', c8, c8', c9, c9', c10, c10', d1, d3, g7, gv, ha, h7, z2, y3, y4, y5]; exact ⟨rfl, rfl⟩)] | rw [Zv (by simp [lk, Za, Od.v, hi, hlen, w1, hv, hpl, ZA, ZR, c0, c0', c8, c8', c9, c9', c10, c10', d1, d3, g7, gv, ha, h7, z2, y3, y4, y5]; exact rfl)] | rw [Zp] | rw [Zm] | rw [Zl] | rw [Zy] | rw [Zq] | rw [Zt] | rw [Zo] | rw [Zn] | rw [Zk] | rw [Zg] | rw [Zh] | rw [Zd (by decide)] | rw [Zi] | rw [Ze] | rw [Zf] | rw [Zb (by decide)] | rw [Zz] | rw [Zu (by simp [go_sem, hi, hlen, w1, hv, hpl, ZA, ZR, c0, c0', c8, c8', c9, c9', c10, c10', d1, d3, g7, gv, ha, h7, z2, y3, y4, y5]; exact ⟨rfl, rfl⟩)] | rw [Zw (by simp [lk, Za, Od.v, hi, hlen, w1, hv, hpl, ZA, ZR, c0, c0', c8, c8', c9, c9', c10, c10', d1, d3, g7, gv, ha, h7, z2, y3, y4, y5]; exact rfl)] | rw [Zx]))
    simp [Za, lk]
/-- The words of all nodes' sets. -/
def dnW (n : Nat) (leaf : N → List Nat) (xs : List N) : List (List Nat) := xs.foldl (fun dn x => dn ++ [stepW n leaf dn x]) []
theorem dnW_snoc (n : Nat) (leaf : N → List Nat) (xs : List N) (x : N) : dnW n leaf (xs ++ [x]) = dnW n leaf xs ++ [stepW n leaf (dnW n leaf xs) x] := by
  simp [dnW, List.foldl_append]
theorem dnW_len (n : Nat) (leaf : N → List Nat) (xs : List N) : (dnW n leaf xs).length = xs.length := by
  have : ∀ (l : List N) (dn : List (List Nat)), (l.foldl (fun dn x => dn ++ [stepW n leaf dn x]) dn).length = dn.length + l.length := by
    intro l
    induction l with
    | nil => intro dn; simp
    | cons a l ih => intro dn; simp [ih]; omega
  simpa [dnW] using this xs []
/-- The words of a filter's set. -/
def setsW (n : Nat) (leaf : N → List Nat) (xs : List N) : List Nat := if xs.length = 0 then uptoW n else (dnW n leaf xs).getD (xs.length - 1) []
/-- A heap that only grew. -/
def UpF (H h : ZD) : Prop := h.take H.length = H
theorem UpF.ex {H h : ZD} (u : UpF H h) : ∃ L, h = H ++ L := ⟨h.drop H.length, by
  have := List.take_append_drop H.length h
  rw [u] at this
  exact this.symm⟩
theorem loop39 {H : ZD} {L : DV} {xs : List N} {n f : Nat} {cap : List DV} {leaf : N → List Nat} (hn : n ≤ 65536) (hL : ∀ G, vw (H ++ G) 8 L = some (xs.map N.d)) (hb : xs.length ≤ 1000000) (hlf : LeafOk H f cap leaf) :
    ∀ (m i : Nat) (h : ZD) (D : DV) (ds : List DV), xs.length - i ≤ m → i ≤ xs.length → DoneAt H h D ds → SetsV ds (dnW n leaf (xs.take i)) →
      ∃ y ex h' D' ds', C X (.loop lp39_0) [(1, .int .i64 n), (2, .func f cap []), (6, .ref H.length 0), (7, .ref (H.length + 1) 0), (8, .func 66 [] [.ref (H.length + 1) 0]), (18, L), (19, .int .i64 xs.length), (20, .int .i64 i)] h =
        some (.exit 0, (1, .int .i64 n) :: (2, .func f cap []) :: (6, .ref H.length 0) :: (7, .ref (H.length + 1) 0) :: (8, .func 66 [] [.ref (H.length + 1) 0]) :: (18, L) :: (19, .int .i64 xs.length) :: (20, y) :: ex, h') ∧
        DoneAt H h' D' ds' ∧ SetsV ds' (dnW n leaf xs) := by
  intro m
  induction m with
  | zero =>
    intro i h D ds hm hi hD hS
    obtain rfl : i = xs.length := by omega
    rw [List.take_length] at hS
    refine ⟨.int .i64 xs.length, [(21, .bool false)], h, D, ds, ?_, hD, hS⟩
    rw [Yh]
    unfold lp39_0
    (repeat (first | rw [Zj] | rw [Zc (by simp [go_sem]; exact ⟨rfl, rfl⟩)] | rw [Zv (by simp [lk, Za, Od.v]; exact rfl)] | rw [Zp] | rw [Zm] | rw [Zl] | rw [Zy] | rw [Zq] | rw [Zt] | rw [Zo] | rw [Zn] | rw [Zk] | rw [Zg] | rw [Zh] | rw [Zd (by decide)] | rw [Zi] | rw [Ze] | rw [Zf] | rw [Zb (by decide)] | rw [Zz] | rw [Zu (by simp [go_sem]; exact ⟨rfl, rfl⟩)] | rw [Zw (by simp [lk, Za, Od.v]; exact rfl)] | rw [Zx]))
    rw [Yx]
    simp [Za, lk]
  | succ m ih =>
    intro i h D ds hm hi hD hS
    by_cases c1 : i < xs.length
    · obtain ⟨I, hI⟩ : ∃ I, I = i + 1 := ⟨_, rfl⟩
      obtain ⟨G, hG⟩ := UpF.ex hD.pre
      have hv : vw h 8 L = some (xs.map N.d) := by rw [hG]; exact hL G
      have hdl : ds.length ≤ 1000000 := by rw [hS.1, dnW_len, List.length_take]; omega
      obtain ⟨h', D', d, hc, hD', hV⟩ := step39 (f := f) (cap := cap) (leaf := leaf) hn hv hb hD hS hdl (fun G' x => by rw [hG, List.append_assoc]; exact hlf (G ++ G') x) c1 hI
      have ht : xs.take I = xs.take i ++ [xs[i]] := by rw [hI, List.take_add_one, List.getElem?_eq_getElem c1]; rfl
      rw [Yh, hc, Yw]
      refine ih I h' D' (ds ++ [d]) (by omega) (by omega) hD' ?_
      rw [ht, dnW_snoc]
      exact hS.snoc hV
    · exact ih i h D ds (by omega) hi hD hS
theorem run39 {H : ZD} {L : DV} {xs : List N} {n f : Nat} {cap : List DV} {leaf : N → List Nat} (hn : n ≤ 65536) (hL : ∀ G, vw (H ++ G) 8 L = some (xs.map N.d)) (hb : xs.length ≤ 1000000) (hlf : LeafOk H f cap leaf) :
    ∃ W, E X 39 [L, .int .i64 n, .func f cap []] H = some (.agg [W], H) ∧ WL W (setsW n leaf xs) ∧ WB (setsW n leaf xs) ∧ (setsW n leaf xs).length ≤ 1024 := by
  have hv1 := hL [.box 38 [.nils]]
  have hlen : (xs.map N.d).length = xs.length := by simp
  by_cases c0 : xs.length = 0
  · have e40 := run65 n hn (H ++ [.box 38 [.nils]])
    refine ⟨.list 1 ((uptoW n).map uD) false, ?_, by simp only [setsW, if_pos c0]; exact .inl rfl, by simp only [setsW, if_pos c0]; exact uptoW_WB n, by simp only [setsW, if_pos c0]; exact uptoW_ln hn⟩
    have c0' : xs = [] := List.length_eq_zero_iff.1 c0
    subst c0'
    generalize uptoW n = up at *
    rw [Yc (X := X) _ b39 _ rfl rfl]; unfold b39
    (repeat (first | rw [Zj] | rw [Zc (by simp [go_sem, hv1, e40]; exact ⟨rfl, rfl⟩)] | rw [Zv (by simp [lk, Za, Od.v, hv1, e40]; exact rfl)] | rw [Zp] | rw [Zm] | rw [Zl] | rw [Zy] | rw [Zq] | rw [Zt] | rw [Zo] | rw [Zn] | rw [Zk] | rw [Zg] | rw [Zh] | rw [Zd (by decide)] | rw [Zi] | rw [Ze] | rw [Zf] | rw [Zb (by decide)] | rw [Zz] | rw [Zu (by simp [go_sem, hv1, e40]; exact ⟨rfl, rfl⟩)] | rw [Zw (by simp [lk, Za, Od.v, hv1, e40]; exact rfl)] | rw [Zx]))
    simp [Zs, Zr, ZY, Za, lk, ZA, hget, Yb, Yj, Yd, YB]
    exact fin_set
  · have hv2 := hL [.box 38 [.nils], .box 104 [.nils]]
    have hD0 : DoneAt H (H ++ [.box 38 [.nils], .box 104 [.nils]]) .nils [] := ⟨List.take_left, by simp [Yb], by simp [hget], .inl ⟨rfl, rfl⟩⟩
    obtain ⟨y, ex, h', D', ds', hc, hD, hS⟩ := loop39 hn hL hb hlf xs.length 0 _ _ _ (by omega) (by omega) hD0 ⟨rfl, fun i d ws h1 => by simp at h1⟩
    rw [show ((0 : Nat) : Int) = 0 from rfl] at hc
    have hl : ds'.length = xs.length := by rw [hS.1, dnW_len]
    have hk : xs.length - 1 < ds'.length := by omega
    have hk2 : xs.length - 1 < (dnW n leaf xs).length := by rw [dnW_len]; omega
    obtain ⟨⟨W, hW1, hW⟩, hB, hw⟩ := hS.2 _ _ _ (List.getElem?_eq_getElem hk) (List.getElem?_eq_getElem hk2)
    have hsW : setsW n leaf xs = (dnW n leaf xs)[xs.length - 1] := by simp only [setsW, if_neg c0, List.getD, List.getElem?_eq_getElem hk2, Option.getD_some]
    rw [← hsW] at hW hB hw
    refine ⟨W, ?_, hW, hB, hw⟩
    have c0' : ((xs.length : Int) == 0) = false := by simpa using c0
    have c1 : IntKind.i64.wrap ((xs.length : Int) - 1) = ((xs.length - 1 : Nat) : Int) := (by rw [wrap64 _ (by omega) (by omega)]; omega)
    generalize hK : xs.length - 1 = K at *
    have g6 := hD.b6
    have g7 := hD.b7
    have gv := hD.vw
    have g4 : H.length < h'.length := by have := hD.len; omega
    have g3 : (h'.set H.length (.box 38 [W]))[H.length]? = some (.box 38 [W]) := List.getElem?_set_self g4
    have hf : fin H (h'.set H.length (.box 38 [W])) [.agg [W]] = (.agg [W], H) := fin_wl hW (by
      rw [List.take_set, List.set_eq_of_length_le (by simp; omega)]; exact hD.pre)
    have hrow : ∃ o g, D' = .row o g 0 ds'.length false := by
      rcases hD.row with ⟨_, h1⟩ | ⟨o, g, h1, _⟩
      · subst h1; simp at hl; omega
      · exact ⟨o, g, h1⟩
    obtain ⟨o, g, hrow⟩ := hrow
    have hlen' : ds'.length = xs.length := hl
    clear hD hS hD0 hL hlf hsW hB hw
    rw [Yc (X := X) _ b39 _ rfl rfl]; unfold b39
    (repeat (first | rw [Zj] | rw [Zc (by simp [go_sem, hv1, hv2, hlen, c0']; exact ⟨rfl, rfl⟩)] | rw [Zv (by simp [lk, Za, Od.v, hv1, hv2, hlen, c0']; exact rfl)] | rw [Zp] | rw [Zm] | rw [Zl] | rw [Zy] | rw [Zq] | rw [Zt] | rw [Zo] | rw [Zn] | rw [Zk] | rw [Zg] | rw [Zh] | rw [Zd (by decide)] | rw [Zi] | rw [Ze] | rw [Zf] | rw [Zb (by decide)] | rw [Zz] | rw [Zu (by simp [go_sem, hv1, hv2, hlen, c0']; exact ⟨rfl, rfl⟩)] | rw [Zw (by simp [lk, Za, Od.v, hv1, hv2, hlen, c0']; exact rfl)] | rw [Zx]))
    (try simp only [Za, List.map_cons, List.map_nil, lk, reduceIte, Nat.reduceEqDiff, Nat.zero_ne_one, Nat.one_ne_zero])
    rw [hc]
    subst hrow
    have hk' : K < xs.length := by omega
    rw [hl] at g7 gv
    rcases hW with rfl | ⟨rfl, hz⟩
    · (repeat (first | rw [Zj] | rw [Zc (by simp [go_sem, g6, g7, gv, hl, c1, hk, hk', hW1, ZR]; exact ⟨rfl, rfl⟩)] | rw [Zv (by simp [lk, Za, Od.v, g6, g7, gv, hl, c1, hk, hk', hW1, ZR]; exact rfl)] | rw [Zp] | rw [Zm] | rw [Zl] | rw [Zy] | rw [Zq] | rw [Zt] | rw [Zo] | rw [Zn] | rw [Zk] | rw [Zg] | rw [Zh] | rw [Zd (by decide)] | rw [Zi] | rw [Ze] | rw [Zf] | rw [Zb (by decide)] | rw [Zz] | rw [Zu (by simp [go_sem, g6, g7, gv, hl, c1, hk, hk', hW1, ZR]; exact ⟨rfl, rfl⟩)] | rw [Zw (by simp [lk, Za, Od.v, g6, g7, gv, hl, c1, hk, hk', hW1, ZR]; exact rfl)] | rw [Zx]))
      simp [Zs, Zr, ZY, Za, lk, ZA, g3, YB]
      exact hf
    · (repeat (first | rw [Zj] | rw [Zc (by simp [go_sem, g6, g7, gv, hl, c1, hk, hk', hW1, ZR]; exact ⟨rfl, rfl⟩)] | rw [Zv (by simp [lk, Za, Od.v, g6, g7, gv, hl, c1, hk, hk', hW1, ZR]; exact rfl)] | rw [Zp] | rw [Zm] | rw [Zl] | rw [Zy] | rw [Zq] | rw [Zt] | rw [Zo] | rw [Zn] | rw [Zk] | rw [Zg] | rw [Zh] | rw [Zd (by decide)] | rw [Zi] | rw [Ze] | rw [Zf] | rw [Zb (by decide)] | rw [Zz] | rw [Zu (by simp [go_sem, g6, g7, gv, hl, c1, hk, hk', hW1, ZR]; exact ⟨rfl, rfl⟩)] | rw [Zw (by simp [lk, Za, Od.v, g6, g7, gv, hl, c1, hk, hk', hW1, ZR]; exact rfl)] | rw [Zx]))
      simp [Zs, Zr, ZY, Za, lk, ZA, g3, YB]
      exact hf
theorem foldl_putW_len : ∀ (l ws : List Nat), (∀ x ∈ l, x < 65536) → ws.length ≤ 1024 → (l.foldl putW ws).length ≤ 1024
  | [], ws, _, h => h
  | x :: l, ws, hl, h => by
    rw [List.foldl_cons]
    refine foldl_putW_len l _ (fun y hy => hl y (List.mem_cons_of_mem _ hy)) ?_
    have := hl x (List.mem_cons_self ..)
    rw [putW_len]
    omega
theorem ofW_len {l : List Nat} (hl : ∀ x ∈ l, x < 65536) : (ofW l).length ≤ 1024 := foldl_putW_len l [] hl (by simp)
theorem leafI_lt (x : N) (rs : List (List V)) (n : Nat) : ∀ k ∈ leafI x rs n, k < n := by
  intro k hk
  have := (List.mem_filter.1 hk).1
  rwa [List.mem_range] at this
/-- The words of a filter's rows. -/
def rowsW (xs : List N) (rs : List (List V)) : List Nat := setsW rs.length (fun x => ofW (leafI x rs rs.length)) xs
theorem run13 {H : ZD} {L A : DV} {xs : List N} {ds : List DV} {rs : List (List V)} (hL : ∀ G, vw (H ++ G) 8 L = some (xs.map N.d)) (hA : ∀ G, vw (H ++ G) 1 A = some ds) (hd : RowsL ds rs) (hb : xs.length ≤ 1000000) (hr : rs.length ≤ 65536) :
    ∃ W, E X 13 [L, A] H = some (.agg [W], H) ∧ WL W (rowsW xs rs) ∧ WB (rowsW xs rs) ∧ (rowsW xs rs).length ≤ 1024 := by
  have hlf : LeafOk (H ++ [.box 38 [.nils]]) 41 [A] (fun x => ofW (leafI x rs rs.length)) := by
    intro G x
    obtain ⟨W, h1, h2⟩ := run41 (A := A) (H := H ++ [.box 38 [.nils]] ++ G) x (fun G' => by rw [List.append_assoc, List.append_assoc]; exact hA _) hd hr
    exact ⟨W, h1, h2, ofW_WB _, ofW_len (fun k hk => by have := leafI_lt x rs _ k hk; omega)⟩
  obtain ⟨W, h1, h2, h3, h4⟩ := run39 (H := H ++ [.box 38 [.nils]]) (L := L) (n := rs.length) hr (fun G => by rw [List.append_assoc]; exact hL _) hb hlf
  refine ⟨W, ?_, h2, h3, h4⟩
  have hv := hA [.box 38 [.nils]]
  have hl := hd.1
  have g3 : (H ++ [HO.box 38 [W]])[H.length]? = some (.box 38 [W]) := by simp
  have hf : fin H (H ++ [HO.box 38 [W]]) [.agg [W]] = (.agg [W], H) := fin_wl h2 List.take_left
  change WL W (rowsW xs rs) at h2
  rw [Yc (X := X) _ b13 _ rfl rfl]; unfold b13
  rcases h2 with rfl | ⟨rfl, hz⟩
  · (repeat (first | rw [Zj] | rw [Zc (by simp [go_sem, hv, hl, h1]; exact ⟨rfl, rfl⟩)] | rw [Zv (by simp [lk, Za, Od.v, hv, hl, h1]; exact rfl)] | rw [Zp] | rw [Zm] | rw [Zl] | rw [Zy] | rw [Zq] | rw [Zt] | rw [Zo] | rw [Zn] | rw [Zk] | rw [Zg] | rw [Zh] | rw [Zd (by decide)] | rw [Zi] | rw [Ze] | rw [Zf] | rw [Zb (by decide)] | rw [Zz] | rw [Zu (by simp [go_sem, hv, hl, h1]; exact ⟨rfl, rfl⟩)] | rw [Zw (by simp [lk, Za, Od.v, hv, hl, h1]; exact rfl)] | rw [Zx]))
    simp [Zs, Zr, ZY, Za, lk, ZA, g3, YB]
    exact hf
  · (repeat (first | rw [Zj] | rw [Zc (by simp [go_sem, hv, hl, h1]; exact ⟨rfl, rfl⟩)] | rw [Zv (by simp [lk, Za, Od.v, hv, hl, h1]; exact rfl)] | rw [Zp] | rw [Zm] | rw [Zl] | rw [Zy] | rw [Zq] | rw [Zt] | rw [Zo] | rw [Zn] | rw [Zk] | rw [Zg] | rw [Zh] | rw [Zd (by decide)] | rw [Zi] | rw [Ze] | rw [Zf] | rw [Zb (by decide)] | rw [Zz] | rw [Zu (by simp [go_sem, hv, hl, h1]; exact ⟨rfl, rfl⟩)] | rw [Zw (by simp [lk, Za, Od.v, hv, hl, h1]; exact rfl)] | rw [Zx]))
    simp [Zs, Zr, ZY, Za, lk, ZA, g3, YB]
    exact hf
theorem V.nr (v : V) : Nr v.d := .agg (fun x hx => by
  simp at hx
  rcases hx with rfl | rfl | rfl | rfl
  · exact .int _ _
  · exact .int _ _
  · exact .str _
  · exact .bool _)
theorem RowL.nr {d : DV} {vs : List V} (h : RowL d vs) : Nr d := by
  rcases h with ⟨c, rfl⟩ | ⟨rfl, _⟩
  · exact .list (fun x hx => by obtain ⟨v, _, rfl⟩ := List.mem_map.1 hx; exact v.nr)
  · exact .nils
theorem run26 {H : ZD} {L d : DV} {xs : List N} {vs : List V} (hL : ∀ G, vw (H ++ G) 8 L = some (xs.map N.d)) (hd : RowL d vs) (hb : xs.length ≤ 1000000) : E X 26 [L, d] H = some (.bool (bit (rowsW xs [vs]) 0), H) := by
  have hd1 : RowsL [d] [vs] := ⟨rfl, fun i e us h1 h2 => by
    cases i with
    | zero => simp at h1 h2; subst h1; subst h2; exact hd
    | succ i => simp at h1⟩
  obtain ⟨W, h1, h2, h3, h4⟩ := run13 (A := .list 1 [d] true) hL (fun G => rfl) hd1 hb (by simp)
  have e24 := run53 h2 h3 0 (by omega) H
  have q2 : Nr d := hd.nr
  have q3 : Wc 1 d := by rcases hd with ⟨c, rfl⟩ | ⟨rfl, _⟩ <;> simp [Wc, DV.cells, DV.one]
  have q4 : ∀ h, eltL [d] h = some ([d], h) := by rcases hd with ⟨c, rfl⟩ | ⟨rfl, _⟩ <;> intro h <;> rfl
  rw [show ((0 : Nat) : Int) = 0 from rfl] at e24
  generalize bit (rowsW xs [vs]) 0 = bb at *
  clear hL hd1 h2 h3 h4
  rw [Yc (X := X) _ b26 _ rfl rfl]; unfold b26
  rcases hd with ⟨c, rfl⟩ | ⟨rfl, _⟩
  · (repeat (first | rw [Zj] | rw [Zc (by simp [go_sem, h1, e24, q2, q3, q4]; exact ⟨rfl, rfl⟩)] | rw [Zv (by simp [lk, Za, Od.v, h1, e24, q2, q3, q4]; exact rfl)] | rw [Zp] | rw [Zm] | rw [Zl] | rw [Zy] | rw [Zq] | rw [Zt] | rw [Zo] | rw [Zn] | rw [Zk] | rw [Zg] | rw [Zh] | rw [Zd (by decide)] | rw [Zi] | rw [Ze] | rw [Zf] | rw [Zb (by decide)] | rw [Zz] | rw [Zu (by simp [go_sem, h1, e24, q2, q3, q4]; exact ⟨rfl, rfl⟩)] | rw [Zw (by simp [lk, Za, Od.v, h1, e24, q2, q3, q4]; exact rfl)] | rw [Zx]))
    simp [Zr, Zs, ZY, go_sem, fin, Yu, Yt, YA, Yy, YC, h1]
  · (repeat (first | rw [Zj] | rw [Zc (by simp [go_sem, h1, e24, q2, q3, q4]; exact ⟨rfl, rfl⟩)] | rw [Zv (by simp [lk, Za, Od.v, h1, e24, q2, q3, q4]; exact rfl)] | rw [Zp] | rw [Zm] | rw [Zl] | rw [Zy] | rw [Zq] | rw [Zt] | rw [Zo] | rw [Zn] | rw [Zk] | rw [Zg] | rw [Zh] | rw [Zd (by decide)] | rw [Zi] | rw [Ze] | rw [Zf] | rw [Zb (by decide)] | rw [Zz] | rw [Zu (by simp [go_sem, h1, e24, q2, q3, q4]; exact ⟨rfl, rfl⟩)] | rw [Zw (by simp [lk, Za, Od.v, h1, e24, q2, q3, q4]; exact rfl)] | rw [Zx]))
    simp [Zr, Zs, ZY, go_sem, fin, Yu, Yt, YA, Yy, YC, h1]
theorem wordOf_u {n : Nat} (h : n < 18446744073709551616) : wordOf (uD n) = some n := by
  simp [wordOf, uD]; omega
theorem wordsOf_u : ∀ {ws : List Nat}, WB ws → wordsOf (ws.map uD) = some ws
  | [], _ => rfl
  | w :: ws, h => by
    simp only [List.map_cons, wordsOf, wordOf_u (h w (List.mem_cons_self ..)), wordsOf_u (fun x hx => h x (List.mem_cons_of_mem _ hx))]
/-- What List hands back. -/
def listD (l : List Nat) : DV := if l = [] then .nils else .fresh 3 1 (l.map iD)
theorem run25 {W : DV} {ws : List Nat} (hW : WL W ws) (bw : WB ws) (hl : ws.length ≤ 1024) (H : ZD) : E X 25 [.agg [W], .int .i64 (-1)] H = some (listD (bitsOf ws 0), H) := by
  rw [E_ext (X := X) (g := gList) H rfl, gList]
  rw [hW.vw]
  dsimp only
  rw [wordsOf_u bw]
  dsimp only
  rw [if_pos ⟨by omega, rfl⟩]
  rfl

/-- Texts of at most 300 bytes. -/
def fewT (x : N) : Bool := decide (x.val.s.size ≤ 300)
def fewN (xs : List N) : Bool := decide (xs.length ≤ 60) && xs.all fewT
theorem loop7 {h : ZD} {L : DV} {xs : List N} (hL : vw h 8 L = some (xs.map N.d)) (hb : xs.length ≤ 1000000) :
    ∀ (k i : Nat), xs.length - i ≤ k → i ≤ xs.length → (C X (.loop lp7_0) [(0, L), (3, .int .i64 i)] h = some (.ret, [(2, .bool false)], h) ∧ (xs.drop i).all fewT = false) ∨ (∃ e', C X (.loop lp7_0) [(0, L), (3, .int .i64 i)] h = some (.exit 0, e', h) ∧ (xs.drop i).all fewT = true) := by
  intro k
  induction k with
  | zero =>
    intro i hk hi
    obtain rfl : i = xs.length := by omega
    right
    rw [Yh]
    unfold lp7_0
    (repeat (first | rw [Zj] | rw [Zc (by simp [go_sem, hL]; exact ⟨rfl, rfl⟩)] | rw [Zv (by simp [lk, Za, Od.v, hL]; exact rfl)] | rw [Zp] | rw [Zm] | rw [Zl] | rw [Zy] | rw [Zq] | rw [Zt] | rw [Zo] | rw [Zn] | rw [Zk] | rw [Zg] | rw [Zh] | rw [Zd (by decide)] | rw [Zi] | rw [Ze] | rw [Zf] | rw [Zb (by decide)] | rw [Zz] | rw [Zu (by simp [go_sem, hL]; exact ⟨rfl, rfl⟩)] | rw [Zw (by simp [lk, Za, Od.v, hL]; exact rfl)] | rw [Zx]))
    rw [Yx]
    exact ⟨_, rfl, by simp⟩
  | succ k ih =>
    intro i hk hi
    by_cases w0 : i < xs.length
    · obtain ⟨I, hI⟩ : ∃ I, I = i + 1 := ⟨_, rfl⟩
      have w1 : IntKind.i64.wrap ((i : Int) + 1) = (I : Int) := (by rw [wrap64 _ (by omega) (by omega)]; omega)
      have d1 : xs.drop i = xs[i] :: xs.drop (i + 1) := List.drop_eq_getElem_cons w0
      obtain ⟨x, hg⟩ : ∃ x, xs[i] = x := ⟨_, rfl⟩
      rw [d1, ← hI, hg]
      have ih' := ih I (by omega) (by omega)
      by_cases he : x.val.s.size ≤ 300
      · have he' : ¬ (300 : Int) < x.val.s.size := by omega
        have hs : C X lp7_0 [(0, L), (3, .int .i64 i)] h = some (.norm, [(0, L), (3, .int .i64 I)], h) := by
          clear ih ih'
          unfold lp7_0
          (repeat (first | rw [Zj] | rw [Zc (by simp [go_sem, hL, w0, w1, ZR, hg, he']; exact ⟨rfl, rfl⟩)] | rw [Zv (by simp [lk, Za, Od.v, hL, w0, w1, ZR, hg, he']; exact rfl)] | rw [Zp] | rw [Zm] | rw [Zl] | rw [Zy] | rw [Zq] | rw [Zt] | rw [Zo] | rw [Zn] | rw [Zk] | rw [Zg] | rw [Zh] | rw [Zd (by decide)] | rw [Zi] | rw [Ze] | rw [Zf] | rw [Zb (by decide)] | rw [Zz] | rw [Zu (by simp [go_sem, hL, w0, w1, ZR, hg, he']; exact ⟨rfl, rfl⟩)] | rw [Zw (by simp [lk, Za, Od.v, hL, w0, w1, ZR, hg, he']; exact rfl)] | rw [Zx]))
          simp [Za, lk]
        rw [Yh, hs, Yw]
        rcases ih' with ⟨c1, c2⟩ | ⟨e', c1, c2⟩
        · exact .inl ⟨c1, by rw [List.all_cons, c2]; simp⟩
        · exact .inr ⟨e', c1, by rw [List.all_cons, c2]; simp [fewT, he]⟩
      · left
        have he' : (300 : Int) < x.val.s.size := by omega
        rw [Yh]
        unfold lp7_0
        (repeat (first | rw [Zj] | rw [Zc (by simp [go_sem, hL, w0, w1, ZR, hg, he']; exact ⟨rfl, rfl⟩)] | rw [Zv (by simp [lk, Za, Od.v, hL, w0, w1, ZR, hg, he']; exact rfl)] | rw [Zp] | rw [Zm] | rw [Zl] | rw [Zy] | rw [Zq] | rw [Zt] | rw [Zo] | rw [Zn] | rw [Zk] | rw [Zg] | rw [Zh] | rw [Zd (by decide)] | rw [Zi] | rw [Ze] | rw [Zf] | rw [Zb (by decide)] | rw [Zz] | rw [Zu (by simp [go_sem, hL, w0, w1, ZR, hg, he']; exact ⟨rfl, rfl⟩)] | rw [Zw (by simp [lk, Za, Od.v, hL, w0, w1, ZR, hg, he']; exact rfl)] | rw [Zx]))
        rw [lp_ret]
        exact ⟨by simp [Za, lk], by simp [fewT, he]⟩
    · exact ih i (by omega) hi
theorem run7 {h : ZD} {L : DV} {xs : List N} (hL : vw h 8 L = some (xs.map N.d)) : E X 7 [L] h = some (.bool (fewN xs), h) := by
  by_cases hl : xs.length ≤ 60
  · have hl' : ¬ (60 : Int) < xs.length := by omega
    rw [Yc (X := X) _ b7 _ rfl rfl]; unfold b7
    (repeat (first | rw [Zj] | rw [Zc (by simp [go_sem, hL, hl']; exact ⟨rfl, rfl⟩)] | rw [Zv (by simp [lk, Za, Od.v, hL, hl']; exact rfl)] | rw [Zp] | rw [Zm] | rw [Zl] | rw [Zy] | rw [Zq] | rw [Zt] | rw [Zo] | rw [Zn] | rw [Zk] | rw [Zg] | rw [Zh] | rw [Zd (by decide)] | rw [Zi] | rw [Ze] | rw [Zf] | rw [Zb (by decide)] | rw [Zz] | rw [Zu (by simp [go_sem, hL, hl']; exact ⟨rfl, rfl⟩)] | rw [Zw (by simp [lk, Za, Od.v, hL, hl']; exact rfl)] | rw [Zx]))
    rcases loop7 hL (by omega) xs.length 0 (by omega) (by omega) with ⟨c1, c2⟩ | ⟨e', c1, c2⟩
    · rw [show ((0 : Nat) : Int) = 0 from rfl] at c1
      (try simp only [Za, List.map_cons, List.map_nil, lk, reduceIte, Nat.reduceEqDiff, Nat.zero_ne_one, Nat.one_ne_zero])
      rw [c1]
      (repeat (first | rw [Zj] | rw [Zc (by simp [go_sem, hL]; exact ⟨rfl, rfl⟩)] | rw [Zv (by simp [lk, Za, Od.v, hL]; exact rfl)] | rw [Zp] | rw [Zm] | rw [Zl] | rw [Zy] | rw [Zq] | rw [Zt] | rw [Zo] | rw [Zn] | rw [Zk] | rw [Zg] | rw [Zh] | rw [Zd (by decide)] | rw [Zi] | rw [Ze] | rw [Zf] | rw [Zb (by decide)] | rw [Zz] | rw [Zu (by simp [go_sem, hL]; exact ⟨rfl, rfl⟩)] | rw [Zw (by simp [lk, Za, Od.v, hL]; exact rfl)] | rw [Zx]))
      rw [List.drop_zero] at c2
      simp [Zr, Zs, ZY, go_sem, fin, Yu, Yt, YA, Yy, YC, fewN, c2]
    · rw [show ((0 : Nat) : Int) = 0 from rfl] at c1
      (try simp only [Za, List.map_cons, List.map_nil, lk, reduceIte, Nat.reduceEqDiff, Nat.zero_ne_one, Nat.one_ne_zero])
      rw [c1]
      (repeat (first | rw [Zj] | rw [Zc (by simp [go_sem, hL]; exact ⟨rfl, rfl⟩)] | rw [Zv (by simp [lk, Za, Od.v, hL]; exact rfl)] | rw [Zp] | rw [Zm] | rw [Zl] | rw [Zy] | rw [Zq] | rw [Zt] | rw [Zo] | rw [Zn] | rw [Zk] | rw [Zg] | rw [Zh] | rw [Zd (by decide)] | rw [Zi] | rw [Ze] | rw [Zf] | rw [Zb (by decide)] | rw [Zz] | rw [Zu (by simp [go_sem, hL]; exact ⟨rfl, rfl⟩)] | rw [Zw (by simp [lk, Za, Od.v, hL]; exact rfl)] | rw [Zx]))
      rw [List.drop_zero] at c2
      simp [Zr, Zs, ZY, go_sem, fin, Yu, Yt, YA, Yy, YC, fewN, c2, hl]
  · have hl' : (60 : Int) < xs.length := by omega
    rw [Yc (X := X) _ b7 _ rfl rfl]; unfold b7; (repeat (first | rw [Zj] | rw [Zc (by simp [go_sem, hL, hl', fewN, hl]; exact ⟨rfl, rfl⟩)] | rw [Zv (by simp [lk, Za, Od.v, hL, hl', fewN, hl]; exact rfl)] | rw [Zp] | rw [Zm] | rw [Zl] | rw [Zy] | rw [Zq] | rw [Zt] | rw [Zo] | rw [Zn] | rw [Zk] | rw [Zg] | rw [Zh] | rw [Zd (by decide)] | rw [Zi] | rw [Ze] | rw [Zf] | rw [Zb (by decide)] | rw [Zz] | rw [Zu (by simp [go_sem, hL, hl', fewN, hl]; exact ⟨rfl, rfl⟩)] | rw [Zw (by simp [lk, Za, Od.v, hL, hl', fewN, hl]; exact rfl)] | rw [Zx])); simp [Zr, Zs, ZY, go_sem, fin, Yu, Yt, YA, Yy, YC, hL, hl', fewN, hl]
/-- The value that a node looks at. -/
def cellV (x : N) (vs : List V) : Option V := if 0 ≤ x.col then vs[x.col.toNat]? else none
/-- One node, by those ahead. -/
def refStep (vs : List V) (dn : List Bool) (x : N) : Bool :=
  if x.ask = 0 then true
  else if x.ask = 7 then (match cellV x vs with | some v => decide (v.k = 0) | none => false)
  else if x.ask = 8 then (okA x.a dn.length && okA x.b dn.length) && (dn.getD x.a.toNat false && dn.getD x.b.toNat false)
  else if x.ask = 9 then (okA x.a dn.length && okA x.b dn.length) && (dn.getD x.a.toNat false || dn.getD x.b.toNat false)
  else if x.ask = 10 then okA x.a dn.length && !dn.getD x.a.toNat false
  else match cellV x vs with | some v => cmpD x v | none => false
/-- The truths of the nodes ahead. -/
structure RefAt (H h : ZD) (n : Nat) (bl : List DV) (dn : List Bool) : Prop where
  pre : h.take H.length = H
  row : h[H.length]? = some (.row 4 1 0 bl)
  len : bl.length = n
  all : ∀ y ∈ bl, ∃ b, y = .bool b
  get : ∀ j, j < dn.length → bl[j]? = some (.bool (dn.getD j false))
theorem RefAt.len' {H h : ZD} {n : Nat} {bl : List DV} {dn : List Bool} (hR : RefAt H h n bl dn) : H.length < h.length := (List.getElem?_eq_some_iff.1 hR.row).1
theorem RefAt.vw {H h : ZD} {n : Nat} {bl : List DV} {dn : List Bool} (hR : RefAt H h n bl dn) (G : ZD) : vw (h ++ G) 1 (.row H.length 0 0 n false) = some bl := by
  have := hle hR.row G
  obtain rfl := hR.len
  simp [Go.Proofs.YtojhkbbnkhfnhaaGreatDoor.vw, this, List.take_of_length_le]
theorem RefAt.st {H h : ZD} {n : Nat} {bl : List DV} {dn : List Bool} (hR : RefAt H h n bl dn) (G : ZD) {i : Nat} (hi : i < n) (b : Bool) : stx (h ++ G) 1 (.elem (.row H.length 0 0 n false) 1 i 0) (.bool b) = some ((h ++ G).set H.length (.row 4 1 0 (bl.set i (.bool b)))) := by
  have h1 := hle hR.row G
  have hi' : i < bl.length := by rw [hR.len]; exact hi
  have h2 : bl[i]? = some bl[i] := List.getElem?_eq_getElem hi'
  rw [stx, if_pos (by simp [DV.cells, DV.one])]
  simp only [h1]
  rw [if_pos (by simp [hi, hR.len])]
  simp only [Nat.zero_add, h2]
  obtain ⟨b0, hb0⟩ := hR.all _ (List.getElem_mem hi')
  rw [hb0]
  simp [eput, DV.one]
theorem RefAt.next {H h : ZD} {n : Nat} {bl : List DV} {dn : List Bool} (hR : RefAt H h n bl dn) (G : ZD) (hi : dn.length < n) (b : Bool) : RefAt H ((h ++ G).set H.length (.row 4 1 0 (bl.set dn.length (.bool b)))) n (bl.set dn.length (.bool b)) (dn ++ [b]) where
  pre := by
    have := hR.len'
    rw [List.take_set, List.set_eq_of_length_le (by simp; omega), List.take_append_of_le_length (by omega)]
    exact hR.pre
  row := List.getElem?_set_self (by have := hR.len'; simp; omega)
  len := by simp [hR.len]
  all := by
    intro y hy
    rcases List.mem_or_eq_of_mem_set hy with hy | rfl
    · exact hR.all y hy
    · exact ⟨_, rfl⟩
  get := by
    intro j hj
    rw [List.length_append, List.length_singleton] at hj
    by_cases c : j = dn.length
    · subst c
      rw [List.getElem?_set_self (by rw [hR.len]; exact hi)]
      simp [List.getD]
    · rw [List.getElem?_set_ne (Ne.symm c), hR.get j (by omega)]
      simp [List.getD, List.getElem?_append_left (show j < dn.length by omega)]
section
variable {H1 : ZD} {L A R I6 : DV} {ds : List DV} {o : Nat} {ask col vk vn xa xb : Int} {vs' : ByteArray} {vt b8 b9 : Bool} {i : Nat}
end
/-- The truths of all nodes. -/
def refB (vs : List V) (xs : List N) : List Bool := xs.foldl (fun dn x => dn ++ [refStep vs dn x]) []
theorem refB_snoc (vs : List V) (xs : List N) (x : N) : refB vs (xs ++ [x]) = refB vs xs ++ [refStep vs (refB vs xs) x] := by
  simp [refB, List.foldl_append]
/-- Does a filter hold for a row, as the document says? -/
def holdsR (xs : List N) (vs : List V) : Bool := if xs.length = 0 then true else (refB vs xs).getD (xs.length - 1) false
/-- The rows for which a filter holds, as the document says. -/
def rowsI (xs : List N) (rs : List (List V)) (n : Nat) : List Nat := (List.range n).filter fun i => holdsR xs (rs.getD i [])
end Go.Proofs.YtojhkbbnkhfnhaaGreatDoor
namespace Go.Proofs.YtojhkbbnkhfnhaaGreatDoor
set_option linter.unusedVariables false
set_option linter.unusedSimpArgs false
theorem at_out {ws : List Nat} {k : Nat} (h : ws.length ≤ k) : at_ ws k = 0 := by simp [at_, List.getD, List.getElem?_eq_none h]
theorem at_map {n : Nat} {f : Nat → Nat} {k : Nat} (h : k < n) : at_ ((List.range n).map f) k = f k := by
  simp [at_, List.getD, h]
theorem bit_out {ws : List Nat} {i : Nat} (h : 64 * ws.length ≤ i) : bit ws i = false := by
  rw [bit, at_out (by omega)]; simp
theorem bit_upto (n i : Nat) : bit (uptoW n) i = decide (i < n) := by
  by_cases c : i / 64 < (n + 63) / 64
  · rw [bit, uptoW, at_map c]
    split
    · rename_i h
      rw [show (18446744073709551615 : Nat) = 2 ^ 64 - 1 from rfl, Nat.testBit_two_pow_sub_one]
      simp; omega
    · rename_i h
      rw [Nat.testBit_two_pow_sub_one]
      apply decide_eq_decide.2
      omega
  · rw [bit_out (by rw [uptoW_len]; omega)]
    symm; simp; omega
theorem bit_and (a b : List Nat) (i : Nat) : bit (andW a b) i = (bit a i && bit b i) := by
  by_cases c : i / 64 < min a.length b.length
  · rw [bit, andW, at_map c, Nat.testBit_and]; rfl
  · rw [bit_out (by simp [andW]; omega)]
    by_cases c2 : a.length ≤ i / 64
    · rw [bit_out (ws := a) (by omega)]; rfl
    · rw [bit_out (ws := b) (by omega)]; simp
theorem bit_or (a b : List Nat) (i : Nat) : bit (orW a b) i = (bit a i || bit b i) := by
  by_cases c : i / 64 < max a.length b.length
  · rw [bit, orW, at_map c, Nat.testBit_or]; rfl
  · rw [bit_out (by simp [orW]; omega), bit_out (ws := a) (by omega), bit_out (ws := b) (by omega)]; rfl
theorem testBit_not64 (b j : Nat) (hb : b < 18446744073709551616) (hj : j < 64) : (18446744073709551615 - b).testBit j = !b.testBit j := by
  rw [show 18446744073709551615 - b = 2 ^ 64 - (b + 1) by omega, Nat.testBit_two_pow_sub_succ hb]
  simp [hj]
theorem bit_not {ws : List Nat} (bw : WB ws) (n i : Nat) : bit (notW ws n) i = (decide (i < n) && !bit ws i) := by
  by_cases c : i / 64 < (n + 63) / 64
  · rw [bit, notW, at_map c, nw, Nat.testBit_and, testBit_not64 _ _ (bw.at _) (Nat.mod_lt _ (by decide))]
    have := bit_upto n i
    rw [bit] at this
    rw [this]; rfl
  · rw [bit_out (by simp [notW]; omega)]
    have : decide (i < n) = false := by simp; omega
    rw [this]; rfl
theorem at_pad (ws : List Nat) (n k : Nat) : at_ (padW ws n) k = at_ ws k := by
  simp only [at_, padW, List.getD]
  by_cases c : k < ws.length
  · rw [List.getElem?_append_left c]
  · rw [List.getElem?_append_right (by omega), List.getElem?_eq_none (l := ws) (by omega), List.getElem?_replicate]
    split <;> rfl
theorem bit_put (ws : List Nat) (x i : Nat) : bit (putW ws x) i = (bit ws i || decide (i = x)) := by
  have hl : x / 64 < (padW ws (x / 64 + 1)).length := by rw [padW_len]; omega
  simp only [bit, putW]
  by_cases c : i / 64 = x / 64
  · rw [c]
    have : at_ ((padW ws (x / 64 + 1)).set (x / 64) (at_ (padW ws (x / 64 + 1)) (x / 64) ||| 2 ^ (x % 64))) (x / 64) = at_ (padW ws (x / 64 + 1)) (x / 64) ||| 2 ^ (x % 64) := by
      simp only [at_, List.getD]
      rw [List.getElem?_set_self hl]; rfl
    rw [this, Nat.testBit_or, at_pad, Nat.testBit_two_pow]
    congr 1
    apply decide_eq_decide.2
    omega
  · have : at_ ((padW ws (x / 64 + 1)).set (x / 64) (at_ (padW ws (x / 64 + 1)) (x / 64) ||| 2 ^ (x % 64))) (i / 64) = at_ (padW ws (x / 64 + 1)) (i / 64) := by
      simp only [at_, List.getD]
      rw [List.getElem?_set_ne (by omega)]
    rw [this, at_pad]
    have : decide (i = x) = false := by simp; intro h; exact c (by rw [h])
    rw [this, Bool.or_false]
theorem bit_foldl : ∀ (l ws : List Nat) (i : Nat), bit (l.foldl putW ws) i = (bit ws i || decide (i ∈ l))
  | [], ws, i => by simp
  | x :: l, ws, i => by
    rw [List.foldl_cons, bit_foldl l, bit_put, Bool.or_assoc]
    congr 1
    simp
theorem bit_of (l : List Nat) (i : Nat) : bit (ofW l) i = decide (i ∈ l) := by
  rw [ofW, bit_foldl, bit_out (by simp)]; rfl
/-- Does a node hold, by those ahead and by what it says of its column? -/
def stepB (lf : Bool) (bs : List Bool) (x : N) : Bool :=
  if x.ask = 0 then true
  else if 1 ≤ x.ask ∧ x.ask ≤ 7 then lf
  else if x.ask = 10 ∧ okA x.a bs.length = true then !bs.getD x.a.toNat false
  else if x.ask = 8 ∧ okA x.a bs.length = true ∧ okA x.b bs.length = true then bs.getD x.a.toNat false && bs.getD x.b.toNat false
  else if x.ask = 9 ∧ okA x.a bs.length = true ∧ okA x.b bs.length = true then bs.getD x.a.toNat false || bs.getD x.b.toNat false
  else false
theorem getD_map_bit (dn : List (List Nat)) (k i : Nat) : (dn.map fun w => bit w i).getD k false = bit (dn.getD k []) i := by
  by_cases c : k < dn.length
  · simp [List.getD, List.getElem?_eq_getElem c]
  · simp only [List.getD, List.getElem?_eq_none (show dn.length ≤ k by omega), List.getElem?_eq_none (show (dn.map fun w => bit w i).length ≤ k by simp; omega), Option.getD_none]
    rw [bit_out (by simp)]
theorem getD_WB {dn : List (List Nat)} (h : ∀ w ∈ dn, WB w) (k : Nat) : WB (dn.getD k []) := by
  by_cases c : k < dn.length
  · simp only [List.getD, List.getElem?_eq_getElem c, Option.getD_some]; exact h _ (List.getElem_mem _)
  · simp only [List.getD, List.getElem?_eq_none (show dn.length ≤ k by omega), Option.getD_none]; intro x hx; cases hx
theorem stepW_bit {n : Nat} {leaf : N → List Nat} {dn : List (List Nat)} (x : N) {i : Nat} (hi : i < n) (hw : ∀ w ∈ dn, WB w) : bit (stepW n leaf dn x) i = stepB (bit (leaf x) i) (dn.map fun w => bit w i) x := by
  simp only [stepW, stepB, List.length_map, getD_map_bit]
  split
  · rw [bit_upto]; simpa using hi
  split
  · rfl
  split
  · rw [bit_not (getD_WB hw _)]; simp [hi]
  split
  · rw [bit_and]
  split
  · rw [bit_or]
  · rw [bit_out (by simp)]
theorem stepW_WB {n : Nat} {leaf : N → List Nat} {dn : List (List Nat)} (x : N) (hl : WB (leaf x)) (hw : ∀ w ∈ dn, WB w) : WB (stepW n leaf dn x) := by
  simp only [stepW]
  split
  · exact uptoW_WB n
  split
  · exact hl
  split
  · exact notW_WB _ _
  split
  · exact andW_WB (getD_WB hw _)
  split
  · exact orW_WB (getD_WB hw _) (getD_WB hw _)
  · intro x hx; cases hx
theorem stepW_out {n : Nat} {leaf : N → List Nat} {dn : List (List Nat)} (x : N) {i : Nat} (hi : n ≤ i) (hw : ∀ w ∈ dn, WB w ∧ bit w i = false) (hl : bit (leaf x) i = false) : bit (stepW n leaf dn x) i = false := by
  have hg : ∀ k, bit (dn.getD k []) i = false := by
    intro k
    by_cases c : k < dn.length
    · simp only [List.getD, List.getElem?_eq_getElem c, Option.getD_some]; exact (hw _ (List.getElem_mem _)).2
    · simp only [List.getD, List.getElem?_eq_none (show dn.length ≤ k by omega), Option.getD_none]; exact bit_out (by simp)
  simp only [stepW]
  split
  · rw [bit_upto]; simp; omega
  split
  · exact hl
  split
  · rw [bit_not (getD_WB (fun w hw' => (hw w hw').1) _)]; simp; omega
  split
  · rw [bit_and, hg]; rfl
  split
  · rw [bit_or, hg, hg]; rfl
  · exact bit_out (by simp)
/-- The truths of all nodes, at a row. -/
def dnB (lf : N → Bool) (xs : List N) : List Bool := xs.foldl (fun bs x => bs ++ [stepB (lf x) bs x]) []
theorem dnB_snoc (lf : N → Bool) (xs : List N) (x : N) : dnB lf (xs ++ [x]) = dnB lf xs ++ [stepB (lf x) (dnB lf xs) x] := by
  simp [dnB, List.foldl_append]
theorem snoc_ind {α : Type} {P : List α → Prop} (h0 : P []) (h1 : ∀ l x, P l → P (l ++ [x])) (l : List α) : P l := by
  have : ∀ (n : Nat) (l : List α), l.length = n → P l := by
    intro n
    induction n with
    | zero => intro l hl; rw [List.length_eq_zero_iff.1 hl]; exact h0
    | succ n ih =>
      intro l hl
      have hne : l ≠ [] := by intro h; rw [h] at hl; simp at hl
      rw [← List.dropLast_concat_getLast hne]
      exact h1 _ _ (ih _ (by rw [List.length_dropLast]; omega))
  exact this _ l rfl
theorem dnW_WB {n : Nat} {leaf : N → List Nat} (hl : ∀ x, WB (leaf x)) (xs : List N) : ∀ w ∈ dnW n leaf xs, WB w := by
  induction xs using snoc_ind with
  | h0 => intro w hw; simp [dnW] at hw
  | h1 l x ih =>
    rw [dnW_snoc]
    intro w hw
    rcases List.mem_append.1 hw with hw | hw
    · exact ih w hw
    · rw [List.mem_singleton.1 hw]; exact stepW_WB x (hl x) ih
theorem dnW_bit {n : Nat} {leaf : N → List Nat} (hl : ∀ x, WB (leaf x)) {i : Nat} (hi : i < n) (xs : List N) : (dnW n leaf xs).map (fun w => bit w i) = dnB (fun x => bit (leaf x) i) xs := by
  induction xs using snoc_ind with
  | h0 => rfl
  | h1 l x ih => rw [dnW_snoc, dnB_snoc, List.map_append, ih, List.map_singleton, stepW_bit x hi (dnW_WB hl l), ih]
theorem dnW_out {n : Nat} {leaf : N → List Nat} (hl : ∀ x, WB (leaf x)) {i : Nat} (hi : n ≤ i) (ho : ∀ x, bit (leaf x) i = false) (xs : List N) : ∀ w ∈ dnW n leaf xs, bit w i = false := by
  induction xs using snoc_ind with
  | h0 => intro w hw; simp [dnW] at hw
  | h1 l x ih =>
    rw [dnW_snoc]
    intro w hw
    rcases List.mem_append.1 hw with hw | hw
    · exact ih w hw
    · rw [List.mem_singleton.1 hw]; exact stepW_out x hi (fun w hw => ⟨dnW_WB hl l w hw, ih w hw⟩) (ho x)
/-- Does a filter hold at a row, by what its nodes of columns say? -/
def holdsL (lf : N → Bool) (xs : List N) : Bool := if xs.length = 0 then true else (dnB lf xs).getD (xs.length - 1) false
theorem setsW_bit {n : Nat} {leaf : N → List Nat} (hl : ∀ x, WB (leaf x)) {i : Nat} (hi : i < n) (xs : List N) : bit (setsW n leaf xs) i = holdsL (fun x => bit (leaf x) i) xs := by
  simp only [setsW, holdsL]
  split
  · rw [bit_upto]; simpa using hi
  · rw [← dnW_bit hl hi, getD_map_bit]
theorem setsW_out {n : Nat} {leaf : N → List Nat} (hl : ∀ x, WB (leaf x)) {i : Nat} (hi : n ≤ i) (ho : ∀ x, bit (leaf x) i = false) (xs : List N) : bit (setsW n leaf xs) i = false := by
  simp only [setsW]
  split
  · rw [bit_upto]; simp; omega
  · by_cases c : xs.length - 1 < (dnW n leaf xs).length
    · simp only [List.getD, List.getElem?_eq_getElem c, Option.getD_some]; exact dnW_out hl hi ho xs _ (List.getElem_mem _)
    · simp only [List.getD, List.getElem?_eq_none (show (dnW n leaf xs).length ≤ xs.length - 1 by omega), Option.getD_none]; exact bit_out (by simp)
theorem leafI_bit (x : N) (rs : List (List V)) (i : Nat) : bit (ofW (leafI x rs rs.length)) i = (decide (i < rs.length) && leafP x (rs.getD i [])) := by
  rw [bit_of]
  simp only [leafI, List.mem_filter, List.mem_range]
  by_cases h1 : i < rs.length <;> simp [h1]
theorem rowsW_bit (xs : List N) (rs : List (List V)) {i : Nat} {vs : List V} (h : rs[i]? = some vs) : bit (rowsW xs rs) i = holdsL (fun x => leafP x vs) xs := by
  have hi : i < rs.length := (List.getElem?_eq_some_iff.1 h).1
  rw [rowsW, setsW_bit (fun x => ofW_WB _) hi]
  congr 1
  funext x
  rw [leafI_bit]
  rw [List.getElem?_eq_getElem hi] at h
  injection h with h
  simp [hi, List.getD, h]
theorem rowsW_out (xs : List N) (rs : List (List V)) {i : Nat} (h : rs.length ≤ i) : bit (rowsW xs rs) i = false := by
  rw [rowsW]
  refine setsW_out (fun x => ofW_WB _) h (fun x => ?_) xs
  rw [leafI_bit]
  have : decide (i < rs.length) = false := by simp; omega
  rw [this]; rfl
/-- The numbers of a set. -/
theorem bitsOf_bit (ws : List Nat) (i : Nat) (hi : i ≤ ws.length) : bitsOf (ws.take i) 0 = (List.range (64 * i)).filter (bit ws) := by
  induction i with
  | zero => simp [bitsOf]
  | succ i ih =>
    rw [bitsOf_take ws 0 i (by omega), ih (by omega), Nat.mul_succ, List.range_add, List.filter_append]
    congr 1
    simp only [wbits, List.filter_map, Nat.zero_add]
    have e1 : (List.range 64).filter (bit ws ∘ fun x => 64 * i + x) = (List.range 64).filter fun j => (at0 ws i).testBit j := by
      apply List.filter_congr
      intro j hj
      have hj' := List.mem_range.1 hj
      simp only [Function.comp, bit]
      rw [show (64 * i + j) / 64 = i by omega, show (64 * i + j) % 64 = j by omega]
      rfl
    rw [e1, Nat.mul_comm]
theorem bitsOf_sup {ws : List Nat} {n : Nat} (h : ∀ i, n ≤ i → bit ws i = false) : bitsOf ws 0 = (List.range n).filter (bit ws) := by
  have h1 := bitsOf_bit ws ws.length (Nat.le_refl _)
  rw [List.take_length] at h1
  rw [h1]
  have key : ∀ a b, (∀ i, a ≤ i → bit ws i = false) → (List.range (a + b)).filter (bit ws) = (List.range a).filter (bit ws) := by
    intro a b ha
    rw [List.range_add, List.filter_append]
    have : ((List.range b).map (a + ·)).filter (bit ws) = [] := by
      rw [List.filter_eq_nil_iff]
      intro y hy
      obtain ⟨z, _, rfl⟩ := List.mem_map.1 hy
      rw [ha _ (by omega)]; simp
    rw [this, List.append_nil]
  rcases Nat.le_total n (64 * ws.length) with c | c
  · obtain ⟨b, hb⟩ := Nat.le.dest c
    rw [← hb]; exact key n b h
  · obtain ⟨b, hb⟩ := Nat.le.dest c
    rw [← hb]; exact (key _ b (fun i hi => bit_out hi)).symm
theorem leafP_cell (x : N) (vs : List V) : leafP x vs = match cellV x vs with | some v => oneP x v | none => false := by
  unfold leafP cellV
  by_cases c : 0 ≤ x.col
  · simp only [c, decide_true, Bool.true_and, if_true]
    all_goals (cases vs[x.col.toNat]? <;> rfl)
  · simp [c]
theorem cmpP_none {ask n : Int} (h1 : ask ≠ 1) (h2 : ask ≠ 2) (h3 : ask ≠ 3) (h4 : ask ≠ 4) (h5 : ask ≠ 5) (h6 : ask ≠ 6) : cmpP ask n = false := by
  simp [cmpP, h1, h2, h3, h4, h5, h6]
theorem step_ref (vs : List V) (bs : List Bool) (x : N) : stepB (leafP x vs) bs x = refStep vs bs x := by
  rw [leafP_cell]
  unfold stepB refStep
  by_cases h0 : x.ask = 0
  · simp [h0]
  by_cases h7 : x.ask = 7
  · simp only [h7]
    cases cellV x vs <;> simp [oneP, h7]
  by_cases h8 : x.ask = 8
  · simp only [h8]
    cases okA x.a bs.length <;> cases okA x.b bs.length <;> simp
  by_cases h9 : x.ask = 9
  · simp only [h9]
    cases okA x.a bs.length <;> cases okA x.b bs.length <;> simp
  by_cases h10 : x.ask = 10
  · simp only [h10]
    cases okA x.a bs.length <;> simp
  simp only [h0, h7, h8, h9, h10, false_and, if_false, reduceIte]
  by_cases h : 1 ≤ x.ask ∧ x.ask ≤ 7
  · rw [if_pos h]
    cases cellV x vs with
    | none => rfl
    | some v =>
      simp only [oneP, cmpD, h7, false_or, false_and, decide_false]
  · rw [if_neg h]
    cases cellV x vs with
    | none => rfl
    | some v =>
      simp only [cmpD]
      split
      · rfl
      · rw [cmpP_none] <;> omega
theorem dnB_ref (vs : List V) (xs : List N) : dnB (fun x => leafP x vs) xs = refB vs xs := by
  induction xs using snoc_ind with
  | h0 => rfl
  | h1 l x ih => rw [dnB_snoc, refB_snoc, ih, step_ref]
theorem holds_ref (vs : List V) (xs : List N) : holdsL (fun x => leafP x vs) xs = holdsR xs vs := by
  simp only [holdsL, holdsR, dnB_ref]
theorem rowsW_holds (xs : List N) (rs : List (List V)) {i : Nat} {vs : List V} (h : rs[i]? = some vs) : bit (rowsW xs rs) i = holdsR xs vs := by
  rw [rowsW_bit xs rs h, holds_ref]
theorem rowsW_list (xs : List N) (rs : List (List V)) : bitsOf (rowsW xs rs) 0 = rowsI xs rs rs.length := by
  rw [bitsOf_sup (n := rs.length) (fun i hi => rowsW_out xs rs hi), rowsI]
  apply List.filter_congr
  intro i hi
  have hi' := List.mem_range.1 hi
  rw [rowsW_holds xs rs (List.getElem?_eq_getElem hi')]
  simp [List.getD, List.getElem?_eq_getElem hi']
end Go.Proofs.YtojhkbbnkhfnhaaGreatDoor
namespace Go.Proofs.YtojhkbbnkhfnhaaGreatDoor
attribute [local go_sem] Ya ZT ZV ZW ZO ZF ZM ZI ZK ZB ZC ZJ ZP ZQ ZX ZN ZG ZU Zp Zm Yg ZS Yq put lk Od.v Za ZE ZA YB Ym Yn Yo unx YE DV.isU DV.cells hget Yb Yj Yd ZL splice Ye mat Yi YD one_bool one_int one_str one_nilp one_ref one_elem one_nils one_list one_row one_nilm one_map one_nilf one_func one_nili one_ifc one_agg one_tup one_undef one_fresh
attribute [local go_sem ↓] ZH
set_option linter.unusedVariables false
set_option linter.unusedSimpArgs false
set_option maxRecDepth 10000
def vI (i : Int) : V := ⟨1, i, ⟨#[]⟩, false⟩
theorem run23 (i : Int) (H : ZD) : E X 23 [.int .i64 i] H = some ((vI i).d, H) := by
  rw [Yc (X := X) _ b23 _ rfl rfl]; unfold b23; (repeat (first | rw [Zj] | rw [Zc (by simp [go_sem, vI]; exact ⟨rfl, rfl⟩)] | rw [Zv (by simp [lk, Za, Od.v, vI]; exact rfl)] | rw [Zp] | rw [Zm] | rw [Zl] | rw [Zy] | rw [Zq] | rw [Zt] | rw [Zo] | rw [Zn] | rw [Zk] | rw [Zg] | rw [Zh] | rw [Zd (by decide)] | rw [Zi] | rw [Ze] | rw [Zf] | rw [Zb (by decide)] | rw [Zz] | rw [Zu (by simp [go_sem, vI]; exact ⟨rfl, rfl⟩)] | rw [Zw (by simp [lk, Za, Od.v, vI]; exact rfl)] | rw [Zx])); simp [Zr, Zs, ZY, go_sem, fin, Yu, Yt, YA, Yy, YC, vI]
def rows0 : List (List V) := [[vI 3], [V0], [vI 7]]
def ds0 : List DV := [.list 4 [(vI 3).d] true, .list 4 [V0.d] true, .list 4 [(vI 7).d] true]
theorem rows0_L : RowsL ds0 rows0 := by
  refine ⟨rfl, fun i d vs h1 h2 => ?_⟩
  match i with
  | 0 => simp [ds0, rows0] at h1 h2; subst h1; subst h2; exact .inl ⟨true, rfl⟩
  | 1 => simp [ds0, rows0] at h1 h2; subst h1; subst h2; exact .inl ⟨true, rfl⟩
  | 2 => simp [ds0, rows0] at h1 h2; subst h1; subst h2; exact .inl ⟨true, rfl⟩
  | i + 3 => simp [ds0] at h1
def nA : N := ⟨5, 0, vI 5, 0, 0⟩
def nB : N := ⟨10, 0, V0, 0, 0⟩
def nC : N := ⟨2, 0, vI 3, 0, 0⟩
theorem list1 : bitsOf (rowsW [nA] rows0) 0 = [2] := by rw [rowsW_list]; decide
theorem list2 : bitsOf (rowsW [nA, nB] rows0) 0 = [0, 1] := by rw [rowsW_list]; decide
theorem list3 : bitsOf (rowsW [nC] rows0) 0 = [2] := by rw [rowsW_list]; decide
theorem list4 : bit (rowsW [] [[]]) 0 = true := by rw [rowsW_holds [] [[]] (vs := []) rfl]; rfl
theorem listD_ne {l : List Nat} (h : l ≠ []) : listD l = .fresh 3 1 (l.map iD) := by simp [listD, h]
/-- What the examples call. -/
theorem ex16 (xs : List N) (L : DV) (hL : ∀ h, vw h 8 L = some (xs.map N.d)) (hb : xs.length ≤ 1000000) {l : List Nat} (hl : bitsOf (rowsW xs rows0) 0 = l) (hne : l ≠ []) (H : ZD) :
    ∃ W, E X 13 [L, .list 1 ds0 true] H = some (.agg [W], H) ∧ E X 25 [.agg [W], .int .i64 (-1)] H = some (.fresh 3 1 (l.map iD), H) := by
  obtain ⟨W, h1, h2, h3, h4⟩ := run13 (H := H) (L := L) (A := .list 1 ds0 true) (xs := xs) (ds := ds0) (rs := rows0) (fun G => hL _) (fun G => rfl) rows0_L hb (by simp [rows0])
  refine ⟨W, h1, ?_⟩
  rw [run25 h2 h3 h4, hl, listD_ne hne]
theorem ex14 (l : List Nat) (hl : l.length ≤ 100) (H : ZD) (o : Nat) (ho : H[o]? = some (.row 3 1 0 (l.map iD))) : E X 24 [.row o 0 0 l.length false, .list 1 (l.map iD) true] H = some (.bool true, H) := by
  have hv : vw H 1 (.row o 0 0 l.length false) = some ((l.map fun n : Nat => (n : Int)).map (.int .i64)) := by
    simp [vw, ho, List.take_of_length_le, Function.comp_def]
  have hv2 : vw H 1 (.list 1 (l.map iD) true) = some ((l.map fun n : Nat => (n : Int)).map (.int .i64)) := by
    simp [vw, Function.comp_def]
  rw [run24 hv hv2 (by simp; omega)]
  simp
set_option maxHeartbeats 1000000 in
theorem run6 (H : ZD) : E X 6 [] H = some (.bool true, H) := by
  obtain ⟨W1, a1, a2⟩ := ex16 [nA] (.list 8 [nA.d] false) (fun _ => rfl) (by simp) list1 (by simp) H
  have a2 : E X 25 [.agg [W1], .int .i64 (-1)] H = some (.fresh 3 1 [.int .i64 2], H) := a2
  have r1 : E X 24 [.row H.length 0 0 1 false, .list 1 [.int .i64 2] true] (H ++ [.row 3 1 0 [.int .i64 2]]) = some (.bool true, H ++ [.row 3 1 0 [.int .i64 2]]) := ex14 [2] (by simp) _ H.length (by simp)
  obtain ⟨W2, b1, b2⟩ := ex16 [nA, nB] (.list 8 [nA.d, nB.d] true) (fun _ => rfl) (by simp) list2 (by simp) (H ++ [.row 3 1 0 [.int .i64 2]])
  have b2 : E X 25 [.agg [W2], .int .i64 (-1)] (H ++ [.row 3 1 0 [.int .i64 2]]) = some (.fresh 3 1 [.int .i64 0, .int .i64 1], H ++ [.row 3 1 0 [.int .i64 2]]) := b2
  have r2 : E X 24 [.row (H.length + 1) 0 0 2 false, .list 1 [.int .i64 0, .int .i64 1] true] (H ++ [.row 3 1 0 [.int .i64 2], .row 3 1 0 [.int .i64 0, .int .i64 1]]) = some (.bool true, H ++ [.row 3 1 0 [.int .i64 2], .row 3 1 0 [.int .i64 0, .int .i64 1]]) := ex14 [0, 1] (by simp) _ (H.length + 1) (by simp [hget])
  obtain ⟨W3, c1, c2⟩ := ex16 [nC] (.list 8 [nC.d] true) (fun _ => rfl) (by simp) list3 (by simp) (H ++ [.row 3 1 0 [.int .i64 2], .row 3 1 0 [.int .i64 0, .int .i64 1]])
  have c2 : E X 25 [.agg [W3], .int .i64 (-1)] (H ++ [.row 3 1 0 [.int .i64 2], .row 3 1 0 [.int .i64 0, .int .i64 1]]) = some (.fresh 3 1 [.int .i64 2], H ++ [.row 3 1 0 [.int .i64 2], .row 3 1 0 [.int .i64 0, .int .i64 1]]) := c2
  have r3 : E X 24 [.row (H.length + 2) 0 0 1 false, .list 1 [.int .i64 2] true] (H ++ [.row 3 1 0 [.int .i64 2], .row 3 1 0 [.int .i64 0, .int .i64 1], .row 3 1 0 [.int .i64 2]]) = some (.bool true, H ++ [.row 3 1 0 [.int .i64 2], .row 3 1 0 [.int .i64 0, .int .i64 1], .row 3 1 0 [.int .i64 2]]) := ex14 [2] (by simp) _ (H.length + 2) (by simp [hget])
  have r4 := run26 (H := H ++ [.row 3 1 0 [.int .i64 2], .row 3 1 0 [.int .i64 0, .int .i64 1], .row 3 1 0 [.int .i64 2]]) (L := .nils) (d := .nils) (xs := []) (vs := []) (fun _ => rfl) (.inr ⟨rfl, rfl⟩) (by simp)
  rw [list4] at r4
  have e30 := run23
  simp only [V.d, vI, N.d, nA, nB, nC, ds0, V0, List.map_cons, List.map_nil, List.length_cons, List.length_nil, iD] at *
  have z0 : ∀ k n s t h, eltL [.agg [.int .i64 k, .int .i64 n, .str s, .bool t]] h = some ([.agg [.int .i64 k, .int .i64 n, .str s, .bool t]], h) := fun _ _ _ _ _ => rfl
  have z1 : ∀ k n s t, Wc 4 (.agg [.int .i64 k, .int .i64 n, .str s, .bool t]) := fun k n s t => by simp [Wc, DV.cells, DV.one]
  have z2 : ∀ k n s t, Nr (.agg [.int .i64 k, .int .i64 n, .str s, .bool t]) := fun k n s t => (V.mk k n s t).nr
  have z3 : ∀ c l, Wc 1 (.list 4 l c) := fun c l => by simp [Wc, DV.cells, DV.one]
  have z4 : ∀ c k n s t, Nr (.list 4 [.agg [.int .i64 k, .int .i64 n, .str s, .bool t]] c) := fun c k n s t => .list (fun x hx => by rw [List.mem_singleton.1 hx]; exact z2 k n s t)
  have z5 : ∀ a b c h, eltL [.list 4 a true, .list 4 b true, .list 4 c true] h = some ([.list 4 a true, .list 4 b true, .list 4 c true], h) := fun _ _ _ _ => rfl
  have z6 : ∀ a c k n s t i j, Wc 8 (.agg [.int .i64 a, .int .i64 c, .int .i64 k, .int .i64 n, .str s, .bool t, .int .i64 i, .int .i64 j]) := fun a c k n s t i j => by simp [Wc, DV.cells, DV.one]
  have z7 : ∀ a c k n s t i j, Nr (.agg [.int .i64 a, .int .i64 c, .int .i64 k, .int .i64 n, .str s, .bool t, .int .i64 i, .int .i64 j]) := fun a c k n s t i j => .agg (fun x hx => by
    simp at hx
    rcases hx with rfl | rfl | rfl | rfl | rfl | rfl | rfl | rfl
    · exact .int _ _
    · exact .int _ _
    · exact .int _ _
    · exact .int _ _
    · exact .str _
    · exact .bool _
    · exact .int _ _
    · exact .int _ _)
  have z8 : ∀ a b h, eltL [.agg a, .agg b] h = (roL a h).bind fun p => (roL b p.2).map fun q => ([.agg p.1, .agg q.1], q.2) := fun a b h => by
    simp only [eltL, eltOf]
    cases roL a h with
    | none => rfl
    | some p => cases hq : roL b p.2 <;> simp [hq]
  have z8' : ∀ a h, eltL [.agg a] h = (roL a h).map fun p => ([.agg p.1], p.2) := fun a h => by
    simp only [eltL, eltOf]
    cases roL a h <;> rfl
  have z9 : ∀ a h, eltL [.int .i64 a] h = some ([.int .i64 a], h) := fun _ _ => rfl
  have z10 : ∀ a b h, eltL [.int .i64 a, .int .i64 b] h = some ([.int .i64 a, .int .i64 b], h) := fun _ _ _ => rfl
  have z11 : ∀ a, Wc 1 (.int .i64 a) := fun a => by simp [Wc, DV.cells, DV.one]
  have z12 : ∀ a, Nr (.int .i64 a) := fun a => .int _ _
  rw [Yc (X := X) _ b6 _ rfl rfl]; unfold b6
  (repeat (first | rw [Zj] | rw [Zc (by simp [go_sem, e30, a1, a2, r1, b1, b2, r2, c1, c2, r3, r4, z0, z1, z2, z3, z4, z5, z6, z7, z8, z8', z9, z10, z11, z12, roL, roOf, vw, slcx, cutx, intAt]; exact ⟨rfl, rfl⟩)] | rw [Zv (by simp [lk, Za, Od.v, e30, a1, a2, r1, b1, b2, r2, c1, c2, r3, r4, z0, z1, z2, z3, z4, z5, z6, z7, z8, z8', z9, z10, z11, z12, roL, roOf, vw, slcx, cutx, intAt]; exact rfl)] | rw [Zp] | rw [Zm] | rw [Zl] | rw [Zy] | rw [Zq] | rw [Zt] | rw [Zo] | rw [Zn] | rw [Zk] | rw [Zg] | rw [Zh] | rw [Zd (by decide)] | rw [Zi] | rw [Ze] | rw [Zf] | rw [Zb (by decide)] | rw [Zz] | rw [Zu (by simp [go_sem, e30, a1, a2, r1, b1, b2, r2, c1, c2, r3, r4, z0, z1, z2, z3, z4, z5, z6, z7, z8, z8', z9, z10, z11, z12, roL, roOf, vw, slcx, cutx, intAt]; exact ⟨rfl, rfl⟩)] | rw [Zw (by simp [lk, Za, Od.v, e30, a1, a2, r1, b1, b2, r2, c1, c2, r3, r4, z0, z1, z2, z3, z4, z5, z6, z7, z8, z8', z9, z10, z11, z12, roL, roOf, vw, slcx, cutx, intAt]; exact rfl)] | rw [Zx]))
  simp [Zr, Zs, ZY, go_sem, fin, Yu, Yt, YA, Yy, YC, r4]
theorem e14 {h : ZD} {A B : DV} {l : List Nat} (hA : vw h 1 A = some (l.map iD)) (hB : vw h 1 B = some (l.map iD)) (hl : l.length ≤ 1000000) : E X 24 [A, B] h = some (.bool true, h) := by
  have e : l.map iD = (l.map fun n : Nat => (n : Int)).map (.int .i64) := by simp [Function.comp_def]
  rw [e] at hA hB
  rw [run24 hA hB (by simpa using hl)]
  simp
section
variable {L A : DV} {xs : List N} {ds : List DV} {rs : List (List V)}
end
end Go.Proofs.YtojhkbbnkhfnhaaGreatDoor
