/- Ideal runs: a node's rows in a sealed segment. Ideal runs: filter.Sealed; light segments. Ideal runs: the document's rows of a segment (winnowerref12.Row, Rows), its filters (winnowerref17.Sealed); light segments. Ideal runs: filters of segments as the document says (winnowerref17.Sealed); light segments; FilterSeals. Ideal runs: light segments; FilterSeals. -/
import Derived.Test.YtojhkbbnkhfnhaaDoorColT
import Derived.Test.YtojhkbbnkhfnhaaDoorNod
import Derived.Test.YtojhkbbnkhfnhaaDoorPlainQ
import Derived.Test.YtojhkbbnkhfnhaaDoorPlainB
namespace Go.Proofs.YtojhkbbnkhfnhaaDoor
attribute [local go_sem] ZX ZS ZU ZV ZN ZE ZL ZH ZJ Zu Zv ZI ZO ZP ZW ZM ZF ZT Zn Zm Ye ZR Yp put lk Od.v Za ZD Zl Yt Yi Yj Yk YA Yx DV.isU DV.cells hget ZY Yh Ya ZK splice Yb mat Yf Yw one_bool one_int one_str one_nilp one_ref one_elem one_nils one_list one_row one_nilm one_map one_nilf one_func one_nili one_ifc one_agg one_tup one_undef one_fresh
attribute [local go_sem ↓] ZG
set_option linter.unusedVariables false
set_option linter.unusedSimpArgs false
set_option maxRecDepth 10000
/-- A column as an argument. -/
structure RC where
  n : Int
  ys : List V
  bs : List Nat
  D : DV
  B : DV
def RC.d (c : RC) : DV := colD c.n c.D c.B
structure RC.Ok (c : RC) : Prop where
  dict : ValL c.D c.ys
  yl : c.ys.length ≤ 200
  sm : ∀ x ∈ c.ys, Sm x
  bytes : BytesL c.B c.bs
  bb : BB c.bs
  bl : c.bs.length ≤ 200
/-- A column that may be, of so many rows. -/
structure RC.May (n : Nat) (c : RC) : Prop where
  ok : c.Ok
  may : okC c.n c.ys c.bs
  len : c.n = (n : Int)
def RC.sc (c : RC) : SC := ⟨c.ys, idsN c.bs (wC c.ys.length) c.n.toNat⟩
theorem RC.May.col {n : Nat} {c : RC} (h : c.May n) : ColOk n c.D c.B c.ys c.sc.il := by
  have := (h.may.col h.ok.dict (by have := h.ok.yl; omega) h.ok.bytes h.ok.bb).2
  rw [h.len, Int.toNat_natCast] at this
  unfold RC.sc
  rw [h.len, Int.toNat_natCast]
  exact this
theorem RC.May.scOk {n : Nat} {c : RC} (h : c.May n) : c.sc.Ok n := by
  have hc := h.col
  exact ⟨hc.up, hc.may, hc.len, fun p hp => (hc.mem p).1 hp⟩
theorem RC.May.vals {n : Nat} {c : RC} (h : c.May n) : vlC c.n c.ys c.bs = Yu c.sc n := by
  have hv : vlC c.n c.ys c.bs = valI c.ys (idsN c.bs (wC c.ys.length) c.n.toNat) := by unfold vlC; rw [if_pos h.may]
  rw [hv]
  have hl := h.col.len
  unfold Yu valI
  have e : c.sc.il = idsN c.bs (wC c.ys.length) c.n.toNat := rfl
  rw [← e]
  apply List.ext_getElem
  · simp [hl]
  · intro i h1 h2
    simp only [List.getElem_map, List.getElem_range, SC.val]
    have hi : i < c.sc.il.length := by simpa using h1
    have : c.sc.il.getD i 0 = c.sc.il[i] := by rw [List.getD_eq_getElem?_getD, List.getElem?_eq_getElem hi]; rfl
    rw [this]
    rfl
theorem BytesL.one' {R : DV} {bs : List Nat} (h : BytesL R bs) : R.one = true := by
  rcases h with ⟨rfl, _⟩ | rfl <;> rfl
theorem run20s {n : Nat} {c : RC} (h : c.May n) (lo hi : Nat) (H : ZQ) : ∃ W, E X 20 [colD n c.D c.B, .int .i64 lo, .int .i64 hi] H = some (.agg [W], H) ∧ WL W (rngW c.sc n lo hi) ∧ W.one = true := by
  obtain ⟨W, h1, h2⟩ := run20 (H := H) h.col (lo : Int) (hi : Int)
  refine ⟨W, h1, ?_, by rcases h2 with rfl | ⟨rfl, _⟩ <;> rfl⟩
  have e : (fun p : Nat => decide ((lo : Int) ≤ (p : Int)) && decide ((p : Int) < (hi : Int))) = inR lo hi := by
    funext p
    unfold inR
    simp only [Int.ofNat_le, Int.ofNat_lt]
  rw [e] at h2
  exact h2
set_option maxHeartbeats 8000000 in
theorem run38 {H : ZQ} {Of Cs : DV} {p1 p2 p3 p4 : Int} {cs : List RC} {n : Nat} (hC : ∀ g, vw g 3 Cs = some (cs.map RC.d)) (hm : ∀ c ∈ cs, c.May n) (hn : n ≤ 200) (hcl : cs.length ≤ 12) (x : N) :
    ∃ W, E X 38 [.agg [.int .i64 p1, .int .i64 p2, .int .i64 p3, .int .i64 p4, Of, Cs], x.d] H = some (.agg [W], H) ∧ WL W (leafS (cs.map RC.sc) n x) := by
  have out : ∀ (hx : x.col < 0 ∨ (¬ x.col < 0 ∧ (cs.length : Int) ≤ x.col)), ∃ W, E X 38 [.agg [.int .i64 p1, .int .i64 p2, .int .i64 p3, .int .i64 p4, Of, Cs], x.d] H = some (.agg [W], H) ∧ WL W (leafS (cs.map RC.sc) n x) := by
    intro hx
    have hno : colS (cs.map RC.sc) x.col = none := by
      unfold colS
      rcases hx with h | ⟨h1, h2⟩
      · rw [if_neg (by omega)]
      · rw [if_pos (by omega), List.getElem?_eq_none (by rw [List.length_map]; omega)]
    have hl : leafS (cs.map RC.sc) n x = [] := by unfold leafS; rw [hno]
    rw [hl]
    refine ⟨.nils, ?_, .inr ⟨rfl, rfl⟩⟩
    clear hno hl hm
    obtain ⟨ask, col, ⟨vk, vn, vs', vt⟩, xa, xb⟩ := x
    simp only [N.d, V.d] at *
    rcases hx with h | ⟨h1, h2⟩
    · rw [Yg (X := X) _ b38 _ rfl rfl]; unfold b38; (repeat (first | rw [Zj] | rw [Zc (by simp [go_sem, hC, h, ZZ]; exact ⟨rfl, rfl⟩)] | rw [Zx (by simp [lk, Za, Od.v, hC, h, ZZ]; exact rfl)] | rw [Zn] | rw [Zm] | rw [Zo] | rw [ZA] | rw [Zr] | rw [Zw] | rw [Zq] | rw [Zp] | rw [Zk] | rw [Zg] | rw [Zh] | rw [Zd (by decide)] | rw [Zi] | rw [Ze] | rw [Zf] | rw [Zb (by decide)] | rw [ZB] | rw [Zt (by simp [go_sem, hC, h, ZZ]; exact ⟨rfl, rfl⟩)] | rw [Zy (by simp [lk, Za, Od.v, hC, h, ZZ]; exact rfl)] | rw [Zz])); simp [Zs, ZC, Yc, go_sem, fin, YD, YC, YG, YF, YI, hC, h, ZZ]
    · rw [Yg (X := X) _ b38 _ rfl rfl]; unfold b38; (repeat (first | rw [Zj] | rw [Zc (by simp [go_sem, hC, h1, h2, ZZ]; exact ⟨rfl, rfl⟩)] | rw [Zx (by simp [lk, Za, Od.v, hC, h1, h2, ZZ]; exact rfl)] | rw [Zn] | rw [Zm] | rw [Zo] | rw [ZA] | rw [Zr] | rw [Zw] | rw [Zq] | rw [Zp] | rw [Zk] | rw [Zg] | rw [Zh] | rw [Zd (by decide)] | rw [Zi] | rw [Ze] | rw [Zf] | rw [Zb (by decide)] | rw [ZB] | rw [Zt (by simp [go_sem, hC, h1, h2, ZZ]; exact ⟨rfl, rfl⟩)] | rw [Zy (by simp [lk, Za, Od.v, hC, h1, h2, ZZ]; exact rfl)] | rw [Zz])); simp [Zs, ZC, Yc, go_sem, fin, YD, YC, YG, YF, YI, hC, h1, h2, ZZ]
  by_cases h1 : x.col < 0
  · exact out (.inl h1)
  by_cases h2 : (cs.length : Int) ≤ x.col
  · exact out (.inr ⟨h1, h2⟩)
  clear out
  obtain ⟨k, hk⟩ : ∃ k : Nat, x.col = (k : Int) := ⟨x.col.toNat, by omega⟩
  have hkl : k < cs.length := by omega
  have k1 : ¬ (k : Int) < 0 := by omega
  have k2 : ¬ (cs.length : Int) ≤ (k : Int) := by omega
  have k3 : ¬ cs.length ≤ k := by omega
  obtain ⟨c, hc⟩ : ∃ c, c = cs[k] := ⟨_, rfl⟩
  have hc' := hc.symm
  have hck : cs[k]? = some c := by rw [hc]; exact List.getElem?_eq_getElem hkl
  have hcm := hm c (by rw [hc]; exact List.getElem_mem hkl)
  have hls : leafS (cs.map RC.sc) n x = leafC c.sc n x := by
    have : colS (cs.map RC.sc) x.col = some c.sc := by
      unfold colS
      rw [if_pos (by omega), hk, Int.toNat_natCast, List.getElem?_map, hck]
      rfl
    unfold leafS
    rw [this]
  rw [hls]
  have hcd : c.d = .agg [.int .i64 n, c.D, c.B] := by unfold RC.d colD; rw [hcm.len]
  have hgd : (cs.map RC.d)[k]? = some (.agg [.int .i64 n, c.D, c.B]) := by rw [List.getElem?_map, hck, ← hcd]; rfl
  have hge : cs[k].d = .agg [.int .i64 n, c.D, c.B] := by rw [← hc, hcd]
  have hDv := hcm.ok.dict.vw
  have hD1 := hcm.ok.dict.one
  have hB1 := hcm.ok.bytes.one'
  obtain ⟨H1, hH1⟩ : ∃ H1, H1 = H ++ [HO.box 79 [.int .i64 p1, .int .i64 p2, .int .i64 p3, .int .i64 p4, Of, Cs], .box 70 x.d.cells, .box 34 [.nils], .box 41 [.int .i64 n, c.D, c.B]] := ⟨_, rfl⟩
  have e71 := fun g => run71 (H := g) hDv
  have e72 := fun g => run72 x.val g
  obtain ⟨d18, e18, hd18⟩ := run18 (H := H1) (n := n) hcm.ok.dict hcm.ok.yl hcm.ok.bytes hcm.ok.bb
  have hvals := hcm.vals
  rw [hcm.len] at hvals
  rw [hvals] at hd18
  have hr := hcm.may.2.2.1
  have e74 := fun g => run74 (h := g) (A := c.D) (xs := c.ys) x.val (fun l => hDv _) (by have := hcm.ok.yl; omega)
  rw [hr] at e74
  have hscy : c.sc.ys = c.ys := rfl
  have fW : ∀ (W : DV) (ws : List Nat), WL W ws → fin H (H ++ [HO.box 79 [.int .i64 p1, .int .i64 p2, .int .i64 p3, .int .i64 p4, Of, Cs], .box 70 x.d.cells, .box 34 [W], .box 41 [.int .i64 n, c.D, c.B]]) [.agg [W]] = (.agg [W], H) := fun W ws hW => fin_wl hW (by simp)
  have gW : ∀ (W : DV), (H ++ [HO.box 79 [.int .i64 p1, .int .i64 p2, .int .i64 p3, .int .i64 p4, Of, Cs], .box 70 x.d.cells, .box 34 [W], .box 41 [.int .i64 n, c.D, c.B]])[H.length + 2]? = some (.box 34 [W]) := fun W => by simp [hget]
  by_cases c7 : x.ask = 7
  · have hl : leafC c.sc n x = rngW c.sc n 0 (Ym c.ys) := by unfold leafC; rw [if_pos c7]; rfl
    rw [hl]
    obtain ⟨W, e20, hW, hone⟩ := run20s hcm 0 (Ym c.ys) H1
    rw [show ((0 : Nat) : Int) = 0 from rfl] at e20
    refine ⟨W, ?_, hW⟩
    have hfin := fW W _ hW
    clear hl hW e18 hd18 hvals hr e74 fW e72
    generalize Ym c.ys = f at *
    clear hm hcm hls hck hgd hc
    obtain ⟨ask, col, ⟨vk, vn, vs', vt⟩, xa, xb⟩ := x
    obtain ⟨cn, ys, bs, D, B⟩ := c
    simp only [N.d, V.d, DV.cells] at *
    subst hk
    subst c7
    subst hH1
    rw [Yg (X := X) _ b38 _ rfl rfl]; unfold b38
    (repeat (first | rw [Zj] | rw [Zc (by simp [go_sem, hC, k1, k2, k3, hkl, hge, hDv, hD1, hB1, e71, ZZ, e20, hone]; exact ⟨rfl, rfl⟩)] | rw [Zx (by simp [lk, Za, Od.v, hC, k1, k2, k3, hkl, hge, hDv, hD1, hB1, e71, ZZ, e20, hone]; exact rfl)] | rw [Zn] | rw [Zm] | rw [Zo] | rw [ZA] | rw [Zr] | rw [Zw] | rw [Zq] | rw [Zp] | rw [Zk] | rw [Zg] | rw [Zh] | rw [Zd (by decide)] | rw [Zi] | rw [Ze] | rw [Zf] | rw [Zb (by decide)] | rw [ZB] | rw [Zt (by simp [go_sem, hC, k1, k2, k3, hkl, hge, hDv, hD1, hB1, e71, ZZ, e20, hone]; exact ⟨rfl, rfl⟩)] | rw [Zy (by simp [lk, Za, Od.v, hC, k1, k2, k3, hkl, hge, hDv, hD1, hB1, e71, ZZ, e20, hone]; exact rfl)] | rw [Zz]))
    simp only [Zs, Yc, lk, Za, List.map_cons, List.map_nil, reduceIte, Option.map_some, Nat.reduceEqDiff]
    rw [Zl, gW]
    exact congrArg some hfin
  have c7' : (x.ask == 7) = false := by simpa using c7
  cases cm : YE x.val
  · have hl : leafC c.sc n x = ofW (leafI x (Ys (Yu c.sc n) k) n) := by unfold leafC; rw [if_neg c7, if_pos cm, hk, Int.toNat_natCast]
    rw [hl]
    rw [cm] at e72
    have hvl : (Yu c.sc n).length = n := by simp [Yu]
    have hrl : (Ys (Yu c.sc n) k).length = n := by unfold Ys; rw [List.length_map, hvl]
    have kpa : ∀ (h G : ZQ) (d : DV), kpo true h (d, h ++ G) = some (d, h ++ G) := fun h G d => by
      unfold kpo
      rw [if_pos ⟨rfl, List.take_left' rfl⟩]
    have fR : ∀ (G : ZQ) (W : DV) (ws : List Nat), WL W ws → fin H (H ++ G) [.agg [W]] = (.agg [W], H) := fun G W ws hW => fin_wl hW (by simp)
    have gR : ∀ (W : DV) (G : ZQ), (H ++ ([HO.box 79 [.int .i64 p1, .int .i64 p2, .int .i64 p3, .int .i64 p4, Of, Cs], .box 70 x.d.cells, .box 34 [W], .box 41 [.int .i64 n, c.D, c.B]] ++ G))[H.length + 2]? = some (.box 34 [W]) := fun W G => by simp [hget]
    rcases hd18 with ⟨rfl, hv0⟩ | rfl
    · have hv2 : vw (H ++ [HO.box 79 [.int .i64 p1, .int .i64 p2, .int .i64 p3, .int .i64 p4, Of, Cs], .box 70 x.d.cells, .box 34 [.nils], .box 41 [.int .i64 n, c.D, c.B]]) 4 .nils = some ((Yu c.sc n).map V.d) := by rw [hv0]; rfl
      obtain ⟨d73, e73, hd73⟩ := run73 (H := H ++ [HO.box 79 [.int .i64 p1, .int .i64 p2, .int .i64 p3, .int .i64 p4, Of, Cs], .box 70 x.d.cells, .box 34 [.nils], .box 41 [.int .i64 n, c.D, c.B]]) (k := k) hv2 (by omega) (by rw [hvl]; omega)
      clear hv2
      rcases hd73 with ⟨rfl, hr0⟩ | rfl
      · have hv3 : ∀ L, vw ((H ++ [HO.box 79 [.int .i64 p1, .int .i64 p2, .int .i64 p3, .int .i64 p4, Of, Cs], .box 70 x.d.cells, .box 34 [.nils], .box 41 [.int .i64 n, c.D, c.B]]) ++ L) 1 .nils = some ((Ys (Yu c.sc n) k).map rowD) := fun L => by rw [hr0]; rfl
        have t73 : True := trivial
        have t18 : True := trivial
        obtain ⟨W, e61, hW⟩ := run61 (H := H ++ [HO.box 79 [.int .i64 p1, .int .i64 p2, .int .i64 p3, .int .i64 p4, Of, Cs], .box 70 x.d.cells, .box 34 [.nils], .box 41 [.int .i64 n, c.D, c.B]]) x hv3 (rowsL_map (Ys (Yu c.sc n) k)) (by rw [hrl]; omega)
        rw [hrl] at hW
        have hone : W.one = true := by rcases hW with rfl | ⟨rfl, _⟩ <;> rfl
        refine ⟨W, ?_, hW⟩
        have hfin := fR [HO.box 79 [.int .i64 p1, .int .i64 p2, .int .i64 p3, .int .i64 p4, Of, Cs], .box 70 x.d.cells, .box 34 [W], .box 41 [.int .i64 n, c.D, c.B]] W _ hW
        have hgR := gR W []
        clear hl hW hr e74 fW gW fR gR kpa hv3 hvl hrl hvals hcm hls hck hgd hc hm
        generalize ((Yu c.sc n).map V.d) = VL at *
        generalize ((Ys (Yu c.sc n) k).map rowD) = RL at *
        obtain ⟨ask, col, ⟨vk, vn, vs', vt⟩, xa, xb⟩ := x
        obtain ⟨cn, ys, bs, D, B⟩ := c
        simp only [N.d, V.d, DV.cells, List.append_assoc, List.cons_append, List.nil_append] at *
        subst hk
        subst hH1
        rw [Yg (X := X) _ b38 _ rfl rfl]; unfold b38
        (repeat (first | rw [Zj] | rw [Zc (by simp [go_sem, hC, k1, k2, k3, hkl, hge, hDv, hD1, hB1, e71, ZZ, c7, c7', e72, e18, e73, e61, t18, t73, hone]; exact ⟨rfl, rfl⟩)] | rw [Zx (by simp [lk, Za, Od.v, hC, k1, k2, k3, hkl, hge, hDv, hD1, hB1, e71, ZZ, c7, c7', e72, e18, e73, e61, t18, t73, hone]; exact rfl)] | rw [Zn] | rw [Zm] | rw [Zo] | rw [ZA] | rw [Zr] | rw [Zw] | rw [Zq] | rw [Zp] | rw [Zk] | rw [Zg] | rw [Zh] | rw [Zd (by decide)] | rw [Zi] | rw [Ze] | rw [Zf] | rw [Zb (by decide)] | rw [ZB] | rw [Zt (by simp [go_sem, hC, k1, k2, k3, hkl, hge, hDv, hD1, hB1, e71, ZZ, c7, c7', e72, e18, e73, e61, t18, t73, hone]; exact ⟨rfl, rfl⟩)] | rw [Zy (by simp [lk, Za, Od.v, hC, k1, k2, k3, hkl, hge, hDv, hD1, hB1, e71, ZZ, c7, c7', e72, e18, e73, e61, t18, t73, hone]; exact rfl)] | rw [Zz]))
        simp only [Zs, Yc, lk, Za, List.map_cons, List.map_nil, reduceIte, Option.map_some, Nat.reduceEqDiff]
        rw [Zl, hgR]
        exact congrArg some hfin
      · have hv3 : ∀ L, vw ((H ++ [HO.box 79 [.int .i64 p1, .int .i64 p2, .int .i64 p3, .int .i64 p4, Of, Cs], .box 70 x.d.cells, .box 34 [.nils], .box 41 [.int .i64 n, c.D, c.B], .row 38 1 0 ((Ys (Yu c.sc n) k).map rowD)]) ++ L) 1 (.row (H.length + 4) 0 0 ((Ys (Yu c.sc n) k).map rowD).length false) = some ((Ys (Yu c.sc n) k).map rowD) := fun L => by
          rw [List.append_assoc]; simp [vw, hget, List.take_of_length_le]
        have t73 := kpa (H ++ [HO.box 79 [.int .i64 p1, .int .i64 p2, .int .i64 p3, .int .i64 p4, Of, Cs], .box 70 x.d.cells, .box 34 [.nils], .box 41 [.int .i64 n, c.D, c.B]]) [.row 38 1 0 ((Ys (Yu c.sc n) k).map rowD)] (.row (H.length + 4) 0 0 ((Ys (Yu c.sc n) k).map rowD).length false)
        have t18 : True := trivial
        obtain ⟨W, e61, hW⟩ := run61 (H := H ++ [HO.box 79 [.int .i64 p1, .int .i64 p2, .int .i64 p3, .int .i64 p4, Of, Cs], .box 70 x.d.cells, .box 34 [.nils], .box 41 [.int .i64 n, c.D, c.B], .row 38 1 0 ((Ys (Yu c.sc n) k).map rowD)]) x hv3 (rowsL_map (Ys (Yu c.sc n) k)) (by rw [hrl]; omega)
        rw [hrl] at hW
        have hone : W.one = true := by rcases hW with rfl | ⟨rfl, _⟩ <;> rfl
        refine ⟨W, ?_, hW⟩
        have hfin := fR [HO.box 79 [.int .i64 p1, .int .i64 p2, .int .i64 p3, .int .i64 p4, Of, Cs], .box 70 x.d.cells, .box 34 [W], .box 41 [.int .i64 n, c.D, c.B], .row 38 1 0 ((Ys (Yu c.sc n) k).map rowD)] W _ hW
        have hgR := gR W [.row 38 1 0 ((Ys (Yu c.sc n) k).map rowD)]
        clear hl hW hr e74 fW gW fR gR kpa hv3 hvl hrl hvals hcm hls hck hgd hc hm
        generalize ((Yu c.sc n).map V.d) = VL at *
        generalize ((Ys (Yu c.sc n) k).map rowD) = RL at *
        obtain ⟨ask, col, ⟨vk, vn, vs', vt⟩, xa, xb⟩ := x
        obtain ⟨cn, ys, bs, D, B⟩ := c
        simp only [N.d, V.d, DV.cells, List.append_assoc, List.cons_append, List.nil_append] at *
        subst hk
        subst hH1
        rw [Yg (X := X) _ b38 _ rfl rfl]; unfold b38
        (repeat (first | rw [Zj] | rw [Zc (by simp [go_sem, hC, k1, k2, k3, hkl, hge, hDv, hD1, hB1, e71, ZZ, c7, c7', e72, e18, e73, e61, t18, t73, hone]; exact ⟨rfl, rfl⟩)] | rw [Zx (by simp [lk, Za, Od.v, hC, k1, k2, k3, hkl, hge, hDv, hD1, hB1, e71, ZZ, c7, c7', e72, e18, e73, e61, t18, t73, hone]; exact rfl)] | rw [Zn] | rw [Zm] | rw [Zo] | rw [ZA] | rw [Zr] | rw [Zw] | rw [Zq] | rw [Zp] | rw [Zk] | rw [Zg] | rw [Zh] | rw [Zd (by decide)] | rw [Zi] | rw [Ze] | rw [Zf] | rw [Zb (by decide)] | rw [ZB] | rw [Zt (by simp [go_sem, hC, k1, k2, k3, hkl, hge, hDv, hD1, hB1, e71, ZZ, c7, c7', e72, e18, e73, e61, t18, t73, hone]; exact ⟨rfl, rfl⟩)] | rw [Zy (by simp [lk, Za, Od.v, hC, k1, k2, k3, hkl, hge, hDv, hD1, hB1, e71, ZZ, c7, c7', e72, e18, e73, e61, t18, t73, hone]; exact rfl)] | rw [Zz]))
        simp only [Zs, Yc, lk, Za, List.map_cons, List.map_nil, reduceIte, Option.map_some, Nat.reduceEqDiff]
        rw [Zl, hgR]
        exact congrArg some hfin
    · have hv2 : vw (H ++ [HO.box 79 [.int .i64 p1, .int .i64 p2, .int .i64 p3, .int .i64 p4, Of, Cs], .box 70 x.d.cells, .box 34 [.nils], .box 41 [.int .i64 n, c.D, c.B], .row 48 4 0 ((Yu c.sc n).map V.d)]) 4 (.row (H.length + 4) 0 0 ((Yu c.sc n).map V.d).length false) = some ((Yu c.sc n).map V.d) := by simp [vw, hget, List.take_of_length_le]
      obtain ⟨d73, e73, hd73⟩ := run73 (H := H ++ [HO.box 79 [.int .i64 p1, .int .i64 p2, .int .i64 p3, .int .i64 p4, Of, Cs], .box 70 x.d.cells, .box 34 [.nils], .box 41 [.int .i64 n, c.D, c.B], .row 48 4 0 ((Yu c.sc n).map V.d)]) (k := k) hv2 (by omega) (by rw [hvl]; omega)
      clear hv2
      rcases hd73 with ⟨rfl, hr0⟩ | rfl
      · have hv3 : ∀ L, vw ((H ++ [HO.box 79 [.int .i64 p1, .int .i64 p2, .int .i64 p3, .int .i64 p4, Of, Cs], .box 70 x.d.cells, .box 34 [.nils], .box 41 [.int .i64 n, c.D, c.B], .row 48 4 0 ((Yu c.sc n).map V.d)]) ++ L) 1 .nils = some ((Ys (Yu c.sc n) k).map rowD) := fun L => by rw [hr0]; rfl
        have t73 : True := trivial
        have t18 := kpa (H ++ [HO.box 79 [.int .i64 p1, .int .i64 p2, .int .i64 p3, .int .i64 p4, Of, Cs], .box 70 x.d.cells, .box 34 [.nils], .box 41 [.int .i64 n, c.D, c.B]]) [.row 48 4 0 ((Yu c.sc n).map V.d)] (.row (H.length + 4) 0 0 ((Yu c.sc n).map V.d).length false)
        obtain ⟨W, e61, hW⟩ := run61 (H := H ++ [HO.box 79 [.int .i64 p1, .int .i64 p2, .int .i64 p3, .int .i64 p4, Of, Cs], .box 70 x.d.cells, .box 34 [.nils], .box 41 [.int .i64 n, c.D, c.B], .row 48 4 0 ((Yu c.sc n).map V.d)]) x hv3 (rowsL_map (Ys (Yu c.sc n) k)) (by rw [hrl]; omega)
        rw [hrl] at hW
        have hone : W.one = true := by rcases hW with rfl | ⟨rfl, _⟩ <;> rfl
        refine ⟨W, ?_, hW⟩
        have hfin := fR [HO.box 79 [.int .i64 p1, .int .i64 p2, .int .i64 p3, .int .i64 p4, Of, Cs], .box 70 x.d.cells, .box 34 [W], .box 41 [.int .i64 n, c.D, c.B], .row 48 4 0 ((Yu c.sc n).map V.d)] W _ hW
        have hgR := gR W [.row 48 4 0 ((Yu c.sc n).map V.d)]
        clear hl hW hr e74 fW gW fR gR kpa hv3 hvl hrl hvals hcm hls hck hgd hc hm
        generalize ((Yu c.sc n).map V.d) = VL at *
        generalize ((Ys (Yu c.sc n) k).map rowD) = RL at *
        obtain ⟨ask, col, ⟨vk, vn, vs', vt⟩, xa, xb⟩ := x
        obtain ⟨cn, ys, bs, D, B⟩ := c
        simp only [N.d, V.d, DV.cells, List.append_assoc, List.cons_append, List.nil_append] at *
        subst hk
        subst hH1
        rw [Yg (X := X) _ b38 _ rfl rfl]; unfold b38
        (repeat (first | rw [Zj] | rw [Zc (by simp [go_sem, hC, k1, k2, k3, hkl, hge, hDv, hD1, hB1, e71, ZZ, c7, c7', e72, e18, e73, e61, t18, t73, hone]; exact ⟨rfl, rfl⟩)] | rw [Zx (by simp [lk, Za, Od.v, hC, k1, k2, k3, hkl, hge, hDv, hD1, hB1, e71, ZZ, c7, c7', e72, e18, e73, e61, t18, t73, hone]; exact rfl)] | rw [Zn] | rw [Zm] | rw [Zo] | rw [ZA] | rw [Zr] | rw [Zw] | rw [Zq] | rw [Zp] | rw [Zk] | rw [Zg] | rw [Zh] | rw [Zd (by decide)] | rw [Zi] | rw [Ze] | rw [Zf] | rw [Zb (by decide)] | rw [ZB] | rw [Zt (by simp [go_sem, hC, k1, k2, k3, hkl, hge, hDv, hD1, hB1, e71, ZZ, c7, c7', e72, e18, e73, e61, t18, t73, hone]; exact ⟨rfl, rfl⟩)] | rw [Zy (by simp [lk, Za, Od.v, hC, k1, k2, k3, hkl, hge, hDv, hD1, hB1, e71, ZZ, c7, c7', e72, e18, e73, e61, t18, t73, hone]; exact rfl)] | rw [Zz]))
        simp only [Zs, Yc, lk, Za, List.map_cons, List.map_nil, reduceIte, Option.map_some, Nat.reduceEqDiff]
        rw [Zl, hgR]
        exact congrArg some hfin
      · have hv3 : ∀ L, vw ((H ++ [HO.box 79 [.int .i64 p1, .int .i64 p2, .int .i64 p3, .int .i64 p4, Of, Cs], .box 70 x.d.cells, .box 34 [.nils], .box 41 [.int .i64 n, c.D, c.B], .row 48 4 0 ((Yu c.sc n).map V.d), .row 38 1 0 ((Ys (Yu c.sc n) k).map rowD)]) ++ L) 1 (.row (H.length + 5) 0 0 ((Ys (Yu c.sc n) k).map rowD).length false) = some ((Ys (Yu c.sc n) k).map rowD) := fun L => by
          rw [List.append_assoc]; simp [vw, hget, List.take_of_length_le]
        have t73 := kpa (H ++ [HO.box 79 [.int .i64 p1, .int .i64 p2, .int .i64 p3, .int .i64 p4, Of, Cs], .box 70 x.d.cells, .box 34 [.nils], .box 41 [.int .i64 n, c.D, c.B], .row 48 4 0 ((Yu c.sc n).map V.d)]) [.row 38 1 0 ((Ys (Yu c.sc n) k).map rowD)] (.row (H.length + 5) 0 0 ((Ys (Yu c.sc n) k).map rowD).length false)
        have t18 := kpa (H ++ [HO.box 79 [.int .i64 p1, .int .i64 p2, .int .i64 p3, .int .i64 p4, Of, Cs], .box 70 x.d.cells, .box 34 [.nils], .box 41 [.int .i64 n, c.D, c.B]]) [.row 48 4 0 ((Yu c.sc n).map V.d)] (.row (H.length + 4) 0 0 ((Yu c.sc n).map V.d).length false)
        obtain ⟨W, e61, hW⟩ := run61 (H := H ++ [HO.box 79 [.int .i64 p1, .int .i64 p2, .int .i64 p3, .int .i64 p4, Of, Cs], .box 70 x.d.cells, .box 34 [.nils], .box 41 [.int .i64 n, c.D, c.B], .row 48 4 0 ((Yu c.sc n).map V.d), .row 38 1 0 ((Ys (Yu c.sc n) k).map rowD)]) x hv3 (rowsL_map (Ys (Yu c.sc n) k)) (by rw [hrl]; omega)
        rw [hrl] at hW
        have hone : W.one = true := by rcases hW with rfl | ⟨rfl, _⟩ <;> rfl
        refine ⟨W, ?_, hW⟩
        have hfin := fR [HO.box 79 [.int .i64 p1, .int .i64 p2, .int .i64 p3, .int .i64 p4, Of, Cs], .box 70 x.d.cells, .box 34 [W], .box 41 [.int .i64 n, c.D, c.B], .row 48 4 0 ((Yu c.sc n).map V.d), .row 38 1 0 ((Ys (Yu c.sc n) k).map rowD)] W _ hW
        have hgR := gR W [.row 48 4 0 ((Yu c.sc n).map V.d), .row 38 1 0 ((Ys (Yu c.sc n) k).map rowD)]
        clear hl hW hr e74 fW gW fR gR kpa hv3 hvl hrl hvals hcm hls hck hgd hc hm
        generalize ((Yu c.sc n).map V.d) = VL at *
        generalize ((Ys (Yu c.sc n) k).map rowD) = RL at *
        obtain ⟨ask, col, ⟨vk, vn, vs', vt⟩, xa, xb⟩ := x
        obtain ⟨cn, ys, bs, D, B⟩ := c
        simp only [N.d, V.d, DV.cells, List.append_assoc, List.cons_append, List.nil_append] at *
        subst hk
        subst hH1
        rw [Yg (X := X) _ b38 _ rfl rfl]; unfold b38
        (repeat (first | rw [Zj] | rw [Zc (by simp [go_sem, hC, k1, k2, k3, hkl, hge, hDv, hD1, hB1, e71, ZZ, c7, c7', e72, e18, e73, e61, t18, t73, hone]; exact ⟨rfl, rfl⟩)] | rw [Zx (by simp [lk, Za, Od.v, hC, k1, k2, k3, hkl, hge, hDv, hD1, hB1, e71, ZZ, c7, c7', e72, e18, e73, e61, t18, t73, hone]; exact rfl)] | rw [Zn] | rw [Zm] | rw [Zo] | rw [ZA] | rw [Zr] | rw [Zw] | rw [Zq] | rw [Zp] | rw [Zk] | rw [Zg] | rw [Zh] | rw [Zd (by decide)] | rw [Zi] | rw [Ze] | rw [Zf] | rw [Zb (by decide)] | rw [ZB] | rw [Zt (by simp [go_sem, hC, k1, k2, k3, hkl, hge, hDv, hD1, hB1, e71, ZZ, c7, c7', e72, e18, e73, e61, t18, t73, hone]; exact ⟨rfl, rfl⟩)] | rw [Zy (by simp [lk, Za, Od.v, hC, k1, k2, k3, hkl, hge, hDv, hD1, hB1, e71, ZZ, c7, c7', e72, e18, e73, e61, t18, t73, hone]; exact rfl)] | rw [Zz]))
        simp only [Zs, Yc, lk, Za, List.map_cons, List.map_nil, reduceIte, Option.map_some, Nat.reduceEqDiff]
        rw [Zl, hgR]
        exact congrArg some hfin
  rw [cm] at e72 e74
  have hlc : leafC c.sc n x = askS c.sc n x := by unfold leafC; rw [if_neg c7, if_neg (by rw [cm]; simp)]
  rw [hlc]
  have hpl : place c.ys x.val ≤ 200 := Nat.le_trans (place_le _ _) hcm.ok.yl
  have hfl : Ym c.ys ≤ 1 := by
    unfold Ym
    split
    · omega
    · split <;> omega
  have hb : (behD c.ys x.val : Int) = if found c.ys x.val = true then (place c.ys x.val : Int) + 1 else (place c.ys x.val : Int) := by
    unfold behD; split <;> simp
  have z1 : IntKind.i64.wrap ((place c.ys x.val : Int) + 1) = (place c.ys x.val : Int) + 1 := wrap64 _ (by omega) (by omega)
  have hbl : behD c.ys x.val ≤ 201 := by unfold behD; split <;> omega
  have zb : IntKind.i64.wrap (behD c.ys x.val : Int) = (behD c.ys x.val : Int) := wrap64 _ (by omega) (by omega)
  have m1 := mm_max (place c.ys x.val) (Ym c.ys)
  have m2 := mm_max (behD c.ys x.val) (Ym c.ys)
  simp only [if_true, Bool.true_and, and_self] at e74
  have hbp : (found c.ys x.val = true ∧ (place c.ys x.val : Int) + 1 = (behD c.ys x.val : Int)) ∨ (found c.ys x.val = false ∧ behD c.ys x.val = place c.ys x.val) := by
    cases hf : found c.ys x.val
    · exact .inr ⟨rfl, by unfold behD; rw [hf]; simp⟩
    · exact .inl ⟨rfl, by unfold behD; rw [hf]; simp⟩
  clear hb hd18 e18 hvals
  by_cases c1 : x.ask = 1
  · have hl : askS c.sc n x = rngW c.sc n (max (place c.ys x.val) (Ym c.ys)) (max (behD c.ys x.val) (Ym c.ys)) := by unfold askS; rw [if_pos c1]; rfl
    rw [hl]
    obtain ⟨W, e20, hW, hone⟩ := run20s hcm (max (place c.ys x.val) (Ym c.ys)) (max (behD c.ys x.val) (Ym c.ys)) H1
    refine ⟨W, ?_, hW⟩
    have hfin := fW _ _ hW
    clear hl hW fW hlc
    generalize hA' : max (place c.ys x.val) (Ym c.ys) = A at *
    generalize hB' : max (behD c.ys x.val) (Ym c.ys) = Bq at *
    rcases hbp with ⟨hf, hb⟩ | ⟨hf, hb⟩
    · rw [hf] at e74
      clear hm hcm hls hck hgd hc
      obtain ⟨ask, col, ⟨vk, vn, vs', vt⟩, xa, xb⟩ := x
      obtain ⟨cn, ys, bs, D, B⟩ := c
      simp only [N.d, V.d, DV.cells] at *
      subst hk
      subst c1
      subst hH1
      rw [Yg (X := X) _ b38 _ rfl rfl]; unfold b38
      (repeat (first | rw [Zj] | rw [Zc (by simp [go_sem, hC, k1, k2, k3, hkl, hge, hDv, hD1, hB1, e71, ZZ, c7, c7', e72, e74, z1, zb, hb, m1, m2, e20, hone]; exact ⟨rfl, rfl⟩)] | rw [Zx (by simp [lk, Za, Od.v, hC, k1, k2, k3, hkl, hge, hDv, hD1, hB1, e71, ZZ, c7, c7', e72, e74, z1, zb, hb, m1, m2, e20, hone]; exact rfl)] | rw [Zn] | rw [Zm] | rw [Zo] | rw [ZA] | rw [Zr] | rw [Zw] | rw [Zq] | rw [Zp] | rw [Zk] | rw [Zg] | rw [Zh] | rw [Zd (by decide)] | rw [Zi] | rw [Ze] | rw [Zf] | rw [Zb (by decide)] | rw [ZB] | rw [Zt (by simp [go_sem, hC, k1, k2, k3, hkl, hge, hDv, hD1, hB1, e71, ZZ, c7, c7', e72, e74, z1, zb, hb, m1, m2, e20, hone]; exact ⟨rfl, rfl⟩)] | rw [Zy (by simp [lk, Za, Od.v, hC, k1, k2, k3, hkl, hge, hDv, hD1, hB1, e71, ZZ, c7, c7', e72, e74, z1, zb, hb, m1, m2, e20, hone]; exact rfl)] | rw [Zz]))
      simp only [Zs, Yc, lk, Za, List.map_cons, List.map_nil, reduceIte, Option.map_some, Nat.reduceEqDiff]
      rw [Zl, gW]
      exact congrArg some hfin
    · rw [hf] at e74
      rw [hb] at m2 hB'
      obtain rfl : Bq = A := by rw [← hA', ← hB']
      clear hm hcm hls hck hgd hc
      obtain ⟨ask, col, ⟨vk, vn, vs', vt⟩, xa, xb⟩ := x
      obtain ⟨cn, ys, bs, D, B⟩ := c
      simp only [N.d, V.d, DV.cells] at *
      subst hk
      subst c1
      subst hH1
      rw [Yg (X := X) _ b38 _ rfl rfl]; unfold b38
      (repeat (first | rw [Zj] | rw [Zc (by simp [go_sem, hC, k1, k2, k3, hkl, hge, hDv, hD1, hB1, e71, ZZ, c7, c7', e72, e74, z1, zb, hb, m1, m2, e20, hone]; exact ⟨rfl, rfl⟩)] | rw [Zx (by simp [lk, Za, Od.v, hC, k1, k2, k3, hkl, hge, hDv, hD1, hB1, e71, ZZ, c7, c7', e72, e74, z1, zb, hb, m1, m2, e20, hone]; exact rfl)] | rw [Zn] | rw [Zm] | rw [Zo] | rw [ZA] | rw [Zr] | rw [Zw] | rw [Zq] | rw [Zp] | rw [Zk] | rw [Zg] | rw [Zh] | rw [Zd (by decide)] | rw [Zi] | rw [Ze] | rw [Zf] | rw [Zb (by decide)] | rw [ZB] | rw [Zt (by simp [go_sem, hC, k1, k2, k3, hkl, hge, hDv, hD1, hB1, e71, ZZ, c7, c7', e72, e74, z1, zb, hb, m1, m2, e20, hone]; exact ⟨rfl, rfl⟩)] | rw [Zy (by simp [lk, Za, Od.v, hC, k1, k2, k3, hkl, hge, hDv, hD1, hB1, e71, ZZ, c7, c7', e72, e74, z1, zb, hb, m1, m2, e20, hone]; exact rfl)] | rw [Zz]))
      simp only [Zs, Yc, lk, Za, List.map_cons, List.map_nil, reduceIte, Option.map_some, Nat.reduceEqDiff]
      rw [Zl, gW]
      exact congrArg some hfin
  have c1' : (x.ask == 1) = false := by simpa using c1
  by_cases c2 : x.ask = 2
  · have hl : askS c.sc n x = orW (rngW c.sc n (Ym c.ys) (max (place c.ys x.val) (Ym c.ys))) (rngW c.sc n (max (behD c.ys x.val) (Ym c.ys)) c.ys.length) := by unfold askS; rw [if_neg c1, if_pos c2]; rfl
    rw [hl]
    obtain ⟨W, e20, hW, hone⟩ := run20s hcm (Ym c.ys) (max (place c.ys x.val) (Ym c.ys)) H1
    obtain ⟨W2, e20b, hW2, hone2⟩ := run20s hcm (max (behD c.ys x.val) (Ym c.ys)) c.ys.length H1
    have e70 := run70 hW hW2 (rngW_WB _ _ _ _) (rngW_WB _ _ _ _) (by have := rngW_len c.sc (Ym c.ys) (max (place c.ys x.val) (Ym c.ys)) (n := n) (by omega); omega) (by have := rngW_len c.sc (max (behD c.ys x.val) (Ym c.ys)) c.ys.length (n := n) (by omega); omega) H1
    have hWO : WL (.list 1 ((orW (rngW c.sc n (Ym c.ys) (max (place c.ys x.val) (Ym c.ys))) (rngW c.sc n (max (behD c.ys x.val) (Ym c.ys)) c.ys.length)).map uD) false) (orW (rngW c.sc n (Ym c.ys) (max (place c.ys x.val) (Ym c.ys))) (rngW c.sc n (max (behD c.ys x.val) (Ym c.ys)) c.ys.length)) := .inl rfl
    refine ⟨_, ?_, hWO⟩
    have hfin := fW _ _ hWO
    clear hl hW hW2 hWO fW hlc
    generalize orW (rngW c.sc n (Ym c.ys) (max (place c.ys x.val) (Ym c.ys))) (rngW c.sc n (max (behD c.ys x.val) (Ym c.ys)) c.ys.length) = ow at *
    generalize hA' : max (place c.ys x.val) (Ym c.ys) = A at *
    generalize hB' : max (behD c.ys x.val) (Ym c.ys) = Bq at *
    rcases hbp with ⟨hf, hb⟩ | ⟨hf, hb⟩
    · rw [hf] at e74
      clear hm hcm hls hck hgd hc
      obtain ⟨ask, col, ⟨vk, vn, vs', vt⟩, xa, xb⟩ := x
      obtain ⟨cn, ys, bs, D, B⟩ := c
      simp only [N.d, V.d, DV.cells] at *
      subst hk
      subst c2
      subst hH1
      rw [Yg (X := X) _ b38 _ rfl rfl]; unfold b38
      (repeat (first | rw [Zj] | rw [Zc (by simp [go_sem, hC, k1, k2, k3, hkl, hge, hDv, hD1, hB1, e71, ZZ, c7, c7', e72, e74, z1, zb, hb, m1, m2, c1, c1', e20, e20b, e70, hone, hone2]; exact ⟨rfl, rfl⟩)] | rw [Zx (by simp [lk, Za, Od.v, hC, k1, k2, k3, hkl, hge, hDv, hD1, hB1, e71, ZZ, c7, c7', e72, e74, z1, zb, hb, m1, m2, c1, c1', e20, e20b, e70, hone, hone2]; exact rfl)] | rw [Zn] | rw [Zm] | rw [Zo] | rw [ZA] | rw [Zr] | rw [Zw] | rw [Zq] | rw [Zp] | rw [Zk] | rw [Zg] | rw [Zh] | rw [Zd (by decide)] | rw [Zi] | rw [Ze] | rw [Zf] | rw [Zb (by decide)] | rw [ZB] | rw [Zt (by simp [go_sem, hC, k1, k2, k3, hkl, hge, hDv, hD1, hB1, e71, ZZ, c7, c7', e72, e74, z1, zb, hb, m1, m2, c1, c1', e20, e20b, e70, hone, hone2]; exact ⟨rfl, rfl⟩)] | rw [Zy (by simp [lk, Za, Od.v, hC, k1, k2, k3, hkl, hge, hDv, hD1, hB1, e71, ZZ, c7, c7', e72, e74, z1, zb, hb, m1, m2, c1, c1', e20, e20b, e70, hone, hone2]; exact rfl)] | rw [Zz]))
      simp only [Zs, Yc, lk, Za, List.map_cons, List.map_nil, reduceIte, Option.map_some, Nat.reduceEqDiff]
      rw [Zl, gW]
      exact congrArg some hfin
    · rw [hf] at e74
      rw [hb] at m2 hB'
      obtain rfl : Bq = A := by rw [← hA', ← hB']
      clear hm hcm hls hck hgd hc
      obtain ⟨ask, col, ⟨vk, vn, vs', vt⟩, xa, xb⟩ := x
      obtain ⟨cn, ys, bs, D, B⟩ := c
      simp only [N.d, V.d, DV.cells] at *
      subst hk
      subst c2
      subst hH1
      rw [Yg (X := X) _ b38 _ rfl rfl]; unfold b38
      (repeat (first | rw [Zj] | rw [Zc (by simp [go_sem, hC, k1, k2, k3, hkl, hge, hDv, hD1, hB1, e71, ZZ, c7, c7', e72, e74, z1, zb, hb, m1, m2, c1, c1', e20, e20b, e70, hone, hone2]; exact ⟨rfl, rfl⟩)] | rw [Zx (by simp [lk, Za, Od.v, hC, k1, k2, k3, hkl, hge, hDv, hD1, hB1, e71, ZZ, c7, c7', e72, e74, z1, zb, hb, m1, m2, c1, c1', e20, e20b, e70, hone, hone2]; exact rfl)] | rw [Zn] | rw [Zm] | rw [Zo] | rw [ZA] | rw [Zr] | rw [Zw] | rw [Zq] | rw [Zp] | rw [Zk] | rw [Zg] | rw [Zh] | rw [Zd (by decide)] | rw [Zi] | rw [Ze] | rw [Zf] | rw [Zb (by decide)] | rw [ZB] | rw [Zt (by simp [go_sem, hC, k1, k2, k3, hkl, hge, hDv, hD1, hB1, e71, ZZ, c7, c7', e72, e74, z1, zb, hb, m1, m2, c1, c1', e20, e20b, e70, hone, hone2]; exact ⟨rfl, rfl⟩)] | rw [Zy (by simp [lk, Za, Od.v, hC, k1, k2, k3, hkl, hge, hDv, hD1, hB1, e71, ZZ, c7, c7', e72, e74, z1, zb, hb, m1, m2, c1, c1', e20, e20b, e70, hone, hone2]; exact rfl)] | rw [Zz]))
      simp only [Zs, Yc, lk, Za, List.map_cons, List.map_nil, reduceIte, Option.map_some, Nat.reduceEqDiff]
      rw [Zl, gW]
      exact congrArg some hfin
  have c2' : (x.ask == 2) = false := by simpa using c2
  by_cases c3 : x.ask = 3
  · have hl : askS c.sc n x = rngW c.sc n (Ym c.ys) (max (place c.ys x.val) (Ym c.ys)) := by unfold askS; rw [if_neg c1, if_neg c2, if_pos c3]; rfl
    rw [hl]
    obtain ⟨W, e20, hW, hone⟩ := run20s hcm (Ym c.ys) (max (place c.ys x.val) (Ym c.ys)) H1
    refine ⟨W, ?_, hW⟩
    have hfin := fW _ _ hW
    clear hl hW fW hlc
    generalize hA' : max (place c.ys x.val) (Ym c.ys) = A at *
    generalize hB' : max (behD c.ys x.val) (Ym c.ys) = Bq at *
    rcases hbp with ⟨hf, hb⟩ | ⟨hf, hb⟩
    · rw [hf] at e74
      clear hm hcm hls hck hgd hc
      obtain ⟨ask, col, ⟨vk, vn, vs', vt⟩, xa, xb⟩ := x
      obtain ⟨cn, ys, bs, D, B⟩ := c
      simp only [N.d, V.d, DV.cells] at *
      subst hk
      subst c3
      subst hH1
      rw [Yg (X := X) _ b38 _ rfl rfl]; unfold b38
      (repeat (first | rw [Zj] | rw [Zc (by simp [go_sem, hC, k1, k2, k3, hkl, hge, hDv, hD1, hB1, e71, ZZ, c7, c7', e72, e74, z1, zb, hb, m1, m2, c1, c1', c2, c2', e20, hone]; exact ⟨rfl, rfl⟩)] | rw [Zx (by simp [lk, Za, Od.v, hC, k1, k2, k3, hkl, hge, hDv, hD1, hB1, e71, ZZ, c7, c7', e72, e74, z1, zb, hb, m1, m2, c1, c1', c2, c2', e20, hone]; exact rfl)] | rw [Zn] | rw [Zm] | rw [Zo] | rw [ZA] | rw [Zr] | rw [Zw] | rw [Zq] | rw [Zp] | rw [Zk] | rw [Zg] | rw [Zh] | rw [Zd (by decide)] | rw [Zi] | rw [Ze] | rw [Zf] | rw [Zb (by decide)] | rw [ZB] | rw [Zt (by simp [go_sem, hC, k1, k2, k3, hkl, hge, hDv, hD1, hB1, e71, ZZ, c7, c7', e72, e74, z1, zb, hb, m1, m2, c1, c1', c2, c2', e20, hone]; exact ⟨rfl, rfl⟩)] | rw [Zy (by simp [lk, Za, Od.v, hC, k1, k2, k3, hkl, hge, hDv, hD1, hB1, e71, ZZ, c7, c7', e72, e74, z1, zb, hb, m1, m2, c1, c1', c2, c2', e20, hone]; exact rfl)] | rw [Zz]))
      simp only [Zs, Yc, lk, Za, List.map_cons, List.map_nil, reduceIte, Option.map_some, Nat.reduceEqDiff]
      rw [Zl, gW]
      exact congrArg some hfin
    · rw [hf] at e74
      rw [hb] at m2 hB'
      obtain rfl : Bq = A := by rw [← hA', ← hB']
      clear hm hcm hls hck hgd hc
      obtain ⟨ask, col, ⟨vk, vn, vs', vt⟩, xa, xb⟩ := x
      obtain ⟨cn, ys, bs, D, B⟩ := c
      simp only [N.d, V.d, DV.cells] at *
      subst hk
      subst c3
      subst hH1
      rw [Yg (X := X) _ b38 _ rfl rfl]; unfold b38
      (repeat (first | rw [Zj] | rw [Zc (by simp [go_sem, hC, k1, k2, k3, hkl, hge, hDv, hD1, hB1, e71, ZZ, c7, c7', e72, e74, z1, zb, hb, m1, m2, c1, c1', c2, c2', e20, hone]; exact ⟨rfl, rfl⟩)] | rw [Zx (by simp [lk, Za, Od.v, hC, k1, k2, k3, hkl, hge, hDv, hD1, hB1, e71, ZZ, c7, c7', e72, e74, z1, zb, hb, m1, m2, c1, c1', c2, c2', e20, hone]; exact rfl)] | rw [Zn] | rw [Zm] | rw [Zo] | rw [ZA] | rw [Zr] | rw [Zw] | rw [Zq] | rw [Zp] | rw [Zk] | rw [Zg] | rw [Zh] | rw [Zd (by decide)] | rw [Zi] | rw [Ze] | rw [Zf] | rw [Zb (by decide)] | rw [ZB] | rw [Zt (by simp [go_sem, hC, k1, k2, k3, hkl, hge, hDv, hD1, hB1, e71, ZZ, c7, c7', e72, e74, z1, zb, hb, m1, m2, c1, c1', c2, c2', e20, hone]; exact ⟨rfl, rfl⟩)] | rw [Zy (by simp [lk, Za, Od.v, hC, k1, k2, k3, hkl, hge, hDv, hD1, hB1, e71, ZZ, c7, c7', e72, e74, z1, zb, hb, m1, m2, c1, c1', c2, c2', e20, hone]; exact rfl)] | rw [Zz]))
      simp only [Zs, Yc, lk, Za, List.map_cons, List.map_nil, reduceIte, Option.map_some, Nat.reduceEqDiff]
      rw [Zl, gW]
      exact congrArg some hfin
  have c3' : (x.ask == 3) = false := by simpa using c3
  by_cases c4 : x.ask = 4
  · have hl : askS c.sc n x = rngW c.sc n (Ym c.ys) (max (behD c.ys x.val) (Ym c.ys)) := by unfold askS; rw [if_neg c1, if_neg c2, if_neg c3, if_pos c4]; rfl
    rw [hl]
    obtain ⟨W, e20, hW, hone⟩ := run20s hcm (Ym c.ys) (max (behD c.ys x.val) (Ym c.ys)) H1
    refine ⟨W, ?_, hW⟩
    have hfin := fW _ _ hW
    clear hl hW fW hlc
    generalize hA' : max (place c.ys x.val) (Ym c.ys) = A at *
    generalize hB' : max (behD c.ys x.val) (Ym c.ys) = Bq at *
    rcases hbp with ⟨hf, hb⟩ | ⟨hf, hb⟩
    · rw [hf] at e74
      clear hm hcm hls hck hgd hc
      obtain ⟨ask, col, ⟨vk, vn, vs', vt⟩, xa, xb⟩ := x
      obtain ⟨cn, ys, bs, D, B⟩ := c
      simp only [N.d, V.d, DV.cells] at *
      subst hk
      subst c4
      subst hH1
      rw [Yg (X := X) _ b38 _ rfl rfl]; unfold b38
      (repeat (first | rw [Zj] | rw [Zc (by simp [go_sem, hC, k1, k2, k3, hkl, hge, hDv, hD1, hB1, e71, ZZ, c7, c7', e72, e74, z1, zb, hb, m1, m2, c1, c1', c2, c2', c3, c3', e20, hone]; exact ⟨rfl, rfl⟩)] | rw [Zx (by simp [lk, Za, Od.v, hC, k1, k2, k3, hkl, hge, hDv, hD1, hB1, e71, ZZ, c7, c7', e72, e74, z1, zb, hb, m1, m2, c1, c1', c2, c2', c3, c3', e20, hone]; exact rfl)] | rw [Zn] | rw [Zm] | rw [Zo] | rw [ZA] | rw [Zr] | rw [Zw] | rw [Zq] | rw [Zp] | rw [Zk] | rw [Zg] | rw [Zh] | rw [Zd (by decide)] | rw [Zi] | rw [Ze] | rw [Zf] | rw [Zb (by decide)] | rw [ZB] | rw [Zt (by simp [go_sem, hC, k1, k2, k3, hkl, hge, hDv, hD1, hB1, e71, ZZ, c7, c7', e72, e74, z1, zb, hb, m1, m2, c1, c1', c2, c2', c3, c3', e20, hone]; exact ⟨rfl, rfl⟩)] | rw [Zy (by simp [lk, Za, Od.v, hC, k1, k2, k3, hkl, hge, hDv, hD1, hB1, e71, ZZ, c7, c7', e72, e74, z1, zb, hb, m1, m2, c1, c1', c2, c2', c3, c3', e20, hone]; exact rfl)] | rw [Zz]))
      simp only [Zs, Yc, lk, Za, List.map_cons, List.map_nil, reduceIte, Option.map_some, Nat.reduceEqDiff]
      rw [Zl, gW]
      exact congrArg some hfin
    · rw [hf] at e74
      rw [hb] at m2 hB'
      obtain rfl : Bq = A := by rw [← hA', ← hB']
      clear hm hcm hls hck hgd hc
      obtain ⟨ask, col, ⟨vk, vn, vs', vt⟩, xa, xb⟩ := x
      obtain ⟨cn, ys, bs, D, B⟩ := c
      simp only [N.d, V.d, DV.cells] at *
      subst hk
      subst c4
      subst hH1
      rw [Yg (X := X) _ b38 _ rfl rfl]; unfold b38
      (repeat (first | rw [Zj] | rw [Zc (by simp [go_sem, hC, k1, k2, k3, hkl, hge, hDv, hD1, hB1, e71, ZZ, c7, c7', e72, e74, z1, zb, hb, m1, m2, c1, c1', c2, c2', c3, c3', e20, hone]; exact ⟨rfl, rfl⟩)] | rw [Zx (by simp [lk, Za, Od.v, hC, k1, k2, k3, hkl, hge, hDv, hD1, hB1, e71, ZZ, c7, c7', e72, e74, z1, zb, hb, m1, m2, c1, c1', c2, c2', c3, c3', e20, hone]; exact rfl)] | rw [Zn] | rw [Zm] | rw [Zo] | rw [ZA] | rw [Zr] | rw [Zw] | rw [Zq] | rw [Zp] | rw [Zk] | rw [Zg] | rw [Zh] | rw [Zd (by decide)] | rw [Zi] | rw [Ze] | rw [Zf] | rw [Zb (by decide)] | rw [ZB] | rw [Zt (by simp [go_sem, hC, k1, k2, k3, hkl, hge, hDv, hD1, hB1, e71, ZZ, c7, c7', e72, e74, z1, zb, hb, m1, m2, c1, c1', c2, c2', c3, c3', e20, hone]; exact ⟨rfl, rfl⟩)] | rw [Zy (by simp [lk, Za, Od.v, hC, k1, k2, k3, hkl, hge, hDv, hD1, hB1, e71, ZZ, c7, c7', e72, e74, z1, zb, hb, m1, m2, c1, c1', c2, c2', c3, c3', e20, hone]; exact rfl)] | rw [Zz]))
      simp only [Zs, Yc, lk, Za, List.map_cons, List.map_nil, reduceIte, Option.map_some, Nat.reduceEqDiff]
      rw [Zl, gW]
      exact congrArg some hfin
  have c4' : (x.ask == 4) = false := by simpa using c4
  by_cases c5 : x.ask = 5
  · have hl : askS c.sc n x = rngW c.sc n (max (behD c.ys x.val) (Ym c.ys)) c.ys.length := by unfold askS; rw [if_neg c1, if_neg c2, if_neg c3, if_neg c4, if_pos c5]; rfl
    rw [hl]
    obtain ⟨W, e20, hW, hone⟩ := run20s hcm (max (behD c.ys x.val) (Ym c.ys)) c.ys.length H1
    refine ⟨W, ?_, hW⟩
    have hfin := fW _ _ hW
    clear hl hW fW hlc
    generalize hA' : max (place c.ys x.val) (Ym c.ys) = A at *
    generalize hB' : max (behD c.ys x.val) (Ym c.ys) = Bq at *
    rcases hbp with ⟨hf, hb⟩ | ⟨hf, hb⟩
    · rw [hf] at e74
      clear hm hcm hls hck hgd hc
      obtain ⟨ask, col, ⟨vk, vn, vs', vt⟩, xa, xb⟩ := x
      obtain ⟨cn, ys, bs, D, B⟩ := c
      simp only [N.d, V.d, DV.cells] at *
      subst hk
      subst c5
      subst hH1
      rw [Yg (X := X) _ b38 _ rfl rfl]; unfold b38
      (repeat (first | rw [Zj] | rw [Zc (by simp [go_sem, hC, k1, k2, k3, hkl, hge, hDv, hD1, hB1, e71, ZZ, c7, c7', e72, e74, z1, zb, hb, m1, m2, c1, c1', c2, c2', c3, c3', c4, c4', e20, hone]; exact ⟨rfl, rfl⟩)] | rw [Zx (by simp [lk, Za, Od.v, hC, k1, k2, k3, hkl, hge, hDv, hD1, hB1, e71, ZZ, c7, c7', e72, e74, z1, zb, hb, m1, m2, c1, c1', c2, c2', c3, c3', c4, c4', e20, hone]; exact rfl)] | rw [Zn] | rw [Zm] | rw [Zo] | rw [ZA] | rw [Zr] | rw [Zw] | rw [Zq] | rw [Zp] | rw [Zk] | rw [Zg] | rw [Zh] | rw [Zd (by decide)] | rw [Zi] | rw [Ze] | rw [Zf] | rw [Zb (by decide)] | rw [ZB] | rw [Zt (by simp [go_sem, hC, k1, k2, k3, hkl, hge, hDv, hD1, hB1, e71, ZZ, c7, c7', e72, e74, z1, zb, hb, m1, m2, c1, c1', c2, c2', c3, c3', c4, c4', e20, hone]; exact ⟨rfl, rfl⟩)] | rw [Zy (by simp [lk, Za, Od.v, hC, k1, k2, k3, hkl, hge, hDv, hD1, hB1, e71, ZZ, c7, c7', e72, e74, z1, zb, hb, m1, m2, c1, c1', c2, c2', c3, c3', c4, c4', e20, hone]; exact rfl)] | rw [Zz]))
      simp only [Zs, Yc, lk, Za, List.map_cons, List.map_nil, reduceIte, Option.map_some, Nat.reduceEqDiff]
      rw [Zl, gW]
      exact congrArg some hfin
    · rw [hf] at e74
      rw [hb] at m2 hB'
      obtain rfl : Bq = A := by rw [← hA', ← hB']
      clear hm hcm hls hck hgd hc
      obtain ⟨ask, col, ⟨vk, vn, vs', vt⟩, xa, xb⟩ := x
      obtain ⟨cn, ys, bs, D, B⟩ := c
      simp only [N.d, V.d, DV.cells] at *
      subst hk
      subst c5
      subst hH1
      rw [Yg (X := X) _ b38 _ rfl rfl]; unfold b38
      (repeat (first | rw [Zj] | rw [Zc (by simp [go_sem, hC, k1, k2, k3, hkl, hge, hDv, hD1, hB1, e71, ZZ, c7, c7', e72, e74, z1, zb, hb, m1, m2, c1, c1', c2, c2', c3, c3', c4, c4', e20, hone]; exact ⟨rfl, rfl⟩)] | rw [Zx (by simp [lk, Za, Od.v, hC, k1, k2, k3, hkl, hge, hDv, hD1, hB1, e71, ZZ, c7, c7', e72, e74, z1, zb, hb, m1, m2, c1, c1', c2, c2', c3, c3', c4, c4', e20, hone]; exact rfl)] | rw [Zn] | rw [Zm] | rw [Zo] | rw [ZA] | rw [Zr] | rw [Zw] | rw [Zq] | rw [Zp] | rw [Zk] | rw [Zg] | rw [Zh] | rw [Zd (by decide)] | rw [Zi] | rw [Ze] | rw [Zf] | rw [Zb (by decide)] | rw [ZB] | rw [Zt (by simp [go_sem, hC, k1, k2, k3, hkl, hge, hDv, hD1, hB1, e71, ZZ, c7, c7', e72, e74, z1, zb, hb, m1, m2, c1, c1', c2, c2', c3, c3', c4, c4', e20, hone]; exact ⟨rfl, rfl⟩)] | rw [Zy (by simp [lk, Za, Od.v, hC, k1, k2, k3, hkl, hge, hDv, hD1, hB1, e71, ZZ, c7, c7', e72, e74, z1, zb, hb, m1, m2, c1, c1', c2, c2', c3, c3', c4, c4', e20, hone]; exact rfl)] | rw [Zz]))
      simp only [Zs, Yc, lk, Za, List.map_cons, List.map_nil, reduceIte, Option.map_some, Nat.reduceEqDiff]
      rw [Zl, gW]
      exact congrArg some hfin
  have c5' : (x.ask == 5) = false := by simpa using c5
  · have hl : askS c.sc n x = rngW c.sc n (max (place c.ys x.val) (Ym c.ys)) c.ys.length := by unfold askS; rw [if_neg c1, if_neg c2, if_neg c3, if_neg c4, if_neg c5]; rfl
    rw [hl]
    obtain ⟨W, e20, hW, hone⟩ := run20s hcm (max (place c.ys x.val) (Ym c.ys)) c.ys.length H1
    refine ⟨W, ?_, hW⟩
    have hfin := fW _ _ hW
    clear hl hW fW hlc
    generalize hA' : max (place c.ys x.val) (Ym c.ys) = A at *
    generalize hB' : max (behD c.ys x.val) (Ym c.ys) = Bq at *
    rcases hbp with ⟨hf, hb⟩ | ⟨hf, hb⟩
    · rw [hf] at e74
      clear hm hcm hls hck hgd hc
      obtain ⟨ask, col, ⟨vk, vn, vs', vt⟩, xa, xb⟩ := x
      obtain ⟨cn, ys, bs, D, B⟩ := c
      simp only [N.d, V.d, DV.cells] at *
      subst hk
      subst hH1
      rw [Yg (X := X) _ b38 _ rfl rfl]; unfold b38
      (repeat (first | rw [Zj] | rw [Zc (by simp [go_sem, hC, k1, k2, k3, hkl, hge, hDv, hD1, hB1, e71, ZZ, c7, c7', e72, e74, z1, zb, hb, m1, m2, c1, c1', c2, c2', c3, c3', c4, c4', c5, c5', e20, hone]; exact ⟨rfl, rfl⟩)] | rw [Zx (by simp [lk, Za, Od.v, hC, k1, k2, k3, hkl, hge, hDv, hD1, hB1, e71, ZZ, c7, c7', e72, e74, z1, zb, hb, m1, m2, c1, c1', c2, c2', c3, c3', c4, c4', c5, c5', e20, hone]; exact rfl)] | rw [Zn] | rw [Zm] | rw [Zo] | rw [ZA] | rw [Zr] | rw [Zw] | rw [Zq] | rw [Zp] | rw [Zk] | rw [Zg] | rw [Zh] | rw [Zd (by decide)] | rw [Zi] | rw [Ze] | rw [Zf] | rw [Zb (by decide)] | rw [ZB] | rw [Zt (by simp [go_sem, hC, k1, k2, k3, hkl, hge, hDv, hD1, hB1, e71, ZZ, c7, c7', e72, e74, z1, zb, hb, m1, m2, c1, c1', c2, c2', c3, c3', c4, c4', c5, c5', e20, hone]; exact ⟨rfl, rfl⟩)] | rw [Zy (by simp [lk, Za, Od.v, hC, k1, k2, k3, hkl, hge, hDv, hD1, hB1, e71, ZZ, c7, c7', e72, e74, z1, zb, hb, m1, m2, c1, c1', c2, c2', c3, c3', c4, c4', c5, c5', e20, hone]; exact rfl)] | rw [Zz]))
      simp only [Zs, Yc, lk, Za, List.map_cons, List.map_nil, reduceIte, Option.map_some, Nat.reduceEqDiff]
      rw [Zl, gW]
      exact congrArg some hfin
    · rw [hf] at e74
      rw [hb] at m2 hB'
      obtain rfl : Bq = A := by rw [← hA', ← hB']
      clear hm hcm hls hck hgd hc
      obtain ⟨ask, col, ⟨vk, vn, vs', vt⟩, xa, xb⟩ := x
      obtain ⟨cn, ys, bs, D, B⟩ := c
      simp only [N.d, V.d, DV.cells] at *
      subst hk
      subst hH1
      rw [Yg (X := X) _ b38 _ rfl rfl]; unfold b38
      (repeat (first | rw [Zj] | rw [Zc (by simp [go_sem, hC, k1, k2, k3, hkl, hge, hDv, hD1, hB1, e71, ZZ, c7, c7', e72, e74, z1, zb, hb, m1, m2, c1, c1', c2, c2', c3, c3', c4, c4', c5, c5', e20, hone]; exact ⟨rfl, rfl⟩)] | rw [Zx (by simp [lk, Za, Od.v, hC, k1, k2, k3, hkl, hge, hDv, hD1, hB1, e71, ZZ, c7, c7', e72, e74, z1, zb, hb, m1, m2, c1, c1', c2, c2', c3, c3', c4, c4', c5, c5', e20, hone]; exact rfl)] | rw [Zn] | rw [Zm] | rw [Zo] | rw [ZA] | rw [Zr] | rw [Zw] | rw [Zq] | rw [Zp] | rw [Zk] | rw [Zg] | rw [Zh] | rw [Zd (by decide)] | rw [Zi] | rw [Ze] | rw [Zf] | rw [Zb (by decide)] | rw [ZB] | rw [Zt (by simp [go_sem, hC, k1, k2, k3, hkl, hge, hDv, hD1, hB1, e71, ZZ, c7, c7', e72, e74, z1, zb, hb, m1, m2, c1, c1', c2, c2', c3, c3', c4, c4', c5, c5', e20, hone]; exact ⟨rfl, rfl⟩)] | rw [Zy (by simp [lk, Za, Od.v, hC, k1, k2, k3, hkl, hge, hDv, hD1, hB1, e71, ZZ, c7, c7', e72, e74, z1, zb, hb, m1, m2, c1, c1', c2, c2', c3, c3', c4, c4', c5, c5', e20, hone]; exact rfl)] | rw [Zz]))
      simp only [Zs, Yc, lk, Za, List.map_cons, List.map_nil, reduceIte, Option.map_some, Nat.reduceEqDiff]
      rw [Zl, gW]
      exact congrArg some hfin
theorem loop65 {h : ZQ} {L : DV} {xs : List RC} {f : Nat} {cap : List DV} {P : RC → Bool} (hL : vw h 3 L = some (xs.map RC.d)) (hF : ∀ x, x ∈ xs → E X f (x.d :: cap) h = some (.bool (P x), h)) (hb : xs.length ≤ 1000) :
    ∀ (k i : Nat), xs.length - i ≤ k → i ≤ xs.length → ((xs.drop i).any P = true ∧ ∃ j : Nat, C X (.loop lp65_0) [(0, L), (1, .func f [] cap), (7, .int .i64 xs.length), (8, .int .i64 i)] h = some (.ret, [(4, .int .i64 j)], h)) ∨ ((xs.drop i).any P = false ∧ ∃ ex, C X (.loop lp65_0) [(0, L), (1, .func f [] cap), (7, .int .i64 xs.length), (8, .int .i64 i)] h = some (.exit 0, ex, h)) := by
  intro k
  induction k with
  | zero =>
    intro i hk hi
    obtain rfl : i = xs.length := by omega
    refine .inr ⟨by simp, ?_⟩
    rw [Yl]
    unfold lp65_0
    (repeat (first | rw [Zj] | rw [Zc (by simp [go_sem]; exact ⟨rfl, rfl⟩)] | rw [Zx (by simp [lk, Za, Od.v]; exact rfl)] | rw [Zn] | rw [Zm] | rw [Zo] | rw [ZA] | rw [Zr] | rw [Zw] | rw [Zq] | rw [Zp] | rw [Zk] | rw [Zg] | rw [Zh] | rw [Zd (by decide)] | rw [Zi] | rw [Ze] | rw [Zf] | rw [Zb (by decide)] | rw [ZB] | rw [Zt (by simp [go_sem]; exact ⟨rfl, rfl⟩)] | rw [Zy (by simp [lk, Za, Od.v]; exact rfl)] | rw [Zz]))
    rw [YB]
    exact ⟨_, rfl⟩
  | succ k ih =>
    intro i hk hi
    by_cases c : i < xs.length
    · obtain ⟨I, hI⟩ : ∃ I, I = i + 1 := ⟨_, rfl⟩
      have z1 : IntKind.i64.wrap ((i : Int) + 1) = (I : Int) := (by rw [wrap64 _ (by omega) (by omega)]; omega)
      obtain ⟨x, hx⟩ : ∃ x, x = xs[i] := ⟨_, rfl⟩
      have hx' := hx.symm
      have hge : xs[i].d = .agg [.int .i64 x.n, x.D, x.B] := by rw [← hx]; rfl
      have e := hF x (by rw [hx]; exact List.getElem_mem c)
      have e : E X f (.agg [.int .i64 x.n, x.D, x.B] :: cap) h = some (.bool (P x), h) := e
      have hd : xs.drop i = x :: xs.drop I := by rw [List.drop_eq_getElem_cons c, ← hx, hI]
      rw [hd, List.any_cons]
      cases hp : P x
      · rw [hp] at e
        have hs : C X lp65_0 [(0, L), (1, .func f [] cap), (7, .int .i64 xs.length), (8, .int .i64 i)] h = some (.norm, [(0, L), (1, .func f [] cap), (7, .int .i64 xs.length), (8, .int .i64 I)], h) := by
          clear ih hF
          unfold lp65_0
          (repeat (first | rw [Zj] | rw [Zc (by simp [go_sem, c, z1, hL, hge, e, ZZ]; exact ⟨rfl, rfl⟩)] | rw [Zx (by simp [lk, Za, Od.v, c, z1, hL, hge, e, ZZ]; exact rfl)] | rw [Zn] | rw [Zm] | rw [Zo] | rw [ZA] | rw [Zr] | rw [Zw] | rw [Zq] | rw [Zp] | rw [Zk] | rw [Zg] | rw [Zh] | rw [Zd (by decide)] | rw [Zi] | rw [Ze] | rw [Zf] | rw [Zb (by decide)] | rw [ZB] | rw [Zt (by simp [go_sem, c, z1, hL, hge, e, ZZ]; exact ⟨rfl, rfl⟩)] | rw [Zy (by simp [lk, Za, Od.v, c, z1, hL, hge, e, ZZ]; exact rfl)] | rw [Zz]))
          simp [Za, lk]
        rw [Yl, hs, Yy, Bool.false_or]
        exact ih I (by omega) (by omega)
      · rw [hp] at e
        refine .inl ⟨rfl, i, ?_⟩
        have hs : C X lp65_0 [(0, L), (1, .func f [] cap), (7, .int .i64 xs.length), (8, .int .i64 i)] h = some (.ret, [(4, .int .i64 i)], h) := by
          clear ih hF
          unfold lp65_0
          (repeat (first | rw [Zj] | rw [Zc (by simp [go_sem, c, z1, hL, hge, e, ZZ]; exact ⟨rfl, rfl⟩)] | rw [Zx (by simp [lk, Za, Od.v, c, z1, hL, hge, e, ZZ]; exact rfl)] | rw [Zn] | rw [Zm] | rw [Zo] | rw [ZA] | rw [Zr] | rw [Zw] | rw [Zq] | rw [Zp] | rw [Zk] | rw [Zg] | rw [Zh] | rw [Zd (by decide)] | rw [Zi] | rw [Ze] | rw [Zf] | rw [Zb (by decide)] | rw [ZB] | rw [Zt (by simp [go_sem, c, z1, hL, hge, e, ZZ]; exact ⟨rfl, rfl⟩)] | rw [Zy (by simp [lk, Za, Od.v, c, z1, hL, hge, e, ZZ]; exact rfl)] | rw [Zz]))
          simp [Za, lk]
        rw [Yl, hs, lp_ret]
    · exact ih i (by omega) hi
theorem run35 {h : ZQ} {L : DV} {xs : List RC} {f : Nat} {cap : List DV} {P : RC → Bool} (hL : vw h 3 L = some (xs.map RC.d)) (hF : ∀ x, x ∈ xs → E X f (x.d :: cap) h = some (.bool (P x), h)) (hb : xs.length ≤ 1000) : E X 35 [L, .func f [] cap] h = some (.bool (xs.any P), h) := by
  have l := loop65 hL hF hb xs.length 0 (by omega) (by omega)
  rw [List.drop_zero, show ((0 : Nat) : Int) = 0 from rfl] at l
  rcases l with ⟨h1, j, h2⟩ | ⟨h1, ex, h2⟩
  · have e : E X 65 [L, .func f [] cap] h = some (.int .i64 j, h) := by
      rw [Yg (X := X) _ b65 _ rfl rfl]; unfold b65
      (repeat (first | rw [Zj] | rw [Zc (by simp [go_sem, hL]; exact ⟨rfl, rfl⟩)] | rw [Zx (by simp [lk, Za, Od.v, hL]; exact rfl)] | rw [Zn] | rw [Zm] | rw [Zo] | rw [ZA] | rw [Zr] | rw [Zw] | rw [Zq] | rw [Zp] | rw [Zk] | rw [Zg] | rw [Zh] | rw [Zd (by decide)] | rw [Zi] | rw [Ze] | rw [Zf] | rw [Zb (by decide)] | rw [ZB] | rw [Zt (by simp [go_sem, hL]; exact ⟨rfl, rfl⟩)] | rw [Zy (by simp [lk, Za, Od.v, hL]; exact rfl)] | rw [Zz]))
      (try simp only [Za, List.map_cons, List.map_nil, lk, reduceIte, Nat.reduceEqDiff, Nat.zero_ne_one, Nat.one_ne_zero])
      rw [h2]
      (repeat (first | rw [Zj] | rw [Zc (by simp [go_sem]; exact ⟨rfl, rfl⟩)] | rw [Zx (by simp [lk, Za, Od.v]; exact rfl)] | rw [Zn] | rw [Zm] | rw [Zo] | rw [ZA] | rw [Zr] | rw [Zw] | rw [Zq] | rw [Zp] | rw [Zk] | rw [Zg] | rw [Zh] | rw [Zd (by decide)] | rw [Zi] | rw [Ze] | rw [Zf] | rw [Zb (by decide)] | rw [ZB] | rw [Zt (by simp [go_sem]; exact ⟨rfl, rfl⟩)] | rw [Zy (by simp [lk, Za, Od.v]; exact rfl)] | rw [Zz]))
      simp [Zs, ZC, Yc, go_sem, fin, YD, YC, YG, YF, YI]
    have hj : (0 : Int) ≤ (j : Int) := by omega
    rw [h1]
    rw [Yg (X := X) _ b35 _ rfl rfl]; unfold b35; (repeat (first | rw [Zj] | rw [Zc (by simp [go_sem, e, hj]; exact ⟨rfl, rfl⟩)] | rw [Zx (by simp [lk, Za, Od.v, e, hj]; exact rfl)] | rw [Zn] | rw [Zm] | rw [Zo] | rw [ZA] | rw [Zr] | rw [Zw] | rw [Zq] | rw [Zp] | rw [Zk] | rw [Zg] | rw [Zh] | rw [Zd (by decide)] | rw [Zi] | rw [Ze] | rw [Zf] | rw [Zb (by decide)] | rw [ZB] | rw [Zt (by simp [go_sem, e, hj]; exact ⟨rfl, rfl⟩)] | rw [Zy (by simp [lk, Za, Od.v, e, hj]; exact rfl)] | rw [Zz])); simp [Zs, ZC, Yc, go_sem, fin, YD, YC, YG, YF, YI, e, hj]
  · have e : E X 65 [L, .func f [] cap] h = some (.int .i64 (-1), h) := by
      rw [Yg (X := X) _ b65 _ rfl rfl]; unfold b65
      (repeat (first | rw [Zj] | rw [Zc (by simp [go_sem, hL]; exact ⟨rfl, rfl⟩)] | rw [Zx (by simp [lk, Za, Od.v, hL]; exact rfl)] | rw [Zn] | rw [Zm] | rw [Zo] | rw [ZA] | rw [Zr] | rw [Zw] | rw [Zq] | rw [Zp] | rw [Zk] | rw [Zg] | rw [Zh] | rw [Zd (by decide)] | rw [Zi] | rw [Ze] | rw [Zf] | rw [Zb (by decide)] | rw [ZB] | rw [Zt (by simp [go_sem, hL]; exact ⟨rfl, rfl⟩)] | rw [Zy (by simp [lk, Za, Od.v, hL]; exact rfl)] | rw [Zz]))
      (try simp only [Za, List.map_cons, List.map_nil, lk, reduceIte, Nat.reduceEqDiff, Nat.zero_ne_one, Nat.one_ne_zero])
      rw [h2]
      (repeat (first | rw [Zj] | rw [Zc (by simp [go_sem]; exact ⟨rfl, rfl⟩)] | rw [Zx (by simp [lk, Za, Od.v]; exact rfl)] | rw [Zn] | rw [Zm] | rw [Zo] | rw [ZA] | rw [Zr] | rw [Zw] | rw [Zq] | rw [Zp] | rw [Zk] | rw [Zg] | rw [Zh] | rw [Zd (by decide)] | rw [Zi] | rw [Ze] | rw [Zf] | rw [Zb (by decide)] | rw [ZB] | rw [Zt (by simp [go_sem]; exact ⟨rfl, rfl⟩)] | rw [Zy (by simp [lk, Za, Od.v]; exact rfl)] | rw [Zz]))
      simp [Zs, ZC, Yc, go_sem, fin, YD, YC, YG, YF, YI]
    rw [h1]
    rw [Yg (X := X) _ b35 _ rfl rfl]; unfold b35; (repeat (first | rw [Zj] | rw [Zc (by simp [go_sem, e]; exact ⟨rfl, rfl⟩)] | rw [Zx (by simp [lk, Za, Od.v, e]; exact rfl)] | rw [Zn] | rw [Zm] | rw [Zo] | rw [ZA] | rw [Zr] | rw [Zw] | rw [Zq] | rw [Zp] | rw [Zk] | rw [Zg] | rw [Zh] | rw [Zd (by decide)] | rw [Zi] | rw [Ze] | rw [Zf] | rw [Zb (by decide)] | rw [ZB] | rw [Zt (by simp [go_sem, e]; exact ⟨rfl, rfl⟩)] | rw [Zy (by simp [lk, Za, Od.v, e]; exact rfl)] | rw [Zz])); simp [Zs, ZC, Yc, go_sem, fin, YD, YC, YG, YF, YI, e]
open Classical in
noncomputable def badC (n : Nat) (c : RC) : Bool := decide (¬ (c.n = (n : Int) ∧ okC c.n c.ys c.bs))
open Classical in
theorem badC_false {n : Nat} {c : RC} (h : c.n = (n : Int) ∧ okC c.n c.ys c.bs) : badC n c = false := by
  unfold badC
  exact decide_eq_false (fun q => q h)
open Classical in
theorem badC_true {n : Nat} {c : RC} (h : ¬ (c.n = (n : Int) ∧ okC c.n c.ys c.bs)) : badC n c = true := by
  unfold badC
  exact decide_eq_true h
theorem run36 {H : ZQ} {p n : Nat} {c : RC} (hc : c.Ok) (hp : H[p]? = some (.box 3 [.int .i64 n])) : E X 36 [c.d, .ref p 0] H = some (.bool (badC n c), H) := by
  have e25 := fun g => run25g (n := c.n) hc.dict (by have := hc.yl; omega) hc.bytes hc.bb g
  have hpG : ∀ G, (H ++ G)[p]? = some (.box 3 [.int .i64 n]) := fun G => hle hp G
  by_cases c1 : c.n = (n : Int)
  · by_cases c2 : okC c.n c.ys c.bs
    · have hb : badC n c = false := badC_false ⟨c1, c2⟩
      rw [hb]
      have e25' : ∀ g, E X 25 [colD c.n c.D c.B] g = some (.bool true, g) := fun g => by rw [e25 g]; simp [c2]
      clear e25 hb c2
      obtain ⟨cn, ys, bs, D, B⟩ := c
      simp only [RC.d] at *
      subst c1
      rw [Yg (X := X) _ b36 _ rfl rfl]; unfold b36; (repeat (first | rw [Zj] | rw [Zc (by simp [go_sem, e25', hpG]; exact ⟨rfl, rfl⟩)] | rw [Zx (by simp [lk, Za, Od.v, e25', hpG]; exact rfl)] | rw [Zn] | rw [Zm] | rw [Zo] | rw [ZA] | rw [Zr] | rw [Zw] | rw [Zq] | rw [Zp] | rw [Zk] | rw [Zg] | rw [Zh] | rw [Zd (by decide)] | rw [Zi] | rw [Ze] | rw [Zf] | rw [Zb (by decide)] | rw [ZB] | rw [Zt (by simp [go_sem, e25', hpG]; exact ⟨rfl, rfl⟩)] | rw [Zy (by simp [lk, Za, Od.v, e25', hpG]; exact rfl)] | rw [Zz])); simp [Zs, ZC, Yc, go_sem, fin, YD, YC, YG, YF, YI, e25', hpG]
    · have hb : badC n c = true := badC_true (fun h => c2 h.2)
      rw [hb]
      have e25' : ∀ g, E X 25 [colD c.n c.D c.B] g = some (.bool false, g) := fun g => by rw [e25 g]; simp [c2]
      clear e25 hb c2
      obtain ⟨cn, ys, bs, D, B⟩ := c
      simp only [RC.d] at *
      subst c1
      rw [Yg (X := X) _ b36 _ rfl rfl]; unfold b36; (repeat (first | rw [Zj] | rw [Zc (by simp [go_sem, e25', hpG]; exact ⟨rfl, rfl⟩)] | rw [Zx (by simp [lk, Za, Od.v, e25', hpG]; exact rfl)] | rw [Zn] | rw [Zm] | rw [Zo] | rw [ZA] | rw [Zr] | rw [Zw] | rw [Zq] | rw [Zp] | rw [Zk] | rw [Zg] | rw [Zh] | rw [Zd (by decide)] | rw [Zi] | rw [Ze] | rw [Zf] | rw [Zb (by decide)] | rw [ZB] | rw [Zt (by simp [go_sem, e25', hpG]; exact ⟨rfl, rfl⟩)] | rw [Zy (by simp [lk, Za, Od.v, e25', hpG]; exact rfl)] | rw [Zz])); simp [Zs, ZC, Yc, go_sem, fin, YD, YC, YG, YF, YI, e25', hpG]
  · have hb : badC n c = true := badC_true (fun h => c1 h.1)
    rw [hb]
    have c1' : (c.n != (n : Int)) = true := by simpa using c1
    clear e25 hb
    obtain ⟨cn, ys, bs, D, B⟩ := c
    simp only [RC.d] at *
    rw [Yg (X := X) _ b36 _ rfl rfl]; unfold b36; (repeat (first | rw [Zj] | rw [Zc (by simp [go_sem, c1, c1', hpG]; exact ⟨rfl, rfl⟩)] | rw [Zx (by simp [lk, Za, Od.v, c1, c1', hpG]; exact rfl)] | rw [Zn] | rw [Zm] | rw [Zo] | rw [ZA] | rw [Zr] | rw [Zw] | rw [Zq] | rw [Zp] | rw [Zk] | rw [Zg] | rw [Zh] | rw [Zd (by decide)] | rw [Zi] | rw [Ze] | rw [Zf] | rw [Zb (by decide)] | rw [ZB] | rw [Zt (by simp [go_sem, c1, c1', hpG]; exact ⟨rfl, rfl⟩)] | rw [Zy (by simp [lk, Za, Od.v, c1, c1', hpG]; exact rfl)] | rw [Zz])); simp [Zs, ZC, Yc, go_sem, fin, YD, YC, YG, YF, YI, c1, c1', hpG]
open Classical in
/-- The words of the rows of a sealed segment for which a filter holds. -/
noncomputable def segW (cs : List RC) (n : Nat) (xs : List N) : List Nat := if ∀ c ∈ cs, c.n = (n : Int) ∧ okC c.n c.ys c.bs then sealW (cs.map RC.sc) n xs else []
set_option maxHeartbeats 2000000 in
theorem run11 {H : ZQ} {L Of Cs : DV} {p1 p2 p3 p4 : Int} {xs : List N} {os : List DV} {cs : List RC} (hL : ∀ G, vw (H ++ G) 8 L = some (xs.map N.d)) (hO : ∀ g, vw g 1 Of = some os) (hC : ∀ g, vw g 3 Cs = some (cs.map RC.d)) (hok : ∀ c ∈ cs, c.Ok) (hn : os.length ≤ 200) (hcl : cs.length ≤ 12) (hb : xs.length ≤ 1000000) :
    ∃ W, E X 11 [L, .agg [.int .i64 p1, .int .i64 p2, .int .i64 p3, .int .i64 p4, Of, Cs]] H = some (.agg [W], H) ∧ WL W (segW cs os.length xs) ∧ WB (segW cs os.length xs) ∧ (segW cs os.length xs).length ≤ 1024 := by
  obtain ⟨n, hnn⟩ : ∃ n, n = os.length := ⟨_, rfl⟩
  rw [← hnn] at hn ⊢
  have hnn' := hnn.symm
  obtain ⟨H1, hH1⟩ : ∃ H1, H1 = H ++ [HO.box 26 [.int .i64 p1, .int .i64 p2, .int .i64 p3, .int .i64 p4, Of, Cs], .box 34 [.nils], .box 3 [.int .i64 n]] := ⟨_, rfl⟩
  have hp : H1[H.length + 2]? = some (.box 3 [.int .i64 n]) := by rw [hH1]; simp [hget]
  have e35 := run35 (P := badC n) (hC H1) (fun c hc => run36 (hok c hc) hp) (by omega)
  by_cases hall : ∀ c ∈ cs, c.n = (n : Int) ∧ okC c.n c.ys c.bs
  · have hs : segW cs n xs = sealW (cs.map RC.sc) n xs := by unfold segW; rw [if_pos hall]
    rw [hs]
    have hany : cs.any (badC n) = false := by
      rw [List.any_eq_false]
      intro c hc
      rw [Bool.not_eq_true]
      exact badC_false (hall c hc)
    rw [hany] at e35
    have hm : ∀ c ∈ cs, c.May n := fun c hc => ⟨hok c hc, (hall c hc).2, (hall c hc).1⟩
    have hlf : LeafOk H1 38 [.agg [.int .i64 p1, .int .i64 p2, .int .i64 p3, .int .i64 p4, Of, Cs]] (leafS (cs.map RC.sc) n) := by
      intro G x
      obtain ⟨W, h1, h2⟩ := run38 (H := H1 ++ G) (Of := Of) (p1 := p1) (p2 := p2) (p3 := p3) (p4 := p4) hC hm hn hcl x
      exact ⟨W, h1, h2, leafS_WB _ _ _, leafS_len _ _ (by omega)⟩
    obtain ⟨W, e37, h2, h3, h4⟩ := run37 (H := H1) (L := L) (n := n) (by omega) (fun G => by rw [hH1, List.append_assoc]; exact hL _) hb hlf
    refine ⟨W, ?_, h2, h3, h4⟩
    change WL W (sealW (cs.map RC.sc) n xs) at h2
    have hone : W.one = true := by rcases h2 with rfl | ⟨rfl, _⟩ <;> rfl
    have hfin : fin H (H ++ [HO.box 26 [.int .i64 p1, .int .i64 p2, .int .i64 p3, .int .i64 p4, Of, Cs], .box 34 [W], .box 3 [.int .i64 n]]) [.agg [W]] = (.agg [W], H) := fin_wl h2 (by simp)
    have g3 : (H ++ [HO.box 26 [.int .i64 p1, .int .i64 p2, .int .i64 p3, .int .i64 p4, Of, Cs], .box 34 [W], .box 3 [.int .i64 n]])[H.length + 1]? = some (.box 34 [W]) := by simp [hget]
    clear hs hall hm hlf h2 h3 h4 hok hnn
    subst hH1
    rw [Yg (X := X) _ b11 _ rfl rfl]; unfold b11
    (repeat (first | rw [Zj] | rw [Zc (by simp [go_sem, hO, hC, hnn', e35, e37, hone, ZZ]; exact ⟨rfl, rfl⟩)] | rw [Zx (by simp [lk, Za, Od.v, hO, hC, hnn', e35, e37, hone, ZZ]; exact rfl)] | rw [Zn] | rw [Zm] | rw [Zo] | rw [ZA] | rw [Zr] | rw [Zw] | rw [Zq] | rw [Zp] | rw [Zk] | rw [Zg] | rw [Zh] | rw [Zd (by decide)] | rw [Zi] | rw [Ze] | rw [Zf] | rw [Zb (by decide)] | rw [ZB] | rw [Zt (by simp [go_sem, hO, hC, hnn', e35, e37, hone, ZZ]; exact ⟨rfl, rfl⟩)] | rw [Zy (by simp [lk, Za, Od.v, hO, hC, hnn', e35, e37, hone, ZZ]; exact rfl)] | rw [Zz]))
    simp only [Zs, Yc, lk, Za, List.map_cons, List.map_nil, reduceIte, Option.map_some, Nat.reduceEqDiff]
    rw [Zl, g3]
    exact congrArg some hfin
  · have hs : segW cs n xs = [] := by unfold segW; rw [if_neg hall]
    rw [hs]
    have hany : cs.any (badC n) = true := by
      by_cases q : cs.any (badC n) = true
      · exact q
      · exfalso
        apply hall
        intro c hc
        have := List.any_eq_false.1 (Bool.eq_false_iff.2 q) c hc
        unfold badC at this
        simpa using this
    rw [hany] at e35
    refine ⟨.nils, ?_, .inr ⟨rfl, rfl⟩, (fun x hx => by cases hx), by simp⟩
    have hfin : fin H (H ++ [HO.box 26 [.int .i64 p1, .int .i64 p2, .int .i64 p3, .int .i64 p4, Of, Cs], .box 34 [.nils], .box 3 [.int .i64 n]]) [.agg [.nils]] = (.agg [.nils], H) := fin_wl (ws := []) (.inr ⟨rfl, rfl⟩) (by simp)
    have g3 : (H ++ [HO.box 26 [.int .i64 p1, .int .i64 p2, .int .i64 p3, .int .i64 p4, Of, Cs], .box 34 [.nils], .box 3 [.int .i64 n]])[H.length + 1]? = some (.box 34 [.nils]) := by simp [hget]
    clear hs hall hok hnn
    subst hH1
    rw [Yg (X := X) _ b11 _ rfl rfl]; unfold b11
    (repeat (first | rw [Zj] | rw [Zc (by simp [go_sem, hO, hC, hnn', e35, ZZ]; exact ⟨rfl, rfl⟩)] | rw [Zx (by simp [lk, Za, Od.v, hO, hC, hnn', e35, ZZ]; exact rfl)] | rw [Zn] | rw [Zm] | rw [Zo] | rw [ZA] | rw [Zr] | rw [Zw] | rw [Zq] | rw [Zp] | rw [Zk] | rw [Zg] | rw [Zh] | rw [Zd (by decide)] | rw [Zi] | rw [Ze] | rw [Zf] | rw [Zb (by decide)] | rw [ZB] | rw [Zt (by simp [go_sem, hO, hC, hnn', e35, ZZ]; exact ⟨rfl, rfl⟩)] | rw [Zy (by simp [lk, Za, Od.v, hO, hC, hnn', e35, ZZ]; exact rfl)] | rw [Zz]))
    simp only [Zs, Yc, lk, Za, List.map_cons, List.map_nil, reduceIte, Option.map_some, Nat.reduceEqDiff]
    rw [Zl, g3]
    exact congrArg some hfin
theorem loop76 {Hb : ZQ} {Of Cs : DV} {p1 p2 p3 p4 : Int} {cs : List RC} {n i b : Nat} (hC : ∀ g, vw g 3 Cs = some (cs.map RC.d)) (hm : ∀ c ∈ cs, c.May n) (hcl : cs.length ≤ 12) (hi : i < n) (hn : n ≤ 200) (hb : Hb[b]? = some (.box 26 [.int .i64 p1, .int .i64 p2, .int .i64 p3, .int .i64 p4, Of, Cs])) :
    ∀ (m k : Nat) (h : ZQ) (o : DV), cs.length - k ≤ m → k ≤ cs.length → Gro 48 4 Hb h o ((rowS ((cs.take k).map RC.sc) i).map V.d) → ∃ ex h' o', C X (.loop lp76_0) [(1, .int .i64 i), (2, .ref b 0), (5, o), (6, .int .i64 k)] h = some (.exit 0, (1, .int .i64 i) :: (2, .ref b 0) :: (5, o') :: ex, h') ∧ Gro 48 4 Hb h' o' ((rowS (cs.map RC.sc) i).map V.d) := by
  intro m
  induction m with
  | zero =>
    intro k h o hk hk2 hg
    obtain rfl : k = cs.length := by omega
    have hb' := pre_get hg.1 hb
    refine ⟨[(6, .int .i64 cs.length), (21, .bool false)], h, o, ?_, by rw [List.take_length] at hg; exact hg⟩
    rw [Yl]
    unfold lp76_0
    (repeat (first | rw [Zj] | rw [Zc (by simp [go_sem, hC, hb', ZZ]; exact ⟨rfl, rfl⟩)] | rw [Zx (by simp [lk, Za, Od.v, hC, hb', ZZ]; exact rfl)] | rw [Zn] | rw [Zm] | rw [Zo] | rw [ZA] | rw [Zr] | rw [Zw] | rw [Zq] | rw [Zp] | rw [Zk] | rw [Zg] | rw [Zh] | rw [Zd (by decide)] | rw [Zi] | rw [Ze] | rw [Zf] | rw [Zb (by decide)] | rw [ZB] | rw [Zt (by simp [go_sem, hC, hb', ZZ]; exact ⟨rfl, rfl⟩)] | rw [Zy (by simp [lk, Za, Od.v, hC, hb', ZZ]; exact rfl)] | rw [Zz]))
    rw [YB]
    simp [Za, lk]
  | succ m ih =>
    intro k h o hk hk2 hg
    by_cases c : k < cs.length
    · obtain ⟨K, hK⟩ : ∃ K, K = k + 1 := ⟨_, rfl⟩
      have z1 : IntKind.i64.wrap ((k : Int) + 1) = (K : Int) := (by rw [wrap64 _ (by omega) (by omega)]; omega)
      obtain ⟨x, hx⟩ : ∃ x, x = cs[k] := ⟨_, rfl⟩
      have hxm := hm x (by rw [hx]; exact List.getElem_mem c)
      have hge : cs[k].d = .agg [.int .i64 x.n, x.D, x.B] := by rw [← hx]; rfl
      have hb' := pre_get hg.1 hb
      obtain ⟨d, e16, hd⟩ := run16 (H := h) (n := x.n) hxm.ok.dict hxm.ok.yl hxm.ok.sm hxm.ok.bytes hxm.ok.bb (by have := hxm.ok.bl; omega)
      rw [hxm.vals] at hd
      have hvl : (Yu x.sc n).length = n := by simp [Yu]
      rcases hd with ⟨_, h0⟩ | rfl
      · rw [h0] at hvl; simp at hvl; omega
      have hvi : (Yu x.sc n)[i]? = some (x.sc.val i) := by unfold Yu; simp [hi]
      obtain ⟨v, hv⟩ : ∃ v, v = x.sc.val i := ⟨_, rfl⟩
      rw [← hv] at hvi
      have hge2 := hg.ext [.row 48 4 0 ((Yu x.sc n).map V.d)]
      have e : (rowS ((cs.take K).map RC.sc) i).map V.d = (rowS ((cs.take k).map RC.sc) i).map V.d ++ [v.d] := by
        unfold rowS
        rw [hK, ← List.take_append_getElem c, ← hx, hv]
        simp only [List.map_append, List.map_cons, List.map_nil]
      have hln : ((rowS ((cs.take k).map RC.sc) i).map V.d).length ≤ 12 := by unfold rowS; simp; omega
      obtain ⟨o2, h2, ha, hg2⟩ := hge2.app 40 [v.d] (by simp only [List.length_cons, List.length_nil]; omega)
      rw [← e] at hg2
      have hIH := ih K h2 o2 (by omega) (by omega) hg2
      have hw := hge2.vw
      have hrv : vw (h ++ [HO.row 48 4 0 ((Yu x.sc n).map V.d)]) 4 (.row h.length 0 0 n false) = some ((Yu x.sc n).map V.d) := rowV_vw (t := 48) (by simp) hvl
      have y1 : ∀ h, eltL [v.d] h = some ([v.d], h) := fun _ => rfl
      have y2 : Wc 4 v.d := by simp [Wc, DV.cells, V.d, DV.one]
      have y3 : Nr v.d := v.nr
      have y4 : ∀ h, srcOf h 4 (.list 4 [v.d] true) = some [v.d] := fun _ => rfl
      have hVl : ((Yu x.sc n).map V.d).length = n := by rw [List.length_map, hvl]
      have hVi : ((Yu x.sc n).map V.d)[i]? = some v.d := by rw [List.getElem?_map, hvi]; rfl
      obtain ⟨hVi1, hVi2⟩ := List.getElem?_eq_some_iff.1 hVi
      have d1 : ¬ (n : Int) ≤ (i : Int) := by omega
      have d2 : ¬ n ≤ i := by omega
      have hs : C X lp76_0 [(1, .int .i64 i), (2, .ref b 0), (5, o), (6, .int .i64 k)] h = some (.norm, [(1, .int .i64 i), (2, .ref b 0), (5, o2), (6, .int .i64 K)], h2) := by
        clear ih hIH hg hg2 hge2 e hln hb hvi hv
        generalize (rowS ((cs.take k).map RC.sc) i).map V.d = cur at *
        generalize (Yu x.sc n).map V.d = VL at *
        obtain ⟨vk, vn, vs', vt⟩ := v
        simp only [V.d] at *
        unfold lp76_0
        (repeat (first | rw [Zj] | rw [Zc (by simp [go_sem, c, z1, hC, hge, hb', e16, hrv, hVl, hVi, hVi1, hVi2, d1, d2, hi, y1, y2, y3, y4, hw, ha, ZZ]; exact ⟨rfl, rfl⟩)] | rw [Zx (by simp [lk, Za, Od.v, c, z1, hC, hge, hb', e16, hrv, hVl, hVi, hVi1, hVi2, d1, d2, hi, y1, y2, y3, y4, hw, ha, ZZ]; exact rfl)] | rw [Zn] | rw [Zm] | rw [Zo] | rw [ZA] | rw [Zr] | rw [Zw] | rw [Zq] | rw [Zp] | rw [Zk] | rw [Zg] | rw [Zh] | rw [Zd (by decide)] | rw [Zi] | rw [Ze] | rw [Zf] | rw [Zb (by decide)] | rw [ZB] | rw [Zt (by simp [go_sem, c, z1, hC, hge, hb', e16, hrv, hVl, hVi, hVi1, hVi2, d1, d2, hi, y1, y2, y3, y4, hw, ha, ZZ]; exact ⟨rfl, rfl⟩)] | rw [Zy (by simp [lk, Za, Od.v, c, z1, hC, hge, hb', e16, hrv, hVl, hVi, hVi1, hVi2, d1, d2, hi, y1, y2, y3, y4, hw, ha, ZZ]; exact rfl)] | rw [Zz]))
        simp [Za, lk]
      rw [Yl, hs, Yy]
      exact hIH
    · exact ih k h o (by omega) hk2 hg
theorem run76 {H : ZQ} {Of Cs : DV} {p1 p2 p3 p4 : Int} {os : List DV} {cs : List RC} {n i : Nat} (hO : ∀ g, vw g 1 Of = some os) (hos : os.length = n) (hC : ∀ g, vw g 3 Cs = some (cs.map RC.d)) (hm : ∀ c ∈ cs, c.May n) (hcl : cs.length ≤ 12) (hi : i < n) (hn : n ≤ 200) :
    ∃ d, E X 76 [.agg [.int .i64 p1, .int .i64 p2, .int .i64 p3, .int .i64 p4, Of, Cs], .int .i64 i] H = some (d, H) ∧ ValD d (rowS (cs.map RC.sc) i) := by
  obtain ⟨H1, hH1⟩ : ∃ H1, H1 = H ++ [HO.box 26 [.int .i64 p1, .int .i64 p2, .int .i64 p3, .int .i64 p4, Of, Cs]] := ⟨_, rfl⟩
  have hb1 : H1[H.length]? = some (.box 26 [.int .i64 p1, .int .i64 p2, .int .i64 p3, .int .i64 p4, Of, Cs]) := by rw [hH1]; simp
  have ht1 : H1.take H.length = H := by rw [hH1, List.take_append_of_le_length (Nat.le_refl _)]; exact List.take_length
  obtain ⟨ex, h2, o2, hc, hg⟩ := loop76 hC hm hcl hi hn hb1 cs.length 0 H1 .nils (by omega) (by omega) Gro.zero
  rw [show ((0 : Nat) : Int) = 0 from rfl] at hc
  obtain ⟨d, hfin, hd⟩ := (hg.base ht1).valD
  refine ⟨d, ?_, hd⟩
  have d1 : ¬ (n : Int) ≤ (i : Int) := by omega
  have d2 : ¬ n ≤ i := by omega
  have d3 : ¬ (i : Int) < 0 := by omega
  clear hg hd hm ht1
  subst hH1
  rw [Yg (X := X) _ b76 _ rfl rfl]; unfold b76
  (repeat (first | rw [Zj] | rw [Zc (by simp [go_sem, hO, hos, d1, d2, d3]; exact ⟨rfl, rfl⟩)] | rw [Zx (by simp [lk, Za, Od.v, hO, hos, d1, d2, d3]; exact rfl)] | rw [Zn] | rw [Zm] | rw [Zo] | rw [ZA] | rw [Zr] | rw [Zw] | rw [Zq] | rw [Zp] | rw [Zk] | rw [Zg] | rw [Zh] | rw [Zd (by decide)] | rw [Zi] | rw [Ze] | rw [Zf] | rw [Zb (by decide)] | rw [ZB] | rw [Zt (by simp [go_sem, hO, hos, d1, d2, d3]; exact ⟨rfl, rfl⟩)] | rw [Zy (by simp [lk, Za, Od.v, hO, hos, d1, d2, d3]; exact rfl)] | rw [Zz]))
  (try simp only [Za, List.map_cons, List.map_nil, lk, reduceIte, Nat.reduceEqDiff, Nat.zero_ne_one, Nat.one_ne_zero])
  rw [hc]
  (repeat (first | rw [Zj] | rw [Zc (by simp [go_sem]; exact ⟨rfl, rfl⟩)] | rw [Zx (by simp [lk, Za, Od.v]; exact rfl)] | rw [Zn] | rw [Zm] | rw [Zo] | rw [ZA] | rw [Zr] | rw [Zw] | rw [Zq] | rw [Zp] | rw [Zk] | rw [Zg] | rw [Zh] | rw [Zd (by decide)] | rw [Zi] | rw [Ze] | rw [Zf] | rw [Zb (by decide)] | rw [ZB] | rw [Zt (by simp [go_sem]; exact ⟨rfl, rfl⟩)] | rw [Zy (by simp [lk, Za, Od.v]; exact rfl)] | rw [Zz]))
  simp only [Zs, Yc, lk, Za, List.map_cons, List.map_nil, reduceIte, Option.map_some, Nat.reduceEqDiff, hfin]
/-- Rows that are told, each on its own. -/
def RowsE (es : List DV) (rs : List (List V)) : Prop := RowsL es rs ∧ ∀ x ∈ es, Nr x
theorem RowsE.snoc {es : List DV} {rs : List (List V)} (h : RowsE es rs) {e : DV} {r : List V} (he : RowL e r) : RowsE (es ++ [e]) (rs ++ [r]) := by
  refine ⟨⟨by simp [h.1.1], fun i d vs h1 h2 => ?_⟩, fun x hx => ?_⟩
  · by_cases c : i < es.length
    · rw [List.getElem?_append_left c] at h1
      rw [List.getElem?_append_left (by rw [← h.1.1]; exact c)] at h2
      exact h.1.2 i d vs h1 h2
    · have hl := h.1.1
      have hi : i = es.length := by
        have := (List.getElem?_eq_some_iff.1 h1).1
        rw [List.length_append, List.length_cons, List.length_nil] at this; omega
      subst hi
      rw [List.getElem?_append_right (Nat.le_refl _), Nat.sub_self] at h1
      rw [hl, List.getElem?_append_right (Nat.le_refl _), Nat.sub_self] at h2
      injection h1 with h1
      injection h2 with h2
      rw [← h1, ← h2]; exact he
  · rcases List.mem_append.1 hx with hx | hx
    · exact h.2 x hx
    · rw [List.mem_singleton] at hx
      rw [hx]; exact he.nr
theorem loop40 {Hb : ZQ} {Of Cs : DV} {p1 p2 p3 p4 : Int} {os : List DV} {cs : List RC} {n b : Nat} (hO : ∀ g, vw g 1 Of = some os) (hos : os.length = n) (hC : ∀ g, vw g 3 Cs = some (cs.map RC.d)) (hm : ∀ c ∈ cs, c.May n) (hcl : cs.length ≤ 12) (hn : n ≤ 200) (hb : Hb[b]? = some (.box 26 [.int .i64 p1, .int .i64 p2, .int .i64 p3, .int .i64 p4, Of, Cs])) :
    ∀ (m i : Nat) (h : ZQ) (o : DV) (es : List DV), n - i ≤ m → i ≤ n → Gro 38 1 Hb h o es → RowsE es (rowsS (cs.map RC.sc) i) → ∃ ex h' o' es', C X (.loop lp40_0) [(1, .ref b 0), (3, o), (4, .int .i64 i)] h = some (.exit 0, (1, .ref b 0) :: (3, o') :: ex, h') ∧ Gro 38 1 Hb h' o' es' ∧ RowsE es' (rowsS (cs.map RC.sc) n) := by
  intro m
  induction m with
  | zero =>
    intro i h o es hk hk2 hg hE
    obtain rfl : i = n := by omega
    have hb' := pre_get hg.1 hb
    refine ⟨[(4, .int .i64 i), (9, .bool false)], h, o, es, ?_, hg, hE⟩
    rw [Yl]
    unfold lp40_0
    (repeat (first | rw [Zj] | rw [Zc (by simp [go_sem, hO, hos, hb', ZZ]; exact ⟨rfl, rfl⟩)] | rw [Zx (by simp [lk, Za, Od.v, hO, hos, hb', ZZ]; exact rfl)] | rw [Zn] | rw [Zm] | rw [Zo] | rw [ZA] | rw [Zr] | rw [Zw] | rw [Zq] | rw [Zp] | rw [Zk] | rw [Zg] | rw [Zh] | rw [Zd (by decide)] | rw [Zi] | rw [Ze] | rw [Zf] | rw [Zb (by decide)] | rw [ZB] | rw [Zt (by simp [go_sem, hO, hos, hb', ZZ]; exact ⟨rfl, rfl⟩)] | rw [Zy (by simp [lk, Za, Od.v, hO, hos, hb', ZZ]; exact rfl)] | rw [Zz]))
    rw [YB]
    simp [Za, lk]
  | succ m ih =>
    intro i h o es hk hk2 hg hE
    by_cases c : i < n
    · obtain ⟨I, hI⟩ : ∃ I, I = i + 1 := ⟨_, rfl⟩
      have z1 : IntKind.i64.wrap ((i : Int) + 1) = (I : Int) := (by rw [wrap64 _ (by omega) (by omega)]; omega)
      have hb' := pre_get hg.1 hb
      obtain ⟨d, e76, hd⟩ := run76 (H := h) (p1 := p1) (p2 := p2) (p3 := p3) (p4 := p4) hO hos hC hm hcl c hn
      have hrs : rowsS (cs.map RC.sc) I = rowsS (cs.map RC.sc) i ++ [rowS (cs.map RC.sc) i] := by unfold rowsS; rw [hI, List.range_succ, List.map_append]; rfl
      have hel : es.length ≤ 200 := by rw [hE.1.1]; unfold rowsS; simp; omega
      rcases hd with ⟨rfl, h0⟩ | rfl
      · obtain ⟨o2, h2, ha, hg2⟩ := hg.app 24 [.nils] (by simp only [List.length_cons, List.length_nil]; omega)
        have hE2 : RowsE (es ++ [.nils]) (rowsS (cs.map RC.sc) I) := by rw [hrs]; exact hE.snoc (.inr ⟨rfl, h0⟩)
        have hIH := ih I h2 o2 _ (by omega) (by omega) hg2 hE2
        have hw := hg.vw
        have y1 : ∀ h, eltL [.nils] h = some ([.nils], h) := fun _ => rfl
        have y2 : Wc 1 .nils := by simp [Wc, DV.cells, DV.one]
        have y3 : Nr .nils := .nils
        have y4 : ∀ h, srcOf h 1 (.list 1 [.nils] true) = some [.nils] := fun _ => rfl
        have hs : C X lp40_0 [(1, .ref b 0), (3, o), (4, .int .i64 i)] h = some (.norm, [(1, .ref b 0), (3, o2), (4, .int .i64 I)], h2) := by
          clear ih hIH hg hg2 hE hE2 hrs hb h0
          unfold lp40_0
          (repeat (first | rw [Zj] | rw [Zc (by simp [go_sem, c, z1, hO, hos, hb', e76, y1, y2, y3, y4, hw, ha, ZZ]; exact ⟨rfl, rfl⟩)] | rw [Zx (by simp [lk, Za, Od.v, c, z1, hO, hos, hb', e76, y1, y2, y3, y4, hw, ha, ZZ]; exact rfl)] | rw [Zn] | rw [Zm] | rw [Zo] | rw [ZA] | rw [Zr] | rw [Zw] | rw [Zq] | rw [Zp] | rw [Zk] | rw [Zg] | rw [Zh] | rw [Zd (by decide)] | rw [Zi] | rw [Ze] | rw [Zf] | rw [Zb (by decide)] | rw [ZB] | rw [Zt (by simp [go_sem, c, z1, hO, hos, hb', e76, y1, y2, y3, y4, hw, ha, ZZ]; exact ⟨rfl, rfl⟩)] | rw [Zy (by simp [lk, Za, Od.v, c, z1, hO, hos, hb', e76, y1, y2, y3, y4, hw, ha, ZZ]; exact rfl)] | rw [Zz]))
          simp [Za, lk]
        rw [Yl, hs, Yy]
        exact hIH
      · obtain ⟨r, hr⟩ : ∃ r, r = rowS (cs.map RC.sc) i := ⟨_, rfl⟩
        rw [← hr] at e76 hrs
        have hge := hg.ext [.frz 48 4 0 (r.map V.d)]
        obtain ⟨o2, h2, ha, hg2⟩ := hge.app 24 [.list 4 (r.map V.d) false] (by simp only [List.length_cons, List.length_nil]; omega)
        have hE2 : RowsE (es ++ [.list 4 (r.map V.d) false]) (rowsS (cs.map RC.sc) I) := by rw [hrs]; exact hE.snoc (.inl ⟨false, rfl⟩)
        have hIH := ih I h2 o2 _ (by omega) (by omega) hg2 hE2
        have hw := hge.vw
        have y1 : eltL [.row h.length 0 0 (r.map V.d).length false] (h ++ [HO.row 48 4 0 (r.map V.d)]) = some ([.list 4 (r.map V.d) false], h ++ [HO.frz 48 4 0 (r.map V.d)]) := by
          have q1 : (h ++ [HO.row 48 4 0 (r.map V.d)])[h.length]? = some (.row 48 4 0 (r.map V.d)) := by simp
          have q2 : ∀ x ∈ r.map V.d, Nr x := nr_vals r
          simp only [eltL, eltOf, roOf, q1]
          rw [if_pos ⟨rfl, by omega, q2⟩]
          simp only [List.drop_zero, List.take_length]
          simp [Ya]
        have y2 : Wc 1 (.list 4 (r.map V.d) false) := by simp [Wc, DV.cells, DV.one]
        have y3 : Nr (.list 4 (r.map V.d) false) := rowD_nr r
        have y4 : ∀ h, srcOf h 1 (.list 1 [.list 4 (r.map V.d) false] true) = some [.list 4 (r.map V.d) false] := fun _ => rfl
        have hs : C X lp40_0 [(1, .ref b 0), (3, o), (4, .int .i64 i)] h = some (.norm, [(1, .ref b 0), (3, o2), (4, .int .i64 I)], h2) := by
          clear ih hIH hg hg2 hge hE hE2 hrs hb hr
          generalize r.map V.d = R at *
          unfold lp40_0
          (repeat (first | rw [Zj] | rw [Zc (by simp [go_sem, c, z1, hO, hos, hb', e76, y1, y2, y3, y4, hw, ha, ZZ]; exact ⟨rfl, rfl⟩)] | rw [Zx (by simp [lk, Za, Od.v, c, z1, hO, hos, hb', e76, y1, y2, y3, y4, hw, ha, ZZ]; exact rfl)] | rw [Zn] | rw [Zm] | rw [Zo] | rw [ZA] | rw [Zr] | rw [Zw] | rw [Zq] | rw [Zp] | rw [Zk] | rw [Zg] | rw [Zh] | rw [Zd (by decide)] | rw [Zi] | rw [Ze] | rw [Zf] | rw [Zb (by decide)] | rw [ZB] | rw [Zt (by simp [go_sem, c, z1, hO, hos, hb', e76, y1, y2, y3, y4, hw, ha, ZZ]; exact ⟨rfl, rfl⟩)] | rw [Zy (by simp [lk, Za, Od.v, c, z1, hO, hos, hb', e76, y1, y2, y3, y4, hw, ha, ZZ]; exact rfl)] | rw [Zz]))
          simp [Za, lk]
        rw [Yl, hs, Yy]
        exact hIH
    · exact ih i h o es (by omega) hk2 hg hE
theorem run40 {H : ZQ} {Of Cs : DV} {p1 p2 p3 p4 : Int} {os : List DV} {cs : List RC} {n : Nat} (hO : ∀ g, vw g 1 Of = some os) (hos : os.length = n) (hC : ∀ g, vw g 3 Cs = some (cs.map RC.d)) (hm : ∀ c ∈ cs, c.May n) (hcl : cs.length ≤ 12) (hn : n ≤ 200) :
    ∃ d es, E X 40 [.agg [.int .i64 p1, .int .i64 p2, .int .i64 p3, .int .i64 p4, Of, Cs]] H = some (d, H) ∧ RowsL es (rowsS (cs.map RC.sc) n) ∧ ((d = .nils ∧ es = []) ∨ d = .fresh 38 1 es) := by
  obtain ⟨H1, hH1⟩ : ∃ H1, H1 = H ++ [HO.box 26 [.int .i64 p1, .int .i64 p2, .int .i64 p3, .int .i64 p4, Of, Cs]] := ⟨_, rfl⟩
  have hb1 : H1[H.length]? = some (.box 26 [.int .i64 p1, .int .i64 p2, .int .i64 p3, .int .i64 p4, Of, Cs]) := by rw [hH1]; simp
  have ht1 : H1.take H.length = H := by rw [hH1, List.take_append_of_le_length (Nat.le_refl _)]; exact List.take_length
  obtain ⟨ex, h2, o2, es, hc, hg, hE⟩ := loop40 hO hos hC hm hcl hn hb1 n 0 H1 .nils [] (by omega) (by omega) Gro.zero ⟨⟨rfl, fun i d vs h1 => by simp at h1⟩, fun x hx => by cases hx⟩
  rw [show ((0 : Nat) : Int) = 0 from rfl] at hc
  have key : ∀ d, fin H h2 [o2] = (d, H) → E X 40 [.agg [.int .i64 p1, .int .i64 p2, .int .i64 p3, .int .i64 p4, Of, Cs]] H = some (d, H) := by
    intro d hfin
    clear hg hE hm ht1
    subst hH1
    rw [Yg (X := X) _ b40 _ rfl rfl]; unfold b40
    (repeat (first | rw [Zj] | rw [Zc (by simp [go_sem]; exact ⟨rfl, rfl⟩)] | rw [Zx (by simp [lk, Za, Od.v]; exact rfl)] | rw [Zn] | rw [Zm] | rw [Zo] | rw [ZA] | rw [Zr] | rw [Zw] | rw [Zq] | rw [Zp] | rw [Zk] | rw [Zg] | rw [Zh] | rw [Zd (by decide)] | rw [Zi] | rw [Ze] | rw [Zf] | rw [Zb (by decide)] | rw [ZB] | rw [Zt (by simp [go_sem]; exact ⟨rfl, rfl⟩)] | rw [Zy (by simp [lk, Za, Od.v]; exact rfl)] | rw [Zz]))
    (try simp only [Za, List.map_cons, List.map_nil, lk, reduceIte, Nat.reduceEqDiff, Nat.zero_ne_one, Nat.one_ne_zero])
    rw [hc]
    (repeat (first | rw [Zj] | rw [Zc (by simp [go_sem]; exact ⟨rfl, rfl⟩)] | rw [Zx (by simp [lk, Za, Od.v]; exact rfl)] | rw [Zn] | rw [Zm] | rw [Zo] | rw [ZA] | rw [Zr] | rw [Zw] | rw [Zq] | rw [Zp] | rw [Zk] | rw [Zg] | rw [Zh] | rw [Zd (by decide)] | rw [Zi] | rw [Ze] | rw [Zf] | rw [Zb (by decide)] | rw [ZB] | rw [Zt (by simp [go_sem]; exact ⟨rfl, rfl⟩)] | rw [Zy (by simp [lk, Za, Od.v]; exact rfl)] | rw [Zz]))
    simp only [Zs, Yc, lk, Za, List.map_cons, List.map_nil, reduceIte, Option.map_some, Nat.reduceEqDiff, hfin]
  have hgb := hg.base ht1
  rcases hgb.fin hE.2 with ⟨rfl, h1⟩ | ⟨_, h1⟩
  · refine ⟨_, es, key _ h1, hE.1, .inl ⟨rfl, ?_⟩⟩
    rcases hgb.2 with ⟨_, h2⟩ | ⟨g, o, h2, _⟩
    · exact h2
    · cases h2
  · exact ⟨_, es, key _ h1, hE.1, .inr rfl⟩
theorem loop12 {h : ZQ} {L Of Cs : DV} {p1 p2 p3 p4 : Int} {os : List DV} {cs : List RC} {n b : Nat} (hO : ∀ g, vw g 1 Of = some os) (hos : os.length = n) (hC : ∀ g, vw g 3 Cs = some (cs.map RC.d)) (hok : ∀ c ∈ cs, c.Ok) (hcl : cs.length ≤ 12) (hb : h[b]? = some (.box 26 [.int .i64 p1, .int .i64 p2, .int .i64 p3, .int .i64 p4, Of, Cs])) :
    ∀ (m k : Nat), cs.length - k ≤ m → k ≤ cs.length → ((∀ c ∈ cs.drop k, c.n = (n : Int) ∧ okC c.n c.ys c.bs) ∧ ∃ ex, C X (.loop lp12_0) [(0, L), (3, .ref b 0), (5, .int .i64 k)] h = some (.exit 0, (0, L) :: (3, .ref b 0) :: ex, h)) ∨ ((¬ ∀ c ∈ cs.drop k, c.n = (n : Int) ∧ okC c.n c.ys c.bs) ∧ C X (.loop lp12_0) [(0, L), (3, .ref b 0), (5, .int .i64 k)] h = some (.ret, [(4, .nils)], h)) := by
  intro m
  induction m with
  | zero =>
    intro k hm hk
    obtain rfl : k = cs.length := by omega
    rw [List.drop_length]
    refine .inl ⟨(fun c hc => by cases hc), [(5, .int .i64 cs.length), (12, .bool false)], ?_⟩
    rw [Yl]
    unfold lp12_0
    (repeat (first | rw [Zj] | rw [Zc (by simp [go_sem, hC, hb, ZZ]; exact ⟨rfl, rfl⟩)] | rw [Zx (by simp [lk, Za, Od.v, hC, hb, ZZ]; exact rfl)] | rw [Zn] | rw [Zm] | rw [Zo] | rw [ZA] | rw [Zr] | rw [Zw] | rw [Zq] | rw [Zp] | rw [Zk] | rw [Zg] | rw [Zh] | rw [Zd (by decide)] | rw [Zi] | rw [Ze] | rw [Zf] | rw [Zb (by decide)] | rw [ZB] | rw [Zt (by simp [go_sem, hC, hb, ZZ]; exact ⟨rfl, rfl⟩)] | rw [Zy (by simp [lk, Za, Od.v, hC, hb, ZZ]; exact rfl)] | rw [Zz]))
    rw [YB]
    simp [Za, lk]
  | succ m ih =>
    intro k hm hk
    by_cases c : k < cs.length
    · obtain ⟨K, hK⟩ : ∃ K, K = k + 1 := ⟨_, rfl⟩
      have z1 : IntKind.i64.wrap ((k : Int) + 1) = (K : Int) := (by rw [wrap64 _ (by omega) (by omega)]; omega)
      obtain ⟨x, hx⟩ : ∃ x, x = cs[k] := ⟨_, rfl⟩
      have hxo := hok x (by rw [hx]; exact List.getElem_mem c)
      have hge : cs[k].d = .agg [.int .i64 x.n, x.D, x.B] := by rw [← hx]; rfl
      have hdr : cs.drop k = x :: cs.drop K := by rw [List.drop_eq_getElem_cons c, ← hx, hK]
      obtain ⟨R, e15, hR⟩ := run15 (H := h) (n := x.n) hxo.dict hxo.yl hxo.sm hxo.bytes hxo.bb (by have := hxo.bl; omega)
      have bad : ¬ (x.n = (n : Int) ∧ okC x.n x.ys x.bs) → C X lp12_0 [(0, L), (3, .ref b 0), (5, .int .i64 k)] h = some (.ret, [(4, .nils)], h) → ((∀ c ∈ cs.drop k, c.n = (n : Int) ∧ okC c.n c.ys c.bs) ∧ ∃ ex, C X (.loop lp12_0) [(0, L), (3, .ref b 0), (5, .int .i64 k)] h = some (.exit 0, (0, L) :: (3, .ref b 0) :: ex, h)) ∨ ((¬ ∀ c ∈ cs.drop k, c.n = (n : Int) ∧ okC c.n c.ys c.bs) ∧ C X (.loop lp12_0) [(0, L), (3, .ref b 0), (5, .int .i64 k)] h = some (.ret, [(4, .nils)], h)) := by
        intro h1 h2
        refine .inr ⟨fun h3 => h1 (h3 x (by rw [hdr]; exact List.mem_cons_self ..)), ?_⟩
        rw [Yl, h2, lp_ret]
      by_cases c1 : okC x.n x.ys x.bs
      · have e15' : E X 15 [colD x.n x.D x.B] h = some (.tup [R, .bool true], h) := by rw [e15]; simp [c1]
        by_cases c2 : x.n = (n : Int)
        · have hge2 : cs[k].d = .agg [.int .i64 (n : Int), x.D, x.B] := by rw [hge, c2]
          have hs : C X lp12_0 [(0, L), (3, .ref b 0), (5, .int .i64 k)] h = some (.norm, [(0, L), (3, .ref b 0), (5, .int .i64 K)], h) := by
            rw [c2] at e15'
            clear ih bad e15 hR hge
            unfold lp12_0
            (repeat (first | rw [Zj] | rw [Zc (by simp [go_sem, c, z1, hO, hos, hC, hge2, hb, e15', ZZ]; exact ⟨rfl, rfl⟩)] | rw [Zx (by simp [lk, Za, Od.v, c, z1, hO, hos, hC, hge2, hb, e15', ZZ]; exact rfl)] | rw [Zn] | rw [Zm] | rw [Zo] | rw [ZA] | rw [Zr] | rw [Zw] | rw [Zq] | rw [Zp] | rw [Zk] | rw [Zg] | rw [Zh] | rw [Zd (by decide)] | rw [Zi] | rw [Ze] | rw [Zf] | rw [Zb (by decide)] | rw [ZB] | rw [Zt (by simp [go_sem, c, z1, hO, hos, hC, hge2, hb, e15', ZZ]; exact ⟨rfl, rfl⟩)] | rw [Zy (by simp [lk, Za, Od.v, c, z1, hO, hos, hC, hge2, hb, e15', ZZ]; exact rfl)] | rw [Zz]))
            simp [Za, lk]
          rcases ih K (by omega) (by omega) with ⟨h1, ex, h2⟩ | ⟨h1, h2⟩
          · refine .inl ⟨fun q hq => ?_, ex, by rw [Yl, hs, Yy]; exact h2⟩
            rw [hdr] at hq
            rcases List.mem_cons.1 hq with rfl | hq
            · exact ⟨c2, c1⟩
            · exact h1 q hq
          · exact .inr ⟨fun h3 => h1 fun q hq => h3 q (by rw [hdr]; exact List.mem_cons_of_mem _ hq), by rw [Yl, hs, Yy]; exact h2⟩
        · refine bad (fun h => c2 h.1) ?_
          have c2' : (x.n != (n : Int)) = true := by simpa using c2
          clear ih bad e15 hR
          generalize x.n = xn at *
          unfold lp12_0
          (repeat (first | rw [Zj] | rw [Zc (by simp [go_sem, c, z1, hO, hos, hC, hge, hb, e15', c2, c2', ZZ]; exact ⟨rfl, rfl⟩)] | rw [Zx (by simp [lk, Za, Od.v, c, z1, hO, hos, hC, hge, hb, e15', c2, c2', ZZ]; exact rfl)] | rw [Zn] | rw [Zm] | rw [Zo] | rw [ZA] | rw [Zr] | rw [Zw] | rw [Zq] | rw [Zp] | rw [Zk] | rw [Zg] | rw [Zh] | rw [Zd (by decide)] | rw [Zi] | rw [Ze] | rw [Zf] | rw [Zb (by decide)] | rw [ZB] | rw [Zt (by simp [go_sem, c, z1, hO, hos, hC, hge, hb, e15', c2, c2', ZZ]; exact ⟨rfl, rfl⟩)] | rw [Zy (by simp [lk, Za, Od.v, c, z1, hO, hos, hC, hge, hb, e15', c2, c2', ZZ]; exact rfl)] | rw [Zz]))
          simp [Za, lk]
      · have e15' : E X 15 [colD x.n x.D x.B] h = some (.tup [R, .bool false], h) := by rw [e15]; simp [c1]
        refine bad (fun h => c1 h.2) ?_
        clear ih bad e15 hR c1
        generalize x.n = xn at *
        unfold lp12_0
        (repeat (first | rw [Zj] | rw [Zc (by simp [go_sem, c, z1, hO, hos, hC, hge, hb, e15', ZZ]; exact ⟨rfl, rfl⟩)] | rw [Zx (by simp [lk, Za, Od.v, c, z1, hO, hos, hC, hge, hb, e15', ZZ]; exact rfl)] | rw [Zn] | rw [Zm] | rw [Zo] | rw [ZA] | rw [Zr] | rw [Zw] | rw [Zq] | rw [Zp] | rw [Zk] | rw [Zg] | rw [Zh] | rw [Zd (by decide)] | rw [Zi] | rw [Ze] | rw [Zf] | rw [Zb (by decide)] | rw [ZB] | rw [Zt (by simp [go_sem, c, z1, hO, hos, hC, hge, hb, e15', ZZ]; exact ⟨rfl, rfl⟩)] | rw [Zy (by simp [lk, Za, Od.v, c, z1, hO, hos, hC, hge, hb, e15', ZZ]; exact rfl)] | rw [Zz]))
        simp [Za, lk]
    · exact ih k (by omega) hk
open Classical in
/-- The rows of a segment for which a filter holds, as the document says. -/
noncomputable def segI (cs : List RC) (n : Nat) (xs : List N) : List Nat := if ∀ c ∈ cs, c.n = (n : Int) ∧ okC c.n c.ys c.bs then rowsI xs (rowsS (cs.map RC.sc) n) n else []
theorem rowsS_sm {cs : List RC} {n : Nat} (hm : ∀ c ∈ cs, c.May n) : ∀ vs ∈ rowsS (cs.map RC.sc) n, ∀ v ∈ vs, Sm v := by
  intro vs hvs v hv
  unfold rowsS at hvs
  obtain ⟨i, hi, rfl⟩ := List.mem_map.1 hvs
  rw [List.mem_range] at hi
  unfold rowS at hv
  obtain ⟨s, hs, rfl⟩ := List.mem_map.1 hv
  obtain ⟨c, hc, rfl⟩ := List.mem_map.1 hs
  obtain ⟨p, _, _, hp, _⟩ := (hm c hc).scOk.get hi
  exact (hm c hc).ok.sm _ (List.mem_of_getElem? hp)
set_option maxHeartbeats 1000000 in
theorem run12 {H : ZQ} {L Of Cs : DV} {p1 p2 p3 p4 : Int} {xs : List N} {os : List DV} {cs : List RC} (hL : ∀ G, vw (H ++ G) 8 L = some (xs.map N.d)) (hO : ∀ g, vw g 1 Of = some os) (hC : ∀ g, vw g 3 Cs = some (cs.map RC.d)) (hok : ∀ c ∈ cs, c.Ok) (hn : os.length ≤ 200) (hcl : cs.length ≤ 12) (hb : xs.length ≤ 1000000) (sx : ∀ x ∈ xs, Sm x.val) :
    ∃ d, E X 12 [L, .agg [.int .i64 p1, .int .i64 p2, .int .i64 p3, .int .i64 p4, Of, Cs]] H = some (d, H) ∧ LD d (segI cs os.length xs) := by
  obtain ⟨n, hnn⟩ : ∃ n, n = os.length := ⟨_, rfl⟩
  rw [← hnn] at hn ⊢
  obtain ⟨H1, hH1⟩ : ∃ H1, H1 = H ++ [HO.box 26 [.int .i64 p1, .int .i64 p2, .int .i64 p3, .int .i64 p4, Of, Cs]] := ⟨_, rfl⟩
  have hb1 : H1[H.length]? = some (.box 26 [.int .i64 p1, .int .i64 p2, .int .i64 p3, .int .i64 p4, Of, Cs]) := by rw [hH1]; simp
  have ht1 : H1.take H.length = H := by rw [hH1, List.take_append_of_le_length (Nat.le_refl _)]; exact List.take_length
  rcases loop12 (L := L) hO hnn.symm hC hok hcl hb1 cs.length 0 (by omega) (by omega) with ⟨hall, ex, hc⟩ | ⟨hall, hc⟩
  · rw [List.drop_zero] at hall
    rw [show ((0 : Nat) : Int) = 0 from rfl] at hc
    have hs : segI cs n xs = rowsI xs (rowsS (cs.map RC.sc) n) n := by unfold segI; rw [if_pos hall]
    rw [hs]
    have hm : ∀ c ∈ cs, c.May n := fun c hc => ⟨hok c hc, (hall c hc).2, (hall c hc).1⟩
    obtain ⟨d, es, e40, hE, hd⟩ := run40 (H := H1) (p1 := p1) (p2 := p2) (p3 := p3) (p4 := p4) hO hnn.symm hC hm hcl hn
    have hrl : (rowsS (cs.map RC.sc) n).length = n := by simp [rowsS]
    have key : ∀ (A : DV) (G : ZQ), (∀ G', vw ((H1 ++ G) ++ G') 1 A = some es) → ∃ r, E X 39 [L, A] (H1 ++ G) = some (r, H1 ++ G) ∧ LD r (rowsI xs (rowsS (cs.map RC.sc) n) n) := by
      intro A G hA
      have := run39 (H := H1 ++ G) (L := L) (A := A) (xs := xs) (fun G' => by rw [hH1, List.append_assoc, List.append_assoc]; exact hL _) hA hE hb (by rw [hrl]; omega) sx (rowsS_sm hm)
      rw [hrl] at this
      exact this
    have hfinL : ∀ (r : DV) (ws : List Nat) (h2 : ZQ), LD r ws → h2.take H.length = H → ∃ r2, r2 = r ∨ True := fun r _ _ _ _ => ⟨r, .inl rfl⟩
    rcases hd with ⟨rfl, h0⟩ | rfl
    · obtain ⟨r, e39, hr⟩ := key .nils [] (fun G' => by rw [h0]; rfl)
      rw [List.append_nil] at e39
      rcases hr with ⟨rfl, h3⟩ | rfl
      · refine ⟨.nils, ?_, .inl ⟨rfl, h3⟩⟩
        have hfin : fin H H1 [.nils] = (.nils, H) := by simp [fin, ht1, YC, YD]
        clear hs hall hm hE key h3 h0 hL hok hfinL hnn
        subst hH1
        rw [Yg (X := X) _ b12 _ rfl rfl]; unfold b12
        (repeat (first | rw [Zj] | rw [Zc (by simp [go_sem]; exact ⟨rfl, rfl⟩)] | rw [Zx (by simp [lk, Za, Od.v]; exact rfl)] | rw [Zn] | rw [Zm] | rw [Zo] | rw [ZA] | rw [Zr] | rw [Zw] | rw [Zq] | rw [Zp] | rw [Zk] | rw [Zg] | rw [Zh] | rw [Zd (by decide)] | rw [Zi] | rw [Ze] | rw [Zf] | rw [Zb (by decide)] | rw [ZB] | rw [Zt (by simp [go_sem]; exact ⟨rfl, rfl⟩)] | rw [Zy (by simp [lk, Za, Od.v]; exact rfl)] | rw [Zz]))
        (try simp only [Za, List.map_cons, List.map_nil, lk, reduceIte, Nat.reduceEqDiff, Nat.zero_ne_one, Nat.one_ne_zero])
        rw [hc]
        (repeat (first | rw [Zj] | rw [Zc (by simp [go_sem, e40, e39]; exact ⟨rfl, rfl⟩)] | rw [Zx (by simp [lk, Za, Od.v, e40, e39]; exact rfl)] | rw [Zn] | rw [Zm] | rw [Zo] | rw [ZA] | rw [Zr] | rw [Zw] | rw [Zq] | rw [Zp] | rw [Zk] | rw [Zg] | rw [Zh] | rw [Zd (by decide)] | rw [Zi] | rw [Ze] | rw [Zf] | rw [Zb (by decide)] | rw [ZB] | rw [Zt (by simp [go_sem, e40, e39]; exact ⟨rfl, rfl⟩)] | rw [Zy (by simp [lk, Za, Od.v, e40, e39]; exact rfl)] | rw [Zz]))
        simp only [Zs, Yc, lk, Za, List.map_cons, List.map_nil, reduceIte, Option.map_some, Nat.reduceEqDiff, hfin]
      · refine ⟨_, ?_, .inr rfl⟩
        generalize (rowsI xs (rowsS (cs.map RC.sc) n) n) = ri at *
        have hfin : fin H (H1 ++ [HO.row 3 1 0 (ri.map iD)]) [.row H1.length 0 0 (ri.map iD).length false] = (.fresh 3 1 (ri.map iD), H) := by
          have q1 : ∀ y ∈ ri.map iD, Nr y := by intro y hy; obtain ⟨z, _, rfl⟩ := List.mem_map.1 hy; exact .int _ _
          have q2 := take_leG ht1
          simp only [fin]
          rw [if_pos (by rw [List.take_append_of_le_length q2]; exact ht1)]
          simp only [YC, YD]
          rw [if_neg (by omega), List.getElem?_append_right (Nat.le_refl _), Nat.sub_self]
          simp only [List.getElem?_cons_zero]
          rw [if_pos ⟨rfl, by simp, q1⟩]
          simp
        clear hs hall hm hE key h0 hL hok hfinL hnn
        generalize ri.map iD = RI at *
        subst hH1
        simp only [List.length_append, List.length_cons, List.length_nil, List.append_assoc, List.cons_append, List.nil_append, Nat.zero_add] at hfin
        rw [Yg (X := X) _ b12 _ rfl rfl]; unfold b12
        (repeat (first | rw [Zj] | rw [Zc (by simp [go_sem]; exact ⟨rfl, rfl⟩)] | rw [Zx (by simp [lk, Za, Od.v]; exact rfl)] | rw [Zn] | rw [Zm] | rw [Zo] | rw [ZA] | rw [Zr] | rw [Zw] | rw [Zq] | rw [Zp] | rw [Zk] | rw [Zg] | rw [Zh] | rw [Zd (by decide)] | rw [Zi] | rw [Ze] | rw [Zf] | rw [Zb (by decide)] | rw [ZB] | rw [Zt (by simp [go_sem]; exact ⟨rfl, rfl⟩)] | rw [Zy (by simp [lk, Za, Od.v]; exact rfl)] | rw [Zz]))
        (try simp only [Za, List.map_cons, List.map_nil, lk, reduceIte, Nat.reduceEqDiff, Nat.zero_ne_one, Nat.one_ne_zero])
        rw [hc]
        (repeat (first | rw [Zj] | rw [Zc (by simp [go_sem, e40, e39]; exact ⟨rfl, rfl⟩)] | rw [Zx (by simp [lk, Za, Od.v, e40, e39]; exact rfl)] | rw [Zn] | rw [Zm] | rw [Zo] | rw [ZA] | rw [Zr] | rw [Zw] | rw [Zq] | rw [Zp] | rw [Zk] | rw [Zg] | rw [Zh] | rw [Zd (by decide)] | rw [Zi] | rw [Ze] | rw [Zf] | rw [Zb (by decide)] | rw [ZB] | rw [Zt (by simp [go_sem, e40, e39]; exact ⟨rfl, rfl⟩)] | rw [Zy (by simp [lk, Za, Od.v, e40, e39]; exact rfl)] | rw [Zz]))
        simp only [Zs, Yc, lk, Za, List.map_cons, List.map_nil, reduceIte, Option.map_some, Nat.reduceEqDiff, hfin]
    · obtain ⟨r, e39, hr⟩ := key (.row H1.length 0 0 es.length false) [.row 38 1 0 es] (fun G' => by
        rw [List.append_assoc]; simp [vw])
      rcases hr with ⟨rfl, h3⟩ | rfl
      · refine ⟨.nils, ?_, .inl ⟨rfl, h3⟩⟩
        have q2 := take_leG ht1
        have hfin : fin H (H1 ++ [HO.row 38 1 0 es]) [.nils] = (.nils, H) := by
          have : (H1 ++ [HO.row 38 1 0 es]).take H.length = H := by rw [List.take_append_of_le_length q2]; exact ht1
          simp [fin, this, YC, YD]
        clear hs hall hm hE key h3 hL hok hfinL hnn
        subst hH1
        simp only [List.length_append, List.length_cons, List.length_nil, List.append_assoc, List.cons_append, List.nil_append, Nat.zero_add] at e39 hfin
        rw [Yg (X := X) _ b12 _ rfl rfl]; unfold b12
        (repeat (first | rw [Zj] | rw [Zc (by simp [go_sem]; exact ⟨rfl, rfl⟩)] | rw [Zx (by simp [lk, Za, Od.v]; exact rfl)] | rw [Zn] | rw [Zm] | rw [Zo] | rw [ZA] | rw [Zr] | rw [Zw] | rw [Zq] | rw [Zp] | rw [Zk] | rw [Zg] | rw [Zh] | rw [Zd (by decide)] | rw [Zi] | rw [Ze] | rw [Zf] | rw [Zb (by decide)] | rw [ZB] | rw [Zt (by simp [go_sem]; exact ⟨rfl, rfl⟩)] | rw [Zy (by simp [lk, Za, Od.v]; exact rfl)] | rw [Zz]))
        (try simp only [Za, List.map_cons, List.map_nil, lk, reduceIte, Nat.reduceEqDiff, Nat.zero_ne_one, Nat.one_ne_zero])
        rw [hc]
        (repeat (first | rw [Zj] | rw [Zc (by simp [go_sem, e40, e39]; exact ⟨rfl, rfl⟩)] | rw [Zx (by simp [lk, Za, Od.v, e40, e39]; exact rfl)] | rw [Zn] | rw [Zm] | rw [Zo] | rw [ZA] | rw [Zr] | rw [Zw] | rw [Zq] | rw [Zp] | rw [Zk] | rw [Zg] | rw [Zh] | rw [Zd (by decide)] | rw [Zi] | rw [Ze] | rw [Zf] | rw [Zb (by decide)] | rw [ZB] | rw [Zt (by simp [go_sem, e40, e39]; exact ⟨rfl, rfl⟩)] | rw [Zy (by simp [lk, Za, Od.v, e40, e39]; exact rfl)] | rw [Zz]))
        simp only [Zs, Yc, lk, Za, List.map_cons, List.map_nil, reduceIte, Option.map_some, Nat.reduceEqDiff, hfin]
      · refine ⟨_, ?_, .inr rfl⟩
        generalize (rowsI xs (rowsS (cs.map RC.sc) n) n) = ri at *
        have hfin : fin H (H1 ++ [HO.row 38 1 0 es, HO.row 3 1 0 (ri.map iD)]) [.row (H1.length + 1) 0 0 (ri.map iD).length false] = (.fresh 3 1 (ri.map iD), H) := by
          have q1 : ∀ y ∈ ri.map iD, Nr y := by intro y hy; obtain ⟨z, _, rfl⟩ := List.mem_map.1 hy; exact .int _ _
          have q2 := take_leG ht1
          have q3 : (H1 ++ [HO.row 38 1 0 es, HO.row 3 1 0 (ri.map iD)])[H1.length + 1]? = some (.row 3 1 0 (ri.map iD)) := by simp [hget]
          simp only [fin]
          rw [if_pos (by rw [List.take_append_of_le_length q2]; exact ht1)]
          simp only [YC, YD]
          rw [if_neg (by omega), q3]
          simp only
          rw [if_pos ⟨rfl, by simp, q1⟩]
          simp
        clear hs hall hm hE key hL hok hfinL hnn
        generalize ri.map iD = RI at *
        subst hH1
        simp only [List.length_append, List.length_cons, List.length_nil, List.append_assoc, List.cons_append, List.nil_append, Nat.zero_add] at e39 hfin
        rw [Yg (X := X) _ b12 _ rfl rfl]; unfold b12
        (repeat (first | rw [Zj] | rw [Zc (by simp [go_sem]; exact ⟨rfl, rfl⟩)] | rw [Zx (by simp [lk, Za, Od.v]; exact rfl)] | rw [Zn] | rw [Zm] | rw [Zo] | rw [ZA] | rw [Zr] | rw [Zw] | rw [Zq] | rw [Zp] | rw [Zk] | rw [Zg] | rw [Zh] | rw [Zd (by decide)] | rw [Zi] | rw [Ze] | rw [Zf] | rw [Zb (by decide)] | rw [ZB] | rw [Zt (by simp [go_sem]; exact ⟨rfl, rfl⟩)] | rw [Zy (by simp [lk, Za, Od.v]; exact rfl)] | rw [Zz]))
        (try simp only [Za, List.map_cons, List.map_nil, lk, reduceIte, Nat.reduceEqDiff, Nat.zero_ne_one, Nat.one_ne_zero])
        rw [hc]
        (repeat (first | rw [Zj] | rw [Zc (by simp [go_sem, e40, e39]; exact ⟨rfl, rfl⟩)] | rw [Zx (by simp [lk, Za, Od.v, e40, e39]; exact rfl)] | rw [Zn] | rw [Zm] | rw [Zo] | rw [ZA] | rw [Zr] | rw [Zw] | rw [Zq] | rw [Zp] | rw [Zk] | rw [Zg] | rw [Zh] | rw [Zd (by decide)] | rw [Zi] | rw [Ze] | rw [Zf] | rw [Zb (by decide)] | rw [ZB] | rw [Zt (by simp [go_sem, e40, e39]; exact ⟨rfl, rfl⟩)] | rw [Zy (by simp [lk, Za, Od.v, e40, e39]; exact rfl)] | rw [Zz]))
        simp only [Zs, Yc, lk, Za, List.map_cons, List.map_nil, reduceIte, Option.map_some, Nat.reduceEqDiff, hfin]
  · rw [List.drop_zero] at hall
    rw [show ((0 : Nat) : Int) = 0 from rfl] at hc
    have hs : segI cs n xs = [] := by unfold segI; rw [if_neg hall]
    rw [hs]
    refine ⟨.nils, ?_, .inl ⟨rfl, rfl⟩⟩
    have hfin : fin H H1 [.nils] = (.nils, H) := by simp [fin, ht1, YC, YD]
    clear hs hall hL hok hnn
    subst hH1
    rw [Yg (X := X) _ b12 _ rfl rfl]; unfold b12
    (repeat (first | rw [Zj] | rw [Zc (by simp [go_sem]; exact ⟨rfl, rfl⟩)] | rw [Zx (by simp [lk, Za, Od.v]; exact rfl)] | rw [Zn] | rw [Zm] | rw [Zo] | rw [ZA] | rw [Zr] | rw [Zw] | rw [Zq] | rw [Zp] | rw [Zk] | rw [Zg] | rw [Zh] | rw [Zd (by decide)] | rw [Zi] | rw [Ze] | rw [Zf] | rw [Zb (by decide)] | rw [ZB] | rw [Zt (by simp [go_sem]; exact ⟨rfl, rfl⟩)] | rw [Zy (by simp [lk, Za, Od.v]; exact rfl)] | rw [Zz]))
    (try simp only [Za, List.map_cons, List.map_nil, lk, reduceIte, Nat.reduceEqDiff, Nat.zero_ne_one, Nat.one_ne_zero])
    rw [hc]
    (repeat (first | rw [Zj] | rw [Zc (by simp [go_sem]; exact ⟨rfl, rfl⟩)] | rw [Zx (by simp [lk, Za, Od.v]; exact rfl)] | rw [Zn] | rw [Zm] | rw [Zo] | rw [ZA] | rw [Zr] | rw [Zw] | rw [Zq] | rw [Zp] | rw [Zk] | rw [Zg] | rw [Zh] | rw [Zd (by decide)] | rw [Zi] | rw [Ze] | rw [Zf] | rw [Zb (by decide)] | rw [ZB] | rw [Zt (by simp [go_sem]; exact ⟨rfl, rfl⟩)] | rw [Zy (by simp [lk, Za, Od.v]; exact rfl)] | rw [Zz]))
    simp only [Zs, Yc, lk, Za, List.map_cons, List.map_nil, reduceIte, Option.map_some, Nat.reduceEqDiff, hfin]
/-- A column as an argument, of any size. -/
structure RC.Raw (c : RC) : Prop where
  dict : ValL c.D c.ys
  sm : ∀ x ∈ c.ys, Sm x
  bytes : BytesL c.B c.bs
  bb : BB c.bs
theorem loop14 {h : ZQ} {n : Int} {D B : DV} {ys : List V} {b : Nat} (hb : h[b]? = some (.box 41 [.int .i64 n, D, B])) (hD : ∀ g, vw g 4 D = some (ys.map V.d)) (hl : ys.length ≤ 1000) :
    ∀ (m i : Nat), ys.length - i ≤ m → i ≤ ys.length → (∃ ex, C X (.loop lp14_0) [(1, .ref b 0), (3, .int .i64 i)] h = some (.exit 0, ex, h)) ∨ C X (.loop lp14_0) [(1, .ref b 0), (3, .int .i64 i)] h = some (.ret, [(2, .bool false)], h) := by
  intro m
  induction m with
  | zero =>
    intro i hm hi
    obtain rfl : i = ys.length := by omega
    left
    rw [Yl]
    unfold lp14_0
    (repeat (first | rw [Zj] | rw [Zc (by simp [go_sem, hD, hb, ZZ]; exact ⟨rfl, rfl⟩)] | rw [Zx (by simp [lk, Za, Od.v, hD, hb, ZZ]; exact rfl)] | rw [Zn] | rw [Zm] | rw [Zo] | rw [ZA] | rw [Zr] | rw [Zw] | rw [Zq] | rw [Zp] | rw [Zk] | rw [Zg] | rw [Zh] | rw [Zd (by decide)] | rw [Zi] | rw [Ze] | rw [Zf] | rw [Zb (by decide)] | rw [ZB] | rw [Zt (by simp [go_sem, hD, hb, ZZ]; exact ⟨rfl, rfl⟩)] | rw [Zy (by simp [lk, Za, Od.v, hD, hb, ZZ]; exact rfl)] | rw [Zz]))
    rw [YB]
    exact ⟨_, rfl⟩
  | succ m ih =>
    intro i hm hi
    by_cases c : i < ys.length
    · obtain ⟨I, hI⟩ : ∃ I, I = i + 1 := ⟨_, rfl⟩
      have z1 : IntKind.i64.wrap ((i : Int) + 1) = (I : Int) := (by rw [wrap64 _ (by omega) (by omega)]; omega)
      obtain ⟨v, hv⟩ : ∃ v, v = ys[i] := ⟨_, rfl⟩
      have hv' := hv.symm
      have hvi : ys[i]? = some v := by rw [List.getElem?_eq_getElem c, hv]
      by_cases c3 : 300 < v.s.size
      · right
        have c3' : (300 : Int) < (v.s.size : Int) := by omega
        have hs : C X lp14_0 [(1, .ref b 0), (3, .int .i64 i)] h = some (.ret, [(2, .bool false)], h) := by
          clear ih
          obtain ⟨vk, vn, vs', vt⟩ := v
          simp only [V.d] at *
          unfold lp14_0
          (repeat (first | rw [Zj] | rw [Zc (by simp [go_sem, c, z1, hD, hv', hvi, hb, c3, c3', ZZ]; exact ⟨rfl, rfl⟩)] | rw [Zx (by simp [lk, Za, Od.v, c, z1, hD, hv', hvi, hb, c3, c3', ZZ]; exact rfl)] | rw [Zn] | rw [Zm] | rw [Zo] | rw [ZA] | rw [Zr] | rw [Zw] | rw [Zq] | rw [Zp] | rw [Zk] | rw [Zg] | rw [Zh] | rw [Zd (by decide)] | rw [Zi] | rw [Ze] | rw [Zf] | rw [Zb (by decide)] | rw [ZB] | rw [Zt (by simp [go_sem, c, z1, hD, hv', hvi, hb, c3, c3', ZZ]; exact ⟨rfl, rfl⟩)] | rw [Zy (by simp [lk, Za, Od.v, c, z1, hD, hv', hvi, hb, c3, c3', ZZ]; exact rfl)] | rw [Zz]))
          simp [Za, lk]
        rw [Yl, hs, lp_ret]
      · have c3' : ¬ (300 : Int) < (v.s.size : Int) := by omega
        have hs : C X lp14_0 [(1, .ref b 0), (3, .int .i64 i)] h = some (.norm, [(1, .ref b 0), (3, .int .i64 I)], h) := by
          clear ih
          obtain ⟨vk, vn, vs', vt⟩ := v
          simp only [V.d] at *
          unfold lp14_0
          (repeat (first | rw [Zj] | rw [Zc (by simp [go_sem, c, z1, hD, hv', hvi, hb, c3, c3', ZZ]; exact ⟨rfl, rfl⟩)] | rw [Zx (by simp [lk, Za, Od.v, c, z1, hD, hv', hvi, hb, c3, c3', ZZ]; exact rfl)] | rw [Zn] | rw [Zm] | rw [Zo] | rw [ZA] | rw [Zr] | rw [Zw] | rw [Zq] | rw [Zp] | rw [Zk] | rw [Zg] | rw [Zh] | rw [Zd (by decide)] | rw [Zi] | rw [Ze] | rw [Zf] | rw [Zb (by decide)] | rw [ZB] | rw [Zt (by simp [go_sem, c, z1, hD, hv', hvi, hb, c3, c3', ZZ]; exact ⟨rfl, rfl⟩)] | rw [Zy (by simp [lk, Za, Od.v, c, z1, hD, hv', hvi, hb, c3, c3', ZZ]; exact rfl)] | rw [Zz]))
          simp [Za, lk]
        rw [Yl, hs, Yy]
        exact ih I (by omega) (by omega)
    · exact ih i (by omega) hi
theorem run14 {H : ZQ} {c : RC} (hc : c.Raw) : ∃ bb, E X 14 [c.d] H = some (.bool bb, H) ∧ (bb = true → c.Ok) := by
  have hDv := hc.dict.vw
  have hBv := hc.bytes.vw
  by_cases c1 : 200 < c.ys.length
  · refine ⟨false, ?_, fun h => by cases h⟩
    have c1' : (200 : Int) < (c.ys.length : Int) := by omega
    clear hc
    obtain ⟨cn, ys, bs, D, B⟩ := c
    simp only [RC.d] at *
    rw [Yg (X := X) _ b14 _ rfl rfl]; unfold b14; (repeat (first | rw [Zj] | rw [Zc (by simp [go_sem, hDv, hBv, c1, c1']; exact ⟨rfl, rfl⟩)] | rw [Zx (by simp [lk, Za, Od.v, hDv, hBv, c1, c1']; exact rfl)] | rw [Zn] | rw [Zm] | rw [Zo] | rw [ZA] | rw [Zr] | rw [Zw] | rw [Zq] | rw [Zp] | rw [Zk] | rw [Zg] | rw [Zh] | rw [Zd (by decide)] | rw [Zi] | rw [Ze] | rw [Zf] | rw [Zb (by decide)] | rw [ZB] | rw [Zt (by simp [go_sem, hDv, hBv, c1, c1']; exact ⟨rfl, rfl⟩)] | rw [Zy (by simp [lk, Za, Od.v, hDv, hBv, c1, c1']; exact rfl)] | rw [Zz])); simp [Zs, ZC, Yc, go_sem, fin, YD, YC, YG, YF, YI, hDv, hBv, c1, c1']
  have c1' : ¬ (200 : Int) < (c.ys.length : Int) := by omega
  by_cases c2 : 200 < c.bs.length
  · refine ⟨false, ?_, fun h => by cases h⟩
    have c2' : (200 : Int) < (c.bs.length : Int) := by omega
    clear hc
    obtain ⟨cn, ys, bs, D, B⟩ := c
    simp only [RC.d] at *
    rw [Yg (X := X) _ b14 _ rfl rfl]; unfold b14; (repeat (first | rw [Zj] | rw [Zc (by simp [go_sem, hDv, hBv, c1, c1', c2, c2']; exact ⟨rfl, rfl⟩)] | rw [Zx (by simp [lk, Za, Od.v, hDv, hBv, c1, c1', c2, c2']; exact rfl)] | rw [Zn] | rw [Zm] | rw [Zo] | rw [ZA] | rw [Zr] | rw [Zw] | rw [Zq] | rw [Zp] | rw [Zk] | rw [Zg] | rw [Zh] | rw [Zd (by decide)] | rw [Zi] | rw [Ze] | rw [Zf] | rw [Zb (by decide)] | rw [ZB] | rw [Zt (by simp [go_sem, hDv, hBv, c1, c1', c2, c2']; exact ⟨rfl, rfl⟩)] | rw [Zy (by simp [lk, Za, Od.v, hDv, hBv, c1, c1', c2, c2']; exact rfl)] | rw [Zz])); simp [Zs, ZC, Yc, go_sem, fin, YD, YC, YG, YF, YI, hDv, hBv, c1, c1', c2, c2']
  have c2' : ¬ (200 : Int) < (c.bs.length : Int) := by omega
  have hok : c.Ok := ⟨hc.dict, by omega, hc.sm, hc.bytes, hc.bb, by omega⟩
  obtain ⟨H1, hH1⟩ : ∃ H1, H1 = H ++ [HO.box 41 [.int .i64 c.n, c.D, c.B]] := ⟨_, rfl⟩
  have hb1 : H1[H.length]? = some (.box 41 [.int .i64 c.n, c.D, c.B]) := by rw [hH1]; simp
  have ht1 : H1.take H.length = H := by rw [hH1, List.take_append_of_le_length (Nat.le_refl _)]; exact List.take_length
  have hfin : ∀ r, fin H H1 [.bool r] = (.bool r, H) := fun r => by simp [fin, ht1, YC, YD]
  rcases loop14 hb1 hDv (by omega) c.ys.length 0 (by omega) (by omega) with ⟨ex, hl⟩ | hl
  · refine ⟨true, ?_, fun _ => hok⟩
    rw [show ((0 : Nat) : Int) = 0 from rfl] at hl
    clear hc hok hb1 ht1
    obtain ⟨cn, ys, bs, D, B⟩ := c
    simp only [RC.d] at *
    subst hH1
    rw [Yg (X := X) _ b14 _ rfl rfl]; unfold b14
    (repeat (first | rw [Zj] | rw [Zc (by simp [go_sem, hDv, hBv, c1, c1', c2, c2']; exact ⟨rfl, rfl⟩)] | rw [Zx (by simp [lk, Za, Od.v, hDv, hBv, c1, c1', c2, c2']; exact rfl)] | rw [Zn] | rw [Zm] | rw [Zo] | rw [ZA] | rw [Zr] | rw [Zw] | rw [Zq] | rw [Zp] | rw [Zk] | rw [Zg] | rw [Zh] | rw [Zd (by decide)] | rw [Zi] | rw [Ze] | rw [Zf] | rw [Zb (by decide)] | rw [ZB] | rw [Zt (by simp [go_sem, hDv, hBv, c1, c1', c2, c2']; exact ⟨rfl, rfl⟩)] | rw [Zy (by simp [lk, Za, Od.v, hDv, hBv, c1, c1', c2, c2']; exact rfl)] | rw [Zz]))
    (try simp only [Za, List.map_cons, List.map_nil, lk, reduceIte, Nat.reduceEqDiff, Nat.zero_ne_one, Nat.one_ne_zero])
    rw [hl]
    (repeat (first | rw [Zj] | rw [Zc (by simp [go_sem]; exact ⟨rfl, rfl⟩)] | rw [Zx (by simp [lk, Za, Od.v]; exact rfl)] | rw [Zn] | rw [Zm] | rw [Zo] | rw [ZA] | rw [Zr] | rw [Zw] | rw [Zq] | rw [Zp] | rw [Zk] | rw [Zg] | rw [Zh] | rw [Zd (by decide)] | rw [Zi] | rw [Ze] | rw [Zf] | rw [Zb (by decide)] | rw [ZB] | rw [Zt (by simp [go_sem]; exact ⟨rfl, rfl⟩)] | rw [Zy (by simp [lk, Za, Od.v]; exact rfl)] | rw [Zz]))
    simp only [Zs, Yc, lk, Za, List.map_cons, List.map_nil, reduceIte, Option.map_some, Nat.reduceEqDiff, hfin]
  · refine ⟨false, ?_, fun _ => hok⟩
    rw [show ((0 : Nat) : Int) = 0 from rfl] at hl
    clear hc hok hb1 ht1
    obtain ⟨cn, ys, bs, D, B⟩ := c
    simp only [RC.d] at *
    subst hH1
    rw [Yg (X := X) _ b14 _ rfl rfl]; unfold b14
    (repeat (first | rw [Zj] | rw [Zc (by simp [go_sem, hDv, hBv, c1, c1', c2, c2']; exact ⟨rfl, rfl⟩)] | rw [Zx (by simp [lk, Za, Od.v, hDv, hBv, c1, c1', c2, c2']; exact rfl)] | rw [Zn] | rw [Zm] | rw [Zo] | rw [ZA] | rw [Zr] | rw [Zw] | rw [Zq] | rw [Zp] | rw [Zk] | rw [Zg] | rw [Zh] | rw [Zd (by decide)] | rw [Zi] | rw [Ze] | rw [Zf] | rw [Zb (by decide)] | rw [ZB] | rw [Zt (by simp [go_sem, hDv, hBv, c1, c1', c2, c2']; exact ⟨rfl, rfl⟩)] | rw [Zy (by simp [lk, Za, Od.v, hDv, hBv, c1, c1', c2, c2']; exact rfl)] | rw [Zz]))
    (try simp only [Za, List.map_cons, List.map_nil, lk, reduceIte, Nat.reduceEqDiff, Nat.zero_ne_one, Nat.one_ne_zero])
    rw [hl]
    (repeat (first | rw [Zj] | rw [Zc (by simp [go_sem]; exact ⟨rfl, rfl⟩)] | rw [Zx (by simp [lk, Za, Od.v]; exact rfl)] | rw [Zn] | rw [Zm] | rw [Zo] | rw [ZA] | rw [Zr] | rw [Zw] | rw [Zq] | rw [Zp] | rw [Zk] | rw [Zg] | rw [Zh] | rw [Zd (by decide)] | rw [Zi] | rw [Ze] | rw [Zf] | rw [Zb (by decide)] | rw [ZB] | rw [Zt (by simp [go_sem]; exact ⟨rfl, rfl⟩)] | rw [Zy (by simp [lk, Za, Od.v]; exact rfl)] | rw [Zz]))
    simp only [Zs, Yc, lk, Za, List.map_cons, List.map_nil, reduceIte, Option.map_some, Nat.reduceEqDiff, hfin]
theorem loop8 {h : ZQ} {Of Cs : DV} {p1 p2 p3 p4 : Int} {cs : List RC} {b : Nat} (hb : h[b]? = some (.box 26 [.int .i64 p1, .int .i64 p2, .int .i64 p3, .int .i64 p4, Of, Cs])) (hC : ∀ g, vw g 3 Cs = some (cs.map RC.d)) (hr : ∀ c ∈ cs, c.Raw) (hl : cs.length ≤ 1000) :
    ∀ (m i : Nat), cs.length - i ≤ m → i ≤ cs.length → ((∃ ex, C X (.loop lp8_0) [(1, .ref b 0), (3, .int .i64 i)] h = some (.exit 0, ex, h)) ∧ ∀ c ∈ cs.drop i, c.Ok) ∨ C X (.loop lp8_0) [(1, .ref b 0), (3, .int .i64 i)] h = some (.ret, [(2, .bool false)], h) := by
  intro m
  induction m with
  | zero =>
    intro i hm hi
    obtain rfl : i = cs.length := by omega
    refine .inl ⟨?_, by rw [List.drop_length]; intro c hc; cases hc⟩
    rw [Yl]
    unfold lp8_0
    (repeat (first | rw [Zj] | rw [Zc (by simp [go_sem, hC, hb, ZZ]; exact ⟨rfl, rfl⟩)] | rw [Zx (by simp [lk, Za, Od.v, hC, hb, ZZ]; exact rfl)] | rw [Zn] | rw [Zm] | rw [Zo] | rw [ZA] | rw [Zr] | rw [Zw] | rw [Zq] | rw [Zp] | rw [Zk] | rw [Zg] | rw [Zh] | rw [Zd (by decide)] | rw [Zi] | rw [Ze] | rw [Zf] | rw [Zb (by decide)] | rw [ZB] | rw [Zt (by simp [go_sem, hC, hb, ZZ]; exact ⟨rfl, rfl⟩)] | rw [Zy (by simp [lk, Za, Od.v, hC, hb, ZZ]; exact rfl)] | rw [Zz]))
    rw [YB]
    exact ⟨_, rfl⟩
  | succ m ih =>
    intro i hm hi
    by_cases c : i < cs.length
    · obtain ⟨I, hI⟩ : ∃ I, I = i + 1 := ⟨_, rfl⟩
      have z1 : IntKind.i64.wrap ((i : Int) + 1) = (I : Int) := (by rw [wrap64 _ (by omega) (by omega)]; omega)
      obtain ⟨x, hx⟩ : ∃ x, x = cs[i] := ⟨_, rfl⟩
      have hge : cs[i].d = .agg [.int .i64 x.n, x.D, x.B] := by rw [← hx]; rfl
      obtain ⟨bb, e14, hbb⟩ := run14 (H := h) (hr x (by rw [hx]; exact List.getElem_mem c))
      have e14 : E X 14 [.agg [.int .i64 x.n, x.D, x.B]] h = some (.bool bb, h) := e14
      have hd : cs.drop i = x :: cs.drop I := by rw [List.drop_eq_getElem_cons c, ← hx, hI]
      cases bb
      · right
        have hs : C X lp8_0 [(1, .ref b 0), (3, .int .i64 i)] h = some (.ret, [(2, .bool false)], h) := by
          clear ih
          unfold lp8_0
          (repeat (first | rw [Zj] | rw [Zc (by simp [go_sem, c, z1, hC, hge, hb, e14, ZZ]; exact ⟨rfl, rfl⟩)] | rw [Zx (by simp [lk, Za, Od.v, c, z1, hC, hge, hb, e14, ZZ]; exact rfl)] | rw [Zn] | rw [Zm] | rw [Zo] | rw [ZA] | rw [Zr] | rw [Zw] | rw [Zq] | rw [Zp] | rw [Zk] | rw [Zg] | rw [Zh] | rw [Zd (by decide)] | rw [Zi] | rw [Ze] | rw [Zf] | rw [Zb (by decide)] | rw [ZB] | rw [Zt (by simp [go_sem, c, z1, hC, hge, hb, e14, ZZ]; exact ⟨rfl, rfl⟩)] | rw [Zy (by simp [lk, Za, Od.v, c, z1, hC, hge, hb, e14, ZZ]; exact rfl)] | rw [Zz]))
          simp [Za, lk]
        rw [Yl, hs, lp_ret]
      · have hs : C X lp8_0 [(1, .ref b 0), (3, .int .i64 i)] h = some (.norm, [(1, .ref b 0), (3, .int .i64 I)], h) := by
          clear ih
          unfold lp8_0
          (repeat (first | rw [Zj] | rw [Zc (by simp [go_sem, c, z1, hC, hge, hb, e14, ZZ]; exact ⟨rfl, rfl⟩)] | rw [Zx (by simp [lk, Za, Od.v, c, z1, hC, hge, hb, e14, ZZ]; exact rfl)] | rw [Zn] | rw [Zm] | rw [Zo] | rw [ZA] | rw [Zr] | rw [Zw] | rw [Zq] | rw [Zp] | rw [Zk] | rw [Zg] | rw [Zh] | rw [Zd (by decide)] | rw [Zi] | rw [Ze] | rw [Zf] | rw [Zb (by decide)] | rw [ZB] | rw [Zt (by simp [go_sem, c, z1, hC, hge, hb, e14, ZZ]; exact ⟨rfl, rfl⟩)] | rw [Zy (by simp [lk, Za, Od.v, c, z1, hC, hge, hb, e14, ZZ]; exact rfl)] | rw [Zz]))
          simp [Za, lk]
        rw [Yl, hs, Yy]
        rcases ih I (by omega) (by omega) with ⟨h1, h2⟩ | h1
        · refine .inl ⟨h1, fun q hq => ?_⟩
          rw [hd] at hq
          rcases List.mem_cons.1 hq with rfl | hq
          · exact hbb rfl
          · exact h2 q hq
        · exact .inr h1
    · exact ih i (by omega) hi
/-- A segment as an argument. -/
structure SegA (Of Cs : DV) (os : List DV) (cs : List RC) : Prop where
  o : ∀ g, vw g 1 Of = some os
  c : ∀ g, vw g 3 Cs = some (cs.map RC.d)
  raw : ∀ c ∈ cs, c.Raw
theorem run8 {H : ZQ} {Of Cs : DV} {p1 p2 p3 p4 : Int} {os : List DV} {cs : List RC} (hS : SegA Of Cs os cs) : ∃ bb, E X 8 [.agg [.int .i64 p1, .int .i64 p2, .int .i64 p3, .int .i64 p4, Of, Cs]] H = some (.bool bb, H) ∧ (bb = true → os.length ≤ 200 ∧ cs.length ≤ 12 ∧ ∀ c ∈ cs, c.Ok) := by
  obtain ⟨hO, hC, hr⟩ := hS
  by_cases c1 : 200 < os.length
  · refine ⟨false, ?_, fun h => by cases h⟩
    have c1' : (200 : Int) < (os.length : Int) := by omega
    rw [Yg (X := X) _ b8 _ rfl rfl]; unfold b8; (repeat (first | rw [Zj] | rw [Zc (by simp [go_sem, hO, hC, c1, c1']; exact ⟨rfl, rfl⟩)] | rw [Zx (by simp [lk, Za, Od.v, hO, hC, c1, c1']; exact rfl)] | rw [Zn] | rw [Zm] | rw [Zo] | rw [ZA] | rw [Zr] | rw [Zw] | rw [Zq] | rw [Zp] | rw [Zk] | rw [Zg] | rw [Zh] | rw [Zd (by decide)] | rw [Zi] | rw [Ze] | rw [Zf] | rw [Zb (by decide)] | rw [ZB] | rw [Zt (by simp [go_sem, hO, hC, c1, c1']; exact ⟨rfl, rfl⟩)] | rw [Zy (by simp [lk, Za, Od.v, hO, hC, c1, c1']; exact rfl)] | rw [Zz])); simp [Zs, ZC, Yc, go_sem, fin, YD, YC, YG, YF, YI, hO, hC, c1, c1']
  have c1' : ¬ (200 : Int) < (os.length : Int) := by omega
  by_cases c2 : 12 < cs.length
  · refine ⟨false, ?_, fun h => by cases h⟩
    have c2' : (12 : Int) < (cs.length : Int) := by omega
    rw [Yg (X := X) _ b8 _ rfl rfl]; unfold b8; (repeat (first | rw [Zj] | rw [Zc (by simp [go_sem, hO, hC, c1, c1', c2, c2']; exact ⟨rfl, rfl⟩)] | rw [Zx (by simp [lk, Za, Od.v, hO, hC, c1, c1', c2, c2']; exact rfl)] | rw [Zn] | rw [Zm] | rw [Zo] | rw [ZA] | rw [Zr] | rw [Zw] | rw [Zq] | rw [Zp] | rw [Zk] | rw [Zg] | rw [Zh] | rw [Zd (by decide)] | rw [Zi] | rw [Ze] | rw [Zf] | rw [Zb (by decide)] | rw [ZB] | rw [Zt (by simp [go_sem, hO, hC, c1, c1', c2, c2']; exact ⟨rfl, rfl⟩)] | rw [Zy (by simp [lk, Za, Od.v, hO, hC, c1, c1', c2, c2']; exact rfl)] | rw [Zz])); simp [Zs, ZC, Yc, go_sem, fin, YD, YC, YG, YF, YI, hO, hC, c1, c1', c2, c2']
  have c2' : ¬ (12 : Int) < (cs.length : Int) := by omega
  obtain ⟨H1, hH1⟩ : ∃ H1, H1 = H ++ [HO.box 26 [.int .i64 p1, .int .i64 p2, .int .i64 p3, .int .i64 p4, Of, Cs]] := ⟨_, rfl⟩
  have hb1 : H1[H.length]? = some (.box 26 [.int .i64 p1, .int .i64 p2, .int .i64 p3, .int .i64 p4, Of, Cs]) := by rw [hH1]; simp
  have ht1 : H1.take H.length = H := by rw [hH1, List.take_append_of_le_length (Nat.le_refl _)]; exact List.take_length
  have hfin : ∀ r, fin H H1 [.bool r] = (.bool r, H) := fun r => by simp [fin, ht1, YC, YD]
  rcases loop8 hb1 hC hr (by omega) cs.length 0 (by omega) (by omega) with ⟨⟨ex, hl⟩, hok⟩ | hl
  · rw [List.drop_zero] at hok
    refine ⟨true, ?_, fun _ => ⟨by omega, by omega, hok⟩⟩
    rw [show ((0 : Nat) : Int) = 0 from rfl] at hl
    clear hok hb1 ht1 hr
    subst hH1
    rw [Yg (X := X) _ b8 _ rfl rfl]; unfold b8
    (repeat (first | rw [Zj] | rw [Zc (by simp [go_sem, hO, hC, c1, c1', c2, c2']; exact ⟨rfl, rfl⟩)] | rw [Zx (by simp [lk, Za, Od.v, hO, hC, c1, c1', c2, c2']; exact rfl)] | rw [Zn] | rw [Zm] | rw [Zo] | rw [ZA] | rw [Zr] | rw [Zw] | rw [Zq] | rw [Zp] | rw [Zk] | rw [Zg] | rw [Zh] | rw [Zd (by decide)] | rw [Zi] | rw [Ze] | rw [Zf] | rw [Zb (by decide)] | rw [ZB] | rw [Zt (by simp [go_sem, hO, hC, c1, c1', c2, c2']; exact ⟨rfl, rfl⟩)] | rw [Zy (by simp [lk, Za, Od.v, hO, hC, c1, c1', c2, c2']; exact rfl)] | rw [Zz]))
    (try simp only [Za, List.map_cons, List.map_nil, lk, reduceIte, Nat.reduceEqDiff, Nat.zero_ne_one, Nat.one_ne_zero])
    rw [hl]
    (repeat (first | rw [Zj] | rw [Zc (by simp [go_sem]; exact ⟨rfl, rfl⟩)] | rw [Zx (by simp [lk, Za, Od.v]; exact rfl)] | rw [Zn] | rw [Zm] | rw [Zo] | rw [ZA] | rw [Zr] | rw [Zw] | rw [Zq] | rw [Zp] | rw [Zk] | rw [Zg] | rw [Zh] | rw [Zd (by decide)] | rw [Zi] | rw [Ze] | rw [Zf] | rw [Zb (by decide)] | rw [ZB] | rw [Zt (by simp [go_sem]; exact ⟨rfl, rfl⟩)] | rw [Zy (by simp [lk, Za, Od.v]; exact rfl)] | rw [Zz]))
    simp only [Zs, Yc, lk, Za, List.map_cons, List.map_nil, reduceIte, Option.map_some, Nat.reduceEqDiff, hfin]
  · refine ⟨false, ?_, fun h => by cases h⟩
    rw [show ((0 : Nat) : Int) = 0 from rfl] at hl
    clear hb1 ht1 hr
    subst hH1
    rw [Yg (X := X) _ b8 _ rfl rfl]; unfold b8
    (repeat (first | rw [Zj] | rw [Zc (by simp [go_sem, hO, hC, c1, c1', c2, c2']; exact ⟨rfl, rfl⟩)] | rw [Zx (by simp [lk, Za, Od.v, hO, hC, c1, c1', c2, c2']; exact rfl)] | rw [Zn] | rw [Zm] | rw [Zo] | rw [ZA] | rw [Zr] | rw [Zw] | rw [Zq] | rw [Zp] | rw [Zk] | rw [Zg] | rw [Zh] | rw [Zd (by decide)] | rw [Zi] | rw [Ze] | rw [Zf] | rw [Zb (by decide)] | rw [ZB] | rw [Zt (by simp [go_sem, hO, hC, c1, c1', c2, c2']; exact ⟨rfl, rfl⟩)] | rw [Zy (by simp [lk, Za, Od.v, hO, hC, c1, c1', c2, c2']; exact rfl)] | rw [Zz]))
    (try simp only [Za, List.map_cons, List.map_nil, lk, reduceIte, Nat.reduceEqDiff, Nat.zero_ne_one, Nat.one_ne_zero])
    rw [hl]
    (repeat (first | rw [Zj] | rw [Zc (by simp [go_sem]; exact ⟨rfl, rfl⟩)] | rw [Zx (by simp [lk, Za, Od.v]; exact rfl)] | rw [Zn] | rw [Zm] | rw [Zo] | rw [ZA] | rw [Zr] | rw [Zw] | rw [Zq] | rw [Zp] | rw [Zk] | rw [Zg] | rw [Zh] | rw [Zd (by decide)] | rw [Zi] | rw [Ze] | rw [Zf] | rw [Zb (by decide)] | rw [ZB] | rw [Zt (by simp [go_sem]; exact ⟨rfl, rfl⟩)] | rw [Zy (by simp [lk, Za, Od.v]; exact rfl)] | rw [Zz]))
    simp only [Zs, Yc, lk, Za, List.map_cons, List.map_nil, reduceIte, Option.map_some, Nat.reduceEqDiff, hfin]
theorem segW_list {cs : List RC} {n : Nat} (hok : ∀ c ∈ cs, c.Ok) (xs : List N) : bitsOf (segW cs n xs) 0 = segI cs n xs := by
  unfold segW segI
  split
  · rename_i hall
    refine sealW_list (fun s hs => ?_) xs
    obtain ⟨c, hc, rfl⟩ := List.mem_map.1 hs
    exact RC.May.scOk ⟨hok c hc, (hall c hc).2, (hall c hc).1⟩
  · rfl
theorem segI_len (cs : List RC) (n : Nat) (xs : List N) : (segI cs n xs).length ≤ n := by
  unfold segI
  split
  · exact rowsI_len xs _ n
  · simp
set_option maxHeartbeats 1000000 in
theorem run3 {L Of Cs : DV} {p1 p2 p3 p4 : Int} {xs : List N} {os : List DV} {cs : List RC} (hL : ∀ h, vw h 8 L = some (xs.map N.d)) (sx : ∀ x ∈ xs, Sm x.val) (hS : SegA Of Cs os cs) : E X 3 [L, .agg [.int .i64 p1, .int .i64 p2, .int .i64 p3, .int .i64 p4, Of, Cs]] [] = some (.bool true, []) := by
  have e6 := fun h => run6 h
  have e7 := fun h => run7 (hL h)
  obtain ⟨b8, e8, hb8⟩ := run8 (H := [.box 26 [.int .i64 p1, .int .i64 p2, .int .i64 p3, .int .i64 p4, Of, Cs]]) (p1 := p1) (p2 := p2) (p3 := p3) (p4 := p4) hS
  cases hf : fewN xs
  · rw [hf] at e7
    clear hb8
    rw [Yg (X := X) _ b3 _ rfl rfl]; unfold b3; (repeat (first | rw [Zj] | rw [Zc (by simp [go_sem, e6, e7, e8]; exact ⟨rfl, rfl⟩)] | rw [Zx (by simp [lk, Za, Od.v, e6, e7, e8]; exact rfl)] | rw [Zn] | rw [Zm] | rw [Zo] | rw [ZA] | rw [Zr] | rw [Zw] | rw [Zq] | rw [Zp] | rw [Zk] | rw [Zg] | rw [Zh] | rw [Zd (by decide)] | rw [Zi] | rw [Ze] | rw [Zf] | rw [Zb (by decide)] | rw [ZB] | rw [Zt (by simp [go_sem, e6, e7, e8]; exact ⟨rfl, rfl⟩)] | rw [Zy (by simp [lk, Za, Od.v, e6, e7, e8]; exact rfl)] | rw [Zz])); simp [Zs, ZC, Yc, go_sem, fin, YD, YC, YG, YF, YI, e6, e7, e8]
  rw [hf] at e7
  cases b8
  · clear hb8
    rw [Yg (X := X) _ b3 _ rfl rfl]; unfold b3; (repeat (first | rw [Zj] | rw [Zc (by simp [go_sem, e6, e7, e8]; exact ⟨rfl, rfl⟩)] | rw [Zx (by simp [lk, Za, Od.v, e6, e7, e8]; exact rfl)] | rw [Zn] | rw [Zm] | rw [Zo] | rw [ZA] | rw [Zr] | rw [Zw] | rw [Zq] | rw [Zp] | rw [Zk] | rw [Zg] | rw [Zh] | rw [Zd (by decide)] | rw [Zi] | rw [Ze] | rw [Zf] | rw [Zb (by decide)] | rw [ZB] | rw [Zt (by simp [go_sem, e6, e7, e8]; exact ⟨rfl, rfl⟩)] | rw [Zy (by simp [lk, Za, Od.v, e6, e7, e8]; exact rfl)] | rw [Zz])); simp [Zs, ZC, Yc, go_sem, fin, YD, YC, YG, YF, YI, e6, e7, e8]
  obtain ⟨hn, hcl, hok⟩ := hb8 rfl
  have hb : xs.length ≤ 60 := by simp [fewN] at hf; exact hf.1
  obtain ⟨W, e11, h2, h3, h4⟩ := run11 (H := [.box 26 [.int .i64 p1, .int .i64 p2, .int .i64 p3, .int .i64 p4, Of, Cs]]) (L := L) (p1 := p1) (p2 := p2) (p3 := p3) (p4 := p4) (fun G => hL _) hS.o hS.c hok hn hcl (by omega)
  have e10 := run10 h2 h3 h4 [.box 26 [.int .i64 p1, .int .i64 p2, .int .i64 p3, .int .i64 p4, Of, Cs]]
  rw [segW_list hok] at e10
  have r12 := fun H : ZQ => run12 (H := H) (L := L) (p1 := p1) (p2 := p2) (p3 := p3) (p4 := p4) (fun G => hL _) hS.o hS.c hok hn hcl (by omega) sx
  have hlen := segI_len cs os.length xs
  have iI : ∀ (A B : DV) (l : List Nat) (h : ZQ), vw h 1 A = some (l.map iD) → vw h 1 B = some (l.map iD) → l.length ≤ 10000 → E X 9 [A, B] h = some (.bool true, h) := fun A B l h h1 h2 h3 => by
    have := run9 (h := h) (A := A) (B := B) (xs := l.map fun n : Nat => (n : Int)) (ys := l.map fun n : Nat => (n : Int)) (by rw [h1, List.map_map]; rfl) (by rw [h2, List.map_map]; rfl) (by rw [List.length_map]; omega)
    simpa using this
  clear e7 hb8 h2 h3 h4
  have e7 := fun h => run7 (hL h)
  rw [hf] at e7
  generalize segI cs os.length xs = l at *
  have one : W.one = true ∨ True := .inr trivial
  by_cases g0 : l = []
  · subst g0
    rw [show listD [] = .nils from rfl] at e10
    obtain ⟨d, e12, hd⟩ := r12 [.box 26 [.int .i64 p1, .int .i64 p2, .int .i64 p3, .int .i64 p4, Of, Cs]]
    rcases hd with ⟨rfl, _⟩ | rfl
    · have k1 := iI .nils .nils [] [.box 26 [.int .i64 p1, .int .i64 p2, .int .i64 p3, .int .i64 p4, Of, Cs]] rfl rfl (by simp)
      clear r12 iI hok hS
      rw [Yg (X := X) _ b3 _ rfl rfl]; unfold b3; (repeat (first | rw [Zj] | rw [Zc (by simp [go_sem, e6, e7, e8, e11, e10, e12, k1]; exact ⟨rfl, rfl⟩)] | rw [Zx (by simp [lk, Za, Od.v, e6, e7, e8, e11, e10, e12, k1]; exact rfl)] | rw [Zn] | rw [Zm] | rw [Zo] | rw [ZA] | rw [Zr] | rw [Zw] | rw [Zq] | rw [Zp] | rw [Zk] | rw [Zg] | rw [Zh] | rw [Zd (by decide)] | rw [Zi] | rw [Ze] | rw [Zf] | rw [Zb (by decide)] | rw [ZB] | rw [Zt (by simp [go_sem, e6, e7, e8, e11, e10, e12, k1]; exact ⟨rfl, rfl⟩)] | rw [Zy (by simp [lk, Za, Od.v, e6, e7, e8, e11, e10, e12, k1]; exact rfl)] | rw [Zz])); simp [Zs, ZC, Yc, go_sem, fin, YD, YC, YG, YF, YI, e6, e7, e8, e11, e10, e12, k1]
    · have k1 := iI .nils (.row 1 0 0 0 false) [] [.box 26 [.int .i64 p1, .int .i64 p2, .int .i64 p3, .int .i64 p4, Of, Cs], .row 3 1 0 []] rfl rfl (by simp)
      simp only [List.map_nil] at e12
      clear r12 iI hok hS
      rw [Yg (X := X) _ b3 _ rfl rfl]; unfold b3; (repeat (first | rw [Zj] | rw [Zc (by simp [go_sem, e6, e7, e8, e11, e10, e12, k1]; exact ⟨rfl, rfl⟩)] | rw [Zx (by simp [lk, Za, Od.v, e6, e7, e8, e11, e10, e12, k1]; exact rfl)] | rw [Zn] | rw [Zm] | rw [Zo] | rw [ZA] | rw [Zr] | rw [Zw] | rw [Zq] | rw [Zp] | rw [Zk] | rw [Zg] | rw [Zh] | rw [Zd (by decide)] | rw [Zi] | rw [Ze] | rw [Zf] | rw [Zb (by decide)] | rw [ZB] | rw [Zt (by simp [go_sem, e6, e7, e8, e11, e10, e12, k1]; exact ⟨rfl, rfl⟩)] | rw [Zy (by simp [lk, Za, Od.v, e6, e7, e8, e11, e10, e12, k1]; exact rfl)] | rw [Zz])); simp [Zs, ZC, Yc, go_sem, fin, YD, YC, YG, YF, YI, e6, e7, e8, e11, e10, e12, k1]
  · have hlD : listD l = .fresh 3 1 (l.map iD) := by unfold listD; rw [if_neg g0]
    rw [hlD] at e10
    obtain ⟨d, e12, hd⟩ := r12 [.box 26 [.int .i64 p1, .int .i64 p2, .int .i64 p3, .int .i64 p4, Of, Cs], .row 3 1 0 (l.map iD)]
    rcases hd with ⟨_, h0⟩ | rfl
    · exact absurd h0 g0
    · have k1 := iI (.row 1 0 0 (l.map iD).length false) (.row 2 0 0 (l.map iD).length false) l [.box 26 [.int .i64 p1, .int .i64 p2, .int .i64 p3, .int .i64 p4, Of, Cs], .row 3 1 0 (l.map iD), .row 3 1 0 (l.map iD)] (by simp [vw, List.take_of_length_le]) (by simp [vw, List.take_of_length_le]) (by omega)
      have t1 : kpo true [HO.box 26 [.int .i64 p1, .int .i64 p2, .int .i64 p3, .int .i64 p4, Of, Cs]] (.row 1 0 0 (l.map iD).length false, [HO.box 26 [.int .i64 p1, .int .i64 p2, .int .i64 p3, .int .i64 p4, Of, Cs], .row 3 1 0 (l.map iD)]) = some (.row 1 0 0 (l.map iD).length false, [HO.box 26 [.int .i64 p1, .int .i64 p2, .int .i64 p3, .int .i64 p4, Of, Cs], .row 3 1 0 (l.map iD)]) := by
        unfold kpo; rw [if_pos ⟨rfl, rfl⟩]
      clear r12 iI hok hS hlD
      generalize l.map iD = O at *
      rw [Yg (X := X) _ b3 _ rfl rfl]; unfold b3; (repeat (first | rw [Zj] | rw [Zc (by simp [go_sem, e6, e7, e8, e11, e10, e12, k1, t1]; exact ⟨rfl, rfl⟩)] | rw [Zx (by simp [lk, Za, Od.v, e6, e7, e8, e11, e10, e12, k1, t1]; exact rfl)] | rw [Zn] | rw [Zm] | rw [Zo] | rw [ZA] | rw [Zr] | rw [Zw] | rw [Zq] | rw [Zp] | rw [Zk] | rw [Zg] | rw [Zh] | rw [Zd (by decide)] | rw [Zi] | rw [Ze] | rw [Zf] | rw [Zb (by decide)] | rw [ZB] | rw [Zt (by simp [go_sem, e6, e7, e8, e11, e10, e12, k1, t1]; exact ⟨rfl, rfl⟩)] | rw [Zy (by simp [lk, Za, Od.v, e6, e7, e8, e11, e10, e12, k1, t1]; exact rfl)] | rw [Zz])); simp [Zs, ZC, Yc, go_sem, fin, YD, YC, YG, YF, YI, e6, e7, e8, e11, e10, e12, k1, t1]
end Go.Proofs.YtojhkbbnkhfnhaaDoor
