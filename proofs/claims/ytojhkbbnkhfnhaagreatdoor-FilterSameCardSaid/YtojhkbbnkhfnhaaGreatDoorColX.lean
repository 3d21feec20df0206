/- Ideal runs: a node's rows in a sealed segment. Ideal runs: filter.Sealed; light segments. Ideal runs: the document's rows of a segment (winnowerref12.Row, Rows), its filters (winnowerref17.Sealed); light segments. Ideal runs: filters of segments as the document says (winnowerref17.Sealed); light segments; FilterSeals. Ideal runs: light segments; FilterSeals. -/
import Derived.Test.YtojhkbbnkhfnhaaGreatDoorColT
import Derived.Test.YtojhkbbnkhfnhaaGreatDoorNod
import Derived.Test.YtojhkbbnkhfnhaaGreatDoorPlainQ
import Derived.Test.YtojhkbbnkhfnhaaGreatDoorPlainB
namespace Go.Proofs.YtojhkbbnkhfnhaaGreatDoor
attribute [local go_sem] Ya ZT ZV ZW ZO ZF ZM ZI ZK ZB ZC ZJ ZP ZQ ZX ZN ZG ZU Zp Zm Yg ZS Yq put lk Od.v Za ZE ZA YB Ym Yn Yo unx YE DV.isU DV.cells hget Yb Yj Yd ZL splice Ye mat Yi YD one_bool one_int one_str one_nilp one_ref one_elem one_nils one_list one_row one_nilm one_map one_nilf one_func one_nili one_ifc one_agg one_tup one_undef one_fresh
attribute [local go_sem ↓] ZH
set_option linter.unusedVariables false
set_option linter.unusedSimpArgs false
set_option maxRecDepth 10000
/-- A column as an argument. -/
structure RC where
  n : Int
  ys : List V
  bs : List Nat
  D : DV
  B : DV
def RC.d (c : RC) : DV := colD c.n c.D c.B
structure RC.Ok (c : RC) : Prop where
  dict : ValL c.D c.ys
  yl : c.ys.length ≤ 200
  sm : ∀ x ∈ c.ys, Sm x
  bytes : BytesL c.B c.bs
  bb : BB c.bs
  bl : c.bs.length ≤ 200
/-- A column that may be, of so many rows. -/
structure RC.May (n : Nat) (c : RC) : Prop where
  ok : c.Ok
  may : okC c.n c.ys c.bs
  len : c.n = (n : Int)
def RC.sc (c : RC) : SC := ⟨c.ys, idsN c.bs (wC c.ys.length) c.n.toNat⟩
theorem RC.May.col {n : Nat} {c : RC} (h : c.May n) : ColOk n c.D c.B c.ys c.sc.il := by
  have := (h.may.col h.ok.dict (by have := h.ok.yl; omega) h.ok.bytes h.ok.bb).2
  rw [h.len, Int.toNat_natCast] at this
  unfold RC.sc
  rw [h.len, Int.toNat_natCast]
  exact this
theorem RC.May.scOk {n : Nat} {c : RC} (h : c.May n) : c.sc.Ok n := by
  have hc := h.col
  exact ⟨hc.up, hc.may, hc.len, fun p hp => (hc.mem p).1 hp⟩
theorem RC.May.vals {n : Nat} {c : RC} (h : c.May n) : vlC c.n c.ys c.bs = Yz c.sc n := by
  have hv : vlC c.n c.ys c.bs = valI c.ys (idsN c.bs (wC c.ys.length) c.n.toNat) := by unfold vlC; rw [if_pos h.may]
  rw [hv]
  have hl := h.col.len
  unfold Yz valI
  have e : c.sc.il = idsN c.bs (wC c.ys.length) c.n.toNat := rfl
  rw [← e]
  apply List.ext_getElem
  · simp [hl]
  · intro i h1 h2
    simp only [List.getElem_map, List.getElem_range, SC.val]
    have hi : i < c.sc.il.length := by simpa using h1
    have : c.sc.il.getD i 0 = c.sc.il[i] := by rw [List.getD_eq_getElem?_getD, List.getElem?_eq_getElem hi]; rfl
    rw [this]
    rfl
theorem BytesL.one' {R : DV} {bs : List Nat} (h : BytesL R bs) : R.one = true := by
  rcases h with ⟨rfl, _⟩ | rfl <;> rfl
theorem run71s {n : Nat} {c : RC} (h : c.May n) (lo hi : Nat) (H : ZD) : ∃ W, E X 71 [colD n c.D c.B, .int .i64 lo, .int .i64 hi] H = some (.agg [W], H) ∧ WL W (rngW c.sc n lo hi) ∧ W.one = true := by
  obtain ⟨W, h1, h2⟩ := run71 (H := H) h.col (lo : Int) (hi : Int)
  refine ⟨W, h1, ?_, by rcases h2 with rfl | ⟨rfl, _⟩ <;> rfl⟩
  have e : (fun p : Nat => decide ((lo : Int) ≤ (p : Int)) && decide ((p : Int) < (hi : Int))) = inR lo hi := by
    funext p
    unfold inR
    simp only [Int.ofNat_le, Int.ofNat_lt]
  rw [e] at h2
  exact h2
set_option maxHeartbeats 8000000 in
theorem run40 {H : ZD} {Of Cs : DV} {p1 p2 p3 p4 : Int} {cs : List RC} {n : Nat} (hC : ∀ g, vw g 3 Cs = some (cs.map RC.d)) (hm : ∀ c ∈ cs, c.May n) (hn : n ≤ 200) (hcl : cs.length ≤ 12) (x : N) :
    ∃ W, E X 40 [.agg [.int .i64 p1, .int .i64 p2, .int .i64 p3, .int .i64 p4, Of, Cs], x.d] H = some (.agg [W], H) ∧ WL W (leafS (cs.map RC.sc) n x) := by
  have out : ∀ (hx : x.col < 0 ∨ (¬ x.col < 0 ∧ (cs.length : Int) ≤ x.col)), ∃ W, E X 40 [.agg [.int .i64 p1, .int .i64 p2, .int .i64 p3, .int .i64 p4, Of, Cs], x.d] H = some (.agg [W], H) ∧ WL W (leafS (cs.map RC.sc) n x) := by
    intro hx
    have hno : colS (cs.map RC.sc) x.col = none := by
      unfold colS
      rcases hx with h | ⟨h1, h2⟩
      · rw [if_neg (by omega)]
      · rw [if_pos (by omega), List.getElem?_eq_none (by rw [List.length_map]; omega)]
    have hl : leafS (cs.map RC.sc) n x = [] := by unfold leafS; rw [hno]
    rw [hl]
    refine ⟨.nils, ?_, .inr ⟨rfl, rfl⟩⟩
    clear hno hl hm
    obtain ⟨ask, col, ⟨vk, vn, vs', vt⟩, xa, xb⟩ := x
    simp only [N.d, V.d] at *
    rcases hx with h | ⟨h1, h2⟩
    · rw [Yc (X := X) _ b40 _ rfl rfl]; unfold b40; (repeat (first | rw [Zj] | rw [Zc (by simp [go_sem, hC, h, ZR]; exact ⟨rfl, rfl⟩)] | rw [Zv (by simp [lk, Za, Od.v, hC, h, ZR]; exact rfl)] | rw [Zp] | rw [Zm] | rw [Zl] | rw [Zy] | rw [Zq] | rw [Zt] | rw [Zo] | rw [Zn] | rw [Zk] | rw [Zg] | rw [Zh] | rw [Zd (by decide)] | rw [Zi] | rw [Ze] | rw [Zf] | rw [Zb (by decide)] | rw [Zz] | rw [Zu (by simp [go_sem, hC, h, ZR]; exact ⟨rfl, rfl⟩)] | rw [Zw (by simp [lk, Za, Od.v, hC, h, ZR]; exact rfl)] | rw [Zx])); simp [Zr, Zs, ZY, go_sem, fin, Yu, Yt, YA, Yy, YC, hC, h, ZR]
    · rw [Yc (X := X) _ b40 _ rfl rfl]; unfold b40; (repeat (first | rw [Zj] | rw [Zc (by simp [go_sem, hC, h1, h2, ZR]; exact ⟨rfl, rfl⟩)] | rw [Zv (by simp [lk, Za, Od.v, hC, h1, h2, ZR]; exact rfl)] | rw [Zp] | rw [Zm] | rw [Zl] | rw [Zy] | rw [Zq] | rw [Zt] | rw [Zo] | rw [Zn] | rw [Zk] | rw [Zg] | rw [Zh] | rw [Zd (by decide)] | rw [Zi] | rw [Ze] | rw [Zf] | rw [Zb (by decide)] | rw [Zz] | rw [Zu (by simp [go_sem, hC, h1, h2, ZR]; exact ⟨rfl, rfl⟩)] | rw [Zw (by simp [lk, Za, Od.v, hC, h1, h2, ZR]; exact rfl)] | rw [Zx])); simp [Zr, Zs, ZY, go_sem, fin, Yu, Yt, YA, Yy, YC, hC, h1, h2, ZR]
  by_cases h1 : x.col < 0
  · exact out (.inl h1)
  by_cases h2 : (cs.length : Int) ≤ x.col
  · exact out (.inr ⟨h1, h2⟩)
  clear out
  obtain ⟨k, hk⟩ : ∃ k : Nat, x.col = (k : Int) := ⟨x.col.toNat, by omega⟩
  have hkl : k < cs.length := by omega
  have k1 : ¬ (k : Int) < 0 := by omega
  have k2 : ¬ (cs.length : Int) ≤ (k : Int) := by omega
  have k3 : ¬ cs.length ≤ k := by omega
  obtain ⟨c, hc⟩ : ∃ c, c = cs[k] := ⟨_, rfl⟩
  have hc' := hc.symm
  have hck : cs[k]? = some c := by rw [hc]; exact List.getElem?_eq_getElem hkl
  have hcm := hm c (by rw [hc]; exact List.getElem_mem hkl)
  have hls : leafS (cs.map RC.sc) n x = leafC c.sc n x := by
    have : colS (cs.map RC.sc) x.col = some c.sc := by
      unfold colS
      rw [if_pos (by omega), hk, Int.toNat_natCast, List.getElem?_map, hck]
      rfl
    unfold leafS
    rw [this]
  rw [hls]
  have hcd : c.d = .agg [.int .i64 n, c.D, c.B] := by unfold RC.d colD; rw [hcm.len]
  have hgd : (cs.map RC.d)[k]? = some (.agg [.int .i64 n, c.D, c.B]) := by rw [List.getElem?_map, hck, ← hcd]; rfl
  have hge : cs[k].d = .agg [.int .i64 n, c.D, c.B] := by rw [← hc, hcd]
  have hDv := hcm.ok.dict.vw
  have hD1 := hcm.ok.dict.one
  have hB1 := hcm.ok.bytes.one'
  obtain ⟨H1, hH1⟩ : ∃ H1, H1 = H ++ [HO.box 77 [.int .i64 p1, .int .i64 p2, .int .i64 p3, .int .i64 p4, Of, Cs], .box 54 x.d.cells, .box 38 [.nils], .box 61 [.int .i64 n, c.D, c.B]] := ⟨_, rfl⟩
  have e71 := fun g => run70 (H := g) hDv
  have e72 := fun g => run72 x.val g
  obtain ⟨d18, e18, hd18⟩ := run54 (H := H1) (n := n) hcm.ok.dict hcm.ok.yl hcm.ok.bytes hcm.ok.bb
  have hvals := hcm.vals
  rw [hcm.len] at hvals
  rw [hvals] at hd18
  have hr := hcm.may.2.2.1
  have e74 := fun g => run74 (h := g) (A := c.D) (xs := c.ys) x.val (fun l => hDv _) (by have := hcm.ok.yl; omega)
  rw [hr] at e74
  have hscy : c.sc.ys = c.ys := rfl
  have fW : ∀ (W : DV) (ws : List Nat), WL W ws → fin H (H ++ [HO.box 77 [.int .i64 p1, .int .i64 p2, .int .i64 p3, .int .i64 p4, Of, Cs], .box 54 x.d.cells, .box 38 [W], .box 61 [.int .i64 n, c.D, c.B]]) [.agg [W]] = (.agg [W], H) := fun W ws hW => fin_wl hW (by simp)
  have gW : ∀ (W : DV), (H ++ [HO.box 77 [.int .i64 p1, .int .i64 p2, .int .i64 p3, .int .i64 p4, Of, Cs], .box 54 x.d.cells, .box 38 [W], .box 61 [.int .i64 n, c.D, c.B]])[H.length + 2]? = some (.box 38 [W]) := fun W => by simp [hget]
  by_cases c7 : x.ask = 7
  · have hl : leafC c.sc n x = rngW c.sc n 0 (Yf c.ys) := by unfold leafC; rw [if_pos c7]; rfl
    rw [hl]
    obtain ⟨W, e20, hW, hone⟩ := run71s hcm 0 (Yf c.ys) H1
    rw [show ((0 : Nat) : Int) = 0 from rfl] at e20
    refine ⟨W, ?_, hW⟩
    have hfin := fW W _ hW
    clear hl hW e18 hd18 hvals hr e74 fW e72
    generalize Yf c.ys = f at *
    clear hm hcm hls hck hgd hc
    obtain ⟨ask, col, ⟨vk, vn, vs', vt⟩, xa, xb⟩ := x
    obtain ⟨cn, ys, bs, D, B⟩ := c
    simp only [N.d, V.d, DV.cells] at *
    subst hk
    subst c7
    subst hH1
    rw [Yc (X := X) _ b40 _ rfl rfl]; unfold b40
    (repeat (first | rw [Zj] | rw [Zc (by simp [go_sem, hC, k1, k2, k3, hkl, hge, hDv, hD1, hB1, e71, ZR, e20, hone]; exact ⟨rfl, rfl⟩)] | rw [Zv (by simp [lk, Za, Od.v, hC, k1, k2, k3, hkl, hge, hDv, hD1, hB1, e71, ZR, e20, hone]; exact rfl)] | rw [Zp] | rw [Zm] | rw [Zl] | rw [Zy] | rw [Zq] | rw [Zt] | rw [Zo] | rw [Zn] | rw [Zk] | rw [Zg] | rw [Zh] | rw [Zd (by decide)] | rw [Zi] | rw [Ze] | rw [Zf] | rw [Zb (by decide)] | rw [Zz] | rw [Zu (by simp [go_sem, hC, k1, k2, k3, hkl, hge, hDv, hD1, hB1, e71, ZR, e20, hone]; exact ⟨rfl, rfl⟩)] | rw [Zw (by simp [lk, Za, Od.v, hC, k1, k2, k3, hkl, hge, hDv, hD1, hB1, e71, ZR, e20, hone]; exact rfl)] | rw [Zx]))
    simp only [Zr, ZY, lk, Za, List.map_cons, List.map_nil, reduceIte, Option.map_some, Nat.reduceEqDiff]
    rw [ZA, gW]
    exact congrArg some hfin
  have c7' : (x.ask == 7) = false := by simpa using c7
  cases cm : mayV x.val
  · have hl : leafC c.sc n x = ofW (leafI x (Yr (Yz c.sc n) k) n) := by unfold leafC; rw [if_neg c7, if_pos cm, hk, Int.toNat_natCast]
    rw [hl]
    rw [cm] at e72
    have hvl : (Yz c.sc n).length = n := by simp [Yz]
    have hrl : (Yr (Yz c.sc n) k).length = n := by unfold Yr; rw [List.length_map, hvl]
    have kpa : ∀ (h G : ZD) (d : DV), kpo true h (d, h ++ G) = some (d, h ++ G) := fun h G d => by
      unfold kpo
      rw [if_pos ⟨rfl, List.take_left' rfl⟩]
    have fR : ∀ (G : ZD) (W : DV) (ws : List Nat), WL W ws → fin H (H ++ G) [.agg [W]] = (.agg [W], H) := fun G W ws hW => fin_wl hW (by simp)
    have gR : ∀ (W : DV) (G : ZD), (H ++ ([HO.box 77 [.int .i64 p1, .int .i64 p2, .int .i64 p3, .int .i64 p4, Of, Cs], .box 54 x.d.cells, .box 38 [W], .box 61 [.int .i64 n, c.D, c.B]] ++ G))[H.length + 2]? = some (.box 38 [W]) := fun W G => by simp [hget]
    rcases hd18 with ⟨rfl, hv0⟩ | rfl
    · have hv2 : vw (H ++ [HO.box 77 [.int .i64 p1, .int .i64 p2, .int .i64 p3, .int .i64 p4, Of, Cs], .box 54 x.d.cells, .box 38 [.nils], .box 61 [.int .i64 n, c.D, c.B]]) 4 .nils = some ((Yz c.sc n).map V.d) := by rw [hv0]; rfl
      obtain ⟨d73, e73, hd73⟩ := run73 (H := H ++ [HO.box 77 [.int .i64 p1, .int .i64 p2, .int .i64 p3, .int .i64 p4, Of, Cs], .box 54 x.d.cells, .box 38 [.nils], .box 61 [.int .i64 n, c.D, c.B]]) (k := k) hv2 (by omega) (by rw [hvl]; omega)
      clear hv2
      rcases hd73 with ⟨rfl, hr0⟩ | rfl
      · have hv3 : ∀ L, vw ((H ++ [HO.box 77 [.int .i64 p1, .int .i64 p2, .int .i64 p3, .int .i64 p4, Of, Cs], .box 54 x.d.cells, .box 38 [.nils], .box 61 [.int .i64 n, c.D, c.B]]) ++ L) 1 .nils = some ((Yr (Yz c.sc n) k).map rowD) := fun L => by rw [hr0]; rfl
        have t73 : True := trivial
        have t18 : True := trivial
        obtain ⟨W, e61, hW⟩ := run41 (H := H ++ [HO.box 77 [.int .i64 p1, .int .i64 p2, .int .i64 p3, .int .i64 p4, Of, Cs], .box 54 x.d.cells, .box 38 [.nils], .box 61 [.int .i64 n, c.D, c.B]]) x hv3 (rowsL_map (Yr (Yz c.sc n) k)) (by rw [hrl]; omega)
        rw [hrl] at hW
        have hone : W.one = true := by rcases hW with rfl | ⟨rfl, _⟩ <;> rfl
        refine ⟨W, ?_, hW⟩
        have hfin := fR [HO.box 77 [.int .i64 p1, .int .i64 p2, .int .i64 p3, .int .i64 p4, Of, Cs], .box 54 x.d.cells, .box 38 [W], .box 61 [.int .i64 n, c.D, c.B]] W _ hW
        have hgR := gR W []
        clear hl hW hr e74 fW gW fR gR kpa hv3 hvl hrl hvals hcm hls hck hgd hc hm
        generalize ((Yz c.sc n).map V.d) = VL at *
        generalize ((Yr (Yz c.sc n) k).map rowD) = RL at *
        obtain ⟨ask, col, ⟨vk, vn, vs', vt⟩, xa, xb⟩ := x
        obtain ⟨cn, ys, bs, D, B⟩ := c
        simp only [N.d, V.d, DV.cells, List.append_assoc, List.cons_append, List.nil_append] at *
        subst hk
        subst hH1
        rw [Yc (X := X) _ b40 _ rfl rfl]; unfold b40
        (repeat (first | rw [Zj] | rw [Zc (by simp [go_sem, hC, k1, k2, k3, hkl, hge, hDv, hD1, hB1, e71, ZR, c7, c7', e72, e18, e73, e61, t18, t73, hone]; exact ⟨rfl, rfl⟩)] | rw [Zv (by simp [lk, Za, Od.v, hC, k1, k2, k3, hkl, hge, hDv, hD1, hB1, e71, ZR, c7, c7', e72, e18, e73, e61, t18, t73, hone]; exact rfl)] | rw [Zp] | rw [Zm] | rw [Zl] | rw [Zy] | rw [Zq] | rw [Zt] | rw [Zo] | rw [Zn] | rw [Zk] | rw [Zg] | rw [Zh] | rw [Zd (by decide)] | rw [Zi] | rw [Ze] | rw [Zf] | rw [Zb (by decide)] | rw [Zz] | rw [Zu (by simp [go_sem, hC, k1, k2, k3, hkl, hge, hDv, hD1, hB1, e71, ZR, c7, c7', e72, e18, e73, e61, t18, t73, hone]; exact ⟨rfl, rfl⟩)] | rw [Zw (by simp [lk, Za, Od.v, hC, k1, k2, k3, hkl, hge, hDv, hD1, hB1, e71, ZR, c7, c7', e72, e18, e73, e61, t18, t73, hone]; exact rfl)] | rw [Zx]))
        simp only [Zr, ZY, lk, Za, List.map_cons, List.map_nil, reduceIte, Option.map_some, Nat.reduceEqDiff]
        rw [ZA, hgR]
        exact congrArg some hfin
      · have hv3 : ∀ L, vw ((H ++ [HO.box 77 [.int .i64 p1, .int .i64 p2, .int .i64 p3, .int .i64 p4, Of, Cs], .box 54 x.d.cells, .box 38 [.nils], .box 61 [.int .i64 n, c.D, c.B], .row 45 1 0 ((Yr (Yz c.sc n) k).map rowD)]) ++ L) 1 (.row (H.length + 4) 0 0 ((Yr (Yz c.sc n) k).map rowD).length false) = some ((Yr (Yz c.sc n) k).map rowD) := fun L => by
          rw [List.append_assoc]; simp [vw, hget, List.take_of_length_le]
        have t73 := kpa (H ++ [HO.box 77 [.int .i64 p1, .int .i64 p2, .int .i64 p3, .int .i64 p4, Of, Cs], .box 54 x.d.cells, .box 38 [.nils], .box 61 [.int .i64 n, c.D, c.B]]) [.row 45 1 0 ((Yr (Yz c.sc n) k).map rowD)] (.row (H.length + 4) 0 0 ((Yr (Yz c.sc n) k).map rowD).length false)
        have t18 : True := trivial
        obtain ⟨W, e61, hW⟩ := run41 (H := H ++ [HO.box 77 [.int .i64 p1, .int .i64 p2, .int .i64 p3, .int .i64 p4, Of, Cs], .box 54 x.d.cells, .box 38 [.nils], .box 61 [.int .i64 n, c.D, c.B], .row 45 1 0 ((Yr (Yz c.sc n) k).map rowD)]) x hv3 (rowsL_map (Yr (Yz c.sc n) k)) (by rw [hrl]; omega)
        rw [hrl] at hW
        have hone : W.one = true := by rcases hW with rfl | ⟨rfl, _⟩ <;> rfl
        refine ⟨W, ?_, hW⟩
        have hfin := fR [HO.box 77 [.int .i64 p1, .int .i64 p2, .int .i64 p3, .int .i64 p4, Of, Cs], .box 54 x.d.cells, .box 38 [W], .box 61 [.int .i64 n, c.D, c.B], .row 45 1 0 ((Yr (Yz c.sc n) k).map rowD)] W _ hW
        have hgR := gR W [.row 45 1 0 ((Yr (Yz c.sc n) k).map rowD)]
        clear hl hW hr e74 fW gW fR gR kpa hv3 hvl hrl hvals hcm hls hck hgd hc hm
        generalize ((Yz c.sc n).map V.d) = VL at *
        generalize ((Yr (Yz c.sc n) k).map rowD) = RL at *
        obtain ⟨ask, col, ⟨vk, vn, vs', vt⟩, xa, xb⟩ := x
        obtain ⟨cn, ys, bs, D, B⟩ := c
        simp only [N.d, V.d, DV.cells, List.append_assoc, List.cons_append, List.nil_append] at *
        subst hk
        subst hH1
        rw [Yc (X := X) _ b40 _ rfl rfl]; unfold b40
        (repeat (first | rw [Zj] | rw [Zc (by simp [go_sem, hC, k1, k2, k3, hkl, hge, hDv, hD1, hB1, e71, ZR, c7, c7', e72, e18, e73, e61, t18, t73, hone]; exact ⟨rfl, rfl⟩)] | rw [Zv (by simp [lk, Za, Od.v, hC, k1, k2, k3, hkl, hge, hDv, hD1, hB1, e71, ZR, c7, c7', e72, e18, e73, e61, t18, t73, hone]; exact rfl)] | rw [Zp] | rw [Zm] | rw [Zl] | rw [Zy] | rw [Zq] | rw [Zt] | rw [Zo] | rw [Zn] | rw [Zk] | rw [Zg] | rw [Zh] | rw [Zd (by decide)] | rw [Zi] | rw [Ze] | rw [Zf] | rw [Zb (by decide)] | rw [Zz] | rw [Zu (by simp [go_sem, hC, k1, k2, k3, hkl, hge, hDv, hD1, hB1, e71, ZR, c7, c7', e72, e18, e73, e61, t18, t73, hone]; exact ⟨rfl, rfl⟩)] | rw [Zw (by simp [lk, Za, Od.v, hC, k1, k2, k3, hkl, hge, hDv, hD1, hB1, e71, ZR, c7, c7', e72, e18, e73, e61, t18, t73, hone]; exact rfl)] | rw [Zx]))
        simp only [Zr, ZY, lk, Za, List.map_cons, List.map_nil, reduceIte, Option.map_some, Nat.reduceEqDiff]
        rw [ZA, hgR]
        exact congrArg some hfin
    · have hv2 : vw (H ++ [HO.box 77 [.int .i64 p1, .int .i64 p2, .int .i64 p3, .int .i64 p4, Of, Cs], .box 54 x.d.cells, .box 38 [.nils], .box 61 [.int .i64 n, c.D, c.B], .row 51 4 0 ((Yz c.sc n).map V.d)]) 4 (.row (H.length + 4) 0 0 ((Yz c.sc n).map V.d).length false) = some ((Yz c.sc n).map V.d) := by simp [vw, hget, List.take_of_length_le]
      obtain ⟨d73, e73, hd73⟩ := run73 (H := H ++ [HO.box 77 [.int .i64 p1, .int .i64 p2, .int .i64 p3, .int .i64 p4, Of, Cs], .box 54 x.d.cells, .box 38 [.nils], .box 61 [.int .i64 n, c.D, c.B], .row 51 4 0 ((Yz c.sc n).map V.d)]) (k := k) hv2 (by omega) (by rw [hvl]; omega)
      clear hv2
      rcases hd73 with ⟨rfl, hr0⟩ | rfl
      · have hv3 : ∀ L, vw ((H ++ [HO.box 77 [.int .i64 p1, .int .i64 p2, .int .i64 p3, .int .i64 p4, Of, Cs], .box 54 x.d.cells, .box 38 [.nils], .box 61 [.int .i64 n, c.D, c.B], .row 51 4 0 ((Yz c.sc n).map V.d)]) ++ L) 1 .nils = some ((Yr (Yz c.sc n) k).map rowD) := fun L => by rw [hr0]; rfl
        have t73 : True := trivial
        have t18 := kpa (H ++ [HO.box 77 [.int .i64 p1, .int .i64 p2, .int .i64 p3, .int .i64 p4, Of, Cs], .box 54 x.d.cells, .box 38 [.nils], .box 61 [.int .i64 n, c.D, c.B]]) [.row 51 4 0 ((Yz c.sc n).map V.d)] (.row (H.length + 4) 0 0 ((Yz c.sc n).map V.d).length false)
        obtain ⟨W, e61, hW⟩ := run41 (H := H ++ [HO.box 77 [.int .i64 p1, .int .i64 p2, .int .i64 p3, .int .i64 p4, Of, Cs], .box 54 x.d.cells, .box 38 [.nils], .box 61 [.int .i64 n, c.D, c.B], .row 51 4 0 ((Yz c.sc n).map V.d)]) x hv3 (rowsL_map (Yr (Yz c.sc n) k)) (by rw [hrl]; omega)
        rw [hrl] at hW
        have hone : W.one = true := by rcases hW with rfl | ⟨rfl, _⟩ <;> rfl
        refine ⟨W, ?_, hW⟩
        have hfin := fR [HO.box 77 [.int .i64 p1, .int .i64 p2, .int .i64 p3, .int .i64 p4, Of, Cs], .box 54 x.d.cells, .box 38 [W], .box 61 [.int .i64 n, c.D, c.B], .row 51 4 0 ((Yz c.sc n).map V.d)] W _ hW
        have hgR := gR W [.row 51 4 0 ((Yz c.sc n).map V.d)]
        clear hl hW hr e74 fW gW fR gR kpa hv3 hvl hrl hvals hcm hls hck hgd hc hm
        generalize ((Yz c.sc n).map V.d) = VL at *
        generalize ((Yr (Yz c.sc n) k).map rowD) = RL at *
        obtain ⟨ask, col, ⟨vk, vn, vs', vt⟩, xa, xb⟩ := x
        obtain ⟨cn, ys, bs, D, B⟩ := c
        simp only [N.d, V.d, DV.cells, List.append_assoc, List.cons_append, List.nil_append] at *
        subst hk
        subst hH1
        rw [Yc (X := X) _ b40 _ rfl rfl]; unfold b40
        (repeat (first | rw [Zj] | rw [Zc (by simp [go_sem, hC, k1, k2, k3, hkl, hge, hDv, hD1, hB1, e71, ZR, c7, c7', e72, e18, e73, e61, t18, t73, hone]; exact ⟨rfl, rfl⟩)] | rw [Zv (by simp [lk, Za, Od.v, hC, k1, k2, k3, hkl, hge, hDv, hD1, hB1, e71, ZR, c7, c7', e72, e18, e73, e61, t18, t73, hone]; exact rfl)] | rw [Zp] | rw [Zm] | rw [Zl] | rw [Zy] | rw [Zq] | rw [Zt] | rw [Zo] | rw [Zn] | rw [Zk] | rw [Zg] | rw [Zh] | rw [Zd (by decide)] | rw [Zi] | rw [Ze] | rw [Zf] | rw [Zb (by decide)] | rw [Zz] | rw [Zu (by simp [go_sem, hC, k1, k2, k3, hkl, hge, hDv, hD1, hB1, e71, ZR, c7, c7', e72, e18, e73, e61, t18, t73, hone]; exact ⟨rfl, rfl⟩)] | rw [Zw (by simp [lk, Za, Od.v, hC, k1, k2, k3, hkl, hge, hDv, hD1, hB1, e71, ZR, c7, c7', e72, e18, e73, e61, t18, t73, hone]; exact rfl)] | rw [Zx]))
        simp only [Zr, ZY, lk, Za, List.map_cons, List.map_nil, reduceIte, Option.map_some, Nat.reduceEqDiff]
        rw [ZA, hgR]
        exact congrArg some hfin
      · have hv3 : ∀ L, vw ((H ++ [HO.box 77 [.int .i64 p1, .int .i64 p2, .int .i64 p3, .int .i64 p4, Of, Cs], .box 54 x.d.cells, .box 38 [.nils], .box 61 [.int .i64 n, c.D, c.B], .row 51 4 0 ((Yz c.sc n).map V.d), .row 45 1 0 ((Yr (Yz c.sc n) k).map rowD)]) ++ L) 1 (.row (H.length + 5) 0 0 ((Yr (Yz c.sc n) k).map rowD).length false) = some ((Yr (Yz c.sc n) k).map rowD) := fun L => by
          rw [List.append_assoc]; simp [vw, hget, List.take_of_length_le]
        have t73 := kpa (H ++ [HO.box 77 [.int .i64 p1, .int .i64 p2, .int .i64 p3, .int .i64 p4, Of, Cs], .box 54 x.d.cells, .box 38 [.nils], .box 61 [.int .i64 n, c.D, c.B], .row 51 4 0 ((Yz c.sc n).map V.d)]) [.row 45 1 0 ((Yr (Yz c.sc n) k).map rowD)] (.row (H.length + 5) 0 0 ((Yr (Yz c.sc n) k).map rowD).length false)
        have t18 := kpa (H ++ [HO.box 77 [.int .i64 p1, .int .i64 p2, .int .i64 p3, .int .i64 p4, Of, Cs], .box 54 x.d.cells, .box 38 [.nils], .box 61 [.int .i64 n, c.D, c.B]]) [.row 51 4 0 ((Yz c.sc n).map V.d)] (.row (H.length + 4) 0 0 ((Yz c.sc n).map V.d).length false)
        obtain ⟨W, e61, hW⟩ := run41 (H := H ++ [HO.box 77 [.int .i64 p1, .int .i64 p2, .int .i64 p3, .int .i64 p4, Of, Cs], .box 54 x.d.cells, .box 38 [.nils], .box 61 [.int .i64 n, c.D, c.B], .row 51 4 0 ((Yz c.sc n).map V.d), .row 45 1 0 ((Yr (Yz c.sc n) k).map rowD)]) x hv3 (rowsL_map (Yr (Yz c.sc n) k)) (by rw [hrl]; omega)
        rw [hrl] at hW
        have hone : W.one = true := by rcases hW with rfl | ⟨rfl, _⟩ <;> rfl
        refine ⟨W, ?_, hW⟩
        have hfin := fR [HO.box 77 [.int .i64 p1, .int .i64 p2, .int .i64 p3, .int .i64 p4, Of, Cs], .box 54 x.d.cells, .box 38 [W], .box 61 [.int .i64 n, c.D, c.B], .row 51 4 0 ((Yz c.sc n).map V.d), .row 45 1 0 ((Yr (Yz c.sc n) k).map rowD)] W _ hW
        have hgR := gR W [.row 51 4 0 ((Yz c.sc n).map V.d), .row 45 1 0 ((Yr (Yz c.sc n) k).map rowD)]
        clear hl hW hr e74 fW gW fR gR kpa hv3 hvl hrl hvals hcm hls hck hgd hc hm
        generalize ((Yz c.sc n).map V.d) = VL at *
        generalize ((Yr (Yz c.sc n) k).map rowD) = RL at *
        obtain ⟨ask, col, ⟨vk, vn, vs', vt⟩, xa, xb⟩ := x
        obtain ⟨cn, ys, bs, D, B⟩ := c
        simp only [N.d, V.d, DV.cells, List.append_assoc, List.cons_append, List.nil_append] at *
        subst hk
        subst hH1
        rw [Yc (X := X) _ b40 _ rfl rfl]; unfold b40
        (repeat (first | rw [Zj] | rw [Zc (by simp [go_sem, hC, k1, k2, k3, hkl, hge, hDv, hD1, hB1, e71, ZR, c7, c7', e72, e18, e73, e61, t18, t73, hone]; exact ⟨rfl, rfl⟩)] | rw [Zv (by simp [lk, Za, Od.v, hC, k1, k2, k3, hkl, hge, hDv, hD1, hB1, e71, ZR, c7, c7', e72, e18, e73, e61, t18, t73, hone]; exact rfl)] | rw [Zp] | rw [Zm] | rw [Zl] | rw [Zy] | rw [Zq] | rw [Zt] | rw [Zo] | rw [Zn] | rw [Zk] | rw [Zg] | rw [Zh] | rw [Zd (by decide)] | rw [Zi] | rw [Ze] | rw [Zf] | rw [Zb (by decide)] | rw [Zz] | rw [Zu (by simp [go_sem, hC, k1, k2, k3, hkl, hge, hDv, hD1, hB1, e71, ZR, c7, c7', e72, e18, e73, e61, t18, t73, hone]; exact ⟨rfl, rfl⟩)] | rw [Zw (by simp [lk, Za, Od.v, hC, k1, k2, k3, hkl, hge, hDv, hD1, hB1, e71, ZR, c7, c7', e72, e18, e73, e61, t18, t73, hone]; exact rfl)] | rw [Zx]))
        simp only [Zr, ZY, lk, Za, List.map_cons, List.map_nil, reduceIte, Option.map_some, Nat.reduceEqDiff]
        rw [ZA, hgR]
        exact congrArg some hfin
  rw [cm] at e72 e74
  have hlc : leafC c.sc n x = askS c.sc n x := by unfold leafC; rw [if_neg c7, if_neg (by rw [cm]; simp)]
  rw [hlc]
  have hpl : place c.ys x.val ≤ 200 := Nat.le_trans (place_le _ _) hcm.ok.yl
  have hfl : Yf c.ys ≤ 1 := by
    unfold Yf
    split
    · omega
    · split <;> omega
  have hb : (behD c.ys x.val : Int) = if found c.ys x.val = true then (place c.ys x.val : Int) + 1 else (place c.ys x.val : Int) := by
    unfold behD; split <;> simp
  have z1 : IntKind.i64.wrap ((place c.ys x.val : Int) + 1) = (place c.ys x.val : Int) + 1 := wrap64 _ (by omega) (by omega)
  have hbl : behD c.ys x.val ≤ 201 := by unfold behD; split <;> omega
  have zb : IntKind.i64.wrap (behD c.ys x.val : Int) = (behD c.ys x.val : Int) := wrap64 _ (by omega) (by omega)
  have m1 := mm_max (place c.ys x.val) (Yf c.ys)
  have m2 := mm_max (behD c.ys x.val) (Yf c.ys)
  simp only [if_true, Bool.true_and, and_self] at e74
  have hbp : (found c.ys x.val = true ∧ (place c.ys x.val : Int) + 1 = (behD c.ys x.val : Int)) ∨ (found c.ys x.val = false ∧ behD c.ys x.val = place c.ys x.val) := by
    cases hf : found c.ys x.val
    · exact .inr ⟨rfl, by unfold behD; rw [hf]; simp⟩
    · exact .inl ⟨rfl, by unfold behD; rw [hf]; simp⟩
  clear hb hd18 e18 hvals
  by_cases c1 : x.ask = 1
  · have hl : askS c.sc n x = rngW c.sc n (max (place c.ys x.val) (Yf c.ys)) (max (behD c.ys x.val) (Yf c.ys)) := by unfold askS; rw [if_pos c1]; rfl
    rw [hl]
    obtain ⟨W, e20, hW, hone⟩ := run71s hcm (max (place c.ys x.val) (Yf c.ys)) (max (behD c.ys x.val) (Yf c.ys)) H1
    refine ⟨W, ?_, hW⟩
    have hfin := fW _ _ hW
    clear hl hW fW hlc
    generalize hA' : max (place c.ys x.val) (Yf c.ys) = A at *
    generalize hB' : max (behD c.ys x.val) (Yf c.ys) = Bq at *
    rcases hbp with ⟨hf, hb⟩ | ⟨hf, hb⟩
    · rw [hf] at e74
      clear hm hcm hls hck hgd hc
      obtain ⟨ask, col, ⟨vk, vn, vs', vt⟩, xa, xb⟩ := x
      obtain ⟨cn, ys, bs, D, B⟩ := c
      simp only [N.d, V.d, DV.cells] at *
      subst hk
      subst c1
      subst hH1
      rw [Yc (X := X) _ b40 _ rfl rfl]; unfold b40
      (repeat (first | rw [Zj] | rw [Zc (by simp [go_sem, hC, k1, k2, k3, hkl, hge, hDv, hD1, hB1, e71, ZR, c7, c7', e72, e74, z1, zb, hb, m1, m2, e20, hone]; exact ⟨rfl, rfl⟩)] | rw [Zv (by simp [lk, Za, Od.v, hC, k1, k2, k3, hkl, hge, hDv, hD1, hB1, e71, ZR, c7, c7', e72, e74, z1, zb, hb, m1, m2, e20, hone]; exact rfl)] | rw [Zp] | rw [Zm] | rw [Zl] | rw [Zy] | rw [Zq] | rw [Zt] | rw [Zo] | rw [Zn] | rw [Zk] | rw [Zg] | rw [Zh] | rw [Zd (by decide)] | rw [Zi] | rw [Ze] | rw [Zf] | rw [Zb (by decide)] | rw [Zz] | rw [Zu (by simp [go_sem, hC, k1, k2, k3, hkl, hge, hDv, hD1, hB1, e71, ZR, c7, c7', e72, e74, z1, zb, hb, m1, m2, e20, hone]; exact ⟨rfl, rfl⟩)] | rw [Zw (by simp [lk, Za, Od.v, hC, k1, k2, k3, hkl, hge, hDv, hD1, hB1, e71, ZR, c7, c7', e72, e74, z1, zb, hb, m1, m2, e20, hone]; exact rfl)] | rw [Zx]))
      simp only [Zr, ZY, lk, Za, List.map_cons, List.map_nil, reduceIte, Option.map_some, Nat.reduceEqDiff]
      rw [ZA, gW]
      exact congrArg some hfin
    · rw [hf] at e74
      rw [hb] at m2 hB'
      obtain rfl : Bq = A := by rw [← hA', ← hB']
      clear hm hcm hls hck hgd hc
      obtain ⟨ask, col, ⟨vk, vn, vs', vt⟩, xa, xb⟩ := x
      obtain ⟨cn, ys, bs, D, B⟩ := c
      simp only [N.d, V.d, DV.cells] at *
      subst hk
      subst c1
      subst hH1
      rw [Yc (X := X) _ b40 _ rfl rfl]; unfold b40
      (repeat (first | rw [Zj] | rw [Zc (by simp [go_sem, hC, k1, k2, k3, hkl, hge, hDv, hD1, hB1, e71, ZR, c7, c7', e72, e74, z1, zb, hb, m1, m2, e20, hone]; exact ⟨rfl, rfl⟩)] | rw [Zv (by simp [lk, Za, Od.v, hC, k1, k2, k3, hkl, hge, hDv, hD1, hB1, e71, ZR, c7, c7', e72, e74, z1, zb, hb, m1, m2, e20, hone]; exact rfl)] | rw [Zp] | rw [Zm] | rw [Zl] | rw [Zy] | rw [Zq] | rw [Zt] | rw [Zo] | rw [Zn] | rw [Zk] | rw [Zg] | rw [Zh] | rw [Zd (by decide)] | rw [Zi] | rw [Ze] | rw [Zf] | rw [Zb (by decide)] | rw [Zz] | rw [Zu (by simp [go_sem, hC, k1, k2, k3, hkl, hge, hDv, hD1, hB1, e71, ZR, c7, c7', e72, e74, z1, zb, hb, m1, m2, e20, hone]; exact ⟨rfl, rfl⟩)] | rw [Zw (by simp [lk, Za, Od.v, hC, k1, k2, k3, hkl, hge, hDv, hD1, hB1, e71, ZR, c7, c7', e72, e74, z1, zb, hb, m1, m2, e20, hone]; exact rfl)] | rw [Zx]))
      simp only [Zr, ZY, lk, Za, List.map_cons, List.map_nil, reduceIte, Option.map_some, Nat.reduceEqDiff]
      rw [ZA, gW]
      exact congrArg some hfin
  have c1' : (x.ask == 1) = false := by simpa using c1
  by_cases c2 : x.ask = 2
  · have hl : askS c.sc n x = orW (rngW c.sc n (Yf c.ys) (max (place c.ys x.val) (Yf c.ys))) (rngW c.sc n (max (behD c.ys x.val) (Yf c.ys)) c.ys.length) := by unfold askS; rw [if_neg c1, if_pos c2]; rfl
    rw [hl]
    obtain ⟨W, e20, hW, hone⟩ := run71s hcm (Yf c.ys) (max (place c.ys x.val) (Yf c.ys)) H1
    obtain ⟨W2, e20b, hW2, hone2⟩ := run71s hcm (max (behD c.ys x.val) (Yf c.ys)) c.ys.length H1
    have e70 := run69 hW hW2 (rngW_WB _ _ _ _) (rngW_WB _ _ _ _) (by have := rngW_len c.sc (Yf c.ys) (max (place c.ys x.val) (Yf c.ys)) (n := n) (by omega); omega) (by have := rngW_len c.sc (max (behD c.ys x.val) (Yf c.ys)) c.ys.length (n := n) (by omega); omega) H1
    have hWO : WL (.list 1 ((orW (rngW c.sc n (Yf c.ys) (max (place c.ys x.val) (Yf c.ys))) (rngW c.sc n (max (behD c.ys x.val) (Yf c.ys)) c.ys.length)).map uD) false) (orW (rngW c.sc n (Yf c.ys) (max (place c.ys x.val) (Yf c.ys))) (rngW c.sc n (max (behD c.ys x.val) (Yf c.ys)) c.ys.length)) := .inl rfl
    refine ⟨_, ?_, hWO⟩
    have hfin := fW _ _ hWO
    clear hl hW hW2 hWO fW hlc
    generalize orW (rngW c.sc n (Yf c.ys) (max (place c.ys x.val) (Yf c.ys))) (rngW c.sc n (max (behD c.ys x.val) (Yf c.ys)) c.ys.length) = ow at *
    generalize hA' : max (place c.ys x.val) (Yf c.ys) = A at *
    generalize hB' : max (behD c.ys x.val) (Yf c.ys) = Bq at *
    rcases hbp with ⟨hf, hb⟩ | ⟨hf, hb⟩
    · rw [hf] at e74
      clear hm hcm hls hck hgd hc
      obtain ⟨ask, col, ⟨vk, vn, vs', vt⟩, xa, xb⟩ := x
      obtain ⟨cn, ys, bs, D, B⟩ := c
      simp only [N.d, V.d, DV.cells] at *
      subst hk
      subst c2
      subst hH1
      rw [Yc (X := X) _ b40 _ rfl rfl]; unfold b40
      (repeat (first | rw [Zj] | rw [Zc (by simp [go_sem, hC, k1, k2, k3, hkl, hge, hDv, hD1, hB1, e71, ZR, c7, c7', e72, e74, z1, zb, hb, m1, m2, c1, c1', e20, e20b, e70, hone, hone2]; exact ⟨rfl, rfl⟩)] | rw [Zv (by simp [lk, Za, Od.v, hC, k1, k2, k3, hkl, hge, hDv, hD1, hB1, e71, ZR, c7, c7', e72, e74, z1, zb, hb, m1, m2, c1, c1', e20, e20b, e70, hone, hone2]; exact rfl)] | rw [Zp] | rw [Zm] | rw [Zl] | rw [Zy] | rw [Zq] | rw [Zt] | rw [Zo] | rw [Zn] | rw [Zk] | rw [Zg] | rw [Zh] | rw [Zd (by decide)] | rw [Zi] | rw [Ze] | rw [Zf] | rw [Zb (by decide)] | rw [Zz] | rw [Zu (by simp [go_sem, hC, k1, k2, k3, hkl, hge, hDv, hD1, hB1, e71, ZR, c7, c7', e72, e74, z1, zb, hb, m1, m2, c1, c1', e20, e20b, e70, hone, hone2]; exact ⟨rfl, rfl⟩)] | rw [Zw (by simp [lk, Za, Od.v, hC, k1, k2, k3, hkl, hge, hDv, hD1, hB1, e71, ZR, c7, c7', e72, e74, z1, zb, hb, m1, m2, c1, c1', e20, e20b, e70, hone, hone2]; exact rfl)] | rw [Zx]))
      simp only [Zr, ZY, lk, Za, List.map_cons, List.map_nil, reduceIte, Option.map_some, Nat.reduceEqDiff]
      rw [ZA, gW]
      exact congrArg some hfin
    · rw [hf] at e74
      rw [hb] at m2 hB'
      obtain rfl : Bq = A := by rw [← hA', ← hB']
      clear hm hcm hls hck hgd hc
      obtain ⟨ask, col, ⟨vk, vn, vs', vt⟩, xa, xb⟩ := x
      obtain ⟨cn, ys, bs, D, B⟩ := c
      simp only [N.d, V.d, DV.cells] at *
      subst hk
      subst c2
      subst hH1
      rw [Yc (X := X) _ b40 _ rfl rfl]; unfold b40
      (repeat (first | rw [Zj] | rw [Zc (by simp [go_sem, hC, k1, k2, k3, hkl, hge, hDv, hD1, hB1, e71, ZR, c7, c7', e72, e74, z1, zb, hb, m1, m2, c1, c1', e20, e20b, e70, hone, hone2]; exact ⟨rfl, rfl⟩)] | rw [Zv (by simp [lk, Za, Od.v, hC, k1, k2, k3, hkl, hge, hDv, hD1, hB1, e71, ZR, c7, c7', e72, e74, z1, zb, hb, m1, m2, c1, c1', e20, e20b, e70, hone, hone2]; exact rfl)] | rw [Zp] | rw [Zm] | rw [Zl] | rw [Zy] | rw [Zq] | rw [Zt] | rw [Zo] | rw [Zn] | rw [Zk] | rw [Zg] | rw [Zh] | rw [Zd (by decide)] | rw [Zi] | rw [Ze] | rw [Zf] | rw [Zb (by decide)] | rw [Zz] | rw [Zu (by simp [go_sem, hC, k1, k2, k3, hkl, hge, hDv, hD1, hB1, e71, ZR, c7, c7', e72, e74, z1, zb, hb, m1, m2, c1, c1', e20, e20b, e70, hone, hone2]; exact ⟨rfl, rfl⟩)] | rw [Zw (by simp [lk, Za, Od.v, hC, k1, k2, k3, hkl, hge, hDv, hD1, hB1, e71, ZR, c7, c7', e72, e74, z1, zb, hb, m1, m2, c1, c1', e20, e20b, e70, hone, hone2]; exact rfl)] | rw [Zx]))
      simp only [Zr, ZY, lk, Za, List.map_cons, List.map_nil, reduceIte, Option.map_some, Nat.reduceEqDiff]
      rw [ZA, gW]
      exact congrArg some hfin
  have c2' : (x.ask == 2) = false := by simpa using c2
  by_cases c3 : x.ask = 3
  · have hl : askS c.sc n x = rngW c.sc n (Yf c.ys) (max (place c.ys x.val) (Yf c.ys)) := by unfold askS; rw [if_neg c1, if_neg c2, if_pos c3]; rfl
    rw [hl]
    obtain ⟨W, e20, hW, hone⟩ := run71s hcm (Yf c.ys) (max (place c.ys x.val) (Yf c.ys)) H1
    refine ⟨W, ?_, hW⟩
    have hfin := fW _ _ hW
    clear hl hW fW hlc
    generalize hA' : max (place c.ys x.val) (Yf c.ys) = A at *
    generalize hB' : max (behD c.ys x.val) (Yf c.ys) = Bq at *
    rcases hbp with ⟨hf, hb⟩ | ⟨hf, hb⟩
    · rw [hf] at e74
      clear hm hcm hls hck hgd hc
      obtain ⟨ask, col, ⟨vk, vn, vs', vt⟩, xa, xb⟩ := x
      obtain ⟨cn, ys, bs, D, B⟩ := c
      simp only [N.d, V.d, DV.cells] at *
      subst hk
      subst c3
      subst hH1
      rw [Yc (X := X) _ b40 _ rfl rfl]; unfold b40
      (repeat (first | rw [Zj] | rw [Zc (by simp [go_sem, hC, k1, k2, k3, hkl, hge, hDv, hD1, hB1, e71, ZR, c7, c7', e72, e74, z1, zb, hb, m1, m2, c1, c1', c2, c2', e20, hone]; exact ⟨rfl, rfl⟩)] | rw [Zv (by simp [lk, Za, Od.v, hC, k1, k2, k3, hkl, hge, hDv, hD1, hB1, e71, ZR, c7, c7', e72, e74, z1, zb, hb, m1, m2, c1, c1', c2, c2', e20, hone]; exact rfl)] | rw [Zp] | rw [Zm] | rw [Zl] | rw [Zy] | rw [Zq] | rw [Zt] | rw [Zo] | rw [Zn] | rw [Zk] | rw [Zg] | rw [Zh] | rw [Zd (by decide)] | rw [Zi] | rw [Ze] | rw [Zf] | rw [Zb (by decide)] | rw [Zz] | rw [Zu (by simp [go_sem, hC, k1, k2, k3, hkl, hge, hDv, hD1, hB1, e71, ZR, c7, c7', e72, e74, z1, zb, hb, m1, m2, c1, c1', c2, c2', e20, hone]; exact ⟨rfl, rfl⟩)] | rw [Zw (by simp [lk, Za, Od.v, hC, k1, k2, k3, hkl, hge, hDv, hD1, hB1, e71, ZR, c7, c7', e72, e74, z1, zb, hb, m1, m2, c1, c1', c2, c2', e20, hone]; exact rfl)] | rw [Zx]))
      simp only [Zr, ZY, lk, Za, List.map_cons, List.map_nil, reduceIte, Option.map_some, Nat.reduceEqDiff]
      rw [ZA, gW]
      exact congrArg some hfin
    · rw [hf] at e74
      rw [hb] at m2 hB'
      obtain rfl : Bq = A := by rw [← hA', ← hB']
      clear hm hcm hls hck hgd hc
      obtain ⟨ask, col, ⟨vk, vn, vs', vt⟩, xa, xb⟩ := x
      obtain ⟨cn, ys, bs, D, B⟩ := c
      simp only [N.d, V.d, DV.cells] at *
      subst hk
      subst c3
      subst hH1
      rw [Yc (X := X) _ b40 _ rfl rfl]; unfold b40
      (repeat (first | rw [Zj] | rw [Zc (by simp [go_sem, hC, k1, k2, k3, hkl, hge, hDv, hD1, hB1, e71, ZR, c7, c7', e72, e74, z1, zb, hb, m1, m2, c1, c1', c2, c2', e20, hone]; exact ⟨rfl, rfl⟩)] | rw [Zv (by simp [lk, Za, Od.v, hC, k1, k2, k3, hkl, hge, hDv, hD1, hB1, e71, ZR, c7, c7', e72, e74, z1, zb, hb, m1, m2, c1, c1', c2, c2', e20, hone]; exact rfl)] | rw [Zp] | rw [Zm] | rw [Zl] | rw [Zy] | rw [Zq] | rw [Zt] | rw [Zo] | rw [Zn] | rw [Zk] | rw [Zg] | rw [Zh] | rw [Zd (by decide)] | rw [Zi] | rw [Ze] | rw [Zf] | rw [Zb (by decide)] | rw [Zz] | rw [Zu (by simp [go_sem, hC, k1, k2, k3, hkl, hge, hDv, hD1, hB1, e71, ZR, c7, c7', e72, e74, z1, zb, hb, m1, m2, c1, c1', c2, c2', e20, hone]; exact ⟨rfl, rfl⟩)] | rw [Zw (by simp [lk, Za, Od.v, hC, k1, k2, k3, hkl, hge, hDv, hD1, hB1, e71, ZR, c7, c7', e72, e74, z1, zb, hb, m1, m2, c1, c1', c2, c2', e20, hone]; exact rfl)] | rw [Zx]))
      simp only [Zr, ZY, lk, Za, List.map_cons, List.map_nil, reduceIte, Option.map_some, Nat.reduceEqDiff]
      rw [ZA, gW]
      exact congrArg some hfin
  have c3' : (x.ask == 3) = false := by simpa using c3
  by_cases c4 : x.ask = 4
  · have hl : askS c.sc n x = rngW c.sc n (Yf c.ys) (max (behD c.ys x.val) (Yf c.ys)) := by unfold askS; rw [if_neg c1, if_neg c2, if_neg c3, if_pos c4]; rfl
    rw [hl]
    obtain ⟨W, e20, hW, hone⟩ := run71s hcm (Yf c.ys) (max (behD c.ys x.val) (Yf c.ys)) H1
    refine ⟨W, ?_, hW⟩
    have hfin := fW _ _ hW
    clear hl hW fW hlc
    generalize hA' : max (place c.ys x.val) (Yf c.ys) = A at *
    generalize hB' : max (behD c.ys x.val) (Yf c.ys) = Bq at *
    rcases hbp with ⟨hf, hb⟩ | ⟨hf, hb⟩
    · rw [hf] at e74
      clear hm hcm hls hck hgd hc
      obtain ⟨ask, col, ⟨vk, vn, vs', vt⟩, xa, xb⟩ := x
      obtain ⟨cn, ys, bs, D, B⟩ := c
      simp only [N.d, V.d, DV.cells] at *
      subst hk
      subst c4
      subst hH1
      rw [Yc (X := X) _ b40 _ rfl rfl]; unfold b40
      (repeat (first | rw [Zj] | rw [Zc (by simp [go_sem, hC, k1, k2, k3, hkl, hge, hDv, hD1, hB1, e71, ZR, c7, c7', e72, e74, z1, zb, hb, m1, m2, c1, c1', c2, c2', c3, c3', e20, hone]; exact ⟨rfl, rfl⟩)] | rw [Zv (by simp [lk, Za, Od.v, hC, k1, k2, k3, hkl, hge, hDv, hD1, hB1, e71, ZR, c7, c7', e72, e74, z1, zb, hb, m1, m2, c1, c1', c2, c2', c3, c3', e20, hone]; exact rfl)] | rw [Zp] | rw [Zm] | rw [Zl] | rw [Zy] | rw [Zq] | rw [Zt] | rw [Zo] | rw [Zn] | rw [Zk] | rw [Zg] | rw [Zh] | rw [Zd (by decide)] | rw [Zi] | rw [Ze] | rw [Zf] | rw [Zb (by decide)] | rw [Zz] | rw [Zu (by simp [go_sem, hC, k1, k2, k3, hkl, hge, hDv, hD1, hB1, e71, ZR, c7, c7', e72, e74, z1, zb, hb, m1, m2, c1, c1', c2, c2', c3, c3', e20, hone]; exact ⟨rfl, rfl⟩)] | rw [Zw (by simp [lk, Za, Od.v, hC, k1, k2, k3, hkl, hge, hDv, hD1, hB1, e71, ZR, c7, c7', e72, e74, z1, zb, hb, m1, m2, c1, c1', c2, c2', c3, c3', e20, hone]; exact rfl)] | rw [Zx]))
      simp only [Zr, ZY, lk, Za, List.map_cons, List.map_nil, reduceIte, Option.map_some, Nat.reduceEqDiff]
      rw [ZA, gW]
      exact congrArg some hfin
    · rw [hf] at e74
      rw [hb] at m2 hB'
      obtain rfl : Bq = A := by rw [← hA', ← hB']
      clear hm hcm hls hck hgd hc
      obtain ⟨ask, col, ⟨vk, vn, vs', vt⟩, xa, xb⟩ := x
      obtain ⟨cn, ys, bs, D, B⟩ := c
      simp only [N.d, V.d, DV.cells] at *
      subst hk
      subst c4
      subst hH1
      rw [Yc (X := X) _ b40 _ rfl rfl]; unfold b40
      (repeat (first | rw [Zj] | rw [Zc (by simp [go_sem, hC, k1, k2, k3, hkl, hge, hDv, hD1, hB1, e71, ZR, c7, c7', e72, e74, z1, zb, hb, m1, m2, c1, c1', c2, c2', c3, c3', e20, hone]; exact ⟨rfl, rfl⟩)] | rw [Zv (by simp [lk, Za, Od.v, hC, k1, k2, k3, hkl, hge, hDv, hD1, hB1, e71, ZR, c7, c7', e72, e74, z1, zb, hb, m1, m2, c1, c1', c2, c2', c3, c3', e20, hone]; exact rfl)] | rw [Zp] | rw [Zm] | rw [Zl] | rw [Zy] | rw [Zq] | rw [Zt] | rw [Zo] | rw [Zn] | rw [Zk] | rw [Zg] | rw [Zh] | rw [Zd (by decide)] | rw [Zi] | rw [Ze] | rw [Zf] | rw [Zb (by decide)] | rw [Zz] | rw [Zu (by simp [go_sem, hC, k1, k2, k3, hkl, hge, hDv, hD1, hB1, e71, ZR, c7, c7', e72, e74, z1, zb, hb, m1, m2, c1, c1', c2, c2', c3, c3', e20, hone]; exact ⟨rfl, rfl⟩)] | rw [Zw (by simp [lk, Za, Od.v, hC, k1, k2, k3, hkl, hge, hDv, hD1, hB1, e71, ZR, c7, c7', e72, e74, z1, zb, hb, m1, m2, c1, c1', c2, c2', c3, c3', e20, hone]; exact rfl)] | rw [Zx]))
      simp only [Zr, ZY, lk, Za, List.map_cons, List.map_nil, reduceIte, Option.map_some, Nat.reduceEqDiff]
      rw [ZA, gW]
      exact congrArg some hfin
  have c4' : (x.ask == 4) = false := by simpa using c4
  by_cases c5 : x.ask = 5
  · have hl : askS c.sc n x = rngW c.sc n (max (behD c.ys x.val) (Yf c.ys)) c.ys.length := by unfold askS; rw [if_neg c1, if_neg c2, if_neg c3, if_neg c4, if_pos c5]; rfl
    rw [hl]
    obtain ⟨W, e20, hW, hone⟩ := run71s hcm (max (behD c.ys x.val) (Yf c.ys)) c.ys.length H1
    refine ⟨W, ?_, hW⟩
    have hfin := fW _ _ hW
    clear hl hW fW hlc
    generalize hA' : max (place c.ys x.val) (Yf c.ys) = A at *
    generalize hB' : max (behD c.ys x.val) (Yf c.ys) = Bq at *
    rcases hbp with ⟨hf, hb⟩ | ⟨hf, hb⟩
    · rw [hf] at e74
      clear hm hcm hls hck hgd hc
      obtain ⟨ask, col, ⟨vk, vn, vs', vt⟩, xa, xb⟩ := x
      obtain ⟨cn, ys, bs, D, B⟩ := c
      simp only [N.d, V.d, DV.cells] at *
      subst hk
      subst c5
      subst hH1
      rw [Yc (X := X) _ b40 _ rfl rfl]; unfold b40
      (repeat (first | rw [Zj] | rw [Zc (by simp [go_sem, hC, k1, k2, k3, hkl, hge, hDv, hD1, hB1, e71, ZR, c7, c7', e72, e74, z1, zb, hb, m1, m2, c1, c1', c2, c2', c3, c3', c4, c4', e20, hone]; exact ⟨rfl, rfl⟩)] | rw [Zv (by simp [lk, Za, Od.v, hC, k1, k2, k3, hkl, hge, hDv, hD1, hB1, e71, ZR, c7, c7', e72, e74, z1, zb, hb, m1, m2, c1, c1', c2, c2', c3, c3', c4, c4', e20, hone]; exact rfl)] | rw [Zp] | rw [Zm] | rw [Zl] | rw [Zy] | rw [Zq] | rw [Zt] | rw [Zo] | rw [Zn] | rw [Zk] | rw [Zg] | rw [Zh] | rw [Zd (by decide)] | rw [Zi] | rw [Ze] | rw [Zf] | rw [Zb (by decide)] | rw [Zz] | rw [Zu (by simp [go_sem, hC, k1, k2, k3, hkl, hge, hDv, hD1, hB1, e71, ZR, c7, c7', e72, e74, z1, zb, hb, m1, m2, c1, c1', c2, c2', c3, c3', c4, c4', e20, hone]; exact ⟨rfl, rfl⟩)] | rw [Zw (by simp [lk, Za, Od.v, hC, k1, k2, k3, hkl, hge, hDv, hD1, hB1, e71, ZR, c7, c7', e72, e74, z1, zb, hb, m1, m2, c1, c1', c2, c2', c3, c3', c4, c4', e20, hone]; exact rfl)] | rw [Zx]))
      simp only [Zr, ZY, lk, Za, List.map_cons, List.map_nil, reduceIte, Option.map_some, Nat.reduceEqDiff]
      rw [ZA, gW]
      exact congrArg some hfin
    · rw [hf] at e74
      rw [hb] at m2 hB'
      obtain rfl : Bq = A := by rw [← hA', ← hB']
      clear hm hcm hls hck hgd hc
      obtain ⟨ask, col, ⟨vk, vn, vs', vt⟩, xa, xb⟩ := x
      obtain ⟨cn, ys, bs, D, B⟩ := c
      simp only [N.d, V.d, DV.cells] at *
      subst hk
      subst c5
      subst hH1
      rw [Yc (X := X) _ b40 _ rfl rfl]; unfold b40
      (repeat (first | rw [Zj] | rw [Zc (by simp [go_sem, hC, k1, k2, k3, hkl, hge, hDv, hD1, hB1, e71, ZR, c7, c7', e72, e74, z1, zb, hb, m1, m2, c1, c1', c2, c2', c3, c3', c4, c4', e20, hone]; exact ⟨rfl, rfl⟩)] | rw [Zv (by simp [lk, Za, Od.v, hC, k1, k2, k3, hkl, hge, hDv, hD1, hB1, e71, ZR, c7, c7', e72, e74, z1, zb, hb, m1, m2, c1, c1', c2, c2', c3, c3', c4, c4', e20, hone]; exact rfl)] | rw [Zp] | rw [Zm] | rw [Zl] | rw [Zy] | rw [Zq] | rw [Zt] | rw [Zo] | rw [Zn] | rw [Zk] | rw [Zg] | rw [Zh] | rw [Zd (by decide)] | rw [Zi] | rw [Ze] | rw [Zf] | rw [Zb (by decide)] | rw [Zz] | rw [Zu (by simp [go_sem, hC, k1, k2, k3, hkl, hge, hDv, hD1, hB1, e71, ZR, c7, c7', e72, e74, z1, zb, hb, m1, m2, c1, c1', c2, c2', c3, c3', c4, c4', e20, hone]; exact ⟨rfl, rfl⟩)] | rw [Zw (by simp [lk, Za, Od.v, hC, k1, k2, k3, hkl, hge, hDv, hD1, hB1, e71, ZR, c7, c7', e72, e74, z1, zb, hb, m1, m2, c1, c1', c2, c2', c3, c3', c4, c4', e20, hone]; exact rfl)] | rw [Zx]))
      simp only [Zr, ZY, lk, Za, List.map_cons, List.map_nil, reduceIte, Option.map_some, Nat.reduceEqDiff]
      rw [ZA, gW]
      exact congrArg some hfin
  have c5' : (x.ask == 5) = false := by simpa using c5
  · have hl : askS c.sc n x = rngW c.sc n (max (place c.ys x.val) (Yf c.ys)) c.ys.length := by unfold askS; rw [if_neg c1, if_neg c2, if_neg c3, if_neg c4, if_neg c5]; rfl
    rw [hl]
    obtain ⟨W, e20, hW, hone⟩ := run71s hcm (max (place c.ys x.val) (Yf c.ys)) c.ys.length H1
    refine ⟨W, ?_, hW⟩
    have hfin := fW _ _ hW
    clear hl hW fW hlc
    generalize hA' : max (place c.ys x.val) (Yf c.ys) = A at *
    generalize hB' : max (behD c.ys x.val) (Yf c.ys) = Bq at *
    rcases hbp with ⟨hf, hb⟩ | ⟨hf, hb⟩
    · rw [hf] at e74
      clear hm hcm hls hck hgd hc
      obtain ⟨ask, col, ⟨vk, vn, vs', vt⟩, xa, xb⟩ := x
      obtain ⟨cn, ys, bs, D, B⟩ := c
      simp only [N.d, V.d, DV.cells] at *
      subst hk
      subst hH1
      rw [Yc (X := X) _ b40 _ rfl rfl]; unfold b40
      (repeat (first | rw [Zj] | rw [Zc (by simp [go_sem, hC, k1, k2, k3, hkl, hge, hDv, hD1, hB1, e71, ZR, c7, c7', e72, e74, z1, zb, hb, m1, m2, c1, c1', c2, c2', c3, c3', c4, c4', c5, c5', e20, hone]; exact ⟨rfl, rfl⟩)] | rw [Zv (by simp [lk, Za, Od.v, hC, k1, k2, k3, hkl, hge, hDv, hD1, hB1, e71, ZR, c7, c7', e72, e74, z1, zb, hb, m1, m2, c1, c1', c2, c2', c3, c3', c4, c4', c5, c5', e20, hone]; exact rfl)] | rw [Zp] | rw [Zm] | rw [Zl] | rw [Zy] | rw [Zq] | rw [Zt] | rw [Zo] | rw [Zn] | rw [Zk] | rw [Zg] | rw [Zh] | rw [Zd (by decide)] | rw [Zi] | rw [Ze] | rw [Zf] | rw [Zb (by decide)] | rw [Zz] | rw [Zu (by simp [go_sem, hC, k1, k2, k3, hkl, hge, hDv, hD1, hB1, e71, ZR, c7, c7', e72, e74, z1, zb, hb, m1, m2, c1, c1', c2, c2', c3, c3', c4, c4', c5, c5', e20, hone]; exact ⟨rfl, rfl⟩)] | rw [Zw (by simp [lk, Za, Od.v, hC, k1, k2, k3, hkl, hge, hDv, hD1, hB1, e71, ZR, c7, c7', e72, e74, z1, zb, hb, m1, m2, c1, c1', c2, c2', c3, c3', c4, c4', c5, c5', e20, hone]; exact rfl)] | rw [Zx]))
      simp only [Zr, ZY, lk, Za, List.map_cons, List.map_nil, reduceIte, Option.map_some, Nat.reduceEqDiff]
      rw [ZA, gW]
      exact congrArg some hfin
    · rw [hf] at e74
      rw [hb] at m2 hB'
      obtain rfl : Bq = A := by rw [← hA', ← hB']
      clear hm hcm hls hck hgd hc
      obtain ⟨ask, col, ⟨vk, vn, vs', vt⟩, xa, xb⟩ := x
      obtain ⟨cn, ys, bs, D, B⟩ := c
      simp only [N.d, V.d, DV.cells] at *
      subst hk
      subst hH1
      rw [Yc (X := X) _ b40 _ rfl rfl]; unfold b40
      (repeat (first | rw [Zj] | rw [Zc (by simp [go_sem, hC, k1, k2, k3, hkl, hge, hDv, hD1, hB1, e71, ZR, c7, c7', e72, e74, z1, zb, hb, m1, m2, c1, c1', c2, c2', c3, c3', c4, c4', c5, c5', e20, hone]; exact ⟨rfl, rfl⟩)] | rw [Zv (by simp [lk, Za, Od.v, hC, k1, k2, k3, hkl, hge, hDv, hD1, hB1, e71, ZR, c7, c7', e72, e74, z1, zb, hb, m1, m2, c1, c1', c2, c2', c3, c3', c4, c4', c5, c5', e20, hone]; exact rfl)] | rw [Zp] | rw [Zm] | rw [Zl] | rw [Zy] | rw [Zq] | rw [Zt] | rw [Zo] | rw [Zn] | rw [Zk] | rw [Zg] | rw [Zh] | rw [Zd (by decide)] | rw [Zi] | rw [Ze] | rw [Zf] | rw [Zb (by decide)] | rw [Zz] | rw [Zu (by simp [go_sem, hC, k1, k2, k3, hkl, hge, hDv, hD1, hB1, e71, ZR, c7, c7', e72, e74, z1, zb, hb, m1, m2, c1, c1', c2, c2', c3, c3', c4, c4', c5, c5', e20, hone]; exact ⟨rfl, rfl⟩)] | rw [Zw (by simp [lk, Za, Od.v, hC, k1, k2, k3, hkl, hge, hDv, hD1, hB1, e71, ZR, c7, c7', e72, e74, z1, zb, hb, m1, m2, c1, c1', c2, c2', c3, c3', c4, c4', c5, c5', e20, hone]; exact rfl)] | rw [Zx]))
      simp only [Zr, ZY, lk, Za, List.map_cons, List.map_nil, reduceIte, Option.map_some, Nat.reduceEqDiff]
      rw [ZA, gW]
      exact congrArg some hfin
theorem loop63 {h : ZD} {L : DV} {xs : List RC} {f : Nat} {cap : List DV} {P : RC → Bool} (hL : vw h 3 L = some (xs.map RC.d)) (hF : ∀ x, x ∈ xs → E X f (x.d :: cap) h = some (.bool (P x), h)) (hb : xs.length ≤ 1000) :
    ∀ (k i : Nat), xs.length - i ≤ k → i ≤ xs.length → ((xs.drop i).any P = true ∧ ∃ j : Nat, C X (.loop lp63_0) [(0, L), (1, .func f [] cap), (7, .int .i64 xs.length), (8, .int .i64 i)] h = some (.ret, [(4, .int .i64 j)], h)) ∨ ((xs.drop i).any P = false ∧ ∃ ex, C X (.loop lp63_0) [(0, L), (1, .func f [] cap), (7, .int .i64 xs.length), (8, .int .i64 i)] h = some (.exit 0, ex, h)) := by
  intro k
  induction k with
  | zero =>
    intro i hk hi
    obtain rfl : i = xs.length := by omega
    refine .inr ⟨by simp, ?_⟩
    rw [Yh]
    unfold lp63_0
    (repeat (first | rw [Zj] | rw [Zc (by simp [go_sem]; exact ⟨rfl, rfl⟩)] | rw [Zv (by simp [lk, Za, Od.v]; exact rfl)] | rw [Zp] | rw [Zm] | rw [Zl] | rw [Zy] | rw [Zq] | rw [Zt] | rw [Zo] | rw [Zn] | rw [Zk] | rw [Zg] | rw [Zh] | rw [Zd (by decide)] | rw [Zi] | rw [Ze] | rw [Zf] | rw [Zb (by decide)] | rw [Zz] | rw [Zu (by simp [go_sem]; exact ⟨rfl, rfl⟩)] | rw [Zw (by simp [lk, Za, Od.v]; exact rfl)] | rw [Zx]))
    rw [Yx]
    exact ⟨_, rfl⟩
  | succ k ih =>
    intro i hk hi
    by_cases c : i < xs.length
    · obtain ⟨I, hI⟩ : ∃ I, I = i + 1 := ⟨_, rfl⟩
      have z1 : IntKind.i64.wrap ((i : Int) + 1) = (I : Int) := (by rw [wrap64 _ (by omega) (by omega)]; omega)
      obtain ⟨x, hx⟩ : ∃ x, x = xs[i] := ⟨_, rfl⟩
      have hx' := hx.symm
      have hge : xs[i].d = .agg [.int .i64 x.n, x.D, x.B] := by rw [← hx]; rfl
      have e := hF x (by rw [hx]; exact List.getElem_mem c)
      have e : E X f (.agg [.int .i64 x.n, x.D, x.B] :: cap) h = some (.bool (P x), h) := e
      have hd : xs.drop i = x :: xs.drop I := by rw [List.drop_eq_getElem_cons c, ← hx, hI]
      rw [hd, List.any_cons]
      cases hp : P x
      · rw [hp] at e
        have hs : C X lp63_0 [(0, L), (1, .func f [] cap), (7, .int .i64 xs.length), (8, .int .i64 i)] h = some (.norm, [(0, L), (1, .func f [] cap), (7, .int .i64 xs.length), (8, .int .i64 I)], h) := by
          clear ih hF
          unfold lp63_0
          (repeat (first | rw [Zj] | rw [Zc (by simp [go_sem, c, z1, hL, hge, e, ZR]; exact ⟨rfl, rfl⟩)] | rw [Zv (by simp [lk, Za, Od.v, c, z1, hL, hge, e, ZR]; exact rfl)] | rw [Zp] | rw [Zm] | rw [Zl] | rw [Zy] | rw [Zq] | rw [Zt] | rw [Zo] | rw [Zn] | rw [Zk] | rw [Zg] | rw [Zh] | rw [Zd (by decide)] | rw [Zi] | rw [Ze] | rw [Zf] | rw [Zb (by decide)] | rw [Zz] | rw [Zu (by simp [go_sem, c, z1, hL, hge, e, ZR]; exact ⟨rfl, rfl⟩)] | rw [Zw (by simp [lk, Za, Od.v, c, z1, hL, hge, e, ZR]; exact rfl)] | rw [Zx]))
          simp [Za, lk]
        rw [Yh, hs, Yw, Bool.false_or]
        exact ih I (by omega) (by omega)
      · rw [hp] at e
        refine .inl ⟨rfl, i, ?_⟩
        have hs : C X lp63_0 [(0, L), (1, .func f [] cap), (7, .int .i64 xs.length), (8, .int .i64 i)] h = some (.ret, [(4, .int .i64 i)], h) := by
          clear ih hF
          unfold lp63_0
          (repeat (first | rw [Zj] | rw [Zc (by simp [go_sem, c, z1, hL, hge, e, ZR]; exact ⟨rfl, rfl⟩)] | rw [Zv (by simp [lk, Za, Od.v, c, z1, hL, hge, e, ZR]; exact rfl)] | rw [Zp] | rw [Zm] | rw [Zl] | rw [Zy] | rw [Zq] | rw [Zt] | rw [Zo] | rw [Zn] | rw [Zk] | rw [Zg] | rw [Zh] | rw [Zd (by decide)] | rw [Zi] | rw [Ze] | rw [Zf] | rw [Zb (by decide)] | rw [Zz] | rw [Zu (by simp [go_sem, c, z1, hL, hge, e, ZR]; exact ⟨rfl, rfl⟩)] | rw [Zw (by simp [lk, Za, Od.v, c, z1, hL, hge, e, ZR]; exact rfl)] | rw [Zx]))
          simp [Za, lk]
        rw [Yh, hs, lp_ret]
    · exact ih i (by omega) hi
theorem run36 {h : ZD} {L : DV} {xs : List RC} {f : Nat} {cap : List DV} {P : RC → Bool} (hL : vw h 3 L = some (xs.map RC.d)) (hF : ∀ x, x ∈ xs → E X f (x.d :: cap) h = some (.bool (P x), h)) (hb : xs.length ≤ 1000) : E X 36 [L, .func f [] cap] h = some (.bool (xs.any P), h) := by
  have l := loop63 hL hF hb xs.length 0 (by omega) (by omega)
  rw [List.drop_zero, show ((0 : Nat) : Int) = 0 from rfl] at l
  rcases l with ⟨h1, j, h2⟩ | ⟨h1, ex, h2⟩
  · have e : E X 63 [L, .func f [] cap] h = some (.int .i64 j, h) := by
      rw [Yc (X := X) _ b63 _ rfl rfl]; unfold b63
      (repeat (first | rw [Zj] | rw [Zc (by simp [go_sem, hL]; exact ⟨rfl, rfl⟩)] | rw [Zv (by simp [lk, Za, Od.v, hL]; exact rfl)] | rw [Zp] | rw [Zm] | rw [Zl] | rw [Zy] | rw [Zq] | rw [Zt] | rw [Zo] | rw [Zn] | rw [Zk] | rw [Zg] | rw [Zh] | rw [Zd (by decide)] | rw [Zi] | rw [Ze] | rw [Zf] | rw [Zb (by decide)] | rw [Zz] | rw [Zu (by simp [go_sem, hL]; exact ⟨rfl, rfl⟩)] | rw [Zw (by simp [lk, Za, Od.v, hL]; exact rfl)] | rw [Zx]))
      (try simp only [Za, List.map_cons, List.map_nil, lk, reduceIte, Nat.reduceEqDiff, Nat.zero_ne_one, Nat.one_ne_zero])
      rw [h2]
      (repeat (first | rw [Zj] | rw [Zc (by simp [go_sem]; exact ⟨rfl, rfl⟩)] | rw [Zv (by simp [lk, Za, Od.v]; exact rfl)] | rw [Zp] | rw [Zm] | rw [Zl] | rw [Zy] | rw [Zq] | rw [Zt] | rw [Zo] | rw [Zn] | rw [Zk] | rw [Zg] | rw [Zh] | rw [Zd (by decide)] | rw [Zi] | rw [Ze] | rw [Zf] | rw [Zb (by decide)] | rw [Zz] | rw [Zu (by simp [go_sem]; exact ⟨rfl, rfl⟩)] | rw [Zw (by simp [lk, Za, Od.v]; exact rfl)] | rw [Zx]))
      simp [Zr, Zs, ZY, go_sem, fin, Yu, Yt, YA, Yy, YC]
    have hj : (0 : Int) ≤ (j : Int) := by omega
    rw [h1]
    rw [Yc (X := X) _ b36 _ rfl rfl]; unfold b36; (repeat (first | rw [Zj] | rw [Zc (by simp [go_sem, e, hj]; exact ⟨rfl, rfl⟩)] | rw [Zv (by simp [lk, Za, Od.v, e, hj]; exact rfl)] | rw [Zp] | rw [Zm] | rw [Zl] | rw [Zy] | rw [Zq] | rw [Zt] | rw [Zo] | rw [Zn] | rw [Zk] | rw [Zg] | rw [Zh] | rw [Zd (by decide)] | rw [Zi] | rw [Ze] | rw [Zf] | rw [Zb (by decide)] | rw [Zz] | rw [Zu (by simp [go_sem, e, hj]; exact ⟨rfl, rfl⟩)] | rw [Zw (by simp [lk, Za, Od.v, e, hj]; exact rfl)] | rw [Zx])); simp [Zr, Zs, ZY, go_sem, fin, Yu, Yt, YA, Yy, YC, e, hj]
  · have e : E X 63 [L, .func f [] cap] h = some (.int .i64 (-1), h) := by
      rw [Yc (X := X) _ b63 _ rfl rfl]; unfold b63
      (repeat (first | rw [Zj] | rw [Zc (by simp [go_sem, hL]; exact ⟨rfl, rfl⟩)] | rw [Zv (by simp [lk, Za, Od.v, hL]; exact rfl)] | rw [Zp] | rw [Zm] | rw [Zl] | rw [Zy] | rw [Zq] | rw [Zt] | rw [Zo] | rw [Zn] | rw [Zk] | rw [Zg] | rw [Zh] | rw [Zd (by decide)] | rw [Zi] | rw [Ze] | rw [Zf] | rw [Zb (by decide)] | rw [Zz] | rw [Zu (by simp [go_sem, hL]; exact ⟨rfl, rfl⟩)] | rw [Zw (by simp [lk, Za, Od.v, hL]; exact rfl)] | rw [Zx]))
      (try simp only [Za, List.map_cons, List.map_nil, lk, reduceIte, Nat.reduceEqDiff, Nat.zero_ne_one, Nat.one_ne_zero])
      rw [h2]
      (repeat (first | rw [Zj] | rw [Zc (by simp [go_sem]; exact ⟨rfl, rfl⟩)] | rw [Zv (by simp [lk, Za, Od.v]; exact rfl)] | rw [Zp] | rw [Zm] | rw [Zl] | rw [Zy] | rw [Zq] | rw [Zt] | rw [Zo] | rw [Zn] | rw [Zk] | rw [Zg] | rw [Zh] | rw [Zd (by decide)] | rw [Zi] | rw [Ze] | rw [Zf] | rw [Zb (by decide)] | rw [Zz] | rw [Zu (by simp [go_sem]; exact ⟨rfl, rfl⟩)] | rw [Zw (by simp [lk, Za, Od.v]; exact rfl)] | rw [Zx]))
      simp [Zr, Zs, ZY, go_sem, fin, Yu, Yt, YA, Yy, YC]
    rw [h1]
    rw [Yc (X := X) _ b36 _ rfl rfl]; unfold b36; (repeat (first | rw [Zj] | rw [Zc (by simp [go_sem, e]; exact ⟨rfl, rfl⟩)] | rw [Zv (by simp [lk, Za, Od.v, e]; exact rfl)] | rw [Zp] | rw [Zm] | rw [Zl] | rw [Zy] | rw [Zq] | rw [Zt] | rw [Zo] | rw [Zn] | rw [Zk] | rw [Zg] | rw [Zh] | rw [Zd (by decide)] | rw [Zi] | rw [Ze] | rw [Zf] | rw [Zb (by decide)] | rw [Zz] | rw [Zu (by simp [go_sem, e]; exact ⟨rfl, rfl⟩)] | rw [Zw (by simp [lk, Za, Od.v, e]; exact rfl)] | rw [Zx])); simp [Zr, Zs, ZY, go_sem, fin, Yu, Yt, YA, Yy, YC, e]
open Classical in
noncomputable def badC (n : Nat) (c : RC) : Bool := decide (¬ (c.n = (n : Int) ∧ okC c.n c.ys c.bs))
open Classical in
theorem badC_false {n : Nat} {c : RC} (h : c.n = (n : Int) ∧ okC c.n c.ys c.bs) : badC n c = false := by
  unfold badC
  exact decide_eq_false (fun q => q h)
open Classical in
theorem badC_true {n : Nat} {c : RC} (h : ¬ (c.n = (n : Int) ∧ okC c.n c.ys c.bs)) : badC n c = true := by
  unfold badC
  exact decide_eq_true h
theorem run37 {H : ZD} {p n : Nat} {c : RC} (hc : c.Ok) (hp : H[p]? = some (.box 3 [.int .i64 n])) : E X 37 [c.d, .ref p 0] H = some (.bool (badC n c), H) := by
  have e25 := fun g => run38g (n := c.n) hc.dict (by have := hc.yl; omega) hc.bytes hc.bb g
  have hpG : ∀ G, (H ++ G)[p]? = some (.box 3 [.int .i64 n]) := fun G => hle hp G
  by_cases c1 : c.n = (n : Int)
  · by_cases c2 : okC c.n c.ys c.bs
    · have hb : badC n c = false := badC_false ⟨c1, c2⟩
      rw [hb]
      have e25' : ∀ g, E X 38 [colD c.n c.D c.B] g = some (.bool true, g) := fun g => by rw [e25 g]; simp [c2]
      clear e25 hb c2
      obtain ⟨cn, ys, bs, D, B⟩ := c
      simp only [RC.d] at *
      subst c1
      rw [Yc (X := X) _ b37 _ rfl rfl]; unfold b37; (repeat (first | rw [Zj] | rw [Zc (by simp [go_sem, e25', hpG]; exact ⟨rfl, rfl⟩)] | rw [Zv (by simp [lk, Za, Od.v, e25', hpG]; exact rfl)] | rw [Zp] | rw [Zm] | rw [Zl] | rw [Zy] | rw [Zq] | rw [Zt] | rw [Zo] | rw [Zn] | rw [Zk] | rw [Zg] | rw [Zh] | rw [Zd (by decide)] | rw [Zi] | rw [Ze] | rw [Zf] | rw [Zb (by decide)] | rw [Zz] | rw [Zu (by simp [go_sem, e25', hpG]; exact ⟨rfl, rfl⟩)] | rw [Zw (by simp [lk, Za, Od.v, e25', hpG]; exact rfl)] | rw [Zx])); simp [Zr, Zs, ZY, go_sem, fin, Yu, Yt, YA, Yy, YC, e25', hpG]
    · have hb : badC n c = true := badC_true (fun h => c2 h.2)
      rw [hb]
      have e25' : ∀ g, E X 38 [colD c.n c.D c.B] g = some (.bool false, g) := fun g => by rw [e25 g]; simp [c2]
      clear e25 hb c2
      obtain ⟨cn, ys, bs, D, B⟩ := c
      simp only [RC.d] at *
      subst c1
      rw [Yc (X := X) _ b37 _ rfl rfl]; unfold b37; (repeat (first | rw [Zj] | rw [Zc (by simp [go_sem, e25', hpG]; exact ⟨rfl, rfl⟩)] | rw [Zv (by simp [lk, Za, Od.v, e25', hpG]; exact rfl)] | rw [Zp] | rw [Zm] | rw [Zl] | rw [Zy] | rw [Zq] | rw [Zt] | rw [Zo] | rw [Zn] | rw [Zk] | rw [Zg] | rw [Zh] | rw [Zd (by decide)] | rw [Zi] | rw [Ze] | rw [Zf] | rw [Zb (by decide)] | rw [Zz] | rw [Zu (by simp [go_sem, e25', hpG]; exact ⟨rfl, rfl⟩)] | rw [Zw (by simp [lk, Za, Od.v, e25', hpG]; exact rfl)] | rw [Zx])); simp [Zr, Zs, ZY, go_sem, fin, Yu, Yt, YA, Yy, YC, e25', hpG]
  · have hb : badC n c = true := badC_true (fun h => c1 h.1)
    rw [hb]
    have c1' : (c.n != (n : Int)) = true := by simpa using c1
    clear e25 hb
    obtain ⟨cn, ys, bs, D, B⟩ := c
    simp only [RC.d] at *
    rw [Yc (X := X) _ b37 _ rfl rfl]; unfold b37; (repeat (first | rw [Zj] | rw [Zc (by simp [go_sem, c1, c1', hpG]; exact ⟨rfl, rfl⟩)] | rw [Zv (by simp [lk, Za, Od.v, c1, c1', hpG]; exact rfl)] | rw [Zp] | rw [Zm] | rw [Zl] | rw [Zy] | rw [Zq] | rw [Zt] | rw [Zo] | rw [Zn] | rw [Zk] | rw [Zg] | rw [Zh] | rw [Zd (by decide)] | rw [Zi] | rw [Ze] | rw [Zf] | rw [Zb (by decide)] | rw [Zz] | rw [Zu (by simp [go_sem, c1, c1', hpG]; exact ⟨rfl, rfl⟩)] | rw [Zw (by simp [lk, Za, Od.v, c1, c1', hpG]; exact rfl)] | rw [Zx])); simp [Zr, Zs, ZY, go_sem, fin, Yu, Yt, YA, Yy, YC, c1, c1', hpG]
open Classical in
/-- The words of the rows of a sealed segment for which a filter holds. -/
noncomputable def segW (cs : List RC) (n : Nat) (xs : List N) : List Nat := if ∀ c ∈ cs, c.n = (n : Int) ∧ okC c.n c.ys c.bs then sealW (cs.map RC.sc) n xs else []
set_option maxHeartbeats 2000000 in
theorem run12 {H : ZD} {L Of Cs : DV} {p1 p2 p3 p4 : Int} {xs : List N} {os : List DV} {cs : List RC} (hL : ∀ G, vw (H ++ G) 8 L = some (xs.map N.d)) (hO : ∀ g, vw g 1 Of = some os) (hC : ∀ g, vw g 3 Cs = some (cs.map RC.d)) (hok : ∀ c ∈ cs, c.Ok) (hn : os.length ≤ 200) (hcl : cs.length ≤ 12) (hb : xs.length ≤ 1000000) :
    ∃ W, E X 12 [L, .agg [.int .i64 p1, .int .i64 p2, .int .i64 p3, .int .i64 p4, Of, Cs]] H = some (.agg [W], H) ∧ WL W (segW cs os.length xs) ∧ WB (segW cs os.length xs) ∧ (segW cs os.length xs).length ≤ 1024 := by
  obtain ⟨n, hnn⟩ : ∃ n, n = os.length := ⟨_, rfl⟩
  rw [← hnn] at hn ⊢
  have hnn' := hnn.symm
  obtain ⟨H1, hH1⟩ : ∃ H1, H1 = H ++ [HO.box 29 [.int .i64 p1, .int .i64 p2, .int .i64 p3, .int .i64 p4, Of, Cs], .box 38 [.nils], .box 3 [.int .i64 n]] := ⟨_, rfl⟩
  have hp : H1[H.length + 2]? = some (.box 3 [.int .i64 n]) := by rw [hH1]; simp [hget]
  have e35 := run36 (P := badC n) (hC H1) (fun c hc => run37 (hok c hc) hp) (by omega)
  by_cases hall : ∀ c ∈ cs, c.n = (n : Int) ∧ okC c.n c.ys c.bs
  · have hs : segW cs n xs = sealW (cs.map RC.sc) n xs := by unfold segW; rw [if_pos hall]
    rw [hs]
    have hany : cs.any (badC n) = false := by
      rw [List.any_eq_false]
      intro c hc
      rw [Bool.not_eq_true]
      exact badC_false (hall c hc)
    rw [hany] at e35
    have hm : ∀ c ∈ cs, c.May n := fun c hc => ⟨hok c hc, (hall c hc).2, (hall c hc).1⟩
    have hlf : LeafOk H1 40 [.agg [.int .i64 p1, .int .i64 p2, .int .i64 p3, .int .i64 p4, Of, Cs]] (leafS (cs.map RC.sc) n) := by
      intro G x
      obtain ⟨W, h1, h2⟩ := run40 (H := H1 ++ G) (Of := Of) (p1 := p1) (p2 := p2) (p3 := p3) (p4 := p4) hC hm hn hcl x
      exact ⟨W, h1, h2, leafS_WB _ _ _, leafS_len _ _ (by omega)⟩
    obtain ⟨W, e37, h2, h3, h4⟩ := run39 (H := H1) (L := L) (n := n) (by omega) (fun G => by rw [hH1, List.append_assoc]; exact hL _) hb hlf
    refine ⟨W, ?_, h2, h3, h4⟩
    change WL W (sealW (cs.map RC.sc) n xs) at h2
    have hone : W.one = true := by rcases h2 with rfl | ⟨rfl, _⟩ <;> rfl
    have hfin : fin H (H ++ [HO.box 29 [.int .i64 p1, .int .i64 p2, .int .i64 p3, .int .i64 p4, Of, Cs], .box 38 [W], .box 3 [.int .i64 n]]) [.agg [W]] = (.agg [W], H) := fin_wl h2 (by simp)
    have g3 : (H ++ [HO.box 29 [.int .i64 p1, .int .i64 p2, .int .i64 p3, .int .i64 p4, Of, Cs], .box 38 [W], .box 3 [.int .i64 n]])[H.length + 1]? = some (.box 38 [W]) := by simp [hget]
    clear hs hall hm hlf h2 h3 h4 hok hnn
    subst hH1
    rw [Yc (X := X) _ b12 _ rfl rfl]; unfold b12
    (repeat (first | rw [Zj] | rw [Zc (by simp [go_sem, hO, hC, hnn', e35, e37, hone, ZR]; exact ⟨rfl, rfl⟩)] | rw [Zv (by simp [lk, Za, Od.v, hO, hC, hnn', e35, e37, hone, ZR]; exact rfl)] | rw [Zp] | rw [Zm] | rw [Zl] | rw [Zy] | rw [Zq] | rw [Zt] | rw [Zo] | rw [Zn] | rw [Zk] | rw [Zg] | rw [Zh] | rw [Zd (by decide)] | rw [Zi] | rw [Ze] | rw [Zf] | rw [Zb (by decide)] | rw [Zz] | rw [Zu (by simp [go_sem, hO, hC, hnn', e35, e37, hone, ZR]; exact ⟨rfl, rfl⟩)] | rw [Zw (by simp [lk, Za, Od.v, hO, hC, hnn', e35, e37, hone, ZR]; exact rfl)] | rw [Zx]))
    simp only [Zr, ZY, lk, Za, List.map_cons, List.map_nil, reduceIte, Option.map_some, Nat.reduceEqDiff]
    rw [ZA, g3]
    exact congrArg some hfin
  · have hs : segW cs n xs = [] := by unfold segW; rw [if_neg hall]
    rw [hs]
    have hany : cs.any (badC n) = true := by
      by_cases q : cs.any (badC n) = true
      · exact q
      · exfalso
        apply hall
        intro c hc
        have := List.any_eq_false.1 (Bool.eq_false_iff.2 q) c hc
        unfold badC at this
        simpa using this
    rw [hany] at e35
    refine ⟨.nils, ?_, .inr ⟨rfl, rfl⟩, (fun x hx => by cases hx), by simp⟩
    have hfin : fin H (H ++ [HO.box 29 [.int .i64 p1, .int .i64 p2, .int .i64 p3, .int .i64 p4, Of, Cs], .box 38 [.nils], .box 3 [.int .i64 n]]) [.agg [.nils]] = (.agg [.nils], H) := fin_wl (ws := []) (.inr ⟨rfl, rfl⟩) (by simp)
    have g3 : (H ++ [HO.box 29 [.int .i64 p1, .int .i64 p2, .int .i64 p3, .int .i64 p4, Of, Cs], .box 38 [.nils], .box 3 [.int .i64 n]])[H.length + 1]? = some (.box 38 [.nils]) := by simp [hget]
    clear hs hall hok hnn
    subst hH1
    rw [Yc (X := X) _ b12 _ rfl rfl]; unfold b12
    (repeat (first | rw [Zj] | rw [Zc (by simp [go_sem, hO, hC, hnn', e35, ZR]; exact ⟨rfl, rfl⟩)] | rw [Zv (by simp [lk, Za, Od.v, hO, hC, hnn', e35, ZR]; exact rfl)] | rw [Zp] | rw [Zm] | rw [Zl] | rw [Zy] | rw [Zq] | rw [Zt] | rw [Zo] | rw [Zn] | rw [Zk] | rw [Zg] | rw [Zh] | rw [Zd (by decide)] | rw [Zi] | rw [Ze] | rw [Zf] | rw [Zb (by decide)] | rw [Zz] | rw [Zu (by simp [go_sem, hO, hC, hnn', e35, ZR]; exact ⟨rfl, rfl⟩)] | rw [Zw (by simp [lk, Za, Od.v, hO, hC, hnn', e35, ZR]; exact rfl)] | rw [Zx]))
    simp only [Zr, ZY, lk, Za, List.map_cons, List.map_nil, reduceIte, Option.map_some, Nat.reduceEqDiff]
    rw [ZA, g3]
    exact congrArg some hfin
/-- Rows that are told, each on its own. -/
def RowsE (es : List DV) (rs : List (List V)) : Prop := RowsL es rs ∧ ∀ x ∈ es, Nr x
theorem RowsE.snoc {es : List DV} {rs : List (List V)} (h : RowsE es rs) {e : DV} {r : List V} (he : RowL e r) : RowsE (es ++ [e]) (rs ++ [r]) := by
  refine ⟨⟨by simp [h.1.1], fun i d vs h1 h2 => ?_⟩, fun x hx => ?_⟩
  · by_cases c : i < es.length
    · rw [List.getElem?_append_left c] at h1
      rw [List.getElem?_append_left (by rw [← h.1.1]; exact c)] at h2
      exact h.1.2 i d vs h1 h2
    · have hl := h.1.1
      have hi : i = es.length := by
        have := (List.getElem?_eq_some_iff.1 h1).1
        rw [List.length_append, List.length_cons, List.length_nil] at this; omega
      subst hi
      rw [List.getElem?_append_right (Nat.le_refl _), Nat.sub_self] at h1
      rw [hl, List.getElem?_append_right (Nat.le_refl _), Nat.sub_self] at h2
      injection h1 with h1
      injection h2 with h2
      rw [← h1, ← h2]; exact he
  · rcases List.mem_append.1 hx with hx | hx
    · exact h.2 x hx
    · rw [List.mem_singleton] at hx
      rw [hx]; exact he.nr
/-- A column as an argument, of any size. -/
structure RC.Raw (c : RC) : Prop where
  dict : ValL c.D c.ys
  sm : ∀ x ∈ c.ys, Sm x
  bytes : BytesL c.B c.bs
  bb : BB c.bs
theorem loop27 {h : ZD} {n : Int} {D B : DV} {ys : List V} {b : Nat} (hb : h[b]? = some (.box 61 [.int .i64 n, D, B])) (hD : ∀ g, vw g 4 D = some (ys.map V.d)) (hl : ys.length ≤ 1000) :
    ∀ (m i : Nat), ys.length - i ≤ m → i ≤ ys.length → (∃ ex, C X (.loop lp27_0) [(1, .ref b 0), (3, .int .i64 i)] h = some (.exit 0, ex, h)) ∨ C X (.loop lp27_0) [(1, .ref b 0), (3, .int .i64 i)] h = some (.ret, [(2, .bool false)], h) := by
  intro m
  induction m with
  | zero =>
    intro i hm hi
    obtain rfl : i = ys.length := by omega
    left
    rw [Yh]
    unfold lp27_0
    (repeat (first | rw [Zj] | rw [Zc (by simp [go_sem, hD, hb, ZR]; exact ⟨rfl, rfl⟩)] | rw [Zv (by simp [lk, Za, Od.v, hD, hb, ZR]; exact rfl)] | rw [Zp] | rw [Zm] | rw [Zl] | rw [Zy] | rw [Zq] | rw [Zt] | rw [Zo] | rw [Zn] | rw [Zk] | rw [Zg] | rw [Zh] | rw [Zd (by decide)] | rw [Zi] | rw [Ze] | rw [Zf] | rw [Zb (by decide)] | rw [Zz] | rw [Zu (by simp [go_sem, hD, hb, ZR]; exact ⟨rfl, rfl⟩)] | rw [Zw (by simp [lk, Za, Od.v, hD, hb, ZR]; exact rfl)] | rw [Zx]))
    rw [Yx]
    exact ⟨_, rfl⟩
  | succ m ih =>
    intro i hm hi
    by_cases c : i < ys.length
    · obtain ⟨I, hI⟩ : ∃ I, I = i + 1 := ⟨_, rfl⟩
      have z1 : IntKind.i64.wrap ((i : Int) + 1) = (I : Int) := (by rw [wrap64 _ (by omega) (by omega)]; omega)
      obtain ⟨v, hv⟩ : ∃ v, v = ys[i] := ⟨_, rfl⟩
      have hv' := hv.symm
      have hvi : ys[i]? = some v := by rw [List.getElem?_eq_getElem c, hv]
      by_cases c3 : 300 < v.s.size
      · right
        have c3' : (300 : Int) < (v.s.size : Int) := by omega
        have hs : C X lp27_0 [(1, .ref b 0), (3, .int .i64 i)] h = some (.ret, [(2, .bool false)], h) := by
          clear ih
          obtain ⟨vk, vn, vs', vt⟩ := v
          simp only [V.d] at *
          unfold lp27_0
          (repeat (first | rw [Zj] | rw [Zc (by simp [go_sem, c, z1, hD, hv', hvi, hb, c3, c3', ZR]; exact ⟨rfl, rfl⟩)] | rw [Zv (by simp [lk, Za, Od.v, c, z1, hD, hv', hvi, hb, c3, c3', ZR]; exact rfl)] | rw [Zp] | rw [Zm] | rw [Zl] | rw [Zy] | rw [Zq] | rw [Zt] | rw [Zo] | rw [Zn] | rw [Zk] | rw [Zg] | rw [Zh] | rw [Zd (by decide)] | rw [Zi] | rw [Ze] | rw [Zf] | rw [Zb (by decide)] | rw [Zz] | rw [Zu (by simp [go_sem, c, z1, hD, hv', hvi, hb, c3, c3', ZR]; exact ⟨rfl, rfl⟩)] | rw [Zw (by simp [lk, Za, Od.v, c, z1, hD, hv', hvi, hb, c3, c3', ZR]; exact rfl)] | rw [Zx]))
          simp [Za, lk]
        rw [Yh, hs, lp_ret]
      · have c3' : ¬ (300 : Int) < (v.s.size : Int) := by omega
        have hs : C X lp27_0 [(1, .ref b 0), (3, .int .i64 i)] h = some (.norm, [(1, .ref b 0), (3, .int .i64 I)], h) := by
          clear ih
          obtain ⟨vk, vn, vs', vt⟩ := v
          simp only [V.d] at *
          unfold lp27_0
          (repeat (first | rw [Zj] | rw [Zc (by simp [go_sem, c, z1, hD, hv', hvi, hb, c3, c3', ZR]; exact ⟨rfl, rfl⟩)] | rw [Zv (by simp [lk, Za, Od.v, c, z1, hD, hv', hvi, hb, c3, c3', ZR]; exact rfl)] | rw [Zp] | rw [Zm] | rw [Zl] | rw [Zy] | rw [Zq] | rw [Zt] | rw [Zo] | rw [Zn] | rw [Zk] | rw [Zg] | rw [Zh] | rw [Zd (by decide)] | rw [Zi] | rw [Ze] | rw [Zf] | rw [Zb (by decide)] | rw [Zz] | rw [Zu (by simp [go_sem, c, z1, hD, hv', hvi, hb, c3, c3', ZR]; exact ⟨rfl, rfl⟩)] | rw [Zw (by simp [lk, Za, Od.v, c, z1, hD, hv', hvi, hb, c3, c3', ZR]; exact rfl)] | rw [Zx]))
          simp [Za, lk]
        rw [Yh, hs, Yw]
        exact ih I (by omega) (by omega)
    · exact ih i (by omega) hi
theorem run27 {H : ZD} {c : RC} (hc : c.Raw) : ∃ bb, E X 27 [c.d] H = some (.bool bb, H) ∧ (bb = true → c.Ok) := by
  have hDv := hc.dict.vw
  have hBv := hc.bytes.vw
  by_cases c1 : 200 < c.ys.length
  · refine ⟨false, ?_, fun h => by cases h⟩
    have c1' : (200 : Int) < (c.ys.length : Int) := by omega
    clear hc
    obtain ⟨cn, ys, bs, D, B⟩ := c
    simp only [RC.d] at *
    rw [Yc (X := X) _ b27 _ rfl rfl]; unfold b27; (repeat (first | rw [Zj] | rw [Zc (by simp [go_sem, hDv, hBv, c1, c1']; exact ⟨rfl, rfl⟩)] | rw [Zv (by simp [lk, Za, Od.v, hDv, hBv, c1, c1']; exact rfl)] | rw [Zp] | rw [Zm] | rw [Zl] | rw [Zy] | rw [Zq] | rw [Zt] | rw [Zo] | rw [Zn] | rw [Zk] | rw [Zg] | rw [Zh] | rw [Zd (by decide)] | rw [Zi] | rw [Ze] | rw [Zf] | rw [Zb (by decide)] | rw [Zz] | rw [Zu (by simp [go_sem, hDv, hBv, c1, c1']; exact ⟨rfl, rfl⟩)] | rw [Zw (by simp [lk, Za, Od.v, hDv, hBv, c1, c1']; exact rfl)] | rw [Zx])); simp [Zr, Zs, ZY, go_sem, fin, Yu, Yt, YA, Yy, YC, hDv, hBv, c1, c1']
  have c1' : ¬ (200 : Int) < (c.ys.length : Int) := by omega
  by_cases c2 : 200 < c.bs.length
  · refine ⟨false, ?_, fun h => by cases h⟩
    have c2' : (200 : Int) < (c.bs.length : Int) := by omega
    clear hc
    obtain ⟨cn, ys, bs, D, B⟩ := c
    simp only [RC.d] at *
    rw [Yc (X := X) _ b27 _ rfl rfl]; unfold b27; (repeat (first | rw [Zj] | rw [Zc (by simp [go_sem, hDv, hBv, c1, c1', c2, c2']; exact ⟨rfl, rfl⟩)] | rw [Zv (by simp [lk, Za, Od.v, hDv, hBv, c1, c1', c2, c2']; exact rfl)] | rw [Zp] | rw [Zm] | rw [Zl] | rw [Zy] | rw [Zq] | rw [Zt] | rw [Zo] | rw [Zn] | rw [Zk] | rw [Zg] | rw [Zh] | rw [Zd (by decide)] | rw [Zi] | rw [Ze] | rw [Zf] | rw [Zb (by decide)] | rw [Zz] | rw [Zu (by simp [go_sem, hDv, hBv, c1, c1', c2, c2']; exact ⟨rfl, rfl⟩)] | rw [Zw (by simp [lk, Za, Od.v, hDv, hBv, c1, c1', c2, c2']; exact rfl)] | rw [Zx])); simp [Zr, Zs, ZY, go_sem, fin, Yu, Yt, YA, Yy, YC, hDv, hBv, c1, c1', c2, c2']
  have c2' : ¬ (200 : Int) < (c.bs.length : Int) := by omega
  have hok : c.Ok := ⟨hc.dict, by omega, hc.sm, hc.bytes, hc.bb, by omega⟩
  obtain ⟨H1, hH1⟩ : ∃ H1, H1 = H ++ [HO.box 61 [.int .i64 c.n, c.D, c.B]] := ⟨_, rfl⟩
  have hb1 : H1[H.length]? = some (.box 61 [.int .i64 c.n, c.D, c.B]) := by rw [hH1]; simp
  have ht1 : H1.take H.length = H := by rw [hH1, List.take_append_of_le_length (Nat.le_refl _)]; exact List.take_length
  have hfin : ∀ r, fin H H1 [.bool r] = (.bool r, H) := fun r => by simp [fin, ht1, Yt, Yu]
  rcases loop27 hb1 hDv (by omega) c.ys.length 0 (by omega) (by omega) with ⟨ex, hl⟩ | hl
  · refine ⟨true, ?_, fun _ => hok⟩
    rw [show ((0 : Nat) : Int) = 0 from rfl] at hl
    clear hc hok hb1 ht1
    obtain ⟨cn, ys, bs, D, B⟩ := c
    simp only [RC.d] at *
    subst hH1
    rw [Yc (X := X) _ b27 _ rfl rfl]; unfold b27
    (repeat (first | rw [Zj] | rw [Zc (by simp [go_sem, hDv, hBv, c1, c1', c2, c2']; exact ⟨rfl, rfl⟩)] | rw [Zv (by simp [lk, Za, Od.v, hDv, hBv, c1, c1', c2, c2']; exact rfl)] | rw [Zp] | rw [Zm] | rw [Zl] | rw [Zy] | rw [Zq] | rw [Zt] | rw [Zo] | rw [Zn] | rw [Zk] | rw [Zg] | rw [Zh] | rw [Zd (by decide)] | rw [Zi] | rw [Ze] | rw [Zf] | rw [Zb (by decide)] | rw [Zz] | rw [Zu (by simp [go_sem, hDv, hBv, c1, c1', c2, c2']; exact ⟨rfl, rfl⟩)] | rw [Zw (by simp [lk, Za, Od.v, hDv, hBv, c1, c1', c2, c2']; exact rfl)] | rw [Zx]))
    (try simp only [Za, List.map_cons, List.map_nil, lk, reduceIte, Nat.reduceEqDiff, Nat.zero_ne_one, Nat.one_ne_zero])
    rw [hl]
    (repeat (first | rw [Zj] | rw [Zc (by simp [go_sem]; exact ⟨rfl, rfl⟩)] | rw [Zv (by simp [lk, Za, Od.v]; exact rfl)] | rw [Zp] | rw [Zm] | rw [Zl] | rw [Zy] | rw [Zq] | rw [Zt] | rw [Zo] | rw [Zn] | rw [Zk] | rw [Zg] | rw [Zh] | rw [Zd (by decide)] | rw [Zi] | rw [Ze] | rw [Zf] | rw [Zb (by decide)] | rw [Zz] | rw [Zu (by simp [go_sem]; exact ⟨rfl, rfl⟩)] | rw [Zw (by simp [lk, Za, Od.v]; exact rfl)] | rw [Zx]))
    simp only [Zr, ZY, lk, Za, List.map_cons, List.map_nil, reduceIte, Option.map_some, Nat.reduceEqDiff, hfin]
  · refine ⟨false, ?_, fun _ => hok⟩
    rw [show ((0 : Nat) : Int) = 0 from rfl] at hl
    clear hc hok hb1 ht1
    obtain ⟨cn, ys, bs, D, B⟩ := c
    simp only [RC.d] at *
    subst hH1
    rw [Yc (X := X) _ b27 _ rfl rfl]; unfold b27
    (repeat (first | rw [Zj] | rw [Zc (by simp [go_sem, hDv, hBv, c1, c1', c2, c2']; exact ⟨rfl, rfl⟩)] | rw [Zv (by simp [lk, Za, Od.v, hDv, hBv, c1, c1', c2, c2']; exact rfl)] | rw [Zp] | rw [Zm] | rw [Zl] | rw [Zy] | rw [Zq] | rw [Zt] | rw [Zo] | rw [Zn] | rw [Zk] | rw [Zg] | rw [Zh] | rw [Zd (by decide)] | rw [Zi] | rw [Ze] | rw [Zf] | rw [Zb (by decide)] | rw [Zz] | rw [Zu (by simp [go_sem, hDv, hBv, c1, c1', c2, c2']; exact ⟨rfl, rfl⟩)] | rw [Zw (by simp [lk, Za, Od.v, hDv, hBv, c1, c1', c2, c2']; exact rfl)] | rw [Zx]))
    (try simp only [Za, List.map_cons, List.map_nil, lk, reduceIte, Nat.reduceEqDiff, Nat.zero_ne_one, Nat.one_ne_zero])
    rw [hl]
    (repeat (first | rw [Zj] | rw [Zc (by simp [go_sem]; exact ⟨rfl, rfl⟩)] | rw [Zv (by simp [lk, Za, Od.v]; exact rfl)] | rw [Zp] | rw [Zm] | rw [Zl] | rw [Zy] | rw [Zq] | rw [Zt] | rw [Zo] | rw [Zn] | rw [Zk] | rw [Zg] | rw [Zh] | rw [Zd (by decide)] | rw [Zi] | rw [Ze] | rw [Zf] | rw [Zb (by decide)] | rw [Zz] | rw [Zu (by simp [go_sem]; exact ⟨rfl, rfl⟩)] | rw [Zw (by simp [lk, Za, Od.v]; exact rfl)] | rw [Zx]))
    simp only [Zr, ZY, lk, Za, List.map_cons, List.map_nil, reduceIte, Option.map_some, Nat.reduceEqDiff, hfin]
theorem loop8 {h : ZD} {Of Cs : DV} {p1 p2 p3 p4 : Int} {cs : List RC} {b : Nat} (hb : h[b]? = some (.box 29 [.int .i64 p1, .int .i64 p2, .int .i64 p3, .int .i64 p4, Of, Cs])) (hC : ∀ g, vw g 3 Cs = some (cs.map RC.d)) (hr : ∀ c ∈ cs, c.Raw) (hl : cs.length ≤ 1000) :
    ∀ (m i : Nat), cs.length - i ≤ m → i ≤ cs.length → ((∃ ex, C X (.loop lp8_0) [(1, .ref b 0), (3, .int .i64 i)] h = some (.exit 0, ex, h)) ∧ ∀ c ∈ cs.drop i, c.Ok) ∨ C X (.loop lp8_0) [(1, .ref b 0), (3, .int .i64 i)] h = some (.ret, [(2, .bool false)], h) := by
  intro m
  induction m with
  | zero =>
    intro i hm hi
    obtain rfl : i = cs.length := by omega
    refine .inl ⟨?_, by rw [List.drop_length]; intro c hc; cases hc⟩
    rw [Yh]
    unfold lp8_0
    (repeat (first | rw [Zj] | rw [Zc (by simp [go_sem, hC, hb, ZR]; exact ⟨rfl, rfl⟩)] | rw [Zv (by simp [lk, Za, Od.v, hC, hb, ZR]; exact rfl)] | rw [Zp] | rw [Zm] | rw [Zl] | rw [Zy] | rw [Zq] | rw [Zt] | rw [Zo] | rw [Zn] | rw [Zk] | rw [Zg] | rw [Zh] | rw [Zd (by decide)] | rw [Zi] | rw [Ze] | rw [Zf] | rw [Zb (by decide)] | rw [Zz] | rw [Zu (by simp [go_sem, hC, hb, ZR]; exact ⟨rfl, rfl⟩)] | rw [Zw (by simp [lk, Za, Od.v, hC, hb, ZR]; exact rfl)] | rw [Zx]))
    rw [Yx]
    exact ⟨_, rfl⟩
  | succ m ih =>
    intro i hm hi
    by_cases c : i < cs.length
    · obtain ⟨I, hI⟩ : ∃ I, I = i + 1 := ⟨_, rfl⟩
      have z1 : IntKind.i64.wrap ((i : Int) + 1) = (I : Int) := (by rw [wrap64 _ (by omega) (by omega)]; omega)
      obtain ⟨x, hx⟩ : ∃ x, x = cs[i] := ⟨_, rfl⟩
      have hge : cs[i].d = .agg [.int .i64 x.n, x.D, x.B] := by rw [← hx]; rfl
      obtain ⟨bb, e14, hbb⟩ := run27 (H := h) (hr x (by rw [hx]; exact List.getElem_mem c))
      have e14 : E X 27 [.agg [.int .i64 x.n, x.D, x.B]] h = some (.bool bb, h) := e14
      have hd : cs.drop i = x :: cs.drop I := by rw [List.drop_eq_getElem_cons c, ← hx, hI]
      cases bb
      · right
        have hs : C X lp8_0 [(1, .ref b 0), (3, .int .i64 i)] h = some (.ret, [(2, .bool false)], h) := by
          clear ih
          unfold lp8_0
          (repeat (first | rw [Zj] | rw [Zc (by simp [go_sem, c, z1, hC, hge, hb, e14, ZR]; exact ⟨rfl, rfl⟩)] | rw [Zv (by simp [lk, Za, Od.v, c, z1, hC, hge, hb, e14, ZR]; exact rfl)] | rw [Zp] | rw [Zm] | rw [Zl] | rw [Zy] | rw [Zq] | rw [Zt] | rw [Zo] | rw [Zn] | rw [Zk] | rw [Zg] | rw [Zh] | rw [Zd (by decide)] | rw [Zi] | rw [Ze] | rw [Zf] | rw [Zb (by decide)] | rw [Zz] | rw [Zu (by simp [go_sem, c, z1, hC, hge, hb, e14, ZR]; exact ⟨rfl, rfl⟩)] | rw [Zw (by simp [lk, Za, Od.v, c, z1, hC, hge, hb, e14, ZR]; exact rfl)] | rw [Zx]))
          simp [Za, lk]
        rw [Yh, hs, lp_ret]
      · have hs : C X lp8_0 [(1, .ref b 0), (3, .int .i64 i)] h = some (.norm, [(1, .ref b 0), (3, .int .i64 I)], h) := by
          clear ih
          unfold lp8_0
          (repeat (first | rw [Zj] | rw [Zc (by simp [go_sem, c, z1, hC, hge, hb, e14, ZR]; exact ⟨rfl, rfl⟩)] | rw [Zv (by simp [lk, Za, Od.v, c, z1, hC, hge, hb, e14, ZR]; exact rfl)] | rw [Zp] | rw [Zm] | rw [Zl] | rw [Zy] | rw [Zq] | rw [Zt] | rw [Zo] | rw [Zn] | rw [Zk] | rw [Zg] | rw [Zh] | rw [Zd (by decide)] | rw [Zi] | rw [Ze] | rw [Zf] | rw [Zb (by decide)] | rw [Zz] | rw [Zu (by simp [go_sem, c, z1, hC, hge, hb, e14, ZR]; exact ⟨rfl, rfl⟩)] | rw [Zw (by simp [lk, Za, Od.v, c, z1, hC, hge, hb, e14, ZR]; exact rfl)] | rw [Zx]))
          simp [Za, lk]
        rw [Yh, hs, Yw]
        rcases ih I (by omega) (by omega) with ⟨h1, h2⟩ | h1
        · refine .inl ⟨h1, fun q hq => ?_⟩
          rw [hd] at hq
          rcases List.mem_cons.1 hq with rfl | hq
          · exact hbb rfl
          · exact h2 q hq
        · exact .inr h1
    · exact ih i (by omega) hi
/-- A segment as an argument. -/
structure SegA (Of Cs : DV) (os : List DV) (cs : List RC) : Prop where
  o : ∀ g, vw g 1 Of = some os
  c : ∀ g, vw g 3 Cs = some (cs.map RC.d)
  raw : ∀ c ∈ cs, c.Raw
theorem run8 {H : ZD} {Of Cs : DV} {p1 p2 p3 p4 : Int} {os : List DV} {cs : List RC} (hS : SegA Of Cs os cs) : ∃ bb, E X 8 [.agg [.int .i64 p1, .int .i64 p2, .int .i64 p3, .int .i64 p4, Of, Cs]] H = some (.bool bb, H) ∧ (bb = true → os.length ≤ 200 ∧ cs.length ≤ 12 ∧ ∀ c ∈ cs, c.Ok) := by
  obtain ⟨hO, hC, hr⟩ := hS
  by_cases c1 : 200 < os.length
  · refine ⟨false, ?_, fun h => by cases h⟩
    have c1' : (200 : Int) < (os.length : Int) := by omega
    rw [Yc (X := X) _ b8 _ rfl rfl]; unfold b8; (repeat (first | rw [Zj] | rw [Zc (by simp [go_sem, hO, hC, c1, c1']; exact ⟨rfl, rfl⟩)] | rw [Zv (by simp [lk, Za, Od.v, hO, hC, c1, c1']; exact rfl)] | rw [Zp] | rw [Zm] | rw [Zl] | rw [Zy] | rw [Zq] | rw [Zt] | rw [Zo] | rw [Zn] | rw [Zk] | rw [Zg] | rw [Zh] | rw [Zd (by decide)] | rw [Zi] | rw [Ze] | rw [Zf] | rw [Zb (by decide)] | rw [Zz] | rw [Zu (by simp [go_sem, hO, hC, c1, c1']; exact ⟨rfl, rfl⟩)] | rw [Zw (by simp [lk, Za, Od.v, hO, hC, c1, c1']; exact rfl)] | rw [Zx])); simp [Zr, Zs, ZY, go_sem, fin, Yu, Yt, YA, Yy, YC, hO, hC, c1, c1']
  have c1' : ¬ (200 : Int) < (os.length : Int) := by omega
  by_cases c2 : 12 < cs.length
  · refine ⟨false, ?_, fun h => by cases h⟩
    have c2' : (12 : Int) < (cs.length : Int) := by omega
    rw [Yc (X := X) _ b8 _ rfl rfl]; unfold b8; (repeat (first | rw [Zj] | rw [Zc (by simp [go_sem, hO, hC, c1, c1', c2, c2']; exact ⟨rfl, rfl⟩)] | rw [Zv (by simp [lk, Za, Od.v, hO, hC, c1, c1', c2, c2']; exact rfl)] | rw [Zp] | rw [Zm] | rw [Zl] | rw [Zy] | rw [Zq] | rw [Zt] | rw [Zo] | rw [Zn] | rw [Zk] | rw [Zg] | rw [Zh] | rw [Zd (by decide)] | rw [Zi] | rw [Ze] | rw [Zf] | rw [Zb (by decide)] | rw [Zz] | rw [Zu (by simp [go_sem, hO, hC, c1, c1', c2, c2']; exact ⟨rfl, rfl⟩)] | rw [Zw (by simp [lk, Za, Od.v, hO, hC, c1, c1', c2, c2']; exact rfl)] | rw [Zx])); simp [Zr, Zs, ZY, go_sem, fin, Yu, Yt, YA, Yy, YC, hO, hC, c1, c1', c2, c2']
  have c2' : ¬ (12 : Int) < (cs.length : Int) := by omega
  obtain ⟨H1, hH1⟩ : ∃ H1, H1 = H ++ [HO.box 29 [.int .i64 p1, .int .i64 p2, .int .i64 p3, .int .i64 p4, Of, Cs]] := ⟨_, rfl⟩
  have hb1 : H1[H.length]? = some (.box 29 [.int .i64 p1, .int .i64 p2, .int .i64 p3, .int .i64 p4, Of, Cs]) := by rw [hH1]; simp
  have ht1 : H1.take H.length = H := by rw [hH1, List.take_append_of_le_length (Nat.le_refl _)]; exact List.take_length
  have hfin : ∀ r, fin H H1 [.bool r] = (.bool r, H) := fun r => by simp [fin, ht1, Yt, Yu]
  rcases loop8 hb1 hC hr (by omega) cs.length 0 (by omega) (by omega) with ⟨⟨ex, hl⟩, hok⟩ | hl
  · rw [List.drop_zero] at hok
    refine ⟨true, ?_, fun _ => ⟨by omega, by omega, hok⟩⟩
    rw [show ((0 : Nat) : Int) = 0 from rfl] at hl
    clear hok hb1 ht1 hr
    subst hH1
    rw [Yc (X := X) _ b8 _ rfl rfl]; unfold b8
    (repeat (first | rw [Zj] | rw [Zc (by simp [go_sem, hO, hC, c1, c1', c2, c2']; exact ⟨rfl, rfl⟩)] | rw [Zv (by simp [lk, Za, Od.v, hO, hC, c1, c1', c2, c2']; exact rfl)] | rw [Zp] | rw [Zm] | rw [Zl] | rw [Zy] | rw [Zq] | rw [Zt] | rw [Zo] | rw [Zn] | rw [Zk] | rw [Zg] | rw [Zh] | rw [Zd (by decide)] | rw [Zi] | rw [Ze] | rw [Zf] | rw [Zb (by decide)] | rw [Zz] | rw [Zu (by simp [go_sem, hO, hC, c1, c1', c2, c2']; exact ⟨rfl, rfl⟩)] | rw [Zw (by simp [lk, Za, Od.v, hO, hC, c1, c1', c2, c2']; exact rfl)] | rw [Zx]))
    (try simp only [Za, List.map_cons, List.map_nil, lk, reduceIte, Nat.reduceEqDiff, Nat.zero_ne_one, Nat.one_ne_zero])
    rw [hl]
    (repeat (first | rw [Zj] | rw [Zc (by simp [go_sem]; exact ⟨rfl, rfl⟩)] | rw [Zv (by simp [lk, Za, Od.v]; exact rfl)] | rw [Zp] | rw [Zm] | rw [Zl] | rw [Zy] | rw [Zq] | rw [Zt] | rw [Zo] | rw [Zn] | rw [Zk] | rw [Zg] | rw [Zh] | rw [Zd (by decide)] | rw [Zi] | rw [Ze] | rw [Zf] | rw [Zb (by decide)] | rw [Zz] | rw [Zu (by simp [go_sem]; exact ⟨rfl, rfl⟩)] | rw [Zw (by simp [lk, Za, Od.v]; exact rfl)] | rw [Zx]))
    simp only [Zr, ZY, lk, Za, List.map_cons, List.map_nil, reduceIte, Option.map_some, Nat.reduceEqDiff, hfin]
  · refine ⟨false, ?_, fun h => by cases h⟩
    rw [show ((0 : Nat) : Int) = 0 from rfl] at hl
    clear hb1 ht1 hr
    subst hH1
    rw [Yc (X := X) _ b8 _ rfl rfl]; unfold b8
    (repeat (first | rw [Zj] | rw [Zc (by simp [go_sem, hO, hC, c1, c1', c2, c2']; exact ⟨rfl, rfl⟩)] | rw [Zv (by simp [lk, Za, Od.v, hO, hC, c1, c1', c2, c2']; exact rfl)] | rw [Zp] | rw [Zm] | rw [Zl] | rw [Zy] | rw [Zq] | rw [Zt] | rw [Zo] | rw [Zn] | rw [Zk] | rw [Zg] | rw [Zh] | rw [Zd (by decide)] | rw [Zi] | rw [Ze] | rw [Zf] | rw [Zb (by decide)] | rw [Zz] | rw [Zu (by simp [go_sem, hO, hC, c1, c1', c2, c2']; exact ⟨rfl, rfl⟩)] | rw [Zw (by simp [lk, Za, Od.v, hO, hC, c1, c1', c2, c2']; exact rfl)] | rw [Zx]))
    (try simp only [Za, List.map_cons, List.map_nil, lk, reduceIte, Nat.reduceEqDiff, Nat.zero_ne_one, Nat.one_ne_zero])
    rw [hl]
    (repeat (first | rw [Zj] | rw [Zc (by simp [go_sem]; exact ⟨rfl, rfl⟩)] | rw [Zv (by simp [lk, Za, Od.v]; exact rfl)] | rw [Zp] | rw [Zm] | rw [Zl] | rw [Zy] | rw [Zq] | rw [Zt] | rw [Zo] | rw [Zn] | rw [Zk] | rw [Zg] | rw [Zh] | rw [Zd (by decide)] | rw [Zi] | rw [Ze] | rw [Zf] | rw [Zb (by decide)] | rw [Zz] | rw [Zu (by simp [go_sem]; exact ⟨rfl, rfl⟩)] | rw [Zw (by simp [lk, Za, Od.v]; exact rfl)] | rw [Zx]))
    simp only [Zr, ZY, lk, Za, List.map_cons, List.map_nil, reduceIte, Option.map_some, Nat.reduceEqDiff, hfin]
end Go.Proofs.YtojhkbbnkhfnhaaGreatDoor
