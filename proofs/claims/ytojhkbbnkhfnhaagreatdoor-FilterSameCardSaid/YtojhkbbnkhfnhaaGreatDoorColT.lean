/- Ideal runs: the document's numbers of few bits: spread, Unpack. Lists that grow in the heap. Ideal runs: the document's answer on columns (winnowerref10): Ids, Values, Light. Ideal runs: the values of a column (winnowerref10.Values, column.Values); light columns. Ideal runs: filter.across, filter.span. -/
import Derived.Test.YtojhkbbnkhfnhaaGreatDoorColH
import Derived.Test.YtojhkbbnkhfnhaaGreatDoorWrap
import Derived.Test.YtojhkbbnkhfnhaaGreatDoorPlainB
import Derived.Test.YtojhkbbnkhfnhaaGreatDoorNod
namespace Go.Proofs.YtojhkbbnkhfnhaaGreatDoor
attribute [local go_sem] Ya ZT ZV ZW ZO ZF ZM ZI ZK ZB ZC ZJ ZP ZQ ZX ZN ZG ZU Zp Zm Yg ZS Yq put lk Od.v Za ZE ZA YB Ym Yn Yo unx YE DV.isU DV.cells hget Yb Yj Yd ZL splice Ye mat Yi YD one_bool one_int one_str one_nilp one_ref one_elem one_nils one_list one_row one_nilm one_map one_nilf one_func one_nili one_ifc one_agg one_tup one_undef one_fresh
attribute [local go_sem ↓] ZH
set_option linter.unusedVariables false
set_option linter.unusedSimpArgs false
set_option maxRecDepth 10000
end Go.Proofs.YtojhkbbnkhfnhaaGreatDoor
namespace Go.Proofs.YtojhkbbnkhfnhaaGreatDoor
set_option linter.unusedVariables false
set_option linter.unusedSimpArgs false
set_option maxRecDepth 10000
/-- A list that grows, behind H. -/
def Gro (T sz : Nat) (H h : ZD) (d : DV) (xs : List DV) : Prop :=
  h.take H.length = H ∧ ((d = .nils ∧ xs = []) ∨ ∃ g o, d = .row o g 0 xs.length false ∧ H.length ≤ o ∧ h[o]? = some (.row T sz g xs))
theorem take_leG {H h : ZD} (ht : h.take H.length = H) : H.length ≤ h.length := by
  have := congrArg List.length ht
  rw [List.length_take] at this; omega
section
variable {T sz : Nat} {H h : ZD} {d : DV} {xs : List DV}
theorem Gro.zero : Gro T sz H H .nils [] := ⟨List.take_length, .inl ⟨rfl, rfl⟩⟩
theorem Gro.ext (hg : Gro T sz H h d xs) (G : ZD) : Gro T sz H (h ++ G) d xs := by
  obtain ⟨ht, hr⟩ := hg
  refine ⟨?_, ?_⟩
  · rw [List.take_append_of_le_length (take_leG ht)]; exact ht
  · rcases hr with hr | ⟨g, o, h1, h2, h3⟩
    · exact .inl hr
    · exact .inr ⟨g, o, h1, h2, by rw [List.getElem?_append_left (List.getElem?_eq_some_iff.1 h3).1]; exact h3⟩
theorem Gro.vw (hg : Gro T sz H h d xs) : vw h sz d = some xs := by
  rcases hg.2 with ⟨rfl, rfl⟩ | ⟨g, o, rfl, h2, h3⟩
  · rfl
  · simp [Go.Proofs.YtojhkbbnkhfnhaaGreatDoor.vw, h3, List.take_of_length_le]
theorem Gro.app (hg : Gro T sz H h d xs) (b : Nat) (ys : List DV) (hb : (xs.length + ys.length) * b ≤ 140737488355328) : ∃ d' h', appx h T sz b d xs ys = some (d', h') ∧ Gro T sz H h' d' (xs ++ ys) := by
  by_cases hy : ys = []
  · subst hy
    exact ⟨d, h, by simp [appx], by rw [List.append_nil]; exact hg⟩
  · obtain ⟨ht, hr⟩ := hg
    rcases hr with ⟨rfl, rfl⟩ | ⟨g, o, rfl, h2, h3⟩
    · refine ⟨.row h.length 0 0 ys.length false, h ++ [.row T sz 0 ys], ?_, ?_, .inr ⟨0, h.length, by simp, take_leG ht, by simp⟩⟩
      · simp only [appx, if_neg hy]
        rw [if_pos hb]
      · rw [List.take_append_of_le_length (take_leG ht)]; exact ht
    · have hlt := (List.getElem?_eq_some_iff.1 h3).1
      refine ⟨.row o (g + 1) 0 (xs.length + ys.length) false, h.set o (.row T sz (g + 1) (xs ++ ys)), ?_, ?_, .inr ⟨g + 1, o, by simp, h2, ?_⟩⟩
      · simp only [appx, if_neg hy, h3]
        rw [if_pos hb]
        simp
      · rw [List.take_set_of_le h2]; exact ht
      · rw [List.getElem?_set_self hlt]
theorem Gro.fin (hg : Gro T sz H h d xs) (hn : ∀ x ∈ xs, Nr x) : (d = .nils ∧ fin H h [d] = (.nils, H)) ∨ (d ≠ .nils ∧ fin H h [d] = (.fresh T sz xs, H)) := by
  obtain ⟨ht, hr⟩ := hg
  rcases hr with ⟨rfl, rfl⟩ | ⟨g, o, rfl, h2, h3⟩
  · exact .inl ⟨rfl, by simp [Go.Proofs.YtojhkbbnkhfnhaaGreatDoor.fin, ht, Yt, Yu]⟩
  · refine .inr ⟨by simp, ?_⟩
    simp only [Go.Proofs.YtojhkbbnkhfnhaaGreatDoor.fin]
    rw [if_pos ht]
    simp only [Yt, Yu]
    rw [if_neg (by omega), h3]
    simp only
    rw [if_pos ⟨rfl, by simp, hn⟩]
    simp
end
theorem pre_get {H h : ZD} (ht : h.take H.length = H) {o : Nat} {x : HO} (hx : H[o]? = some x) : h[o]? = some x := by
  have hlt := (List.getElem?_eq_some_iff.1 hx).1
  have : (h.take H.length)[o]? = some x := by rw [ht]; exact hx
  rw [List.getElem?_take, if_pos hlt] at this
  exact this
theorem pre_vw {H h : ZD} (ht : h.take H.length = H) {sz : Nat} {d : DV} {xs : List DV} (hv : vw H sz d = some xs) : vw h sz d = some xs := by
  have := List.take_append_drop H.length h
  rw [ht] at this
  rw [← this]
  exact vw_grow hv
theorem Gro.base {T sz : Nat} {H H1 h : ZD} {d : DV} {xs : List DV} (hg : Gro T sz H1 h d xs) (hH : H1.take H.length = H) : Gro T sz H h d xs := by
  have hl := take_leG hH
  refine ⟨?_, ?_⟩
  · have h5 : h.take H.length = (h.take H1.length).take H.length := by rw [List.take_take, Nat.min_eq_left hl]
    rw [h5, hg.1, hH]
  · rcases hg.2 with h1 | ⟨g, o, h1, h2, h3⟩
    · exact .inl h1
    · exact .inr ⟨g, o, h1, by omega, h3⟩
end Go.Proofs.YtojhkbbnkhfnhaaGreatDoor
namespace Go.Proofs.YtojhkbbnkhfnhaaGreatDoor
attribute [local go_sem] Ya ZT ZV ZW ZO ZF ZM ZI ZK ZB ZC ZJ ZP ZQ ZX ZN ZG ZU Zp Zm Yg ZS Yq put lk Od.v Za ZE ZA YB Ym Yn Yo unx YE DV.isU DV.cells hget Yb Yj Yd ZL splice Ye mat Yi YD one_bool one_int one_str one_nilp one_ref one_elem one_nils one_list one_row one_nilm one_map one_nilf one_func one_nili one_ifc one_agg one_tup one_undef one_fresh
attribute [local go_sem ↓] ZH
set_option linter.unusedVariables false
set_option linter.unusedSimpArgs false
set_option maxRecDepth 10000
def sh (H : ZD) (n : Int) (D B : DV) (bl : List Bool) : ZD := H ++ [.box 61 [.int .i64 n, D, B], .row 4 1 0 (bl.map DV.bool)]
def valI (ys : List V) (il : List Nat) : List V := il.map fun p => ys.getD p v0
def ValD (d : DV) (vs : List V) : Prop := (d = .nils ∧ vs = []) ∨ d = .fresh 51 4 (vs.map V.d)
theorem nr_vals (vs : List V) : ∀ x ∈ vs.map V.d, Nr x := fun x hx => by
  obtain ⟨v, _, rfl⟩ := List.mem_map.1 hx
  exact v.nr
theorem Gro.valD {H h : ZD} {d : DV} {vs : List V} (hg : Gro 51 4 H h d (vs.map V.d)) : ∃ R, Go.Proofs.YtojhkbbnkhfnhaaGreatDoor.fin H h [d] = (R, H) ∧ ValD R vs := by
  rcases hg.fin (nr_vals vs) with ⟨rfl, h1⟩ | ⟨_, h1⟩
  · refine ⟨_, h1, .inl ⟨rfl, ?_⟩⟩
    rcases hg.2 with ⟨_, h2⟩ | ⟨g, o, h2, _⟩
    · simpa using h2
    · cases h2
  · exact ⟨_, h1, .inr rfl⟩
theorem loop54 {Hb : ZD} {n : Int} {D B R : DV} {ys : List V} {il : List Nat} {b : Nat} (hb : Hb[b]? = some (.box 61 [.int .i64 n, D, B])) (hD : ∀ g, vw g 4 D = some (ys.map V.d)) (hR : ∀ g, vw g 1 R = some (il.map iD)) (hl : il.length ≤ 4096) (hlt : ∀ p ∈ il, p < ys.length) :
    ∀ (m i : Nat) (h : ZD) (o : DV), il.length - i ≤ m → i ≤ il.length → Gro 51 4 Hb h o ((valI ys (il.take i)).map V.d) → ∃ ex h' o', C X (.loop lp54_0) [(1, .ref b 0), (5, o), (15, R), (16, .int .i64 il.length), (17, .int .i64 i)] h = some (.exit 0, (1, .ref b 0) :: (5, o') :: ex, h') ∧ Gro 51 4 Hb h' o' ((valI ys il).map V.d) := by
  intro m
  induction m with
  | zero =>
    intro i h o hm hi hg
    obtain rfl : i = il.length := by omega
    refine ⟨[(15, R), (16, .int .i64 il.length), (17, .int .i64 il.length), (18, .bool false)], h, o, ?_, by rw [List.take_length] at hg; exact hg⟩
    rw [Yh]
    unfold lp54_0
    (repeat (first | rw [Zj] | rw [Zc (by simp [go_sem]; exact ⟨rfl, rfl⟩)] | rw [Zv (by simp [lk, Za, Od.v]; exact rfl)] | rw [Zp] | rw [Zm] | rw [Zl] | rw [Zy] | rw [Zq] | rw [Zt] | rw [Zo] | rw [Zn] | rw [Zk] | rw [Zg] | rw [Zh] | rw [Zd (by decide)] | rw [Zi] | rw [Ze] | rw [Zf] | rw [Zb (by decide)] | rw [Zz] | rw [Zu (by simp [go_sem]; exact ⟨rfl, rfl⟩)] | rw [Zw (by simp [lk, Za, Od.v]; exact rfl)] | rw [Zx]))
    rw [Yx]
    simp [Za, lk]
  | succ m ih =>
    intro i h o hm hi hg
    by_cases c : i < il.length
    · obtain ⟨I, hI⟩ : ∃ I, I = i + 1 := ⟨_, rfl⟩
      have z1 : IntKind.i64.wrap ((i : Int) + 1) = (I : Int) := (by rw [wrap64 _ (by omega) (by omega)]; omega)
      obtain ⟨p, hpp⟩ : ∃ p, p = il[i] := ⟨_, rfl⟩
      have hpp' := hpp.symm
      have hpi : il[i]? = some p := by rw [List.getElem?_eq_getElem c, hpp]
      have hpl := hlt p (by rw [hpp]; exact List.getElem_mem c)
      obtain ⟨v, hv⟩ : ∃ v, v = ys[p] := ⟨_, rfl⟩
      have hv' := hv.symm
      have hvp : ys[p]? = some v := by rw [hv]; exact List.getElem?_eq_getElem hpl
      have hgd : ys.getD p v0 = v := by rw [List.getD_eq_getElem?_getD, hvp]; rfl
      have e : (valI ys (il.take I)).map V.d = (valI ys (il.take i)).map V.d ++ [v.d] := by
        unfold valI
        rw [hI, ← List.take_append_getElem c, ← hpp]
        simp only [List.map_append, List.map_cons, List.map_nil, hgd]
      have hln : ((valI ys (il.take i)).map V.d).length ≤ 4096 := by unfold valI; simp; omega
      obtain ⟨o2, h2, ha, hg2⟩ := hg.app 40 [v.d] (by simp only [List.length_cons, List.length_nil]; omega)
      rw [← e] at hg2
      have hIH := ih I h2 o2 (by omega) (by omega) hg2
      have hb' := pre_get hg.1 hb
      have hw := hg.vw
      have y1 : ∀ h, eltL [v.d] h = some ([v.d], h) := fun _ => rfl
      have y2 : Wc 4 v.d := by simp [Wc, DV.cells, V.d, DV.one]
      have y3 : Nr v.d := v.nr
      have y4 : ∀ h, srcOf h 4 (.list 4 [v.d] true) = some [v.d] := fun _ => rfl
      have hs : C X lp54_0 [(1, .ref b 0), (5, o), (15, R), (16, .int .i64 il.length), (17, .int .i64 i)] h = some (.norm, [(1, .ref b 0), (5, o2), (15, R), (16, .int .i64 il.length), (17, .int .i64 I)], h2) := by
        clear ih hIH hg hg2 e hln hb hgd
        generalize (valI ys (il.take i)).map V.d = cur at *
        obtain ⟨vk, vn, vs', vt⟩ := v
        simp only [V.d] at *
        unfold lp54_0
        (repeat (first | rw [Zj] | rw [Zc (by simp [go_sem, c, z1, hR, hD, hpp', hpi, hpl, hvp, hv', hb', y1, y2, y3, y4, hw, ha, ZR]; exact ⟨rfl, rfl⟩)] | rw [Zv (by simp [lk, Za, Od.v, c, z1, hR, hD, hpp', hpi, hpl, hvp, hv', hb', y1, y2, y3, y4, hw, ha, ZR]; exact rfl)] | rw [Zp] | rw [Zm] | rw [Zl] | rw [Zy] | rw [Zq] | rw [Zt] | rw [Zo] | rw [Zn] | rw [Zk] | rw [Zg] | rw [Zh] | rw [Zd (by decide)] | rw [Zi] | rw [Ze] | rw [Zf] | rw [Zb (by decide)] | rw [Zz] | rw [Zu (by simp [go_sem, c, z1, hR, hD, hpp', hpi, hpl, hvp, hv', hb', y1, y2, y3, y4, hw, ha, ZR]; exact ⟨rfl, rfl⟩)] | rw [Zw (by simp [lk, Za, Od.v, c, z1, hR, hD, hpp', hpi, hpl, hvp, hv', hb', y1, y2, y3, y4, hw, ha, ZR]; exact rfl)] | rw [Zx]))
        simp [Za, lk]
      rw [Yh, hs, Yw]
      exact hIH
    · exact ih i h o (by omega) hi hg
open Classical in
/-- The values that a column tells: none, if it may not be. -/
noncomputable def vlC (n : Int) (ys : List V) (bs : List Nat) : List V := if okC n ys bs then valI ys (idsN bs (wC ys.length) n.toNat) else []
theorem run54 {H : ZD} {n : Int} {D B : DV} {ys : List V} {bs : List Nat} (hD : ValL D ys) (hyb : ys.length ≤ 200) (hB : BytesL B bs) (bb : BB bs) :
    ∃ d, E X 54 [colD n D B] H = some (d, H) ∧ ValD d (vlC n ys bs) := by
  obtain ⟨H1, hH1⟩ : ∃ H1, H1 = H ++ [HO.box 61 [.int .i64 n, D, B]] := ⟨_, rfl⟩
  have hb1 : H1[H.length]? = some (.box 61 [.int .i64 n, D, B]) := by rw [hH1]; simp
  have ht1 : H1.take H.length = H := by rw [hH1, List.take_append_of_le_length (Nat.le_refl _)]; exact List.take_length
  have hDv := hD.vw
  by_cases hok : okC n ys bs
  · have hv : vlC n ys bs = valI ys (idsN bs (wC ys.length) n.toNat) := by unfold vlC; rw [if_pos hok]
    rw [hv]
    obtain ⟨hn, hC⟩ := hok.col hD (by omega) hB bb
    obtain ⟨R, e45, hRv⟩ := run64c hC H1
    rw [← hn] at e45
    have hlt := hok.2.2.2.2.1
    have hl : (idsN bs (wC ys.length) n.toNat).length ≤ 4096 := by rw [idsN_len]; have := hok.2.1; omega
    generalize idsN bs (wC ys.length) n.toNat = il at *
    obtain ⟨ex, h2, o2, hc, hg⟩ := loop54 hb1 hDv hRv hl hlt il.length 0 H1 .nils (by omega) (by omega) Gro.zero
    rw [show ((0 : Nat) : Int) = 0 from rfl] at hc
    obtain ⟨d, hfin, hd⟩ := (hg.base ht1).valD
    refine ⟨d, ?_, hd⟩
    clear hg hd hlt ht1 hC hok hv hn
    subst hH1
    rw [Yc (X := X) _ b54 _ rfl rfl]; unfold b54
    (repeat (first | rw [Zj] | rw [Zc (by simp [go_sem, e45, hRv]; exact ⟨rfl, rfl⟩)] | rw [Zv (by simp [lk, Za, Od.v, e45, hRv]; exact rfl)] | rw [Zp] | rw [Zm] | rw [Zl] | rw [Zy] | rw [Zq] | rw [Zt] | rw [Zo] | rw [Zn] | rw [Zk] | rw [Zg] | rw [Zh] | rw [Zd (by decide)] | rw [Zi] | rw [Ze] | rw [Zf] | rw [Zb (by decide)] | rw [Zz] | rw [Zu (by simp [go_sem, e45, hRv]; exact ⟨rfl, rfl⟩)] | rw [Zw (by simp [lk, Za, Od.v, e45, hRv]; exact rfl)] | rw [Zx]))
    (try simp only [Za, List.map_cons, List.map_nil, lk, reduceIte, Nat.reduceEqDiff, Nat.zero_ne_one, Nat.one_ne_zero])
    rw [hc]
    (repeat (first | rw [Zj] | rw [Zc (by simp [go_sem]; exact ⟨rfl, rfl⟩)] | rw [Zv (by simp [lk, Za, Od.v]; exact rfl)] | rw [Zp] | rw [Zm] | rw [Zl] | rw [Zy] | rw [Zq] | rw [Zt] | rw [Zo] | rw [Zn] | rw [Zk] | rw [Zg] | rw [Zh] | rw [Zd (by decide)] | rw [Zi] | rw [Ze] | rw [Zf] | rw [Zb (by decide)] | rw [Zz] | rw [Zu (by simp [go_sem]; exact ⟨rfl, rfl⟩)] | rw [Zw (by simp [lk, Za, Od.v]; exact rfl)] | rw [Zx]))
    simp only [Zr, ZY, lk, Za, List.map_cons, List.map_nil, reduceIte, Option.map_some, Nat.reduceEqDiff, hfin]
  · have hv : vlC n ys bs = [] := by unfold vlC; rw [if_neg hok]
    rw [hv]
    obtain ⟨R, il, e45, _⟩ := run64f (H := H1) (n := n) hD (by omega) hB bb hok
    refine ⟨.nils, ?_, .inl ⟨rfl, rfl⟩⟩
    subst hH1
    clear hok hv
    rw [Yc (X := X) _ b54 _ rfl rfl]; unfold b54; (repeat (first | rw [Zj] | rw [Zc (by simp [go_sem, e45]; exact ⟨rfl, rfl⟩)] | rw [Zv (by simp [lk, Za, Od.v, e45]; exact rfl)] | rw [Zp] | rw [Zm] | rw [Zl] | rw [Zy] | rw [Zq] | rw [Zt] | rw [Zo] | rw [Zn] | rw [Zk] | rw [Zg] | rw [Zh] | rw [Zd (by decide)] | rw [Zi] | rw [Ze] | rw [Zf] | rw [Zb (by decide)] | rw [Zz] | rw [Zu (by simp [go_sem, e45]; exact ⟨rfl, rfl⟩)] | rw [Zw (by simp [lk, Za, Od.v, e45]; exact rfl)] | rw [Zx])); simp [Zr, Zs, ZY, go_sem, fin, Yu, Yt, YA, Yy, YC, e45]
def rowD (r : List V) : DV := .list 4 (r.map V.d) false
def RowsD (d : DV) (rs : List (List V)) : Prop := (d = .nils ∧ rs = []) ∨ d = .fresh 45 1 (rs.map rowD)
theorem rowD_nr (r : List V) : Nr (rowD r) := .list (nr_vals r)
theorem nr_rows (rs : List (List V)) : ∀ x ∈ rs.map rowD, Nr x := fun x hx => by
  obtain ⟨v, _, rfl⟩ := List.mem_map.1 hx
  exact rowD_nr v
theorem Gro.rowsD {H h : ZD} {d : DV} {rs : List (List V)} (hg : Gro 45 1 H h d (rs.map rowD)) : ∃ R, Go.Proofs.YtojhkbbnkhfnhaaGreatDoor.fin H h [d] = (R, H) ∧ RowsD R rs := by
  rcases hg.fin (nr_rows rs) with ⟨rfl, h1⟩ | ⟨_, h1⟩
  · refine ⟨_, h1, .inl ⟨rfl, ?_⟩⟩
    rcases hg.2 with ⟨_, h2⟩ | ⟨g, o, h2, _⟩
    · simpa using h2
    · cases h2
  · exact ⟨_, h1, .inr rfl⟩
theorem rowsL_map (rs : List (List V)) : RowsL (rs.map rowD) rs := by
  refine ⟨by simp, fun i d vs h1 h2 => ?_⟩
  rw [List.getElem?_map, h2] at h1
  injection h1 with h1
  exact .inl ⟨false, h1.symm⟩
theorem rowV_vw {h : ZD} {r g t n : Nat} {xs : List V} (h1 : h[r]? = some (.row t 4 g (xs.map V.d))) (hn : xs.length = n) : vw h 4 (.row r g 0 n false) = some (xs.map V.d) := by
  subst hn; simp [vw, h1, List.take_of_length_le]
theorem rowV_wr {h : ZD} {r g t n : Nat} {xs : List V} (h1 : h[r]? = some (.row t 4 g (xs.map V.d))) (hn : xs.length = n) {i : Nat} (hi : i < n) (v : V) : stx h 4 (.elem (.row r g 0 n false) 4 i 0) (.agg [.int .i64 v.k, .int .i64 v.n, .str v.s, .bool v.t]) = some (h.set r (.row t 4 g ((xs.set i v).map V.d))) := by
  subst hn
  have h2 : (xs.map V.d)[i]? = some (xs[i].d) := by simp [List.getElem?_eq_getElem hi]
  rw [stx, if_pos (by simp [DV.cells, DV.one])]
  simp only [h1]
  rw [if_pos (by simp [hi])]
  simp only [Nat.zero_add, h2]
  simp [eput, DV.cells, splice, List.map_set]
theorem rep_set (k : Nat) (v : V) : (List.replicate (k + 1) v0).set k v = List.replicate k v0 ++ [v] := by
  rw [List.replicate_succ', List.set_append_right _ _ (by simp)]
  simp
theorem loop73 {Hb : ZD} {L : DV} {vs : List V} {k : Nat} (hL : vw Hb 4 L = some (vs.map V.d)) (hk : k ≤ 1000) (hv : vs.length ≤ 5000) :
    ∀ (m i : Nat) (h : ZD) (o : DV), vs.length - i ≤ m → i ≤ vs.length → Gro 45 1 Hb h o ((Yr (vs.take i) k).map rowD) → ∃ ex h' o', C X (.loop lp73_0) [(1, .int .i64 k), (5, o), (9, L), (10, .int .i64 vs.length), (11, .int .i64 i)] h = some (.exit 0, (1, .int .i64 k) :: (5, o') :: ex, h') ∧ Gro 45 1 Hb h' o' ((Yr vs k).map rowD) := by
  intro m
  induction m with
  | zero =>
    intro i h o hm hi hg
    obtain rfl : i = vs.length := by omega
    refine ⟨[(9, L), (10, .int .i64 vs.length), (11, .int .i64 vs.length), (12, .bool false)], h, o, ?_, by rw [List.take_length] at hg; exact hg⟩
    rw [Yh]
    unfold lp73_0
    (repeat (first | rw [Zj] | rw [Zc (by simp [go_sem]; exact ⟨rfl, rfl⟩)] | rw [Zv (by simp [lk, Za, Od.v]; exact rfl)] | rw [Zp] | rw [Zm] | rw [Zl] | rw [Zy] | rw [Zq] | rw [Zt] | rw [Zo] | rw [Zn] | rw [Zk] | rw [Zg] | rw [Zh] | rw [Zd (by decide)] | rw [Zi] | rw [Ze] | rw [Zf] | rw [Zb (by decide)] | rw [Zz] | rw [Zu (by simp [go_sem]; exact ⟨rfl, rfl⟩)] | rw [Zw (by simp [lk, Za, Od.v]; exact rfl)] | rw [Zx]))
    rw [Yx]
    simp [Za, lk]
  | succ m ih =>
    intro i h o hm hi hg
    by_cases c : i < vs.length
    · obtain ⟨I, hI⟩ : ∃ I, I = i + 1 := ⟨_, rfl⟩
      have z1 : IntKind.i64.wrap ((i : Int) + 1) = (I : Int) := (by rw [wrap64 _ (by omega) (by omega)]; omega)
      obtain ⟨K, hK⟩ : ∃ K, K = k + 1 := ⟨_, rfl⟩
      have z2 : IntKind.i64.wrap ((k : Int) + 1) = (K : Int) := (by rw [wrap64 _ (by omega) (by omega)]; omega)
      obtain ⟨v, hvv⟩ : ∃ v, v = vs[i] := ⟨_, rfl⟩
      have hv' := hvv.symm
      have hvi : vs[i]? = some v := by rw [List.getElem?_eq_getElem c, hvv]
      obtain ⟨r, hr⟩ : ∃ r, r = List.replicate k v0 ++ [v] := ⟨_, rfl⟩
      have hrl : r.length = K := by rw [hr, hK]; simp
      have hrs : (List.replicate K v0).set k v = r := by rw [hr, hK]; exact rep_set k v
      have e : (Yr (vs.take I) k).map rowD = (Yr (vs.take i) k).map rowD ++ [rowD r] := by
        unfold Yr
        rw [hI, ← List.take_append_getElem c, ← hvv, hr]
        simp only [List.map_append, List.map_cons, List.map_nil]
      have hln : ((Yr (vs.take i) k).map rowD).length ≤ 5000 := by unfold Yr; simp; omega
      have hge := hg.ext [.box 51 v.d.cells, .frz 51 4 0 (r.map V.d)]
      obtain ⟨o2, h2, ha, hg2⟩ := hge.app 24 [rowD r] (by simp only [List.length_cons, List.length_nil]; omega)
      rw [← e] at hg2
      have hIH := ih I h2 o2 (by omega) (by omega) hg2
      have hw := hge.vw
      have hLh := pre_vw hg.1 hL
      have hz : (List.replicate K v0).map V.d = List.replicate K (.agg [.int .i64 0, .int .i64 0, .str ⟨#[]⟩, .bool false]) := by rw [List.map_replicate]; rfl
      have hz1 : (h ++ [HO.box 51 v.d.cells, .row 51 4 0 (List.replicate K (.agg [.int .i64 0, .int .i64 0, .str ⟨#[]⟩, .bool false]))])[h.length + 1]? = some (.row 51 4 0 ((List.replicate K v0).map V.d)) := by rw [hz]; simp [hget]
      have r1 := rowV_vw hz1 (n := K) (by simp)
      have r2 := rowV_wr hz1 (n := K) (by simp) (i := k) (by omega) v
      rw [hrs] at r2
      have hs2 : (h ++ [HO.box 51 v.d.cells, .row 51 4 0 (List.replicate K (.agg [.int .i64 0, .int .i64 0, .str ⟨#[]⟩, .bool false]))]).set (h.length + 1) (.row 51 4 0 (r.map V.d)) = h ++ [HO.box 51 v.d.cells, .row 51 4 0 (r.map V.d)] := by simp [Yj]
      rw [hs2] at r2
      have y1 : eltL [.row (h.length + 1) 0 0 K false] (h ++ [HO.box 51 v.d.cells, .row 51 4 0 (r.map V.d)]) = some ([.list 4 (r.map V.d) false], h ++ [HO.box 51 v.d.cells, .frz 51 4 0 (r.map V.d)]) := by
        have q1 : (h ++ [HO.box 51 v.d.cells, .row 51 4 0 (r.map V.d)])[h.length + 1]? = some (.row 51 4 0 (r.map V.d)) := by simp [hget]
        have q2 : ∀ x ∈ r.map V.d, Nr x := nr_vals r
        simp only [eltL, eltOf, roOf, q1]
        rw [if_pos ⟨rfl, by rw [List.length_map, hrl]; omega, q2⟩]
        simp only [List.drop_zero]
        rw [List.take_of_length_le (by rw [List.length_map, hrl]; omega)]
        simp [Yj]
      have y2 : Wc 1 (.list 4 (r.map V.d) false) := by simp [Wc, DV.cells, DV.one]
      have y3 : Nr (.list 4 (r.map V.d) false) := rowD_nr r
      have y4 : ∀ h, srcOf h 1 (.list 1 [.list 4 (r.map V.d) false] true) = some [.list 4 (r.map V.d) false] := fun _ => rfl
      have wz : Wc 4 (.agg [.int .i64 0, .int .i64 0, .str ⟨#[]⟩, .bool false]) := by simp [Wc, DV.cells, DV.one]
      have m0 : (0 : Int) ≤ (K : Int) := by omega
      have m1 : (K : Int) * 40 ≤ 140737488355328 := by omega
      have hkK : k < K := by omega
      have ha : appx (h ++ [HO.box 51 v.d.cells, .frz 51 4 0 (r.map V.d)]) 45 1 24 o ((Yr (vs.take i) k).map rowD) [.list 4 (r.map V.d) false] = some (o2, h2) := ha
      have hs : C X lp73_0 [(1, .int .i64 k), (5, o), (9, L), (10, .int .i64 vs.length), (11, .int .i64 i)] h = some (.norm, [(1, .int .i64 k), (5, o2), (9, L), (10, .int .i64 vs.length), (11, .int .i64 I)], h2) := by
        have hrL : (r.map V.d).length = K := by rw [List.length_map]; exact hrl
        rw [hz] at r1
        clear ih hIH hg hge hg2 e hln hr hrs hz hz1 hs2 hI hrl
        generalize (Yr (vs.take i) k).map rowD = cur at *
        generalize r.map V.d = R at *
        generalize hzz : List.replicate K (DV.agg [.int .i64 0, .int .i64 0, .str ⟨#[]⟩, .bool false]) = Z at *
        have hZl : Z.length = K := by rw [← hzz]; simp
        have hkK' : (k : Int) < (K : Int) := by omega
        obtain ⟨vk, vn, vs', vt⟩ := v
        simp only [V.d, DV.cells] at *
        unfold lp73_0
        (repeat (first | rw [Zj] | rw [Zc (by simp [go_sem, c, z1, z2, hLh, hv', hvi, r1, r2, y1, y2, y3, y4, wz, m0, m1, hkK, hkK', hZl, hw, ha, hzz, ZR]; exact ⟨rfl, rfl⟩)] | rw [Zv (by simp [lk, Za, Od.v, c, z1, z2, hLh, hv', hvi, r1, r2, y1, y2, y3, y4, wz, m0, m1, hkK, hkK', hZl, hw, ha, hzz, ZR]; exact rfl)] | rw [Zp] | rw [Zm] | rw [Zl] | rw [Zy] | rw [Zq] | rw [Zt] | rw [Zo] | rw [Zn] | rw [Zk] | rw [Zg] | rw [Zh] | rw [Zd (by decide)] | rw [Zi] | rw [Ze] | rw [Zf] | rw [Zb (by decide)] | rw [Zz] | rw [Zu (by simp [go_sem, c, z1, z2, hLh, hv', hvi, r1, r2, y1, y2, y3, y4, wz, m0, m1, hkK, hkK', hZl, hw, ha, hzz, ZR]; exact ⟨rfl, rfl⟩)] | rw [Zw (by simp [lk, Za, Od.v, c, z1, z2, hLh, hv', hvi, r1, r2, y1, y2, y3, y4, wz, m0, m1, hkK, hkK', hZl, hw, ha, hzz, ZR]; exact rfl)] | rw [Zx]))
        simp [Za, lk]
      rw [Yh, hs, Yw]
      exact hIH
    · exact ih i h o (by omega) hi hg
theorem run73 {H : ZD} {L : DV} {vs : List V} {k : Nat} (hL : vw H 4 L = some (vs.map V.d)) (hk : k ≤ 1000) (hv : vs.length ≤ 5000) : ∃ d, E X 73 [L, .int .i64 k] H = some (d, H) ∧ RowsD d (Yr vs k) := by
  obtain ⟨ex, h2, o2, hc, hg⟩ := loop73 hL hk hv vs.length 0 H .nils (by omega) (by omega) Gro.zero
  rw [show ((0 : Nat) : Int) = 0 from rfl] at hc
  obtain ⟨d, hfin, hd⟩ := hg.rowsD
  refine ⟨d, ?_, hd⟩
  clear hg hd
  rw [Yc (X := X) _ b73 _ rfl rfl]; unfold b73
  (repeat (first | rw [Zj] | rw [Zc (by simp [go_sem, hL]; exact ⟨rfl, rfl⟩)] | rw [Zv (by simp [lk, Za, Od.v, hL]; exact rfl)] | rw [Zp] | rw [Zm] | rw [Zl] | rw [Zy] | rw [Zq] | rw [Zt] | rw [Zo] | rw [Zn] | rw [Zk] | rw [Zg] | rw [Zh] | rw [Zd (by decide)] | rw [Zi] | rw [Ze] | rw [Zf] | rw [Zb (by decide)] | rw [Zz] | rw [Zu (by simp [go_sem, hL]; exact ⟨rfl, rfl⟩)] | rw [Zw (by simp [lk, Za, Od.v, hL]; exact rfl)] | rw [Zx]))
  (try simp only [Za, List.map_cons, List.map_nil, lk, reduceIte, Nat.reduceEqDiff, Nat.zero_ne_one, Nat.one_ne_zero])
  rw [hc]
  (repeat (first | rw [Zj] | rw [Zc (by simp [go_sem]; exact ⟨rfl, rfl⟩)] | rw [Zv (by simp [lk, Za, Od.v]; exact rfl)] | rw [Zp] | rw [Zm] | rw [Zl] | rw [Zy] | rw [Zq] | rw [Zt] | rw [Zo] | rw [Zn] | rw [Zk] | rw [Zg] | rw [Zh] | rw [Zd (by decide)] | rw [Zi] | rw [Ze] | rw [Zf] | rw [Zb (by decide)] | rw [Zz] | rw [Zu (by simp [go_sem]; exact ⟨rfl, rfl⟩)] | rw [Zw (by simp [lk, Za, Od.v]; exact rfl)] | rw [Zx]))
  simp only [Zr, ZY, lk, Za, List.map_cons, List.map_nil, reduceIte, Option.map_some, Nat.reduceEqDiff, hfin]
theorem run70 {H : ZD} {D : DV} {ys : List V} (hD : ∀ g, vw g 4 D = some (ys.map V.d)) : E X 70 [D] H = some (.tup [.int .i64 0, .int .i64 (Yf ys : Nat)], H) := by
  cases ys with
  | nil => rw [Yc (X := X) _ b70 _ rfl rfl]; unfold b70; (repeat (first | rw [Zj] | rw [Zc (by simp [go_sem, hD, Yf]; exact ⟨rfl, rfl⟩)] | rw [Zv (by simp [lk, Za, Od.v, hD, Yf]; exact rfl)] | rw [Zp] | rw [Zm] | rw [Zl] | rw [Zy] | rw [Zq] | rw [Zt] | rw [Zo] | rw [Zn] | rw [Zk] | rw [Zg] | rw [Zh] | rw [Zd (by decide)] | rw [Zi] | rw [Ze] | rw [Zf] | rw [Zb (by decide)] | rw [Zz] | rw [Zu (by simp [go_sem, hD, Yf]; exact ⟨rfl, rfl⟩)] | rw [Zw (by simp [lk, Za, Od.v, hD, Yf]; exact rfl)] | rw [Zx])); simp [Zr, Zs, ZY, go_sem, fin, Yu, Yt, YA, Yy, YC, hD, Yf]
  | cons y l =>
    obtain ⟨k, n, s, t⟩ := y
    have h1 : (0 : Int) < (l.length : Int) + 1 := by omega
    by_cases c : k = 0
    · subst c
      have hf : Yf ((⟨0, n, s, t⟩ : V) :: l) = 1 := rfl
      rw [hf]
      simp only [List.map_cons, V.d] at hD
      rw [Yc (X := X) _ b70 _ rfl rfl]; unfold b70; (repeat (first | rw [Zj] | rw [Zc (by simp [go_sem, hD, h1, ZR]; exact ⟨rfl, rfl⟩)] | rw [Zv (by simp [lk, Za, Od.v, hD, h1, ZR]; exact rfl)] | rw [Zp] | rw [Zm] | rw [Zl] | rw [Zy] | rw [Zq] | rw [Zt] | rw [Zo] | rw [Zn] | rw [Zk] | rw [Zg] | rw [Zh] | rw [Zd (by decide)] | rw [Zi] | rw [Ze] | rw [Zf] | rw [Zb (by decide)] | rw [Zz] | rw [Zu (by simp [go_sem, hD, h1, ZR]; exact ⟨rfl, rfl⟩)] | rw [Zw (by simp [lk, Za, Od.v, hD, h1, ZR]; exact rfl)] | rw [Zx])); simp [Zr, Zs, ZY, go_sem, fin, Yu, Yt, YA, Yy, YC, hD, h1, ZR]
    · have hf : Yf ((⟨k, n, s, t⟩ : V) :: l) = 0 := by simp [Yf, c]
      have c' : (k == 0) = false := by simpa using c
      rw [hf]
      simp only [List.map_cons, V.d] at hD
      rw [Yc (X := X) _ b70 _ rfl rfl]; unfold b70; (repeat (first | rw [Zj] | rw [Zc (by simp [go_sem, hD, h1, c, c', ZR]; exact ⟨rfl, rfl⟩)] | rw [Zv (by simp [lk, Za, Od.v, hD, h1, c, c', ZR]; exact rfl)] | rw [Zp] | rw [Zm] | rw [Zl] | rw [Zy] | rw [Zq] | rw [Zt] | rw [Zo] | rw [Zn] | rw [Zk] | rw [Zg] | rw [Zh] | rw [Zd (by decide)] | rw [Zi] | rw [Ze] | rw [Zf] | rw [Zb (by decide)] | rw [Zz] | rw [Zu (by simp [go_sem, hD, h1, c, c', ZR]; exact ⟨rfl, rfl⟩)] | rw [Zw (by simp [lk, Za, Od.v, hD, h1, c, c', ZR]; exact rfl)] | rw [Zx])); simp [Zr, Zs, ZY, go_sem, fin, Yu, Yt, YA, Yy, YC, hD, h1, c, c', ZR]
end Go.Proofs.YtojhkbbnkhfnhaaGreatDoor
