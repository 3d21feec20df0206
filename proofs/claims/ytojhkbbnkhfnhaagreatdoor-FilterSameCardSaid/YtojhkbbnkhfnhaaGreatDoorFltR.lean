/- Ideal runs: filters over rows that stand in the heap (leaf, Holds, Rows). -/
import Derived.Test.YtojhkbbnkhfnhaaGreatDoorNod
namespace Go.Proofs.YtojhkbbnkhfnhaaGreatDoor
attribute [local go_sem] Ya ZT ZV ZW ZO ZF ZM ZI ZK ZB ZC ZJ ZP ZQ ZX ZN ZG ZU Zp Zm Yg ZS Yq put lk Od.v Za ZE ZA YB Ym Yn Yo unx YE DV.isU DV.cells hget Yb Yj Yd ZL splice Ye mat Yi YD one_bool one_int one_str one_nilp one_ref one_elem one_nils one_list one_row one_nilm one_map one_nilf one_func one_nili one_ifc one_agg one_tup one_undef one_fresh
attribute [local go_sem ↓] ZH
set_option linter.unusedVariables false
set_option linter.unusedSimpArgs false
set_option maxRecDepth 10000
/-- Rows, each of which may be told in the heap. -/
def RowsG (H : ZD) (ds : List DV) (rs : List (List V)) : Prop := ds.length = rs.length ∧ ∀ (i : Nat) (d : DV) (vs : List V), ds[i]? = some d → rs[i]? = some vs → (∀ L, vw (H ++ L) 4 d = some (vs.map V.d)) ∧ d.one = true
theorem vw_shape {h : ZD} {sz : Nat} {d : DV} {xs : List DV} (hv : vw h sz d = some xs) : d = .nils ∨ (∃ s l c, d = .list s l c) ∨ ∃ o g lo n c, d = .row o g lo n c := by
  cases d <;> simp [vw] at hv ⊢
theorem RowsG.ext {H : ZD} {ds : List DV} {rs : List (List V)} (h : RowsG H ds rs) (G : ZD) : RowsG (H ++ G) ds rs := ⟨h.1, fun i d vs h1 h2 => ⟨fun L => by rw [List.append_assoc]; exact (h.2 i d vs h1 h2).1 _, (h.2 i d vs h1 h2).2⟩⟩
theorem loop41g {H : ZD} {A : DV} {ds : List DV} {rs : List (List V)} (x : N) {p q : Nat} (hp : H[p]? = some (.box 54 x.d.cells)) (hq : q < H.length) (hA : ∀ L, vw (H ++ L) 1 A = some ds) (hd : RowsG H ds rs) (hll : rs.length ≤ 1000000) :
    ∀ (m i : Nat) (w : DV) (h : ZD), rs.length - i ≤ m → i ≤ rs.length → MadeI h H w (leafI x rs i) →
      ∃ y ex w' h', C X (.loop lp41_0) [(3, .ref p 0), (4, .ref q 0), (5, w), (8, A), (9, .int .i64 rs.length), (10, .int .i64 i)] h = some (.exit 0, (3, .ref p 0) :: (4, .ref q 0) :: (5, w') :: (8, A) :: (9, .int .i64 rs.length) :: (10, y) :: ex, h') ∧
        MadeI h' H w' (leafI x rs rs.length) := by
  intro m
  induction m with
  | zero =>
    intro i w h hm hi hM
    obtain rfl : i = rs.length := by omega
    refine ⟨.int .i64 rs.length, [(11, .bool false)], w, h, ?_, hM⟩
    rw [Yh]
    unfold lp41_0
    (repeat (first | rw [Zj] | rw [Zc (by simp [go_sem]; exact ⟨rfl, rfl⟩)] | rw [Zv (by simp [lk, Za, Od.v]; exact rfl)] | rw [Zp] | rw [Zm] | rw [Zl] | rw [Zy] | rw [Zq] | rw [Zt] | rw [Zo] | rw [Zn] | rw [Zk] | rw [Zg] | rw [Zh] | rw [Zd (by decide)] | rw [Zi] | rw [Ze] | rw [Zf] | rw [Zb (by decide)] | rw [Zz] | rw [Zu (by simp [go_sem]; exact ⟨rfl, rfl⟩)] | rw [Zw (by simp [lk, Za, Od.v]; exact rfl)] | rw [Zx]))
    rw [Yx]
    simp [Za, lk]
  | succ m ih =>
    intro i w h hm hi hM
    by_cases c1 : i < rs.length
    · obtain ⟨I, hI⟩ : ∃ I, I = i + 1 := ⟨_, rfl⟩
      have w1 : IntKind.i64.wrap ((i : Int) + 1) = (I : Int) := (by rw [wrap64 _ (by omega) (by omega)]; omega)
      obtain ⟨L, hL⟩ := hM.ext
      have hv : vw h 1 A = some ds := by rw [hL]; exact hA _
      have hvs : rs[i]? = some rs[i] := List.getElem?_eq_getElem c1
      have c1' : i < ds.length := by rw [hd.1]; exact c1
      have hds : ds[i]? = some ds[i] := List.getElem?_eq_getElem c1'
      have hRow := hd.2 i _ _ hds hvs
      have hR : vw h 4 ds[i] = some (rs[i].map V.d) := by rw [hL]; exact hRow.1 _
      have hone := hRow.2
      have hpb : h[p]? = some (.box 54 x.d.cells) := by rw [hL]; exact hle hp _
      have hlf := leafI_succ x rs i hvs
      have hll' := leafI_len x rs i
      obtain ⟨w', h', ha, hM'⟩ := hM.app (by omega) i
      have hv2 := hM.vw []
      rw [List.append_nil] at hv2
      generalize rs[i] = vs at *
      obtain ⟨d, hdg⟩ : ∃ d, ds[i] = d := ⟨_, rfl⟩
      rw [hdg] at hds hR hone
      clear hRow
      generalize leafI x rs i = l at *
      have key : ∃ w' h', C X lp41_0 [(3, .ref p 0), (4, .ref q 0), (5, w), (8, A), (9, .int .i64 rs.length), (10, .int .i64 i)] h = some (.norm, [(3, .ref p 0), (4, .ref q 0), (5, w'), (8, A), (9, .int .i64 rs.length), (10, .int .i64 I)], h') ∧ MadeI h' H w' (leafI x rs I) := by
        rw [← hI] at hlf
        rw [hlf]
        clear ih hlf hA hd hll
        have e1 := fun v h => run75 x v h
        have z1 : ∀ h, vw h 1 (.list 1 [iD i] true) = some [iD i] := fun _ => rfl
        have z2 : ∀ h, srcOf h 1 (.list 1 [iD i] true) = some [iD i] := fun _ => rfl
        have z3 : Wc 1 (iD i) := by simp [Wc, DV.cells, DV.one]
        have z4 : Nr (iD i) := .int _ _
        have z5 : ∀ h, eltL [iD i] h = some ([iD i], h) := fun _ => rfl
        unfold leafP
        generalize hop : oneP x = op at e1 ⊢
        obtain ⟨ask, col, ⟨vk, vn, vs', vt⟩, xa, xb⟩ := x
        simp only [N.d, V.d, DV.cells] at hpb e1 ⊢
        by_cases c2 : 0 ≤ col
        · obtain ⟨j, rfl⟩ : ∃ j : Nat, col = j := ⟨col.toNat, by omega⟩
          by_cases c3 : j < vs.length
          · have hj : vs[(j : Int).toNat]? = some vs[j] := by simp [List.getElem?_eq_getElem c3]
            have hj2 : (vs.map V.d)[j]? = some vs[j].d := by simp [List.getElem?_eq_getElem c3]
            have e2 := e1 vs[j]
            rw [hj]
            cases hq : op vs[j]
            · rw [hq] at e2
              refine ⟨w, h, ?_, by simpa [hq] using hM⟩
              rcases vw_shape hR with rfl | ⟨s1, l1, cc, rfl⟩ | ⟨o1, g1, lo1, n1, cc, rfl⟩ <;> (unfold lp41_0; (repeat (first | rw [Zj] | rw [Zc (by simp [go_sem, c1, c1', w1, hv, hdg, hR, hone, hpb, c3, ZR, e2]; exact ⟨rfl, rfl⟩)] | rw [Zv (by simp [lk, Za, Od.v, c1, c1', w1, hv, hdg, hR, hone, hpb, c3, ZR, e2]; exact rfl)] | rw [Zp] | rw [Zm] | rw [Zl] | rw [Zy] | rw [Zq] | rw [Zt] | rw [Zo] | rw [Zn] | rw [Zk] | rw [Zg] | rw [Zh] | rw [Zd (by decide)] | rw [Zi] | rw [Ze] | rw [Zf] | rw [Zb (by decide)] | rw [Zz] | rw [Zu (by simp [go_sem, c1, c1', w1, hv, hdg, hR, hone, hpb, c3, ZR, e2]; exact ⟨rfl, rfl⟩)] | rw [Zw (by simp [lk, Za, Od.v, c1, c1', w1, hv, hdg, hR, hone, hpb, c3, ZR, e2]; exact rfl)] | rw [Zx])); simp [Za, lk])
            · rw [hq] at e2
              refine ⟨w', h', ?_, by simpa [hq] using hM'⟩
              rcases vw_shape hR with rfl | ⟨s1, l1, cc, rfl⟩ | ⟨o1, g1, lo1, n1, cc, rfl⟩ <;> (unfold lp41_0; (repeat (first | rw [Zj] | rw [Zc (by simp [go_sem, c1, c1', w1, hv, hv2, hdg, hR, hone, hpb, c3, ZR, e2, ha, z1, z2, z3, z4, z5]; exact ⟨rfl, rfl⟩)] | rw [Zv (by simp [lk, Za, Od.v, c1, c1', w1, hv, hv2, hdg, hR, hone, hpb, c3, ZR, e2, ha, z1, z2, z3, z4, z5]; exact rfl)] | rw [Zp] | rw [Zm] | rw [Zl] | rw [Zy] | rw [Zq] | rw [Zt] | rw [Zo] | rw [Zn] | rw [Zk] | rw [Zg] | rw [Zh] | rw [Zd (by decide)] | rw [Zi] | rw [Ze] | rw [Zf] | rw [Zb (by decide)] | rw [Zz] | rw [Zu (by simp [go_sem, c1, c1', w1, hv, hv2, hdg, hR, hone, hpb, c3, ZR, e2, ha, z1, z2, z3, z4, z5]; exact ⟨rfl, rfl⟩)] | rw [Zw (by simp [lk, Za, Od.v, c1, c1', w1, hv, hv2, hdg, hR, hone, hpb, c3, ZR, e2, ha, z1, z2, z3, z4, z5]; exact rfl)] | rw [Zx])); simp [Za, lk])
          · have hj : vs[(j : Int).toNat]? = none := by simp; omega
            rw [hj]
            refine ⟨w, h, ?_, by simpa using hM⟩
            rcases vw_shape hR with rfl | ⟨s1, l1, cc, rfl⟩ | ⟨o1, g1, lo1, n1, cc, rfl⟩ <;> (unfold lp41_0; (repeat (first | rw [Zj] | rw [Zc (by simp [go_sem, c1, c1', w1, hv, hdg, hR, hone, hpb, c3, ZR]; exact ⟨rfl, rfl⟩)] | rw [Zv (by simp [lk, Za, Od.v, c1, c1', w1, hv, hdg, hR, hone, hpb, c3, ZR]; exact rfl)] | rw [Zp] | rw [Zm] | rw [Zl] | rw [Zy] | rw [Zq] | rw [Zt] | rw [Zo] | rw [Zn] | rw [Zk] | rw [Zg] | rw [Zh] | rw [Zd (by decide)] | rw [Zi] | rw [Ze] | rw [Zf] | rw [Zb (by decide)] | rw [Zz] | rw [Zu (by simp [go_sem, c1, c1', w1, hv, hdg, hR, hone, hpb, c3, ZR]; exact ⟨rfl, rfl⟩)] | rw [Zw (by simp [lk, Za, Od.v, c1, c1', w1, hv, hdg, hR, hone, hpb, c3, ZR]; exact rfl)] | rw [Zx])); simp [Za, lk])
        · refine ⟨w, h, ?_, by simpa [c2] using hM⟩
          rcases vw_shape hR with rfl | ⟨s1, l1, cc, rfl⟩ | ⟨o1, g1, lo1, n1, cc, rfl⟩ <;> (unfold lp41_0; (repeat (first | rw [Zj] | rw [Zc (by simp [go_sem, c1, c1', w1, hv, hdg, hR, hone, hpb, c2, ZR]; exact ⟨rfl, rfl⟩)] | rw [Zv (by simp [lk, Za, Od.v, c1, c1', w1, hv, hdg, hR, hone, hpb, c2, ZR]; exact rfl)] | rw [Zp] | rw [Zm] | rw [Zl] | rw [Zy] | rw [Zq] | rw [Zt] | rw [Zo] | rw [Zn] | rw [Zk] | rw [Zg] | rw [Zh] | rw [Zd (by decide)] | rw [Zi] | rw [Ze] | rw [Zf] | rw [Zb (by decide)] | rw [Zz] | rw [Zu (by simp [go_sem, c1, c1', w1, hv, hdg, hR, hone, hpb, c2, ZR]; exact ⟨rfl, rfl⟩)] | rw [Zw (by simp [lk, Za, Od.v, c1, c1', w1, hv, hdg, hR, hone, hpb, c2, ZR]; exact rfl)] | rw [Zx])); simp [Za, lk])
      obtain ⟨w2, h2, hc, hM2⟩ := key
      rw [Yh, hc, Yw]
      exact ih I w2 h2 (by omega) (by omega) hM2
    · exact ih i w h (by omega) hi hM

theorem run41g {A : DV} {ds : List DV} {rs : List (List V)} {H : ZD} (x : N) (hA : ∀ L, vw (H ++ L) 1 A = some ds) (hd : RowsG H ds rs) (hll : rs.length ≤ 65536) : ∃ W, E X 41 [A, x.d] H = some (.agg [W], H) ∧ WL W (ofW (leafI x rs rs.length)) := by
  have hA2 : ∀ L, vw ((H ++ [.box 54 x.d.cells, .box 38 [.nils]]) ++ L) 1 A = some ds := fun L => by rw [List.append_assoc]; exact hA _
  obtain ⟨y, ex, O, h', c1, hM⟩ := loop41g (H := H ++ [.box 54 x.d.cells, .box 38 [.nils]]) x (p := H.length) (q := H.length + 1) (by simp) (by simp) hA2 (hd.ext _) (by omega) rs.length 0 .nils (H ++ [.box 54 x.d.cells, .box 38 [.nils]]) (by omega) (by omega) (.inl ⟨rfl, rfl, rfl⟩)
  have hlb := leafI_len x rs rs.length
  have hlt : ∀ k ∈ leafI x rs rs.length, k < 65536 := by
    intro k hk
    have := (List.mem_filter.1 hk).1
    rw [List.mem_range] at this
    omega
  obtain ⟨W, e1, hW⟩ := run76 (H := h') (fun L => hM.vw L) hlt (by omega)
  have g1 : h'[H.length + 1]? = some (.box 38 [.nils]) := by
    rcases hM with ⟨_, _, rfl⟩ | ⟨g, _, rfl⟩
    · simp [hget]
    · rw [List.append_assoc, hget]; rfl
  have g2 : h'.take H.length = H := by
    rcases hM with ⟨_, _, rfl⟩ | ⟨g, _, rfl⟩
    · exact List.take_left
    · rw [List.append_assoc, List.take_left]
  have g4 : H.length + 1 < h'.length := (List.getElem?_eq_some_iff.1 g1).1
  have g5 : (h'.set (H.length + 1) (.box 38 [W])).take H.length = H := by
    rw [List.take_set]
    rw [List.set_eq_of_length_le (by simp; omega)]
    exact g2
  have g3 : (h'.set (H.length + 1) (.box 38 [W]))[H.length + 1]? = some (.box 38 [W]) := List.getElem?_set_self g4
  have hf := fin_wl hW g5
  refine ⟨W, ?_, hW⟩
  have hv := hA [.box 54 x.d.cells, .box 38 [.nils]]
  have hl := hd.1
  clear hM hlt hlb hA hA2 g2 g4 g5
  generalize leafI x rs rs.length = l at *
  obtain ⟨ask, col, ⟨vk, vn, vs', vt⟩, xa, xb⟩ := x
  simp only [N.d, V.d, DV.cells] at *
  rw [← hl] at c1
  rw [show ((0 : Nat) : Int) = 0 from rfl] at c1
  rw [Yc (X := X) _ b41 _ rfl rfl]; unfold b41
  (repeat (first | rw [Zj] | rw [Zc (by simp [go_sem, hv]; exact ⟨rfl, rfl⟩)] | rw [Zv (by simp [lk, Za, Od.v, hv]; exact rfl)] | rw [Zp] | rw [Zm] | rw [Zl] | rw [Zy] | rw [Zq] | rw [Zt] | rw [Zo] | rw [Zn] | rw [Zk] | rw [Zg] | rw [Zh] | rw [Zd (by decide)] | rw [Zi] | rw [Ze] | rw [Zf] | rw [Zb (by decide)] | rw [Zz] | rw [Zu (by simp [go_sem, hv]; exact ⟨rfl, rfl⟩)] | rw [Zw (by simp [lk, Za, Od.v, hv]; exact rfl)] | rw [Zx]))
  (try simp only [Za, List.map_cons, List.map_nil, lk, reduceIte, Nat.reduceEqDiff, Nat.zero_ne_one, Nat.one_ne_zero])
  rw [c1]
  rcases hW with rfl | ⟨rfl, hn⟩
  · (repeat (first | rw [Zj] | rw [Zc (by simp [go_sem, g1, e1]; exact ⟨rfl, rfl⟩)] | rw [Zv (by simp [lk, Za, Od.v, g1, e1]; exact rfl)] | rw [Zp] | rw [Zm] | rw [Zl] | rw [Zy] | rw [Zq] | rw [Zt] | rw [Zo] | rw [Zn] | rw [Zk] | rw [Zg] | rw [Zh] | rw [Zd (by decide)] | rw [Zi] | rw [Ze] | rw [Zf] | rw [Zb (by decide)] | rw [Zz] | rw [Zu (by simp [go_sem, g1, e1]; exact ⟨rfl, rfl⟩)] | rw [Zw (by simp [lk, Za, Od.v, g1, e1]; exact rfl)] | rw [Zx]))
    simp [Zs, Zr, ZY, Za, lk, ZA, g3, YB]
    exact hf
  · (repeat (first | rw [Zj] | rw [Zc (by simp [go_sem, g1, e1]; exact ⟨rfl, rfl⟩)] | rw [Zv (by simp [lk, Za, Od.v, g1, e1]; exact rfl)] | rw [Zp] | rw [Zm] | rw [Zl] | rw [Zy] | rw [Zq] | rw [Zt] | rw [Zo] | rw [Zn] | rw [Zk] | rw [Zg] | rw [Zh] | rw [Zd (by decide)] | rw [Zi] | rw [Ze] | rw [Zf] | rw [Zb (by decide)] | rw [Zz] | rw [Zu (by simp [go_sem, g1, e1]; exact ⟨rfl, rfl⟩)] | rw [Zw (by simp [lk, Za, Od.v, g1, e1]; exact rfl)] | rw [Zx]))
    simp [Zs, Zr, ZY, Za, lk, ZA, g3, YB]
    exact hf
end Go.Proofs.YtojhkbbnkhfnhaaGreatDoor
