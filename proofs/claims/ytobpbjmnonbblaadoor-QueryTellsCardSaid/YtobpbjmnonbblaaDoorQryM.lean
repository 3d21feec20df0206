/- Ideal runs: slices.DeleteFunc, slices.Compact over numbers. -/
import Derived.Test.YtobpbjmnonbblaaDoorQryF
namespace Go.Proofs.YtobpbjmnonbblaaDoor
attribute [local go_sem] evOps evOp_n evOp_r evOp_d evOp_dr kpo_refl kpo_app cnd_some cnd_pair cnd_cnd_t cnd_cnd_f cnd_same cnd_dvb cnd_and cnd_or gd_bool gd_boolf gd_tup cnd_t cnd_f evTo isCall evx put lk Od.v keepEnv enterEnv ldx_ref rdc binx binI binS unx eqk DV.isU DV.cells hget hget0 hset hset0 stx_ref splice fillp mat eqcs eqs one_bool one_int one_str one_nilp one_ref one_elem one_nils one_list one_row one_nilm one_map one_nilf one_func one_nili one_ifc one_agg one_tup one_undef one_fresh
attribute [local go_sem ↓] evx_pick
set_option linter.unusedVariables false
set_option linter.unusedSimpArgs false
set_option maxRecDepth 10000
/-- A row of numbers. -/
def RowI (h : Heap) (o g : Nat) (l : List Int) : Prop := h[o]? = some (.row 3 1 g (l.map intD))
theorem RowI.vw {h : Heap} {o g lo n : Nat} {l : List Int} {c : Bool} (hr : RowI h o g l) (hn : lo + n ≤ l.length) : vw h 1 (.row o g lo n c) = some (((l.drop lo).take n).map intD) := by
  unfold RowI at hr
  simp only [Go.Proofs.YtobpbjmnonbblaaDoor.vw, hr]
  rw [if_pos ⟨trivial, trivial, by rw [List.length_map]; exact hn⟩, ← List.map_drop, ← List.map_take]
theorem RowI.st {h : Heap} {o g n i : Nat} {l : List Int} {c : Bool} (hr : RowI h o g l) (hn : n ≤ l.length) (hi : i < n) (x : Int) : stx h 1 (.elem (.row o g 0 n c) 1 i 0) (.int .i64 x) = some (h.set o (.row 3 1 g ((l.set i x).map intD))) := by
  unfold RowI at hr
  have hx : (l.map intD)[i]? = some (intD (l[i]'(by omega))) := by rw [List.getElem?_map, List.getElem?_eq_getElem (by omega)]; rfl
  simp only [stx, DV.cells, hr, Nat.zero_add, List.length_cons, List.length_nil, List.all_cons, List.all_nil, DV.one, Bool.and_self, and_self, if_true]
  rw [if_pos ⟨trivial, trivial, by rw [List.length_map]; omega, hi⟩, hx]
  simp [eput, DV.one, List.map_set]
theorem RowI.set {h : Heap} {o g : Nat} {l : List Int} (hr : RowI h o g l) (l' : List Int) : RowI (h.set o (.row 3 1 g (l'.map intD))) o g l' :=
  List.getElem?_set_self (List.getElem?_eq_some_iff.1 hr).1
theorem RowI.self {h : Heap} {o g : Nat} {l : List Int} (hr : RowI h o g l) : h.set o (.row 3 1 g (l.map intD)) = h := by
  obtain ⟨hlt, he⟩ := List.getElem?_eq_some_iff.1 hr
  rw [← he]
  exact List.set_getElem_self hlt
theorem set_set_row (h : Heap) (o : Nat) (x y : HO) : (h.set o x).set o y = h.set o y := List.set_set _
theorem fin_row {h h' : Heap} {o g lo m : Nat} {c : Bool} (ho : o < h.length) (hl : h'.length = h.length) : fin h h' [.row o g lo m c] = (.row o g lo m c, h') := by
  simp only [fin]
  by_cases ht : h'.take h.length = h
  · rw [if_pos ht]
    rw [← hl, List.take_length] at ht
    subst ht
    simp [fz1, fz0, ho]
  · rw [if_neg ht]
theorem filter_take_succ (P : Int → Bool) (xs : List Int) (j : Nat) (hj : j < xs.length) : (xs.take (j + 1)).filter P = (xs.take j).filter P ++ (if P xs[j] = true then [xs[j]] else []) := by
  rw [← List.take_append_getElem hj, List.filter_append]
  congr 1
  by_cases h : P xs[j] = true <;> simp [h]
theorem filter_take_le (P : Int → Bool) (xs : List Int) (j : Nat) : ((xs.take j).filter P).length ≤ j := by
  have h1 := List.length_filter_le P (xs.take j)
  have h2 : (xs.take j).length ≤ j := by rw [List.length_take]; omega
  omega
theorem loop30 {H : Heap} {xs : List Int} {f o g : Nat} {P : Int → Bool} (hF : ∀ x h, E X f [intD x] h = some (.bool (P x), h)) (hb : xs.length ≤ 1000000) :
    ∀ (k i j : Nat) (cur : List Int), xs.length - j ≤ k → j ≤ xs.length → i < j → RowI (H.set o (.row 3 1 g (cur.map intD))) o g cur → cur.length = xs.length → cur.take i = (xs.take j).filter (fun x => !P x) → i = ((xs.take j).filter (fun x => !P x)).length → cur.drop j = xs.drop j →
    ∃ i' cur' ex, C X (.loop lp30_0) [(0, .row o g 0 xs.length false), (1, .func f [] []), (5, .int .i64 i), (6, .int .i64 j)] (H.set o (.row 3 1 g (cur.map intD))) = some (.exit 0, (0, .row o g 0 xs.length false) :: (1, .func f [] []) :: (5, .int .i64 (i' : Nat)) :: ex, H.set o (.row 3 1 g (cur'.map intD))) ∧
      i' < xs.length ∧ RowI (H.set o (.row 3 1 g (cur'.map intD))) o g cur' ∧ cur'.length = xs.length ∧ cur'.take i' = xs.filter (fun x => !P x) ∧ i' = (xs.filter (fun x => !P x)).length := by
  intro k
  induction k with
  | zero =>
    intro i j cur hk hj hij hr hcl ht hi hd
    obtain rfl : j = xs.length := by omega
    rw [List.take_length] at ht hi
    refine ⟨i, cur, [(6, .int .i64 xs.length), (19, .bool false)], ?_, hij, hr, hcl, ht, hi⟩
    have hv := hr.vw (c := false) (lo := 0) (n := xs.length) (by omega)
    have hln : ((List.take xs.length (List.drop 0 cur)).map intD).length = xs.length := by simp [hcl]
    generalize (List.take xs.length (List.drop 0 cur)).map intD = vl at hv hln
    rw [t_loop]
    unfold lp30_0
    (repeat (first | rw [s_assoc] | rw [s_seq_reg (by simp [go_sem, hv, hln]; exact ⟨rfl, rfl⟩)] | rw [s_cnd (by simp [lk, keepEnv, Od.v, hv, hln]; exact rfl)] | rw [cnd_t] | rw [cnd_f] | rw [s_skip] | rw [s_ret] | rw [s_exit] | rw [C_ret] | rw [C_exit] | rw [C_skip] | rw [blk_ret] | rw [blk_norm] | rw [blk_exit] | rw [blk_exit' (by decide)] | rw [blkT_ret] | rw [blkT_norm] | rw [blkT_exit] | rw [blkT_exit' (by decide)] | rw [s_blk] | rw [s_reg (by simp [go_sem, hv, hln]; exact ⟨rfl, rfl⟩)] | rw [t_cnd (by simp [lk, keepEnv, Od.v, hv, hln]; exact rfl)] | rw [t_blk]))
    rw [lp_exit]
    simp [keepEnv, lk]
  | succ k ih =>
    intro i j cur hk hj hij hr hcl ht hi hd
    by_cases c : j < xs.length
    · obtain ⟨J, hJ⟩ : ∃ J, J = j + 1 := ⟨_, rfl⟩
      have z1 : IntKind.i64.wrap ((j : Int) + 1) = (J : Int) := (by rw [wrap64 _ (by omega) (by omega)]; omega)
      obtain ⟨x, hx⟩ : ∃ x, x = xs[j] := ⟨_, rfl⟩
      have hcj : cur[j]? = some x := by
        have : (cur.drop j)[0]? = (xs.drop j)[0]? := by rw [hd]
        rw [List.getElem?_drop, List.getElem?_drop, Nat.add_zero] at this
        rw [this, hx]; exact List.getElem?_eq_getElem c
      have hv := hr.vw (c := false) (lo := 0) (n := xs.length) (by omega)
      have hx' : ((List.take xs.length (List.drop 0 cur)).map intD)[j]? = some (intD x) := by
        rw [List.drop_zero, List.take_of_length_le (by omega), List.getElem?_map, hcj]; rfl
      have hln : ((List.take xs.length (List.drop 0 cur)).map intD).length = xs.length := by simp [hcl]
      have hst := hr.st (c := false) (n := xs.length) (by omega) (show i < xs.length by omega) x
      rw [set_set_row] at hst
      have hfx := hF x (H.set o (.row 3 1 g (cur.map intD)))
      have hfs := filter_take_succ (fun x => !P x) xs j c
      rw [← hx, ← hJ] at hfs
      have hij2 : i < xs.length := by omega
      cases hp : P x with
      | true =>
        rw [hp] at hfx
        rw [hp] at hfs
        simp only [Bool.not_true, Bool.false_eq_true, if_false, List.append_nil] at hfs
        have hIH := ih i J cur (by omega) (by omega) (by omega) hr hcl (by rw [hfs]; exact ht) (by rw [hfs]; exact hi) (by rw [hJ, ← List.drop_drop, hd, List.drop_drop])
        have hs : C X lp30_0 [(0, .row o g 0 xs.length false), (1, .func f [] []), (5, .int .i64 i), (6, .int .i64 j)] (H.set o (.row 3 1 g (cur.map intD))) = some (.norm, [(0, .row o g 0 xs.length false), (1, .func f [] []), (5, .int .i64 i), (6, .int .i64 J)], H.set o (.row 3 1 g (cur.map intD))) := by
          clear ih hIH hst hr hd hx hfs ht hi
          generalize H.set o (.row 3 1 g (cur.map intD)) = h at *
          generalize (List.take xs.length (List.drop 0 cur)).map intD = vl at *
          simp only [intD] at *
          have hge : ∀ pf : j < vl.length, vl[j]'pf = .int .i64 x := fun pf => by have := List.getElem?_eq_getElem pf; rw [hx'] at this; exact (Option.some.inj this).symm
          unfold lp30_0
          (repeat (first | rw [s_assoc] | rw [s_seq_reg (by simp [go_sem, c, z1, hv, hx', hge, hln, hfx, ldx]; exact ⟨rfl, rfl⟩)] | rw [s_cnd (by simp [lk, keepEnv, Od.v, c, z1, hv, hx', hge, hln, hfx, ldx]; exact rfl)] | rw [cnd_t] | rw [cnd_f] | rw [s_skip] | rw [s_ret] | rw [s_exit] | rw [C_ret] | rw [C_exit] | rw [C_skip] | rw [blk_ret] | rw [blk_norm] | rw [blk_exit] | rw [blk_exit' (by decide)] | rw [blkT_ret] | rw [blkT_norm] | rw [blkT_exit] | rw [blkT_exit' (by decide)] | rw [s_blk] | rw [s_reg (by simp [go_sem, c, z1, hv, hx', hge, hln, hfx, ldx]; exact ⟨rfl, rfl⟩)] | rw [t_cnd (by simp [lk, keepEnv, Od.v, c, z1, hv, hx', hge, hln, hfx, ldx]; exact rfl)] | rw [t_blk]))
          simp [keepEnv, lk]
        rw [t_loop, hs, lp_norm]
        exact hIH
      | false =>
        rw [hp] at hfx
        rw [hp] at hfs
        simp only [Bool.not_false, if_true] at hfs
        obtain ⟨I, hI⟩ : ∃ I, I = i + 1 := ⟨_, rfl⟩
        have z2 : IntKind.i64.wrap ((i : Int) + 1) = (I : Int) := (by rw [wrap64 _ (by omega) (by omega)]; omega)
        have hr2 := hr.set (cur.set i x)
        rw [set_set_row] at hr2
        have hIH := ih I J (cur.set i x) (by omega) (by omega) (by omega) hr2 (by rw [List.length_set]; exact hcl)
          (by rw [hI, List.take_add_one, List.take_set_of_le (Nat.le_refl _), List.getElem?_set_self (by omega), hfs, ht]; rfl)
          (by rw [hfs, List.length_append, ← hi, hI]; rfl)
          (by rw [List.drop_set_of_lt (by omega), hJ, ← List.drop_drop, hd, List.drop_drop])
        have hs : C X lp30_0 [(0, .row o g 0 xs.length false), (1, .func f [] []), (5, .int .i64 i), (6, .int .i64 j)] (H.set o (.row 3 1 g (cur.map intD))) = some (.norm, [(0, .row o g 0 xs.length false), (1, .func f [] []), (5, .int .i64 I), (6, .int .i64 J)], H.set o (.row 3 1 g ((cur.set i x).map intD))) := by
          clear ih hIH hr hr2 hd hx hfs ht hi
          generalize H.set o (.row 3 1 g ((cur.set i x).map intD)) = h2 at *
          generalize H.set o (.row 3 1 g (cur.map intD)) = h at *
          generalize (List.take xs.length (List.drop 0 cur)).map intD = vl at *
          simp only [intD] at *
          have hge : ∀ pf : j < vl.length, vl[j]'pf = .int .i64 x := fun pf => by have := List.getElem?_eq_getElem pf; rw [hx'] at this; exact (Option.some.inj this).symm
          unfold lp30_0
          (repeat (first | rw [s_assoc] | rw [s_seq_reg (by simp [go_sem, c, z1, z2, hv, hx', hge, hln, hfx, hst, hij2, ldx]; exact ⟨rfl, rfl⟩)] | rw [s_cnd (by simp [lk, keepEnv, Od.v, c, z1, z2, hv, hx', hge, hln, hfx, hst, hij2, ldx]; exact rfl)] | rw [cnd_t] | rw [cnd_f] | rw [s_skip] | rw [s_ret] | rw [s_exit] | rw [C_ret] | rw [C_exit] | rw [C_skip] | rw [blk_ret] | rw [blk_norm] | rw [blk_exit] | rw [blk_exit' (by decide)] | rw [blkT_ret] | rw [blkT_norm] | rw [blkT_exit] | rw [blkT_exit' (by decide)] | rw [s_blk] | rw [s_reg (by simp [go_sem, c, z1, z2, hv, hx', hge, hln, hfx, hst, hij2, ldx]; exact ⟨rfl, rfl⟩)] | rw [t_cnd (by simp [lk, keepEnv, Od.v, c, z1, z2, hv, hx', hge, hln, hfx, hst, hij2, ldx]; exact rfl)] | rw [t_blk]))
          simp [keepEnv, lk]
        rw [t_loop, hs, lp_norm]
        exact hIH
    · exact ih i j cur (by omega) hj hij hr hcl ht hi hd
/-- What is left, then zeros. -/
def delR (P : Int → Bool) (xs : List Int) : List Int := xs.filter (fun x => !P x) ++ List.replicate (xs.length - (xs.filter (fun x => !P x)).length) 0
theorem fidx_spec (P : Int → Bool) : ∀ (xs : List Int) (i : Nat), (fidx P xs i = -1 ∧ xs.filter (fun x => !P x) = xs) ∨ ∃ j : Nat, fidx P xs i = ((i + j : Nat) : Int) ∧ j < xs.length ∧ (xs.take (j + 1)).filter (fun x => !P x) = xs.take j
  | [], _ => .inl ⟨rfl, rfl⟩
  | x :: l, i => by
    rw [fidx]
    cases hp : P x
    · simp only [Bool.false_eq_true, if_false]
      rcases fidx_spec P l (i + 1) with ⟨h1, h2⟩ | ⟨j, h1, h2, h3⟩
      · exact .inl ⟨h1, by rw [List.filter_cons_of_pos (by simp [hp]), h2]⟩
      · refine .inr ⟨j + 1, by rw [h1]; omega, by simpa using h2, ?_⟩
        rw [List.take_succ_cons, List.take_succ_cons, List.filter_cons_of_pos (by simp [hp]), h3]
    · simp only [if_true]
      exact .inr ⟨0, by simp, by simp, by simp [hp]⟩
set_option maxHeartbeats 1000000 in
theorem run30 {H : Heap} {xs : List Int} {f o g : Nat} {P : Int → Bool} (hF : ∀ x h, E X f [intD x] h = some (.bool (P x), h)) (hb : xs.length ≤ 1000000) (hr : RowI H o g xs) :
    E X 30 [.row o g 0 xs.length false, .func f [] []] H = some (.row o g 0 (xs.filter (fun x => !P x)).length false, H.set o (.row 3 1 g ((delR P xs).map intD))) := by
  have hv := hr.vw (c := false) (lo := 0) (n := xs.length) (by omega)
  rw [List.drop_zero, List.take_length] at hv
  have e44 := run44 (cap := []) hv (fun x _ => hF x H) hb
  have hlt : o < H.length := (List.getElem?_eq_some_iff.1 hr).1
  rcases fidx_spec P xs 0 with ⟨h1, h2⟩ | ⟨j, h1, h2, h3⟩
  · rw [h1] at e44
    have hde : delR P xs = xs := by unfold delR; rw [h2]; simp
    rw [hde, hr.self, h2]
    rw [E_go (X := X) _ b30 _ rfl rfl]; unfold b30; (repeat (first | rw [s_assoc] | rw [s_seq_reg (by simp [go_sem, e44, hlt]; exact ⟨rfl, rfl⟩)] | rw [s_cnd (by simp [lk, keepEnv, Od.v, e44, hlt]; exact rfl)] | rw [cnd_t] | rw [cnd_f] | rw [s_skip] | rw [s_ret] | rw [s_exit] | rw [C_ret] | rw [C_exit] | rw [C_skip] | rw [blk_ret] | rw [blk_norm] | rw [blk_exit] | rw [blk_exit' (by decide)] | rw [blkT_ret] | rw [blkT_norm] | rw [blkT_exit] | rw [blkT_exit' (by decide)] | rw [s_blk] | rw [s_reg (by simp [go_sem, e44, hlt]; exact ⟨rfl, rfl⟩)] | rw [t_cnd (by simp [lk, keepEnv, Od.v, e44, hlt]; exact rfl)] | rw [t_blk])); simp [ends_ret, ends_norm, resL, go_sem, fin, fz0, fz1, fzT, fzL, nlt, e44, hlt]
  · rw [h1, Nat.zero_add] at e44
    obtain ⟨J, hJ⟩ : ∃ J, J = j + 1 := ⟨_, rfl⟩
    have z1 : IntKind.i64.wrap ((j : Int) + 1) = (J : Int) := (by rw [wrap64 _ (by omega) (by omega)]; omega)
    have hself := hr.self
    rw [← hJ] at h3
    obtain ⟨i', cur', ex, hc, c1, c2, c3, c4, c5⟩ := loop30 (H := H) (o := o) (g := g) hF hb (xs.length) j J xs (by omega) (by omega) (by omega) (by rw [hself]; exact hr) rfl h3.symm (by rw [h3, List.length_take]; omega) rfl
    rw [hself] at hc
    have d1 : ((j : Int) == -1) = false := by simp
    have hv2 := c2.vw (c := false) (lo := 0) (n := xs.length) (by omega)
    have hln : ((List.take xs.length (List.drop 0 cur')).map intD).length = xs.length := by simp [c3]
    generalize (List.take xs.length (List.drop 0 cur')).map intD = vl at hv2 hln
    have hfr := c2
    unfold RowI at hfr
    have hz : Wc 1 (.int .i64 0) := by simp [Wc, DV.cells, DV.one]
    have hn0 : ¬ xs.length - i' = 0 := by omega
    have hin : i' + (xs.length - i') ≤ cur'.length := by omega
    have hile : i' ≤ xs.length := by omega
    have hcl : H.set o (.row 3 1 g ((cur'.map intD).take i' ++ (List.replicate (xs.length - i') (.int .i64 0) ++ (cur'.map intD).drop xs.length))) = H.set o (.row 3 1 g ((delR P xs).map intD)) := by
      have : (cur'.map intD).take i' ++ (List.replicate (xs.length - i') (.int .i64 0) ++ (cur'.map intD).drop xs.length) = (delR P xs).map intD := by
        rw [← List.map_take, c4, List.drop_of_length_le (by rw [List.length_map]; omega)]
        unfold delR
        rw [← c5]
        simp
      rw [this]
    have hv3 : vw (H.set o (.row 3 1 g ((delR P xs).map intD))) 1 (.row o g 0 xs.length false) = some ((delR P xs).map intD) := by
      have hdl : (delR P xs).length = xs.length := by unfold delR; rw [List.length_append, List.length_replicate]; omega
      have := (hr.set (delR P xs)).vw (c := false) (lo := 0) (n := xs.length) (by omega)
      rw [this, List.drop_zero, List.take_of_length_le (by omega)]
    have hdl2 : ((delR P xs).map intD).length = xs.length := by unfold delR; rw [List.length_map, List.length_append, List.length_replicate]; omega
    rw [← c5]
    have hcl2 : (cur'.map intD).length = xs.length := by rw [List.length_map]; exact c3
    have hfin := fin_row (h := H) (h' := H.set o (.row 3 1 g ((delR P xs).map intD))) (g := g) (lo := 0) (m := i') (c := false) hlt (by simp)
    generalize (delR P xs).map intD = dl at *
    generalize cur'.map intD = cl at *
    clear c2 c4 c5 hself hr

    rw [E_go (X := X) _ b30 _ rfl rfl]; unfold b30
    (repeat (first | rw [s_assoc] | rw [s_seq_reg (by simp [go_sem, e44, d1, z1]; exact ⟨rfl, rfl⟩)] | rw [s_cnd (by simp [lk, keepEnv, Od.v, e44, d1, z1]; exact rfl)] | rw [cnd_t] | rw [cnd_f] | rw [s_skip] | rw [s_ret] | rw [s_exit] | rw [C_ret] | rw [C_exit] | rw [C_skip] | rw [blk_ret] | rw [blk_norm] | rw [blk_exit] | rw [blk_exit' (by decide)] | rw [blkT_ret] | rw [blkT_norm] | rw [blkT_exit] | rw [blkT_exit' (by decide)] | rw [s_blk] | rw [s_reg (by simp [go_sem, e44, d1, z1]; exact ⟨rfl, rfl⟩)] | rw [t_cnd (by simp [lk, keepEnv, Od.v, e44, d1, z1]; exact rfl)] | rw [t_blk]))
    (try simp only [keepEnv, List.map_cons, List.map_nil, lk, reduceIte, Nat.reduceEqDiff, Nat.zero_ne_one, Nat.one_ne_zero])
    rw [hc]
    (repeat (first | rw [s_assoc] | rw [s_seq_reg (by simp [go_sem, hv2, hln, hfr, hz, hn0, hin, hile, hcl, hcl2, hv3, hdl2, slcx, intAt, cutx]; exact ⟨rfl, rfl⟩)] | rw [s_cnd (by simp [lk, keepEnv, Od.v, hv2, hln, hfr, hz, hn0, hin, hile, hcl, hcl2, hv3, hdl2, slcx, intAt, cutx]; exact rfl)] | rw [cnd_t] | rw [cnd_f] | rw [s_skip] | rw [s_ret] | rw [s_exit] | rw [C_ret] | rw [C_exit] | rw [C_skip] | rw [blk_ret] | rw [blk_norm] | rw [blk_exit] | rw [blk_exit' (by decide)] | rw [blkT_ret] | rw [blkT_norm] | rw [blkT_exit] | rw [blkT_exit' (by decide)] | rw [s_blk] | rw [s_reg (by simp [go_sem, hv2, hln, hfr, hz, hn0, hin, hile, hcl, hcl2, hv3, hdl2, slcx, intAt, cutx]; exact ⟨rfl, rfl⟩)] | rw [t_cnd (by simp [lk, keepEnv, Od.v, hv2, hln, hfr, hz, hn0, hin, hile, hcl, hcl2, hv3, hdl2, slcx, intAt, cutx]; exact rfl)] | rw [t_blk]))

    simp [ends_ret, ends_norm, resL, lk, keepEnv, hfin]
end Go.Proofs.YtobpbjmnonbblaaDoor
