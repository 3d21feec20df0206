/- Ideal runs. -/
import Derived.Test.YtmbgfbomgbdjeaaGreatDoorStep
import Derived.Test.YtmbgfbomgbdjeaaGreatDoorColX
import Derived.Test.YtmbgfbomgbdjeaaGreatDoorFltR
import Derived.Test.YtmbgfbomgbdjeaaGreatDoorQryA
import Derived.Test.YtmbgfbomgbdjeaaGreatDoorSrtI
namespace Go.Proofs.YtmbgfbomgbdjeaaGreatDoor
attribute [local go_sem] ZK ZF ZE ZG Zs Zi Zp Zl Zn Ze Zf Zm Zt Zu ZH Zr Zj ZD Zz Zy ZW ZA Yo put lk Od.v Za Zg Zo aj Yd Ye Yc au eqk DV.isU DV.cells ae ZP Ya ZO Zq splice ZQ af ZX eqs bh bV bQ aV bS bg aU aZ bR aW bU aY bf aX bW bY bP YA YB
attribute [local go_sem ↓] Zk
set_option linter.unusedVariables false
set_option linter.unusedSimpArgs false
set_option maxRecDepth 10000
theorem Bi {h : Zb} {r t n : Nat} {ds : List DV} (h1 : h[r]? = some (.row t 1 0 ds)) (hn : ds.length = n) {i : Nat} {d : DV} (hd : ds[i]? = some d) (aP : d.one = true) {e : DV} (he : e.one = true) (Vi : e.cells = [e]) : stx h 1 (.elem (.row r 0 0 n false) 1 i 0) e = some (h.set r (.row t 1 0 (ds.set i e))) := by
 subst hn
 have hi := (List.getElem?_eq_some_iff.1 hd).1
 rw [stx, if_pos (by simp [Vi, he])]
 simp only [h1]
 rw [if_pos (by simp [hi])]
 simp only [Nat.zero_add, hd]
 cases d <;> simp [DV.one] at aP <;> simp [pz, he]
structure AcrI (H0 h : Zb) (ds : List DV) (rs : List (List V)) : Prop where
 pre : h.take H0.length = H0
 row : h[H0.length]? = some (.row 45 1 0 ds)
 len : ds.length = rs.length
 each : ∀ (i : Nat) (d : DV) (vs : List V), ds[i]? = some d → rs[i]? = some vs → (d = .nils ∧ vs = []) ∨ ∃ o g, d = .row o g 0 vs.length false ∧ H0.length < o ∧ h[o]? = some (.row 56 4 g (vs.map V.d))
 dis : ∀ (i j o g m g' m' : Nat), ds[i]? = some (.row o g 0 m false) → ds[j]? = some (.row o g' 0 m' false) → i = j
theorem AcrI.ext {H0 h : Zb} {ds : List DV} {rs : List (List V)} (a : AcrI H0 h ds rs) (G : Zb) : AcrI H0 (h ++ G) ds rs where
 pre := by rw [List.take_append_of_le_length (eI a.pre)]; exact a.pre
 row := hle a.row G
 len := a.len
 each := fun i d vs h1 h2 => by
  rcases a.each i d vs h1 h2 with h3 | ⟨o, g, h3, h4, h5⟩
  ·exact .inl h3
  ·exact .inr ⟨o, g, h3, h4, hle h5 G⟩
 dis := a.dis
theorem AcrI.vwo {H0 h : Zb} {ds : List DV} {rs : List (List V)} (a : AcrI H0 h ds rs) : vw h 1 (.row H0.length 0 0 ds.length false) = some ds := by
 simp [vw, a.row]
theorem AcrI.vwi {H0 h : Zb} {ds : List DV} {rs : List (List V)} (a : AcrI H0 h ds rs) {i : Nat} {d : DV} {vs : List V} (h1 : ds[i]? = some d) (h2 : rs[i]? = some vs) : vw h 4 d = some (vs.map V.d) ∧ d.one = true := by
 rcases a.each i d vs h1 h2 with ⟨rfl, rfl⟩ | ⟨o, g, rfl, h4, h5⟩
 ·exact ⟨rfl, rfl⟩
 ·exact ⟨wH h5 rfl, rfl⟩
theorem AcrI.rows {H0 h : Zb} {ds : List DV} {rs : List (List V)} (a : AcrI H0 h ds rs) : cF h ds rs := ⟨a.len, fun i d vs h1 h2 => ⟨fun L => ((a.ext L).vwi h1 h2).1, (a.vwi h1 h2).2⟩⟩
theorem AcrI.app {H0 h : Zb} {ds : List DV} {rs : List (List V)} (a : AcrI H0 h ds rs) {i : Nat} {d : DV} {vs : List V} (h1 : ds[i]? = some d) (h2 : rs[i]? = some vs) (v : V) (hb : vs.length ≤ 1000) :
 ∃ d' h' h'', bE h 56 4 40 d (vs.map V.d) [v.d] = some (d', h') ∧ (∃ o g m, d' = .row o g 0 m false) ∧ vw h' 1 (.row H0.length 0 0 ds.length false) = some ds ∧ stx h' 1 (.elem (.row H0.length 0 0 ds.length false) 1 i 0) d' = some h'' ∧ AcrI H0 h'' (ds.set i d') (rs.set i (vs ++ [v])) := by
 have hH := eI a.pre
 have hR := (List.getElem?_eq_some_iff.1 a.row).1
 have hi := (List.getElem?_eq_some_iff.1 h1).1
 have hi2 := (List.getElem?_eq_some_iff.1 h2).1
 have Wq := (a.vwi h1 h2).2
 rcases a.each i d vs h1 h2 with ⟨rfl, rfl⟩ | ⟨o, g, rfl, h4, h5⟩
 ·refine ⟨.row h.length 0 0 1 false, h ++ [HO.row 56 4 0 [v.d]], (h ++ [HO.row 56 4 0 [v.d]]).set H0.length (.row 45 1 0 (ds.set i (.row h.length 0 0 1 false))), ?_, ⟨_, _, _, rfl⟩, by simp [vw, hle a.row _], ?_, ?_⟩
  ·simp only [bE]
   rw [if_neg (by simp), if_pos (by simp)]
   rfl
  ·exact Bi (hle a.row _) rfl h1 rfl rfl rfl
  ·refine ⟨?_, ?_, ?_, ?_, ?_⟩
   ·rw [List.take_set_of_le (Nat.le_refl _), List.take_append_of_le_length hH]; exact a.pre
   ·rw [List.getElem?_set_self (by simp; omega)]
   ·simp [a.len]
   ·intro j e ws q1 q2
    by_cases c : i = j
    ·subst c
     rw [List.getElem?_set_self hi] at q1
     rw [List.getElem?_set_self hi2] at q2
     injection q1 with q1
     injection q2 with q2
     subst q1; subst q2
     refine .inr ⟨h.length, 0, rfl, by omega, ?_⟩
     rw [List.getElem?_set_ne (by omega)]
     simp
    ·rw [List.getElem?_set_ne c] at q1 q2
     rcases a.each j e ws q1 q2 with q3 | ⟨o, g, q3, q4, q5⟩
     ·exact .inl q3
     ·refine .inr ⟨o, g, q3, q4, ?_⟩
      rw [List.getElem?_set_ne (by omega)]
      exact hle q5 _
   ·intro p q o g m g' m' q1 q2
    have old : ∀ (j o g m : Nat), ds[j]? = some (.row o g 0 m false) → o < h.length := fun j o g m hj => by
     have vl := (List.getElem?_eq_some_iff.1 hj).1
     obtain ⟨ws, hws⟩ : ∃ ws, rs[j]? = some ws := ⟨rs[j]'(by rw [← a.len]; exact vl), List.getElem?_eq_getElem _⟩
     rcases a.each j _ ws hj hws with ⟨q, _⟩ | ⟨o2, g2, q3, _, q5⟩
     ·cases q
     ·injection q3 with q3 _ _ _ _
      subst q3
      exact (List.getElem?_eq_some_iff.1 q5).1
    by_cases c1 : i = p
    ·by_cases c2 : i = q
     ·omega
     ·subst c1
      rw [List.getElem?_set_self hi] at q1
      rw [List.getElem?_set_ne c2] at q2
      injection q1 with q1
      injection q1 with q1 _ _ _ _
      have := old q o g' m' q2
      omega
    ·by_cases c2 : i = q
     ·subst c2
      rw [List.getElem?_set_self hi] at q2
      rw [List.getElem?_set_ne c1] at q1
      injection q2 with q2
      injection q2 with q2 _ _ _ _
      have := old p o g m q1
      omega
     ·rw [List.getElem?_set_ne c1] at q1
      rw [List.getElem?_set_ne c2] at q2
      exact a.dis p q o g m g' m' q1 q2
 ·have ho := (List.getElem?_eq_some_iff.1 h5).1
  have JX : (h.set o (.row 56 4 (g + 1) (vs.map V.d ++ [v.d])))[H0.length]? = some (.row 45 1 0 ds) := by rw [List.getElem?_set_ne (by omega)]; exact a.row
  refine ⟨.row o (g + 1) 0 (vs.length + 1) false, h.set o (.row 56 4 (g + 1) (vs.map V.d ++ [v.d])), (h.set o (.row 56 4 (g + 1) (vs.map V.d ++ [v.d]))).set H0.length (.row 45 1 0 (ds.set i (.row o (g + 1) 0 (vs.length + 1) false))), ?_, ⟨_, _, _, rfl⟩, by simp [vw, JX], ?_, ?_⟩
  ·simp only [bE]
   rw [if_neg (by simp), if_pos (by simp; omega)]
   simp [h5]
  ·exact Bi JX rfl h1 rfl rfl rfl
  ·refine ⟨?_, ?_, ?_, ?_, ?_⟩
   ·rw [List.take_set_of_le (Nat.le_refl _), List.take_set_of_le (by omega)]; exact a.pre
   ·rw [List.getElem?_set_self (by simp; omega)]
   ·simp [a.len]
   ·intro j e ws q1 q2
    by_cases c : i = j
    ·subst c
     rw [List.getElem?_set_self hi] at q1
     rw [List.getElem?_set_self hi2] at q2
     injection q1 with q1
     injection q2 with q2
     subst q1; subst q2
     refine .inr ⟨o, g + 1, by simp, h4, ?_⟩
     rw [List.getElem?_set_ne (by omega), List.getElem?_set_self ho]
     simp
    ·rw [List.getElem?_set_ne c] at q1 q2
     rcases a.each j e ws q1 q2 with q3 | ⟨o2, g2, q3, q4, q5⟩
     ·exact .inl q3
     ·refine .inr ⟨o2, g2, q3, q4, ?_⟩
      have : o ≠ o2 := fun he => c (a.dis i j o g _ g2 _ h1 (by rw [q1, q3, he]))
      rw [List.getElem?_set_ne (by omega), List.getElem?_set_ne this]
      exact q5
   ·intro p q o2 g2 m g' m' q1 q2
    have back : ∀ (j : Nat) (m2 g3 : Nat), (ds.set i (.row o (g + 1) 0 (vs.length + 1) false))[j]? = some (.row o2 g3 0 m2 false) → ∃ g4 m4, ds[j]? = some (.row o2 g4 0 m4 false) := fun j m2 g3 hj => by
     by_cases c : i = j
     ·subst c
      rw [List.getElem?_set_self hi] at hj
      injection hj with hj
      injection hj with hj _ _ _ _
      exact ⟨g, vs.length, by rw [← hj]; exact h1⟩
     ·rw [List.getElem?_set_ne c] at hj
      exact ⟨_, _, hj⟩
    obtain ⟨_, _, b1⟩ := back p _ _ q1
    obtain ⟨_, _, b2⟩ := back q _ _ q2
    exact a.dis p q o2 _ _ _ _ b1 b2
def je (rs : List (List V)) (vals : List V) (i : Nat) : List (List V) := (List.range rs.length).map fun j => if j < i then rs.getD j [] ++ [vals.getD j v0] else rs.getD j []
theorem qQ (rs : List (List V)) (vals : List V) (i : Nat) : (je rs vals i).length = rs.length := by simp [je]
theorem Gw (rs : List (List V)) (vals : List V) : je rs vals 0 = rs := by
 unfold je
 apply List.ext_getElem
 ·simp
 ·intro j h1 h2
  simp [List.getD_eq_getElem?_getD, List.getElem?_eq_getElem h2]
theorem Je (rs : List (List V)) (vals : List V) {i : Nat} (hi : i < rs.length) : (je rs vals i)[i]? = some (rs.getD i []) := by
 unfold je; simp [hi]
theorem Jd (rs : List (List V)) (vals : List V) (i : Nat) : (je rs vals i).set i (rs.getD i [] ++ [vals.getD i v0]) = je rs vals (i + 1) := by
 apply List.ext_getElem?
 intro j
 by_cases c : j < rs.length
 ·have h1 : (je rs vals (i + 1))[j]? = some (if j < i + 1 then rs.getD j [] ++ [vals.getD j v0] else rs.getD j []) := by unfold je; simp [c]
  rw [h1]
  by_cases e : i = j
  ·subst e
   rw [List.getElem?_set_self (by rw [qQ]; exact c), if_pos (by omega)]
  ·rw [List.getElem?_set_ne e]
   have h2 : (je rs vals i)[j]? = some (if j < i then rs.getD j [] ++ [vals.getD j v0] else rs.getD j []) := by unfold je; simp [c]
   rw [h2]
   by_cases q : j < i
   ·rw [if_pos q, if_pos (by omega)]
   ·rw [if_neg q, if_neg (by omega)]
 ·rw [List.getElem?_eq_none (by rw [List.length_set, qQ]; omega), List.getElem?_eq_none (by rw [qQ]; omega)]
theorem G8 {H0 : Zb} {CL Cv : DV} {rs : List (List V)} {vals : List V} {n m k : Nat} (hC : ∀ g, vw g 4 Cv = some (vals.map V.d)) (hv : vals.length = n) (hr : rs.length = n) (hn : n ≤ 4096) (j4 : ∀ r ∈ rs, r.length ≤ 200) :
 ∀ (q i : Nat) (h : Zb) (ds : List DV), n - i ≤ q → i ≤ n → AcrI H0 h ds (je rs vals i) → ∃ ex h' ds', C X (.loop pN) [(1, .int .i64 n), (6, .row H0.length 0 0 n false), (13, CL), (14, .int .i64 m), (15, .int .i64 k), (23, Cv), (24, .int .i64 n), (25, .int .i64 i)] h = some (.exit 2, (1, .int .i64 n) :: (6, .row H0.length 0 0 n false) :: (13, CL) :: (14, .int .i64 m) :: (15, .int .i64 k) :: ex, h') ∧ AcrI H0 h' ds' (je rs vals n) := by
 intro q
 induction q with
 | zero =>
  intro i h ds hq hi ha
  obtain rfl : i = n := by omega
  refine ⟨[(23, Cv), (24, .int .i64 i), (25, .int .i64 i), (26, .bool false)], h, ds, ?_, ha⟩
  rw [Zc]
  unfold pN
  refine rn trivial ?_
  rw [Zx]
  simp [Za, lk]
 | succ q ih =>
  intro i h ds hq hi ha
  by_cases c : i < n
  ·obtain ⟨I, hI⟩ : ∃ I, I = i + 1 := ⟨_, rfl⟩
   have z1 : IntKind.i64.wrap ((i : Int) + 1) = (I : Int) := wr
   have bq : ds.length = n := by rw [ha.len, qQ, hr]
   have Pp : i < vals.length := by omega
   obtain ⟨v, l7⟩ : ∃ v, v = vals[i] := ⟨_, rfl⟩
   have hv' := l7.symm
   have fO : vals[i]? = some v := by rw [List.getElem?_eq_getElem Pp, l7]
   have hgv : vals.getD i v0 = v := by rw [List.getD_eq_getElem?_getD, fO]; rfl
   have CN := Je rs vals (i := i) (by omega)
   have EW : rs.getD i [] = rs[i]'(by omega) := by rw [List.getD_eq_getElem?_getD, List.getElem?_eq_getElem (show i < rs.length by omega)]; rfl
   have hb : (rs.getD i []).length ≤ 1000 := by rw [EW]; have := j4 _ (List.getElem_mem (show i < rs.length by omega)); omega
   have Pq : i < ds.length := by omega
   obtain ⟨d, hdd⟩ : ∃ d, d = ds[i] := ⟨_, rfl⟩
   have Oa := hdd.symm
   have ua : ds[i]? = some d := by rw [List.getElem?_eq_getElem Pq, hdd]
   have hae := ha.ext [.box 56 v.d.cells]
   obtain ⟨d', h', h'', e1, ⟨o', g', m', hd'⟩, e2, e3, ha2⟩ := hae.app ua CN v hb
   obtain ⟨e4, e5⟩ := hae.vwi ua CN
   have e6 := hae.vwo
   rw [bq] at e2 e3 e6
   have has := Jd rs vals i
   rw [hgv, ← hI] at has
   rw [has] at ha2
   obtain ⟨ex, hF, VX, hc, R4⟩ := ih I h'' (ds.set i d') (by omega) (by omega) ha2
   refine ⟨ex, hF, VX, ?_, R4⟩
   have y1 : ∀ h, bw [v.d] h = some ([v.d], h) := fun _ => rfl
   have y2 : Wc 4 v.d := by simp [Wc, DV.cells, V.d, DV.one]
   have y3 : Nr v.d := v.nr
   have y4 : ∀ h, aK h 4 (.list 4 [v.d] true) = some [v.d] := fun _ => rfl
   have hs : C X pN [(1, .int .i64 n), (6, .row H0.length 0 0 n false), (13, CL), (14, .int .i64 m), (15, .int .i64 k), (23, Cv), (24, .int .i64 n), (25, .int .i64 i)] h = some (.norm, [(1, .int .i64 n), (6, .row H0.length 0 0 n false), (13, CL), (14, .int .i64 m), (15, .int .i64 k), (23, Cv), (24, .int .i64 n), (25, .int .i64 I)], h'') := by
    have hsh := hae.each i d _ ua CN
    clear ih hc R4 ha2 has hae ha hb EW CN l7 hI hdd
    generalize (rs.getD i []).map V.d = cur at *
    generalize (rs.getD i []).length = Ln at *
    subst hd'
    obtain ⟨vk, vn, vs', vt⟩ := v
    simp only [V.d, DV.cells] at *
    rcases hsh with ⟨rfl, _⟩ | ⟨o, g, rfl, _, _⟩
    ·unfold pN
     refine Yx (qI @c @z1 @hC @Pp @hv' @fO @bq @Pq @Oa @ua @e1 @e2 @e3 @e4 @e6 @y1 @y2 @y3 @y4) ?_
     simp [Za, lk]
    ·unfold pN
     refine Yx (qI @c @z1 @hC @Pp @hv' @fO @bq @Pq @Oa @ua @e1 @e2 @e3 @e4 @e6 @y1 @y2 @y3 @y4) ?_
     simp [Za, lk]
   rw [Zc, hs, ZB]
   exact hc
  ·exact ih i h ds (by omega) hi ha
def jP (cols : List (List V)) (n : Nat) : List (List V) := (List.range n).map fun i => cols.map fun c => c.getD i v0
theorem uG (cols : List (List V)) (n : Nat) : (jP cols n).length = n := by simp [jP]
theorem Gx (cols : List (List V)) (c : List V) (n : Nat) : je (jP cols n) c n = jP (cols ++ [c]) n := by
 unfold je
 rw [uG]
 unfold jP
 apply List.ext_getElem
 ·simp
 ·intro i h1 h2
  have hi : i < n := by simpa using h1
  simp [hi, List.getD_eq_getElem?_getD]
theorem Jf {cols : List (List V)} {n : Nat} (hc : cols.length ≤ 12) : ∀ r ∈ jP cols n, r.length ≤ 200 := by
 intro r hr
 unfold jP at hr
 obtain ⟨i, _, rfl⟩ := List.mem_map.1 hr
 simp; omega
theorem G9 {H0 : Zb} {CL : DV} {es : List DV} {cols : List (List V)} {n : Nat} (Kg : vw H0 1 CL = some es) (hE : po es cols) (hn : n ≤ 200) (hcl : cols.length ≤ 12) :
 ∀ (q k : Nat) (h : Zb) (ds : List DV), cols.length - k ≤ q → k ≤ cols.length → AcrI H0 h ds (jP (cols.take k) n) → ((∀ c ∈ cols.drop k, c.length = n) ∧ ∃ ex h' ds', C X (.loop jf) [(1, .int .i64 n), (6, .row H0.length 0 0 n false), (13, CL), (14, .int .i64 cols.length), (15, .int .i64 k)] h = some (.exit 0, (1, .int .i64 n) :: (6, .row H0.length 0 0 n false) :: ex, h') ∧ AcrI H0 h' ds' (jP cols n)) ∨ ((¬ ∀ c ∈ cols.drop k, c.length = n) ∧ ∃ h', C X (.loop jf) [(1, .int .i64 n), (6, .row H0.length 0 0 n false), (13, CL), (14, .int .i64 cols.length), (15, .int .i64 k)] h = some (.ret, [(4, .nils), (5, .bool false)], h') ∧ h'.take H0.length = H0) := by
 intro q
 induction q with
 | zero =>
  intro k h ds hq hk ha
  obtain rfl : k = cols.length := by omega
  rw [List.take_length] at ha
  refine .inl ⟨(fun c hc => by rw [List.drop_length] at hc; cases hc), [(13, CL), (14, .int .i64 cols.length), (15, .int .i64 cols.length), (16, .bool false)], h, ds, ?_, ha⟩
  rw [Zc]
  unfold jf
  refine rn trivial ?_
  rw [Zx]
  simp [Za, lk]
 | succ q ih =>
  intro k h ds hq hk ha
  by_cases c : k < cols.length
  ·obtain ⟨K, hK⟩ : ∃ K, K = k + 1 := ⟨_, rfl⟩
   have z1 : IntKind.i64.wrap ((k : Int) + 1) = (K : Int) := wr
   have hv := Eh ha.pre Kg
   have c' : k < es.length := by rw [hE.1]; exact c
   obtain ⟨col, CW⟩ : ∃ col, col = cols[k] := ⟨_, rfl⟩
   have Oi : cols[k]? = some col := by rw [CW]; exact List.getElem?_eq_getElem c
   obtain ⟨e, he⟩ : ∃ e, e = es[k] := ⟨_, rfl⟩
   have he' := he.symm
   have Fa : es[k]? = some e := by rw [he]; exact List.getElem?_eq_getElem c'
   have hrow := hE.2 k e col Fa Oi
   have hev := hrow.vw
   have fP : cols.drop k = col :: cols.drop K := by rw [List.drop_eq_getElem_cons c, ← CW, hK]
   have htk : cols.take K = cols.take k ++ [col] := by rw [hK, ← List.take_append_getElem c, ← CW]
   by_cases hl : col.length = n
   ·obtain ⟨VO, h1, ds1, hc1, ha1⟩ := G8 (CL := CL) (Cv := e) (m := cols.length) (k := k) hev hl (uG _ n) (by omega) (Jf (cols := cols.take k) (n := n) (by rw [List.length_take]; omega)) n 0 h ds (by omega) (by omega) (by rw [Gw]; exact ha)
    rw [show ((0 : Nat) : Int) = 0 from rfl] at hc1
    rw [Gx, ← htk] at ha1
    have hs : C X jf [(1, .int .i64 n), (6, .row H0.length 0 0 n false), (13, CL), (14, .int .i64 cols.length), (15, .int .i64 k)] h = some (.norm, [(1, .int .i64 n), (6, .row H0.length 0 0 n false), (13, CL), (14, .int .i64 cols.length), (15, .int .i64 K)], h1) := by
     clear ih ha1 ha
     rcases hrow with ⟨cc, rfl⟩ | ⟨rfl, rfl⟩
     ·unfold jf
      refine Yx (ga @c @c' @z1 @hv @he' @Fa @hev @hl) ?_
      refine Yy ?_
      rw [hc1]
      refine rn @z1 ?_
      simp [Za, lk]
     ·simp only [List.length_nil] at hl
      subst hl
      rw [show ((0 : Nat) : Int) = 0 from rfl] at *
      unfold jf
      refine Yx (fR @c @c' @z1 @hv @he' @Fa @hev) ?_
      refine Yy ?_
      rw [hc1]
      refine rn @z1 ?_
      simp [Za, lk]
    rw [Zc, hs, ZB]
    rcases ih K h1 ds1 (by omega) (by omega) ha1 with ⟨g1, g2⟩ | ⟨g1, g2⟩
    ·refine .inl ⟨fun x hx => ?_, g2⟩
     rw [fP] at hx
     rcases List.mem_cons.1 hx with rfl | hx
     ·exact hl
     ·exact g1 x hx
    ·exact .inr ⟨fun g => g1 fun x hx => g x (by rw [fP]; exact List.mem_cons_of_mem _ hx), g2⟩
   ·right
    refine ⟨fun g => hl (g col (by rw [fP]; exact List.mem_cons_self ..)), h, ?_, ha.pre⟩
    have hl' : ((col.length : Int) != (n : Int)) = true := by simp only [bne_iff_ne, ne_eq]; omega
    have hs : C X jf [(1, .int .i64 n), (6, .row H0.length 0 0 n false), (13, CL), (14, .int .i64 cols.length), (15, .int .i64 k)] h = some (.ret, [(4, .nils), (5, .bool false)], h) := by
     clear ih ha
     rcases hrow with ⟨cc, rfl⟩ | ⟨rfl, rfl⟩
     ·unfold jf
      refine Yx (gJ @c @c' @z1 @hv @he' @Fa @hev @hl @hl') ?_
      simp [Za, lk]
     ·have cA : ((0 : Int) != (n : Int)) = true := hl'
      unfold jf
      refine Yx (gJ @c @c' @z1 @hv @he' @Fa @hev @hl @cA) ?_
      simp [Za, lk]
    rw [Zc, hs, Yw]
  ·exact ih k h ds (by omega) hk ha
structure AOut (H G : Zb) (A : DV) (ds : List DV) (rs : List (List V)) : Prop where
 v : ∀ G', vw ((H ++ G) ++ G') 1 A = some ds
 rows : cF (H ++ G) ds rs
 sh : (A = .list 1 ds false ∧ G = [] ∧ ∀ x ∈ ds, Nr x) ∨ ∃ o, A = .row o 0 0 ds.length false ∧ H.length ≤ o ∧ (H ++ G)[o]? = some (.row 45 1 0 ds) ∧ ¬ ∀ x ∈ ds, Nr x
theorem Ad {H h : Zb} (ht : h.take H.length = H) : fin H h [.nils, .bool false] = (.tup [.nils, .bool false], H) := by
 simp only [fin]
 rw [if_pos ht]
 rfl
theorem take_split {H h : Zb} (ht : h.take H.length = H) : ∃ G, h = H ++ G := ⟨h.drop H.length, by
 have := List.take_append_drop H.length h
 rw [ht] at this; exact this.symm⟩
theorem AcrI.out {H h : Zb} {ds : List DV} {rs : List (List V)} {n : Nat} (a : AcrI H h ds rs) (hn : rs.length = n) : ∃ A G, fin H h [.row H.length 0 0 n false, .bool true] = (.tup [A, .bool true], H ++ G) ∧ AOut H G A ds rs := by
 have bq : ds.length = n := by rw [a.len, hn]
 by_cases hN : ∀ x ∈ ds, Nr x
 ·have hall : ∀ (i : Nat) (d : DV) (vs : List V), ds[i]? = some d → rs[i]? = some vs → d = .nils ∧ vs = [] := fun i d vs h1 h2 => by
   rcases a.each i d vs h1 h2 with h3 | ⟨o, g, rfl, _, _⟩
   ·exact h3
   ·have := hN _ (List.mem_of_getElem? h1)
    cases this
  refine ⟨.list 1 ds false, [], ?_, ⟨fun _ => rfl, ⟨a.len, fun i d vs h1 h2 => ?_⟩, .inl ⟨rfl, rfl, hN⟩⟩⟩
  ·simp only [fin]
   rw [if_pos a.pre]
   simp only [bJ, aH, aJ]
   rw [if_neg (by omega), a.row]
   simp only
   rw [if_pos ⟨rfl, by omega, hN⟩]
   simp [List.take_of_length_le, bq]
  ·obtain ⟨rfl, rfl⟩ := hall i d vs h1 h2
   exact ⟨fun _ => rfl, rfl⟩
 ·obtain ⟨G, rfl⟩ := take_split a.pre
  refine ⟨.row H.length 0 0 n false, G, ?_, ⟨fun G' => ?_, a.rows, .inr ⟨H.length, by rw [bq], Nat.le_refl _, a.row, hN⟩⟩⟩
  ·simp only [fin]
   rw [if_pos a.pre]
   simp only [bJ, aH, aJ]
   rw [if_neg (by omega), a.row]
   simp only
   rw [if_neg (fun h => hN h.2.2)]
  ·have := (a.ext G').vwo
   rw [bq] at this
   exact this
theorem Qu {H : Zb} {CL : DV} {es : List DV} {cols : List (List V)} {n : Nat} (Kg : vw H 1 CL = some es) (hE : po es cols) (hn : n ≤ 200) (hcl : cols.length ≤ 12) :
 ((∀ c ∈ cols, c.length = n) ∧ ∃ A G ds, E X 72 [CL, .int .i64 n] H = some (.tup [A, .bool true], H ++ G) ∧ AOut H G A ds (jP cols n)) ∨ ((¬ ∀ c ∈ cols, c.length = n) ∧ E X 72 [CL, .int .i64 n] H = some (.tup [.nils, .bool false], H)) := by
 have hel := hE.1
 have a0 : AcrI H (H ++ [.row 45 1 0 (List.replicate n .nils)]) (List.replicate n .nils) (jP (cols.take 0) n) := by
  refine ⟨by simp, by simp, by simp [jP], fun i d vs h1 h2 => ?_, fun i j o g m g' m' h1 => ?_⟩
  ·left
   have := List.mem_of_getElem? h1
   rw [List.mem_replicate] at this
   refine ⟨this.2, ?_⟩
   unfold jP at h2
   obtain ⟨_, rfl⟩ := List.getElem?_eq_some_iff.1 h2
   simp
  ·have := List.mem_of_getElem? h1
   rw [List.mem_replicate] at this
   cases this.2
 have OL : vw (H ++ [HO.row 45 1 0 (List.replicate n .nils)]) 1 CL = some es := ic Kg
 have m0 : (0 : Int) ≤ (n : Int) := by omega
 have m1 : (n : Int) * 24 ≤ 140737488355328 := by omega
 have hW : Wc 1 .nils := by simp [Wc, DV.cells, DV.one]
 rcases G9 (n := n) Kg hE hn hcl cols.length 0 _ _ (by omega) (by omega) a0 with ⟨h1, ex, h', ds, hc, ha⟩ | ⟨h1, h', hc, ht⟩
 ·left
  rw [List.drop_zero] at h1
  rw [show ((0 : Nat) : Int) = 0 from rfl] at hc
  obtain ⟨A, G, hf, hO⟩ := ha.out (uG cols n)
  refine ⟨h1, A, G, ds, ?_, hO⟩
  clear h1 ha a0 hO hE
  rw [Zv (X := X) _ F6 _ rfl rfl]; unfold F6
  refine rn (eP @OL @hel @m0 @m1 @hW) ?_
  refine Yy ?_
  rw [hc]
  refine rn trivial ?_
  simp only [Zh, ZV, lk, Za, List.map_cons, List.map_nil, reduceIte, Option.map_some, Nat.reduceEqDiff, hf]
 ·right
  rw [List.drop_zero] at h1
  rw [show ((0 : Nat) : Int) = 0 from rfl] at hc
  have hf := Ad ht
  refine ⟨h1, ?_⟩
  clear h1 a0 hE
  rw [Zv (X := X) _ F6 _ rfl rfl]; unfold F6
  refine rn (eP @OL @hel @m0 @m1 @hW) ?_
  refine Yy ?_
  rw [hc]
  refine rn trivial ?_
  simp only [Zh, ZV, lk, Za, List.map_cons, List.map_nil, reduceIte, Option.map_some, Nat.reduceEqDiff, hf]
theorem AOut.lift {H h2 G : Zb} {A : DV} {ds : List DV} {rs : List (List V)} (ht : h2.take H.length = H) (a : AOut h2 G A ds rs) : ∃ G2, fin H (h2 ++ G) [A, .bool true] = (.tup [A, .bool true], H ++ G2) ∧ AOut H G2 A ds rs := by
 have zQ := eI ht
 have hpre : (h2 ++ G).take H.length = H := by rw [List.take_append_of_le_length zQ]; exact ht
 rcases a.sh with ⟨rfl, rfl, hN⟩ | ⟨o, rfl, h1, h3, hN⟩
 ·refine ⟨[], ?_, ⟨fun _ => rfl, ⟨a.rows.1, fun i d vs h1 h2 => ?_⟩, .inl ⟨rfl, rfl, hN⟩⟩⟩
  ·simp only [fin]
   rw [if_pos hpre]
   simp only [bJ, aH, aJ, List.append_nil]
  ·obtain ⟨q1, q2⟩ := a.rows.2 i d vs h1 h2
   refine ⟨fun L => ?_, q2⟩
   have q3 := q1 []
   have q4 := hN d (List.mem_of_getElem? h1)
   rcases jH q3 with rfl | ⟨s, l, c, rfl⟩ | ⟨o, g, lo, n, c, rfl⟩
   ·exact q3
   ·exact q3
   ·cases q4
 ·obtain ⟨G2, gE⟩ := take_split hpre
  refine ⟨G2, ?_, ⟨fun G' => by rw [← gE]; exact a.v G', by rw [← gE]; exact a.rows, .inr ⟨o, rfl, by omega, by rw [← gE]; exact h3, hN⟩⟩⟩
  simp only [fin]
  rw [if_pos hpre]
  simp only [bJ, aH, aJ]
  rw [if_neg (by omega), h3]
  simp only
  rw [if_neg (fun h => hN h.2.2), gE]
theorem Ni {Hb : Zb} {Of Cs : DV} {p1 p2 p3 p4 : Int} {cs : List RC} {b : Nat} (hC : ∀ g, vw g 3 Cs = some (cs.map RC.d)) (hok : ∀ c ∈ cs, c.Ok) (hcl : cs.length ≤ 12) (hb : Hb[b]? = some (.box 28 [.int .i64 p1, .int .i64 p2, .int .i64 p3, .int .i64 p4, Of, Cs])) :
 ∀ (q k : Nat) (h : Zb) (o : DV) (es : List DV), cs.length - k ≤ q → k ≤ cs.length → aN 45 1 Hb h o es → gR es ((cs.take k).map fun c => fM c.n c.ys c.bs) → ((∀ c ∈ cs.drop k, okC c.n c.ys c.bs) ∧ ∃ ex h' o' es', C X (.loop iK) [(1, .ref b 0), (4, o), (8, Cs), (9, .int .i64 cs.length), (10, .int .i64 k)] h = some (.exit 0, (1, .ref b 0) :: (4, o') :: ex, h') ∧ aN 45 1 Hb h' o' es' ∧ gR es' (cs.map fun c => fM c.n c.ys c.bs)) ∨ ((¬ ∀ c ∈ cs.drop k, okC c.n c.ys c.bs) ∧ ∃ h', C X (.loop iK) [(1, .ref b 0), (4, o), (8, Cs), (9, .int .i64 cs.length), (10, .int .i64 k)] h = some (.ret, [(2, .nils), (3, .bool false)], h') ∧ h'.take Hb.length = Hb) := by
 intro q
 induction q with
 | zero =>
  intro k h o es hq hk hg hE
  obtain rfl : k = cs.length := by omega
  rw [List.take_length] at hE
  refine .inl ⟨(fun c hc => by rw [List.drop_length] at hc; cases hc), [(8, Cs), (9, .int .i64 cs.length), (10, .int .i64 cs.length), (11, .bool false)], h, o, es, ?_, hg, hE⟩
  rw [Zc]
  unfold iK
  refine rn trivial ?_
  rw [Zx]
  simp [Za, lk]
 | succ q ih =>
  intro k h o es hq hk hg hE
  by_cases c : k < cs.length
  ·obtain ⟨K, hK⟩ : ∃ K, K = k + 1 := ⟨_, rfl⟩
   have z1 : IntKind.i64.wrap ((k : Int) + 1) = (K : Int) := wr
   obtain ⟨x, hx⟩ : ∃ x, x = cs[k] := ⟨_, rfl⟩
   have cT := hok x (by rw [hx]; exact List.getElem_mem c)
   have hge : cs[k].d = .agg [.int .i64 x.n, x.D, x.B] := by rw [← hx]; rfl
   have fP : cs.drop k = x :: cs.drop K := by rw [List.drop_eq_getElem_cons c, ← hx, hK]
   have htk : (cs.take K).map (fun c => fM c.n c.ys c.bs) = (cs.take k).map (fun c => fM c.n c.ys c.bs) ++ [fM x.n x.ys x.bs] := by rw [hK, ← List.take_append_getElem c, ← hx, List.map_append]; rfl
   have oF := cT.dict.one
   have fQ := cT.bytes.one'
   have Ko := fun g => DU (n := x.n) cT.dict (by have := cT.yl; omega) cT.bytes cT.bb g
   by_cases c1 : okC x.n x.ys x.bs
   ·have Da : ∀ g, E X 69 [.agg [.int .i64 x.n, x.D, x.B]] g = some (.bool true, g) := fun g => by
     have := Ko g
     simp only [c1, decide_true] at this
     exact this
    clear Ko
    obtain ⟨d, FN, hd⟩ := Qv (H := h ++ [.box 70 [.int .i64 x.n, x.D, x.B]]) (n := x.n) cT.dict cT.yl cT.bytes cT.bb
    have FN : E X 71 [.agg [.int .i64 x.n, x.D, x.B]] (h ++ [.box 70 [.int .i64 x.n, x.D, x.B]]) = some (d, h ++ [.box 70 [.int .i64 x.n, x.D, x.B]]) := FN
    have hel : es.length ≤ 12 := by rw [hE.1.1]; simp; omega
    have step : ∀ (e : DV) (h1 : Zb), uH e (fM x.n x.ys x.bs) → aN 45 1 Hb h1 o es → (∀ o2 h2, bE h1 45 1 24 o es [e] = some (o2, h2) → C X iK [(1, .ref b 0), (4, o), (8, Cs), (9, .int .i64 cs.length), (10, .int .i64 k)] h = some (.norm, [(1, .ref b 0), (4, o2), (8, Cs), (9, .int .i64 cs.length), (10, .int .i64 K)], h2)) → ((∀ c ∈ cs.drop k, okC c.n c.ys c.bs) ∧ ∃ ex h' o' es', C X (.loop iK) [(1, .ref b 0), (4, o), (8, Cs), (9, .int .i64 cs.length), (10, .int .i64 k)] h = some (.exit 0, (1, .ref b 0) :: (4, o') :: ex, h') ∧ aN 45 1 Hb h' o' es' ∧ gR es' (cs.map fun c => fM c.n c.ys c.bs)) ∨ ((¬ ∀ c ∈ cs.drop k, okC c.n c.ys c.bs) ∧ ∃ h', C X (.loop iK) [(1, .ref b 0), (4, o), (8, Cs), (9, .int .i64 cs.length), (10, .int .i64 k)] h = some (.ret, [(2, .nils), (3, .bool false)], h') ∧ h'.take Hb.length = Hb) := by
     intro e h1 he hg1 hst
     obtain ⟨o2, h2, ha, hg2⟩ := hg1.app 24 [e] (by simp only [List.length_cons, List.length_nil]; omega)
     have mO : gR (es ++ [e]) ((cs.take K).map fun c => fM c.n c.ys c.bs) := by rw [htk]; exact hE.snoc he
     rw [Zc, hst o2 h2 ha, ZB]
     rcases ih K h2 o2 _ (by omega) (by omega) hg2 mO with ⟨g1, g2⟩ | ⟨g1, g2⟩
     ·refine .inl ⟨fun y hy => ?_, g2⟩
      rw [fP] at hy
      rcases List.mem_cons.1 hy with rfl | hy
      ·exact c1
      ·exact g1 y hy
     ·exact .inr ⟨fun g => g1 fun y hy => g y (by rw [fP]; exact List.mem_cons_of_mem _ hy), g2⟩
    rcases hd with ⟨rfl, h0⟩ | rfl
    ·have oC := hg.ext [.box 70 [.int .i64 x.n, x.D, x.B]]
     refine step .nils _ (.inr ⟨rfl, h0⟩) oC fun o2 h2 ha => ?_
     have hw := oC.vw
     have y1 : ∀ h, bw [.nils] h = some ([.nils], h) := fun _ => rfl
     have y2 : Wc 1 .nils := by simp [Wc, DV.cells, DV.one]
     have y3 : Nr .nils := .nils
     have y4 : ∀ h, aK h 1 (.list 1 [.nils] true) = some [.nils] := fun _ => rfl
     clear ih step hg oC hE htk h0 c1 cT hok
     unfold iK
     refine Yx (mF @c @z1 @hC @hge @oF @fQ @Da @FN @y1 @y2 @y3 @y4 @hw @ha) ?_
     simp [Za, lk]
    ·obtain ⟨r, hr⟩ : ∃ r, r = fM x.n x.ys x.bs := ⟨_, rfl⟩
     rw [← hr] at FN step
     have oC := hg.ext [.box 70 [.int .i64 x.n, x.D, x.B], .frz 56 4 0 (r.map V.d)]
     refine step (.list 4 (r.map V.d) false) _ (.inl ⟨false, rfl⟩) oC fun o2 h2 ha => ?_
     have hw := oC.vw
     have y1 : bw [.row (h.length + 1) 0 0 (r.map V.d).length false] (h ++ [HO.box 70 [.int .i64 x.n, x.D, x.B], .row 56 4 0 (r.map V.d)]) = some ([.list 4 (r.map V.d) false], h ++ [HO.box 70 [.int .i64 x.n, x.D, x.B], .frz 56 4 0 (r.map V.d)]) := by
      have q1 : (h ++ [HO.box 70 [.int .i64 x.n, x.D, x.B], .row 56 4 0 (r.map V.d)])[h.length + 1]? = some (.row 56 4 0 (r.map V.d)) := by simp [ae]
      have q2 : ∀ x ∈ r.map V.d, Nr x := jX r
      simp only [bw, pn, rH, q1]
      rw [if_pos ⟨rfl, by omega, q2⟩]
      simp only [List.drop_zero, List.take_length]
      simp [Ya]
     have y2 : Wc 1 (.list 4 (r.map V.d) false) := by simp [Wc, DV.cells, DV.one]
     have y3 : Nr (.list 4 (r.map V.d) false) := wI r
     have y4 : ∀ h, aK h 1 (.list 1 [.list 4 (r.map V.d) false] true) = some [.list 4 (r.map V.d) false] := fun _ => rfl
     clear ih step hg oC hE htk c1 cT hok hr
     generalize r.map V.d = R at *
     unfold iK
     refine Yx (mF @c @z1 @hC @hge @oF @fQ @Da @FN @y1 @y2 @y3 @y4 @hw @ha) ?_
     simp [Za, lk]
   ·have Da : ∀ g, E X 69 [.agg [.int .i64 x.n, x.D, x.B]] g = some (.bool false, g) := fun g => by
     have := Ko g
     simp only [c1, decide_false] at this
     exact this
    right
    refine ⟨fun g => c1 (g x (by rw [fP]; exact List.mem_cons_self ..)), h ++ [.box 70 [.int .i64 x.n, x.D, x.B]], ?_, (hg.ext _).1⟩
    have hs : C X iK [(1, .ref b 0), (4, o), (8, Cs), (9, .int .i64 cs.length), (10, .int .i64 k)] h = some (.ret, [(2, .nils), (3, .bool false)], h ++ [.box 70 [.int .i64 x.n, x.D, x.B]]) := by
     clear ih hg hE htk c1 cT hok Ko
     unfold iK
     refine Yx (fR @c @z1 @hC @hge @oF @fQ @Da) ?_
     simp [Za, lk]
    rw [Zc, hs, Yw]
  ·exact ih k h o es (by omega) hk hg hE
theorem wD {c : RC} (h : okC c.n c.ys c.bs) : (fM c.n c.ys c.bs).length = c.n.toNat := by
 unfold fM
 rw [if_pos h]
 unfold dZ
 rw [List.length_map, gQ]
theorem Gy {cs : List RC} {n : Nat} (hm : ∀ c ∈ cs, c.May n) : jP (cs.map fun c => fM c.n c.ys c.bs) n = fu (cs.map RC.sc) n := by
 unfold jP fu
 apply List.map_congr_left
 intro i hi
 rw [List.mem_range] at hi
 unfold Ct
 rw [List.map_map, List.map_map]
 apply List.map_congr_left
 intro c hc
 simp only [Function.comp]
 rw [(hm c hc).vals]
 unfold sZ
 rw [List.getD_eq_getElem?_getD]
 simp [hi]
theorem Cm {H : Zb} {Of Cs : DV} {p1 p2 p3 p4 : Int} {os : List DV} {cs : List RC} (hO : ∀ g, vw g 1 Of = some os) (hC : ∀ g, vw g 3 Cs = some (cs.map RC.d)) (hok : ∀ c ∈ cs, c.Ok) (hn : os.length ≤ 200) (hcl : cs.length ≤ 12) :
 ((∀ c ∈ cs, c.n = (os.length : Int) ∧ okC c.n c.ys c.bs) ∧ ∃ A G ds, E X 46 [.agg [.int .i64 p1, .int .i64 p2, .int .i64 p3, .int .i64 p4, Of, Cs]] H = some (.tup [A, .bool true], H ++ G) ∧ AOut H G A ds (fu (cs.map RC.sc) os.length)) ∨ ((¬ ∀ c ∈ cs, c.n = (os.length : Int) ∧ okC c.n c.ys c.bs) ∧ E X 46 [.agg [.int .i64 p1, .int .i64 p2, .int .i64 p3, .int .i64 p4, Of, Cs]] H = some (.tup [.nils, .bool false], H)) := by
 obtain ⟨H1, ay⟩ : ∃ H1, H1 = H ++ [HO.box 28 [.int .i64 p1, .int .i64 p2, .int .i64 p3, .int .i64 p4, Of, Cs]] := ⟨_, rfl⟩
 have dH : H1[H.length]? = some (.box 28 [.int .i64 p1, .int .i64 p2, .int .i64 p3, .int .i64 p4, Of, Cs]) := by rw [ay]; simp
 have ht1 : H1.take H.length = H := by rw [ay, List.take_append_of_le_length (Nat.le_refl _)]; exact List.take_length
 rcases Ni hC hok hcl dH cs.length 0 H1 .nils [] (by omega) (by omega) aN.zero ⟨⟨rfl, fun i d vs h1 => by simp at h1⟩, fun x hx => by cases hx⟩ with ⟨hall, ex, h2, o2, es, hc, hg, hE⟩ | ⟨hall, h2, hc, ou⟩
 ·rw [List.drop_zero] at hall
  rw [show ((0 : Nat) : Int) = 0 from rfl] at hc
  have ou : h2.take H.length = H := (hg.base ht1).1
  have bu := fe hg.1 dH
  rcases Qu (n := os.length) hg.vw hE.1 hn (by rw [List.length_map]; exact hcl) with ⟨hl, A, G, ds, Pb, BJ⟩ | ⟨hl, Pb⟩
  ·left
   have hm : ∀ c ∈ cs, c.May os.length := fun c hc => by
    have h1 := hl _ (List.mem_map.2 ⟨c, hc, rfl⟩)
    rw [wD (hall c hc)] at h1
    exact ⟨hok c hc, hall c hc, by have := (hall c hc).1; omega⟩
   rw [Gy hm] at BJ
   obtain ⟨G2, hf, Sc⟩ := BJ.lift ou
   refine ⟨fun c hc => ⟨(hm c hc).len, (hm c hc).may⟩, A, G2, ds, ?_, Sc⟩
   clear hm BJ Sc hl hE hg hall hok ht1
   subst ay
   rw [Zv (X := X) _ AE _ rfl rfl]; unfold AE
   refine rn @hC ?_
   refine Yy ?_
   rw [hc]
   refine Yx (cg @hO @bu @Pb) ?_
   simp only [Zh, ZV, lk, Za, List.map_cons, List.map_nil, reduceIte, Option.map_some, Nat.reduceEqDiff, hf]
  ·right
   refine ⟨fun h => hl fun v hv => ?_, ?_⟩
   ·obtain ⟨c, hc, rfl⟩ := List.mem_map.1 hv
    rw [wD (hall c hc)]
    have := (h c hc).1
    omega
   ·have hf := Ad ou
    clear hl hE hg hall hok ht1
    subst ay
    rw [Zv (X := X) _ AE _ rfl rfl]; unfold AE
    refine rn @hC ?_
    refine Yy ?_
    rw [hc]
    refine Yx (cg @hO @bu @Pb) ?_
    simp only [Zh, ZV, lk, Za, List.map_cons, List.map_nil, reduceIte, Option.map_some, Nat.reduceEqDiff, hf]
 ·right
  rw [List.drop_zero] at hall
  rw [show ((0 : Nat) : Int) = 0 from rfl] at hc
  refine ⟨fun h => hall fun c hc => (h c hc).2, ?_⟩
  have US : h2.take H.length = H := by
   have zQ := eI ht1
   have h5 : h2.take H.length = (h2.take H1.length).take H.length := by rw [List.take_take, Nat.min_eq_left zQ]
   rw [h5, ou, ht1]
  have hf := Ad US
  clear hall hok ht1
  subst ay
  rw [Zv (X := X) _ AE _ rfl rfl]; unfold AE
  refine rn @hC ?_
  refine Yy ?_
  rw [hc]
  refine rn trivial ?_
  simp only [Zh, ZV, lk, Za, List.map_cons, List.map_nil, reduceIte, Option.map_some, Nat.reduceEqDiff, hf]
def iP (c : Cl) (v : V) : Bool := aF v && (v.k == c.kd || (v.k == 0 && c.nl))
theorem Qm (c : Cl) (v : V) (H : Zb) : E X 83 [c.d, v.d] H = some (.bool (iP c v), H) := by
 have BS := fun g => tf v g
 unfold iP
 cases hm : aF v
 ·rw [hm] at BS
  obtain ⟨nm, kd, nl⟩ := c
  obtain ⟨vk, vn, vs', vt⟩ := v
  simp only [V.d, Cl.d] at *
  rw [Zv (X := X) _ vU _ rfl rfl]; unfold vU; exact rg @BS
 rw [hm] at BS
 obtain ⟨nm, kd, nl⟩ := c
 obtain ⟨vk, vn, vs', vt⟩ := v
 simp only [V.d, Cl.d] at *
 by_cases c1 : vk = kd
 ·subst c1
  rw [Zv (X := X) _ vU _ rfl rfl]; unfold vU; exact rg @BS
 ·have bM : (vk == kd) = false := by simpa using c1
  rw [bM]
  by_cases c2 : vk = 0
  ·subst c2
   rw [Zv (X := X) _ vU _ rfl rfl]; unfold vU; exact rg (cg @BS @c1 @bM)
  ·have dA : (vk == 0) = false := by simpa using c2
   rw [dA]
   rw [Zv (X := X) _ vU _ rfl rfl]; unfold vU; exact rg (eP @BS @c1 @bM @c2 @dA)
def iC : List Cl → List V → Bool
 | c :: cs, v :: vs => iP c v && iC cs vs
 | _, _ => true
def dX (s : Sch) (vs : List V) : Bool := cm s && (decide (vs.length = s.cols.length) && iC s.cols vs)
theorem Nb {Hb : Zb} {Cd d : DV} {cols : List Cl} {vs : List V} (hC : ∀ g, vw g 3 Cd = some (cols.map Cl.d)) (hd : ∀ G, vw (Hb ++ G) 4 d = some (vs.map V.d)) (hl : vs.length = cols.length) (hcl : cols.length ≤ 1000) {y : DV} :
 ∀ (q i : Nat) (G : Zb), cols.length - i ≤ q → i ≤ cols.length → ((iC (cols.drop i) (vs.drop i) = true ∧ ∃ ex G', C X (.loop lO) [(1, d), (19, Cd), (20, .int .i64 cols.length), (21, .int .i64 i)] (Hb ++ G) = some (.exit 0, ex, Hb ++ G')) ∨ (iC (cols.drop i) (vs.drop i) = false ∧ ∃ G', C X (.loop lO) [(1, d), (19, Cd), (20, .int .i64 cols.length), (21, .int .i64 i)] (Hb ++ G) = some (.ret, [(4, .bool false)], Hb ++ G'))) := by
 intro q
 induction q with
 | zero =>
  intro i G hq hi
  obtain rfl : i = cols.length := by omega
  refine .inl ⟨by rw [List.drop_length]; rfl, [(1, d), (19, Cd), (20, .int .i64 cols.length), (21, .int .i64 cols.length), (22, .bool false)], G, ?_⟩
  rw [Zc]
  unfold lO
  refine rn trivial ?_
  rw [Zx]
  simp [Za, lk]
 | succ q ih =>
  intro i G hq hi
  by_cases c : i < cols.length
  ·obtain ⟨I, hI⟩ : ∃ I, I = i + 1 := ⟨_, rfl⟩
   have z1 : IntKind.i64.wrap ((i : Int) + 1) = (I : Int) := wr
   obtain ⟨x, hx⟩ : ∃ x, x = cols[i] := ⟨_, rfl⟩
   have bN : cols[i]? = some x := by rw [hx]; exact List.getElem?_eq_getElem c
   have hx' := hx.symm
   have c2 : i < vs.length := by omega
   obtain ⟨v, hv⟩ : ∃ v, v = vs[i] := ⟨_, rfl⟩
   have fO : vs[i]? = some v := by rw [hv]; exact List.getElem?_eq_getElem c2
   have hv' := hv.symm
   have Kj := fun g => Qm x v g
   have aP : cols.drop i = x :: cols.drop I := by rw [List.drop_eq_getElem_cons c, ← hx, hI]
   have dG : vs.drop i = v :: vs.drop I := by rw [List.drop_eq_getElem_cons c2, ← hv, hI]
   rw [aP, dG, iC]
   have Ob := hd (G ++ [.box 61 x.d.cells])
   rw [← List.append_assoc] at Ob
   cases hf : iP x v
   ·rw [hf] at Kj
    refine .inr ⟨rfl, G ++ [.box 61 x.d.cells], ?_⟩
    have hs : C X lO [(1, d), (19, Cd), (20, .int .i64 cols.length), (21, .int .i64 i)] (Hb ++ G) = some (.ret, [(4, .bool false)], (Hb ++ G) ++ [.box 61 x.d.cells]) := by
     clear ih hd hf hx hv aP dG
     generalize Hb ++ G = HH at *
     obtain ⟨nm, kd, nl⟩ := x
     obtain ⟨vk, vn, vs', vt⟩ := v
     simp only [V.d, Cl.d, DV.cells] at *
     unfold lO
     refine Yx (cP @c @z1 @hC @Ob @bN @hx' @fO @hv' @c2 @hl @Kj) ?_
     simp [Za, lk]
    rw [Zc, hs, Yw, List.append_assoc]
   ·rw [hf] at Kj
    rw [Bool.true_and]
    have hs : C X lO [(1, d), (19, Cd), (20, .int .i64 cols.length), (21, .int .i64 i)] (Hb ++ G) = some (.norm, [(1, d), (19, Cd), (20, .int .i64 cols.length), (21, .int .i64 I)], (Hb ++ G) ++ [.box 61 x.d.cells]) := by
     clear ih hd hf hx hv aP dG
     generalize Hb ++ G = HH at *
     obtain ⟨nm, kd, nl⟩ := x
     obtain ⟨vk, vn, vs', vt⟩ := v
     simp only [V.d, Cl.d, DV.cells] at *
     unfold lO
     refine Yx (cP @c @z1 @hC @Ob @bN @hx' @fO @hv' @c2 @hl @Kj) ?_
     simp [Za, lk]
    rw [Zc, hs, ZB, List.append_assoc]
    exact ih I _ (by omega) (by omega)
  ·exact ih i G (by omega) hi
theorem QB {H : Zb} {Cd d : DV} {s : Sch} {vs : List V} (hC : ∀ g, vw g 3 Cd = some (s.cols.map Cl.d)) (hd : ∀ G, vw (H ++ G) 4 d = some (vs.map V.d)) (hl : s.cols.length ≤ 1000) : E X 56 [Yl Cd s, d] H = some (.bool (dX s vs), H) := by
 have sJ := fun g => JB hC hl g
 unfold dX
 cases hm : cm s
 ·rw [hm] at sJ
  have gC := hd [.box 24 (Yi Cd s)]
  obtain ⟨cols, k1, k2, k3, k4⟩ := s
  simp only [Yl, Yi] at *
  rw [Zv (X := X) _ vY _ rfl rfl]; unfold vY; exact rg @sJ
 rw [hm] at sJ
 have gC := hd [.box 24 (Yi Cd s)]
 by_cases c1 : vs.length = s.cols.length
 case neg =>
  rw [decide_eq_false c1]
  have bM : ((vs.length : Int) != (s.cols.length : Int)) = true := by simp only [bne_iff_ne, ne_eq]; omega
  clear hm hd
  obtain ⟨cols, k1, k2, k3, k4⟩ := s
  simp only [Yl, Yi] at *
  rw [Zv (X := X) _ vY _ rfl rfl]; unfold vY; exact rg (eP @sJ @hC @gC @c1 @bM)
 rw [decide_eq_true c1, Bool.true_and, Bool.true_and]
 obtain ⟨H1, ay⟩ : ∃ H1, H1 = H ++ [HO.box 24 (Yi Cd s)] := ⟨_, rfl⟩
 have aP : ∀ G, vw (H1 ++ G) 4 d = some (vs.map V.d) := fun G => by rw [ay, List.append_assoc]; exact hd _
 have aA : ∀ (r : Bool) (G : Zb), fin H (H1 ++ G) [.bool r] = (.bool r, H) := fun r G => by
  have : (H1 ++ G).take H.length = H := by rw [ay, List.append_assoc]; exact List.take_left
  simp [fin, this, aH, aJ]
 rcases Nb hC aP c1 hl (y := .nils) s.cols.length 0 [] (by omega) (by omega) with ⟨hf, ex, G', hc⟩ | ⟨hf, G', hc⟩
 ·rw [List.drop_zero, List.drop_zero] at hf
  rw [hf]
  rw [show ((0 : Nat) : Int) = 0 from rfl, List.append_nil] at hc
  have vm := aA true G'
  clear hm hd aP hf aA
  obtain ⟨cols, k1, k2, k3, k4⟩ := s
  simp only [Yl, Yi] at *
  subst ay
  have N8 := vm
  simp only [List.append_assoc, List.cons_append, List.nil_append] at vm
  rw [Zv (X := X) _ vY _ rfl rfl]; unfold vY
  refine rn (df @sJ @hC @gC @c1) ?_
  refine Yy ?_
  rw [hc]
  refine rn trivial ?_
  simp only [Zh, ZV, lk, Za, List.map_cons, List.map_nil, reduceIte, Option.map_some, Nat.reduceEqDiff, vm, N8]
 ·rw [List.drop_zero, List.drop_zero] at hf
  rw [hf]
  rw [show ((0 : Nat) : Int) = 0 from rfl, List.append_nil] at hc
  have vm := aA false G'
  clear hm hd aP hf aA
  obtain ⟨cols, k1, k2, k3, k4⟩ := s
  simp only [Yl, Yi] at *
  subst ay
  have N8 := vm
  simp only [List.append_assoc, List.cons_append, List.nil_append] at vm
  rw [Zv (X := X) _ vY _ rfl rfl]; unfold vY
  refine rn (df @sJ @hC @gC @c1) ?_
  refine Yy ?_
  rw [hc]
  refine rn trivial ?_
  simp only [Zh, ZV, lk, Za, List.map_cons, List.map_nil, reduceIte, Option.map_some, Nat.reduceEqDiff, vm, N8]
theorem M4 {h : Zb} {L : DV} {ds : List DV} {rs : List (List V)} {f : Nat} {cap : List DV} {P : List V → Bool} (hL : vw h 1 L = some ds) (hE : cF h ds rs) (hF : ∀ (i : Nat) d vs, ds[i]? = some d → rs[i]? = some vs → E X f (d :: cap) h = some (.bool (P vs), h)) (hb : rs.length ≤ 1000) :
 ∀ (k i : Nat), rs.length - i ≤ k → i ≤ rs.length → ((rs.drop i).any P = true ∧ ∃ j : Nat, C X (.loop lJ) [(0, L), (1, .func f [] cap), (7, .int .i64 rs.length), (8, .int .i64 i)] h = some (.ret, [(4, .int .i64 j)], h)) ∨ ((rs.drop i).any P = false ∧ ∃ ex, C X (.loop lJ) [(0, L), (1, .func f [] cap), (7, .int .i64 rs.length), (8, .int .i64 i)] h = some (.exit 0, ex, h)) := by
 intro k
 induction k with
 | zero =>
  intro i hk hi
  obtain rfl : i = rs.length := by omega
  refine .inr ⟨by simp, ?_⟩
  rw [Zc]
  unfold lJ
  refine rn trivial ?_
  rw [Zx]
  exact ⟨_, rfl⟩
 | succ k ih =>
  intro i hk hi
  by_cases c : i < rs.length
  ·obtain ⟨I, hI⟩ : ∃ I, I = i + 1 := ⟨_, rfl⟩
   have z1 : IntKind.i64.wrap ((i : Int) + 1) = (I : Int) := wr
   have c' : i < ds.length := by rw [hE.1]; exact c
   obtain ⟨r, hr⟩ : ∃ r, r = rs[i] := ⟨_, rfl⟩
   have EW : rs[i]? = some r := by rw [hr]; exact List.getElem?_eq_getElem c
   obtain ⟨d, hdd⟩ : ∃ d, d = ds[i] := ⟨_, rfl⟩
   have ua : ds[i]? = some d := by rw [hdd]; exact List.getElem?_eq_getElem c'
   have hd' := hdd.symm
   have e := hF i d r ua EW
   have hv := (hE.2 i d r ua EW).1 []
   have fP : rs.drop i = r :: rs.drop I := by rw [List.drop_eq_getElem_cons c, ← hr, hI]
   rw [fP, List.any_cons]
   cases hp : P r
   ·rw [hp] at e
    have hs : C X lJ [(0, L), (1, .func f [] cap), (7, .int .i64 rs.length), (8, .int .i64 i)] h = some (.norm, [(0, L), (1, .func f [] cap), (7, .int .i64 rs.length), (8, .int .i64 I)], h) := by
     clear ih hF hE
     rcases jH hv with rfl | ⟨s1, l1, cc, rfl⟩ | ⟨o1, g1, Nz, n1, cc, rfl⟩ <;> (unfold lJ; refine Yx (fR @c @c' @z1 @hL @hd' @ua @e) ?_; simp [Za, lk])
    rw [Zc, hs, ZB, Bool.false_or]
    exact ih I (by omega) (by omega)
   ·rw [hp] at e
    refine .inl ⟨rfl, i, ?_⟩
    have hs : C X lJ [(0, L), (1, .func f [] cap), (7, .int .i64 rs.length), (8, .int .i64 i)] h = some (.ret, [(4, .int .i64 i)], h) := by
     clear ih hF hE
     rcases jH hv with rfl | ⟨s1, l1, cc, rfl⟩ | ⟨o1, g1, Nz, n1, cc, rfl⟩ <;> (unfold lJ; refine Yx (fR @c @c' @z1 @hL @hd' @ua @e) ?_; simp [Za, lk])
    rw [Zc, hs, Yw]
  ·exact ih i (by omega) hi
theorem QD {h : Zb} {L : DV} {ds : List DV} {rs : List (List V)} {f : Nat} {cap : List DV} {P : List V → Bool} (hL : vw h 1 L = some ds) (hE : cF h ds rs) (hF : ∀ (i : Nat) d vs, ds[i]? = some d → rs[i]? = some vs → E X f (d :: cap) h = some (.bool (P vs), h)) (hb : rs.length ≤ 1000) : E X 54 [L, .func f [] cap] h = some (.bool (rs.any P), h) := by
 have l := M4 hL hE hF hb rs.length 0 (by omega) (by omega)
 have bq := hE.1
 rw [List.drop_zero, show ((0 : Nat) : Int) = 0 from rfl] at l
 rcases l with ⟨h1, j, h2⟩ | ⟨h1, ex, h2⟩
 ·have e : E X 82 [L, .func f [] cap] h = some (.int .i64 j, h) := by
   rw [Zv (X := X) _ F5 _ rfl rfl]; unfold F5
   refine rn (aD @hL @bq) ?_
   refine Yy ?_
   rw [h2]
   refine rn trivial ?_
   exact re trivial
  have hj : (0 : Int) ≤ (j : Int) := by omega
  rw [h1]
  rw [Zv (X := X) _ Gf _ rfl rfl]; unfold Gf; exact rg (aD @e @hj)
 ·have e : E X 82 [L, .func f [] cap] h = some (.int .i64 (-1), h) := by
   rw [Zv (X := X) _ F5 _ rfl rfl]; unfold F5
   refine rn (aD @hL @bq) ?_
   refine Yy ?_
   rw [h2]
   refine rn trivial ?_
   exact re trivial
  rw [h1]
  rw [Zv (X := X) _ Gf _ rfl rfl]; unfold Gf; exact rg @e
def ey (s : Sch) (rs : List (List V)) : Bool := cm s && !rs.any fun r => !dX s r
theorem QC {H : Zb} {Cd A d : DV} {s : Sch} {vs : List V} {p : Nat} (hC : ∀ g, vw g 3 Cd = some (s.cols.map Cl.d)) (hd : ∀ G, vw (H ++ G) 4 d = some (vs.map V.d)) (hl : s.cols.length ≤ 1000) (hp : H[p]? = some (.box 66 [Cd, .int .i64 s.key, .int .i64 s.cmp, .int .i64 s.del, .int .i64 s.sort, A])) : E X 55 [d, .ref p 0] H = some (.bool (!dX s vs), H) := by
 have BU := QB hC hd hl
 generalize dX s vs = r at *
 obtain ⟨cols, k1, k2, k3, k4⟩ := s
 simp only [Yl, Yi] at *
 rw [Zv (X := X) _ PT _ rfl rfl]; unfold PT; exact d8 (aD @BU @hp)
theorem Co {H : Zb} {Cd A : DV} {s : Sch} {ds : List DV} {rs : List (List V)} (hC : ∀ g, vw g 3 Cd = some (s.cols.map Cl.d)) (hl : s.cols.length ≤ 1000) (hA : ∀ G, vw (H ++ G) 1 A = some ds) (hE : cF H ds rs) (hb : rs.length ≤ 1000) : E X 34 [.agg [Cd, .int .i64 s.key, .int .i64 s.cmp, .int .i64 s.del, .int .i64 s.sort, A]] H = some (.bool (ey s rs), H) := by
 have sJ := fun g => JB hC hl g
 obtain ⟨H1, ay⟩ : ∃ H1, H1 = H ++ [HO.box 66 [Cd, .int .i64 s.key, .int .i64 s.cmp, .int .i64 s.del, .int .i64 s.sort, A]] := ⟨_, rfl⟩
 have hp : H1[H.length]? = some (.box 66 [Cd, .int .i64 s.key, .int .i64 s.cmp, .int .i64 s.del, .int .i64 s.sort, A]) := by rw [ay]; simp
 have sE : cF H1 ds rs := by rw [ay]; exact hE.ext _
 have SJ := QD (f := 55) (cap := [.ref H.length 0]) (P := fun r => !dX s r) (h := H1) (by rw [ay]; exact hA _) sE (fun i d vs h1 h2 => QC hC (sE.2 i d vs h1 h2).1 hl hp) hb
 unfold ey
 cases hm : cm s
 ·rw [hm] at sJ
  clear SJ hp hE sE
  subst ay
  obtain ⟨cols, k1, k2, k3, k4⟩ := s
  simp only [Yl, Yi] at *
  rw [Zv (X := X) _ Gl _ rfl rfl]; unfold Gl; exact d8 @sJ
 ·rw [hm] at sJ
  generalize (rs.any fun r => !dX s r) = r at *
  clear hp hE sE
  subst ay
  obtain ⟨cols, k1, k2, k3, k4⟩ := s
  simp only [Yl, Yi] at *
  rw [Zv (X := X) _ Gl _ rfl rfl]; unfold Gl; exact d8 (aD @sJ @SJ)
def bj (p1 p2 p3 p4 : Int) : Bool := decide (0 ≤ p1) && (decide (p1 < 4) && (decide (1 ≤ p2) && (decide (p2 ≤ 1073741824) && (decide (0 ≤ p3) && (decide (p3 ≤ p4) && decide (p4 ≤ 1099511627776))))))
theorem DY (p1 p2 p3 p4 : Int) (Of Cs : DV) (H : Zb) : E X 33 [.agg [.int .i64 p1, .int .i64 p2, .int .i64 p3, .int .i64 p4, Of, Cs]] H = some (.bool (bj p1 p2 p3 p4), H) := by
 by_cases c1 : 0 ≤ p1
 case neg =>
  rw [show bj p1 p2 p3 p4 = false by simp [bj, c1]]
  rw [Zv (X := X) _ iF _ rfl rfl]; unfold iF; exact rg @c1
 by_cases c2 : p1 < 4
 case neg =>
  rw [show bj p1 p2 p3 p4 = false by simp [bj, c1, c2]]
  rw [Zv (X := X) _ iF _ rfl rfl]; unfold iF; exact rg (aD @c1 @c2)
 by_cases c3 : 1 ≤ p2
 case neg =>
  rw [show bj p1 p2 p3 p4 = false by simp [bj, c1, c2, c3]]
  rw [Zv (X := X) _ iF _ rfl rfl]; unfold iF; exact rg (cg @c1 @c2 @c3)
 by_cases c4 : p2 ≤ 1073741824
 case neg =>
  rw [show bj p1 p2 p3 p4 = false by simp [bj, c1, c2, c3, c4]]
  rw [Zv (X := X) _ iF _ rfl rfl]; unfold iF; exact rg (df @c1 @c2 @c3 @c4)
 by_cases c5 : 0 ≤ p3
 case neg =>
  rw [show bj p1 p2 p3 p4 = false by simp [bj, c1, c2, c3, c4, c5]]
  rw [Zv (X := X) _ iF _ rfl rfl]; unfold iF; exact rg (eP @c1 @c2 @c3 @c4 @c5)
 by_cases c6 : p3 ≤ p4
 case neg =>
  rw [show bj p1 p2 p3 p4 = false by simp [bj, c1, c2, c3, c4, c5, c6]]
  rw [Zv (X := X) _ iF _ rfl rfl]; unfold iF; exact rg (eO @c1 @c2 @c3 @c4 @c5 @c6)
 rw [show bj p1 p2 p3 p4 = decide (p4 ≤ 1099511627776) by simp [bj, c1, c2, c3, c4, c5, c6]]
 rw [Zv (X := X) _ iF _ rfl rfl]; unfold iF; exact rg (eO @c1 @c2 @c3 @c4 @c5 @c6)
theorem gi {d : DV} (h : d.one = true) : d.cells = [d] := by
 cases d <;> simp [DV.one] at h <;> rfl
def fG (s : Sch) (a b : List V) : Int := if s.sort < 0 then 0 else ord (a.getD s.sort.toNat v0) (b.getD s.sort.toNat v0)
theorem JG {H : Zb} {Cd A : DV} {s : Sch} {ds : List DV} {rs : List (List V)} (hA : ∀ G, vw (H ++ G) 1 A = some ds) (hE : cF H ds rs) {i k : Nat} {a b : List V} (hi : rs[i]? = some a) (hk : rs[k]? = some b) (ha : s.sort < a.length) (hb : s.sort < b.length) : E X 41 [.agg [Cd, .int .i64 s.key, .int .i64 s.cmp, .int .i64 s.del, .int .i64 s.sort, A], .int .i64 i, .int .i64 k] H = some (.int .i64 (fG s a b), H) := by
 unfold fG
 by_cases c1 : s.sort < 0
 ·rw [if_pos c1]
  obtain ⟨cols, k1, k2, k3, k4⟩ := s
  simp only at *
  rw [Zv (X := X) _ Gi _ rfl rfl]; unfold Gi; exact rg @c1
 rw [if_neg c1]
 obtain ⟨j, hj⟩ : ∃ j : Nat, s.sort = (j : Int) := ⟨s.sort.toNat, by omega⟩
 have hil := (List.getElem?_eq_some_iff.1 hi).1
 have vi := (List.getElem?_eq_some_iff.1 hk).1
 have bq := hE.1
 obtain ⟨d, hd⟩ : ∃ d, ds[i]? = some d := ⟨ds[i]'(by omega), List.getElem?_eq_getElem _⟩
 obtain ⟨e, he⟩ : ∃ e, ds[k]? = some e := ⟨ds[k]'(by omega), List.getElem?_eq_getElem _⟩
 obtain ⟨d1, d2⟩ := hE.2 i d a hd hi
 obtain ⟨e1, e2⟩ := hE.2 k e b he hk
 have qY : j < a.length := by omega
 have hjb : j < b.length := by omega
 have ea := List.getElem?_eq_getElem qY
 have eb := List.getElem?_eq_getElem hjb
 rw [hj, Int.toNat_natCast, List.getD_eq_getElem?_getD, List.getD_eq_getElem?_getD, ea, eb, Option.getD_some, Option.getD_some]
 obtain ⟨va, tX⟩ : ∃ va, va = a[j] := ⟨_, rfl⟩
 obtain ⟨vb, hvb⟩ : ∃ vb, vb = b[j] := ⟨_, rfl⟩
 have HF := tX.symm
 have HE := hvb.symm
 rw [← tX, ← hvb]
 have ql := fun g => bA va vb g
 have fC := hA [.box 66 [Cd, .int .i64 s.key, .int .i64 s.cmp, .int .i64 s.del, .int .i64 s.sort, A]]
 have dB := d1 [.box 66 [Cd, .int .i64 s.key, .int .i64 s.cmp, .int .i64 s.del, .int .i64 s.sort, A]]
 have eB := e1 [.box 66 [Cd, .int .i64 s.key, .int .i64 s.cmp, .int .i64 s.del, .int .i64 s.sort, A]]
 obtain ⟨hid, TU⟩ := List.getElem?_eq_some_iff.1 hd
 obtain ⟨U8, TS⟩ := List.getElem?_eq_some_iff.1 he
 have k0 : ¬ (j : Int) < 0 := by omega
 clear hA hE d1 e1 tX hvb ha hb hil vi
 generalize ord va vb = r at *
 obtain ⟨cols, k1, k2, k3, k4⟩ := s
 obtain ⟨ak, an, as', at'⟩ := va
 obtain ⟨bk, bn, bs', V4⟩ := vb
 simp only [V.d] at *
 subst hj
 have hdn : d ≠ .nils := by
  rintro rfl
  have h1 : some ([] : List DV) = some (List.map V.d a) := dB
  injection h1 with h1
  have h2 := congrArg List.length h1
  rw [List.length_map, List.length_nil] at h2
  omega
 have E9 : e ≠ .nils := by
  rintro rfl
  have h1 : some ([] : List DV) = some (List.map V.d b) := eB
  injection h1 with h1
  have h2 := congrArg List.length h1
  rw [List.length_map, List.length_nil] at h2
  omega
 rcases jH dB with h | ⟨s1, l1, cc, rfl⟩ | ⟨o1, g1, Nz, n1, cc, rfl⟩
 ·exact absurd h hdn
 all_goals rcases jH eB with h | ⟨s2, l2, Pt, rfl⟩ | ⟨o2, g2, UD, n2, Pt, rfl⟩ <;> first | (exact absurd h E9) | (clear hdn E9; rw [Zv (X := X) _ Gi _ rfl rfl]; unfold Gi; exact d8 (qJ @fC @hid @TU @U8 @TS @hd @he @dB @eB @qY @hjb @HF @HE @ea @eb @ql @k0))
def qR (d : DV) (zs : List Int) : Prop := (d = .nils ∧ zs = []) ∨ d = .list 1 (zs.map intD) false
theorem qR.vw {d : DV} {zs : List Int} (h : qR d zs) (g : Zb) : vw g 1 d = some (zs.map intD) := by
 rcases h with ⟨rfl, rfl⟩ | rfl <;> rfl
theorem QF {d : DV} {zs : List Int} (hd : qR d zs) (hl : zs.length ≤ 1000) (H : Zb) : ∃ r, E X 47 [d] H = some (r, H) ∧ ((zs = [] ∧ (r = .nils ∨ r = .list 1 [] true)) ∨ (zs ≠ [] ∧ r = .fresh 3 1 (zs.map intD))) := by
 rcases hd with ⟨rfl, rfl⟩ | rfl
 ·exact ⟨.nils, by rw [Zv (X := X) _ AB _ rfl rfl]; unfold AB; exact Uy trivial, .inl ⟨rfl, .inl rfl⟩⟩
 ·by_cases h0 : zs = []
  ·subst h0
   exact ⟨.list 1 [] true, by rw [Zv (X := X) _ AB _ rfl rfl]; unfold AB; exact Tk trivial, .inl ⟨rfl, .inr rfl⟩⟩
  ·refine ⟨_, ?_, .inr ⟨h0, rfl⟩⟩
   have hne : zs.map intD ≠ [] := by simpa using h0
   have hnr : ∀ x ∈ zs.map intD, Nr x := by intro y hy; obtain ⟨z, _, rfl⟩ := List.mem_map.1 hy; exact .int _ _
   have hb : (zs.map intD).length * 8 ≤ 140737488355328 := by rw [List.length_map]; omega
   generalize zs.map intD = L at *
   have ha : bE H 3 1 8 (.list 1 [] true) [] L = some (.row H.length 0 0 L.length false, H ++ [.row 3 1 0 L]) := by
    rw [bE, if_neg hne, if_pos (by simpa using hb)]
    simp
   have hv : ∀ h, vw h 1 (.list 1 ([] : List DV) true) = some [] := fun _ => rfl
   have hs : ∀ h, aK h 1 (.list 1 L false) = some L := fun _ => rfl
   have hf : fin H (H ++ [.row 3 1 0 L]) [.row H.length 0 0 L.length false] = (.fresh 3 1 L, H) := by
    simp only [fin]
    rw [if_pos (by simp)]
    simp only [aH, aJ]
    rw [if_neg (by omega)]
    simp only [List.getElem?_append_right (Nat.le_refl _), Nat.sub_self, List.getElem?_cons_zero]
    rw [if_pos ⟨rfl, by simp, hnr⟩]
    simp
   rw [Zv (X := X) _ AB _ rfl rfl]; unfold AB
   have y0 : ∀ h, bw [] h = some ([], h) := fun _ => rfl
   refine rn (df @ha @hv @hs @y0) ?_
   simp only [Zh, ZV, lk, Za, List.map_cons, List.map_nil, reduceIte, Option.map_some, Nat.reduceEqDiff, hf]
def nq (p3 p4 : Int) (zs : List Int) (i : Nat) : Prop := ∀ x, zs[i]? = some x → p3 ≤ x ∧ x < p4 ∧ (0 < i → ∀ y, zs[i - 1]? = some y → y < x)
def nj (p3 p4 : Int) (zs : List Int) : Prop := ∀ j, j < zs.length → nq p3 p4 zs j
theorem Nn {h : Zb} {L Of Cs : DV} {p1 p2 p3 p4 : Int} {zs : List Int} {b : Nat} (hL : vw h 1 L = some (zs.map intD)) (hb : h[b]? = some (.box 28 [.int .i64 p1, .int .i64 p2, .int .i64 p3, .int .i64 p4, Of, Cs])) (hl : zs.length ≤ 1000) :
 ∀ (q i : Nat), zs.length - i ≤ q → i ≤ zs.length → ((∃ ex, C X (.loop eJ) [(1, L), (2, .ref b 0), (7, L), (8, .int .i64 zs.length), (9, .int .i64 i)] h = some (.exit 0, ex, h)) ∧ ∀ j, i ≤ j → j < zs.length → nq p3 p4 zs j) ∨ (C X (.loop eJ) [(1, L), (2, .ref b 0), (7, L), (8, .int .i64 zs.length), (9, .int .i64 i)] h = some (.ret, [(4, .bool false)], h) ∧ ∃ j, j < zs.length ∧ ¬ nq p3 p4 zs j) := by
 intro q
 induction q with
 | zero =>
  intro i hq hi
  obtain rfl : i = zs.length := by omega
  left
  refine ⟨?_, fun j h1 h2 => by omega⟩
  rw [Zc]
  unfold eJ
  refine rn trivial ?_
  rw [Zx]
  exact ⟨_, rfl⟩
 | succ q ih =>
  intro i hq hi
  by_cases c : i < zs.length
  ·obtain ⟨I, hI⟩ : ∃ I, I = i + 1 := ⟨_, rfl⟩
   have z1 : IntKind.i64.wrap ((i : Int) + 1) = (I : Int) := wr
   obtain ⟨x, hx⟩ : ∃ x, x = zs[i] := ⟨_, rfl⟩
   have bN : zs[i]? = some x := by rw [hx]; exact List.getElem?_eq_getElem c
   have hx' := hx.symm
   have bad : C X eJ [(1, L), (2, .ref b 0), (7, L), (8, .int .i64 zs.length), (9, .int .i64 i)] h = some (.ret, [(4, .bool false)], h) → ¬ nq p3 p4 zs i → ((∃ ex, C X (.loop eJ) [(1, L), (2, .ref b 0), (7, L), (8, .int .i64 zs.length), (9, .int .i64 i)] h = some (.exit 0, ex, h)) ∧ ∀ j, i ≤ j → j < zs.length → nq p3 p4 zs j) ∨ (C X (.loop eJ) [(1, L), (2, .ref b 0), (7, L), (8, .int .i64 zs.length), (9, .int .i64 i)] h = some (.ret, [(4, .bool false)], h) ∧ ∃ j, j < zs.length ∧ ¬ nq p3 p4 zs j) := fun hs hr => by
    right
    exact ⟨by rw [Zc, hs, Yw], i, c, hr⟩
   have good : C X eJ [(1, L), (2, .ref b 0), (7, L), (8, .int .i64 zs.length), (9, .int .i64 i)] h = some (.norm, [(1, L), (2, .ref b 0), (7, L), (8, .int .i64 zs.length), (9, .int .i64 I)], h) → nq p3 p4 zs i → ((∃ ex, C X (.loop eJ) [(1, L), (2, .ref b 0), (7, L), (8, .int .i64 zs.length), (9, .int .i64 i)] h = some (.exit 0, ex, h)) ∧ ∀ j, i ≤ j → j < zs.length → nq p3 p4 zs j) ∨ (C X (.loop eJ) [(1, L), (2, .ref b 0), (7, L), (8, .int .i64 zs.length), (9, .int .i64 i)] h = some (.ret, [(4, .bool false)], h) ∧ ∃ j, j < zs.length ∧ ¬ nq p3 p4 zs j) := fun hs hr => by
    rw [Zc, hs, ZB]
    rcases ih I (by omega) (by omega) with ⟨h1, h2⟩ | h1
    ·refine .inl ⟨h1, fun j h3 h4 => ?_⟩
     by_cases e : i = j
     ·subst e; exact hr
     ·exact h2 j (by omega) h4
    ·exact .inr h1
   clear ih hx
   by_cases c1 : x < p3
   ·refine bad ?_ (fun h => by have := (h x bN).1; omega)
    clear bad good
    unfold eJ
    refine Yx (fR @c @z1 @hL @hb @bN @hx' @c1) ?_
    simp [Za, lk]
   by_cases c2 : p4 ≤ x
   ·refine bad ?_ (fun h => by have := (h x bN).2.1; omega)
    clear bad good
    unfold eJ
    refine Yx (ga @c @z1 @hL @hb @bN @hx' @c1 @c2) ?_
    simp [Za, lk]
   by_cases c3 : i = 0
   ·subst c3
    refine good ?_ (fun z hz => by rw [bN] at hz; injection hz with hz; subst hz; exact ⟨by omega, by omega, fun h => absurd h (by omega)⟩)
    clear bad good
    obtain rfl : I = 1 := by omega
    have Jj : IntKind.i64.wrap 1 = 1 := rfl
    rw [show ((0 : Nat) : Int) = 0 from rfl] at *
    unfold eJ
    refine Yx (gJ @c @z1 @Jj @hL @hb @bN @hx' @c1 @c2) ?_
    simp [Za, lk]
   obtain ⟨J, hJ⟩ : ∃ J, J = i - 1 := ⟨_, rfl⟩
   have z2 : IntKind.i64.wrap ((i : Int) - 1) = (J : Int) := wr
   have oI : (0 : Int) < (i : Int) := by omega
   have mJ : 0 < i := by omega
   have cJ : J < zs.length := by omega
   obtain ⟨y, hy⟩ : ∃ y, y = zs[J] := ⟨_, rfl⟩
   have JQ : zs[J]? = some y := by rw [hy]; exact List.getElem?_eq_getElem cJ
   have hy' := hy.symm
   clear hy
   by_cases c4 : x ≤ y
   ·refine bad ?_ (fun h => by have := (h x bN).2.2 mJ y (by rw [← hJ]; exact JQ); omega)
    clear bad good
    unfold eJ
    refine Yx (mE @c @z1 @z2 @hL @hb @bN @hx' @JQ @hy' @cJ @c1 @c2 @oI @mJ @c4) ?_
    simp [Za, lk]
   ·refine good ?_ (fun z hz => by rw [bN] at hz; injection hz with hz; subst hz; exact ⟨by omega, by omega, fun _ w hw => by rw [← hJ, JQ] at hw; injection hw with hw; omega⟩)
    clear bad good
    unfold eJ
    refine Yx (mE @c @z1 @z2 @hL @hb @bN @hx' @JQ @hy' @cJ @c1 @c2 @oI @mJ @c4) ?_
    simp [Za, lk]
  ·exact ih i (by omega) hi
theorem JH {H : Zb} {L Of Cs : DV} {p1 p2 p3 p4 : Int} {zs : List Int} (hL : ∀ G, vw (H ++ G) 1 L = some (zs.map intD)) (hl : zs.length ≤ 1000) : ∃ b, E X 35 [.agg [.int .i64 p1, .int .i64 p2, .int .i64 p3, .int .i64 p4, Of, Cs], L] H = some (.bool b, H) ∧ (b = true ↔ nj p3 p4 zs) := by
 obtain ⟨H1, ay⟩ : ∃ H1, H1 = H ++ [HO.box 28 [.int .i64 p1, .int .i64 p2, .int .i64 p3, .int .i64 p4, Of, Cs]] := ⟨_, rfl⟩
 have dH : H1[H.length]? = some (.box 28 [.int .i64 p1, .int .i64 p2, .int .i64 p3, .int .i64 p4, Of, Cs]) := by rw [ay]; simp
 have ht1 : H1.take H.length = H := by rw [ay, List.take_append_of_le_length (Nat.le_refl _)]; exact List.take_length
 have aA : ∀ r, fin H H1 [.bool r] = (.bool r, H) := fun r => by simp [fin, ht1, aH, aJ]
 have OE : vw H1 1 L = some (zs.map intD) := by rw [ay]; exact hL _
 rcases Nn OE dH hl zs.length 0 (by omega) (by omega) with ⟨⟨ex, hc⟩, hok⟩ | ⟨hc, k0, oz, mL⟩
 ·refine ⟨true, ?_, fun _ j hj => hok j (Nat.zero_le _) hj, fun _ => rfl⟩
  clear hok
  rw [show ((0 : Nat) : Int) = 0 from rfl] at hc
  clear ht1 dH
  subst ay
  rw [Zv (X := X) _ B5 _ rfl rfl]; unfold B5
  refine rn @OE ?_
  refine Yy ?_
  rw [hc]
  refine rn trivial ?_
  simp only [Zh, ZV, lk, Za, List.map_cons, List.map_nil, reduceIte, Option.map_some, Nat.reduceEqDiff, aA]
 ·refine ⟨false, ?_, (fun h => by cases h), fun h => absurd (h k0 oz) mL⟩
  clear mL
  rw [show ((0 : Nat) : Int) = 0 from rfl] at hc
  clear ht1 dH
  subst ay
  rw [Zv (X := X) _ B5 _ rfl rfl]; unfold B5
  refine rn @OE ?_
  refine Yy ?_
  rw [hc]
  refine rn trivial ?_
  simp only [Zh, ZV, lk, Za, List.map_cons, List.map_nil, reduceIte, Option.map_some, Nat.reduceEqDiff, aA]
theorem tO : ∀ zs : List Int, l6 (zs.map intD) = some zs
 | [] => rfl
 | z :: zs => by
  rw [List.map_cons, l6, tO zs]
  rfl
theorem rB (zs : List Int) : (cO zs).length = zs.length := by unfold cO; simp
theorem GH {P : Zb} {zs : List Int} (h0 : zs ≠ []) (hl : zs.length ≤ 1000) : E X 48 [.row P.length 0 0 zs.length false] (P ++ [.row 3 1 0 (zs.map intD)]) = some (.tup [], P ++ [.row 3 1 0 ((cO zs).map intD)]) := by
 rw [Dt (X := X) (g := ky) _ rfl, ky]
 have hn : ¬ zs.length = 0 := fun h => h0 (List.eq_nil_of_length_eq_zero h)
 rw [if_neg hn, List.getElem?_append_right (Nat.le_refl _), Nat.sub_self]
 simp only [List.getElem?_cons_zero]
 rw [if_pos ⟨trivial, trivial, by rw [List.length_map]; omega, by omega⟩]
 have e1 : ((zs.map intD).drop 0).take zs.length = zs.map intD := by
  rw [List.drop_zero, List.take_of_length_le (by rw [List.length_map]; omega)]
 rw [e1, tO]
 simp only [List.take_zero, List.nil_append, Nat.zero_add]
 rw [List.drop_of_length_le (by rw [List.length_map]; omega), List.append_nil]
 simp
theorem KG (h : Zb) : E X 48 [.nils] h = some (.tup [], h) := by
 rw [Dt (X := X) (g := ky) h rfl, ky]
theorem GG (h : Zb) : E X 48 [.list 1 [] true] h = some (.tup [], h) := by
 rw [Dt (X := X) (g := ky) h rfl, ky]
def eV (s : Sch) (rs : List (List V)) (zs : List Int) (i : Nat) : Prop := fG s (rs.getD (i - 1) []) (rs.getD i []) ≤ 0 ∧ (fG s (rs.getD (i - 1) []) (rs.getD i []) = 0 → zs.getD (i - 1) 0 < zs.getD i 0)
structure MayOk (s : Sch) (p1 p2 p3 p4 : Int) (zs : List Int) (cs : List RC) : Prop where
 all : ∀ c ∈ cs, c.n = (zs.length : Int) ∧ okC c.n c.ys c.bs
 head : bj p1 p2 p3 p4 = true
 cols : cs.length = s.cols.length
 fit : ey s (fu (cs.map RC.sc) zs.length) = true
 rises : nj p3 p4 (cO zs)
 sorted : ∀ j, 1 ≤ j → j < zs.length → eV s (fu (cs.map RC.sc) zs.length) zs j
theorem Ns {h : Zb} {Cd A Of Cs : DV} {s : Sch} {p1 p2 p3 p4 : Int} {ds : List DV} {rs : List (List V)} {zs : List Int} {b b2 : Nat} (hA : ∀ G, vw (h ++ G) 1 A = some ds) (hE : cF h ds rs) (hO : ∀ g, vw g 1 Of = some (zs.map intD)) (hz : zs.length = rs.length) (hr : ∀ r ∈ rs, s.sort < r.length) (hb : h[b]? = some (.box 28 [.int .i64 p1, .int .i64 p2, .int .i64 p3, .int .i64 p4, Of, Cs])) (bu : h[b2]? = some (.box 66 [Cd, .int .i64 s.key, .int .i64 s.cmp, .int .i64 s.del, .int .i64 s.sort, A])) (hl : rs.length ≤ 200) :
 ∀ (q i : Nat), rs.length - i ≤ q → 1 ≤ i → ((∃ ex, C X (.loop ef) [(3, .ref b 0), (5, A), (7, .ref b2 0), (9, .int .i64 i)] h = some (.exit 0, ex, h)) ∧ ∀ j, i ≤ j → j < rs.length → eV s rs zs j) ∨ (C X (.loop ef) [(3, .ref b 0), (5, A), (7, .ref b2 0), (9, .int .i64 i)] h = some (.ret, [(4, .bool false)], h) ∧ ∃ j, 1 ≤ j ∧ j < rs.length ∧ ¬ eV s rs zs j) := by
 have hA0 : vw h 1 A = some ds := by have := hA []; rwa [List.append_nil] at this
 have bq := hE.1
 have stop : ∀ i : Nat, rs.length ≤ i → (∃ ex, C X (.loop ef) [(3, .ref b 0), (5, A), (7, .ref b2 0), (9, .int .i64 i)] h = some (.exit 0, ex, h)) := by
  intro i hi
  have c0 : ¬ i < rs.length := by omega
  have V2 : ¬ (i : Int) < (rs.length : Int) := by omega
  rw [Zc]
  unfold ef
  refine rn (df @hA0 @bq @c0 @V2) ?_
  rw [Zx]
  exact ⟨_, rfl⟩
 intro q
 induction q with
 | zero =>
  intro i hq hi
  exact .inl ⟨stop i (by omega), fun j h1 h2 => by omega⟩
 | succ q ih =>
  intro i hq hi
  by_cases c : i < rs.length
  case neg => exact .inl ⟨stop i (by omega), fun j h1 h2 => by omega⟩
  obtain ⟨I, hI⟩ : ∃ I, I = i + 1 := ⟨_, rfl⟩
  have z1 : IntKind.i64.wrap ((i : Int) + 1) = (I : Int) := wr
  obtain ⟨J, hJ⟩ : ∃ J, J = i - 1 := ⟨_, rfl⟩
  have z2 : IntKind.i64.wrap ((i : Int) - 1) = (J : Int) := wr
  have cJ : J < rs.length := by omega
  have c' : (i : Int) < (rs.length : Int) := by omega
  have qn := JG (Cd := Cd) (s := s) hA hE (List.getElem?_eq_getElem cJ) (List.getElem?_eq_getElem c) (hr _ (List.getElem_mem cJ)) (hr _ (List.getElem_mem c))
  have J0 : fG s (rs.getD (i - 1) []) (rs.getD i []) = fG s rs[J] rs[i] := by rw [← hJ]; simp [List.getD_eq_getElem?_getD, c, cJ]
  generalize fG s rs[J] rs[i] = r at *
  obtain ⟨x, hx⟩ : ∃ x, x = zs[i]'(by omega) := ⟨_, rfl⟩
  obtain ⟨y, hy⟩ : ∃ y, y = zs[J]'(by omega) := ⟨_, rfl⟩
  have bN : zs[i]? = some x := by rw [hx]; exact List.getElem?_eq_getElem _
  have tQ : zs[J]? = some y := by rw [hy]; exact List.getElem?_eq_getElem _
  have hx' := hx.symm
  have hy' := hy.symm
  have SX : i < zs.length := by omega
  have SY : J < zs.length := by omega
  have bad : C X ef [(3, .ref b 0), (5, A), (7, .ref b2 0), (9, .int .i64 i)] h = some (.ret, [(4, .bool false)], h) → ¬ eV s rs zs i → ((∃ ex, C X (.loop ef) [(3, .ref b 0), (5, A), (7, .ref b2 0), (9, .int .i64 i)] h = some (.exit 0, ex, h)) ∧ ∀ j, i ≤ j → j < rs.length → eV s rs zs j) ∨ (C X (.loop ef) [(3, .ref b 0), (5, A), (7, .ref b2 0), (9, .int .i64 i)] h = some (.ret, [(4, .bool false)], h) ∧ ∃ j, 1 ≤ j ∧ j < rs.length ∧ ¬ eV s rs zs j) := fun hs hr' => by
   right
   exact ⟨by rw [Zc, hs, Yw], i, hi, c, hr'⟩
  have good : C X ef [(3, .ref b 0), (5, A), (7, .ref b2 0), (9, .int .i64 i)] h = some (.norm, [(3, .ref b 0), (5, A), (7, .ref b2 0), (9, .int .i64 I)], h) → eV s rs zs i → ((∃ ex, C X (.loop ef) [(3, .ref b 0), (5, A), (7, .ref b2 0), (9, .int .i64 i)] h = some (.exit 0, ex, h)) ∧ ∀ j, i ≤ j → j < rs.length → eV s rs zs j) ∨ (C X (.loop ef) [(3, .ref b 0), (5, A), (7, .ref b2 0), (9, .int .i64 i)] h = some (.ret, [(4, .bool false)], h) ∧ ∃ j, 1 ≤ j ∧ j < rs.length ∧ ¬ eV s rs zs j) := fun hs hr' => by
   rw [Zc, hs, ZB]
   rcases ih I (by omega) (by omega) with ⟨h1, h2⟩ | h1
   ·refine .inl ⟨h1, fun j h3 h4 => ?_⟩
    by_cases e : i = j
    ·subst e; exact hr'
    ·exact h2 j (by omega) h4
   ·exact .inr h1
  have hmay : eV s rs zs i ↔ r ≤ 0 ∧ (r = 0 → y < x) := by
   unfold eV
   rw [J0, ← hJ]
   simp only [List.getD_eq_getElem?_getD, bN, tQ, Option.getD_some]
  clear ih hx hy stop hE hA hr J0
  by_cases c1 : 0 < r
  ·refine bad ?_ (by rw [hmay]; omega)
   clear bad good hmay
   obtain ⟨cols, k1, k2, k3, k4⟩ := s
   simp only at *
   unfold ef
   refine Yx (ei @c @c' @z1 @z2 @hA0 @bq @hb @bu @qn @c1) ?_
   simp [Za, lk]
  by_cases c2 : r = 0
  ·subst c2
   by_cases c3 : x ≤ y
   ·refine bad ?_ (by rw [hmay]; omega)
    clear bad good hmay
    obtain ⟨cols, k1, k2, k3, k4⟩ := s
    simp only at *
    unfold ef
    refine Yx (qJ @c @c' @z1 @z2 @hA0 @bq @hb @bu @qn @hO @bN @tQ @hx' @hy' @SX @SY @c3) ?_
    simp [Za, lk]
   ·refine good ?_ (by rw [hmay]; omega)
    clear bad good hmay
    obtain ⟨cols, k1, k2, k3, k4⟩ := s
    simp only at *
    unfold ef
    refine Yx (qJ @c @c' @z1 @z2 @hA0 @bq @hb @bu @qn @hO @bN @tQ @hx' @hy' @SX @SY @c3) ?_
    simp [Za, lk]
  ·have dA : (r == 0) = false := by simpa using c2
   refine good ?_ (by rw [hmay]; omega)
   clear bad good hmay
   obtain ⟨cols, k1, k2, k3, k4⟩ := s
   simp only at *
   unfold ef
   refine Yx (dR @c @c' @z1 @z2 @hA0 @bq @hb @bu @qn @c1 @c2 @dA) ?_
   simp [Za, lk]
set_option maxHeartbeats 4000000 in
theorem DZ {H : Zb} {Cd Of Cs : DV} {s : Sch} {p1 p2 p3 p4 : Int} {zs : List Int} {cs : List RC} (hS : ∀ g, vw g 3 Cd = some (s.cols.map Cl.d)) (hsl : s.cols.length ≤ 1000) (hO : qR Of zs) (hC : ∀ g, vw g 3 Cs = some (cs.map RC.d)) (hok : ∀ c ∈ cs, c.Ok) (hn : zs.length ≤ 200) (hcl : cs.length ≤ 12) (aR : Cd.one = true) :
 ∃ r, E X 26 [Yl Cd s, .agg [.int .i64 p1, .int .i64 p2, .int .i64 p3, .int .i64 p4, Of, Cs]] H = some (.bool r, H) ∧ (r = true ↔ MayOk s p1 p2 p3 p4 zs cs) := by
 have qg := hO.vw
 obtain ⟨H1, ay⟩ : ∃ H1, H1 = H ++ [HO.box 24 [Cd, .int .i64 s.key, .int .i64 s.cmp, .int .i64 s.del, .int .i64 s.sort], .box 28 [.int .i64 p1, .int .i64 p2, .int .i64 p3, .int .i64 p4, Of, Cs]] := ⟨_, rfl⟩
 have cW : (zs.map intD).length = zs.length := List.length_map _
 have dF : ∀ (r : Bool) (G : Zb), fin H (H1 ++ G) [.bool r] = (.bool r, H) := fun r G => by
  have : (H1 ++ G).take H.length = H := by rw [ay, List.append_assoc]; exact List.take_left
  simp [fin, this, aH, aJ]
 have eT : ∀ (r : Bool), fin H H1 [.bool r] = (.bool r, H) := fun r => by have := dF r []; rwa [List.append_nil] at this
 rcases Cm (H := H1) (p1 := p1) (p2 := p2) (p3 := p3) (p4 := p4) qg hC hok (by rw [cW]; exact hn) hcl with ⟨hall, A, G, ds, dz, hA⟩ | ⟨hall, dz⟩
 case inr =>
  refine ⟨false, ?_, (fun h => by cases h), fun h => absurd h.all (by rwa [cW] at hall)⟩
  have hf := dF false [.box 66 [Cd, .int .i64 s.key, .int .i64 s.cmp, .int .i64 s.del, .int .i64 s.sort, .nils]]
  clear hall hok hO dF eT
  subst ay
  obtain ⟨cols, k1, k2, k3, k4⟩ := s
  simp only [Yl, Yi] at *
  rw [Zv (X := X) _ gm _ rfl rfl]; unfold gm; exact d8 (cg @dz @aR @hf)
 rw [cW] at hall hA
 obtain ⟨rs, hrs⟩ : ∃ rs, rs = fu (cs.map RC.sc) zs.length := ⟨_, rfl⟩
 have j4 : rs.length = zs.length := by rw [hrs]; simp [fu]
 rw [← hrs] at hA
 have dV : A.one = true := by rcases hA.sh with ⟨rfl, _⟩ | ⟨o, rfl, _⟩ <;> rfl
 have jw := gi dV
 have jv : A.isU = false := by rcases hA.sh with ⟨rfl, _⟩ | ⟨o, rfl, _⟩ <;> rfl
 unfold DV.cells at jw
 unfold DV.isU at jv
 obtain ⟨HB, dc⟩ : ∃ HB, HB = H1 ++ G := ⟨_, rfl⟩
 obtain ⟨HC, js⟩ : ∃ HC, HC = HB ++ [HO.box 66 [Cd, .int .i64 s.key, .int .i64 s.cmp, .int .i64 s.del, .int .i64 s.sort, A]] := ⟨_, rfl⟩
 rw [← dc] at dz
 have vA : ∀ G', vw (HC ++ G') 1 A = some ds := fun G' => by rw [js, dc, List.append_assoc]; exact hA.v _
 have rA : cF HC ds rs := by rw [js, dc]; exact hA.rows.ext _
 have bq : ds.length = zs.length := by rw [hA.rows.1, j4]
 have g2 : ∀ G', (HC ++ G')[H.length]? = some (.box 24 [Cd, .int .i64 s.key, .int .i64 s.cmp, .int .i64 s.del, .int .i64 s.sort]) := fun G' => by rw [js, dc, ay]; simp [List.append_assoc]
 have g3 : ∀ G', (HC ++ G')[H.length + 1]? = some (.box 28 [.int .i64 p1, .int .i64 p2, .int .i64 p3, .int .i64 p4, Of, Cs]) := fun G' => by rw [js, dc, ay]; simp [List.append_assoc, ae]
 have g7 : ∀ G', (HC ++ G')[HB.length]? = some (.box 66 [Cd, .int .i64 s.key, .int .i64 s.cmp, .int .i64 s.del, .int .i64 s.sort, A]) := fun G' => by rw [js]; simp [List.append_assoc]
 have q2 : ∀ G', (HB ++ G')[H.length]? = some (.box 24 [Cd, .int .i64 s.key, .int .i64 s.cmp, .int .i64 s.del, .int .i64 s.sort]) := fun G' => by rw [dc, ay]; simp [List.append_assoc]
 have q3 : ∀ G', (HB ++ G')[H.length + 1]? = some (.box 28 [.int .i64 p1, .int .i64 p2, .int .i64 p3, .int .i64 p4, Of, Cs]) := fun G' => by rw [dc, ay]; simp [List.append_assoc, ae]
 have q4 : ∀ G', (HB ++ G').take H.length = H := fun G' => by rw [dc, ay, List.append_assoc, List.append_assoc]; exact List.take_left
 have iZ : ∀ (r : Bool) (G' : Zb), fin H (HC ++ G') [.bool r] = (.bool r, H) := fun r G' => by rw [js, dc, List.append_assoc, List.append_assoc]; exact dF r _
 have jI : ∀ (r : Bool), fin H HC [.bool r] = (.bool r, H) := fun r => by have := iZ r []; rwa [List.append_nil] at this
 obtain ⟨gY, wU⟩ : ∃ b, bj p1 p2 p3 p4 = b := ⟨_, rfl⟩
 have mP := DY p1 p2 p3 p4 Of Cs
 rw [wU] at mP
 have n1 : ¬ (4096 : Int) < (zs.length : Int) := by omega
 have n2 : ¬ 4096 < zs.length := by omega
 have kD := Co (H := HC) (A := A) (s := s) hS hsl vA rA (by omega)
 have jT := q2 []
 have pH := q3 []
 rw [List.append_nil] at jT pH
 cases gY
 ·refine ⟨false, ?_, (fun h => by cases h), fun h => by rw [h.head] at wU; cases wU⟩
  have hf := jI false
  clear kD vA rA g2 g3 g7 iZ jI dF eT hall hA hok hO hrs hS dc
  subst js
  subst ay
  obtain ⟨cols, k1, k2, k3, k4⟩ := s
  simp only [Yl, Yi] at *
  rw [Zv (X := X) _ gm _ rfl rfl]; unfold gm; exact d8 (dR @dz @aR @dV @jw @jv @mP @q2 @q3 @q4 @jT @pH @hf)
 by_cases c2 : cs.length = s.cols.length
 case neg =>
  refine ⟨false, ?_, (fun h => by cases h), fun h => absurd h.cols c2⟩
  have dA : ((cs.length : Int) != (s.cols.length : Int)) = true := by simp only [bne_iff_ne, ne_eq]; omega
  have hf := jI false
  clear kD vA rA g2 g3 g7 iZ jI dF eT hall hA hok hO hrs dc
  subst js
  subst ay
  obtain ⟨cols, k1, k2, k3, k4⟩ := s
  simp only [Yl, Yi] at *
  rw [Zv (X := X) _ gm _ rfl rfl]; unfold gm; exact d8 (sI @dz @aR @dV @jw @jv @mP @q2 @q3 @q4 @jT @pH @qg @hC @hS @cW @n1 @n2 @c2 @dA @hf)
 cases hfa : ey s rs
 ·refine ⟨false, ?_, (fun h => by cases h), fun h => by have := h.fit; rw [← hrs, hfa] at this; cases this⟩
  rw [hfa] at kD
  have hf := jI false
  clear vA rA g2 g3 g7 iZ jI dF eT hall hA hok hO hrs dc hfa
  subst js
  subst ay
  obtain ⟨cols, k1, k2, k3, k4⟩ := s
  simp only [Yl, Yi] at *
  rw [Zv (X := X) _ gm _ rfl rfl]; unfold gm; exact d8 (sI @dz @aR @dV @jw @jv @mP @kD @q2 @q3 @q4 @jT @pH @qg @hC @hS @cW @n1 @n2 @c2 @hf)
 rw [hfa] at kD
 have hr : ∀ r ∈ rs, s.sort < r.length := fun r hr => by
  unfold ey at hfa
  simp only [Bool.and_eq_true, Bool.not_eq_true', List.any_eq_false] at hfa
  obtain ⟨f1, f2⟩ := hfa
  have f3 : dX s r = true := by
   have f4 := f2 r hr
   cases h : dX s r
   ·exact absurd (by simp [h]) f4
   ·rfl
  unfold dX at f3
  simp only [Bool.and_eq_true, decide_eq_true_eq] at f3
  unfold cm at f1
  simp only [Bool.and_eq_true, decide_eq_true_eq] at f1
  have := f1.2.2.2.2.2
  have := f3.2.1
  omega
 have hpos : 0 < cs.length := by
  unfold ey cm at hfa
  simp only [Bool.and_eq_true, decide_eq_true_eq] at hfa
  have := hfa.1.2.1
  omega
 obtain ⟨Wj, ri, h31⟩ := QF hO (by omega) HC
 have main : ∀ (L8 : DV) (P : Zb), (∀ G', vw ((HC ++ P) ++ G') 1 L8 = some ((cO zs).map intD)) → (∃ iF, E X 35 [.agg [.int .i64 p1, .int .i64 p2, .int .i64 p3, .int .i64 p4, Of, Cs], L8] (HC ++ P) = some (.bool iF, HC ++ P) ∧ (iF = true ↔ nj p3 p4 (cO zs))) ∧ (((∃ ex, C X (.loop ef) [(3, .ref (H.length + 1) 0), (5, A), (7, .ref HB.length 0), (9, .int .i64 1)] (HC ++ P) = some (.exit 0, ex, HC ++ P)) ∧ ∀ j, 1 ≤ j → j < rs.length → eV s rs zs j) ∨ (C X (.loop ef) [(3, .ref (H.length + 1) 0), (5, A), (7, .ref HB.length 0), (9, .int .i64 1)] (HC ++ P) = some (.ret, [(4, .bool false)], HC ++ P) ∧ ∃ j, 1 ≤ j ∧ j < rs.length ∧ ¬ eV s rs zs j)) := by
  intro L8 P hv
  refine ⟨JH hv (by rw [rB]; omega), ?_⟩
  have := Ns (Cd := Cd) (s := s) (h := HC ++ P) (fun G' => by rw [List.append_assoc]; exact vA _) (rA.ext P) qg j4.symm hr (g3 P) (g7 P) (by omega) rs.length 1 (by omega) (by omega)
  exact this
 rcases h31 with ⟨h0, rfl | rfl⟩ | ⟨h0, rfl⟩
 ·have sL := KG
  obtain ⟨⟨iF, kM, lB⟩, fW⟩ := main .nils [] (fun G' => by rw [h0]; simp [vw, cO])
  try simp only [List.append_nil] at kM fW
  cases iF
  ·refine ⟨false, ?_, (fun h => by cases h), fun h => by have := lB.2 h.rises; cases this⟩
   clear lB
   have hf := iZ false []
   try simp only [List.append_nil] at hf
   have g20 := g2 []
   have mg := g3 []
   have me := g7 []
   clear main vA rA iZ jI dF eT hall hA hok hO hrs dc hfa hr
   subst js
   subst ay
   obtain ⟨cols, k1, k2, k3, k4⟩ := s
   simp only [Yl, Yi, List.length_append, List.length_cons, List.length_nil, List.append_assoc, List.cons_append, List.nil_append, List.append_nil, Nat.zero_add] at *
   rw [Zv (X := X) _ gm _ rfl rfl]; unfold gm
   refine Yx (wZ @dz @aR @dV @jw @jv @mP @kD @ri @sL @q2 @q3 @q4 @jT @pH @g2 @g3 @g7 @g20 @mg @me @qg @hC @hS @cW @n1 @n2 @c2 @kM) ?_
   exact re (aD @hf @q4)
  rcases fW with ⟨⟨ex, fW⟩, hml⟩ | ⟨fW, j0, qZ, hj2, xU⟩
  ·refine ⟨true, ?_, fun _ => ⟨hall, wU, c2, by rw [← hrs]; exact hfa, lB.1 rfl, fun j h1 h2 => by rw [← hrs]; exact hml j h1 (by omega)⟩, fun _ => rfl⟩
   clear lB hml
   have hf := iZ true []
   try simp only [List.append_nil] at hf
   have g20 := g2 []
   have mg := g3 []
   have me := g7 []
   clear main vA rA iZ jI dF eT hall hA hok hO hrs dc hfa hr
   subst js
   subst ay
   obtain ⟨cols, k1, k2, k3, k4⟩ := s
   simp only [Yl, Yi, List.length_append, List.length_cons, List.length_nil, List.append_assoc, List.cons_append, List.nil_append, List.append_nil, Nat.zero_add] at *
   rw [Zv (X := X) _ gm _ rfl rfl]; unfold gm
   refine Yx (wZ @dz @aR @dV @jw @jv @mP @kD @ri @sL @q2 @q3 @q4 @jT @pH @g2 @g3 @g7 @g20 @mg @me @qg @hC @hS @cW @n1 @n2 @c2 @kM) ?_
   refine Yy ?_
   rw [fW]
   refine rn trivial ?_
   simp only [Zh, ZV, lk, Za, List.map_cons, List.map_nil, reduceIte, Option.map_some, Nat.reduceEqDiff, hf]
  ·refine ⟨false, ?_, (fun h => by cases h), fun h => absurd (by rw [hrs]; exact h.sorted j0 qZ (by omega)) xU⟩
   clear lB xU
   have hf := iZ false []
   try simp only [List.append_nil] at hf
   have g20 := g2 []
   have mg := g3 []
   have me := g7 []
   clear main vA rA iZ jI dF eT hall hA hok hO hrs dc hfa hr
   subst js
   subst ay
   obtain ⟨cols, k1, k2, k3, k4⟩ := s
   simp only [Yl, Yi, List.length_append, List.length_cons, List.length_nil, List.append_assoc, List.cons_append, List.nil_append, List.append_nil, Nat.zero_add] at *
   rw [Zv (X := X) _ gm _ rfl rfl]; unfold gm
   refine Yx (wZ @dz @aR @dV @jw @jv @mP @kD @ri @sL @q2 @q3 @q4 @jT @pH @g2 @g3 @g7 @g20 @mg @me @qg @hC @hS @cW @n1 @n2 @c2 @kM) ?_
   refine Yy ?_
   rw [fW]
   refine rn trivial ?_
   simp only [Zh, ZV, lk, Za, List.map_cons, List.map_nil, reduceIte, Option.map_some, Nat.reduceEqDiff, hf]
 ·have sL := GG
  obtain ⟨⟨iF, kM, lB⟩, fW⟩ := main (.list 1 [] true) [] (fun G' => by rw [h0]; simp [vw, cO])
  try simp only [List.append_nil] at kM fW
  cases iF
  ·refine ⟨false, ?_, (fun h => by cases h), fun h => by have := lB.2 h.rises; cases this⟩
   clear lB
   have hf := iZ false []
   try simp only [List.append_nil] at hf
   have g20 := g2 []
   have mg := g3 []
   have me := g7 []
   clear main vA rA iZ jI dF eT hall hA hok hO hrs dc hfa hr
   subst js
   subst ay
   obtain ⟨cols, k1, k2, k3, k4⟩ := s
   simp only [Yl, Yi, List.length_append, List.length_cons, List.length_nil, List.append_assoc, List.cons_append, List.nil_append, List.append_nil, Nat.zero_add] at *
   rw [Zv (X := X) _ gm _ rfl rfl]; unfold gm
   refine Yx (wZ @dz @aR @dV @jw @jv @mP @kD @ri @sL @q2 @q3 @q4 @jT @pH @g2 @g3 @g7 @g20 @mg @me @qg @hC @hS @cW @n1 @n2 @c2 @kM) ?_
   exact re (aD @hf @q4)
  rcases fW with ⟨⟨ex, fW⟩, hml⟩ | ⟨fW, j0, qZ, hj2, xU⟩
  ·refine ⟨true, ?_, fun _ => ⟨hall, wU, c2, by rw [← hrs]; exact hfa, lB.1 rfl, fun j h1 h2 => by rw [← hrs]; exact hml j h1 (by omega)⟩, fun _ => rfl⟩
   clear lB hml
   have hf := iZ true []
   try simp only [List.append_nil] at hf
   have g20 := g2 []
   have mg := g3 []
   have me := g7 []
   clear main vA rA iZ jI dF eT hall hA hok hO hrs dc hfa hr
   subst js
   subst ay
   obtain ⟨cols, k1, k2, k3, k4⟩ := s
   simp only [Yl, Yi, List.length_append, List.length_cons, List.length_nil, List.append_assoc, List.cons_append, List.nil_append, List.append_nil, Nat.zero_add] at *
   rw [Zv (X := X) _ gm _ rfl rfl]; unfold gm
   refine Yx (wZ @dz @aR @dV @jw @jv @mP @kD @ri @sL @q2 @q3 @q4 @jT @pH @g2 @g3 @g7 @g20 @mg @me @qg @hC @hS @cW @n1 @n2 @c2 @kM) ?_
   refine Yy ?_
   rw [fW]
   refine rn trivial ?_
   simp only [Zh, ZV, lk, Za, List.map_cons, List.map_nil, reduceIte, Option.map_some, Nat.reduceEqDiff, hf]
  ·refine ⟨false, ?_, (fun h => by cases h), fun h => absurd (by rw [hrs]; exact h.sorted j0 qZ (by omega)) xU⟩
   clear lB xU
   have hf := iZ false []
   try simp only [List.append_nil] at hf
   have g20 := g2 []
   have mg := g3 []
   have me := g7 []
   clear main vA rA iZ jI dF eT hall hA hok hO hrs dc hfa hr
   subst js
   subst ay
   obtain ⟨cols, k1, k2, k3, k4⟩ := s
   simp only [Yl, Yi, List.length_append, List.length_cons, List.length_nil, List.append_assoc, List.cons_append, List.nil_append, List.append_nil, Nat.zero_add] at *
   rw [Zv (X := X) _ gm _ rfl rfl]; unfold gm
   refine Yx (wZ @dz @aR @dV @jw @jv @mP @kD @ri @sL @q2 @q3 @q4 @jT @pH @g2 @g3 @g7 @g20 @mg @me @qg @hC @hS @cW @n1 @n2 @c2 @kM) ?_
   refine Yy ?_
   rw [fW]
   refine rn trivial ?_
   simp only [Zh, ZV, lk, Za, List.map_cons, List.map_nil, reduceIte, Option.map_some, Nat.reduceEqDiff, hf]
 ·have sL := GH (P := HC) h0 (by omega)
  have N0 : (zs.map intD).length = zs.length := cW
  obtain ⟨⟨iF, kM, lB⟩, fW⟩ := main (.row HC.length 0 0 zs.length false) [.row 3 1 0 ((cO zs).map intD)] (fun G' => by rw [List.append_assoc]; simp [vw, rB]; exact List.take_of_length_le (by rw [List.length_map, rB]; omega))
  try simp only [List.append_nil] at kM fW
  cases iF
  ·refine ⟨false, ?_, (fun h => by cases h), fun h => by have := lB.2 h.rises; cases this⟩
   clear lB
   have hf := iZ false [.row 3 1 0 ((cO zs).map intD)]
   try simp only [List.append_nil] at hf
   have g20 := g2 []
   have mg := g3 []
   have me := g7 []
   clear main vA rA iZ jI dF eT hall hA hok hO hrs dc hfa hr
   subst js
   subst ay
   obtain ⟨cols, k1, k2, k3, k4⟩ := s
   simp only [Yl, Yi, List.length_append, List.length_cons, List.length_nil, List.append_assoc, List.cons_append, List.nil_append, List.append_nil, Nat.zero_add] at *
   rw [Zv (X := X) _ gm _ rfl rfl]; unfold gm
   refine Yx (Ij @dz @aR @dV @jw @jv @mP @kD @ri @sL @N0 @q2 @q3 @q4 @jT @pH @g2 @g3 @g7 @g20 @mg @me @qg @hC @hS @cW @n1 @n2 @c2 @kM) ?_
   exact re (aD @hf @q4)
  rcases fW with ⟨⟨ex, fW⟩, hml⟩ | ⟨fW, j0, qZ, hj2, xU⟩
  ·refine ⟨true, ?_, fun _ => ⟨hall, wU, c2, by rw [← hrs]; exact hfa, lB.1 rfl, fun j h1 h2 => by rw [← hrs]; exact hml j h1 (by omega)⟩, fun _ => rfl⟩
   clear lB hml
   have hf := iZ true [.row 3 1 0 ((cO zs).map intD)]
   try simp only [List.append_nil] at hf
   have g20 := g2 []
   have mg := g3 []
   have me := g7 []
   clear main vA rA iZ jI dF eT hall hA hok hO hrs dc hfa hr
   subst js
   subst ay
   obtain ⟨cols, k1, k2, k3, k4⟩ := s
   simp only [Yl, Yi, List.length_append, List.length_cons, List.length_nil, List.append_assoc, List.cons_append, List.nil_append, List.append_nil, Nat.zero_add] at *
   rw [Zv (X := X) _ gm _ rfl rfl]; unfold gm
   refine Yx (Ij @dz @aR @dV @jw @jv @mP @kD @ri @sL @N0 @q2 @q3 @q4 @jT @pH @g2 @g3 @g7 @g20 @mg @me @qg @hC @hS @cW @n1 @n2 @c2 @kM) ?_
   refine Yy ?_
   rw [fW]
   refine rn trivial ?_
   simp only [Zh, ZV, lk, Za, List.map_cons, List.map_nil, reduceIte, Option.map_some, Nat.reduceEqDiff, hf]
  ·refine ⟨false, ?_, (fun h => by cases h), fun h => absurd (by rw [hrs]; exact h.sorted j0 qZ (by omega)) xU⟩
   clear lB xU
   have hf := iZ false [.row 3 1 0 ((cO zs).map intD)]
   try simp only [List.append_nil] at hf
   have g20 := g2 []
   have mg := g3 []
   have me := g7 []
   clear main vA rA iZ jI dF eT hall hA hok hO hrs dc hfa hr
   subst js
   subst ay
   obtain ⟨cols, k1, k2, k3, k4⟩ := s
   simp only [Yl, Yi, List.length_append, List.length_cons, List.length_nil, List.append_assoc, List.cons_append, List.nil_append, List.append_nil, Nat.zero_add] at *
   rw [Zv (X := X) _ gm _ rfl rfl]; unfold gm
   refine Yx (Ij @dz @aR @dV @jw @jv @mP @kD @ri @sL @N0 @q2 @q3 @q4 @jT @pH @g2 @g3 @g7 @g20 @mg @me @qg @hC @hS @cW @n1 @n2 @c2 @kM) ?_
   refine Yy ?_
   rw [fW]
   refine rn trivial ?_
   simp only [Zh, ZV, lk, Za, List.map_cons, List.map_nil, reduceIte, Option.map_some, Nat.reduceEqDiff, hf]
theorem AOut.lift1 {H h2 G : Zb} {A : DV} {ds : List DV} {rs : List (List V)} (ht : h2.take H.length = H) (a : AOut h2 G A ds rs) : ∃ G2, fin H (h2 ++ G) [A] = (A, H ++ G2) ∧ AOut H G2 A ds rs := by
 have zQ := eI ht
 have hpre : (h2 ++ G).take H.length = H := by rw [List.take_append_of_le_length zQ]; exact ht
 obtain ⟨G2, hf, hO⟩ := a.lift ht
 rcases a.sh with ⟨rfl, rfl, hN⟩ | ⟨o, rfl, h1, h3, hN⟩
 ·refine ⟨G2, ?_, hO⟩
  have gE : G2 = [] := by
   simp only [fin] at hf
   rw [if_pos hpre] at hf
   simp only [bJ, aH, aJ] at hf
   injection hf with _ hf
   have := congrArg List.length hf
   rw [List.length_append] at this
   exact List.eq_nil_of_length_eq_zero (by omega)
  rw [gE]
  rw [List.append_nil] at hpre
  simp only [List.append_nil]
  simp only [fin]
  rw [if_pos hpre]
  simp only [aH, aJ]
 ·refine ⟨G2, ?_, hO⟩
  have gE : h2 ++ G = H ++ G2 := by
   simp only [fin] at hf
   rw [if_pos hpre] at hf
   simp only [bJ, aH, aJ] at hf
   rw [if_neg (by omega), h3] at hf
   simp only at hf
   rw [if_neg (fun h => hN h.2.2)] at hf
   injection hf with _ hf
  simp only [fin]
  rw [if_pos hpre]
  simp only [aH, aJ]
  rw [if_neg (by omega), h3]
  simp only
  rw [if_neg (fun h => hN h.2.2), gE]
theorem JJ {H : Zb} {Of Cs : DV} {p1 p2 p3 p4 : Int} {os : List DV} {cs : List RC} (hO : ∀ g, vw g 1 Of = some os) (hC : ∀ g, vw g 3 Cs = some (cs.map RC.d)) (hok : ∀ c ∈ cs, c.Ok) (hn : os.length ≤ 200) (hcl : cs.length ≤ 12) (hall : ∀ c ∈ cs, c.n = (os.length : Int) ∧ okC c.n c.ys c.bs) (hpos : 0 < cs.length) :
 ∃ A G ds, E X 24 [.agg [.int .i64 p1, .int .i64 p2, .int .i64 p3, .int .i64 p4, Of, Cs]] H = some (A, H ++ G) ∧ AOut H G A ds (fu (cs.map RC.sc) os.length) := by
 obtain ⟨H1, ay⟩ : ∃ H1, H1 = H ++ [HO.box 28 [.int .i64 p1, .int .i64 p2, .int .i64 p3, .int .i64 p4, Of, Cs]] := ⟨_, rfl⟩
 have ht1 : H1.take H.length = H := by rw [ay, List.take_append_of_le_length (Nat.le_refl _)]; exact List.take_length
 rcases Cm (H := H1) (p1 := p1) (p2 := p2) (p3 := p3) (p4 := p4) hO hC hok hn hcl with ⟨_, A, G, ds, dz, hA⟩ | ⟨hno, _⟩
 ·obtain ⟨G2, hf, BJ⟩ := hA.lift1 ht1
  refine ⟨A, G2, ds, ?_, BJ⟩
  have hb : ∀ G', (H1 ++ G')[H.length]? = some (.box 28 [.int .i64 p1, .int .i64 p2, .int .i64 p3, .int .i64 p4, Of, Cs]) := fun G' => by rw [ay]; simp [List.append_assoc]
  obtain ⟨HB, dc⟩ : ∃ HB, HB = H1 ++ G := ⟨_, rfl⟩
  have Vm : HB[H.length]? = some (.box 28 [.int .i64 p1, .int .i64 p2, .int .i64 p3, .int .i64 p4, Of, Cs]) := by rw [dc]; exact hb G
  rw [← dc] at dz hf
  have Ra : (0 : Int) < (cs.length : Int) := by omega
  clear hA BJ hall hok hb dc ht1
  subst ay
  rw [Zv (X := X) _ AH _ rfl rfl]; unfold AH
  refine Yx (eP @dz @Vm @hC @hpos @Ra) ?_
  simp only [Zh, ZV, lk, Za, List.map_cons, List.map_nil, reduceIte, Option.map_some, Nat.reduceEqDiff, hf]
 ·exact absurd hall hno
structure SegN (Of Cs : DV) (zs : List Int) (cs : List RC) : Prop where
 o : qR Of zs
 c : ∀ g, vw g 3 Cs = some (cs.map RC.d)
 raw : ∀ c ∈ cs, c.Raw
end Go.Proofs.YtmbgfbomgbdjeaaGreatDoor
