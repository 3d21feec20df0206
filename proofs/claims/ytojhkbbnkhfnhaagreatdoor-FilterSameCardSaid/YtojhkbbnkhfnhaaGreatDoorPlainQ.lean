/- Ideal runs: DictSearches and DictPlaces. Ideal runs: DictPlaces. Ideal runs: what is sorted, of any length; dictionaries as a whole. Plain Lean: what is added, found and sorted. Ideal runs: the document's dictionary. -/
import Derived.Test.YtojhkbbnkhfnhaaGreatDoorPlainM
import Derived.Test.YtojhkbbnkhfnhaaGreatDoorSortB
namespace Go.Proofs.YtojhkbbnkhfnhaaGreatDoor
attribute [local go_sem] Ya ZT ZV ZW ZO ZF ZM ZI ZK ZB ZC ZJ ZP ZQ ZX ZN ZG ZU Zp Zm Yg ZS Yq put lk Od.v Za ZE ZA YB Ym Yn Yo unx YE DV.isU DV.cells hget Yb Yj Yd ZL splice Ye mat Yi YD one_bool one_int one_str one_nilp one_ref one_elem one_nils one_list one_row one_nilm one_map one_nilf one_func one_nili one_ifc one_agg one_tup one_undef one_fresh
attribute [local go_sem ↓] ZH
set_option linter.unusedVariables false
set_option linter.unusedSimpArgs false
set_option maxRecDepth 10000
theorem run74 {h : ZD} {A : DV} {xs : List V} (v : V) (hA : ∀ l, vw (h ++ l) 4 A = some (xs.map V.d)) (hb : xs.length ≤ 1000000) :
    E X 74 [A, v.d] h = some (.tup [.int .i64 (if risL none xs = true ∧ mayV v = true then place xs v else 0 : Nat), .bool (risL none xs && (mayV v && found xs v))], h) := by
  have e1 := fun l => run109 (h := h ++ l) (A := A) (xs := xs) (fun l' => by rw [List.append_assoc]; exact hA _) hb
  have e2 := run72 v
  have e3 := fun l => run118 (h := h ++ l) (L := A) (xs := xs) v (fun l' => by rw [List.append_assoc]; exact hA _) hb
  cases hr : risL none xs
  · rw [Yc (X := X) _ b74 _ rfl rfl]; unfold b74; (repeat (first | rw [Zj] | rw [Zc (by simp [go_sem, e1, e2, hr]; exact ⟨rfl, rfl⟩)] | rw [Zv (by simp [lk, Za, Od.v, e1, e2, hr]; exact rfl)] | rw [Zp] | rw [Zm] | rw [Zl] | rw [Zy] | rw [Zq] | rw [Zt] | rw [Zo] | rw [Zn] | rw [Zk] | rw [Zg] | rw [Zh] | rw [Zd (by decide)] | rw [Zi] | rw [Ze] | rw [Zf] | rw [Zb (by decide)] | rw [Zz] | rw [Zu (by simp [go_sem, e1, e2, hr]; exact ⟨rfl, rfl⟩)] | rw [Zw (by simp [lk, Za, Od.v, e1, e2, hr]; exact rfl)] | rw [Zx])); simp [Zr, Zs, ZY, go_sem, fin, Yu, Yt, YA, Yy, YC, e1, e2, hr]
  · cases hm : mayV v
    · rw [Yc (X := X) _ b74 _ rfl rfl]; unfold b74; (repeat (first | rw [Zj] | rw [Zc (by simp [go_sem, e1, e2, hr, hm]; exact ⟨rfl, rfl⟩)] | rw [Zv (by simp [lk, Za, Od.v, e1, e2, hr, hm]; exact rfl)] | rw [Zp] | rw [Zm] | rw [Zl] | rw [Zy] | rw [Zq] | rw [Zt] | rw [Zo] | rw [Zn] | rw [Zk] | rw [Zg] | rw [Zh] | rw [Zd (by decide)] | rw [Zi] | rw [Ze] | rw [Zf] | rw [Zb (by decide)] | rw [Zz] | rw [Zu (by simp [go_sem, e1, e2, hr, hm]; exact ⟨rfl, rfl⟩)] | rw [Zw (by simp [lk, Za, Od.v, e1, e2, hr, hm]; exact rfl)] | rw [Zx])); simp [Zr, Zs, ZY, go_sem, fin, Yu, Yt, YA, Yy, YC, e1, e2, hr, hm]
    · rw [Yc (X := X) _ b74 _ rfl rfl]; unfold b74; (repeat (first | rw [Zj] | rw [Zc (by simp [go_sem, e1, e2, e3, hr, hm]; exact ⟨rfl, rfl⟩)] | rw [Zv (by simp [lk, Za, Od.v, e1, e2, e3, hr, hm]; exact rfl)] | rw [Zp] | rw [Zm] | rw [Zl] | rw [Zy] | rw [Zq] | rw [Zt] | rw [Zo] | rw [Zn] | rw [Zk] | rw [Zg] | rw [Zh] | rw [Zd (by decide)] | rw [Zi] | rw [Ze] | rw [Zf] | rw [Zb (by decide)] | rw [Zz] | rw [Zu (by simp [go_sem, e1, e2, e3, hr, hm]; exact ⟨rfl, rfl⟩)] | rw [Zw (by simp [lk, Za, Od.v, e1, e2, e3, hr, hm]; exact rfl)] | rw [Zx])); simp [Zr, Zs, ZY, go_sem, fin, Yu, Yt, YA, Yy, YC, e1, e2, e3, hr, hm]
theorem DictAt.keep {H H' : ZD} {o m : Nat} {L : DV} {lim : Int} {vs : List V} (hd : DictAt H o m L lim vs) (ho : H'[o]? = H[o]?) (hm : H'[m]? = H[m]?) (hL : ∀ r, rowOf L = some r → H'[r]? = H[r]?) : DictAt H' o m L lim vs :=
  ⟨ho.trans hd.box, hm.trans hd.map, by
    rcases hd.row with h | ⟨r, g, h1, h2⟩
    · exact .inl h
    · exact .inr ⟨r, g, h1, (hL r (by rw [h1]; rfl)).trans h2⟩⟩
theorem GrowAt.keep {n0 t sz : Nat} {H H' : ZD} {N : DV} {ns : List DV} (hg : GrowAt n0 t sz H N ns) (hN : ∀ r, rowOf N = some r → H'[r]? = H[r]?) : GrowAt n0 t sz H' N ns := by
  rcases hg with h | ⟨r, g, h1, h2, h3⟩
  · exact .inl h
  · exact .inr ⟨r, g, h1, h2, (hN r (by rw [h1]; rfl)).trans h3⟩
theorem bl_antisymm : ∀ x y : List UInt8, Op.bytesLess x y = false → Op.bytesLess y x = false → x = y
  | [], [], _, _ => rfl
  | [], b :: y, h, _ => by simp [Op.bytesLess] at h
  | a :: x, [], _, h => by simp [Op.bytesLess] at h
  | a :: x, b :: y, h, h' => by
    simp only [Op.bytesLess, Bool.or_eq_false_iff, Bool.and_eq_false_iff, decide_eq_false_iff_not, beq_eq_false_iff_ne, ne_eq] at h h'
    have e : a = b := by
      have h1 := h.1; have h2 := h'.1
      rw [UInt8.lt_iff_toNat_lt] at h1 h2
      exact UInt8.toNat_inj.1 (by omega)
    subst e
    have h1 : Op.bytesLess x y = false := by rcases h.2 with h | h; exact absurd rfl h; exact h
    have h2 : Op.bytesLess y x = false := by rcases h'.2 with h | h; exact absurd rfl h; exact h
    rw [bl_antisymm x y h1 h2]
theorem beq_nil {s : ByteArray} (h : (s == ⟨#[]⟩) = true) : s = ⟨#[]⟩ := by
  have h' : (s.data == #[]) = true := h
  cases s
  simp at h' ⊢
  exact h'
theorem ord_antisymm {a b : V} (ha : mayV a = true) (hb : mayV b = true) (h1 : ¬ ord a b < 0) (h2 : ¬ ord b a < 0) : a = b := by
  rw [ord_neg] at h1 h2
  obtain ⟨k, n, s, t⟩ := a
  obtain ⟨k', n', s', t'⟩ := b
  simp only at h1 h2
  have hk : k = k' := by omega
  subst hk
  unfold mayV at ha hb
  simp only at ha hb
  by_cases q1 : k = 1
  · rw [if_pos q1] at ha hb
    simp only [Bool.and_eq_true, Bool.not_eq_true'] at ha hb
    rw [beq_nil ha.1, beq_nil hb.1, ha.2, hb.2]
    have : n = n' := by omega
    rw [this]
  rw [if_neg q1] at ha hb
  by_cases q2 : k = 2
  · rw [if_pos q2] at ha hb
    simp only [Bool.and_eq_true, Bool.not_eq_true', beq_iff_eq] at ha hb
    have e1 : ltS s s' = false := by
      cases h : ltS s s'
      · rfl
      · exact absurd (.inr ⟨rfl, .inr (.inl ⟨q2, h⟩)⟩) h1
    have e2 : ltS s' s = false := by
      cases h : ltS s' s
      · rfl
      · exact absurd (.inr ⟨rfl, .inr (.inl ⟨q2, h⟩)⟩) h2
    unfold ltS at e1 e2
    have e3 := bl_antisymm _ _ e1 e2
    rw [ByteArray.toList_eq, ByteArray.toList_eq] at e3
    have e4 : s = s' := by
      cases s; cases s'
      simp at e3 ⊢
      exact e3
    rw [ha.1.1, hb.1.1, ha.1.2, hb.1.2, e4]
  rw [if_neg q2] at ha hb
  by_cases q3 : k = 3
  · rw [if_pos q3] at ha hb
    simp only [Bool.and_eq_true, beq_iff_eq] at ha hb
    rw [ha.1, hb.1, beq_nil ha.2, beq_nil hb.2]
    cases t <;> cases t'
    · rfl
    · exact absurd (.inr ⟨rfl, .inr (.inr ⟨q3, rfl, rfl⟩)⟩) h1
    · exact absurd (.inr ⟨rfl, .inr (.inr ⟨q3, rfl, rfl⟩)⟩) h2
    · rfl
  rw [if_neg q3] at ha hb
  by_cases q4 : k = 0
  · rw [if_pos q4] at ha hb
    simp only [Bool.and_eq_true, Bool.not_eq_true', beq_iff_eq] at ha hb
    rw [ha.1.1, hb.1.1, beq_nil ha.1.2, beq_nil hb.1.2, ha.2, hb.2]
  · rw [if_neg q4] at ha
    cases ha
theorem up_ris : ∀ (l : List V) (p : Option V), Up (p.toList ++ l) → (∀ x ∈ l, mayV x = true) → risL p l = true
  | [], p, _, _ => by cases p <;> rfl
  | a :: l, none, h, hm => by
    simp only [risL, Bool.and_eq_true]
    exact ⟨hm a (by simp), up_ris l (some a) h (fun x hx => hm x (by simp [hx]))⟩
  | a :: l, some p, h, hm => by
    simp only [risL, Bool.and_eq_true, decide_eq_true_eq]
    have h' := List.pairwise_cons.1 h
    exact ⟨hm a (by simp), h'.1 a (by simp), up_ris l (some a) h'.2 (fun x hx => hm x (by simp [hx]))⟩
/-- A list that is only read. -/
def RefL (R : DV) (rs : List V) : Prop := R = .list 4 (rs.map V.d) false ∨ (R = .nils ∧ rs = [])
theorem RefL.vw {R : DV} {rs : List V} (h : RefL R rs) (g : ZD) : vw g 4 R = some (rs.map V.d) := by
  rcases h with rfl | ⟨rfl, rfl⟩ <;> rfl
/-- Two rows that are filled. -/
def hq (H : ZD) (os : List V) (ts : List Int) : ZD := H ++ [.row 51 4 0 (os.map V.d), .row 3 1 0 (ts.map (.int .i64))]
section
variable {H : ZD} {os : List V} {ts : List Int} {n : Nat}
end
end Go.Proofs.YtojhkbbnkhfnhaaGreatDoor
