/- Operations that look at no heap, or only read: they commute with whatever only adds to the heap. -/
import Derived.Test.YtfgnefnpfgdliaaDoorEngO
namespace Go.Proofs.YtfgnefnpfgdliaaDoor
open Go.RowKit
set_option linter.unusedVariables false
set_option linter.unusedSimpArgs false

theorem kind0 {x : XOp} (hk : x.kind = 0) (e : Env) (h h2 : Heap) : evx x e h = ((evx x e h2).map (·.1)).map fun d => (d, h) := by
  cases x <;> simp only [XOp.kind] at hk <;> try cases hk
  all_goals simp only [evx]
  all_goals first
    | rfl
    | (simp only [Option.map_map]; rfl)
    | (split <;> first | rfl | (simp only [Option.map_map]; rfl) | (split <;> first | rfl | (simp only [Option.map_map]; rfl) | (split <;> rfl)))
theorem kind_le (x : XOp) : x.kind ≤ 2 := by cases x <;> simp [XOp.kind]
theorem kind0_nocall {x : XOp} (hk : x.kind = 0) : isCall x = none := by
  cases x <;> simp only [XOp.kind] at hk <;> first | rfl | cases hk
theorem kind1_nocall {x : XOp} (hk : x.kind = 1) : isCall x = none := by
  cases x <;> simp only [XOp.kind] at hk <;> first | rfl | cases hk

theorem get_grow {h t : Heap} {o : Nat} {x : HO} (hx : h[o]? = some x) : (h ++ t)[o]? = some x := by
  have := (List.getElem?_eq_some_iff.1 hx).1
  rw [List.getElem?_append_left this, hx]
theorem vw_grow {h t : Heap} {sz : Nat} {d : DV} {xs : List DV} (hv : vw h sz d = some xs) : vw (h ++ t) sz d = some xs := by
  cases d <;> simp only [vw] at hv ⊢ <;> try exact hv
  rename_i o g lo n c
  cases hx : h[o]? with
  | none => rw [hx] at hv; cases hv
  | some x => rw [hx] at hv; rw [get_grow hx]; exact hv
theorem ldx_grow {h t : Heap} {ag : Bool} {sz : Nat} {d r : DV} (hv : ldx h ag sz d = some r) : ldx (h ++ t) ag sz d = some r := by
  cases d <;> simp only [ldx] at hv ⊢ <;> try exact hv
  · rename_i o p
    cases hx : h[o]? with
    | none => rw [hx] at hv; cases hv
    | some x => rw [hx] at hv; rw [get_grow hx]; exact hv
  · rename_i d sz' i p
    cases hx : vw h sz' d with
    | none => rw [hx] at hv; cases hv
    | some xs => rw [hx] at hv; rw [vw_grow hx]; exact hv

theorem kind1_grow {x : XOp} (hk : x.kind = 1) {e : Env} {h h1 : Heap} {d : DV} (hd : evx x e h = some (d, h1)) : h1 = h ∧ ∀ t, evx x e (h ++ t) = some (d, h ++ t) := by
  cases x <;> simp only [XOp.kind] at hk <;> try cases hk
  · -- load
    simp only [evx] at hd ⊢
    obtain ⟨u, hu, rfl, rfl⟩ := map_pair (f := fun d => d) hd
    exact ⟨rfl, fun t => by rw [ldx_grow hu]; rfl⟩
  · -- tostr
    simp only [evx] at hd ⊢
    split at hd
    · rename_i xs hv
      obtain ⟨u, hu, rfl, rfl⟩ := map_pair (f := fun bs : List UInt8 => DV.str ⟨bs.toArray⟩) hd
      exact ⟨rfl, fun t => by rw [vw_grow hv]; simp only [hu]; rfl⟩
    · cases hd
  · -- iaddr
    simp only [evx] at hd ⊢
    split at hd
    · rename_i k n hn
      split at hd
      · rename_i xs hv
        split at hd
        · rename_i hq
          obtain ⟨rfl, rfl⟩ := some_pair hd
          exact ⟨rfl, fun t => by rw [vw_grow hv]; simp only [if_pos hq]⟩
        · cases hd
      · cases hd
    · cases hd
  · -- slc
    rename_i sz x lo hi mx
    simp only [evx] at hd ⊢
    split at hd
    · rename_i xs hv
      split at hd
      · rename_i l m hl hm
        split at hd
        · rename_i hq
          cases hc : cutx e m mx with
          | none => rw [hc] at hd; cases hd
          | some cc =>
            rw [hc] at hd
            simp only [Option.bind_some] at hd
            have hs : ∀ h2 : Heap, slcx h2 (x.v e) l m xs.length cc = (slcx h (x.v e) l m xs.length cc).map fun r => (r.1, h2) := by
              intro h2
              unfold slcx
              split <;> first | rfl | (split <;> rfl)
            have hh : h1 = h := by
              have := hs h
              rw [hd] at this
              simpa using this
            refine ⟨hh, fun t => ?_⟩
            rw [vw_grow hv]
            simp only [hl, hm, if_pos hq, hc, Option.bind_some]
            rw [hs (h ++ t), hd]
            rfl
        · cases hd
      · cases hd
    · cases hd
  · -- len
    simp only [evx] at hd ⊢
    obtain ⟨u, hu, rfl, rfl⟩ := map_pair (f := fun xs : List DV => DV.int .i64 xs.length) hd
    exact ⟨rfl, fun t => by rw [vw_grow hu]; rfl⟩
  · -- mget
    simp only [evx] at hd ⊢
    split at hd
    case isFalse => cases hd
    rename_i hkq
    rename_i ag ks z ok m k
    split at hd
    · rename_i r hr
      obtain ⟨rfl, hh⟩ := some_pair hd
      refine ⟨hh.symm, fun t => ?_⟩
      rw [if_pos hkq]
      have : mlook ag ks (h ++ t) (m.v e) (k.v e) = some r := by
        unfold mlook at hr ⊢
        split at hr
        · exact hr
        · split at hr
          · rename_i ho; rw [get_grow ho]; exact hr
          · cases hr
        · cases hr
      rw [this]
    · cases hd
  · -- mlen
    simp only [evx] at hd ⊢
    split at hd
    · obtain ⟨rfl, rfl⟩ := some_pair hd
      exact ⟨rfl, fun t => rfl⟩
    · split at hd
      · rename_i ho
        obtain ⟨rfl, rfl⟩ := some_pair hd
        exact ⟨rfl, fun t => by rw [get_grow ho]⟩
      · cases hd
    · cases hd

section
variable {P : Program} {β β' : Bm} {w w' : World} {h h' : Heap}
theorem get_back {t : Heap} {o : Nat} (hx : ∃ x, h[o]? = some x) : (h ++ t)[o]? = h[o]? := by
  obtain ⟨x, hx⟩ := hx
  rw [get_grow hx, hx]
theorem vw_back {t : Heap} {sz : Nat} {d : DV} {v : Value} (hr : RV β w h d v) : vw (h ++ t) sz d = vw h sz d := by
  cases hr <;> simp only [vw]
  rename_i ho _ _
  rw [get_back (by rcases ho with ho | ho <;> exact ⟨_, ho⟩)]
theorem ldx_back {t : Heap} {ag : Bool} {sz : Nat} {d : DV} {v : Value} (hr : RV β w h d v) : ldx (h ++ t) ag sz d = ldx h ag sz d := by
  cases hr <;> simp only [ldx]
  · rename_i ho; rw [get_back ⟨_, ho⟩]
  · rename_i hd hi; rw [vw_back hd]
theorem vw_back' {t : Heap} {sz : Nat} {d : DV} (hr : (∃ v, RV β w h d v) ∨ d.flat1 = true) : vw (h ++ t) sz d = vw h sz d := by
  rcases hr with ⟨v, hr⟩ | hr
  · exact vw_back hr
  · cases d <;> first | rfl | cases hr
theorem ldx_back' {t : Heap} {ag : Bool} {sz : Nat} {d : DV} (hr : (∃ v, RV β w h d v) ∨ d.flat1 = true) : ldx (h ++ t) ag sz d = ldx h ag sz d := by
  rcases hr with ⟨v, hr⟩ | hr
  · exact ldx_back hr
  · cases d <;> first | rfl | cases hr
theorem kind1_back {x : XOp} (hk : x.kind = 1) {e : Env} {a : Act} (hE : ∀ o : Od, x.main = some o → (∃ v, RV β w h (o.v e) v) ∨ (o.v e).flat1 = true) {t h1 : Heap} {d : DV} (hd : evx x e (h ++ t) = some (d, h1)) : h1 = h ++ t ∧ evx x e h = some (d, h) := by
  cases x <;> simp only [XOp.kind] at hk <;> try cases hk
  · -- load
    simp only [evx] at hd ⊢
    obtain ⟨u, hu, rfl, rfl⟩ := map_pair (f := fun d => d) hd
    rename_i ag sz x
    have hv := hE x rfl
    rw [ldx_back' hv] at hu
    exact ⟨rfl, by rw [hu]; rfl⟩
  · -- tostr
    rename_i x
    have hv := hE x rfl
    simp only [evx] at hd ⊢
    rw [vw_back' hv] at hd
    split at hd
    · obtain ⟨u, hu, rfl, rfl⟩ := map_pair (f := fun bs : List UInt8 => DV.str ⟨bs.toArray⟩) hd
      exact ⟨rfl, by simp only [hu]; rfl⟩
    · cases hd
  · -- iaddr
    rename_i sz x i
    have hv := hE x rfl
    simp only [evx] at hd ⊢
    rw [vw_back' hv] at hd
    split at hd
    · split at hd
      · split at hd
        · rename_i hq
          obtain ⟨rfl, rfl⟩ := some_pair hd
          exact ⟨rfl, by simp only [if_pos hq]⟩
        · cases hd
      · cases hd
    · cases hd
  · -- slc
    rename_i sz x lo hi mx
    have hv := hE x rfl
    simp only [evx] at hd ⊢
    rw [vw_back' hv] at hd
    split at hd
    · rename_i xs hvx
      split at hd
      · rename_i l m hl hm
        split at hd
        · rename_i hq
          cases hc : cutx e m mx with
          | none => rw [hc] at hd; cases hd
          | some cc =>
            rw [hc] at hd
            simp only [Option.bind_some] at hd
            have hs : ∀ h2 : Heap, slcx h2 (x.v e) l m xs.length cc = (slcx (h ++ t) (x.v e) l m xs.length cc).map fun r => (r.1, h2) := by
              intro h2
              unfold slcx
              split <;> first | rfl | (split <;> rfl)
            have hh : h1 = h ++ t := by
              have := hs (h ++ t)
              rw [hd] at this
              simpa using this
            refine ⟨hh, ?_⟩
            simp only [hl, hm, if_pos hq, hc, Option.bind_some]
            rw [hs h, hd]
            rfl
        · cases hd
      · cases hd
    · cases hd
  · -- len
    rename_i sz x
    have hv := hE x rfl
    simp only [evx] at hd ⊢
    rw [vw_back' hv] at hd
    obtain ⟨u, hu, rfl, rfl⟩ := map_pair (f := fun xs : List DV => DV.int .i64 xs.length) hd
    exact ⟨rfl, by rw [hu]; rfl⟩
  · -- mget
    rename_i ag ks z ok m k
    have hv := hE m rfl
    simp only [evx] at hd ⊢
    have hback : mlook ag ks (h ++ t) (m.v e) (k.v e) = mlook ag ks h (m.v e) (k.v e) := by
      generalize m.v e = mv at hv ⊢
      rcases hv with ⟨v, hv⟩ | hv
      · cases hv <;> simp only [mlook]
        rename_i ho; simp only [get_grow ho, ho]
      · cases mv <;> first | rfl | (simp [DV.flat1] at hv; done)
    rw [hback] at hd
    split at hd
    case isFalse => cases hd
    rename_i hkq
    rw [if_pos hkq]
    split at hd
    · obtain ⟨rfl, rfl⟩ := some_pair hd
      exact ⟨rfl, rfl⟩
    · cases hd
  · -- mlen
    rename_i m
    have hv := hE m rfl
    simp only [evx] at hd ⊢
    generalize m.v e = mv at hv hd ⊢
    rcases hv with ⟨v, hv⟩ | hv
    case inr => cases mv <;> first | (simp at hd; done) | (obtain ⟨rfl, rfl⟩ := some_pair hd; exact ⟨rfl, rfl⟩) | (simp [DV.flat1] at hv; done)
    cases hv
    case map hb ho =>
      simp only [get_grow ho] at hd
      simp only [ho]
      obtain ⟨rfl, rfl⟩ := some_pair hd
      exact ⟨rfl, rfl⟩
    case nilm =>
      obtain ⟨rfl, rfl⟩ := some_pair hd
      exact ⟨rfl, rfl⟩
    all_goals simp at hd
end
end Go.Proofs.YtfgnefnpfgdliaaDoor
