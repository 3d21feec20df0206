/- Ideal runs, one region at a time. Ideal runs: conditions, blocks, calls; the ideal heap's places. -/
import Derived.Test.YtojhkbbnkhfnhaaGreatDoorEngL
namespace Go.Proofs.YtojhkbbnkhfnhaaGreatDoor
set_option linter.unusedVariables false
section
variable {X : Nat → Option XK} {e e' : Env} {h h' : ZD}
theorem Zu {ops : List XOper} {keep : List Nat} (he : Ya (E X) ops e h = some (e', h')) : C X (.reg ops keep) e h = some (.norm, Za keep e', h') := by rw [C_reg, he]
theorem s_seq {a b : XC} (ha : C X a e h = some (.norm, e', h')) : C X (.seq a b) e h = C X b e' h' := by rw [C_seq, ha]
theorem Zc {ops : List XOper} {keep : List Nat} {b : XC} (he : Ya (E X) ops e h = some (e', h')) : C X (.seq (.reg ops keep) b) e h = C X b (Za keep e') h' := s_seq (Zu he)
theorem Zj (a b c : XC) : C X (.seq (.seq a b) c) e h = C X (.seq a (.seq b c)) e h := by
  rw [C_seq, C_seq, C_seq]
  cases C X a e h with
  | none => rfl
  | some p =>
    obtain ⟨x, e1, h1⟩ := p
    cases x with
    | norm => simp only [C_seq]
    | exit id => rfl
    | ret => rfl
end
end Go.Proofs.YtojhkbbnkhfnhaaGreatDoor
namespace Go.Proofs.YtojhkbbnkhfnhaaGreatDoor
open Classical
set_option linter.unusedVariables false
section
variable {X : Nat → Option XK} {e e' : Env} {h h' : ZD}
theorem s_cond_t {c : Od} {a b r : XC} (hc : c.v e = .bool true) : C X (.seq (.cond c a b) r) e h = C X (.seq a r) e h := by
  rw [C_seq, C_cond, hc, C_seq]
theorem s_cond_f {c : Od} {a b r : XC} (hc : c.v e = .bool false) : C X (.seq (.cond c a b) r) e h = C X (.seq b r) e h := by
  rw [C_seq, C_cond, hc, C_seq]
/-- A branch, by a truth. -/
def cnd {α : Type} (t : Bool) (a b : α) : α := match t with | true => a | false => b
theorem Zp {α : Type} (a b : α) : cnd true a b = a := rfl
theorem Zm {α : Type} (a b : α) : cnd false a b = b := rfl
theorem Zv {c : Od} {a b r : XC} {t : Bool} (hc : c.v e = .bool t) : C X (.seq (.cond c a b) r) e h = cnd t (C X (.seq a r) e h) (C X (.seq b r) e h) := by
  cases t
  · exact s_cond_f hc
  · exact s_cond_t hc
theorem Zw {c : Od} {a b : XC} {t : Bool} (hc : c.v e = .bool t) : C X (.cond c a b) e h = cnd t (C X a e h) (C X b e h) := by
  rw [C_cond, hc]; cases t <;> rfl
theorem Zl {r : XC} : C X (.seq .skip r) e h = C X r e h := by rw [C_seq, Zn]
theorem Zy {r : XC} : C X (.seq .ret r) e h = some (.ret, e, h) := by rw [C_seq, Zt]
theorem Zq {r : XC} {id : Nat} : C X (.seq (.exit id) r) e h = some (.exit id, e, h) := by rw [C_seq, Zo]
/-- What a block's end means for what stands behind it. -/
noncomputable def blk (X : Nat → Option XK) (id : Nat) (r : XC) : Option (Ex × Env × ZD) → Option (Ex × Env × ZD)
  | some (.norm, e, h) => C X r e h
  | some (.exit id', e, h) => if id' = id then C X r e h else some (.exit id', e, h)
  | some (.ret, e, h) => some (.ret, e, h)
  | none => none
theorem Zz {id : Nat} {c r : XC} : C X (.seq (.block id c) r) e h = blk X id r (C X c e h) := by
  rw [C_seq, C_block]
  cases C X c e h with
  | none => rfl
  | some p =>
    obtain ⟨x, e1, h1⟩ := p
    cases x with
    | norm => rfl
    | exit id' =>
      by_cases hi : id' = id
      · simp [blk, hi]
      · simp [blk, hi]
    | ret => rfl
theorem Zg {id : Nat} {r : XC} : blk X id r (some (.norm, e, h)) = C X r e h := rfl
theorem Zk {id : Nat} {r : XC} : blk X id r (some (.ret, e, h)) = some (.ret, e, h) := rfl
theorem Zh {id : Nat} {r : XC} : blk X id r (some (.exit id, e, h)) = C X r e h := by simp [blk]
theorem Zd {id id' : Nat} {r : XC} (hi : id' ≠ id) : blk X id r (some (.exit id', e, h)) = some (.exit id', e, h) := by simp [blk, hi]
def blkT (id : Nat) : Option (Ex × Env × ZD) → Option (Ex × Env × ZD)
  | some (.exit id', e, h) => if id' = id then some (.norm, e, h) else some (.exit id', e, h)
  | r => r
theorem Zx {id : Nat} {c : XC} : C X (.block id c) e h = blkT id (C X c e h) := by
  rw [C_block]
  cases C X c e h with
  | none => rfl
  | some p =>
    obtain ⟨x, e1, h1⟩ := p
    cases x <;> rfl
theorem Ze {id : Nat} : blkT id (some (.norm, e, h)) = some (.norm, e, h) := rfl
theorem Zi {id : Nat} : blkT id (some (.ret, e, h)) = some (.ret, e, h) := rfl
theorem Zf {id : Nat} : blkT id (some (.exit id, e, h)) = some (.norm, e, h) := by simp [blkT]
theorem Zb {id id' : Nat} (hi : id' ≠ id) : blkT id (some (.exit id', e, h)) = some (.exit id', e, h) := by simp [blkT, hi]
/-- What a round's end means for the loop. -/
noncomputable def lp (X : Nat → Option XK) (c : XC) : Option (Ex × Env × ZD) → Option (Ex × Env × ZD)
  | some (.norm, e, h) => C X (.loop c) e h
  | r => r
theorem Yh {c : XC} : C X (.loop c) e h = lp X c (C X c e h) := by
  rw [C_loop]
  cases C X c e h with
  | none => rfl
  | some p =>
    obtain ⟨x, e1, h1⟩ := p
    cases x <;> rfl
theorem Yw {c : XC} : lp X c (some (.norm, e, h)) = C X (.loop c) e h := rfl
theorem lp_ret {c : XC} : lp X c (some (.ret, e, h)) = some (.ret, e, h) := rfl
theorem Yx {c : XC} {id : Nat} : lp X c (some (.exit id, e, h)) = some (.exit id, e, h) := rfl
/-- What a function's end means for the call. -/
noncomputable def ends (r : List XRes) (h : ZD) : Option (Ex × Env × ZD) → Option (DV × ZD)
  | some (.norm, e, h') => (ZY r e h').map (fin h h')
  | some (.ret, e, h') => (ZY r e h').map (fin h h')
  | _ => none
theorem Zs {r : List XRes} : ends r h (some (.norm, e, h')) = (ZY r e h').map (fin h h') := rfl
theorem Zr {r : List XRes} : ends r h (some (.ret, e, h')) = (ZY r e h').map (fin h h') := rfl
/-- A call of a function that is code. -/
theorem Yc {f : Nat} (n : Nat) (b : XC) (r : List XRes) {args : List DV} (hX : X f = some (.fn ⟨n, b, r⟩)) (hl : args.length = n) : E X f args h = ends r h (C X b (ZE args 0) h) := by
  rw [E_fn X h hX args, if_pos hl]
  cases C X b (ZE args 0) h with
  | none => rfl
  | some p =>
    obtain ⟨x, e1, h1⟩ := p
    cases x <;> rfl
end
theorem ZT {call : CallF} {d : Option Nat} {op : XOp} {e : Env} {h : ZD} : evOp call ⟨d, op, none, false⟩ e h = Yg call op e h := by
  simp only [evOp, wanted]
  cases Yg call op e h <;> simp
/-- A value beside a heap that only grew; b: it was read without the heap. -/
noncomputable def kpo (b : Bool) (h : ZD) (p : DV × ZD) : Option (DV × ZD) := if b = true ∧ p.2.take h.length = h then some p else none
theorem ZF (h : ZD) (d : DV) : kpo true h (d, h) = some (d, h) := by simp [kpo]
theorem ZM (h l : ZD) (d : DV) : kpo true h (d, h ++ l) = some (d, h ++ l) := by simp [kpo]
@[simp] theorem frd_load (ag : Bool) (sz : Nat) (x : Od) (e : Env) : (XOp.load ag sz x).frd e = (x.v e).flat2 := rfl
@[simp] theorem frd_iaddr (sz : Nat) (x i : Od) (e : Env) : (XOp.iaddr sz x i).frd e = (x.v e).flat2 := rfl
@[simp] theorem frd_slc (sz : Nat) (x : Od) (a b c : Option Od) (e : Env) : (XOp.slc sz x a b c).frd e = (x.v e).flat2 := rfl
@[simp] theorem frd_len (sz : Nat) (x : Od) (e : Env) : (XOp.len sz x).frd e = (x.v e).flat2 := rfl
@[simp] theorem frd_tostr (x : Od) (e : Env) : (XOp.tostr x).frd e = (x.v e).flat2 := rfl
@[simp] theorem frd_mlen (x : Od) (e : Env) : (XOp.mlen x).frd e = (x.v e).flat2 := rfl
@[simp] theorem frd_mget (ag : Bool) (ks : List Nat) (z : DV) (ok : Bool) (x k : Od) (e : Env) : (XOp.mget ag ks z ok x k).frd e = (x.v e).flat2 := rfl
@[simp] theorem frd_call (f : Od) (as : List Od) (e : Env) : (XOp.call f as).frd e = true := rfl
@[simp] theorem frd_alloc (t : Nat) (z : List DV) (e : Env) : (XOp.alloc t z).frd e = true := rfl
@[simp] theorem frd_box (t : Nat) (x : Od) (e : Env) : (XOp.box t x).frd e = true := rfl
@[simp] theorem frd_store (sz : Nat) (x v : Od) (e : Env) : (XOp.store sz x v).frd e = true := rfl
@[simp] theorem frd_app (a b c : Nat) (x y : Od) (e : Env) : (XOp.app a b c x y).frd e = true := rfl
@[simp] theorem frd_make (a b c : Nat) (z : DV) (x y : Od) (e : Env) : (XOp.make a b c z x y).frd e = true := rfl
@[simp] theorem frd_mkmap (x : Option Od) (e : Env) : (XOp.mkmap x).frd e = true := rfl
@[simp] theorem frd_mset (ag : Bool) (ks : List Nat) (x y z : Od) (e : Env) : (XOp.mset ag ks x y z).frd e = true := rfl
@[simp] theorem frd_mkslice (ro : Bool) (a b : Nat) (l : List Od) (e : Env) : (XOp.mkslice ro a b l).frd e = true := rfl
@[simp] theorem frd_mklist (a : Nat) (l : List Od) (e : Env) : (XOp.mklist a l).frd e = true := rfl
@[simp] theorem frd_appz (a b c : Nat) (z : DV) (x y : Od) (e : Env) : (XOp.appz a b c z x y).frd e = true := rfl
@[simp] theorem flat2_list (sz : Nat) (xs : List DV) (c : Bool) : (DV.list sz xs c).flat2 = true := rfl
@[simp] theorem flat2_elem (sz : Nat) (xs : List DV) (c : Bool) (a b d : Nat) : (DV.elem (.list sz xs c) a b d).flat2 = true := rfl
@[simp] theorem flat2_nils : DV.flat2 .nils = true := rfl
@[simp] theorem flat2_nilm : DV.flat2 .nilm = true := rfl
theorem ZV {call : CallF} {d : Option Nat} {op : XOp} {e : Env} {h : ZD} : evOp call ⟨d, op, none, true⟩ e h = (Yg call op e h).bind (kpo (op.frd e) h) := by
  simp only [evOp, wanted]
  cases Yg call op e h with
  | none => rfl
  | some p => by_cases hp : p.2.take h.length = h <;> cases hb : op.frd e <;> simp [kpo, hp]
/-- What a guard says. -/
noncomputable def gd {α : Type} (g : DV) (b : Bool) (x y : Option α) : Option α := match g with
  | .bool t => cnd (t == b) x y
  | .tup _ => y
  | _ => none
theorem ZN {α : Type} (t : Bool) (x y : Option α) : gd (.bool t) true x y = cnd t x y := by cases t <;> rfl
theorem ZG {α : Type} (t : Bool) (x y : Option α) : gd (.bool t) false x y = cnd t y x := by cases t <;> rfl
theorem ZU {α : Type} (l : List DV) (b : Bool) (x y : Option α) : gd (.tup l) b x y = y := rfl
theorem ZW {call : CallF} {d : Option Nat} {op : XOp} {s : Nat} {b : Bool} {e : Env} {h : ZD} : evOp call ⟨d, op, some (s, b), false⟩ e h = gd (lk e s) b (Yg call op e h) (some (.tup [], h)) := by
  simp only [evOp, wanted, gd]
  cases lk e s with
  | bool t => cases ht : (t == b) <;> simp only [ht, cnd] <;> cases Yg call op e h <;> simp
  | tup => rfl
  | _ => rfl
theorem ZO {call : CallF} {d : Option Nat} {op : XOp} {s : Nat} {b : Bool} {e : Env} {h : ZD} : evOp call ⟨d, op, some (s, b), true⟩ e h = gd (lk e s) b ((Yg call op e h).bind (kpo (op.frd e) h)) (some (.tup [], h)) := by
  simp only [evOp, wanted, gd]
  cases lk e s with
  | bool t =>
    cases ht : (t == b)
    · simp only [ht, cnd]
    · simp only [ht, cnd]
      cases Yg call op e h with
      | none => rfl
      | some p => by_cases hp : p.2.take h.length = h <;> cases hb : op.frd e <;> simp [kpo, hp]
  | tup => rfl
  | _ => rfl
theorem ZI {α : Type} (b : Bool) (x y : α) : cnd b (some x) (some y) = some (cnd b x y) := by cases b <;> rfl
theorem ZK (b : Bool) (x y : DV) (h : ZD) : cnd b (x, h) (y, h) = (cnd b x y, h) := by cases b <;> rfl
theorem ZB {α : Type} (q : Bool) (x y z : α) : cnd q (cnd q x y) z = cnd q x z := by cases q <;> rfl
theorem ZC {α : Type} (q : Bool) (x y z : α) : cnd q z (cnd q y x) = cnd q z x := by cases q <;> rfl
theorem ZJ {α : Type} (q : Bool) (x : α) : cnd q x x = x := by cases q <;> rfl
theorem ZP (q a b : Bool) : cnd q (DV.bool a) (DV.bool b) = DV.bool (cnd q a b) := by cases q <;> rfl
theorem ZQ (q a : Bool) : cnd q a false = (q && a) := by cases q <;> rfl
theorem ZX (q a : Bool) : cnd q true a = (q || a) := by cases q <;> rfl
theorem ZH (c a b : Od) (e : Env) (h : ZD) : Yq (.pick c a b) e h = match c.v e with | .bool t => some (cnd t (a.v e) (b.v e), h) | _ => none := by
  rw [Yq]
  cases c.v e with
  | bool t => cases t <;> rfl
  | _ => rfl
theorem YC (n k : Nat) : (n + k < n) = False := by simp
theorem ZA (h : ZD) (ag : Bool) (sz o p : Nat) : ZR h ag sz (.ref o p) = match h[o]? with
    | some (.box _ cs) => YB ag sz cs p
    | _ => none := rfl
theorem ZL (h : ZD) (sz o p : Nat) (v : DV) : stx h sz (.ref o p) v = if v.cells.length = sz ∧ v.cells.all DV.one = true then (match h[o]? with
      | some (.box t cs) => if p + sz ≤ cs.length then some (h.set o (.box t (splice cs p v.cells))) else none
      | _ => none) else none := rfl
theorem hget (h l : ZD) (i : Nat) : (h ++ l)[h.length + i]? = l[i]? := by
  rw [List.getElem?_append_right (by omega)]; congr 1; omega
theorem Yb (h l : ZD) : (h ++ l)[h.length]? = l[0]? := by
  rw [List.getElem?_append_right (by omega)]; congr 1; omega
theorem Yj (h l : ZD) (i : Nat) (x : HO) : (h ++ l).set (h.length + i) x = h ++ l.set i x := by
  have := List.set_append (s := h) (t := l) (i := h.length + i) (x := x)
  simp only [this, if_neg (show ¬ h.length + i < h.length by omega)]; congr 2; omega
theorem Yd (h l : ZD) (x : HO) : (h ++ l).set h.length x = h ++ l.set 0 x := by
  have := List.set_append (s := h) (t := l) (i := h.length) (x := x)
  simp only [this, if_neg (show ¬ h.length < h.length by omega)]; congr 2; omega
/-- Plain results. -/
def DV.plain : DV → Bool
  | .bool _ | .int _ _ | .str _ | .nilp | .nils | .nilm | .nilf | .nili | .list _ _ _ => true
  | _ => false
theorem one_bool (b : Bool) : DV.one (.bool b) = true := rfl
theorem one_int (k : IntKind) (n : Int) : DV.one (.int k n) = true := rfl
theorem one_str (s : ByteArray) : DV.one (.str s) = true := rfl
theorem one_nilp : DV.one (.nilp) = true := rfl
theorem one_ref (o p : Nat) : DV.one (.ref o p) = true := rfl
theorem one_elem (d : DV) (s i p : Nat) : DV.one (.elem d s i p) = true := rfl
theorem one_nils : DV.one (.nils) = true := rfl
theorem one_list (s : Nat) (xs : List DV) (c : Bool) : DV.one (.list s xs c) = true := rfl
theorem one_row (o g l n : Nat) (c : Bool) : DV.one (.row o g l n c) = true := rfl
theorem one_nilm : DV.one (.nilm) = true := rfl
theorem one_map (o : Nat) : DV.one (.map o) = true := rfl
theorem one_nilf : DV.one (.nilf) = true := rfl
theorem one_func (f : Nat) (a b : List DV) : DV.one (.func f a b) = true := rfl
theorem one_nili : DV.one (.nili) = true := rfl
theorem one_ifc (t : Nat) (v : DV) : DV.one (.ifc t v) = true := rfl
theorem one_agg (cs : List DV) : DV.one (.agg cs) = false := rfl
theorem one_tup (vs : List DV) : DV.one (.tup vs) = false := rfl
theorem one_undef : DV.one (.undef) = false := rfl
theorem one_fresh (e s : Nat) (xs : List DV) : DV.one (.fresh e s xs) = false := rfl
end Go.Proofs.YtojhkbbnkhfnhaaGreatDoor
