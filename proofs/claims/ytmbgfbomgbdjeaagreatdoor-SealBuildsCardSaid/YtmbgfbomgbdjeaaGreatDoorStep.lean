/- Ideal runs. -/
import Derived.Test.YtmbgfbomgbdjeaaGreatDoorEngL
import Derived.Test.YtmbgfbomgbdjeaaGreatDoorChecked
namespace Go.Proofs.YtmbgfbomgbdjeaaGreatDoor
set_option linter.unusedVariables false
section
variable {X : Nat → Option XK} {e e' : Env} {h h' : Zb}
theorem Yt {ops : List ai} {keep : List Nat} (he : ZN (E X) ops e h = some (e', h')) : C X (.reg ops keep) e h = some (.norm, Za keep e', h') := by rw [RQ, he]
theorem JS {a b : XC} (ha : C X a e h = some (.norm, e', h')) : C X (.seq a b) e h = C X b e' h' := by rw [iT, ha]
theorem Zq {ops : List ai} {keep : List Nat} {b : XC} (he : ZN (E X) ops e h = some (e', h')) : C X (.seq (.reg ops keep) b) e h = C X b (Za keep e') h' := JS (Yt he)
theorem ZM (a b c : XC) : C X (.seq (.seq a b) c) e h = C X (.seq a (.seq b c)) e h := by
 rw [iT, iT, iT]
 cases C X a e h with
 | none => rfl
 | some p =>
  obtain ⟨x, e1, h1⟩ := p
  cases x with
  | norm => simp only [iT]
  | exit id => rfl
  | ret => rfl
end
end Go.Proofs.YtmbgfbomgbdjeaaGreatDoor
namespace Go.Proofs.YtmbgfbomgbdjeaaGreatDoor
open Classical
set_option linter.unusedVariables false
section
variable {X : Nat → Option XK} {e e' : Env} {h h' : Zb}
theorem Hz {c : Od} {a b r : XC} (hc : c.v e = .bool true) : C X (.seq (.cond c a b) r) e h = C X (.seq a r) e h := by
 rw [iT, Bp, hc, iT]
theorem HA {c : Od} {a b r : XC} (hc : c.v e = .bool false) : C X (.seq (.cond c a b) r) e h = C X (.seq b r) e h := by
 rw [iT, Bp, hc, iT]
def gy {α : Type} (t : Bool) (a b : α) : α := match t with | true => a | false => b
theorem Zy {α : Type} (a b : α) : gy true a b = a := rfl
theorem Zx {α : Type} (a b : α) : gy false a b = b := rfl
theorem Yk {c : Od} {a b r : XC} {t : Bool} (hc : c.v e = .bool t) : C X (.seq (.cond c a b) r) e h = gy t (C X (.seq a r) e h) (C X (.seq b r) e h) := by
 cases t
 ·exact HA hc
 ·exact Hz hc
theorem Yu {c : Od} {a b : XC} {t : Bool} (hc : c.v e = .bool t) : C X (.cond c a b) e h = gy t (C X a e h) (C X b e h) := by
 rw [Bp, hc]; cases t <;> rfl
theorem ZZ {r : XC} : C X (.seq .skip r) e h = C X r e h := by rw [iT, Ye]
theorem Ys {r : XC} : C X (.seq .ret r) e h = some (.ret, e, h) := by rw [iT, Yr]
theorem Yc {r : XC} {id : Nat} : C X (.seq (.exit id) r) e h = some (.exit id, e, h) := by rw [iT, Yf]
noncomputable def blk (X : Nat → Option XK) (id : Nat) (r : XC) : Option (Ex × Env × Zb) → Option (Ex × Env × Zb)
 | some (.norm, e, h) => C X r e h
 | some (.exit id', e, h) => if id' = id then C X r e h else some (.exit id', e, h)
 | some (.ret, e, h) => some (.ret, e, h)
 | none => none
theorem Yv {id : Nat} {c r : XC} : C X (.seq (.block id c) r) e h = blk X id r (C X c e h) := by
 rw [iT, CJ]
 cases C X c e h with
 | none => rfl
 | some p =>
  obtain ⟨x, e1, h1⟩ := p
  cases x with
  | norm => rfl
  | exit id' =>
   by_cases hi : id' = id
   ·simp [blk, hi]
   ·simp [blk, hi]
  | ret => rfl
theorem ZT {id : Nat} {r : XC} : blk X id r (some (.norm, e, h)) = C X r e h := rfl
theorem ZV {id : Nat} {r : XC} : blk X id r (some (.ret, e, h)) = some (.ret, e, h) := rfl
theorem ZU {id : Nat} {r : XC} : blk X id r (some (.exit id, e, h)) = C X r e h := by simp [blk]
theorem ZL {id id' : Nat} {r : XC} (hi : id' ≠ id) : blk X id r (some (.exit id', e, h)) = some (.exit id', e, h) := by simp [blk, hi]
def uQ (id : Nat) : Option (Ex × Env × Zb) → Option (Ex × Env × Zb)
 | some (.exit id', e, h) => if id' = id then some (.norm, e, h) else some (.exit id', e, h)
 | r => r
theorem Yn {id : Nat} {c : XC} : C X (.block id c) e h = uQ id (C X c e h) := by
 rw [CJ]
 cases C X c e h with
 | none => rfl
 | some p =>
  obtain ⟨x, e1, h1⟩ := p
  cases x <;> rfl
theorem ZJ {id : Nat} : uQ id (some (.norm, e, h)) = some (.norm, e, h) := rfl
theorem ZQ {id : Nat} : uQ id (some (.ret, e, h)) = some (.ret, e, h) := rfl
theorem ZK {id : Nat} : uQ id (some (.exit id, e, h)) = some (.norm, e, h) := by simp [uQ]
theorem ZC {id id' : Nat} (hi : id' ≠ id) : uQ id (some (.exit id', e, h)) = some (.exit id', e, h) := by simp [uQ, hi]
noncomputable def lp (X : Nat → Option XK) (c : XC) : Option (Ex × Env × Zb) → Option (Ex × Env × Zb)
 | some (.norm, e, h) => C X (.loop c) e h
 | r => r
theorem Zc {c : XC} : C X (.loop c) e h = lp X c (C X c e h) := by
 rw [Qy]
 cases C X c e h with
 | none => rfl
 | some p =>
  obtain ⟨x, e1, h1⟩ := p
  cases x <;> rfl
theorem ZB {c : XC} : lp X c (some (.norm, e, h)) = C X (.loop c) e h := rfl
theorem aR {c : XC} : lp X c (some (.ret, e, h)) = some (.ret, e, h) := rfl
theorem Zw {c : XC} {id : Nat} : lp X c (some (.exit id, e, h)) = some (.exit id, e, h) := rfl
noncomputable def ends (r : List XRes) (h : Zb) : Option (Ex × Env × Zb) → Option (DV × Zb)
 | some (.norm, e, h') => (ZW r e h').map (fin h h')
 | some (.ret, e, h') => (ZW r e h').map (fin h h')
 | _ => none
theorem ZS {r : List XRes} : ends r h (some (.norm, e, h')) = (ZW r e h').map (fin h h') := rfl
theorem Zn {r : List XRes} : ends r h (some (.ret, e, h')) = (ZW r e h').map (fin h h') := rfl
theorem Zz {f : Nat} (n : Nat) (b : XC) (r : List XRes) {args : List DV} (hX : X f = some (.fn ⟨n, b, r⟩)) (hl : args.length = n) : E X f args h = ends r h (C X b (Zg args 0) h) := by
 rw [Uw X h hX args, if_pos hl]
 cases C X b (Zg args 0) h with
 | none => rfl
 | some p =>
  obtain ⟨x, e1, h1⟩ := p
  cases x <;> rfl
end
theorem ZG {call : dr} {d : Option Nat} {op : XOp} {e : Env} {h : Zb} : dU call ⟨d, op, none, false⟩ e h = ZX call op e h := by
 simp only [dU, wanted]
 cases ZX call op e h <;> simp
noncomputable def x8 (b : Bool) (h : Zb) (p : DV × Zb) : Option (DV × Zb) := if b = true ∧ p.2.take h.length = h then some p else none
theorem Zh (h : Zb) (d : DV) : x8 true h (d, h) = some (d, h) := by simp [x8]
theorem Zp (h l : Zb) (d : DV) : x8 true h (d, h ++ l) = some (d, h ++ l) := by simp [x8]
@[simp] theorem frd_load (ag : Bool) (sz : Nat) (x : Od) (e : Env) : (XOp.load ag sz x).frd e = (x.v e).flat2 := rfl
@[simp] theorem frd_iaddr (sz : Nat) (x i : Od) (e : Env) : (XOp.iaddr sz x i).frd e = (x.v e).flat2 := rfl
@[simp] theorem frd_slc (sz : Nat) (x : Od) (a b c : Option Od) (e : Env) : (XOp.slc sz x a b c).frd e = (x.v e).flat2 := rfl
@[simp] theorem frd_len (sz : Nat) (x : Od) (e : Env) : (XOp.len sz x).frd e = (x.v e).flat2 := rfl
@[simp] theorem frd_tostr (x : Od) (e : Env) : (XOp.tostr x).frd e = (x.v e).flat2 := rfl
@[simp] theorem frd_mlen (x : Od) (e : Env) : (XOp.mlen x).frd e = (x.v e).flat2 := rfl
@[simp] theorem frd_mget (ag : Bool) (ks : List Nat) (z : DV) (ok : Bool) (x k : Od) (e : Env) : (XOp.mget ag ks z ok x k).frd e = (x.v e).flat2 := rfl
@[simp] theorem frd_call (f : Od) (az : List Od) (e : Env) : (XOp.call f az).frd e = true := rfl
@[simp] theorem frd_alloc (t : Nat) (z : List DV) (e : Env) : (XOp.alloc t z).frd e = true := rfl
@[simp] theorem frd_box (t : Nat) (x : Od) (e : Env) : (XOp.box t x).frd e = true := rfl
@[simp] theorem frd_store (sz : Nat) (x v : Od) (e : Env) : (XOp.store sz x v).frd e = true := rfl
@[simp] theorem frd_app (a b c : Nat) (x y : Od) (e : Env) : (XOp.app a b c x y).frd e = true := rfl
@[simp] theorem frd_make (a b c : Nat) (z : DV) (x y : Od) (e : Env) : (XOp.make a b c z x y).frd e = true := rfl
@[simp] theorem frd_mkmap (x : Option Od) (e : Env) : (XOp.mkmap x).frd e = true := rfl
@[simp] theorem frd_mset (ag : Bool) (ks : List Nat) (x y z : Od) (e : Env) : (XOp.mset ag ks x y z).frd e = true := rfl
@[simp] theorem frd_mkslice (ro : Bool) (a b : Nat) (l : List Od) (e : Env) : (XOp.mkslice ro a b l).frd e = true := rfl
@[simp] theorem frd_mklist (a : Nat) (l : List Od) (e : Env) : (XOp.mklist a l).frd e = true := rfl
@[simp] theorem frd_appz (a b c : Nat) (z : DV) (x y : Od) (e : Env) : (XOp.appz a b c z x y).frd e = true := rfl
@[simp] theorem flat2_list (sz : Nat) (xs : List DV) (c : Bool) : (DV.list sz xs c).flat2 = true := rfl
@[simp] theorem flat2_elem (sz : Nat) (xs : List DV) (c : Bool) (a b d : Nat) : (DV.elem (.list sz xs c) a b d).flat2 = true := rfl
@[simp] theorem flat2_nils : DV.flat2 .nils = true := rfl
@[simp] theorem flat2_nilm : DV.flat2 .nilm = true := rfl
theorem ZF {call : dr} {d : Option Nat} {op : XOp} {e : Env} {h : Zb} : dU call ⟨d, op, none, true⟩ e h = (ZX call op e h).bind (x8 (op.frd e) h) := by
 simp only [dU, wanted]
 cases ZX call op e h with
 | none => rfl
 | some p => by_cases hp : p.2.take h.length = h <;> cases hb : op.frd e <;> simp [x8, hp]
noncomputable def gd {α : Type} (g : DV) (b : Bool) (x y : Option α) : Option α := match g with
 | .bool t => gy (t == b) x y
 | .tup _ => y
 | _ => none
theorem Zs {α : Type} (t : Bool) (x y : Option α) : gd (.bool t) true x y = gy t x y := by cases t <;> rfl
theorem Zi {α : Type} (t : Bool) (x y : Option α) : gd (.bool t) false x y = gy t y x := by cases t <;> rfl
theorem ZE {α : Type} (l : List DV) (b : Bool) (x y : Option α) : gd (.tup l) b x y = y := rfl
theorem ZH {call : dr} {d : Option Nat} {op : XOp} {s : Nat} {b : Bool} {e : Env} {h : Zb} : dU call ⟨d, op, some (s, b), false⟩ e h = gd (lk e s) b (ZX call op e h) (some (.tup [], h)) := by
 simp only [dU, wanted, gd]
 cases lk e s with
 | bool t => cases ht : (t == b) <;> simp only [ht, gy] <;> cases ZX call op e h <;> simp
 | tup => rfl
 | _ => rfl
theorem Zt {call : dr} {d : Option Nat} {op : XOp} {s : Nat} {b : Bool} {e : Env} {h : Zb} : dU call ⟨d, op, some (s, b), true⟩ e h = gd (lk e s) b ((ZX call op e h).bind (x8 (op.frd e) h)) (some (.tup [], h)) := by
 simp only [dU, wanted, gd]
 cases lk e s with
 | bool t =>
  cases ht : (t == b)
  ·simp only [ht, gy]
  ·simp only [ht, gy]
   cases ZX call op e h with
   | none => rfl
   | some p => by_cases hp : p.2.take h.length = h <;> cases hb : op.frd e <;> simp [x8, hp]
 | tup => rfl
 | _ => rfl
theorem Zk {α : Type} (b : Bool) (x y : α) : gy b (some x) (some y) = some (gy b x y) := by cases b <;> rfl
theorem Zm (b : Bool) (x y : DV) (h : Zb) : gy b (x, h) (y, h) = (gy b x y, h) := by cases b <;> rfl
theorem Ze {α : Type} (q : Bool) (x y z : α) : gy q (gy q x y) z = gy q x z := by cases q <;> rfl
theorem Zf {α : Type} (q : Bool) (x y z : α) : gy q z (gy q y x) = gy q z x := by cases q <;> rfl
theorem Zl {α : Type} (q : Bool) (x : α) : gy q x x = x := by cases q <;> rfl
theorem Zu (q a b : Bool) : gy q (DV.bool a) (DV.bool b) = DV.bool (gy q a b) := by cases q <;> rfl
theorem Zv (q a : Bool) : gy q a false = (q && a) := by cases q <;> rfl
theorem ZI (q a : Bool) : gy q true a = (q || a) := by cases q <;> rfl
theorem Zj (c a b : Od) (e : Env) (h : Zb) : Yp (.pick c a b) e h = match c.v e with | .bool t => some (gy t (a.v e) (b.v e), h) | _ => none := by
 rw [Yp]
 cases c.v e with
 | bool t => cases t <;> rfl
 | _ => rfl
theorem d8 (n k : Nat) : (n + k < n) = False := by simp
theorem Zo (h : Zb) (ag : Bool) (sz o p : Nat) : aH h ag sz (.ref o p) = match h[o]? with
 | some (.box _ cs) => ax ag sz cs p
 | _ => none := rfl
theorem Zr (h : Zb) (sz o p : Nat) (v : DV) : stx h sz (.ref o p) v = if v.cells.length = sz ∧ v.cells.all DV.one = true then (match h[o]? with
 | some (.box t cs) => if p + sz ≤ cs.length then some (h.set o (.box t (splice cs p v.cells))) else none
 | _ => none) else none := rfl
theorem ae (h l : Zb) (i : Nat) : (h ++ l)[h.length + i]? = l[i]? := by
 rw [List.getElem?_append_right (by omega)]; congr 1; omega
theorem ZO (h l : Zb) : (h ++ l)[h.length]? = l[0]? := by
 rw [List.getElem?_append_right (by omega)]; congr 1; omega
theorem Yb (h l : Zb) (i : Nat) (x : HO) : (h ++ l).set (h.length + i) x = h ++ l.set i x := by
 have := List.set_append (s := h) (t := l) (i := h.length + i) (x := x)
 simp only [this, if_neg (show ¬ h.length + i < h.length by omega)]; congr 2; omega
theorem ZP (h l : Zb) (x : HO) : (h ++ l).set h.length x = h ++ l.set 0 x := by
 have := List.set_append (s := h) (t := l) (i := h.length) (x := x)
 simp only [this, if_neg (show ¬ h.length < h.length by omega)]; congr 2; omega
def DV.plain : DV → Bool
 | .bool _ | .int _ _ | .str _ | .nilp | .nils | .nilm | .nilf | .nili | .list _ _ _ => true
 | _ => false
theorem iC (n : Nat) (h : Zb) (top : Bool) {d : DV} (hd : d.plain = true) : aJ n h top d = some (d, h) := by
 cases d <;> simp_all [DV.plain, aJ, aO]
theorem Ue (h l : Zb) {d d' : DV} (hd : d.plain = true) (hd' : d'.plain = true) : fin h (h ++ l) [d, d'] = (.tup [d, d'], h) := by
 simp [fin, bq, iC _ _ _ hd, iC _ _ _ hd']
theorem o6 (h : Zb) {d d' : DV} (hd : d.plain = true) (hd' : d'.plain = true) : fin h h [d, d'] = (.tup [d, d'], h) := by
 simp [fin, bq, iC _ _ _ hd, iC _ _ _ hd']
theorem bJ (b : Bool) : DV.one (.bool b) = true := rfl
theorem cr (k : IntKind) (n : Int) : DV.one (.int k n) = true := rfl
theorem bY (s : ByteArray) : DV.one (.str s) = true := rfl
theorem bz : DV.one (.nilp) = true := rfl
theorem cg (o p : Nat) : DV.one (.ref o p) = true := rfl
theorem bH (d : DV) (s i p : Nat) : DV.one (.elem d s i p) = true := rfl
theorem bw : DV.one (.nils) = true := rfl
theorem bF (s : Nat) (xs : List DV) (c : Bool) : DV.one (.list s xs c) = true := rfl
theorem bZ (o g l n : Nat) (c : Bool) : DV.one (.row o g l n c) = true := rfl
theorem bA : DV.one (.nilm) = true := rfl
theorem cm (o : Nat) : DV.one (.map o) = true := rfl
theorem bE : DV.one (.nilf) = true := rfl
theorem bG (f : Nat) (a b : List DV) : DV.one (.func f a b) = true := rfl
theorem bC : DV.one (.nili) = true := rfl
theorem cu (t : Nat) (v : DV) : DV.one (.ifc t v) = true := rfl
theorem cw (cs : List DV) : DV.one (.agg cs) = false := rfl
theorem bW (vs : List DV) : DV.one (.tup vs) = false := rfl
theorem Yx : DV.one (.undef) = false := rfl
theorem Yy (e s : Nat) (xs : List DV) : DV.one (.fresh e s xs) = false := rfl
end Go.Proofs.YtmbgfbomgbdjeaaGreatDoor
namespace Go.Proofs.YtmbgfbomgbdjeaaGreatDoor
theorem wrap64 (n : Int) (h1 : -9223372036854775808 ≤ n) (h2 : n ≤ 9223372036854775807) : IntKind.i64.wrap n = n := by
 have e : IntKind.i64.wrap n = if n % 18446744073709551616 ≥ 9223372036854775808 then n % 18446744073709551616 - 18446744073709551616 else n % 18446744073709551616 := by
  simp [IntKind.wrap, IntKind.bits, IntKind.signed]
 rw [e]
 split <;> omega
theorem wr {a b : Int} (h1 : -9223372036854775808 ≤ a := by omega) (h2 : a ≤ 9223372036854775807 := by omega) (h3 : a = b := by omega) : IntKind.i64.wrap a = b := by
 rw [wrap64 a h1 h2]; exact h3
set_option linter.unusedVariables false
set_option linter.unusedSimpArgs false
set_option maxRecDepth 100000
theorem mP (n : Nat) : IntKind.u64.wrap (n : Int) = ((n % 18446744073709551616 : Nat) : Int) := by
 simp [IntKind.wrap, IntKind.bits, IntKind.signed]
theorem aL {p0 p1 : Prop} (a0 : p0) (a1 : p1) : p0 ∧ p1 := ⟨a0, a1⟩
theorem cH {p0 p1 p2 : Prop} (a0 : p0) (a1 : p1) (a2 : p2) : p0 ∧ p1 ∧ p2 := ⟨a0, a1, a2⟩
theorem cP {p0 p1 p2 p3 : Prop} (a0 : p0) (a1 : p1) (a2 : p2) (a3 : p3) : p0 ∧ p1 ∧ p2 ∧ p3 := ⟨a0, a1, a2, a3⟩
theorem ej {p0 p1 p2 p3 p4 : Prop} (a0 : p0) (a1 : p1) (a2 : p2) (a3 : p3) (a4 : p4) : p0 ∧ p1 ∧ p2 ∧ p3 ∧ p4 := ⟨a0, a1, a2, a3, a4⟩
theorem gJ {p0 p1 p2 p3 p4 p5 : Prop} (a0 : p0) (a1 : p1) (a2 : p2) (a3 : p3) (a4 : p4) (a5 : p5) : p0 ∧ p1 ∧ p2 ∧ p3 ∧ p4 ∧ p5 := ⟨a0, a1, a2, a3, a4, a5⟩
theorem fV {p0 p1 p2 p3 p4 p5 p6 : Prop} (a0 : p0) (a1 : p1) (a2 : p2) (a3 : p3) (a4 : p4) (a5 : p5) (a6 : p6) : p0 ∧ p1 ∧ p2 ∧ p3 ∧ p4 ∧ p5 ∧ p6 := ⟨a0, a1, a2, a3, a4, a5, a6⟩
theorem iF {p0 p1 p2 p3 p4 p5 p6 p7 : Prop} (a0 : p0) (a1 : p1) (a2 : p2) (a3 : p3) (a4 : p4) (a5 : p5) (a6 : p6) (a7 : p7) : p0 ∧ p1 ∧ p2 ∧ p3 ∧ p4 ∧ p5 ∧ p6 ∧ p7 := ⟨a0, a1, a2, a3, a4, a5, a6, a7⟩
theorem gI {p0 p1 p2 p3 p4 p5 p6 p7 p8 : Prop} (a0 : p0) (a1 : p1) (a2 : p2) (a3 : p3) (a4 : p4) (a5 : p5) (a6 : p6) (a7 : p7) (a8 : p8) : p0 ∧ p1 ∧ p2 ∧ p3 ∧ p4 ∧ p5 ∧ p6 ∧ p7 ∧ p8 := ⟨a0, a1, a2, a3, a4, a5, a6, a7, a8⟩
theorem dL {p0 p1 p2 p3 p4 p5 p6 p7 p8 p9 : Prop} (a0 : p0) (a1 : p1) (a2 : p2) (a3 : p3) (a4 : p4) (a5 : p5) (a6 : p6) (a7 : p7) (a8 : p8) (a9 : p9) : p0 ∧ p1 ∧ p2 ∧ p3 ∧ p4 ∧ p5 ∧ p6 ∧ p7 ∧ p8 ∧ p9 := ⟨a0, a1, a2, a3, a4, a5, a6, a7, a8, a9⟩
theorem dK {p0 p1 p2 p3 p4 p5 p6 p7 p8 p9 bM : Prop} (a0 : p0) (a1 : p1) (a2 : p2) (a3 : p3) (a4 : p4) (a5 : p5) (a6 : p6) (a7 : p7) (a8 : p8) (a9 : p9) (dS : bM) : p0 ∧ p1 ∧ p2 ∧ p3 ∧ p4 ∧ p5 ∧ p6 ∧ p7 ∧ p8 ∧ p9 ∧ bM := ⟨a0, a1, a2, a3, a4, a5, a6, a7, a8, a9, dS⟩
theorem iG {p0 p1 p2 p3 p4 p5 p6 p7 p8 p9 bM bQ : Prop} (a0 : p0) (a1 : p1) (a2 : p2) (a3 : p3) (a4 : p4) (a5 : p5) (a6 : p6) (a7 : p7) (a8 : p8) (a9 : p9) (dS : bM) (eo : bQ) : p0 ∧ p1 ∧ p2 ∧ p3 ∧ p4 ∧ p5 ∧ p6 ∧ p7 ∧ p8 ∧ p9 ∧ bM ∧ bQ := ⟨a0, a1, a2, a3, a4, a5, a6, a7, a8, a9, dS, eo⟩
theorem jD {p0 p1 p2 p3 p4 p5 p6 p7 p8 p9 bM bQ cz : Prop} (a0 : p0) (a1 : p1) (a2 : p2) (a3 : p3) (a4 : p4) (a5 : p5) (a6 : p6) (a7 : p7) (a8 : p8) (a9 : p9) (dS : bM) (eo : bQ) (a12 : cz) : p0 ∧ p1 ∧ p2 ∧ p3 ∧ p4 ∧ p5 ∧ p6 ∧ p7 ∧ p8 ∧ p9 ∧ bM ∧ bQ ∧ cz := ⟨a0, a1, a2, a3, a4, a5, a6, a7, a8, a9, dS, eo, a12⟩
theorem mC {p0 p1 p2 p3 p4 p5 p6 p7 p8 p9 bM bQ cz cM : Prop} (a0 : p0) (a1 : p1) (a2 : p2) (a3 : p3) (a4 : p4) (a5 : p5) (a6 : p6) (a7 : p7) (a8 : p8) (a9 : p9) (dS : bM) (eo : bQ) (a12 : cz) (eT : cM) : p0 ∧ p1 ∧ p2 ∧ p3 ∧ p4 ∧ p5 ∧ p6 ∧ p7 ∧ p8 ∧ p9 ∧ bM ∧ bQ ∧ cz ∧ cM := ⟨a0, a1, a2, a3, a4, a5, a6, a7, a8, a9, dS, eo, a12, eT⟩
theorem mA {p0 p1 p2 p3 p4 p5 p6 p7 p8 p9 bM bQ cz cM df : Prop} (a0 : p0) (a1 : p1) (a2 : p2) (a3 : p3) (a4 : p4) (a5 : p5) (a6 : p6) (a7 : p7) (a8 : p8) (a9 : p9) (dS : bM) (eo : bQ) (a12 : cz) (eT : cM) (fB : df) : p0 ∧ p1 ∧ p2 ∧ p3 ∧ p4 ∧ p5 ∧ p6 ∧ p7 ∧ p8 ∧ p9 ∧ bM ∧ bQ ∧ cz ∧ cM ∧ df := ⟨a0, a1, a2, a3, a4, a5, a6, a7, a8, a9, dS, eo, a12, eT, fB⟩
theorem DG {p0 p1 p2 p3 p4 p5 p6 p7 p8 p9 bM bQ cz cM df dA : Prop} (a0 : p0) (a1 : p1) (a2 : p2) (a3 : p3) (a4 : p4) (a5 : p5) (a6 : p6) (a7 : p7) (a8 : p8) (a9 : p9) (dS : bM) (eo : bQ) (a12 : cz) (eT : cM) (fB : df) (gb : dA) : p0 ∧ p1 ∧ p2 ∧ p3 ∧ p4 ∧ p5 ∧ p6 ∧ p7 ∧ p8 ∧ p9 ∧ bM ∧ bQ ∧ cz ∧ cM ∧ df ∧ dA := ⟨a0, a1, a2, a3, a4, a5, a6, a7, a8, a9, dS, eo, a12, eT, fB, gb⟩
theorem sU {p0 p1 p2 p3 p4 p5 p6 p7 p8 p9 bM bQ cz cM df dA p16 : Prop} (a0 : p0) (a1 : p1) (a2 : p2) (a3 : p3) (a4 : p4) (a5 : p5) (a6 : p6) (a7 : p7) (a8 : p8) (a9 : p9) (dS : bM) (eo : bQ) (a12 : cz) (eT : cM) (fB : df) (gb : dA) (a16 : p16) : p0 ∧ p1 ∧ p2 ∧ p3 ∧ p4 ∧ p5 ∧ p6 ∧ p7 ∧ p8 ∧ p9 ∧ bM ∧ bQ ∧ cz ∧ cM ∧ df ∧ dA ∧ p16 := ⟨a0, a1, a2, a3, a4, a5, a6, a7, a8, a9, dS, eo, a12, eT, fB, gb, a16⟩
theorem Po {p0 p1 p2 p3 p4 p5 p6 p7 p8 p9 bM bQ cz cM df dA p16 dZ : Prop} (a0 : p0) (a1 : p1) (a2 : p2) (a3 : p3) (a4 : p4) (a5 : p5) (a6 : p6) (a7 : p7) (a8 : p8) (a9 : p9) (dS : bM) (eo : bQ) (a12 : cz) (eT : cM) (fB : df) (gb : dA) (a16 : p16) (a17 : dZ) : p0 ∧ p1 ∧ p2 ∧ p3 ∧ p4 ∧ p5 ∧ p6 ∧ p7 ∧ p8 ∧ p9 ∧ bM ∧ bQ ∧ cz ∧ cM ∧ df ∧ dA ∧ p16 ∧ dZ := ⟨a0, a1, a2, a3, a4, a5, a6, a7, a8, a9, dS, eo, a12, eT, fB, gb, a16, a17⟩
theorem o9 {p0 p1 p2 p3 p4 p5 p6 p7 p8 p9 bM bQ cz cM df dA p16 dZ eH : Prop} (a0 : p0) (a1 : p1) (a2 : p2) (a3 : p3) (a4 : p4) (a5 : p5) (a6 : p6) (a7 : p7) (a8 : p8) (a9 : p9) (dS : bM) (eo : bQ) (a12 : cz) (eT : cM) (fB : df) (gb : dA) (a16 : p16) (a17 : dZ) (jm : eH) : p0 ∧ p1 ∧ p2 ∧ p3 ∧ p4 ∧ p5 ∧ p6 ∧ p7 ∧ p8 ∧ p9 ∧ bM ∧ bQ ∧ cz ∧ cM ∧ df ∧ dA ∧ p16 ∧ dZ ∧ eH := ⟨a0, a1, a2, a3, a4, a5, a6, a7, a8, a9, dS, eo, a12, eT, fB, gb, a16, a17, jm⟩
theorem sS {p0 p1 p2 p3 p4 p5 p6 p7 p8 p9 bM bQ cz cM df dA p16 dZ eH fq : Prop} (a0 : p0) (a1 : p1) (a2 : p2) (a3 : p3) (a4 : p4) (a5 : p5) (a6 : p6) (a7 : p7) (a8 : p8) (a9 : p9) (dS : bM) (eo : bQ) (a12 : cz) (eT : cM) (fB : df) (gb : dA) (a16 : p16) (a17 : dZ) (jm : eH) (kF : fq) : p0 ∧ p1 ∧ p2 ∧ p3 ∧ p4 ∧ p5 ∧ p6 ∧ p7 ∧ p8 ∧ p9 ∧ bM ∧ bQ ∧ cz ∧ cM ∧ df ∧ dA ∧ p16 ∧ dZ ∧ eH ∧ fq := ⟨a0, a1, a2, a3, a4, a5, a6, a7, a8, a9, dS, eo, a12, eT, fB, gb, a16, a17, jm, kF⟩
theorem sR {p0 p1 p2 p3 p4 p5 p6 p7 p8 p9 bM bQ cz cM df dA p16 dZ eH fq gi : Prop} (a0 : p0) (a1 : p1) (a2 : p2) (a3 : p3) (a4 : p4) (a5 : p5) (a6 : p6) (a7 : p7) (a8 : p8) (a9 : p9) (dS : bM) (eo : bQ) (a12 : cz) (eT : cM) (fB : df) (gb : dA) (a16 : p16) (a17 : dZ) (jm : eH) (kF : fq) (a20 : gi) : p0 ∧ p1 ∧ p2 ∧ p3 ∧ p4 ∧ p5 ∧ p6 ∧ p7 ∧ p8 ∧ p9 ∧ bM ∧ bQ ∧ cz ∧ cM ∧ df ∧ dA ∧ p16 ∧ dZ ∧ eH ∧ fq ∧ gi := ⟨a0, a1, a2, a3, a4, a5, a6, a7, a8, a9, dS, eo, a12, eT, fB, gb, a16, a17, jm, kF, a20⟩
theorem I4 {p0 p1 p2 p3 p4 p5 p6 p7 p8 p9 bM bQ cz cM df dA p16 dZ eH fq gi ij : Prop} (a0 : p0) (a1 : p1) (a2 : p2) (a3 : p3) (a4 : p4) (a5 : p5) (a6 : p6) (a7 : p7) (a8 : p8) (a9 : p9) (dS : bM) (eo : bQ) (a12 : cz) (eT : cM) (fB : df) (gb : dA) (a16 : p16) (a17 : dZ) (jm : eH) (kF : fq) (a20 : gi) (a21 : ij) : p0 ∧ p1 ∧ p2 ∧ p3 ∧ p4 ∧ p5 ∧ p6 ∧ p7 ∧ p8 ∧ p9 ∧ bM ∧ bQ ∧ cz ∧ cM ∧ df ∧ dA ∧ p16 ∧ dZ ∧ eH ∧ fq ∧ gi ∧ ij := ⟨a0, a1, a2, a3, a4, a5, a6, a7, a8, a9, dS, eo, a12, eT, fB, gb, a16, a17, jm, kF, a20, a21⟩
theorem I3 {p0 p1 p2 p3 p4 p5 p6 p7 p8 p9 bM bQ cz cM df dA p16 dZ eH fq gi ij jO : Prop} (a0 : p0) (a1 : p1) (a2 : p2) (a3 : p3) (a4 : p4) (a5 : p5) (a6 : p6) (a7 : p7) (a8 : p8) (a9 : p9) (dS : bM) (eo : bQ) (a12 : cz) (eT : cM) (fB : df) (gb : dA) (a16 : p16) (a17 : dZ) (jm : eH) (kF : fq) (a20 : gi) (a21 : ij) (a22 : jO) : p0 ∧ p1 ∧ p2 ∧ p3 ∧ p4 ∧ p5 ∧ p6 ∧ p7 ∧ p8 ∧ p9 ∧ bM ∧ bQ ∧ cz ∧ cM ∧ df ∧ dA ∧ p16 ∧ dZ ∧ eH ∧ fq ∧ gi ∧ ij ∧ jO := ⟨a0, a1, a2, a3, a4, a5, a6, a7, a8, a9, dS, eo, a12, eT, fB, gb, a16, a17, jm, kF, a20, a21, a22⟩
theorem Uh {p0 p1 p2 p3 p4 p5 p6 p7 p8 p9 bM bQ cz cM df dA p16 dZ eH fq gi ij jO lB : Prop} (a0 : p0) (a1 : p1) (a2 : p2) (a3 : p3) (a4 : p4) (a5 : p5) (a6 : p6) (a7 : p7) (a8 : p8) (a9 : p9) (dS : bM) (eo : bQ) (a12 : cz) (eT : cM) (fB : df) (gb : dA) (a16 : p16) (a17 : dZ) (jm : eH) (kF : fq) (a20 : gi) (a21 : ij) (a22 : jO) (a23 : lB) : p0 ∧ p1 ∧ p2 ∧ p3 ∧ p4 ∧ p5 ∧ p6 ∧ p7 ∧ p8 ∧ p9 ∧ bM ∧ bQ ∧ cz ∧ cM ∧ df ∧ dA ∧ p16 ∧ dZ ∧ eH ∧ fq ∧ gi ∧ ij ∧ jO ∧ lB := ⟨a0, a1, a2, a3, a4, a5, a6, a7, a8, a9, dS, eo, a12, eT, fB, gb, a16, a17, jm, kF, a20, a21, a22, a23⟩
theorem Ug {p0 p1 p2 p3 p4 p5 p6 p7 p8 p9 bM bQ cz cM df dA p16 dZ eH fq gi ij jO lB oQ : Prop} (a0 : p0) (a1 : p1) (a2 : p2) (a3 : p3) (a4 : p4) (a5 : p5) (a6 : p6) (a7 : p7) (a8 : p8) (a9 : p9) (dS : bM) (eo : bQ) (a12 : cz) (eT : cM) (fB : df) (gb : dA) (a16 : p16) (a17 : dZ) (jm : eH) (kF : fq) (a20 : gi) (a21 : ij) (a22 : jO) (a23 : lB) (a24 : oQ) : p0 ∧ p1 ∧ p2 ∧ p3 ∧ p4 ∧ p5 ∧ p6 ∧ p7 ∧ p8 ∧ p9 ∧ bM ∧ bQ ∧ cz ∧ cM ∧ df ∧ dA ∧ p16 ∧ dZ ∧ eH ∧ fq ∧ gi ∧ ij ∧ jO ∧ lB ∧ oQ := ⟨a0, a1, a2, a3, a4, a5, a6, a7, a8, a9, dS, eo, a12, eT, fB, gb, a16, a17, jm, kF, a20, a21, a22, a23, a24⟩
theorem xD {p0 p1 p2 p3 p4 p5 p6 p7 p8 p9 bM bQ cz cM df dA p16 dZ eH fq gi ij jO lB oQ p25 p26 p27 : Prop} (a0 : p0) (a1 : p1) (a2 : p2) (a3 : p3) (a4 : p4) (a5 : p5) (a6 : p6) (a7 : p7) (a8 : p8) (a9 : p9) (dS : bM) (eo : bQ) (a12 : cz) (eT : cM) (fB : df) (gb : dA) (a16 : p16) (a17 : dZ) (jm : eH) (kF : fq) (a20 : gi) (a21 : ij) (a22 : jO) (a23 : lB) (a24 : oQ) (a25 : p25) (a26 : p26) (a27 : p27) : p0 ∧ p1 ∧ p2 ∧ p3 ∧ p4 ∧ p5 ∧ p6 ∧ p7 ∧ p8 ∧ p9 ∧ bM ∧ bQ ∧ cz ∧ cM ∧ df ∧ dA ∧ p16 ∧ dZ ∧ eH ∧ fq ∧ gi ∧ ij ∧ jO ∧ lB ∧ oQ ∧ p25 ∧ p26 ∧ p27 := ⟨a0, a1, a2, a3, a4, a5, a6, a7, a8, a9, dS, eo, a12, eT, fB, gb, a16, a17, jm, kF, a20, a21, a22, a23, a24, a25, a26, a27⟩
theorem I2 {p0 p1 p2 p3 p4 p5 p6 p7 p8 p9 bM bQ cz cM df dA p16 dZ eH fq gi ij jO lB oQ p25 p26 p27 p28 : Prop} (a0 : p0) (a1 : p1) (a2 : p2) (a3 : p3) (a4 : p4) (a5 : p5) (a6 : p6) (a7 : p7) (a8 : p8) (a9 : p9) (dS : bM) (eo : bQ) (a12 : cz) (eT : cM) (fB : df) (gb : dA) (a16 : p16) (a17 : dZ) (jm : eH) (kF : fq) (a20 : gi) (a21 : ij) (a22 : jO) (a23 : lB) (a24 : oQ) (a25 : p25) (a26 : p26) (a27 : p27) (a28 : p28) : p0 ∧ p1 ∧ p2 ∧ p3 ∧ p4 ∧ p5 ∧ p6 ∧ p7 ∧ p8 ∧ p9 ∧ bM ∧ bQ ∧ cz ∧ cM ∧ df ∧ dA ∧ p16 ∧ dZ ∧ eH ∧ fq ∧ gi ∧ ij ∧ jO ∧ lB ∧ oQ ∧ p25 ∧ p26 ∧ p27 ∧ p28 := ⟨a0, a1, a2, a3, a4, a5, a6, a7, a8, a9, dS, eo, a12, eT, fB, gb, a16, a17, jm, kF, a20, a21, a22, a23, a24, a25, a26, a27, a28⟩
theorem Pn {p0 p1 p2 p3 p4 p5 p6 p7 p8 p9 bM bQ cz cM df dA p16 dZ eH fq gi ij jO lB oQ p25 p26 p27 p28 p29 : Prop} (a0 : p0) (a1 : p1) (a2 : p2) (a3 : p3) (a4 : p4) (a5 : p5) (a6 : p6) (a7 : p7) (a8 : p8) (a9 : p9) (dS : bM) (eo : bQ) (a12 : cz) (eT : cM) (fB : df) (gb : dA) (a16 : p16) (a17 : dZ) (jm : eH) (kF : fq) (a20 : gi) (a21 : ij) (a22 : jO) (a23 : lB) (a24 : oQ) (a25 : p25) (a26 : p26) (a27 : p27) (a28 : p28) (a29 : p29) : p0 ∧ p1 ∧ p2 ∧ p3 ∧ p4 ∧ p5 ∧ p6 ∧ p7 ∧ p8 ∧ p9 ∧ bM ∧ bQ ∧ cz ∧ cM ∧ df ∧ dA ∧ p16 ∧ dZ ∧ eH ∧ fq ∧ gi ∧ ij ∧ jO ∧ lB ∧ oQ ∧ p25 ∧ p26 ∧ p27 ∧ p28 ∧ p29 := ⟨a0, a1, a2, a3, a4, a5, a6, a7, a8, a9, dS, eo, a12, eT, fB, gb, a16, a17, jm, kF, a20, a21, a22, a23, a24, a25, a26, a27, a28, a29⟩
theorem Uf {p0 p1 p2 p3 p4 p5 p6 p7 p8 p9 bM bQ cz cM df dA p16 dZ eH fq gi ij jO lB oQ p25 p26 p27 p28 p29 p30 p31 p32 : Prop} (a0 : p0) (a1 : p1) (a2 : p2) (a3 : p3) (a4 : p4) (a5 : p5) (a6 : p6) (a7 : p7) (a8 : p8) (a9 : p9) (dS : bM) (eo : bQ) (a12 : cz) (eT : cM) (fB : df) (gb : dA) (a16 : p16) (a17 : dZ) (jm : eH) (kF : fq) (a20 : gi) (a21 : ij) (a22 : jO) (a23 : lB) (a24 : oQ) (a25 : p25) (a26 : p26) (a27 : p27) (a28 : p28) (a29 : p29) (a30 : p30) (a31 : p31) (a32 : p32) : p0 ∧ p1 ∧ p2 ∧ p3 ∧ p4 ∧ p5 ∧ p6 ∧ p7 ∧ p8 ∧ p9 ∧ bM ∧ bQ ∧ cz ∧ cM ∧ df ∧ dA ∧ p16 ∧ dZ ∧ eH ∧ fq ∧ gi ∧ ij ∧ jO ∧ lB ∧ oQ ∧ p25 ∧ p26 ∧ p27 ∧ p28 ∧ p29 ∧ p30 ∧ p31 ∧ p32 := ⟨a0, a1, a2, a3, a4, a5, a6, a7, a8, a9, dS, eo, a12, eT, fB, gb, a16, a17, jm, kF, a20, a21, a22, a23, a24, a25, a26, a27, a28, a29, a30, a31, a32⟩
theorem aj {p q : Prop} (k : q) (h : p = q := by
 try (conv => lhs; simp only [Za, List.map_cons, List.map_nil, lk, reduceIte, Nat.reduceEqDiff, Nat.zero_ne_one, Nat.one_ne_zero])
 first | done | exact rfl) : p := h ▸ k
theorem re {p F : Prop} (f : F) (h : F → p := by
 intro f
 simp [Zn, ZS, ZW, go_sem, fin, aO, aJ, bq, cZ, d8, f]) : p := h f
theorem R5 {p F : Prop} (f : F) (h : F → p := by
 intro f
 simp [Zn, ZS, ZW, go_sem, fin, aO, aJ, bq, cZ, d8, iu, f]) : p := h f
theorem UR {p F : Prop} (f : F) (h : F → p := by
 intro f
 simp [Zn, ZS, ZW, go_sem, fin, aO, aJ, bq, cZ, d8, q8, f]) : p := h f
theorem UQ {p F : Prop} (f : F) (h : F → p := by
 intro f
 simp [Zn, ZS, ZW, go_sem, fin, aO, aJ, bq, cZ, d8, aH, f]) : p := h f
theorem Ez {p F : Prop} (f : F) (h : F → p := by
 intro f
 simp [Zn, ZS, ZW, ZN, ZG, ZF, ZH, Zt, Zh, Zp, Zk, Zm, Ze, Zf, Zl, Zu, Zv, ZI, ↓Zj, Zs, Zi, ZE, Zy, Zx, ZX, ZA, Yp, put, lk, Od.v, Za, Zg, Zo, ax, Yg, Yh, Yd, ay, eqk, DV.isU, DV.cells, ae, ZO, Yb, ZP, Zr, splice, DV.one, ZR, af, ZY, eqs, fin, aO, aJ, bq, cZ, d8, f]) : p := h f
theorem HM {p F : Prop} (f : F) (h : F → p := by
 intro f
 simp [Zn, ZS, ZW, ZN, ZG, ZF, ZH, Zt, Zh, Zp, Zk, Zm, Ze, Zf, Zl, Zu, Zv, ZI, ↓Zj, Zs, Zi, ZE, Zy, Zx, ZX, ZA, Yp, put, lk, Od.v, Za, Zg, Zo, ax, Yg, Yh, Yd, ay, eqk, DV.isU, DV.cells, ae, ZO, Yb, ZP, Zr, splice, DV.one, ZR, af, ZY, eqs, fin, aO, aJ, bq, cZ, d8, eD, f]) : p := h f
theorem rg {p F : Prop} (f : F) (h : F → p := by
 intro f
 repeat (first | rewrite [ZM] | rewrite [Zq (by simp [go_sem, f]; exact ⟨rfl, rfl⟩)] | rewrite [Yk (by simp [lk, Za, Od.v, f]; exact rfl)] | rewrite [Zy] | rewrite [Zx] | rewrite [ZZ] | rewrite [Ys] | rewrite [Yc] | rewrite [Yr] | rewrite [Yf] | rewrite [Ye] | rewrite [ZV] | rewrite [ZT] | rewrite [ZU] | rewrite [ZL (by decide)] | rewrite [ZQ] | rewrite [ZJ] | rewrite [ZK] | rewrite [ZC (by decide)] | rewrite [Yv] | rewrite [Yt (by simp [go_sem, f]; exact ⟨rfl, rfl⟩)] | rewrite [Yu (by simp [lk, Za, Od.v, f]; exact rfl)] | rewrite [Yn])
 simp [Zn, ZS, ZW, go_sem, fin, aO, aJ, bq, cZ, d8, f]) : p := h f
theorem dO {p F : Prop} (f : F) (h : F → p := by
 intro f
 repeat (first | rewrite [ZM] | rewrite [Zq (by simp [go_sem, aH, f]; exact ⟨rfl, rfl⟩)] | rewrite [Yk (by simp [lk, Za, Od.v, aH, f]; exact rfl)] | rewrite [Zy] | rewrite [Zx] | rewrite [ZZ] | rewrite [Ys] | rewrite [Yc] | rewrite [Yr] | rewrite [Yf] | rewrite [Ye] | rewrite [ZV] | rewrite [ZT] | rewrite [ZU] | rewrite [ZL (by decide)] | rewrite [ZQ] | rewrite [ZJ] | rewrite [ZK] | rewrite [ZC (by decide)] | rewrite [Yv] | rewrite [Yt (by simp [go_sem, aH, f]; exact ⟨rfl, rfl⟩)] | rewrite [Yu (by simp [lk, Za, Od.v, aH, f]; exact rfl)] | rewrite [Yn])
 simp [Zn, ZS, ZW, go_sem, fin, aO, aJ, bq, cZ, d8, aH, f]) : p := h f
theorem UO {p F : Prop} (f : F) (h : F → p := by
 intro f
 repeat (first | rewrite [ZM] | rewrite [Zq (by simp [go_sem, vw, f]; exact ⟨rfl, rfl⟩)] | rewrite [Yk (by simp [lk, Za, Od.v, vw, f]; exact rfl)] | rewrite [Zy] | rewrite [Zx] | rewrite [ZZ] | rewrite [Ys] | rewrite [Yc] | rewrite [Yr] | rewrite [Yf] | rewrite [Ye] | rewrite [ZV] | rewrite [ZT] | rewrite [ZU] | rewrite [ZL (by decide)] | rewrite [ZQ] | rewrite [ZJ] | rewrite [ZK] | rewrite [ZC (by decide)] | rewrite [Yv] | rewrite [Yt (by simp [go_sem, vw, f]; exact ⟨rfl, rfl⟩)] | rewrite [Yu (by simp [lk, Za, Od.v, vw, f]; exact rfl)] | rewrite [Yn])
 simp [Zn, ZS, ZW, go_sem, fin, aO, aJ, bq, cZ, d8, vw, f]) : p := h f
theorem HK {p F : Prop} (f : F) (h : F → p := by
 intro f
 repeat (first | rewrite [ZM] | rewrite [Zq (by simp [go_sem, mE, lD, f]; exact ⟨rfl, rfl⟩)] | rewrite [Yk (by simp [lk, Za, Od.v, mE, lD, f]; exact rfl)] | rewrite [Zy] | rewrite [Zx] | rewrite [ZZ] | rewrite [Ys] | rewrite [Yc] | rewrite [Yr] | rewrite [Yf] | rewrite [Ye] | rewrite [ZV] | rewrite [ZT] | rewrite [ZU] | rewrite [ZL (by decide)] | rewrite [ZQ] | rewrite [ZJ] | rewrite [ZK] | rewrite [ZC (by decide)] | rewrite [Yv] | rewrite [Yt (by simp [go_sem, mE, lD, f]; exact ⟨rfl, rfl⟩)] | rewrite [Yu (by simp [lk, Za, Od.v, mE, lD, f]; exact rfl)] | rewrite [Yn])
 simp [Zn, ZS, ZW, go_sem, fin, aO, aJ, bq, cZ, d8, mE, lD, f]) : p := h f
theorem zx {p F : Prop} (f : F) (h : F → p := by
 intro f
 repeat (first | rewrite [ZM] | rewrite [Zq (by simp [go_sem, ord, f]; exact ⟨rfl, rfl⟩)] | rewrite [Yk (by simp [lk, Za, Od.v, ord, f]; exact rfl)] | rewrite [Zy] | rewrite [Zx] | rewrite [ZZ] | rewrite [Ys] | rewrite [Yc] | rewrite [Yr] | rewrite [Yf] | rewrite [Ye] | rewrite [ZV] | rewrite [ZT] | rewrite [ZU] | rewrite [ZL (by decide)] | rewrite [ZQ] | rewrite [ZJ] | rewrite [ZK] | rewrite [ZC (by decide)] | rewrite [Yv] | rewrite [Yt (by simp [go_sem, ord, f]; exact ⟨rfl, rfl⟩)] | rewrite [Yu (by simp [lk, Za, Od.v, ord, f]; exact rfl)] | rewrite [Yn])
 simp [Zn, ZS, ZW, go_sem, fin, aO, aJ, bq, cZ, d8, ord, f]) : p := h f
theorem qw {p F : Prop} (f : F) (h : F → p := by
 intro f
 repeat (first | rewrite [ZM] | rewrite [Zq (by simp [go_sem, aG, f]; exact ⟨rfl, rfl⟩)] | rewrite [Yk (by simp [lk, Za, Od.v, aG, f]; exact rfl)] | rewrite [Zy] | rewrite [Zx] | rewrite [ZZ] | rewrite [Ys] | rewrite [Yc] | rewrite [Yr] | rewrite [Yf] | rewrite [Ye] | rewrite [ZV] | rewrite [ZT] | rewrite [ZU] | rewrite [ZL (by decide)] | rewrite [ZQ] | rewrite [ZJ] | rewrite [ZK] | rewrite [ZC (by decide)] | rewrite [Yv] | rewrite [Yt (by simp [go_sem, aG, f]; exact ⟨rfl, rfl⟩)] | rewrite [Yu (by simp [lk, Za, Od.v, aG, f]; exact rfl)] | rewrite [Yn])
 simp [Zn, ZS, ZW, go_sem, fin, aO, aJ, bq, cZ, d8, aG, f]) : p := h f
theorem Tz {p F : Prop} (f : F) (h : F → p := by
 intro f
 repeat (first | rewrite [ZM] | rewrite [Zq (by simp [go_sem, fw, mm, f]; exact ⟨rfl, rfl⟩)] | rewrite [Yk (by simp [lk, Za, Od.v, fw, mm, f]; exact rfl)] | rewrite [Zy] | rewrite [Zx] | rewrite [ZZ] | rewrite [Ys] | rewrite [Yc] | rewrite [Yr] | rewrite [Yf] | rewrite [Ye] | rewrite [ZV] | rewrite [ZT] | rewrite [ZU] | rewrite [ZL (by decide)] | rewrite [ZQ] | rewrite [ZJ] | rewrite [ZK] | rewrite [ZC (by decide)] | rewrite [Yv] | rewrite [Yt (by simp [go_sem, fw, mm, f]; exact ⟨rfl, rfl⟩)] | rewrite [Yu (by simp [lk, Za, Od.v, fw, mm, f]; exact rfl)] | rewrite [Yn])
 simp [Zn, ZS, ZW, go_sem, fin, aO, aJ, bq, cZ, d8, fw, mm, f]) : p := h f
theorem Nf {p F : Prop} (f : F) (h : F → p := by
 intro f
 repeat (first | rewrite [ZM] | rewrite [Zq (by simp [go_sem, gC, f]; exact ⟨rfl, rfl⟩)] | rewrite [Yk (by simp [lk, Za, Od.v, gC, f]; exact rfl)] | rewrite [Zy] | rewrite [Zx] | rewrite [ZZ] | rewrite [Ys] | rewrite [Yc] | rewrite [Yr] | rewrite [Yf] | rewrite [Ye] | rewrite [ZV] | rewrite [ZT] | rewrite [ZU] | rewrite [ZL (by decide)] | rewrite [ZQ] | rewrite [ZJ] | rewrite [ZK] | rewrite [ZC (by decide)] | rewrite [Yv] | rewrite [Yt (by simp [go_sem, gC, f]; exact ⟨rfl, rfl⟩)] | rewrite [Yu (by simp [lk, Za, Od.v, gC, f]; exact rfl)] | rewrite [Yn])
 simp [Zn, ZS, ZW, go_sem, fin, aO, aJ, bq, cZ, d8, gC, f]) : p := h f
theorem Tx {p F : Prop} (f : F) (h : F → p := by
 intro f
 repeat (first | rewrite [ZM] | rewrite [Zq (by simp [go_sem, V.eqb, aH, f]; exact ⟨rfl, rfl⟩)] | rewrite [Yk (by simp [lk, Za, Od.v, V.eqb, aH, f]; exact rfl)] | rewrite [Zy] | rewrite [Zx] | rewrite [ZZ] | rewrite [Ys] | rewrite [Yc] | rewrite [Yr] | rewrite [Yf] | rewrite [Ye] | rewrite [ZV] | rewrite [ZT] | rewrite [ZU] | rewrite [ZL (by decide)] | rewrite [ZQ] | rewrite [ZJ] | rewrite [ZK] | rewrite [ZC (by decide)] | rewrite [Yv] | rewrite [Yt (by simp [go_sem, V.eqb, aH, f]; exact ⟨rfl, rfl⟩)] | rewrite [Yu (by simp [lk, Za, Od.v, V.eqb, aH, f]; exact rfl)] | rewrite [Yn])
 simp [Zn, ZS, ZW, go_sem, fin, aO, aJ, bq, cZ, d8, V.eqb, aH, f]) : p := h f
theorem Tw {p F : Prop} (f : F) (h : F → p := by
 intro f
 repeat (first | rewrite [ZM] | rewrite [Zq (by simp [go_sem, aW, bL, aM, vw, f]; exact ⟨rfl, rfl⟩)] | rewrite [Yk (by simp [lk, Za, Od.v, aW, bL, aM, vw, f]; exact rfl)] | rewrite [Zy] | rewrite [Zx] | rewrite [ZZ] | rewrite [Ys] | rewrite [Yc] | rewrite [Yr] | rewrite [Yf] | rewrite [Ye] | rewrite [ZV] | rewrite [ZT] | rewrite [ZU] | rewrite [ZL (by decide)] | rewrite [ZQ] | rewrite [ZJ] | rewrite [ZK] | rewrite [ZC (by decide)] | rewrite [Yv] | rewrite [Yt (by simp [go_sem, aW, bL, aM, vw, f]; exact ⟨rfl, rfl⟩)] | rewrite [Yu (by simp [lk, Za, Od.v, aW, bL, aM, vw, f]; exact rfl)] | rewrite [Yn])
 simp [Zn, ZS, ZW, go_sem, fin, aO, aJ, bq, cZ, d8, aW, bL, aM, vw, f]) : p := h f
theorem Tv {p F : Prop} (f : F) (h : F → p := by
 intro f
 repeat (first | rewrite [ZM] | rewrite [Zq (by simp [go_sem, v0, f]; exact ⟨rfl, rfl⟩)] | rewrite [Yk (by simp [lk, Za, Od.v, v0, f]; exact rfl)] | rewrite [Zy] | rewrite [Zx] | rewrite [ZZ] | rewrite [Ys] | rewrite [Yc] | rewrite [Yr] | rewrite [Yf] | rewrite [Ye] | rewrite [ZV] | rewrite [ZT] | rewrite [ZU] | rewrite [ZL (by decide)] | rewrite [ZQ] | rewrite [ZJ] | rewrite [ZK] | rewrite [ZC (by decide)] | rewrite [Yv] | rewrite [Yt (by simp [go_sem, v0, f]; exact ⟨rfl, rfl⟩)] | rewrite [Yu (by simp [lk, Za, Od.v, v0, f]; exact rfl)] | rewrite [Yn])
 simp [Zn, ZS, ZW, go_sem, fin, aO, aJ, bq, cZ, d8, v0, f]) : p := h f
theorem UN {p F : Prop} (f : F) (h : F → p := by
 intro f
 repeat (first | rewrite [ZM] | rewrite [Zq (by simp [go_sem, iu, f]; exact ⟨rfl, rfl⟩)] | rewrite [Yk (by simp [lk, Za, Od.v, iu, f]; exact rfl)] | rewrite [Zy] | rewrite [Zx] | rewrite [ZZ] | rewrite [Ys] | rewrite [Yc] | rewrite [Yr] | rewrite [Yf] | rewrite [Ye] | rewrite [ZV] | rewrite [ZT] | rewrite [ZU] | rewrite [ZL (by decide)] | rewrite [ZQ] | rewrite [ZJ] | rewrite [ZK] | rewrite [ZC (by decide)] | rewrite [Yv] | rewrite [Yt (by simp [go_sem, iu, f]; exact ⟨rfl, rfl⟩)] | rewrite [Yu (by simp [lk, Za, Od.v, iu, f]; exact rfl)] | rewrite [Yn])
 simp [Zn, ZS, ZW, go_sem, fin, aO, aJ, bq, cZ, d8, iu, f]) : p := h f
theorem Nc {p F : Prop} (f : F) (h : F → p := by
 intro f
 repeat (first | rewrite [ZM] | rewrite [Zq (by simp [go_sem, eD, f]; exact ⟨rfl, rfl⟩)] | rewrite [Yk (by simp [lk, Za, Od.v, eD, f]; exact rfl)] | rewrite [Zy] | rewrite [Zx] | rewrite [ZZ] | rewrite [Ys] | rewrite [Yc] | rewrite [Yr] | rewrite [Yf] | rewrite [Ye] | rewrite [ZV] | rewrite [ZT] | rewrite [ZU] | rewrite [ZL (by decide)] | rewrite [ZQ] | rewrite [ZJ] | rewrite [ZK] | rewrite [ZC (by decide)] | rewrite [Yv] | rewrite [Yt (by simp [go_sem, eD, f]; exact ⟨rfl, rfl⟩)] | rewrite [Yu (by simp [lk, Za, Od.v, eD, f]; exact rfl)] | rewrite [Yn])
 simp [Zn, ZS, ZW, go_sem, fin, aO, aJ, bq, cZ, d8, eD, f]) : p := h f
theorem UM {p F : Prop} (f : F) (h : F → p := by
 intro f
 repeat (first | rewrite [ZM] | rewrite [Zq (by simp [ZN, ZG, ZF, ZH, Zt, Zh, Zp, Zk, Zm, Ze, Zf, Zl, Zu, Zv, ZI, ↓Zj, Zs, Zi, ZE, Zy, Zx, ZX, ZA, Yp, put, lk, Od.v, Za, Zg, Zo, ax, Yg, Yh, Yd, ay, eqk, DV.isU, DV.cells, ae, ZO, Yb, ZP, Zr, splice, DV.one, ZR, af, ZY, eqs, f]; exact ⟨rfl, rfl⟩)] | rewrite [Yk (by simp [lk, Za, Od.v, f]; exact rfl)] | rewrite [Zy] | rewrite [Zx] | rewrite [ZZ] | rewrite [Ys] | rewrite [Yc] | rewrite [Yr] | rewrite [Yf] | rewrite [Ye] | rewrite [ZV] | rewrite [ZT] | rewrite [ZU] | rewrite [ZL (by decide)] | rewrite [ZQ] | rewrite [ZJ] | rewrite [ZK] | rewrite [ZC (by decide)] | rewrite [Yv] | rewrite [Yt (by simp [ZN, ZG, ZF, ZH, Zt, Zh, Zp, Zk, Zm, Ze, Zf, Zl, Zu, Zv, ZI, ↓Zj, Zs, Zi, ZE, Zy, Zx, ZX, ZA, Yp, put, lk, Od.v, Za, Zg, Zo, ax, Yg, Yh, Yd, ay, eqk, DV.isU, DV.cells, ae, ZO, Yb, ZP, Zr, splice, DV.one, ZR, af, ZY, eqs, f]; exact ⟨rfl, rfl⟩)] | rewrite [Yu (by simp [lk, Za, Od.v, f]; exact rfl)] | rewrite [Yn])
 simp [Zn, ZS, ZW, ZN, ZG, ZF, ZH, Zt, Zh, Zp, Zk, Zm, Ze, Zf, Zl, Zu, Zv, ZI, ↓Zj, Zs, Zi, ZE, Zy, Zx, ZX, ZA, Yp, put, lk, Od.v, Za, Zg, Zo, ax, Yg, Yh, Yd, ay, eqk, DV.isU, DV.cells, ae, ZO, Yb, ZP, Zr, splice, DV.one, ZR, af, ZY, eqs, fin, aO, aJ, bq, cZ, d8, f]) : p := h f
theorem qv {p F : Prop} (f : F) (h : F → p := by
 intro f
 repeat (first | rewrite [ZM] | rewrite [Zq (by simp [ZN, ZG, ZF, ZH, Zt, Zh, Zp, Zk, Zm, Ze, Zf, Zl, Zu, Zv, ZI, ↓Zj, Zs, Zi, ZE, Zy, Zx, ZX, ZA, Yp, put, lk, Od.v, Za, Zg, Zo, ax, Yg, Yh, Yd, ay, eqk, DV.isU, DV.cells, ae, ZO, Yb, ZP, Zr, splice, DV.one, ZR, af, ZY, eqs, eD, ord, f]; exact ⟨rfl, rfl⟩)] | rewrite [Yk (by simp [lk, Za, Od.v, eD, ord, f]; exact rfl)] | rewrite [Zy] | rewrite [Zx] | rewrite [ZZ] | rewrite [Ys] | rewrite [Yc] | rewrite [Yr] | rewrite [Yf] | rewrite [Ye] | rewrite [ZV] | rewrite [ZT] | rewrite [ZU] | rewrite [ZL (by decide)] | rewrite [ZQ] | rewrite [ZJ] | rewrite [ZK] | rewrite [ZC (by decide)] | rewrite [Yv] | rewrite [Yt (by simp [ZN, ZG, ZF, ZH, Zt, Zh, Zp, Zk, Zm, Ze, Zf, Zl, Zu, Zv, ZI, ↓Zj, Zs, Zi, ZE, Zy, Zx, ZX, ZA, Yp, put, lk, Od.v, Za, Zg, Zo, ax, Yg, Yh, Yd, ay, eqk, DV.isU, DV.cells, ae, ZO, Yb, ZP, Zr, splice, DV.one, ZR, af, ZY, eqs, eD, ord, f]; exact ⟨rfl, rfl⟩)] | rewrite [Yu (by simp [lk, Za, Od.v, eD, ord, f]; exact rfl)] | rewrite [Yn])
 simp [Zn, ZS, ZW, ZN, ZG, ZF, ZH, Zt, Zh, Zp, Zk, Zm, Ze, Zf, Zl, Zu, Zv, ZI, ↓Zj, Zs, Zi, ZE, Zy, Zx, ZX, ZA, Yp, put, lk, Od.v, Za, Zg, Zo, ax, Yg, Yh, Yd, ay, eqk, DV.isU, DV.cells, ae, ZO, Yb, ZP, Zr, splice, DV.one, ZR, af, ZY, eqs, fin, aO, aJ, bq, cZ, d8, eD, ord, f]) : p := h f
theorem Nb {p F : Prop} (f : F) (h : F → p := by
 intro f
 repeat (first | rewrite [ZM] | rewrite [Zq (by simp [ZN, ZG, ZF, ZH, Zt, Zh, Zp, Zk, Zm, Ze, Zf, Zl, Zu, Zv, ZI, ↓Zj, Zs, Zi, ZE, Zy, Zx, ZX, ZA, Yp, put, lk, Od.v, Za, Zg, Zo, ax, Yg, Yh, Yd, ay, eqk, DV.isU, DV.cells, ae, ZO, Yb, ZP, Zr, splice, DV.one, ZR, af, ZY, eqs, ord, f]; exact ⟨rfl, rfl⟩)] | rewrite [Yk (by simp [lk, Za, Od.v, ord, f]; exact rfl)] | rewrite [Zy] | rewrite [Zx] | rewrite [ZZ] | rewrite [Ys] | rewrite [Yc] | rewrite [Yr] | rewrite [Yf] | rewrite [Ye] | rewrite [ZV] | rewrite [ZT] | rewrite [ZU] | rewrite [ZL (by decide)] | rewrite [ZQ] | rewrite [ZJ] | rewrite [ZK] | rewrite [ZC (by decide)] | rewrite [Yv] | rewrite [Yt (by simp [ZN, ZG, ZF, ZH, Zt, Zh, Zp, Zk, Zm, Ze, Zf, Zl, Zu, Zv, ZI, ↓Zj, Zs, Zi, ZE, Zy, Zx, ZX, ZA, Yp, put, lk, Od.v, Za, Zg, Zo, ax, Yg, Yh, Yd, ay, eqk, DV.isU, DV.cells, ae, ZO, Yb, ZP, Zr, splice, DV.one, ZR, af, ZY, eqs, ord, f]; exact ⟨rfl, rfl⟩)] | rewrite [Yu (by simp [lk, Za, Od.v, ord, f]; exact rfl)] | rewrite [Yn])
 simp [Zn, ZS, ZW, ZN, ZG, ZF, ZH, Zt, Zh, Zp, Zk, Zm, Ze, Zf, Zl, Zu, Zv, ZI, ↓Zj, Zs, Zi, ZE, Zy, Zx, ZX, ZA, Yp, put, lk, Od.v, Za, Zg, Zo, ax, Yg, Yh, Yd, ay, eqk, DV.isU, DV.cells, ae, ZO, Yb, ZP, Zr, splice, DV.one, ZR, af, ZY, eqs, fin, aO, aJ, bq, cZ, d8, ord, f]) : p := h f
theorem rn {p q F : Prop} (f : F) (k : q) (h : F → p = q := by
 intro f
 repeat (first | rewrite [ZM] | rewrite [Zq (by simp [go_sem, f]; exact ⟨rfl, rfl⟩)] | rewrite [Yk (by simp [lk, Za, Od.v, f]; exact rfl)] | rewrite [Zy] | rewrite [Zx] | rewrite [ZZ] | rewrite [Ys] | rewrite [Yc] | rewrite [Yr] | rewrite [Yf] | rewrite [Ye] | rewrite [ZV] | rewrite [ZT] | rewrite [ZU] | rewrite [ZL (by decide)] | rewrite [ZQ] | rewrite [ZJ] | rewrite [ZK] | rewrite [ZC (by decide)] | rewrite [Yv] | rewrite [Yt (by simp [go_sem, f]; exact ⟨rfl, rfl⟩)] | rewrite [Yu (by simp [lk, Za, Od.v, f]; exact rfl)] | rewrite [Yn])
 exact rfl) : p := (h f).mpr k
theorem ah {p q F : Prop} (f : F) (k : q) (h : F → p = q := by
 intro f
 repeat (first | rewrite [ZM] | rewrite [Zq (by simp [go_sem, aH, f]; exact ⟨rfl, rfl⟩)] | rewrite [Yk (by simp [lk, Za, Od.v, aH, f]; exact rfl)] | rewrite [Zy] | rewrite [Zx] | rewrite [ZZ] | rewrite [Ys] | rewrite [Yc] | rewrite [Yr] | rewrite [Yf] | rewrite [Ye] | rewrite [ZV] | rewrite [ZT] | rewrite [ZU] | rewrite [ZL (by decide)] | rewrite [ZQ] | rewrite [ZJ] | rewrite [ZK] | rewrite [ZC (by decide)] | rewrite [Yv] | rewrite [Yt (by simp [go_sem, aH, f]; exact ⟨rfl, rfl⟩)] | rewrite [Yu (by simp [lk, Za, Od.v, aH, f]; exact rfl)] | rewrite [Yn])
 exact rfl) : p := (h f).mpr k
theorem Kg {p q F : Prop} (f : F) (k : q) (h : F → p = q := by
 intro f
 repeat (first | rewrite [ZM] | rewrite [Zq (by simp [go_sem, fw, f]; exact ⟨rfl, rfl⟩)] | rewrite [Yk (by simp [lk, Za, Od.v, fw, f]; exact rfl)] | rewrite [Zy] | rewrite [Zx] | rewrite [ZZ] | rewrite [Ys] | rewrite [Yc] | rewrite [Yr] | rewrite [Yf] | rewrite [Ye] | rewrite [ZV] | rewrite [ZT] | rewrite [ZU] | rewrite [ZL (by decide)] | rewrite [ZQ] | rewrite [ZJ] | rewrite [ZK] | rewrite [ZC (by decide)] | rewrite [Yv] | rewrite [Yt (by simp [go_sem, fw, f]; exact ⟨rfl, rfl⟩)] | rewrite [Yu (by simp [lk, Za, Od.v, fw, f]; exact rfl)] | rewrite [Yn])
 exact rfl) : p := (h f).mpr k
theorem uy {p q F : Prop} (f : F) (k : q) (h : F → p = q := by
 intro f
 repeat (first | rewrite [ZM] | rewrite [Zq (by simp [go_sem, hz, f]; exact ⟨rfl, rfl⟩)] | rewrite [Yk (by simp [lk, Za, Od.v, hz, f]; exact rfl)] | rewrite [Zy] | rewrite [Zx] | rewrite [ZZ] | rewrite [Ys] | rewrite [Yc] | rewrite [Yr] | rewrite [Yf] | rewrite [Ye] | rewrite [ZV] | rewrite [ZT] | rewrite [ZU] | rewrite [ZL (by decide)] | rewrite [ZQ] | rewrite [ZJ] | rewrite [ZK] | rewrite [ZC (by decide)] | rewrite [Yv] | rewrite [Yt (by simp [go_sem, hz, f]; exact ⟨rfl, rfl⟩)] | rewrite [Yu (by simp [lk, Za, Od.v, hz, f]; exact rfl)] | rewrite [Yn])
 exact rfl) : p := (h f).mpr k
theorem Na {p q F : Prop} (f : F) (k : q) (h : F → p = q := by
 intro f
 repeat (first | rewrite [ZM] | rewrite [Zq (by simp [go_sem, hz, bP, f]; exact ⟨rfl, rfl⟩)] | rewrite [Yk (by simp [lk, Za, Od.v, hz, bP, f]; exact rfl)] | rewrite [Zy] | rewrite [Zx] | rewrite [ZZ] | rewrite [Ys] | rewrite [Yc] | rewrite [Yr] | rewrite [Yf] | rewrite [Ye] | rewrite [ZV] | rewrite [ZT] | rewrite [ZU] | rewrite [ZL (by decide)] | rewrite [ZQ] | rewrite [ZJ] | rewrite [ZK] | rewrite [ZC (by decide)] | rewrite [Yv] | rewrite [Yt (by simp [go_sem, hz, bP, f]; exact ⟨rfl, rfl⟩)] | rewrite [Yu (by simp [lk, Za, Od.v, hz, bP, f]; exact rfl)] | rewrite [Yn])
 exact rfl) : p := (h f).mpr k
theorem Tt {p q F : Prop} (f : F) (k : q) (h : F → p = q := by
 intro f
 repeat (first | rewrite [ZM] | rewrite [Zq (by simp [go_sem, eR, bP, f]; exact ⟨rfl, rfl⟩)] | rewrite [Yk (by simp [lk, Za, Od.v, eR, bP, f]; exact rfl)] | rewrite [Zy] | rewrite [Zx] | rewrite [ZZ] | rewrite [Ys] | rewrite [Yc] | rewrite [Yr] | rewrite [Yf] | rewrite [Ye] | rewrite [ZV] | rewrite [ZT] | rewrite [ZU] | rewrite [ZL (by decide)] | rewrite [ZQ] | rewrite [ZJ] | rewrite [ZK] | rewrite [ZC (by decide)] | rewrite [Yv] | rewrite [Yt (by simp [go_sem, eR, bP, f]; exact ⟨rfl, rfl⟩)] | rewrite [Yu (by simp [lk, Za, Od.v, eR, bP, f]; exact rfl)] | rewrite [Yn])
 exact rfl) : p := (h f).mpr k
theorem HJ {p q F : Prop} (f : F) (k : q) (h : F → p = q := by
 intro f
 repeat (first | rewrite [ZM] | rewrite [Zq (by simp [go_sem, eR, bP, aH, f]; exact ⟨rfl, rfl⟩)] | rewrite [Yk (by simp [lk, Za, Od.v, eR, bP, aH, f]; exact rfl)] | rewrite [Zy] | rewrite [Zx] | rewrite [ZZ] | rewrite [Ys] | rewrite [Yc] | rewrite [Yr] | rewrite [Yf] | rewrite [Ye] | rewrite [ZV] | rewrite [ZT] | rewrite [ZU] | rewrite [ZL (by decide)] | rewrite [ZQ] | rewrite [ZJ] | rewrite [ZK] | rewrite [ZC (by decide)] | rewrite [Yv] | rewrite [Yt (by simp [go_sem, eR, bP, aH, f]; exact ⟨rfl, rfl⟩)] | rewrite [Yu (by simp [lk, Za, Od.v, eR, bP, aH, f]; exact rfl)] | rewrite [Yn])
 exact rfl) : p := (h f).mpr k
theorem Tr {p q F : Prop} (f : F) (k : q) (h : F → p = q := by
 intro f
 repeat (first | rewrite [ZM] | rewrite [Zq (by simp [go_sem, hs, f]; exact ⟨rfl, rfl⟩)] | rewrite [Yk (by simp [lk, Za, Od.v, hs, f]; exact rfl)] | rewrite [Zy] | rewrite [Zx] | rewrite [ZZ] | rewrite [Ys] | rewrite [Yc] | rewrite [Yr] | rewrite [Yf] | rewrite [Ye] | rewrite [ZV] | rewrite [ZT] | rewrite [ZU] | rewrite [ZL (by decide)] | rewrite [ZQ] | rewrite [ZJ] | rewrite [ZK] | rewrite [ZC (by decide)] | rewrite [Yv] | rewrite [Yt (by simp [go_sem, hs, f]; exact ⟨rfl, rfl⟩)] | rewrite [Yu (by simp [lk, Za, Od.v, hs, f]; exact rfl)] | rewrite [Yn])
 exact rfl) : p := (h f).mpr k
theorem M9 {p q F : Prop} (f : F) (k : q) (h : F → p = q := by
 intro f
 repeat (first | rewrite [ZM] | rewrite [Zq (by simp [go_sem, v7, f]; exact ⟨rfl, rfl⟩)] | rewrite [Yk (by simp [lk, Za, Od.v, v7, f]; exact rfl)] | rewrite [Zy] | rewrite [Zx] | rewrite [ZZ] | rewrite [Ys] | rewrite [Yc] | rewrite [Yr] | rewrite [Yf] | rewrite [Ye] | rewrite [ZV] | rewrite [ZT] | rewrite [ZU] | rewrite [ZL (by decide)] | rewrite [ZQ] | rewrite [ZJ] | rewrite [ZK] | rewrite [ZC (by decide)] | rewrite [Yv] | rewrite [Yt (by simp [go_sem, v7, f]; exact ⟨rfl, rfl⟩)] | rewrite [Yu (by simp [lk, Za, Od.v, v7, f]; exact rfl)] | rewrite [Yn])
 exact rfl) : p := (h f).mpr k
theorem UL {p q F : Prop} (f : F) (k : q) (h : F → p = q := by
 intro f
 repeat (first | rewrite [ZM] | rewrite [Zq (by simp [go_sem, eR, bP, fF, f]; exact ⟨rfl, rfl⟩)] | rewrite [Yk (by simp [lk, Za, Od.v, eR, bP, fF, f]; exact rfl)] | rewrite [Zy] | rewrite [Zx] | rewrite [ZZ] | rewrite [Ys] | rewrite [Yc] | rewrite [Yr] | rewrite [Yf] | rewrite [Ye] | rewrite [ZV] | rewrite [ZT] | rewrite [ZU] | rewrite [ZL (by decide)] | rewrite [ZQ] | rewrite [ZJ] | rewrite [ZK] | rewrite [ZC (by decide)] | rewrite [Yv] | rewrite [Yt (by simp [go_sem, eR, bP, fF, f]; exact ⟨rfl, rfl⟩)] | rewrite [Yu (by simp [lk, Za, Od.v, eR, bP, fF, f]; exact rfl)] | rewrite [Yn])
 exact rfl) : p := (h f).mpr k
theorem R4 {p q F : Prop} (f : F) (k : q) (h : F → p = q := by
 intro f
 repeat (first | rewrite [ZM] | rewrite [Zq (by simp [go_sem, aG, f]; exact ⟨rfl, rfl⟩)] | rewrite [Yk (by simp [lk, Za, Od.v, aG, f]; exact rfl)] | rewrite [Zy] | rewrite [Zx] | rewrite [ZZ] | rewrite [Ys] | rewrite [Yc] | rewrite [Yr] | rewrite [Yf] | rewrite [Ye] | rewrite [ZV] | rewrite [ZT] | rewrite [ZU] | rewrite [ZL (by decide)] | rewrite [ZQ] | rewrite [ZJ] | rewrite [ZK] | rewrite [ZC (by decide)] | rewrite [Yv] | rewrite [Yt (by simp [go_sem, aG, f]; exact ⟨rfl, rfl⟩)] | rewrite [Yu (by simp [lk, Za, Od.v, aG, f]; exact rfl)] | rewrite [Yn])
 exact rfl) : p := (h f).mpr k
theorem UK {p q F : Prop} (f : F) (k : q) (h : F → p = q := by
 intro f
 repeat (first | rewrite [ZM] | rewrite [Zq (by simp [go_sem, V.eqb, f]; exact ⟨rfl, rfl⟩)] | rewrite [Yk (by simp [lk, Za, Od.v, V.eqb, f]; exact rfl)] | rewrite [Zy] | rewrite [Zx] | rewrite [ZZ] | rewrite [Ys] | rewrite [Yc] | rewrite [Yr] | rewrite [Yf] | rewrite [Ye] | rewrite [ZV] | rewrite [ZT] | rewrite [ZU] | rewrite [ZL (by decide)] | rewrite [ZQ] | rewrite [ZJ] | rewrite [ZK] | rewrite [ZC (by decide)] | rewrite [Yv] | rewrite [Yt (by simp [go_sem, V.eqb, f]; exact ⟨rfl, rfl⟩)] | rewrite [Yu (by simp [lk, Za, Od.v, V.eqb, f]; exact rfl)] | rewrite [Yn])
 exact rfl) : p := (h f).mpr k
theorem UJ {p q F : Prop} (f : F) (k : q) (h : F → p = q := by
 intro f
 repeat (first | rewrite [ZM] | rewrite [Zq (by simp [go_sem, aM, f]; exact ⟨rfl, rfl⟩)] | rewrite [Yk (by simp [lk, Za, Od.v, aM, f]; exact rfl)] | rewrite [Zy] | rewrite [Zx] | rewrite [ZZ] | rewrite [Ys] | rewrite [Yc] | rewrite [Yr] | rewrite [Yf] | rewrite [Ye] | rewrite [ZV] | rewrite [ZT] | rewrite [ZU] | rewrite [ZL (by decide)] | rewrite [ZQ] | rewrite [ZJ] | rewrite [ZK] | rewrite [ZC (by decide)] | rewrite [Yv] | rewrite [Yt (by simp [go_sem, aM, f]; exact ⟨rfl, rfl⟩)] | rewrite [Yu (by simp [lk, Za, Od.v, aM, f]; exact rfl)] | rewrite [Yn])
 exact rfl) : p := (h f).mpr k
theorem UI {p q F : Prop} (f : F) (k : q) (h : F → p = q := by
 intro f
 repeat (first | rewrite [ZM] | rewrite [Zq (by simp [go_sem, aH, aM, f]; exact ⟨rfl, rfl⟩)] | rewrite [Yk (by simp [lk, Za, Od.v, aH, aM, f]; exact rfl)] | rewrite [Zy] | rewrite [Zx] | rewrite [ZZ] | rewrite [Ys] | rewrite [Yc] | rewrite [Yr] | rewrite [Yf] | rewrite [Ye] | rewrite [ZV] | rewrite [ZT] | rewrite [ZU] | rewrite [ZL (by decide)] | rewrite [ZQ] | rewrite [ZJ] | rewrite [ZK] | rewrite [ZC (by decide)] | rewrite [Yv] | rewrite [Yt (by simp [go_sem, aH, aM, f]; exact ⟨rfl, rfl⟩)] | rewrite [Yu (by simp [lk, Za, Od.v, aH, aM, f]; exact rfl)] | rewrite [Yn])
 exact rfl) : p := (h f).mpr k
theorem aB {p q F : Prop} (f : F) (k : q) (h : F → p = q := by
 intro f
 repeat (first | rewrite [ZM] | rewrite [Zq (by simp [ZN, ZG, ZF, ZH, Zt, Zh, Zp, Zk, Zm, Ze, Zf, Zl, Zu, Zv, ZI, ↓Zj, Zs, Zi, ZE, Zy, Zx, ZX, ZA, Yp, put, lk, Od.v, Za, Zg, Zo, ax, Yg, Yh, Yd, ay, eqk, DV.isU, DV.cells, ae, ZO, Yb, ZP, Zr, splice, DV.one, ZR, af, ZY, eqs, f]; exact ⟨rfl, rfl⟩)] | rewrite [Yk (by simp [lk, Za, Od.v, f]; exact rfl)] | rewrite [Zy] | rewrite [Zx] | rewrite [ZZ] | rewrite [Ys] | rewrite [Yc] | rewrite [Yr] | rewrite [Yf] | rewrite [Ye] | rewrite [ZV] | rewrite [ZT] | rewrite [ZU] | rewrite [ZL (by decide)] | rewrite [ZQ] | rewrite [ZJ] | rewrite [ZK] | rewrite [ZC (by decide)] | rewrite [Yv] | rewrite [Yt (by simp [ZN, ZG, ZF, ZH, Zt, Zh, Zp, Zk, Zm, Ze, Zf, Zl, Zu, Zv, ZI, ↓Zj, Zs, Zi, ZE, Zy, Zx, ZX, ZA, Yp, put, lk, Od.v, Za, Zg, Zo, ax, Yg, Yh, Yd, ay, eqk, DV.isU, DV.cells, ae, ZO, Yb, ZP, Zr, splice, DV.one, ZR, af, ZY, eqs, f]; exact ⟨rfl, rfl⟩)] | rewrite [Yu (by simp [lk, Za, Od.v, f]; exact rfl)] | rewrite [Yn])
 exact rfl) : p := (h f).mpr k
theorem M8 {p q F : Prop} (f : F) (k : q) (h : F → p = q := by
 intro f
 repeat (first | rewrite [ZM] | rewrite [Zq (by simp [ZN, ZG, ZF, ZH, Zt, Zh, Zp, Zk, Zm, Ze, Zf, Zl, Zu, Zv, ZI, ↓Zj, Zs, Zi, ZE, Zy, Zx, ZX, ZA, Yp, put, lk, Od.v, Za, Zg, Zo, ax, Yg, Yh, Yd, ay, eqk, DV.isU, DV.cells, ae, ZO, Yb, ZP, Zr, splice, DV.one, ZR, af, ZY, eqs, aH, f]; exact ⟨rfl, rfl⟩)] | rewrite [Yk (by simp [lk, Za, Od.v, aH, f]; exact rfl)] | rewrite [Zy] | rewrite [Zx] | rewrite [ZZ] | rewrite [Ys] | rewrite [Yc] | rewrite [Yr] | rewrite [Yf] | rewrite [Ye] | rewrite [ZV] | rewrite [ZT] | rewrite [ZU] | rewrite [ZL (by decide)] | rewrite [ZQ] | rewrite [ZJ] | rewrite [ZK] | rewrite [ZC (by decide)] | rewrite [Yv] | rewrite [Yt (by simp [ZN, ZG, ZF, ZH, Zt, Zh, Zp, Zk, Zm, Ze, Zf, Zl, Zu, Zv, ZI, ↓Zj, Zs, Zi, ZE, Zy, Zx, ZX, ZA, Yp, put, lk, Od.v, Za, Zg, Zo, ax, Yg, Yh, Yd, ay, eqk, DV.isU, DV.cells, ae, ZO, Yb, ZP, Zr, splice, DV.one, ZR, af, ZY, eqs, aH, f]; exact ⟨rfl, rfl⟩)] | rewrite [Yu (by simp [lk, Za, Od.v, aH, f]; exact rfl)] | rewrite [Yn])
 exact rfl) : p := (h f).mpr k
theorem Tq {p q F : Prop} (f : F) (k : q) (h : F → p = q := by
 intro f
 repeat (first | rewrite [ZM] | rewrite [Zq (by simp [ZN, ZG, ZF, ZH, Zt, Zh, Zp, Zk, Zm, Ze, Zf, Zl, Zu, Zv, ZI, ↓Zj, Zs, Zi, ZE, Zy, Zx, ZX, ZA, Yp, put, lk, Od.v, Za, Zg, Zo, ax, Yg, Yh, Yd, ay, eqk, DV.isU, DV.cells, ae, ZO, Yb, ZP, Zr, splice, DV.one, ZR, af, ZY, eqs, hq, f]; exact ⟨rfl, rfl⟩)] | rewrite [Yk (by simp [lk, Za, Od.v, hq, f]; exact rfl)] | rewrite [Zy] | rewrite [Zx] | rewrite [ZZ] | rewrite [Ys] | rewrite [Yc] | rewrite [Yr] | rewrite [Yf] | rewrite [Ye] | rewrite [ZV] | rewrite [ZT] | rewrite [ZU] | rewrite [ZL (by decide)] | rewrite [ZQ] | rewrite [ZJ] | rewrite [ZK] | rewrite [ZC (by decide)] | rewrite [Yv] | rewrite [Yt (by simp [ZN, ZG, ZF, ZH, Zt, Zh, Zp, Zk, Zm, Ze, Zf, Zl, Zu, Zv, ZI, ↓Zj, Zs, Zi, ZE, Zy, Zx, ZX, ZA, Yp, put, lk, Od.v, Za, Zg, Zo, ax, Yg, Yh, Yd, ay, eqk, DV.isU, DV.cells, ae, ZO, Yb, ZP, Zr, splice, DV.one, ZR, af, ZY, eqs, hq, f]; exact ⟨rfl, rfl⟩)] | rewrite [Yu (by simp [lk, Za, Od.v, hq, f]; exact rfl)] | rewrite [Yn])
 exact rfl) : p := (h f).mpr k
theorem wZ {p q F : Prop} (f : F) (k : q) (h : F → p = q := by
 intro f
 repeat (first | rewrite [ZM] | rewrite [Zq (by simp [ZN, ZG, ZF, ZH, Zt, Zh, Zp, Zk, Zm, Ze, Zf, Zl, Zu, Zv, ZI, ↓Zj, Zs, Zi, ZE, Zy, Zx, ZX, ZA, Yp, put, lk, Od.v, Za, Zg, Zo, ax, Yg, Yh, Yd, ay, eqk, DV.isU, DV.cells, ae, ZO, Yb, ZP, Zr, splice, DV.one, ZR, af, ZY, eqs, v0, f]; exact ⟨rfl, rfl⟩)] | rewrite [Yk (by simp [lk, Za, Od.v, v0, f]; exact rfl)] | rewrite [Zy] | rewrite [Zx] | rewrite [ZZ] | rewrite [Ys] | rewrite [Yc] | rewrite [Yr] | rewrite [Yf] | rewrite [Ye] | rewrite [ZV] | rewrite [ZT] | rewrite [ZU] | rewrite [ZL (by decide)] | rewrite [ZQ] | rewrite [ZJ] | rewrite [ZK] | rewrite [ZC (by decide)] | rewrite [Yv] | rewrite [Yt (by simp [ZN, ZG, ZF, ZH, Zt, Zh, Zp, Zk, Zm, Ze, Zf, Zl, Zu, Zv, ZI, ↓Zj, Zs, Zi, ZE, Zy, Zx, ZX, ZA, Yp, put, lk, Od.v, Za, Zg, Zo, ax, Yg, Yh, Yd, ay, eqk, DV.isU, DV.cells, ae, ZO, Yb, ZP, Zr, splice, DV.one, ZR, af, ZY, eqs, v0, f]; exact ⟨rfl, rfl⟩)] | rewrite [Yu (by simp [lk, Za, Od.v, v0, f]; exact rfl)] | rewrite [Yn])
 exact rfl) : p := (h f).mpr k
theorem ro {p q F : Prop} (f : F) (k : q) (h : F → p = q := by
 intro f
 repeat (first | rewrite [ZM] | rewrite [Zq (by simp [go_sem, f]; exact ⟨rfl, rfl⟩)] | rewrite [Yk (by simp [lk, Za, Od.v, f]; exact rfl)] | rewrite [Zy] | rewrite [Zx] | rewrite [ZZ] | rewrite [Ys] | rewrite [Yc] | rewrite [Yr] | rewrite [Yf] | rewrite [Ye] | rewrite [ZV] | rewrite [ZT] | rewrite [ZU] | rewrite [ZL (by decide)] | rewrite [ZQ] | rewrite [ZJ] | rewrite [ZK] | rewrite [ZC (by decide)] | rewrite [Yv] | rewrite [Yt (by simp [go_sem, f]; exact ⟨rfl, rfl⟩)] | rewrite [Yu (by simp [lk, Za, Od.v, f]; exact rfl)] | rewrite [Yn])
 exact rfl) : p := (h f).mpr k
theorem Ke {p q F : Prop} (f : F) (k : q) (h : F → p = q := by
 intro f
 repeat (first | rewrite [ZM] | rewrite [Zq (by simp [go_sem, b3, f]; exact ⟨rfl, rfl⟩)] | rewrite [Yk (by simp [lk, Za, Od.v, b3, f]; exact rfl)] | rewrite [Zy] | rewrite [Zx] | rewrite [ZZ] | rewrite [Ys] | rewrite [Yc] | rewrite [Yr] | rewrite [Yf] | rewrite [Ye] | rewrite [ZV] | rewrite [ZT] | rewrite [ZU] | rewrite [ZL (by decide)] | rewrite [ZQ] | rewrite [ZJ] | rewrite [ZK] | rewrite [ZC (by decide)] | rewrite [Yv] | rewrite [Yt (by simp [go_sem, b3, f]; exact ⟨rfl, rfl⟩)] | rewrite [Yu (by simp [lk, Za, Od.v, b3, f]; exact rfl)] | rewrite [Yn])
 exact rfl) : p := (h f).mpr k
end Go.Proofs.YtmbgfbomgbdjeaaGreatDoor
