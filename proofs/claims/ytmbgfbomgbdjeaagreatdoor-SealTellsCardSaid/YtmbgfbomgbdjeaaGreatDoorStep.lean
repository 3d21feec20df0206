/- Ideal runs. -/
import Derived.Test.YtmbgfbomgbdjeaaGreatDoorEngL
import Derived.Test.YtmbgfbomgbdjeaaGreatDoorChecked
namespace Go.Proofs.YtmbgfbomgbdjeaaGreatDoor
set_option linter.unusedVariables false
section
variable {X : Nat → Option XK} {e e' : Env} {h h' : Zb}
theorem Yt {ops : List ah} {keep : List Nat} (he : ZK (E X) ops e h = some (e', h')) : C X (.reg ops keep) e h = some (.norm, Za keep e', h') := by rw [Rq, he]
theorem Jr {a b : XC} (ha : C X a e h = some (.norm, e', h')) : C X (.seq a b) e h = C X b e' h' := by rw [iX, ha]
theorem Zw {ops : List ah} {keep : List Nat} {b : XC} (he : ZK (E X) ops e h = some (e', h')) : C X (.seq (.reg ops keep) b) e h = C X b (Za keep e') h' := Jr (Yt he)
theorem ZN (a b c : XC) : C X (.seq (.seq a b) c) e h = C X (.seq a (.seq b c)) e h := by
 rw [iX, iX, iX]
 cases C X a e h with
 | none => rfl
 | some p =>
  obtain ⟨x, e1, h1⟩ := p
  cases x with
  | norm => simp only [iX]
  | exit id => rfl
  | ret => rfl
end
end Go.Proofs.YtmbgfbomgbdjeaaGreatDoor
namespace Go.Proofs.YtmbgfbomgbdjeaaGreatDoor
open Classical
set_option linter.unusedVariables false
section
variable {X : Nat → Option XK} {e e' : Env} {h h' : Zb}
theorem GK {c : Od} {a b r : XC} (hc : c.v e = .bool true) : C X (.seq (.cond c a b) r) e h = C X (.seq a r) e h := by
 rw [iX, AV, hc, iX]
theorem GL {c : Od} {a b r : XC} (hc : c.v e = .bool false) : C X (.seq (.cond c a b) r) e h = C X (.seq b r) e h := by
 rw [iX, AV, hc, iX]
def gK {α : Type} (t : Bool) (a b : α) : α := match t with | true => a | false => b
theorem Zz {α : Type} (a b : α) : gK true a b = a := rfl
theorem Zy {α : Type} (a b : α) : gK false a b = b := rfl
theorem Yj {c : Od} {a b r : XC} {t : Bool} (hc : c.v e = .bool t) : C X (.seq (.cond c a b) r) e h = gK t (C X (.seq a r) e h) (C X (.seq b r) e h) := by
 cases t
 ·exact GL hc
 ·exact GK hc
theorem Yu {c : Od} {a b : XC} {t : Bool} (hc : c.v e = .bool t) : C X (.cond c a b) e h = gK t (C X a e h) (C X b e h) := by
 rw [AV, hc]; cases t <;> rfl
theorem Yb {r : XC} : C X (.seq .skip r) e h = C X r e h := by rw [iX, Yg]
theorem Ys {r : XC} : C X (.seq .ret r) e h = some (.ret, e, h) := by rw [iX, Yr]
theorem Yf {r : XC} {id : Nat} : C X (.seq (.exit id) r) e h = some (.exit id, e, h) := by rw [iX, Yh]
noncomputable def blk (X : Nat → Option XK) (id : Nat) (r : XC) : Option (Ex × Env × Zb) → Option (Ex × Env × Zb)
 | some (.norm, e, h) => C X r e h
 | some (.exit id', e, h) => if id' = id then C X r e h else some (.exit id', e, h)
 | some (.ret, e, h) => some (.ret, e, h)
 | none => none
theorem Yv {id : Nat} {c r : XC} : C X (.seq (.block id c) r) e h = blk X id r (C X c e h) := by
 rw [iX, Cc]
 cases C X c e h with
 | none => rfl
 | some p =>
  obtain ⟨x, e1, h1⟩ := p
  cases x with
  | norm => rfl
  | exit id' =>
   by_cases hi : id' = id
   ·simp [blk, hi]
   ·simp [blk, hi]
  | ret => rfl
theorem ZT {id : Nat} {r : XC} : blk X id r (some (.norm, e, h)) = C X r e h := rfl
theorem ZY {id : Nat} {r : XC} : blk X id r (some (.ret, e, h)) = some (.ret, e, h) := rfl
theorem ZU {id : Nat} {r : XC} : blk X id r (some (.exit id, e, h)) = C X r e h := by simp [blk]
theorem ZM {id id' : Nat} {r : XC} (hi : id' ≠ id) : blk X id r (some (.exit id', e, h)) = some (.exit id', e, h) := by simp [blk, hi]
def uA (id : Nat) : Option (Ex × Env × Zb) → Option (Ex × Env × Zb)
 | some (.exit id', e, h) => if id' = id then some (.norm, e, h) else some (.exit id', e, h)
 | r => r
theorem Yq {id : Nat} {c : XC} : C X (.block id c) e h = uA id (C X c e h) := by
 rw [Cc]
 cases C X c e h with
 | none => rfl
 | some p =>
  obtain ⟨x, e1, h1⟩ := p
  cases x <;> rfl
theorem ZJ {id : Nat} : uA id (some (.norm, e, h)) = some (.norm, e, h) := rfl
theorem ZR {id : Nat} : uA id (some (.ret, e, h)) = some (.ret, e, h) := rfl
theorem ZL {id : Nat} : uA id (some (.exit id, e, h)) = some (.norm, e, h) := by simp [uA]
theorem ZI {id id' : Nat} (hi : id' ≠ id) : uA id (some (.exit id', e, h)) = some (.exit id', e, h) := by simp [uA, hi]
noncomputable def lp (X : Nat → Option XK) (c : XC) : Option (Ex × Env × Zb) → Option (Ex × Env × Zb)
 | some (.norm, e, h) => C X (.loop c) e h
 | r => r
theorem Zc {c : XC} : C X (.loop c) e h = lp X c (C X c e h) := by
 rw [Qc]
 cases C X c e h with
 | none => rfl
 | some p =>
  obtain ⟨x, e1, h1⟩ := p
  cases x <;> rfl
theorem ZB {c : XC} : lp X c (some (.norm, e, h)) = C X (.loop c) e h := rfl
theorem Yw {c : XC} : lp X c (some (.ret, e, h)) = some (.ret, e, h) := rfl
theorem Zx {c : XC} {id : Nat} : lp X c (some (.exit id, e, h)) = some (.exit id, e, h) := rfl
noncomputable def ends (r : List XRes) (h : Zb) : Option (Ex × Env × Zb) → Option (DV × Zb)
 | some (.norm, e, h') => (ZV r e h').map (fin h h')
 | some (.ret, e, h') => (ZV r e h').map (fin h h')
 | _ => none
theorem ZS {r : List XRes} : ends r h (some (.norm, e, h')) = (ZV r e h').map (fin h h') := rfl
theorem Zh {r : List XRes} : ends r h (some (.ret, e, h')) = (ZV r e h').map (fin h h') := rfl
theorem Zv {f : Nat} (n : Nat) (b : XC) (r : List XRes) {args : List DV} (hX : X f = some (.fn ⟨n, b, r⟩)) (hl : args.length = n) : E X f args h = ends r h (C X b (Zg args 0) h) := by
 rw [Uj X h hX args, if_pos hl]
 cases C X b (Zg args 0) h with
 | none => rfl
 | some p =>
  obtain ⟨x, e1, h1⟩ := p
  cases x <;> rfl
end
theorem ZF {call : dh} {d : Option Nat} {op : XOp} {e : Env} {h : Zb} : dS call ⟨d, op, none, false⟩ e h = ZW call op e h := by
 simp only [dS, wanted]
 cases ZW call op e h <;> simp
noncomputable def xH (b : Bool) (h : Zb) (p : DV × Zb) : Option (DV × Zb) := if b = true ∧ p.2.take h.length = h then some p else none
theorem Zi (h : Zb) (d : DV) : xH true h (d, h) = some (d, h) := by simp [xH]
theorem Zp (h l : Zb) (d : DV) : xH true h (d, h ++ l) = some (d, h ++ l) := by simp [xH]
@[simp] theorem frd_load (ag : Bool) (sz : Nat) (x : Od) (e : Env) : (XOp.load ag sz x).frd e = (x.v e).flat2 := rfl
@[simp] theorem frd_iaddr (sz : Nat) (x i : Od) (e : Env) : (XOp.iaddr sz x i).frd e = (x.v e).flat2 := rfl
@[simp] theorem frd_slc (sz : Nat) (x : Od) (a b c : Option Od) (e : Env) : (XOp.slc sz x a b c).frd e = (x.v e).flat2 := rfl
@[simp] theorem frd_len (sz : Nat) (x : Od) (e : Env) : (XOp.len sz x).frd e = (x.v e).flat2 := rfl
@[simp] theorem frd_tostr (x : Od) (e : Env) : (XOp.tostr x).frd e = (x.v e).flat2 := rfl
@[simp] theorem frd_mlen (x : Od) (e : Env) : (XOp.mlen x).frd e = (x.v e).flat2 := rfl
@[simp] theorem frd_mget (ag : Bool) (ks : List Nat) (z : DV) (ok : Bool) (x k : Od) (e : Env) : (XOp.mget ag ks z ok x k).frd e = (x.v e).flat2 := rfl
@[simp] theorem frd_call (f : Od) (az : List Od) (e : Env) : (XOp.call f az).frd e = true := rfl
@[simp] theorem frd_alloc (t : Nat) (z : List DV) (e : Env) : (XOp.alloc t z).frd e = true := rfl
@[simp] theorem frd_box (t : Nat) (x : Od) (e : Env) : (XOp.box t x).frd e = true := rfl
@[simp] theorem frd_store (sz : Nat) (x v : Od) (e : Env) : (XOp.store sz x v).frd e = true := rfl
@[simp] theorem frd_app (a b c : Nat) (x y : Od) (e : Env) : (XOp.app a b c x y).frd e = true := rfl
@[simp] theorem frd_make (a b c : Nat) (z : DV) (x y : Od) (e : Env) : (XOp.make a b c z x y).frd e = true := rfl
@[simp] theorem frd_mkmap (x : Option Od) (e : Env) : (XOp.mkmap x).frd e = true := rfl
@[simp] theorem frd_mset (ag : Bool) (ks : List Nat) (x y z : Od) (e : Env) : (XOp.mset ag ks x y z).frd e = true := rfl
@[simp] theorem frd_mkslice (ro : Bool) (a b : Nat) (l : List Od) (e : Env) : (XOp.mkslice ro a b l).frd e = true := rfl
@[simp] theorem frd_mklist (a : Nat) (l : List Od) (e : Env) : (XOp.mklist a l).frd e = true := rfl
@[simp] theorem frd_appz (a b c : Nat) (z : DV) (x y : Od) (e : Env) : (XOp.appz a b c z x y).frd e = true := rfl
@[simp] theorem flat2_list (sz : Nat) (xs : List DV) (c : Bool) : (DV.list sz xs c).flat2 = true := rfl
@[simp] theorem flat2_elem (sz : Nat) (xs : List DV) (c : Bool) (a b d : Nat) : (DV.elem (.list sz xs c) a b d).flat2 = true := rfl
@[simp] theorem flat2_nils : DV.flat2 .nils = true := rfl
@[simp] theorem flat2_nilm : DV.flat2 .nilm = true := rfl
theorem ZE {call : dh} {d : Option Nat} {op : XOp} {e : Env} {h : Zb} : dS call ⟨d, op, none, true⟩ e h = (ZW call op e h).bind (xH (op.frd e) h) := by
 simp only [dS, wanted]
 cases ZW call op e h with
 | none => rfl
 | some p => by_cases hp : p.2.take h.length = h <;> cases hb : op.frd e <;> simp [xH, hp]
noncomputable def gd {α : Type} (g : DV) (b : Bool) (x y : Option α) : Option α := match g with
 | .bool t => gK (t == b) x y
 | .tup _ => y
 | _ => none
theorem Zr {α : Type} (t : Bool) (x y : Option α) : gd (.bool t) true x y = gK t x y := by cases t <;> rfl
theorem Zj {α : Type} (t : Bool) (x y : Option α) : gd (.bool t) false x y = gK t y x := by cases t <;> rfl
theorem ZD {α : Type} (l : List DV) (b : Bool) (x y : Option α) : gd (.tup l) b x y = y := rfl
theorem ZG {call : dh} {d : Option Nat} {op : XOp} {s : Nat} {b : Bool} {e : Env} {h : Zb} : dS call ⟨d, op, some (s, b), false⟩ e h = gd (lk e s) b (ZW call op e h) (some (.tup [], h)) := by
 simp only [dS, wanted, gd]
 cases lk e s with
 | bool t => cases ht : (t == b) <;> simp only [ht, gK] <;> cases ZW call op e h <;> simp
 | tup => rfl
 | _ => rfl
theorem Zs {call : dh} {d : Option Nat} {op : XOp} {s : Nat} {b : Bool} {e : Env} {h : Zb} : dS call ⟨d, op, some (s, b), true⟩ e h = gd (lk e s) b ((ZW call op e h).bind (xH (op.frd e) h)) (some (.tup [], h)) := by
 simp only [dS, wanted, gd]
 cases lk e s with
 | bool t =>
  cases ht : (t == b)
  ·simp only [ht, gK]
  ·simp only [ht, gK]
   cases ZW call op e h with
   | none => rfl
   | some p => by_cases hp : p.2.take h.length = h <;> cases hb : op.frd e <;> simp [xH, hp]
 | tup => rfl
 | _ => rfl
theorem Zl {α : Type} (b : Bool) (x y : α) : gK b (some x) (some y) = some (gK b x y) := by cases b <;> rfl
theorem Zn (b : Bool) (x y : DV) (h : Zb) : gK b (x, h) (y, h) = (gK b x y, h) := by cases b <;> rfl
theorem Ze {α : Type} (q : Bool) (x y z : α) : gK q (gK q x y) z = gK q x z := by cases q <;> rfl
theorem Zf {α : Type} (q : Bool) (x y z : α) : gK q z (gK q y x) = gK q z x := by cases q <;> rfl
theorem Zm {α : Type} (q : Bool) (x : α) : gK q x x = x := by cases q <;> rfl
theorem Zt (q a b : Bool) : gK q (DV.bool a) (DV.bool b) = DV.bool (gK q a b) := by cases q <;> rfl
theorem Zu (q a : Bool) : gK q a false = (q && a) := by cases q <;> rfl
theorem ZH (q a : Bool) : gK q true a = (q || a) := by cases q <;> rfl
theorem Zk (c a b : Od) (e : Env) (h : Zb) : Yo (.pick c a b) e h = match c.v e with | .bool t => some (gK t (a.v e) (b.v e), h) | _ => none := by
 rw [Yo]
 cases c.v e with
 | bool t => cases t <;> rfl
 | _ => rfl
theorem eG (n k : Nat) : (n + k < n) = False := by simp
theorem Zo (h : Zb) (ag : Bool) (sz o p : Nat) : aG h ag sz (.ref o p) = match h[o]? with
 | some (.box _ cs) => aj ag sz cs p
 | _ => none := rfl
theorem Zq (h : Zb) (sz o p : Nat) (v : DV) : stx h sz (.ref o p) v = if v.cells.length = sz ∧ v.cells.all DV.one = true then (match h[o]? with
 | some (.box t cs) => if p + sz ≤ cs.length then some (h.set o (.box t (splice cs p v.cells))) else none
 | _ => none) else none := rfl
theorem ae (h l : Zb) (i : Nat) : (h ++ l)[h.length + i]? = l[i]? := by
 rw [List.getElem?_append_right (by omega)]; congr 1; omega
theorem ZP (h l : Zb) : (h ++ l)[h.length]? = l[0]? := by
 rw [List.getElem?_append_right (by omega)]; congr 1; omega
theorem Ya (h l : Zb) (i : Nat) (x : HO) : (h ++ l).set (h.length + i) x = h ++ l.set i x := by
 have := List.set_append (s := h) (t := l) (i := h.length + i) (x := x)
 simp only [this, if_neg (show ¬ h.length + i < h.length by omega)]; congr 2; omega
theorem ZO (h l : Zb) (x : HO) : (h ++ l).set h.length x = h ++ l.set 0 x := by
 have := List.set_append (s := h) (t := l) (i := h.length) (x := x)
 simp only [this, if_neg (show ¬ h.length < h.length by omega)]; congr 2; omega
def DV.plain : DV → Bool
 | .bool _ | .int _ _ | .str _ | .nilp | .nils | .nilm | .nilf | .nili | .list _ _ _ => true
 | _ => false
theorem gG (n : Nat) (h : Zb) (top : Bool) {d : DV} (hd : d.plain = true) : aH n h top d = some (d, h) := by
 cases d <;> simp_all [DV.plain, aH, aJ]
theorem C8 (h l : Zb) {d : DV} (hd : d.plain = true) : fin h (h ++ l) [d] = (d, h) := by
 simp [fin, gG _ _ _ hd]
theorem sH (h l : Zb) {d d' : DV} (hd : d.plain = true) (hd' : d'.plain = true) : fin h (h ++ l) [d, d'] = (.tup [d, d'], h) := by
 simp [fin, bJ, gG _ _ _ hd, gG _ _ _ hd']
theorem pg (h : Zb) {d d' : DV} (hd : d.plain = true) (hd' : d'.plain = true) : fin h h [d, d'] = (.tup [d, d'], h) := by
 simp [fin, bJ, gG _ _ _ hd, gG _ _ _ hd']
theorem bh (b : Bool) : DV.one (.bool b) = true := rfl
theorem bV (k : IntKind) (n : Int) : DV.one (.int k n) = true := rfl
theorem bQ (s : ByteArray) : DV.one (.str s) = true := rfl
theorem aV : DV.one (.nilp) = true := rfl
theorem bS (o p : Nat) : DV.one (.ref o p) = true := rfl
theorem bg (d : DV) (s i p : Nat) : DV.one (.elem d s i p) = true := rfl
theorem aU : DV.one (.nils) = true := rfl
theorem aZ (s : Nat) (xs : List DV) (c : Bool) : DV.one (.list s xs c) = true := rfl
theorem bR (o g l n : Nat) (c : Bool) : DV.one (.row o g l n c) = true := rfl
theorem aW : DV.one (.nilm) = true := rfl
theorem bU (o : Nat) : DV.one (.map o) = true := rfl
theorem aY : DV.one (.nilf) = true := rfl
theorem bf (f : Nat) (a b : List DV) : DV.one (.func f a b) = true := rfl
theorem aX : DV.one (.nili) = true := rfl
theorem bW (t : Nat) (v : DV) : DV.one (.ifc t v) = true := rfl
theorem bY (cs : List DV) : DV.one (.agg cs) = false := rfl
theorem bP (vs : List DV) : DV.one (.tup vs) = false := rfl
theorem YA : DV.one (.undef) = false := rfl
theorem YB (e s : Nat) (xs : List DV) : DV.one (.fresh e s xs) = false := rfl
end Go.Proofs.YtmbgfbomgbdjeaaGreatDoor
namespace Go.Proofs.YtmbgfbomgbdjeaaGreatDoor
theorem wrap64 (n : Int) (h1 : -9223372036854775808 ≤ n) (h2 : n ≤ 9223372036854775807) : IntKind.i64.wrap n = n := by
 have e : IntKind.i64.wrap n = if n % 18446744073709551616 ≥ 9223372036854775808 then n % 18446744073709551616 - 18446744073709551616 else n % 18446744073709551616 := by
  simp [IntKind.wrap, IntKind.bits, IntKind.signed]
 rw [e]
 split <;> omega
theorem wr {a b : Int} (h1 : -9223372036854775808 ≤ a := by omega) (h2 : a ≤ 9223372036854775807 := by omega) (h3 : a = b := by omega) : IntKind.i64.wrap a = b := by
 rw [wrap64 a h1 h2]; exact h3
set_option linter.unusedVariables false
set_option linter.unusedSimpArgs false
set_option maxRecDepth 100000
theorem mR (n : Nat) : IntKind.u64.wrap (n : Int) = ((n % 18446744073709551616 : Nat) : Int) := by
 simp [IntKind.wrap, IntKind.bits, IntKind.signed]
theorem aD {p0 p1 : Prop} (a0 : p0) (a1 : p1) : p0 ∧ p1 := ⟨a0, a1⟩
theorem cg {p0 p1 p2 : Prop} (a0 : p0) (a1 : p1) (a2 : p2) : p0 ∧ p1 ∧ p2 := ⟨a0, a1, a2⟩
theorem df {p0 p1 p2 p3 : Prop} (a0 : p0) (a1 : p1) (a2 : p2) (a3 : p3) : p0 ∧ p1 ∧ p2 ∧ p3 := ⟨a0, a1, a2, a3⟩
theorem eP {p0 p1 p2 p3 p4 : Prop} (a0 : p0) (a1 : p1) (a2 : p2) (a3 : p3) (a4 : p4) : p0 ∧ p1 ∧ p2 ∧ p3 ∧ p4 := ⟨a0, a1, a2, a3, a4⟩
theorem eO {p0 p1 p2 p3 p4 p5 : Prop} (a0 : p0) (a1 : p1) (a2 : p2) (a3 : p3) (a4 : p4) (a5 : p5) : p0 ∧ p1 ∧ p2 ∧ p3 ∧ p4 ∧ p5 := ⟨a0, a1, a2, a3, a4, a5⟩
theorem fR {p0 p1 p2 p3 p4 p5 p6 : Prop} (a0 : p0) (a1 : p1) (a2 : p2) (a3 : p3) (a4 : p4) (a5 : p5) (a6 : p6) : p0 ∧ p1 ∧ p2 ∧ p3 ∧ p4 ∧ p5 ∧ p6 := ⟨a0, a1, a2, a3, a4, a5, a6⟩
theorem ga {p0 p1 p2 p3 p4 p5 p6 p7 : Prop} (a0 : p0) (a1 : p1) (a2 : p2) (a3 : p3) (a4 : p4) (a5 : p5) (a6 : p6) (a7 : p7) : p0 ∧ p1 ∧ p2 ∧ p3 ∧ p4 ∧ p5 ∧ p6 ∧ p7 := ⟨a0, a1, a2, a3, a4, a5, a6, a7⟩
theorem gJ {p0 p1 p2 p3 p4 p5 p6 p7 p8 : Prop} (a0 : p0) (a1 : p1) (a2 : p2) (a3 : p3) (a4 : p4) (a5 : p5) (a6 : p6) (a7 : p7) (a8 : p8) : p0 ∧ p1 ∧ p2 ∧ p3 ∧ p4 ∧ p5 ∧ p6 ∧ p7 ∧ p8 := ⟨a0, a1, a2, a3, a4, a5, a6, a7, a8⟩
theorem ei {p0 p1 p2 p3 p4 p5 p6 p7 p8 p9 : Prop} (a0 : p0) (a1 : p1) (a2 : p2) (a3 : p3) (a4 : p4) (a5 : p5) (a6 : p6) (a7 : p7) (a8 : p8) (a9 : p9) : p0 ∧ p1 ∧ p2 ∧ p3 ∧ p4 ∧ p5 ∧ p6 ∧ p7 ∧ p8 ∧ p9 := ⟨a0, a1, a2, a3, a4, a5, a6, a7, a8, a9⟩
theorem cP {p0 p1 p2 p3 p4 p5 p6 p7 p8 p9 bz : Prop} (a0 : p0) (a1 : p1) (a2 : p2) (a3 : p3) (a4 : p4) (a5 : p5) (a6 : p6) (a7 : p7) (a8 : p8) (a9 : p9) (dP : bz) : p0 ∧ p1 ∧ p2 ∧ p3 ∧ p4 ∧ p5 ∧ p6 ∧ p7 ∧ p8 ∧ p9 ∧ bz := ⟨a0, a1, a2, a3, a4, a5, a6, a7, a8, a9, dP⟩
theorem dR {p0 p1 p2 p3 p4 p5 p6 p7 p8 p9 bz bH : Prop} (a0 : p0) (a1 : p1) (a2 : p2) (a3 : p3) (a4 : p4) (a5 : p5) (a6 : p6) (a7 : p7) (a8 : p8) (a9 : p9) (dP : bz) (eo : bH) : p0 ∧ p1 ∧ p2 ∧ p3 ∧ p4 ∧ p5 ∧ p6 ∧ p7 ∧ p8 ∧ p9 ∧ bz ∧ bH := ⟨a0, a1, a2, a3, a4, a5, a6, a7, a8, a9, dP, eo⟩
theorem ja {p0 p1 p2 p3 p4 p5 p6 p7 p8 p9 bz bH bZ : Prop} (a0 : p0) (a1 : p1) (a2 : p2) (a3 : p3) (a4 : p4) (a5 : p5) (a6 : p6) (a7 : p7) (a8 : p8) (a9 : p9) (dP : bz) (eo : bH) (a12 : bZ) : p0 ∧ p1 ∧ p2 ∧ p3 ∧ p4 ∧ p5 ∧ p6 ∧ p7 ∧ p8 ∧ p9 ∧ bz ∧ bH ∧ bZ := ⟨a0, a1, a2, a3, a4, a5, a6, a7, a8, a9, dP, eo, a12⟩
theorem mF {p0 p1 p2 p3 p4 p5 p6 p7 p8 p9 bz bH bZ cz : Prop} (a0 : p0) (a1 : p1) (a2 : p2) (a3 : p3) (a4 : p4) (a5 : p5) (a6 : p6) (a7 : p7) (a8 : p8) (a9 : p9) (dP : bz) (eo : bH) (a12 : bZ) (eR : cz) : p0 ∧ p1 ∧ p2 ∧ p3 ∧ p4 ∧ p5 ∧ p6 ∧ p7 ∧ p8 ∧ p9 ∧ bz ∧ bH ∧ bZ ∧ cz := ⟨a0, a1, a2, a3, a4, a5, a6, a7, a8, a9, dP, eo, a12, eR⟩
theorem mE {p0 p1 p2 p3 p4 p5 p6 p7 p8 p9 bz bH bZ cz cQ : Prop} (a0 : p0) (a1 : p1) (a2 : p2) (a3 : p3) (a4 : p4) (a5 : p5) (a6 : p6) (a7 : p7) (a8 : p8) (a9 : p9) (dP : bz) (eo : bH) (a12 : bZ) (eR : cz) (fE : cQ) : p0 ∧ p1 ∧ p2 ∧ p3 ∧ p4 ∧ p5 ∧ p6 ∧ p7 ∧ p8 ∧ p9 ∧ bz ∧ bH ∧ bZ ∧ cz ∧ cQ := ⟨a0, a1, a2, a3, a4, a5, a6, a7, a8, a9, dP, eo, a12, eR, fE⟩
theorem Ai {p0 p1 p2 p3 p4 p5 p6 p7 p8 p9 bz bH bZ cz cQ dw : Prop} (a0 : p0) (a1 : p1) (a2 : p2) (a3 : p3) (a4 : p4) (a5 : p5) (a6 : p6) (a7 : p7) (a8 : p8) (a9 : p9) (dP : bz) (eo : bH) (a12 : bZ) (eR : cz) (fE : cQ) (gu : dw) : p0 ∧ p1 ∧ p2 ∧ p3 ∧ p4 ∧ p5 ∧ p6 ∧ p7 ∧ p8 ∧ p9 ∧ bz ∧ bH ∧ bZ ∧ cz ∧ cQ ∧ dw := ⟨a0, a1, a2, a3, a4, a5, a6, a7, a8, a9, dP, eo, a12, eR, fE, gu⟩
theorem qJ {p0 p1 p2 p3 p4 p5 p6 p7 p8 p9 bz bH bZ cz cQ dw p16 : Prop} (a0 : p0) (a1 : p1) (a2 : p2) (a3 : p3) (a4 : p4) (a5 : p5) (a6 : p6) (a7 : p7) (a8 : p8) (a9 : p9) (dP : bz) (eo : bH) (a12 : bZ) (eR : cz) (fE : cQ) (gu : dw) (a16 : p16) : p0 ∧ p1 ∧ p2 ∧ p3 ∧ p4 ∧ p5 ∧ p6 ∧ p7 ∧ p8 ∧ p9 ∧ bz ∧ bH ∧ bZ ∧ cz ∧ cQ ∧ dw ∧ p16 := ⟨a0, a1, a2, a3, a4, a5, a6, a7, a8, a9, dP, eo, a12, eR, fE, gu, a16⟩
theorem Ah {p0 p1 p2 p3 p4 p5 p6 p7 p8 p9 bz bH bZ cz cQ dw p16 d9 : Prop} (a0 : p0) (a1 : p1) (a2 : p2) (a3 : p3) (a4 : p4) (a5 : p5) (a6 : p6) (a7 : p7) (a8 : p8) (a9 : p9) (dP : bz) (eo : bH) (a12 : bZ) (eR : cz) (fE : cQ) (gu : dw) (a16 : p16) (a17 : d9) : p0 ∧ p1 ∧ p2 ∧ p3 ∧ p4 ∧ p5 ∧ p6 ∧ p7 ∧ p8 ∧ p9 ∧ bz ∧ bH ∧ bZ ∧ cz ∧ cQ ∧ dw ∧ p16 ∧ d9 := ⟨a0, a1, a2, a3, a4, a5, a6, a7, a8, a9, dP, eo, a12, eR, fE, gu, a16, a17⟩
theorem qI {p0 p1 p2 p3 p4 p5 p6 p7 p8 p9 bz bH bZ cz cQ dw p16 d9 eF : Prop} (a0 : p0) (a1 : p1) (a2 : p2) (a3 : p3) (a4 : p4) (a5 : p5) (a6 : p6) (a7 : p7) (a8 : p8) (a9 : p9) (dP : bz) (eo : bH) (a12 : bZ) (eR : cz) (fE : cQ) (gu : dw) (a16 : p16) (a17 : d9) (jC : eF) : p0 ∧ p1 ∧ p2 ∧ p3 ∧ p4 ∧ p5 ∧ p6 ∧ p7 ∧ p8 ∧ p9 ∧ bz ∧ bH ∧ bZ ∧ cz ∧ cQ ∧ dw ∧ p16 ∧ d9 ∧ eF := ⟨a0, a1, a2, a3, a4, a5, a6, a7, a8, a9, dP, eo, a12, eR, fE, gu, a16, a17, jC⟩
theorem sI {p0 p1 p2 p3 p4 p5 p6 p7 p8 p9 bz bH bZ cz cQ dw p16 d9 eF fw : Prop} (a0 : p0) (a1 : p1) (a2 : p2) (a3 : p3) (a4 : p4) (a5 : p5) (a6 : p6) (a7 : p7) (a8 : p8) (a9 : p9) (dP : bz) (eo : bH) (a12 : bZ) (eR : cz) (fE : cQ) (gu : dw) (a16 : p16) (a17 : d9) (jC : eF) (kJ : fw) : p0 ∧ p1 ∧ p2 ∧ p3 ∧ p4 ∧ p5 ∧ p6 ∧ p7 ∧ p8 ∧ p9 ∧ bz ∧ bH ∧ bZ ∧ cz ∧ cQ ∧ dw ∧ p16 ∧ d9 ∧ eF ∧ fw := ⟨a0, a1, a2, a3, a4, a5, a6, a7, a8, a9, dP, eo, a12, eR, fE, gu, a16, a17, jC, kJ⟩
theorem Af {p0 p1 p2 p3 p4 p5 p6 p7 p8 p9 bz bH bZ cz cQ dw p16 d9 eF fw gA : Prop} (a0 : p0) (a1 : p1) (a2 : p2) (a3 : p3) (a4 : p4) (a5 : p5) (a6 : p6) (a7 : p7) (a8 : p8) (a9 : p9) (dP : bz) (eo : bH) (a12 : bZ) (eR : cz) (fE : cQ) (gu : dw) (a16 : p16) (a17 : d9) (jC : eF) (kJ : fw) (a20 : gA) : p0 ∧ p1 ∧ p2 ∧ p3 ∧ p4 ∧ p5 ∧ p6 ∧ p7 ∧ p8 ∧ p9 ∧ bz ∧ bH ∧ bZ ∧ cz ∧ cQ ∧ dw ∧ p16 ∧ d9 ∧ eF ∧ fw ∧ gA := ⟨a0, a1, a2, a3, a4, a5, a6, a7, a8, a9, dP, eo, a12, eR, fE, gu, a16, a17, jC, kJ, a20⟩
theorem Ik {p0 p1 p2 p3 p4 p5 p6 p7 p8 p9 bz bH bZ cz cQ dw p16 d9 eF fw gA iH : Prop} (a0 : p0) (a1 : p1) (a2 : p2) (a3 : p3) (a4 : p4) (a5 : p5) (a6 : p6) (a7 : p7) (a8 : p8) (a9 : p9) (dP : bz) (eo : bH) (a12 : bZ) (eR : cz) (fE : cQ) (gu : dw) (a16 : p16) (a17 : d9) (jC : eF) (kJ : fw) (a20 : gA) (a21 : iH) : p0 ∧ p1 ∧ p2 ∧ p3 ∧ p4 ∧ p5 ∧ p6 ∧ p7 ∧ p8 ∧ p9 ∧ bz ∧ bH ∧ bZ ∧ cz ∧ cQ ∧ dw ∧ p16 ∧ d9 ∧ eF ∧ fw ∧ gA ∧ iH := ⟨a0, a1, a2, a3, a4, a5, a6, a7, a8, a9, dP, eo, a12, eR, fE, gu, a16, a17, jC, kJ, a20, a21⟩
theorem O0 {p0 p1 p2 p3 p4 p5 p6 p7 p8 p9 bz bH bZ cz cQ dw p16 d9 eF fw gA iH jU : Prop} (a0 : p0) (a1 : p1) (a2 : p2) (a3 : p3) (a4 : p4) (a5 : p5) (a6 : p6) (a7 : p7) (a8 : p8) (a9 : p9) (dP : bz) (eo : bH) (a12 : bZ) (eR : cz) (fE : cQ) (gu : dw) (a16 : p16) (a17 : d9) (jC : eF) (kJ : fw) (a20 : gA) (a21 : iH) (a22 : jU) : p0 ∧ p1 ∧ p2 ∧ p3 ∧ p4 ∧ p5 ∧ p6 ∧ p7 ∧ p8 ∧ p9 ∧ bz ∧ bH ∧ bZ ∧ cz ∧ cQ ∧ dw ∧ p16 ∧ d9 ∧ eF ∧ fw ∧ gA ∧ iH ∧ jU := ⟨a0, a1, a2, a3, a4, a5, a6, a7, a8, a9, dP, eo, a12, eR, fE, gu, a16, a17, jC, kJ, a20, a21, a22⟩
theorem T4 {p0 p1 p2 p3 p4 p5 p6 p7 p8 p9 bz bH bZ cz cQ dw p16 d9 eF fw gA iH jU lD lC : Prop} (a0 : p0) (a1 : p1) (a2 : p2) (a3 : p3) (a4 : p4) (a5 : p5) (a6 : p6) (a7 : p7) (a8 : p8) (a9 : p9) (dP : bz) (eo : bH) (a12 : bZ) (eR : cz) (fE : cQ) (gu : dw) (a16 : p16) (a17 : d9) (jC : eF) (kJ : fw) (a20 : gA) (a21 : iH) (a22 : jU) (a23 : lD) (a24 : lC) : p0 ∧ p1 ∧ p2 ∧ p3 ∧ p4 ∧ p5 ∧ p6 ∧ p7 ∧ p8 ∧ p9 ∧ bz ∧ bH ∧ bZ ∧ cz ∧ cQ ∧ dw ∧ p16 ∧ d9 ∧ eF ∧ fw ∧ gA ∧ iH ∧ jU ∧ lD ∧ lC := ⟨a0, a1, a2, a3, a4, a5, a6, a7, a8, a9, dP, eo, a12, eR, fE, gu, a16, a17, jC, kJ, a20, a21, a22, a23, a24⟩
theorem wZ {p0 p1 p2 p3 p4 p5 p6 p7 p8 p9 bz bH bZ cz cQ dw p16 d9 eF fw gA iH jU lD lC p25 p26 p27 : Prop} (a0 : p0) (a1 : p1) (a2 : p2) (a3 : p3) (a4 : p4) (a5 : p5) (a6 : p6) (a7 : p7) (a8 : p8) (a9 : p9) (dP : bz) (eo : bH) (a12 : bZ) (eR : cz) (fE : cQ) (gu : dw) (a16 : p16) (a17 : d9) (jC : eF) (kJ : fw) (a20 : gA) (a21 : iH) (a22 : jU) (a23 : lD) (a24 : lC) (a25 : p25) (a26 : p26) (a27 : p27) : p0 ∧ p1 ∧ p2 ∧ p3 ∧ p4 ∧ p5 ∧ p6 ∧ p7 ∧ p8 ∧ p9 ∧ bz ∧ bH ∧ bZ ∧ cz ∧ cQ ∧ dw ∧ p16 ∧ d9 ∧ eF ∧ fw ∧ gA ∧ iH ∧ jU ∧ lD ∧ lC ∧ p25 ∧ p26 ∧ p27 := ⟨a0, a1, a2, a3, a4, a5, a6, a7, a8, a9, dP, eo, a12, eR, fE, gu, a16, a17, jC, kJ, a20, a21, a22, a23, a24, a25, a26, a27⟩
theorem Ij {p0 p1 p2 p3 p4 p5 p6 p7 p8 p9 bz bH bZ cz cQ dw p16 d9 eF fw gA iH jU lD lC p25 p26 p27 p28 : Prop} (a0 : p0) (a1 : p1) (a2 : p2) (a3 : p3) (a4 : p4) (a5 : p5) (a6 : p6) (a7 : p7) (a8 : p8) (a9 : p9) (dP : bz) (eo : bH) (a12 : bZ) (eR : cz) (fE : cQ) (gu : dw) (a16 : p16) (a17 : d9) (jC : eF) (kJ : fw) (a20 : gA) (a21 : iH) (a22 : jU) (a23 : lD) (a24 : lC) (a25 : p25) (a26 : p26) (a27 : p27) (a28 : p28) : p0 ∧ p1 ∧ p2 ∧ p3 ∧ p4 ∧ p5 ∧ p6 ∧ p7 ∧ p8 ∧ p9 ∧ bz ∧ bH ∧ bZ ∧ cz ∧ cQ ∧ dw ∧ p16 ∧ d9 ∧ eF ∧ fw ∧ gA ∧ iH ∧ jU ∧ lD ∧ lC ∧ p25 ∧ p26 ∧ p27 ∧ p28 := ⟨a0, a1, a2, a3, a4, a5, a6, a7, a8, a9, dP, eo, a12, eR, fE, gu, a16, a17, jC, kJ, a20, a21, a22, a23, a24, a25, a26, a27, a28⟩
theorem OZ {p0 p1 p2 p3 p4 p5 p6 p7 p8 p9 bz bH bZ cz cQ dw p16 d9 eF fw gA iH jU lD lC p25 p26 p27 p28 p29 p30 : Prop} (a0 : p0) (a1 : p1) (a2 : p2) (a3 : p3) (a4 : p4) (a5 : p5) (a6 : p6) (a7 : p7) (a8 : p8) (a9 : p9) (dP : bz) (eo : bH) (a12 : bZ) (eR : cz) (fE : cQ) (gu : dw) (a16 : p16) (a17 : d9) (jC : eF) (kJ : fw) (a20 : gA) (a21 : iH) (a22 : jU) (a23 : lD) (a24 : lC) (a25 : p25) (a26 : p26) (a27 : p27) (a28 : p28) (a29 : p29) (a30 : p30) : p0 ∧ p1 ∧ p2 ∧ p3 ∧ p4 ∧ p5 ∧ p6 ∧ p7 ∧ p8 ∧ p9 ∧ bz ∧ bH ∧ bZ ∧ cz ∧ cQ ∧ dw ∧ p16 ∧ d9 ∧ eF ∧ fw ∧ gA ∧ iH ∧ jU ∧ lD ∧ lC ∧ p25 ∧ p26 ∧ p27 ∧ p28 ∧ p29 ∧ p30 := ⟨a0, a1, a2, a3, a4, a5, a6, a7, a8, a9, dP, eo, a12, eR, fE, gu, a16, a17, jC, kJ, a20, a21, a22, a23, a24, a25, a26, a27, a28, a29, a30⟩
theorem C9 {p0 p1 p2 p3 p4 p5 p6 p7 p8 p9 bz bH bZ cz cQ dw p16 d9 eF fw gA iH jU lD lC p25 p26 p27 p28 p29 p30 p31 : Prop} (a0 : p0) (a1 : p1) (a2 : p2) (a3 : p3) (a4 : p4) (a5 : p5) (a6 : p6) (a7 : p7) (a8 : p8) (a9 : p9) (dP : bz) (eo : bH) (a12 : bZ) (eR : cz) (fE : cQ) (gu : dw) (a16 : p16) (a17 : d9) (jC : eF) (kJ : fw) (a20 : gA) (a21 : iH) (a22 : jU) (a23 : lD) (a24 : lC) (a25 : p25) (a26 : p26) (a27 : p27) (a28 : p28) (a29 : p29) (a30 : p30) (a31 : p31) : p0 ∧ p1 ∧ p2 ∧ p3 ∧ p4 ∧ p5 ∧ p6 ∧ p7 ∧ p8 ∧ p9 ∧ bz ∧ bH ∧ bZ ∧ cz ∧ cQ ∧ dw ∧ p16 ∧ d9 ∧ eF ∧ fw ∧ gA ∧ iH ∧ jU ∧ lD ∧ lC ∧ p25 ∧ p26 ∧ p27 ∧ p28 ∧ p29 ∧ p30 ∧ p31 := ⟨a0, a1, a2, a3, a4, a5, a6, a7, a8, a9, dP, eo, a12, eR, fE, gu, a16, a17, jC, kJ, a20, a21, a22, a23, a24, a25, a26, a27, a28, a29, a30, a31⟩
theorem OY {p0 p1 p2 p3 p4 p5 p6 p7 p8 p9 bz bH bZ cz cQ dw p16 d9 eF fw gA iH jU lD lC p25 p26 p27 p28 p29 p30 p31 p32 : Prop} (a0 : p0) (a1 : p1) (a2 : p2) (a3 : p3) (a4 : p4) (a5 : p5) (a6 : p6) (a7 : p7) (a8 : p8) (a9 : p9) (dP : bz) (eo : bH) (a12 : bZ) (eR : cz) (fE : cQ) (gu : dw) (a16 : p16) (a17 : d9) (jC : eF) (kJ : fw) (a20 : gA) (a21 : iH) (a22 : jU) (a23 : lD) (a24 : lC) (a25 : p25) (a26 : p26) (a27 : p27) (a28 : p28) (a29 : p29) (a30 : p30) (a31 : p31) (a32 : p32) : p0 ∧ p1 ∧ p2 ∧ p3 ∧ p4 ∧ p5 ∧ p6 ∧ p7 ∧ p8 ∧ p9 ∧ bz ∧ bH ∧ bZ ∧ cz ∧ cQ ∧ dw ∧ p16 ∧ d9 ∧ eF ∧ fw ∧ gA ∧ iH ∧ jU ∧ lD ∧ lC ∧ p25 ∧ p26 ∧ p27 ∧ p28 ∧ p29 ∧ p30 ∧ p31 ∧ p32 := ⟨a0, a1, a2, a3, a4, a5, a6, a7, a8, a9, dP, eo, a12, eR, fE, gu, a16, a17, jC, kJ, a20, a21, a22, a23, a24, a25, a26, a27, a28, a29, a30, a31, a32⟩
theorem Yy {p q : Prop} (k : q) (h : p = q := by
 try (conv => lhs; simp only [Za, List.map_cons, List.map_nil, lk, reduceIte, Nat.reduceEqDiff, Nat.zero_ne_one, Nat.one_ne_zero])
 first | done | exact rfl) : p := h ▸ k
theorem re {p F : Prop} (f : F) (h : F → p := by
 intro f
 simp [Zh, ZS, ZV, go_sem, fin, aJ, aH, bJ, dr, eG, f]) : p := h f
theorem Uz {p F : Prop} (f : F) (h : F → p := by
 intro f
 simp [Zh, ZS, ZV, go_sem, fin, aJ, aH, bJ, dr, eG, q8, f]) : p := h f
theorem MN {p F : Prop} (f : F) (h : F → p := by
 intro f
 simp [Zh, ZS, ZV, ZK, ZF, ZE, ZG, Zs, Zi, Zp, Zl, Zn, Ze, Zf, Zm, Zt, Zu, ZH, ↓Zk, Zr, Zj, ZD, Zz, Zy, ZW, ZA, Yo, put, lk, Od.v, Za, Zg, Zo, aj, Yd, Ye, Yc, au, eqk, DV.isU, DV.cells, ae, ZP, Ya, ZO, Zq, splice, DV.one, ZQ, af, ZX, eqs, fin, aJ, aH, bJ, dr, eG, f]) : p := h f
theorem GV {p F : Prop} (f : F) (h : F → p := by
 intro f
 simp [Zh, ZS, ZV, ZK, ZF, ZE, ZG, Zs, Zi, Zp, Zl, Zn, Ze, Zf, Zm, Zt, Zu, ZH, ↓Zk, Zr, Zj, ZD, Zz, Zy, ZW, ZA, Yo, put, lk, Od.v, Za, Zg, Zo, aj, Yd, Ye, Yc, au, eqk, DV.isU, DV.cells, ae, ZP, Ya, ZO, Zq, splice, DV.one, ZQ, af, ZX, eqs, fin, aJ, aH, bJ, dr, eG, eC, f]) : p := h f
theorem rg {p F : Prop} (f : F) (h : F → p := by
 intro f
 repeat (first | rewrite [ZN] | rewrite [Zw (by simp [go_sem, f]; exact ⟨rfl, rfl⟩)] | rewrite [Yj (by simp [lk, Za, Od.v, f]; exact rfl)] | rewrite [Zz] | rewrite [Zy] | rewrite [Yb] | rewrite [Ys] | rewrite [Yf] | rewrite [Yr] | rewrite [Yh] | rewrite [Yg] | rewrite [ZY] | rewrite [ZT] | rewrite [ZU] | rewrite [ZM (by decide)] | rewrite [ZR] | rewrite [ZJ] | rewrite [ZL] | rewrite [ZI (by decide)] | rewrite [Yv] | rewrite [Yt (by simp [go_sem, f]; exact ⟨rfl, rfl⟩)] | rewrite [Yu (by simp [lk, Za, Od.v, f]; exact rfl)] | rewrite [Yq])
 simp [Zh, ZS, ZV, go_sem, fin, aJ, aH, bJ, dr, eG, f]) : p := h f
theorem d8 {p F : Prop} (f : F) (h : F → p := by
 intro f
 repeat (first | rewrite [ZN] | rewrite [Zw (by simp [go_sem, aG, f]; exact ⟨rfl, rfl⟩)] | rewrite [Yj (by simp [lk, Za, Od.v, aG, f]; exact rfl)] | rewrite [Zz] | rewrite [Zy] | rewrite [Yb] | rewrite [Ys] | rewrite [Yf] | rewrite [Yr] | rewrite [Yh] | rewrite [Yg] | rewrite [ZY] | rewrite [ZT] | rewrite [ZU] | rewrite [ZM (by decide)] | rewrite [ZR] | rewrite [ZJ] | rewrite [ZL] | rewrite [ZI (by decide)] | rewrite [Yv] | rewrite [Yt (by simp [go_sem, aG, f]; exact ⟨rfl, rfl⟩)] | rewrite [Yu (by simp [lk, Za, Od.v, aG, f]; exact rfl)] | rewrite [Yq])
 simp [Zh, ZS, ZV, go_sem, fin, aJ, aH, bJ, dr, eG, aG, f]) : p := h f
theorem Uy {p F : Prop} (f : F) (h : F → p := by
 intro f
 repeat (first | rewrite [ZN] | rewrite [Zw (by simp [go_sem, vw, f]; exact ⟨rfl, rfl⟩)] | rewrite [Yj (by simp [lk, Za, Od.v, vw, f]; exact rfl)] | rewrite [Zz] | rewrite [Zy] | rewrite [Yb] | rewrite [Ys] | rewrite [Yf] | rewrite [Yr] | rewrite [Yh] | rewrite [Yg] | rewrite [ZY] | rewrite [ZT] | rewrite [ZU] | rewrite [ZM (by decide)] | rewrite [ZR] | rewrite [ZJ] | rewrite [ZL] | rewrite [ZI (by decide)] | rewrite [Yv] | rewrite [Yt (by simp [go_sem, vw, f]; exact ⟨rfl, rfl⟩)] | rewrite [Yu (by simp [lk, Za, Od.v, vw, f]; exact rfl)] | rewrite [Yq])
 simp [Zh, ZS, ZV, go_sem, fin, aJ, aH, bJ, dr, eG, vw, f]) : p := h f
theorem GU {p F : Prop} (f : F) (h : F → p := by
 intro f
 repeat (first | rewrite [ZN] | rewrite [Zw (by simp [go_sem, mH, lH, f]; exact ⟨rfl, rfl⟩)] | rewrite [Yj (by simp [lk, Za, Od.v, mH, lH, f]; exact rfl)] | rewrite [Zz] | rewrite [Zy] | rewrite [Yb] | rewrite [Ys] | rewrite [Yf] | rewrite [Yr] | rewrite [Yh] | rewrite [Yg] | rewrite [ZY] | rewrite [ZT] | rewrite [ZU] | rewrite [ZM (by decide)] | rewrite [ZR] | rewrite [ZJ] | rewrite [ZL] | rewrite [ZI (by decide)] | rewrite [Yv] | rewrite [Yt (by simp [go_sem, mH, lH, f]; exact ⟨rfl, rfl⟩)] | rewrite [Yu (by simp [lk, Za, Od.v, mH, lH, f]; exact rfl)] | rewrite [Yq])
 simp [Zh, ZS, ZV, go_sem, fin, aJ, aH, bJ, dr, eG, mH, lH, f]) : p := h f
theorem zm {p F : Prop} (f : F) (h : F → p := by
 intro f
 repeat (first | rewrite [ZN] | rewrite [Zw (by simp [go_sem, ord, f]; exact ⟨rfl, rfl⟩)] | rewrite [Yj (by simp [lk, Za, Od.v, ord, f]; exact rfl)] | rewrite [Zz] | rewrite [Zy] | rewrite [Yb] | rewrite [Ys] | rewrite [Yf] | rewrite [Yr] | rewrite [Yh] | rewrite [Yg] | rewrite [ZY] | rewrite [ZT] | rewrite [ZU] | rewrite [ZM (by decide)] | rewrite [ZR] | rewrite [ZJ] | rewrite [ZL] | rewrite [ZI (by decide)] | rewrite [Yv] | rewrite [Yt (by simp [go_sem, ord, f]; exact ⟨rfl, rfl⟩)] | rewrite [Yu (by simp [lk, Za, Od.v, ord, f]; exact rfl)] | rewrite [Yq])
 simp [Zh, ZS, ZV, go_sem, fin, aJ, aH, bJ, dr, eG, ord, f]) : p := h f
theorem qA {p F : Prop} (f : F) (h : F → p := by
 intro f
 repeat (first | rewrite [ZN] | rewrite [Zw (by simp [go_sem, aF, f]; exact ⟨rfl, rfl⟩)] | rewrite [Yj (by simp [lk, Za, Od.v, aF, f]; exact rfl)] | rewrite [Zz] | rewrite [Zy] | rewrite [Yb] | rewrite [Ys] | rewrite [Yf] | rewrite [Yr] | rewrite [Yh] | rewrite [Yg] | rewrite [ZY] | rewrite [ZT] | rewrite [ZU] | rewrite [ZM (by decide)] | rewrite [ZR] | rewrite [ZJ] | rewrite [ZL] | rewrite [ZI (by decide)] | rewrite [Yv] | rewrite [Yt (by simp [go_sem, aF, f]; exact ⟨rfl, rfl⟩)] | rewrite [Yu (by simp [lk, Za, Od.v, aF, f]; exact rfl)] | rewrite [Yq])
 simp [Zh, ZS, ZV, go_sem, fin, aJ, aH, bJ, dr, eG, aF, f]) : p := h f
theorem Tm {p F : Prop} (f : F) (h : F → p := by
 intro f
 repeat (first | rewrite [ZN] | rewrite [Zw (by simp [go_sem, fA, mm, f]; exact ⟨rfl, rfl⟩)] | rewrite [Yj (by simp [lk, Za, Od.v, fA, mm, f]; exact rfl)] | rewrite [Zz] | rewrite [Zy] | rewrite [Yb] | rewrite [Ys] | rewrite [Yf] | rewrite [Yr] | rewrite [Yh] | rewrite [Yg] | rewrite [ZY] | rewrite [ZT] | rewrite [ZU] | rewrite [ZM (by decide)] | rewrite [ZR] | rewrite [ZJ] | rewrite [ZL] | rewrite [ZI (by decide)] | rewrite [Yv] | rewrite [Yt (by simp [go_sem, fA, mm, f]; exact ⟨rfl, rfl⟩)] | rewrite [Yu (by simp [lk, Za, Od.v, fA, mm, f]; exact rfl)] | rewrite [Yq])
 simp [Zh, ZS, ZV, go_sem, fin, aJ, aH, bJ, dr, eG, fA, mm, f]) : p := h f
theorem ML {p F : Prop} (f : F) (h : F → p := by
 intro f
 repeat (first | rewrite [ZN] | rewrite [Zw (by simp [go_sem, gO, f]; exact ⟨rfl, rfl⟩)] | rewrite [Yj (by simp [lk, Za, Od.v, gO, f]; exact rfl)] | rewrite [Zz] | rewrite [Zy] | rewrite [Yb] | rewrite [Ys] | rewrite [Yf] | rewrite [Yr] | rewrite [Yh] | rewrite [Yg] | rewrite [ZY] | rewrite [ZT] | rewrite [ZU] | rewrite [ZM (by decide)] | rewrite [ZR] | rewrite [ZJ] | rewrite [ZL] | rewrite [ZI (by decide)] | rewrite [Yv] | rewrite [Yt (by simp [go_sem, gO, f]; exact ⟨rfl, rfl⟩)] | rewrite [Yu (by simp [lk, Za, Od.v, gO, f]; exact rfl)] | rewrite [Yq])
 simp [Zh, ZS, ZV, go_sem, fin, aJ, aH, bJ, dr, eG, gO, f]) : p := h f
theorem Tl {p F : Prop} (f : F) (h : F → p := by
 intro f
 repeat (first | rewrite [ZN] | rewrite [Zw (by simp [go_sem, V.eqb, aG, f]; exact ⟨rfl, rfl⟩)] | rewrite [Yj (by simp [lk, Za, Od.v, V.eqb, aG, f]; exact rfl)] | rewrite [Zz] | rewrite [Zy] | rewrite [Yb] | rewrite [Ys] | rewrite [Yf] | rewrite [Yr] | rewrite [Yh] | rewrite [Yg] | rewrite [ZY] | rewrite [ZT] | rewrite [ZU] | rewrite [ZM (by decide)] | rewrite [ZR] | rewrite [ZJ] | rewrite [ZL] | rewrite [ZI (by decide)] | rewrite [Yv] | rewrite [Yt (by simp [go_sem, V.eqb, aG, f]; exact ⟨rfl, rfl⟩)] | rewrite [Yu (by simp [lk, Za, Od.v, V.eqb, aG, f]; exact rfl)] | rewrite [Yq])
 simp [Zh, ZS, ZV, go_sem, fin, aJ, aH, bJ, dr, eG, V.eqb, aG, f]) : p := h f
theorem Tk {p F : Prop} (f : F) (h : F → p := by
 intro f
 repeat (first | rewrite [ZN] | rewrite [Zw (by simp [go_sem, bE, bw, aK, vw, f]; exact ⟨rfl, rfl⟩)] | rewrite [Yj (by simp [lk, Za, Od.v, bE, bw, aK, vw, f]; exact rfl)] | rewrite [Zz] | rewrite [Zy] | rewrite [Yb] | rewrite [Ys] | rewrite [Yf] | rewrite [Yr] | rewrite [Yh] | rewrite [Yg] | rewrite [ZY] | rewrite [ZT] | rewrite [ZU] | rewrite [ZM (by decide)] | rewrite [ZR] | rewrite [ZJ] | rewrite [ZL] | rewrite [ZI (by decide)] | rewrite [Yv] | rewrite [Yt (by simp [go_sem, bE, bw, aK, vw, f]; exact ⟨rfl, rfl⟩)] | rewrite [Yu (by simp [lk, Za, Od.v, bE, bw, aK, vw, f]; exact rfl)] | rewrite [Yq])
 simp [Zh, ZS, ZV, go_sem, fin, aJ, aH, bJ, dr, eG, bE, bw, aK, vw, f]) : p := h f
theorem Tj {p F : Prop} (f : F) (h : F → p := by
 intro f
 repeat (first | rewrite [ZN] | rewrite [Zw (by simp [go_sem, v0, f]; exact ⟨rfl, rfl⟩)] | rewrite [Yj (by simp [lk, Za, Od.v, v0, f]; exact rfl)] | rewrite [Zz] | rewrite [Zy] | rewrite [Yb] | rewrite [Ys] | rewrite [Yf] | rewrite [Yr] | rewrite [Yh] | rewrite [Yg] | rewrite [ZY] | rewrite [ZT] | rewrite [ZU] | rewrite [ZM (by decide)] | rewrite [ZR] | rewrite [ZJ] | rewrite [ZL] | rewrite [ZI (by decide)] | rewrite [Yv] | rewrite [Yt (by simp [go_sem, v0, f]; exact ⟨rfl, rfl⟩)] | rewrite [Yu (by simp [lk, Za, Od.v, v0, f]; exact rfl)] | rewrite [Yq])
 simp [Zh, ZS, ZV, go_sem, fin, aJ, aH, bJ, dr, eG, v0, f]) : p := h f
theorem MK {p F : Prop} (f : F) (h : F → p := by
 intro f
 repeat (first | rewrite [ZN] | rewrite [Zw (by simp [go_sem, eC, f]; exact ⟨rfl, rfl⟩)] | rewrite [Yj (by simp [lk, Za, Od.v, eC, f]; exact rfl)] | rewrite [Zz] | rewrite [Zy] | rewrite [Yb] | rewrite [Ys] | rewrite [Yf] | rewrite [Yr] | rewrite [Yh] | rewrite [Yg] | rewrite [ZY] | rewrite [ZT] | rewrite [ZU] | rewrite [ZM (by decide)] | rewrite [ZR] | rewrite [ZJ] | rewrite [ZL] | rewrite [ZI (by decide)] | rewrite [Yv] | rewrite [Yt (by simp [go_sem, eC, f]; exact ⟨rfl, rfl⟩)] | rewrite [Yu (by simp [lk, Za, Od.v, eC, f]; exact rfl)] | rewrite [Yq])
 simp [Zh, ZS, ZV, go_sem, fin, aJ, aH, bJ, dr, eG, eC, f]) : p := h f
theorem Ux {p F : Prop} (f : F) (h : F → p := by
 intro f
 repeat (first | rewrite [ZN] | rewrite [Zw (by simp [ZK, ZF, ZE, ZG, Zs, Zi, Zp, Zl, Zn, Ze, Zf, Zm, Zt, Zu, ZH, ↓Zk, Zr, Zj, ZD, Zz, Zy, ZW, ZA, Yo, put, lk, Od.v, Za, Zg, Zo, aj, Yd, Ye, Yc, au, eqk, DV.isU, DV.cells, ae, ZP, Ya, ZO, Zq, splice, DV.one, ZQ, af, ZX, eqs, f]; exact ⟨rfl, rfl⟩)] | rewrite [Yj (by simp [lk, Za, Od.v, f]; exact rfl)] | rewrite [Zz] | rewrite [Zy] | rewrite [Yb] | rewrite [Ys] | rewrite [Yf] | rewrite [Yr] | rewrite [Yh] | rewrite [Yg] | rewrite [ZY] | rewrite [ZT] | rewrite [ZU] | rewrite [ZM (by decide)] | rewrite [ZR] | rewrite [ZJ] | rewrite [ZL] | rewrite [ZI (by decide)] | rewrite [Yv] | rewrite [Yt (by simp [ZK, ZF, ZE, ZG, Zs, Zi, Zp, Zl, Zn, Ze, Zf, Zm, Zt, Zu, ZH, ↓Zk, Zr, Zj, ZD, Zz, Zy, ZW, ZA, Yo, put, lk, Od.v, Za, Zg, Zo, aj, Yd, Ye, Yc, au, eqk, DV.isU, DV.cells, ae, ZP, Ya, ZO, Zq, splice, DV.one, ZQ, af, ZX, eqs, f]; exact ⟨rfl, rfl⟩)] | rewrite [Yu (by simp [lk, Za, Od.v, f]; exact rfl)] | rewrite [Yq])
 simp [Zh, ZS, ZV, ZK, ZF, ZE, ZG, Zs, Zi, Zp, Zl, Zn, Ze, Zf, Zm, Zt, Zu, ZH, ↓Zk, Zr, Zj, ZD, Zz, Zy, ZW, ZA, Yo, put, lk, Od.v, Za, Zg, Zo, aj, Yd, Ye, Yc, au, eqk, DV.isU, DV.cells, ae, ZP, Ya, ZO, Zq, splice, DV.one, ZQ, af, ZX, eqs, fin, aJ, aH, bJ, dr, eG, f]) : p := h f
theorem qz {p F : Prop} (f : F) (h : F → p := by
 intro f
 repeat (first | rewrite [ZN] | rewrite [Zw (by simp [ZK, ZF, ZE, ZG, Zs, Zi, Zp, Zl, Zn, Ze, Zf, Zm, Zt, Zu, ZH, ↓Zk, Zr, Zj, ZD, Zz, Zy, ZW, ZA, Yo, put, lk, Od.v, Za, Zg, Zo, aj, Yd, Ye, Yc, au, eqk, DV.isU, DV.cells, ae, ZP, Ya, ZO, Zq, splice, DV.one, ZQ, af, ZX, eqs, eC, ord, f]; exact ⟨rfl, rfl⟩)] | rewrite [Yj (by simp [lk, Za, Od.v, eC, ord, f]; exact rfl)] | rewrite [Zz] | rewrite [Zy] | rewrite [Yb] | rewrite [Ys] | rewrite [Yf] | rewrite [Yr] | rewrite [Yh] | rewrite [Yg] | rewrite [ZY] | rewrite [ZT] | rewrite [ZU] | rewrite [ZM (by decide)] | rewrite [ZR] | rewrite [ZJ] | rewrite [ZL] | rewrite [ZI (by decide)] | rewrite [Yv] | rewrite [Yt (by simp [ZK, ZF, ZE, ZG, Zs, Zi, Zp, Zl, Zn, Ze, Zf, Zm, Zt, Zu, ZH, ↓Zk, Zr, Zj, ZD, Zz, Zy, ZW, ZA, Yo, put, lk, Od.v, Za, Zg, Zo, aj, Yd, Ye, Yc, au, eqk, DV.isU, DV.cells, ae, ZP, Ya, ZO, Zq, splice, DV.one, ZQ, af, ZX, eqs, eC, ord, f]; exact ⟨rfl, rfl⟩)] | rewrite [Yu (by simp [lk, Za, Od.v, eC, ord, f]; exact rfl)] | rewrite [Yq])
 simp [Zh, ZS, ZV, ZK, ZF, ZE, ZG, Zs, Zi, Zp, Zl, Zn, Ze, Zf, Zm, Zt, Zu, ZH, ↓Zk, Zr, Zj, ZD, Zz, Zy, ZW, ZA, Yo, put, lk, Od.v, Za, Zg, Zo, aj, Yd, Ye, Yc, au, eqk, DV.isU, DV.cells, ae, ZP, Ya, ZO, Zq, splice, DV.one, ZQ, af, ZX, eqs, fin, aJ, aH, bJ, dr, eG, eC, ord, f]) : p := h f
theorem MJ {p F : Prop} (f : F) (h : F → p := by
 intro f
 repeat (first | rewrite [ZN] | rewrite [Zw (by simp [ZK, ZF, ZE, ZG, Zs, Zi, Zp, Zl, Zn, Ze, Zf, Zm, Zt, Zu, ZH, ↓Zk, Zr, Zj, ZD, Zz, Zy, ZW, ZA, Yo, put, lk, Od.v, Za, Zg, Zo, aj, Yd, Ye, Yc, au, eqk, DV.isU, DV.cells, ae, ZP, Ya, ZO, Zq, splice, DV.one, ZQ, af, ZX, eqs, ord, f]; exact ⟨rfl, rfl⟩)] | rewrite [Yj (by simp [lk, Za, Od.v, ord, f]; exact rfl)] | rewrite [Zz] | rewrite [Zy] | rewrite [Yb] | rewrite [Ys] | rewrite [Yf] | rewrite [Yr] | rewrite [Yh] | rewrite [Yg] | rewrite [ZY] | rewrite [ZT] | rewrite [ZU] | rewrite [ZM (by decide)] | rewrite [ZR] | rewrite [ZJ] | rewrite [ZL] | rewrite [ZI (by decide)] | rewrite [Yv] | rewrite [Yt (by simp [ZK, ZF, ZE, ZG, Zs, Zi, Zp, Zl, Zn, Ze, Zf, Zm, Zt, Zu, ZH, ↓Zk, Zr, Zj, ZD, Zz, Zy, ZW, ZA, Yo, put, lk, Od.v, Za, Zg, Zo, aj, Yd, Ye, Yc, au, eqk, DV.isU, DV.cells, ae, ZP, Ya, ZO, Zq, splice, DV.one, ZQ, af, ZX, eqs, ord, f]; exact ⟨rfl, rfl⟩)] | rewrite [Yu (by simp [lk, Za, Od.v, ord, f]; exact rfl)] | rewrite [Yq])
 simp [Zh, ZS, ZV, ZK, ZF, ZE, ZG, Zs, Zi, Zp, Zl, Zn, Ze, Zf, Zm, Zt, Zu, ZH, ↓Zk, Zr, Zj, ZD, Zz, Zy, ZW, ZA, Yo, put, lk, Od.v, Za, Zg, Zo, aj, Yd, Ye, Yc, au, eqk, DV.isU, DV.cells, ae, ZP, Ya, ZO, Zq, splice, DV.one, ZQ, af, ZX, eqs, fin, aJ, aH, bJ, dr, eG, ord, f]) : p := h f
theorem rn {p q F : Prop} (f : F) (k : q) (h : F → p = q := by
 intro f
 repeat (first | rewrite [ZN] | rewrite [Zw (by simp [go_sem, f]; exact ⟨rfl, rfl⟩)] | rewrite [Yj (by simp [lk, Za, Od.v, f]; exact rfl)] | rewrite [Zz] | rewrite [Zy] | rewrite [Yb] | rewrite [Ys] | rewrite [Yf] | rewrite [Yr] | rewrite [Yh] | rewrite [Yg] | rewrite [ZY] | rewrite [ZT] | rewrite [ZU] | rewrite [ZM (by decide)] | rewrite [ZR] | rewrite [ZJ] | rewrite [ZL] | rewrite [ZI (by decide)] | rewrite [Yv] | rewrite [Yt (by simp [go_sem, f]; exact ⟨rfl, rfl⟩)] | rewrite [Yu (by simp [lk, Za, Od.v, f]; exact rfl)] | rewrite [Yq])
 exact rfl) : p := (h f).mpr k
theorem Yx {p q F : Prop} (f : F) (k : q) (h : F → p = q := by
 intro f
 repeat (first | rewrite [ZN] | rewrite [Zw (by simp [go_sem, aG, f]; exact ⟨rfl, rfl⟩)] | rewrite [Yj (by simp [lk, Za, Od.v, aG, f]; exact rfl)] | rewrite [Zz] | rewrite [Zy] | rewrite [Yb] | rewrite [Ys] | rewrite [Yf] | rewrite [Yr] | rewrite [Yh] | rewrite [Yg] | rewrite [ZY] | rewrite [ZT] | rewrite [ZU] | rewrite [ZM (by decide)] | rewrite [ZR] | rewrite [ZJ] | rewrite [ZL] | rewrite [ZI (by decide)] | rewrite [Yv] | rewrite [Yt (by simp [go_sem, aG, f]; exact ⟨rfl, rfl⟩)] | rewrite [Yu (by simp [lk, Za, Od.v, aG, f]; exact rfl)] | rewrite [Yq])
 exact rfl) : p := (h f).mpr k
theorem JK {p q F : Prop} (f : F) (k : q) (h : F → p = q := by
 intro f
 repeat (first | rewrite [ZN] | rewrite [Zw (by simp [go_sem, fA, f]; exact ⟨rfl, rfl⟩)] | rewrite [Yj (by simp [lk, Za, Od.v, fA, f]; exact rfl)] | rewrite [Zz] | rewrite [Zy] | rewrite [Yb] | rewrite [Ys] | rewrite [Yf] | rewrite [Yr] | rewrite [Yh] | rewrite [Yg] | rewrite [ZY] | rewrite [ZT] | rewrite [ZU] | rewrite [ZM (by decide)] | rewrite [ZR] | rewrite [ZJ] | rewrite [ZL] | rewrite [ZI (by decide)] | rewrite [Yv] | rewrite [Yt (by simp [go_sem, fA, f]; exact ⟨rfl, rfl⟩)] | rewrite [Yu (by simp [lk, Za, Od.v, fA, f]; exact rfl)] | rewrite [Yq])
 exact rfl) : p := (h f).mpr k
theorem Ti {p q F : Prop} (f : F) (k : q) (h : F → p = q := by
 intro f
 repeat (first | rewrite [ZN] | rewrite [Zw (by simp [go_sem, aG, aK, f]; exact ⟨rfl, rfl⟩)] | rewrite [Yj (by simp [lk, Za, Od.v, aG, aK, f]; exact rfl)] | rewrite [Zz] | rewrite [Zy] | rewrite [Yb] | rewrite [Ys] | rewrite [Yf] | rewrite [Yr] | rewrite [Yh] | rewrite [Yg] | rewrite [ZY] | rewrite [ZT] | rewrite [ZU] | rewrite [ZM (by decide)] | rewrite [ZR] | rewrite [ZJ] | rewrite [ZL] | rewrite [ZI (by decide)] | rewrite [Yv] | rewrite [Yt (by simp [go_sem, aG, aK, f]; exact ⟨rfl, rfl⟩)] | rewrite [Yu (by simp [lk, Za, Od.v, aG, aK, f]; exact rfl)] | rewrite [Yq])
 exact rfl) : p := (h f).mpr k
theorem uk {p q F : Prop} (f : F) (k : q) (h : F → p = q := by
 intro f
 repeat (first | rewrite [ZN] | rewrite [Zw (by simp [go_sem, hz, f]; exact ⟨rfl, rfl⟩)] | rewrite [Yj (by simp [lk, Za, Od.v, hz, f]; exact rfl)] | rewrite [Zz] | rewrite [Zy] | rewrite [Yb] | rewrite [Ys] | rewrite [Yf] | rewrite [Yr] | rewrite [Yh] | rewrite [Yg] | rewrite [ZY] | rewrite [ZT] | rewrite [ZU] | rewrite [ZM (by decide)] | rewrite [ZR] | rewrite [ZJ] | rewrite [ZL] | rewrite [ZI (by decide)] | rewrite [Yv] | rewrite [Yt (by simp [go_sem, hz, f]; exact ⟨rfl, rfl⟩)] | rewrite [Yu (by simp [lk, Za, Od.v, hz, f]; exact rfl)] | rewrite [Yq])
 exact rfl) : p := (h f).mpr k
theorem MI {p q F : Prop} (f : F) (k : q) (h : F → p = q := by
 intro f
 repeat (first | rewrite [ZN] | rewrite [Zw (by simp [go_sem, hz, dD, f]; exact ⟨rfl, rfl⟩)] | rewrite [Yj (by simp [lk, Za, Od.v, hz, dD, f]; exact rfl)] | rewrite [Zz] | rewrite [Zy] | rewrite [Yb] | rewrite [Ys] | rewrite [Yf] | rewrite [Yr] | rewrite [Yh] | rewrite [Yg] | rewrite [ZY] | rewrite [ZT] | rewrite [ZU] | rewrite [ZM (by decide)] | rewrite [ZR] | rewrite [ZJ] | rewrite [ZL] | rewrite [ZI (by decide)] | rewrite [Yv] | rewrite [Yt (by simp [go_sem, hz, dD, f]; exact ⟨rfl, rfl⟩)] | rewrite [Yu (by simp [lk, Za, Od.v, hz, dD, f]; exact rfl)] | rewrite [Yq])
 exact rfl) : p := (h f).mpr k
theorem kg {p q F : Prop} (f : F) (k : q) (h : F → p = q := by
 intro f
 repeat (first | rewrite [ZN] | rewrite [Zw (by simp [go_sem, intD, aG, f]; exact ⟨rfl, rfl⟩)] | rewrite [Yj (by simp [lk, Za, Od.v, intD, aG, f]; exact rfl)] | rewrite [Zz] | rewrite [Zy] | rewrite [Yb] | rewrite [Ys] | rewrite [Yf] | rewrite [Yr] | rewrite [Yh] | rewrite [Yg] | rewrite [ZY] | rewrite [ZT] | rewrite [ZU] | rewrite [ZM (by decide)] | rewrite [ZR] | rewrite [ZJ] | rewrite [ZL] | rewrite [ZI (by decide)] | rewrite [Yv] | rewrite [Yt (by simp [go_sem, intD, aG, f]; exact ⟨rfl, rfl⟩)] | rewrite [Yu (by simp [lk, Za, Od.v, intD, aG, f]; exact rfl)] | rewrite [Yq])
 exact rfl) : p := (h f).mpr k
theorem Tg {p q F : Prop} (f : F) (k : q) (h : F → p = q := by
 intro f
 repeat (first | rewrite [ZN] | rewrite [Zw (by simp [go_sem, hs, f]; exact ⟨rfl, rfl⟩)] | rewrite [Yj (by simp [lk, Za, Od.v, hs, f]; exact rfl)] | rewrite [Zz] | rewrite [Zy] | rewrite [Yb] | rewrite [Ys] | rewrite [Yf] | rewrite [Yr] | rewrite [Yh] | rewrite [Yg] | rewrite [ZY] | rewrite [ZT] | rewrite [ZU] | rewrite [ZM (by decide)] | rewrite [ZR] | rewrite [ZJ] | rewrite [ZL] | rewrite [ZI (by decide)] | rewrite [Yv] | rewrite [Yt (by simp [go_sem, hs, f]; exact ⟨rfl, rfl⟩)] | rewrite [Yu (by simp [lk, Za, Od.v, hs, f]; exact rfl)] | rewrite [Yq])
 exact rfl) : p := (h f).mpr k
theorem MH {p q F : Prop} (f : F) (k : q) (h : F → p = q := by
 intro f
 repeat (first | rewrite [ZN] | rewrite [Zw (by simp [go_sem, v7, f]; exact ⟨rfl, rfl⟩)] | rewrite [Yj (by simp [lk, Za, Od.v, v7, f]; exact rfl)] | rewrite [Zz] | rewrite [Zy] | rewrite [Yb] | rewrite [Ys] | rewrite [Yf] | rewrite [Yr] | rewrite [Yh] | rewrite [Yg] | rewrite [ZY] | rewrite [ZT] | rewrite [ZU] | rewrite [ZM (by decide)] | rewrite [ZR] | rewrite [ZJ] | rewrite [ZL] | rewrite [ZI (by decide)] | rewrite [Yv] | rewrite [Yt (by simp [go_sem, v7, f]; exact ⟨rfl, rfl⟩)] | rewrite [Yu (by simp [lk, Za, Od.v, v7, f]; exact rfl)] | rewrite [Yq])
 exact rfl) : p := (h f).mpr k
theorem RA {p q F : Prop} (f : F) (k : q) (h : F → p = q := by
 intro f
 repeat (first | rewrite [ZN] | rewrite [Zw (by simp [go_sem, jL, dD, gL, f]; exact ⟨rfl, rfl⟩)] | rewrite [Yj (by simp [lk, Za, Od.v, jL, dD, gL, f]; exact rfl)] | rewrite [Zz] | rewrite [Zy] | rewrite [Yb] | rewrite [Ys] | rewrite [Yf] | rewrite [Yr] | rewrite [Yh] | rewrite [Yg] | rewrite [ZY] | rewrite [ZT] | rewrite [ZU] | rewrite [ZM (by decide)] | rewrite [ZR] | rewrite [ZJ] | rewrite [ZL] | rewrite [ZI (by decide)] | rewrite [Yv] | rewrite [Yt (by simp [go_sem, jL, dD, gL, f]; exact ⟨rfl, rfl⟩)] | rewrite [Yu (by simp [lk, Za, Od.v, jL, dD, gL, f]; exact rfl)] | rewrite [Yq])
 exact rfl) : p := (h f).mpr k
theorem Rz {p q F : Prop} (f : F) (k : q) (h : F → p = q := by
 intro f
 repeat (first | rewrite [ZN] | rewrite [Zw (by simp [go_sem, aF, f]; exact ⟨rfl, rfl⟩)] | rewrite [Yj (by simp [lk, Za, Od.v, aF, f]; exact rfl)] | rewrite [Zz] | rewrite [Zy] | rewrite [Yb] | rewrite [Ys] | rewrite [Yf] | rewrite [Yr] | rewrite [Yh] | rewrite [Yg] | rewrite [ZY] | rewrite [ZT] | rewrite [ZU] | rewrite [ZM (by decide)] | rewrite [ZR] | rewrite [ZJ] | rewrite [ZL] | rewrite [ZI (by decide)] | rewrite [Yv] | rewrite [Yt (by simp [go_sem, aF, f]; exact ⟨rfl, rfl⟩)] | rewrite [Yu (by simp [lk, Za, Od.v, aF, f]; exact rfl)] | rewrite [Yq])
 exact rfl) : p := (h f).mpr k
theorem Uw {p q F : Prop} (f : F) (k : q) (h : F → p = q := by
 intro f
 repeat (first | rewrite [ZN] | rewrite [Zw (by simp [go_sem, V.eqb, f]; exact ⟨rfl, rfl⟩)] | rewrite [Yj (by simp [lk, Za, Od.v, V.eqb, f]; exact rfl)] | rewrite [Zz] | rewrite [Zy] | rewrite [Yb] | rewrite [Ys] | rewrite [Yf] | rewrite [Yr] | rewrite [Yh] | rewrite [Yg] | rewrite [ZY] | rewrite [ZT] | rewrite [ZU] | rewrite [ZM (by decide)] | rewrite [ZR] | rewrite [ZJ] | rewrite [ZL] | rewrite [ZI (by decide)] | rewrite [Yv] | rewrite [Yt (by simp [go_sem, V.eqb, f]; exact ⟨rfl, rfl⟩)] | rewrite [Yu (by simp [lk, Za, Od.v, V.eqb, f]; exact rfl)] | rewrite [Yq])
 exact rfl) : p := (h f).mpr k
theorem Uv {p q F : Prop} (f : F) (k : q) (h : F → p = q := by
 intro f
 repeat (first | rewrite [ZN] | rewrite [Zw (by simp [go_sem, aK, f]; exact ⟨rfl, rfl⟩)] | rewrite [Yj (by simp [lk, Za, Od.v, aK, f]; exact rfl)] | rewrite [Zz] | rewrite [Zy] | rewrite [Yb] | rewrite [Ys] | rewrite [Yf] | rewrite [Yr] | rewrite [Yh] | rewrite [Yg] | rewrite [ZY] | rewrite [ZT] | rewrite [ZU] | rewrite [ZM (by decide)] | rewrite [ZR] | rewrite [ZJ] | rewrite [ZL] | rewrite [ZI (by decide)] | rewrite [Yv] | rewrite [Yt (by simp [go_sem, aK, f]; exact ⟨rfl, rfl⟩)] | rewrite [Yu (by simp [lk, Za, Od.v, aK, f]; exact rfl)] | rewrite [Yq])
 exact rfl) : p := (h f).mpr k
theorem aB {p q F : Prop} (f : F) (k : q) (h : F → p = q := by
 intro f
 repeat (first | rewrite [ZN] | rewrite [Zw (by simp [ZK, ZF, ZE, ZG, Zs, Zi, Zp, Zl, Zn, Ze, Zf, Zm, Zt, Zu, ZH, ↓Zk, Zr, Zj, ZD, Zz, Zy, ZW, ZA, Yo, put, lk, Od.v, Za, Zg, Zo, aj, Yd, Ye, Yc, au, eqk, DV.isU, DV.cells, ae, ZP, Ya, ZO, Zq, splice, DV.one, ZQ, af, ZX, eqs, f]; exact ⟨rfl, rfl⟩)] | rewrite [Yj (by simp [lk, Za, Od.v, f]; exact rfl)] | rewrite [Zz] | rewrite [Zy] | rewrite [Yb] | rewrite [Ys] | rewrite [Yf] | rewrite [Yr] | rewrite [Yh] | rewrite [Yg] | rewrite [ZY] | rewrite [ZT] | rewrite [ZU] | rewrite [ZM (by decide)] | rewrite [ZR] | rewrite [ZJ] | rewrite [ZL] | rewrite [ZI (by decide)] | rewrite [Yv] | rewrite [Yt (by simp [ZK, ZF, ZE, ZG, Zs, Zi, Zp, Zl, Zn, Ze, Zf, Zm, Zt, Zu, ZH, ↓Zk, Zr, Zj, ZD, Zz, Zy, ZW, ZA, Yo, put, lk, Od.v, Za, Zg, Zo, aj, Yd, Ye, Yc, au, eqk, DV.isU, DV.cells, ae, ZP, Ya, ZO, Zq, splice, DV.one, ZQ, af, ZX, eqs, f]; exact ⟨rfl, rfl⟩)] | rewrite [Yu (by simp [lk, Za, Od.v, f]; exact rfl)] | rewrite [Yq])
 exact rfl) : p := (h f).mpr k
theorem Tf {p q F : Prop} (f : F) (k : q) (h : F → p = q := by
 intro f
 repeat (first | rewrite [ZN] | rewrite [Zw (by simp [ZK, ZF, ZE, ZG, Zs, Zi, Zp, Zl, Zn, Ze, Zf, Zm, Zt, Zu, ZH, ↓Zk, Zr, Zj, ZD, Zz, Zy, ZW, ZA, Yo, put, lk, Od.v, Za, Zg, Zo, aj, Yd, Ye, Yc, au, eqk, DV.isU, DV.cells, ae, ZP, Ya, ZO, Zq, splice, DV.one, ZQ, af, ZX, eqs, hq, f]; exact ⟨rfl, rfl⟩)] | rewrite [Yj (by simp [lk, Za, Od.v, hq, f]; exact rfl)] | rewrite [Zz] | rewrite [Zy] | rewrite [Yb] | rewrite [Ys] | rewrite [Yf] | rewrite [Yr] | rewrite [Yh] | rewrite [Yg] | rewrite [ZY] | rewrite [ZT] | rewrite [ZU] | rewrite [ZM (by decide)] | rewrite [ZR] | rewrite [ZJ] | rewrite [ZL] | rewrite [ZI (by decide)] | rewrite [Yv] | rewrite [Yt (by simp [ZK, ZF, ZE, ZG, Zs, Zi, Zp, Zl, Zn, Ze, Zf, Zm, Zt, Zu, ZH, ↓Zk, Zr, Zj, ZD, Zz, Zy, ZW, ZA, Yo, put, lk, Od.v, Za, Zg, Zo, aj, Yd, Ye, Yc, au, eqk, DV.isU, DV.cells, ae, ZP, Ya, ZO, Zq, splice, DV.one, ZQ, af, ZX, eqs, hq, f]; exact ⟨rfl, rfl⟩)] | rewrite [Yu (by simp [lk, Za, Od.v, hq, f]; exact rfl)] | rewrite [Yq])
 exact rfl) : p := (h f).mpr k
theorem wJ {p q F : Prop} (f : F) (k : q) (h : F → p = q := by
 intro f
 repeat (first | rewrite [ZN] | rewrite [Zw (by simp [ZK, ZF, ZE, ZG, Zs, Zi, Zp, Zl, Zn, Ze, Zf, Zm, Zt, Zu, ZH, ↓Zk, Zr, Zj, ZD, Zz, Zy, ZW, ZA, Yo, put, lk, Od.v, Za, Zg, Zo, aj, Yd, Ye, Yc, au, eqk, DV.isU, DV.cells, ae, ZP, Ya, ZO, Zq, splice, DV.one, ZQ, af, ZX, eqs, v0, f]; exact ⟨rfl, rfl⟩)] | rewrite [Yj (by simp [lk, Za, Od.v, v0, f]; exact rfl)] | rewrite [Zz] | rewrite [Zy] | rewrite [Yb] | rewrite [Ys] | rewrite [Yf] | rewrite [Yr] | rewrite [Yh] | rewrite [Yg] | rewrite [ZY] | rewrite [ZT] | rewrite [ZU] | rewrite [ZM (by decide)] | rewrite [ZR] | rewrite [ZJ] | rewrite [ZL] | rewrite [ZI (by decide)] | rewrite [Yv] | rewrite [Yt (by simp [ZK, ZF, ZE, ZG, Zs, Zi, Zp, Zl, Zn, Ze, Zf, Zm, Zt, Zu, ZH, ↓Zk, Zr, Zj, ZD, Zz, Zy, ZW, ZA, Yo, put, lk, Od.v, Za, Zg, Zo, aj, Yd, Ye, Yc, au, eqk, DV.isU, DV.cells, ae, ZP, Ya, ZO, Zq, splice, DV.one, ZQ, af, ZX, eqs, v0, f]; exact ⟨rfl, rfl⟩)] | rewrite [Yu (by simp [lk, Za, Od.v, v0, f]; exact rfl)] | rewrite [Yq])
 exact rfl) : p := (h f).mpr k
theorem ro {p q F : Prop} (f : F) (k : q) (h : F → p = q := by
 intro f
 repeat (first | rewrite [ZN] | rewrite [Zw (by simp [go_sem, f]; exact ⟨rfl, rfl⟩)] | rewrite [Yj (by simp [lk, Za, Od.v, f]; exact rfl)] | rewrite [Zz] | rewrite [Zy] | rewrite [Yb] | rewrite [Ys] | rewrite [Yf] | rewrite [Yr] | rewrite [Yh] | rewrite [Yg] | rewrite [ZY] | rewrite [ZT] | rewrite [ZU] | rewrite [ZM (by decide)] | rewrite [ZR] | rewrite [ZJ] | rewrite [ZL] | rewrite [ZI (by decide)] | rewrite [Yv] | rewrite [Yt (by simp [go_sem, f]; exact ⟨rfl, rfl⟩)] | rewrite [Yu (by simp [lk, Za, Od.v, f]; exact rfl)] | rewrite [Yq])
 exact rfl) : p := (h f).mpr k
end Go.Proofs.YtmbgfbomgbdjeaaGreatDoor
