/- Ideal runs. -/
import Derived.Test.YteekbciaggmfgaaDoorEngL
import Derived.Test.YteekbciaggmfgaaDoorChecked
namespace Go.Proofs.YteekbciaggmfgaaDoor
set_option linter.unusedVariables false
section
variable {X : Nat → Option XK} {e e' : Env} {h h' : Zb}
theorem Ym {ops : List ah} {keep : List Nat} (he : ZF (E X) ops e h = some (e', h')) : C X (.reg ops keep) e h = some (.norm, Za keep e', h') := by rw [K8, he]
theorem D8 {a b : XC} (ha : C X a e h = some (.norm, e', h')) : C X (.seq a b) e h = C X b e' h' := by rw [gx, ha]
theorem Zs {ops : List ah} {keep : List Nat} {b : XC} (he : ZF (E X) ops e h = some (e', h')) : C X (.seq (.reg ops keep) b) e h = C X b (Za keep e') h' := D8 (Ym he)
theorem ZL (a b c : XC) : C X (.seq (.seq a b) c) e h = C X (.seq a (.seq b c)) e h := by
 rw [gx, gx, gx]
 cases C X a e h with
 | none => rfl
 | some p =>
  obtain ⟨x, e1, h1⟩ := p
  cases x with
  | norm => simp only [gx]
  | exit id => rfl
  | ret => rfl
end
end Go.Proofs.YteekbciaggmfgaaDoor
namespace Go.Proofs.YteekbciaggmfgaaDoor
open Classical
set_option linter.unusedVariables false
section
variable {X : Nat → Option XK} {e e' : Env} {h h' : Zb}
theorem CC {c : Od} {a b r : XC} (hc : c.v e = .bool true) : C X (.seq (.cond c a b) r) e h = C X (.seq a r) e h := by
 rw [gx, wD, hc, gx]
theorem CF {c : Od} {a b r : XC} (hc : c.v e = .bool false) : C X (.seq (.cond c a b) r) e h = C X (.seq b r) e h := by
 rw [gx, wD, hc, gx]
def eU {α : Type} (t : Bool) (a b : α) : α := match t with | true => a | false => b
theorem Zu {α : Type} (a b : α) : eU true a b = a := rfl
theorem Zt {α : Type} (a b : α) : eU false a b = b := rfl
theorem Yi {c : Od} {a b r : XC} {t : Bool} (hc : c.v e = .bool t) : C X (.seq (.cond c a b) r) e h = eU t (C X (.seq a r) e h) (C X (.seq b r) e h) := by
 cases t
 ·exact CF hc
 ·exact CC hc
theorem Yp {c : Od} {a b : XC} {t : Bool} (hc : c.v e = .bool t) : C X (.cond c a b) e h = eU t (C X a e h) (C X b e h) := by
 rw [wD, hc]; cases t <;> rfl
theorem ZY {r : XC} : C X (.seq .skip r) e h = C X r e h := by rw [gx, Yf]
theorem Yo {r : XC} : C X (.seq .ret r) e h = some (.ret, e, h) := by rw [gx, Yl]
theorem Ye {r : XC} {id : Nat} : C X (.seq (.exit id) r) e h = some (.exit id, e, h) := by rw [gx, Yg]
noncomputable def blk (X : Nat → Option XK) (id : Nat) (r : XC) : Option (Ex × Env × Zb) → Option (Ex × Env × Zb)
 | some (.norm, e, h) => C X r e h
 | some (.exit id', e, h) => if id' = id then C X r e h else some (.exit id', e, h)
 | some (.ret, e, h) => some (.ret, e, h)
 | none => none
theorem Yq {id : Nat} {c r : XC} : C X (.seq (.block id c) r) e h = blk X id r (C X c e h) := by
 rw [gx, xZ]
 cases C X c e h with
 | none => rfl
 | some p =>
  obtain ⟨x, e1, h1⟩ := p
  cases x with
  | norm => rfl
  | exit id' =>
   by_cases hi : id' = id
   ·simp [blk, hi]
   ·simp [blk, hi]
  | ret => rfl
theorem ZP {id : Nat} {r : XC} : blk X id r (some (.norm, e, h)) = C X r e h := rfl
theorem ZU {id : Nat} {r : XC} : blk X id r (some (.ret, e, h)) = some (.ret, e, h) := rfl
theorem ZQ {id : Nat} {r : XC} : blk X id r (some (.exit id, e, h)) = C X r e h := by simp [blk]
theorem ZI {id id' : Nat} {r : XC} (hi : id' ≠ id) : blk X id r (some (.exit id', e, h)) = some (.exit id', e, h) := by simp [blk, hi]
def qu (id : Nat) : Option (Ex × Env × Zb) → Option (Ex × Env × Zb)
 | some (.exit id', e, h) => if id' = id then some (.norm, e, h) else some (.exit id', e, h)
 | r => r
theorem Yk {id : Nat} {c : XC} : C X (.block id c) e h = qu id (C X c e h) := by
 rw [xZ]
 cases C X c e h with
 | none => rfl
 | some p =>
  obtain ⟨x, e1, h1⟩ := p
  cases x <;> rfl
theorem ZG {id : Nat} : qu id (some (.norm, e, h)) = some (.norm, e, h) := rfl
theorem ZN {id : Nat} : qu id (some (.ret, e, h)) = some (.ret, e, h) := rfl
theorem ZH {id : Nat} : qu id (some (.exit id, e, h)) = some (.norm, e, h) := by simp [qu]
theorem ZE {id id' : Nat} (hi : id' ≠ id) : qu id (some (.exit id', e, h)) = some (.exit id', e, h) := by simp [qu, hi]
noncomputable def lp (X : Nat → Option XK) (c : XC) : Option (Ex × Env × Zb) → Option (Ex × Env × Zb)
 | some (.norm, e, h) => C X (.loop c) e h
 | r => r
theorem Zx {c : XC} : C X (.loop c) e h = lp X c (C X c e h) := by
 rw [J1]
 cases C X c e h with
 | none => rfl
 | some p =>
  obtain ⟨x, e1, h1⟩ := p
  cases x <;> rfl
theorem ZZ {c : XC} : lp X c (some (.norm, e, h)) = C X (.loop c) e h := rfl
theorem cQ {c : XC} : lp X c (some (.ret, e, h)) = some (.ret, e, h) := rfl
theorem ZS {c : XC} {id : Nat} : lp X c (some (.exit id, e, h)) = some (.exit id, e, h) := rfl
noncomputable def ends (r : List XRes) (h : Zb) : Option (Ex × Env × Zb) → Option (DV × Zb)
 | some (.norm, e, h') => (Yc r e h').map (fin h h')
 | some (.ret, e, h') => (Yc r e h').map (fin h h')
 | _ => none
theorem ZV {r : List XRes} : ends r h (some (.norm, e, h')) = (Yc r e h').map (fin h h') := rfl
theorem Zw {r : List XRes} : ends r h (some (.ret, e, h')) = (Yc r e h').map (fin h h') := rfl
theorem ZO {f : Nat} (n : Nat) (b : XC) (r : List XRes) {args : List DV} (hX : X f = some (.fn ⟨n, b, r⟩)) (hl : args.length = n) : E X f args h = ends r h (C X b (Ze args 0) h) := by
 rw [Ns X h hX args, if_pos hl]
 cases C X b (Ze args 0) h with
 | none => rfl
 | some p =>
  obtain ⟨x, e1, h1⟩ := p
  cases x <;> rfl
noncomputable def EQ (r : List XRes) : Option (Ex × Env × Zb) → Option (DV × Zb)
 | some (.norm, e, h') => (Yc r e h').map (iJ h')
 | some (.ret, e, h') => (Yc r e h').map (iJ h')
 | _ => none
theorem k8 {r : List XRes} : EQ r (some (.ret, e, h')) = (Yc r e h').map (iJ h') := rfl
theorem uh {f : Nat} (n : Nat) (b : XC) (r : List XRes) {args : List DV} (hX : X f = some (.fnl ⟨n, b, r⟩)) (hl : args.length = n) : E X f args h = EQ r (C X b (Ze args 0) h) := by
 rw [K6 X h hX args, if_pos hl]
 cases C X b (Ze args 0) h with
 | none => rfl
 | some p =>
  obtain ⟨x, e1, h1⟩ := p
  cases x <;> rfl
end
theorem Zy {call : cg} {d : Option Nat} {op : XOp} {e : Env} {h : Zb} : cV call ⟨d, op, none, false⟩ e h = ZR call op e h := by
 simp only [cV, wanted]
 cases ZR call op e h <;> simp
noncomputable def tC (b : Bool) (h : Zb) (p : DV × Zb) : Option (DV × Zb) := if b = true ∧ p.2.take h.length = h then some p else none
theorem Zf (h : Zb) (d : DV) : tC true h (d, h) = some (d, h) := by simp [tC]
theorem Zm (h l : Zb) (d : DV) : tC true h (d, h ++ l) = some (d, h ++ l) := by simp [tC]
@[simp] theorem frd_load (ag : Bool) (sz : Nat) (x : Od) (e : Env) : (XOp.load ag sz x).frd e = (x.v e).flat2 := rfl
@[simp] theorem frd_loadb (ag : Bool) (sz : Nat) (x : Od) (e : Env) : (XOp.loadb ag sz x).frd e = (x.v e).flat2 := rfl
@[simp] theorem frd_iaddr (sz : Nat) (x i : Od) (e : Env) : (XOp.iaddr sz x i).frd e = (x.v e).flat2 := rfl
@[simp] theorem frd_slc (sz : Nat) (x : Od) (a b c : Option Od) (e : Env) : (XOp.slc sz x a b c).frd e = (x.v e).flat2 := rfl
@[simp] theorem frd_len (sz : Nat) (x : Od) (e : Env) : (XOp.len sz x).frd e = (x.v e).flat2 := rfl
@[simp] theorem frd_tostr (x : Od) (e : Env) : (XOp.tostr x).frd e = (x.v e).flat2 := rfl
@[simp] theorem frd_mlen (x : Od) (e : Env) : (XOp.mlen x).frd e = (x.v e).flat2 := rfl
@[simp] theorem frd_mget (ag : Bool) (ks : List Nat) (z : DV) (ok : Bool) (x k : Od) (e : Env) : (XOp.mget ag ks z ok x k).frd e = (x.v e).flat2 := rfl
@[simp] theorem frd_call (f : Od) (az : List Od) (e : Env) : (XOp.call f az).frd e = true := rfl
@[simp] theorem frd_alloc (t : Nat) (z : List DV) (e : Env) : (XOp.alloc t z).frd e = true := rfl
@[simp] theorem frd_box (t : Nat) (x : Od) (e : Env) : (XOp.box t x).frd e = true := rfl
@[simp] theorem frd_store (sz : Nat) (x v : Od) (e : Env) : (XOp.store sz x v).frd e = true := rfl
@[simp] theorem frd_app (a b c : Nat) (x y : Od) (e : Env) : (XOp.app a b c x y).frd e = true := rfl
@[simp] theorem frd_make (a b c : Nat) (z : DV) (x y : Od) (e : Env) : (XOp.make a b c z x y).frd e = true := rfl
@[simp] theorem frd_mkmap (x : Option Od) (e : Env) : (XOp.mkmap x).frd e = true := rfl
@[simp] theorem frd_mset (ag : Bool) (ks : List Nat) (x y z : Od) (e : Env) : (XOp.mset ag ks x y z).frd e = true := rfl
@[simp] theorem frd_mkslice (ro : Bool) (a b : Nat) (l : List Od) (e : Env) : (XOp.mkslice ro a b l).frd e = true := rfl
@[simp] theorem frd_tobytes (x : Od) (e : Env) : (XOp.tobytes x).frd e = true := rfl
@[simp] theorem frd_mklist (a : Nat) (l : List Od) (e : Env) : (XOp.mklist a l).frd e = true := rfl
@[simp] theorem frd_appz (a b c : Nat) (z : DV) (x y : Od) (e : Env) : (XOp.appz a b c z x y).frd e = true := rfl
@[simp] theorem flat2_list (sz : Nat) (xs : List DV) (c : Bool) : (DV.list sz xs c).flat2 = true := rfl
@[simp] theorem flat2_elem (sz : Nat) (xs : List DV) (c : Bool) (a b d : Nat) : (DV.elem (.list sz xs c) a b d).flat2 = true := rfl
@[simp] theorem flat2_nils : DV.flat2 .nils = true := rfl
@[simp] theorem flat2_nilm : DV.flat2 .nilm = true := rfl
theorem ZA {call : cg} {d : Option Nat} {op : XOp} {e : Env} {h : Zb} : cV call ⟨d, op, none, true⟩ e h = (ZR call op e h).bind (tC (op.frd e) h) := by
 simp only [cV, wanted]
 cases ZR call op e h with
 | none => rfl
 | some p => by_cases hp : p.2.take h.length = h <;> cases hb : op.frd e <;> simp [tC, hp]
noncomputable def gd {α : Type} (g : DV) (b : Bool) (x y : Option α) : Option α := match g with
 | .bool t => eU (t == b) x y
 | .tup _ => y
 | _ => none
theorem Zo {α : Type} (t : Bool) (x y : Option α) : gd (.bool t) true x y = eU t x y := by cases t <;> rfl
theorem Zg {α : Type} (t : Bool) (x y : Option α) : gd (.bool t) false x y = eU t y x := by cases t <;> rfl
theorem Zz {α : Type} (l : List DV) (b : Bool) (x y : Option α) : gd (.tup l) b x y = y := rfl
theorem ZB {call : cg} {d : Option Nat} {op : XOp} {s : Nat} {b : Bool} {e : Env} {h : Zb} : cV call ⟨d, op, some (s, b), false⟩ e h = gd (lk e s) b (ZR call op e h) (some (.tup [], h)) := by
 simp only [cV, wanted, gd]
 cases lk e s with
 | bool t => cases ht : (t == b) <;> simp only [ht, eU] <;> cases ZR call op e h <;> simp
 | tup => rfl
 | _ => rfl
theorem Zp {call : cg} {d : Option Nat} {op : XOp} {s : Nat} {b : Bool} {e : Env} {h : Zb} : cV call ⟨d, op, some (s, b), true⟩ e h = gd (lk e s) b ((ZR call op e h).bind (tC (op.frd e) h)) (some (.tup [], h)) := by
 simp only [cV, wanted, gd]
 cases lk e s with
 | bool t =>
  cases ht : (t == b)
  ·simp only [ht, eU]
  ·simp only [ht, eU]
   cases ZR call op e h with
   | none => rfl
   | some p => by_cases hp : p.2.take h.length = h <;> cases hb : op.frd e <;> simp [tC, hp]
 | tup => rfl
 | _ => rfl
theorem Zi {α : Type} (b : Bool) (x y : α) : eU b (some x) (some y) = some (eU b x y) := by cases b <;> rfl
theorem Zk (b : Bool) (x y : DV) (h : Zb) : eU b (x, h) (y, h) = (eU b x y, h) := by cases b <;> rfl
theorem Zc {α : Type} (q : Bool) (x y z : α) : eU q (eU q x y) z = eU q x z := by cases q <;> rfl
theorem Zd {α : Type} (q : Bool) (x y z : α) : eU q z (eU q y x) = eU q z x := by cases q <;> rfl
theorem Zj {α : Type} (q : Bool) (x : α) : eU q x x = x := by cases q <;> rfl
theorem Zq (q a b : Bool) : eU q (DV.bool a) (DV.bool b) = DV.bool (eU q a b) := by cases q <;> rfl
theorem Zr (q a : Bool) : eU q a false = (q && a) := by cases q <;> rfl
theorem ZC (q a : Bool) : eU q true a = (q || a) := by cases q <;> rfl
theorem Zh (c a b : Od) (e : Env) (h : Zb) : Yj (.pick c a b) e h = match c.v e with | .bool t => some (eU t (a.v e) (b.v e), h) | _ => none := by
 rw [Yj]
 cases c.v e with
 | bool t => cases t <;> rfl
 | _ => rfl
theorem dD (n k : Nat) : (n + k < n) = False := by simp
theorem Zl (h : Zb) (ag : Bool) (sz o p : Nat) : ay h ag sz (.ref o p) = match h[o]? with
 | some (.box _ cs) => Yv ag sz cs p
 | _ => none := rfl
theorem Zn (h : Zb) (sz o p : Nat) (v : DV) : stx h sz (.ref o p) v = if v.cells.length = sz ∧ v.cells.all DV.one = true then (match h[o]? with
 | some (.box t cs) => if p + sz ≤ cs.length then some (h.set o (.box t (splice cs p v.cells))) else none
 | _ => none) else none := rfl
theorem ae (h l : Zb) (i : Nat) : (h ++ l)[h.length + i]? = l[i]? := by
 rw [List.getElem?_append_right (by omega)]; congr 1; omega
theorem ZJ (h l : Zb) : (h ++ l)[h.length]? = l[0]? := by
 rw [List.getElem?_append_right (by omega)]; congr 1; omega
theorem ZX (h l : Zb) (i : Nat) (x : HO) : (h ++ l).set (h.length + i) x = h ++ l.set i x := by
 have := List.set_append (s := h) (t := l) (i := h.length + i) (x := x)
 simp only [this, if_neg (show ¬ h.length + i < h.length by omega)]; congr 2; omega
theorem ZK (h l : Zb) (x : HO) : (h ++ l).set h.length x = h ++ l.set 0 x := by
 have := List.set_append (s := h) (t := l) (i := h.length) (x := x)
 simp only [this, if_neg (show ¬ h.length < h.length by omega)]; congr 2; omega
def DV.plain : DV → Bool
 | .bool _ | .int _ _ | .str _ | .nilp | .nils | .nilm | .nilf | .nili | .list _ _ _ => true
 | _ => false
theorem eS (n : Nat) (h : Zb) (top : Bool) {d : DV} (hd : d.plain = true) : aO n h top d = some (d, h) := by
 cases d <;> simp_all [DV.plain, aO, aV]
theorem y9 (h l : Zb) {d : DV} (hd : d.plain = true) : fin h (h ++ l) [d] = (d, h) := by
 simp [fin, eS _ _ _ hd]
theorem vK (h l : Zb) {d d' : DV} (hd : d.plain = true) (hd' : d'.plain = true) : fin h (h ++ l) [d, d'] = (.tup [d, d'], h) := by
 simp [fin, bH, eS _ _ _ hd, eS _ _ _ hd']
theorem k7 (h : Zb) {d d' : DV} (hd : d.plain = true) (hd' : d'.plain = true) : fin h h [d, d'] = (.tup [d, d'], h) := by
 simp [fin, bH, eS _ _ _ hd, eS _ _ _ hd']
theorem bz (b : Bool) : DV.one (.bool b) = true := rfl
theorem bR (k : IntKind) (n : Int) : DV.one (.int k n) = true := rfl
theorem bL (s : ByteArray) : DV.one (.str s) = true := rfl
theorem bf : DV.one (.nilp) = true := rfl
theorem bP (o p : Nat) : DV.one (.ref o p) = true := rfl
theorem bu (d : DV) (s i p : Nat) : DV.one (.elem d s i p) = true := rfl
theorem aZ : DV.one (.nils) = true := rfl
theorem bn (s : Nat) (xs : List DV) (c : Bool) : DV.one (.list s xs c) = true := rfl
theorem bN (o g l n : Nat) (c : Bool) : DV.one (.row o g l n c) = true := rfl
theorem bg : DV.one (.nilm) = true := rfl
theorem bQ (o : Nat) : DV.one (.map o) = true := rfl
theorem bj : DV.one (.nilf) = true := rfl
theorem bq (f : Nat) (a b : List DV) : DV.one (.func f a b) = true := rfl
theorem bh : DV.one (.nili) = true := rfl
theorem bU (t : Nat) (v : DV) : DV.one (.ifc t v) = true := rfl
theorem bV (cs : List DV) : DV.one (.agg cs) = false := rfl
theorem bK (vs : List DV) : DV.one (.tup vs) = false := rfl
theorem aQ : DV.one (.undef) = false := rfl
theorem aR (e s : Nat) (xs : List DV) : DV.one (.fresh e s xs) = false := rfl
end Go.Proofs.YteekbciaggmfgaaDoor
namespace Go.Proofs.YteekbciaggmfgaaDoor
theorem wrap64 (n : Int) (h1 : -9223372036854775808 ≤ n) (h2 : n ≤ 9223372036854775807) : IntKind.i64.wrap n = n := by
 have e : IntKind.i64.wrap n = if n % 18446744073709551616 ≥ 9223372036854775808 then n % 18446744073709551616 - 18446744073709551616 else n % 18446744073709551616 := by
  simp [IntKind.wrap, IntKind.bits, IntKind.signed]
 rw [e]
 split <;> omega
theorem wr {a b : Int} (h1 : -9223372036854775808 ≤ a := by omega) (h2 : a ≤ 9223372036854775807 := by omega) (h3 : a = b := by omega) : IntKind.i64.wrap a = b := by
 rw [wrap64 a h1 h2]; exact h3
end Go.Proofs.YteekbciaggmfgaaDoor
namespace Go.Proofs.YteekbciaggmfgaaDoor
attribute [local go_sem] ZF Zy ZA ZB Zp Zf Zm Zi Zk Zc Zd Zj Zq Zr ZC Zo Zg Zz Zu Zt ZR Zv Yj put lk Od.v Za Ze Zl Yv Yb Ya Yd ai Yt DV.isU DV.cells ae ZJ ZX ZK Zn splice ZM af ZT Ys bz bR bL bf bP bu aZ bn bN bg bQ bj bq bh bU bV bK aQ aR
attribute [local go_sem ↓] Zh
set_option linter.unusedVariables false
set_option linter.unusedSimpArgs false
set_option maxRecDepth 100000
def vV : List DV := jc.map (.int .u8)
def F1 : XC := .seq (.reg [⟨some 2, .mov (.c (.int .i64 0)), none, false⟩] [0]) (.seq (.seq (.reg [⟨some 3, .mov (.t 0), none, false⟩, ⟨some 4, .bin .eql (.t 3) (.c (.int .u64 0)), none, false⟩] [0, 4]) (.cond (.t 4) (.seq (.reg [⟨some 2, .mov (.c (.int .i64 64)), none, false⟩] [2]) .ret) .skip)) (.seq (.reg [⟨some 5, .mov (.t 0), none, false⟩, ⟨some 6, .mov (.t 0), none, false⟩, ⟨some 7, .un .neg (.t 6), none, false⟩, ⟨some 8, .bin .and (.t 5) (.t 7), none, false⟩, ⟨some 9, .bin .mul (.t 8) (.c (.int .u64 285870213051353865)), none, false⟩, ⟨some 10, .bin .shr (.t 9) (.c (.int .u64 58)), none, false⟩, ⟨some 11, .iaddra 64 1 (.c (.elem (.list 64 [.agg vV] true) 64 0 0)) (.t 10), none, false⟩, ⟨some 12, .load false 1 (.t 11), none, false⟩, ⟨some 13, .toint .i64 (.t 12), none, false⟩, ⟨some 2, .mov (.t 13), none, false⟩] [2]) .ret))
def La : XF := ⟨1, F1, [.t 2]⟩
def Lb : Hints := fun id => match id with
 | 0 => [0]
 | 1 => [0, 4]
 | 2 => [2]
 | 3 => [2]
 | _ => []
theorem Mg : xO Tryd.prog Lb Tryd.f57 = some La := by kernel_rfl
def X0 : Nat → Option XK := fun f => match f with
 | 57 => some (.fn La)
 | _ => none
def Im : Nat → Hints := fun f => match f with
 | 57 => Lb
 | _ => fun _ => []
theorem Ga : Sound Tryd.prog X0 Im where
 mixed := by kernel_rfl
 fnl f x h := by unfold X0 at h; split at h <;> first | (injection h with h; cases h) | cases h
 ext f g h := by unfold X0 at h; split at h <;> first | cases h
 fn f x h := by
  unfold X0 at h
  split at h
  ·injection h with h; injection h with h; subst h; exact ⟨Tryd.f57, by kernel_rfl, Mg⟩
  ·cases h
theorem fB (n : Nat) : IntKind.u64.wrap (n : Int) = ((n % 18446744073709551616 : Nat) : Int) := by
 simp [IntKind.wrap, IntKind.bits, IntKind.signed]
theorem BJ : 2 ^ IntKind.u64.bits = 18446744073709551616 := rfl
theorem E8 {a b : Nat} (ha : a < 18446744073709551616) (hb : b < 18446744073709551616) : IntKind.u64.wrap ((a % 2 ^ IntKind.u64.bits &&& b % 2 ^ IntKind.u64.bits : Nat) : Int) = ((a &&& b : Nat) : Int) := by
 rw [BJ, Nat.mod_eq_of_lt ha, Nat.mod_eq_of_lt hb, fB, Nat.mod_eq_of_lt]
 exact Nat.lt_of_le_of_lt Nat.and_le_right hb
theorem Aj : ∀ (n u : Nat), u ≤ n → 0 < u → ∃ t m, u = 2 ^ t * (2 * m + 1) := by
 intro n
 induction n with
 | zero => intro u h h0; omega
 | succ n ih =>
  intro u h h0
  by_cases e : u % 2 = 1
  ·exact ⟨0, u / 2, by omega⟩
  ·obtain ⟨t, m, hm⟩ := ih (u / 2) (by omega) (by omega)
   refine ⟨t + 1, m, ?_⟩
   have : u = 2 * (u / 2) := by omega
   rw [this, hm, Nat.pow_succ]
   generalize 2 ^ t = p
   rw [Nat.mul_comm p 2, Nat.mul_assoc]
theorem jh (t m j : Nat) : (2 ^ t * (2 * m + 1)).testBit j = (decide (t = j) || (decide (t < j) && m.testBit (j - (t + 1)))) := by
 have h := Nat.testBit_two_pow_mul_add (i := t) (2 * m + 1) (b := 0) (Nat.two_pow_pos t) j
 rw [Nat.add_zero] at h
 rw [h]
 by_cases c : j < t
 ·rw [if_pos c]
  have h1 : ¬ t = j := by omega
  have h2 : ¬ t < j := by omega
  simp [h1, h2]
 ·rw [if_neg c]
  by_cases d : t = j
  ·subst d; simp
  ·have h2 : t < j := by omega
   obtain ⟨i, rfl⟩ : ∃ i, j = t + 1 + i := ⟨j - (t + 1), by omega⟩
   rw [show t + 1 + i - t = i + 1 by omega, show t + 1 + i - (t + 1) = i by omega, Nat.testBit_succ, show (2 * m + 1) / 2 = m by omega]
   simp [d, h2]
theorem uR (t m j : Nat) : (2 ^ t * (2 * m + 1) - 1).testBit j = (decide (j < t) || (decide (t < j) && m.testBit (j - (t + 1)))) := by
 have hp := Nat.two_pow_pos t
 have e : 2 ^ t * (2 * m + 1) - 1 = 2 ^ t * (2 * m) + (2 ^ t - 1) := by rw [Nat.mul_add, Nat.mul_one]; omega
 rw [e, Nat.testBit_two_pow_mul_add (i := t) (2 * m) (b := 2 ^ t - 1) (by omega) j]
 by_cases c : j < t
 ·rw [if_pos c, Nat.testBit_two_pow_sub_one]; simp [c]
 ·rw [if_neg c]
  by_cases d : t = j
  ·subst d; simp
  ·have h2 : t < j := by omega
   obtain ⟨i, rfl⟩ : ∃ i, j = t + 1 + i := ⟨j - (t + 1), by omega⟩
   rw [show t + 1 + i - t = i + 1 by omega, show t + 1 + i - (t + 1) = i by omega, Nat.testBit_succ, show (2 * m) / 2 = m by omega]
   simp [c, h2]
theorem kF (t m j : Nat) : ((2 ^ t * (2 * m + 1)) &&& (2 ^ t * (2 * m + 1) - 1)).testBit j = ((2 ^ t * (2 * m + 1)).testBit j && !decide (t = j)) := by
 rw [Nat.testBit_and, uR, jh]
 by_cases d : t = j
 ·subst d; simp
 ·by_cases c : j < t
  ·have h2 : ¬ t < j := by omega
   simp [d, c, h2]
  ·simp [d, c]
theorem wH {u : Nat} (h : 0 < u) : (u &&& (u - 1)) < u := Nat.lt_of_le_of_lt Nat.and_le_right (by omega)
theorem Fz {t m : Nat} (h : 2 ^ t * (2 * m + 1) < 18446744073709551616) : (2 ^ t * (2 * m + 1)) &&& (18446744073709551616 - 2 ^ t * (2 * m + 1)) = 2 ^ t := by
 apply Nat.eq_of_testBit_eq
 intro j
 have hp := Nat.two_pow_pos t
 have e : 18446744073709551616 - 2 ^ t * (2 * m + 1) = 2 ^ 64 - (2 ^ t * (2 * m + 1) - 1 + 1) := by
  have : 0 < 2 ^ t * (2 * m + 1) := Nat.mul_pos hp (by omega)
  omega
 rw [e, Nat.testBit_and, Nat.testBit_two_pow_sub_succ (by omega), uR, jh, Nat.testBit_two_pow]
 by_cases d : t = j
 ·subst d
  have : t < 64 := by
   refine Nat.lt_of_not_le fun hc => ?_
   have : 2 ^ 64 ≤ 2 ^ t := Nat.pow_le_pow_right (by omega) hc
   have : 2 ^ t * 1 ≤ 2 ^ t * (2 * m + 1) := Nat.mul_le_mul_left _ (by omega)
   omega
  simp [this]
 ·by_cases c : j < t
  ·have h2 : ¬ t < j := by omega
   simp [d, c, h2]
  ·have h2 : t < j := by omega
   simp [d, h2]
   exact fun a _ _ => a
theorem uy {t m : Nat} (h : 2 ^ t * (2 * m + 1) < 18446744073709551616) : t < 64 := by
 refine Nat.lt_of_not_le fun hc => ?_
 have : 2 ^ 64 ≤ 2 ^ t := Nat.pow_le_pow_right (by omega) hc
 have : 2 ^ t * 1 ≤ 2 ^ t * (2 * m + 1) := Nat.mul_le_mul_left _ (by omega)
 omega
theorem F0 : ∀ t : Nat, t < 64 → jc[(2 ^ t * 285870213051353865 % 18446744073709551616) / 288230376151711744]? = some (t : Int) := by decide
def iF (k u : Nat) : List Nat := ((List.range 64).filter fun j => u.testBit j).map fun j => k * 64 + j
theorem x9 (k : Nat) : iF k 0 = [] := by simp [iF]
theorem zD (k t m : Nat) (h : t < 64) : iF k (2 ^ t * (2 * m + 1)) = (k * 64 + t) :: iF k ((2 ^ t * (2 * m + 1)) &&& (2 ^ t * (2 * m + 1) - 1)) := by
 have hr : List.range 64 = List.range t ++ t :: (List.range (63 - t)).map fun j => t + 1 + j := by
  apply List.ext_getElem?
  intro i
  by_cases c : i < t
  ·rw [List.getElem?_append_left (by simpa using c), List.getElem?_range c, List.getElem?_range (by omega)]
  ·rw [List.getElem?_append_right (by simp; omega)]
   by_cases d : i = t
   ·subst d; simp [h]
   ·obtain ⟨l, rfl⟩ : ∃ l, i = t + 1 + l := ⟨i - (t + 1), by omega⟩
    rw [show t + 1 + l - (List.range t).length = l + 1 by simp; omega, List.getElem?_cons_succ]
    by_cases e : l < 63 - t
    ·rw [List.getElem?_map, List.getElem?_range e, List.getElem?_range (by omega)]; rfl
    ·rw [List.getElem?_eq_none (by simp; omega), List.getElem?_eq_none (by simp; omega)]
 have f1 : (List.range t).filter (fun j => (2 ^ t * (2 * m + 1)).testBit j) = [] := by
  rw [List.filter_eq_nil_iff]
  intro j hj
  rw [List.mem_range] at hj
  rw [jh]
  have h1 : ¬ t = j := by omega
  have h2 : ¬ t < j := by omega
  simp [h1, h2]
 have f2 : (List.range t).filter (fun j => ((2 ^ t * (2 * m + 1)) &&& (2 ^ t * (2 * m + 1) - 1)).testBit j) = [] := by
  rw [List.filter_eq_nil_iff]
  intro j hj
  rw [List.mem_range] at hj
  rw [kF, jh]
  have h1 : ¬ t = j := by omega
  have h2 : ¬ t < j := by omega
  simp [h1, h2]
 have f3 : ((List.range (63 - t)).map fun j => t + 1 + j).filter (fun j => ((2 ^ t * (2 * m + 1)) &&& (2 ^ t * (2 * m + 1) - 1)).testBit j) = ((List.range (63 - t)).map fun j => t + 1 + j).filter (fun j => (2 ^ t * (2 * m + 1)).testBit j) := by
  refine List.filter_congr ?_
  intro j hj
  obtain ⟨l, _, rfl⟩ := List.mem_map.1 hj
  rw [kF]
  have h1 : ¬ t = t + 1 + l := by omega
  simp [h1]
 have g1 : (2 ^ t * (2 * m + 1)).testBit t = true := by rw [jh]; simp
 have g2 : ((2 ^ t * (2 * m + 1)) &&& (2 ^ t * (2 * m + 1) - 1)).testBit t = false := by rw [kF]; simp
 unfold iF
 rw [hr, List.filter_append, List.filter_append, f1, f2, List.filter_cons, List.filter_cons, g1, g2, f3]
 simp
theorem Je {i : Nat} {t : Int} (h : jc[i]? = some t) : vV[i]? = some (.int .u8 t) := by
 rw [vV, List.getElem?_map, h]; rfl
theorem Jd (h : Zb) {i : Nat} {t : Int} (hi : i < 64) (ht : jc[i]? = some t) : ay h false 1 (.elem (.list 64 [.agg vV] true) 64 0 i) = some (.int .u8 t) := by
 simp [ay, vw, DV.cells, Yv, Je ht]
theorem pV {call : cg} {d : Option Nat} {op : XOp} {l : List ah} {e : Env} {h h' : Zb} {v : DV} (h1 : ZR call op e h = some (v, h')) : ZF call (⟨d, op, none, false⟩ :: l) e h = ZF call l (put d v e) h' := by
 simp only [ZF, Zy, h1]
theorem Ks {t m : Nat} (h : 2 ^ t * (2 * m + 1) < 18446744073709551616) (H : Zb) : E X0 57 [.int .u64 ((2 ^ t * (2 * m + 1) : Nat) : Int)] H = some (.int .i64 (t : Int), H) := by
 have h1 := Fz h
 have h2 := uy h
 have h3 := F0 t h2
 have h4 : 0 < 2 ^ t * (2 * m + 1) := Nat.mul_pos (Nat.two_pow_pos t) (by omega)
 have vo : 2 ^ t < 18446744073709551616 := Nat.pow_lt_pow_right (by omega : 1 < 2) h2
 generalize hu : 2 ^ t * (2 * m + 1) = u at h h1 h4 ⊢
 obtain ⟨P, hP⟩ : ∃ P, P = 2 ^ t := ⟨_, rfl⟩
 rw [← hP] at h1 h3 vo
 obtain ⟨N, hN⟩ : ∃ N, N = 18446744073709551616 - u := ⟨_, rfl⟩
 rw [← hN] at h1
 obtain ⟨M, hM⟩ : ∃ M, M = P * 285870213051353865 % 18446744073709551616 := ⟨_, rfl⟩
 rw [← hM] at h3
 obtain ⟨I, hI⟩ : ∃ I, I = M / 288230376151711744 := ⟨_, rfl⟩
 rw [← hI] at h3
 have OH : I < 64 := by omega
 have w1 : IntKind.u64.wrap (-(u : Int)) = (N : Int) := by
  have e : IntKind.u64.wrap (-(u : Int)) = (-(u : Int)) % 18446744073709551616 := by simp [IntKind.wrap, IntKind.bits, IntKind.signed]
  rw [e]; omega
 have w2 := E8 h (show N < 18446744073709551616 by omega)
 rw [h1] at w2
 have w3 : IntKind.u64.wrap ((P : Int) * 285870213051353865) = (M : Int) := by
  rw [show (P : Int) * 285870213051353865 = ((P * 285870213051353865 : Nat) : Int) by simp, fB, hM]
 have w4 : ((M : Int)).fdiv (2 ^ min 58 IntKind.u64.bits) = (I : Int) := by
  rw [show (2 : Int) ^ min 58 IntKind.u64.bits = 288230376151711744 by simp [IntKind.bits], hI, Int.fdiv_eq_ediv_of_nonneg _ (by omega)]
  omega
 have w5 : IntKind.i64.wrap (t : Int) = (t : Int) := wrap64 _ (by omega) (by omega)
 have l1 := Jd H OH h3
 have c0 : ((u : Int) == 0) = false := beq_false_of_ne (by omega)
 have c1 : ¬ u = 0 := by omega
 have c2 : (0 : Int) ≤ I ∧ (I : Int) < 64 := by omega
 clear h1 h3 hP hM hI hN
 rw [ZO (X := X0) _ F1 _ rfl rfl]; unfold F1
 rw [Zs (by simp [go_sem]; exact ⟨rfl, rfl⟩)]
 rw [ZL]
 rw [Zs (by simp [go_sem, c0, c1]; exact ⟨rfl, rfl⟩)]
 rw [Yi (by simp [lk, Za, Od.v, c0, c1]; exact rfl)]
 rw [Zt]
 rw [ZY]
 have hE : ∀ q : Env, lk q 0 = .int .u64 u → ∃ e', ZF (E X0) [⟨some 5, .mov (.t 0), none, false⟩, ⟨some 6, .mov (.t 0), none, false⟩, ⟨some 7, .un .neg (.t 6), none, false⟩, ⟨some 8, .bin .and (.t 5) (.t 7), none, false⟩, ⟨some 9, .bin .mul (.t 8) (.c (.int .u64 285870213051353865)), none, false⟩, ⟨some 10, .bin .shr (.t 9) (.c (.int .u64 58)), none, false⟩, ⟨some 11, .iaddra 64 1 (.c (.elem (.list 64 [.agg vV] true) 64 0 0)) (.t 10), none, false⟩, ⟨some 12, .load false 1 (.t 11), none, false⟩, ⟨some 13, .toint .i64 (.t 12), none, false⟩, ⟨some 2, .mov (.t 13), none, false⟩] q H = some (e', H) ∧ lk e' 2 = .int .i64 t := by
  intro q hq
  refine ⟨(2, .int .i64 t) :: (13, .int .i64 t) :: (12, .int .u8 t) :: (11, .elem (.list 64 [.agg vV] true) 64 0 I) :: (10, .int .u64 I) :: (9, .int .u64 M) :: (8, .int .u64 P) :: (7, .int .u64 N) :: (6, .int .u64 u) :: (5, .int .u64 u) :: q, ?_, ?_⟩
  ·rw [pV (v := .int .u64 u) (h' := H) (by simp [ZR, Zv, Yj, Od.v, hq])]
   rw [pV (v := .int .u64 u) (h' := H) (by simp [ZR, Zv, Yj, Od.v, hq, put, lk])]
   rw [pV (v := .int .u64 N) (h' := H) (by simp [ZR, Zv, Yj, Od.v, put, lk, ai, w1])]
   rw [pV (v := .int .u64 P) (h' := H) (by simp [ZR, Zv, Yj, Od.v, put, lk, Yb, Ya, w2])]
   rw [pV (v := .int .u64 M) (h' := H) (by simp [ZR, Zv, Yj, Od.v, put, lk, Yb, Ya, w3])]
   rw [pV (v := .int .u64 I) (h' := H) (by simp [ZR, Zv, Yj, Od.v, put, lk, Yb, Ya, w4])]
   rw [pV (v := .elem (.list 64 [.agg vV] true) 64 0 I) (h' := H) (by simp [ZR, Zv, Yj, Od.v, put, lk, c2])]
   rw [pV (v := .int .u8 t) (h' := H) (by simp [ZR, Zv, Yj, Od.v, put, lk, l1])]
   rw [pV (v := .int .i64 t) (h' := H) (by simp [ZR, Zv, Yj, Od.v, put, lk, w5])]
   rw [pV (v := .int .i64 t) (h' := H) (by simp [ZR, Zv, Yj, Od.v, put, lk])]
   rfl
  ·simp [put, lk]
 obtain ⟨e', Ol, xu⟩ := hE (Za [0, 4] [(4, .bool false), (3, .int .u64 u), (0, .int .u64 u)]) (by simp [Za, lk])
 rw [Zs Ol, Yl]
 simp [Zw, Yc, Za, lk, fin, aO, aV, xu]
end Go.Proofs.YteekbciaggmfgaaDoor
namespace Go.Proofs.YteekbciaggmfgaaDoor
set_option linter.unusedVariables false
theorem cC {p0 p1 : Prop} (a0 : p0) (a1 : p1) : p0 ∧ p1 := ⟨a0, a1⟩
theorem ew {p0 p1 p2 : Prop} (a0 : p0) (a1 : p1) (a2 : p2) : p0 ∧ p1 ∧ p2 := ⟨a0, a1, a2⟩
theorem d8 {p0 p1 p2 p3 : Prop} (a0 : p0) (a1 : p1) (a2 : p2) (a3 : p3) : p0 ∧ p1 ∧ p2 ∧ p3 := ⟨a0, a1, a2, a3⟩
theorem mh {p0 p1 p2 p3 p4 : Prop} (a0 : p0) (a1 : p1) (a2 : p2) (a3 : p3) (a4 : p4) : p0 ∧ p1 ∧ p2 ∧ p3 ∧ p4 := ⟨a0, a1, a2, a3, a4⟩
theorem jP {p0 p1 p2 p3 p4 p5 : Prop} (a0 : p0) (a1 : p1) (a2 : p2) (a3 : p3) (a4 : p4) (a5 : p5) : p0 ∧ p1 ∧ p2 ∧ p3 ∧ p4 ∧ p5 := ⟨a0, a1, a2, a3, a4, a5⟩
theorem kE {p0 p1 p2 p3 p4 p5 p6 : Prop} (a0 : p0) (a1 : p1) (a2 : p2) (a3 : p3) (a4 : p4) (a5 : p5) (a6 : p6) : p0 ∧ p1 ∧ p2 ∧ p3 ∧ p4 ∧ p5 ∧ p6 := ⟨a0, a1, a2, a3, a4, a5, a6⟩
theorem gN {p0 p1 p2 p3 p4 p5 p6 p7 : Prop} (a0 : p0) (a1 : p1) (a2 : p2) (a3 : p3) (a4 : p4) (a5 : p5) (a6 : p6) (a7 : p7) : p0 ∧ p1 ∧ p2 ∧ p3 ∧ p4 ∧ p5 ∧ p6 ∧ p7 := ⟨a0, a1, a2, a3, a4, a5, a6, a7⟩
theorem jC {p0 p1 p2 p3 p4 p5 p6 p7 p8 : Prop} (a0 : p0) (a1 : p1) (a2 : p2) (a3 : p3) (a4 : p4) (a5 : p5) (a6 : p6) (a7 : p7) (a8 : p8) : p0 ∧ p1 ∧ p2 ∧ p3 ∧ p4 ∧ p5 ∧ p6 ∧ p7 ∧ p8 := ⟨a0, a1, a2, a3, a4, a5, a6, a7, a8⟩
theorem eY {p0 p1 p2 p3 p4 p5 p6 p7 p8 p9 : Prop} (a0 : p0) (a1 : p1) (a2 : p2) (a3 : p3) (a4 : p4) (a5 : p5) (a6 : p6) (a7 : p7) (a8 : p8) (a9 : p9) : p0 ∧ p1 ∧ p2 ∧ p3 ∧ p4 ∧ p5 ∧ p6 ∧ p7 ∧ p8 ∧ p9 := ⟨a0, a1, a2, a3, a4, a5, a6, a7, a8, a9⟩
theorem eJ {p0 p1 p2 p3 p4 p5 p6 p7 p8 p9 cu : Prop} (a0 : p0) (a1 : p1) (a2 : p2) (a3 : p3) (a4 : p4) (a5 : p5) (a6 : p6) (a7 : p7) (a8 : p8) (a9 : p9) (ey : cu) : p0 ∧ p1 ∧ p2 ∧ p3 ∧ p4 ∧ p5 ∧ p6 ∧ p7 ∧ p8 ∧ p9 ∧ cu := ⟨a0, a1, a2, a3, a4, a5, a6, a7, a8, a9, ey⟩
theorem lm {p0 p1 p2 p3 p4 p5 p6 p7 p8 p9 cu cO : Prop} (a0 : p0) (a1 : p1) (a2 : p2) (a3 : p3) (a4 : p4) (a5 : p5) (a6 : p6) (a7 : p7) (a8 : p8) (a9 : p9) (ey : cu) (eK : cO) : p0 ∧ p1 ∧ p2 ∧ p3 ∧ p4 ∧ p5 ∧ p6 ∧ p7 ∧ p8 ∧ p9 ∧ cu ∧ cO := ⟨a0, a1, a2, a3, a4, a5, a6, a7, a8, a9, ey, eK⟩
theorem mU {p0 p1 p2 p3 p4 p5 p6 p7 p8 p9 cu cO cZ : Prop} (a0 : p0) (a1 : p1) (a2 : p2) (a3 : p3) (a4 : p4) (a5 : p5) (a6 : p6) (a7 : p7) (a8 : p8) (a9 : p9) (ey : cu) (eK : cO) (a12 : cZ) : p0 ∧ p1 ∧ p2 ∧ p3 ∧ p4 ∧ p5 ∧ p6 ∧ p7 ∧ p8 ∧ p9 ∧ cu ∧ cO ∧ cZ := ⟨a0, a1, a2, a3, a4, a5, a6, a7, a8, a9, ey, eK, a12⟩
theorem Ng {p0 p1 p2 p3 p4 p5 p6 p7 p8 p9 cu cO cZ dw : Prop} (a0 : p0) (a1 : p1) (a2 : p2) (a3 : p3) (a4 : p4) (a5 : p5) (a6 : p6) (a7 : p7) (a8 : p8) (a9 : p9) (ey : cu) (eK : cO) (a12 : cZ) (ga : dw) : p0 ∧ p1 ∧ p2 ∧ p3 ∧ p4 ∧ p5 ∧ p6 ∧ p7 ∧ p8 ∧ p9 ∧ cu ∧ cO ∧ cZ ∧ dw := ⟨a0, a1, a2, a3, a4, a5, a6, a7, a8, a9, ey, eK, a12, ga⟩
theorem zc {p0 p1 p2 p3 p4 p5 p6 p7 p8 p9 cu cO cZ dw dQ : Prop} (a0 : p0) (a1 : p1) (a2 : p2) (a3 : p3) (a4 : p4) (a5 : p5) (a6 : p6) (a7 : p7) (a8 : p8) (a9 : p9) (ey : cu) (eK : cO) (a12 : cZ) (ga : dw) (gQ : dQ) : p0 ∧ p1 ∧ p2 ∧ p3 ∧ p4 ∧ p5 ∧ p6 ∧ p7 ∧ p8 ∧ p9 ∧ cu ∧ cO ∧ cZ ∧ dw ∧ dQ := ⟨a0, a1, a2, a3, a4, a5, a6, a7, a8, a9, ey, eK, a12, ga, gQ⟩
theorem vM {p0 p1 p2 p3 p4 p5 p6 p7 p8 p9 cu cO cZ dw dQ eo : Prop} (a0 : p0) (a1 : p1) (a2 : p2) (a3 : p3) (a4 : p4) (a5 : p5) (a6 : p6) (a7 : p7) (a8 : p8) (a9 : p9) (ey : cu) (eK : cO) (a12 : cZ) (ga : dw) (gQ : dQ) (iN : eo) : p0 ∧ p1 ∧ p2 ∧ p3 ∧ p4 ∧ p5 ∧ p6 ∧ p7 ∧ p8 ∧ p9 ∧ cu ∧ cO ∧ cZ ∧ dw ∧ dQ ∧ eo := ⟨a0, a1, a2, a3, a4, a5, a6, a7, a8, a9, ey, eK, a12, ga, gQ, iN⟩
theorem zb {p0 p1 p2 p3 p4 p5 p6 p7 p8 p9 cu cO cZ dw dQ eo p16 : Prop} (a0 : p0) (a1 : p1) (a2 : p2) (a3 : p3) (a4 : p4) (a5 : p5) (a6 : p6) (a7 : p7) (a8 : p8) (a9 : p9) (ey : cu) (eK : cO) (a12 : cZ) (ga : dw) (gQ : dQ) (iN : eo) (a16 : p16) : p0 ∧ p1 ∧ p2 ∧ p3 ∧ p4 ∧ p5 ∧ p6 ∧ p7 ∧ p8 ∧ p9 ∧ cu ∧ cO ∧ cZ ∧ dw ∧ dQ ∧ eo ∧ p16 := ⟨a0, a1, a2, a3, a4, a5, a6, a7, a8, a9, ey, eK, a12, ga, gQ, iN, a16⟩
theorem za {p0 p1 p2 p3 p4 p5 p6 p7 p8 p9 cu cO cZ dw dQ eo p16 fH : Prop} (a0 : p0) (a1 : p1) (a2 : p2) (a3 : p3) (a4 : p4) (a5 : p5) (a6 : p6) (a7 : p7) (a8 : p8) (a9 : p9) (ey : cu) (eK : cO) (a12 : cZ) (ga : dw) (gQ : dQ) (iN : eo) (a16 : p16) (a17 : fH) : p0 ∧ p1 ∧ p2 ∧ p3 ∧ p4 ∧ p5 ∧ p6 ∧ p7 ∧ p8 ∧ p9 ∧ cu ∧ cO ∧ cZ ∧ dw ∧ dQ ∧ eo ∧ p16 ∧ fH := ⟨a0, a1, a2, a3, a4, a5, a6, a7, a8, a9, ey, eK, a12, ga, gQ, iN, a16, a17⟩
theorem sK {p0 p1 p2 p3 p4 p5 p6 p7 p8 p9 cu cO cZ dw dQ eo p16 fH iu : Prop} (a0 : p0) (a1 : p1) (a2 : p2) (a3 : p3) (a4 : p4) (a5 : p5) (a6 : p6) (a7 : p7) (a8 : p8) (a9 : p9) (ey : cu) (eK : cO) (a12 : cZ) (ga : dw) (gQ : dQ) (iN : eo) (a16 : p16) (a17 : fH) (mD : iu) : p0 ∧ p1 ∧ p2 ∧ p3 ∧ p4 ∧ p5 ∧ p6 ∧ p7 ∧ p8 ∧ p9 ∧ cu ∧ cO ∧ cZ ∧ dw ∧ dQ ∧ eo ∧ p16 ∧ fH ∧ iu := ⟨a0, a1, a2, a3, a4, a5, a6, a7, a8, a9, ey, eK, a12, ga, gQ, iN, a16, a17, mD⟩
theorem vL {p0 p1 p2 p3 p4 p5 p6 p7 p8 p9 cu cO cZ dw dQ eo p16 fH iu jj : Prop} (a0 : p0) (a1 : p1) (a2 : p2) (a3 : p3) (a4 : p4) (a5 : p5) (a6 : p6) (a7 : p7) (a8 : p8) (a9 : p9) (ey : cu) (eK : cO) (a12 : cZ) (ga : dw) (gQ : dQ) (iN : eo) (a16 : p16) (a17 : fH) (mD : iu) (o5 : jj) : p0 ∧ p1 ∧ p2 ∧ p3 ∧ p4 ∧ p5 ∧ p6 ∧ p7 ∧ p8 ∧ p9 ∧ cu ∧ cO ∧ cZ ∧ dw ∧ dQ ∧ eo ∧ p16 ∧ fH ∧ iu ∧ jj := ⟨a0, a1, a2, a3, a4, a5, a6, a7, a8, a9, ey, eK, a12, ga, gQ, iN, a16, a17, mD, o5⟩
theorem sJ {p0 p1 p2 p3 p4 p5 p6 p7 p8 p9 cu cO cZ dw dQ eo p16 fH iu jj kS : Prop} (a0 : p0) (a1 : p1) (a2 : p2) (a3 : p3) (a4 : p4) (a5 : p5) (a6 : p6) (a7 : p7) (a8 : p8) (a9 : p9) (ey : cu) (eK : cO) (a12 : cZ) (ga : dw) (gQ : dQ) (iN : eo) (a16 : p16) (a17 : fH) (mD : iu) (o5 : jj) (a20 : kS) : p0 ∧ p1 ∧ p2 ∧ p3 ∧ p4 ∧ p5 ∧ p6 ∧ p7 ∧ p8 ∧ p9 ∧ cu ∧ cO ∧ cZ ∧ dw ∧ dQ ∧ eo ∧ p16 ∧ fH ∧ iu ∧ jj ∧ kS := ⟨a0, a1, a2, a3, a4, a5, a6, a7, a8, a9, ey, eK, a12, ga, gQ, iN, a16, a17, mD, o5, a20⟩
theorem Dn {p0 p1 p2 p3 p4 p5 p6 p7 p8 p9 cu cO cZ dw dQ eo p16 fH iu jj kS nP : Prop} (a0 : p0) (a1 : p1) (a2 : p2) (a3 : p3) (a4 : p4) (a5 : p5) (a6 : p6) (a7 : p7) (a8 : p8) (a9 : p9) (ey : cu) (eK : cO) (a12 : cZ) (ga : dw) (gQ : dQ) (iN : eo) (a16 : p16) (a17 : fH) (mD : iu) (o5 : jj) (a20 : kS) (a21 : nP) : p0 ∧ p1 ∧ p2 ∧ p3 ∧ p4 ∧ p5 ∧ p6 ∧ p7 ∧ p8 ∧ p9 ∧ cu ∧ cO ∧ cZ ∧ dw ∧ dQ ∧ eo ∧ p16 ∧ fH ∧ iu ∧ jj ∧ kS ∧ nP := ⟨a0, a1, a2, a3, a4, a5, a6, a7, a8, a9, ey, eK, a12, ga, gQ, iN, a16, a17, mD, o5, a20, a21⟩
theorem Nf {p0 p1 p2 p3 p4 p5 p6 p7 p8 p9 cu cO cZ dw dQ eo p16 fH iu jj kS nP tj : Prop} (a0 : p0) (a1 : p1) (a2 : p2) (a3 : p3) (a4 : p4) (a5 : p5) (a6 : p6) (a7 : p7) (a8 : p8) (a9 : p9) (ey : cu) (eK : cO) (a12 : cZ) (ga : dw) (gQ : dQ) (iN : eo) (a16 : p16) (a17 : fH) (mD : iu) (o5 : jj) (a20 : kS) (a21 : nP) (a22 : tj) : p0 ∧ p1 ∧ p2 ∧ p3 ∧ p4 ∧ p5 ∧ p6 ∧ p7 ∧ p8 ∧ p9 ∧ cu ∧ cO ∧ cZ ∧ dw ∧ dQ ∧ eo ∧ p16 ∧ fH ∧ iu ∧ jj ∧ kS ∧ nP ∧ tj := ⟨a0, a1, a2, a3, a4, a5, a6, a7, a8, a9, ey, eK, a12, ga, gQ, iN, a16, a17, mD, o5, a20, a21, a22⟩
theorem Nc {p0 p1 p2 p3 p4 p5 p6 p7 p8 p9 cu cO cZ dw dQ eo p16 fH iu jj kS nP tj Ab : Prop} (a0 : p0) (a1 : p1) (a2 : p2) (a3 : p3) (a4 : p4) (a5 : p5) (a6 : p6) (a7 : p7) (a8 : p8) (a9 : p9) (ey : cu) (eK : cO) (a12 : cZ) (ga : dw) (gQ : dQ) (iN : eo) (a16 : p16) (a17 : fH) (mD : iu) (o5 : jj) (a20 : kS) (a21 : nP) (a22 : tj) (a23 : Ab) : p0 ∧ p1 ∧ p2 ∧ p3 ∧ p4 ∧ p5 ∧ p6 ∧ p7 ∧ p8 ∧ p9 ∧ cu ∧ cO ∧ cZ ∧ dw ∧ dQ ∧ eo ∧ p16 ∧ fH ∧ iu ∧ jj ∧ kS ∧ nP ∧ tj ∧ Ab := ⟨a0, a1, a2, a3, a4, a5, a6, a7, a8, a9, ey, eK, a12, ga, gQ, iN, a16, a17, mD, o5, a20, a21, a22, a23⟩
theorem Nb {p0 p1 p2 p3 p4 p5 p6 p7 p8 p9 cu cO cZ dw dQ eo p16 fH iu jj kS nP tj Ab Lf : Prop} (a0 : p0) (a1 : p1) (a2 : p2) (a3 : p3) (a4 : p4) (a5 : p5) (a6 : p6) (a7 : p7) (a8 : p8) (a9 : p9) (ey : cu) (eK : cO) (a12 : cZ) (ga : dw) (gQ : dQ) (iN : eo) (a16 : p16) (a17 : fH) (mD : iu) (o5 : jj) (a20 : kS) (a21 : nP) (a22 : tj) (a23 : Ab) (a24 : Lf) : p0 ∧ p1 ∧ p2 ∧ p3 ∧ p4 ∧ p5 ∧ p6 ∧ p7 ∧ p8 ∧ p9 ∧ cu ∧ cO ∧ cZ ∧ dw ∧ dQ ∧ eo ∧ p16 ∧ fH ∧ iu ∧ jj ∧ kS ∧ nP ∧ tj ∧ Ab ∧ Lf := ⟨a0, a1, a2, a3, a4, a5, a6, a7, a8, a9, ey, eK, a12, ga, gQ, iN, a16, a17, mD, o5, a20, a21, a22, a23, a24⟩
theorem aD {p q : Prop} (k : q) (h : p = q := by
 try (conv => lhs; simp only [Za, List.map_cons, List.map_nil, lk, reduceIte, Nat.reduceEqDiff, Nat.zero_ne_one, Nat.one_ne_zero])
 first | done | exact rfl) : p := h ▸ k
theorem re {p F : Prop} (f : F) (h : F → p := by
 intro f
 simp [Zw, ZV, Yc, go_sem, fin, aV, aO, bH, cL, dD, f]) : p := h f
theorem uP {p F : Prop} (f : F) (h : F → p := by
 intro f
 simp [Zw, ZV, Yc, go_sem, fin, aV, aO, bH, cL, dD, ZT, Ys, f]) : p := h f
theorem NJ {p F : Prop} (f : F) (h : F → p := by
 intro f
 simp [Zw, ZV, Yc, go_sem, fin, aV, aO, bH, cL, dD, q8, f]) : p := h f
theorem NI {p F : Prop} (f : F) (h : F → p := by
 intro f
 simp [Zw, ZV, Yc, go_sem, fin, aV, aO, bH, cL, dD, f]) : p := h f
theorem GR {p F : Prop} (f : F) (h : F → p := by
 intro f
 simp [Zw, ZV, Yc, ZF, Zy, ZA, ZB, Zp, Zf, Zm, Zi, Zk, Zc, Zd, Zj, Zq, Zr, ZC, ↓Zh, Zo, Zg, Zz, Zu, Zt, ZR, Zv, Yj, put, lk, Od.v, Za, Ze, Zl, Yv, Yb, Ya, Yd, ai, Yt, DV.isU, DV.cells, ae, ZJ, ZX, ZK, Zn, splice, DV.one, ZM, af, ZT, Ys, fin, aV, aO, bH, cL, dD, f]) : p := h f
theorem CL {p F : Prop} (f : F) (h : F → p := by
 intro f
 simp [Zw, ZV, Yc, ZF, Zy, ZA, ZB, Zp, Zf, Zm, Zi, Zk, Zc, Zd, Zj, Zq, Zr, ZC, ↓Zh, Zo, Zg, Zz, Zu, Zt, ZR, Zv, Yj, put, lk, Od.v, Za, Ze, Zl, Yv, Yb, Ya, Yd, ai, Yt, DV.isU, DV.cells, ae, ZJ, ZX, ZK, Zn, splice, DV.one, ZM, af, ZT, Ys, fin, aV, aO, bH, cL, dD, ef, f]) : p := h f
theorem rg {p F : Prop} (f : F) (h : F → p := by
 intro f
 repeat (first | rewrite [ZL] | rewrite [Zs (by simp [go_sem, f]; exact ⟨rfl, rfl⟩)] | rewrite [Yi (by simp [lk, Za, Od.v, f]; exact rfl)] | rewrite [Zu] | rewrite [Zt] | rewrite [ZY] | rewrite [Yo] | rewrite [Ye] | rewrite [Yl] | rewrite [Yg] | rewrite [Yf] | rewrite [ZU] | rewrite [ZP] | rewrite [ZQ] | rewrite [ZI (by decide)] | rewrite [ZN] | rewrite [ZG] | rewrite [ZH] | rewrite [ZE (by decide)] | rewrite [Yq] | rewrite [Ym (by simp [go_sem, f]; exact ⟨rfl, rfl⟩)] | rewrite [Yp (by simp [lk, Za, Od.v, f]; exact rfl)] | rewrite [Yk])
 simp [Zw, ZV, Yc, go_sem, fin, aV, aO, bH, cL, dD, f]) : p := h f
theorem kQ {p F : Prop} (f : F) (h : F → p := by
 intro f
 repeat (first | rewrite [ZL] | rewrite [Zs (by simp [go_sem, ay, f]; exact ⟨rfl, rfl⟩)] | rewrite [Yi (by simp [lk, Za, Od.v, ay, f]; exact rfl)] | rewrite [Zu] | rewrite [Zt] | rewrite [ZY] | rewrite [Yo] | rewrite [Ye] | rewrite [Yl] | rewrite [Yg] | rewrite [Yf] | rewrite [ZU] | rewrite [ZP] | rewrite [ZQ] | rewrite [ZI (by decide)] | rewrite [ZN] | rewrite [ZG] | rewrite [ZH] | rewrite [ZE (by decide)] | rewrite [Yq] | rewrite [Ym (by simp [go_sem, ay, f]; exact ⟨rfl, rfl⟩)] | rewrite [Yp (by simp [lk, Za, Od.v, ay, f]; exact rfl)] | rewrite [Yk])
 simp [Zw, ZV, Yc, go_sem, fin, aV, aO, bH, cL, dD, ay, f]) : p := h f
theorem Le {p F : Prop} (f : F) (h : F → p := by
 intro f
 repeat (first | rewrite [ZL] | rewrite [Zs (by simp [go_sem, vw, f]; exact ⟨rfl, rfl⟩)] | rewrite [Yi (by simp [lk, Za, Od.v, vw, f]; exact rfl)] | rewrite [Zu] | rewrite [Zt] | rewrite [ZY] | rewrite [Yo] | rewrite [Ye] | rewrite [Yl] | rewrite [Yg] | rewrite [Yf] | rewrite [ZU] | rewrite [ZP] | rewrite [ZQ] | rewrite [ZI (by decide)] | rewrite [ZN] | rewrite [ZG] | rewrite [ZH] | rewrite [ZE (by decide)] | rewrite [Yq] | rewrite [Ym (by simp [go_sem, vw, f]; exact ⟨rfl, rfl⟩)] | rewrite [Yp (by simp [lk, Za, Od.v, vw, f]; exact rfl)] | rewrite [Yk])
 simp [Zw, ZV, Yc, go_sem, fin, aV, aO, bH, cL, dD, vw, f]) : p := h f
theorem CK {p F : Prop} (f : F) (h : F → p := by
 intro f
 repeat (first | rewrite [ZL] | rewrite [Zs (by simp [go_sem, jK, jm, f]; exact ⟨rfl, rfl⟩)] | rewrite [Yi (by simp [lk, Za, Od.v, jK, jm, f]; exact rfl)] | rewrite [Zu] | rewrite [Zt] | rewrite [ZY] | rewrite [Yo] | rewrite [Ye] | rewrite [Yl] | rewrite [Yg] | rewrite [Yf] | rewrite [ZU] | rewrite [ZP] | rewrite [ZQ] | rewrite [ZI (by decide)] | rewrite [ZN] | rewrite [ZG] | rewrite [ZH] | rewrite [ZE (by decide)] | rewrite [Yq] | rewrite [Ym (by simp [go_sem, jK, jm, f]; exact ⟨rfl, rfl⟩)] | rewrite [Yp (by simp [lk, Za, Od.v, jK, jm, f]; exact rfl)] | rewrite [Yk])
 simp [Zw, ZV, Yc, go_sem, fin, aV, aO, bH, cL, dD, jK, jm, f]) : p := h f
theorem uO {p F : Prop} (f : F) (h : F → p := by
 intro f
 repeat (first | rewrite [ZL] | rewrite [Zs (by simp [go_sem, ord, f]; exact ⟨rfl, rfl⟩)] | rewrite [Yi (by simp [lk, Za, Od.v, ord, f]; exact rfl)] | rewrite [Zu] | rewrite [Zt] | rewrite [ZY] | rewrite [Yo] | rewrite [Ye] | rewrite [Yl] | rewrite [Yg] | rewrite [Yf] | rewrite [ZU] | rewrite [ZP] | rewrite [ZQ] | rewrite [ZI (by decide)] | rewrite [ZN] | rewrite [ZG] | rewrite [ZH] | rewrite [ZE (by decide)] | rewrite [Yq] | rewrite [Ym (by simp [go_sem, ord, f]; exact ⟨rfl, rfl⟩)] | rewrite [Yp (by simp [lk, Za, Od.v, ord, f]; exact rfl)] | rewrite [Yk])
 simp [Zw, ZV, Yc, go_sem, fin, aV, aO, bH, cL, dD, ord, f]) : p := h f
theorem mJ {p F : Prop} (f : F) (h : F → p := by
 intro f
 repeat (first | rewrite [ZL] | rewrite [Zs (by simp [go_sem, aG, f]; exact ⟨rfl, rfl⟩)] | rewrite [Yi (by simp [lk, Za, Od.v, aG, f]; exact rfl)] | rewrite [Zu] | rewrite [Zt] | rewrite [ZY] | rewrite [Yo] | rewrite [Ye] | rewrite [Yl] | rewrite [Yg] | rewrite [Yf] | rewrite [ZU] | rewrite [ZP] | rewrite [ZQ] | rewrite [ZI (by decide)] | rewrite [ZN] | rewrite [ZG] | rewrite [ZH] | rewrite [ZE (by decide)] | rewrite [Yq] | rewrite [Ym (by simp [go_sem, aG, f]; exact ⟨rfl, rfl⟩)] | rewrite [Yp (by simp [lk, Za, Od.v, aG, f]; exact rfl)] | rewrite [Yk])
 simp [Zw, ZV, Yc, go_sem, fin, aV, aO, bH, cL, dD, aG, f]) : p := h f
theorem MA {p F : Prop} (f : F) (h : F → p := by
 intro f
 repeat (first | rewrite [ZL] | rewrite [Zs (by simp [go_sem, ep, mm, f]; exact ⟨rfl, rfl⟩)] | rewrite [Yi (by simp [lk, Za, Od.v, ep, mm, f]; exact rfl)] | rewrite [Zu] | rewrite [Zt] | rewrite [ZY] | rewrite [Yo] | rewrite [Ye] | rewrite [Yl] | rewrite [Yg] | rewrite [Yf] | rewrite [ZU] | rewrite [ZP] | rewrite [ZQ] | rewrite [ZI (by decide)] | rewrite [ZN] | rewrite [ZG] | rewrite [ZH] | rewrite [ZE (by decide)] | rewrite [Yq] | rewrite [Ym (by simp [go_sem, ep, mm, f]; exact ⟨rfl, rfl⟩)] | rewrite [Yp (by simp [lk, Za, Od.v, ep, mm, f]; exact rfl)] | rewrite [Yk])
 simp [Zw, ZV, Yc, go_sem, fin, aV, aO, bH, cL, dD, ep, mm, f]) : p := h f
theorem GQ {p F : Prop} (f : F) (h : F → p := by
 intro f
 repeat (first | rewrite [ZL] | rewrite [Zs (by simp [go_sem, eX, f]; exact ⟨rfl, rfl⟩)] | rewrite [Yi (by simp [lk, Za, Od.v, eX, f]; exact rfl)] | rewrite [Zu] | rewrite [Zt] | rewrite [ZY] | rewrite [Yo] | rewrite [Ye] | rewrite [Yl] | rewrite [Yg] | rewrite [Yf] | rewrite [ZU] | rewrite [ZP] | rewrite [ZQ] | rewrite [ZI (by decide)] | rewrite [ZN] | rewrite [ZG] | rewrite [ZH] | rewrite [ZE (by decide)] | rewrite [Yq] | rewrite [Ym (by simp [go_sem, eX, f]; exact ⟨rfl, rfl⟩)] | rewrite [Yp (by simp [lk, Za, Od.v, eX, f]; exact rfl)] | rewrite [Yk])
 simp [Zw, ZV, Yc, go_sem, fin, aV, aO, bH, cL, dD, eX, f]) : p := h f
theorem Mz {p F : Prop} (f : F) (h : F → p := by
 intro f
 repeat (first | rewrite [ZL] | rewrite [Zs (by simp [go_sem, V.eqb, ay, f]; exact ⟨rfl, rfl⟩)] | rewrite [Yi (by simp [lk, Za, Od.v, V.eqb, ay, f]; exact rfl)] | rewrite [Zu] | rewrite [Zt] | rewrite [ZY] | rewrite [Yo] | rewrite [Ye] | rewrite [Yl] | rewrite [Yg] | rewrite [Yf] | rewrite [ZU] | rewrite [ZP] | rewrite [ZQ] | rewrite [ZI (by decide)] | rewrite [ZN] | rewrite [ZG] | rewrite [ZH] | rewrite [ZE (by decide)] | rewrite [Yq] | rewrite [Ym (by simp [go_sem, V.eqb, ay, f]; exact ⟨rfl, rfl⟩)] | rewrite [Yp (by simp [lk, Za, Od.v, V.eqb, ay, f]; exact rfl)] | rewrite [Yk])
 simp [Zw, ZV, Yc, go_sem, fin, aV, aO, bH, cL, dD, V.eqb, ay, f]) : p := h f
theorem GN {p F : Prop} (f : F) (h : F → p := by
 intro f
 repeat (first | rewrite [ZL] | rewrite [Zs (by simp [go_sem, de, aY, ay, dI, vw, f]; exact ⟨rfl, rfl⟩)] | rewrite [Yi (by simp [lk, Za, Od.v, de, aY, ay, dI, vw, f]; exact rfl)] | rewrite [Zu] | rewrite [Zt] | rewrite [ZY] | rewrite [Yo] | rewrite [Ye] | rewrite [Yl] | rewrite [Yg] | rewrite [Yf] | rewrite [ZU] | rewrite [ZP] | rewrite [ZQ] | rewrite [ZI (by decide)] | rewrite [ZN] | rewrite [ZG] | rewrite [ZH] | rewrite [ZE (by decide)] | rewrite [Yq] | rewrite [Ym (by simp [go_sem, de, aY, ay, dI, vw, f]; exact ⟨rfl, rfl⟩)] | rewrite [Yp (by simp [lk, Za, Od.v, de, aY, ay, dI, vw, f]; exact rfl)] | rewrite [Yk])
 simp [Zw, ZV, Yc, go_sem, fin, aV, aO, bH, cL, dD, de, aY, ay, dI, vw, f]) : p := h f
theorem GM {p F : Prop} (f : F) (h : F → p := by
 intro f
 repeat (first | rewrite [ZL] | rewrite [Zs (by simp [go_sem, ef, f]; exact ⟨rfl, rfl⟩)] | rewrite [Yi (by simp [lk, Za, Od.v, ef, f]; exact rfl)] | rewrite [Zu] | rewrite [Zt] | rewrite [ZY] | rewrite [Yo] | rewrite [Ye] | rewrite [Yl] | rewrite [Yg] | rewrite [Yf] | rewrite [ZU] | rewrite [ZP] | rewrite [ZQ] | rewrite [ZI (by decide)] | rewrite [ZN] | rewrite [ZG] | rewrite [ZH] | rewrite [ZE (by decide)] | rewrite [Yq] | rewrite [Ym (by simp [go_sem, ef, f]; exact ⟨rfl, rfl⟩)] | rewrite [Yp (by simp [lk, Za, Od.v, ef, f]; exact rfl)] | rewrite [Yk])
 simp [Zw, ZV, Yc, go_sem, fin, aV, aO, bH, cL, dD, ef, f]) : p := h f
theorem NH {p F : Prop} (f : F) (h : F → p := by
 intro f
 repeat (first | rewrite [ZL] | rewrite [Zs (by simp [ZF, Zy, ZA, ZB, Zp, Zf, Zm, Zi, Zk, Zc, Zd, Zj, Zq, Zr, ZC, ↓Zh, Zo, Zg, Zz, Zu, Zt, ZR, Zv, Yj, put, lk, Od.v, Za, Ze, Zl, Yv, Yb, Ya, Yd, ai, Yt, DV.isU, DV.cells, ae, ZJ, ZX, ZK, Zn, splice, DV.one, ZM, af, ZT, Ys, f]; exact ⟨rfl, rfl⟩)] | rewrite [Yi (by simp [lk, Za, Od.v, f]; exact rfl)] | rewrite [Zu] | rewrite [Zt] | rewrite [ZY] | rewrite [Yo] | rewrite [Ye] | rewrite [Yl] | rewrite [Yg] | rewrite [Yf] | rewrite [ZU] | rewrite [ZP] | rewrite [ZQ] | rewrite [ZI (by decide)] | rewrite [ZN] | rewrite [ZG] | rewrite [ZH] | rewrite [ZE (by decide)] | rewrite [Yq] | rewrite [Ym (by simp [ZF, Zy, ZA, ZB, Zp, Zf, Zm, Zi, Zk, Zc, Zd, Zj, Zq, Zr, ZC, ↓Zh, Zo, Zg, Zz, Zu, Zt, ZR, Zv, Yj, put, lk, Od.v, Za, Ze, Zl, Yv, Yb, Ya, Yd, ai, Yt, DV.isU, DV.cells, ae, ZJ, ZX, ZK, Zn, splice, DV.one, ZM, af, ZT, Ys, f]; exact ⟨rfl, rfl⟩)] | rewrite [Yp (by simp [lk, Za, Od.v, f]; exact rfl)] | rewrite [Yk])
 simp [Zw, ZV, Yc, ZF, Zy, ZA, ZB, Zp, Zf, Zm, Zi, Zk, Zc, Zd, Zj, Zq, Zr, ZC, ↓Zh, Zo, Zg, Zz, Zu, Zt, ZR, Zv, Yj, put, lk, Od.v, Za, Ze, Zl, Yv, Yb, Ya, Yd, ai, Yt, DV.isU, DV.cells, ae, ZJ, ZX, ZK, Zn, splice, DV.one, ZM, af, ZT, Ys, fin, aV, aO, bH, cL, dD, f]) : p := h f
theorem mH {p F : Prop} (f : F) (h : F → p := by
 intro f
 repeat (first | rewrite [ZL] | rewrite [Zs (by simp [ZF, Zy, ZA, ZB, Zp, Zf, Zm, Zi, Zk, Zc, Zd, Zj, Zq, Zr, ZC, ↓Zh, Zo, Zg, Zz, Zu, Zt, ZR, Zv, Yj, put, lk, Od.v, Za, Ze, Zl, Yv, Yb, Ya, Yd, ai, Yt, DV.isU, DV.cells, ae, ZJ, ZX, ZK, Zn, splice, DV.one, ZM, af, ZT, Ys, ef, ord, f]; exact ⟨rfl, rfl⟩)] | rewrite [Yi (by simp [lk, Za, Od.v, ef, ord, f]; exact rfl)] | rewrite [Zu] | rewrite [Zt] | rewrite [ZY] | rewrite [Yo] | rewrite [Ye] | rewrite [Yl] | rewrite [Yg] | rewrite [Yf] | rewrite [ZU] | rewrite [ZP] | rewrite [ZQ] | rewrite [ZI (by decide)] | rewrite [ZN] | rewrite [ZG] | rewrite [ZH] | rewrite [ZE (by decide)] | rewrite [Yq] | rewrite [Ym (by simp [ZF, Zy, ZA, ZB, Zp, Zf, Zm, Zi, Zk, Zc, Zd, Zj, Zq, Zr, ZC, ↓Zh, Zo, Zg, Zz, Zu, Zt, ZR, Zv, Yj, put, lk, Od.v, Za, Ze, Zl, Yv, Yb, Ya, Yd, ai, Yt, DV.isU, DV.cells, ae, ZJ, ZX, ZK, Zn, splice, DV.one, ZM, af, ZT, Ys, ef, ord, f]; exact ⟨rfl, rfl⟩)] | rewrite [Yp (by simp [lk, Za, Od.v, ef, ord, f]; exact rfl)] | rewrite [Yk])
 simp [Zw, ZV, Yc, ZF, Zy, ZA, ZB, Zp, Zf, Zm, Zi, Zk, Zc, Zd, Zj, Zq, Zr, ZC, ↓Zh, Zo, Zg, Zz, Zu, Zt, ZR, Zv, Yj, put, lk, Od.v, Za, Ze, Zl, Yv, Yb, Ya, Yd, ai, Yt, DV.isU, DV.cells, ae, ZJ, ZX, ZK, Zn, splice, DV.one, ZM, af, ZT, Ys, fin, aV, aO, bH, cL, dD, ef, ord, f]) : p := h f
theorem GL {p F : Prop} (f : F) (h : F → p := by
 intro f
 repeat (first | rewrite [ZL] | rewrite [Zs (by simp [ZF, Zy, ZA, ZB, Zp, Zf, Zm, Zi, Zk, Zc, Zd, Zj, Zq, Zr, ZC, ↓Zh, Zo, Zg, Zz, Zu, Zt, ZR, Zv, Yj, put, lk, Od.v, Za, Ze, Zl, Yv, Yb, Ya, Yd, ai, Yt, DV.isU, DV.cells, ae, ZJ, ZX, ZK, Zn, splice, DV.one, ZM, af, ZT, Ys, ord, f]; exact ⟨rfl, rfl⟩)] | rewrite [Yi (by simp [lk, Za, Od.v, ord, f]; exact rfl)] | rewrite [Zu] | rewrite [Zt] | rewrite [ZY] | rewrite [Yo] | rewrite [Ye] | rewrite [Yl] | rewrite [Yg] | rewrite [Yf] | rewrite [ZU] | rewrite [ZP] | rewrite [ZQ] | rewrite [ZI (by decide)] | rewrite [ZN] | rewrite [ZG] | rewrite [ZH] | rewrite [ZE (by decide)] | rewrite [Yq] | rewrite [Ym (by simp [ZF, Zy, ZA, ZB, Zp, Zf, Zm, Zi, Zk, Zc, Zd, Zj, Zq, Zr, ZC, ↓Zh, Zo, Zg, Zz, Zu, Zt, ZR, Zv, Yj, put, lk, Od.v, Za, Ze, Zl, Yv, Yb, Ya, Yd, ai, Yt, DV.isU, DV.cells, ae, ZJ, ZX, ZK, Zn, splice, DV.one, ZM, af, ZT, Ys, ord, f]; exact ⟨rfl, rfl⟩)] | rewrite [Yp (by simp [lk, Za, Od.v, ord, f]; exact rfl)] | rewrite [Yk])
 simp [Zw, ZV, Yc, ZF, Zy, ZA, ZB, Zp, Zf, Zm, Zi, Zk, Zc, Zd, Zj, Zq, Zr, ZC, ↓Zh, Zo, Zg, Zz, Zu, Zt, ZR, Zv, Yj, put, lk, Od.v, Za, Ze, Zl, Yv, Yb, Ya, Yd, ai, Yt, DV.isU, DV.cells, ae, ZJ, ZX, ZK, Zn, splice, DV.one, ZM, af, ZT, Ys, fin, aV, aO, bH, cL, dD, ord, f]) : p := h f
theorem rn {p q F : Prop} (f : F) (k : q) (h : F → p = q := by
 intro f
 repeat (first | rewrite [ZL] | rewrite [Zs (by simp [go_sem, f]; exact ⟨rfl, rfl⟩)] | rewrite [Yi (by simp [lk, Za, Od.v, f]; exact rfl)] | rewrite [Zu] | rewrite [Zt] | rewrite [ZY] | rewrite [Yo] | rewrite [Ye] | rewrite [Yl] | rewrite [Yg] | rewrite [Yf] | rewrite [ZU] | rewrite [ZP] | rewrite [ZQ] | rewrite [ZI (by decide)] | rewrite [ZN] | rewrite [ZG] | rewrite [ZH] | rewrite [ZE (by decide)] | rewrite [Yq] | rewrite [Ym (by simp [go_sem, f]; exact ⟨rfl, rfl⟩)] | rewrite [Yp (by simp [lk, Za, Od.v, f]; exact rfl)] | rewrite [Yk])
 exact rfl) : p := (h f).mpr k
theorem aT {p q F : Prop} (f : F) (k : q) (h : F → p = q := by
 intro f
 repeat (first | rewrite [ZL] | rewrite [Zs (by simp [go_sem, ay, f]; exact ⟨rfl, rfl⟩)] | rewrite [Yi (by simp [lk, Za, Od.v, ay, f]; exact rfl)] | rewrite [Zu] | rewrite [Zt] | rewrite [ZY] | rewrite [Yo] | rewrite [Ye] | rewrite [Yl] | rewrite [Yg] | rewrite [Yf] | rewrite [ZU] | rewrite [ZP] | rewrite [ZQ] | rewrite [ZI (by decide)] | rewrite [ZN] | rewrite [ZG] | rewrite [ZH] | rewrite [ZE (by decide)] | rewrite [Yq] | rewrite [Ym (by simp [go_sem, ay, f]; exact ⟨rfl, rfl⟩)] | rewrite [Yp (by simp [lk, Za, Od.v, ay, f]; exact rfl)] | rewrite [Yk])
 exact rfl) : p := (h f).mpr k
theorem Ep {p q F : Prop} (f : F) (k : q) (h : F → p = q := by
 intro f
 repeat (first | rewrite [ZL] | rewrite [Zs (by simp [go_sem, ep, f]; exact ⟨rfl, rfl⟩)] | rewrite [Yi (by simp [lk, Za, Od.v, ep, f]; exact rfl)] | rewrite [Zu] | rewrite [Zt] | rewrite [ZY] | rewrite [Yo] | rewrite [Ye] | rewrite [Yl] | rewrite [Yg] | rewrite [Yf] | rewrite [ZU] | rewrite [ZP] | rewrite [ZQ] | rewrite [ZI (by decide)] | rewrite [ZN] | rewrite [ZG] | rewrite [ZH] | rewrite [ZE (by decide)] | rewrite [Yq] | rewrite [Ym (by simp [go_sem, ep, f]; exact ⟨rfl, rfl⟩)] | rewrite [Yp (by simp [lk, Za, Od.v, ep, f]; exact rfl)] | rewrite [Yk])
 exact rfl) : p := (h f).mpr k
theorem GK {p q F : Prop} (f : F) (k : q) (h : F → p = q := by
 intro f
 repeat (first | rewrite [ZL] | rewrite [Zs (by simp [go_sem, aG, f]; exact ⟨rfl, rfl⟩)] | rewrite [Yi (by simp [lk, Za, Od.v, aG, f]; exact rfl)] | rewrite [Zu] | rewrite [Zt] | rewrite [ZY] | rewrite [Yo] | rewrite [Ye] | rewrite [Yl] | rewrite [Yg] | rewrite [Yf] | rewrite [ZU] | rewrite [ZP] | rewrite [ZQ] | rewrite [ZI (by decide)] | rewrite [ZN] | rewrite [ZG] | rewrite [ZH] | rewrite [ZE (by decide)] | rewrite [Yq] | rewrite [Ym (by simp [go_sem, aG, f]; exact ⟨rfl, rfl⟩)] | rewrite [Yp (by simp [lk, Za, Od.v, aG, f]; exact rfl)] | rewrite [Yk])
 exact rfl) : p := (h f).mpr k
theorem My {p q F : Prop} (f : F) (k : q) (h : F → p = q := by
 intro f
 repeat (first | rewrite [ZL] | rewrite [Zs (by simp [go_sem, V.eqb, f]; exact ⟨rfl, rfl⟩)] | rewrite [Yi (by simp [lk, Za, Od.v, V.eqb, f]; exact rfl)] | rewrite [Zu] | rewrite [Zt] | rewrite [ZY] | rewrite [Yo] | rewrite [Ye] | rewrite [Yl] | rewrite [Yg] | rewrite [Yf] | rewrite [ZU] | rewrite [ZP] | rewrite [ZQ] | rewrite [ZI (by decide)] | rewrite [ZN] | rewrite [ZG] | rewrite [ZH] | rewrite [ZE (by decide)] | rewrite [Yq] | rewrite [Ym (by simp [go_sem, V.eqb, f]; exact ⟨rfl, rfl⟩)] | rewrite [Yp (by simp [lk, Za, Od.v, V.eqb, f]; exact rfl)] | rewrite [Yk])
 exact rfl) : p := (h f).mpr k
theorem Mx {p q F : Prop} (f : F) (k : q) (h : F → p = q := by
 intro f
 repeat (first | rewrite [ZL] | rewrite [Zs (by simp [go_sem, aJ, f]; exact ⟨rfl, rfl⟩)] | rewrite [Yi (by simp [lk, Za, Od.v, aJ, f]; exact rfl)] | rewrite [Zu] | rewrite [Zt] | rewrite [ZY] | rewrite [Yo] | rewrite [Ye] | rewrite [Yl] | rewrite [Yg] | rewrite [Yf] | rewrite [ZU] | rewrite [ZP] | rewrite [ZQ] | rewrite [ZI (by decide)] | rewrite [ZN] | rewrite [ZG] | rewrite [ZH] | rewrite [ZE (by decide)] | rewrite [Yq] | rewrite [Ym (by simp [go_sem, aJ, f]; exact ⟨rfl, rfl⟩)] | rewrite [Yp (by simp [lk, Za, Od.v, aJ, f]; exact rfl)] | rewrite [Yk])
 exact rfl) : p := (h f).mpr k
theorem Mw {p q F : Prop} (f : F) (k : q) (h : F → p = q := by
 intro f
 repeat (first | rewrite [ZL] | rewrite [Zs (by simp [go_sem, ay, aJ, f]; exact ⟨rfl, rfl⟩)] | rewrite [Yi (by simp [lk, Za, Od.v, ay, aJ, f]; exact rfl)] | rewrite [Zu] | rewrite [Zt] | rewrite [ZY] | rewrite [Yo] | rewrite [Ye] | rewrite [Yl] | rewrite [Yg] | rewrite [Yf] | rewrite [ZU] | rewrite [ZP] | rewrite [ZQ] | rewrite [ZI (by decide)] | rewrite [ZN] | rewrite [ZG] | rewrite [ZH] | rewrite [ZE (by decide)] | rewrite [Yq] | rewrite [Ym (by simp [go_sem, ay, aJ, f]; exact ⟨rfl, rfl⟩)] | rewrite [Yp (by simp [lk, Za, Od.v, ay, aJ, f]; exact rfl)] | rewrite [Yk])
 exact rfl) : p := (h f).mpr k
theorem Mv {p q F : Prop} (f : F) (k : q) (h : F → p = q := by
 intro f
 repeat (first | rewrite [ZL] | rewrite [Zs (by simp [go_sem, hs, f]; exact ⟨rfl, rfl⟩)] | rewrite [Yi (by simp [lk, Za, Od.v, hs, f]; exact rfl)] | rewrite [Zu] | rewrite [Zt] | rewrite [ZY] | rewrite [Yo] | rewrite [Ye] | rewrite [Yl] | rewrite [Yg] | rewrite [Yf] | rewrite [ZU] | rewrite [ZP] | rewrite [ZQ] | rewrite [ZI (by decide)] | rewrite [ZN] | rewrite [ZG] | rewrite [ZH] | rewrite [ZE (by decide)] | rewrite [Yq] | rewrite [Ym (by simp [go_sem, hs, f]; exact ⟨rfl, rfl⟩)] | rewrite [Yp (by simp [lk, Za, Od.v, hs, f]; exact rfl)] | rewrite [Yk])
 exact rfl) : p := (h f).mpr k
theorem Ld {p q F : Prop} (f : F) (k : q) (h : F → p = q := by
 intro f
 repeat (first | rewrite [ZL] | rewrite [Zs (by simp [go_sem, de, aY, dI, f]; exact ⟨rfl, rfl⟩)] | rewrite [Yi (by simp [lk, Za, Od.v, de, aY, dI, f]; exact rfl)] | rewrite [Zu] | rewrite [Zt] | rewrite [ZY] | rewrite [Yo] | rewrite [Ye] | rewrite [Yl] | rewrite [Yg] | rewrite [Yf] | rewrite [ZU] | rewrite [ZP] | rewrite [ZQ] | rewrite [ZI (by decide)] | rewrite [ZN] | rewrite [ZG] | rewrite [ZH] | rewrite [ZE (by decide)] | rewrite [Yq] | rewrite [Ym (by simp [go_sem, de, aY, dI, f]; exact ⟨rfl, rfl⟩)] | rewrite [Yp (by simp [lk, Za, Od.v, de, aY, dI, f]; exact rfl)] | rewrite [Yk])
 exact rfl) : p := (h f).mpr k
theorem sW {p q F : Prop} (f : F) (k : q) (h : F → p = q := by
 intro f
 repeat (first | rewrite [ZL] | rewrite [Zs (by simp [go_sem, ZT, Ys, ay, f]; exact ⟨rfl, rfl⟩)] | rewrite [Yi (by simp [lk, Za, Od.v, ZT, Ys, ay, f]; exact rfl)] | rewrite [Zu] | rewrite [Zt] | rewrite [ZY] | rewrite [Yo] | rewrite [Ye] | rewrite [Yl] | rewrite [Yg] | rewrite [Yf] | rewrite [ZU] | rewrite [ZP] | rewrite [ZQ] | rewrite [ZI (by decide)] | rewrite [ZN] | rewrite [ZG] | rewrite [ZH] | rewrite [ZE (by decide)] | rewrite [Yq] | rewrite [Ym (by simp [go_sem, ZT, Ys, ay, f]; exact ⟨rfl, rfl⟩)] | rewrite [Yp (by simp [lk, Za, Od.v, ZT, Ys, ay, f]; exact rfl)] | rewrite [Yk])
 exact rfl) : p := (h f).mpr k
theorem Lc {p q F : Prop} (f : F) (k : q) (h : F → p = q := by
 intro f
 repeat (first | rewrite [ZL] | rewrite [Zs (by simp [go_sem, IntKind.bits, f]; exact ⟨rfl, rfl⟩)] | rewrite [Yi (by simp [lk, Za, Od.v, IntKind.bits, f]; exact rfl)] | rewrite [Zu] | rewrite [Zt] | rewrite [ZY] | rewrite [Yo] | rewrite [Ye] | rewrite [Yl] | rewrite [Yg] | rewrite [Yf] | rewrite [ZU] | rewrite [ZP] | rewrite [ZQ] | rewrite [ZI (by decide)] | rewrite [ZN] | rewrite [ZG] | rewrite [ZH] | rewrite [ZE (by decide)] | rewrite [Yq] | rewrite [Ym (by simp [go_sem, IntKind.bits, f]; exact ⟨rfl, rfl⟩)] | rewrite [Yp (by simp [lk, Za, Od.v, IntKind.bits, f]; exact rfl)] | rewrite [Yk])
 exact rfl) : p := (h f).mpr k
theorem NG {p q F : Prop} (f : F) (k : q) (h : F → p = q := by
 intro f
 repeat (first | rewrite [ZL] | rewrite [Zs (by simp [go_sem, de, aY, f]; exact ⟨rfl, rfl⟩)] | rewrite [Yi (by simp [lk, Za, Od.v, de, aY, f]; exact rfl)] | rewrite [Zu] | rewrite [Zt] | rewrite [ZY] | rewrite [Yo] | rewrite [Ye] | rewrite [Yl] | rewrite [Yg] | rewrite [Yf] | rewrite [ZU] | rewrite [ZP] | rewrite [ZQ] | rewrite [ZI (by decide)] | rewrite [ZN] | rewrite [ZG] | rewrite [ZH] | rewrite [ZE (by decide)] | rewrite [Yq] | rewrite [Ym (by simp [go_sem, de, aY, f]; exact ⟨rfl, rfl⟩)] | rewrite [Yp (by simp [lk, Za, Od.v, de, aY, f]; exact rfl)] | rewrite [Yk])
 exact rfl) : p := (h f).mpr k
theorem NF {p q F : Prop} (f : F) (k : q) (h : F → p = q := by
 intro f
 repeat (first | rewrite [ZL] | rewrite [Zs (by simp [go_sem, de, aY, ay, f]; exact ⟨rfl, rfl⟩)] | rewrite [Yi (by simp [lk, Za, Od.v, de, aY, ay, f]; exact rfl)] | rewrite [Zu] | rewrite [Zt] | rewrite [ZY] | rewrite [Yo] | rewrite [Ye] | rewrite [Yl] | rewrite [Yg] | rewrite [Yf] | rewrite [ZU] | rewrite [ZP] | rewrite [ZQ] | rewrite [ZI (by decide)] | rewrite [ZN] | rewrite [ZG] | rewrite [ZH] | rewrite [ZE (by decide)] | rewrite [Yq] | rewrite [Ym (by simp [go_sem, de, aY, ay, f]; exact ⟨rfl, rfl⟩)] | rewrite [Yp (by simp [lk, Za, Od.v, de, aY, ay, f]; exact rfl)] | rewrite [Yk])
 exact rfl) : p := (h f).mpr k
theorem aA {p q F : Prop} (f : F) (k : q) (h : F → p = q := by
 intro f
 repeat (first | rewrite [ZL] | rewrite [Zs (by simp [ZF, Zy, ZA, ZB, Zp, Zf, Zm, Zi, Zk, Zc, Zd, Zj, Zq, Zr, ZC, ↓Zh, Zo, Zg, Zz, Zu, Zt, ZR, Zv, Yj, put, lk, Od.v, Za, Ze, Zl, Yv, Yb, Ya, Yd, ai, Yt, DV.isU, DV.cells, ae, ZJ, ZX, ZK, Zn, splice, DV.one, ZM, af, ZT, Ys, f]; exact ⟨rfl, rfl⟩)] | rewrite [Yi (by simp [lk, Za, Od.v, f]; exact rfl)] | rewrite [Zu] | rewrite [Zt] | rewrite [ZY] | rewrite [Yo] | rewrite [Ye] | rewrite [Yl] | rewrite [Yg] | rewrite [Yf] | rewrite [ZU] | rewrite [ZP] | rewrite [ZQ] | rewrite [ZI (by decide)] | rewrite [ZN] | rewrite [ZG] | rewrite [ZH] | rewrite [ZE (by decide)] | rewrite [Yq] | rewrite [Ym (by simp [ZF, Zy, ZA, ZB, Zp, Zf, Zm, Zi, Zk, Zc, Zd, Zj, Zq, Zr, ZC, ↓Zh, Zo, Zg, Zz, Zu, Zt, ZR, Zv, Yj, put, lk, Od.v, Za, Ze, Zl, Yv, Yb, Ya, Yd, ai, Yt, DV.isU, DV.cells, ae, ZJ, ZX, ZK, Zn, splice, DV.one, ZM, af, ZT, Ys, f]; exact ⟨rfl, rfl⟩)] | rewrite [Yp (by simp [lk, Za, Od.v, f]; exact rfl)] | rewrite [Yk])
 exact rfl) : p := (h f).mpr k
theorem Mt {p q F : Prop} (f : F) (k : q) (h : F → p = q := by
 intro f
 repeat (first | rewrite [ZL] | rewrite [Zs (by simp [ZF, Zy, ZA, ZB, Zp, Zf, Zm, Zi, Zk, Zc, Zd, Zj, Zq, Zr, ZC, ↓Zh, Zo, Zg, Zz, Zu, Zt, ZR, Zv, Yj, put, lk, Od.v, Za, Ze, Zl, Yv, Yb, Ya, Yd, ai, Yt, DV.isU, DV.cells, ae, ZJ, ZX, ZK, Zn, splice, DV.one, ZM, af, ZT, Ys, hq, f]; exact ⟨rfl, rfl⟩)] | rewrite [Yi (by simp [lk, Za, Od.v, hq, f]; exact rfl)] | rewrite [Zu] | rewrite [Zt] | rewrite [ZY] | rewrite [Yo] | rewrite [Ye] | rewrite [Yl] | rewrite [Yg] | rewrite [Yf] | rewrite [ZU] | rewrite [ZP] | rewrite [ZQ] | rewrite [ZI (by decide)] | rewrite [ZN] | rewrite [ZG] | rewrite [ZH] | rewrite [ZE (by decide)] | rewrite [Yq] | rewrite [Ym (by simp [ZF, Zy, ZA, ZB, Zp, Zf, Zm, Zi, Zk, Zc, Zd, Zj, Zq, Zr, ZC, ↓Zh, Zo, Zg, Zz, Zu, Zt, ZR, Zv, Yj, put, lk, Od.v, Za, Ze, Zl, Yv, Yb, Ya, Yd, ai, Yt, DV.isU, DV.cells, ae, ZJ, ZX, ZK, Zn, splice, DV.one, ZM, af, ZT, Ys, hq, f]; exact ⟨rfl, rfl⟩)] | rewrite [Yp (by simp [lk, Za, Od.v, hq, f]; exact rfl)] | rewrite [Yk])
 exact rfl) : p := (h f).mpr k
theorem Ms {p q F : Prop} (f : F) (k : q) (h : F → p = q := by
 intro f
 repeat (first | rewrite [ZL] | rewrite [Zs (by simp [ZF, Zy, ZA, ZB, Zp, Zf, Zm, Zi, Zk, Zc, Zd, Zj, Zq, Zr, ZC, ↓Zh, Zo, Zg, Zz, Zu, Zt, ZR, Zv, Yj, put, lk, Od.v, Za, Ze, Zl, Yv, Yb, Ya, Yd, ai, Yt, DV.isU, DV.cells, ae, ZJ, ZX, ZK, Zn, splice, DV.one, ZM, af, ZT, Ys, b5, b6, f]; exact ⟨rfl, rfl⟩)] | rewrite [Yi (by simp [lk, Za, Od.v, b5, b6, f]; exact rfl)] | rewrite [Zu] | rewrite [Zt] | rewrite [ZY] | rewrite [Yo] | rewrite [Ye] | rewrite [Yl] | rewrite [Yg] | rewrite [Yf] | rewrite [ZU] | rewrite [ZP] | rewrite [ZQ] | rewrite [ZI (by decide)] | rewrite [ZN] | rewrite [ZG] | rewrite [ZH] | rewrite [ZE (by decide)] | rewrite [Yq] | rewrite [Ym (by simp [ZF, Zy, ZA, ZB, Zp, Zf, Zm, Zi, Zk, Zc, Zd, Zj, Zq, Zr, ZC, ↓Zh, Zo, Zg, Zz, Zu, Zt, ZR, Zv, Yj, put, lk, Od.v, Za, Ze, Zl, Yv, Yb, Ya, Yd, ai, Yt, DV.isU, DV.cells, ae, ZJ, ZX, ZK, Zn, splice, DV.one, ZM, af, ZT, Ys, b5, b6, f]; exact ⟨rfl, rfl⟩)] | rewrite [Yp (by simp [lk, Za, Od.v, b5, b6, f]; exact rfl)] | rewrite [Yk])
 exact rfl) : p := (h f).mpr k
theorem r9 {p q F : Prop} (f : F) (k : q) (h : F → p = q := by
 intro f
 repeat (first | rewrite [ZL] | rewrite [Zs (by simp [ZF, Zy, ZA, ZB, Zp, Zf, Zm, Zi, Zk, Zc, Zd, Zj, Zq, Zr, ZC, ↓Zh, Zo, Zg, Zz, Zu, Zt, ZR, Zv, Yj, put, lk, Od.v, Za, Ze, Zl, Yv, Yb, Ya, Yd, ai, Yt, DV.isU, DV.cells, ae, ZJ, ZX, ZK, Zn, splice, DV.one, ZM, af, ZT, Ys, v0, f]; exact ⟨rfl, rfl⟩)] | rewrite [Yi (by simp [lk, Za, Od.v, v0, f]; exact rfl)] | rewrite [Zu] | rewrite [Zt] | rewrite [ZY] | rewrite [Yo] | rewrite [Ye] | rewrite [Yl] | rewrite [Yg] | rewrite [Yf] | rewrite [ZU] | rewrite [ZP] | rewrite [ZQ] | rewrite [ZI (by decide)] | rewrite [ZN] | rewrite [ZG] | rewrite [ZH] | rewrite [ZE (by decide)] | rewrite [Yq] | rewrite [Ym (by simp [ZF, Zy, ZA, ZB, Zp, Zf, Zm, Zi, Zk, Zc, Zd, Zj, Zq, Zr, ZC, ↓Zh, Zo, Zg, Zz, Zu, Zt, ZR, Zv, Yj, put, lk, Od.v, Za, Ze, Zl, Yv, Yb, Ya, Yd, ai, Yt, DV.isU, DV.cells, ae, ZJ, ZX, ZK, Zn, splice, DV.one, ZM, af, ZT, Ys, v0, f]; exact ⟨rfl, rfl⟩)] | rewrite [Yp (by simp [lk, Za, Od.v, v0, f]; exact rfl)] | rewrite [Yk])
 exact rfl) : p := (h f).mpr k
theorem ro {p q F : Prop} (f : F) (k : q) (h : F → p = q := by
 intro f
 repeat (first | rewrite [ZL] | rewrite [Zs (by simp [go_sem, f]; exact ⟨rfl, rfl⟩)] | rewrite [Yi (by simp [lk, Za, Od.v, f]; exact rfl)] | rewrite [Zu] | rewrite [Zt] | rewrite [ZY] | rewrite [Yo] | rewrite [Ye] | rewrite [Yl] | rewrite [Yg] | rewrite [Yf] | rewrite [ZU] | rewrite [ZP] | rewrite [ZQ] | rewrite [ZI (by decide)] | rewrite [ZN] | rewrite [ZG] | rewrite [ZH] | rewrite [ZE (by decide)] | rewrite [Yq] | rewrite [Ym (by simp [go_sem, f]; exact ⟨rfl, rfl⟩)] | rewrite [Yp (by simp [lk, Za, Od.v, f]; exact rfl)] | rewrite [Yk])
 exact rfl) : p := (h f).mpr k
end Go.Proofs.YteekbciaggmfgaaDoor
