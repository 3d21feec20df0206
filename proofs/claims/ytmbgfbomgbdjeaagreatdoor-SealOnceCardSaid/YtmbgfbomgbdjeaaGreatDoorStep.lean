/- Ideal runs, one region at a time. Ideal runs: conditions, blocks, calls; the ideal heap's places. A number that fits is not wrapped. Runs of the ideal machine, as lemmas whose steps are default arguments: the facts are handed in as one. MADE BY expand.py. -/
import Derived.Test.YtmbgfbomgbdjeaaGreatDoorEngL
import Derived.Test.YtmbgfbomgbdjeaaGreatDoorChecked
namespace Go.Proofs.YtmbgfbomgbdjeaaGreatDoor
set_option linter.unusedVariables false
section
variable {X : Nat → Option XK} {e e' : Env} {h h' : Zb}
theorem Yr {ops : List XOper} {keep : List Nat} (he : ZL (E X) ops e h = some (e', h')) : C X (.reg ops keep) e h = some (.norm, Za keep e', h') := by rw [C_reg, he]
theorem s_seq {a b : XC} (ha : C X a e h = some (.norm, e', h')) : C X (.seq a b) e h = C X b e' h' := by rw [C_seq, ha]
theorem Zo {ops : List XOper} {keep : List Nat} {b : XC} (he : ZL (E X) ops e h = some (e', h')) : C X (.seq (.reg ops keep) b) e h = C X b (Za keep e') h' := s_seq (Yr he)
theorem ZN (a b c : XC) : C X (.seq (.seq a b) c) e h = C X (.seq a (.seq b c)) e h := by
  rw [C_seq, C_seq, C_seq]
  cases C X a e h with
  | none => rfl
  | some p =>
    obtain ⟨x, e1, h1⟩ := p
    cases x with
    | norm => simp only [C_seq]
    | exit id => rfl
    | ret => rfl
end
end Go.Proofs.YtmbgfbomgbdjeaaGreatDoor
namespace Go.Proofs.YtmbgfbomgbdjeaaGreatDoor
open Classical
set_option linter.unusedVariables false
section
variable {X : Nat → Option XK} {e e' : Env} {h h' : Zb}
theorem s_cond_t {c : Od} {a b r : XC} (hc : c.v e = .bool true) : C X (.seq (.cond c a b) r) e h = C X (.seq a r) e h := by
  rw [C_seq, C_cond, hc, C_seq]
theorem s_cond_f {c : Od} {a b r : XC} (hc : c.v e = .bool false) : C X (.seq (.cond c a b) r) e h = C X (.seq b r) e h := by
  rw [C_seq, C_cond, hc, C_seq]
/-- A branch, by a truth. -/
def cnd {α : Type} (t : Bool) (a b : α) : α := match t with | true => a | false => b
theorem Zx {α : Type} (a b : α) : cnd true a b = a := rfl
theorem Zw {α : Type} (a b : α) : cnd false a b = b := rfl
theorem Yj {c : Od} {a b r : XC} {t : Bool} (hc : c.v e = .bool t) : C X (.seq (.cond c a b) r) e h = cnd t (C X (.seq a r) e h) (C X (.seq b r) e h) := by
  cases t
  · exact s_cond_f hc
  · exact s_cond_t hc
theorem Ys {c : Od} {a b : XC} {t : Bool} (hc : c.v e = .bool t) : C X (.cond c a b) e h = cnd t (C X a e h) (C X b e h) := by
  rw [C_cond, hc]; cases t <;> rfl
theorem ZZ {r : XC} : C X (.seq .skip r) e h = C X r e h := by rw [C_seq, Yg]
theorem Yq {r : XC} : C X (.seq .ret r) e h = some (.ret, e, h) := by rw [C_seq, Yp]
theorem Yf {r : XC} {id : Nat} : C X (.seq (.exit id) r) e h = some (.exit id, e, h) := by rw [C_seq, Yh]
/-- What a block's end means for what stands behind it. -/
noncomputable def blk (X : Nat → Option XK) (id : Nat) (r : XC) : Option (Ex × Env × Zb) → Option (Ex × Env × Zb)
  | some (.norm, e, h) => C X r e h
  | some (.exit id', e, h) => if id' = id then C X r e h else some (.exit id', e, h)
  | some (.ret, e, h) => some (.ret, e, h)
  | none => none
theorem Yt {id : Nat} {c r : XC} : C X (.seq (.block id c) r) e h = blk X id r (C X c e h) := by
  rw [C_seq, C_block]
  cases C X c e h with
  | none => rfl
  | some p =>
    obtain ⟨x, e1, h1⟩ := p
    cases x with
    | norm => rfl
    | exit id' =>
      by_cases hi : id' = id
      · simp [blk, hi]
      · simp [blk, hi]
    | ret => rfl
theorem ZT {id : Nat} {r : XC} : blk X id r (some (.norm, e, h)) = C X r e h := rfl
theorem ZY {id : Nat} {r : XC} : blk X id r (some (.ret, e, h)) = some (.ret, e, h) := rfl
theorem ZU {id : Nat} {r : XC} : blk X id r (some (.exit id, e, h)) = C X r e h := by simp [blk]
theorem ZM {id id' : Nat} {r : XC} (hi : id' ≠ id) : blk X id r (some (.exit id', e, h)) = some (.exit id', e, h) := by simp [blk, hi]
def blkT (id : Nat) : Option (Ex × Env × Zb) → Option (Ex × Env × Zb)
  | some (.exit id', e, h) => if id' = id then some (.norm, e, h) else some (.exit id', e, h)
  | r => r
theorem Yo {id : Nat} {c : XC} : C X (.block id c) e h = blkT id (C X c e h) := by
  rw [C_block]
  cases C X c e h with
  | none => rfl
  | some p =>
    obtain ⟨x, e1, h1⟩ := p
    cases x <;> rfl
theorem ZI {id : Nat} : blkT id (some (.norm, e, h)) = some (.norm, e, h) := rfl
theorem ZR {id : Nat} : blkT id (some (.ret, e, h)) = some (.ret, e, h) := rfl
theorem ZK {id : Nat} : blkT id (some (.exit id, e, h)) = some (.norm, e, h) := by simp [blkT]
theorem ZG {id id' : Nat} (hi : id' ≠ id) : blkT id (some (.exit id', e, h)) = some (.exit id', e, h) := by simp [blkT, hi]
/-- What a round's end means for the loop. -/
noncomputable def lp (X : Nat → Option XK) (c : XC) : Option (Ex × Env × Zb) → Option (Ex × Env × Zb)
  | some (.norm, e, h) => C X (.loop c) e h
  | r => r
theorem Zf {c : XC} : C X (.loop c) e h = lp X c (C X c e h) := by
  rw [C_loop]
  cases C X c e h with
  | none => rfl
  | some p =>
    obtain ⟨x, e1, h1⟩ := p
    cases x <;> rfl
theorem ZJ {c : XC} : lp X c (some (.norm, e, h)) = C X (.loop c) e h := rfl
theorem lp_ret {c : XC} : lp X c (some (.ret, e, h)) = some (.ret, e, h) := rfl
theorem ZA {c : XC} {id : Nat} : lp X c (some (.exit id, e, h)) = some (.exit id, e, h) := rfl
/-- What a function's end means for the call. -/
noncomputable def ends (r : List XRes) (h : Zb) : Option (Ex × Env × Zb) → Option (DV × Zb)
  | some (.norm, e, h') => (Ya r e h').map (fin h h')
  | some (.ret, e, h') => (Ya r e h').map (fin h h')
  | _ => none
theorem ZS {r : List XRes} : ends r h (some (.norm, e, h')) = (Ya r e h').map (fin h h') := rfl
theorem Zv {r : List XRes} : ends r h (some (.ret, e, h')) = (Ya r e h').map (fin h h') := rfl
/-- A call of a function that is code. -/
theorem ZH {f : Nat} (n : Nat) (b : XC) (r : List XRes) {args : List DV} (hX : X f = some (.fn ⟨n, b, r⟩)) (hl : args.length = n) : E X f args h = ends r h (C X b (Zg args 0) h) := by
  rw [E_fn X h hX args, if_pos hl]
  cases C X b (Zg args 0) h with
  | none => rfl
  | some p =>
    obtain ⟨x, e1, h1⟩ := p
    cases x <;> rfl
end
theorem ZD {call : CallF} {d : Option Nat} {op : XOp} {e : Env} {h : Zb} : evOp call ⟨d, op, none, false⟩ e h = ZV call op e h := by
  simp only [evOp, wanted]
  cases ZV call op e h <;> simp
/-- A value beside a heap that only grew; b: it was read without the heap. -/
noncomputable def kpo (b : Bool) (h : Zb) (p : DV × Zb) : Option (DV × Zb) := if b = true ∧ p.2.take h.length = h then some p else none
theorem Zh (h : Zb) (d : DV) : kpo true h (d, h) = some (d, h) := by simp [kpo]
theorem Zq (h l : Zb) (d : DV) : kpo true h (d, h ++ l) = some (d, h ++ l) := by simp [kpo]
@[simp] theorem frd_load (ag : Bool) (sz : Nat) (x : Od) (e : Env) : (XOp.load ag sz x).frd e = (x.v e).flat2 := rfl
@[simp] theorem frd_iaddr (sz : Nat) (x i : Od) (e : Env) : (XOp.iaddr sz x i).frd e = (x.v e).flat2 := rfl
@[simp] theorem frd_slc (sz : Nat) (x : Od) (a b c : Option Od) (e : Env) : (XOp.slc sz x a b c).frd e = (x.v e).flat2 := rfl
@[simp] theorem frd_len (sz : Nat) (x : Od) (e : Env) : (XOp.len sz x).frd e = (x.v e).flat2 := rfl
@[simp] theorem frd_tostr (x : Od) (e : Env) : (XOp.tostr x).frd e = (x.v e).flat2 := rfl
@[simp] theorem frd_mlen (x : Od) (e : Env) : (XOp.mlen x).frd e = (x.v e).flat2 := rfl
@[simp] theorem frd_mget (ag : Bool) (ks : List Nat) (z : DV) (ok : Bool) (x k : Od) (e : Env) : (XOp.mget ag ks z ok x k).frd e = (x.v e).flat2 := rfl
@[simp] theorem frd_call (f : Od) (az : List Od) (e : Env) : (XOp.call f az).frd e = true := rfl
@[simp] theorem frd_alloc (t : Nat) (z : List DV) (e : Env) : (XOp.alloc t z).frd e = true := rfl
@[simp] theorem frd_box (t : Nat) (x : Od) (e : Env) : (XOp.box t x).frd e = true := rfl
@[simp] theorem frd_store (sz : Nat) (x v : Od) (e : Env) : (XOp.store sz x v).frd e = true := rfl
@[simp] theorem frd_app (a b c : Nat) (x y : Od) (e : Env) : (XOp.app a b c x y).frd e = true := rfl
@[simp] theorem frd_make (a b c : Nat) (z : DV) (x y : Od) (e : Env) : (XOp.make a b c z x y).frd e = true := rfl
@[simp] theorem frd_mkmap (x : Option Od) (e : Env) : (XOp.mkmap x).frd e = true := rfl
@[simp] theorem frd_mset (ag : Bool) (ks : List Nat) (x y z : Od) (e : Env) : (XOp.mset ag ks x y z).frd e = true := rfl
@[simp] theorem frd_mkslice (ro : Bool) (a b : Nat) (l : List Od) (e : Env) : (XOp.mkslice ro a b l).frd e = true := rfl
@[simp] theorem frd_mklist (a : Nat) (l : List Od) (e : Env) : (XOp.mklist a l).frd e = true := rfl
@[simp] theorem frd_appz (a b c : Nat) (z : DV) (x y : Od) (e : Env) : (XOp.appz a b c z x y).frd e = true := rfl
@[simp] theorem flat2_list (sz : Nat) (xs : List DV) (c : Bool) : (DV.list sz xs c).flat2 = true := rfl
@[simp] theorem flat2_elem (sz : Nat) (xs : List DV) (c : Bool) (a b d : Nat) : (DV.elem (.list sz xs c) a b d).flat2 = true := rfl
@[simp] theorem flat2_nils : DV.flat2 .nils = true := rfl
@[simp] theorem flat2_nilm : DV.flat2 .nilm = true := rfl
theorem ZC {call : CallF} {d : Option Nat} {op : XOp} {e : Env} {h : Zb} : evOp call ⟨d, op, none, true⟩ e h = (ZV call op e h).bind (kpo (op.frd e) h) := by
  simp only [evOp, wanted]
  cases ZV call op e h with
  | none => rfl
  | some p => by_cases hp : p.2.take h.length = h <;> cases hb : op.frd e <;> simp [kpo, hp]
/-- What a guard says. -/
noncomputable def gd {α : Type} (g : DV) (b : Bool) (x y : Option α) : Option α := match g with
  | .bool t => cnd (t == b) x y
  | .tup _ => y
  | _ => none
theorem Zr {α : Type} (t : Bool) (x y : Option α) : gd (.bool t) true x y = cnd t x y := by cases t <;> rfl
theorem Zi {α : Type} (t : Bool) (x y : Option α) : gd (.bool t) false x y = cnd t y x := by cases t <;> rfl
theorem ZB {α : Type} (l : List DV) (b : Bool) (x y : Option α) : gd (.tup l) b x y = y := rfl
theorem ZE {call : CallF} {d : Option Nat} {op : XOp} {s : Nat} {b : Bool} {e : Env} {h : Zb} : evOp call ⟨d, op, some (s, b), false⟩ e h = gd (lk e s) b (ZV call op e h) (some (.tup [], h)) := by
  simp only [evOp, wanted, gd]
  cases lk e s with
  | bool t => cases ht : (t == b) <;> simp only [ht, cnd] <;> cases ZV call op e h <;> simp
  | tup => rfl
  | _ => rfl
theorem Zs {call : CallF} {d : Option Nat} {op : XOp} {s : Nat} {b : Bool} {e : Env} {h : Zb} : evOp call ⟨d, op, some (s, b), true⟩ e h = gd (lk e s) b ((ZV call op e h).bind (kpo (op.frd e) h)) (some (.tup [], h)) := by
  simp only [evOp, wanted, gd]
  cases lk e s with
  | bool t =>
    cases ht : (t == b)
    · simp only [ht, cnd]
    · simp only [ht, cnd]
      cases ZV call op e h with
      | none => rfl
      | some p => by_cases hp : p.2.take h.length = h <;> cases hb : op.frd e <;> simp [kpo, hp]
  | tup => rfl
  | _ => rfl
theorem Zk {α : Type} (b : Bool) (x y : α) : cnd b (some x) (some y) = some (cnd b x y) := by cases b <;> rfl
theorem Zm (b : Bool) (x y : DV) (h : Zb) : cnd b (x, h) (y, h) = (cnd b x y, h) := by cases b <;> rfl
theorem Zc {α : Type} (q : Bool) (x y z : α) : cnd q (cnd q x y) z = cnd q x z := by cases q <;> rfl
theorem Ze {α : Type} (q : Bool) (x y z : α) : cnd q z (cnd q y x) = cnd q z x := by cases q <;> rfl
theorem Zl {α : Type} (q : Bool) (x : α) : cnd q x x = x := by cases q <;> rfl
theorem Zt (q a b : Bool) : cnd q (DV.bool a) (DV.bool b) = DV.bool (cnd q a b) := by cases q <;> rfl
theorem Zu (q a : Bool) : cnd q a false = (q && a) := by cases q <;> rfl
theorem ZF (q a : Bool) : cnd q true a = (q || a) := by cases q <;> rfl
theorem Zj (c a b : Od) (e : Env) (h : Zb) : Yn (.pick c a b) e h = match c.v e with | .bool t => some (cnd t (a.v e) (b.v e), h) | _ => none := by
  rw [Yn]
  cases c.v e with
  | bool t => cases t <;> rfl
  | _ => rfl
theorem nlt (n k : Nat) : (n + k < n) = False := by simp
theorem Zn (h : Zb) (ag : Bool) (sz o p : Nat) : ldx h ag sz (.ref o p) = match h[o]? with
    | some (.box _ cs) => rdc ag sz cs p
    | _ => none := rfl
theorem Zp (h : Zb) (sz o p : Nat) (v : DV) : stx h sz (.ref o p) v = if v.cells.length = sz ∧ v.cells.all DV.one = true then (match h[o]? with
      | some (.box t cs) => if p + sz ≤ cs.length then some (h.set o (.box t (splice cs p v.cells))) else none
      | _ => none) else none := rfl
theorem hget (h l : Zb) (i : Nat) : (h ++ l)[h.length + i]? = l[i]? := by
  rw [List.getElem?_append_right (by omega)]; congr 1; omega
theorem ZP (h l : Zb) : (h ++ l)[h.length]? = l[0]? := by
  rw [List.getElem?_append_right (by omega)]; congr 1; omega
theorem Yb (h l : Zb) (i : Nat) (x : HO) : (h ++ l).set (h.length + i) x = h ++ l.set i x := by
  have := List.set_append (s := h) (t := l) (i := h.length + i) (x := x)
  simp only [this, if_neg (show ¬ h.length + i < h.length by omega)]; congr 2; omega
theorem ZO (h l : Zb) (x : HO) : (h ++ l).set h.length x = h ++ l.set 0 x := by
  have := List.set_append (s := h) (t := l) (i := h.length) (x := x)
  simp only [this, if_neg (show ¬ h.length < h.length by omega)]; congr 2; omega
/-- Plain results. -/
def DV.plain : DV → Bool
  | .bool _ | .int _ _ | .str _ | .nilp | .nils | .nilm | .nilf | .nili | .list _ _ _ => true
  | _ => false
theorem fz1_plain (n : Nat) (h : Zb) (top : Bool) {d : DV} (hd : d.plain = true) : fz1 n h top d = some (d, h) := by
  cases d <;> simp_all [DV.plain, fz1, fz0]
theorem fin2 (h l : Zb) {d d' : DV} (hd : d.plain = true) (hd' : d'.plain = true) : fin h (h ++ l) [d, d'] = (.tup [d, d'], h) := by
  simp [fin, fzT, fz1_plain _ _ _ hd, fz1_plain _ _ _ hd']
theorem fin2' (h : Zb) {d d' : DV} (hd : d.plain = true) (hd' : d'.plain = true) : fin h h [d, d'] = (.tup [d, d'], h) := by
  simp [fin, fzT, fz1_plain _ _ _ hd, fz1_plain _ _ _ hd']
theorem one_bool (b : Bool) : DV.one (.bool b) = true := rfl
theorem one_int (k : IntKind) (n : Int) : DV.one (.int k n) = true := rfl
theorem one_str (s : ByteArray) : DV.one (.str s) = true := rfl
theorem one_nilp : DV.one (.nilp) = true := rfl
theorem one_ref (o p : Nat) : DV.one (.ref o p) = true := rfl
theorem one_elem (d : DV) (s i p : Nat) : DV.one (.elem d s i p) = true := rfl
theorem one_nils : DV.one (.nils) = true := rfl
theorem one_list (s : Nat) (xs : List DV) (c : Bool) : DV.one (.list s xs c) = true := rfl
theorem one_row (o g l n : Nat) (c : Bool) : DV.one (.row o g l n c) = true := rfl
theorem one_nilm : DV.one (.nilm) = true := rfl
theorem one_map (o : Nat) : DV.one (.map o) = true := rfl
theorem one_nilf : DV.one (.nilf) = true := rfl
theorem one_func (f : Nat) (a b : List DV) : DV.one (.func f a b) = true := rfl
theorem one_nili : DV.one (.nili) = true := rfl
theorem one_ifc (t : Nat) (v : DV) : DV.one (.ifc t v) = true := rfl
theorem one_agg (cs : List DV) : DV.one (.agg cs) = false := rfl
theorem one_tup (vs : List DV) : DV.one (.tup vs) = false := rfl
theorem Yv : DV.one (.undef) = false := rfl
theorem Yw (e s : Nat) (xs : List DV) : DV.one (.fresh e s xs) = false := rfl
end Go.Proofs.YtmbgfbomgbdjeaaGreatDoor
namespace Go.Proofs.YtmbgfbomgbdjeaaGreatDoor
theorem wrap64 (n : Int) (h1 : -9223372036854775808 ≤ n) (h2 : n ≤ 9223372036854775807) : IntKind.i64.wrap n = n := by
  have e : IntKind.i64.wrap n = if n % 18446744073709551616 ≥ 9223372036854775808 then n % 18446744073709551616 - 18446744073709551616 else n % 18446744073709551616 := by
    simp [IntKind.wrap, IntKind.bits, IntKind.signed]
  rw [e]
  split <;> omega
set_option linter.unusedVariables false
set_option linter.unusedSimpArgs false
set_option maxRecDepth 100000

theorem wrapu (n : Nat) : IntKind.u64.wrap (n : Int) = ((n % 18446744073709551616 : Nat) : Int) := by
  simp [IntKind.wrap, IntKind.bits, IntKind.signed]
theorem fA2 {p0 p1 : Prop} (a0 : p0) (a1 : p1) : p0 ∧ p1 := ⟨a0, a1⟩
theorem fA3 {p0 p1 p2 : Prop} (a0 : p0) (a1 : p1) (a2 : p2) : p0 ∧ p1 ∧ p2 := ⟨a0, a1, a2⟩
theorem fA4 {p0 p1 p2 p3 : Prop} (a0 : p0) (a1 : p1) (a2 : p2) (a3 : p3) : p0 ∧ p1 ∧ p2 ∧ p3 := ⟨a0, a1, a2, a3⟩
theorem fA5 {p0 p1 p2 p3 p4 : Prop} (a0 : p0) (a1 : p1) (a2 : p2) (a3 : p3) (a4 : p4) : p0 ∧ p1 ∧ p2 ∧ p3 ∧ p4 := ⟨a0, a1, a2, a3, a4⟩
theorem fA6 {p0 p1 p2 p3 p4 p5 : Prop} (a0 : p0) (a1 : p1) (a2 : p2) (a3 : p3) (a4 : p4) (a5 : p5) : p0 ∧ p1 ∧ p2 ∧ p3 ∧ p4 ∧ p5 := ⟨a0, a1, a2, a3, a4, a5⟩
theorem fA7 {p0 p1 p2 p3 p4 p5 p6 : Prop} (a0 : p0) (a1 : p1) (a2 : p2) (a3 : p3) (a4 : p4) (a5 : p5) (a6 : p6) : p0 ∧ p1 ∧ p2 ∧ p3 ∧ p4 ∧ p5 ∧ p6 := ⟨a0, a1, a2, a3, a4, a5, a6⟩
theorem fA8 {p0 p1 p2 p3 p4 p5 p6 p7 : Prop} (a0 : p0) (a1 : p1) (a2 : p2) (a3 : p3) (a4 : p4) (a5 : p5) (a6 : p6) (a7 : p7) : p0 ∧ p1 ∧ p2 ∧ p3 ∧ p4 ∧ p5 ∧ p6 ∧ p7 := ⟨a0, a1, a2, a3, a4, a5, a6, a7⟩
theorem fA9 {p0 p1 p2 p3 p4 p5 p6 p7 p8 : Prop} (a0 : p0) (a1 : p1) (a2 : p2) (a3 : p3) (a4 : p4) (a5 : p5) (a6 : p6) (a7 : p7) (a8 : p8) : p0 ∧ p1 ∧ p2 ∧ p3 ∧ p4 ∧ p5 ∧ p6 ∧ p7 ∧ p8 := ⟨a0, a1, a2, a3, a4, a5, a6, a7, a8⟩
theorem fA10 {p0 p1 p2 p3 p4 p5 p6 p7 p8 p9 : Prop} (a0 : p0) (a1 : p1) (a2 : p2) (a3 : p3) (a4 : p4) (a5 : p5) (a6 : p6) (a7 : p7) (a8 : p8) (a9 : p9) : p0 ∧ p1 ∧ p2 ∧ p3 ∧ p4 ∧ p5 ∧ p6 ∧ p7 ∧ p8 ∧ p9 := ⟨a0, a1, a2, a3, a4, a5, a6, a7, a8, a9⟩
theorem fA11 {p0 p1 p2 p3 p4 p5 p6 p7 p8 p9 p10 : Prop} (a0 : p0) (a1 : p1) (a2 : p2) (a3 : p3) (a4 : p4) (a5 : p5) (a6 : p6) (a7 : p7) (a8 : p8) (a9 : p9) (a10 : p10) : p0 ∧ p1 ∧ p2 ∧ p3 ∧ p4 ∧ p5 ∧ p6 ∧ p7 ∧ p8 ∧ p9 ∧ p10 := ⟨a0, a1, a2, a3, a4, a5, a6, a7, a8, a9, a10⟩
theorem fA12 {p0 p1 p2 p3 p4 p5 p6 p7 p8 p9 p10 p11 : Prop} (a0 : p0) (a1 : p1) (a2 : p2) (a3 : p3) (a4 : p4) (a5 : p5) (a6 : p6) (a7 : p7) (a8 : p8) (a9 : p9) (a10 : p10) (a11 : p11) : p0 ∧ p1 ∧ p2 ∧ p3 ∧ p4 ∧ p5 ∧ p6 ∧ p7 ∧ p8 ∧ p9 ∧ p10 ∧ p11 := ⟨a0, a1, a2, a3, a4, a5, a6, a7, a8, a9, a10, a11⟩
theorem fA13 {p0 p1 p2 p3 p4 p5 p6 p7 p8 p9 p10 p11 p12 : Prop} (a0 : p0) (a1 : p1) (a2 : p2) (a3 : p3) (a4 : p4) (a5 : p5) (a6 : p6) (a7 : p7) (a8 : p8) (a9 : p9) (a10 : p10) (a11 : p11) (a12 : p12) : p0 ∧ p1 ∧ p2 ∧ p3 ∧ p4 ∧ p5 ∧ p6 ∧ p7 ∧ p8 ∧ p9 ∧ p10 ∧ p11 ∧ p12 := ⟨a0, a1, a2, a3, a4, a5, a6, a7, a8, a9, a10, a11, a12⟩
theorem fA14 {p0 p1 p2 p3 p4 p5 p6 p7 p8 p9 p10 p11 p12 p13 : Prop} (a0 : p0) (a1 : p1) (a2 : p2) (a3 : p3) (a4 : p4) (a5 : p5) (a6 : p6) (a7 : p7) (a8 : p8) (a9 : p9) (a10 : p10) (a11 : p11) (a12 : p12) (a13 : p13) : p0 ∧ p1 ∧ p2 ∧ p3 ∧ p4 ∧ p5 ∧ p6 ∧ p7 ∧ p8 ∧ p9 ∧ p10 ∧ p11 ∧ p12 ∧ p13 := ⟨a0, a1, a2, a3, a4, a5, a6, a7, a8, a9, a10, a11, a12, a13⟩
theorem fA15 {p0 p1 p2 p3 p4 p5 p6 p7 p8 p9 p10 p11 p12 p13 p14 : Prop} (a0 : p0) (a1 : p1) (a2 : p2) (a3 : p3) (a4 : p4) (a5 : p5) (a6 : p6) (a7 : p7) (a8 : p8) (a9 : p9) (a10 : p10) (a11 : p11) (a12 : p12) (a13 : p13) (a14 : p14) : p0 ∧ p1 ∧ p2 ∧ p3 ∧ p4 ∧ p5 ∧ p6 ∧ p7 ∧ p8 ∧ p9 ∧ p10 ∧ p11 ∧ p12 ∧ p13 ∧ p14 := ⟨a0, a1, a2, a3, a4, a5, a6, a7, a8, a9, a10, a11, a12, a13, a14⟩
theorem fA16 {p0 p1 p2 p3 p4 p5 p6 p7 p8 p9 p10 p11 p12 p13 p14 p15 : Prop} (a0 : p0) (a1 : p1) (a2 : p2) (a3 : p3) (a4 : p4) (a5 : p5) (a6 : p6) (a7 : p7) (a8 : p8) (a9 : p9) (a10 : p10) (a11 : p11) (a12 : p12) (a13 : p13) (a14 : p14) (a15 : p15) : p0 ∧ p1 ∧ p2 ∧ p3 ∧ p4 ∧ p5 ∧ p6 ∧ p7 ∧ p8 ∧ p9 ∧ p10 ∧ p11 ∧ p12 ∧ p13 ∧ p14 ∧ p15 := ⟨a0, a1, a2, a3, a4, a5, a6, a7, a8, a9, a10, a11, a12, a13, a14, a15⟩
theorem fA17 {p0 p1 p2 p3 p4 p5 p6 p7 p8 p9 p10 p11 p12 p13 p14 p15 p16 : Prop} (a0 : p0) (a1 : p1) (a2 : p2) (a3 : p3) (a4 : p4) (a5 : p5) (a6 : p6) (a7 : p7) (a8 : p8) (a9 : p9) (a10 : p10) (a11 : p11) (a12 : p12) (a13 : p13) (a14 : p14) (a15 : p15) (a16 : p16) : p0 ∧ p1 ∧ p2 ∧ p3 ∧ p4 ∧ p5 ∧ p6 ∧ p7 ∧ p8 ∧ p9 ∧ p10 ∧ p11 ∧ p12 ∧ p13 ∧ p14 ∧ p15 ∧ p16 := ⟨a0, a1, a2, a3, a4, a5, a6, a7, a8, a9, a10, a11, a12, a13, a14, a15, a16⟩
theorem fA18 {p0 p1 p2 p3 p4 p5 p6 p7 p8 p9 p10 p11 p12 p13 p14 p15 p16 p17 : Prop} (a0 : p0) (a1 : p1) (a2 : p2) (a3 : p3) (a4 : p4) (a5 : p5) (a6 : p6) (a7 : p7) (a8 : p8) (a9 : p9) (a10 : p10) (a11 : p11) (a12 : p12) (a13 : p13) (a14 : p14) (a15 : p15) (a16 : p16) (a17 : p17) : p0 ∧ p1 ∧ p2 ∧ p3 ∧ p4 ∧ p5 ∧ p6 ∧ p7 ∧ p8 ∧ p9 ∧ p10 ∧ p11 ∧ p12 ∧ p13 ∧ p14 ∧ p15 ∧ p16 ∧ p17 := ⟨a0, a1, a2, a3, a4, a5, a6, a7, a8, a9, a10, a11, a12, a13, a14, a15, a16, a17⟩
theorem fA19 {p0 p1 p2 p3 p4 p5 p6 p7 p8 p9 p10 p11 p12 p13 p14 p15 p16 p17 p18 : Prop} (a0 : p0) (a1 : p1) (a2 : p2) (a3 : p3) (a4 : p4) (a5 : p5) (a6 : p6) (a7 : p7) (a8 : p8) (a9 : p9) (a10 : p10) (a11 : p11) (a12 : p12) (a13 : p13) (a14 : p14) (a15 : p15) (a16 : p16) (a17 : p17) (a18 : p18) : p0 ∧ p1 ∧ p2 ∧ p3 ∧ p4 ∧ p5 ∧ p6 ∧ p7 ∧ p8 ∧ p9 ∧ p10 ∧ p11 ∧ p12 ∧ p13 ∧ p14 ∧ p15 ∧ p16 ∧ p17 ∧ p18 := ⟨a0, a1, a2, a3, a4, a5, a6, a7, a8, a9, a10, a11, a12, a13, a14, a15, a16, a17, a18⟩
theorem fA20 {p0 p1 p2 p3 p4 p5 p6 p7 p8 p9 p10 p11 p12 p13 p14 p15 p16 p17 p18 p19 : Prop} (a0 : p0) (a1 : p1) (a2 : p2) (a3 : p3) (a4 : p4) (a5 : p5) (a6 : p6) (a7 : p7) (a8 : p8) (a9 : p9) (a10 : p10) (a11 : p11) (a12 : p12) (a13 : p13) (a14 : p14) (a15 : p15) (a16 : p16) (a17 : p17) (a18 : p18) (a19 : p19) : p0 ∧ p1 ∧ p2 ∧ p3 ∧ p4 ∧ p5 ∧ p6 ∧ p7 ∧ p8 ∧ p9 ∧ p10 ∧ p11 ∧ p12 ∧ p13 ∧ p14 ∧ p15 ∧ p16 ∧ p17 ∧ p18 ∧ p19 := ⟨a0, a1, a2, a3, a4, a5, a6, a7, a8, a9, a10, a11, a12, a13, a14, a15, a16, a17, a18, a19⟩
theorem fA21 {p0 p1 p2 p3 p4 p5 p6 p7 p8 p9 p10 p11 p12 p13 p14 p15 p16 p17 p18 p19 p20 : Prop} (a0 : p0) (a1 : p1) (a2 : p2) (a3 : p3) (a4 : p4) (a5 : p5) (a6 : p6) (a7 : p7) (a8 : p8) (a9 : p9) (a10 : p10) (a11 : p11) (a12 : p12) (a13 : p13) (a14 : p14) (a15 : p15) (a16 : p16) (a17 : p17) (a18 : p18) (a19 : p19) (a20 : p20) : p0 ∧ p1 ∧ p2 ∧ p3 ∧ p4 ∧ p5 ∧ p6 ∧ p7 ∧ p8 ∧ p9 ∧ p10 ∧ p11 ∧ p12 ∧ p13 ∧ p14 ∧ p15 ∧ p16 ∧ p17 ∧ p18 ∧ p19 ∧ p20 := ⟨a0, a1, a2, a3, a4, a5, a6, a7, a8, a9, a10, a11, a12, a13, a14, a15, a16, a17, a18, a19, a20⟩
theorem fA22 {p0 p1 p2 p3 p4 p5 p6 p7 p8 p9 p10 p11 p12 p13 p14 p15 p16 p17 p18 p19 p20 p21 : Prop} (a0 : p0) (a1 : p1) (a2 : p2) (a3 : p3) (a4 : p4) (a5 : p5) (a6 : p6) (a7 : p7) (a8 : p8) (a9 : p9) (a10 : p10) (a11 : p11) (a12 : p12) (a13 : p13) (a14 : p14) (a15 : p15) (a16 : p16) (a17 : p17) (a18 : p18) (a19 : p19) (a20 : p20) (a21 : p21) : p0 ∧ p1 ∧ p2 ∧ p3 ∧ p4 ∧ p5 ∧ p6 ∧ p7 ∧ p8 ∧ p9 ∧ p10 ∧ p11 ∧ p12 ∧ p13 ∧ p14 ∧ p15 ∧ p16 ∧ p17 ∧ p18 ∧ p19 ∧ p20 ∧ p21 := ⟨a0, a1, a2, a3, a4, a5, a6, a7, a8, a9, a10, a11, a12, a13, a14, a15, a16, a17, a18, a19, a20, a21⟩
theorem fA23 {p0 p1 p2 p3 p4 p5 p6 p7 p8 p9 p10 p11 p12 p13 p14 p15 p16 p17 p18 p19 p20 p21 p22 : Prop} (a0 : p0) (a1 : p1) (a2 : p2) (a3 : p3) (a4 : p4) (a5 : p5) (a6 : p6) (a7 : p7) (a8 : p8) (a9 : p9) (a10 : p10) (a11 : p11) (a12 : p12) (a13 : p13) (a14 : p14) (a15 : p15) (a16 : p16) (a17 : p17) (a18 : p18) (a19 : p19) (a20 : p20) (a21 : p21) (a22 : p22) : p0 ∧ p1 ∧ p2 ∧ p3 ∧ p4 ∧ p5 ∧ p6 ∧ p7 ∧ p8 ∧ p9 ∧ p10 ∧ p11 ∧ p12 ∧ p13 ∧ p14 ∧ p15 ∧ p16 ∧ p17 ∧ p18 ∧ p19 ∧ p20 ∧ p21 ∧ p22 := ⟨a0, a1, a2, a3, a4, a5, a6, a7, a8, a9, a10, a11, a12, a13, a14, a15, a16, a17, a18, a19, a20, a21, a22⟩
theorem fA24 {p0 p1 p2 p3 p4 p5 p6 p7 p8 p9 p10 p11 p12 p13 p14 p15 p16 p17 p18 p19 p20 p21 p22 p23 : Prop} (a0 : p0) (a1 : p1) (a2 : p2) (a3 : p3) (a4 : p4) (a5 : p5) (a6 : p6) (a7 : p7) (a8 : p8) (a9 : p9) (a10 : p10) (a11 : p11) (a12 : p12) (a13 : p13) (a14 : p14) (a15 : p15) (a16 : p16) (a17 : p17) (a18 : p18) (a19 : p19) (a20 : p20) (a21 : p21) (a22 : p22) (a23 : p23) : p0 ∧ p1 ∧ p2 ∧ p3 ∧ p4 ∧ p5 ∧ p6 ∧ p7 ∧ p8 ∧ p9 ∧ p10 ∧ p11 ∧ p12 ∧ p13 ∧ p14 ∧ p15 ∧ p16 ∧ p17 ∧ p18 ∧ p19 ∧ p20 ∧ p21 ∧ p22 ∧ p23 := ⟨a0, a1, a2, a3, a4, a5, a6, a7, a8, a9, a10, a11, a12, a13, a14, a15, a16, a17, a18, a19, a20, a21, a22, a23⟩
theorem fA25 {p0 p1 p2 p3 p4 p5 p6 p7 p8 p9 p10 p11 p12 p13 p14 p15 p16 p17 p18 p19 p20 p21 p22 p23 p24 : Prop} (a0 : p0) (a1 : p1) (a2 : p2) (a3 : p3) (a4 : p4) (a5 : p5) (a6 : p6) (a7 : p7) (a8 : p8) (a9 : p9) (a10 : p10) (a11 : p11) (a12 : p12) (a13 : p13) (a14 : p14) (a15 : p15) (a16 : p16) (a17 : p17) (a18 : p18) (a19 : p19) (a20 : p20) (a21 : p21) (a22 : p22) (a23 : p23) (a24 : p24) : p0 ∧ p1 ∧ p2 ∧ p3 ∧ p4 ∧ p5 ∧ p6 ∧ p7 ∧ p8 ∧ p9 ∧ p10 ∧ p11 ∧ p12 ∧ p13 ∧ p14 ∧ p15 ∧ p16 ∧ p17 ∧ p18 ∧ p19 ∧ p20 ∧ p21 ∧ p22 ∧ p23 ∧ p24 := ⟨a0, a1, a2, a3, a4, a5, a6, a7, a8, a9, a10, a11, a12, a13, a14, a15, a16, a17, a18, a19, a20, a21, a22, a23, a24⟩
theorem fA28 {p0 p1 p2 p3 p4 p5 p6 p7 p8 p9 p10 p11 p12 p13 p14 p15 p16 p17 p18 p19 p20 p21 p22 p23 p24 p25 p26 p27 : Prop} (a0 : p0) (a1 : p1) (a2 : p2) (a3 : p3) (a4 : p4) (a5 : p5) (a6 : p6) (a7 : p7) (a8 : p8) (a9 : p9) (a10 : p10) (a11 : p11) (a12 : p12) (a13 : p13) (a14 : p14) (a15 : p15) (a16 : p16) (a17 : p17) (a18 : p18) (a19 : p19) (a20 : p20) (a21 : p21) (a22 : p22) (a23 : p23) (a24 : p24) (a25 : p25) (a26 : p26) (a27 : p27) : p0 ∧ p1 ∧ p2 ∧ p3 ∧ p4 ∧ p5 ∧ p6 ∧ p7 ∧ p8 ∧ p9 ∧ p10 ∧ p11 ∧ p12 ∧ p13 ∧ p14 ∧ p15 ∧ p16 ∧ p17 ∧ p18 ∧ p19 ∧ p20 ∧ p21 ∧ p22 ∧ p23 ∧ p24 ∧ p25 ∧ p26 ∧ p27 := ⟨a0, a1, a2, a3, a4, a5, a6, a7, a8, a9, a10, a11, a12, a13, a14, a15, a16, a17, a18, a19, a20, a21, a22, a23, a24, a25, a26, a27⟩
theorem fA29 {p0 p1 p2 p3 p4 p5 p6 p7 p8 p9 p10 p11 p12 p13 p14 p15 p16 p17 p18 p19 p20 p21 p22 p23 p24 p25 p26 p27 p28 : Prop} (a0 : p0) (a1 : p1) (a2 : p2) (a3 : p3) (a4 : p4) (a5 : p5) (a6 : p6) (a7 : p7) (a8 : p8) (a9 : p9) (a10 : p10) (a11 : p11) (a12 : p12) (a13 : p13) (a14 : p14) (a15 : p15) (a16 : p16) (a17 : p17) (a18 : p18) (a19 : p19) (a20 : p20) (a21 : p21) (a22 : p22) (a23 : p23) (a24 : p24) (a25 : p25) (a26 : p26) (a27 : p27) (a28 : p28) : p0 ∧ p1 ∧ p2 ∧ p3 ∧ p4 ∧ p5 ∧ p6 ∧ p7 ∧ p8 ∧ p9 ∧ p10 ∧ p11 ∧ p12 ∧ p13 ∧ p14 ∧ p15 ∧ p16 ∧ p17 ∧ p18 ∧ p19 ∧ p20 ∧ p21 ∧ p22 ∧ p23 ∧ p24 ∧ p25 ∧ p26 ∧ p27 ∧ p28 := ⟨a0, a1, a2, a3, a4, a5, a6, a7, a8, a9, a10, a11, a12, a13, a14, a15, a16, a17, a18, a19, a20, a21, a22, a23, a24, a25, a26, a27, a28⟩
theorem keG {p q : Prop} (k : q) (h : p = q := by
  try (conv => lhs; simp only [Za, List.map_cons, List.map_nil, lk, reduceIte, Nat.reduceEqDiff, Nat.zero_ne_one, Nat.one_ne_zero])
  first | done | exact rfl) : p := h ▸ k
theorem re {p F : Prop} (f : F) (h : F → p := by
  intro f
  simp [Zv, ZS, Ya, go_sem, fin, fz0, fz1, fzT, fzL, nlt, f]) : p := h f
theorem re1 {p F : Prop} (f : F) (h : F → p := by
  intro f
  simp [Zv, ZS, Ya, go_sem, fin, fz0, fz1, fzT, fzL, nlt, lightB, f]) : p := h f
theorem re4 {p F : Prop} (f : F) (h : F → p := by
  intro f
  simp [Zv, ZS, Ya, go_sem, fin, fz0, fz1, fzT, fzL, nlt, q8, f]) : p := h f
theorem rex {p F : Prop} (f : F) (h : F → p := by
  intro f
  simp [Zv, ZS, Ya, ZL, ZD, ZC, ZE, Zs, Zh, Zq, Zk, Zm, Zc, Ze, Zl, Zt, Zu, ZF, ↓Zj, Zr, Zi, ZB, Zx, Zw, ZV, Zz, Yn, put, lk, Od.v, Za, Zg, Zn, rdc, Yd, Ye, Yc, unx, eqk, DV.isU, DV.cells, hget, ZP, Yb, ZO, Zp, splice, DV.one, ZQ, mat, ZW, eqs, fin, fz0, fz1, fzT, fzL, nlt, f]) : p := h f
theorem rg {p F : Prop} (f : F) (h : F → p := by
  intro f
  repeat (first | rewrite [ZN] | rewrite [Zo (by simp [go_sem, f]; exact ⟨rfl, rfl⟩)] | rewrite [Yj (by simp [lk, Za, Od.v, f]; exact rfl)] | rewrite [Zx] | rewrite [Zw] | rewrite [ZZ] | rewrite [Yq] | rewrite [Yf] | rewrite [Yp] | rewrite [Yh] | rewrite [Yg] | rewrite [ZY] | rewrite [ZT] | rewrite [ZU] | rewrite [ZM (by decide)] | rewrite [ZR] | rewrite [ZI] | rewrite [ZK] | rewrite [ZG (by decide)] | rewrite [Yt] | rewrite [Yr (by simp [go_sem, f]; exact ⟨rfl, rfl⟩)] | rewrite [Ys (by simp [lk, Za, Od.v, f]; exact rfl)] | rewrite [Yo])
  simp [Zv, ZS, Ya, go_sem, fin, fz0, fz1, fzT, fzL, nlt, f]) : p := h f
theorem rg0 {p F : Prop} (f : F) (h : F → p := by
  intro f
  repeat (first | rewrite [ZN] | rewrite [Zo (by simp [go_sem, ldx, f]; exact ⟨rfl, rfl⟩)] | rewrite [Yj (by simp [lk, Za, Od.v, ldx, f]; exact rfl)] | rewrite [Zx] | rewrite [Zw] | rewrite [ZZ] | rewrite [Yq] | rewrite [Yf] | rewrite [Yp] | rewrite [Yh] | rewrite [Yg] | rewrite [ZY] | rewrite [ZT] | rewrite [ZU] | rewrite [ZM (by decide)] | rewrite [ZR] | rewrite [ZI] | rewrite [ZK] | rewrite [ZG (by decide)] | rewrite [Yt] | rewrite [Yr (by simp [go_sem, ldx, f]; exact ⟨rfl, rfl⟩)] | rewrite [Ys (by simp [lk, Za, Od.v, ldx, f]; exact rfl)] | rewrite [Yo])
  simp [Zv, ZS, Ya, go_sem, fin, fz0, fz1, fzT, fzL, nlt, ldx, f]) : p := h f
theorem rg1 {p F : Prop} (f : F) (h : F → p := by
  intro f
  repeat (first | rewrite [ZN] | rewrite [Zo (by simp [go_sem, vw, f]; exact ⟨rfl, rfl⟩)] | rewrite [Yj (by simp [lk, Za, Od.v, vw, f]; exact rfl)] | rewrite [Zx] | rewrite [Zw] | rewrite [ZZ] | rewrite [Yq] | rewrite [Yf] | rewrite [Yp] | rewrite [Yh] | rewrite [Yg] | rewrite [ZY] | rewrite [ZT] | rewrite [ZU] | rewrite [ZM (by decide)] | rewrite [ZR] | rewrite [ZI] | rewrite [ZK] | rewrite [ZG (by decide)] | rewrite [Yt] | rewrite [Yr (by simp [go_sem, vw, f]; exact ⟨rfl, rfl⟩)] | rewrite [Ys (by simp [lk, Za, Od.v, vw, f]; exact rfl)] | rewrite [Yo])
  simp [Zv, ZS, Ya, go_sem, fin, fz0, fz1, fzT, fzL, nlt, vw, f]) : p := h f
theorem rg10 {p F : Prop} (f : F) (h : F → p := by
  intro f
  repeat (first | rewrite [ZN] | rewrite [Zo (by simp [go_sem, cmpS, ltS, f]; exact ⟨rfl, rfl⟩)] | rewrite [Yj (by simp [lk, Za, Od.v, cmpS, ltS, f]; exact rfl)] | rewrite [Zx] | rewrite [Zw] | rewrite [ZZ] | rewrite [Yq] | rewrite [Yf] | rewrite [Yp] | rewrite [Yh] | rewrite [Yg] | rewrite [ZY] | rewrite [ZT] | rewrite [ZU] | rewrite [ZM (by decide)] | rewrite [ZR] | rewrite [ZI] | rewrite [ZK] | rewrite [ZG (by decide)] | rewrite [Yt] | rewrite [Yr (by simp [go_sem, cmpS, ltS, f]; exact ⟨rfl, rfl⟩)] | rewrite [Ys (by simp [lk, Za, Od.v, cmpS, ltS, f]; exact rfl)] | rewrite [Yo])
  simp [Zv, ZS, Ya, go_sem, fin, fz0, fz1, fzT, fzL, nlt, cmpS, ltS, f]) : p := h f
theorem rg11 {p F : Prop} (f : F) (h : F → p := by
  intro f
  repeat (first | rewrite [ZN] | rewrite [Zo (by simp [go_sem, ord, f]; exact ⟨rfl, rfl⟩)] | rewrite [Yj (by simp [lk, Za, Od.v, ord, f]; exact rfl)] | rewrite [Zx] | rewrite [Zw] | rewrite [ZZ] | rewrite [Yq] | rewrite [Yf] | rewrite [Yp] | rewrite [Yh] | rewrite [Yg] | rewrite [ZY] | rewrite [ZT] | rewrite [ZU] | rewrite [ZM (by decide)] | rewrite [ZR] | rewrite [ZI] | rewrite [ZK] | rewrite [ZG (by decide)] | rewrite [Yt] | rewrite [Yr (by simp [go_sem, ord, f]; exact ⟨rfl, rfl⟩)] | rewrite [Ys (by simp [lk, Za, Od.v, ord, f]; exact rfl)] | rewrite [Yo])
  simp [Zv, ZS, Ya, go_sem, fin, fz0, fz1, fzT, fzL, nlt, ord, f]) : p := h f
theorem rg12 {p F : Prop} (f : F) (h : F → p := by
  intro f
  repeat (first | rewrite [ZN] | rewrite [Zo (by simp [go_sem, mayV, f]; exact ⟨rfl, rfl⟩)] | rewrite [Yj (by simp [lk, Za, Od.v, mayV, f]; exact rfl)] | rewrite [Zx] | rewrite [Zw] | rewrite [ZZ] | rewrite [Yq] | rewrite [Yf] | rewrite [Yp] | rewrite [Yh] | rewrite [Yg] | rewrite [ZY] | rewrite [ZT] | rewrite [ZU] | rewrite [ZM (by decide)] | rewrite [ZR] | rewrite [ZI] | rewrite [ZK] | rewrite [ZG (by decide)] | rewrite [Yt] | rewrite [Yr (by simp [go_sem, mayV, f]; exact ⟨rfl, rfl⟩)] | rewrite [Ys (by simp [lk, Za, Od.v, mayV, f]; exact rfl)] | rewrite [Yo])
  simp [Zv, ZS, Ya, go_sem, fin, fz0, fz1, fzT, fzL, nlt, mayV, f]) : p := h f
theorem rg14 {p F : Prop} (f : F) (h : F → p := by
  intro f
  repeat (first | rewrite [ZN] | rewrite [Zo (by simp [go_sem, hintOk, mm, f]; exact ⟨rfl, rfl⟩)] | rewrite [Yj (by simp [lk, Za, Od.v, hintOk, mm, f]; exact rfl)] | rewrite [Zx] | rewrite [Zw] | rewrite [ZZ] | rewrite [Yq] | rewrite [Yf] | rewrite [Yp] | rewrite [Yh] | rewrite [Yg] | rewrite [ZY] | rewrite [ZT] | rewrite [ZU] | rewrite [ZM (by decide)] | rewrite [ZR] | rewrite [ZI] | rewrite [ZK] | rewrite [ZG (by decide)] | rewrite [Yt] | rewrite [Yr (by simp [go_sem, hintOk, mm, f]; exact ⟨rfl, rfl⟩)] | rewrite [Ys (by simp [lk, Za, Od.v, hintOk, mm, f]; exact rfl)] | rewrite [Yo])
  simp [Zv, ZS, Ya, go_sem, fin, fz0, fz1, fzT, fzL, nlt, hintOk, mm, f]) : p := h f
theorem rg15 {p F : Prop} (f : F) (h : F → p := by
  intro f
  repeat (first | rewrite [ZN] | rewrite [Zo (by simp [go_sem, mlook, f]; exact ⟨rfl, rfl⟩)] | rewrite [Yj (by simp [lk, Za, Od.v, mlook, f]; exact rfl)] | rewrite [Zx] | rewrite [Zw] | rewrite [ZZ] | rewrite [Yq] | rewrite [Yf] | rewrite [Yp] | rewrite [Yh] | rewrite [Yg] | rewrite [ZY] | rewrite [ZT] | rewrite [ZU] | rewrite [ZM (by decide)] | rewrite [ZR] | rewrite [ZI] | rewrite [ZK] | rewrite [ZG (by decide)] | rewrite [Yt] | rewrite [Yr (by simp [go_sem, mlook, f]; exact ⟨rfl, rfl⟩)] | rewrite [Ys (by simp [lk, Za, Od.v, mlook, f]; exact rfl)] | rewrite [Yo])
  simp [Zv, ZS, Ya, go_sem, fin, fz0, fz1, fzT, fzL, nlt, mlook, f]) : p := h f
theorem rg16 {p F : Prop} (f : F) (h : F → p := by
  intro f
  repeat (first | rewrite [ZN] | rewrite [Zo (by simp [go_sem, V.eqb, ldx, f]; exact ⟨rfl, rfl⟩)] | rewrite [Yj (by simp [lk, Za, Od.v, V.eqb, ldx, f]; exact rfl)] | rewrite [Zx] | rewrite [Zw] | rewrite [ZZ] | rewrite [Yq] | rewrite [Yf] | rewrite [Yp] | rewrite [Yh] | rewrite [Yg] | rewrite [ZY] | rewrite [ZT] | rewrite [ZU] | rewrite [ZM (by decide)] | rewrite [ZR] | rewrite [ZI] | rewrite [ZK] | rewrite [ZG (by decide)] | rewrite [Yt] | rewrite [Yr (by simp [go_sem, V.eqb, ldx, f]; exact ⟨rfl, rfl⟩)] | rewrite [Ys (by simp [lk, Za, Od.v, V.eqb, ldx, f]; exact rfl)] | rewrite [Yo])
  simp [Zv, ZS, Ya, go_sem, fin, fz0, fz1, fzT, fzL, nlt, V.eqb, ldx, f]) : p := h f
theorem rg23 {p F : Prop} (f : F) (h : F → p := by
  intro f
  repeat (first | rewrite [ZN] | rewrite [Zo (by simp [go_sem, appx, eltL, srcOf, vw, f]; exact ⟨rfl, rfl⟩)] | rewrite [Yj (by simp [lk, Za, Od.v, appx, eltL, srcOf, vw, f]; exact rfl)] | rewrite [Zx] | rewrite [Zw] | rewrite [ZZ] | rewrite [Yq] | rewrite [Yf] | rewrite [Yp] | rewrite [Yh] | rewrite [Yg] | rewrite [ZY] | rewrite [ZT] | rewrite [ZU] | rewrite [ZM (by decide)] | rewrite [ZR] | rewrite [ZI] | rewrite [ZK] | rewrite [ZG (by decide)] | rewrite [Yt] | rewrite [Yr (by simp [go_sem, appx, eltL, srcOf, vw, f]; exact ⟨rfl, rfl⟩)] | rewrite [Ys (by simp [lk, Za, Od.v, appx, eltL, srcOf, vw, f]; exact rfl)] | rewrite [Yo])
  simp [Zv, ZS, Ya, go_sem, fin, fz0, fz1, fzT, fzL, nlt, appx, eltL, srcOf, vw, f]) : p := h f
theorem rg24 {p F : Prop} (f : F) (h : F → p := by
  intro f
  repeat (first | rewrite [ZN] | rewrite [Zo (by simp [go_sem, v0, f]; exact ⟨rfl, rfl⟩)] | rewrite [Yj (by simp [lk, Za, Od.v, v0, f]; exact rfl)] | rewrite [Zx] | rewrite [Zw] | rewrite [ZZ] | rewrite [Yq] | rewrite [Yf] | rewrite [Yp] | rewrite [Yh] | rewrite [Yg] | rewrite [ZY] | rewrite [ZT] | rewrite [ZU] | rewrite [ZM (by decide)] | rewrite [ZR] | rewrite [ZI] | rewrite [ZK] | rewrite [ZG (by decide)] | rewrite [Yt] | rewrite [Yr (by simp [go_sem, v0, f]; exact ⟨rfl, rfl⟩)] | rewrite [Ys (by simp [lk, Za, Od.v, v0, f]; exact rfl)] | rewrite [Yo])
  simp [Zv, ZS, Ya, go_sem, fin, fz0, fz1, fzT, fzL, nlt, v0, f]) : p := h f
theorem rg25 {p F : Prop} (f : F) (h : F → p := by
  intro f
  repeat (first | rewrite [ZN] | rewrite [Zo (by simp [go_sem, ldx, v0, f]; exact ⟨rfl, rfl⟩)] | rewrite [Yj (by simp [lk, Za, Od.v, ldx, v0, f]; exact rfl)] | rewrite [Zx] | rewrite [Zw] | rewrite [ZZ] | rewrite [Yq] | rewrite [Yf] | rewrite [Yp] | rewrite [Yh] | rewrite [Yg] | rewrite [ZY] | rewrite [ZT] | rewrite [ZU] | rewrite [ZM (by decide)] | rewrite [ZR] | rewrite [ZI] | rewrite [ZK] | rewrite [ZG (by decide)] | rewrite [Yt] | rewrite [Yr (by simp [go_sem, ldx, v0, f]; exact ⟨rfl, rfl⟩)] | rewrite [Ys (by simp [lk, Za, Od.v, ldx, v0, f]; exact rfl)] | rewrite [Yo])
  simp [Zv, ZS, Ya, go_sem, fin, fz0, fz1, fzT, fzL, nlt, ldx, v0, f]) : p := h f
theorem rg6 {p F : Prop} (f : F) (h : F → p := by
  intro f
  repeat (first | rewrite [ZN] | rewrite [Zo (by simp [go_sem, lightB, f]; exact ⟨rfl, rfl⟩)] | rewrite [Yj (by simp [lk, Za, Od.v, lightB, f]; exact rfl)] | rewrite [Zx] | rewrite [Zw] | rewrite [ZZ] | rewrite [Yq] | rewrite [Yf] | rewrite [Yp] | rewrite [Yh] | rewrite [Yg] | rewrite [ZY] | rewrite [ZT] | rewrite [ZU] | rewrite [ZM (by decide)] | rewrite [ZR] | rewrite [ZI] | rewrite [ZK] | rewrite [ZG (by decide)] | rewrite [Yt] | rewrite [Yr (by simp [go_sem, lightB, f]; exact ⟨rfl, rfl⟩)] | rewrite [Ys (by simp [lk, Za, Od.v, lightB, f]; exact rfl)] | rewrite [Yo])
  simp [Zv, ZS, Ya, go_sem, fin, fz0, fz1, fzT, fzL, nlt, lightB, f]) : p := h f
theorem rg9 {p F : Prop} (f : F) (h : F → p := by
  intro f
  repeat (first | rewrite [ZN] | rewrite [Zo (by simp [go_sem, cmpI, f]; exact ⟨rfl, rfl⟩)] | rewrite [Yj (by simp [lk, Za, Od.v, cmpI, f]; exact rfl)] | rewrite [Zx] | rewrite [Zw] | rewrite [ZZ] | rewrite [Yq] | rewrite [Yf] | rewrite [Yp] | rewrite [Yh] | rewrite [Yg] | rewrite [ZY] | rewrite [ZT] | rewrite [ZU] | rewrite [ZM (by decide)] | rewrite [ZR] | rewrite [ZI] | rewrite [ZK] | rewrite [ZG (by decide)] | rewrite [Yt] | rewrite [Yr (by simp [go_sem, cmpI, f]; exact ⟨rfl, rfl⟩)] | rewrite [Ys (by simp [lk, Za, Od.v, cmpI, f]; exact rfl)] | rewrite [Yo])
  simp [Zv, ZS, Ya, go_sem, fin, fz0, fz1, fzT, fzL, nlt, cmpI, f]) : p := h f
theorem rgx {p F : Prop} (f : F) (h : F → p := by
  intro f
  repeat (first | rewrite [ZN] | rewrite [Zo (by simp [ZL, ZD, ZC, ZE, Zs, Zh, Zq, Zk, Zm, Zc, Ze, Zl, Zt, Zu, ZF, ↓Zj, Zr, Zi, ZB, Zx, Zw, ZV, Zz, Yn, put, lk, Od.v, Za, Zg, Zn, rdc, Yd, Ye, Yc, unx, eqk, DV.isU, DV.cells, hget, ZP, Yb, ZO, Zp, splice, DV.one, ZQ, mat, ZW, eqs, f]; exact ⟨rfl, rfl⟩)] | rewrite [Yj (by simp [lk, Za, Od.v, f]; exact rfl)] | rewrite [Zx] | rewrite [Zw] | rewrite [ZZ] | rewrite [Yq] | rewrite [Yf] | rewrite [Yp] | rewrite [Yh] | rewrite [Yg] | rewrite [ZY] | rewrite [ZT] | rewrite [ZU] | rewrite [ZM (by decide)] | rewrite [ZR] | rewrite [ZI] | rewrite [ZK] | rewrite [ZG (by decide)] | rewrite [Yt] | rewrite [Yr (by simp [ZL, ZD, ZC, ZE, Zs, Zh, Zq, Zk, Zm, Zc, Ze, Zl, Zt, Zu, ZF, ↓Zj, Zr, Zi, ZB, Zx, Zw, ZV, Zz, Yn, put, lk, Od.v, Za, Zg, Zn, rdc, Yd, Ye, Yc, unx, eqk, DV.isU, DV.cells, hget, ZP, Yb, ZO, Zp, splice, DV.one, ZQ, mat, ZW, eqs, f]; exact ⟨rfl, rfl⟩)] | rewrite [Ys (by simp [lk, Za, Od.v, f]; exact rfl)] | rewrite [Yo])
  simp [Zv, ZS, Ya, ZL, ZD, ZC, ZE, Zs, Zh, Zq, Zk, Zm, Zc, Ze, Zl, Zt, Zu, ZF, ↓Zj, Zr, Zi, ZB, Zx, Zw, ZV, Zz, Yn, put, lk, Od.v, Za, Zg, Zn, rdc, Yd, Ye, Yc, unx, eqk, DV.isU, DV.cells, hget, ZP, Yb, ZO, Zp, splice, DV.one, ZQ, mat, ZW, eqs, fin, fz0, fz1, fzT, fzL, nlt, f]) : p := h f
theorem rn {p q F : Prop} (f : F) (k : q) (h : F → p = q := by
  intro f
  repeat (first | rewrite [ZN] | rewrite [Zo (by simp [go_sem, f]; exact ⟨rfl, rfl⟩)] | rewrite [Yj (by simp [lk, Za, Od.v, f]; exact rfl)] | rewrite [Zx] | rewrite [Zw] | rewrite [ZZ] | rewrite [Yq] | rewrite [Yf] | rewrite [Yp] | rewrite [Yh] | rewrite [Yg] | rewrite [ZY] | rewrite [ZT] | rewrite [ZU] | rewrite [ZM (by decide)] | rewrite [ZR] | rewrite [ZI] | rewrite [ZK] | rewrite [ZG (by decide)] | rewrite [Yt] | rewrite [Yr (by simp [go_sem, f]; exact ⟨rfl, rfl⟩)] | rewrite [Ys (by simp [lk, Za, Od.v, f]; exact rfl)] | rewrite [Yo])
  exact rfl) : p := (h f).mpr k
theorem rn0 {p q F : Prop} (f : F) (k : q) (h : F → p = q := by
  intro f
  repeat (first | rewrite [ZN] | rewrite [Zo (by simp [go_sem, ldx, f]; exact ⟨rfl, rfl⟩)] | rewrite [Yj (by simp [lk, Za, Od.v, ldx, f]; exact rfl)] | rewrite [Zx] | rewrite [Zw] | rewrite [ZZ] | rewrite [Yq] | rewrite [Yf] | rewrite [Yp] | rewrite [Yh] | rewrite [Yg] | rewrite [ZY] | rewrite [ZT] | rewrite [ZU] | rewrite [ZM (by decide)] | rewrite [ZR] | rewrite [ZI] | rewrite [ZK] | rewrite [ZG (by decide)] | rewrite [Yt] | rewrite [Yr (by simp [go_sem, ldx, f]; exact ⟨rfl, rfl⟩)] | rewrite [Ys (by simp [lk, Za, Od.v, ldx, f]; exact rfl)] | rewrite [Yo])
  exact rfl) : p := (h f).mpr k
theorem rn1 {p q F : Prop} (f : F) (k : q) (h : F → p = q := by
  intro f
  repeat (first | rewrite [ZN] | rewrite [Zo (by simp [go_sem, hintOk, f]; exact ⟨rfl, rfl⟩)] | rewrite [Yj (by simp [lk, Za, Od.v, hintOk, f]; exact rfl)] | rewrite [Zx] | rewrite [Zw] | rewrite [ZZ] | rewrite [Yq] | rewrite [Yf] | rewrite [Yp] | rewrite [Yh] | rewrite [Yg] | rewrite [ZY] | rewrite [ZT] | rewrite [ZU] | rewrite [ZM (by decide)] | rewrite [ZR] | rewrite [ZI] | rewrite [ZK] | rewrite [ZG (by decide)] | rewrite [Yt] | rewrite [Yr (by simp [go_sem, hintOk, f]; exact ⟨rfl, rfl⟩)] | rewrite [Ys (by simp [lk, Za, Od.v, hintOk, f]; exact rfl)] | rewrite [Yo])
  exact rfl) : p := (h f).mpr k
theorem rn13 {p q F : Prop} (f : F) (k : q) (h : F → p = q := by
  intro f
  repeat (first | rewrite [ZN] | rewrite [Zo (by simp [go_sem, hz, f]; exact ⟨rfl, rfl⟩)] | rewrite [Yj (by simp [lk, Za, Od.v, hz, f]; exact rfl)] | rewrite [Zx] | rewrite [Zw] | rewrite [ZZ] | rewrite [Yq] | rewrite [Yf] | rewrite [Yp] | rewrite [Yh] | rewrite [Yg] | rewrite [ZY] | rewrite [ZT] | rewrite [ZU] | rewrite [ZM (by decide)] | rewrite [ZR] | rewrite [ZI] | rewrite [ZK] | rewrite [ZG (by decide)] | rewrite [Yt] | rewrite [Yr (by simp [go_sem, hz, f]; exact ⟨rfl, rfl⟩)] | rewrite [Ys (by simp [lk, Za, Od.v, hz, f]; exact rfl)] | rewrite [Yo])
  exact rfl) : p := (h f).mpr k
theorem rn14 {p q F : Prop} (f : F) (k : q) (h : F → p = q := by
  intro f
  repeat (first | rewrite [ZN] | rewrite [Zo (by simp [go_sem, hz, intAt, f]; exact ⟨rfl, rfl⟩)] | rewrite [Yj (by simp [lk, Za, Od.v, hz, intAt, f]; exact rfl)] | rewrite [Zx] | rewrite [Zw] | rewrite [ZZ] | rewrite [Yq] | rewrite [Yf] | rewrite [Yp] | rewrite [Yh] | rewrite [Yg] | rewrite [ZY] | rewrite [ZT] | rewrite [ZU] | rewrite [ZM (by decide)] | rewrite [ZR] | rewrite [ZI] | rewrite [ZK] | rewrite [ZG (by decide)] | rewrite [Yt] | rewrite [Yr (by simp [go_sem, hz, intAt, f]; exact ⟨rfl, rfl⟩)] | rewrite [Ys (by simp [lk, Za, Od.v, hz, intAt, f]; exact rfl)] | rewrite [Yo])
  exact rfl) : p := (h f).mpr k
theorem rn21 {p q F : Prop} (f : F) (k : q) (h : F → p = q := by
  intro f
  repeat (first | rewrite [ZN] | rewrite [Zo (by simp [go_sem, intD, ldx, f]; exact ⟨rfl, rfl⟩)] | rewrite [Yj (by simp [lk, Za, Od.v, intD, ldx, f]; exact rfl)] | rewrite [Zx] | rewrite [Zw] | rewrite [ZZ] | rewrite [Yq] | rewrite [Yf] | rewrite [Yp] | rewrite [Yh] | rewrite [Yg] | rewrite [ZY] | rewrite [ZT] | rewrite [ZU] | rewrite [ZM (by decide)] | rewrite [ZR] | rewrite [ZI] | rewrite [ZK] | rewrite [ZG (by decide)] | rewrite [Yt] | rewrite [Yr (by simp [go_sem, intD, ldx, f]; exact ⟨rfl, rfl⟩)] | rewrite [Ys (by simp [lk, Za, Od.v, intD, ldx, f]; exact rfl)] | rewrite [Yo])
  exact rfl) : p := (h f).mpr k
theorem rn24 {p q F : Prop} (f : F) (k : q) (h : F → p = q := by
  intro f
  repeat (first | rewrite [ZN] | rewrite [Zo (by simp [go_sem, hs, f]; exact ⟨rfl, rfl⟩)] | rewrite [Yj (by simp [lk, Za, Od.v, hs, f]; exact rfl)] | rewrite [Zx] | rewrite [Zw] | rewrite [ZZ] | rewrite [Yq] | rewrite [Yf] | rewrite [Yp] | rewrite [Yh] | rewrite [Yg] | rewrite [ZY] | rewrite [ZT] | rewrite [ZU] | rewrite [ZM (by decide)] | rewrite [ZR] | rewrite [ZI] | rewrite [ZK] | rewrite [ZG (by decide)] | rewrite [Yt] | rewrite [Yr (by simp [go_sem, hs, f]; exact ⟨rfl, rfl⟩)] | rewrite [Ys (by simp [lk, Za, Od.v, hs, f]; exact rfl)] | rewrite [Yo])
  exact rfl) : p := (h f).mpr k
theorem rn25 {p q F : Prop} (f : F) (k : q) (h : F → p = q := by
  intro f
  repeat (first | rewrite [ZN] | rewrite [Zo (by simp [go_sem, v7, f]; exact ⟨rfl, rfl⟩)] | rewrite [Yj (by simp [lk, Za, Od.v, v7, f]; exact rfl)] | rewrite [Zx] | rewrite [Zw] | rewrite [ZZ] | rewrite [Yq] | rewrite [Yf] | rewrite [Yp] | rewrite [Yh] | rewrite [Yg] | rewrite [ZY] | rewrite [ZT] | rewrite [ZU] | rewrite [ZM (by decide)] | rewrite [ZR] | rewrite [ZI] | rewrite [ZK] | rewrite [ZG (by decide)] | rewrite [Yt] | rewrite [Yr (by simp [go_sem, v7, f]; exact ⟨rfl, rfl⟩)] | rewrite [Ys (by simp [lk, Za, Od.v, v7, f]; exact rfl)] | rewrite [Yo])
  exact rfl) : p := (h f).mpr k
theorem rn6 {p q F : Prop} (f : F) (k : q) (h : F → p = q := by
  intro f
  repeat (first | rewrite [ZN] | rewrite [Zo (by simp [go_sem, mayV, f]; exact ⟨rfl, rfl⟩)] | rewrite [Yj (by simp [lk, Za, Od.v, mayV, f]; exact rfl)] | rewrite [Zx] | rewrite [Zw] | rewrite [ZZ] | rewrite [Yq] | rewrite [Yf] | rewrite [Yp] | rewrite [Yh] | rewrite [Yg] | rewrite [ZY] | rewrite [ZT] | rewrite [ZU] | rewrite [ZM (by decide)] | rewrite [ZR] | rewrite [ZI] | rewrite [ZK] | rewrite [ZG (by decide)] | rewrite [Yt] | rewrite [Yr (by simp [go_sem, mayV, f]; exact ⟨rfl, rfl⟩)] | rewrite [Ys (by simp [lk, Za, Od.v, mayV, f]; exact rfl)] | rewrite [Yo])
  exact rfl) : p := (h f).mpr k
theorem rn7 {p q F : Prop} (f : F) (k : q) (h : F → p = q := by
  intro f
  repeat (first | rewrite [ZN] | rewrite [Zo (by simp [go_sem, V.eqb, f]; exact ⟨rfl, rfl⟩)] | rewrite [Yj (by simp [lk, Za, Od.v, V.eqb, f]; exact rfl)] | rewrite [Zx] | rewrite [Zw] | rewrite [ZZ] | rewrite [Yq] | rewrite [Yf] | rewrite [Yp] | rewrite [Yh] | rewrite [Yg] | rewrite [ZY] | rewrite [ZT] | rewrite [ZU] | rewrite [ZM (by decide)] | rewrite [ZR] | rewrite [ZI] | rewrite [ZK] | rewrite [ZG (by decide)] | rewrite [Yt] | rewrite [Yr (by simp [go_sem, V.eqb, f]; exact ⟨rfl, rfl⟩)] | rewrite [Ys (by simp [lk, Za, Od.v, V.eqb, f]; exact rfl)] | rewrite [Yo])
  exact rfl) : p := (h f).mpr k
theorem rn8 {p q F : Prop} (f : F) (k : q) (h : F → p = q := by
  intro f
  repeat (first | rewrite [ZN] | rewrite [Zo (by simp [go_sem, srcOf, f]; exact ⟨rfl, rfl⟩)] | rewrite [Yj (by simp [lk, Za, Od.v, srcOf, f]; exact rfl)] | rewrite [Zx] | rewrite [Zw] | rewrite [ZZ] | rewrite [Yq] | rewrite [Yf] | rewrite [Yp] | rewrite [Yh] | rewrite [Yg] | rewrite [ZY] | rewrite [ZT] | rewrite [ZU] | rewrite [ZM (by decide)] | rewrite [ZR] | rewrite [ZI] | rewrite [ZK] | rewrite [ZG (by decide)] | rewrite [Yt] | rewrite [Yr (by simp [go_sem, srcOf, f]; exact ⟨rfl, rfl⟩)] | rewrite [Ys (by simp [lk, Za, Od.v, srcOf, f]; exact rfl)] | rewrite [Yo])
  exact rfl) : p := (h f).mpr k
theorem rn9 {p q F : Prop} (f : F) (k : q) (h : F → p = q := by
  intro f
  repeat (first | rewrite [ZN] | rewrite [Zo (by simp [go_sem, ldx, srcOf, f]; exact ⟨rfl, rfl⟩)] | rewrite [Yj (by simp [lk, Za, Od.v, ldx, srcOf, f]; exact rfl)] | rewrite [Zx] | rewrite [Zw] | rewrite [ZZ] | rewrite [Yq] | rewrite [Yf] | rewrite [Yp] | rewrite [Yh] | rewrite [Yg] | rewrite [ZY] | rewrite [ZT] | rewrite [ZU] | rewrite [ZM (by decide)] | rewrite [ZR] | rewrite [ZI] | rewrite [ZK] | rewrite [ZG (by decide)] | rewrite [Yt] | rewrite [Yr (by simp [go_sem, ldx, srcOf, f]; exact ⟨rfl, rfl⟩)] | rewrite [Ys (by simp [lk, Za, Od.v, ldx, srcOf, f]; exact rfl)] | rewrite [Yo])
  exact rfl) : p := (h f).mpr k
theorem rnx {p q F : Prop} (f : F) (k : q) (h : F → p = q := by
  intro f
  repeat (first | rewrite [ZN] | rewrite [Zo (by simp [ZL, ZD, ZC, ZE, Zs, Zh, Zq, Zk, Zm, Zc, Ze, Zl, Zt, Zu, ZF, ↓Zj, Zr, Zi, ZB, Zx, Zw, ZV, Zz, Yn, put, lk, Od.v, Za, Zg, Zn, rdc, Yd, Ye, Yc, unx, eqk, DV.isU, DV.cells, hget, ZP, Yb, ZO, Zp, splice, DV.one, ZQ, mat, ZW, eqs, f]; exact ⟨rfl, rfl⟩)] | rewrite [Yj (by simp [lk, Za, Od.v, f]; exact rfl)] | rewrite [Zx] | rewrite [Zw] | rewrite [ZZ] | rewrite [Yq] | rewrite [Yf] | rewrite [Yp] | rewrite [Yh] | rewrite [Yg] | rewrite [ZY] | rewrite [ZT] | rewrite [ZU] | rewrite [ZM (by decide)] | rewrite [ZR] | rewrite [ZI] | rewrite [ZK] | rewrite [ZG (by decide)] | rewrite [Yt] | rewrite [Yr (by simp [ZL, ZD, ZC, ZE, Zs, Zh, Zq, Zk, Zm, Zc, Ze, Zl, Zt, Zu, ZF, ↓Zj, Zr, Zi, ZB, Zx, Zw, ZV, Zz, Yn, put, lk, Od.v, Za, Zg, Zn, rdc, Yd, Ye, Yc, unx, eqk, DV.isU, DV.cells, hget, ZP, Yb, ZO, Zp, splice, DV.one, ZQ, mat, ZW, eqs, f]; exact ⟨rfl, rfl⟩)] | rewrite [Ys (by simp [lk, Za, Od.v, f]; exact rfl)] | rewrite [Yo])
  exact rfl) : p := (h f).mpr k
theorem rnx1 {p q F : Prop} (f : F) (k : q) (h : F → p = q := by
  intro f
  repeat (first | rewrite [ZN] | rewrite [Zo (by simp [ZL, ZD, ZC, ZE, Zs, Zh, Zq, Zk, Zm, Zc, Ze, Zl, Zt, Zu, ZF, ↓Zj, Zr, Zi, ZB, Zx, Zw, ZV, Zz, Yn, put, lk, Od.v, Za, Zg, Zn, rdc, Yd, Ye, Yc, unx, eqk, DV.isU, DV.cells, hget, ZP, Yb, ZO, Zp, splice, DV.one, ZQ, mat, ZW, eqs, hq, f]; exact ⟨rfl, rfl⟩)] | rewrite [Yj (by simp [lk, Za, Od.v, hq, f]; exact rfl)] | rewrite [Zx] | rewrite [Zw] | rewrite [ZZ] | rewrite [Yq] | rewrite [Yf] | rewrite [Yp] | rewrite [Yh] | rewrite [Yg] | rewrite [ZY] | rewrite [ZT] | rewrite [ZU] | rewrite [ZM (by decide)] | rewrite [ZR] | rewrite [ZI] | rewrite [ZK] | rewrite [ZG (by decide)] | rewrite [Yt] | rewrite [Yr (by simp [ZL, ZD, ZC, ZE, Zs, Zh, Zq, Zk, Zm, Zc, Ze, Zl, Zt, Zu, ZF, ↓Zj, Zr, Zi, ZB, Zx, Zw, ZV, Zz, Yn, put, lk, Od.v, Za, Zg, Zn, rdc, Yd, Ye, Yc, unx, eqk, DV.isU, DV.cells, hget, ZP, Yb, ZO, Zp, splice, DV.one, ZQ, mat, ZW, eqs, hq, f]; exact ⟨rfl, rfl⟩)] | rewrite [Ys (by simp [lk, Za, Od.v, hq, f]; exact rfl)] | rewrite [Yo])
  exact rfl) : p := (h f).mpr k
theorem rnx2 {p q F : Prop} (f : F) (k : q) (h : F → p = q := by
  intro f
  repeat (first | rewrite [ZN] | rewrite [Zo (by simp [ZL, ZD, ZC, ZE, Zs, Zh, Zq, Zk, Zm, Zc, Ze, Zl, Zt, Zu, ZF, ↓Zj, Zr, Zi, ZB, Zx, Zw, ZV, Zz, Yn, put, lk, Od.v, Za, Zg, Zn, rdc, Yd, Ye, Yc, unx, eqk, DV.isU, DV.cells, hget, ZP, Yb, ZO, Zp, splice, DV.one, ZQ, mat, ZW, eqs, v0, f]; exact ⟨rfl, rfl⟩)] | rewrite [Yj (by simp [lk, Za, Od.v, v0, f]; exact rfl)] | rewrite [Zx] | rewrite [Zw] | rewrite [ZZ] | rewrite [Yq] | rewrite [Yf] | rewrite [Yp] | rewrite [Yh] | rewrite [Yg] | rewrite [ZY] | rewrite [ZT] | rewrite [ZU] | rewrite [ZM (by decide)] | rewrite [ZR] | rewrite [ZI] | rewrite [ZK] | rewrite [ZG (by decide)] | rewrite [Yt] | rewrite [Yr (by simp [ZL, ZD, ZC, ZE, Zs, Zh, Zq, Zk, Zm, Zc, Ze, Zl, Zt, Zu, ZF, ↓Zj, Zr, Zi, ZB, Zx, Zw, ZV, Zz, Yn, put, lk, Od.v, Za, Zg, Zn, rdc, Yd, Ye, Yc, unx, eqk, DV.isU, DV.cells, hget, ZP, Yb, ZO, Zp, splice, DV.one, ZQ, mat, ZW, eqs, v0, f]; exact ⟨rfl, rfl⟩)] | rewrite [Ys (by simp [lk, Za, Od.v, v0, f]; exact rfl)] | rewrite [Yo])
  exact rfl) : p := (h f).mpr k
theorem ro {p q F : Prop} (f : F) (k : q) (h : F → p = q := by
  intro f
  repeat (first | rewrite [ZN] | rewrite [Zo (by simp [go_sem, f]; exact ⟨rfl, rfl⟩)] | rewrite [Yj (by simp [lk, Za, Od.v, f]; exact rfl)] | rewrite [Zx] | rewrite [Zw] | rewrite [ZZ] | rewrite [Yq] | rewrite [Yf] | rewrite [Yp] | rewrite [Yh] | rewrite [Yg] | rewrite [ZY] | rewrite [ZT] | rewrite [ZU] | rewrite [ZM (by decide)] | rewrite [ZR] | rewrite [ZI] | rewrite [ZK] | rewrite [ZG (by decide)] | rewrite [Yt] | rewrite [Yr (by simp [go_sem, f]; exact ⟨rfl, rfl⟩)] | rewrite [Ys (by simp [lk, Za, Od.v, f]; exact rfl)] | rewrite [Yo])
  exact rfl) : p := (h f).mpr k
end Go.Proofs.YtmbgfbomgbdjeaaGreatDoor
