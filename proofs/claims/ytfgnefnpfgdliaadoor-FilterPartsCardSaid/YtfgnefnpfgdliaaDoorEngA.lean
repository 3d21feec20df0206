/- An ideal machine for Go's operations: values without memory where a value is only read, rows and boxes by number where it is written. No program is in sight. -/
import GoSem.Core.Code
import GoSem.Op.String
namespace Go.Proofs.YtfgnefnpfgdliaaDoor
open Classical
set_option linter.unusedVariables false
noncomputable section

/-- Ideal values. -/
inductive DV where
  | bool (b : Bool)
  | int (k : IntKind) (n : Int)
  | str (s : ByteArray)
  | nilp
  | ref (o p : Nat)
  | elem (d : DV) (sz i p : Nat)
  | nils
  | list (sz : Nat) (xs : List DV) (c : Bool)
  | row (o g lo n : Nat) (c : Bool)
  | fresh (e sz : Nat) (xs : List DV)
  | nilm
  | map (o : Nat)
  | nilf
  | func (f : Nat) (first cap : List DV)
  | nili
  | ifc (t : Nat) (v : DV)
  | agg (cs : List DV)
  | tup (vs : List DV)
  | undef

/-- What lies behind a number. -/
inductive HO where
  | box (t : Nat) (cs : List DV)
  | row (e sz g : Nat) (xs : List DV)
  | frz (e sz g : Nat) (xs : List DV)
  | map (kt et : Nat) (es : List (DV × DV))

abbrev Heap := List HO
abbrev Env := List (Nat × DV)

def DV.cells : DV → List DV
  | .agg cs => cs
  | d => [d]

/-- Data that lead to nothing that is written. -/
inductive Nr : DV → Prop where
  | bool (b) : Nr (.bool b)
  | int (k n) : Nr (.int k n)
  | str (s) : Nr (.str s)
  | nilp : Nr .nilp
  | nils : Nr .nils
  | nilm : Nr .nilm
  | nilf : Nr .nilf
  | nili : Nr .nili
  | list {sz xs c} (h : ∀ x ∈ xs, Nr x) : Nr (.list sz xs c)
  | agg {cs} (h : ∀ x ∈ cs, Nr x) : Nr (.agg cs)
  | func (f) : Nr (.func f [] [])
  | ifc (t k n) : Nr (.ifc t (.int k n))

/-- A value of one cell, not a place holder. -/
def DV.one : DV → Bool
  | .agg _ | .tup _ | .undef | .fresh _ _ _ => false
  | _ => true

def DV.isU : DV → Bool
  | .undef => true
  | _ => false
/-- Each element has sz cells, each cell a value of one cell. -/
def Wc (sz : Nat) (x : DV) : Prop := x.cells.length = sz ∧ ∀ c ∈ x.cells, c.one = true

/-- The elements of a slice, each of sz cells. -/
def vw (h : Heap) (sz : Nat) : DV → Option (List DV)
  | .nils => some []
  | .list sz' xs _ => if sz' = sz then some xs else none
  | .row o g lo n _ => match h[o]? with
    | some (.row _ sz' g' xs) => if sz' = sz ∧ g' = g ∧ lo + n ≤ xs.length then some ((xs.drop lo).take n) else none
    | some (.frz _ sz' g' xs) => if sz' = sz ∧ g' = g ∧ lo + n ≤ xs.length then some ((xs.drop lo).take n) else none
    | _ => none
  | _ => none

inductive Od where
  | t (n : Nat)
  | c (d : DV)

def lk : Env → Nat → DV
  | [], _ => .undef
  | (a, v) :: e, s => if a = s then v else lk e s
def Od.v (e : Env) : Od → DV
  | .t n => lk e n
  | .c d => d
def put (dst : Option Nat) (d : DV) (e : Env) : Env := match dst with | some s => (s, d) :: e | none => e

inductive XOp where
  | mov (x : Od)
  | pick (c a b : Od)
  | box (t : Nat) (x : Od)
  | alloc (t : Nat) (zero : List DV)
  | build (zero : List DV) (parts : List (Nat × Nat × Od))
  | mkslice (ro : Bool) (e sz : Nat) (parts : List Od)
  | make (e sz bytes : Nat) (zero : DV) (n m : Od)
  | load (ag : Bool) (sz : Nat) (x : Od)
  | store (sz : Nat) (x v : Od)
  | nilck (x : Od)
  | bin (op : BinOp) (x y : Od)
  | eqa (ks : List Nat) (neg : Bool) (x y : Od)
  | eqk (kd : Nat) (neg : Bool) (x y : Od)
  | un (op : UnOp) (x : Od)
  | toint (k : IntKind) (x : Od)
  | tostr (x : Od)
  | faddr (off : Nat) (x : Od)
  | fld (ag : Bool) (off sz : Nat) (x : Od)
  | iaddr (sz : Nat) (x i : Od)
  | iaddra (n sz : Nat) (x i : Od)
  | idxs (x i : Od)
  | slcs (x : Od) (lo hi : Option Od)
  | slc (sz : Nat) (x : Od) (lo hi mx : Option Od)
  | mkfn (f : Nat) (first cap : List Od)
  | mkif (t : Nat) (x : Od)
  | ext (x : Od) (i : Nat)
  | lens (x : Od)
  | len (sz : Nat) (x : Od)
  | app (e sz bytes : Nat) (x y : Od)
  | mmx (mx : Bool) (xs : List Od)
  | mkmap (r : Option Od)
  | mget (ag : Bool) (ks : List Nat) (zero : DV) (ok : Bool) (m k : Od)
  | mset (ag : Bool) (ks : List Nat) (m k v : Od)
  | mlen (m : Od)
  | call (f : Od) (args : List Od)

structure XOper where
  dst : Option Nat
  op : XOp
  guard : Option (Nat × Bool)
  gr : Bool

/-- Cells from p on, as a value. -/
def rdc (ag : Bool) (sz : Nat) (cs : List DV) (p : Nat) : Option DV :=
  if ag then (if p + sz ≤ cs.length then some (.agg ((cs.drop p).take sz)) else none) else cs[p]?
/-- Cells written over others from p on. -/
def splice (cs : List DV) (p : Nat) (new : List DV) : List DV := cs.take p ++ new ++ cs.drop (p + new.length)

def ldx (h : Heap) (ag : Bool) (sz : Nat) : DV → Option DV
  | .ref o p => match h[o]? with
    | some (.box _ cs) => rdc ag sz cs p
    | _ => none
  | .elem d sz' i p => match vw h sz' d with
    | some xs => match xs[i]? with
      | some x => rdc ag sz x.cells p
      | none => none
    | none => none
  | _ => none

/-- An element's value, written over from p on. -/
def eput (x : DV) (p : Nat) (v : DV) : Option DV :=
  match x with
  | .agg cs => if p + v.cells.length ≤ cs.length then some (.agg (splice cs p v.cells)) else none
  | _ => if p = 0 ∧ v.one = true then some v else none

def stx (h : Heap) (sz : Nat) (a v : DV) : Option Heap :=
  if v.cells.length = sz ∧ v.cells.all DV.one = true then
    match a with
    | .ref o p => match h[o]? with
      | some (.box t cs) => if p + sz ≤ cs.length then some (h.set o (.box t (splice cs p v.cells))) else none
      | _ => none
    | .elem (.row o g lo n _) sz' i p => match h[o]? with
      | some (.row e sz'' g' xs) =>
        if sz'' = sz' ∧ g' = g ∧ lo + n ≤ xs.length ∧ i < n then
          match xs[lo + i]? with
          | some x => (eput x p v).map fun x' => h.set o (.row e sz'' g' (xs.set (lo + i) x'))
          | none => none
        else none
      | _ => none
    | _ => none
  else none

def eqs : Nat → DV → DV → Option Bool
  | 0, .bool a, .bool b => some (a == b)
  | 1, .int k a, .int k' b => if k = k' then some (a == b) else none
  | 2, .str a, .str b => some (a == b)
  | _, _, _ => none
def eqcs : List Nat → List DV → List DV → Option Bool
  | [], [], [] => some true
  | k :: ks, a :: x, b :: y => match eqs k a b with
    | some r => match eqcs ks x y with
      | some r' => some (r && r')
      | none => none
    | none => none
  | _, _, _ => none

def binI (op : BinOp) (k : IntKind) (a b : Int) : Option DV :=
  match op with
  | .add => some (.int k (k.wrap (a + b)))
  | .sub => some (.int k (k.wrap (a - b)))
  | .mul => some (.int k (k.wrap (a * b)))
  | .quo => if b = 0 then none else some (.int k (k.wrap (a.tdiv b)))
  | .rem => if b = 0 then none else some (.int k (a.tmod b))
  | .and => some (.int k (k.wrap ((BitVec.ofInt k.bits a) &&& (BitVec.ofInt k.bits b)).toNat))
  | .or => some (.int k (k.wrap ((BitVec.ofInt k.bits a) ||| (BitVec.ofInt k.bits b)).toNat))
  | .xor => some (.int k (k.wrap ((BitVec.ofInt k.bits a) ^^^ (BitVec.ofInt k.bits b)).toNat))
  | .andNot => some (.int k (k.wrap ((BitVec.ofInt k.bits a) &&& ~~~(BitVec.ofInt k.bits b)).toNat))
  | .eql => some (.bool (a == b))
  | .neq => some (.bool (a != b))
  | .lss => some (.bool (decide (a < b)))
  | .leq => some (.bool (decide (a ≤ b)))
  | .gtr => some (.bool (decide (a > b)))
  | .geq => some (.bool (decide (a ≥ b)))
  | _ => none
def binS (op : BinOp) (a b : ByteArray) : Option DV :=
  match op with
  | .add => if ((a.size + b.size : Nat) : Int) > 9223372036854775807 then none else some (.str (a ++ b))
  | .eql => some (.bool (a == b))
  | .neq => some (.bool (!(a == b)))
  | .lss => some (.bool (Op.bytesLess a.toList b.toList))
  | .leq => some (.bool (Op.bytesLess a.toList b.toList || a == b))
  | .gtr => some (.bool (!(Op.bytesLess a.toList b.toList || a == b)))
  | .geq => some (.bool (!Op.bytesLess a.toList b.toList))
  | _ => none
def binx (op : BinOp) (x y : DV) : Option DV :=
  match x, y with
  | .int k a, .int k' b => match op with
    | .shl => if b < 0 then none else some (.int k (k.wrap (a * 2 ^ (min b.toNat k.bits))))
    | .shr => if b < 0 then none else some (.int k (a.fdiv (2 ^ (min b.toNat k.bits))))
    | op => if k = k' then binI op k a b else none
  | .str a, .str b => binS op a b
  | _, _ => none
/-- '==' of truths, and with nil (0: truths, 1: pointers, 2: slices, 3: maps, 4: functions, 5: interface values). -/
def eqk : Nat → DV → DV → Option Bool
  | 0, .bool a, .bool b => some (a == b)
  | 1, .nilp, .nilp => some true
  | 1, .ref _ _, .nilp => some false
  | 1, .nilp, .ref _ _ => some false
  | 2, .nils, .nils => some true
  | 2, .list _ _ _, .nils => some false
  | 2, .row _ _ _ _ _, .nils => some false
  | 3, .nilm, .nilm => some true
  | 3, .map _, .nilm => some false
  | 4, .nilf, .nilf => some true
  | 4, .func _ _ _, .nilf => some false
  | 5, .nili, .nili => some true
  | 5, .ifc _ _, .nili => some false
  | _, _, _ => none
def unx (op : UnOp) (x : DV) : Option DV :=
  match op, x with
  | .neg, .int k n => some (.int k (k.wrap (0 - n)))
  | .xor, .int k n => some (.int k (k.wrap ((BitVec.ofInt k.bits (if k.signed then -1 else k.max)) ^^^ (BitVec.ofInt k.bits n)).toNat))
  | .not, .bool b => some (.bool !b)
  | _, _ => none

def fillp (cs : List DV) : List (Nat × Nat × DV) → Option (List DV)
  | [] => some cs
  | (off, sz, v) :: l => if v.isU = false ∧ v.cells.length = sz ∧ off + sz ≤ cs.length then fillp (splice cs off v.cells) l else none

def bytesOf (s : ByteArray) : List DV := s.data.toList.map fun b => .int .u8 b.toNat
def byteOf : DV → Option UInt8
  | .int .u8 n => some (UInt8.ofNat n.toNat)
  | _ => none
/-- What append's second operand brings. -/
def srcOf (h : Heap) (sz : Nat) : DV → Option (List DV)
  | .str s => if sz = 1 then some (bytesOf s) else none
  | d => vw h sz d
/-- A row as a value that is only read from now on. -/
def roOf (h : Heap) : DV → Option (DV × Heap)
  | .row o g lo n c => match h[o]? with
    | some (.row e sz g' xs) => if g' = g ∧ lo + n ≤ xs.length ∧ ∀ x ∈ xs, Nr x then some (.list sz ((xs.drop lo).take n) c, h.set o (.frz e sz g xs)) else none
    | some (.frz _ sz g' xs) => if g' = g ∧ lo + n ≤ xs.length ∧ ∀ x ∈ xs, Nr x then some (.list sz ((xs.drop lo).take n) c, h) else none
    | _ => none
  | d => some (d, h)
def roL : List DV → Heap → Option (List DV × Heap)
  | [], h => some ([], h)
  | d :: l, h => match roOf h d with
    | some (d', h') => match roL l h' with
      | some (l', h'') => some (d' :: l', h'')
      | none => none
    | none => none
/-- A value as an element: rows in it are frozen. -/
def eltOf (h : Heap) : DV → Option (DV × Heap)
  | .agg cs => match roL cs h with
    | some (cs', h') => some (.agg cs', h')
    | none => none
  | d => roOf h d
def eltL : List DV → Heap → Option (List DV × Heap)
  | [], h => some ([], h)
  | d :: l, h => match eltOf h d with
    | some (d', h') => match eltL l h' with
      | some (l', h'') => some (d' :: l', h'')
      | none => none
    | none => none

def intAt (e : Env) (d : Nat) : Option Od → Option Nat
  | none => some d
  | some x => match x.v e with
    | .int _ n => if 0 ≤ n then some n.toNat else none
    | _ => none

/-- '==' of keys. -/
def keq (ag : Bool) (ks : List Nat) (a b : DV) : Option Bool :=
  if ag = true then (match a, b with
    | .agg x, .agg y => eqcs ks x y
    | _, _ => none)
  else match ks with
    | [k] => eqs k a b
    | _ => none
def mfind (ag : Bool) (ks : List Nat) (k : DV) : List (DV × DV) → Option (Option DV)
  | [] => some none
  | (a, v) :: l => match keq ag ks k a with
    | some true => some (some v)
    | some false => mfind ag ks k l
    | none => none
def mput (ag : Bool) (ks : List Nat) (k v : DV) : List (DV × DV) → Option (List (DV × DV))
  | [] => some [(k, v)]
  | (a, u) :: l => match keq ag ks k a with
    | some true => some ((k, v) :: l)
    | some false => (mput ag ks k v l).map fun r => (a, u) :: r
    | none => none

def mm (mx : Bool) (k : IntKind) (a : Int) : List DV → Option Int
  | [] => some a
  | .int k' b :: l => if k' = k then mm mx k (if mx then (if a < b then b else a) else (if b < a then b else a)) l else none
  | _ => none

/-- append. -/
def appx (h : Heap) (t sz bytes : Nat) (x : DV) (xs ys : List DV) : Option (DV × Heap) :=
  if ys = [] then some (x, h)
  else if (xs.length + ys.length) * bytes ≤ 140737488355328 then
    match x with
    | .nils => some (.row h.length 0 0 ys.length false, h ++ [.row t sz 0 ys])
    | .list _ _ true => some (.row h.length 0 0 (xs.length + ys.length) false, h ++ [.row t sz 0 (xs ++ ys)])
    | .row _ _ _ _ true => some (.row h.length 0 0 (xs.length + ys.length) false, h ++ [.row t sz 0 (xs ++ ys)])
    | .row o g 0 n false => match h[o]? with
      | some (.row t' sz' _ zs) => if t' = t ∧ n = zs.length then some (.row o (g + 1) 0 (n + ys.length) false, h.set o (.row t sz' (g + 1) (zs ++ ys))) else none
      | _ => none
    | _ => none
  else none
/-- Is a slice cut off at its end? -/
def cutx (e : Env) (m : Nat) : Option Od → Option Bool
  | none => some false
  | some o => if intAt e 0 (some o) = some m then some true else none
def slcx (h : Heap) (x : DV) (l m n : Nat) (cc : Bool) : Option (DV × Heap) := match x with
  | .nils => some (.nils, h)
  | .list s ys c => some (.list s ((ys.take m).drop l) (cc || (c && decide (m = n))), h)
  | .row o g lo' _ c => if c = true ∧ cc = false ∧ m ≠ n then none else some (.row o g (lo' + l) (m - l) (cc || (c && decide (m = n))), h)
  | _ => none
def hintOk (e : Env) : Option Od → Bool
  | none => true
  | some o => match o.v e with
    | .int _ _ => true
    | _ => false
def mlook (ag : Bool) (ks : List Nat) (h : Heap) (m k : DV) : Option (Option DV) := match m with
  | .nilm => some none
  | .map o => match h[o]? with
    | some (.map _ _ es) => mfind ag ks k es
    | _ => none
  | _ => none
/-- One operation that is no call. -/
def evx (op : XOp) (e : Env) (h : Heap) : Option (DV × Heap) :=
  match op with
  | .mov x => some (x.v e, h)
  | .pick c a b => match c.v e with
    | .bool t => some (if t then a.v e else b.v e, h)
    | _ => none
  | .box t x => if (x.v e).isU = true then none else some (.ref h.length 0, h ++ [.box t (x.v e).cells])
  | .alloc t z => some (.ref h.length 0, h ++ [.box t z])
  | .build z ps => (fillp z (ps.map fun p => (p.1, p.2.1, p.2.2.v e))).map fun cs => (.agg cs, h)
  | .mkslice ro t sz ps => match eltL (ps.map (Od.v e)) h with
    | some (xs, h') => if ∀ x ∈ xs, Wc sz x then
        if ro = true then (if ∀ x ∈ xs, Nr x then some (.list sz xs true, h') else none)
        else some (.row h'.length 0 0 xs.length false, h' ++ [.row t sz 0 xs])
      else none
    | none => none
  | .make t sz bytes z n m => match n.v e, m.v e with
    | .int _ a, .int _ b => if 0 ≤ a ∧ a ≤ b ∧ b * bytes ≤ 140737488355328 ∧ Wc sz z then some (.row h.length 0 0 a.toNat false, h ++ [.row t sz 0 (List.replicate a.toNat z)]) else none
    | _, _ => none
  | .load ag sz x => (ldx h ag sz (x.v e)).map fun d => (d, h)
  | .store sz x v => (stx h sz (x.v e) (v.v e)).map fun h' => (.undef, h')
  | .nilck x => match x.v e with
    | .ref o p => some (.ref o p, h)
    | .elem d s i p => some (.elem d s i p, h)
    | .func f a b => some (.func f a b, h)
    | _ => none
  | .bin op x y => (binx op (x.v e) (y.v e)).map fun d => (d, h)
  | .eqa ks neg x y => match x.v e, y.v e with
    | .agg a, .agg b => (eqcs ks a b).map fun r => (.bool (if neg then !r else r), h)
    | _, _ => none
  | .eqk kd neg x y => (eqk kd (x.v e) (y.v e)).map fun r => (.bool (if neg then !r else r), h)
  | .un op x => (unx op (x.v e)).map fun d => (d, h)
  | .toint k x => match x.v e with
    | .int _ n => some (.int k (k.wrap n), h)
    | _ => none
  | .tostr x => match vw h 1 (x.v e) with
    | some xs => (xs.mapM byteOf).map fun bs => (.str ⟨bs.toArray⟩, h)
    | none => none
  | .faddr off x => match x.v e with
    | .ref o p => some (.ref o (p + off), h)
    | .elem d s i p => some (.elem d s i (p + off), h)
    | _ => none
  | .fld ag off sz x => match x.v e with
    | .agg cs => (rdc ag sz cs off).map fun d => (d, h)
    | _ => none
  | .iaddr sz x i => match i.v e with
    | .int _ n => match vw h sz (x.v e) with
      | some xs => if 0 ≤ n ∧ n < xs.length then some (.elem (x.v e) sz n.toNat 0, h) else none
      | none => none
    | _ => none
  | .iaddra len sz x i => match x.v e, i.v e with
    | .ref o p, .int _ n => if 0 ≤ n ∧ n < len then some (.ref o (p + n.toNat * sz), h) else none
    | .elem d s j p, .int _ n => if 0 ≤ n ∧ n < len then some (.elem d s j (p + n.toNat * sz), h) else none
    | _, _ => none
  | .idxs x i => match x.v e, i.v e with
    | .str s, .int _ n => if 0 ≤ n then (s.data.toList[n.toNat]?).map fun b => (.int .u8 b.toNat, h) else none
    | _, _ => none
  | .slcs x lo hi => match x.v e with
    | .str s => match intAt e 0 lo, intAt e s.size hi with
      | some l, some m => if l ≤ m ∧ m ≤ s.size then some (.str (s.extract l m), h) else none
      | _, _ => none
    | _ => none
  | .slc sz x lo hi mx => match vw h sz (x.v e) with
    | some xs => match intAt e 0 lo, intAt e xs.length hi with
      | some l, some m => if l ≤ m ∧ m ≤ xs.length then
          (cutx e m mx).bind fun cc => slcx h (x.v e) l m xs.length cc
        else none
      | _, _ => none
    | none => none
  | .mkfn f a b => some (.func f (a.map (Od.v e)) (b.map (Od.v e)), h)
  | .mkif t x => some (.ifc t (x.v e), h)
  | .ext x i => match x.v e with
    | .tup vs => (vs[i]?).map fun d => (d, h)
    | _ => none
  | .lens x => match x.v e with
    | .str s => some (.int .i64 s.size, h)
    | _ => none
  | .len sz x => (vw h sz (x.v e)).map fun xs => (.int .i64 xs.length, h)
  | .app t sz bytes x y => match vw h sz (x.v e), srcOf h sz (y.v e) with
    | some xs, some ys => appx h t sz bytes (x.v e) xs ys
    | _, _ => none
  | .mmx mx xs => match xs.map (Od.v e) with
    | .int k a :: l => (mm mx k a l).map fun r => (.int k r, h)
    | _ => none
  | .mkmap r => if hintOk e r = true then some (.map h.length, h ++ [.map 0 0 []]) else none
  | .mget ag ks z ok m k => if (keq ag ks (k.v e) (k.v e)).isSome = true then match mlook ag ks h (m.v e) (k.v e) with
    | some r => some (if ok = true then .tup [r.getD z, .bool r.isSome] else r.getD z, h)
    | none => none
    else none
  | .mset ag ks m k v => if (keq ag ks (k.v e) (k.v e)).isSome = true then match m.v e with
      | .map o => match h[o]? with
        | some (.map kt et es) => (mput ag ks (k.v e) (v.v e) es).map fun es' => (.undef, h.set o (.map kt et es'))
        | _ => none
      | _ => none
    else none
  | .mlen m => match m.v e with
    | .nilm => some (.int .i64 0, h)
    | .map o => match h[o]? with
      | some (.map _ _ es) => some (.int .i64 es.length, h)
      | _ => none
    | _ => none
  | .call _ _ => none

/-- A fresh row, as a result, gets a number of its own. -/
def mat (d : DV) (h : Heap) : DV × Heap :=
  match d with
  | .fresh e sz xs => (.row h.length 0 0 xs.length false, h ++ [.row e sz 0 xs])
  | d => (d, h)

abbrev CallF := Nat → List DV → Heap → Option (DV × Heap)

def wanted (g : Option (Nat × Bool)) (e : Env) : Option Bool :=
  match g with
  | none => some true
  | some (s, b) => match lk e s with
    | .bool t => some (t == b)
    | .tup _ => some false
    | _ => none

def isCall : XOp → Option (Od × List Od)
  | .call f args => some (f, args)
  | _ => none

/-- One operation, a call or another. -/
def evTo (call : CallF) (op : XOp) (e : Env) (h : Heap) : Option (DV × Heap) :=
  match isCall op with
  | some (f, args) => match f.v e with
    | .func k a b => (call k (a ++ args.map (Od.v e) ++ b) h).map fun r => mat r.1 r.2
    | _ => none
  | none => evx op e h
def evOp (call : CallF) (o : XOper) (e : Env) (h : Heap) : Option (DV × Heap) :=
  match wanted o.guard e with
  | none => none
  | some false => some (.tup [], h)
  | some true => match evTo call o.op e h with
    | some (d, h') => if o.gr = true ∧ h'.take h.length ≠ h then none else some (d, h')
    | none => none
def evOps (call : CallF) : List XOper → Env → Heap → Option (Env × Heap)
  | [], e, h => some (e, h)
  | o :: l, e, h => match evOp call o e h with
    | some (d, h') => evOps call l (put o.dst d e) h'
    | none => none

inductive XC where
  | skip
  | reg (ops : List XOper) (keep : List Nat)
  | seq (a b : XC)
  | cond (c : Od) (a b : XC)
  | block (id : Nat) (c : XC)
  | loop (c : XC)
  | exit (id : Nat)
  | ret

inductive Ex where
  | norm
  | exit (id : Nat)
  | ret

def keepEnv (ks : List Nat) (e : Env) : Env := ks.map fun s => (s, lk e s)

def evC (call : CallF) : Nat → XC → Env → Heap → Option (Ex × Env × Heap)
  | _, .skip, e, h => some (.norm, e, h)
  | _, .reg ops keep, e, h => match evOps call ops e h with
    | some (e', h') => some (.norm, keepEnv keep e', h')
    | none => none
  | n, .seq a b, e, h => match evC call n a e h with
    | some (.norm, e', h') => evC call n b e' h'
    | r => r
  | n, .cond c a b, e, h => match c.v e with
    | .bool true => evC call n a e h
    | .bool false => evC call n b e h
    | _ => none
  | n, .block id c, e, h => match evC call n c e h with
    | some (.exit id', e', h') => if id' = id then some (.norm, e', h') else some (.exit id', e', h')
    | r => r
  | 0, .loop _, _, _ => none
  | n + 1, .loop c, e, h => match evC call (n + 1) c e h with
    | some (.norm, e', h') => evC call n (.loop c) e' h'
    | r => r
  | _, .exit id, e, h => some (.exit id, e, h)
  | _, .ret, e, h => some (.ret, e, h)
termination_by n c => (n, c)

inductive XRes where
  | t (s : Nat)
  | cell (s : Nat) (ag : Bool) (sz : Nat)

structure XF where
  np : Nat
  body : XC
  res : List XRes

inductive XK where
  | fn (x : XF)
  | ext (g : List DV → Heap → Option (DV × Heap))

def enterEnv : List DV → Nat → Env
  | [], _ => []
  | d :: l, i => (i, d) :: enterEnv l (i + 1)

def resL : List XRes → Env → Heap → Option (List DV)
  | [], _, _ => some []
  | .t s :: l, e, h => (resL l e h).map fun r => lk e s :: r
  | .cell s ag sz :: l, e, h => match ldx h ag sz (lk e s) with
    | some d => (resL l e h).map fun r => d :: r
    | none => none

/-- What a result is for the caller, from whom all numbers from n on are kept away. -/
def fz0 (n : Nat) (h : Heap) (top : Bool) : DV → Option (DV × Heap)
  | .row o g lo m c => if o < n then some (.row o g lo m c, h) else match h[o]? with
    | some (.row e sz g' xs) => if g' = g ∧ lo + m ≤ xs.length ∧ ∀ x ∈ xs, Nr x then
        if top = true ∧ lo = 0 ∧ m = xs.length ∧ c = false then some (.fresh e sz xs, h)
        else some (.list sz ((xs.drop lo).take m) c, h.set o (.frz e sz g xs))
      else none
    | some (.frz _ sz g' xs) => if g' = g ∧ lo + m ≤ xs.length ∧ ∀ x ∈ xs, Nr x then some (.list sz ((xs.drop lo).take m) c, h) else none
    | _ => none
  | .ref o p => if o < n then some (.ref o p, h) else none
  | .map o => if o < n then some (.map o, h) else none
  | .bool b => some (.bool b, h)
  | .int k i => some (.int k i, h)
  | .str s => some (.str s, h)
  | .nilp => some (.nilp, h)
  | .nils => some (.nils, h)
  | .nilm => some (.nilm, h)
  | .nilf => some (.nilf, h)
  | .nili => some (.nili, h)
  | .list sz xs c => some (.list sz xs c, h)
  | .ifc t (.int k i) => some (.ifc t (.int k i), h)
  | .func f [] [] => some (.func f [] [], h)
  | _ => none
def fzL (n : Nat) : List DV → Heap → Option (List DV × Heap)
  | [], h => some ([], h)
  | d :: l, h => match fz0 n h false d with
    | some (d', h') => match fzL n l h' with
      | some (l', h'') => some (d' :: l', h'')
      | none => none
    | none => none
def fz1 (n : Nat) (h : Heap) (top : Bool) : DV → Option (DV × Heap)
  | .agg cs => match fzL n cs h with
    | some (cs', h') => some (.agg cs', h')
    | none => none
  | d => fz0 n h top d
def fzT (n : Nat) : List DV → Heap → Option (List DV × Heap)
  | [], h => some ([], h)
  | d :: l, h => match fz1 n h false d with
    | some (d', h') => match fzT n l h' with
      | some (l', h'') => some (d' :: l', h'')
      | none => none
    | none => none
/-- The end of a call: results, and the heap as it was, where nothing that was there is written and nothing leads to what is new. -/
def fin (h h' : Heap) : List DV → DV × Heap
  | [d] => if h'.take h.length = h then (match fz1 h.length h' true d with | some (d', _) => (d', h) | none => (d, h')) else (d, h')
  | vs => if h'.take h.length = h then (match fzT h.length vs h' with | some (vs', _) => (.tup vs', h) | none => (.tup vs, h')) else (.tup vs, h')

def evF (X : Nat → Option XK) : Nat → CallF
  | 0, _, _, _ => none
  | n + 1, f, args, h => match X f with
    | none => none
    | some (.ext g) => g args h
    | some (.fn x) => if args.length = x.np then
        match evC (evF X n) n x.body (enterEnv args 0) h with
        | some (.norm, e, h') => (resL x.res e h').map (fin h h')
        | some (.ret, e, h') => (resL x.res e h').map (fin h h')
        | _ => none
      else none

/-! ### The limit: as many rounds as are needed -/
def lim {α : Type} (f : Nat → Option α) : Option α := if h : ∃ r n, f n = some r then some (Classical.choose h) else none
def Mono {α : Type} (f : Nat → Option α) : Prop := ∀ n m r, n ≤ m → f n = some r → f m = some r
theorem lim_iff {α : Type} {f : Nat → Option α} (hf : Mono f) (r : α) : lim f = some r ↔ ∃ n, f n = some r := by
  unfold lim
  constructor
  · intro h
    split at h
    · rename_i hx
      obtain ⟨n, hn⟩ := Classical.choose_spec hx
      injection h with h
      exact ⟨n, by rw [hn, h]⟩
    · cases h
  · rintro ⟨n, hn⟩
    have hx : ∃ r n, f n = some r := ⟨r, n, hn⟩
    rw [dif_pos hx]
    obtain ⟨m, hm⟩ := Classical.choose_spec hx
    have h1 := hf _ _ _ (Nat.le_max_left n m) hn
    have h2 := hf _ _ _ (Nat.le_max_right n m) hm
    rw [h1] at h2
    injection h2 with h2
    rw [← h2]

def CallLe (c c' : CallF) : Prop := ∀ f a h r, c f a h = some r → c' f a h = some r
theorem evTo_mono {c c' : CallF} (hc : CallLe c c') {op e h r} (hr : evTo c op e h = some r) : evTo c' op e h = some r := by
  unfold evTo at hr ⊢
  split
  · rename_i f args hi
    rw [hi] at hr
    simp only at hr
    split at hr
    · rename_i k a b hf
      rw [Option.map_eq_some_iff] at hr
      obtain ⟨q, hq, rfl⟩ := hr
      rw [hc _ _ _ _ hq]
      rfl
    · cases hr
  · rename_i hi
    rw [hi] at hr
    exact hr
theorem evOp_mono {c c' : CallF} (hc : CallLe c c') {o e h r} (hr : evOp c o e h = some r) : evOp c' o e h = some r := by
  unfold evOp at hr ⊢
  split
  · rename_i hw; rw [hw] at hr; cases hr
  · rename_i hw; rw [hw] at hr; exact hr
  · rename_i hw
    rw [hw] at hr
    simp only at hr
    cases ht : evTo c o.op e h with
    | none => rw [ht] at hr; cases hr
    | some q => rw [ht] at hr; rw [evTo_mono hc ht]; exact hr
theorem evOps_mono {c c' : CallF} (hc : CallLe c c') : ∀ l e h r, evOps c l e h = some r → evOps c' l e h = some r
  | [], _, _, _, hr => hr
  | o :: l, e, h, r, hr => by
    unfold evOps at hr ⊢
    cases ho : evOp c o e h with
    | none => rw [ho] at hr; cases hr
    | some q => rw [ho] at hr; rw [evOp_mono hc ho]; exact evOps_mono hc l _ _ _ hr
theorem evC_mono {c c' : CallF} (hc : CallLe c c') : ∀ (n : Nat) (x : XC) (m : Nat) e h r, n ≤ m → evC c n x e h = some r → evC c' m x e h = some r := by
  intro n
  induction n using Nat.strongRecOn with
  | _ n ihn =>
  intro x
  induction x with
  | skip => intro m e h r _ hr; simpa [evC] using hr
  | exit id => intro m e h r _ hr; simpa [evC] using hr
  | ret => intro m e h r _ hr; simpa [evC] using hr
  | reg ops keep =>
    intro m e h r _ hr
    simp only [evC] at hr ⊢
    split at hr
    · rename_i h1
      rw [evOps_mono hc _ _ _ _ h1]
      exact hr
    · cases hr
  | seq a b iha ihb =>
    intro m e h r hm hr
    simp only [evC] at hr ⊢
    cases ha : evC c n a e h with
    | none => rw [ha] at hr; cases hr
    | some p =>
      rw [ha] at hr
      rw [iha m _ _ _ hm ha]
      obtain ⟨x, e', h'⟩ := p
      cases x with
      | norm => exact ihb m _ _ _ hm hr
      | exit id => exact hr
      | ret => exact hr
  | cond cc a b iha ihb =>
    intro m e h r hm hr
    simp only [evC] at hr ⊢
    split at hr
    · exact iha m _ _ _ hm hr
    · exact ihb m _ _ _ hm hr
    · cases hr
  | block id a iha =>
    intro m e h r hm hr
    simp only [evC] at hr ⊢
    cases ha : evC c n a e h with
    | none => rw [ha] at hr; cases hr
    | some p => rw [ha] at hr; rw [iha m _ _ _ hm ha]; exact hr
  | loop a iha =>
    intro m e h r hm hr
    cases n with
    | zero => simp [evC] at hr
    | succ n =>
      obtain ⟨m, rfl⟩ : ∃ k, m = k + 1 := ⟨m - 1, by omega⟩
      simp only [evC] at hr ⊢
      cases ha : evC c (n + 1) a e h with
      | none => rw [ha] at hr; cases hr
      | some p =>
        rw [ha] at hr
        rw [iha (m + 1) _ _ _ hm ha]
        obtain ⟨x, e', h'⟩ := p
        cases x with
        | norm => exact ihn n (by omega) (.loop a) m _ _ _ (by omega) hr
        | exit id => exact hr
        | ret => exact hr
theorem evF_le (X : Nat → Option XK) : ∀ n m, n ≤ m → CallLe (evF X n) (evF X m) := by
  intro n
  induction n with
  | zero => intro m _ f a h r hr; simp [evF] at hr
  | succ n ih =>
    intro m hm f a h r hr
    obtain ⟨m, rfl⟩ : ∃ k, m = k + 1 := ⟨m - 1, by omega⟩
    simp only [evF] at hr ⊢
    split at hr
    · cases hr
    · exact hr
    · split at hr
      · rename_i hl
        rw [if_pos hl]
        split at hr
        · rename_i h1; rw [evC_mono (ih m (by omega)) n _ m _ _ _ (by omega) h1]; exact hr
        · rename_i h1; rw [evC_mono (ih m (by omega)) n _ m _ _ _ (by omega) h1]; exact hr
        · cases hr
      · cases hr

/-- A call's answer. -/
def E (X : Nat → Option XK) : CallF := fun f a h => lim fun n => evF X n f a h
/-- What code comes to. -/
def C (X : Nat → Option XK) (c : XC) (e : Env) (h : Heap) : Option (Ex × Env × Heap) := lim fun n => evC (evF X n) n c e h

theorem E_iff (X : Nat → Option XK) (f a h r) : E X f a h = some r ↔ ∃ n, evF X n f a h = some r := lim_iff (fun n m r hn h1 => evF_le X n m hn _ _ _ _ h1) r
theorem C_iff (X : Nat → Option XK) (c e h r) : C X c e h = some r ↔ ∃ n, evC (evF X n) n c e h = some r := lim_iff (fun n m r hn h1 => evC_mono (evF_le X n m hn) n c m e h r hn h1) r
theorem evTo_lim (X : Nat → Option XK) {op e h r} (hr : evTo (E X) op e h = some r) : ∃ n, evTo (evF X n) op e h = some r := by
  unfold evTo at hr
  split at hr
  · rename_i f args hi
    split at hr
    · rename_i k a b hf
      rw [Option.map_eq_some_iff] at hr
      obtain ⟨q, hq, rfl⟩ := hr
      obtain ⟨n, hn⟩ := (E_iff _ _ _ _ _).1 hq
      exact ⟨n, by unfold evTo; rw [hi]; simp only; rw [hf]; simp only; rw [hn]; rfl⟩
    · cases hr
  · rename_i hi
    exact ⟨0, by unfold evTo; rw [hi]; exact hr⟩
theorem evOp_lim (X : Nat → Option XK) {o e h r} (hr : evOp (E X) o e h = some r) : ∃ n, evOp (evF X n) o e h = some r := by
  unfold evOp at hr
  split at hr
  · cases hr
  · rename_i hw; exact ⟨0, by unfold evOp; rw [hw]; exact hr⟩
  · rename_i hw
    cases ht : evTo (E X) o.op e h with
    | none => rw [ht] at hr; cases hr
    | some q =>
      rw [ht] at hr
      obtain ⟨n, hn⟩ := evTo_lim X ht
      exact ⟨n, by unfold evOp; rw [hw]; simp only; rw [hn]; exact hr⟩
theorem evOps_lim (X : Nat → Option XK) : ∀ l e h r, evOps (E X) l e h = some r ↔ ∃ n, evOps (evF X n) l e h = some r := by
  intro l e h r
  constructor
  · intro hr
    induction l generalizing e h with
    | nil => exact ⟨0, hr⟩
    | cons o l ih =>
      unfold evOps at hr
      cases ho : evOp (E X) o e h with
      | none => rw [ho] at hr; cases hr
      | some q =>
        rw [ho] at hr
        obtain ⟨n, hn⟩ := ih _ _ hr
        obtain ⟨m, hm⟩ := evOp_lim X ho
        refine ⟨max n m, ?_⟩
        unfold evOps
        rw [evOp_mono (evF_le X m _ (Nat.le_max_right n m)) hm]
        exact evOps_mono (evF_le X n _ (Nat.le_max_left n m)) _ _ _ _ hn
  · rintro ⟨n, hn⟩
    exact evOps_mono (fun f a h r hr => (E_iff _ _ _ _ _).2 ⟨n, hr⟩) _ _ _ _ hn

theorem opt_ext {α : Type} {a b : Option α} (h : ∀ r, a = some r ↔ b = some r) : a = b := by
  cases a with
  | none => cases b with
    | none => rfl
    | some r => exact absurd ((h r).2 rfl) (by simp)
  | some r => exact ((h r).1 rfl).symm

section
variable (X : Nat → Option XK) (e : Env) (h : Heap)
theorem C_skip : C X .skip e h = some (.norm, e, h) := (C_iff _ _ _ _ _).2 ⟨0, by simp [evC]⟩
theorem C_exit (id) : C X (.exit id) e h = some (.exit id, e, h) := (C_iff _ _ _ _ _).2 ⟨0, by simp [evC]⟩
theorem C_ret : C X .ret e h = some (.ret, e, h) := (C_iff _ _ _ _ _).2 ⟨0, by simp [evC]⟩
theorem C_reg (ops keep) : C X (.reg ops keep) e h = match evOps (E X) ops e h with | some (e', h') => some (.norm, keepEnv keep e', h') | none => none := by
  refine opt_ext fun r => ?_
  rw [C_iff]
  constructor
  · rintro ⟨n, hn⟩
    simp only [evC] at hn
    split at hn
    · rename_i h1
      rw [(evOps_lim X _ _ _ _).2 ⟨n, h1⟩]
      exact hn
    · cases hn
  · intro hr
    split at hr
    · rename_i h1
      obtain ⟨n, hn⟩ := (evOps_lim X _ _ _ _).1 h1
      exact ⟨n, by simp only [evC, hn]; exact hr⟩
    · cases hr
theorem C_seq (a b) : C X (.seq a b) e h = match C X a e h with | some (.norm, e', h') => C X b e' h' | r => r := by
  refine opt_ext fun r => ?_
  rw [C_iff]
  constructor
  · rintro ⟨n, hn⟩
    simp only [evC] at hn
    cases ha : evC (evF X n) n a e h with
    | none => rw [ha] at hn; cases hn
    | some p =>
      rw [ha] at hn
      rw [(C_iff X a e h p).2 ⟨n, ha⟩]
      obtain ⟨x, e', h'⟩ := p
      cases x with
      | norm => exact (C_iff _ _ _ _ _).2 ⟨n, hn⟩
      | exit id => exact hn
      | ret => exact hn
  · intro hr
    cases ha : C X a e h with
    | none => rw [ha] at hr; cases hr
    | some p =>
      rw [ha] at hr
      obtain ⟨n, hn⟩ := (C_iff _ _ _ _ _).1 ha
      obtain ⟨x, e', h'⟩ := p
      cases x with
      | norm =>
        obtain ⟨m, hm⟩ := (C_iff _ _ _ _ _).1 hr
        refine ⟨max n m, ?_⟩
        simp only [evC]
        rw [evC_mono (evF_le X n _ (Nat.le_max_left n m)) n _ _ _ _ _ (Nat.le_max_left n m) hn]
        exact evC_mono (evF_le X m _ (Nat.le_max_right n m)) m _ _ _ _ _ (Nat.le_max_right n m) hm
      | exit id => exact ⟨n, by simp only [evC, hn]; exact hr⟩
      | ret => exact ⟨n, by simp only [evC, hn]; exact hr⟩
theorem C_cond (c a b) : C X (.cond c a b) e h = match c.v e with | .bool true => C X a e h | .bool false => C X b e h | _ => none := by
  refine opt_ext fun r => ?_
  rw [C_iff]
  simp only [evC]
  split
  · rw [C_iff]
  · rw [C_iff]
  · simp
theorem C_block (id c) : C X (.block id c) e h = match C X c e h with | some (.exit id', e', h') => if id' = id then some (.norm, e', h') else some (.exit id', e', h') | r => r := by
  refine opt_ext fun r => ?_
  rw [C_iff]
  constructor
  · rintro ⟨n, hn⟩
    simp only [evC] at hn
    cases ha : evC (evF X n) n c e h with
    | none => rw [ha] at hn; cases hn
    | some p => rw [ha] at hn; rw [(C_iff X c e h p).2 ⟨n, ha⟩]; exact hn
  · intro hr
    cases ha : C X c e h with
    | none => rw [ha] at hr; cases hr
    | some p =>
      rw [ha] at hr
      obtain ⟨n, hn⟩ := (C_iff _ _ _ _ _).1 ha
      exact ⟨n, by simp only [evC, hn]; exact hr⟩
theorem C_loop (c) : C X (.loop c) e h = match C X c e h with | some (.norm, e', h') => C X (.loop c) e' h' | r => r := by
  refine opt_ext fun r => ?_
  rw [C_iff]
  constructor
  · rintro ⟨n, hn⟩
    cases n with
    | zero => simp [evC] at hn
    | succ n =>
      simp only [evC] at hn
      cases ha : evC (evF X (n + 1)) (n + 1) c e h with
      | none => rw [ha] at hn; cases hn
      | some p =>
        rw [ha] at hn
        rw [(C_iff X c e h p).2 ⟨n + 1, ha⟩]
        obtain ⟨x, e', h'⟩ := p
        cases x with
        | norm => exact (C_iff _ _ _ _ _).2 ⟨n + 1, evC_mono (evF_le X (n + 1) (n + 1) (Nat.le_refl _)) n _ (n + 1) _ _ _ (by omega) hn⟩
        | exit id => exact hn
        | ret => exact hn
  · intro hr
    cases ha : C X c e h with
    | none => rw [ha] at hr; cases hr
    | some p =>
      rw [ha] at hr
      obtain ⟨n, hn⟩ := (C_iff _ _ _ _ _).1 ha
      obtain ⟨x, e', h'⟩ := p
      cases x with
      | norm =>
        obtain ⟨m, hm⟩ := (C_iff _ _ _ _ _).1 hr
        refine ⟨max n m + 1, ?_⟩
        simp only [evC]
        rw [evC_mono (evF_le X n _ (by omega)) n _ _ _ _ _ (by omega) hn]
        exact evC_mono (evF_le X m _ (by omega)) m _ _ _ _ _ (by omega) hm
      | exit id => exact ⟨n + 1, by simp only [evC]; rw [evC_mono (evF_le X n _ (by omega)) n _ (n + 1) _ _ _ (by omega) hn]; exact hr⟩
      | ret => exact ⟨n + 1, by simp only [evC]; rw [evC_mono (evF_le X n _ (by omega)) n _ (n + 1) _ _ _ (by omega) hn]; exact hr⟩
theorem E_fn {f : Nat} {x : XF} (hx : X f = some (.fn x)) (args : List DV) : E X f args h = if args.length = x.np then
    match C X x.body (enterEnv args 0) h with
      | some (.norm, e, h') => (resL x.res e h').map (fin h h')
      | some (.ret, e, h') => (resL x.res e h').map (fin h h')
      | _ => none
    else none := by
  refine opt_ext fun r => ?_
  rw [E_iff]
  constructor
  · rintro ⟨n, hn⟩
    cases n with
    | zero => simp [evF] at hn
    | succ n =>
      simp only [evF, hx] at hn
      split at hn
      · rename_i hl
        rw [if_pos hl]
        split at hn
        · rename_i h1; rw [(C_iff _ _ _ _ _).2 ⟨n, h1⟩]; exact hn
        · rename_i h1; rw [(C_iff _ _ _ _ _).2 ⟨n, h1⟩]; exact hn
        · cases hn
      · cases hn
  · intro hr
    split at hr
    · rename_i hl
      cases hc : C X x.body (enterEnv args 0) h with
      | none => rw [hc] at hr; cases hr
      | some p =>
        rw [hc] at hr
        obtain ⟨n, hn⟩ := (C_iff _ _ _ _ _).1 hc
        exact ⟨n + 1, by simp only [evF, hx, if_pos hl, hn]; exact hr⟩
    · cases hr
theorem E_ext {f : Nat} {g} (hx : X f = some (.ext g)) (args : List DV) : E X f args h = g args h := by
  refine opt_ext fun r => ?_
  rw [E_iff]
  constructor
  · rintro ⟨n, hn⟩
    cases n with
    | zero => simp [evF] at hn
    | succ n => simpa only [evF, hx] using hn
  · intro hr
    exact ⟨1, by simpa only [evF, hx] using hr⟩
end
end
end Go.Proofs.YtfgnefnpfgdliaaDoor
