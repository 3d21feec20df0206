/- Ideal runs. -/
import GoSem.Core.Code
import GoSem.Op.String
import GoSem.Core.Program
import GoSem.Core.Check
import GoSem.Core.Region
import GoSem.Core.Layout
import GoSem.Op.Equal
import Derived.WalkKit
import Derived.Deep.Draws
import Derived.Laws.Rows
import Derived.Laws.CopyRow
import Derived.Laws.StructEq
import Derived.Laws.Strings
import Derived.Laws.BytesString
import Derived.Laws.BytesArg
import Derived.Deep.AppendSrc
import Derived.Great.BuildSlice
import Derived.Laws.AppendOwn
import Derived.Lib.ConvBytes
import Derived.Laws.MakeOwn
namespace Go.Proofs.YteekbciaggmfgaaDoor
open Classical
set_option linter.unusedVariables false
noncomputable section
inductive DV where
 | bool (b : Bool)
 | int (k : IntKind) (n : Int)
 | str (s : ByteArray)
 | nilp
 | ref (o p : Nat)
 | elem (d : DV) (sz i p : Nat)
 | nils
 | list (sz : Nat) (xs : List DV) (c : Bool)
 | row (o g lo n : Nat) (c : Bool)
 | fresh (e sz : Nat) (xs : List DV)
 | nilm
 | map (o : Nat)
 | nilf
 | func (f : Nat) (first cap : List DV)
 | nili
 | ifc (t : Nat) (v : DV)
 | agg (cs : List DV)
 | tup (vs : List DV)
 | undef
inductive HO where
 | box (t : Nat) (cs : List DV)
 | row (e sz g : Nat) (xs : List DV)
 | frz (e sz g : Nat) (xs : List DV)
 | map (kt et : Nat) (es : List (DV × DV))
abbrev Zb := List HO
abbrev Env := List (Nat × DV)
def DV.cells : DV → List DV
 | .agg cs => cs
 | d => [d]
inductive Nr : DV → Prop where
 | bool (b) : Nr (.bool b)
 | int (k n) : Nr (.int k n)
 | str (s) : Nr (.str s)
 | nilp : Nr .nilp
 | nils : Nr .nils
 | nilm : Nr .nilm
 | nilf : Nr .nilf
 | nili : Nr .nili
 | list {sz xs c} (h : ∀ x ∈ xs, Nr x) : Nr (.list sz xs c)
 | agg {cs} (h : ∀ x ∈ cs, Nr x) : Nr (.agg cs)
 | func (f) : Nr (.func f [] [])
 | ifc (t k n) : Nr (.ifc t (.int k n))
def DV.one : DV → Bool
 | .agg _ | .tup _ | .undef | .fresh _ _ _ => false
 | _ => true
def DV.isU : DV → Bool
 | .undef => true
 | _ => false
def Wc (sz : Nat) (x : DV) : Prop := x.cells.length = sz ∧ ∀ c ∈ x.cells, c.one = true
def vw (h : Zb) (sz : Nat) : DV → Option (List DV)
 | .nils => some []
 | .list cP xs _ => if cP = sz then some xs else none
 | .row o g lo n _ => match h[o]? with
  | some (.row _ cP g' xs) => if cP = sz ∧ g' = g ∧ lo + n ≤ xs.length then some ((xs.drop lo).take n) else none
  | some (.frz _ cP g' xs) => if cP = sz ∧ g' = g ∧ lo + n ≤ xs.length then some ((xs.drop lo).take n) else none
  | _ => none
 | _ => none
inductive Od where
 | t (n : Nat)
 | c (d : DV)
def lk : Env → Nat → DV
 | [], _ => .undef
 | (a, v) :: e, s => if a = s then v else lk e s
def Od.v (e : Env) : Od → DV
 | .t n => lk e n
 | .c d => d
def put (dst : Option Nat) (d : DV) (e : Env) : Env := match dst with | some s => (s, d) :: e | none => e
inductive XOp where
 | mov (x : Od)
 | pick (c a b : Od)
 | box (t : Nat) (x : Od)
 | alloc (t : Nat) (zero : List DV)
 | build (zero : List DV) (parts : List (Nat × Nat × Od))
 | mkslice (ro : Bool) (e sz : Nat) (parts : List Od)
 | make (e sz bytes : Nat) (zero : DV) (n m : Od)
 | load (ag : Bool) (sz : Nat) (x : Od)
 | loadb (ag : Bool) (sz : Nat) (x : Od)
 | store (sz : Nat) (x v : Od)
 | nilck (x : Od)
 | bin (op : BinOp) (x y : Od)
 | eqa (ks : List Nat) (neg : Bool) (x y : Od)
 | Yt (kd : Nat) (neg : Bool) (x y : Od)
 | un (op : UnOp) (x : Od)
 | toint (k : IntKind) (x : Od)
 | tostr (x : Od)
 | tobytes (x : Od)
 | faddr (off : Nat) (x : Od)
 | fld (ag : Bool) (off sz : Nat) (x : Od)
 | iaddr (sz : Nat) (x i : Od)
 | iaddra (n sz : Nat) (x i : Od)
 | idxs (x i : Od)
 | slcs (x : Od) (lo hi : Option Od)
 | slc (sz : Nat) (x : Od) (lo hi mx : Option Od)
 | mkfn (f : Nat) (first cap : List Od)
 | mkif (t : Nat) (x : Od)
 | ext (x : Od) (i : Nat)
 | lens (x : Od)
 | capn (x : Od)
 | clr (sz : Nat) (zero : DV) (x : Od)
 | mklist (sz : Nat) (parts : List Od)
 | appz (e sz bytes : Nat) (zero : DV) (x n : Od)
 | len (sz : Nat) (x : Od)
 | app (e sz bytes : Nat) (x y : Od)
 | mmx (mx : Bool) (xs : List Od)
 | mkmap (r : Option Od)
 | mget (ag : Bool) (ks : List Nat) (zero : DV) (ok : Bool) (m k : Od)
 | mset (ag : Bool) (ks : List Nat) (m k v : Od)
 | mlen (m : Od)
 | call (f : Od) (args : List Od)
structure ah where
 dst : Option Nat
 op : XOp
 guard : Option (Nat × Bool)
 gr : Bool
def Yv (ag : Bool) (sz : Nat) (cs : List DV) (p : Nat) : Option DV :=
 if ag then (if p + sz ≤ cs.length then some (.agg ((cs.drop p).take sz)) else none) else cs[p]?
def splice (cs : List DV) (p : Nat) (new : List DV) : List DV := cs.take p ++ new ++ cs.drop (p + new.length)
def ay (h : Zb) (ag : Bool) (sz : Nat) : DV → Option DV
 | .ref o p => match h[o]? with
  | some (.box _ cs) => Yv ag sz cs p
  | _ => none
 | .elem d cP i p => match vw h cP d with
  | some xs => match xs[i]? with
   | some x => Yv ag sz x.cells p
   | none => none
  | none => none
 | _ => none
def mW (x : DV) (p : Nat) (v : DV) : Option DV :=
 match x with
 | .agg cs => if p + v.cells.length ≤ cs.length then some (.agg (splice cs p v.cells)) else none
 | _ => if p = 0 ∧ v.one = true then some v else none
def stx (h : Zb) (sz : Nat) (a v : DV) : Option Zb :=
 if v.cells.length = sz ∧ v.cells.all DV.one = true then
  match a with
  | .ref o p => match h[o]? with
   | some (.box t cs) => if p + sz ≤ cs.length then some (h.set o (.box t (splice cs p v.cells))) else none
   | _ => none
  | .elem (.row o g lo n _) cP i p => match h[o]? with
   | some (.row e bZ g' xs) =>
    if bZ = cP ∧ g' = g ∧ lo + n ≤ xs.length ∧ i < n then
     match xs[lo + i]? with
     | some x => (mW x p v).map fun x' => h.set o (.row e bZ g' (xs.set (lo + i) x'))
     | none => none
    else none
   | _ => none
  | _ => none
 else none
def Ys : Nat → DV → DV → Option Bool
 | 0, .bool a, .bool b => some (a == b)
 | 1, .int k a, .int k' b => if k = k' then some (a == b) else none
 | 2, .str a, .str b => some (a == b)
 | _, _, _ => none
def ZT : List Nat → List DV → List DV → Option Bool
 | [], [], [] => some true
 | k :: ks, a :: x, b :: y => match Ys k a b with
  | some r => match ZT ks x y with
   | some r' => some (r && r')
   | none => none
  | none => none
 | _, _, _ => none
def Ya (op : BinOp) (k : IntKind) (a b : Int) : Option DV :=
 match op with
 | .add => some (.int k (k.wrap (a + b)))
 | .sub => some (.int k (k.wrap (a - b)))
 | .mul => some (.int k (k.wrap (a * b)))
 | .quo => if b = 0 then none else some (.int k (k.wrap (a.tdiv b)))
 | .rem => if b = 0 then none else some (.int k (a.tmod b))
 | .and => some (.int k (k.wrap ((BitVec.ofInt k.bits a) &&& (BitVec.ofInt k.bits b)).toNat))
 | .or => some (.int k (k.wrap ((BitVec.ofInt k.bits a) ||| (BitVec.ofInt k.bits b)).toNat))
 | .xor => some (.int k (k.wrap ((BitVec.ofInt k.bits a) ^^^ (BitVec.ofInt k.bits b)).toNat))
 | .andNot => some (.int k (k.wrap ((BitVec.ofInt k.bits a) &&& ~~~(BitVec.ofInt k.bits b)).toNat))
 | .eql => some (.bool (a == b))
 | .neq => some (.bool (a != b))
 | .lss => some (.bool (decide (a < b)))
 | .leq => some (.bool (decide (a ≤ b)))
 | .gtr => some (.bool (decide (a > b)))
 | .geq => some (.bool (decide (a ≥ b)))
 | _ => none
def Yd (op : BinOp) (a b : ByteArray) : Option DV :=
 match op with
 | .add => if ((a.size + b.size : Nat) : Int) > 9223372036854775807 then none else some (.str (a ++ b))
 | .eql => some (.bool (a == b))
 | .neq => some (.bool (!(a == b)))
 | .lss => some (.bool (Op.bytesLess a.toList b.toList))
 | .leq => some (.bool (Op.bytesLess a.toList b.toList || a == b))
 | .gtr => some (.bool (!(Op.bytesLess a.toList b.toList || a == b)))
 | .geq => some (.bool (!Op.bytesLess a.toList b.toList))
 | _ => none
def Yb (op : BinOp) (x y : DV) : Option DV :=
 match x, y with
 | .int k a, .int k' b => match op with
  | .shl => if b < 0 then none else some (.int k (k.wrap (a * 2 ^ (min b.toNat k.bits))))
  | .shr => if b < 0 then none else some (.int k (a.fdiv (2 ^ (min b.toNat k.bits))))
  | op => if k = k' then Ya op k a b else none
 | .str a, .str b => Yd op a b
 | _, _ => none
def Yt : Nat → DV → DV → Option Bool
 | 0, .bool a, .bool b => some (a == b)
 | 1, .nilp, .nilp => some true
 | 1, .ref _ _, .nilp => some false
 | 1, .nilp, .ref _ _ => some false
 | 2, .nils, .nils => some true
 | 2, .list _ _ _, .nils => some false
 | 2, .row _ _ _ _ _, .nils => some false
 | 3, .nilm, .nilm => some true
 | 3, .map _, .nilm => some false
 | 4, .nilf, .nilf => some true
 | 4, .func _ _ _, .nilf => some false
 | 5, .nili, .nili => some true
 | 5, .ifc _ _, .nili => some false
 | _, _, _ => none
def ai (op : UnOp) (x : DV) : Option DV :=
 match op, x with
 | .neg, .int k n => some (.int k (k.wrap (0 - n)))
 | .xor, .int k n => some (.int k (k.wrap ((BitVec.ofInt k.bits (if k.signed then -1 else k.max)) ^^^ (BitVec.ofInt k.bits n)).toNat))
 | .not, .bool b => some (.bool !b)
 | _, _ => none
def ZM (cs : List DV) : List (Nat × Nat × DV) → Option (List DV)
 | [] => some cs
 | (off, sz, v) :: l => if v.isU = false ∧ v.cells.length = sz ∧ off + sz ≤ cs.length then ZM (splice cs off v.cells) l else none
def bytesOf (s : ByteArray) : List DV := s.data.toList.map fun b => .int .u8 b.toNat
def byteOf : DV → Option UInt8
 | .int .u8 n => some (UInt8.ofNat n.toNat)
 | _ => none
def aJ (h : Zb) (sz : Nat) : DV → Option (List DV)
 | .str s => if sz = 1 then some (bytesOf s) else none
 | d => vw h sz d
def uM (h : Zb) : DV → Option (DV × Zb)
 | .row o g lo n c => match h[o]? with
  | some (.row e sz g' xs) => if g' = g ∧ lo + n ≤ xs.length ∧ ∀ x ∈ xs, Nr x then some (.list sz ((xs.drop lo).take n) c, h.set o (.frz e sz g xs)) else none
  | some (.frz _ sz g' xs) => if g' = g ∧ lo + n ≤ xs.length ∧ ∀ x ∈ xs, Nr x then some (.list sz ((xs.drop lo).take n) c, h) else none
  | _ => none
 | d => some (d, h)
def uN : List DV → Zb → Option (List DV × Zb)
 | [], h => some ([], h)
 | d :: l, h => match uM h d with
  | some (d', h') => match uN l h' with
   | some (l', h'') => some (d' :: l', h'')
   | none => none
  | none => none
def rJ (h : Zb) : DV → Option (DV × Zb)
 | .agg cs => match uN cs h with
  | some (cs', h') => some (.agg cs', h')
  | none => none
 | d => uM h d
def cM : List DV → Zb → Option (List DV × Zb)
 | [], h => some ([], h)
 | d :: l, h => match rJ h d with
  | some (d', h') => match cM l h' with
   | some (l', h'') => some (d' :: l', h'')
   | none => none
  | none => none
def aY (e : Env) (d : Nat) : Option Od → Option Nat
 | none => some d
 | some x => match x.v e with
  | .int _ n => if 0 ≤ n then some n.toNat else none
  | _ => none
def eP (ag : Bool) (ks : List Nat) (a b : DV) : Option Bool :=
 if ag = true then (match a, b with
  | .agg x, .agg y => ZT ks x y
  | _, _ => none)
 else match ks with
  | [k] => Ys k a b
  | _ => none
def gm (ag : Bool) (ks : List Nat) (k : DV) : List (DV × DV) → Option (Option DV)
 | [] => some none
 | (a, v) :: l => match eP ag ks k a with
  | some true => some (some v)
  | some false => gm ag ks k l
  | none => none
def fw (ag : Bool) (ks : List Nat) (k v : DV) : List (DV × DV) → Option (List (DV × DV))
 | [] => some [(k, v)]
 | (a, u) :: l => match eP ag ks k a with
  | some true => some ((k, v) :: l)
  | some false => (fw ag ks k v l).map fun r => (a, u) :: r
  | none => none
def mm (mx : Bool) (k : IntKind) (a : Int) : List DV → Option Int
 | [] => some a
 | .int k' b :: l => if k' = k then mm mx k (if mx then (if a < b then b else a) else (if b < a then b else a)) l else none
 | _ => none
def aX (h : Zb) (t sz bytes : Nat) (x : DV) (xs ys : List DV) : Option (DV × Zb) :=
 if ys = [] then some (x, h)
 else if (xs.length + ys.length) * bytes ≤ 140737488355328 then
  match x with
  | .nils => some (.row h.length 0 0 ys.length false, h ++ [.row t sz 0 ys])
  | .list _ _ true => some (.row h.length 0 0 (xs.length + ys.length) false, h ++ [.row t sz 0 (xs ++ ys)])
  | .row _ _ _ _ true => some (.row h.length 0 0 (xs.length + ys.length) false, h ++ [.row t sz 0 (xs ++ ys)])
  | .row o g 0 n false => match h[o]? with
   | some (.row t' cP _ zs) => if t' = t ∧ n = zs.length then some (.row o (g + 1) 0 (n + ys.length) false, h.set o (.row t cP (g + 1) (zs ++ ys))) else if t' = t ∧ n < zs.length then some (.row o (g + 1) 0 (n + ys.length) false, h.set o (.row t cP (g + 1) (zs.take n ++ ys))) else none
   | _ => none
  | _ => none
 else none
def de (e : Env) (m : Nat) : Option Od → Option Bool
 | none => some false
 | some o => if aY e 0 (some o) = some m then some true else none
def dI (h : Zb) (x : DV) (l m n : Nat) (cc : Bool) : Option (DV × Zb) := match x with
 | .nils => some (.nils, h)
 | .list s ys c => some (.list s ((ys.take m).drop l) (cc || (c && decide (m = n))), h)
 | .row o g lo' _ c => if c = true ∧ cc = false ∧ m ≠ n then none else some (.row o g (lo' + l) (m - l) (cc || (c && decide (m = n))), h)
 | _ => none
def ep (e : Env) : Option Od → Bool
 | none => true
 | some o => match o.v e with
  | .int _ _ => true
  | _ => false
def eX (ag : Bool) (ks : List Nat) (h : Zb) (m k : DV) : Option (Option DV) := match m with
 | .nilm => some none
 | .map o => match h[o]? with
  | some (.map _ _ es) => gm ag ks k es
  | _ => none
 | _ => none
def Yj (op : XOp) (e : Env) (h : Zb) : Option (DV × Zb) :=
 match op with
 | .mov x => some (x.v e, h)
 | .pick c a b => match c.v e with
  | .bool t => some (if t then a.v e else b.v e, h)
  | _ => none
 | .box t x => if (x.v e).isU = true then none else some (.ref h.length 0, h ++ [.box t (x.v e).cells])
 | .alloc t z => some (.ref h.length 0, h ++ [.box t z])
 | .build z ps => (ZM z (ps.map fun p => (p.1, p.2.1, p.2.2.v e))).map fun cs => (.agg cs, h)
 | .mkslice ro t sz ps => match cM (ps.map (Od.v e)) h with
  | some (xs, h') => if ∀ x ∈ xs, Wc sz x then
   if ro = true then (if ∀ x ∈ xs, Nr x then some (.list sz xs true, h') else none)
   else some (.row h'.length 0 0 xs.length false, h' ++ [.row t sz 0 xs])
   else none
  | none => none
 | .mklist sz ps => if (∀ x ∈ ps.map (Od.v e), Wc sz x) ∧ (∀ x ∈ ps.map (Od.v e), Nr x) then some (.list sz (ps.map (Od.v e)) true, h) else none
 | .appz t sz bytes z x n => match x.v e, n.v e with
  | .nils, .int _ k => if 0 < k ∧ k * bytes ≤ 140737488355328 ∧ Wc sz z then some (.row h.length 0 0 k.toNat false, h ++ [.row t sz 0 (List.replicate k.toNat z)]) else none
  | _, _ => none
 | .make t sz bytes z n m => match n.v e, m.v e with
  | .int _ a, .int _ b => if 0 ≤ a ∧ a ≤ b ∧ b * bytes ≤ 140737488355328 ∧ Wc sz z then some (.row h.length 0 0 a.toNat false, h ++ [.row t sz 0 (List.replicate a.toNat z)]) else none
  | _, _ => none
 | .load ag sz x => (ay h ag sz (x.v e)).map fun d => (d, h)
 | .loadb ag sz x => match x.v e with
  | .ref o p => (ay h ag sz (.ref o p)).map fun d => (d, h)
  | _ => none
 | .store sz x v => (stx h sz (x.v e) (v.v e)).map fun h' => (.undef, h')
 | .nilck x => match x.v e with
  | .ref o p => some (.ref o p, h)
  | .elem d s i p => some (.elem d s i p, h)
  | .func f a b => some (.func f a b, h)
  | _ => none
 | .bin op x y => (Yb op (x.v e) (y.v e)).map fun d => (d, h)
 | .eqa ks neg x y => match x.v e, y.v e with
  | .agg a, .agg b => (ZT ks a b).map fun r => (.bool (if neg then !r else r), h)
  | _, _ => none
 | .Yt kd neg x y => (Yt kd (x.v e) (y.v e)).map fun r => (.bool (if neg then !r else r), h)
 | .un op x => (ai op (x.v e)).map fun d => (d, h)
 | .toint k x => match x.v e with
  | .int _ n => some (.int k (k.wrap n), h)
  | _ => none
 | .tostr x => match vw h 1 (x.v e) with
  | some xs => (xs.mapM byteOf).map fun bs => (.str ⟨bs.toArray⟩, h)
  | none => none
 | .tobytes x => match x.v e with
  | .str s => some (.list 1 (bytesOf s) false, h)
  | _ => none
 | .faddr off x => match x.v e with
  | .ref o p => some (.ref o (p + off), h)
  | .elem d s i p => some (.elem d s i (p + off), h)
  | _ => none
 | .fld ag off sz x => match x.v e with
  | .agg cs => (Yv ag sz cs off).map fun d => (d, h)
  | _ => none
 | .iaddr sz x i => match i.v e with
  | .int _ n => match vw h sz (x.v e) with
   | some xs => if 0 ≤ n ∧ n < xs.length then some (.elem (x.v e) sz n.toNat 0, h) else none
   | none => none
  | _ => none
 | .iaddra len sz x i => match x.v e, i.v e with
  | .ref o p, .int _ n => if 0 ≤ n ∧ n < len then some (.ref o (p + n.toNat * sz), h) else none
  | .elem d s j p, .int _ n => if 0 ≤ n ∧ n < len then some (.elem d s j (p + n.toNat * sz), h) else none
  | _, _ => none
 | .idxs x i => match x.v e, i.v e with
  | .str s, .int _ n => if 0 ≤ n then (s.data.toList[n.toNat]?).map fun b => (.int .u8 b.toNat, h) else none
  | _, _ => none
 | .slcs x lo hi => match x.v e with
  | .str s => match aY e 0 lo, aY e s.size hi with
   | some l, some m => if l ≤ m ∧ m ≤ s.size then some (.str (s.extract l m), h) else none
   | _, _ => none
  | _ => none
 | .slc sz x lo hi mx => match vw h sz (x.v e) with
  | some xs => match aY e 0 lo, aY e xs.length hi with
   | some l, some m => if l ≤ m ∧ m ≤ xs.length then
    (de e m mx).bind fun cc => dI h (x.v e) l m xs.length cc
    else none
   | _, _ => none
  | none => none
 | .mkfn f a b => some (.func f (a.map (Od.v e)) (b.map (Od.v e)), h)
 | .mkif t x => some (.ifc t (x.v e), h)
 | .ext x i => match x.v e with
  | .tup vs => (vs[i]?).map fun d => (d, h)
  | _ => none
 | .lens x => match x.v e with
  | .str s => some (.int .i64 s.size, h)
  | _ => none
 | .capn x => match x.v e with
  | .nils => some (.int .i64 0, h)
  | _ => none
 | .clr sz z x => match x.v e with
  | .nils => some (.tup [], h)
  | .row o g lo n _ => if n = 0 then some (.tup [], h) else match h[o]? with
   | some (.row t cP g' xs) => if cP = sz ∧ g' = g ∧ lo + n ≤ xs.length ∧ Wc sz z then some (.tup [], h.set o (.row t sz g (xs.take lo ++ List.replicate n z ++ xs.drop (lo + n)))) else none
   | _ => none
  | _ => none
 | .len sz x => (vw h sz (x.v e)).map fun xs => (.int .i64 xs.length, h)
 | .app t sz bytes x y => match vw h sz (x.v e), aJ h sz (y.v e) with
  | some xs, some ys => aX h t sz bytes (x.v e) xs ys
  | _, _ => none
 | .mmx mx xs => match xs.map (Od.v e) with
  | .int k a :: l => (mm mx k a l).map fun r => (.int k r, h)
  | _ => none
 | .mkmap r => if ep e r = true then some (.map h.length, h ++ [.map 0 0 []]) else none
 | .mget ag ks z ok m k => if (eP ag ks (k.v e) (k.v e)).isSome = true then match eX ag ks h (m.v e) (k.v e) with
  | some r => some (if ok = true then .tup [r.getD z, .bool r.isSome] else r.getD z, h)
  | none => none
  else none
 | .mset ag ks m k v => if (eP ag ks (k.v e) (k.v e)).isSome = true then match m.v e with
  | .map o => match h[o]? with
   | some (.map kt et es) => (fw ag ks (k.v e) (v.v e) es).map fun es' => (.undef, h.set o (.map kt et es'))
   | _ => none
  | _ => none
  else none
 | .mlen m => match m.v e with
  | .nilm => some (.int .i64 0, h)
  | .map o => match h[o]? with
   | some (.map _ _ es) => some (.int .i64 es.length, h)
   | _ => none
  | _ => none
 | .call _ _ => none
def af (d : DV) (h : Zb) : DV × Zb :=
 match d with
 | .fresh e sz xs => (.row h.length 0 0 xs.length false, h ++ [.row e sz 0 xs])
 | d => (d, h)
abbrev cg := Nat → List DV → Zb → Option (DV × Zb)
def wanted (g : Option (Nat × Bool)) (e : Env) : Option Bool :=
 match g with
 | none => some true
 | some (s, b) => match lk e s with
  | .bool t => some (t == b)
  | .tup _ => some false
  | _ => none
def Zv : XOp → Option (Od × List Od)
 | .call f args => some (f, args)
 | _ => none
def ZR (call : cg) (op : XOp) (e : Env) (h : Zb) : Option (DV × Zb) :=
 match Zv op with
 | some (f, args) => match f.v e with
  | .func k a b => (call k (a ++ args.map (Od.v e) ++ b) h).map fun r => af r.1 r.2
  | _ => none
 | none => Yj op e h
def XOp.main : XOp → Option Od
 | .load _ _ x | .loadb _ _ x | .tostr x | .iaddr _ x _ | .slc _ x _ _ _ | .len _ x | .mlen x | .mget _ _ _ _ x _ => some x
 | _ => none
def DV.flat2 : DV → Bool
 | .elem (.list _ _ _) _ _ _ => true
 | .elem _ _ _ _ | .row _ _ _ _ _ | .ref _ _ | .map _ => false
 | _ => true
def XOp.frd (op : XOp) (e : Env) : Bool := match op.main with
 | some o => (o.v e).flat2
 | none => true
def cV (call : cg) (o : ah) (e : Env) (h : Zb) : Option (DV × Zb) :=
 match wanted o.guard e with
 | none => none
 | some false => some (.tup [], h)
 | some true => match ZR call o.op e h with
  | some (d, h') => if o.gr = true ∧ (h'.take h.length ≠ h ∨ o.op.frd e = false) then none else some (d, h')
  | none => none
def ZF (call : cg) : List ah → Env → Zb → Option (Env × Zb)
 | [], e, h => some (e, h)
 | o :: l, e, h => match cV call o e h with
  | some (d, h') => ZF call l (put o.dst d e) h'
  | none => none
inductive XC where
 | skip
 | reg (ops : List ah) (keep : List Nat)
 | seq (a b : XC)
 | cond (c : Od) (a b : XC)
 | block (id : Nat) (c : XC)
 | loop (c : XC)
 | exit (id : Nat)
 | ret
inductive Ex where
 | norm
 | exit (id : Nat)
 | ret
def Za (ks : List Nat) (e : Env) : Env := ks.map fun s => (s, lk e s)
def aL (call : cg) : Nat → XC → Env → Zb → Option (Ex × Env × Zb)
 | _, .skip, e, h => some (.norm, e, h)
 | _, .reg ops keep, e, h => match ZF call ops e h with
  | some (e', h') => some (.norm, Za keep e', h')
  | none => none
 | n, .seq a b, e, h => match aL call n a e h with
  | some (.norm, e', h') => aL call n b e' h'
  | r => r
 | n, .cond c a b, e, h => match c.v e with
  | .bool true => aL call n a e h
  | .bool false => aL call n b e h
  | _ => none
 | n, .block id c, e, h => match aL call n c e h with
  | some (.exit id', e', h') => if id' = id then some (.norm, e', h') else some (.exit id', e', h')
  | r => r
 | 0, .loop _, _, _ => none
 | n + 1, .loop c, e, h => match aL call (n + 1) c e h with
  | some (.norm, e', h') => aL call n (.loop c) e' h'
  | r => r
 | _, .exit id, e, h => some (.exit id, e, h)
 | _, .ret, e, h => some (.ret, e, h)
termination_by n c => (n, c)
inductive XRes where
 | t (s : Nat)
 | cell (s : Nat) (ag : Bool) (sz : Nat)
structure XF where
 np : Nat
 body : XC
 res : List XRes
inductive XK where
 | fn (x : XF)
 | fnl (x : XF)
 | ext (g : List DV → Zb → Option (DV × Zb))
def Ze : List DV → Nat → Env
 | [], _ => []
 | d :: l, i => (i, d) :: Ze l (i + 1)
def Yc : List XRes → Env → Zb → Option (List DV)
 | [], _, _ => some []
 | .t s :: l, e, h => (Yc l e h).map fun r => lk e s :: r
 | .cell s ag sz :: l, e, h => match ay h ag sz (lk e s) with
  | some d => (Yc l e h).map fun r => d :: r
  | none => none
def aV (n : Nat) (h : Zb) (top : Bool) : DV → Option (DV × Zb)
 | .row o g lo m c => if o < n then some (.row o g lo m c, h) else match h[o]? with
  | some (.row e sz g' xs) => if g' = g ∧ lo + m ≤ xs.length ∧ ∀ x ∈ xs, Nr x then
   if top = true ∧ lo = 0 ∧ m = xs.length ∧ c = false then some (.fresh e sz xs, h)
   else if top = true ∧ lo = 0 ∧ m = 0 ∧ c = false then some (.fresh e sz [], h)
   else some (.list sz ((xs.drop lo).take m) c, h.set o (.frz e sz g xs))
   else none
  | some (.frz _ sz g' xs) => if g' = g ∧ lo + m ≤ xs.length ∧ ∀ x ∈ xs, Nr x then some (.list sz ((xs.drop lo).take m) c, h) else none
  | _ => none
 | .ref o p => if o < n then some (.ref o p, h) else none
 | .map o => if o < n then some (.map o, h) else none
 | .bool b => some (.bool b, h)
 | .int k i => some (.int k i, h)
 | .str s => some (.str s, h)
 | .nilp => some (.nilp, h)
 | .nils => some (.nils, h)
 | .nilm => some (.nilm, h)
 | .nilf => some (.nilf, h)
 | .nili => some (.nili, h)
 | .list sz xs c => some (.list sz xs c, h)
 | .ifc t (.int k i) => some (.ifc t (.int k i), h)
 | .func f [] [] => some (.func f [] [], h)
 | _ => none
def cL (n : Nat) : List DV → Zb → Option (List DV × Zb)
 | [], h => some ([], h)
 | d :: l, h => match aV n h false d with
  | some (d', h') => match cL n l h' with
   | some (l', h'') => some (d' :: l', h'')
   | none => none
  | none => none
def aO (n : Nat) (h : Zb) (top : Bool) : DV → Option (DV × Zb)
 | .agg cs => match cL n cs h with
  | some (cs', h') => some (.agg cs', h')
  | none => none
 | d => aV n h top d
def bH (n : Nat) : List DV → Zb → Option (List DV × Zb)
 | [], h => some ([], h)
 | d :: l, h => match aO n h false d with
  | some (d', h') => match bH n l h' with
   | some (l', h'') => some (d' :: l', h'')
   | none => none
  | none => none
def fin (h h' : Zb) : List DV → DV × Zb
 | [d] => if h'.take h.length = h then (match aO h.length h' true d with | some (d', _) => (d', h) | none => (d, h')) else (d, h')
 | vs => if h'.take h.length = h then (match bH h.length vs h' with | some (vs', _) => (.tup vs', h) | none => (.tup vs, h')) else (.tup vs, h')
def iJ (h' : Zb) : List DV → DV × Zb
 | [d] => (d, h')
 | vs => (.tup vs, h')
def d9 (X : Nat → Option XK) : Nat → cg
 | 0, _, _, _ => none
 | n + 1, f, args, h => match X f with
  | none => none
  | some (.ext g) => g args h
  | some (.fn x) => if args.length = x.np then
   match aL (d9 X n) n x.body (Ze args 0) h with
   | some (.norm, e, h') => (Yc x.res e h').map (fin h h')
   | some (.ret, e, h') => (Yc x.res e h').map (fin h h')
   | _ => none
   else none
  | some (.fnl x) => if args.length = x.np then
   match aL (d9 X n) n x.body (Ze args 0) h with
   | some (.norm, e, h') => (Yc x.res e h').map (iJ h')
   | some (.ret, e, h') => (Yc x.res e h').map (iJ h')
   | _ => none
   else none
def Yu {α : Type} (f : Nat → Option α) : Option α := if h : ∃ r n, f n = some r then some (Classical.choose h) else none
def Nq {α : Type} (f : Nat → Option α) : Prop := ∀ n m r, n ≤ m → f n = some r → f m = some r
theorem xf {α : Type} {f : Nat → Option α} (hf : Nq f) (r : α) : Yu f = some r ↔ ∃ n, f n = some r := by
 unfold Yu
 constructor
 ·intro h
  split at h
  ·rename_i hx
   obtain ⟨n, hn⟩ := Classical.choose_spec hx
   injection h with h
   exact ⟨n, by rw [hn, h]⟩
  ·cases h
 ·rintro ⟨n, hn⟩
  have hx : ∃ r n, f n = some r := ⟨r, n, hn⟩
  rw [dif_pos hx]
  obtain ⟨m, hm⟩ := Classical.choose_spec hx
  have h1 := hf _ _ _ (Nat.le_max_left n m) hn
  have h2 := hf _ _ _ (Nat.le_max_right n m) hm
  rw [h1] at h2
  injection h2 with h2
  rw [← h2]
def o6 (c c' : cg) : Prop := ∀ f a h r, c f a h = some r → c' f a h = some r
theorem Bw {c c' : cg} (hc : o6 c c') {op e h r} (hr : ZR c op e h = some r) : ZR c' op e h = some r := by
 unfold ZR at hr ⊢
 split
 ·rename_i f args hi
  rw [hi] at hr
  simp only at hr
  split at hr
  ·rename_i k a b hf
   rw [Option.map_eq_some_iff] at hr
   obtain ⟨q, hq, rfl⟩ := hr
   rw [hc _ _ _ _ hq]
   rfl
  ·cases hr
 ·rename_i hi
  rw [hi] at hr
  exact hr
theorem tQ {c c' : cg} (hc : o6 c c') {o e h r} (hr : cV c o e h = some r) : cV c' o e h = some r := by
 unfold cV at hr ⊢
 split
 ·rename_i hw; rw [hw] at hr; cases hr
 ·rename_i hw; rw [hw] at hr; exact hr
 ·rename_i hw
  rw [hw] at hr
  simp only at hr
  cases ht : ZR c o.op e h with
  | none => rw [ht] at hr; cases hr
  | some q => rw [ht] at hr; rw [Bw hc ht]; exact hr
theorem jT {c c' : cg} (hc : o6 c c') : ∀ l e h r, ZF c l e h = some r → ZF c' l e h = some r
 | [], _, _, _, hr => hr
 | o :: l, e, h, r, hr => by
  unfold ZF at hr ⊢
  cases ho : cV c o e h with
  | none => rw [ho] at hr; cases hr
  | some q => rw [ho] at hr; rw [tQ hc ho]; exact jT hc l _ _ _ hr
theorem dK {c c' : cg} (hc : o6 c c') : ∀ (n : Nat) (x : XC) (m : Nat) e h r, n ≤ m → aL c n x e h = some r → aL c' m x e h = some r := by
 intro n
 induction n using Nat.strongRecOn with
 | _ n HP =>
 intro x
 induction x with
 | skip => intro m e h r _ hr; simpa [aL] using hr
 | exit id => intro m e h r _ hr; simpa [aL] using hr
 | ret => intro m e h r _ hr; simpa [aL] using hr
 | reg ops keep =>
  intro m e h r _ hr
  simp only [aL] at hr ⊢
  split at hr
  ·rename_i h1
   rw [jT hc _ _ _ _ h1]
   exact hr
  ·cases hr
 | seq a b u7 HQ =>
  intro m e h r hm hr
  simp only [aL] at hr ⊢
  cases ha : aL c n a e h with
  | none => rw [ha] at hr; cases hr
  | some p =>
   rw [ha] at hr
   rw [u7 m _ _ _ hm ha]
   obtain ⟨x, e', h'⟩ := p
   cases x with
   | norm => exact HQ m _ _ _ hm hr
   | exit id => exact hr
   | ret => exact hr
 | cond cc a b u7 HQ =>
  intro m e h r hm hr
  simp only [aL] at hr ⊢
  split at hr
  ·exact u7 m _ _ _ hm hr
  ·exact HQ m _ _ _ hm hr
  ·cases hr
 | block id a u7 =>
  intro m e h r hm hr
  simp only [aL] at hr ⊢
  cases ha : aL c n a e h with
  | none => rw [ha] at hr; cases hr
  | some p => rw [ha] at hr; rw [u7 m _ _ _ hm ha]; exact hr
 | loop a u7 =>
  intro m e h r hm hr
  cases n with
  | zero => simp [aL] at hr
  | succ n =>
   obtain ⟨m, rfl⟩ : ∃ k, m = k + 1 := ⟨m - 1, by omega⟩
   simp only [aL] at hr ⊢
   cases ha : aL c (n + 1) a e h with
   | none => rw [ha] at hr; cases hr
   | some p =>
    rw [ha] at hr
    rw [u7 (m + 1) _ _ _ hm ha]
    obtain ⟨x, e', h'⟩ := p
    cases x with
    | norm => exact HP n (by omega) (.loop a) m _ _ _ (by omega) hr
    | exit id => exact hr
    | ret => exact hr
theorem fU (X : Nat → Option XK) : ∀ n m, n ≤ m → o6 (d9 X n) (d9 X m) := by
 intro n
 induction n with
 | zero => intro m _ f a h r hr; simp [d9] at hr
 | succ n ih =>
  intro m hm f a h r hr
  obtain ⟨m, rfl⟩ : ∃ k, m = k + 1 := ⟨m - 1, by omega⟩
  simp only [d9] at hr ⊢
  split at hr
  ·cases hr
  ·exact hr
  ·split at hr
   ·rename_i hl
    rw [if_pos hl]
    split at hr
    ·rename_i h1; rw [dK (ih m (by omega)) n _ m _ _ _ (by omega) h1]; exact hr
    ·rename_i h1; rw [dK (ih m (by omega)) n _ m _ _ _ (by omega) h1]; exact hr
    ·cases hr
   ·cases hr
  ·split at hr
   ·rename_i hl
    rw [if_pos hl]
    split at hr
    ·rename_i h1; rw [dK (ih m (by omega)) n _ m _ _ _ (by omega) h1]; exact hr
    ·rename_i h1; rw [dK (ih m (by omega)) n _ m _ _ _ (by omega) h1]; exact hr
    ·cases hr
   ·cases hr
def E (X : Nat → Option XK) : cg := fun f a h => Yu fun n => d9 X n f a h
def C (X : Nat → Option XK) (c : XC) (e : Env) (h : Zb) : Option (Ex × Env × Zb) := Yu fun n => aL (d9 X n) n c e h
theorem pB (X : Nat → Option XK) (f a h r) : E X f a h = some r ↔ ∃ n, d9 X n f a h = some r := xf (fun n m r hn h1 => fU X n m hn _ _ _ _ h1) r
theorem cw (X : Nat → Option XK) (c e h r) : C X c e h = some r ↔ ∃ n, aL (d9 X n) n c e h = some r := xf (fun n m r hn h1 => dK (fU X n m hn) n c m e h r hn h1) r
theorem Dq (X : Nat → Option XK) {op e h r} (hr : ZR (E X) op e h = some r) : ∃ n, ZR (d9 X n) op e h = some r := by
 unfold ZR at hr
 split at hr
 ·rename_i f args hi
  split at hr
  ·rename_i k a b hf
   rw [Option.map_eq_some_iff] at hr
   obtain ⟨q, hq, rfl⟩ := hr
   obtain ⟨n, hn⟩ := (pB _ _ _ _ _).1 hq
   exact ⟨n, by unfold ZR; rw [hi]; simp only; rw [hf]; simp only; rw [hn]; rfl⟩
  ·cases hr
 ·rename_i hi
  exact ⟨0, by unfold ZR; rw [hi]; exact hr⟩
theorem Dr (X : Nat → Option XK) {o e h r} (hr : cV (E X) o e h = some r) : ∃ n, cV (d9 X n) o e h = some r := by
 unfold cV at hr
 split at hr
 ·cases hr
 ·rename_i hw; exact ⟨0, by unfold cV; rw [hw]; exact hr⟩
 ·rename_i hw
  cases ht : ZR (E X) o.op e h with
  | none => rw [ht] at hr; cases hr
  | some q =>
   rw [ht] at hr
   obtain ⟨n, hn⟩ := Dq X ht
   exact ⟨n, by unfold cV; rw [hw]; simp only; rw [hn]; exact hr⟩
theorem tP (X : Nat → Option XK) : ∀ l e h r, ZF (E X) l e h = some r ↔ ∃ n, ZF (d9 X n) l e h = some r := by
 intro l e h r
 constructor
 ·intro hr
  induction l generalizing e h with
  | nil => exact ⟨0, hr⟩
  | cons o l ih =>
   unfold ZF at hr
   cases ho : cV (E X) o e h with
   | none => rw [ho] at hr; cases hr
   | some q =>
    rw [ho] at hr
    obtain ⟨n, hn⟩ := ih _ _ hr
    obtain ⟨m, hm⟩ := Dr X ho
    refine ⟨max n m, ?_⟩
    unfold ZF
    rw [tQ (fU X m _ (Nat.le_max_right n m)) hm]
    exact jT (fU X n _ (Nat.le_max_left n m)) _ _ _ _ hn
 ·rintro ⟨n, hn⟩
  exact jT (fun f a h r hr => (pB _ _ _ _ _).2 ⟨n, hr⟩) _ _ _ _ hn
theorem iw {α : Type} {a b : Option α} (h : ∀ r, a = some r ↔ b = some r) : a = b := by
 cases a with
 | none => cases b with
  | none => rfl
  | some r => exact absurd ((h r).2 rfl) (by simp)
 | some r => exact ((h r).1 rfl).symm
section
variable (X : Nat → Option XK) (e : Env) (h : Zb)
theorem Yf : C X .skip e h = some (.norm, e, h) := (cw _ _ _ _ _).2 ⟨0, by simp [aL]⟩
theorem Yg (id) : C X (.exit id) e h = some (.exit id, e, h) := (cw _ _ _ _ _).2 ⟨0, by simp [aL]⟩
theorem Yl : C X .ret e h = some (.ret, e, h) := (cw _ _ _ _ _).2 ⟨0, by simp [aL]⟩
theorem K8 (ops keep) : C X (.reg ops keep) e h = match ZF (E X) ops e h with | some (e', h') => some (.norm, Za keep e', h') | none => none := by
 refine iw fun r => ?_
 rw [cw]
 constructor
 ·rintro ⟨n, hn⟩
  simp only [aL] at hn
  split at hn
  ·rename_i h1
   rw [(tP X _ _ _ _).2 ⟨n, h1⟩]
   exact hn
  ·cases hn
 ·intro hr
  split at hr
  ·rename_i h1
   obtain ⟨n, hn⟩ := (tP X _ _ _ _).1 h1
   exact ⟨n, by simp only [aL, hn]; exact hr⟩
  ·cases hr
theorem gx (a b) : C X (.seq a b) e h = match C X a e h with | some (.norm, e', h') => C X b e' h' | r => r := by
 refine iw fun r => ?_
 rw [cw]
 constructor
 ·rintro ⟨n, hn⟩
  simp only [aL] at hn
  cases ha : aL (d9 X n) n a e h with
  | none => rw [ha] at hn; cases hn
  | some p =>
   rw [ha] at hn
   rw [(cw X a e h p).2 ⟨n, ha⟩]
   obtain ⟨x, e', h'⟩ := p
   cases x with
   | norm => exact (cw _ _ _ _ _).2 ⟨n, hn⟩
   | exit id => exact hn
   | ret => exact hn
 ·intro hr
  cases ha : C X a e h with
  | none => rw [ha] at hr; cases hr
  | some p =>
   rw [ha] at hr
   obtain ⟨n, hn⟩ := (cw _ _ _ _ _).1 ha
   obtain ⟨x, e', h'⟩ := p
   cases x with
   | norm =>
    obtain ⟨m, hm⟩ := (cw _ _ _ _ _).1 hr
    refine ⟨max n m, ?_⟩
    simp only [aL]
    rw [dK (fU X n _ (Nat.le_max_left n m)) n _ _ _ _ _ (Nat.le_max_left n m) hn]
    exact dK (fU X m _ (Nat.le_max_right n m)) m _ _ _ _ _ (Nat.le_max_right n m) hm
   | exit id => exact ⟨n, by simp only [aL, hn]; exact hr⟩
   | ret => exact ⟨n, by simp only [aL, hn]; exact hr⟩
theorem wD (c a b) : C X (.cond c a b) e h = match c.v e with | .bool true => C X a e h | .bool false => C X b e h | _ => none := by
 refine iw fun r => ?_
 rw [cw]
 simp only [aL]
 split
 ·rw [cw]
 ·rw [cw]
 ·simp
theorem xZ (id c) : C X (.block id c) e h = match C X c e h with | some (.exit id', e', h') => if id' = id then some (.norm, e', h') else some (.exit id', e', h') | r => r := by
 refine iw fun r => ?_
 rw [cw]
 constructor
 ·rintro ⟨n, hn⟩
  simp only [aL] at hn
  cases ha : aL (d9 X n) n c e h with
  | none => rw [ha] at hn; cases hn
  | some p => rw [ha] at hn; rw [(cw X c e h p).2 ⟨n, ha⟩]; exact hn
 ·intro hr
  cases ha : C X c e h with
  | none => rw [ha] at hr; cases hr
  | some p =>
   rw [ha] at hr
   obtain ⟨n, hn⟩ := (cw _ _ _ _ _).1 ha
   exact ⟨n, by simp only [aL, hn]; exact hr⟩
theorem J1 (c) : C X (.loop c) e h = match C X c e h with | some (.norm, e', h') => C X (.loop c) e' h' | r => r := by
 refine iw fun r => ?_
 rw [cw]
 constructor
 ·rintro ⟨n, hn⟩
  cases n with
  | zero => simp [aL] at hn
  | succ n =>
   simp only [aL] at hn
   cases ha : aL (d9 X (n + 1)) (n + 1) c e h with
   | none => rw [ha] at hn; cases hn
   | some p =>
    rw [ha] at hn
    rw [(cw X c e h p).2 ⟨n + 1, ha⟩]
    obtain ⟨x, e', h'⟩ := p
    cases x with
    | norm => exact (cw _ _ _ _ _).2 ⟨n + 1, dK (fU X (n + 1) (n + 1) (Nat.le_refl _)) n _ (n + 1) _ _ _ (by omega) hn⟩
    | exit id => exact hn
    | ret => exact hn
 ·intro hr
  cases ha : C X c e h with
  | none => rw [ha] at hr; cases hr
  | some p =>
   rw [ha] at hr
   obtain ⟨n, hn⟩ := (cw _ _ _ _ _).1 ha
   obtain ⟨x, e', h'⟩ := p
   cases x with
   | norm =>
    obtain ⟨m, hm⟩ := (cw _ _ _ _ _).1 hr
    refine ⟨max n m + 1, ?_⟩
    simp only [aL]
    rw [dK (fU X n _ (by omega)) n _ _ _ _ _ (by omega) hn]
    exact dK (fU X m _ (by omega)) m _ _ _ _ _ (by omega) hm
   | exit id => exact ⟨n + 1, by simp only [aL]; rw [dK (fU X n _ (by omega)) n _ (n + 1) _ _ _ (by omega) hn]; exact hr⟩
   | ret => exact ⟨n + 1, by simp only [aL]; rw [dK (fU X n _ (by omega)) n _ (n + 1) _ _ _ (by omega) hn]; exact hr⟩
theorem Ns {f : Nat} {x : XF} (hx : X f = some (.fn x)) (args : List DV) : E X f args h = if args.length = x.np then
 match C X x.body (Ze args 0) h with
  | some (.norm, e, h') => (Yc x.res e h').map (fin h h')
  | some (.ret, e, h') => (Yc x.res e h').map (fin h h')
  | _ => none
 else none := by
 refine iw fun r => ?_
 rw [pB]
 constructor
 ·rintro ⟨n, hn⟩
  cases n with
  | zero => simp [d9] at hn
  | succ n =>
   simp only [d9, hx] at hn
   split at hn
   ·rename_i hl
    rw [if_pos hl]
    split at hn
    ·rename_i h1; rw [(cw _ _ _ _ _).2 ⟨n, h1⟩]; exact hn
    ·rename_i h1; rw [(cw _ _ _ _ _).2 ⟨n, h1⟩]; exact hn
    ·cases hn
   ·cases hn
 ·intro hr
  split at hr
  ·rename_i hl
   cases hc : C X x.body (Ze args 0) h with
   | none => rw [hc] at hr; cases hr
   | some p =>
    rw [hc] at hr
    obtain ⟨n, hn⟩ := (cw _ _ _ _ _).1 hc
    exact ⟨n + 1, by simp only [d9, hx, if_pos hl, hn]; exact hr⟩
  ·cases hr
theorem K6 {f : Nat} {x : XF} (hx : X f = some (.fnl x)) (args : List DV) : E X f args h = if args.length = x.np then
 match C X x.body (Ze args 0) h with
  | some (.norm, e, h') => (Yc x.res e h').map (iJ h')
  | some (.ret, e, h') => (Yc x.res e h').map (iJ h')
  | _ => none
 else none := by
 refine iw fun r => ?_
 rw [pB]
 constructor
 ·rintro ⟨n, hn⟩
  cases n with
  | zero => simp [d9] at hn
  | succ n =>
   simp only [d9, hx] at hn
   split at hn
   ·rename_i hl
    rw [if_pos hl]
    split at hn
    ·rename_i h1; rw [(cw _ _ _ _ _).2 ⟨n, h1⟩]; exact hn
    ·rename_i h1; rw [(cw _ _ _ _ _).2 ⟨n, h1⟩]; exact hn
    ·cases hn
   ·cases hn
 ·intro hr
  split at hr
  ·rename_i hl
   cases hc : C X x.body (Ze args 0) h with
   | none => rw [hc] at hr; cases hr
   | some p =>
    rw [hc] at hr
    obtain ⟨n, hn⟩ := (cw _ _ _ _ _).1 hc
    exact ⟨n + 1, by simp only [d9, hx, if_pos hl, hn]; exact hr⟩
  ·cases hr
theorem K7 {f : Nat} {g} (hx : X f = some (.ext g)) (args : List DV) : E X f args h = g args h := by
 refine iw fun r => ?_
 rw [pB]
 constructor
 ·rintro ⟨n, hn⟩
  cases n with
  | zero => simp [d9] at hn
  | succ n => simpa only [d9, hx] using hn
 ·intro hr
  exact ⟨1, by simpa only [d9, hx] using hr⟩
end
end
end Go.Proofs.YteekbciaggmfgaaDoor
namespace Go.Proofs.YteekbciaggmfgaaDoor
def jc : List Int := [0, 1, 56, 2, 57, 49, 28, 3, 61, 58, 42, 50, 38, 29, 17, 4, 62, 47, 59, 36, 45, 43, 51, 22, 53, 39, 33, 30, 24, 18, 12, 5, 63, 55, 48, 27, 60, 41, 37, 16, 46, 35, 44, 21, 52, 32, 23, 11, 54, 26, 40, 15, 34, 20, 31, 10, 25, 14, 19, 9, 13, 8, 7, 6]
def tabs : List (Nat × List DV) := [(0, jc.map (.int .u8))]
set_option linter.unusedVariables false
def wP : Value → Option DV
 | .bool b => some (.bool b)
 | .int k n => some (.int k n)
 | .string s => some (.str s)
 | .pointer none => some .nilp
 | .slice none 0 0 => some .nils
 | .map none => some .nilm
 | .nilFunc => some .nilf
 | .nilIface => some .nili
 | .func (.func f) ⟨[]⟩ ⟨[]⟩ => some (.func f [] [])
 | .iface t (.int k n) => some (.ifc t (.int k n))
 | _ => none
def qy : List Value → Option (List DV)
 | [] => some []
 | v :: l => match wP v with
  | some d => match qy l with
   | some ds => some (d :: ds)
   | none => none
  | none => none
def vd : Value → Option DV
 | .agg cs => match qy cs.toList with
  | some ds => some (.agg ds)
  | none => none
 | v => wP v
def cm : Operand → Option Od
 | .tmp t => some (.t t)
 | .const v => match vd v with
  | some d => some (.c d)
  | none => none
 | .func f => some (.c (.func f [] []))
 | .global _ => none
def Jf : Operand → Option Od
 | .global g => match tabs.find? fun p => p.1 == g with
  | some p => some (.c (.elem (.list p.2.length [.agg p.2] true) p.2.length 0 0))
  | none => none
 | x => cm x
def nE : List Operand → Option (List Od)
 | [] => some []
 | x :: l => match cm x with
  | some o => match nE l with
   | some os => some (o :: os)
   | none => none
  | none => none
def eF : Option Operand → Option (Option Od)
 | none => some none
 | some x => match cm x with
  | some o => some (some o)
  | none => none
def gR (P : Program) (t : TypeId) : Option Bool := match P.underlying t with
 | some (.struct _) => some true
 | some (.array _ _) => some true
 | some _ => some false
 | none => none
def bW (P : Program) (t : TypeId) : Option Nat := match P.info? t with
 | some i => some i.size
 | none => none
def fe (P : Program) (t : TypeId) : Option Value := match P.info? t with
 | some i => i.zero
 | none => none
def je (P : Program) : List Field → Nat → Option (List Nat)
 | [], _ => some []
 | f :: fs, n => if f.name ≠ "_" ∧ f.offset = n then
  match P.underlying f.type, je P fs (n + 1) with
  | some .bool, some ks => some (0 :: ks)
  | some (.int _), some ks => some (1 :: ks)
  | some .string, some ks => some (2 :: ks)
  | _, _ => none
  else none
def mR (P : Program) (t : TypeId) : Option (List Nat) := match P.underlying t with
 | some (.struct fs) => if P.stoodInHeld t = false ∧ P.eqGuardType P.depth t = false then je P fs.toList 0 else none
 | _ => none
def fQ : Operand → Bool | .const _ => true | _ => false
def placesOf (P : Program) : List Field → Option (List (Nat × Nat))
 | [] => some []
 | f :: fs => match bW P f.type, placesOf P fs with
  | some sz, some r => some ((f.offset, sz) :: r)
  | _, _ => none
def iK (pl : List (Nat × Nat)) : List (Nat × Operand) → Option (List (Nat × Nat × Od))
 | [] => some []
 | (i, x) :: l => match pl[i]? with
  | some q => match cm x, iK pl l with
   | some o, some r => some ((q.1, q.2, o) :: r)
   | _, _ => none
  | none => none
def j3 : List (Nat × Operand) → Nat → Option (List Operand)
 | [], _ => some []
 | (i, x) :: l, n => if i = n then (match j3 l (n + 1) with | some r => some (x :: r) | none => none) else none
def rT (P : Program) (t u : TypeId) (x y : Operand) : Option XOp := match P.underlying u, P.underlying t with
 | some (.int _), some (.slice e) => match P.info? e, cm x, cm y with
  | some i, some a, some b => match i.zero with
   | some z => match vd z with
    | some d => if z.cells.size = i.size ∧ 0 < i.size ∧ 0 < i.bytes then some (.appz e i.size i.bytes d a b) else none
    | none => none
   | none => none
  | _, _, _ => none
 | _, _ => none
def oS (P : Program) (c : Call) : Option XOp :=
 match c.callee, c.args.toList, c.argTypes.toList with
 | .value f, as, _ => match cm f, nE as with
  | some f, some as => some (.call f as)
  | _, _ => none
 | .builtin .len, [x], [t] => match P.underlying t, cm x with
  | some .string, some o => some (.lens o)
  | some (.slice e), some o => match bW P e with
   | some sz => some (.len sz o)
   | none => none
  | some (.map _ _), some o => some (.mlen o)
  | _, _ => none
 | .builtin .append, [x, y], [t, u] => match rT P t u x y with
  | some r => some r
  | none => match P.underlying t, (match P.underlying u with | some (.slice _) => true | some .string => true | _ => false) with
   | some (.slice e), true => match P.info? e, cm x, cm y with
    | some i, some a, some b => match i.zero with
     | some z => if z.cells.size = i.size ∧ 0 < i.size ∧ 0 < i.bytes then some (.app e i.size i.bytes a b) else none
     | none => none
    | _, _, _ => none
   | _, _ => none
 | .builtin .min, as, _ => match nE as with
  | some os => some (.mmx false os)
  | none => none
 | .builtin .max, as, _ => match nE as with
  | some os => some (.mmx true os)
  | none => none
 | .builtin .cap, [x], [t] => match P.underlying t, cm x with
  | some (.slice _), some o => some (.capn o)
  | _, _ => none
 | .builtin .clear, [x], [t] => match P.underlying t, cm x with
  | some (.slice e), some o => match fe P e with
   | some z => match vd z with
    | some d => some (.clr z.cells.size d o)
    | none => none
   | none => none
  | _, _ => none
 | _, _, _ => none
def iB (P : Program) (t : TypeId) : Option (Bool × List Nat) := match P.underlying t with
 | some .bool => some (false, [0])
 | some (.int _) => some (false, [1])
 | some .string => some (false, [2])
 | some (.struct _) => match mR P t with
  | some ks => some (true, ks)
  | none => none
 | _ => none
def aK (P : Program) (op : Op) : Option XOp :=
 match op with
 | .move x | .assign x => match cm x with
  | some o => some (.mov o)
  | none => none
 | .pick c a b => match cm c, cm a, cm b with
  | some c, some a, some b => some (.pick c a b)
  | _, _, _ => none
 | .alloc t => match fe P t with
  | some z => match qy z.cells.toList with
   | some cs => some (.alloc t cs)
   | none => none
  | none => none
 | .box t x => match cm x with
  | some o => some (.box t o)
  | none => none
 | .build t ps => match fe P t, P.underlying t with
  | some z, some (.struct fs) => match placesOf P fs.toList with
   | some pl => match qy z.cells.toList, iK pl ps.toList with
    | some cs, some l => some (.build cs l)
    | _, _ => none
   | none => none
  | _, _ => none
 | .buildSlice t n ps => match P.underlying t, j3 ps.toList 0 with
  | some (.slice e), some xs => match bW P e, fe P e, nE xs with
   | some sz, some z, some os => if n * sz ≤ 16777216 ∧ os.length = n ∧ 0 < sz ∧ z.cells.size = sz then some (.mkslice true e sz os) else none
   | _, _, _ => none
  | _, _ => none
 | .makeSlice t n m => match P.underlying t with
  | some (.slice e) => match P.info? e, cm n, cm m with
   | some i, some a, some b => match i.zero with
    | some z => match vd z with
     | some d => if z.cells.size = i.size ∧ 0 < i.size ∧ 0 < i.bytes then some (.make e i.size i.bytes d a b) else none
     | none => none
    | none => none
   | _, _, _ => none
  | _ => none
 | .load t a => match gR P t, bW P t, cm a with
  | some ag, some sz, some o => some (.load ag sz o)
  | _, _, _ => none
 | .store t a v => match bW P t, cm a, cm v with
  | some sz, some o, some x => some (.store sz o x)
  | _, _, _ => none
 | .nilCheck x => match cm x with
  | some o => some (.nilck o)
  | none => none
 | .binOp op t x y _ => match cm x, cm y with
  | some a, some b =>
   if op = .eql ∨ op = .neq then
    match P.underlying t with
    | some (.struct _) => match mR P t with
     | some ks => some (.eqa ks (op == .neq) a b)
     | none => none
    | some (.interface _) => if fQ x || fQ y then some (.Yt 5 (op == .neq) a b) else none
    | some .bool => some (.Yt 0 (op == .neq) a b)
    | some (.pointer _) => some (.Yt 1 (op == .neq) a b)
    | some (.slice _) => some (.Yt 2 (op == .neq) a b)
    | some (.map _ _) => some (.Yt 3 (op == .neq) a b)
    | some (.func _ _ _) => some (.Yt 4 (op == .neq) a b)
    | some (.int _) => some (.bin op a b)
    | some .string => some (.bin op a b)
    | _ => none
   else some (.bin op a b)
  | _, _ => none
 | .unOp op _ x => match cm x with
  | some o => some (.un op o)
  | none => none
 | .convert src dst x => match P.underlying src, P.underlying dst, cm x with
  | some (.int _), some (.int k), some o => some (.toint k o)
  | some (.slice e), some .string, some o => match P.underlying e with
   | some (.int .u8) => some (.tostr o)
   | _ => none
  | some .string, some (.slice e), some o => match P.underlying e with
   | some (.int .u8) => some (.tobytes o)
   | _ => none
  | _, _, _ => none
 | .makeInterface t x => match P.underlying t, cm x with
  | some (.interface _), _ => none
  | some _, some o => some (.mkif t o)
  | _, _ => none
 | .makeFunc (.func f) a b => match nE a.toList, nE b.toList with
  | some a, some b => some (.mkfn f a b)
  | _, _ => none
 | .slice t x lo hi mx => match P.underlying t, cm x, eF lo, eF hi, eF mx with
  | some .string, some o, some l, some m, some none => some (.slcs o l m)
  | some (.slice e), some o, some l, some m, some q => match bW P e with
   | some sz => if q.isNone || m.isSome then some (.slc sz o l m q) else none
   | none => none
  | _, _, _, _, _ => none
 | .fieldAddr s x f => match P.underlying s, cm x with
  | some (.struct fs), some o => match fs[f]? with
   | some fl => match bW P fl.type with
    | some sz => if sz = 0 then none else some (.faddr fl.offset o)
    | none => none
   | none => none
  | _, _ => none
 | .field s x f => match P.underlying s, cm x with
  | some (.struct fs), some o => match fs[f]? with
   | some fl => match gR P fl.type, bW P fl.type with
    | some ag, some sz => some (.fld ag fl.offset sz o)
    | _, _ => none
   | none => none
  | _, _ => none
 | .indexAddr t x i => match P.underlying t, Jf x, cm i with
  | some (.slice e), some o, some j => match bW P e with
   | some sz => some (.iaddr sz o j)
   | none => none
  | some (.array n e), some o, some j => match bW P e with
   | some sz => some (.iaddra n sz o j)
   | none => none
  | _, _, _ => none
 | .index t x i => match P.underlying t, cm x, cm i with
  | some .string, some o, some j => some (.idxs o j)
  | _, _, _ => none
 | .extract x i => match cm x with
  | some o => some (.ext o i)
  | none => none
 | .makeMap t r => match P.underlying t, eF r with
  | some (.map _ _), some r => some (.mkmap r)
  | _, _ => none
 | .lookup t m k ok => match P.underlying t, cm m, cm k with
  | some (.map kt et), some m, some k => match iB P kt, fe P et with
   | some q, some z => match vd z with
    | some z => some (.mget q.1 q.2 z ok m k)
    | none => none
   | _, _ => none
  | _, _, _ => none
 | .mapUpdate t m k v => match P.underlying t, cm m, cm k, cm v with
  | some (.map kt _), some m, some k, some v => match iB P kt with
   | some q => some (.mset q.1 q.2 m k v)
   | none => none
  | _, _, _, _ => none
 | .call c => oS P c
 | .panic _ => some (.ext (.c .undef) 0)
 | _ => none
def ej (ops : List Oper) : Option (Nat × Bool) → Option (Option (Nat × Bool))
 | none => some none
 | some (j, b) => match ops[j]? with
  | some o => match o.dst with
   | some s => some (some (s, b))
   | none => none
  | none => none
def BA (P : Program) (ops : List Oper) (o : Oper) : Option ah :=
 match aK P o.op, ej ops o.guard with
 | some x, some g => some ⟨o.dst, x, g, false⟩
 | _, _ => none
def mq (P : Program) (ops : List Oper) : List Oper → Option (List ah)
 | [] => some []
 | o :: l => match BA P ops o, mq P ops l with
  | some x, some xs => some (x :: xs)
  | _, _ => none
def XOp.kind : XOp → Nat
 | .mov _ | .pick _ _ _ | .tobytes _ | .build _ _ | .nilck _ | .bin _ _ _ | .eqa _ _ _ _ | .Yt _ _ _ _ | .un _ _ | .toint _ _ | .faddr _ _ | .fld _ _ _ _ | .iaddra _ _ _ _ | .idxs _ _ | .slcs _ _ _ | .mkfn _ _ _ | .mkif _ _ | .ext _ _ | .lens _ | .capn _ | .mklist _ _ | .mmx _ _ => 0
 | .load _ _ _ | .loadb _ _ _ | .tostr _ | .iaddr _ _ _ | .slc _ _ _ _ _ | .len _ _ | .mlen _ | .mget _ _ _ _ _ _ => 1
 | _ => 2
def fC : Od → List Nat
 | .t n => [n]
 | .c _ => []
def tq : Option Od → List Nat
 | some o => fC o
 | none => []
def XOp.sl : XOp → List Nat
 | .mov x | .box _ x | .load _ _ x | .loadb _ _ x | .nilck x | .un _ x | .toint _ x | .tostr x | .tobytes x | .faddr _ x | .fld _ _ _ x | .mkif _ x | .ext x _ | .lens x | .capn x | .clr _ _ x | .len _ x | .mlen x => fC x
 | .pick a b c => fC a ++ fC b ++ fC c
 | .alloc _ _ => []
 | .mkmap r => tq r
 | .build _ ps => ps.flatMap fun p => fC p.2.2
 | .mkslice _ _ _ ps | .mklist _ ps => ps.flatMap fC
 | .appz _ _ _ _ x y => fC x ++ fC y
 | .make _ _ _ _ x y | .store _ x y | .bin _ x y | .eqa _ _ x y | .Yt _ _ x y | .iaddr _ x y | .iaddra _ _ x y | .idxs x y | .app _ _ _ x y | .mget _ _ _ _ x y => fC x ++ fC y
 | .slcs x a b => fC x ++ tq a ++ tq b
 | .slc _ x a b c => fC x ++ tq a ++ tq b ++ tq c
 | .mkfn _ a b => a.flatMap fC ++ b.flatMap fC
 | .mmx _ xs => xs.flatMap fC
 | .mset _ _ x y z => fC x ++ fC y ++ fC z
 | .call f args => fC f ++ args.flatMap fC
def ah.looks (y : ah) : List Nat := y.op.sl ++ (match y.guard with | some (s, _) => [s] | none => [])
def DV.flat1 : DV → Bool
 | .row _ _ _ _ _ | .elem _ _ _ _ | .ref _ _ | .map _ => false
 | _ => true
def qQ (x : XOp) : Bool := match x.main with | some (.c d) => d.flat1 | _ => true
def dm (o : Oper) : List Nat := (o.after.toList.filter fun e => Go.Region.binds .any e).map (·.on)
def eZ : List (List Nat) → List Nat → List Nat
 | [], acc => acc
 | es :: l, acc => eZ l (acc ++ [es.foldl (fun m j => m ||| 2 ^ j ||| acc.getD j 0) 0])
def DV.zeroish : DV → Bool
 | .bool _ | .int _ _ | .str _ | .nilp | .nils | .nilm | .nilf | .nili => true
 | _ => false
def oC (x : ah) : Bool := (match x.op with | .alloc _ cs => cs.all DV.zeroish | _ => false) && x.guard.isNone && x.dst.isSome
def XOp.isLb : XOp → Bool
 | .loadb _ _ _ => true
 | _ => false
def XOp.isAp : XOp → Bool
 | .app _ _ _ _ _ => true
 | _ => false
def XOp.isSt : XOp → Bool
 | .store _ _ _ => true
 | _ => false
def HK (m : Nat) (xs : List ah) (B : List Nat) (i : Nat) (x : ah) : Bool :=
 (x.op.kind == 1 && xs.zipIdx.any fun (y, j) => y.op.isSt && (if i < j then !(B.getD j 0).testBit i else !(B.getD i 0).testBit j)) ||
 x.op.kind == 2 && ((!x.op.isSt && xs.zipIdx.any fun (y, j) => y.op.kind == 1 && !(x.op.isAp && y.op.isLb) && (if i < j then !(B.getD j 0).testBit i else !(B.getD i 0).testBit j)) || (decide (m ≤ i) && (List.range m).any fun k => !(B.getD i 0).testBit k))
def qA (m : Nat) (xs : List ah) (B : List Nat) : List ah := xs.zipIdx.map fun (x, i) => { x with gr := HK m xs B i x }
def gv (x y : ah) : Bool :=
 x.op.kind == 0 || y.op.kind == 0 || (x.op.kind == 1 && y.op.kind == 1) || (x.op.kind == 1 && y.gr) || (x.gr && y.op.kind == 1) || (x.op.kind == 1 && x.gr) || (y.op.kind == 1 && y.gr) || (x.op.isAp && y.op.isLb) || (x.op.isLb && y.op.isAp)
def jf (x y : ah) : Bool := match x.dst with | some s => y.dst != some s | none => true
def iL (x y : ah) : Bool := match x.dst with | some s => !y.looks.contains s | none => true
def nO (m : Nat) (B : List Nat) (i : Nat) (x : ah) (j : Nat) (y : ah) : Bool :=
 (B.getD j 0).testBit i || (if i < m then iL x y && (decide (j < m) || y.op.kind != 2 || y.gr) else iL x y && iL y x && gv x y)
def rowOk (m : Nat) (B : List Nat) (j : Nat) (y : ah) : List ah → Nat → Bool
 | x :: xs, i => if i < j then jf x y && nO m B i x j y && rowOk m B j y xs (i + 1) else true
 | [], _ => true
def ug (m : Nat) (xs : List ah) (B : List Nat) : List (List Nat) → List ah → Nat → Bool
 | es :: r, y :: ys, j => es.all (fun k => decide (k < j)) && qQ y.op && (if j < m then oC y && es.isEmpty else true) && rowOk m B j y xs 0 && ug m xs B r ys (j + 1)
 | _, _, _ => true
def rP (m : Nat) (Es : List (List Nat)) (xs : List ah) (B : List Nat) : Bool := ug m xs B Es xs 0
def early (xs : List ah) (B : List Nat) : List Nat := (List.range xs.length).filter fun i => match xs[i]? with
 | some x => oC x && (xs.zipIdx.any fun (y, j) => y.op.kind == 2 && j != i && (if i < j then !(B.getD j 0).testBit i else !(B.getD i 0).testBit j))
 | none => false
def Et (n : Nat) (E : List Nat) : List Nat := E ++ (List.range n).filter fun i => !E.contains i
def zY (O : List Nat) (n : Nat) : Bool :=
 decide (O.length = n) && (List.range n).all (fun i => decide (O.getD (O.idxOf i) n = i) && decide (O.idxOf i < n)) && (List.range n).all fun j => decide (O.getD j n < n) && decide (O.idxOf (O.getD j n) = j)
def Ae : ah := ⟨none, .mov (.c .undef), none, false⟩
def mY (es : List (List Nat)) (xs : List ah) (E : List Nat) : Option (List ah) :=
 match Et xs.length E with
 | O => match O.map (fun i => (es.getD i []).map fun k => O.idxOf k) with
  | es' => match qA E.length (O.map fun i => xs.getD i Ae) (eZ es' []) with
   | xs' => if zY O xs.length && es.all (fun l => l.all fun k => decide (k < xs.length)) && decide (es.length = xs.length) && decide (E.length ≤ xs.length) && rP E.length es' xs' (eZ es' []) then some xs' else none
def nu (x : ah) : ah := match x.op with
 | .mkslice true _ sz ps => { x with op := .mklist sz ps }
 | _ => x
def r8 (xs : List ah) (B : List Nat) (x : ah) (i : Nat) : ah := match x.op with
 | .load ag sz o => if xs.zipIdx.any fun (y, j) => y.op.isAp && (if i < j then !(B.getD j 0).testBit i else !(B.getD i 0).testBit j) then { x with op := .loadb ag sz o } else x
 | _ => x
def wU (xs : List ah) (B : List Nat) : List ah := xs.zipIdx.map fun (x, i) => r8 xs B x i
def E1 (es : List (List Nat)) (xs : List ah) : Option (List ah) :=
 if (wU xs (eZ es [])).any (fun x => x.op.isLb) then mY es (wU xs (eZ es [])) [] else none
def zg (es : List (List Nat)) (xs : List ah) : Option (List ah) :=
 match E1 es xs with
 | some r => some r
 | none => match mY es xs [] with
 | some r => some r
 | none => match mY es xs (early xs (eZ es [])) with
  | some r => some r
  | none => match mY es (xs.map nu) [] with
   | some r => some r
   | none => mY es (xs.map nu) (early (xs.map nu) (eZ es []))
abbrev Hints := Nat → List Nat
def gP (P : Program) (nt : Nat) (H : Hints) : Code → Option XC
 | .skip => some .skip
 | .region id ops draw => match mq P ops.toList ops.toList with
  | some xs => if (ops.toList.all fun o => match o.dst with | some d => decide (d < nt) | none => true) then
   if draw then (match zg (ops.toList.map dm) xs with | some xs' => some (.reg xs' (H id)) | none => none)
   else some (.reg xs (H id))
   else none
  | none => none
 | .seq a b => match gP P nt H a, gP P nt H b with
  | some x, some y => some (.seq x y)
  | _, _ => none
 | .cond c a b => match cm c, gP P nt H a, gP P nt H b with
  | some o, some x, some y => some (.cond o x y)
  | _, _, _ => none
 | .block id a => match gP P nt H a with
  | some x => some (.block id x)
  | none => none
 | .loop a => match gP P nt H a with
  | some x => some (.loop x)
  | none => none
 | .exit id => some (.exit id)
 | .scope a => gP P nt H a
 | .label _ => some .skip
 | .ret => some .ret
 | _ => none
def gu (P : Program) : List ResultVar → Option (List XRes)
 | [] => some []
 | .tmp t :: l => match gu P l with
  | some r => some (.t t :: r)
  | none => none
 | .cell a t :: l => match gR P t, bW P t, gu P l with
  | some ag, some sz, some r => some (.cell a ag sz :: r)
  | _, _, _ => none
def xO (P : Program) (H : Hints) (fn : Func) : Option XF :=
 match fn.body with
 | some c => match gP P fn.ntmps H c, gu P fn.results.toList with
  | some x, some r => if fn.params.size + fn.nfree ≤ fn.ntmps ∧ fn.name ≠ "runtime.NumGoroutine" then some ⟨fn.params.size + fn.nfree, x, r⟩ else none
  | _, _ => none
 | none => none
end Go.Proofs.YteekbciaggmfgaaDoor
namespace Go.Proofs.YteekbciaggmfgaaDoor
open Go.RowKit
set_option linter.unusedVariables false
set_option linter.unusedSimpArgs false
abbrev Bm := Nat → Option Nat
def dB (β : Bm) (h : Zb) (b : Nat) : Prop := ∀ o, β o = some b → ∃ e sz g xs, h[o]? = some (.frz e sz g xs)
def flat (xs : List DV) : List DV := xs.flatMap DV.cells
def eM (β : Bm) (w : World) (h : Zb) (a : Addr) (vs : List Value) : Prop := ∀ j v, vs[j]? = some v → dB β h a.block ∧ w.cell? (a.add j) = some v
mutual
inductive RV (β : Bm) (w : World) (h : Zb) : DV → Value → Prop where
 | bool (b) : RV β w h (.bool b) (.bool b)
 | int (k n) : RV β w h (.int k n) (.int k n)
 | str (s) : RV β w h (.str s) (.string s)
 | nilp : RV β w h .nilp (.pointer none)
 | ref {o p b t cs} (hb : β o = some b) (ho : h[o]? = some (.box t cs)) : RV β w h (.ref o p) (.pointer (some ⟨b, p, none⟩))
 | elem {d sz i p A n cap} (hd : RV β w h d (.slice (some A) n cap)) (hi : i < n) : RV β w h (.elem d sz i p) (.pointer (some (A.add (i * sz + p))))
 | nils : RV β w h .nils (.slice none 0 0)
 | list {sz xs c vs a n cap} (hn : n = xs.length) (hc : n ≤ cap) (cK : c = true → cap = n) (hnr : ∀ x ∈ xs, Nr x) (hw : ∀ x ∈ xs, Wc sz x) (hr : RVs β w h (flat xs) vs) (ha : eM β w h a vs) :
  RV β w h (.list sz xs c) (.slice (some a) n cap)
 | row {o g lo n c a cap b e sz g' xs} (hb : β o = some b) (hc : n ≤ cap) (cK : c = true → cap = n) (ho : h[o]? = some (.row e sz g' xs) ∨ h[o]? = some (.frz e sz g' xs)) (hg : g ≤ g')
  (hs : g = g' → lo + n ≤ xs.length ∧ (0 < n → a = ⟨b, lo * sz, none⟩) ∧ (lo = 0 → a = ⟨b, 0, none⟩ ∧ (c = false → h[o]? = some (.row e sz g' xs) → ∃ cur, w.heap[b]? = some (.cells cur e (0, 0)) ∧ cur.size = cap * sz))) :
  RV β w h (.row o g lo n c) (.slice (some a) n cap)
 | nilm : RV β w h .nilm (.map none)
 | map {o b kt et es} (hb : β o = some b) (ho : h[o]? = some (.map kt et es)) : RV β w h (.map o) (.map (some b))
 | nilf : RV β w h .nilf .nilFunc
 | func {f a b va vb} (ha : RVs β w h a va) (hb : RVs β w h b vb) : RV β w h (.func f a b) (.func (.func f) va.toArray vb.toArray)
 | nili : RV β w h .nili .nilIface
 | ifc {t d v} (hd : RV β w h d v) : RV β w h (.ifc t d) (.iface t v)
 | agg {cs vs} (hr : RVs β w h cs vs) : RV β w h (.agg cs) (.agg vs.toArray)
 | tup {cs vs} (hr : RVs β w h cs vs) : RV β w h (.tup cs) (.tuple vs.toArray)
 | undef (v) : RV β w h .undef v
inductive RVs (β : Bm) (w : World) (h : Zb) : List DV → List Value → Prop where
 | nil : RVs β w h [] []
 | cons {d v ds vs} (hd : RV β w h d v) (hs : RVs β w h ds vs) : RVs β w h (d :: ds) (v :: vs)
end
def dY (β : Bm) (w : World) (h : Zb) (b e sz : Nat) (xs : List DV) : Prop :=
 ∃ cur C, w.heap[b]? = some (.cells cur e (0, 0)) ∧ cur.size = C * sz ∧ xs.length ≤ C ∧ C ≤ maxLen ∧ 0 < sz ∧ (∀ x ∈ xs, Wc sz x) ∧ RVs β w h (flat xs) (cur.toList.take (xs.length * sz))
def OR (β : Bm) (w : World) (h : Zb) (b : Nat) : HO → Prop
 | .box t cs => ∃ vs : List Value, w.heap[b]? = some (.cells vs.toArray t (0, 0)) ∧ RVs β w h cs vs
 | .row e sz _ xs => dY β w h b e sz xs
 | .frz e sz _ xs => dY β w h b e sz xs
 | .map _ _ es => ∃ (ms : Array MapEntry) (jF : Nat), w.heap[b]? = some (.map ms jF) ∧ RVs β w h (es.map (·.1)) (ms.toList.map (·.key)) ∧ RVs β w h (es.map (·.2)) (ms.toList.map (·.val))
def kK (β : Bm) (w : World) (h : Zb) : Prop := ∀ p ∈ tabs, RV β w h (.list p.2.length [.agg p.2] true) (.slice (some ⟨p.1, 0, none⟩) 1 1) ∧ ∀ x ∈ p.2, Nr x
def ic (h : Zb) (o : Nat) : Prop := ∃ t cs, h[o]? = some (.box t cs) ∧ ∀ c ∈ cs, Nr c
structure Inv (β : Bm) (w : World) (h : Zb) : Prop where
 tab : kK β w h
 lt : ∀ o b, β o = some b → o < h.length ∧ b < w.heap.size
 inj : ∀ o o' b, β o = some b → β o' = some b → o = o'
 ob : ∀ o b x, β o = some b → h[o]? = some x → OR β w h b x
 tot : ∀ o, o < h.length → (∃ b, β o = some b) ∨ ic h o
def Later (w w' : World) (b : Nat) (β' : Bm) (o : Nat) (h' : Zb) : HO → Prop
 | .box t _ => β' o = some b ∧ ∃ cs, h'[o]? = some (.box t cs)
 | .frz e sz g xs => β' o = some b ∧ h'[o]? = some (.frz e sz g xs)
 | .map kt et _ => β' o = some b ∧ ∃ es, h'[o]? = some (.map kt et es)
 | .row e sz g xs => ∃ b' g' xs', β' o = some b' ∧ (h'[o]? = some (.row e sz g' xs') ∨ h'[o]? = some (.frz e sz g' xs')) ∧ g ≤ g' ∧
  (g = g' → b' = b ∧ xs'.length = xs.length ∧ ∀ cur, w.heap[b]? = some (.cells cur e (0, 0)) → ∃ dN, w'.heap[b]? = some (.cells dN e (0, 0)) ∧ dN.size = cur.size)
structure Ext0 (β : Bm) (w : World) (h : Zb) (β' : Bm) (w' : World) (h' : Zb) : Prop where
 os : w'.os = w.os
 tape : w'.tape = w.tape
 output : w'.output = w.output
 size : w.heap.size ≤ w'.heap.size
 len : h.length ≤ h'.length
 keep : ∀ b, b < w.heap.size → dB β h b → w'.heap[b]? = w.heap[b]?
 new : ∀ o b, β' o = some b → β o = some b ∨ w.heap.size ≤ b
 obj : ∀ o b x, β o = some b → h[o]? = some x → Later w w' b β' o h' x
structure aj (β : Bm) (w : World) (h : Zb) (β' : Bm) (w' : World) (h' : Zb) : Prop extends Ext0 β w h β' w' h' where
 old : ∀ o, o < h.length → β o = none → β' o = none
theorem jR (w : World) (b : Nat) (β : Bm) (o : Nat) (h : Zb) (x : HO) (hb : β o = some b) (hx : h[o]? = some x) : Later w w b β o h x := by
 cases x with
 | box t cs => exact ⟨hb, cs, hx⟩
 | row e sz g xs => exact ⟨b, g, xs, hb, .inl hx, Nat.le_refl _, fun _ => ⟨rfl, rfl, fun cur hc => ⟨cur, hc, rfl⟩⟩⟩
 | frz e sz g xs => exact ⟨hb, hx⟩
 | map kt et es => exact ⟨hb, es, hx⟩
theorem aj.refl (β : Bm) (w : World) (h : Zb) : aj β w h β w h :=
 ⟨⟨rfl, rfl, rfl, Nat.le_refl _, Nat.le_refl _, fun _ _ _ => rfl, fun _ _ hb => .inl hb, fun o b x hb hx => jR w b β o h x hb hx⟩, fun _ _ hn => hn⟩
section
variable {β β' β1 : Bm} {w w' w1 : World} {h h' h1 : Zb}
theorem dB.ext0 (he : Ext0 β w h β' w' h') {b : Nat} (hb : b < w.heap.size) (ha : dB β h b) : dB β' h' b := by
 intro o ho
 rcases he.new o b ho with h1 | h1
 ·obtain ⟨e, sz, g, xs, hx⟩ := ha o h1
  exact ⟨e, sz, g, xs, (he.obj o b _ h1 hx).2⟩
 ·omega
theorem u5 {b o : Nat} {x : HO} (h0 : Inv β w h) (he : Ext0 β w h β1 w1 h1) (he' : Ext0 β1 w1 h1 β' w' h') (hb : β o = some b) (hx : h[o]? = some x) : Later w w' b β' o h' x := by
 have l1 := he.obj o b x hb hx
 cases x with
 | box t cs =>
  obtain ⟨b1, Pu, x1⟩ := l1
  exact he'.obj o b _ b1 x1
 | frz e sz g xs =>
  obtain ⟨b1, x1⟩ := l1
  exact he'.obj o b _ b1 x1
 | map kt et es =>
  obtain ⟨b1, es1, x1⟩ := l1
  exact he'.obj o b _ b1 x1
 | row e sz g xs =>
  obtain ⟨b1, g1, K9, eR, iS, hg1, hs1⟩ := l1
  rcases iS with iS | iS
  ·obtain ⟨b2, g2, DY, gB, Az, hg2, hs2⟩ := he'.obj o b1 _ eR iS
   refine ⟨b2, g2, DY, gB, Az, by omega, fun hg => ?_⟩
   obtain ⟨e1, e2, e3⟩ := hs1 (by omega)
   obtain ⟨f1, f2, f3⟩ := hs2 (by omega)
   subst e1
   refine ⟨f1, f2.trans e2, fun cur hc => ?_⟩
   obtain ⟨c1, hc1, hl1⟩ := e3 cur hc
   obtain ⟨c2, hc2, lY⟩ := f3 c1 hc1
   exact ⟨c2, hc2, lY.trans hl1⟩
  ·obtain ⟨gB, Az⟩ := he'.obj o b1 _ eR iS
   refine ⟨b1, g1, K9, gB, .inr Az, hg1, fun hg => ?_⟩
   obtain ⟨e1, e2, e3⟩ := hs1 hg
   subst e1
   refine ⟨rfl, e2, fun cur hc => ?_⟩
   obtain ⟨c1, hc1, hl1⟩ := e3 cur hc
   have hlt : b1 < w1.heap.size := by have := (h0.lt o b1 hb).2; have := he.size; omega
   have Ou : dB β1 h1 b1 := by
    intro o' aF
    rcases he.new o' b1 aF with h2 | h2
    ·have := h0.inj o o' b1 hb h2; subst this; exact ⟨_, _, _, _, iS⟩
    ·have := (h0.lt o b1 hb).2; omega
   exact ⟨c1, (he'.keep b1 hlt Ou).trans hc1, hl1⟩
theorem Ext0.trans (h0 : Inv β w h) (he : Ext0 β w h β1 w1 h1) (he' : Ext0 β1 w1 h1 β' w' h') : Ext0 β w h β' w' h' where
 os := he'.os.trans he.os
 tape := he'.tape.trans he.tape
 output := he'.output.trans he.output
 size := Nat.le_trans he.size he'.size
 len := Nat.le_trans he.len he'.len
 keep b hb ha := (he'.keep b (Nat.lt_of_lt_of_le hb he.size) (ha.ext0 he hb)).trans (he.keep b hb ha)
 new o b ho := by
  rcases he'.new o b ho with h2 | h2
  ·exact he.new o b h2
  ·exact .inr (Nat.le_trans he.size h2)
 obj o b x hb hx := u5 h0 he he' hb hx
theorem aj.trans (h0 : Inv β w h) (he : aj β w h β1 w1 h1) (he' : aj β1 w1 h1 β' w' h') : aj β w h β' w' h' :=
 ⟨Ext0.trans h0 he.toExt0 he'.toExt0, fun o ho hn => he'.old o (Nat.lt_of_lt_of_le ho he.len) (he.old o ho hn)⟩
theorem dB.ext (he : aj β w h β' w' h') {b : Nat} (hb : b < w.heap.size) (ha : dB β h b) : dB β' h' b := ha.ext0 he.toExt0 hb
theorem add_block (a : Addr) (n : Nat) : (a.add n).block = a.block := by unfold Addr.add; split <;> rfl
theorem add_add' (a : Addr) (i j : Nat) : (a.add i).add j = a.add (i + j) := by
 unfold Addr.add
 by_cases hi : i = 0 <;> by_cases hj : j = 0 <;> simp [hi, hj, Nat.add_assoc]
theorem gU (b p n : Nat) : (⟨b, p, none⟩ : Addr).add n = ⟨b, p + n, none⟩ := by unfold Addr.add; split <;> simp_all
theorem eM.ext0 (he : Ext0 β w h β' w' h') {a : Addr} {vs : List Value} (hc : eM β w h a vs) : eM β' w' h' a vs := by
 intro j v hv
 obtain ⟨h1, h2⟩ := hc j v hv
 have hlt : a.block < w.heap.size := by have := World.block_lt_of_cell? w _ h2; rwa [add_block] at this
 refine ⟨h1.ext0 he hlt, ?_⟩
 rw [World.cell?_of_block (w := w) (by rw [add_block]; exact he.keep _ hlt h1)]
 exact h2
mutual
theorem RV.ext0 (he : Ext0 β w h β' w' h') : ∀ {d v}, RV β w h d v → RV β' w' h' d v
 | _, _, .bool b => .bool b
 | _, _, .int k n => .int k n
 | _, _, .str s => .str s
 | _, _, .nilp => .nilp
 | _, _, .ref hb ho => by
  obtain ⟨h1, cs, h2⟩ := he.obj _ _ _ hb ho
  exact .ref h1 h2
 | _, _, .elem hd hi => .elem (RV.ext0 he hd) hi
 | _, _, .nils => .nils
 | _, _, .list hn hc cK hnr hw hr ha => .list hn hc cK hnr hw (RVs.ext0 he hr) (ha.ext0 he)
 | _, _, .row (g := g) (lo := lo) (n := n) (c := c) (a := a) (cap := cap) (b := b) (e := e) (sz := sz) (g' := g') (xs := xs) hb hc cK ho hg hs => by
  rcases ho with ho | ho
  ·obtain ⟨b1, g1, K9, eR, iS, hg1, hs1⟩ := he.obj _ _ _ hb ho
   refine .row eR hc cK iS (Nat.le_trans hg hg1) (fun e1 => ?_)
   obtain ⟨f1, f2, f3⟩ := hs1 (by omega)
   obtain ⟨k1, k2, k3⟩ := hs (by omega)
   subst f1
   refine ⟨by omega, k2, fun hlo => ⟨(k3 hlo).1, fun ru _ => ?_⟩⟩
   obtain ⟨cur, qj, hsz⟩ := (k3 hlo).2 ru ho
   obtain ⟨dN, mP, ML⟩ := f3 cur qj
   exact ⟨dN, mP, ML.trans hsz⟩
  ·obtain ⟨eR, iS⟩ := he.obj _ _ _ hb ho
   refine .row eR hc cK (.inr iS) hg (fun e1 => ?_)
   obtain ⟨k1, k2, k3⟩ := hs e1
   refine ⟨k1, k2, fun hlo => ⟨(k3 hlo).1, fun ru hr => ?_⟩⟩
   rw [iS] at hr
   cases hr
 | _, _, .nilm => .nilm
 | _, _, .map hb ho => by
  obtain ⟨h1, es, h2⟩ := he.obj _ _ _ hb ho
  exact .map h1 h2
 | _, _, .nilf => .nilf
 | _, _, .func ha hb => .func (RVs.ext0 he ha) (RVs.ext0 he hb)
 | _, _, .nili => .nili
 | _, _, .ifc hd => .ifc (RV.ext0 he hd)
 | _, _, .agg hr => .agg (RVs.ext0 he hr)
 | _, _, .tup hr => .tup (RVs.ext0 he hr)
 | _, _, .undef v => .undef v
theorem RVs.ext0 (he : Ext0 β w h β' w' h') : ∀ {ds vs}, RVs β w h ds vs → RVs β' w' h' ds vs
 | _, _, .nil => .nil
 | _, _, .cons hd hs => .cons (RV.ext0 he hd) (RVs.ext0 he hs)
end
theorem eM.ext (he : aj β w h β' w' h') {a : Addr} {vs : List Value} (hc : eM β w h a vs) : eM β' w' h' a vs := hc.ext0 he.toExt0
theorem RV.ext (he : aj β w h β' w' h') {d : DV} {v : Value} (hr : RV β w h d v) : RV β' w' h' d v := RV.ext0 he.toExt0 hr
theorem RVs.ext (he : aj β w h β' w' h') {ds : List DV} {vs : List Value} (hr : RVs β w h ds vs) : RVs β' w' h' ds vs := RVs.ext0 he.toExt0 hr
end
end Go.Proofs.YteekbciaggmfgaaDoor
namespace Go.Proofs.YteekbciaggmfgaaDoor
open Go.RowKit
set_option linter.unusedVariables false
set_option linter.unusedSimpArgs false
def upd (β : Bm) (o b : Nat) : Bm := fun k => if k = o then some b else β k
theorem ZW (β : Bm) (o b : Nat) : upd β o b o = some b := by simp [upd]
theorem Yh (β : Bm) {o k : Nat} (b : Nat) (h : k ≠ o) : upd β o b k = β k := by simp [upd, h]
section
variable {β β' : Bm} {w w' : World} {h h' : Zb}
theorem dY.ext0 (he : Ext0 β w h β' w' h') {b e sz : Nat} {xs : List DV} (hb : w'.heap[b]? = w.heap[b]?) (hr : dY β w h b e sz xs) : dY β' w' h' b e sz xs := by
 obtain ⟨cur, C, h1, h2, h3, h4, h5, h6, h7⟩ := hr
 exact ⟨cur, C, hb.trans h1, h2, h3, h4, h5, h6, RVs.ext0 he h7⟩
theorem OR.ext0 (he : Ext0 β w h β' w' h') {b : Nat} {x : HO} (hb : w'.heap[b]? = w.heap[b]?) (hr : OR β w h b x) : OR β' w' h' b x := by
 cases x with
 | box t cs =>
  obtain ⟨vs, h1, h2⟩ := hr
  exact ⟨vs, hb.trans h1, RVs.ext0 he h2⟩
 | row e sz g xs => exact dY.ext0 he hb hr
 | frz e sz g xs => exact dY.ext0 he hb hr
 | map kt et es =>
  obtain ⟨ms, jF, h1, h2, h3⟩ := hr
  exact ⟨ms, jF, hb.trans h1, RVs.ext0 he h2, RVs.ext0 he h3⟩
theorem dY.ext (he : aj β w h β' w' h') {b e sz : Nat} {xs : List DV} (hb : w'.heap[b]? = w.heap[b]?) (hr : dY β w h b e sz xs) : dY β' w' h' b e sz xs := dY.ext0 he.toExt0 hb hr
theorem OR.ext (he : aj β w h β' w' h') {b : Nat} {x : HO} (hb : w'.heap[b]? = w.heap[b]?) (hr : OR β w h b x) : OR β' w' h' b x := OR.ext0 he.toExt0 hb hr
theorem ic.set {h : Zb} {o k : Nat} (hh : ic h o) (hk : o ≠ k) (x : HO) : ic (h.set k x) o := by
 obtain ⟨t, cs, h1, h2⟩ := hh
 exact ⟨t, cs, by rw [List.getElem?_set_ne (Ne.symm hk)]; exact h1, h2⟩
theorem ic.app {h : Zb} {o : Nat} (hh : ic h o) (l : Zb) : ic (h ++ l) o := by
 obtain ⟨t, cs, h1, h2⟩ := hh
 exact ⟨t, cs, by rw [List.getElem?_append_left (List.getElem?_eq_some_iff.1 h1).1]; exact h1, h2⟩
theorem wR {β : Bm} {h : Zb} (ht : ∀ o, o < h.length → (∃ b, β o = some b) ∨ ic h o) (k nb : Nat) (x : HO) : ∀ o, o < (h.set k x).length → (∃ b, upd β k nb o = some b) ∨ ic (h.set k x) o := by
 intro o ho
 by_cases hk : o = k
 ·subst hk; exact .inl ⟨nb, ZW _ _ _⟩
 ·rw [Yh _ _ hk]
  rcases ht o (by simpa using ho) with h1 | h1
  ·exact .inl h1
  ·exact .inr (h1.set hk x)
theorem wS {β : Bm} {h : Zb} (ht : ∀ o, o < h.length → (∃ b, β o = some b) ∨ ic h o) {k b : Nat} (hb : β k = some b) (x : HO) : ∀ o, o < (h.set k x).length → (∃ b, β o = some b) ∨ ic (h.set k x) o := by
 intro o ho
 by_cases hk : o = k
 ·subst hk; exact .inl ⟨b, hb⟩
 ·rcases ht o (by simpa using ho) with h1 | h1
  ·exact .inl h1
  ·exact .inr (h1.set hk x)
theorem mG {β : Bm} {h : Zb} (ht : ∀ o, o < h.length → (∃ b, β o = some b) ∨ ic h o) (nb : Nat) (x : HO) : ∀ o, o < (h ++ [x]).length → (∃ b, upd β h.length nb o = some b) ∨ ic (h ++ [x]) o := by
 intro o ho
 by_cases hk : o = h.length
 ·subst hk; exact .inl ⟨nb, ZW _ _ _⟩
 ·rw [Yh _ _ hk]
  rcases ht o (by simp at ho; omega) with h1 | h1
  ·exact .inl h1
  ·exact .inr (h1.app _)
theorem Inv.step0 (hI : Inv β w h) (he : Ext0 β w h β' w' h') (hlt : ∀ o b, β' o = some b → o < h'.length ∧ b < w'.heap.size)
 (hinj : ∀ o o' b, β' o = some b → β' o' = some b → o = o') (htot : ∀ o, o < h'.length → (∃ b, β' o = some b) ∨ ic h' o)
 (vg : ∀ o b x, β' o = some b → h'[o]? = some x → (β o = some b ∧ h[o]? = some x ∧ w'.heap[b]? = w.heap[b]?) ∨ OR β' w' h' b x) : Inv β' w' h' where
 tab := fun p hp => ⟨RV.ext0 he (hI.tab p hp).1, (hI.tab p hp).2⟩
 lt := hlt
 inj := hinj
 tot := htot
 ob o b x hb hx := by
  rcases vg o b x hb hx with ⟨h1, h2, h3⟩ | h1
  ·exact OR.ext0 he h3 (hI.ob o b x h1 h2)
  ·exact h1
theorem Inv.step (hI : Inv β w h) (he : aj β w h β' w' h') (hlt : ∀ o b, β' o = some b → o < h'.length ∧ b < w'.heap.size)
 (hinj : ∀ o o' b, β' o = some b → β' o' = some b → o = o') (htot : ∀ o, o < h'.length → (∃ b, β' o = some b) ∨ ic h' o)
 (vg : ∀ o b x, β' o = some b → h'[o]? = some x → (β o = some b ∧ h[o]? = some x ∧ w'.heap[b]? = w.heap[b]?) ∨ OR β' w' h' b x) : Inv β' w' h' := hI.step0 he.toExt0 hlt hinj htot vg
structure Same (w w' : World) : Prop where
 heap : w'.heap = w.heap
 os : w'.os = w.os
 tape : w'.tape = w.tape
 output : w'.output = w.output
theorem Same.refl (w : World) : Same w w := ⟨rfl, rfl, rfl, rfl⟩
theorem aj.same (hI : Inv β w h) (hs : Same w w') : aj β w h β w' h where
 os := hs.os
 tape := hs.tape
 output := hs.output
 size := by rw [hs.heap]; exact Nat.le_refl _
 len := Nat.le_refl _
 keep b _ _ := by rw [hs.heap]
 old _ _ hn := hn
 new o b hb := .inl hb
 obj o b x hb hx := by
  have := jR w b β o h x hb hx
  cases x with
  | row e sz g xs => exact ⟨b, g, xs, hb, .inl hx, Nat.le_refl _, fun _ => ⟨rfl, rfl, fun cur hc => ⟨cur, by rw [hs.heap]; exact hc, rfl⟩⟩⟩
  | box t cs => exact this
  | frz e sz g xs => exact this
  | map kt et es => exact this
theorem Inv.same (hI : Inv β w h) (hs : Same w w') : Inv β w' h :=
 hI.step (aj.same hI hs) (fun o b hb => ⟨(hI.lt o b hb).1, by rw [hs.heap]; exact (hI.lt o b hb).2⟩) hI.inj hI.tot (fun o b x hb hx => .inl ⟨hb, hx, by rw [hs.heap]⟩)
theorem alloc_old (w : World) (ob : Obj) {b : Nat} (hb : b < w.heap.size) : (w.alloc ob).heap[b]? = w.heap[b]? := Below.heap_alloc w ob b hb
theorem dO (w : World) (ob : Obj) : (w.alloc ob).heap[w.heap.size]? = some ob := heap_alloc_new w ob
theorem dr (w : World) (ob : Obj) : (w.alloc ob).heap.size = w.heap.size + 1 := by simp
theorem aj.alloc (hI : Inv β w h) (ob : Obj) (x : HO) : aj β w h (upd β h.length w.heap.size) (w.alloc ob) (h ++ [x]) where
 os := rfl
 tape := rfl
 output := rfl
 size := by rw [dr]; omega
 len := by simp
 keep b hb _ := alloc_old w ob hb
 old o ho hn := by rw [Yh _ _ (by omega : o ≠ h.length)]; exact hn
 new o b hb := by
  by_cases ho : o = h.length
  ·subst ho; rw [ZW] at hb; injection hb with hb; subst hb; exact .inr (Nat.le_refl _)
  ·rw [Yh _ _ ho] at hb; exact .inl hb
 obj o b y hb hy := by
  have hlt := hI.lt o b hb
  have ho : o ≠ h.length := by omega
  have hb' : upd β h.length w.heap.size o = some b := by rw [Yh _ _ ho]; exact hb
  have hy' : (h ++ [x])[o]? = some y := by rw [List.getElem?_append_left hlt.1]; exact hy
  cases y with
  | box t cs => exact ⟨hb', cs, hy'⟩
  | frz e sz g xs => exact ⟨hb', hy'⟩
  | map kt et es => exact ⟨hb', es, hy'⟩
  | row e sz g xs => exact ⟨b, g, xs, hb', .inl hy', Nat.le_refl _, fun _ => ⟨rfl, rfl, fun cur hc => ⟨cur, by rw [alloc_old _ _ hlt.2]; exact hc, rfl⟩⟩⟩
theorem Inv.alloc (hI : Inv β w h) (ob : Obj) (x : HO) (hx : OR (upd β h.length w.heap.size) (w.alloc ob) (h ++ [x]) w.heap.size x) : Inv (upd β h.length w.heap.size) (w.alloc ob) (h ++ [x]) := by
 refine hI.step (aj.alloc hI ob x) (fun o b hb => ?_) (fun o o' b hb hb' => ?_) (mG hI.tot _ _) (fun o b y hb hy => ?_)
 ·by_cases ho : o = h.length
  ·subst ho; rw [ZW] at hb; injection hb with hb; subst hb; simp
  ·rw [Yh _ _ ho] at hb
   have := hI.lt o b hb
   exact ⟨by simp; omega, by rw [dr]; omega⟩
 ·by_cases ho : o = h.length
  ·subst ho; rw [ZW] at hb; injection hb with hb; subst hb
   by_cases aF : o' = h.length
   ·exact aF.symm
   ·rw [Yh _ _ aF] at hb'
    have := hI.lt o' _ hb'
    omega
  ·rw [Yh _ _ ho] at hb
   by_cases aF : o' = h.length
   ·subst aF; rw [ZW] at hb'; injection hb' with hb'; subst hb'
    have := hI.lt o _ hb
    omega
   ·rw [Yh _ _ aF] at hb'
    exact hI.inj o o' b hb hb'
 ·by_cases ho : o = h.length
  ·subst ho; rw [ZW] at hb; injection hb with hb; subst hb
   have : y = x := by simpa using hy.symm
   subst this
   exact .inr hx
  ·rw [Yh _ _ ho] at hb
   have hlt := hI.lt o b hb
   rw [List.getElem?_append_left hlt.1] at hy
   exact .inl ⟨hb, hy, alloc_old w ob hlt.2⟩
theorem aj.alloc0 (hI : Inv β w h) (ob : Obj) : aj β w h β (w.alloc ob) h where
 os := rfl
 tape := rfl
 output := rfl
 size := by rw [dr]; omega
 len := Nat.le_refl _
 keep b hb _ := alloc_old w ob hb
 old _ _ hn := hn
 new o b hb := .inl hb
 obj o b y hb hy := by
  have hlt := hI.lt o b hb
  cases y with
  | box t cs => exact ⟨hb, cs, hy⟩
  | frz e sz g xs => exact ⟨hb, hy⟩
  | map kt et es => exact ⟨hb, es, hy⟩
  | row e sz g xs => exact ⟨b, g, xs, hb, .inl hy, Nat.le_refl _, fun _ => ⟨rfl, rfl, fun cur hc => ⟨cur, by rw [alloc_old _ _ hlt.2]; exact hc, rfl⟩⟩⟩
theorem Inv.alloc0 (hI : Inv β w h) (ob : Obj) : Inv β (w.alloc ob) h :=
 hI.step (aj.alloc0 hI ob) (fun o b hb => ⟨(hI.lt o b hb).1, by rw [dr]; have := (hI.lt o b hb).2; omega⟩) hI.inj hI.tot
  (fun o b x hb hx => .inl ⟨hb, hx, alloc_old w ob (hI.lt o b hb).2⟩)
structure OnlyAt (w w' : World) (b : Nat) : Prop where
 os : w'.os = w.os
 tape : w'.tape = w.tape
 output : w'.output = w.output
 size : w'.heap.size = w.heap.size
 block : ∀ k, k ≠ b → w'.heap[k]? = w.heap[k]?
theorem aj.write (hI : Inv β w h) {o b : Nat} {x x' : HO} (hb : β o = some b) (hx : h[o]? = some x) (hw : OnlyAt w w' b) (hL : Later w w' b β o (h.set o x') x) (hm : ∀ e sz g xs, x ≠ .frz e sz g xs) : aj β w h β w' (h.set o x') where
 os := hw.os
 tape := hw.tape
 output := hw.output
 size := by rw [hw.size]; exact Nat.le_refl _
 len := by simp
 keep k hk ha := hw.block k (fun e => by
  subst e
  obtain ⟨e, sz, g, xs, h1⟩ := ha o hb
  rw [hx] at h1
  injection h1 with h1
  exact hm _ _ _ _ h1)
 old _ _ hn := hn
 new o b hb := .inl hb
 obj o' b' y hb' hy := by
  by_cases ho : o' = o
  ·subst ho
   rw [hb] at hb'; injection hb' with hb'; subst hb'
   rw [hx] at hy; injection hy with hy; subst hy
   exact hL
  ·have hne : b' ≠ b := fun e => by subst e; exact ho (hI.inj o' o b' hb' hb)
   have hy' : (h.set o x')[o']? = some y := by rw [List.getElem?_set_ne (Ne.symm ho)]; exact hy
   cases y with
   | box t cs => exact ⟨hb', cs, hy'⟩
   | frz e sz g xs => exact ⟨hb', hy'⟩
   | map kt et es => exact ⟨hb', es, hy'⟩
   | row e sz g xs => exact ⟨b', g, xs, hb', .inl hy', Nat.le_refl _, fun _ => ⟨rfl, rfl, fun cur hc => ⟨cur, by rw [hw.block _ hne]; exact hc, rfl⟩⟩⟩
theorem Inv.write (hI : Inv β w h) {o b : Nat} {x' : HO} (hb : β o = some b) (hw : OnlyAt w w' b) (he : aj β w h β w' (h.set o x')) (hx' : OR β w' (h.set o x') b x') : Inv β w' (h.set o x') := by
 refine hI.step he (fun k c hk => ⟨by simpa using (hI.lt k c hk).1, by rw [hw.size]; exact (hI.lt k c hk).2⟩) hI.inj (wS hI.tot hb _) (fun k c y hk hy => ?_)
 by_cases ho : k = o
 ·subst ho
  rw [hb] at hk; injection hk with hk; subst hk
  have hlt := (hI.lt k b hb).1
  rw [List.getElem?_set_self hlt] at hy
  injection hy with hy; subst hy
  exact .inr hx'
 ·rw [List.getElem?_set_ne (Ne.symm ho)] at hy
  have hne : c ≠ b := fun e => by subst e; exact ho (hI.inj k o c hk hb)
  exact .inl ⟨hk, hy, hw.block c hne⟩
theorem aj.move (hI : Inv β w h) {o b : Nat} {x x' : HO} (ob : Obj) (hb : β o = some b) (hx : h[o]? = some x)
 (hL : Later w (w.alloc ob) b (upd β o w.heap.size) o (h.set o x') x) : aj β w h (upd β o w.heap.size) (w.alloc ob) (h.set o x') where
 os := rfl
 tape := rfl
 output := rfl
 size := by rw [dr]; omega
 len := by simp
 keep k hk ha := alloc_old w ob hk
 old k _ hn := by rw [Yh _ _ (fun e => by subst e; rw [hb] at hn; cases hn)]; exact hn
 new k c hk := by
  by_cases ho : k = o
  ·subst ho; rw [ZW] at hk; injection hk with hk; subst hk; exact .inr (Nat.le_refl _)
  ·rw [Yh _ _ ho] at hk; exact .inl hk
 obj o' b' y hb' hy := by
  by_cases ho : o' = o
  ·subst ho
   rw [hb] at hb'; injection hb' with hb'; subst hb'
   rw [hx] at hy; injection hy with hy; subst hy
   exact hL
  ·have hlt := hI.lt o' b' hb'
   have hy' : (h.set o x')[o']? = some y := by rw [List.getElem?_set_ne (Ne.symm ho)]; exact hy
   have gB : upd β o w.heap.size o' = some b' := by rw [Yh _ _ ho]; exact hb'
   cases y with
   | box t cs => exact ⟨gB, cs, hy'⟩
   | frz e sz g xs => exact ⟨gB, hy'⟩
   | map kt et es => exact ⟨gB, es, hy'⟩
   | row e sz g xs => exact ⟨b', g, xs, gB, .inl hy', Nat.le_refl _, fun _ => ⟨rfl, rfl, fun cur hc => ⟨cur, by rw [alloc_old _ _ hlt.2]; exact hc, rfl⟩⟩⟩
theorem Inv.move (hI : Inv β w h) {o b : Nat} {x' : HO} (ob : Obj) (hb : β o = some b) (he : aj β w h (upd β o w.heap.size) (w.alloc ob) (h.set o x'))
 (hx' : OR (upd β o w.heap.size) (w.alloc ob) (h.set o x') w.heap.size x') : Inv (upd β o w.heap.size) (w.alloc ob) (h.set o x') := by
 refine hI.step he (fun k c hk => ?_) (fun k k' c hk hk' => ?_) (wR hI.tot _ _ _) (fun k c y hk hy => ?_)
 ·by_cases ho : k = o
  ·subst ho; rw [ZW] at hk; injection hk with hk; subst hk
   exact ⟨by simpa using (hI.lt k b hb).1, by rw [dr]; omega⟩
  ·rw [Yh _ _ ho] at hk
   have := hI.lt k c hk
   exact ⟨by simpa using this.1, by rw [dr]; omega⟩
 ·by_cases ho : k = o
  ·subst ho; rw [ZW] at hk; injection hk with hk; subst hk
   by_cases aF : k' = k
   ·exact aF.symm
   ·rw [Yh _ _ aF] at hk'
    have := hI.lt k' _ hk'
    omega
  ·rw [Yh _ _ ho] at hk
   by_cases aF : k' = o
   ·subst aF; rw [ZW] at hk'; injection hk' with hk'; subst hk'
    have := hI.lt k _ hk
    omega
   ·rw [Yh _ _ aF] at hk'
    exact hI.inj k k' c hk hk'
 ·by_cases ho : k = o
  ·subst ho; rw [ZW] at hk; injection hk with hk; subst hk
   have hlt := (hI.lt k b hb).1
   rw [List.getElem?_set_self hlt] at hy
   injection hy with hy; subst hy
   exact .inr hx'
  ·rw [Yh _ _ ho] at hk
   have hlt := hI.lt k c hk
   rw [List.getElem?_set_ne (Ne.symm ho)] at hy
   exact .inl ⟨hk, hy, alloc_old w ob hlt.2⟩
theorem Ext0.fill (hI : Inv β w h) (ob : Obj) {k : Nat} (hk : β k = none) : Ext0 β w h (upd β k w.heap.size) (w.alloc ob) h where
 os := rfl
 tape := rfl
 output := rfl
 size := by rw [dr]; omega
 len := Nat.le_refl _
 keep b hb _ := alloc_old w ob hb
 new o b hb := by
  by_cases ho : o = k
  ·subst ho; rw [ZW] at hb; injection hb with hb; subst hb; exact .inr (Nat.le_refl _)
  ·rw [Yh _ _ ho] at hb; exact .inl hb
 obj o b y hb hy := by
  have hlt := hI.lt o b hb
  have ho : o ≠ k := fun e => by subst e; rw [hk] at hb; cases hb
  have hb' : upd β k w.heap.size o = some b := by rw [Yh _ _ ho]; exact hb
  cases y with
  | box t cs => exact ⟨hb', cs, hy⟩
  | frz e sz g xs => exact ⟨hb', hy⟩
  | map kt et es => exact ⟨hb', es, hy⟩
  | row e sz g xs => exact ⟨b, g, xs, hb', .inl hy, Nat.le_refl _, fun _ => ⟨rfl, rfl, fun cur hc => ⟨cur, by rw [alloc_old _ _ hlt.2]; exact hc, rfl⟩⟩⟩
theorem Inv.fill (hI : Inv β w h) {t : Nat} {cs : List DV} {us : Array Value} {k : Nat} (hk : β k = none) (hx : h[k]? = some (.box t cs)) (hr : ∀ β' w', RVs β' w' h cs us.toList) : Inv (upd β k w.heap.size) (w.alloc (.cells us t)) h := by
 refine hI.step0 (Ext0.fill hI _ hk) (fun o b hb => ?_) (fun o o' b hb hb' => ?_) (fun o ho => ?_) (fun o b y hb hy => ?_)
 ·by_cases ho : o = k
  ·subst ho; rw [ZW] at hb; injection hb with hb; subst hb; exact ⟨(List.getElem?_eq_some_iff.1 hx).1, by rw [dr]; omega⟩
  ·rw [Yh _ _ ho] at hb
   have := hI.lt o b hb
   exact ⟨this.1, by rw [dr]; omega⟩
 ·by_cases ho : o = k
  ·subst ho; rw [ZW] at hb; injection hb with hb; subst hb
   by_cases aF : o' = o
   ·exact aF.symm
   ·rw [Yh _ _ aF] at hb'
    have := hI.lt o' _ hb'
    omega
  ·rw [Yh _ _ ho] at hb
   by_cases aF : o' = k
   ·subst aF; rw [ZW] at hb'; injection hb' with hb'; subst hb'
    have := hI.lt o _ hb
    omega
   ·rw [Yh _ _ aF] at hb'
    exact hI.inj o o' b hb hb'
 ·by_cases aF : o = k
  ·subst aF; exact .inl ⟨_, ZW _ _ _⟩
  ·rw [Yh _ _ aF]; exact hI.tot o ho
 ·by_cases ho : o = k
  ·subst ho; rw [ZW] at hb; injection hb with hb; subst hb
   rw [hx] at hy; injection hy with hy; subst hy
   exact .inr ⟨us.toList, by simpa using dO w (.cells us t), hr _ _⟩
  ·rw [Yh _ _ ho] at hb
   exact .inl ⟨hb, hy, alloc_old w _ (hI.lt o b hb).2⟩
theorem aj.freeze (hI : Inv β w h) {o b e sz g : Nat} {xs : List DV} (hb : β o = some b) (hx : h[o]? = some (.row e sz g xs)) : aj β w h β w (h.set o (.frz e sz g xs)) where
 os := rfl
 tape := rfl
 output := rfl
 size := Nat.le_refl _
 len := by simp
 keep k hk ha := rfl
 old _ _ hn := hn
 new k c hk := .inl hk
 obj o' b' y hb' hy := by
  by_cases ho : o' = o
  ·subst ho
   rw [hx] at hy; injection hy with hy; subst hy
   have hlt := (hI.lt o' _ hb).1
   exact ⟨b', g, xs, hb', .inr (List.getElem?_set_self hlt), Nat.le_refl _, fun _ => ⟨rfl, rfl, fun cur hc => ⟨cur, hc, rfl⟩⟩⟩
  ·have hy' : (h.set o (.frz e sz g xs))[o']? = some y := by rw [List.getElem?_set_ne (Ne.symm ho)]; exact hy
   exact jR w b' β o' _ y hb' hy'
theorem Inv.freeze (hI : Inv β w h) {o b e sz g : Nat} {xs : List DV} (hb : β o = some b) (hx : h[o]? = some (.row e sz g xs)) : Inv β w (h.set o (.frz e sz g xs)) := by
 have he := aj.freeze hI hb hx
 refine hI.step he (fun k c hk => ⟨by simpa using (hI.lt k c hk).1, (hI.lt k c hk).2⟩) hI.inj (wS hI.tot hb _) (fun k c y hk hy => ?_)
 by_cases ho : k = o
 ·subst ho
  have hlt := (hI.lt k _ hb).1
  rw [List.getElem?_set_self hlt] at hy
  injection hy with hy; subst hy
  exact .inr (dY.ext he rfl (hI.ob k c _ hk hx))
 ·rw [List.getElem?_set_ne (Ne.symm ho)] at hy
  exact .inl ⟨hk, hy, rfl⟩
end
section
variable {β β' : Bm} {w w' : World} {h h' : Zb}
theorem RVs.len : ∀ {ds vs}, RVs β w h ds vs → ds.length = vs.length
 | _, _, .nil => rfl
 | _, _, .cons _ hs => by simp [RVs.len hs]
theorem RVs.get : ∀ {ds vs} (hr : RVs β w h ds vs) {i : Nat} {d : DV}, ds[i]? = some d → ∃ v, vs[i]? = some v ∧ RV β w h d v
 | _, _, .nil, i, d, hd => by simp at hd
 | _, _, .cons (v := v) h1 h2, i, d, hd => by
  cases i with
  | zero => simp at hd; subst hd; exact ⟨v, by simp, h1⟩
  | succ i => simp at hd; obtain ⟨u, hu, hr⟩ := RVs.get h2 hd; exact ⟨u, by simpa using hu, hr⟩
theorem RVs.get' {ds vs} (hr : RVs β w h ds vs) {i : Nat} {v : Value} (hv : vs[i]? = some v) : ∃ d, ds[i]? = some d ∧ RV β w h d v := by
 have hl := hr.len
 have hi : i < vs.length := (List.getElem?_eq_some_iff.1 hv).1
 obtain ⟨u, hu, hr'⟩ := hr.get (i := i) (d := ds[i]'(by omega)) (List.getElem?_eq_getElem _)
 rw [hv] at hu; injection hu with hu; subst hu
 exact ⟨_, List.getElem?_eq_getElem (by omega), hr'⟩
theorem RVs.append : ∀ {ds vs es us}, RVs β w h ds vs → RVs β w h es us → RVs β w h (ds ++ es) (vs ++ us)
 | _, _, _, _, .nil, h2 => h2
 | _, _, _, _, .cons h1 hs, h2 => .cons h1 (RVs.append hs h2)
theorem RVs.take : ∀ {ds vs} (n : Nat), RVs β w h ds vs → RVs β w h (ds.take n) (vs.take n)
 | _, _, 0, _ => by simp; exact .nil
 | _, _, n + 1, .nil => by simp; exact .nil
 | _, _, n + 1, .cons h1 hs => by simp; exact .cons h1 (RVs.take n hs)
theorem RVs.drop : ∀ {ds vs} (n : Nat), RVs β w h ds vs → RVs β w h (ds.drop n) (vs.drop n)
 | _, _, 0, hr => by simpa using hr
 | _, _, n + 1, .nil => by simp; exact .nil
 | _, _, n + 1, .cons h1 hs => by simp; exact RVs.drop n hs
theorem RVs.mem {ds vs} (hr : RVs β w h ds vs) {v : Value} (hv : v ∈ vs) : ∃ d ∈ ds, RV β w h d v := by
 obtain ⟨i, hi⟩ := List.mem_iff_getElem?.1 hv
 obtain ⟨d, hd, hr⟩ := hr.get' hi
 exact ⟨d, List.mem_of_getElem? hd, hr⟩
theorem RV.cells {d : DV} {v : Value} (hr : RV β w h d v) (hu : d.isU = false) : RVs β w h d.cells v.cells.toList := by
 cases hr <;> first
  | (simp only [DV.cells, Value.cells]; assumption)
  | (simp [DV.isU] at hu; done)
  | (refine .cons ?_ .nil; constructor <;> assumption)
theorem RV.one {d : DV} {v : Value} (hr : RV β w h d v) (ho : d.one = true) : v.oneCell' = true := by
 cases hr <;> first | rfl | (simp [DV.one] at ho; done)
theorem zG {v : Value} {d : DV} (hv : wP v = some d) : RV β w h d v ∧ Nr d ∧ d.isU = false := by
 unfold wP at hv
 split at hv <;> first
  | (injection hv with hv; subst hv; exact ⟨.func .nil .nil, .func _, rfl⟩)
  | (injection hv with hv; subst hv; exact ⟨.ifc (.int _ _), .ifc _ _ _, rfl⟩)
  | (injection hv with hv; subst hv; exact ⟨by constructor, by constructor, rfl⟩)
  | cases hv
theorem nJ : ∀ {vs : List Value} {ds : List DV}, qy vs = some ds → RVs β w h ds vs ∧ (∀ d ∈ ds, Nr d ∧ d.isU = false ∧ d.one = true)
 | [], ds, hv => by simp [qy] at hv; subst hv; exact ⟨.nil, by simp⟩
 | v :: l, ds, hv => by
  unfold qy at hv
  split at hv
  ·rename_i d hd
   split at hv
   ·rename_i ds' hds
    injection hv with hv; subst hv
    obtain ⟨h1, h2⟩ := nJ hds
    obtain ⟨h3, h4, h5⟩ := zG (β := β) (w := w) (h := h) hd
    refine ⟨.cons h3 h1, fun x hx => ?_⟩
    rcases List.mem_cons.1 hx with rfl | hx
    ·refine ⟨h4, h5, ?_⟩
     unfold wP at hd
     split at hd <;> first | (injection hd with hd; subst hd; rfl) | cases hd
    ·exact h2 x hx
   ·cases hv
  ·cases hv
theorem qx {v : Value} {d : DV} (hv : vd v = some d) : RV β w h d v ∧ Nr d ∧ d.isU = false ∧ (∀ c ∈ d.cells, c.one = true) := by
 unfold vd at hv
 split at hv
 ·rename_i cs
  split at hv
  ·rename_i ds hds
   injection hv with hv; subst hv
   obtain ⟨h1, h2⟩ := nJ (β := β) (w := w) (h := h) hds
   exact ⟨.agg (vs := cs.toList) h1, .agg (fun x hx => (h2 x hx).1), rfl, fun c hc => (h2 c hc).2.2⟩
  ·cases hv
 ·obtain ⟨h1, h2, h3⟩ := zG (β := β) (w := w) (h := h) hv
  refine ⟨h1, h2, h3, ?_⟩
  unfold wP at hv
  split at hv <;> first | (injection hv with hv; subst hv; simp [DV.cells, DV.one]) | cases hv
def ER (β : Bm) (w : World) (h : Zb) (e : Env) (a : Act) : Prop := ∀ s, RV β w h (lk e s) (a.tmps.getD s undef)
theorem ER.ext (he : aj β w h β' w' h') {e : Env} {a : Act} (hr : ER β w h e a) : ER β' w' h' e a := fun s => RV.ext he (hr s)
theorem Yr {e : Env} {a : Act} (hr : ER β w h e a) {x : Operand} {o : Od} (hx : cm x = some o) : RV β w h (o.v e) (a.eval x) := by
 unfold cm at hx
 split at hx
 ·injection hx with hx; subst hx; exact hr _
 ·split at hx
  ·rename_i d hd; injection hx with hx; subst hx; exact (qx hd).1
  ·cases hx
 ·injection hx with hx; subst hx; exact .func .nil .nil
 ·cases hx
theorem BD (hI : Inv β w h) {e : Env} {a : Act} (hr : ER β w h e a) {x : Operand} {o : Od} (hx : Jf x = some o) : RV β w h (o.v e) (a.eval x) := by
 unfold Jf at hx
 split at hx
 ·rename_i g
  split at hx
  ·rename_i p hp
   injection hx with hx; subst hx
   have h1 := List.mem_of_find?_eq_some hp
   have h2 := List.find?_some hp
   have h3 : p.1 = g := by simpa using h2
   subst h3
   have h4 : RV β w h (.elem (.list p.2.length [.agg p.2] true) p.2.length 0 0) (.pointer (some (Addr.add ⟨p.1, 0, none⟩ (0 * p.2.length + 0)))) := .elem (hI.tab p h1).1 (by omega)
   rw [show (Addr.add ⟨p.1, 0, none⟩ (0 * p.2.length + 0)) = (⟨p.1, 0, none⟩ : Addr) by simp [Addr.add]] at h4
   exact h4
  ·cases hx
 ·exact Yr hr hx
theorem jE {e : Env} {a : Act} (hr : ER β w h e a) : ∀ {xs : List Operand} {os : List Od}, nE xs = some os → RVs β w h (os.map (Od.v e)) (xs.map a.eval)
 | [], os, hx => by simp [nE] at hx; subst hx; exact .nil
 | x :: l, os, hx => by
  unfold nE at hx
  split at hx
  ·rename_i o ho
   split at hx
   ·rename_i os' hos
    injection hx with hx; subst hx
    exact .cons (Yr hr ho) (jE hr hos)
   ·cases hx
  ·cases hx
theorem bY {sz : Nat} : ∀ {xs : List DV}, (∀ x ∈ xs, x.cells.length = sz) → (flat xs).length = xs.length * sz
 | [], _ => by simp [flat]
 | x :: l, hw => by
  have h1 := bY (xs := l) (fun y hy => hw y (by simp [hy]))
  have h2 := hw x (by simp)
  unfold flat at h1 ⊢
  rw [List.flatMap_cons, List.length_append, h1, h2, List.length_cons, Nat.succ_mul, Nat.add_comm]
theorem flat_get {sz : Nat} : ∀ {xs : List DV} (i j : Nat) {x : DV}, (∀ x ∈ xs, x.cells.length = sz) → xs[i]? = some x → j < sz → (flat xs)[i * sz + j]? = x.cells[j]?
 | [], i, j, x, _, hx, _ => by simp at hx
 | y :: l, i, j, x, hw, hx, hj => by
  have hy := hw y (by simp)
  unfold flat
  rw [List.flatMap_cons]
  cases i with
  | zero =>
   simp at hx; subst hx
   rw [Nat.zero_mul, Nat.zero_add, List.getElem?_append_left (by omega)]
  | succ i =>
   have h1 := flat_get (xs := l) i j (fun z hz => hw z (by simp [hz])) (by simpa using hx) hj
   unfold flat at h1
   rw [List.getElem?_append_right (by rw [hy, Nat.succ_mul]; omega), hy]
   rw [show (i + 1) * sz + j - sz = i * sz + j by rw [Nat.succ_mul]; omega]
   exact h1
theorem eC (xs ys : List DV) : flat (xs ++ ys) = flat xs ++ flat ys := by simp [flat]
theorem iE {sz : Nat} (n : Nat) {xs : List DV} (hw : ∀ x ∈ xs, x.cells.length = sz) : flat (xs.take n) = (flat xs).take (n * sz) := by
 rcases Nat.lt_or_ge xs.length n with hn | hn
 ·rw [List.take_of_length_le (by omega), List.take_of_length_le]
  rw [bY hw]; exact Nat.mul_le_mul_right _ (by omega)
 ·have h1 : flat xs = flat (xs.take n) ++ flat (xs.drop n) := by rw [← eC, List.take_append_drop]
  have h2 := bY (sz := sz) (xs := xs.take n) (fun x hx => hw x (List.mem_of_mem_take hx))
  rw [List.length_take, Nat.min_eq_left hn] at h2
  rw [h1, ← h2, List.take_left]
theorem kZ {sz : Nat} (n : Nat) {xs : List DV} (hw : ∀ x ∈ xs, x.cells.length = sz) : flat (xs.drop n) = (flat xs).drop (n * sz) := by
 rcases Nat.lt_or_ge xs.length n with hn | hn
 ·rw [List.drop_eq_nil_of_le (by omega), List.drop_eq_nil_of_le]
  ·rfl
  ·rw [bY hw]; exact Nat.mul_le_mul_right _ (by omega)
 ·have h1 : flat xs = flat (xs.take n) ++ flat (xs.drop n) := by rw [← eC, List.take_append_drop]
  have h2 := bY (sz := sz) (xs := xs.take n) (fun x hx => hw x (List.mem_of_mem_take hx))
  rw [List.length_take, Nat.min_eq_left hn] at h2
  rw [h1, ← h2, List.drop_left]
theorem gW (hI : Inv β w h) {d : DV} {sz : Nat} {xs : List DV} {A : Option Addr} {n cap : Nat} (hr : RV β w h d (.slice A n cap)) (hv : vw h sz d = some xs) :
 n = xs.length ∧ (∀ x ∈ xs, Wc sz x) ∧ (xs = [] ∨ ∃ a vs, A = some a ∧ RVs β w h (flat xs) vs ∧ ∀ j v, vs[j]? = some v → w.cell? (a.add j) = some v) := by
 cases hr with
 | nils => simp [vw] at hv; subst hv; exact ⟨rfl, by simp, .inl rfl⟩
 | list hn hc cK hnr hw hr ha =>
  simp only [vw] at hv
  split at hv
  ·rename_i hs; injection hv with hv; subst hv; subst hs
   exact ⟨hn, hw, .inr ⟨_, _, rfl, hr, fun j v hj => (ha j v hj).2⟩⟩
  ·cases hv
 | row hb hc cK ho hg hs =>
  rename_i o g lo c a b e cP g' xs'
  have main : ∀ (hR : dY β w h b e cP xs') (hq : cP = sz ∧ g' = g ∧ lo + n ≤ xs'.length), n = ((xs'.drop lo).take n).length ∧ (∀ x ∈ (xs'.drop lo).take n, Wc sz x) ∧
   ((xs'.drop lo).take n = [] ∨ ∃ a0 vs, some a = some a0 ∧ RVs β w h (flat ((xs'.drop lo).take n)) vs ∧ ∀ j v, vs[j]? = some v → w.cell? (a0.add j) = some v) := by
   intro hR hq
   obtain ⟨rfl, rfl, hl⟩ := hq
   obtain ⟨cur, C, h1, h2, h3, h4, h5, h6, h7⟩ := hR
   obtain ⟨k1, k2, k3⟩ := hs rfl
   have hw : ∀ x ∈ xs', x.cells.length = cP := fun x hx => (h6 x hx).1
   refine ⟨by rw [List.length_take, List.length_drop]; omega, fun x hx => h6 x (List.mem_of_mem_drop (List.mem_of_mem_take hx)), ?_⟩
   rcases Nat.eq_zero_or_pos n with hn0 | hn0
   ·subst hn0; exact .inl (by simp)
   ·refine .inr ⟨a, ((cur.toList.take (xs'.length * cP)).drop (lo * cP)).take (n * cP), rfl, ?_, ?_⟩
    ·rw [iE n (fun x hx => hw x (List.mem_of_mem_drop hx)), kZ lo hw]
     exact (h7.drop _).take _
    ·intro j v hj
     rw [k2 hn0, gU, cell_of_row w b _ cur e (0, 0) h1, ← Array.getElem?_toList]
     rw [List.getElem?_take] at hj
     split at hj
     ·rw [List.getElem?_drop, List.getElem?_take] at hj
      split at hj
      ·exact hj
      ·cases hj
     ·cases hj
  simp only [vw] at hv
  rcases ho with ho | ho <;> rw [ho] at hv <;> simp only at hv <;> split at hv
  ·rename_i hq; injection hv with hv; subst hv; exact main (hI.ob _ _ _ hb ho) hq
  ·cases hv
  ·rename_i hq; injection hv with hv; subst hv; exact main (hI.ob _ _ _ hb ho) hq
  ·cases hv
 | undef => simp [vw] at hv
theorem gV {d : DV} {sz : Nat} {xs : List DV} {v : Value} (hr : RV β w h d v) (hv : vw h sz d = some xs) : ∃ A n cap, v = .slice A n cap := by
 cases hr <;> first | (simp [vw] at hv; done) | exact ⟨_, _, _, rfl⟩
end
def Did (P : Program) (s : Sem Next) (w : World) (v : Value) (w' : World) : Prop := s.run P w = .ok (.value v) w' ∨ (s.run P w = .ok .skip w' ∧ v = undef)
def Good (P : Program) (β : Bm) (w : World) (h : Zb) (s : Sem Next) (d : DV) (h' : Zb) : Prop :=
 ∃ v w' β', Did P s w v w' ∧ aj β w h β' w' h' ∧ Inv β' w' h' ∧ RV β' w' h' d v
section
variable {P : Program} {β β' : Bm} {w w' : World} {h h' : Zb}
theorem fO (h : Zb) (x : HO) : (h ++ [x])[h.length]? = some x := by simp
theorem vF {sz : Nat} {y y' : DV} {p : Nat} {new : List DV} (hy' : y'.cells = splice y.cells p new) (hp : p + new.length ≤ sz) :
 ∀ {xs : List DV} (k : Nat), (∀ x ∈ xs, x.cells.length = sz) → xs[k]? = some y → flat (xs.set k y') = splice (flat xs) (k * sz + p) new
 | [], k, _, hk => by simp at hk
 | x :: l, 0, hw, hk => by
  simp at hk; subst hk
  have hx := hw x (by simp)
  simp only [List.set_cons_zero, flat, List.flatMap_cons, hy', splice, Nat.zero_mul, Nat.zero_add]
  rw [List.take_append, List.drop_append, show p - x.cells.length = 0 by omega, show p + new.length - x.cells.length = 0 by omega]
  simp
 | x :: l, k + 1, hw, hk => by
  have hx := hw x (by simp)
  have ih := vF hy' hp (xs := l) k (fun z hz => hw z (by simp [hz])) (by simpa using hk)
  simp only [flat] at ih
  have e1 : (k + 1) * sz + p = x.cells.length + (k * sz + p) := by rw [Nat.succ_mul, hx]; omega
  simp only [List.set_cons_succ, flat, List.flatMap_cons, ih, splice, e1]
  rw [Nat.add_assoc x.cells.length, List.take_length_add_append, List.drop_length_add_append]
  simp
theorem Good.quiet (hI : Inv β w h) {s : Sem Next} {d : DV} {v : Value} (hs : s.run P w = .ok (.value v) w) (hr : RV β w h d v) : Good P β w h s d h :=
 ⟨v, w, β, .inl hs, aj.refl β w h, hI, hr⟩
theorem kO {t : TypeId} {ag : Bool} (ht : gR P t = some ag) : (isAgg t).run P w = .ok ag w := by
 unfold gR at ht
 cases hu : P.underlying t with
 | none => rw [hu] at ht; cases ht
 | some d =>
  rw [hu] at ht
  cases d <;> (simp only at ht; injection ht with ht; subst ht; simp [isAgg, run_underlying hu])
theorem run_sizeOf {t : TypeId} {sz : Nat} (hs : bW P t = some sz) : (sizeOf t).run P w = .ok sz w := by
 unfold bW at hs
 split at hs
 ·rename_i i hi
  injection hs with hs; subst hs
  simp [sizeOf, typeInfo, hi]
 ·cases hs
theorem dJ {t : TypeId} {z : Value} (hz : fe P t = some z) : (zeroValue t).run P w = .ok z w := by
 unfold fe at hz
 split at hz
 ·rename_i i hi
  simp [zeroValue, typeInfo, hi, hz]
 ·cases hz
theorem xe {t : TypeId} {ag : Bool} {sz p : Nat} {cs : List DV} {d : DV} {vs : List Value} {a : Addr} (ht : gR P t = some ag) (hs : bW P t = some sz)
 (hr : RVs β w h cs vs) (hc : ∀ j v, vs[j]? = some v → w.cell? (a.add j) = some v) (hd : Yv ag sz cs p = some d) : ∃ u, (loadVar t (a.add p)).run P w = .ok u w ∧ RV β w h d u := by
 unfold Yv at hd
 unfold loadVar
 rw [Sem.run_bind, kO ht]
 cases ag with
 | true =>
  simp only [if_true] at hd
  split at hd
  ·rename_i hl
   injection hd with hd; subst hd
   have hlen := hr.len
   have h1 : ((vs.drop p).take sz).length = sz := by rw [List.length_take, List.length_drop]; omega
   have h2 := run_loadCells_list (P := P) w (a.add p) ((vs.drop p).take sz) (fun j v hj => by
    rw [add_add']
    refine hc (p + j) v ?_
    rw [List.getElem?_take] at hj
    split at hj
    ·rwa [List.getElem?_drop] at hj
    ·cases hj)
   rw [h1] at h2
   refine ⟨_, by simp [run_sizeOf hs, h2]; rfl, ?_⟩
   exact .agg ((hr.drop p).take sz)
  ·cases hd
 | false =>
  simp only [Bool.false_eq_true, if_false] at hd
  obtain ⟨u, hu, jM⟩ := hr.get hd
  refine ⟨u, ?_, jM⟩
  have := hc p u hu
  simp [load, Sem.run, this]
theorem tL (hI : Inv β w h) {t : TypeId} {ag : Bool} {sz : Nat} {x d : DV} {v : Value} (ht : gR P t = some ag) (hs : bW P t = some sz) (hx : RV β w h x v) (hd : ay h ag sz x = some d) :
 ∃ u, (Instr.loadAt t v).run P w = .ok u w ∧ RV β w h d u := by
 cases hx with
 | ref hb ho =>
  rename_i o p b t' cs
  simp only [ay, ho] at hd
  obtain ⟨vs, h1, h2⟩ := hI.ob _ _ _ hb ho
  obtain ⟨u, hu, jM⟩ := xe (a := ⟨b, 0, none⟩) ht hs h2 (fun j v hj => by rw [gU, cell_of_row w b _ _ _ _ h1]; simpa using hj) hd
  rw [gU, Nat.zero_add] at hu
  exact ⟨u, by simpa [Instr.loadAt, Instr.sureAddr] using hu, jM⟩
 | elem eE hi =>
  rename_i d0 cP i p A n cap
  simp only [ay] at hd
  cases hv : vw h cP d0 with
  | none => rw [hv] at hd; cases hd
  | some xs =>
   rw [hv] at hd
   simp only at hd
   obtain ⟨hn, hw, hcs⟩ := gW hI eE hv
   cases hxi : xs[i]? with
   | none => rw [hxi] at hd; cases hd
   | some x =>
    rw [hxi] at hd
    simp only at hd
    rcases hcs with rfl | ⟨a0, vs, ha, hr, hc⟩
    ·simp at hxi
    ·injection ha with ha; subst ha
     have hw' : ∀ x ∈ xs, x.cells.length = cP := fun x hx => (hw x hx).1
     have NW := List.mem_of_getElem? hxi
     have hil : i < xs.length := (List.getElem?_eq_some_iff.1 hxi).1
     have lU : x.cells = ((flat xs).drop (i * cP)).take cP := by
      apply List.ext_getElem?
      intro j
      rw [List.getElem?_take]
      split
      ·rename_i hj; rw [List.getElem?_drop, flat_get i j hw' hxi hj]
      ·rename_i hj; rw [List.getElem?_eq_none]; rw [hw' x NW]; omega
     have hr' : RVs β w h x.cells ((vs.drop (i * cP)).take cP) := by rw [lU]; exact (hr.drop _).take _
     obtain ⟨u, hu, jM⟩ := xe (a := A.add (i * cP)) ht hs hr' (fun j v hj => by
      rw [add_add']
      refine hc (i * cP + j) v ?_
      rw [List.getElem?_take] at hj
      split at hj
      ·rwa [List.getElem?_drop] at hj
      ·cases hj) hd
     rw [add_add'] at hu
     exact ⟨u, by simpa [Instr.loadAt, Instr.sureAddr] using hu, jM⟩
 | bool | int | str | nilp | nils | list | row | nilm | map | nilf | func | nili | ifc | agg | tup | undef => simp [ay] at hd
theorem Dh (hI : Inv β w h) {t : TypeId} {x : DV} {v : Value} (hx : RV β w h x v) (hu : x.isU = false) :
 ∃ w' β', (Instr.box t v).run P w = .ok (.pointer (some ⟨w.heap.size, 0, none⟩)) w' ∧ aj β w h β' w' (h ++ [.box t x.cells]) ∧ Inv β' w' (h ++ [.box t x.cells]) ∧
  RV β' w' (h ++ [.box t x.cells]) (.ref h.length 0) (.pointer (some ⟨w.heap.size, 0, none⟩)) := by
 have he := aj.alloc hI (.cells v.cells t) (.box t x.cells)
 have hi := Inv.alloc hI (.cells v.cells t) (.box t x.cells) ⟨v.cells.toList, dO _ _, RVs.ext he (hx.cells hu)⟩
 exact ⟨w.alloc (.cells v.cells t), _, rfl, he, hi, .ref (ZW _ _ _) (fO _ _)⟩
theorem yZ (hI : Inv β w h) {t : TypeId} {z : Value} {cs : List DV} (hz : fe P t = some z) (hc : qy z.cells.toList = some cs) :
 ∃ w' β', (Instr.alloc t true (.tuple #[])).run P w = .ok (.pointer (some ⟨w.heap.size, 0, none⟩)) w' ∧ aj β w h β' w' (h ++ [.box t cs]) ∧ Inv β' w' (h ++ [.box t cs]) ∧
  RV β' w' (h ++ [.box t cs]) (.ref h.length 0) (.pointer (some ⟨w.heap.size, 0, none⟩)) := by
 have he := aj.alloc hI (.cells z.cells t) (.box t cs)
 have hi := Inv.alloc hI (.cells z.cells t) (.box t cs) ⟨z.cells.toList, dO _ _, (nJ hc).1⟩
 refine ⟨w.alloc (.cells z.cells t), _, ?_, he, hi, .ref (ZW _ _ _) (fO _ _)⟩
 simp only [Instr.alloc, Sem.run_bind, dJ hz, Result.andThen_ok]
 rfl
theorem fq (w : World) (g : Nat) (cs : Array Value) : OnlyAt w (w.setRow g cs) g where
 os := rfl
 tape := rfl
 output := rfl
 size := by simp [World.setRow]
 block k hk := by simp [World.setRow, Array.getElem?_modify, Ne.symm hk]
theorem kN (w : World) (g : Nat) (cs : Array Value) {cur : Array Value} {e : TypeId} (hg : w.heap[g]? = some (.cells cur e (0, 0))) : (w.setRow g cs).heap[g]? = some (.cells cs e (0, 0)) := by
 simp [World.setRow, Array.getElem?_modify, hg]
theorem RVs.splice {cs new : List DV} {vs nv : List Value} (h1 : RVs β w h cs vs) (h2 : RVs β w h new nv) (p : Nat) : RVs β w h (splice cs p new) (vs.take p ++ nv ++ vs.drop (p + nv.length)) := by
 unfold Proofs.YteekbciaggmfgaaDoor.splice
 rw [h2.len]
 exact ((h1.take p).append h2).append (h1.drop _)
theorem pH {t : TypeId} {sz : Nat} {v : Value} {b p : Nat} {cur : Array Value} {e : TypeId} (hs : bW P t = some sz) (hv : v.cells.toList.length = sz) (h1 : ∀ u ∈ v.cells.toList, u.oneCell' = true)
 (hb : w.heap[b]? = some (.cells cur e (0, 0))) (hp : p + sz ≤ cur.size) :
 (Instr.storeAt t (.pointer (some ⟨b, p, none⟩)) v).run P w = .ok () (w.setRow b (cur.toList.take p ++ v.cells.toList ++ cur.toList.drop (p + v.cells.toList.length)).toArray) := by
 have h2 := run_storeCells_at P b p e v.cells.toList 0 cur w hb (by omega) h1
 have h3 : v.cells.size = sz := by simpa using hv
 simp only [Instr.storeAt, Instr.sureAddr, storeVar, Sem.run_bind, Sem.run_pure, Result.andThen_ok, run_sizeOf hs, h3, ne_eq, not_true_eq_false, if_false]
 simpa using h2
theorem yW (hI : Inv β w h) {t : TypeId} {sz : Nat} {a x : DV} {va v : Value} (hs : bW P t = some sz) (ha : RV β w h a va) (hx : RV β w h x v) (hd : stx h sz a x = some h') :
 ∃ w', (Instr.storeAt t va v).run P w = .ok () w' ∧ aj β w h β w' h' ∧ Inv β w' h' := by
 unfold stx at hd
 split at hd
 ·rename_i hc
  obtain ⟨hc1, hc2⟩ := hc
  have hu : x.isU = false := by
   cases x <;> first | rfl | (simp [DV.cells, DV.one] at hc2; done)
  have lU := hx.cells hu
  have hvl : v.cells.toList.length = sz := by rw [← lU.len]; exact hc1
  have iU : ∀ u ∈ v.cells.toList, u.oneCell' = true := by
   intro u hu
   obtain ⟨d, hd, hr⟩ := lU.mem hu
   exact hr.one (List.all_eq_true.1 hc2 d hd)
  split at hd
  ·
   rename_i o p
   cases ha with
   | ref hb ho =>
   rename_i b t' cs
   simp only [ho] at hd
   split at hd
   ·rename_i hp
    injection hd with hd; subst hd
    obtain ⟨vs, h1, h2⟩ := hI.ob _ _ _ hb ho
    have hl := h2.len
    have hrun := pH (P := P) (p := p) hs hvl iU h1 (by simp; omega)
    have hL : Later w (w.setRow b ((vs.toArray).toList.take p ++ v.cells.toList ++ (vs.toArray).toList.drop (p + v.cells.toList.length)).toArray) b β o (h.set o (.box t' (Proofs.YteekbciaggmfgaaDoor.splice cs p x.cells))) (.box t' cs) :=
     ⟨hb, _, List.getElem?_set_self (hI.lt _ _ hb).1⟩
    have he := aj.write hI hb ho (fq w b _) hL (fun _ _ _ _ e => by cases e)
    refine ⟨_, hrun, he, Inv.write hI hb (fq w b _) he ⟨_, kN w b _ h1, ?_⟩⟩
    exact (RVs.ext he h2).splice (RVs.ext he lU) p
   ·cases hd
  ·
   rename_i o g lo n c cP i p
   cases ha with
   | elem eE hi =>
   rename_i A n' cap
   cases eE with
   | row hb hcap cK ho hg hs' =>
   rename_i a b e F8 g0 FX
   cases hx0 : h[o]? with
   | none => rw [hx0] at hd; cases hd
   | some y =>
    rw [hx0] at hd
    cases y with
    | box _ _ => cases hd
    | frz _ _ _ _ => cases hd
    | map _ _ _ => cases hd
    | row e' bZ g' xs =>
     simp only at hd
     split at hd
     ·rename_i hq
      obtain ⟨q1, q2, q3, q4⟩ := hq
      subst q1; subst q2
      have hrow : e' = e ∧ bZ = F8 ∧ g' = g0 ∧ xs = FX := by
       rcases ho with ho | ho
       ·rw [hx0] at ho; injection ho with ho; injection ho with k1 k2 k3 k4; exact ⟨k1, k2, k3, k4⟩
       ·rw [hx0] at ho; cases ho
      obtain ⟨rfl, rfl, rfl, rfl⟩ := hrow
      obtain ⟨k1, k2, k3⟩ := hs' rfl
      have ha := k2 (by omega)
      subst ha
      cases hxi : xs[lo + i]? with
      | none => rw [hxi] at hd; cases hd
      | some y =>
       rw [hxi] at hd
       simp only at hd
       cases kC : mW y p x with
       | none => rw [kC] at hd; cases hd
       | some y' =>
        rw [kC] at hd
        injection hd with hd; subst hd
        obtain ⟨cur, C, h1, h2, h3, h4, h5, h6, h7⟩ := hI.ob _ _ _ hb hx0
        have hw : ∀ x ∈ xs, x.cells.length = bZ := fun x hx => (h6 x hx).1
        have hil : lo + i < xs.length := (List.getElem?_eq_some_iff.1 hxi).1
        have Ay := h6 y (List.mem_of_getElem? hxi)
        have hy' : y'.cells = Proofs.YteekbciaggmfgaaDoor.splice y.cells p x.cells ∧ p + x.cells.length ≤ bZ := by
         unfold mW at kC
         cases y with
         | agg cs =>
          simp only at kC
          split at kC
          ·rename_i hl; injection kC with kC; subst kC
           exact ⟨rfl, by rw [← Ay.1]; exact hl⟩
          ·cases kC
         | _ =>
          simp only at kC
          split at kC
          ·rename_i hl; injection kC with kC; subst kC
           obtain ⟨rfl, hone⟩ := hl
           have iR : x.cells = [x] := by cases x <;> first | rfl | (simp [DV.one] at hone; done)
           have OO : bZ = 1 := by rw [← Ay.1]; rfl
           rw [iR]
           exact ⟨rfl, by rw [OO]; simp⟩
          ·cases kC
        obtain ⟨hy1, hy2⟩ := hy'
        have KX : y.cells.length = bZ := Ay.1
        have K2 := vF hy1 hy2 (lo + i) hw hxi
        have hlf := bY hw
        have hmul : (lo + i) * bZ + bZ ≤ xs.length * bZ := by rw [← Nat.succ_mul]; exact Nat.mul_le_mul_right _ hil
        have hpos : lo * bZ + (i * bZ + p) = (lo + i) * bZ + p := by rw [Nat.add_mul]; omega
        have OJ : xs.length * bZ ≤ C * bZ := Nat.mul_le_mul_right _ h3
        have hrun := pH (P := P) (w := w) (p := (lo + i) * bZ + p) hs hvl iU h1 (by rw [h2]; omega)
        generalize mP : (cur.toList.take ((lo + i) * bZ + p) ++ v.cells.toList ++ cur.toList.drop ((lo + i) * bZ + p + v.cells.toList.length)).toArray = dN at hrun
        have hcs' : dN.size = cur.size := by
         rw [← mP]
         simp only [List.size_toArray, List.length_append, List.length_take, List.length_drop, Array.length_toList]
         have hvs : v.cells.size = sz := by simpa using hvl
         omega
        have hb' := kN w b dN h1
        have hlt := (hI.lt _ _ hb).1
        have hL : Later w (w.setRow b dN) b β o (h.set o (.row e' bZ g' (xs.set (lo + i) y'))) (.row e' bZ g' xs) :=
         ⟨b, g', _, hb, .inl (List.getElem?_set_self hlt), Nat.le_refl _, fun _ => ⟨rfl, by simp, fun c0 hc0 => ⟨dN, hb', by rw [h1] at hc0; injection hc0 with hc0; injection hc0 with hc0; rw [hcs', hc0]⟩⟩⟩
        have he := aj.write hI hb hx0 (fq w b dN) hL (fun _ _ _ _ e => by cases e)
        refine ⟨w.setRow b dN, ?_, he, Inv.write hI hb (fq w b dN) he ⟨dN, C, hb', hcs'.trans h2, by simpa using h3, h4, h5, ?_, ?_⟩⟩
        ·rw [← hrun, gU, hpos]
        ·intro z hz
         rcases List.mem_or_eq_of_mem_set hz with hz | rfl
         ·exact h6 z hz
         ·refine ⟨?_, fun c hc => ?_⟩
          ·rw [hy1, Proofs.YteekbciaggmfgaaDoor.splice]
           simp only [List.length_append, List.length_take, List.length_drop, KX]
           omega
          ·rw [hy1, Proofs.YteekbciaggmfgaaDoor.splice] at hc
           rcases List.mem_append.1 hc with hc | hc
           ·rcases List.mem_append.1 hc with hc | hc
            ·exact Ay.2 c (List.mem_of_mem_take hc)
            ·exact List.all_eq_true.1 hc2 c hc
           ·exact Ay.2 c (List.mem_of_mem_drop hc)
        ·rw [K2]
         have h8 := (RVs.ext he h7).splice (RVs.ext he lU) ((lo + i) * bZ + p)
         have h9 : (cur.toList.take (xs.length * bZ)).take ((lo + i) * bZ + p) ++ v.cells.toList ++ (cur.toList.take (xs.length * bZ)).drop ((lo + i) * bZ + p + v.cells.toList.length) = dN.toList.take ((xs.set (lo + i) y').length * bZ) := by
          rw [← mP, List.length_set]
          simp only [List.toList_toArray]
          rw [List.take_take, Nat.min_eq_left (by omega), List.drop_take]
          rw [List.take_append, List.take_append]
          have q1 : (cur.toList.take ((lo + i) * bZ + p)).length = (lo + i) * bZ + p := by rw [List.length_take, Array.length_toList]; omega
          rw [List.take_of_length_le (by omega : (cur.toList.take ((lo + i) * bZ + p)).length ≤ xs.length * bZ), q1, List.take_of_length_le (by omega : v.cells.toList.length ≤ xs.length * bZ - ((lo + i) * bZ + p))]
          congr 2
          rw [List.length_append, q1]
         rw [← h9]
         exact h8
     ·cases hd
  ·cases hd
 ·cases hd
end
section
variable {P : Program} {β β' : Bm} {w w' : World} {h h' : Zb}
theorem Bj {op : BinOp} {k : IntKind} {a b : Int} {d : DV} {t : TypeId} (hd : Ya op k a b = some d) (hs : op ≠ .shl ∧ op ≠ .shr) :
 ∃ v, (binOp op t (.int k a) (.int k b)).run P w = .ok v w ∧ RV β w h d v := by
 cases op <;> simp only [Ya] at hd <;> first
  | (injection hd with hd; subst hd; refine ⟨_, ?_, by constructor⟩; simp [binOp, Op.intArith, Op.intCmp, Op.intBits])
  | (
   split at hd
   ·cases hd
   ·rename_i hb; injection hd with hd; subst hd; refine ⟨_, ?_, by constructor⟩; simp [binOp, Op.intDiv, hb])
  | cases hd
theorem Bi {op : BinOp} {a b : ByteArray} {d : DV} {t : TypeId} (hd : Yd op a b = some d) :
 ∃ v, (binOp op t (.string a) (.string b)).run P w = .ok v w ∧ RV β w h d v := by
 have he := beq_toListBytes a b
 by_cases ha : op = .add
 ·subst ha
  simp only [Yd] at hd
  by_cases hb : ((a.size + b.size : Nat) : Int) > 9223372036854775807
  ·rw [if_pos hb] at hd; cases hd
  ·rw [if_neg hb] at hd
   injection hd with hd; subst hd
   refine ⟨_, ?_, by constructor⟩
   have hb' : ¬ (((a.size + b.size : Nat) : Int) > IntKind.i64.max) := by rw [show IntKind.i64.max = 9223372036854775807 from by decide]; exact hb
   simp only [binOp, Op.stringOp, if_neg hb']
   rfl
 ·cases op <;> simp only [Yd] at hd <;> first
   | exact absurd rfl ha
   | (injection hd with hd; subst hd; refine ⟨_, ?_, by constructor⟩; simp only [binOp, Op.stringOp, ← he]; rfl)
   | cases hd
theorem Di {op : BinOp} {x y d : DV} {u v : Value} {t : TypeId} {ox oy : Operand} (hx : RV β w h x u) (hy : RV β w h y v) (hd : Yb op x y = some d) :
 ∃ r, (eqGuard op t ox oy u v).run P w = .ok () w ∧ (binOp op t u v).run P w = .ok r w ∧ RV β w h d r := by
 unfold Yb at hd
 split at hd
 ·rename_i k a k' b
  cases hx; cases hy
  have hg : (eqGuard op t ox oy (.int k a) (.int k' b)).run P w = .ok () w := by cases op <;> simp [eqGuard]
  split at hd
  ·split at hd
   ·cases hd
   ·rename_i hb
    injection hd with hd; subst hd
    refine ⟨_, hg, ?_, by constructor⟩
    simp [binOp, Op.shift, hb]
  ·split at hd
   ·cases hd
   ·rename_i hb
    injection hd with hd; subst hd
    refine ⟨_, hg, ?_, by constructor⟩
    simp [binOp, Op.shift, hb]
  ·rename_i h1 h2
   split at hd
   ·rename_i hk
    subst hk
    obtain ⟨r, hr, hv⟩ := Bj (P := P) (β := β) (w := w) (h := h) (t := t) hd ⟨fun e => h1 e, fun e => h2 e⟩
    exact ⟨r, hg, hr, hv⟩
   ·cases hd
 ·rename_i a b
  cases hx; cases hy
  obtain ⟨r, hr, hv⟩ := Bi (P := P) (β := β) (w := w) (h := h) (t := t) hd
  exact ⟨r, by cases op <;> simp [eqGuard], hr, hv⟩
 ·cases hd
def yH (kd : Nat) (td : TypeDesc) : Prop := match kd with
 | 0 => td = .bool
 | 1 => ∃ e, td = .pointer e
 | 2 => ∃ e, td = .slice e
 | 3 => ∃ k e, td = .map k e
 | 4 => ∃ a b c, td = .func a b c
 | _ => ∃ m, td = .interface m
set_option maxHeartbeats 1000000 in
theorem Fi (d : Nat) {kd : Nat} {x y : DV} {u v : Value} {t : TypeId} {td : TypeDesc} {r : Bool} (hx : RV β w h x u) (hy : RV β w h y v) (hd : Yt kd x y = some r) (ht : P.underlying t = some td)
 (hk : yH kd td) : (Op.equalIn (d + 1) t u v).run P w = .ok r w ∧ (∀ k a, u ≠ .int k a) ∧ (∀ s, u ≠ .string s) ∧ (∀ k a b, u ≠ .complex k a b) ∧ (∀ k a, u ≠ .float k a) ∧ (∀ c, u ≠ .agg c) ∧ (u = .nilIface → kd = 5) := by
 unfold Yt at hd
 split at hd <;> cases hd
 all_goals (cases hx; cases hy)
 all_goals (simp only [yH] at hk)
 case h_1 => subst hk; exact ⟨by simp only [Op.equalIn, Sem.run_bind, run_underlying ht, Result.andThen_ok]; rfl, by simp, by simp, by simp, by simp, by simp, by simp⟩
 case h_2 | h_3 | h_4 | h_5 | h_6 | h_7 => obtain ⟨_, rfl⟩ := hk; exact ⟨by simp only [Op.equalIn, Sem.run_bind, run_underlying ht, Result.andThen_ok]; rfl, by simp, by simp, by simp, by simp, by simp, by simp⟩
 case h_8 | h_9 => obtain ⟨_, _, rfl⟩ := hk; exact ⟨by simp only [Op.equalIn, Sem.run_bind, run_underlying ht, Result.andThen_ok]; rfl, by simp, by simp, by simp, by simp, by simp, by simp⟩
 case h_10 | h_11 => obtain ⟨_, _, _, rfl⟩ := hk; exact ⟨by simp only [Op.equalIn, Sem.run_bind, run_underlying ht, Result.andThen_ok]; rfl, by simp, by simp, by simp, by simp, by simp, by simp⟩
 case h_12 | h_13 => obtain ⟨_, rfl⟩ := hk; exact ⟨by simp only [Op.equalIn, Sem.run_bind, run_underlying ht, Result.andThen_ok]; rfl, by simp, by simp, by simp, by simp, by simp, by simp⟩
theorem v7 {t : TypeId} {u v : Value} (h1 : ∀ k a, u ≠ .int k a) (h2 : ∀ s, u ≠ .string s) (h3 : ∀ k a b, u ≠ .complex k a b) (h4 : ∀ k a, u ≠ .float k a) :
 binOp .eql t u v = (do pure (.bool (← Op.equal t u v))) ∧ binOp .neq t u v = (do pure (.bool (!(← Op.equal t u v)))) := by
 cases u <;> first
  | exact absurd rfl (h1 _ _)
  | exact absurd rfl (h2 _)
  | exact absurd rfl (h3 _ _ _)
  | exact absurd rfl (h4 _ _)
  | (constructor <;> cases v <;> rfl)
theorem vu {kd : Nat} {neg : Bool} {x y : DV} {u v : Value} {t : TypeId} {td : TypeDesc} {r : Bool} {ox oy : Operand} (hx : RV β w h x u) (hy : RV β w h y v) (hd : Yt kd x y = some r) (ht : P.underlying t = some td)
 (hk : yH kd td) (hc : kd = 5 → fQ ox = true ∨ fQ oy = true) :
 (eqGuard (if neg = true then .neq else .eql) t ox oy u v).run P w = .ok () w ∧ (binOp (if neg = true then .neq else .eql) t u v).run P w = .ok (.bool (if neg = true then !r else r)) w := by
 obtain ⟨h0, h1, h2, h3, h4, h5, h6⟩ := Fi 9999 hx hy hd ht hk
 have hE : (Op.equal t u v).run P w = .ok r w := h0
 obtain ⟨e1, e2⟩ := v7 (t := t) (v := v) h1 h2 h3 h4
 constructor
 ·by_cases hn : u = .nilIface
  ·have dx := hc (h6 hn)
   subst hn
   unfold eqGuard
   cases neg <;> (cases v <;> first
    | rfl
    | (
     simp only [Bool.false_eq_true, if_false, if_true, Bool.not_true]
     simp
     intro p q
     exfalso
     rcases dx with dx | dx
     ·cases ox <;> first | (simp [fQ] at dx; done) | (simp at p; done)
     ·cases oy <;> first | (simp [fQ] at dx; done) | (simp at q; done)))
  ·unfold eqGuard
   cases u <;> first
    | exact absurd rfl (h5 _)
    | exact absurd rfl hn
    | (cases neg <;> simp)
 ·cases neg <;> simp [e1, e2, hE]
theorem IZ {c c' : DV} {q : Bool} (h : Ys 0 c c' = some q) : ∃ a b, c = .bool a ∧ c' = .bool b ∧ q = (a == b) := by
 unfold Ys at h
 split at h <;> first | (injection h with h; exact ⟨_, _, rfl, rfl, h.symm⟩) | (rename_i hk; cases hk) | cases h
theorem IY {c c' : DV} {q : Bool} (h : Ys 1 c c' = some q) : ∃ k a b, c = .int k a ∧ c' = .int k b ∧ q = (a == b) := by
 unfold Ys at h
 split at h
 ·rename_i hk; cases hk
 ·split at h
  ·rename_i hk; subst hk; injection h with h; exact ⟨_, _, _, rfl, rfl, h.symm⟩
  ·cases h
 ·rename_i hk; cases hk
 ·cases h
theorem IX {c c' : DV} {q : Bool} (h : Ys 2 c c' = some q) : ∃ a b, c = .str a ∧ c' = .str b ∧ q = (a == b) := by
 unfold Ys at h
 split at h <;> first | (injection h with h; exact ⟨_, _, rfl, rfl, h.symm⟩) | (rename_i hk; cases hk) | cases h
theorem nL (d : Nat) : ∀ (fs : List Field) (n : Nat) (ks : List Nat) (cs ds : List DV) (xs ys : List Value), je P fs n = some ks → RVs β w h cs (xs.drop n) → RVs β w h ds (ys.drop n) → ∀ r, ZT ks cs ds = some r →
 (Op.eqFields (d + 1) xs.toArray ys.toArray fs).run P w = .ok r w := by
 intro fs
 induction fs with
 | nil =>
  intro n ks cs ds xs ys hf h1 h2 r hr
  simp only [je] at hf
  injection hf with hf; subst hf
  cases cs with
  | nil =>
   cases ds with
   | nil => simp only [ZT] at hr; injection hr with hr; subst hr; simp [Op.eqFields]
   | cons _ _ => simp [ZT] at hr
  | cons _ _ => simp [ZT] at hr
 | cons f fs ih =>
  intro n ks cs ds xs ys hf h1 h2 r hr
  simp only [je] at hf
  split at hf
  ·rename_i hc
   obtain ⟨LM, Oj⟩ := hc
   obtain ⟨k, ks', hks, Oi, hkk⟩ : ∃ k ks', ks = k :: ks' ∧ je P fs (n + 1) = some ks' ∧ ((k = 0 ∧ P.underlying f.type = some .bool) ∨ (k = 1 ∧ ∃ q, P.underlying f.type = some (.int q)) ∨ (k = 2 ∧ P.underlying f.type = some .string)) := by
    split at hf <;> first | cases hf | skip
    all_goals (rename_i h1 h2)
    ·exact ⟨0, _, rfl, h2, .inl ⟨rfl, h1⟩⟩
    ·exact ⟨1, _, rfl, h2, .inr (.inl ⟨rfl, _, h1⟩)⟩
    ·exact ⟨2, _, rfl, h2, .inr (.inr ⟨rfl, h1⟩)⟩
   subst hks
   cases cs with
   | nil => simp [ZT] at hr
   | cons c cs =>
   cases ds with
   | nil => simp [ZT] at hr
   | cons c' ds =>
    simp only [ZT] at hr
    cases hq : Ys k c c' with
    | none => rw [hq] at hr; cases hr
    | some q =>
     rw [hq] at hr
     simp only at hr
     cases hq2 : ZT ks' cs ds with
     | none => rw [hq2] at hr; cases hr
     | some q2 =>
      rw [hq2] at hr
      injection hr with hr; subst hr
      generalize hX : xs.drop n = X at h1
      generalize hY : ys.drop n = Y at h2
      cases h1 with
      | cons cz hs1 =>
      cases h2 with
      | cons iX hs2 =>
      rename_i v1 vs1 v2 vs2
      have g1 : xs[n]? = some v1 := by have := congrArg (fun l => l[0]?) hX; simpa using this
      have g2 : ys[n]? = some v2 := by have := congrArg (fun l => l[0]?) hY; simpa using this
      have iS : xs.drop (n + 1) = vs1 := by rw [← List.drop_drop, hX]; rfl
      have hy1 : ys.drop (n + 1) = vs2 := by rw [← List.drop_drop, hY]; rfl
      have NQ := ih (n + 1) ks' cs ds xs ys Oi (by rw [iS]; exact hs1) (by rw [hy1]; exact hs2) q2 hq2
      have hag : gR P f.type = some false := by
       unfold gR
       rcases hkk with ⟨_, hu⟩ | ⟨_, _, hu⟩ | ⟨_, hu⟩ <;> rw [hu]
      have hp : ∀ (zs : List Value) v, zs[n]? = some v → (part f.type zs.toArray f.offset).run P w = .ok v w := by
       intro zs v hz
       simp only [part, Sem.run_bind, kO hag, Result.andThen_ok, Bool.false_eq_true, if_false, Oj]
       simp [hz]
      have hee : (Op.equalIn (d + 1) f.type v1 v2).run P w = .ok q w := by
       rcases hkk with ⟨rfl, hu⟩ | ⟨rfl, _, hu⟩ | ⟨rfl, hu⟩
       ·obtain ⟨a, b, rfl, rfl, rfl⟩ := IZ hq
        cases cz; cases iX
        simp only [Op.equalIn, Sem.run_bind, run_underlying hu, Result.andThen_ok]; rfl
       ·obtain ⟨k, a, b, rfl, rfl, rfl⟩ := IY hq
        cases cz; cases iX
        simp only [Op.equalIn, Sem.run_bind, run_underlying hu, Result.andThen_ok, if_true]; rfl
       ·obtain ⟨a, b, rfl, rfl, rfl⟩ := IX hq
        cases cz; cases iX
        simp only [Op.equalIn, Sem.run_bind, run_underlying hu, Result.andThen_ok]; rfl
      simp only [Op.eqFields, LM, ne_eq, not_false_eq_true, if_true, Sem.run_bind, hp xs v1 g1, hp ys v2 g2, Result.andThen_ok, hee]
      cases q with
      | false => simp
      | true => simpa using NQ
  ·cases hf
theorem De {neg : Bool} {ks : List Nat} {cs ds : List DV} {u v : Value} {t : TypeId} {r : Bool} {ox oy : Operand} (hx : RV β w h (.agg cs) u) (hy : RV β w h (.agg ds) v) (hd : ZT ks cs ds = some r) (ht : mR P t = some ks) :
 (eqGuard (if neg = true then .neq else .eql) t ox oy u v).run P w = .ok () w ∧ (binOp (if neg = true then .neq else .eql) t u v).run P w = .ok (.bool (if neg = true then !r else r)) w := by
 cases hx with
 | agg hr1 =>
 cases hy with
 | agg hr2 =>
 rename_i vs us
 unfold mR at ht
 split at ht
 ·rename_i fs hu
  split at ht
  ·rename_i hc
   have qY : P.underlying t = some (.struct (P.fieldsOf t)) := by simp [Program.fieldsOf, hu]
   have hfs : P.fieldsOf t = fs := by simp [Program.fieldsOf, hu]
   have h0 : (Op.equal t (.agg vs.toArray) (.agg us.toArray)).run P w = .ok r w := by
    have h1 := run_equalIn_struct (P := P) w 9999 t vs.toArray us.toArray qY hc.1
    have h2 := nL (P := P) (β := β) (w := w) (h := h) 9998 fs.toList 0 ks cs ds vs us ht (by simpa using hr1) (by simpa using hr2) r hd
    rw [hfs] at h1
    exact h1.trans h2
   obtain ⟨e1, e2⟩ := v7 (t := t) (u := .agg vs.toArray) (v := .agg us.toArray) (by simp) (by simp) (by simp) (by simp)
   constructor
   ·cases neg <;> simp [eqGuard, hc.2]
   ·cases neg <;> simp [e1, e2, h0]
  ·cases ht
 ·cases ht
end
section
variable {P : Program} {β β' : Bm} {w w' : World} {h h' : Zb}
theorem FJ {op : UnOp} {x d : DV} {v : Value} (hx : RV β w h x v) (hd : ai op x = some d) : ∃ r, (Op.unary op v).run P w = .ok r w ∧ RV β w h d r := by
 unfold ai at hd
 split at hd <;> first | cases hd | skip
 all_goals cases hx
 all_goals (refine ⟨_, ?_, by constructor⟩)
 ·simp [Op.unary, Op.intArith]
 ·simp [Op.unary, Op.intBits]
 ·simp [Op.unary]
theorem yV {src dst : TypeId} {j k : IntKind} {q : IntKind} {n : Int} (hs : P.underlying src = some (.int j)) (ht : P.underlying dst = some (.int k)) :
 (convert src dst (.int q n)).run P w = .ok (.int k (k.wrap n)) w := by
 simp [convert, run_underlying hs, run_underlying ht, Conv.intToInt]
theorem zm {xs : List DV} {vs : List Value} (hr : RVs β w h (flat xs) vs) (hw : ∀ x ∈ xs, Wc 1 x) : ∀ {bs}, xs.mapM byteOf = some bs → ∃ ns : List Int, vs = ns.map (fun n => Value.int .u8 n) ∧ bs = ns.map (fun n => UInt8.ofNat n.toNat) := by
 induction xs generalizing vs with
 | nil =>
  intro bs hb
  simp at hb; subst hb
  simp [flat] at hr
  cases hr
  exact ⟨[], rfl, rfl⟩
 | cons x l ih =>
  intro bs hb
  rw [List.mapM_cons] at hb
  cases hx : byteOf x with
  | none => rw [hx] at hb; simp at hb
  | some b =>
   rw [hx] at hb
   cases hl : l.mapM byteOf with
   | none => rw [hl] at hb; simp at hb
   | some bs' =>
    rw [hl] at hb
    simp at hb; subst hb
    have NV : ∃ n, x = .int .u8 n ∧ b = UInt8.ofNat n.toNat := by
     unfold byteOf at hx
     split at hx
     ·injection hx with hx; exact ⟨_, rfl, hx.symm⟩
     ·cases hx
    obtain ⟨n, rfl, rfl⟩ := NV
    simp only [flat, List.flatMap_cons, DV.cells, List.singleton_append] at hr
    cases hr with
    | cons hd hs =>
     cases hd
     obtain ⟨ns, rfl, rfl⟩ := ih hs (fun y hy => hw y (by simp [hy])) hl
     exact ⟨n :: ns, rfl, rfl⟩
theorem yU (hI : Inv β w h) {src dst e : TypeId} {x : DV} {v : Value} {xs : List DV} {bs : List UInt8} (hs : P.underlying src = some (.slice e)) (he : P.underlying e = some (.int .u8)) (ht : P.underlying dst = some .string)
 (hx : RV β w h x v) (hv : vw h 1 x = some xs) (hb : xs.mapM byteOf = some bs) : (convert src dst v).run P w = .ok (.string ⟨bs.toArray⟩) w := by
 obtain ⟨A, n, cap, rfl⟩ := gV hx hv
 obtain ⟨hn, hw, hc⟩ := gW hI hx hv
 rcases A with _ | a
 ·rcases hc with rfl | ⟨a, vs, ha, _⟩
  ·simp at hb; subst hb
   simp [convert, run_underlying hs, run_underlying he, run_underlying ht, Conv.bytesToString]
   rfl
  ·cases ha
 ·have hvs : ∃ vs, RVs β w h (flat xs) vs ∧ ∀ j v, vs[j]? = some v → w.cell? (a.add j) = some v := by
   rcases hc with rfl | ⟨a', vs, ha, h1, h2⟩
   ·exact ⟨[], .nil, by simp⟩
   ·injection ha with ha; subst ha; exact ⟨vs, h1, h2⟩
  obtain ⟨vs, h1, h2⟩ := hvs
  obtain ⟨ns, rfl, rfl⟩ := zm h1 hw hb
  have hl : ns.length = n := by
   have := h1.len
   rw [bY (sz := 1) (fun x hx => (hw x hx).1)] at this
   simp at this; omega
  have h3 := run_loadCells_list (P := P) w a _ h2
  rw [List.length_map, hl] at h3
  have h4 := run_bytesToString (P := P) w a n cap ns h3
  rw [run_convert_bytes_string w src dst e _ _ _ hs he ht, h4]
  congr 2
  rw [foldl_push_bytes]
  simp [ByteArray.empty, ByteArray.emptyWithCapacity]
  rfl
theorem sG (off : Nat) : ∀ (vs : List Value) (k : Nat) (cells : Array Value), off + k + vs.length ≤ cells.size →
 ((vs.zipIdx k).foldl (fun (cs : Array Value) (p : Value × Nat) => cs.setIfInBounds (off + p.2) p.1) cells).toList = cells.toList.take (off + k) ++ vs ++ cells.toList.drop (off + k + vs.length)
 | [], k, cells, _ => by simp
 | v :: vs, k, cells, hl => by
  simp only [List.zipIdx_cons, List.foldl_cons]
  rw [sG off vs (k + 1) _ (by simp at hl ⊢; omega)]
  have hk : off + k < cells.toList.length := by simp at hl ⊢; omega
  have h1 : (cells.setIfInBounds (off + k) v).toList = cells.toList.take (off + k) ++ v :: cells.toList.drop (off + k + 1) := by
   rw [Array.toList_setIfInBounds, List.set_eq_take_append_cons_drop, if_pos hk]
  have hlen : (cells.toList.take (off + k)).length = off + k := by rw [List.length_take]; omega
  rw [h1]
  rw [show off + (k + 1) = (cells.toList.take (off + k)).length + 1 by rw [hlen]; omega, List.take_length_add_append]
  rw [show (cells.toList.take (off + k)).length + 1 + vs.length = (cells.toList.take (off + k)).length + (1 + vs.length) by omega, List.drop_length_add_append]
  simp only [List.take_succ_cons, List.take_zero, List.append_assoc, List.singleton_append, List.cons_append, List.nil_append, List.length_cons]
  rw [show 1 + vs.length = vs.length + 1 by omega, List.drop_succ_cons, List.drop_drop]
  simp [Nat.add_assoc, Nat.add_comm, Nat.add_left_comm]
theorem nq (a : Array Value) : a.zipIdx.toList = a.toList.zipIdx := by simp
theorem run_places : ∀ (fs : List Field) {pl : List (Nat × Nat)}, placesOf P fs = some pl → (fs.mapM (fun f => (do pure (f.offset, ← sizeOf f.type) : Sem (Nat × Nat)))).run P w = .ok pl w
 | [], pl, hp => by simp [placesOf] at hp; subst hp; simp
 | f :: fs, pl, hp => by
  unfold placesOf at hp
  split at hp
  ·rename_i sz r h1 h2
   injection hp with hp; subst hp
   have ih := run_places fs h2
   simp only [List.mapM_cons, Sem.run_bind, run_sizeOf h1, Result.andThen_ok, Sem.run_pure, ih]
  ·cases hp
theorem tN {e : Env} {a : Act} (hE : ER β w h e a) {pl : List (Nat × Nat)} : ∀ (ps : List (Nat × Operand)) {l : List (Nat × Nat × Od)} {cs ds : List DV} {vs : Array Value}, iK pl ps = some l → RVs β w h cs vs.toList →
 ZM cs (l.map fun p => (p.1, p.2.1, p.2.2.v e)) = some ds → ∃ us, Instr.fill (fun i => pl[i]?) vs (ps.map fun (i, x) => (i, a.eval x)) = some us ∧ RVs β w h ds us.toList
 | [], l, cs, ds, vs, hl, hr, hf => by
  simp [iK] at hl; subst hl
  simp [ZM] at hf; subst hf
  exact ⟨vs, rfl, hr⟩
 | (i, x) :: ps, l, cs, ds, vs, hl, hr, hf => by
  unfold iK at hl
  split at hl
  ·rename_i q hq
   split at hl
   ·rename_i o r ho pu
    injection hl with hl; subst hl
    simp only [List.map_cons, ZM] at hf
    split at hf
    ·rename_i hc
     have hx := Yr hE ho
     have hu := hc.1
     have lU := hx.cells hu
     have hsz : (a.eval x).cells.size = q.2 := by have := lU.len; simp at this; rw [← this]; exact hc.2.1
     have hvl := hr.len
     have hfit : q.1 + (a.eval x).cells.size ≤ vs.size := by rw [hsz]; simp at hvl; omega
     have ZX : (((a.eval x).cells.zipIdx).foldl (fun (cs : Array Value) (p : Value × Nat) => cs.setIfInBounds (q.1 + p.2) p.1) vs).toList = vs.toList.take q.1 ++ (a.eval x).cells.toList ++ vs.toList.drop (q.1 + (a.eval x).cells.toList.length) := by
      rw [← Array.foldl_toList, nq]
      have := sG q.1 (a.eval x).cells.toList 0 vs (by simpa using hfit)
      simpa using this
     have hr2 : RVs β w h (splice cs q.1 (o.v e).cells) (((a.eval x).cells.zipIdx).foldl (fun (cs : Array Value) (p : Value × Nat) => cs.setIfInBounds (q.1 + p.2) p.1) vs).toList := by
      rw [ZX]; exact hr.splice lU q.1
     obtain ⟨us, h1, h2⟩ := tN hE ps pu hr2 hf
     refine ⟨us, ?_, h2⟩
     simp only [List.map_cons, Instr.fill, hq]
     have AH : ¬ ((a.eval x).cells.size ≠ q.2 || decide (q.1 + (a.eval x).cells.size > vs.size)) = true := by simp [hsz]; omega
     rw [if_neg AH]
     exact h1
    ·cases hf
   ·cases hl
  ·cases hl
end
section
variable {P : Program} {β β' : Bm} {w w' : World} {h h' : Zb}
theorem aj.allocG (hI : Inv β w h) (x : HO) {nb : Nat} (hg : w.grownBy w' none) (hnb : w.heap.size ≤ nb) : aj β w h (upd β h.length nb) w' (h ++ [x]) where
 os := hg.os
 tape := hg.tape
 output := hg.output
 size := hg.size
 len := by simp
 keep b hb _ := hg.block b hb (by simp)
 old o ho hn := by rw [Yh _ _ (by omega : o ≠ h.length)]; exact hn
 new o b hb := by
  by_cases ho : o = h.length
  ·subst ho; rw [ZW] at hb; injection hb with hb; subst hb; exact .inr hnb
  ·rw [Yh _ _ ho] at hb; exact .inl hb
 obj o b y hb hy := by
  have hlt := hI.lt o b hb
  have ho : o ≠ h.length := by omega
  have hb' : upd β h.length nb o = some b := by rw [Yh _ _ ho]; exact hb
  have hy' : (h ++ [x])[o]? = some y := by rw [List.getElem?_append_left hlt.1]; exact hy
  cases y with
  | box t cs => exact ⟨hb', cs, hy'⟩
  | frz e sz g xs => exact ⟨hb', hy'⟩
  | map kt et es => exact ⟨hb', es, hy'⟩
  | row e sz g xs => exact ⟨b, g, xs, hb', .inl hy', Nat.le_refl _, fun _ => ⟨rfl, rfl, fun cur hc => ⟨cur, by rw [hg.block b hlt.2 (by simp)]; exact hc, rfl⟩⟩⟩
theorem Inv.allocG (hI : Inv β w h) (x : HO) {nb : Nat} (hg : w.grownBy w' none) (hnb : w.heap.size ≤ nb) (hn2 : nb < w'.heap.size) (hx : OR (upd β h.length nb) w' (h ++ [x]) nb x) : Inv (upd β h.length nb) w' (h ++ [x]) := by
 refine hI.step (aj.allocG hI x hg hnb) (fun o b hb => ?_) (fun o o' b hb hb' => ?_) (mG hI.tot _ _) (fun o b y hb hy => ?_)
 ·by_cases ho : o = h.length
  ·subst ho; rw [ZW] at hb; injection hb with hb; subst hb; exact ⟨by simp, hn2⟩
  ·rw [Yh _ _ ho] at hb
   have := hI.lt o b hb
   have h2 := hg.size
   exact ⟨by simp; omega, by omega⟩
 ·by_cases ho : o = h.length
  ·subst ho; rw [ZW] at hb; injection hb with hb; subst hb
   by_cases aF : o' = h.length
   ·exact aF.symm
   ·rw [Yh _ _ aF] at hb'
    have := hI.lt o' _ hb'
    omega
  ·rw [Yh _ _ ho] at hb
   by_cases aF : o' = h.length
   ·subst aF; rw [ZW] at hb'; injection hb' with hb'; subst hb'
    have := hI.lt o _ hb
    omega
   ·rw [Yh _ _ aF] at hb'
    exact hI.inj o o' b hb hb'
 ·by_cases ho : o = h.length
  ·subst ho; rw [ZW] at hb; injection hb with hb; subst hb
   have : y = x := by simpa using hy.symm
   subst this
   exact .inr hx
  ·rw [Yh _ _ ho] at hb
   have hlt := hI.lt o b hb
   rw [List.getElem?_append_left hlt.1] at hy
   exact .inl ⟨hb, hy, hg.block b hlt.2 (by simp)⟩
theorem aj.moveG (hI : Inv β w h) {o b nb e sz g : Nat} {xs ys : List DV} (hg : w.grownBy w' (some b)) (hnb : nb = b ∨ w.heap.size ≤ nb) (hb : β o = some b) (hx : h[o]? = some (.row e sz g xs)) :
 aj β w h (upd β o nb) w' (h.set o (.row e sz (g + 1) ys)) where
 os := hg.os
 tape := hg.tape
 output := hg.output
 size := hg.size
 len := by simp
 keep k hk ha := hg.block k hk (fun e1 => by
  injection e1 with e1; subst e1
  obtain ⟨e, sz, g, xs, h1⟩ := ha o hb
  rw [hx] at h1
  cases h1)
 old k _ hn := by rw [Yh _ _ (fun e => by subst e; rw [hb] at hn; cases hn)]; exact hn
 new k c hk := by
  by_cases ho : k = o
  ·subst ho; rw [ZW] at hk; injection hk with hk; subst hk
   rcases hnb with rfl | hnb
   ·exact .inl hb
   ·exact .inr hnb
  ·rw [Yh _ _ ho] at hk; exact .inl hk
 obj o' b' y hb' hy := by
  by_cases ho : o' = o
  ·subst ho
   rw [hb] at hb'; injection hb' with hb'; subst hb'
   rw [hx] at hy; injection hy with hy; subst hy
   exact ⟨nb, g + 1, ys, ZW _ _ _, .inl (List.getElem?_set_self (hI.lt _ _ hb).1), by omega, fun hg => by omega⟩
  ·have hlt := hI.lt o' b' hb'
   have hne : b' ≠ b := fun e1 => by subst e1; exact ho (hI.inj o' o b' hb' hb)
   have hy' : (h.set o (.row e sz (g + 1) ys))[o']? = some y := by rw [List.getElem?_set_ne (Ne.symm ho)]; exact hy
   have gB : upd β o nb o' = some b' := by rw [Yh _ _ ho]; exact hb'
   cases y with
   | box t cs => exact ⟨gB, cs, hy'⟩
   | frz e sz g xs => exact ⟨gB, hy'⟩
   | map kt et es => exact ⟨gB, es, hy'⟩
   | row e sz g xs => exact ⟨b', g, xs, gB, .inl hy', Nat.le_refl _, fun _ => ⟨rfl, rfl, fun cur hc => ⟨cur, by rw [hg.block b' hlt.2 (by simpa using hne)]; exact hc, rfl⟩⟩⟩
theorem Inv.moveG (hI : Inv β w h) {o b nb e sz g : Nat} {xs ys : List DV} (hg : w.grownBy w' (some b)) (hnb : nb = b ∨ w.heap.size ≤ nb) (hn2 : nb < w'.heap.size) (hb : β o = some b) (hx : h[o]? = some (.row e sz g xs))
 (hr : dY (upd β o nb) w' (h.set o (.row e sz (g + 1) ys)) nb e sz ys) : Inv (upd β o nb) w' (h.set o (.row e sz (g + 1) ys)) := by
 refine hI.step (aj.moveG hI hg hnb hb hx) (fun k c hk => ?_) (fun k k' c hk hk' => ?_) (wR hI.tot _ _ _) (fun k c y hk hy => ?_)
 ·by_cases ho : k = o
  ·subst ho; rw [ZW] at hk; injection hk with hk; subst hk
   exact ⟨by simpa using (hI.lt k b hb).1, hn2⟩
  ·rw [Yh _ _ ho] at hk
   have := hI.lt k c hk
   have h2 := hg.size
   exact ⟨by simpa using this.1, by omega⟩
 ·by_cases ho : k = o
  ·subst ho; rw [ZW] at hk; injection hk with hk; subst hk
   by_cases aF : k' = k
   ·exact aF.symm
   ·rw [Yh _ _ aF] at hk'
    have h3 := hI.lt k' _ hk'
    rcases hnb with rfl | hnb
    ·exact absurd (hI.inj k' k nb hk' hb) aF
    ·omega
  ·rw [Yh _ _ ho] at hk
   by_cases aF : k' = o
   ·subst aF; rw [ZW] at hk'; injection hk' with hk'; subst hk'
    have h3 := hI.lt k _ hk
    rcases hnb with rfl | hnb
    ·exact absurd (hI.inj k k' nb hk hb) ho
    ·omega
   ·rw [Yh _ _ aF] at hk'
    exact hI.inj k k' c hk hk'
 ·by_cases ho : k = o
  ·subst ho; rw [ZW] at hk; injection hk with hk; subst hk
   rw [List.getElem?_set_self (hI.lt k b hb).1] at hy
   injection hy with hy; subst hy
   exact .inr hr
  ·rw [Yh _ _ ho] at hk
   have hlt := hI.lt k c hk
   have hne : c ≠ b := fun e1 => by subst e1; exact ho (hI.inj k o c hk hb)
   rw [List.getElem?_set_ne (Ne.symm ho)] at hy
   exact .inl ⟨hk, hy, hg.block c hlt.2 (by simpa using hne)⟩
theorem qM {xs : List DV} {lo n : Nat} {p : DV → Prop} (h : ∀ x ∈ xs, p x) : ∀ x ∈ (xs.drop lo).take n, p x := fun x hx => h x (List.mem_of_mem_drop (List.mem_of_mem_take hx))
theorem mQ (hI : Inv β w h) {o g lo n b e sz cap : Nat} {c : Bool} {a : Addr} {xs : List DV} (hb : β o = some b) (hx : h[o]? = some (.frz e sz g xs)) (hc : n ≤ cap) (cK : c = true → cap = n) (hl : lo + n ≤ xs.length) (ha : 0 < n → a = ⟨b, lo * sz, none⟩) (hnr : ∀ x ∈ xs, Nr x) :
 RV β w h (.list sz ((xs.drop lo).take n) c) (.slice (some a) n cap) := by
 obtain ⟨cur, C, h1, h2, h3, h4, h5, h6, h7⟩ := hI.ob _ _ _ hb hx
 have hw : ∀ x ∈ xs, x.cells.length = sz := fun x hx => (h6 x hx).1
 refine .list (vs := ((cur.toList.take (xs.length * sz)).drop (lo * sz)).take (n * sz)) (by rw [List.length_take, List.length_drop]; omega) hc cK (qM hnr) (qM h6) ?_ ?_
 ·rw [iE n (fun x hx => hw x (List.mem_of_mem_drop hx)), kZ lo hw]
  exact (h7.drop _).take _
 ·intro j v hj
  have hn : 0 < n := by
   rcases Nat.eq_zero_or_pos n with h0 | h0
   ·subst h0; simp at hj
   ·exact h0
  rw [ha hn]
  refine ⟨fun o' aF => ?_, ?_⟩
  ·have := hI.inj o' o b aF hb
   subst this
   exact ⟨_, _, _, _, hx⟩
  ·rw [gU, cell_of_row w b _ cur e (0, 0) h1, ← Array.getElem?_toList]
   rw [List.getElem?_take] at hj
   split at hj
   ·rw [List.getElem?_drop, List.getElem?_take] at hj
    split at hj
    ·exact hj
    ·cases hj
   ·cases hj
theorem xE (hI : Inv β w h) {d d' : DV} {v : Value} (hr : RV β w h d v) (hd : uM h d = some (d', h')) : aj β w h β w h' ∧ Inv β w h' ∧ RV β w h' d' v := by
 unfold uM at hd
 split at hd
 ·cases hr with
  | row hb hc cK ho hg hs =>
  rename_i o g lo n c a cap b e sz g' xs
  rcases ho with ho | ho
  ·rw [ho] at hd
   simp only at hd
   split at hd
   ·rename_i hq
    obtain ⟨rfl, hl, hnr⟩ := hq
    injection hd with hd; injection hd with h1 h2; subst h1; subst h2
    have he := aj.freeze hI hb ho
    have hi := Inv.freeze hI hb ho
    refine ⟨he, hi, ?_⟩
    have hx : (h.set o (.frz e sz g' xs))[o]? = some (.frz e sz g' xs) := List.getElem?_set_self (hI.lt _ _ hb).1
    exact mQ hi hb hx hc cK hl (hs rfl).2.1 hnr
   ·cases hd
  ·rw [ho] at hd
   simp only at hd
   split at hd
   ·rename_i hq
    obtain ⟨rfl, hl, hnr⟩ := hq
    injection hd with hd; injection hd with h1 h2; subst h1; subst h2
    exact ⟨aj.refl _ _ _, hI, mQ hI hb ho hc cK hl (hs rfl).2.1 hnr⟩
   ·cases hd
 ·injection hd with hd; injection hd with h1 h2; subst h1; subst h2
  exact ⟨aj.refl _ _ _, hI, hr⟩
theorem vq : ∀ {ds ds' : List DV} {vs : List Value} {h h' : Zb}, Inv β w h → RVs β w h ds vs → uN ds h = some (ds', h') → aj β w h β w h' ∧ Inv β w h' ∧ RVs β w h' ds' vs
 | [], ds', vs, h, h', hI, hr, hd => by
  simp [uN] at hd
  obtain ⟨rfl, rfl⟩ := hd
  exact ⟨aj.refl _ _ _, hI, hr⟩
 | d :: l, ds', vs, h, h', hI, hr, hd => by
  unfold uN at hd
  cases hr with
  | cons h1 h2 =>
  split at hd
  ·rename_i d1 k1 cz
   split at hd
   ·rename_i l1 k2 iX
    injection hd with hd; injection hd with e1 e2; subst e1; subst e2
    obtain ⟨a1, a2, a3⟩ := xE hI h1 cz
    obtain ⟨b1, b2, b3⟩ := vq a2 (RVs.ext a1 h2) iX
    exact ⟨aj.trans hI a1 b1, b2, .cons (RV.ext b1 a3) b3⟩
   ·cases hd
  ·cases hd
theorem Df (hI : Inv β w h) {d d' : DV} {v : Value} (hr : RV β w h d v) (hd : rJ h d = some (d', h')) : aj β w h β w h' ∧ Inv β w h' ∧ RV β w h' d' v := by
 unfold rJ at hd
 split at hd
 ·cases hr with
  | agg hr =>
  split at hd
  ·rename_i cs' k hk
   injection hd with hd; injection hd with e1 e2; subst e1; subst e2
   obtain ⟨a1, a2, a3⟩ := vq hI hr hk
   exact ⟨a1, a2, .agg a3⟩
  ·cases hd
 ·exact xE hI hr hd
theorem tO : ∀ {ds ds' : List DV} {vs : List Value} {h h' : Zb}, Inv β w h → RVs β w h ds vs → cM ds h = some (ds', h') → aj β w h β w h' ∧ Inv β w h' ∧ RVs β w h' ds' vs
 | [], ds', vs, h, h', hI, hr, hd => by
  simp [cM] at hd
  obtain ⟨rfl, rfl⟩ := hd
  exact ⟨aj.refl _ _ _, hI, hr⟩
 | d :: l, ds', vs, h, h', hI, hr, hd => by
  unfold cM at hd
  cases hr with
  | cons h1 h2 =>
  split at hd
  ·rename_i d1 k1 cz
   split at hd
   ·rename_i l1 k2 iX
    injection hd with hd; injection hd with e1 e2; subst e1; subst e2
    obtain ⟨a1, a2, a3⟩ := Df hI h1 cz
    obtain ⟨b1, b2, b3⟩ := tO a2 (RVs.ext a1 h2) iX
    exact ⟨aj.trans hI a1 b1, b2, .cons (RV.ext b1 a3) b3⟩
   ·cases hd
  ·cases hd
end
section
variable {P : Program} {β β' : Bm} {w w' : World} {h h' : Zb}
theorem rC (hI : Inv β w h) {s : TypeId} {f off sz : Nat} {fs : Array Field} {fl : Field} {x d : DV} {v : Value} (hs : P.underlying s = some (.struct fs)) (hf : fs[f]? = some fl) (hz : bW P fl.type = some sz) (h0 : sz ≠ 0) (ho : fl.offset = off)
 (hx : RV β w h x v) (hd : (match x with | .ref o p => some (DV.ref o (p + off)) | .elem d s i p => some (DV.elem d s i (p + off)) | _ => none) = some d) :
 ∃ r, (Instr.fieldAt s v f).run P w = .ok r w ∧ RV β w h d r := by
 have hrun : ∀ a : Addr, (Instr.fieldAt s (.pointer (some a)) f).run P w = .ok (.pointer (some (a.add off))) w := by
  intro a
  simp [Instr.fieldAt, run_underlying hs, hf, Instr.sureAddr, fieldPlace, run_sizeOf hz, h0, ho]
 cases hx with
 | ref hb AE =>
  simp only at hd; injection hd with hd; subst hd
  exact ⟨_, hrun _, by rw [gU]; exact .ref hb AE⟩
 | elem h1 hi =>
  simp only at hd; injection hd with hd; subst hd
  exact ⟨_, hrun _, by rw [add_add', Nat.add_assoc]; exact .elem h1 hi⟩
 | bool | int | str | nilp | nils | list | row | nilm | map | nilf | func | nili | ifc | agg | tup | undef => simp at hd
theorem Dc (hI : Inv β w h) {s : TypeId} {f off sz : Nat} {ag : Bool} {fs : Array Field} {fl : Field} {cs : List DV} {d : DV} {v : Value} (hs : P.underlying s = some (.struct fs)) (hf : fs[f]? = some fl)
 (hz : bW P fl.type = some sz) (hg : gR P fl.type = some ag) (ho : fl.offset = off) (hx : RV β w h (.agg cs) v) (hd : Yv ag sz cs off = some d) :
 ∃ r, (Instr.field s v f).run P w = .ok r w ∧ RV β w h d r := by
 cases hx with
 | agg hr =>
  rename_i vs
  have h1 : (Instr.field s (.agg vs.toArray) f).run P w = (part fl.type vs.toArray off).run P w := by
   simp [Instr.field, run_underlying hs, hf, asAgg, ho]
  rw [h1]
  unfold part
  rw [Sem.run_bind, kO hg]
  unfold Yv at hd
  cases ag with
  | true =>
   simp only [if_true] at hd
   split at hd
   ·rename_i hl
    injection hd with hd; subst hd
    refine ⟨_, by simp [run_sizeOf hz]; rfl, ?_⟩
    exact .agg ((hr.drop off).take sz)
   ·cases hd
  | false =>
   simp only [Bool.false_eq_true, if_false] at hd
   obtain ⟨u, hu, jM⟩ := hr.get hd
   exact ⟨u, by simp [hu], jM⟩
theorem yY (hI : Inv β w h) {t e : TypeId} {sz : Nat} {x : DV} {v : Value} {xs : List DV} {k : IntKind} {n : Int} (ht : P.underlying t = some (.slice e)) (hz : bW P e = some sz)
 (hx : RV β w h x v) (hv : vw h sz x = some xs) (h1 : 0 ≤ n) (h2 : n < xs.length) :
 ∃ r, (Instr.indexAt t v (.int k n)).run P w = .ok r w ∧ RV β w h (.elem x sz n.toNat 0) r := by
 obtain ⟨A, m, cap, rfl⟩ := gV hx hv
 obtain ⟨rfl, hw, hc⟩ := gW hI hx hv
 rcases hc with rfl | ⟨a, vs, rfl, hr, hc⟩
 ·simp at h2; omega
 ·have he : P.elem t = e := by simp [Program.elem, ht]
  refine ⟨.pointer (some (a.add (n.toNat * sz))), ?_, ?_⟩
  ·rw [run_indexAt_slice w t a _ cap k n (by rw [he]; exact ht), if_pos ⟨h1, h2⟩, he, run_sizeOf hz]
   rfl
  ·exact .elem (p := 0) hx (by omega)
theorem pR (hI : Inv β w h) {t e : TypeId} {len sz : Nat} {x d : DV} {v : Value} {k : IntKind} {n : Int} (ht : P.underlying t = some (.array len e)) (hz : bW P e = some sz)
 (hx : RV β w h x v) (h1 : 0 ≤ n ∧ n < len) (hd : (match x with | .ref o p => some (DV.ref o (p + n.toNat * sz)) | .elem d s i p => some (DV.elem d s i (p + n.toNat * sz)) | _ => none) = some d) :
 ∃ r, (Instr.indexAt t v (.int k n)).run P w = .ok r w ∧ RV β w h d r := by
 have he : P.elem t = e := by simp [Program.elem, ht]
 have hl : P.arrayLen t = len := by simp [Program.arrayLen, ht]
 have hrun : ∀ a : Addr, (Instr.indexAt t (.pointer (some a)) (.int k n)).run P w = .ok (.pointer (some (a.add (n.toNat * sz)))) w := by
  intro a
  rw [run_indexAt_array w t a k n (by rw [he, hl]; exact ht), hl, if_pos h1, he, run_sizeOf hz]
  rfl
 cases hx with
 | ref hb AE =>
  simp only at hd; injection hd with hd; subst hd
  exact ⟨_, hrun _, by rw [gU]; exact .ref hb AE⟩
 | elem h1 hi =>
  simp only at hd; injection hd with hd; subst hd
  exact ⟨_, hrun _, by rw [add_add', Nat.add_assoc]; exact .elem h1 hi⟩
 | bool | int | str | nilp | nils | list | row | nilm | map | nilf | func | nili | ifc | agg | tup | undef => simp at hd
theorem Bg {t : TypeId} {s : ByteArray} {b : UInt8} {k : IntKind} {n : Int} (ht : P.underlying t = some .string) (h1 : 0 ≤ n) (hb : s.data.toList[n.toNat]? = some b) :
 (Instr.index t (.string s) (.int k n)).run P w = .ok (.int .u8 b.toNat) w := by
 have h2 : s[n.toNat]? = some b := by
  have hl := (List.getElem?_eq_some_iff.1 hb)
  obtain ⟨hlt, he⟩ := hl
  have C5 : n.toNat < s.size := by simpa using hlt
  rw [getElem?_pos s n.toNat C5]
  rw [← he]
  rfl
 simp [Instr.index, run_underlying ht, asIntOf, h1, h2]
theorem ek {x : Value} {k : IntKind} {n : Int} {y : Nat} {code : BoundsCode} (hx : x = .int k n) (h0 : 0 ≤ n) (h1 : n.toNat ≤ y) : (Instr.sliceBound x y code).run P w = .ok n.toNat w := by
 subst hx
 have : n ≤ y := by omega
 simp [Instr.sliceBound, asIntOf, h0, this]
theorem uY {e : Env} {a : Act} (hE : ER β w h e a) {x : Operand} {o : Od} (hx : cm x = some o) {m : Nat} {d : Nat} (hi : aY e d (some o) = some m) : ∃ k n, a.eval x = .int k n ∧ 0 ≤ n ∧ n.toNat = m := by
 have h1 := Yr hE hx
 simp only [aY] at hi
 split at hi
 ·rename_i k n hv
  rw [hv] at h1
  split at hi
  ·rename_i h0
   injection hi with hi
   generalize hu : a.eval x = u at h1
   cases h1
   exact ⟨_, _, rfl, h0, hi⟩
  ·cases hi
 ·cases hi
theorem qC {e : Env} {a : Act} (hE : ER β w h e a) (Ap : Bool) {len cap : Nat} (hlc : len ≤ cap) {lo hi mx : Option Operand} {l' h' m' : Option Od} (h1 : eF lo = some l') (h2 : eF hi = some h') (h3 : eF mx = some m') {l m : Nat}
 (hl : aY e 0 l' = some l) (hh : aY e len h' = some m) (Oe : l ≤ m) (hml : m ≤ len) (gA : ∀ o, m' = some o → aY e 0 (some o) = some m ∧ h' ≠ none) :
 (Instr.sliceBounds Ap len cap (lo.map a.eval) (hi.map a.eval) (mx.map a.eval)).run P w = .ok (l, m, if mx.isSome then m else cap) w := by
 have hlo : ∀ x, lo = some x → ∃ k n, a.eval x = .int k n ∧ 0 ≤ n ∧ n.toNat = l := by
  rintro x rfl
  unfold eF at h1
  simp only at h1
  split at h1
  ·rename_i o ho; injection h1 with h1; subst h1; exact uY hE ho hl
  ·cases h1
 have C6 : lo = none → l = 0 := by
  rintro rfl
  simp [eF] at h1; subst h1
  simp [aY] at hl; exact hl.symm
 have hhi : ∀ x, hi = some x → ∃ k n, a.eval x = .int k n ∧ 0 ≤ n ∧ n.toNat = m := by
  rintro x rfl
  unfold eF at h2
  simp only at h2
  split at h2
  ·rename_i o ho; injection h2 with h2; subst h2; exact uY hE ho hh
  ·cases h2
 have Io : hi = none → m = len ∧ h' = none := by
  rintro rfl
  simp [eF] at h2; subst h2
  simp [aY] at hh; exact ⟨hh.symm, rfl⟩
 have M0 : ∀ x, mx = some x → (∃ k n, a.eval x = .int k n ∧ 0 ≤ n ∧ n.toNat = m) ∧ h' ≠ none := by
  rintro x rfl
  unfold eF at h3
  simp only at h3
  split at h3
  ·rename_i o ho; injection h3 with h3; subst h3; exact ⟨uY hE ho (gA _ rfl).1, (gA _ rfl).2⟩
  ·cases h3
 unfold Instr.sliceBounds
 cases mx with
 | none =>
  cases hi with
  | none =>
   obtain ⟨rfl, _⟩ := Io rfl
   cases lo with
   | none => obtain rfl := C6 rfl; simp
   | some x =>
    obtain ⟨k, n, e1, e2, e3⟩ := hlo x rfl
    simp [ek e1 e2 (by omega : n.toNat ≤ m), e3]
  | some y =>
   obtain ⟨k2, n2, f1, f2, f3⟩ := hhi y rfl
   cases lo with
   | none => obtain rfl := C6 rfl; cases Ap <;> simp [ek f1 f2 (by omega : n2.toNat ≤ cap), f3]
   | some x =>
    obtain ⟨k, n, e1, e2, e3⟩ := hlo x rfl
    cases Ap <;> simp [ek f1 f2 (by omega : n2.toNat ≤ cap), f3, ek e1 e2 (by omega : n.toNat ≤ m), e3]
 | some z =>
  obtain ⟨⟨k3, n3, g1, g2, g3⟩, hne⟩ := M0 z rfl
  cases hi with
  | none => exact absurd (Io rfl).2 hne
  | some y =>
   obtain ⟨k2, n2, f1, f2, f3⟩ := hhi y rfl
   cases lo with
   | none => obtain rfl := C6 rfl; cases Ap <;> simp [ek g1 g2 (by omega : n3.toNat ≤ cap), g3, ek f1 f2 (by omega : n2.toNat ≤ m), f3]
   | some x =>
    obtain ⟨k, n, e1, e2, e3⟩ := hlo x rfl
    cases Ap <;> simp [ek g1 g2 (by omega : n3.toNat ≤ cap), g3, ek f1 f2 (by omega : n2.toNat ≤ m), f3, ek e1 e2 (by omega : n.toNat ≤ m), e3]
theorem sF {mx : Bool} {k : IntKind} : ∀ {ds : List DV} {vs : List Value} {a r : Int}, RVs β w h ds vs → mm mx k a ds = some r →
 (vs.foldlM (if mx then Builtin.max2 else Builtin.min2) (.int k a)).run P w = .ok (.int k r) w
 | [], _, a, r, hr, hm => by
  cases hr
  simp [mm] at hm; subst hm
  simp
 | d :: ds, _, a, r, hr, hm => by
  cases hr with
  | cons hd hs =>
   rename_i v vs
   cases d <;> simp only [mm] at hm <;> try cases hm
   rename_i k' b
   split at hm
   ·rename_i hk
    subst hk
    cases hd
    have ih := sF hs hm
    rw [List.foldlM_cons, Sem.run_bind]
    cases mx with
    | true => simpa [Builtin.max2] using ih
    | false => simpa [Builtin.min2] using ih
   ·cases hm
theorem vW {a : Addr} {vs : List Value} (hc : eM β w h a vs) (p q : Nat) : eM β w h (a.add p) ((vs.drop p).take q) := by
 intro j v hj
 rw [List.getElem?_take] at hj
 split at hj
 ·rw [List.getElem?_drop] at hj
  obtain ⟨h1, h2⟩ := hc (p + j) v hj
  exact ⟨by rw [add_block]; exact h1, by rw [add_add']; exact h2⟩
 ·cases hj
theorem Db (hI : Inv β w h) {t e : TypeId} {sz : Nat} {x d : DV} {A : Option Addr} {n cap : Nat} {xs : List DV} {l m : Nat} {cc full : Bool} {lo hi mx : Option Value} (ht : P.underlying t = some (.slice e)) (hz : bW P e = some sz)
 (hx : RV β w h x (.slice A n cap)) (hv : vw h sz x = some xs) (Oe : l ≤ m) (hml : m ≤ xs.length) (cK : cc = full)
 (hb : ∀ c, xs.length ≤ c → (Instr.sliceBounds true xs.length c lo hi mx).run P w = .ok (l, m, if full then m else c) w)
 (hd : dI h x l m xs.length cc = some (d, h')) :
 h' = h ∧ ∃ r, (Instr.sliceAt t (.slice A n cap) lo hi mx).run P w = .ok r w ∧ RV β w h d r := by
 subst cK
 unfold dI at hd
 have hrun : ∀ (A : Option Addr) (c : Nat), xs.length ≤ c → (Instr.sliceAt t (.slice A xs.length c) lo hi mx).run P w =
  .ok (.slice (if (if cc = true then m else c) = l then A else A.map (·.add (l * sz))) (m - l) ((if cc = true then m else c) - l)) w := by
  intro A c hc
  unfold Instr.sliceAt
  rw [Sem.run_bind, run_underlying ht]
  simp only [Result.andThen_ok]
  unfold Instr.slice
  rw [Sem.run_bind, run_underlying ht]
  simp only [Result.andThen_ok, Sem.run_bind, hb c hc, run_sizeOf hz, Sem.run_pure]
 cases hx with
 | nils =>
  simp only [Option.some.injEq, Prod.mk.injEq] at hd
  obtain ⟨rfl, rfl⟩ := hd
  simp [vw] at hv; subst hv
  simp at hml; subst hml
  obtain rfl : l = 0 := by omega
  refine ⟨rfl, _, hrun none 0 (by simp), ?_⟩
  cases cc <;> simp <;> exact .nils
 | list hn hc hcap hnr hw hr ha =>
  rename_i s ys c vs a
  simp only [Option.some.injEq, Prod.mk.injEq] at hd
  obtain ⟨rfl, rfl⟩ := hd
  simp only [vw] at hv
  split at hv
  ·rename_i hs
   injection hv with hv; subst hv; subst hs
   subst hn
   refine ⟨rfl, _, hrun (some a) cap hc, ?_⟩
   have hy : ∀ x ∈ (ys.take m).drop l, x ∈ ys := fun x hx => List.mem_of_mem_take (List.mem_of_mem_drop hx)
   have hfl : flat ((ys.take m).drop l) = ((flat ys).drop (l * s)).take ((m - l) * s) := by
    have hq : ∀ x ∈ ys, x.cells.length = s := fun x hx => (hw x hx).1
    rw [kZ l (fun x hx => hq x (List.mem_of_mem_take hx)), iE m hq, List.drop_take, Nat.mul_sub_right_distrib]
   have ha' : ∀ a', (m - l = 0 ∨ a' = a.add (l * s)) → eM β w h a' ((vs.drop (l * s)).take ((m - l) * s)) := by
    intro a' h1
    rcases h1 with h1 | rfl
    ·rw [h1, Nat.zero_mul]; intro j v hj; simp at hj
    ·exact vW ha _ _
   have mO : ∀ (a' : Addr) (c' : Nat), m - l ≤ c' → ((cc || (c && decide (m = ys.length))) = true → c' = m - l) → (m - l = 0 ∨ a' = a.add (l * s)) →
    RV β w h (.list s ((ys.take m).drop l) (cc || (c && decide (m = ys.length)))) (.slice (some a') (m - l) c') := by
    intro a' c' q1 q2 q3
    exact .list (by simp; omega) q1 q2 (fun x hx => hnr x (hy x hx)) (fun x hx => hw x (hy x hx)) (by rw [hfl]; exact (hr.drop _).take _) (ha' _ q3)
   cases cc
   ·simp only [Bool.false_eq_true, if_false]
    split
    ·rename_i hq
     exact mO a _ (by omega) (fun h1 => by simp at h1; have := hcap h1.1; omega) (.inl (by omega))
    ·exact mO _ _ (by omega) (fun h1 => by simp at h1; have := hcap h1.1; omega) (.inr rfl)
   ·simp only [if_true]
    split
    ·rename_i hq
     exact mO a _ (by omega) (fun _ => rfl) (.inl (by omega))
    ·exact mO _ _ (by omega) (fun _ => rfl) (.inr rfl)
  ·cases hv
 | row hb' hc hcap ho hg hs =>
  rename_i o g lo' c a b e' s g' zs
  simp only at hd
  split at hd
  ·cases hd
  rename_i xk
  simp only [Option.some.injEq, Prod.mk.injEq] at hd
  obtain ⟨rfl, rfl⟩ := hd
  have xj : g = g' ∧ lo' + n ≤ zs.length ∧ s = sz ∧ xs = (zs.drop lo').take n := by
   simp only [vw] at hv
   rcases ho with ho | ho <;> rw [ho] at hv <;> simp only at hv <;> split at hv
   ·rename_i hq; injection hv with hv; exact ⟨hq.2.1.symm, hq.2.2, hq.1, hv.symm⟩
   ·cases hv
   ·rename_i hq; injection hv with hv; exact ⟨hq.2.1.symm, hq.2.2, hq.1, hv.symm⟩
   ·cases hv
  obtain ⟨rfl, hl, rfl, hxs⟩ := xj
  have hnx : xs.length = n := by rw [hxs, List.length_take, List.length_drop]; omega
  obtain ⟨k1, k2, k3⟩ := hs rfl
  rw [hnx] at hrun hml ⊢
  refine ⟨rfl, _, hrun (some a) cap hc, ?_⟩
  have mO : ∀ (a' : Addr) (c' : Nat), m - l ≤ c' → ((cc || (c && decide (m = n))) = true → c' = m - l) → (0 < m - l → a' = ⟨b, (lo' + l) * s, none⟩) → (lo' + l = 0 → a' = ⟨b, 0, none⟩) → (cc = false → c' = cap - l) →
   RV β w h (.row o g (lo' + l) (m - l) (cc || (c && decide (m = n)))) (.slice (some a') (m - l) c') := by
   intro a' c' q1 q2 q3 q4 q5
   refine .row hb' q1 q2 ho hg (fun _ => ⟨by omega, q3, fun hz0 => ⟨q4 hz0, fun ru hrw => ?_⟩⟩)
   have Iw : cc = false := by cases cc <;> simp_all
   obtain rfl : lo' = 0 := by omega
   obtain rfl : l = 0 := by omega
   have hc0 : c = false := by
    rw [Iw] at ru xk
    cases c
    ·rfl
    ·exfalso
     refine xk ⟨rfl, rfl, ?_⟩
     rw [hnx]
     simpa using ru
   obtain ⟨cur, e1, e2⟩ := (k3 rfl).2 hc0 hrw
   refine ⟨cur, e1, ?_⟩
   rw [e2, q5 Iw, Nat.sub_zero]
  have hpos : 0 < m - l → a = ⟨b, lo' * s, none⟩ := fun h0 => k2 (by omega)
  cases cc
  ·simp only [Bool.false_eq_true, if_false]
   split
   ·rename_i hq
    exact mO a _ (by omega) (fun h1 => by simp at h1; have := hcap h1.1; omega) (fun h0 => by omega) (fun h0 => (k3 (by omega)).1) (fun _ => rfl)
   ·exact mO _ _ (by omega) (fun h1 => by simp at h1; have := hcap h1.1; omega) (fun h0 => by show a.add (l * s) = _; rw [hpos h0, gU, Nat.add_mul]) (fun h0 => by show a.add (l * s) = _; rw [(k3 (by omega)).1, show l = 0 by omega]; simp [Addr.add]) (fun _ => rfl)
  ·simp only [if_true]
   split
   ·rename_i hq
    exact mO a _ (by omega) (fun _ => rfl) (fun h0 => by omega) (fun h0 => (k3 (by omega)).1) (fun h0 => by cases h0)
   ·exact mO _ _ (by omega) (fun _ => rfl) (fun h0 => by show a.add (l * s) = _; rw [hpos h0, gU, Nat.add_mul]) (fun h0 => by show a.add (l * s) = _; rw [(k3 (by omega)).1, show l = 0 by omega]; simp [Addr.add]) (fun h0 => by cases h0)
 | undef => simp [vw] at hv
end
section
variable {P : Program} {β β' : Bm} {w w' : World} {h h' : Zb}
theorem RVs.flat : ∀ {ds : List DV} {vs : List Value}, RVs β w h ds vs → (∀ d ∈ ds, d.isU = false) → RVs β w h (flat ds) (vs.flatMap fun v => v.cells.toList)
 | [], _, hr, _ => by cases hr; exact .nil
 | d :: ds, _, hr, hu => by
  cases hr with
  | cons hd hs =>
   simp only [Proofs.YteekbciaggmfgaaDoor.flat, List.flatMap_cons]
   exact (hd.cells (hu d (by simp))).append (RVs.flat hs (fun x hx => hu x (by simp [hx])))
theorem Wc.noU {sz : Nat} {x : DV} (h : Wc sz x) : x.isU = false := by
 cases x <;> try rfl
 have := h.2 .undef (by simp [DV.cells])
 cases this
theorem RVs.of_get : ∀ {ds : List DV} {vs : List Value}, ds.length = vs.length → (∀ (i : Nat) d v, ds[i]? = some d → vs[i]? = some v → RV β w h d v) → RVs β w h ds vs
 | [], [], _, _ => .nil
 | [], _ :: _, hl, _ => by simp at hl
 | _ :: _, [], hl, _ => by simp at hl
 | d :: ds, v :: vs, hl, hg => .cons (hg 0 d v rfl rfl) (RVs.of_get (by simpa using hl) (fun i a b ha hb => hg (i + 1) a b (by simpa using ha) (by simpa using hb)))
theorem rH (a : Act) (sz : Nat) : ∀ (ps : List (Nat × Operand)) (k : Nat) {xs : List Operand} (cs : Array Value), j3 ps k = some xs → (∀ x ∈ xs, (a.eval x).cells.toList.length = sz) → (k + xs.length) * sz ≤ cs.size →
 ∃ us, Instr.fill (fun i => some (i * sz, sz)) cs (ps.map fun (i, x) => (i, a.eval x)) = some us ∧ us.toList = cs.toList.take (k * sz) ++ (xs.flatMap fun x => (a.eval x).cells.toList) ++ cs.toList.drop ((k + xs.length) * sz)
 | [], k, xs, cs, ho, _, _ => by
  simp [j3] at ho; subst ho
  exact ⟨cs, rfl, by simp⟩
 | (i, x) :: ps, k, xs, cs, ho, hw, hl => by
  unfold j3 at ho
  split at ho
  ·rename_i hk
   subst hk
   split at ho
   ·rename_i r hr
    injection ho with ho; subst ho
    have hx := hw x (by simp)
    have hsz : (a.eval x).cells.size = sz := by simpa using hx
    have hkk : i * sz + sz ≤ cs.size := by
     have : (i + (r.length + 1)) * sz = i * sz + sz + r.length * sz := by rw [Nat.add_mul, Nat.succ_mul]; omega
     simp only [List.length_cons] at hl
     rw [this] at hl; omega
    have ZX : (((a.eval x).cells.zipIdx).foldl (fun (cs : Array Value) (p : Value × Nat) => cs.setIfInBounds (i * sz + p.2) p.1) cs).toList = cs.toList.take (i * sz) ++ (a.eval x).cells.toList ++ cs.toList.drop ((i + 1) * sz) := by
     rw [← Array.foldl_toList, nq]
     have := sG (i * sz) (a.eval x).cells.toList 0 cs (by simp; omega)
     rw [this, hx, Nat.succ_mul]
     simp
    obtain ⟨us, h1, h2⟩ := rH a sz ps (i + 1) (((a.eval x).cells.zipIdx).foldl (fun (cs : Array Value) (p : Value × Nat) => cs.setIfInBounds (i * sz + p.2) p.1) cs) hr (fun y hy => hw y (by simp [hy])) (by
     have : ((((a.eval x).cells.zipIdx).foldl (fun (cs : Array Value) (p : Value × Nat) => cs.setIfInBounds (i * sz + p.2) p.1) cs)).size = cs.size := by
      rw [← Array.length_toList, ZX, List.length_append, List.length_append, List.length_take, List.length_drop, hx, Array.length_toList, Nat.succ_mul]; omega
     rw [this]
     simp only [List.length_cons] at hl
     rw [show i + 1 + r.length = i + (r.length + 1) by omega]; exact hl)
    refine ⟨us, ?_, ?_⟩
    ·simp only [List.map_cons, Instr.fill]
     have AH : ¬ ((a.eval x).cells.size ≠ sz || decide (i * sz + (a.eval x).cells.size > cs.size)) = true := by simp [hsz]; omega
     rw [if_neg AH]
     exact h1
    ·rw [h2, ZX]
     have e1 : (cs.toList.take (i * sz)).length = i * sz := by rw [List.length_take, Array.length_toList]; omega
     have e2 : (cs.toList.take (i * sz) ++ (a.eval x).cells.toList).length = (i + 1) * sz := by rw [List.length_append, e1, hx, Nat.succ_mul]
     rw [List.take_append_of_le_length (by omega), List.take_of_length_le (by omega)]
     rw [show (i + 1 + r.length) * sz = (cs.toList.take (i * sz) ++ (a.eval x).cells.toList).length + r.length * sz by rw [e2, Nat.add_mul]]
     rw [List.drop_length_add_append, List.drop_drop, List.flatMap_cons, List.length_cons]
     rw [show (i + 1) * sz + r.length * sz = (i + (r.length + 1)) * sz by rw [← Nat.add_mul]; congr 1; omega]
     simp only [List.append_assoc]
   ·cases ho
  ·cases ho
theorem wz (hI : Inv β w h) {b : Nat} (hb : w.heap.size ≤ b) : dB β h b := fun o ho => by have := (hI.lt o b ho).2; omega
theorem wJ (hI : Inv β w h) {w' : World} {cs : Array Value} {e b : Nat} (hb : w.heap.size ≤ b) (hc : w'.heap[b]? = some (.cells cs e (0, 0))) (vs : List Value) (p : Nat) (hv : ∀ j v, vs[j]? = some v → cs[p + j]? = some v) : eM β w' h ⟨b, p, none⟩ vs := by
 intro j v hj
 refine ⟨wz hI hb, ?_⟩
 rw [gU, cell_of_row w' b _ cs e (0, 0) hc]
 exact hv j v hj
theorem aj.bytes (hI : Inv β w h) (e : TypeId) (s : ByteArray) : aj β w h β (Go.Lib.bytesWorld w e s) h where
 os := by simp [Go.Lib.bytesWorld, World.freeze, World.alloc, World.drew, -World.alloc_eq, -World.drew_eq]
 tape := by simp [Go.Lib.bytesWorld, World.freeze, World.alloc, World.drew, -World.alloc_eq, -World.drew_eq]
 output := by simp [Go.Lib.bytesWorld, World.freeze, World.alloc, World.drew, -World.alloc_eq, -World.drew_eq]
 size := by rw [Go.Lib.bytesWorld_size]; omega
 len := Nat.le_refl _
 keep b hb _ := Go.Lib.bytesWorld_at_old w e s b hb
 old _ _ hn := hn
 new o b hb := .inl hb
 obj o b y hb hy := by
  have hlt := hI.lt o b hb
  cases y with
  | box t cs => exact ⟨hb, cs, hy⟩
  | frz e sz g xs => exact ⟨hb, hy⟩
  | map kt et es => exact ⟨hb, es, hy⟩
  | row e sz g xs => exact ⟨b, g, xs, hb, .inl hy, Nat.le_refl _, fun _ => ⟨rfl, rfl, fun cur hc => ⟨cur, by rw [Go.Lib.bytesWorld_at_old _ _ _ _ hlt.2]; exact hc, rfl⟩⟩⟩
theorem Inv.bytes (hI : Inv β w h) (e : TypeId) (s : ByteArray) : Inv β (Go.Lib.bytesWorld w e s) h :=
 hI.step (aj.bytes hI e s) (fun o b hb => ⟨(hI.lt o b hb).1, by rw [Go.Lib.bytesWorld_size]; have := (hI.lt o b hb).2; omega⟩) hI.inj hI.tot
  (fun o b x hb hx => .inl ⟨hb, hx, Go.Lib.bytesWorld_at_old w e s b (hI.lt o b hb).2⟩)
theorem zP : ∀ l : List UInt8, RVs β w h (flat (l.map fun b => DV.int .u8 b.toNat)) (l.map fun b => Value.int .u8 b.toNat)
 | [] => .nil
 | b :: l => .cons (.int _ _) (zP l)
theorem vp (hI : Inv β w h) {src dst e : TypeId} (hs : P.underlying src = some .string) (hd : P.underlying dst = some (.slice e)) (he : P.underlying e = some (.int .u8)) (s : ByteArray) :
 ∃ v w' β', (convert src dst (.string s)).run P w = .ok v w' ∧ aj β w h β' w' h ∧ Inv β' w' h ∧ RV β' w' h (.list 1 (bytesOf s) false) v := by
 refine ⟨_, _, β, Go.Lib.run_convert_string_bytes w src dst e s hs hd he, aj.bytes hI e s, Inv.bytes hI e s, ?_⟩
 have hl : s.data.toList.length = s.size := by simp
 refine .list (by simp [bytesOf]) (grownCap_ge w s.size 0 e) (fun h => by cases h) (fun x hx => ?_) (fun x hx => ?_) (zP s.data.toList) ?_
 ·obtain ⟨b, _, rfl⟩ := List.mem_map.1 hx; exact .int _ _
 ·obtain ⟨b, _, rfl⟩ := List.mem_map.1 hx; simp [Wc, DV.cells, DV.one]
 ·intro j v hj
  refine ⟨wz hI (Nat.le_refl _), ?_⟩
  obtain ⟨LG, hj2⟩ := List.getElem?_eq_some_iff.1 hj
  rw [List.length_map] at LG
  have hc := Go.Lib.bytesWorld_cell w e s j (by omega)
  rw [gU, Nat.zero_add, hc, ← hj2, List.getElem_map]
  simp [List.getD_eq_getElem?_getD, List.getElem?_eq_getElem LG]
theorem vr (hI : Inv β w h) {e : Env} {a : Act} (hE : ER β w h e a) {ro : Bool} {t et : TypeId} {sz n : Nat} {z : Value} {ps : Array (Nat × Operand)} {xs : List Operand} {os : List Od} {d : DV} (ht : P.underlying t = some (.slice et))
 (ho : j3 ps.toList 0 = some xs) (hs : bW P et = some sz) (hz : fe P et = some z) (hc : nE xs = some os) (hn : n * sz ≤ 16777216) (hl : os.length = n) (h0 : 0 < sz) (hzs : z.cells.size = sz)
 (hd : Yj (.mkslice ro et sz os) e h = some (d, h')) : ∃ v w' β', (Instr.buildSlice t n (ps.map fun (i, x) => (i, a.eval x))).run P w = .ok v w' ∧ aj β w h β' w' h' ∧ Inv β' w' h' ∧ RV β' w' h' d v := by
 have iR : xs.length = os.length := by have := (jE hE hc).len; simpa using this.symm
 simp only [Yj] at hd
 cases hel : cM (os.map (Od.v e)) h with
 | none => rw [hel] at hd; cases hd
 | some p =>
  obtain ⟨ds, h1⟩ := p
  rw [hel] at hd
  simp only at hd
  split at hd
  ·rename_i hw
   obtain ⟨xC, oK, AZ⟩ := tO hI (jE hE hc) hel
   have Is := AZ.len
   rw [List.length_map] at Is
   have hcl : ∀ x ∈ xs, (a.eval x).cells.toList.length = sz := by
    intro x hx
    obtain ⟨d, hd, hr⟩ := AZ.mem (List.mem_map.2 ⟨x, hx, rfl⟩)
    have := (hr.cells (hw d hd).noU).len
    rw [← this]; exact (hw d hd).1
   have hzero : ∀ w, (if n * sz = 0 then pure #[] else do pure (← zeroValue et).cells : Sem (Array Value)).run P w = .ok (if n * sz = 0 then #[] else z.cells) w := by
    intro w
    split
    ·rfl
    ·simp [dJ hz]
   obtain ⟨us, hf, hu⟩ := rH a sz ps.toList 0 ((Array.range (n * sz)).map ((if n * sz = 0 then #[] else z.cells)[· % (if n * sz = 0 then #[] else z.cells).size]!)) ho hcl (by simp [iR, hl])
   have jv : us.toList = xs.flatMap fun x => (a.eval x).cells.toList := by rw [hu]; simp [iR, hl]
   have hrf : RVs β w h1 (Proofs.YteekbciaggmfgaaDoor.flat ds) us.toList := by
    have := AZ.flat (fun d hd => (hw d hd).noU)
    rw [jv]
    rw [List.flatMap_map] at this
    exact this
   have hlen : us.size = n * sz := by
    have h3 := hrf.len
    rw [bY (fun x hx => (hw x hx).1), Is, iR, hl] at h3
    simpa using h3.symm
   have hrun : (Instr.buildSlice t n (ps.map fun (i, x) => (i, a.eval x))).run P w = .ok (.slice (some ⟨w.heap.size, 0, none⟩) n n) (w.alloc (.cells us et)) := by
    unfold Instr.buildSlice
    have hn' : ¬ n * sz > 2 ^ 24 := by omega
    rw [Sem.run_bind, run_underlying ht]
    simp only [Result.andThen_ok]
    rw [Sem.run_bind, run_sizeOf hs]
    simp only [Result.andThen_ok]
    rw [if_neg hn']
    have EK : Instr.fill (fun i => some (i * sz, sz)) ((Array.range (n * sz)).map ((if n * sz = 0 then #[] else z.cells)[· % (if n * sz = 0 then #[] else z.cells).size]!)) (ps.map fun (i, x) => (i, a.eval x)).toList = some us := by
     rw [Array.toList_map]; exact hf
    split
    ·rename_i hq
     rw [if_pos hq] at EK
     rw [Sem.run_bind]
     simp only [Sem.run_pure, Result.andThen_ok]
     rw [EK]
     rfl
    ·rename_i hq
     rw [if_neg hq] at EK
     rw [Sem.run_bind, dJ hz]
     simp only [Sem.run_bind, Sem.run_pure, Result.andThen_ok]
     rw [EK]
     rfl
   have hnl : n = ds.length := by omega
   have hmax : n ≤ maxLen := by
    have h2 : n * 1 ≤ n * sz := Nat.mul_le_mul_left n h0
    have : (16777216 : Nat) ≤ maxLen := by decide
    omega
   split at hd
   ·rename_i hro
    split at hd
    ·rename_i hnr
     simp only [Option.some.injEq, Prod.mk.injEq] at hd
     obtain ⟨rfl, rfl⟩ := hd
     refine ⟨_, _, β, hrun, aj.trans hI xC (aj.alloc0 oK _), Inv.alloc0 oK _, ?_⟩
     exact .list hnl (Nat.le_refl _) (fun _ => rfl) hnr hw (RVs.ext (aj.alloc0 oK _) hrf) (wJ oK (Nat.le_refl _) (dO _ _) _ 0 (fun j v hj => by simpa using hj))
    ·cases hd
   ·simp only [Option.some.injEq, Prod.mk.injEq] at hd
    obtain ⟨rfl, rfl⟩ := hd
    have xu := aj.alloc oK (.cells us et) (.row et sz 0 ds)
    have hi2 := Inv.alloc oK (.cells us et) (.row et sz 0 ds) ⟨us, n, dO _ _, hlen, by omega, hmax, h0, hw, by
     rw [List.take_of_length_le (by rw [Array.length_toList, hlen, hnl]; exact Nat.le_refl _)]
     exact RVs.ext xu hrf⟩
    refine ⟨_, _, _, hrun, aj.trans hI xC xu, hi2, ?_⟩
    rw [← hnl]
    exact .row (ZW _ _ _) (Nat.le_refl _) (fun h => by cases h) (.inl (fO _ _)) (Nat.le_refl _) (fun _ => ⟨by omega, fun _ => by simp, fun _ => ⟨rfl, fun _ _ => ⟨us, dO _ _, hlen⟩⟩⟩)
  ·cases hd
theorem jH {z : Value} {d : DV} {sz : Nat} (hr : RV β w h d z) (hw : Wc sz d) (h0 : 0 < sz) (a c : Nat) (hac : a ≤ c) : RVs β w h (flat (List.replicate a d)) ((madeCells z.cells (c * sz)).toList.take (a * sz)) := by
 have Aw := hr.cells hw.noU
 have hzs : z.cells.toList.length = sz := by rw [← Aw.len]; exact hw.1
 have O7 : a * sz ≤ c * sz := Nat.mul_le_mul_right _ hac
 have hfl : (flat (List.replicate a d)).length = a * sz := by rw [bY (sz := sz) (fun x hx => by rw [List.eq_of_mem_replicate hx]; exact hw.1)]; simp
 refine RVs.of_get (by rw [hfl, List.length_take, Array.length_toList, size_madeCells]; omega) (fun i x v hx hv => ?_)
 have hi : i < a * sz := by have := (List.getElem?_eq_some_iff.1 hx).1; omega
 have hm : i % sz < sz := Nat.mod_lt _ h0
 have hq : i / sz < a := (Nat.div_lt_iff_lt_mul h0).2 hi
 have hg := flat_get (sz := sz) (xs := List.replicate a d) (i / sz) (i % sz) (x := d) (fun x hx => by rw [List.eq_of_mem_replicate hx]; exact hw.1) (by rw [List.getElem?_replicate, if_pos hq]) hm
 rw [show i / sz * sz + i % sz = i by rw [Nat.mul_comm]; exact Nat.div_add_mod i sz, hx] at hg
 rw [List.getElem?_take, if_pos hi] at hv
 have MG : z.cells.size = sz := by simpa using hzs
 have nB : v = z.cells[i % sz]! := by
  have : (madeCells z.cells (c * sz)).toList[i]? = some (z.cells[i % z.cells.size]!) := by
   rw [Array.getElem?_toList]
   simp only [madeCells, Array.getElem?_map]
   rw [Array.getElem?_range, if_pos (by omega : i < c * sz)]
   rfl
  rw [this] at hv
  injection hv with hv
  rw [MG] at hv
  exact hv.symm
 obtain ⟨u, hu, jM⟩ := Aw.get hg.symm
 rw [Array.getElem?_toList] at hu
 have : z.cells[i % sz]! = u := by
  rw [Array.getElem?_eq_some_iff] at hu
  obtain ⟨hlt, he⟩ := hu
  rw [getElem!_pos z.cells (i % sz) hlt, he]
 rw [nB, this]
 exact jM
theorem Be (hI : Inv β w h) {t et : TypeId} {i : TypeInfo} {z : Value} {zd : DV} {a c : Int} {ka kc : IntKind} (ht : P.underlying t = some (.slice et)) (hi : P.info? et = some i) (hz : i.zero = some z) (hzd : vd z = some zd)
 (hs0 : 0 < i.size) (hb0 : 0 < i.bytes) (ha : 0 ≤ a) (hac : a ≤ c) (hfit : c * i.bytes ≤ 140737488355328) (hw : Wc i.size zd) :
 ∃ v w' β', (Instr.makeSlice t (.int ka a) (.int kc c)).run P w = .ok v w' ∧ aj β w h β' w' (h ++ [.row et i.size 0 (List.replicate a.toNat zd)]) ∧ Inv β' w' (h ++ [.row et i.size 0 (List.replicate a.toNat zd)]) ∧
  RV β' w' (h ++ [.row et i.size 0 (List.replicate a.toNat zd)]) (.row h.length 0 0 a.toNat false) v := by
 have hc1 : c ≤ c * i.bytes := by
  have h1 : c * 1 ≤ c * (i.bytes : Int) := Int.mul_le_mul_of_nonneg_left (by omega) (by omega)
  omega
 have hrun := run_make (P := P) w t et i z ht hi hz ka kc a c ha hac (by rw [Int.mul_comm]; omega) (by omega)
 have xu := aj.alloc hI (.cells (madeCells z.cells (c.toNat * i.size)) et) (.row et i.size 0 (List.replicate a.toNat zd))
 have hi2 := Inv.alloc hI (.cells (madeCells z.cells (c.toNat * i.size)) et) (.row et i.size 0 (List.replicate a.toNat zd)) ⟨_, c.toNat, dO _ _, size_madeCells _ _, by simp; omega, by simp [maxLen]; omega, hs0,
  fun x hx => by rw [List.eq_of_mem_replicate hx]; exact hw, by rw [List.length_replicate]; exact jH (qx hzd).1 hw hs0 _ _ (by omega)⟩
 refine ⟨_, _, _, hrun, xu, hi2, ?_⟩
 exact .row (ZW _ _ _) (by omega) (fun h => by cases h) (.inl (fO _ _)) (Nat.le_refl _) (fun _ => ⟨by simp, fun _ => by simp, fun _ => ⟨rfl, fun _ _ => ⟨_, dO _ _, size_madeCells _ _⟩⟩⟩)
end
end Go.Proofs.YteekbciaggmfgaaDoor
