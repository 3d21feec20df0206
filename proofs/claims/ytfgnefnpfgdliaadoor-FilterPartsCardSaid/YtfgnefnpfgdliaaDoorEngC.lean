/- From the model's code to the ideal machine's: what is translated, and to what. -/
import Derived.Test.YtfgnefnpfgdliaaDoorEngA
import Derived.Test.YtfgnefnpfgdliaaDoorTabs
import GoSem.Core.Program
import GoSem.Core.Check
import GoSem.Core.Region
import GoSem.Core.Layout
import GoSem.Op.Equal
namespace Go.Proofs.YtfgnefnpfgdliaaDoor
set_option linter.unusedVariables false

/-- A closed value of one cell. -/
def vd0 : Value → Option DV
  | .bool b => some (.bool b)
  | .int k n => some (.int k n)
  | .string s => some (.str s)
  | .pointer none => some .nilp
  | .slice none 0 0 => some .nils
  | .map none => some .nilm
  | .nilFunc => some .nilf
  | .nilIface => some .nili
  | .func (.func f) ⟨[]⟩ ⟨[]⟩ => some (.func f [] [])
  | .iface t (.int k n) => some (.ifc t (.int k n))
  | _ => none
def vdL : List Value → Option (List DV)
  | [] => some []
  | v :: l => match vd0 v with
    | some d => match vdL l with
      | some ds => some (d :: ds)
      | none => none
    | none => none
def vd : Value → Option DV
  | .agg cs => match vdL cs.toList with
    | some ds => some (.agg ds)
    | none => none
  | v => vd0 v

def cvO : Operand → Option Od
  | .tmp t => some (.t t)
  | .const v => match vd v with
    | some d => some (.c d)
    | none => none
  | .func f => some (.c (.func f [] []))
  | .global _ => none
/-- A pointer: a table's, too. -/
def cvG : Operand → Option Od
  | .global g => match tabs.find? fun p => p.1 == g with
    | some p => some (.c (.elem (.list p.2.length [.agg p.2] true) p.2.length 0 0))
    | none => none
  | x => cvO x
def cvL : List Operand → Option (List Od)
  | [] => some []
  | x :: l => match cvO x with
    | some o => match cvL l with
      | some os => some (o :: os)
      | none => none
    | none => none
def cvOpt : Option Operand → Option (Option Od)
  | none => some none
  | some x => match cvO x with
    | some o => some (some o)
    | none => none

def tyAgg (P : Program) (t : TypeId) : Option Bool := match P.underlying t with
  | some (.struct _) => some true
  | some (.array _ _) => some true
  | some _ => some false
  | none => none
def tySize (P : Program) (t : TypeId) : Option Nat := match P.info? t with
  | some i => some i.size
  | none => none
def tyZero (P : Program) (t : TypeId) : Option Value := match P.info? t with
  | some i => i.zero
  | none => none

/-- Is a struct's '==' that of its cells, one by one? -/
def flatF (P : Program) : List Field → Nat → Option (List Nat)
  | [], _ => some []
  | f :: fs, n => if f.name ≠ "_" ∧ f.offset = n then
      match P.underlying f.type, flatF P fs (n + 1) with
      | some .bool, some ks => some (0 :: ks)
      | some (.int _), some ks => some (1 :: ks)
      | some .string, some ks => some (2 :: ks)
      | _, _ => none
    else none
def flatS (P : Program) (t : TypeId) : Option (List Nat) := match P.underlying t with
  | some (.struct fs) => if P.stoodInHeld t = false ∧ P.eqGuardType P.depth t = false then flatF P fs.toList 0 else none
  | _ => none
def isIfc (P : Program) (t : TypeId) : Bool := match P.underlying t with | some (.interface _) => true | _ => false
def isConst' : Operand → Bool | .const _ => true | _ => false

def placesOf (P : Program) : List Field → Option (List (Nat × Nat))
  | [] => some []
  | f :: fs => match tySize P f.type, placesOf P fs with
    | some sz, some r => some ((f.offset, sz) :: r)
    | _, _ => none
def fillPlaces (pl : List (Nat × Nat)) : List (Nat × Operand) → Option (List (Nat × Nat × Od))
  | [] => some []
  | (i, x) :: l => match pl[i]? with
    | some q => match cvO x, fillPlaces pl l with
      | some o, some r => some ((q.1, q.2, o) :: r)
      | _, _ => none
    | none => none
def inOrder : List (Nat × Operand) → Nat → Option (List Operand)
  | [], _ => some []
  | (i, x) :: l, n => if i = n then (match inOrder l (n + 1) with | some r => some (x :: r) | none => none) else none

def cvCall (P : Program) (c : Call) : Option XOp :=
  match c.callee, c.args.toList, c.argTypes.toList with
  | .value f, as, _ => match cvO f, cvL as with
    | some f, some as => some (.call f as)
    | _, _ => none
  | .builtin .len, [x], [t] => match P.underlying t, cvO x with
    | some .string, some o => some (.lens o)
    | some (.slice e), some o => match tySize P e with
      | some sz => some (.len sz o)
      | none => none
    | some (.map _ _), some o => some (.mlen o)
    | _, _ => none
  | .builtin .append, [x, y], [t, u] => match P.underlying t, (match P.underlying u with | some (.slice _) => true | some .string => true | _ => false) with
    | some (.slice e), true => match P.info? e, cvO x, cvO y with
      | some i, some a, some b => match i.zero with
        | some z => if z.cells.size = i.size ∧ 0 < i.size ∧ 0 < i.bytes then some (.app e i.size i.bytes a b) else none
        | none => none
      | _, _, _ => none
    | _, _ => none
  | .builtin .min, as, _ => match cvL as with
    | some os => some (.mmx false os)
    | none => none
  | .builtin .max, as, _ => match cvL as with
    | some os => some (.mmx true os)
    | none => none
  | _, _, _ => none

/-- How the keys of a map are compared. -/
def keyKind (P : Program) (t : TypeId) : Option (Bool × List Nat) := match P.underlying t with
  | some .bool => some (false, [0])
  | some (.int _) => some (false, [1])
  | some .string => some (false, [2])
  | some (.struct _) => match flatS P t with
    | some ks => some (true, ks)
    | none => none
  | _ => none

def cvOp (P : Program) (op : Op) : Option XOp :=
  match op with
  | .move x | .assign x => match cvO x with
    | some o => some (.mov o)
    | none => none
  | .pick c a b => match cvO c, cvO a, cvO b with
    | some c, some a, some b => some (.pick c a b)
    | _, _, _ => none
  | .alloc t => match tyZero P t with
    | some z => match vdL z.cells.toList with
      | some cs => some (.alloc t cs)
      | none => none
    | none => none
  | .box t x => match cvO x with
    | some o => some (.box t o)
    | none => none
  | .build t ps => match tyZero P t, P.underlying t with
    | some z, some (.struct fs) => match placesOf P fs.toList with
      | some pl => match vdL z.cells.toList, fillPlaces pl ps.toList with
        | some cs, some l => some (.build cs l)
        | _, _ => none
      | none => none
    | _, _ => none
  | .buildSlice t n ps => match P.underlying t, inOrder ps.toList 0 with
    | some (.slice e), some xs => match tySize P e, tyZero P e, cvL xs with
      | some sz, some z, some os => if n * sz ≤ 16777216 ∧ os.length = n ∧ 0 < sz ∧ z.cells.size = sz then some (.mkslice true e sz os) else none
      | _, _, _ => none
    | _, _ => none
  | .makeSlice t n m => match P.underlying t with
    | some (.slice e) => match P.info? e, cvO n, cvO m with
      | some i, some a, some b => match i.zero with
        | some z => match vd z with
          | some d => if z.cells.size = i.size ∧ 0 < i.size ∧ 0 < i.bytes then some (.make e i.size i.bytes d a b) else none
          | none => none
        | none => none
      | _, _, _ => none
    | _ => none
  | .load t a => match tyAgg P t, tySize P t, cvO a with
    | some ag, some sz, some o => some (.load ag sz o)
    | _, _, _ => none
  | .store t a v => match tySize P t, cvO a, cvO v with
    | some sz, some o, some x => some (.store sz o x)
    | _, _, _ => none
  | .nilCheck x => match cvO x with
    | some o => some (.nilck o)
    | none => none
  | .binOp op t x y _ => match cvO x, cvO y with
    | some a, some b =>
      if op = .eql ∨ op = .neq then
        match P.underlying t with
        | some (.struct _) => match flatS P t with
          | some ks => some (.eqa ks (op == .neq) a b)
          | none => none
        | some (.interface _) => if isConst' x || isConst' y then some (.eqk 5 (op == .neq) a b) else none
        | some .bool => some (.eqk 0 (op == .neq) a b)
        | some (.pointer _) => some (.eqk 1 (op == .neq) a b)
        | some (.slice _) => some (.eqk 2 (op == .neq) a b)
        | some (.map _ _) => some (.eqk 3 (op == .neq) a b)
        | some (.func _ _ _) => some (.eqk 4 (op == .neq) a b)
        | some (.int _) => some (.bin op a b)
        | some .string => some (.bin op a b)
        | _ => none
      else some (.bin op a b)
    | _, _ => none
  | .unOp op _ x => match cvO x with
    | some o => some (.un op o)
    | none => none
  | .convert src dst x => match P.underlying src, P.underlying dst, cvO x with
    | some (.int _), some (.int k), some o => some (.toint k o)
    | some (.slice e), some .string, some o => match P.underlying e with
      | some (.int .u8) => some (.tostr o)
      | _ => none
    | _, _, _ => none
  | .makeInterface t x => match P.underlying t, cvO x with
    | some (.interface _), _ => none
    | some _, some o => some (.mkif t o)
    | _, _ => none
  | .makeFunc (.func f) a b => match cvL a.toList, cvL b.toList with
    | some a, some b => some (.mkfn f a b)
    | _, _ => none
  | .slice t x lo hi mx => match P.underlying t, cvO x, cvOpt lo, cvOpt hi, cvOpt mx with
    | some .string, some o, some l, some m, some none => some (.slcs o l m)
    | some (.slice e), some o, some l, some m, some q => match tySize P e with
      | some sz => if q.isNone || m.isSome then some (.slc sz o l m q) else none
      | none => none
    | _, _, _, _, _ => none
  | .fieldAddr s x f => match P.underlying s, cvO x with
    | some (.struct fs), some o => match fs[f]? with
      | some fl => match tySize P fl.type with
        | some sz => if sz = 0 then none else some (.faddr fl.offset o)
        | none => none
      | none => none
    | _, _ => none
  | .field s x f => match P.underlying s, cvO x with
    | some (.struct fs), some o => match fs[f]? with
      | some fl => match tyAgg P fl.type, tySize P fl.type with
        | some ag, some sz => some (.fld ag fl.offset sz o)
        | _, _ => none
      | none => none
    | _, _ => none
  | .indexAddr t x i => match P.underlying t, cvG x, cvO i with
    | some (.slice e), some o, some j => match tySize P e with
      | some sz => some (.iaddr sz o j)
      | none => none
    | some (.array n e), some o, some j => match tySize P e with
      | some sz => some (.iaddra n sz o j)
      | none => none
    | _, _, _ => none
  | .index t x i => match P.underlying t, cvO x, cvO i with
    | some .string, some o, some j => some (.idxs o j)
    | _, _, _ => none
  | .extract x i => match cvO x with
    | some o => some (.ext o i)
    | none => none
  | .makeMap t r => match P.underlying t, cvOpt r with
    | some (.map _ _), some r => some (.mkmap r)
    | _, _ => none
  | .lookup t m k ok => match P.underlying t, cvO m, cvO k with
    | some (.map kt et), some m, some k => match keyKind P kt, tyZero P et with
      | some q, some z => match vd z with
        | some z => some (.mget q.1 q.2 z ok m k)
        | none => none
      | _, _ => none
    | _, _, _ => none
  | .mapUpdate t m k v => match P.underlying t, cvO m, cvO k, cvO v with
    | some (.map kt _), some m, some k, some v => match keyKind P kt with
      | some q => some (.mset q.1 q.2 m k v)
      | none => none
    | _, _, _, _ => none
  | .call c => cvCall P c
  | _ => none

def cvGuard (ops : List Oper) : Option (Nat × Bool) → Option (Option (Nat × Bool))
  | none => some none
  | some (j, b) => match ops[j]? with
    | some o => match o.dst with
      | some s => some (some (s, b))
      | none => none
    | none => none
/-- ops: the whole region, for the guards. -/
def cvOper (P : Program) (ops : List Oper) (o : Oper) : Option XOper :=
  match cvOp P o.op, cvGuard ops o.guard with
  | some x, some g => some ⟨o.dst, x, g, false⟩
  | _, _ => none
def cvOpers (P : Program) (ops : List Oper) : List Oper → Option (List XOper)
  | [] => some []
  | o :: l => match cvOper P ops o, cvOpers P ops l with
    | some x, some xs => some (x :: xs)
    | _, _ => none

/-! ### Regions that draw their order -/
/-- 0: looks at no heap; 1: only reads; 2: all others. -/
def XOp.kind : XOp → Nat
  | .mov _ | .pick _ _ _ | .build _ _ | .nilck _ | .bin _ _ _ | .eqa _ _ _ _ | .eqk _ _ _ _ | .un _ _ | .toint _ _ | .faddr _ _ | .fld _ _ _ _ | .iaddra _ _ _ _ | .idxs _ _ | .slcs _ _ _ | .mkfn _ _ _ | .mkif _ _ | .ext _ _ | .lens _ | .mmx _ _ => 0
  | .load _ _ _ | .tostr _ | .iaddr _ _ _ | .slc _ _ _ _ _ | .len _ _ | .mlen _ | .mget _ _ _ _ _ _ => 1
  | _ => 2
/-- The slots that an operation looks at. -/
def odS : Od → List Nat
  | .t n => [n]
  | .c _ => []
def odO : Option Od → List Nat
  | some o => odS o
  | none => []
def XOp.sl : XOp → List Nat
  | .mov x | .box _ x | .load _ _ x | .nilck x | .un _ x | .toint _ x | .tostr x | .faddr _ x | .fld _ _ _ x | .mkif _ x | .ext x _ | .lens x | .len _ x | .mlen x => odS x
  | .pick a b c => odS a ++ odS b ++ odS c
  | .alloc _ _ => []
  | .mkmap r => odO r
  | .build _ ps => ps.flatMap fun p => odS p.2.2
  | .mkslice _ _ _ ps => ps.flatMap odS
  | .make _ _ _ _ x y | .store _ x y | .bin _ x y | .eqa _ _ x y | .eqk _ _ x y | .iaddr _ x y | .iaddra _ _ x y | .idxs x y | .app _ _ _ x y | .mget _ _ _ _ x y => odS x ++ odS y
  | .slcs x a b => odS x ++ odO a ++ odO b
  | .slc _ x a b c => odS x ++ odO a ++ odO b ++ odO c
  | .mkfn _ a b => a.flatMap odS ++ b.flatMap odS
  | .mmx _ xs => xs.flatMap odS
  | .mset _ _ x y z => odS x ++ odS y ++ odS z
  | .call f args => odS f ++ args.flatMap odS
def XOper.looks (y : XOper) : List Nat := y.op.sl ++ (match y.guard with | some (s, _) => [s] | none => [])
/-- The operand through which memory is read. -/
def XOp.main : XOp → Option Od
  | .load _ _ x | .tostr x | .iaddr _ x _ | .slc _ x _ _ _ | .len _ x | .mlen x | .mget _ _ _ _ x _ => some x
  | _ => none
def DV.flat1 : DV → Bool
  | .row _ _ _ _ _ | .elem _ _ _ _ | .ref _ _ | .map _ => false
  | _ => true
def mainOk (x : XOp) : Bool := match x.main with | some (.c d) => d.flat1 | _ => true
def edgesOf (o : Oper) : List Nat := (o.after.toList.filter fun e => Go.Region.binds .any e).map (·.on)
/-- What must have come up before each operation, as bits; acc: for those ahead. -/
def befs : List (List Nat) → List Nat → List Nat
  | [], acc => acc
  | es :: l, acc => befs l (acc ++ [es.foldl (fun m j => m ||| 2 ^ j ||| acc.getD j 0) 0])
def DV.zeroish : DV → Bool
  | .bool _ | .int _ _ | .str _ | .nilp | .nils | .nilm | .nilf | .nili => true
  | _ => false
/-- A new box of plain cells, made whatever else is done. -/
def isAl (x : XOper) : Bool := (match x.op with | .alloc _ cs => cs.all DV.zeroish | _ => false) && x.guard.isNone && x.dst.isSome
/-- m: so many boxes are made ahead of all others. -/
def isGr (m : Nat) (xs : List XOper) (B : List Nat) (i : Nat) (x : XOper) : Bool :=
  x.op.kind == 2 && ((xs.zipIdx.any fun (y, j) => y.op.kind == 1 && (if i < j then !(B.getD j 0).testBit i else !(B.getD i 0).testBit j)) || (decide (m ≤ i) && (List.range m).any fun k => !(B.getD i 0).testBit k))
def setGr (m : Nat) (xs : List XOper) (B : List Nat) : List XOper := xs.zipIdx.map fun (x, i) => { x with gr := isGr m xs B i x }
def commute (x y : XOper) : Bool :=
  x.op.kind == 0 || y.op.kind == 0 || (x.op.kind == 1 && y.op.kind == 1) || (x.op.kind == 1 && y.gr) || (x.gr && y.op.kind == 1)
def dstOk (x y : XOper) : Bool := match x.dst with | some s => y.dst != some s | none => true
def dstOff (x y : XOper) : Bool := match x.dst with | some s => !y.looks.contains s | none => true
def pairOk (m : Nat) (B : List Nat) (i : Nat) (x : XOper) (j : Nat) (y : XOper) : Bool :=
  (B.getD j 0).testBit i || (if i < m then dstOff x y && (decide (j < m) || y.op.kind != 2 || y.gr) else dstOff x y && dstOff y x && commute x y)
def rowOk (m : Nat) (B : List Nat) (j : Nat) (y : XOper) : List XOper → Nat → Bool
  | x :: xs, i => if i < j then dstOk x y && pairOk m B i x j y && rowOk m B j y xs (i + 1) else true
  | [], _ => true
def allOk (m : Nat) (xs : List XOper) (B : List Nat) : List (List Nat) → List XOper → Nat → Bool
  | es :: r, y :: ys, j => es.all (fun k => decide (k < j)) && mainOk y.op && (if j < m then isAl y && es.isEmpty else true) && rowOk m B j y xs 0 && allOk m xs B r ys (j + 1)
  | _, _, _ => true
/-- May the operations of a region that draws be told in this order? -/
def drawOk (m : Nat) (Es : List (List Nat)) (xs : List XOper) (B : List Nat) : Bool := allOk m xs B Es xs 0
/-- Boxes that are made while others, that make or write, have not come up. -/
def early (xs : List XOper) (B : List Nat) : List Nat := (List.range xs.length).filter fun i => match xs[i]? with
  | some x => isAl x && (xs.zipIdx.any fun (y, j) => y.op.kind == 2 && j != i && (if i < j then !(B.getD j 0).testBit i else !(B.getD i 0).testBit j))
  | none => false
def ordOf (n : Nat) (E : List Nat) : List Nat := E ++ (List.range n).filter fun i => !E.contains i
def permOk (O : List Nat) (n : Nat) : Bool :=
  decide (O.length = n) && (List.range n).all (fun i => decide (O.getD (O.idxOf i) n = i) && decide (O.idxOf i < n)) && (List.range n).all fun j => decide (O.getD j n < n) && decide (O.idxOf (O.getD j n) = j)
def noOper : XOper := ⟨none, .mov (.c .undef), none, false⟩
/-- A region that draws, in the order in which E comes first. -/
def drawX (es : List (List Nat)) (xs : List XOper) (E : List Nat) : Option (List XOper) :=
  match ordOf xs.length E with
  | O => match O.map (fun i => (es.getD i []).map fun k => O.idxOf k) with
    | es' => match setGr E.length (O.map fun i => xs.getD i noOper) (befs es' []) with
      | xs' => if permOk O xs.length && es.all (fun l => l.all fun k => decide (k < xs.length)) && decide (es.length = xs.length) && decide (E.length ≤ xs.length) && drawOk E.length es' xs' (befs es' []) then some xs' else none
def drawE (es : List (List Nat)) (xs : List XOper) : Option (List XOper) :=
  match drawX es xs [] with
  | some r => some r
  | none => drawX es xs (early xs (befs es []))

/-- The slots that live on after a region. -/
abbrev Hints := Nat → List Nat

def cvC (P : Program) (nt : Nat) (H : Hints) : Code → Option XC
  | .skip => some .skip
  | .region id ops draw => match cvOpers P ops.toList ops.toList with
    | some xs => if (ops.toList.all fun o => match o.dst with | some d => decide (d < nt) | none => true) then
        if draw then (match drawE (ops.toList.map edgesOf) xs with | some xs' => some (.reg xs' (H id)) | none => none)
        else some (.reg xs (H id))
      else none
    | none => none
  | .seq a b => match cvC P nt H a, cvC P nt H b with
    | some x, some y => some (.seq x y)
    | _, _ => none
  | .cond c a b => match cvO c, cvC P nt H a, cvC P nt H b with
    | some o, some x, some y => some (.cond o x y)
    | _, _, _ => none
  | .block id a => match cvC P nt H a with
    | some x => some (.block id x)
    | none => none
  | .loop a => match cvC P nt H a with
    | some x => some (.loop x)
    | none => none
  | .exit id => some (.exit id)
  | .scope a => cvC P nt H a
  | .label _ => some .skip
  | .ret => some .ret
  | _ => none

def cvRes (P : Program) : List ResultVar → Option (List XRes)
  | [] => some []
  | .tmp t :: l => match cvRes P l with
    | some r => some (.t t :: r)
    | none => none
  | .cell a t :: l => match tyAgg P t, tySize P t, cvRes P l with
    | some ag, some sz, some r => some (.cell a ag sz :: r)
    | _, _, _ => none

def cvF (P : Program) (H : Hints) (fn : Func) : Option XF :=
  match fn.body with
  | some c => match cvC P fn.ntmps H c, cvRes P fn.results.toList with
    | some x, some r => if fn.params.size + fn.nfree ≤ fn.ntmps ∧ fn.name ≠ "runtime.NumGoroutine" then some ⟨fn.params.size + fn.nfree, x, r⟩ else none
    | _, _ => none
  | none => none

end Go.Proofs.YtfgnefnpfgdliaaDoor
