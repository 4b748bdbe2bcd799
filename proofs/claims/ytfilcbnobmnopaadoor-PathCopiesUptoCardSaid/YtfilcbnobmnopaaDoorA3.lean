/- From the program's code to the abstract machine's. -/
import Derived.Test.YtfilcbnobmnopaaDoorA2
namespace Go.AL
open Go Go.RowKit

/-- A constant as an abstract value. -/
def cellAV : Value → AV
  | .slice none 0 0 => .sl 0 [] none
  | .slice .. | .agg _ | .tuple _ => .junk
  | v => .imm v

def constAV : Value → AV
  | .agg cs => .agg (cs.toList.map cellAV)
  | v => cellAV v

def constOk : Value → Bool
  | .agg cs => cs.toList.all fun c => c.oneCell'
  | .tuple _ => false
  | _ => true

def copd : Operand → Option AOpd
  | .tmp t => some (.t t)
  | .const v => if constOk v then some (.c (constAV v)) else none
  | .global g => some (.g g)
  | .func f => some (.c (.fn (.func f) [] []))

def aggD : TypeDesc → Bool
  | .struct _ | .array _ _ => true
  | _ => false

def isU8 : Option TypeDesc → Bool
  | some (.int .u8) => true
  | _ => false

section
variable (P : Program)
def szOf (t : TypeId) : Option Nat := (P.info? t).map (·.size)

/-- Types whose values are equal just when all their cells are: a row of whole numbers. -/
def plainEq (t : TypeId) : Bool :=
  match P.underlying t with
  | some (.struct fs) => !P.stoodInHeld t && (fs.toList.zipIdx.all fun (f, i) => f.name != "_" && f.offset == i && (match P.underlying f.type with | some (.int _) => true | _ => false)) && !P.eqGuardType P.depth t
  | some (.array _ e) => (match P.underlying e with | some (.int _) => true | _ => false) && szOf P e == some 1 && !P.eqGuardType P.depth t
  | _ => false

/-- How long a value of such a type is. -/
def eqLen (t : TypeId) : Nat :=
  match P.underlying t with
  | some (.struct fs) => fs.size
  | some (.array n _) => n
  | _ => 0

def optList {α : Type} (x : Option α) : List α := match x with | some a => [a] | none => []

/-- own: may what is built here be appended to later? -/
def boolT (t : TypeId) : Bool := match P.underlying t with | some .bool => true | _ => false
def eqOp (op : BinOp) (neg : Bool) (t : TypeId) : QOp := if boolT P t = true then .eqBoo neg else .bin op t

def compOp (own : Bool) (o : Oper) (slot : Nat) : Option (Cls × List Operand) :=
  match o.op with
  | .move x => some (.q .mv, [x])
  | .assign x => match own, x, P.underlying o.type with
    | true, .const (.slice none 0 0), some (.slice e) => (szOf P e).bind fun n => if 0 < n then some (.m (.nilT e n) slot, []) else none
    | _, _, _ => some (.q .mv, [x])
  | .pick c a b => some (.q .pick, [c, a, b])
  | .alloc e => (P.info? e).bind fun i => i.zero.bind fun z => if constOk z then some (.m (.alloc (constAV z).cells (!(match z with | .agg _ => true | _ => false))) slot, []) else none
  | .box _ x => some (.m .box slot, [x])
  | .build t parts => match P.underlying t with
    | some (.struct fs) => (P.info? t).bind fun i => i.zero.bind fun z =>
        (fs.toList.mapM fun f => (P.info? f.type).map fun i => (f.offset, i.size)).bind fun pl => (parts.toList.mapM fun (p : Nat × Operand) => pl[p.1]?).bind fun places =>
        if constOk z then some (.q (.build (constAV z).cells places), parts.toList.map (·.2)) else none
    | some (.array _ e) => (P.info? t).bind fun i => i.zero.bind fun z => (szOf P e).bind fun n =>
        if constOk z then some (.q (.build (constAV z).cells (parts.toList.map fun p => (p.1 * n, n))), parts.toList.map (·.2)) else none
    | _ => none
  | .buildSlice t len parts => match P.underlying t with
    | some (.slice e) => (P.info? e).bind fun i => i.zero.bind fun z => if parts.toList.map (·.1) = List.range len ∧ z.cells.size = i.size then
        (if own then some (.m (.bsliceO e i.size) slot, parts.toList.map (·.2)) else some (.q (.bslice i.size), parts.toList.map (·.2))) else none
    | _ => none
  | .load t x => match P.underlying t, szOf P t with
    | some d, some n => if aggD d then some (.l (.loadA n), [x]) else some (.l .load1, [x])
    | _, _ => none
  | .store t a x => (szOf P t).map fun n => (.e (.store n), [a, x])
  | .nilCheck x => some (.q .nilchk, [x])
  | .binOp op t x y _ => match op with
    | .eql => if plainEq P t then some (.q (.eqA false (eqLen P t)), [x, y]) else some (.q (eqOp P .eql false t), [x, y])
    | .neq => if plainEq P t then some (.q (.eqA true (eqLen P t)), [x, y]) else some (.q (eqOp P .neq true t), [x, y])
    | op => some (.q (.bin op t), [x, y])
  | .unOp op _ x => some (.q (.un op), [x])
  | .convert src dst x => match P.underlying src, P.underlying dst with
    | some (.int _), some (.int k) => some (.q (.convI k), [x])
    | some (.slice e), some .string => if isU8 (P.underlying e) then some (.q .toStr, [x]) else none
    | some (.int _), some .string => some (.q .runeStr, [x])
    | some .string, some .string => some (.q .strId, [x])
    | some .string, some (.slice e) => if isU8 (P.underlying e) then some (.q .toBytes, [x]) else none
    | _, _ => none
  | .sliceToArrayPointer arr x => match P.underlying arr with
    | some (.array n _) => some (.q (.s2a n), [x])
    | _ => none
  | .makeInterface t x => match P.underlying t with
    | some (.interface _) => none
    | some _ => some (.q (.mkiface t), [x])
    | none => none
  | .makeFunc fn first cap => some (.q (.mkfn fn first.size), first.toList ++ cap.toList)
  | .fieldAddr t x f => match P.underlying t with
    | some (.struct fs) => (fs[f]?).bind fun fd => (szOf P fd.type).bind fun n => if n = 0 then none else some (.q (.faddr fd.offset), [x])
    | _ => none
  | .field t x f => match P.underlying t with
    | some (.struct fs) => (fs[f]?).bind fun fd => (szOf P fd.type).bind fun n => (P.underlying fd.type).map fun d =>
        if aggD d then (.q (.fldA fd.offset n), [x]) else (.q (.fld1 fd.offset), [x])
    | _ => none
  | .indexAddr t x i => match P.underlying t with
    | some (.slice e) => (szOf P e).bind fun n => if n = 0 then none else some (.q (.iaddrS n), [x, i])
    | some (.array len e) => (szOf P e).map fun n => (.q (.iaddrA len n), [x, i])
    | _ => none
  | .index t x i => match P.underlying t with
    | some .string => some (.q .idxS, [x, i])
    | some (.array len e) => (szOf P e).bind fun n => (P.underlying e).bind fun d => if aggD d then some (.q (.idxA len n), [x, i]) else if n = 1 then some (.q (.idx1 len), [x, i]) else none
    | _ => none
  | .slice t x lo hi mx => match P.underlying t with
    | some .string => if mx.isSome then none else some (.q (.sliceS lo.isSome hi.isSome), x :: (optList lo ++ optList hi))
    | some (.slice e) => (szOf P e).map fun n => (.q (.sliceL n lo.isSome hi.isSome mx.isSome), x :: (optList lo ++ optList hi ++ optList mx))
    | some (.array len e) => if mx.isSome then none else if szOf P e = some 1 ∧ len ≤ 65536 then some (.e (.slArr len lo.isSome hi.isSome), x :: (optList lo ++ optList hi)) else none
    | _ => none
  | .extract x i => some (.q (.ext i), [x])
  | .call c => match c.callee with
    | .value f => some (.call false, f :: c.args.toList)
    | .builtin .len => match c.argTypes.toList, c.args.toList with
      | [t], [x] => match P.underlying t with
        | some .string => some (.q .lenS, [x])
        | some (.slice _) => some (.q .lenL, [x])
        | some (.array n _) => some (.q (.lenC n), [x])
        | some (.pointer a) => match P.underlying a with
          | some (.array n _) => some (.q (.lenC n), [x])
          | _ => none
        | _ => none
      | _, _ => none
    | .builtin .append => match c.argTypes.toList, c.args.toList with
      | [t, u], [s, x] => match P.underlying t, P.underlying u with
        | some (.slice e), some (.slice _) => (P.info? e).bind fun i => i.zero.bind fun z => if z.cells.size = i.size then some (.e (.append e i.size i.bytes), [s, x]) else none
        | _, _ => none
      | _, _ => none
    | .builtin .max => match c.args.toList with
      | [x, y] => some (.q .max2, [x, y])
      | _ => none
    | .builtin .min => match c.args.toList with
      | [x, y] => some (.q .min2, [x, y])
      | _ => none
    | _ => none
  | _ => none

def copds (xs : List Operand) : Option (List AOpd) := xs.mapM copd

def Cls.isM : Cls → Bool
  | .m _ _ => true
  | _ => false

/-- The temporary that a guard asks. -/
def guardOf (ops : Array Oper) (o : Oper) : Option (Option (Nat × Bool)) :=
  match o.guard with
  | none => some none
  | some (j, want) => ((ops[j]?).bind (·.dst)).map fun t => some (t, want)

/-- What no rule is there for is a step that nobody may take. -/
def compOp1 (own : Bool) (o : Oper) (slot : Nat) : Option (Cls × List Operand) :=
  match compOp P own o slot with
  | some (c, xs) => if (copds xs).isSome then some (c, xs) else some (.q .stuck, [])
  | none => some (.q .stuck, [])

def compOper (own : Bool) (ops : Array Oper) (slot : Nat) (o : Oper) : Option AOper :=
  (compOp1 P own o slot).bind fun (c, xs) => (copds xs).bind fun args => (guardOf ops o).map fun g => { dst := o.dst, guard := g, cls := c, args := args }

def compOpers (own : Bool) (ops : Array Oper) : Nat → List Oper → Option (List AOper)
  | _, [] => some []
  | slot, o :: rest => (compOper P own ops slot o).bind fun a => (compOpers own ops (if a.cls.isM then slot + 1 else slot) rest).map fun as => a :: as
end

def countM (as : List AOper) : Nat := (as.filter (·.cls.isM)).length

def AOpd.reads : AOpd → List Nat
  | .t n => [n]
  | _ => []

def AOper.reads (o : AOper) : List Nat := o.args.flatMap AOpd.reads ++ (match o.guard with | some (t, _) => [t] | none => [])

/-- Does an operation look at boxes (1), make one (2), turn one (3)? -/
def Cls.touch : Cls → Nat
  | .q _ => 0
  | .call false => 0
  | .l _ => 1
  | .m _ _ => 2
  | .e _ | .call true => 3

def commutes (x y : AOper) : Bool :=
  (match x.dst with | some d => !y.reads.contains d && y.dst != some d | none => true) &&
  (match y.dst with | some d => !x.reads.contains d | none => true) &&
  (x.cls.touch == 0 || y.cls.touch == 0 || (x.cls.touch < 3 && y.cls.touch < 3)) &&
  (match x.cls, y.cls with | .m _ a, .m _ b => a != b | _, _ => true)

/-- What an operation waits for, as bits, out of those of the ones ahead of it. -/
def maskOf (acc : List Nat) : List Edge → Nat
  | [] => 0
  | e :: es => if Region.binds .any e then (2 ^ e.on ||| acc.getD e.on 0) ||| maskOf acc es else maskOf acc es

def masksGo : List Oper → List Nat → List Nat
  | [], acc => acc
  | o :: rest, acc => masksGo rest (acc ++ [maskOf acc o.after.toList])

def masks (ops : Array Oper) : List Nat := masksGo ops.toList []

/-- Any two operations of a region of open order either wait for each other or commute. -/
def drawOk (ops : Array Oper) (as : List AOper) : Bool :=
  (ops.toList.zipIdx.all fun (o, i) => o.after.all fun e => !Region.binds .any e || decide (e.on < i)) &&
  as.zipIdx.all fun (y, j) => as.zipIdx.all fun (x, i) => !(i < j) || ((masks ops).getD j 0).testBit i || commutes x y

/-- A call that waits for all that touches boxes, and for which all of these wait, may turn boxes. -/
def pinOf (ops : Array Oper) (as : List AOper) (i : Nat) : Bool :=
  let b := masks ops
  as.zipIdx.all fun (y, j) => i == j || (y.cls.touch == 0 && (match y.cls with | .call _ => false | _ => true)) || (if i < j then (b.getD j 0).testBit i else (b.getD i 0).testBit j)

def pins (draw : Bool) (ops : Array Oper) (as : List AOper) : List AOper :=
  as.zipIdx.map fun (x, i) => match x.cls with
    | .call _ => { x with cls := .call (!draw || pinOf ops as i) }
    | _ => x

def comp (P : Program) (own : List Nat) : Code → Option ACode
  | .skip => some .skip
  | .region id ops draw => (compOpers P (own.contains id) ops 0 ops.toList).bind fun as =>
      let bs := pins draw ops as
      if !draw || drawOk ops bs then some (.reg draw (countM as) bs) else none
  | .seq a b => (comp P own a).bind fun x => (comp P own b).map fun y => .seq x y
  | .cond c a b => (copd c).bind fun o => (comp P own a).bind fun x => (comp P own b).map fun y => .cond o x y
  | .block id c => (comp P own c).map fun x => .block id x
  | .loop c => (comp P own c).map fun x => .loop x
  | .exit id => some (.exit id)
  | .ret => some .ret
  | .label _ => some .skip
  | .goto l => some (.goto l)
  | .scope c => (comp P own c).map fun x => .scope x
  | _ => some .stuck

end Go.AL
