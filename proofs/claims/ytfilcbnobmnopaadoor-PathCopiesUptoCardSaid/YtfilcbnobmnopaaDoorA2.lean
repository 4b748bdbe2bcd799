/- The abstract machine: compiled operations and code, and what they do to abstract states. -/
import Derived.Test.YtfilcbnobmnopaaDoorA1
namespace Go.AL
open Go Go.RowKit

inductive AObj where
  | hole
  | box (cs : List AV)
  | fbox (cs : List AV)
  | tok (e : TypeId) (size n : Nat)
  | obj (o : Obj)
  deriving Inhabited

inductive AOpd where
  | t (n : Nat)
  | c (a : AV)
  | g (n : Nat)
  deriving Inhabited

inductive QOp where
  | mv | pick | bin (op : BinOp) (t : TypeId) | un (op : UnOp) | eqA (neg : Bool) (len : Nat) | convI (k : IntKind) | toStr | strId | toBytes
  | fld1 (off : Nat) | fldA (off n : Nat) | faddr (off : Nat) | idxS | idx1 (len : Nat) | idxA (len n : Nat)
  | iaddrS (size : Nat) | iaddrA (len size : Nat) | sliceS (lo hi : Bool) | sliceL (size : Nat) (lo hi mx : Bool) | nilchk | ext (i : Nat)
  | lenS | lenL | lenC (n : Nat) | mkfn (f : Fn) (nf : Nat) | build (zero : List AV) (places : List (Nat × Nat)) | bslice (size : Nat)
  | runeStr | eqBoo (neg : Bool) | stuck | max2 | min2 | mkiface (t : TypeId) | s2a (n : Nat)
  deriving Inhabited

inductive LOp where
  | load1 | loadA (n : Nat)
  deriving Inhabited

inductive MOp where
  | box | alloc (zero : List AV) (one : Bool) | bsliceO (e : TypeId) (size : Nat) | nilT (e : TypeId) (size : Nat)
  deriving Inhabited

inductive EOp where
  | store (n : Nat) | append (e : TypeId) (size bytes : Nat) | slArr (len : Nat) (lo hi : Bool)
  deriving Inhabited

inductive Cls where
  | q (o : QOp) | l (o : LOp) | m (o : MOp) (slot : Nat) | e (o : EOp) | call (pin : Bool)
  deriving Inhabited

structure AOper where
  dst : Option Nat
  guard : Option (Nat × Bool)
  cls : Cls
  args : List AOpd
  deriving Inhabited

inductive ACode where
  | skip
  | reg (draw : Bool) (nA : Nat) (ops : List AOper)
  | seq (a b : ACode)
  | cond (c : AOpd) (a b : ACode)
  | block (id : Nat) (c : ACode)
  | loop (c : ACode)
  | exit (id : Nat)
  | goto (l : Nat)
  | scope (c : ACode)
  | stuck
  | ret
  deriving Inhabited

structure ASt where
  tmps : List AV
  H : List AObj

def ASt.put (s : ASt) (d : Option Nat) (a : AV) : ASt :=
  match d with
  | some d => { s with tmps := s.tmps.set d a }
  | none => s

def aeval (G : Nat → Option (List AV)) (ts : List AV) : AOpd → AV
  | .t n => ts.getD n .junk
  | .c a => a
  | .g n => match G n with | some cs => .rptr cs 0 | none => .junk

abbrev int64 (n : Int) : AV := .imm (.int .i64 n)
abbrev bool (b : Bool) : AV := .imm (.bool b)
abbrev str (s : ByteArray) : AV := .imm (.string s)
def byteAV (b : UInt8) : AV := .imm (.int .u8 b.toNat)

/-- Byte i of a text. -/
def bt (s : ByteArray) (i : Int) : Int := ((s.data.toList.getD i.toNat 0).toNat : Int)

/-- Without the right to append. -/
def AV.strip1 : AV → AV
  | .sl size xs _ => .sl size xs none
  | v => v

def AV.strip : AV → AV
  | .agg cs => .agg (cs.map AV.strip1)
  | v => v.strip1

def bytesOf : List AV → Option (List UInt8)
  | [] => some []
  | .imm (.int .u8 n) :: r => (bytesOf r).map (UInt8.ofNat n.toNat :: ·)
  | _ :: _ => none

def eqCell : AV → AV → Option Bool
  | .imm (.int k a), .imm (.int k' b) => if k = k' then some (a == b) else none
  | _, _ => none

def eqCells : List AV → List AV → Option Bool
  | [], [] => some true
  | a :: as, b :: bs => match eqCell a b, eqCells as bs with
    | some x, some y => some (x && y)
    | _, _ => none
  | _, _ => none

def binInt (op : BinOp) (k : IntKind) (x y : Int) (K : AV → Prop) : Prop :=
  match op with
  | .add => K (.imm (.int k (k.wrap (x + y))))
  | .sub => K (.imm (.int k (k.wrap (x - y))))
  | .mul => K (.imm (.int k (k.wrap (x * y))))
  | .quo => y ≠ 0 ∧ K (.imm (.int k (k.wrap (x.tdiv y))))
  | .rem => y ≠ 0 ∧ K (.imm (.int k (x.tmod y)))
  | .eql => K (bool (x == y))
  | .neq => K (bool (x != y))
  | .lss => K (bool (decide (x < y)))
  | .leq => K (bool (decide (x ≤ y)))
  | .gtr => K (bool (decide (x > y)))
  | .geq => K (bool (decide (x ≥ y)))
  | .and | .or | .xor | .andNot => K (.imm (.int k (bits op k x y)))
  | .shl | .shr => False

def binSh (op : BinOp) (k : IntKind) (x y : Int) (K : AV → Prop) : Prop :=
  match op with
  | .shl => 0 ≤ y ∧ K (.imm (.int k (k.wrap (x * 2 ^ (min y.toNat k.bits)))))
  | .shr => 0 ≤ y ∧ K (.imm (.int k (x.fdiv (2 ^ (min y.toNat k.bits)))))
  | _ => False

def binStr (op : BinOp) (x y : ByteArray) (K : AV → Prop) : Prop :=
  match op with
  | .add => ((x.size + y.size : Nat) : Int) ≤ 9223372036854775807 ∧ K (str (x ++ y))
  | .eql => K (bool (x.toList == y.toList))
  | .neq => K (bool !(x.toList == y.toList))
  | .lss => K (bool (Op.bytesLess x.toList y.toList))
  | .leq => K (bool (Op.bytesLess x.toList y.toList || x.toList == y.toList))
  | .gtr => K (bool !(Op.bytesLess x.toList y.toList || x.toList == y.toList))
  | .geq => K (bool !Op.bytesLess x.toList y.toList)
  | _ => False

/-- An operation on immediate values that no case above serves: whatever the model says, if it asks nothing of the world. -/
def binAny (op : BinOp) (t : TypeId) (x y : Value) (K : AV → Prop) : Prop :=
  ∃ r : Value, r.oneCell' = true ∧ (∀ (P : Program) (w : World) (ox oy : Operand), (do eqGuard op t ox oy x y; binOp op t x y : Sem Value).run P w = .ok r w) ∧ K (.imm r)

def binsem (op : BinOp) (t : TypeId) (x y : AV) (K : AV → Prop) : Prop :=
  match x, y with
  | .imm (.int k a), .imm (.int k' b) => match op with
    | .shl | .shr => binSh op k a b K
    | _ => k = k' ∧ binInt op k a b K
  | .imm (.string a), .imm (.string b) => binStr op a b K
  | .imm a, .imm b => binAny op t a b K
  | _, _ => False

def unsem (op : UnOp) (x : AV) (K : AV → Prop) : Prop :=
  match op, x with
  | .neg, .imm (.int k n) => K (.imm (.int k (k.wrap (0 - n))))
  | .not, .imm (.bool b) => K (bool !b)
  | .xor, .imm (.int k n) => K (.imm (.int k (bits .xor k (if k.signed then -1 else k.max) n)))
  | _, _ => False

/-- Parts are laid over zero cells. -/
def fillCells (cells : List AV) : List (Nat × Nat) → List AV → Option (List AV)
  | [], [] => some cells
  | (off, size) :: ps, x :: xs =>
    if x.isVal = true ∧ x.cells.length = size ∧ off + size ≤ cells.length then fillCells (cells.take off ++ x.cells ++ cells.drop (off + size)) ps xs else none
  | _, _ => none

def onBool (x : AV) (K : Bool → Prop) : Prop := match x with | .imm (.bool c) => K c | _ => False
def onInt (x : AV) (K : IntKind → Int → Prop) : Prop := match x with | .imm (.int k n) => K k n | _ => False
def onStr (x : AV) (K : ByteArray → Prop) : Prop := match x with | .imm (.string s) => K s | _ => False
def onAgg (x : AV) (K : List AV → Prop) : Prop := match x with | .agg cs => K cs | _ => False
def onSl (x : AV) (K : Nat → List AV → Option Nat → Prop) : Prop := match x with | .sl size xs tok => K size xs tok | _ => False
def onTup (x : AV) (K : List AV → Prop) : Prop := match x with | .tup cs => K cs | _ => False
def onImm (x : AV) (K : Value → Prop) : Prop := match x with | .imm v => K v | _ => False
def onSome {α : Type} (x : Option α) (K : α → Prop) : Prop := match x with | some a => K a | none => False

def toStrSem (x : AV) (K : AV → Prop) : Prop := onSl x fun _ xs _ => onSome (bytesOf xs) fun bs => K (str ⟨bs.toArray⟩)

def faddrSem (off : Nat) (x : AV) (K : AV → Prop) : Prop :=
  match x with
  | .ptr id o => K (.ptr id (o + off))
  | .rptr cs o => K (.rptr cs (o + off))
  | _ => False

def nilchkSem (x : AV) (K : AV → Prop) : Prop :=
  match x with
  | .ptr id o => K (.ptr id o)
  | .rptr cs o => K (.rptr cs o)
  | .fn (.func f) a b => K (.fn (.func f) a b)
  | _ => False

/-- The bounds of a slice expression over n: low and high where they are said. -/
def bounds (lo hi : Bool) (n : Nat) (bs : List AV) (K : Nat → Nat → Prop) : Prop :=
  match lo, hi, bs with
  | false, false, [] => K 0 n
  | true, false, [x] => onInt x fun _ l => 0 ≤ l ∧ l ≤ n ∧ K l.toNat n
  | false, true, [y] => onInt y fun _ h => 0 ≤ h ∧ h ≤ n ∧ K 0 h.toNat
  | true, true, [x, y] => onInt x fun _ l => onInt y fun _ h => 0 ≤ l ∧ l ≤ h ∧ h ≤ n ∧ K l.toNat h.toNat
  | _, _, _ => False

/-- x[:h:m] over n. -/
def three (n : Nat) (bs : List AV) (K : Nat → Prop) : Prop :=
  match bs with
  | [y, z] => onInt y fun _ h => onInt z fun _ m => 0 ≤ h ∧ h ≤ m ∧ m ≤ n ∧ K h.toNat
  | _ => False

def sliceLsem (size : Nat) (lo hi mx : Bool) (x : AV) (bs : List AV) (K : AV → Prop) : Prop :=
  onSl x fun sz xs _ => (sz = size ∨ xs = []) ∧ (if mx = true then lo = false ∧ hi = true ∧ three xs.length bs fun h => K (.sl sz (xs.take h) none)
    else bounds lo hi xs.length bs fun l h => K (.sl sz ((xs.take h).drop l) none))

def qsem (o : QOp) (args : List AV) (K : AV → Prop) : Prop :=
  match o, args with
  | .mv, [x] => K x
  | .pick, [c, a, b] => onBool c fun c => K (if c then a else b)
  | .bin op t, [x, y] => binsem op t x y K
  | .eqA neg len, [x, y] => onAgg x fun xs => onAgg y fun ys => xs.length = len ∧ onSome (eqCells xs ys) fun b => K (bool (if neg then !b else b))
  | .un op, [x] => unsem op x K
  | .convI k, [x] => onInt x fun _ n => K (.imm (.int k (k.wrap n)))
  | .toStr, [x] => toStrSem x K
  | .eqBoo neg, [x, y] => onBool x fun a => onBool y fun b => K (bool (if neg then !(a == b) else a == b))
  | .runeStr, [x] => onInt x fun _ n => K (str (Utf8.encode n))
  | .strId, [x] => onStr x fun s => K (str s)
  | .toBytes, [x] => onStr x fun s => s.size ≤ 4611686018427387904 ∧ K (.sl 1 (s.data.toList.map byteAV) none)
  | .fld1 off, [x] => onAgg x fun cs => onSome cs[off]? K
  | .fldA off n, [x] => onAgg x fun cs => off + n ≤ cs.length ∧ K (.agg ((cs.drop off).take n))
  | .faddr off, [x] => faddrSem off x K
  | .idxS, [x, y] => onStr x fun s => onInt y fun _ i => 0 ≤ i ∧ i < s.size ∧ K (.imm (.int .u8 (bt s i)))
  | .idx1 len, [x, y] => onAgg x fun cs => onInt y fun _ i => 0 ≤ i ∧ i < len ∧ onSome cs[i.toNat]? K
  | .idxA len n, [x, y] => onAgg x fun cs => onInt y fun _ i => 0 ≤ i ∧ i < len ∧ i.toNat * n + n ≤ cs.length ∧ K (.agg ((cs.drop (i.toNat * n)).take n))
  | .iaddrS size, [x, y] => onSl x fun sz xs _ => onInt y fun _ i => sz = size ∧ 0 ≤ i ∧ i < xs.length ∧ K (.rptr (xs.getD i.toNat .junk).cells 0)
  | .iaddrA len size, [x, y] => onInt y fun _ i => 0 ≤ i ∧ i < len ∧ faddrSem (i.toNat * size) x K
  | .sliceS lo hi, x :: bs => onStr x fun s => bounds lo hi s.size bs fun l h => K (str (s.extract l h))
  | .sliceL size lo hi mx, x :: bs => sliceLsem size lo hi mx x bs K
  | .nilchk, [x] => nilchkSem x K
  | .ext i, [x] => onTup x fun vs => onSome vs[i]? K
  | .lenS, [x] => onStr x fun s => K (int64 s.size)
  | .lenL, [x] => onSl x fun _ xs _ => K (int64 xs.length)
  | .lenC n, _ => K (int64 n)
  | .mkfn f nf, as => K (.fn f (as.take nf) (as.drop nf))
  | .build zero places, as => onSome (fillCells zero places as) fun cs => K (.agg cs)
  | .bslice size, as => (∀ x ∈ as, x.isVal = true ∧ x.cells.length = size) ∧ as.length * (size + 1) ≤ 16777216 ∧ K (.sl size (as.map AV.strip) none)
  | .max2, [x, y] => onInt x fun k a => onInt y fun k' b => k = k' ∧ K (.imm (.int k (max a b)))
  | .min2, [x, y] => onInt x fun k a => onInt y fun k' b => k = k' ∧ K (.imm (.int k (min a b)))
  | .mkiface t, [x] => onImm x fun v => K (.imm (.iface t v))
  | .s2a n, [x] => onSl x fun sz xs _ => sz = 1 ∧ 0 < n ∧ n ≤ xs.length ∧ K (.rptr (xs.flatMap AV.cells) 0)
  | _, _ => False

def loadCells (cs : List AV) (off n : Nat) (K : AV → Prop) : Prop := off + n ≤ cs.length ∧ K (.agg ((cs.drop off).take n))

def onBox (x : Option AObj) (K : List AV → Prop) : Prop := match x with | some (.box cs) => K cs | some (.fbox cs) => K cs | _ => False

/-- The cells behind a pointer, and where in them. -/
def behind (x : AV) (look : Nat → Option AObj) (K : List AV → Nat → Prop) : Prop :=
  match x with
  | .rptr cs off => K cs off
  | .ptr id off => onBox (look id) fun cs => K cs off
  | _ => False

def lsem (o : LOp) (args : List AV) (look : Nat → Option AObj) (K : AV → Prop) : Prop :=
  match o, args with
  | .load1, [x] => behind x look fun cs off => onSome cs[off]? K
  | .loadA n, [x] => behind x look fun cs off => loadCells cs off n K
  | _, _ => False

def msem (o : MOp) (args : List AV) (id : Nat) (K : AV → AObj → Prop) : Prop :=
  match o, args with
  | .box, [x] => x.isVal = true ∧ K (.ptr id 0) (.box x.cells)
  | .alloc zero _, [] => K (.ptr id 0) (.box zero)
  | .bsliceO e size, as => 0 < size ∧ (∀ x ∈ as, x.isVal = true ∧ x.cells.length = size) ∧ as.length * (size + 1) ≤ 16777216 ∧ K (.sl size (as.map AV.strip) (some id)) (.tok e size as.length)
  | .nilT e size, [] => K (.sl size [] (some id)) (.tok e size 0)
  | _, _ => False

def onPtr (x : AV) (K : Nat → Nat → Prop) : Prop := match x with | .ptr id off => K id off | _ => False
def onTok (x : Option AObj) (K : TypeId → Nat → Nat → Prop) : Prop := match x with | some (.tok e size n) => K e size n | _ => False

def esem (o : EOp) (args : List AV) (H : List AObj) (K : AV → List AObj → Prop) : Prop :=
  match o, args with
  | .store n, [p, x] => onPtr p fun id off => x.isVal = true ∧ x.cells.length = n ∧ (match H[id]? with
    | some (.box cs) => off + n ≤ cs.length ∧ K .junk (H.set id (.box (cs.take off ++ x.cells ++ cs.drop (off + n))))
    | _ => False)
  | .append e size bytes, [s, x] => onSl s fun sz xs tok => onSl x fun sz' ys _ => onSome tok fun k => onTok H[k]? fun e' tsz n =>
      e' = e ∧ 0 < size ∧ tsz = size ∧ n = xs.length ∧ (sz = size ∨ xs = []) ∧ (sz' = size ∨ ys = []) ∧ (xs.length + ys.length) * bytes ≤ 140737488355328 ∧
        xs.length + ys.length ≤ 4611686018427387904 ∧ K (.sl size (xs ++ ys) (some k)) (H.set k (.tok e size (xs.length + ys.length)))
  | .slArr len lo hi, p :: bs => onPtr p fun id off => onBox H[id]? fun cs => off + len ≤ cs.length ∧ bounds lo hi len bs fun l h =>
      K (.sl 1 (((cs.drop off).take h).drop l) none) (H.set id (.fbox cs))
  | _, _ => False

end Go.AL
