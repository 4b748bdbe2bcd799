/- Abstract values, and what it means that a concrete value, in a world, reads as one. -/
import Derived.Orders
import Derived.Scope
import Derived.Below
import Derived.Laws.AppendOwn
import Derived.Laws.Cells
import Derived.Laws.CopyRow
import Derived.Laws.Rows
import Derived.Laws.Entries
namespace Go.AL
open Go Go.RowKit

inductive AV where
  | imm (v : Value)
  | junk
  | agg (cs : List AV)
  | tup (vs : List AV)
  | sl (size : Nat) (xs : List AV) (tok : Option Nat)
  | ptr (id off : Nat)
  | rptr (cs : List AV) (off : Nat)
  | fn (f : Fn) (first cap : List AV)
  | mp (id : Nat)
  | it (id : Nat)
  | rs (id ver size lo n : Nat)
  | rp (id ver size i : Nat)
  deriving Inhabited

def AV.cells : AV → List AV
  | .agg cs => cs
  | v => [v]

/-- A value that a variable may hold: neither a tuple nor unknown. -/
def AV.isVal : AV → Bool
  | .junk | .tup _ => false
  | _ => true

/-- I: the cells that are never written any more. bx: the blocks of boxes and objects. tk: of a token how long its row is, and where it lies (block, capacity). -/
structure Env where
  I : Addr → Prop
  bx : Nat → Option Nat
  tk : Nat → Option (Nat × Option (Nat × Nat))

def TokOk (E : Env) (n : Nat) (A : Option Addr) (cap : Nat) : Option Nat → Prop
  | none => True
  | some k => ∃ m b, E.tk k = some (m, b) ∧ n ≤ m ∧ (n = m → match b with
      | none => A = none ∧ cap = 0
      | some (g, c) => A = some ⟨g, 0, none⟩ ∧ cap = c)

/-- A row that may still be written: which block it lies in, at this state of it. -/
def VerOk (E : Env) (ver id : Nat) (Q : Option (Nat × Nat) → Prop) : Prop := ∃ m b, E.tk id = some (m, b) ∧ ver ≤ m ∧ (ver = m → Q b)
/-- A slice of it, from element lo on. -/
def InRow (size lo : Nat) (A : Option Addr) (cap : Nat) : Option (Nat × Nat) → Prop
  | none => cap = 0 ∧ A = none
  | some (g, c) => lo + cap = c ∧ (0 < cap ∨ lo = 0 → A = some ⟨g, lo * size, none⟩)
/-- A pointer to its element i. -/
def AtRow (size i : Nat) (A : Addr) : Option (Nat × Nat) → Prop
  | none => False
  | some (g, _) => A = ⟨g, i * size, none⟩

mutual
inductive Rep (E : Env) (w : World) : AV → Value → Prop
  | imm (v : Value) : v.oneCell' = true → Rep E w (.imm v) v
  | junk (v : Value) : Rep E w .junk v
  | agg (cs : List AV) (us : List Value) : Reps E w cs us → (∀ u ∈ us, u.oneCell' = true) → Rep E w (.agg cs) (.agg us.toArray)
  | tup (cs : List AV) (us : List Value) : Reps E w cs us → Rep E w (.tup cs) (.tuple us.toArray)
  | sl (size : Nat) (xs : List AV) (tok : Option Nat) (A : Option Addr) (cap : Nat) (us : List Value) :
      xs.length ≤ cap → cap ≤ maxLen → (∀ x ∈ xs, x.cells.length = size) → Reps E w (xs.flatMap AV.cells) us → (∀ u ∈ us, u.oneCell' = true) →
      (∀ j u, us[j]? = some u → ∃ ad, A = some ad ∧ w.cell? (ad.add j) = some u ∧ E.I (ad.add j)) → TokOk E xs.length A cap tok →
      Rep E w (.sl size xs tok) (.slice A xs.length cap)
  | ptr (id off b : Nat) : E.bx id = some b → Rep E w (.ptr id off) (.pointer (some ⟨b, off, none⟩))
  | rptr (cs : List AV) (off : Nat) (ad : Addr) (us : List Value) : Reps E w cs us → (∀ u ∈ us, u.oneCell' = true) →
      (∀ j u, us[j]? = some u → w.cell? (ad.add j) = some u ∧ E.I (ad.add j)) → Rep E w (.rptr cs off) (.pointer (some (ad.add off)))
  | fn (f : Fn) (first cap : List AV) (us vs : List Value) : Reps E w first us → Reps E w cap vs → Rep E w (.fn f first cap) (.func f us.toArray vs.toArray)
  | mp (id b : Nat) : E.bx id = some b → Rep E w (.mp id) (.map (some b))
  | it (id b : Nat) : E.bx id = some b → Rep E w (.it id) (.pointer (some ⟨b, 0, none⟩))
  | rs (id ver size lo n : Nat) (A : Option Addr) (cap : Nat) : n ≤ cap → cap ≤ maxLen → (0 < cap → ∃ a, A = some a) → VerOk E ver id (InRow size lo A cap) → Rep E w (.rs id ver size lo n) (.slice A n cap)
  | rp (id ver size i : Nat) (A : Addr) : VerOk E ver id (AtRow size i A) → Rep E w (.rp id ver size i) (.pointer (some A))
inductive Reps (E : Env) (w : World) : List AV → List Value → Prop
  | nil : Reps E w [] []
  | cons (a : AV) (v : Value) (as : List AV) (vs : List Value) : Rep E w a v → Reps E w as vs → Reps E w (a :: as) (v :: vs)
end

/-- What a step may do: nothing below lo turns, what was for good stays, boxes stay where they are, tokens only grow. -/
structure Evo (lo : Nat) (E : Env) (w : World) (E' : Env) (w' : World) : Prop where
  below : Below lo w w'
  I : ∀ a, E.I a → E'.I a ∧ w'.cell? a = w.cell? a
  bx : ∀ id b, E.bx id = some b → E'.bx id = some b
  tk : ∀ id n b, E.tk id = some (n, b) → ∃ n' b', E'.tk id = some (n', b') ∧ n ≤ n' ∧ (n' = n → b' = b)
  newI : ∀ a, E'.I a → E.I a ∨ lo ≤ a.block

theorem Evo.refl (lo : Nat) (E : Env) (w : World) : Evo lo E w E w :=
  ⟨Below.refl _ _, fun _ h => ⟨h, rfl⟩, fun _ _ h => h, fun _ n b h => ⟨n, b, h, Nat.le_refl _, fun _ => rfl⟩, fun _ h => .inl h⟩

theorem Evo.trans {lo : Nat} {E E1 E2 : Env} {w w1 w2 : World} (h : Evo lo E w E1 w1) (k : Evo lo E1 w1 E2 w2) : Evo lo E w E2 w2 :=
  ⟨h.below.trans k.below, fun a ha => ⟨(k.I a (h.I a ha).1).1, (k.I a (h.I a ha).1).2.trans (h.I a ha).2⟩, fun id b hb => k.bx id b (h.bx id b hb),
    fun id n b hb => by
      obtain ⟨n1, b1, h1, h2, h3⟩ := h.tk id n b hb
      obtain ⟨n2, b2, k1, k2, k3⟩ := k.tk id n1 b1 h1
      refine ⟨n2, b2, k1, Nat.le_trans h2 k2, fun e => ?_⟩
      have e1 : n1 = n := by omega
      have e2 : n2 = n1 := by omega
      rw [k3 e2, h3 e1],
    fun a ha => (k.newI a ha).elim (h.newI a) .inr⟩

theorem TokOk.mono {lo : Nat} {E E' : Env} {w w' : World} (hE : Evo lo E w E' w') {n cap : Nat} {A : Option Addr} {tok : Option Nat} (h : TokOk E n A cap tok) : TokOk E' n A cap tok := by
  cases tok with
  | none => trivial
  | some k =>
    obtain ⟨m, b, h1, h2, h3⟩ := h
    obtain ⟨m', b', k1, k2, k3⟩ := hE.tk k m b h1
    refine ⟨m', b', k1, Nat.le_trans h2 k2, fun e => ?_⟩
    have e1 : m' = m := by omega
    rw [k3 e1]
    exact h3 (by omega)

theorem VerOk.mono {lo : Nat} {E E' : Env} {w w' : World} (hE : Evo lo E w E' w') {ver id : Nat} {Q : Option (Nat × Nat) → Prop} (h : VerOk E ver id Q) : VerOk E' ver id Q := by
  obtain ⟨m, b, h1, h2, h3⟩ := h
  obtain ⟨m', b', k1, k2, k3⟩ := hE.tk id m b h1
  refine ⟨m', b', k1, Nat.le_trans h2 k2, fun e => ?_⟩
  have e1 : m' = m := by omega
  rw [k3 e1]
  exact h3 (by omega)

mutual
theorem Rep.mono {lo : Nat} {E E' : Env} {w w' : World} (hE : Evo lo E w E' w') : ∀ {a : AV} {v : Value}, Rep E w a v → Rep E' w' a v
  | _, _, .imm v h => .imm v h
  | _, _, .junk v => .junk v
  | _, _, .agg cs us h h1 => .agg cs us (Reps.mono hE h) h1
  | _, _, .tup cs us h => .tup cs us (Reps.mono hE h)
  | _, _, .sl size xs tok A cap us h1 h2 h3 h4 h5 h6 h7 =>
    .sl size xs tok A cap us h1 h2 h3 (Reps.mono hE h4) h5 (fun j u hu => by
      obtain ⟨ad, e1, e2, e3⟩ := h6 j u hu
      exact ⟨ad, e1, (hE.I _ e3).2.trans e2, (hE.I _ e3).1⟩) (h7.mono hE)
  | _, _, .ptr id off b h => .ptr id off b (hE.bx _ _ h)
  | _, _, .rptr cs off ad us h h1 h2 => .rptr cs off ad us (Reps.mono hE h) h1 (fun j u hu => ⟨(hE.I _ (h2 j u hu).2).2.trans (h2 j u hu).1, (hE.I _ (h2 j u hu).2).1⟩)
  | _, _, .fn f first cap us vs h h1 => .fn f first cap us vs (Reps.mono hE h) (Reps.mono hE h1)
  | _, _, .mp id b h => .mp id b (hE.bx _ _ h)
  | _, _, .it id b h => .it id b (hE.bx _ _ h)
  | _, _, .rs id ver size lo n A cap h1 h2 h0 h3 => .rs id ver size lo n A cap h1 h2 h0 (h3.mono hE)
  | _, _, .rp id ver size i A h => .rp id ver size i A (h.mono hE)
theorem Reps.mono {lo : Nat} {E E' : Env} {w w' : World} (hE : Evo lo E w E' w') : ∀ {as : List AV} {vs : List Value}, Reps E w as vs → Reps E' w' as vs
  | _, _, .nil => .nil
  | _, _, .cons a v as vs h h1 => .cons a v as vs (Rep.mono hE h) (Reps.mono hE h1)
end

theorem Reps.length {E : Env} {w : World} : ∀ {as : List AV} {vs : List Value}, Reps E w as vs → vs.length = as.length
  | _, _, .nil => rfl
  | _, _, .cons _ _ _ _ _ h => by simp [Reps.length h]

theorem Reps.get {E : Env} {w : World} : ∀ {as : List AV} {vs : List Value}, Reps E w as vs → ∀ (i : Nat) (a : AV), as[i]? = some a → ∃ v, vs[i]? = some v ∧ Rep E w a v
  | _, _, .nil, i, a, h => by simp at h
  | _, _, .cons a v as vs h h1, i, x, hx => by
    cases i with
    | zero => simp at hx; subst hx; exact ⟨v, by simp, h⟩
    | succ i => simp at hx; obtain ⟨u, e, r⟩ := Reps.get h1 i x hx; exact ⟨u, by simpa using e, r⟩

theorem Reps.append {E : Env} {w : World} : ∀ {as bs : List AV} {us vs : List Value}, Reps E w as us → Reps E w bs vs → Reps E w (as ++ bs) (us ++ vs)
  | _, _, _, _, .nil, k => k
  | _, _, _, _, .cons a v as vs h h1, k => .cons a v _ _ h (Reps.append h1 k)

theorem Reps.drop {E : Env} {w : World} : ∀ {as : List AV} {us : List Value} (_n : Nat), Reps E w as us → Reps E w (as.drop _n) (us.drop _n)
  | _, _, 0, h => h
  | _, _, n + 1, .nil => by simp; exact .nil
  | _, _, n + 1, .cons _ _ _ _ _ h => by simpa using Reps.drop n h

theorem Reps.take {E : Env} {w : World} : ∀ {as : List AV} {us : List Value} (n : Nat), Reps E w as us → Reps E w (as.take n) (us.take n)
  | _, _, 0, h => by simp; exact .nil
  | _, _, n + 1, .nil => by simp; exact .nil
  | _, _, n + 1, .cons a v _ _ h h1 => by simp only [List.take_succ_cons]; exact .cons a v _ _ h (Reps.take n h1)

theorem Reps.set {E : Env} {w : World} {a : AV} {v : Value} (ha : Rep E w a v) : ∀ {as : List AV} {us : List Value} (n : Nat), Reps E w as us → Reps E w (as.set n a) (us.set n v)
  | _, _, 0, .nil => .nil
  | _, _, _ + 1, .nil => .nil
  | _, _, 0, .cons _ _ _ _ _ h1 => .cons a v _ _ ha h1
  | _, _, n + 1, .cons b u _ _ h h1 => .cons b u _ _ h (Reps.set ha n h1)

/-- A value that is one, concretely: its cells. -/
theorem Rep.cells {E : Env} {w : World} {a : AV} {v : Value} (h : Rep E w a v) (hv : a.isVal = true) : Reps E w a.cells v.cells.toList ∧ ∀ u ∈ v.cells.toList, u.oneCell' = true := by
  cases h with
  | imm v h => cases v <;> simp_all [AV.cells, Value.cells, Value.oneCell'] <;> exact .cons _ _ _ _ (.imm _ rfl) .nil
  | junk => simp [AV.isVal] at hv
  | agg cs us h h1 => exact ⟨by simpa [AV.cells, Value.cells] using h, by simpa [Value.cells] using h1⟩
  | tup => simp [AV.isVal] at hv
  | sl size xs tok A cap us h1 h2 h3 h4 h5 h6 h7 => exact ⟨.cons _ _ _ _ (.sl size xs tok A cap us h1 h2 h3 h4 h5 h6 h7) .nil, by simp [Value.cells, Value.oneCell']⟩
  | ptr id off b h => exact ⟨.cons _ _ _ _ (.ptr id off b h) .nil, by simp [Value.cells, Value.oneCell']⟩
  | rptr cs off ad us h1 h2 h3 => exact ⟨.cons _ _ _ _ (.rptr cs off ad us h1 h2 h3) .nil, by simp [Value.cells, Value.oneCell']⟩
  | fn f first cap us vs h1 h2 => exact ⟨.cons _ _ _ _ (.fn f first cap us vs h1 h2) .nil, by simp [Value.cells, Value.oneCell']⟩
  | mp id b h => exact ⟨.cons _ _ _ _ (.mp id b h) .nil, by simp [Value.cells, Value.oneCell']⟩
  | it id b h => exact ⟨.cons _ _ _ _ (.it id b h) .nil, by simp [Value.cells, Value.oneCell']⟩
  | rs id ver size lo n A cap h1 h2 h0 h3 => exact ⟨.cons _ _ _ _ (.rs id ver size lo n A cap h1 h2 h0 h3) .nil, by simp [Value.cells, Value.oneCell']⟩
  | rp id ver size i A h => exact ⟨.cons _ _ _ _ (.rp id ver size i A h) .nil, by simp [Value.cells, Value.oneCell']⟩

end Go.AL

/- The abstract machine: compiled operations and code, and what they do to abstract states. -/
namespace Go.AL
open Go Go.RowKit

/-- What the keys of a map are: texts, whole numbers of a kind, rows of such. -/
inductive KShape where
  | str | one (k : IntKind) | ints (ks : List IntKind)
  deriving Inhabited

inductive AObj where
  | map (ks : KShape) (zv : Value) (es : List (Value × Option AV))
  | hole
  | box (cs : List AV)
  | fbox (cs : List AV)
  | tok (e : TypeId) (size n : Nat)
  | row (e : TypeId) (size ver : Nat) (xs : List AV)
  | dead
  | obj (o : Obj)
  deriving Inhabited

inductive AOpd where
  | t (n : Nat)
  | c (a : AV)
  | g (n : Nat)
  deriving Inhabited

inductive QOp where
  | mv | pick | bin (op : BinOp) (t : TypeId) | un (op : UnOp) | eqA (neg : Bool) (len : Nat) | convI (k : IntKind) | toStr | strId | toBytes
  | fld1 (off : Nat) | fldA (off n : Nat) | faddr (off : Nat) | idxS | idx1 (len : Nat) | idxA (len n : Nat)
  | iaddrS (size : Nat) | iaddrA (len size : Nat) | sliceS (lo hi : Bool) | sliceL (size : Nat) (lo hi mx : Bool) | nilchk | ext (i : Nat)
  | lenS | lenL | lenC (n : Nat) | mkfn (f : Fn) (nf : Nat) | build (zero : List AV) (places : List (Nat × Nat)) | bslice (size : Nat)
  | runeStr | eqBoo (neg : Bool) | stuck | max2 | min2 | mkiface (t : TypeId) | s2a (n : Nat) | cpart (im : Bool)
  deriving Inhabited

inductive LOp where
  | load1 | loadA (n : Nat) | mlook (ks : KShape) (zv : Value) (ok : Bool) | mlen
  deriving Inhabited

inductive MOp where
  | mkmap (ks : KShape) (zv : Value) | box | alloc (zero : List AV) (one : Bool) | bsliceO (e : TypeId) (size : Nat) | nilT (e : TypeId) (size : Nat)
  deriving Inhabited

inductive EOp where
  | mentry (ks : KShape) (zv : Value) | mstore (ks : KShape) (zv : Value) | mupd (ks : KShape) (zv : Value) | store (n : Nat) | clear (zero : AV) | append (e : TypeId) (size bytes : Nat) | slArr (len : Nat) (lo hi : Bool)
  deriving Inhabited

inductive Cls where
  | q (o : QOp) | l (o : LOp) | m (o : MOp) (slot : Nat) | e (o : EOp) | call (pin : Bool)
  deriving Inhabited

structure AOper where
  dst : Option Nat
  guard : Option (Nat × Bool)
  cls : Cls
  args : List AOpd
  deriving Inhabited

inductive ACode where
  | skip
  | reg (draw : Bool) (nA : Nat) (ops : List AOper)
  | seq (a b : ACode)
  | cond (c : AOpd) (a b : ACode)
  | block (id : Nat) (c : ACode)
  | loop (c : ACode)
  | exit (id : Nat)
  | goto (l : Nat)
  | scope (c : ACode)
  | stuck
  | ret
  deriving Inhabited

structure ASt where
  tmps : List AV
  H : List AObj

def ASt.put (s : ASt) (d : Option Nat) (a : AV) : ASt :=
  match d with
  | some d => { s with tmps := s.tmps.set d a }
  | none => s

def aeval (G : Nat → Option (List AV)) (ts : List AV) : AOpd → AV
  | .t n => ts.getD n .junk
  | .c a => a
  | .g n => match G n with | some cs => .rptr cs 0 | none => .junk

abbrev int64 (n : Int) : AV := .imm (.int .i64 n)
abbrev bool (b : Bool) : AV := .imm (.bool b)
abbrev str (s : ByteArray) : AV := .imm (.string s)
def byteAV (b : UInt8) : AV := .imm (.int .u8 b.toNat)

/-- Byte i of a text. -/
def bt (s : ByteArray) (i : Int) : Int := ((s.data.toList.getD i.toNat 0).toNat : Int)

/-- Without the right to append. -/
def AV.strip1 : AV → AV
  | .sl size xs _ => .sl size xs none
  | v => v

def AV.strip : AV → AV
  | .agg cs => .agg (cs.map AV.strip1)
  | v => v.strip1

def bytesOf : List AV → Option (List UInt8)
  | [] => some []
  | .imm (.int .u8 n) :: r => (bytesOf r).map (UInt8.ofNat n.toNat :: ·)
  | _ :: _ => none

def eqCell : AV → AV → Option Bool
  | .imm (.int k a), .imm (.int k' b) => if k = k' then some (a == b) else none
  | _, _ => none

def eqCells : List AV → List AV → Option Bool
  | [], [] => some true
  | a :: as, b :: bs => match eqCell a b, eqCells as bs with
    | some x, some y => some (x && y)
    | _, _ => none
  | _, _ => none

def binInt (op : BinOp) (k : IntKind) (x y : Int) (K : AV → Prop) : Prop :=
  match op with
  | .add => K (.imm (.int k (k.wrap (x + y))))
  | .sub => K (.imm (.int k (k.wrap (x - y))))
  | .mul => K (.imm (.int k (k.wrap (x * y))))
  | .quo => y ≠ 0 ∧ K (.imm (.int k (k.wrap (x.tdiv y))))
  | .rem => y ≠ 0 ∧ K (.imm (.int k (x.tmod y)))
  | .eql => K (bool (x == y))
  | .neq => K (bool (x != y))
  | .lss => K (bool (decide (x < y)))
  | .leq => K (bool (decide (x ≤ y)))
  | .gtr => K (bool (decide (x > y)))
  | .geq => K (bool (decide (x ≥ y)))
  | .and | .or | .xor | .andNot => K (.imm (.int k (bits op k x y)))
  | .shl | .shr => False

def binSh (op : BinOp) (k : IntKind) (x y : Int) (K : AV → Prop) : Prop :=
  match op with
  | .shl => 0 ≤ y ∧ K (.imm (.int k (k.wrap (x * 2 ^ (min y.toNat k.bits)))))
  | .shr => 0 ≤ y ∧ K (.imm (.int k (x.fdiv (2 ^ (min y.toNat k.bits)))))
  | _ => False

def binStr (op : BinOp) (x y : ByteArray) (K : AV → Prop) : Prop :=
  match op with
  | .add => ((x.size + y.size : Nat) : Int) ≤ 9223372036854775807 ∧ K (str (x ++ y))
  | .eql => K (bool (x.toList == y.toList))
  | .neq => K (bool !(x.toList == y.toList))
  | .lss => K (bool (Op.bytesLess x.toList y.toList))
  | .leq => K (bool (Op.bytesLess x.toList y.toList || x.toList == y.toList))
  | .gtr => K (bool !(Op.bytesLess x.toList y.toList || x.toList == y.toList))
  | .geq => K (bool !Op.bytesLess x.toList y.toList)
  | _ => False

/-- An operation on immediate values that no case above serves: whatever the model says, if it asks nothing of the world. -/
def binAny (op : BinOp) (t : TypeId) (x y : Value) (K : AV → Prop) : Prop :=
  ∃ r : Value, r.oneCell' = true ∧ (∀ (P : Program) (w : World) (ox oy : Operand), (do eqGuard op t ox oy x y; binOp op t x y : Sem Value).run P w = .ok r w) ∧ K (.imm r)

def binsem (op : BinOp) (t : TypeId) (x y : AV) (K : AV → Prop) : Prop :=
  match x, y with
  | .imm (.int k a), .imm (.int k' b) => match op with
    | .shl | .shr => binSh op k a b K
    | _ => k = k' ∧ binInt op k a b K
  | .imm (.string a), .imm (.string b) => binStr op a b K
  | .imm a, .imm b => binAny op t a b K
  | _, _ => False

def unsem (op : UnOp) (x : AV) (K : AV → Prop) : Prop :=
  match op, x with
  | .neg, .imm (.int k n) => K (.imm (.int k (k.wrap (0 - n))))
  | .not, .imm (.bool b) => K (bool !b)
  | .xor, .imm (.int k n) => K (.imm (.int k (bits .xor k (if k.signed then -1 else k.max) n)))
  | _, _ => False

/-- Parts are laid over zero cells. -/
def fillCells (cells : List AV) : List (Nat × Nat) → List AV → Option (List AV)
  | [], [] => some cells
  | (off, size) :: ps, x :: xs =>
    if x.isVal = true ∧ x.cells.length = size ∧ off + size ≤ cells.length then fillCells (cells.take off ++ x.cells ++ cells.drop (off + size)) ps xs else none
  | _, _ => none

def onBool (x : AV) (K : Bool → Prop) : Prop := match x with | .imm (.bool c) => K c | _ => False
def onInt (x : AV) (K : IntKind → Int → Prop) : Prop := match x with | .imm (.int k n) => K k n | _ => False
def onCx (x : AV) (K : FloatKind → Nat → Nat → Prop) : Prop := match x with | .imm (.complex k a b) => K k a b | _ => False
def onStr (x : AV) (K : ByteArray → Prop) : Prop := match x with | .imm (.string s) => K s | _ => False
def onAgg (x : AV) (K : List AV → Prop) : Prop := match x with | .agg cs => K cs | _ => False
def onSl (x : AV) (K : Nat → List AV → Option Nat → Prop) : Prop := match x with | .sl size xs tok => K size xs tok | _ => False
def onTup (x : AV) (K : List AV → Prop) : Prop := match x with | .tup cs => K cs | _ => False
def onImm (x : AV) (K : Value → Prop) : Prop := match x with | .imm v => K v | _ => False
def onSome {α : Type} (x : Option α) (K : α → Prop) : Prop := match x with | some a => K a | none => False

def toStrSem (x : AV) (K : AV → Prop) : Prop := onSl x fun _ xs _ => onSome (bytesOf xs) fun bs => K (str ⟨bs.toArray⟩)

def faddrSem (off : Nat) (x : AV) (K : AV → Prop) : Prop :=
  match x with
  | .ptr id o => K (.ptr id (o + off))
  | .rptr cs o => K (.rptr cs (o + off))
  | _ => False

def nilchkSem (x : AV) (K : AV → Prop) : Prop :=
  match x with
  | .ptr id o => K (.ptr id o)
  | .rptr cs o => K (.rptr cs o)
  | .fn (.func f) a b => K (.fn (.func f) a b)
  | _ => False

/-- The bounds of a slice expression over n: low and high where they are said. -/
def bounds (lo hi : Bool) (n : Nat) (bs : List AV) (K : Nat → Nat → Prop) : Prop :=
  match lo, hi, bs with
  | false, false, [] => K 0 n
  | true, false, [x] => onInt x fun _ l => 0 ≤ l ∧ l ≤ n ∧ K l.toNat n
  | false, true, [y] => onInt y fun _ h => 0 ≤ h ∧ h ≤ n ∧ K 0 h.toNat
  | true, true, [x, y] => onInt x fun _ l => onInt y fun _ h => 0 ≤ l ∧ l ≤ h ∧ h ≤ n ∧ K l.toNat h.toNat
  | _, _, _ => False

/-- x[:h:m] over n. -/
def three (n : Nat) (bs : List AV) (K : Nat → Prop) : Prop :=
  match bs with
  | [y, z] => onInt y fun _ h => onInt z fun _ m => 0 ≤ h ∧ h ≤ m ∧ m ≤ n ∧ K h.toNat
  | _ => False

def lenSem (x : AV) (K : AV → Prop) : Prop :=
  match x with
  | .sl _ xs _ => K (int64 xs.length)
  | .rs _ _ _ _ n => K (int64 n)
  | _ => False

def iaddrSem (size : Nat) (x : AV) (i : Int) (K : AV → Prop) : Prop :=
  match x with
  | .sl sz xs _ => sz = size ∧ 0 ≤ i ∧ i < xs.length ∧ K (.rptr (xs.getD i.toNat .junk).cells 0)
  | .rs id ver sz lo n => sz = size ∧ 0 ≤ i ∧ i < n ∧ K (.rp id ver sz (lo + i.toNat))
  | _ => False

def sliceLsem (size : Nat) (lo hi mx : Bool) (x : AV) (bs : List AV) (K : AV → Prop) : Prop :=
  match x with
  | .sl sz xs _ => (sz = size ∨ xs = []) ∧ (if mx = true then lo = false ∧ hi = true ∧ three xs.length bs fun h => K (.sl sz (xs.take h) none)
    else bounds lo hi xs.length bs fun l h => K (.sl sz ((xs.take h).drop l) none))
  | .rs id ver sz at0 n => sz = size ∧ mx = false ∧ bounds lo hi n bs fun l h => K (.rs id ver sz (at0 + l) (h - l))
  | _ => False

def qsem (o : QOp) (args : List AV) (K : AV → Prop) : Prop :=
  match o, args with
  | .mv, [x] => K x
  | .pick, [c, a, b] => onBool c fun c => K (if c then a else b)
  | .bin op t, [x, y] => binsem op t x y K
  | .eqA neg len, [x, y] => onAgg x fun xs => onAgg y fun ys => xs.length = len ∧ onSome (eqCells xs ys) fun b => K (bool (if neg then !b else b))
  | .un op, [x] => unsem op x K
  | .convI k, [x] => onInt x fun _ n => K (.imm (.int k (k.wrap n)))
  | .toStr, [x] => toStrSem x K
  | .eqBoo neg, [x, y] => onBool x fun a => onBool y fun b => K (bool (if neg then !(a == b) else a == b))
  | .runeStr, [x] => onInt x fun _ n => K (str (Utf8.encode n))
  | .strId, [x] => onStr x fun s => K (str s)
  | .toBytes, [x] => onStr x fun s => s.size ≤ 4611686018427387904 ∧ K (.sl 1 (s.data.toList.map byteAV) none)
  | .fld1 off, [x] => onAgg x fun cs => onSome cs[off]? K
  | .fldA off n, [x] => onAgg x fun cs => off + n ≤ cs.length ∧ K (.agg ((cs.drop off).take n))
  | .faddr off, [x] => faddrSem off x K
  | .idxS, [x, y] => onStr x fun s => onInt y fun _ i => 0 ≤ i ∧ i < s.size ∧ K (.imm (.int .u8 (bt s i)))
  | .idx1 len, [x, y] => onAgg x fun cs => onInt y fun _ i => 0 ≤ i ∧ i < len ∧ onSome cs[i.toNat]? K
  | .idxA len n, [x, y] => onAgg x fun cs => onInt y fun _ i => 0 ≤ i ∧ i < len ∧ i.toNat * n + n ≤ cs.length ∧ K (.agg ((cs.drop (i.toNat * n)).take n))
  | .iaddrS size, [x, y] => onInt y fun _ i => iaddrSem size x i K
  | .iaddrA len size, [x, y] => onInt y fun _ i => 0 ≤ i ∧ i < len ∧ faddrSem (i.toNat * size) x K
  | .sliceS lo hi, x :: bs => onStr x fun s => bounds lo hi s.size bs fun l h => K (str (s.extract l h))
  | .sliceL size lo hi mx, x :: bs => sliceLsem size lo hi mx x bs K
  | .nilchk, [x] => nilchkSem x K
  | .ext i, [x] => onTup x fun vs => onSome vs[i]? K
  | .lenS, [x] => onStr x fun s => K (int64 s.size)
  | .lenL, [x] => lenSem x K
  | .lenC n, _ => K (int64 n)
  | .mkfn f nf, as => K (.fn f (as.take nf) (as.drop nf))
  | .build zero places, as => onSome (fillCells zero places as) fun cs => K (.agg cs)
  | .bslice size, as => (∀ x ∈ as, x.isVal = true ∧ x.cells.length = size) ∧ as.length * (size + 1) ≤ 16777216 ∧ K (.sl size (as.map AV.strip) none)
  | .max2, [x, y] => onInt x fun k a => onInt y fun k' b => k = k' ∧ K (.imm (.int k (max a b)))
  | .min2, [x, y] => onInt x fun k a => onInt y fun k' b => k = k' ∧ K (.imm (.int k (min a b)))
  | .cpart im, [x] => onCx x fun k a b => K (.imm (.float k (if im then b else a)))
  | .mkiface t, [x] => onImm x fun v => K (.imm (.iface t v))
  | .s2a n, [x] => onSl x fun sz xs _ => sz = 1 ∧ 0 < n ∧ n ≤ xs.length ∧ K (.rptr (xs.flatMap AV.cells) 0)
  | _, _ => False

def keyInts : List IntKind → List AV → Option (List Value)
  | [], [] => some []
  | k :: ks, .imm (.int k' n) :: cs => if k' = k then (keyInts ks cs).map (.int k n :: ·) else none
  | _, _ => none
/-- A key, concretely. -/
def keyVal : KShape → AV → Option Value
  | .str, .imm (.string s) => some (.string s)
  | .one k, .imm (.int k' n) => if k' = k then some (.int k n) else none
  | .ints ks, .agg cs => (keyInts ks cs).map fun vs => .agg vs.toArray
  | _, _ => none

/-- A constant as an abstract value. -/
def cellAV : Value → AV
  | .slice none 0 0 => .sl 0 [] none
  | .slice .. | .agg _ | .tuple _ => .junk
  | v => .imm v

def constAV : Value → AV
  | .agg cs => .agg (cs.toList.map cellAV)
  | v => cellAV v

open Classical in
/-- Where a key stands. -/
noncomputable def mfind : List (Value × Option AV) → Value → Nat → Option (Nat × Option AV)
  | [], _, _ => none
  | (k, v) :: r, x, i => if k = x then some (i, v) else mfind r x (i + 1)
def mvalOf (zv : Value) : Option (Nat × Option AV) → AV
  | some (_, some v) => v
  | _ => constAV zv
/-- The value at a key. -/
noncomputable def mval (zv : Value) (es : List (Value × Option AV)) (k : Value) : AV := mvalOf zv (mfind es k 0)
noncomputable def mhas (es : List (Value × Option AV)) (k : Value) : Bool := (mfind es k 0).isSome
noncomputable def mput (es : List (Value × Option AV)) (k : Value) (v : Option AV) : List (Value × Option AV) :=
  match mfind es k 0 with
  | some (i, _) => es.set i (k, v)
  | none => es ++ [(k, v)]
/-- With a place for a key. -/
noncomputable def mroom (es : List (Value × Option AV)) (k : Value) : List (Value × Option AV) :=
  match mfind es k 0 with
  | some _ => es
  | none => es ++ [(k, none)]
noncomputable def mplace (es : List (Value × Option AV)) (k : Value) : Nat :=
  match mfind es k 0 with
  | some (i, _) => i
  | none => es.length

def onMp (x : AV) (K : Nat → Prop) : Prop := match x with | .mp id => K id | _ => False
def onMap (x : Option AObj) (K : KShape → Value → List (Value × Option AV) → Prop) : Prop := match x with | some (.map ks zv es) => K ks zv es | _ => False

def loadCells (cs : List AV) (off n : Nat) (K : AV → Prop) : Prop := off + n ≤ cs.length ∧ K (.agg ((cs.drop off).take n))

def onBox (x : Option AObj) (K : List AV → Prop) : Prop := match x with | some (.box cs) => K cs | some (.fbox cs) => K cs | _ => False

def onRs (x : AV) (K : Nat → Nat → Nat → Nat → Nat → Prop) : Prop := match x with | .rs id ver sz lo n => K id ver sz lo n | _ => False
def onRow (x : Option AObj) (K : TypeId → Nat → Nat → List AV → Prop) : Prop := match x with | some (.row e sz ver xs) => K e sz ver xs | _ => False
/-- The cells behind a pointer, and where in them. -/
def behind (x : AV) (look : Nat → Option AObj) (K : List AV → Nat → Prop) : Prop :=
  match x with
  | .rptr cs off => K cs off
  | .ptr id off => onBox (look id) fun cs => K cs off
  | .rp id ver size i => onRow (look id) fun _ sz ver' xs => sz = size ∧ ver' = ver ∧ onSome xs[i]? fun x => K x.cells 0
  | _ => False

def lsem (o : LOp) (args : List AV) (look : Nat → Option AObj) (K : AV → Prop) : Prop :=
  match o, args with
  | .load1, [x] => behind x look fun cs off => onSome cs[off]? K
  | .loadA n, [x] => behind x look fun cs off => loadCells cs off n K
  | .mlook ks zv ok, [m, k] => onMp m fun id => onMap (look id) fun ks' zv' es => ks' = ks ∧ zv' = zv ∧ onSome (keyVal ks k) fun kv => K (if ok = true then .tup [mval zv es kv, bool (mhas es kv)] else mval zv es kv)
  | .mlen, [m] => onMp m fun id => onMap (look id) fun _ _ es => K (int64 es.length)
  | _, _ => False

def msem (o : MOp) (args : List AV) (id : Nat) (K : AV → AObj → Prop) : Prop :=
  match o, args with
  | .box, [x] => x.isVal = true ∧ K (.ptr id 0) (.box x.cells)
  | .mkmap ks zv, [] => K (.mp id) (.map ks zv [])
  | .alloc zero _, [] => K (.ptr id 0) (.box zero)
  | .bsliceO e size, as => 0 < size ∧ (∀ x ∈ as, x.isVal = true ∧ x.cells.length = size) ∧ as.length * (size + 1) ≤ 16777216 ∧ K (.sl size (as.map AV.strip) (some id)) (.tok e size as.length)
  | .nilT e size, [] => K (.sl size [] (some id)) (.tok e size 0)
  | _, _ => False

def onPtr (x : AV) (K : Nat → Nat → Prop) : Prop := match x with | .ptr id off => K id off | _ => False
def onTok (x : Option AObj) (K : TypeId → Nat → Nat → Prop) : Prop := match x with | some (.tok e size n) => K e size n | _ => False

def esem (o : EOp) (args : List AV) (H : List AObj) (K : AV → List AObj → Prop) : Prop :=
  match o, args with
  | .store n, [.rp id ver size i, x] => x.isVal = true ∧ x.cells.length = n ∧ onRow H[id]? fun e sz' ver' xs => sz' = size ∧ size = n ∧ ver' = ver ∧ i < xs.length ∧ K .junk (H.set id (.row e size ver (xs.set i x)))
  | .store n, [p, x] => onPtr p fun id off => x.isVal = true ∧ x.cells.length = n ∧ (match H[id]? with
    | some (.box cs) => off + n ≤ cs.length ∧ K .junk (H.set id (.box (cs.take off ++ x.cells ++ cs.drop (off + n))))
    | _ => False)
  | .mentry ks zv, [m, k] => onMp m fun id => onMap H[id]? fun ks' zv' es => ks' = ks ∧ zv' = zv ∧ onSome (keyVal ks k) fun kv => K (.tup [mval zv es kv, int64 (mplace es kv)]) (H.set id (.map ks zv (mroom es kv)))
  | .mstore ks zv, [m, s, v] => onMp m fun id => onInt s fun _ i => onMap H[id]? fun ks' zv' es => ks' = ks ∧ zv' = zv ∧ v.isVal = true ∧ 0 ≤ i ∧ onSome es[i.toNat]? fun p => K .junk (H.set id (.map ks zv (es.set i.toNat (p.1, some v))))
  | .mupd ks zv, [m, k, v] => onMp m fun id => onMap H[id]? fun ks' zv' es => ks' = ks ∧ zv' = zv ∧ v.isVal = true ∧ onSome (keyVal ks k) fun kv => K .junk (H.set id (.map ks zv (mput es kv (some v))))
  | .clear zero, [x] => onRs x fun id ver sz lo n => zero.isVal = true ∧ sz = zero.cells.length ∧ 0 < sz ∧ (n = 0 ∧ K .junk H ∨ 0 < n ∧ onRow H[id]? fun e sz' ver' xs =>
      sz' = sz ∧ ver' = ver ∧ lo + n ≤ xs.length ∧ K .junk (H.set id (.row e sz ver (xs.take lo ++ List.replicate n zero ++ xs.drop (lo + n)))))
  | .append e size bytes, [s, x] => onSl s fun sz xs tok => onSl x fun sz' ys _ => onSome tok fun k => onTok H[k]? fun e' tsz n =>
      e' = e ∧ 0 < size ∧ tsz = size ∧ n = xs.length ∧ (sz = size ∨ xs = []) ∧ (sz' = size ∨ ys = []) ∧ (xs.length + ys.length) * bytes ≤ 140737488355328 ∧
        xs.length + ys.length ≤ 4611686018427387904 ∧ K (.sl size (xs ++ ys) (some k)) (H.set k (.tok e size (xs.length + ys.length)))
  | .slArr len lo hi, p :: bs => onPtr p fun id off => onBox H[id]? fun cs => off + len ≤ cs.length ∧ bounds lo hi len bs fun l h =>
      K (.sl 1 (((cs.drop off).take h).drop l) none) (H.set id (.fbox cs))
  | _, _ => False

end Go.AL

/- From the program's code to the abstract machine's. -/
namespace Go.AL
open Go Go.RowKit

def constOk : Value → Bool
  | .agg cs => cs.toList.all fun c => c.oneCell'
  | .tuple _ => false
  | _ => true

def copd : Operand → Option AOpd
  | .tmp t => some (.t t)
  | .const v => if constOk v then some (.c (constAV v)) else none
  | .global g => some (.g g)
  | .func f => some (.c (.fn (.func f) [] []))

def aggD : TypeDesc → Bool
  | .struct _ | .array _ _ => true
  | _ => false

def isU8 : Option TypeDesc → Bool
  | some (.int .u8) => true
  | _ => false

section
variable (P : Program)
def szOf (t : TypeId) : Option Nat := (P.info? t).map (·.size)

/-- Types whose values are equal just when all their cells are: a row of whole numbers. -/
def plainEq (t : TypeId) : Bool :=
  match P.underlying t with
  | some (.struct fs) => !P.stoodInHeld t && (fs.toList.zipIdx.all fun (f, i) => f.name != "_" && f.offset == i && (match P.underlying f.type with | some (.int _) => true | _ => false)) && !P.eqGuardType P.depth t
  | some (.array _ e) => (match P.underlying e with | some (.int _) => true | _ => false) && szOf P e == some 1 && !P.eqGuardType P.depth t
  | _ => false

/-- How long a value of such a type is. -/
def eqLen (t : TypeId) : Nat :=
  match P.underlying t with
  | some (.struct fs) => fs.size
  | some (.array n _) => n
  | _ => 0

/-- What a map's keys are, and the zero of its values. -/
def kshapeOf (t : TypeId) : Option KShape :=
  match P.underlying t with
  | some .string => some .str
  | some (.int k) => some (.one k)
  | some (.struct fs) => if plainEq P t then (fs.toList.mapM fun (f : Field) => match P.underlying f.type with | some (.int k) => some k | _ => none).map .ints else none
  | _ => none
def mapInfo (t : TypeId) : Option (KShape × Value) :=
  match P.underlying t with
  | some (.map k e) => (kshapeOf P k).bind fun ks => (P.info? e).bind fun i => i.zero.bind fun z => if constOk z then some (ks, z) else none
  | _ => none

def optList {α : Type} (x : Option α) : List α := match x with | some a => [a] | none => []

/-- own: may what is built here be appended to later? -/
def boolT (t : TypeId) : Bool := match P.underlying t with | some .bool => true | _ => false
def eqOp (op : BinOp) (neg : Bool) (t : TypeId) : QOp := if boolT P t = true then .eqBoo neg else .bin op t

def compOp (own : Bool) (o : Oper) (slot : Nat) : Option (Cls × List Operand) :=
  match o.op with
  | .move x => some (.q .mv, [x])
  | .assign x => match own, x, P.underlying o.type with
    | true, .const (.slice none 0 0), some (.slice e) => (szOf P e).bind fun n => if 0 < n then some (.m (.nilT e n) slot, []) else none
    | _, _, _ => some (.q .mv, [x])
  | .pick c a b => some (.q .pick, [c, a, b])
  | .alloc e => (P.info? e).bind fun i => i.zero.bind fun z => if constOk z then some (.m (.alloc (constAV z).cells (!(match z with | .agg _ => true | _ => false))) slot, []) else none
  | .box _ x => some (.m .box slot, [x])
  | .build t parts => match P.underlying t with
    | some (.struct fs) => (P.info? t).bind fun i => i.zero.bind fun z =>
        (fs.toList.mapM fun f => (P.info? f.type).map fun i => (f.offset, i.size)).bind fun pl => (parts.toList.mapM fun (p : Nat × Operand) => pl[p.1]?).bind fun places =>
        if constOk z then some (.q (.build (constAV z).cells places), parts.toList.map (·.2)) else none
    | some (.array _ e) => (P.info? t).bind fun i => i.zero.bind fun z => (szOf P e).bind fun n =>
        if constOk z then some (.q (.build (constAV z).cells (parts.toList.map fun p => (p.1 * n, n))), parts.toList.map (·.2)) else none
    | _ => none
  | .buildSlice t len parts => match P.underlying t with
    | some (.slice e) => (P.info? e).bind fun i => i.zero.bind fun z => if parts.toList.map (·.1) = List.range len ∧ z.cells.size = i.size then
        (if own then some (.m (.bsliceO e i.size) slot, parts.toList.map (·.2)) else some (.q (.bslice i.size), parts.toList.map (·.2))) else none
    | _ => none
  | .lookup t x k ok => (mapInfo P t).map fun p => (.l (.mlook p.1 p.2 ok), [x, k])
  | .mapEntry t x k => (mapInfo P t).map fun p => (.e (.mentry p.1 p.2), [x, k])
  | .entryStore t x s y => (mapInfo P t).map fun p => (.e (.mstore p.1 p.2), [x, s, y])
  | .mapUpdate t x k y => (mapInfo P t).map fun p => (.e (.mupd p.1 p.2), [x, k, y])
  | .makeMap t r => match r with
    | none => (mapInfo P t).map fun p => (.m (.mkmap p.1 p.2) slot, [])
    | some _ => none
  | .load t x => match P.underlying t, szOf P t with
    | some d, some n => if aggD d then some (.l (.loadA n), [x]) else some (.l .load1, [x])
    | _, _ => none
  | .store t a x => (szOf P t).map fun n => (.e (.store n), [a, x])
  | .nilCheck x => some (.q .nilchk, [x])
  | .binOp op t x y _ => match op with
    | .eql => if plainEq P t then some (.q (.eqA false (eqLen P t)), [x, y]) else some (.q (eqOp P .eql false t), [x, y])
    | .neq => if plainEq P t then some (.q (.eqA true (eqLen P t)), [x, y]) else some (.q (eqOp P .neq true t), [x, y])
    | op => some (.q (.bin op t), [x, y])
  | .unOp op _ x => some (.q (.un op), [x])
  | .convert src dst x => match P.underlying src, P.underlying dst with
    | some (.int _), some (.int k) => some (.q (.convI k), [x])
    | some (.slice e), some .string => if isU8 (P.underlying e) then some (.q .toStr, [x]) else none
    | some (.int _), some .string => some (.q .runeStr, [x])
    | some .string, some .string => some (.q .strId, [x])
    | some .string, some (.slice e) => if isU8 (P.underlying e) then some (.q .toBytes, [x]) else none
    | _, _ => none
  | .sliceToArrayPointer arr x => match P.underlying arr with
    | some (.array n _) => some (.q (.s2a n), [x])
    | _ => none
  | .makeInterface t x => match P.underlying t with
    | some (.interface _) => none
    | some _ => some (.q (.mkiface t), [x])
    | none => none
  | .makeFunc fn first cap => some (.q (.mkfn fn first.size), first.toList ++ cap.toList)
  | .fieldAddr t x f => match P.underlying t with
    | some (.struct fs) => (fs[f]?).bind fun fd => (szOf P fd.type).bind fun n => if n = 0 then none else some (.q (.faddr fd.offset), [x])
    | _ => none
  | .field t x f => match P.underlying t with
    | some (.struct fs) => (fs[f]?).bind fun fd => (szOf P fd.type).bind fun n => (P.underlying fd.type).map fun d =>
        if aggD d then (.q (.fldA fd.offset n), [x]) else (.q (.fld1 fd.offset), [x])
    | _ => none
  | .indexAddr t x i => match P.underlying t with
    | some (.slice e) => (szOf P e).bind fun n => if n = 0 then none else some (.q (.iaddrS n), [x, i])
    | some (.array len e) => (szOf P e).map fun n => (.q (.iaddrA len n), [x, i])
    | _ => none
  | .index t x i => match P.underlying t with
    | some .string => some (.q .idxS, [x, i])
    | some (.array len e) => (szOf P e).bind fun n => (P.underlying e).bind fun d => if aggD d then some (.q (.idxA len n), [x, i]) else if n = 1 then some (.q (.idx1 len), [x, i]) else none
    | _ => none
  | .slice t x lo hi mx => match P.underlying t with
    | some .string => if mx.isSome then none else some (.q (.sliceS lo.isSome hi.isSome), x :: (optList lo ++ optList hi))
    | some (.slice e) => (szOf P e).map fun n => (.q (.sliceL n lo.isSome hi.isSome mx.isSome), x :: (optList lo ++ optList hi ++ optList mx))
    | some (.array len e) => if mx.isSome then none else if szOf P e = some 1 ∧ len ≤ 65536 then some (.e (.slArr len lo.isSome hi.isSome), x :: (optList lo ++ optList hi)) else none
    | _ => none
  | .extract x i => some (.q (.ext i), [x])
  | .call c => match c.callee with
    | .value f => some (.call false, f :: c.args.toList)
    | .builtin .len => match c.argTypes.toList, c.args.toList with
      | [t], [x] => match P.underlying t with
        | some .string => some (.q .lenS, [x])
        | some (.slice _) => some (.q .lenL, [x])
        | some (.map _ _) => some (.l .mlen, [x])
        | some (.array n _) => some (.q (.lenC n), [x])
        | some (.pointer a) => match P.underlying a with
          | some (.array n _) => some (.q (.lenC n), [x])
          | _ => none
        | _ => none
      | _, _ => none
    | .builtin .append => match c.argTypes.toList, c.args.toList with
      | [t, u], [s, x] => match P.underlying t, P.underlying u with
        | some (.slice e), some (.slice _) => (P.info? e).bind fun i => i.zero.bind fun z => if z.cells.size = i.size then some (.e (.append e i.size i.bytes), [s, x]) else none
        | _, _ => none
      | _, _ => none
    | .builtin .clear => match c.argTypes.toList, c.args.toList with
      | [t], [x] => match P.underlying t with
        | some (.slice e) => (P.info? e).bind fun i => i.zero.bind fun z => if constOk z then some (.e (.clear (constAV z)), [x]) else none
        | _ => none
      | _, _ => none
    | .builtin .max => match c.args.toList with
      | [x, y] => some (.q .max2, [x, y])
      | _ => none
    | .builtin .real => match c.args.toList with
      | [x] => some (.q (.cpart false), [x])
      | _ => none
    | .builtin .imag => match c.args.toList with
      | [x] => some (.q (.cpart true), [x])
      | _ => none
    | .builtin .min => match c.args.toList with
      | [x, y] => some (.q .min2, [x, y])
      | _ => none
    | _ => none
  | _ => none

def copds (xs : List Operand) : Option (List AOpd) := xs.mapM copd

def Cls.isM : Cls → Bool
  | .m _ _ => true
  | _ => false

/-- The temporary that a guard asks. -/
def guardOf (ops : Array Oper) (o : Oper) : Option (Option (Nat × Bool)) :=
  match o.guard with
  | none => some none
  | some (j, want) => ((ops[j]?).bind (·.dst)).map fun t => some (t, want)

/-- What no rule is there for is a step that nobody may take. -/
def compOp1 (own : Bool) (o : Oper) (slot : Nat) : Option (Cls × List Operand) :=
  match compOp P own o slot with
  | some (c, xs) => if (copds xs).isSome then some (c, xs) else some (.q .stuck, [])
  | none => some (.q .stuck, [])

def compOper (own : Bool) (ops : Array Oper) (slot : Nat) (o : Oper) : Option AOper :=
  (compOp1 P own o slot).bind fun (c, xs) => (copds xs).bind fun args => (guardOf ops o).map fun g => { dst := o.dst, guard := g, cls := c, args := args }

def compOpers (own : Bool) (ops : Array Oper) : Nat → List Oper → Option (List AOper)
  | _, [] => some []
  | slot, o :: rest => (compOper P own ops slot o).bind fun a => (compOpers own ops (if a.cls.isM then slot + 1 else slot) rest).map fun as => a :: as
end

def countM (as : List AOper) : Nat := (as.filter (·.cls.isM)).length

def AOpd.reads : AOpd → List Nat
  | .t n => [n]
  | _ => []

def AOper.reads (o : AOper) : List Nat := o.args.flatMap AOpd.reads ++ (match o.guard with | some (t, _) => [t] | none => [])

/-- Does an operation look at boxes (1), make one (2), turn one (3)? -/
def Cls.touch : Cls → Nat
  | .q _ => 0
  | .call false => 0
  | .l _ => 1
  | .m _ _ => 2
  | .e _ | .call true => 3

/-- A key's value, looked up, is the same behind a place made for a key. -/
def lookEntry : Cls → Cls → Bool
  | .l (.mlook _ _ false), .e (.mentry _ _) => true
  | _, _ => false

def commutes (x y : AOper) : Bool :=
  (match x.dst with | some d => !y.reads.contains d && y.dst != some d | none => true) &&
  (match y.dst with | some d => !x.reads.contains d | none => true) &&
  (x.cls.touch == 0 || y.cls.touch == 0 || (x.cls.touch < 3 && y.cls.touch < 3) || lookEntry x.cls y.cls || lookEntry y.cls x.cls) &&
  (match x.cls, y.cls with | .m _ a, .m _ b => a != b | _, _ => true)

/-- What an operation waits for, as bits, out of those of the ones ahead of it. -/
def maskOf (acc : List Nat) : List Edge → Nat
  | [] => 0
  | e :: es => if Region.binds .any e then (2 ^ e.on ||| acc.getD e.on 0) ||| maskOf acc es else maskOf acc es

def masksGo : List Oper → List Nat → List Nat
  | [], acc => acc
  | o :: rest, acc => masksGo rest (acc ++ [maskOf acc o.after.toList])

def masks (ops : Array Oper) : List Nat := masksGo ops.toList []

/-- Any two operations of a region of open order either wait for each other or commute. -/
def drawOk (ops : Array Oper) (as : List AOper) : Bool :=
  (ops.toList.zipIdx.all fun (o, i) => o.after.all fun e => !Region.binds .any e || decide (e.on < i)) &&
  as.zipIdx.all fun (y, j) => as.zipIdx.all fun (x, i) => !(i < j) || ((masks ops).getD j 0).testBit i || commutes x y

/-- A call that waits for all that touches boxes, and for which all of these wait, may turn boxes. -/
def pinOf (ops : Array Oper) (as : List AOper) (i : Nat) : Bool :=
  let b := masks ops
  as.zipIdx.all fun (y, j) => i == j || (y.cls.touch == 0 && (match y.cls with | .call _ => false | _ => true)) || (if i < j then (b.getD j 0).testBit i else (b.getD i 0).testBit j)

def pins (draw : Bool) (ops : Array Oper) (as : List AOper) : List AOper :=
  as.zipIdx.map fun (x, i) => match x.cls with
    | .call _ => { x with cls := .call (!draw || pinOf ops as i) }
    | _ => x

def comp (P : Program) (own : List Nat) : Code → Option ACode
  | .skip => some .skip
  | .region id ops draw => (compOpers P (own.contains id) ops 0 ops.toList).bind fun as =>
      let bs := pins draw ops as
      if !draw || drawOk ops bs then some (.reg draw (countM as) bs) else none
  | .seq a b => (comp P own a).bind fun x => (comp P own b).map fun y => .seq x y
  | .cond c a b => (copd c).bind fun o => (comp P own a).bind fun x => (comp P own b).map fun y => .cond o x y
  | .block id c => (comp P own c).map fun x => .block id x
  | .loop c => (comp P own c).map fun x => .loop x
  | .exit id => some (.exit id)
  | .ret => some .ret
  | .label _ => some .skip
  | .goto l => some (.goto l)
  | .scope c => (comp P own c).map fun x => .scope x
  | _ => some .stuck

end Go.AL
