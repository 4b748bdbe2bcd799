/- Abstract values, and what it means that a concrete value, in a world, reads as one. -/
import Derived.Orders
import Derived.Scope
import Derived.Below
import Derived.Laws.AppendOwn
import Derived.Laws.Cells
import Derived.Laws.CopyRow
import Derived.Laws.Rows
import Derived.Laws.Entries
namespace Go.AL
open Go Go.RowKit
inductive AV where
  | imm (v : Value)
  | junk
  | agg (cs : List AV)
  | tup (vs : List AV)
  | sl (size : Nat) (xs : List AV) (tok : Option Nat)
  | ptr (id off : Nat)
  | rptr (cs : List AV) (off : Nat)
  | fn (f : Fn) (first cap : List AV)
  | mp (id : Nat)
  | bs (id off n : Nat)
  | rs (id ver size lo n : Nat)
  | rp (id ver size i : Nat)
  deriving Inhabited
def AV.cells : AV → List AV
  | .agg cs => cs
  | v => [v]
/-- A value that a variable may hold: neither a tuple nor unknown. -/
def AV.isVal : AV → Bool
  | .junk | .tup _ => false
  | _ => true
/-- I: the cells that are never written any more. bx: the blocks of boxes and objects. tk: of a token how long its row is, and where it lies (block, capacity). -/
structure Env where
  I : Addr → Prop
  bx : Nat → Option Nat
  tk : Nat → Option (Nat × Option (Nat × Nat))
def TokOk (E : Env) (n : Nat) (A : Option Addr) (cap : Nat) : Option Nat → Prop
  | none => True
  | some k => ∃ m b, E.tk k = some (m, b) ∧ n ≤ m ∧ (n = m → match b with
      | none => A = none ∧ cap = 0
      | some (g, c) => A = some ⟨g, 0, none⟩ ∧ cap = c)
/-- A row that may still be written: which block it lies in, at this state of it. -/
def VerOk (E : Env) (ver id : Nat) (Q : Option (Nat × Nat) → Prop) : Prop := ∃ m b, E.tk id = some (m, b) ∧ ver ≤ m ∧ (ver = m → Q b)
/-- A slice of it, from element lo on. -/
def InRow (size lo : Nat) (A : Option Addr) (cap : Nat) : Option (Nat × Nat) → Prop
  | none => cap = 0 ∧ A = none
  | some (g, c) => lo + cap = c ∧ (0 < cap ∨ lo = 0 → A = some ⟨g, lo * size, none⟩)
/-- A pointer to its element i. -/
def AtRow (size i : Nat) (A : Addr) : Option (Nat × Nat) → Prop
  | none => False
  | some (g, _) => A = ⟨g, i * size, none⟩
mutual
inductive Rep (E : Env) (w : World) : AV → Value → Prop
  | imm (v : Value) : v.oneCell' = true → Rep E w (.imm v) v
  | junk (v : Value) : Rep E w .junk v
  | agg (cs : List AV) (us : List Value) : Reps E w cs us → (∀ u ∈ us, u.oneCell' = true) → Rep E w (.agg cs) (.agg us.toArray)
  | tup (cs : List AV) (us : List Value) : Reps E w cs us → Rep E w (.tup cs) (.tuple us.toArray)
  | sl (size : Nat) (xs : List AV) (tok : Option Nat) (A : Option Addr) (cap : Nat) (us : List Value) :
      xs.length ≤ cap → cap ≤ maxLen → (∀ x ∈ xs, x.cells.length = size) → Reps E w (xs.flatMap AV.cells) us → (∀ u ∈ us, u.oneCell' = true) →
      (∀ j u, us[j]? = some u → ∃ ad, A = some ad ∧ w.cell? (ad.add j) = some u ∧ E.I (ad.add j)) → TokOk E xs.length A cap tok →
      Rep E w (.sl size xs tok) (.slice A xs.length cap)
  | ptr (id off b : Nat) : E.bx id = some b → Rep E w (.ptr id off) (.pointer (some ⟨b, off, none⟩))
  | rptr (cs : List AV) (off : Nat) (ad : Addr) (us : List Value) : Reps E w cs us → (∀ u ∈ us, u.oneCell' = true) →
      (∀ j u, us[j]? = some u → w.cell? (ad.add j) = some u ∧ E.I (ad.add j)) → Rep E w (.rptr cs off) (.pointer (some (ad.add off)))
  | fn (f : Fn) (first cap : List AV) (us vs : List Value) : Reps E w first us → Reps E w cap vs → Rep E w (.fn f first cap) (.func f us.toArray vs.toArray)
  | mp (id b : Nat) : E.bx id = some b → Rep E w (.mp id) (.map (some b))
  | bs (id off n b : Nat) (A : Option Addr) (cap : Nat) : E.bx id = some b → n ≤ cap → cap ≤ maxLen → (0 < n → A = some ⟨b, off, none⟩) → Rep E w (.bs id off n) (.slice A n cap)
  | rs (id ver size lo n : Nat) (A : Option Addr) (cap : Nat) : n ≤ cap → cap ≤ maxLen → (0 < cap → ∃ a, A = some a) → VerOk E ver id (InRow size lo A cap) → Rep E w (.rs id ver size lo n) (.slice A n cap)
  | rp (id ver size i : Nat) (A : Addr) : VerOk E ver id (AtRow size i A) → Rep E w (.rp id ver size i) (.pointer (some A))
inductive Reps (E : Env) (w : World) : List AV → List Value → Prop
  | nil : Reps E w [] []
  | cons (a : AV) (v : Value) (as : List AV) (vs : List Value) : Rep E w a v → Reps E w as vs → Reps E w (a :: as) (v :: vs)
end
/-- What a step may do: nothing below lo turns, what was for good stays, boxes stay where they are, tokens only grow. -/
structure Evo (lo : Nat) (E : Env) (w : World) (E' : Env) (w' : World) : Prop where
  below : Below lo w w'
  I : ∀ a, E.I a → E'.I a ∧ w'.cell? a = w.cell? a
  bx : ∀ id b, E.bx id = some b → E'.bx id = some b
  tk : ∀ id n b, E.tk id = some (n, b) → ∃ n' b', E'.tk id = some (n', b') ∧ n ≤ n' ∧ (n' = n → b' = b)
  newI : ∀ a, E'.I a → E.I a ∨ lo ≤ a.block
theorem Evo.refl (lo : Nat) (E : Env) (w : World) : Evo lo E w E w :=
  ⟨Below.refl _ _, fun _ h => ⟨h, rfl⟩, fun _ _ h => h, fun _ n b h => ⟨n, b, h, Nat.le_refl _, fun _ => rfl⟩, fun _ h => .inl h⟩
theorem Evo.trans {lo : Nat} {E E1 E2 : Env} {w w1 w2 : World} (h : Evo lo E w E1 w1) (k : Evo lo E1 w1 E2 w2) : Evo lo E w E2 w2 :=
  ⟨h.below.trans k.below, fun a ha => ⟨(k.I a (h.I a ha).1).1, (k.I a (h.I a ha).1).2.trans (h.I a ha).2⟩, fun id b hb => k.bx id b (h.bx id b hb),
    fun id n b hb => by
      obtain ⟨n1, b1, h1, h2, h3⟩ := h.tk id n b hb
      obtain ⟨n2, b2, k1, k2, k3⟩ := k.tk id n1 b1 h1
      refine ⟨n2, b2, k1, Nat.le_trans h2 k2, fun e => ?_⟩
      have e1 : n1 = n := by omega
      have e2 : n2 = n1 := by omega
      rw [k3 e2, h3 e1],
    fun a ha => (k.newI a ha).elim (h.newI a) .inr⟩
theorem TokOk.mono {lo : Nat} {E E' : Env} {w w' : World} (hE : Evo lo E w E' w') {n cap : Nat} {A : Option Addr} {tok : Option Nat} (h : TokOk E n A cap tok) : TokOk E' n A cap tok := by
  cases tok with
  | none => trivial
  | some k =>
    obtain ⟨m, b, h1, h2, h3⟩ := h
    obtain ⟨m', b', k1, k2, k3⟩ := hE.tk k m b h1
    refine ⟨m', b', k1, Nat.le_trans h2 k2, fun e => ?_⟩
    have e1 : m' = m := by omega
    rw [k3 e1]
    exact h3 (by omega)
theorem VerOk.mono {lo : Nat} {E E' : Env} {w w' : World} (hE : Evo lo E w E' w') {ver id : Nat} {Q : Option (Nat × Nat) → Prop} (h : VerOk E ver id Q) : VerOk E' ver id Q := by
  obtain ⟨m, b, h1, h2, h3⟩ := h
  obtain ⟨m', b', k1, k2, k3⟩ := hE.tk id m b h1
  refine ⟨m', b', k1, Nat.le_trans h2 k2, fun e => ?_⟩
  have e1 : m' = m := by omega
  rw [k3 e1]
  exact h3 (by omega)
mutual
theorem Rep.mono {lo : Nat} {E E' : Env} {w w' : World} (hE : Evo lo E w E' w') : ∀ {a : AV} {v : Value}, Rep E w a v → Rep E' w' a v
  | _, _, .imm v h => .imm v h
  | _, _, .junk v => .junk v
  | _, _, .agg cs us h h1 => .agg cs us (Reps.mono hE h) h1
  | _, _, .tup cs us h => .tup cs us (Reps.mono hE h)
  | _, _, .sl size xs tok A cap us h1 h2 h3 h4 h5 h6 h7 =>
    .sl size xs tok A cap us h1 h2 h3 (Reps.mono hE h4) h5 (fun j u hu => by
      obtain ⟨ad, e1, e2, e3⟩ := h6 j u hu
      exact ⟨ad, e1, (hE.I _ e3).2.trans e2, (hE.I _ e3).1⟩) (h7.mono hE)
  | _, _, .ptr id off b h => .ptr id off b (hE.bx _ _ h)
  | _, _, .rptr cs off ad us h h1 h2 => .rptr cs off ad us (Reps.mono hE h) h1 (fun j u hu => ⟨(hE.I _ (h2 j u hu).2).2.trans (h2 j u hu).1, (hE.I _ (h2 j u hu).2).1⟩)
  | _, _, .fn f first cap us vs h h1 => .fn f first cap us vs (Reps.mono hE h) (Reps.mono hE h1)
  | _, _, .mp id b h => .mp id b (hE.bx _ _ h)
  | _, _, .bs id off n b A cap h h1 h2 h3 => .bs id off n b A cap (hE.bx _ _ h) h1 h2 h3
  | _, _, .rs id ver size lo n A cap h1 h2 h0 h3 => .rs id ver size lo n A cap h1 h2 h0 (h3.mono hE)
  | _, _, .rp id ver size i A h => .rp id ver size i A (h.mono hE)
theorem Reps.mono {lo : Nat} {E E' : Env} {w w' : World} (hE : Evo lo E w E' w') : ∀ {as : List AV} {vs : List Value}, Reps E w as vs → Reps E' w' as vs
  | _, _, .nil => .nil
  | _, _, .cons a v as vs h h1 => .cons a v as vs (Rep.mono hE h) (Reps.mono hE h1)
end
theorem Reps.length {E : Env} {w : World} : ∀ {as : List AV} {vs : List Value}, Reps E w as vs → vs.length = as.length
  | _, _, .nil => rfl
  | _, _, .cons _ _ _ _ _ h => by simp [Reps.length h]
theorem Reps.get {E : Env} {w : World} : ∀ {as : List AV} {vs : List Value}, Reps E w as vs → ∀ (i : Nat) (a : AV), as[i]? = some a → ∃ v, vs[i]? = some v ∧ Rep E w a v
  | _, _, .nil, i, a, h => by simp at h
  | _, _, .cons a v as vs h h1, i, x, hx => by
    cases i with
    | zero => simp at hx; subst hx; exact ⟨v, by simp, h⟩
    | succ i => simp at hx; obtain ⟨u, e, r⟩ := Reps.get h1 i x hx; exact ⟨u, by simpa using e, r⟩
theorem Reps.append {E : Env} {w : World} : ∀ {as bs : List AV} {us vs : List Value}, Reps E w as us → Reps E w bs vs → Reps E w (as ++ bs) (us ++ vs)
  | _, _, _, _, .nil, k => k
  | _, _, _, _, .cons a v as vs h h1, k => .cons a v _ _ h (Reps.append h1 k)
theorem Reps.drop {E : Env} {w : World} : ∀ {as : List AV} {us : List Value} (_n : Nat), Reps E w as us → Reps E w (as.drop _n) (us.drop _n)
  | _, _, 0, h => h
  | _, _, n + 1, .nil => by simp; exact .nil
  | _, _, n + 1, .cons _ _ _ _ _ h => by simpa using Reps.drop n h
theorem Reps.take {E : Env} {w : World} : ∀ {as : List AV} {us : List Value} (n : Nat), Reps E w as us → Reps E w (as.take n) (us.take n)
  | _, _, 0, h => by simp; exact .nil
  | _, _, n + 1, .nil => by simp; exact .nil
  | _, _, n + 1, .cons a v _ _ h h1 => by simp only [List.take_succ_cons]; exact .cons a v _ _ h (Reps.take n h1)
theorem Reps.set {E : Env} {w : World} {a : AV} {v : Value} (ha : Rep E w a v) : ∀ {as : List AV} {us : List Value} (n : Nat), Reps E w as us → Reps E w (as.set n a) (us.set n v)
  | _, _, 0, .nil => .nil
  | _, _, _ + 1, .nil => .nil
  | _, _, 0, .cons _ _ _ _ _ h1 => .cons a v _ _ ha h1
  | _, _, n + 1, .cons b u _ _ h h1 => .cons b u _ _ h (Reps.set ha n h1)
/-- A value that is one, concretely: its cells. -/
theorem Rep.cells {E : Env} {w : World} {a : AV} {v : Value} (h : Rep E w a v) (hv : a.isVal = true) : Reps E w a.cells v.cells.toList ∧ ∀ u ∈ v.cells.toList, u.oneCell' = true := by
  cases h with
  | imm v h => cases v <;> simp_all [AV.cells, Value.cells, Value.oneCell'] <;> exact .cons _ _ _ _ (.imm _ rfl) .nil
  | junk => simp [AV.isVal] at hv
  | agg cs us h h1 => exact ⟨by simpa [AV.cells, Value.cells] using h, by simpa [Value.cells] using h1⟩
  | tup => simp [AV.isVal] at hv
  | sl size xs tok A cap us h1 h2 h3 h4 h5 h6 h7 => exact ⟨.cons _ _ _ _ (.sl size xs tok A cap us h1 h2 h3 h4 h5 h6 h7) .nil, by simp [Value.cells, Value.oneCell']⟩
  | ptr id off b h => exact ⟨.cons _ _ _ _ (.ptr id off b h) .nil, by simp [Value.cells, Value.oneCell']⟩
  | rptr cs off ad us h1 h2 h3 => exact ⟨.cons _ _ _ _ (.rptr cs off ad us h1 h2 h3) .nil, by simp [Value.cells, Value.oneCell']⟩
  | fn f first cap us vs h1 h2 => exact ⟨.cons _ _ _ _ (.fn f first cap us vs h1 h2) .nil, by simp [Value.cells, Value.oneCell']⟩
  | mp id b h => exact ⟨.cons _ _ _ _ (.mp id b h) .nil, by simp [Value.cells, Value.oneCell']⟩
  | bs id off n b A cap h h1 h2 h3 => exact ⟨.cons _ _ _ _ (.bs id off n b A cap h h1 h2 h3) .nil, by simp [Value.cells, Value.oneCell']⟩
  | rs id ver size lo n A cap h1 h2 h0 h3 => exact ⟨.cons _ _ _ _ (.rs id ver size lo n A cap h1 h2 h0 h3) .nil, by simp [Value.cells, Value.oneCell']⟩
  | rp id ver size i A h => exact ⟨.cons _ _ _ _ (.rp id ver size i A h) .nil, by simp [Value.cells, Value.oneCell']⟩
end Go.AL

/- The abstract machine: compiled operations and code, and what they do to abstract states. -/
namespace Go.AL
open Go Go.RowKit
/-- What the keys of a map are: texts, whole numbers of a kind, rows of such. -/
inductive KShape where
  | str | one (k : IntKind) | ints (ks : List IntKind)
  deriving Inhabited
inductive AObj where
  | map (ks : KShape) (zv : Value) (es : List (Value × Option AV))
  | hole
  | box (cs : List AV)
  | fbox (cs : List AV)
  | tok (e : TypeId) (size n : Nat)
  | row (e : TypeId) (size ver : Nat) (xs : List AV)
  | dead
  | obj (o : Obj)
  deriving Inhabited
inductive AOpd where
  | t (n : Nat)
  | c (a : AV)
  | g (n : Nat)
  deriving Inhabited
inductive QOp where
  | mv | pick | bin (op : BinOp) (t : TypeId) | un (op : UnOp) | eqA (neg : Bool) (len : Nat) | convI (k : IntKind) | toStr | strId | toBytes
  | fld1 (off : Nat) | fldA (off n : Nat) | faddr (off : Nat) | idxS | idx1 (len : Nat) | idxA (len n : Nat)
  | iaddrS (size : Nat) | iaddrA (len size : Nat) | sliceS (lo hi : Bool) | sliceL (size : Nat) (lo hi mx : Bool) | nilchk | ext (i : Nat)
  | lenS | lenL | lenC (n : Nat) | mkfn (f : Fn) (nf : Nat) | build (zero : List AV) (places : List (Nat × Nat)) | bslice (size : Nat)
  | runeStr | eqBoo (neg : Bool) | stuck | max2 | min2 | mkiface (t : TypeId) | s2a (n : Nat) | cpart (im : Bool) | pnil (neg : Bool) | slArrW (len : Nat) (lo hi : Bool)
  deriving Inhabited
inductive LOp where
  | load1 | loadA (n : Nat) | mlook (ks : KShape) (zv : Value) (ok : Bool) | mlen
  deriving Inhabited
inductive MOp where
  | mkmap (ks : KShape) (zv : Value) | box | alloc (zero : List AV) (one : Bool) | bsliceO (e : TypeId) (size : Nat) | nilT (e : TypeId) (size : Nat) | mkrow (e : TypeId) (size bytes : Nat) (zero : AV) | mktok (e : TypeId) (size bytes : Nat)
  deriving Inhabited
inductive EOp where
  | mentry (ks : KShape) (zv : Value) | mstore (ks : KShape) (zv : Value) | mupd (ks : KShape) (zv : Value) | store (n : Nat) | clear (zero : AV) | append (e : TypeId) (size bytes : Nat) | slArr (len : Nat) (lo hi : Bool) | mark | copy (size : Nat)
  deriving Inhabited
inductive Cls where
  | q (o : QOp) | l (o : LOp) | m (o : MOp) (slot : Nat) | e (o : EOp) | call (pin : Bool)
  deriving Inhabited
structure AOper where
  dst : Option Nat
  guard : Option (Nat × Bool)
  cls : Cls
  args : List AOpd
  deriving Inhabited
inductive ACode where
  | skip
  | reg (draw : Bool) (nA : Nat) (ops : List AOper)
  | seq (a b : ACode)
  | cond (c : AOpd) (a b : ACode)
  | block (id : Nat) (c : ACode)
  | loop (c : ACode)
  | exit (id : Nat)
  | goto (l : Nat)
  | scope (c : ACode)
  | stuck
  | ret
  deriving Inhabited
structure ASt where
  tmps : List AV
  H : List AObj
def ASt.put (s : ASt) (d : Option Nat) (a : AV) : ASt :=
  match d with
  | some d => { s with tmps := s.tmps.set d a }
  | none => s
def aeval (G : Nat → Option (List AV)) (ts : List AV) : AOpd → AV
  | .t n => ts.getD n .junk
  | .c a => a
  | .g n => match G n with | some cs => .rptr cs 0 | none => .junk
abbrev int64 (n : Int) : AV := .imm (.int .i64 n)
abbrev bool (b : Bool) : AV := .imm (.bool b)
abbrev str (s : ByteArray) : AV := .imm (.string s)
def byteAV (b : UInt8) : AV := .imm (.int .u8 b.toNat)
/-- Byte i of a text. -/
def bt (s : ByteArray) (i : Int) : Int := ((s.data.toList.getD i.toNat 0).toNat : Int)
/-- Without the right to append. -/
def AV.strip1 : AV → AV
  | .sl size xs _ => .sl size xs none
  | v => v
def AV.strip : AV → AV
  | .agg cs => .agg (cs.map AV.strip1)
  | v => v.strip1
def bytesOf : List AV → Option (List UInt8)
  | [] => some []
  | .imm (.int .u8 n) :: r => (bytesOf r).map (UInt8.ofNat n.toNat :: ·)
  | _ :: _ => none
def eqCell : AV → AV → Option Bool
  | .imm (.int k a), .imm (.int k' b) => if k = k' then some (a == b) else none
  | _, _ => none
def eqCells : List AV → List AV → Option Bool
  | [], [] => some true
  | a :: as, b :: bs => match eqCell a b, eqCells as bs with
    | some x, some y => some (x && y)
    | _, _ => none
  | _, _ => none
def binInt (op : BinOp) (k : IntKind) (x y : Int) (K : AV → Prop) : Prop :=
  match op with
  | .add => K (.imm (.int k (k.wrap (x + y))))
  | .sub => K (.imm (.int k (k.wrap (x - y))))
  | .mul => K (.imm (.int k (k.wrap (x * y))))
  | .quo => y ≠ 0 ∧ K (.imm (.int k (k.wrap (x.tdiv y))))
  | .rem => y ≠ 0 ∧ K (.imm (.int k (x.tmod y)))
  | .eql => K (bool (x == y))
  | .neq => K (bool (x != y))
  | .lss => K (bool (decide (x < y)))
  | .leq => K (bool (decide (x ≤ y)))
  | .gtr => K (bool (decide (x > y)))
  | .geq => K (bool (decide (x ≥ y)))
  | .and | .or | .xor | .andNot => K (.imm (.int k (bits op k x y)))
  | .shl | .shr => False
def binSh (op : BinOp) (k : IntKind) (x y : Int) (K : AV → Prop) : Prop :=
  match op with
  | .shl => 0 ≤ y ∧ K (.imm (.int k (k.wrap (x * 2 ^ (min y.toNat k.bits)))))
  | .shr => 0 ≤ y ∧ K (.imm (.int k (x.fdiv (2 ^ (min y.toNat k.bits)))))
  | _ => False
def binStr (op : BinOp) (x y : ByteArray) (K : AV → Prop) : Prop :=
  match op with
  | .add => ((x.size + y.size : Nat) : Int) ≤ 9223372036854775807 ∧ K (str (x ++ y))
  | .eql => K (bool (x.toList == y.toList))
  | .neq => K (bool !(x.toList == y.toList))
  | .lss => K (bool (Op.bytesLess x.toList y.toList))
  | .leq => K (bool (Op.bytesLess x.toList y.toList || x.toList == y.toList))
  | .gtr => K (bool !(Op.bytesLess x.toList y.toList || x.toList == y.toList))
  | .geq => K (bool !Op.bytesLess x.toList y.toList)
  | _ => False
/-- An operation on immediate values that no case above serves: whatever the model says, if it asks nothing of the world. -/
def binAny (op : BinOp) (t : TypeId) (x y : Value) (K : AV → Prop) : Prop :=
  ∃ r : Value, r.oneCell' = true ∧ (∀ (P : Program) (w : World) (ox oy : Operand), (do eqGuard op t ox oy x y; binOp op t x y : Sem Value).run P w = .ok r w) ∧ K (.imm r)
def binsem (op : BinOp) (t : TypeId) (x y : AV) (K : AV → Prop) : Prop :=
  match x, y with
  | .imm (.int k a), .imm (.int k' b) => match op with
    | .shl | .shr => binSh op k a b K
    | _ => k = k' ∧ binInt op k a b K
  | .imm (.string a), .imm (.string b) => binStr op a b K
  | .imm a, .imm b => binAny op t a b K
  | _, _ => False
def unsem (op : UnOp) (x : AV) (K : AV → Prop) : Prop :=
  match op, x with
  | .neg, .imm (.int k n) => K (.imm (.int k (k.wrap (0 - n))))
  | .not, .imm (.bool b) => K (bool !b)
  | .xor, .imm (.int k n) => K (.imm (.int k (bits .xor k (if k.signed then -1 else k.max) n)))
  | _, _ => False
/-- Parts are laid over zero cells. -/
def fillCells (cells : List AV) : List (Nat × Nat) → List AV → Option (List AV)
  | [], [] => some cells
  | (off, size) :: ps, x :: xs =>
    if x.isVal = true ∧ x.cells.length = size ∧ off + size ≤ cells.length then fillCells (cells.take off ++ x.cells ++ cells.drop (off + size)) ps xs else none
  | _, _ => none
def onBool (x : AV) (K : Bool → Prop) : Prop := match x with | .imm (.bool c) => K c | _ => False
def onInt (x : AV) (K : IntKind → Int → Prop) : Prop := match x with | .imm (.int k n) => K k n | _ => False
def onCx (x : AV) (K : FloatKind → Nat → Nat → Prop) : Prop := match x with | .imm (.complex k a b) => K k a b | _ => False
def onStr (x : AV) (K : ByteArray → Prop) : Prop := match x with | .imm (.string s) => K s | _ => False
def onAgg (x : AV) (K : List AV → Prop) : Prop := match x with | .agg cs => K cs | _ => False
def onSl (x : AV) (K : Nat → List AV → Option Nat → Prop) : Prop := match x with | .sl size xs tok => K size xs tok | _ => False
def onTup (x : AV) (K : List AV → Prop) : Prop := match x with | .tup cs => K cs | _ => False
def onImm (x : AV) (K : Value → Prop) : Prop := match x with | .imm v => K v | _ => False
def onSome {α : Type} (x : Option α) (K : α → Prop) : Prop := match x with | some a => K a | none => False
def onPtr (x : AV) (K : Nat → Nat → Prop) : Prop := match x with | .ptr id off => K id off | _ => False
/-- What copy may read: elements of a slice, bytes of a text. -/
def onSrc (x : AV) (K : Nat → List AV → Prop) : Prop := match x with | .sl sz ys _ => K sz ys | .imm (.string s) => K 1 (s.data.toList.map byteAV) | _ => False
def toStrSem (x : AV) (K : AV → Prop) : Prop := onSl x fun _ xs _ => onSome (bytesOf xs) fun bs => K (str ⟨bs.toArray⟩)
def faddrSem (off : Nat) (x : AV) (K : AV → Prop) : Prop :=
  match x with
  | .ptr id o => K (.ptr id (o + off))
  | .rptr cs o => K (.rptr cs (o + off))
  | _ => False
def nilchkSem (x : AV) (K : AV → Prop) : Prop :=
  match x with
  | .ptr id o => K (.ptr id o)
  | .rptr cs o => K (.rptr cs o)
  | .fn (.func f) a b => K (.fn (.func f) a b)
  | _ => False
/-- The bounds of a slice expression over n: low and high where they are said. -/
def bounds (lo hi : Bool) (n : Nat) (bs : List AV) (K : Nat → Nat → Prop) : Prop :=
  match lo, hi, bs with
  | false, false, [] => K 0 n
  | true, false, [x] => onInt x fun _ l => 0 ≤ l ∧ l ≤ n ∧ K l.toNat n
  | false, true, [y] => onInt y fun _ h => 0 ≤ h ∧ h ≤ n ∧ K 0 h.toNat
  | true, true, [x, y] => onInt x fun _ l => onInt y fun _ h => 0 ≤ l ∧ l ≤ h ∧ h ≤ n ∧ K l.toNat h.toNat
  | _, _, _ => False
/-- x[:h:m] over n. -/
def three (n : Nat) (bs : List AV) (K : Nat → Prop) : Prop :=
  match bs with
  | [y, z] => onInt y fun _ h => onInt z fun _ m => 0 ≤ h ∧ h ≤ m ∧ m ≤ n ∧ K h.toNat
  | _ => False
def lenSem (x : AV) (K : AV → Prop) : Prop :=
  match x with
  | .sl _ xs _ => K (int64 xs.length)
  | .rs _ _ _ _ n => K (int64 n)
  | .bs _ _ n => K (int64 n)
  | _ => False
def iaddrSem (size : Nat) (x : AV) (i : Int) (K : AV → Prop) : Prop :=
  match x with
  | .sl sz xs _ => sz = size ∧ 0 ≤ i ∧ i < xs.length ∧ K (.rptr (xs.getD i.toNat .junk).cells 0)
  | .rs id ver sz lo n => sz = size ∧ 0 ≤ i ∧ i < n ∧ K (.rp id ver sz (lo + i.toNat))
  | _ => False
def sliceLsem (size : Nat) (lo hi mx : Bool) (x : AV) (bs : List AV) (K : AV → Prop) : Prop :=
  match x with
  | .sl sz xs _ => (sz = size ∨ xs = []) ∧ (if mx = true then lo = false ∧ hi = true ∧ three xs.length bs fun h => K (.sl sz (xs.take h) none)
    else bounds lo hi xs.length bs fun l h => K (.sl sz ((xs.take h).drop l) none))
  | .rs id ver sz at0 n => sz = size ∧ mx = false ∧ bounds lo hi n bs fun l h => K (.rs id ver sz (at0 + l) (h - l))
  | _ => False
/-- Whether a pointer is nil. -/
def pnilSem (neg : Bool) (x y : AV) (K : AV → Prop) : Prop :=
  match x, y with
  | .ptr _ _, .imm (.pointer none) => K (bool neg)
  | .rptr _ _, .imm (.pointer none) => K (bool neg)
  | .rp _ _ _ _, .imm (.pointer none) => K (bool neg)
  | .imm (.pointer none), .imm (.pointer none) => K (bool (!neg))
  | _, _ => False
def qsem (o : QOp) (args : List AV) (K : AV → Prop) : Prop :=
  match o, args with
  | .mv, [x] => K x
  | .pick, [c, a, b] => onBool c fun c => K (if c then a else b)
  | .bin op t, [x, y] => binsem op t x y K
  | .eqA neg len, [x, y] => onAgg x fun xs => onAgg y fun ys => xs.length = len ∧ onSome (eqCells xs ys) fun b => K (bool (if neg then !b else b))
  | .un op, [x] => unsem op x K
  | .convI k, [x] => onInt x fun _ n => K (.imm (.int k (k.wrap n)))
  | .toStr, [x] => toStrSem x K
  | .eqBoo neg, [x, y] => onBool x fun a => onBool y fun b => K (bool (if neg then !(a == b) else a == b))
  | .runeStr, [x] => onInt x fun _ n => K (str (Utf8.encode n))
  | .strId, [x] => onStr x fun s => K (str s)
  | .toBytes, [x] => onStr x fun s => s.size ≤ 4611686018427387904 ∧ K (.sl 1 (s.data.toList.map byteAV) none)
  | .fld1 off, [x] => onAgg x fun cs => onSome cs[off]? K
  | .fldA off n, [x] => onAgg x fun cs => off + n ≤ cs.length ∧ K (.agg ((cs.drop off).take n))
  | .faddr off, [x] => faddrSem off x K
  | .idxS, [x, y] => onStr x fun s => onInt y fun _ i => 0 ≤ i ∧ i < s.size ∧ K (.imm (.int .u8 (bt s i)))
  | .idx1 len, [x, y] => onAgg x fun cs => onInt y fun _ i => 0 ≤ i ∧ i < len ∧ onSome cs[i.toNat]? K
  | .idxA len n, [x, y] => onAgg x fun cs => onInt y fun _ i => 0 ≤ i ∧ i < len ∧ i.toNat * n + n ≤ cs.length ∧ K (.agg ((cs.drop (i.toNat * n)).take n))
  | .iaddrS size, [x, y] => onInt y fun _ i => iaddrSem size x i K
  | .iaddrA len size, [x, y] => onInt y fun _ i => 0 ≤ i ∧ i < len ∧ faddrSem (i.toNat * size) x K
  | .sliceS lo hi, x :: bs => onStr x fun s => bounds lo hi s.size bs fun l h => K (str (s.extract l h))
  | .sliceL size lo hi mx, x :: bs => sliceLsem size lo hi mx x bs K
  | .nilchk, [x] => nilchkSem x K
  | .ext i, [x] => onTup x fun vs => onSome vs[i]? K
  | .lenS, [x] => onStr x fun s => K (int64 s.size)
  | .lenL, [x] => lenSem x K
  | .lenC n, _ => K (int64 n)
  | .mkfn f nf, as => K (.fn f (as.take nf) (as.drop nf))
  | .build zero places, as => onSome (fillCells zero places as) fun cs => K (.agg cs)
  | .bslice size, as => (∀ x ∈ as, x.isVal = true ∧ x.cells.length = size) ∧ as.length * (size + 1) ≤ 16777216 ∧ K (.sl size (as.map AV.strip) none)
  | .max2, [x, y] => onInt x fun k a => onInt y fun k' b => k = k' ∧ K (.imm (.int k (max a b)))
  | .min2, [x, y] => onInt x fun k a => onInt y fun k' b => k = k' ∧ K (.imm (.int k (min a b)))
  | .cpart im, [x] => onCx x fun k a b => K (.imm (.float k (if im then b else a)))
  | .mkiface t, [x] => onImm x fun v => K (.imm (.iface t v))
  | .s2a n, [x] => onSl x fun sz xs _ => sz = 1 ∧ 0 < n ∧ n ≤ xs.length ∧ K (.rptr (xs.flatMap AV.cells) 0)
  | .pnil neg, [x, y] => pnilSem neg x y K
  | .slArrW len lo hi, p :: bs => onPtr p fun id off => bounds lo hi len bs fun l h => K (.bs id (off + l) (h - l))
  | _, _ => False
def keyInts : List IntKind → List AV → Option (List Value)
  | [], [] => some []
  | k :: ks, .imm (.int k' n) :: cs => if k' = k then (keyInts ks cs).map (.int k n :: ·) else none
  | _, _ => none
/-- A key, concretely. -/
def keyVal : KShape → AV → Option Value
  | .str, .imm (.string s) => some (.string s)
  | .one k, .imm (.int k' n) => if k' = k then some (.int k n) else none
  | .ints ks, .agg cs => (keyInts ks cs).map fun vs => .agg vs.toArray
  | _, _ => none
/-- A constant as an abstract value. -/
def cellAV : Value → AV
  | .slice none 0 0 => .sl 0 [] none
  | .slice .. | .agg _ | .tuple _ => .junk
  | v => .imm v
def constAV : Value → AV
  | .agg cs => .agg (cs.toList.map cellAV)
  | v => cellAV v
open Classical in
/-- Where a key stands. -/
noncomputable def mfind : List (Value × Option AV) → Value → Nat → Option (Nat × Option AV)
  | [], _, _ => none
  | (k, v) :: r, x, i => if k = x then some (i, v) else mfind r x (i + 1)
def mvalOf (zv : Value) : Option (Nat × Option AV) → AV
  | some (_, some v) => v
  | _ => constAV zv
/-- The value at a key. -/
noncomputable def mval (zv : Value) (es : List (Value × Option AV)) (k : Value) : AV := mvalOf zv (mfind es k 0)
noncomputable def mhas (es : List (Value × Option AV)) (k : Value) : Bool := (mfind es k 0).isSome
noncomputable def mput (es : List (Value × Option AV)) (k : Value) (v : Option AV) : List (Value × Option AV) :=
  match mfind es k 0 with
  | some (i, _) => es.set i (k, v)
  | none => es ++ [(k, v)]
/-- With a place for a key. -/
noncomputable def mroom (es : List (Value × Option AV)) (k : Value) : List (Value × Option AV) :=
  match mfind es k 0 with
  | some _ => es
  | none => es ++ [(k, none)]
noncomputable def mplace (es : List (Value × Option AV)) (k : Value) : Nat :=
  match mfind es k 0 with
  | some (i, _) => i
  | none => es.length
def onMp (x : AV) (K : Nat → Prop) : Prop := match x with | .mp id => K id | _ => False
def onMap (x : Option AObj) (K : KShape → Value → List (Value × Option AV) → Prop) : Prop := match x with | some (.map ks zv es) => K ks zv es | _ => False
def loadCells (cs : List AV) (off n : Nat) (K : AV → Prop) : Prop := off + n ≤ cs.length ∧ K (.agg ((cs.drop off).take n))
def onBox (x : Option AObj) (K : List AV → Prop) : Prop := match x with | some (.box cs) => K cs | some (.fbox cs) => K cs | _ => False
def onRs (x : AV) (K : Nat → Nat → Nat → Nat → Nat → Prop) : Prop := match x with | .rs id ver sz lo n => K id ver sz lo n | _ => False
def onRow (x : Option AObj) (K : TypeId → Nat → Nat → List AV → Prop) : Prop := match x with | some (.row e sz ver xs) => K e sz ver xs | _ => False
/-- The cells behind a pointer, and where in them. -/
def behind (x : AV) (look : Nat → Option AObj) (K : List AV → Nat → Prop) : Prop :=
  match x with
  | .rptr cs off => K cs off
  | .ptr id off => onBox (look id) fun cs => K cs off
  | .rp id ver size i => onRow (look id) fun _ sz ver' xs => sz = size ∧ ver' = ver ∧ onSome xs[i]? fun x => K x.cells 0
  | _ => False
def lsem (o : LOp) (args : List AV) (look : Nat → Option AObj) (K : AV → Prop) : Prop :=
  match o, args with
  | .load1, [x] => behind x look fun cs off => onSome cs[off]? K
  | .loadA n, [x] => behind x look fun cs off => loadCells cs off n K
  | .mlook ks zv ok, [m, k] => onMp m fun id => onMap (look id) fun ks' zv' es => ks' = ks ∧ zv' = zv ∧ onSome (keyVal ks k) fun kv => K (if ok = true then .tup [mval zv es kv, bool (mhas es kv)] else mval zv es kv)
  | .mlen, [m] => onMp m fun id => onMap (look id) fun _ _ es => K (int64 es.length)
  | _, _ => False
def msem (o : MOp) (args : List AV) (id : Nat) (K : AV → AObj → Prop) : Prop :=
  match o, args with
  | .box, [x] => x.isVal = true ∧ K (.ptr id 0) (.box x.cells)
  | .mkmap ks zv, [] => K (.mp id) (.map ks zv [])
  | .alloc zero _, [] => K (.ptr id 0) (.box zero)
  | .bsliceO e size, as => 0 < size ∧ (∀ x ∈ as, x.isVal = true ∧ x.cells.length = size) ∧ as.length * (size + 1) ≤ 16777216 ∧ K (.sl size (as.map AV.strip) (some id)) (.tok e size as.length)
  | .nilT e size, [] => K (.sl size [] (some id)) (.tok e size 0)
  | .mkrow e size bytes zero, [l, c] => onInt l fun _ n => onInt c fun _ m => m = n ∧ 0 ≤ n ∧ (bytes : Int) * n ≤ 281474976710656 ∧ n ≤ 9223372036854775807 ∧ 0 < size ∧ K (.rs id 0 size 0 n.toNat) (.row e size 0 (List.replicate n.toNat zero))
  | .mktok e size bytes, [l, c] => onInt l fun _ n => onInt c fun _ m => n = 0 ∧ 0 ≤ m ∧ (bytes : Int) * m ≤ 281474976710656 ∧ m ≤ 9223372036854775807 ∧ K (.sl size [] (some id)) (.tok e size 0)
  | _, _ => False
def onTok (x : Option AObj) (K : TypeId → Nat → Nat → Prop) : Prop := match x with | some (.tok e size n) => K e size n | _ => False
def esem (o : EOp) (args : List AV) (H : List AObj) (K : AV → List AObj → Prop) : Prop :=
  match o, args with
  | .store n, [.rp id ver size i, x] => x.isVal = true ∧ x.cells.length = n ∧ onRow H[id]? fun e sz' ver' xs => sz' = size ∧ size = n ∧ ver' = ver ∧ i < xs.length ∧ K .junk (H.set id (.row e size ver (xs.set i x)))
  | .store n, [p, x] => onPtr p fun id off => x.isVal = true ∧ x.cells.length = n ∧ (match H[id]? with
    | some (.box cs) => off + n ≤ cs.length ∧ K .junk (H.set id (.box (cs.take off ++ x.cells ++ cs.drop (off + n))))
    | _ => False)
  | .mentry ks zv, [m, k] => onMp m fun id => onMap H[id]? fun ks' zv' es => ks' = ks ∧ zv' = zv ∧ onSome (keyVal ks k) fun kv => K (.tup [mval zv es kv, int64 (mplace es kv)]) (H.set id (.map ks zv (mroom es kv)))
  | .mstore ks zv, [m, s, v] => onMp m fun id => onInt s fun _ i => onMap H[id]? fun ks' zv' es => ks' = ks ∧ zv' = zv ∧ v.isVal = true ∧ 0 ≤ i ∧ onSome es[i.toNat]? fun p => K .junk (H.set id (.map ks zv (es.set i.toNat (p.1, some v))))
  | .mupd ks zv, [m, k, v] => onMp m fun id => onMap H[id]? fun ks' zv' es => ks' = ks ∧ zv' = zv ∧ v.isVal = true ∧ onSome (keyVal ks k) fun kv => K .junk (H.set id (.map ks zv (mput es kv (some v))))
  | .clear zero, [x] => onRs x fun id ver sz lo n => zero.isVal = true ∧ sz = zero.cells.length ∧ 0 < sz ∧ (n = 0 ∧ K .junk H ∨ 0 < n ∧ onRow H[id]? fun e sz' ver' xs =>
      sz' = sz ∧ ver' = ver ∧ lo + n ≤ xs.length ∧ K .junk (H.set id (.row e sz ver (xs.take lo ++ List.replicate n zero ++ xs.drop (lo + n)))))
  | .append e size bytes, [.rs id ver sz lo n, x] => onSl x fun sz' ys _ => onRow H[id]? fun e' rsz ver' xs => e' = e ∧ 0 < size ∧ rsz = size ∧ sz = size ∧ ver' = ver ∧ lo = 0 ∧ n = xs.length ∧ (sz' = size ∨ ys = []) ∧
        (xs.length + ys.length) * bytes ≤ 140737488355328 ∧ xs.length + ys.length ≤ 4611686018427387904 ∧ K (.rs id (ver + 1) size 0 (xs.length + ys.length)) (H.set id (.row e size (ver + 1) (xs ++ ys)))
  | .append e size bytes, [s, x] => onSl s fun sz xs tok => onSl x fun sz' ys _ => onSome tok fun k => onTok H[k]? fun e' tsz n =>
      e' = e ∧ 0 < size ∧ tsz = size ∧ n = xs.length ∧ (sz = size ∨ xs = []) ∧ (sz' = size ∨ ys = []) ∧ (xs.length + ys.length) * bytes ≤ 140737488355328 ∧
        xs.length + ys.length ≤ 4611686018427387904 ∧ K (.sl size (xs ++ ys) (some k)) (H.set k (.tok e size (xs.length + ys.length)))
  | .slArr len lo hi, p :: bs => onPtr p fun id off => onBox H[id]? fun cs => off + len ≤ cs.length ∧ bounds lo hi len bs fun l h =>
      K (.sl 1 (((cs.drop off).take h).drop l) none) (H.set id (.fbox cs))
  | .copy size, [.rs id ver sz lo n, x] => onSrc x fun sz' ys => sz = size ∧ 0 < size ∧ (sz' = size ∨ ys = []) ∧ (min ys.length n = 0 ∧ K (int64 0) H ∨ 0 < min ys.length n ∧ onRow H[id]? fun e rsz ver' xs =>
      rsz = size ∧ ver' = ver ∧ lo + n ≤ xs.length ∧ K (int64 (min ys.length n : Nat)) (H.set id (.row e size ver (xs.take lo ++ ys.take n ++ xs.drop (lo + min ys.length n)))))
  | .copy size, [.bs id off n, x] => onSrc x fun sz' ys => size = 1 ∧ (sz' = 1 ∨ ys = []) ∧ (min ys.length n = 0 ∧ K (int64 0) H ∨ 0 < min ys.length n ∧ (match H[id]? with
    | some (.box cs) => off + n ≤ cs.length ∧ K (int64 (min ys.length n : Nat)) (H.set id (.box (cs.take off ++ (ys.take n).flatMap AV.cells ++ cs.drop (off + min ys.length n))))
    | _ => False))
  | .mark, [x] => onSl x fun sz xs tok => onSome tok fun k => onTok H[k]? fun _ _ n => n = xs.length ∧ 0 < n ∧ K (.sl sz xs none) (H.set k .dead)
  | _, _ => False
end Go.AL

/- From the program's code to the abstract machine's. -/
namespace Go.AL
open Go Go.RowKit
def constOk : Value → Bool
  | .agg cs => cs.toList.all fun c => c.oneCell'
  | .tuple _ => false
  | _ => true
def copd : Operand → Option AOpd
  | .tmp t => some (.t t)
  | .const v => if constOk v then some (.c (constAV v)) else none
  | .global g => some (.g g)
  | .func f => some (.c (.fn (.func f) [] []))
def aggD : TypeDesc → Bool
  | .struct _ | .array _ _ => true
  | _ => false
def isU8 : Option TypeDesc → Bool
  | some (.int .u8) => true
  | _ => false
section
variable (P : Program)
def szOf (t : TypeId) : Option Nat := (P.info? t).map (·.size)
/-- Types whose values are equal just when all their cells are: a row of whole numbers. -/
def plainEq (t : TypeId) : Bool :=
  match P.underlying t with
  | some (.struct fs) => !P.stoodInHeld t && (fs.toList.zipIdx.all fun (f, i) => f.name != "_" && f.offset == i && (match P.underlying f.type with | some (.int _) => true | _ => false)) && !P.eqGuardType P.depth t
  | some (.array _ e) => (match P.underlying e with | some (.int _) => true | _ => false) && szOf P e == some 1 && !P.eqGuardType P.depth t
  | _ => false
/-- How long a value of such a type is. -/
def eqLen (t : TypeId) : Nat :=
  match P.underlying t with
  | some (.struct fs) => fs.size
  | some (.array n _) => n
  | _ => 0
/-- What a map's keys are, and the zero of its values. -/
def kshapeOf (t : TypeId) : Option KShape :=
  match P.underlying t with
  | some .string => some .str
  | some (.int k) => some (.one k)
  | some (.struct fs) => if plainEq P t then (fs.toList.mapM fun (f : Field) => match P.underlying f.type with | some (.int k) => some k | _ => none).map .ints else none
  | _ => none
def mapInfo (t : TypeId) : Option (KShape × Value) :=
  match P.underlying t with
  | some (.map k e) => (kshapeOf P k).bind fun ks => (P.info? e).bind fun i => i.zero.bind fun z => if constOk z then some (ks, z) else none
  | _ => none
def optList {α : Type} (x : Option α) : List α := match x with | some a => [a] | none => []
/-- own: may what is built here be appended to later? -/
def boolT (t : TypeId) : Bool := match P.underlying t with | some .bool => true | _ => false
def ptrT (t : TypeId) : Bool := match P.underlying t with
  | some (.pointer _) => true
  | _ => false
def eqOp (op : BinOp) (neg : Bool) (t : TypeId) : QOp := if boolT P t = true then .eqBoo neg else if ptrT P t = true then .pnil neg else .bin op t
def compOp (own : Bool) (o : Oper) (slot : Nat) : Option (Cls × List Operand) :=
  match o.op with
  | .move x => some (.q .mv, [x])
  | .assign x => match own, x, P.underlying o.type with
    | true, .const (.slice none 0 0), some (.slice e) => (szOf P e).bind fun n => if 0 < n then some (.m (.nilT e n) slot, []) else none
    | _, _, _ => some (.q .mv, [x])
  | .pick c a b => some (.q .pick, [c, a, b])
  | .alloc e => (P.info? e).bind fun i => i.zero.bind fun z => if constOk z then some (.m (.alloc (constAV z).cells (!(match z with | .agg _ => true | _ => false))) slot, []) else none
  | .box _ x => some (.m .box slot, [x])
  | .build t parts => match P.underlying t with
    | some (.struct fs) => (P.info? t).bind fun i => i.zero.bind fun z =>
        (fs.toList.mapM fun f => (P.info? f.type).map fun i => (f.offset, i.size)).bind fun pl => (parts.toList.mapM fun (p : Nat × Operand) => pl[p.1]?).bind fun places =>
        if constOk z then some (.q (.build (constAV z).cells places), parts.toList.map (·.2)) else none
    | some (.array _ e) => (P.info? t).bind fun i => i.zero.bind fun z => (szOf P e).bind fun n =>
        if constOk z then some (.q (.build (constAV z).cells (parts.toList.map fun p => (p.1 * n, n))), parts.toList.map (·.2)) else none
    | _ => none
  | .buildSlice t len parts => match P.underlying t with
    | some (.slice e) => (P.info? e).bind fun i => i.zero.bind fun z => if parts.toList.map (·.1) = List.range len ∧ z.cells.size = i.size then
        (if own then some (.m (.bsliceO e i.size) slot, parts.toList.map (·.2)) else some (.q (.bslice i.size), parts.toList.map (·.2))) else none
    | _ => none
  | .lookup t x k ok => (mapInfo P t).map fun p => (.l (.mlook p.1 p.2 ok), [x, k])
  | .mapEntry t x k => (mapInfo P t).map fun p => (.e (.mentry p.1 p.2), [x, k])
  | .entryStore t x s y => (mapInfo P t).map fun p => (.e (.mstore p.1 p.2), [x, s, y])
  | .mapUpdate t x k y => (mapInfo P t).map fun p => (.e (.mupd p.1 p.2), [x, k, y])
  | .makeMap t r => match r with
    | none => (mapInfo P t).map fun p => (.m (.mkmap p.1 p.2) slot, [])
    | some _ => none
  | .makeSlice t l c => match P.underlying t with
    | some (.slice e) => (P.info? e).bind fun i => i.zero.bind fun z => if constOk z ∧ z.cells.size = i.size then
        (match own, l with
        | true, .const (.int _ 0) => some (.m (.mktok e i.size i.bytes) slot, [l, c])
        | _, _ => some (.m (.mkrow e i.size i.bytes (constAV z)) slot, [l, c])) else none
    | _ => none
  | .load t x => match P.underlying t, szOf P t with
    | some d, some n => if aggD d then some (.l (.loadA n), [x]) else some (.l .load1, [x])
    | _, _ => none
  | .store t a x => (szOf P t).map fun n => (.e (.store n), [a, x])
  | .nilCheck x => some (.q .nilchk, [x])
  | .binOp op t x y _ => match op with
    | .eql => if plainEq P t then some (.q (.eqA false (eqLen P t)), [x, y]) else some (.q (eqOp P .eql false t), [x, y])
    | .neq => if plainEq P t then some (.q (.eqA true (eqLen P t)), [x, y]) else some (.q (eqOp P .neq true t), [x, y])
    | op => some (.q (.bin op t), [x, y])
  | .unOp op _ x => some (.q (.un op), [x])
  | .convert src dst x => match P.underlying src, P.underlying dst with
    | some (.int _), some (.int k) => some (.q (.convI k), [x])
    | some (.slice e), some .string => if isU8 (P.underlying e) then some (.q .toStr, [x]) else none
    | some (.int _), some .string => some (.q .runeStr, [x])
    | some .string, some .string => some (.q .strId, [x])
    | some .string, some (.slice e) => if isU8 (P.underlying e) then some (.q .toBytes, [x]) else none
    | some (.slice _), some (.slice e) => if src = dst ∧ isU8 (P.underlying e) = true then some (.e .mark, [x]) else none
    | _, _ => none
  | .sliceToArrayPointer arr x => match P.underlying arr with
    | some (.array n _) => some (.q (.s2a n), [x])
    | _ => none
  | .makeInterface t x => match P.underlying t with
    | some (.interface _) => none
    | some _ => some (.q (.mkiface t), [x])
    | none => none
  | .makeFunc fn first cap => some (.q (.mkfn fn first.size), first.toList ++ cap.toList)
  | .fieldAddr t x f => match P.underlying t with
    | some (.struct fs) => (fs[f]?).bind fun fd => (szOf P fd.type).bind fun n => if n = 0 then none else some (.q (.faddr fd.offset), [x])
    | _ => none
  | .field t x f => match P.underlying t with
    | some (.struct fs) => (fs[f]?).bind fun fd => (szOf P fd.type).bind fun n => (P.underlying fd.type).map fun d =>
        if aggD d then (.q (.fldA fd.offset n), [x]) else (.q (.fld1 fd.offset), [x])
    | _ => none
  | .indexAddr t x i => match P.underlying t with
    | some (.slice e) => (szOf P e).bind fun n => if n = 0 then none else some (.q (.iaddrS n), [x, i])
    | some (.array len e) => (szOf P e).map fun n => (.q (.iaddrA len n), [x, i])
    | _ => none
  | .index t x i => match P.underlying t with
    | some .string => some (.q .idxS, [x, i])
    | some (.array len e) => (szOf P e).bind fun n => (P.underlying e).bind fun d => if aggD d then some (.q (.idxA len n), [x, i]) else if n = 1 then some (.q (.idx1 len), [x, i]) else none
    | _ => none
  | .slice t x lo hi mx => match P.underlying t with
    | some .string => if mx.isSome then none else some (.q (.sliceS lo.isSome hi.isSome), x :: (optList lo ++ optList hi))
    | some (.slice e) => (szOf P e).map fun n => (.q (.sliceL n lo.isSome hi.isSome mx.isSome), x :: (optList lo ++ optList hi ++ optList mx))
    | some (.array len e) => if mx.isSome then none else if szOf P e = some 1 ∧ len ≤ 65536 then (if own then some (.q (.slArrW len lo.isSome hi.isSome), x :: (optList lo ++ optList hi)) else some (.e (.slArr len lo.isSome hi.isSome), x :: (optList lo ++ optList hi))) else none
    | _ => none
  | .extract x i => some (.q (.ext i), [x])
  | .call c => match c.callee with
    | .value f => some (.call false, f :: c.args.toList)
    | .builtin .len => match c.argTypes.toList, c.args.toList with
      | [t], [x] => match P.underlying t with
        | some .string => some (.q .lenS, [x])
        | some (.slice _) => some (.q .lenL, [x])
        | some (.map _ _) => some (.l .mlen, [x])
        | some (.array n _) => some (.q (.lenC n), [x])
        | some (.pointer a) => match P.underlying a with
          | some (.array n _) => some (.q (.lenC n), [x])
          | _ => none
        | _ => none
      | _, _ => none
    | .builtin .append => match c.argTypes.toList, c.args.toList with
      | [t, u], [s, x] => match P.underlying t, P.underlying u with
        | some (.slice e), some (.slice _) => (P.info? e).bind fun i => i.zero.bind fun z => if z.cells.size = i.size then some (.e (.append e i.size i.bytes), [s, x]) else none
        | _, _ => none
      | _, _ => none
    | .builtin .copy => match c.argTypes.toList, c.args.toList with
      | [t, _], [d, s] => match P.underlying t with
        | some (.slice e) => (szOf P e).map fun n => (.e (.copy n), [d, s])
        | _ => none
      | _, _ => none
    | .builtin .clear => match c.argTypes.toList, c.args.toList with
      | [t], [x] => match P.underlying t with
        | some (.slice e) => (P.info? e).bind fun i => i.zero.bind fun z => if constOk z then some (.e (.clear (constAV z)), [x]) else none
        | _ => none
      | _, _ => none
    | .builtin .max => match c.args.toList with
      | [x, y] => some (.q .max2, [x, y])
      | _ => none
    | .builtin .real => match c.args.toList with
      | [x] => some (.q (.cpart false), [x])
      | _ => none
    | .builtin .imag => match c.args.toList with
      | [x] => some (.q (.cpart true), [x])
      | _ => none
    | .builtin .min => match c.args.toList with
      | [x, y] => some (.q .min2, [x, y])
      | _ => none
    | _ => none
  | _ => none
def copds (xs : List Operand) : Option (List AOpd) := xs.mapM copd
def Cls.isM : Cls → Bool
  | .m _ _ => true
  | _ => false
/-- The temporary that a guard asks. -/
def guardOf (ops : Array Oper) (o : Oper) : Option (Option (Nat × Bool)) :=
  match o.guard with
  | none => some none
  | some (j, want) => ((ops[j]?).bind (·.dst)).map fun t => some (t, want)
/-- What no rule is there for is a step that nobody may take. -/
def compOp1 (own : Bool) (o : Oper) (slot : Nat) : Option (Cls × List Operand) :=
  match compOp P own o slot with
  | some (c, xs) => if (copds xs).isSome then some (c, xs) else some (.q .stuck, [])
  | none => some (.q .stuck, [])
def compOper (own : Bool) (ops : Array Oper) (slot : Nat) (o : Oper) : Option AOper :=
  (compOp1 P own o slot).bind fun (c, xs) => (copds xs).bind fun args => (guardOf ops o).map fun g => { dst := o.dst, guard := g, cls := c, args := args }
def compOpers (own : Bool) (ops : Array Oper) : Nat → List Oper → Option (List AOper)
  | _, [] => some []
  | slot, o :: rest => (compOper P own ops slot o).bind fun a => (compOpers own ops (if a.cls.isM then slot + 1 else slot) rest).map fun as => a :: as
end
def countM (as : List AOper) : Nat := (as.filter (·.cls.isM)).length
def AOpd.reads : AOpd → List Nat
  | .t n => [n]
  | _ => []
def AOper.reads (o : AOper) : List Nat := o.args.flatMap AOpd.reads ++ (match o.guard with | some (t, _) => [t] | none => [])
/-- Does an operation look at boxes (1), make one (2), turn one (3)? -/
def Cls.touch : Cls → Nat
  | .q _ => 0
  | .call false => 0
  | .l _ => 1
  | .m _ _ => 2
  | .e _ | .call true => 3
/-- A key's value, looked up, is the same behind a place made for a key. -/
def lookEntry : Cls → Cls → Bool
  | .l (.mlook _ _ false), .e (.mentry _ _) => true
  | _, _ => false
def commutes (x y : AOper) : Bool :=
  (match x.dst with | some d => !y.reads.contains d && y.dst != some d | none => true) &&
  (match y.dst with | some d => !x.reads.contains d | none => true) &&
  (x.cls.touch == 0 || y.cls.touch == 0 || (x.cls.touch < 3 && y.cls.touch < 3) || lookEntry x.cls y.cls || lookEntry y.cls x.cls) &&
  (match x.cls, y.cls with | .m _ a, .m _ b => a != b | _, _ => true)
/-- What an operation waits for, as bits, out of those of the ones ahead of it. -/
def maskOf (acc : List Nat) : List Edge → Nat
  | [] => 0
  | e :: es => if Region.binds .any e then (2 ^ e.on ||| acc.getD e.on 0) ||| maskOf acc es else maskOf acc es
def masksGo : List Oper → List Nat → List Nat
  | [], acc => acc
  | o :: rest, acc => masksGo rest (acc ++ [maskOf acc o.after.toList])
def masks (ops : Array Oper) : List Nat := masksGo ops.toList []
/-- Any two operations of a region of open order either wait for each other or commute. -/
def drawOk (ops : Array Oper) (as : List AOper) : Bool :=
  (ops.toList.zipIdx.all fun (o, i) => o.after.all fun e => !Region.binds .any e || decide (e.on < i)) &&
  as.zipIdx.all fun (y, j) => as.zipIdx.all fun (x, i) => !(i < j) || ((masks ops).getD j 0).testBit i || commutes x y
/-- A call that waits for all that touches boxes, and for which all of these wait, may turn boxes. -/
def pinOf (ops : Array Oper) (as : List AOper) (i : Nat) : Bool :=
  let b := masks ops
  as.zipIdx.all fun (y, j) => i == j || (y.cls.touch == 0 && (match y.cls with | .call _ => false | _ => true)) || (if i < j then (b.getD j 0).testBit i else (b.getD i 0).testBit j)
def pins (draw : Bool) (ops : Array Oper) (as : List AOper) : List AOper :=
  as.zipIdx.map fun (x, i) => match x.cls with
    | .call _ => { x with cls := .call (!draw || pinOf ops as i) }
    | _ => x
def comp (P : Program) (own : List Nat) : Code → Option ACode
  | .skip => some .skip
  | .region id ops draw => (compOpers P (own.contains id) ops 0 ops.toList).bind fun as =>
      let bs := pins draw ops as
      if !draw || drawOk ops bs then some (.reg draw (countM as) bs) else none
  | .seq a b => (comp P own a).bind fun x => (comp P own b).map fun y => .seq x y
  | .cond c a b => (copd c).bind fun o => (comp P own a).bind fun x => (comp P own b).map fun y => .cond o x y
  | .block id c => (comp P own c).map fun x => .block id x
  | .loop c => (comp P own c).map fun x => .loop x
  | .exit id => some (.exit id)
  | .ret => some .ret
  | .label _ => some .skip
  | .goto l => some (.goto l)
  | .scope c => (comp P own c).map fun x => .scope x
  | _ => some .stuck
end Go.AL

/- The abstract heap and the world. -/
namespace Go.AL
open Go Go.RowKit
def Obj.isCells : Obj → Bool
  | .cells .. => true
  | _ => false
def TokBlk (E : Env) (w : World) (lo : Nat) (e : TypeId) (size n : Nat) : Option (Nat × Nat) → Prop
  | none => n = 0
  | some (g, cap) => lo ≤ g ∧ ∃ cur, w.heap[g]? = some (.cells cur e (0, 0)) ∧ cur.size = cap * size ∧ n ≤ cap ∧ cap ≤ maxLen ∧ ∀ a, E.I a → a.block = g → a.off < n * size
def RowBlk (E : Env) (w : World) (lo : Nat) (e : TypeId) (size : Nat) (xs : List AV) : Option (Nat × Nat) → Prop
  | none => xs = []
  | some (g, cap) => lo ≤ g ∧ ∃ (cur : Array Value) (us : List Value), w.heap[g]? = some (.cells cur e (0, 0)) ∧ cur.size = cap * size ∧ xs.length ≤ cap ∧ cap ≤ maxLen ∧ Reps E w (xs.flatMap AV.cells) us ∧ (∀ x ∈ xs, x.cells.length = size) ∧
      (∀ u ∈ us, u.oneCell' = true) ∧ (∀ (j : Nat) (u : Value), us[j]? = some u → cur[j]? = some u) ∧ ∀ a, E.I a → a.block ≠ g
/-- What the keys of a shape are. -/
def KShape.fits : KShape → Value → Prop
  | .str, v => ∃ s, v = .string s
  | .one k, v => ∃ n, v = .int k n
  | .ints ks, v => ∃ ns : List Int, ns.length = ks.length ∧ v = .agg ((ks.zip ns).map fun p => Value.int p.1 p.2).toArray
/-- An entry as it lies. -/
def EntOk (E : Env) (w : World) (ks : KShape) (zv : Value) (i : Nat) (p : Value × Option AV) (e : MapEntry) : Prop :=
  e.key = p.1 ∧ e.born = i ∧ ks.fits p.1 ∧ (match p.2 with | some a => Rep E w a e.val ∧ a.isVal = true | none => e.val = zv)
def MapOk (E : Env) (w : World) (ks : KShape) (zv : Value) (es : List (Value × Option AV)) (ents : List MapEntry) : Prop :=
  constOk zv = true ∧ ents.length = es.length ∧ ∀ i p e, es[i]? = some p → ents[i]? = some e → EntOk E w ks zv i p e
def ObjOk (E : Env) (w : World) (lo id : Nat) : AObj → Prop
  | .hole => E.bx id = none ∧ E.tk id = none
  | .box cs => ∃ b ty us, E.bx id = some b ∧ E.tk id = none ∧ lo ≤ b ∧ w.heap[b]? = some (.cells (List.toArray us) ty (0, 0)) ∧ Reps E w cs us ∧ (∀ u ∈ us, u.oneCell' = true) ∧ ∀ a, E.I a → a.block ≠ b
  | .fbox cs => ∃ b ty us, E.bx id = some b ∧ E.tk id = none ∧ lo ≤ b ∧ w.heap[b]? = some (.cells (List.toArray us) ty (0, 0)) ∧ Reps E w cs us ∧ (∀ u ∈ us, u.oneCell' = true) ∧ ∀ j, j < us.length → E.I ⟨b, j, none⟩
  | .tok e size n => ∃ B, E.bx id = none ∧ E.tk id = some (n, B) ∧ TokBlk E w lo e size n B
  | .row e size ver xs => ∃ B, E.bx id = none ∧ E.tk id = some (ver, B) ∧ RowBlk E w lo e size xs B
  | .dead => ∃ n B, E.bx id = none ∧ E.tk id = some (n, B) ∧ ∀ g c, B = some (g, c) → lo ≤ g ∧ g < w.heap.size
  | .map ks zv es => ∃ b ents, E.bx id = some b ∧ E.tk id = none ∧ lo ≤ b ∧ w.heap[b]? = some (.map (List.toArray ents) es.length) ∧ MapOk E w ks zv es ents ∧ ∀ a, E.I a → a.block ≠ b
  | .obj o => ∃ b, E.bx id = some b ∧ E.tk id = none ∧ lo ≤ b ∧ w.heap[b]? = some o ∧ Obj.isCells o = false ∧ ∀ a, E.I a → a.block ≠ b
def Env.at (E : Env) (id : Nat) : Option Nat :=
  match E.bx id with
  | some b => some b
  | none => (E.tk id).bind fun x => x.2.map (·.1)
structure SimH (G : Nat → Option (List AV)) (lo : Nat) (E : Env) (H : List AObj) (w : World) : Prop where
  lo_le : lo ≤ w.heap.size
  inI : ∀ a, E.I a → a.block < w.heap.size
  objs : ∀ id o, H[id]? = some o → ObjOk E w lo id o
  dom : ∀ id, H.length ≤ id → E.bx id = none ∧ E.tk id = none
  inj : ∀ id id' b, E.at id = some b → E.at id' = some b → id = id'
  glob : ∀ g cs, G g = some cs → ∃ us, Reps E w cs us ∧ (∀ u ∈ us, u.oneCell' = true) ∧ (∀ j u, us[j]? = some u → w.cell? ⟨g, j, none⟩ = some u ∧ E.I ⟨g, j, none⟩) ∧ ∃ ty fz, g < lo ∧ w.heap[g]? = some (.cells us.toArray ty fz)
theorem heap_lt {w : World} {b : Nat} {o : Obj} (h : w.heap[b]? = some o) : b < w.heap.size := (Array.getElem?_eq_some_iff.1 h).1
/-- The block of an object that is in the heap. -/
theorem SimH.at_spec {G : Nat → Option (List AV)} {lo : Nat} {E : Env} {H : List AObj} {w : World} (h : SimH G lo E H w) {id b : Nat} (hb : E.at id = some b) :
    lo ≤ b ∧ b < w.heap.size ∧ id < H.length := by
  have hid : id < H.length := by
    rcases Nat.lt_or_ge id H.length with h1 | h1
    · exact h1
    · have := h.dom id h1; simp [Env.at, this.1, this.2] at hb
  have ho := h.objs id _ (List.getElem?_eq_getElem hid)
  cases hO : H[id] with
  | hole => rw [hO] at ho; simp [Env.at, ho.1, ho.2] at hb
  | box cs => rw [hO] at ho; obtain ⟨b', ty, us, h1, h2, h3, h4, _⟩ := ho; simp [Env.at, h1] at hb; subst hb; exact ⟨h3, heap_lt h4, hid⟩
  | fbox cs => rw [hO] at ho; obtain ⟨b', ty, us, h1, h2, h3, h4, _⟩ := ho; simp [Env.at, h1] at hb; subst hb; exact ⟨h3, heap_lt h4, hid⟩
  | obj o => rw [hO] at ho; obtain ⟨b', h1, h2, h3, h4, _⟩ := ho; simp [Env.at, h1] at hb; subst hb; exact ⟨h3, heap_lt h4, hid⟩
  | map ks zv es => rw [hO] at ho; obtain ⟨b', ents, h1, h2, h3, h4, _⟩ := ho; simp [Env.at, h1] at hb; subst hb; exact ⟨h3, heap_lt h4, hid⟩
  | tok e size n =>
    rw [hO] at ho
    obtain ⟨B, h1, h2, h3⟩ := ho
    cases B with
    | none => simp [Env.at, h1, h2] at hb
    | some p => obtain ⟨g, cap⟩ := p; simp [Env.at, h1, h2] at hb; subst hb; obtain ⟨h4, cur, h5, _⟩ := h3; exact ⟨h4, heap_lt h5, hid⟩
  | row e size ver xs =>
    rw [hO] at ho
    obtain ⟨B, h1, h2, h3⟩ := ho
    cases B with
    | none => simp [Env.at, h1, h2] at hb
    | some p => obtain ⟨g, cap⟩ := p; simp [Env.at, h1, h2] at hb; subst hb; obtain ⟨h4, cur, us, h5, _⟩ := h3; exact ⟨h4, heap_lt h5, hid⟩
  | dead =>
    rw [hO] at ho
    obtain ⟨n, B, h1, h2, h3⟩ := ho
    cases B with
    | none => simp [Env.at, h1, h2] at hb
    | some p => obtain ⟨g, cap⟩ := p; simp [Env.at, h1, h2] at hb; subst hb; exact ⟨(h3 g cap rfl).1, (h3 g cap rfl).2, hid⟩
theorem EntOk.mono {lo : Nat} {E E' : Env} {w w' : World} (hE : Evo lo E w E' w') {ks : KShape} {zv : Value} {i : Nat} {p : Value × Option AV} {e : MapEntry} (h : EntOk E w ks zv i p e) : EntOk E' w' ks zv i p e := by
  obtain ⟨h1, h2, h3, h4⟩ := h
  refine ⟨h1, h2, h3, ?_⟩
  split at h4
  · exact ⟨h4.1.mono hE, h4.2⟩
  · exact h4
theorem MapOk.mono {lo : Nat} {E E' : Env} {w w' : World} (hE : Evo lo E w E' w') {ks : KShape} {zv : Value} {es : List (Value × Option AV)} {ents : List MapEntry} (h : MapOk E w ks zv es ents) : MapOk E' w' ks zv es ents :=
  ⟨h.1, h.2.1, fun i p e hp he => (h.2.2 i p e hp he).mono hE⟩
/-- Objects whose block did not turn are as they were. -/
theorem ObjOk.keep {lo : Nat} {E E' : Env} {w w' : World} (hE : Evo lo E w E' w') {id : Nat} {o : AObj} (h : ObjOk E w lo id o)
    (hbx : E'.bx id = E.bx id) (htk : E'.tk id = E.tk id) (hblk : ∀ b, E.at id = some b → w'.heap[b]? = w.heap[b]?)
    (hnew : ∀ a, E'.I a → E.I a ∨ ∀ b, E.at id = some b → a.block ≠ b) : ObjOk E' w' lo id o := by
  cases o with
  | hole => exact ⟨hbx.trans h.1, htk.trans h.2⟩
  | box cs =>
    obtain ⟨b, ty, us, h1, h2, h3, h4, h5, h6, h7⟩ := h
    refine ⟨b, ty, us, hbx.trans h1, htk.trans h2, h3, ?_, h5.mono hE, h6, fun a ha => ?_⟩
    · rw [hblk b (by simp [Env.at, h1])]; exact h4
    · rcases hnew a ha with h8 | h8
      · exact h7 a h8
      · exact h8 b (by simp [Env.at, h1])
  | fbox cs =>
    obtain ⟨b, ty, us, h1, h2, h3, h4, h5, h6, h7⟩ := h
    refine ⟨b, ty, us, hbx.trans h1, htk.trans h2, h3, ?_, h5.mono hE, h6, fun j hj => (hE.I _ (h7 j hj)).1⟩
    rw [hblk b (by simp [Env.at, h1])]; exact h4
  | map ks zv es =>
    obtain ⟨b, ents, h1, h2, h3, h4, h5, h6⟩ := h
    refine ⟨b, ents, hbx.trans h1, htk.trans h2, h3, ?_, h5.mono hE, fun a ha => ?_⟩
    · rw [hblk b (by simp [Env.at, h1])]; exact h4
    · rcases hnew a ha with h8 | h8
      · exact h6 a h8
      · exact h8 b (by simp [Env.at, h1])
  | obj o =>
    obtain ⟨b, h1, h2, h3, h4, h5, h6⟩ := h
    refine ⟨b, hbx.trans h1, htk.trans h2, h3, ?_, h5, fun a ha => ?_⟩
    · rw [hblk b (by simp [Env.at, h1])]; exact h4
    · rcases hnew a ha with h8 | h8
      · exact h6 a h8
      · exact h8 b (by simp [Env.at, h1])
  | tok e size n =>
    obtain ⟨B, h1, h2, h3⟩ := h
    refine ⟨B, hbx.trans h1, htk.trans h2, ?_⟩
    cases B with
    | none => exact h3
    | some p =>
      obtain ⟨g, cap⟩ := p
      obtain ⟨h4, cur, h5, h6, h7, h8, h9⟩ := h3
      refine ⟨h4, cur, ?_, h6, h7, h8, fun a ha hg => ?_⟩
      · rw [hblk g (by simp [Env.at, h1, h2])]; exact h5
      · rcases hnew a ha with h10 | h10
        · exact h9 a h10 hg
        · exact absurd hg (h10 g (by simp [Env.at, h1, h2]))
  | row e size ver xs =>
    obtain ⟨B, h1, h2, h3⟩ := h
    refine ⟨B, hbx.trans h1, htk.trans h2, ?_⟩
    cases B with
    | none => exact h3
    | some p =>
      obtain ⟨g, cap⟩ := p
      obtain ⟨h4, cur, us, h5, h6, h7, h8, h9, h9a, h10, h11, h12⟩ := h3
      refine ⟨h4, cur, us, ?_, h6, h7, h8, h9.mono hE, h9a, h10, h11, fun a ha hg => ?_⟩
      · rw [hblk g (by simp [Env.at, h1, h2])]; exact h5
      · rcases hnew a ha with h13 | h13
        · exact h12 a h13 hg
        · exact absurd hg (h13 g (by simp [Env.at, h1, h2]))
  | dead =>
    obtain ⟨n, B, h1, h2, h3⟩ := h
    refine ⟨n, B, hbx.trans h1, htk.trans h2, fun g c e => ⟨(h3 g c e).1, ?_⟩⟩
    subst e
    have hlt := (h3 g c rfl).2
    have hb := hblk g (by simp [Env.at, h1, h2])
    rcases Nat.lt_or_ge g w'.heap.size with h | h
    · exact h
    · rw [Array.getElem?_eq_none h, Array.getElem?_eq_getElem hlt] at hb; cases hb
theorem Env.at_congr {E E' : Env} {id : Nat} (hbx : E'.bx id = E.bx id) (htk : E'.tk id = E.tk id) : E'.at id = E.at id := by simp [Env.at, hbx, htk]
/-- More cells that are for good. -/
def Env.more (E : Env) (J : Addr → Prop) : Env := { E with I := fun a => E.I a ∨ J a }
/-- Only new blocks: all is as it was; cells of new blocks may be for good. -/
theorem SimH.grow {G : Nat → Option (List AV)} {lo : Nat} {E : Env} {H : List AObj} {w w' : World} (h : SimH G lo E H w) (hb : Below w.heap.size w w') (J : Addr → Prop)
    (hJ : ∀ a, J a → w.heap.size ≤ a.block ∧ a.block < w'.heap.size) : SimH G lo (E.more J) H w' ∧ Evo lo E w (E.more J) w' := by
  have hE : Evo lo E w (E.more J) w' := ⟨hb.mono h.lo_le, fun a ha => ⟨.inl ha, hb.cell (h.inI a ha)⟩, fun _ _ h => h, fun _ n b h => ⟨n, b, h, Nat.le_refl _, fun _ => rfl⟩,
    fun a ha => ha.imp id fun h1 => Nat.le_trans h.lo_le (hJ a h1).1⟩
  refine ⟨⟨Nat.le_trans h.lo_le hb.size, ?_, ?_, h.dom, h.inj, ?_⟩, hE⟩
  · rintro a (ha | ha)
    · exact Nat.lt_of_lt_of_le (h.inI a ha) hb.size
    · exact (hJ a ha).2
  · intro id o ho
    refine (h.objs id o ho).keep hE rfl rfl (fun b hb' => hb.block b (h.at_spec hb').2.1) ?_
    rintro a (ha | ha)
    · exact .inl ha
    · refine .inr fun b hb' e => ?_
      have h1 := (h.at_spec hb').2.1
      have h2 := (hJ a ha).1
      omega
  · intro g cs hg
    obtain ⟨us, h1, h2, h3, ty, fz, h4, h5⟩ := h.glob g cs hg
    exact ⟨us, h1.mono hE, h2, fun j u hu => ⟨((hE.I _ (h3 j u hu).2).2).trans (h3 j u hu).1, .inl (h3 j u hu).2⟩, ty, fz, h4, (hE.below.block g h4).trans h5⟩
/-- A new object takes a hole's place. -/
theorem SimH.fresh {G : Nat → Option (List AV)} {lo : Nat} {E E' : Env} {H : List AObj} {w w' : World} (h : SimH G lo E H w) (hb : Below w.heap.size w w') {id : Nat} (hid : H[id]? = some .hole) (o : AObj)
    (hbx : ∀ i, i ≠ id → E'.bx i = E.bx i) (htk : ∀ i, i ≠ id → E'.tk i = E.tk i)
    (hI : ∀ a, E.I a → E'.I a) (hI' : ∀ a, E'.I a → E.I a ∨ (w.heap.size ≤ a.block ∧ a.block < w'.heap.size))
    (hat : ∀ b, E'.at id = some b → w.heap.size ≤ b) (ho : Evo lo E w E' w' → ObjOk E' w' lo id o) : SimH G lo E' (H.set id o) w' ∧ Evo lo E w E' w' := by
  have hh := h.objs id _ hid
  have hlt : id < H.length := (List.getElem?_eq_some_iff.1 hid).1
  have hE : Evo lo E w E' w' := ⟨hb.mono h.lo_le, fun a ha => ⟨hI a ha, hb.cell (h.inI a ha)⟩, fun i b hi => by
      by_cases e : i = id
      · subst e; rw [hh.1] at hi; cases hi
      · rw [hbx i e]; exact hi,
    fun i n b hi => by
      by_cases e : i = id
      · subst e; rw [hh.2] at hi; cases hi
      · exact ⟨n, b, by rw [htk i e]; exact hi, Nat.le_refl _, fun _ => rfl⟩,
    fun a ha => (hI' a ha).imp (fun h => h) fun h1 => Nat.le_trans h.lo_le h1.1⟩
  refine ⟨⟨Nat.le_trans h.lo_le hb.size, ?_, ?_, ?_, ?_, ?_⟩, hE⟩
  · intro a ha
    rcases hI' a ha with h1 | h1
    · exact Nat.lt_of_lt_of_le (h.inI a h1) hb.size
    · exact h1.2
  · intro i x hx
    by_cases e : i = id
    · subst e
      rw [List.getElem?_set_self hlt] at hx
      cases hx
      exact ho hE
    · rw [List.getElem?_set_ne (Ne.symm e)] at hx
      refine (h.objs i x hx).keep hE (hbx i e) (htk i e) (fun b hb' => hb.block b (h.at_spec hb').2.1) fun a ha => ?_
      rcases hI' a ha with h1 | h1
      · exact .inl h1
      · refine .inr fun b hb' e2 => ?_
        have h2 := (h.at_spec hb').2.1
        omega
  · intro i hi
    rw [List.length_set] at hi
    have e : i ≠ id := by omega
    rw [hbx i e, htk i e]
    exact h.dom i hi
  · intro i j b hi hj
    have key : ∀ k, k ≠ id → E'.at k = E.at k := fun k hk => Env.at_congr (hbx k hk) (htk k hk)
    by_cases e1 : i = id
    · by_cases e2 : j = id
      · rw [e1, e2]
      · subst e1
        rw [key j e2] at hj
        have h1 := hat b hi
        have h2 := (h.at_spec hj).2.1
        omega
    · by_cases e2 : j = id
      · subst e2
        rw [key i e1] at hi
        have h1 := hat b hj
        have h2 := (h.at_spec hi).2.1
        omega
      · rw [key i e1] at hi
        rw [key j e2] at hj
        exact h.inj i j b hi hj
  · intro g cs hg
    obtain ⟨us, h1, h2, h3, ty, fz, h4, h5⟩ := h.glob g cs hg
    exact ⟨us, h1.mono hE, h2, fun j u hu => ⟨((hE.I _ (h3 j u hu).2).2).trans (h3 j u hu).1, (hE.I _ (h3 j u hu).2).1⟩, ty, fz, h4, (hE.below.block g h4).trans h5⟩
end Go.AL
