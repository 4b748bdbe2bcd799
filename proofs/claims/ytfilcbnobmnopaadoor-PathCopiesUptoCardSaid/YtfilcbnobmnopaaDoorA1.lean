/- Abstract values, and what it means that a concrete value, in a world, reads as one. -/
import Derived.Orders
import Derived.Scope
import Derived.Below
import Derived.Laws.AppendOwn
import Derived.Laws.Cells
import Derived.Laws.CopyRow
import Derived.Laws.Rows
import Derived.Laws.Entries
namespace Go.AL
open Go Go.RowKit

inductive AV where
  | imm (v : Value)
  | junk
  | agg (cs : List AV)
  | tup (vs : List AV)
  | sl (size : Nat) (xs : List AV) (tok : Option Nat)
  | ptr (id off : Nat)
  | rptr (cs : List AV) (off : Nat)
  | fn (f : Fn) (first cap : List AV)
  | mp (id : Nat)
  | it (id : Nat)
  deriving Inhabited

def AV.cells : AV → List AV
  | .agg cs => cs
  | v => [v]

/-- A value that a variable may hold: neither a tuple nor unknown. -/
def AV.isVal : AV → Bool
  | .junk | .tup _ => false
  | _ => true

/-- I: the cells that are never written any more. bx: the blocks of boxes and objects. tk: of a token how long its row is, and where it lies (block, capacity). -/
structure Env where
  I : Addr → Prop
  bx : Nat → Option Nat
  tk : Nat → Option (Nat × Option (Nat × Nat))

def TokOk (E : Env) (n : Nat) (A : Option Addr) (cap : Nat) : Option Nat → Prop
  | none => True
  | some k => ∃ m b, E.tk k = some (m, b) ∧ n ≤ m ∧ (n = m → match b with
      | none => A = none ∧ cap = 0
      | some (g, c) => A = some ⟨g, 0, none⟩ ∧ cap = c)

mutual
inductive Rep (E : Env) (w : World) : AV → Value → Prop
  | imm (v : Value) : v.oneCell' = true → Rep E w (.imm v) v
  | junk (v : Value) : Rep E w .junk v
  | agg (cs : List AV) (us : List Value) : Reps E w cs us → (∀ u ∈ us, u.oneCell' = true) → Rep E w (.agg cs) (.agg us.toArray)
  | tup (cs : List AV) (us : List Value) : Reps E w cs us → Rep E w (.tup cs) (.tuple us.toArray)
  | sl (size : Nat) (xs : List AV) (tok : Option Nat) (A : Option Addr) (cap : Nat) (us : List Value) :
      xs.length ≤ cap → cap ≤ maxLen → (∀ x ∈ xs, x.cells.length = size) → Reps E w (xs.flatMap AV.cells) us → (∀ u ∈ us, u.oneCell' = true) →
      (∀ j u, us[j]? = some u → ∃ ad, A = some ad ∧ w.cell? (ad.add j) = some u ∧ E.I (ad.add j)) → TokOk E xs.length A cap tok →
      Rep E w (.sl size xs tok) (.slice A xs.length cap)
  | ptr (id off b : Nat) : E.bx id = some b → Rep E w (.ptr id off) (.pointer (some ⟨b, off, none⟩))
  | rptr (cs : List AV) (off : Nat) (ad : Addr) (us : List Value) : Reps E w cs us → (∀ u ∈ us, u.oneCell' = true) →
      (∀ j u, us[j]? = some u → w.cell? (ad.add j) = some u ∧ E.I (ad.add j)) → Rep E w (.rptr cs off) (.pointer (some (ad.add off)))
  | fn (f : Fn) (first cap : List AV) (us vs : List Value) : Reps E w first us → Reps E w cap vs → Rep E w (.fn f first cap) (.func f us.toArray vs.toArray)
  | mp (id b : Nat) : E.bx id = some b → Rep E w (.mp id) (.map (some b))
  | it (id b : Nat) : E.bx id = some b → Rep E w (.it id) (.pointer (some ⟨b, 0, none⟩))
inductive Reps (E : Env) (w : World) : List AV → List Value → Prop
  | nil : Reps E w [] []
  | cons (a : AV) (v : Value) (as : List AV) (vs : List Value) : Rep E w a v → Reps E w as vs → Reps E w (a :: as) (v :: vs)
end

/-- What a step may do: nothing below lo turns, what was for good stays, boxes stay where they are, tokens only grow. -/
structure Evo (lo : Nat) (E : Env) (w : World) (E' : Env) (w' : World) : Prop where
  below : Below lo w w'
  I : ∀ a, E.I a → E'.I a ∧ w'.cell? a = w.cell? a
  bx : ∀ id b, E.bx id = some b → E'.bx id = some b
  tk : ∀ id n b, E.tk id = some (n, b) → ∃ n' b', E'.tk id = some (n', b') ∧ n ≤ n' ∧ (n' = n → b' = b)
  newI : ∀ a, E'.I a → E.I a ∨ lo ≤ a.block

theorem Evo.refl (lo : Nat) (E : Env) (w : World) : Evo lo E w E w :=
  ⟨Below.refl _ _, fun _ h => ⟨h, rfl⟩, fun _ _ h => h, fun _ n b h => ⟨n, b, h, Nat.le_refl _, fun _ => rfl⟩, fun _ h => .inl h⟩

theorem Evo.trans {lo : Nat} {E E1 E2 : Env} {w w1 w2 : World} (h : Evo lo E w E1 w1) (k : Evo lo E1 w1 E2 w2) : Evo lo E w E2 w2 :=
  ⟨h.below.trans k.below, fun a ha => ⟨(k.I a (h.I a ha).1).1, (k.I a (h.I a ha).1).2.trans (h.I a ha).2⟩, fun id b hb => k.bx id b (h.bx id b hb),
    fun id n b hb => by
      obtain ⟨n1, b1, h1, h2, h3⟩ := h.tk id n b hb
      obtain ⟨n2, b2, k1, k2, k3⟩ := k.tk id n1 b1 h1
      refine ⟨n2, b2, k1, Nat.le_trans h2 k2, fun e => ?_⟩
      have e1 : n1 = n := by omega
      have e2 : n2 = n1 := by omega
      rw [k3 e2, h3 e1],
    fun a ha => (k.newI a ha).elim (h.newI a) .inr⟩

theorem TokOk.mono {lo : Nat} {E E' : Env} {w w' : World} (hE : Evo lo E w E' w') {n cap : Nat} {A : Option Addr} {tok : Option Nat} (h : TokOk E n A cap tok) : TokOk E' n A cap tok := by
  cases tok with
  | none => trivial
  | some k =>
    obtain ⟨m, b, h1, h2, h3⟩ := h
    obtain ⟨m', b', k1, k2, k3⟩ := hE.tk k m b h1
    refine ⟨m', b', k1, Nat.le_trans h2 k2, fun e => ?_⟩
    have e1 : m' = m := by omega
    rw [k3 e1]
    exact h3 (by omega)

mutual
theorem Rep.mono {lo : Nat} {E E' : Env} {w w' : World} (hE : Evo lo E w E' w') : ∀ {a : AV} {v : Value}, Rep E w a v → Rep E' w' a v
  | _, _, .imm v h => .imm v h
  | _, _, .junk v => .junk v
  | _, _, .agg cs us h h1 => .agg cs us (Reps.mono hE h) h1
  | _, _, .tup cs us h => .tup cs us (Reps.mono hE h)
  | _, _, .sl size xs tok A cap us h1 h2 h3 h4 h5 h6 h7 =>
    .sl size xs tok A cap us h1 h2 h3 (Reps.mono hE h4) h5 (fun j u hu => by
      obtain ⟨ad, e1, e2, e3⟩ := h6 j u hu
      exact ⟨ad, e1, (hE.I _ e3).2.trans e2, (hE.I _ e3).1⟩) (h7.mono hE)
  | _, _, .ptr id off b h => .ptr id off b (hE.bx _ _ h)
  | _, _, .rptr cs off ad us h h1 h2 => .rptr cs off ad us (Reps.mono hE h) h1 (fun j u hu => ⟨(hE.I _ (h2 j u hu).2).2.trans (h2 j u hu).1, (hE.I _ (h2 j u hu).2).1⟩)
  | _, _, .fn f first cap us vs h h1 => .fn f first cap us vs (Reps.mono hE h) (Reps.mono hE h1)
  | _, _, .mp id b h => .mp id b (hE.bx _ _ h)
  | _, _, .it id b h => .it id b (hE.bx _ _ h)
theorem Reps.mono {lo : Nat} {E E' : Env} {w w' : World} (hE : Evo lo E w E' w') : ∀ {as : List AV} {vs : List Value}, Reps E w as vs → Reps E' w' as vs
  | _, _, .nil => .nil
  | _, _, .cons a v as vs h h1 => .cons a v as vs (Rep.mono hE h) (Reps.mono hE h1)
end

theorem Reps.length {E : Env} {w : World} : ∀ {as : List AV} {vs : List Value}, Reps E w as vs → vs.length = as.length
  | _, _, .nil => rfl
  | _, _, .cons _ _ _ _ _ h => by simp [Reps.length h]

theorem Reps.get {E : Env} {w : World} : ∀ {as : List AV} {vs : List Value}, Reps E w as vs → ∀ (i : Nat) (a : AV), as[i]? = some a → ∃ v, vs[i]? = some v ∧ Rep E w a v
  | _, _, .nil, i, a, h => by simp at h
  | _, _, .cons a v as vs h h1, i, x, hx => by
    cases i with
    | zero => simp at hx; subst hx; exact ⟨v, by simp, h⟩
    | succ i => simp at hx; obtain ⟨u, e, r⟩ := Reps.get h1 i x hx; exact ⟨u, by simpa using e, r⟩

theorem Reps.append {E : Env} {w : World} : ∀ {as bs : List AV} {us vs : List Value}, Reps E w as us → Reps E w bs vs → Reps E w (as ++ bs) (us ++ vs)
  | _, _, _, _, .nil, k => k
  | _, _, _, _, .cons a v as vs h h1, k => .cons a v _ _ h (Reps.append h1 k)

theorem Reps.drop {E : Env} {w : World} : ∀ {as : List AV} {us : List Value} (_n : Nat), Reps E w as us → Reps E w (as.drop _n) (us.drop _n)
  | _, _, 0, h => h
  | _, _, n + 1, .nil => by simp; exact .nil
  | _, _, n + 1, .cons _ _ _ _ _ h => by simpa using Reps.drop n h

theorem Reps.take {E : Env} {w : World} : ∀ {as : List AV} {us : List Value} (n : Nat), Reps E w as us → Reps E w (as.take n) (us.take n)
  | _, _, 0, h => by simp; exact .nil
  | _, _, n + 1, .nil => by simp; exact .nil
  | _, _, n + 1, .cons a v _ _ h h1 => by simp only [List.take_succ_cons]; exact .cons a v _ _ h (Reps.take n h1)

theorem Reps.set {E : Env} {w : World} {a : AV} {v : Value} (ha : Rep E w a v) : ∀ {as : List AV} {us : List Value} (n : Nat), Reps E w as us → Reps E w (as.set n a) (us.set n v)
  | _, _, 0, .nil => .nil
  | _, _, _ + 1, .nil => .nil
  | _, _, 0, .cons _ _ _ _ _ h1 => .cons a v _ _ ha h1
  | _, _, n + 1, .cons b u _ _ h h1 => .cons b u _ _ h (Reps.set ha n h1)

/-- A value that is one, concretely: its cells. -/
theorem Rep.cells {E : Env} {w : World} {a : AV} {v : Value} (h : Rep E w a v) (hv : a.isVal = true) : Reps E w a.cells v.cells.toList ∧ ∀ u ∈ v.cells.toList, u.oneCell' = true := by
  cases h with
  | imm v h => cases v <;> simp_all [AV.cells, Value.cells, Value.oneCell'] <;> exact .cons _ _ _ _ (.imm _ rfl) .nil
  | junk => simp [AV.isVal] at hv
  | agg cs us h h1 => exact ⟨by simpa [AV.cells, Value.cells] using h, by simpa [Value.cells] using h1⟩
  | tup => simp [AV.isVal] at hv
  | sl size xs tok A cap us h1 h2 h3 h4 h5 h6 h7 => exact ⟨.cons _ _ _ _ (.sl size xs tok A cap us h1 h2 h3 h4 h5 h6 h7) .nil, by simp [Value.cells, Value.oneCell']⟩
  | ptr id off b h => exact ⟨.cons _ _ _ _ (.ptr id off b h) .nil, by simp [Value.cells, Value.oneCell']⟩
  | rptr cs off ad us h1 h2 h3 => exact ⟨.cons _ _ _ _ (.rptr cs off ad us h1 h2 h3) .nil, by simp [Value.cells, Value.oneCell']⟩
  | fn f first cap us vs h1 h2 => exact ⟨.cons _ _ _ _ (.fn f first cap us vs h1 h2) .nil, by simp [Value.cells, Value.oneCell']⟩
  | mp id b h => exact ⟨.cons _ _ _ _ (.mp id b h) .nil, by simp [Value.cells, Value.oneCell']⟩
  | it id b h => exact ⟨.cons _ _ _ _ (.it id b h) .nil, by simp [Value.cells, Value.oneCell']⟩

end Go.AL
