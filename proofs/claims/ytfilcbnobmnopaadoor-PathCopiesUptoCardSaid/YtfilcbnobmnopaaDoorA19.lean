/- The same weakest precondition in a form that simp can go through: specifications in place of contracts, comparisons that split. -/
import Derived.Test.YtfilcbnobmnopaaDoorA18
set_option linter.unusedSimpArgs false
set_option linter.unusedVariables false
namespace Go.AL
open Go Go.RowKit

/-- A text of these bytes. -/
def B (l : List UInt8) : ByteArray := ⟨l.toArray⟩
abbrev T (l : List UInt8) : AV := .imm (.string (B l))
abbrev i64 (n : Int) : AV := .imm (.int .i64 n)
/-- Byte i. -/
def at' (l : List UInt8) (i : Int) : Int := ((l.getD i.toNat 0).toNat : Int)

theorem B_size (l : List UInt8) : (B l).size = l.length := rfl
theorem B_data (l : List UInt8) : (B l).data.toList = l := rfl
theorem B_of (s : ByteArray) : B s.data.toList = s := rfl
theorem B_inj {l m : List UInt8} : B l = B m ↔ l = m := ⟨fun h => by rw [← B_data l, h, B_data], fun h => h ▸ rfl⟩
theorem B_app (l m : List UInt8) : B l ++ B m = B (l ++ m) := by
  apply ByteArray.ext
  simp [B, ByteArray.data_append]
theorem bt_B (l : List UInt8) (i : Int) : bt (B l) i = at' l i := rfl

/-- Two ways on, by what holds. -/
def SplitP (p X Y : Prop) : Prop := (p → X) ∧ (¬ p → Y)
theorem SplitP_eq {p X Y : Prop} : SplitP p X Y = ((p → X) ∧ (¬ p → Y)) := rfl
theorem SplitP_lt {a b : Int} {X Y : Prop} : SplitP (a < b) X Y = ((a < b → X) ∧ (¬ a < b → Y)) := rfl
theorem SplitP_le {a b : Int} {X Y : Prop} : SplitP (a ≤ b) X Y = ((a ≤ b → X) ∧ (¬ a ≤ b → Y)) := rfl
theorem SplitP_ltN {a b : Nat} {X Y : Prop} : SplitP (a < b) X Y = ((a < b → X) ∧ (¬ a < b → Y)) := rfl
theorem SplitP_leN {a b : Nat} {X Y : Prop} : SplitP (a ≤ b) X Y = ((a ≤ b → X) ∧ (¬ a ≤ b → Y)) := rfl
theorem SplitP_same {α : Type} {a b : α} {X Y : Prop} : SplitP (a = b) X Y = ((a = b → X) ∧ (¬ a = b → Y)) := rfl
theorem SplitP_and {p q X Y : Prop} : SplitP (p ∧ q) X Y = ((p ∧ q → X) ∧ (¬ (p ∧ q) → Y)) := rfl
theorem SplitP_or {p q X Y : Prop} : SplitP (p ∨ q) X Y = ((p ∨ q → X) ∧ (¬ (p ∨ q) → Y)) := rfl
theorem SplitP_not {p X Y : Prop} : SplitP (¬ p) X Y = ((¬ p → X) ∧ (¬ ¬ p → Y)) := rfl
theorem SplitP_true {X Y : Prop} : SplitP True X Y = X := by simp [SplitP]
theorem SplitP_false {X Y : Prop} : SplitP False X Y = Y := by simp [SplitP]
theorem SplitP_congr {p p' X Y : Prop} (h : p = p') : SplitP p X Y = SplitP p' X Y := by rw [h]
attribute [congr] SplitP_congr

structure Spec where
  pure : FuncId → List AV → (AV → Prop) → Prop
  turn : FuncId → List AV → List AObj → (AV → List AObj → Prop) → Prop
  turns : FuncId → Bool

/-- The specifications of the functions that are called. -/
structure Spec.Holds (S : Spec) (P : Program) (G : Nat → Option (List AV)) : Prop where
  pure : ∀ f args K, S.pure f args K → ∃ r, Pure P G f args r ∧ K r
  turn : ∀ f args H K, S.turn f args H K → ∃ r H', Ok P G f args H r H' ∧ K r H'

def In64 (n : Int) : Prop := -9223372036854775808 ≤ n ∧ n ≤ 9223372036854775807
theorem In64.wrap {n : Int} (h : In64 n) : IntKind.i64.wrap n = n := by
  obtain ⟨h1, h2⟩ := h
  simp only [IntKind.wrap, IntKind.bits, IntKind.signed]
  simp
  omega

def binB (op : BinOp) (t : TypeId) (x y : AV) (K : AV → Prop) : Prop :=
  match op, x, y with
  | .add, .imm (.int .i64 a), .imm (.int .i64 b) => In64 (a + b) ∧ K (i64 (a + b))
  | .sub, .imm (.int .i64 a), .imm (.int .i64 b) => In64 (a - b) ∧ K (i64 (a - b))
  | .mul, .imm (.int .i64 a), .imm (.int .i64 b) => In64 (a * b) ∧ K (i64 (a * b))
  | .quo, .imm (.int .i64 a), .imm (.int .i64 b) => b ≠ 0 ∧ In64 (a.tdiv b) ∧ K (i64 (a.tdiv b))
  | op, x, y => binsem op t x y K

def qB (o : QOp) (args : List AV) (K : AV → Prop) : Prop :=
  match o, args with
  | .bin op t, [x, y] => binB op t x y K
  | o, args => qsem o args K

section
variable {op : BinOp} {t : TypeId} {x y : AV} {K : AV → Prop}

theorem binB_to (h : binB op t x y K) : binsem op t x y K := by
  unfold binB at h
  split at h
  · exact ⟨rfl, by show K _; rw [h.1.wrap]; exact h.2⟩
  · exact ⟨rfl, by show K _; rw [h.1.wrap]; exact h.2⟩
  · exact ⟨rfl, by show K _; rw [h.1.wrap]; exact h.2⟩
  · exact ⟨rfl, h.1, by rw [h.2.1.wrap]; exact h.2.2⟩
  · exact h

theorem qB_to {o : QOp} {args : List AV} (h : qB o args K) : qsem o args K := by
  unfold qB at h
  split at h
  · exact binB_to h
  · exact h

theorem split_bool {p : Prop} [Decidable p] {K : Bool → Prop} : K (decide p) = ((p → K true) ∧ (¬ p → K false)) := by
  by_cases h : p <;> simp [h]
theorem split_beq {α : Type} [BEq α] [LawfulBEq α] {a b : α} {K : Bool → Prop} : K (a == b) = ((a = b → K true) ∧ (¬ a = b → K false)) := by
  by_cases h : a = b
  · simp [h]
  · simp [h, beq_eq_false_iff_ne.mpr h]
theorem split_bne {α : Type} [BEq α] [LawfulBEq α] {a b : α} {K : Bool → Prop} : K (a != b) = ((a = b → K false) ∧ (¬ a = b → K true)) := by
  by_cases h : a = b
  · simp [h]
  · simp [h, bne, beq_eq_false_iff_ne.mpr h]

variable {k : IntKind} {a b : Int} {l m : List UInt8}
theorem binB_lss0 : binB .lss t (.imm (.int k a)) (.imm (.int k b)) K = ((a < b → K (bool true)) ∧ (¬ a < b → K (bool false))) := by
  rw [← split_bool (K := fun b => K (bool b))]; simp [binB, binsem, binInt]
theorem binB_leq0 : binB .leq t (.imm (.int k a)) (.imm (.int k b)) K = ((a ≤ b → K (bool true)) ∧ (¬ a ≤ b → K (bool false))) := by
  rw [← split_bool (K := fun b => K (bool b))]; simp [binB, binsem, binInt]
theorem binB_gtr0 : binB .gtr t (.imm (.int k a)) (.imm (.int k b)) K = ((b < a → K (bool true)) ∧ (¬ b < a → K (bool false))) := by
  rw [← split_bool (K := fun b => K (bool b))]; simp [binB, binsem, binInt]
theorem binB_geq0 : binB .geq t (.imm (.int k a)) (.imm (.int k b)) K = ((b ≤ a → K (bool true)) ∧ (¬ b ≤ a → K (bool false))) := by
  rw [← split_bool (K := fun b => K (bool b))]; simp [binB, binsem, binInt]
theorem binB_eql0 : binB .eql t (.imm (.int k a)) (.imm (.int k b)) K = ((a = b → K (bool true)) ∧ (¬ a = b → K (bool false))) := by
  rw [← split_beq (K := fun b => K (bool b))]; simp [binB, binsem, binInt]
theorem binB_neq0 : binB .neq t (.imm (.int k a)) (.imm (.int k b)) K = ((a = b → K (bool false)) ∧ (¬ a = b → K (bool true))) := by
  rw [← split_bne (K := fun b => K (bool b))]; simp [binB, binsem, binInt]
theorem binB_add : binB .add t (.imm (.int .i64 a)) (.imm (.int .i64 b)) K = (In64 (a + b) ∧ K (i64 (a + b))) := rfl
theorem binB_sub : binB .sub t (.imm (.int .i64 a)) (.imm (.int .i64 b)) K = (In64 (a - b) ∧ K (i64 (a - b))) := rfl
theorem binB_mul : binB .mul t (.imm (.int .i64 a)) (.imm (.int .i64 b)) K = (In64 (a * b) ∧ K (i64 (a * b))) := rfl
theorem binB_quo : binB .quo t (.imm (.int .i64 a)) (.imm (.int .i64 b)) K = (b ≠ 0 ∧ In64 (a.tdiv b) ∧ K (i64 (a.tdiv b))) := rfl
theorem binB_rem : binB .rem t (.imm (.int k a)) (.imm (.int k b)) K = (b ≠ 0 ∧ K (.imm (.int k (a.tmod b)))) := by simp [binB, binsem, binInt]
theorem binB_quok (h : k ≠ .i64) : binB .quo t (.imm (.int k a)) (.imm (.int k b)) K = (b ≠ 0 ∧ K (.imm (.int k (k.wrap (a.tdiv b))))) := by cases k <;> first | exact absurd rfl h | simp [binB, binsem, binInt]
theorem binB_addk (h : k ≠ .i64) : binB .add t (.imm (.int k a)) (.imm (.int k b)) K = K (.imm (.int k (k.wrap (a + b)))) := by cases k <;> first | exact absurd rfl h | simp [binB, binsem, binInt]
theorem binB_subk (h : k ≠ .i64) : binB .sub t (.imm (.int k a)) (.imm (.int k b)) K = K (.imm (.int k (k.wrap (a - b)))) := by cases k <;> first | exact absurd rfl h | simp [binB, binsem, binInt]
theorem binB_mulk (h : k ≠ .i64) : binB .mul t (.imm (.int k a)) (.imm (.int k b)) K = K (.imm (.int k (k.wrap (a * b)))) := by cases k <;> first | exact absurd rfl h | simp [binB, binsem, binInt]
theorem binB_and : binB .and t (.imm (.int k a)) (.imm (.int k b)) K = K (.imm (.int k (bits .and k a b))) := by simp [binB, binsem, binInt]
theorem binB_or : binB .or t (.imm (.int k a)) (.imm (.int k b)) K = K (.imm (.int k (bits .or k a b))) := by simp [binB, binsem, binInt]
theorem binB_xor : binB .xor t (.imm (.int k a)) (.imm (.int k b)) K = K (.imm (.int k (bits .xor k a b))) := by simp [binB, binsem, binInt]
theorem binB_andNot : binB .andNot t (.imm (.int k a)) (.imm (.int k b)) K = K (.imm (.int k (bits .andNot k a b))) := by simp [binB, binsem, binInt]
theorem binB_shl {k'} : binB .shl t (.imm (.int k a)) (.imm (.int k' b)) K = (0 ≤ b ∧ K (.imm (.int k (k.wrap (a * 2 ^ (min b.toNat k.bits)))))) := by simp [binB, binsem, binSh]
theorem binB_shr {k'} : binB .shr t (.imm (.int k a)) (.imm (.int k' b)) K = (0 ≤ b ∧ K (.imm (.int k (a.fdiv (2 ^ (min b.toNat k.bits)))))) := by simp [binB, binsem, binSh]
theorem binB_sadd : binB .add t (T l) (T m) K = (((l.length + m.length : Nat) : Int) ≤ 9223372036854775807 ∧ K (T (l ++ m))) := by
  simp [binB, binsem, binStr, B_size, B_app]
theorem toList_B (l : List UInt8) : (B l).toList = l := by
  rw [ByteArray.toList_eq]; rfl
theorem binB_seql0 : binB .eql t (T l) (T m) K = ((l = m → K (bool true)) ∧ (¬ l = m → K (bool false))) := by
  rw [← split_beq (K := fun b => K (bool b))]; simp [binB, binsem, binStr, toList_B]
theorem binB_sneq0 : binB .neq t (T l) (T m) K = ((l = m → K (bool false)) ∧ (¬ l = m → K (bool true))) := by
  rw [← split_bne (K := fun b => K (bool b))]; simp [binB, binsem, binStr, toList_B, bne]
theorem binB_lss : binB .lss t (.imm (.int k a)) (.imm (.int k b)) K = SplitP (a < b) (K (bool true)) (K (bool false)) := binB_lss0
theorem binB_leq : binB .leq t (.imm (.int k a)) (.imm (.int k b)) K = SplitP (a ≤ b) (K (bool true)) (K (bool false)) := binB_leq0
theorem binB_gtr : binB .gtr t (.imm (.int k a)) (.imm (.int k b)) K = SplitP (b < a) (K (bool true)) (K (bool false)) := binB_gtr0
theorem binB_geq : binB .geq t (.imm (.int k a)) (.imm (.int k b)) K = SplitP (b ≤ a) (K (bool true)) (K (bool false)) := binB_geq0
theorem binB_eql : binB .eql t (.imm (.int k a)) (.imm (.int k b)) K = SplitP (a = b) (K (bool true)) (K (bool false)) := binB_eql0
theorem binB_neq : binB .neq t (.imm (.int k a)) (.imm (.int k b)) K = SplitP (a = b) (K (bool false)) (K (bool true)) := binB_neq0
theorem binB_seql : binB .eql t (T l) (T m) K = SplitP (l = m) (K (bool true)) (K (bool false)) := binB_seql0
theorem binB_sneq : binB .neq t (T l) (T m) K = SplitP (l = m) (K (bool false)) (K (bool true)) := binB_sneq0
end
end Go.AL
