/- Path: the functions that go through a text. -/
import Derived.Test.YtfilcbnobmnopaaDoorP1
set_option linter.unusedSimpArgs false
set_option linter.unusedVariables false
set_option maxRecDepth 100000
namespace Go.AL.Path
open Go Go.RowKit Go.Proofs Go.AL

/-- What a text lies below, the first i bytes being looked at. -/
def parentsTo (s : List UInt8) : Nat → List (List UInt8)
  | 0 => []
  | i + 1 => if s[i]? = some 47 then parentsTo s i ++ [s.take i] else parentsTo s i
def parents (s : List UInt8) : List (List UInt8) := parentsTo s s.length
def sts (l : List (List UInt8)) : AV := .sl 1 (l.map T) none

theorem parentsTo_length (s : List UInt8) : ∀ i, (parentsTo s i).length ≤ i
  | 0 => Nat.le_refl _
  | i + 1 => by
    have := parentsTo_length s i
    unfold parentsTo
    split
    · simp; omega
    · omega

def c16 : ACode := (.seq (.reg false 1 [⟨(.some 2), none, (.m (.nilT 9 1) 0), []⟩]) (.seq (.reg false 1 [⟨(.some 3), none, (.m (.nilT 9 1) 0), []⟩]) (.seq (.seq (.reg false 0 [⟨(.some 5), none, (.q .mv), [(.t 0)]⟩, ⟨(.some 6), none, (.q .lenS), [(.t 5)]⟩, ⟨(.some 7), none, (.q .mv), [(.c (.imm (.int .i64 0)))]⟩]) (.block 0 (.loop (.seq (.reg false 0 [⟨(.some 8), none, (.q (.bin .lss 3)), [(.t 7), (.t 6)]⟩]) (.seq (.cond (.t 8) .skip (.exit 0)) (.seq (.block 1 (.seq (.reg false 0 [⟨(.some 9), none, (.q .mv), [(.t 7)]⟩, ⟨(.some 4), none, (.q .mv), [(.t 9)]⟩]) (.seq (.reg true 0 [⟨(.some 10), none, (.q .mv), [(.t 0)]⟩, ⟨(.some 11), none, (.q .mv), [(.t 4)]⟩, ⟨(.some 12), none, (.q .idxS), [(.t 10), (.t 11)]⟩, ⟨(.some 13), none, (.q .idxS), [(.c (.imm (.string (B [47])))), (.c (.imm (.int .i64 0)))]⟩, ⟨(.some 14), none, (.q (.bin .eql 5)), [(.t 12), (.t 13)]⟩]) (.cond (.t 14) (.reg false 1 [⟨(.some 15), none, (.q .mv), [(.t 3)]⟩, ⟨(.some 16), none, (.q .mv), [(.t 0)]⟩, ⟨(.some 17), none, (.q .mv), [(.t 4)]⟩, ⟨(.some 18), none, (.q (.sliceS false true)), [(.t 16), (.t 17)]⟩, ⟨(.some 19), none, (.m (.bsliceO 9 1) 0), [(.t 18)]⟩, ⟨(.some 20), none, (.e (.append 9 1 16)), [(.t 15), (.t 19)]⟩, ⟨(.some 3), none, (.q .mv), [(.t 20)]⟩]) .skip)))) (.reg false 0 [⟨(.some 21), none, (.q (.bin .add 3)), [(.t 7), (.c (.imm (.int .i64 1)))]⟩, ⟨(.some 7), none, (.q .mv), [(.t 21)]⟩]))))))) (.seq (.reg false 0 [⟨(.some 22), none, (.q .mv), [(.t 3)]⟩, ⟨(.some 2), none, (.q .mv), [(.t 22)]⟩]) .ret))))
theorem fn16 : IsFn Tryd.prog 16 (List.range 200) c16 [2] 23 := ⟨_, _, Tryd.func16, rfl, by decide +kernel, by kernel_rfl, rfl, rfl⟩
theorem p16 (s : List UInt8) (hs : s.length ≤ 1099511627776) : Pure Tryd.prog G 16 [T s] (sts (parents s)) := by
  refine pure_of_code' (S := sp [] []) hm hG (sp_holds .nil .nil) fn16 ([T s, .junk, .junk, .junk, .junk, .junk, .junk, .junk, .junk, .junk, .junk, .junk, .junk, .junk, .junk, .junk, .junk, .junk, .junk, .junk, .junk, .junk, .junk]) rfl (by simp [lows, AV.low]) (by simp [AV.low, sts, lows_map]) ?_
  simp (maxSteps := 2000000) -implicitDefEqProofs only [c16, ↓RP0, ↓RP1, ↓RP2, ↓RP3, RV, List.map_cons, List.map_nil, List.cons_append, List.nil_append, List.append_nil, List.length_cons, List.length_nil, List.getElem?_cons_zero, List.getElem?_cons_succ, List.set_cons_zero, List.set_cons_succ, true_imp_iff, false_imp_iff, not_true_eq_false, not_false_eq_true, and_true, true_and, and_false, false_and, implies_true, ↓reduceIte, Bool.false_eq_true, Bool.true_eq_false, Bool.not_eq_true, Bool.not_true, Bool.not_false, beq_self_eq_true, Bool.true_beq, Bool.false_beq, List.take_zero, List.drop_zero, List.take_succ_cons, List.drop_succ_cons, List.take_nil, List.drop_nil, List.replicate_zero, List.replicate_succ, Nat.reduceAdd, Nat.reduceSub, Nat.reduceMul, Nat.reduceLeDiff, Nat.reduceEqDiff, Nat.zero_add, Nat.add_zero, Int.reduceLT, Int.reduceLE, Int.reduceEq, Int.reduceNe, Int.reduceAdd, Int.reduceSub, Int.reduceMul, Int.reduceNeg, Int.reduceToNat, Int.toNat_natCast, Int.natCast_nonneg, Int.natCast_zero, Nat.lt_irrefl, Option.some.injEq, reduceCtorEq, Option.map_some, ne_eq]
  refine loopB (st := fun i => [T s, .junk, .sl 1 [] (some 0), .sl 1 ((parentsTo s i).map T) (some 1), .junk, T s, i64 s.length, i64 i, .junk, .junk, .junk, .junk, .junk, .junk, .junk, .junk, .junk, .junk, .junk, .junk, .junk, .junk, .junk])
    (hp := fun i => [.tok 9 1 0, .tok 9 1 (parentsTo s i).length]) (I := fun i => i ≤ s.length) (m := fun i => s.length - i) (0 : Nat) (Nat.zero_le _) ?_ ?_
  · refine weak_same (Nat.zero_le _) ?_ ?_ <;> simp [parentsTo, WeakL, AV.low, lows, AObj.low]
  · intro i hi
    simp (maxSteps := 2000000) -implicitDefEqProofs only [↓RP0, ↓RP1, ↓RP2, ↓RP3, RV, List.map_cons, List.map_nil, List.cons_append, List.nil_append, List.append_nil, List.length_cons, List.length_nil, List.getElem?_cons_zero, List.getElem?_cons_succ, List.set_cons_zero, List.set_cons_succ, true_imp_iff, false_imp_iff, not_true_eq_false, not_false_eq_true, and_true, true_and, and_false, false_and, implies_true, ↓reduceIte, Bool.false_eq_true, Bool.true_eq_false, Bool.not_eq_true, Bool.not_true, Bool.not_false, beq_self_eq_true, Bool.true_beq, Bool.false_beq, List.take_zero, List.drop_zero, List.take_succ_cons, List.drop_succ_cons, List.take_nil, List.drop_nil, List.replicate_zero, List.replicate_succ, Nat.reduceAdd, Nat.reduceSub, Nat.reduceMul, Nat.reduceLeDiff, Nat.reduceEqDiff, Nat.zero_add, Nat.add_zero, Int.reduceLT, Int.reduceLE, Int.reduceEq, Int.reduceNe, Int.reduceAdd, Int.reduceSub, Int.reduceMul, Int.reduceNeg, Int.reduceToNat, Int.toNat_natCast, Int.natCast_nonneg, Int.natCast_zero, Nat.lt_irrefl, Option.some.injEq, reduceCtorEq, Option.map_some, ne_eq]
    refine ⟨fun h => ⟨h, by decide, fun h1 => ?_, fun h1 => ?_⟩, fun h => ?_⟩
    · have h2 : s[i]? = some 47 := (at'_eq (by omega) 47).1 h1
      have h3 : (parentsTo s i).length ≤ i := parentsTo_length s i
      refine ⟨by omega, by decide, by simp [AV.isVal, AV.cells], by decide, by simp, .inl trivial, .inl trivial, by simp; omega, by simp; omega, ⟨by omega, by omega⟩, i + 1, by dsimp only; omega, by omega, ?_⟩
      exact weak_cut 2 (by omega) (by simp [parentsTo, h2]) (by simp [AObj.low]) (by simp [WeakL, AV.low, lows, parentsTo, h2])
    · have h2 : ¬ s[i]? = some 47 := fun e => h1 (((at'_eq (by omega) 47).2 e).trans rfl)
      refine ⟨⟨by omega, by omega⟩, i + 1, by dsimp only; omega, by omega, ?_⟩
      exact weak_cut 2 (by omega) (by simp [parentsTo, h2]) (by simp [AObj.low]) (by simp [WeakL, AV.low, lows, parentsTo, h2])
    · obtain rfl : i = s.length := by omega
      rfl
end Go.AL.Path
