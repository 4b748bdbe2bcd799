/- Path: the document's parts. -/
import Derived.Test.YtfilcbnobmnopaaDoorP2
set_option linter.unusedSimpArgs false
set_option linter.unusedVariables false
set_option maxRecDepth 100000
namespace Go.AL.Path
open Go Go.RowKit Go.Proofs Go.AL

def c17 : ACode := (.seq (.reg false 1 [⟨(.some 2), none, (.m (.nilT 9 1) 0), []⟩]) (.seq (.reg false 1 [⟨(.some 3), none, (.m (.nilT 9 1) 0), []⟩]) (.seq (.seq (.reg false 0 [⟨(.some 4), none, (.q .mv), [(.c (.imm (.int .i64 0)))]⟩]) (.block 0 (.loop (.seq (.seq (.reg false 0 [⟨(.some 5), none, (.q .mv), [(.t 4)]⟩, ⟨(.some 6), none, (.q .mv), [(.t 0)]⟩, ⟨(.some 7), none, (.q .lenS), [(.t 6)]⟩, ⟨(.some 8), none, (.q (.bin .lss 3)), [(.t 5), (.t 7)]⟩]) (.cond (.t 8) .skip (.exit 0))) (.seq (.block 1 (.seq (.reg false 0 [⟨(.some 11), none, (.q .mv), [(.t 0)]⟩, ⟨(.some 12), none, (.q .mv), [(.t 4)]⟩, ⟨(.some 13), none, (.q .idxS), [(.t 11), (.t 12)]⟩, ⟨(.some 14), none, (.q (.bin .eql 5)), [(.t 13), (.c (.imm (.int .u8 47)))]⟩]) (.cond (.t 14) (.reg false 1 [⟨(.some 15), none, (.q .mv), [(.t 3)]⟩, ⟨(.some 16), none, (.q .mv), [(.t 0)]⟩, ⟨(.some 17), none, (.q .mv), [(.t 4)]⟩, ⟨(.some 18), none, (.q (.sliceS false true)), [(.t 16), (.t 17)]⟩, ⟨(.some 19), none, (.m (.bsliceO 9 1) 0), [(.t 18)]⟩, ⟨(.some 20), none, (.e (.append 9 1 16)), [(.t 15), (.t 19)]⟩, ⟨(.some 3), none, (.q .mv), [(.t 20)]⟩]) .skip))) (.reg false 0 [⟨(.some 9), none, (.q .mv), [(.t 4)]⟩, ⟨(.some 10), none, (.q (.bin .add 3)), [(.t 9), (.c (.imm (.int .i64 1)))]⟩, ⟨(.some 4), none, (.q .mv), [(.t 10)]⟩])))))) (.seq (.reg false 0 [⟨(.some 21), none, (.q .mv), [(.t 3)]⟩, ⟨(.some 2), none, (.q .mv), [(.t 21)]⟩]) .ret))))
theorem fn17 : IsFn Tryd.prog 17 (List.range 200) c17 [2] 22 := ⟨_, _, Tryd.func17, rfl, by decide +kernel, by kernel_rfl, rfl, rfl⟩
theorem p17 (s : List UInt8) (hs : s.length ≤ 1099511627776) : Pure Tryd.prog G 17 [T s] (sts (parents s)) := by
  refine pure_of_code' (S := sp [] []) hm hG (sp_holds .nil .nil) fn17 ([T s, .junk, .junk, .junk, .junk, .junk, .junk, .junk, .junk, .junk, .junk, .junk, .junk, .junk, .junk, .junk, .junk, .junk, .junk, .junk, .junk, .junk]) rfl (by simp [lows, AV.low]) (by simp [AV.low, sts]) ?_
  simp (maxSteps := 2000000) -implicitDefEqProofs only [c17, ↓RP0, ↓RP1, ↓RP2, ↓RP3, RV, List.map_cons, List.map_nil, List.cons_append, List.nil_append, List.append_nil, List.length_cons, List.length_nil, List.getElem?_cons_zero, List.getElem?_cons_succ, List.set_cons_zero, List.set_cons_succ, true_imp_iff, false_imp_iff, not_true_eq_false, not_false_eq_true, and_true, true_and, and_false, false_and, implies_true, ↓reduceIte, Bool.false_eq_true, Bool.true_eq_false, Bool.not_true, Bool.not_false, beq_self_eq_true, Bool.true_beq, Bool.false_beq, List.take_zero, List.drop_zero, List.take_succ_cons, List.drop_succ_cons, List.take_nil, List.drop_nil, List.replicate_zero, List.replicate_succ, Nat.reduceAdd, Nat.reduceSub, Nat.reduceMul, Nat.reduceLeDiff, Nat.reduceEqDiff, Nat.zero_add, Nat.add_zero, Int.reduceLT, Int.reduceLE, Int.reduceEq, Int.reduceNe, Int.reduceAdd, Int.reduceSub, Int.reduceMul, Int.reduceNeg, Int.reduceToNat, Int.toNat_natCast, Int.natCast_nonneg, Int.natCast_zero, Nat.lt_irrefl, Option.some.injEq, reduceCtorEq, Option.map_some, ne_eq]
  refine loopB (st := fun i => [T s, .junk, .sl 1 [] (some 0), .sl 1 ((parentsTo s i).map T) (some 1), i64 i, .junk, .junk, .junk, .junk, .junk, .junk, .junk, .junk, .junk, .junk, .junk, .junk, .junk, .junk, .junk, .junk, .junk])
    (hp := fun i => [.tok 9 1 0, .tok 9 1 (parentsTo s i).length]) (I := fun i => i ≤ s.length) (m := fun i => s.length - i) (0 : Nat) (Nat.zero_le _) ?_ ?_
  · refine weak_same (Nat.zero_le _) ?_ ?_ <;> simp [parentsTo, WeakL, AV.low, lows, AObj.low]
  · intro i hi
    simp (maxSteps := 2000000) -implicitDefEqProofs only [↓RP0, ↓RP1, ↓RP2, ↓RP3, RV, List.map_cons, List.map_nil, List.cons_append, List.nil_append, List.append_nil, List.length_cons, List.length_nil, List.getElem?_cons_zero, List.getElem?_cons_succ, List.set_cons_zero, List.set_cons_succ, true_imp_iff, false_imp_iff, not_true_eq_false, not_false_eq_true, and_true, true_and, and_false, false_and, implies_true, ↓reduceIte, Bool.false_eq_true, Bool.true_eq_false, Bool.not_true, Bool.not_false, beq_self_eq_true, Bool.true_beq, Bool.false_beq, List.take_zero, List.drop_zero, List.take_succ_cons, List.drop_succ_cons, List.take_nil, List.drop_nil, List.replicate_zero, List.replicate_succ, Nat.reduceAdd, Nat.reduceSub, Nat.reduceMul, Nat.reduceLeDiff, Nat.reduceEqDiff, Nat.zero_add, Nat.add_zero, Int.reduceLT, Int.reduceLE, Int.reduceEq, Int.reduceNe, Int.reduceAdd, Int.reduceSub, Int.reduceMul, Int.reduceNeg, Int.reduceToNat, Int.toNat_natCast, Int.natCast_nonneg, Int.natCast_zero, Nat.lt_irrefl, Option.some.injEq, reduceCtorEq, Option.map_some, ne_eq]
    refine ⟨fun h => ⟨h, fun h1 => ?_, fun h1 => ?_⟩, fun h => ?_⟩
    · have h2 : s[i]? = some 47 := (at'_eq (by omega) 47).1 h1
      have h3 : (parentsTo s i).length ≤ i := parentsTo_length s i
      refine ⟨by omega, by decide, by simp [AV.isVal, AV.cells], by decide, by simp, .inl trivial, .inl trivial, by simp; omega, by simp; omega, ⟨by omega, by omega⟩, i + 1, by dsimp only; omega, by omega, ?_⟩
      exact weak_cut 2 (by omega) (by simp [parentsTo, h2]) (by simp [AObj.low]) (by simp [WeakL, AV.low, lows, parentsTo, h2])
    · have h2 : ¬ s[i]? = some 47 := fun e => h1 (((at'_eq (by omega) 47).2 e).trans rfl)
      refine ⟨⟨by omega, by omega⟩, i + 1, by dsimp only; omega, by omega, ?_⟩
      exact weak_cut 2 (by omega) (by simp [parentsTo, h2]) (by simp [AObj.low]) (by simp [WeakL, AV.low, lows, parentsTo, h2])
    · obtain rfl : i = s.length := by omega
      rfl

theorem T_inj {l m : List UInt8} : T l = T m ↔ l = m := by simp [B_inj]
theorem mapT_inj : ∀ {a b : List (List UInt8)}, a.map T = b.map T ↔ a = b
  | [], [] => by simp
  | [], _ :: _ => by simp
  | _ :: _, [] => by simp
  | x :: a, y :: b => by simp only [List.map_cons, List.cons.injEq, mapT_inj, T_inj]
theorem getD_T (a : List (List UInt8)) {i : Nat} (h : i < a.length) : (a.map T).getD i .junk = T (a.getD i []) := by
  rw [List.getD_eq_getElem?_getD, List.getElem?_map, List.getD_eq_getElem?_getD, List.getElem?_eq_getElem h]; rfl

def c15 : ACode := (.seq (.reg false 0 [⟨(.some 4), none, (.q .mv), [(.c (.imm (.bool false)))]⟩]) (.seq (.seq (.reg false 0 [⟨(.some 6), none, (.q .mv), [(.t 0)]⟩, ⟨(.some 7), none, (.q .lenL), [(.t 6)]⟩, ⟨(.some 8), none, (.q .mv), [(.t 1)]⟩, ⟨(.some 9), none, (.q .lenL), [(.t 8)]⟩, ⟨(.some 10), none, (.q (.bin .neq 3)), [(.t 7), (.t 9)]⟩]) (.cond (.t 10) (.seq (.reg false 0 [⟨(.some 4), none, (.q .mv), [(.c (.imm (.bool false)))]⟩]) .ret) .skip)) (.seq (.seq (.reg false 0 [⟨(.some 5), none, (.q .mv), [(.c (.imm (.int .i64 0)))]⟩]) (.block 0 (.loop (.seq (.seq (.reg false 0 [⟨(.some 11), none, (.q .mv), [(.t 5)]⟩, ⟨(.some 12), none, (.q .mv), [(.t 0)]⟩, ⟨(.some 13), none, (.q .lenL), [(.t 12)]⟩, ⟨(.some 14), none, (.q (.bin .lss 3)), [(.t 11), (.t 13)]⟩]) (.cond (.t 14) .skip (.exit 0))) (.seq (.block 1 (.seq (.reg true 0 [⟨(.some 17), none, (.q .mv), [(.t 0)]⟩, ⟨(.some 18), none, (.q .mv), [(.t 5)]⟩, ⟨(.some 19), none, (.q (.iaddrS 1)), [(.t 17), (.t 18)]⟩, ⟨(.some 20), none, (.l .load1), [(.t 19)]⟩, ⟨(.some 21), none, (.q .mv), [(.t 1)]⟩, ⟨(.some 22), none, (.q .mv), [(.t 5)]⟩, ⟨(.some 23), none, (.q (.iaddrS 1)), [(.t 21), (.t 22)]⟩, ⟨(.some 24), none, (.l .load1), [(.t 23)]⟩, ⟨(.some 25), none, (.q (.bin .neq 9)), [(.t 20), (.t 24)]⟩]) (.cond (.t 25) (.seq (.reg false 0 [⟨(.some 4), none, (.q .mv), [(.c (.imm (.bool false)))]⟩]) .ret) .skip))) (.reg false 0 [⟨(.some 15), none, (.q .mv), [(.t 5)]⟩, ⟨(.some 16), none, (.q (.bin .add 3)), [(.t 15), (.c (.imm (.int .i64 1)))]⟩, ⟨(.some 5), none, (.q .mv), [(.t 16)]⟩])))))) (.seq (.reg false 0 [⟨(.some 4), none, (.q .mv), [(.c (.imm (.bool true)))]⟩]) .ret))))
theorem fn15 : IsFn Tryd.prog 15 [] c15 [4] 26 := ⟨_, _, Tryd.func15, rfl, by decide +kernel, by kernel_rfl, rfl, rfl⟩
theorem p15 (a b : List (List UInt8)) (ha : a.length ≤ 1099511627776) : Pure Tryd.prog G 15 [sts a, sts b] (bool (decide (a = b))) := by
  unfold sts
  refine pure_of_code' (S := sp [] []) hm hG (sp_holds .nil .nil) fn15 ([.sl 1 (a.map T) none, .sl 1 (b.map T) none, .junk, .junk, .junk, .junk, .junk, .junk, .junk, .junk, .junk, .junk, .junk, .junk, .junk, .junk, .junk, .junk, .junk, .junk, .junk, .junk, .junk, .junk, .junk, .junk]) rfl (by simp [lows, AV.low]) (by simp [AV.low]) ?_
  simp (maxSteps := 2000000) -implicitDefEqProofs only [c15, ↓RP0, ↓RP1, ↓RP2, ↓RP3, RV, List.map_cons, List.map_nil, List.cons_append, List.nil_append, List.append_nil, List.length_cons, List.length_nil, List.getElem?_cons_zero, List.getElem?_cons_succ, List.set_cons_zero, List.set_cons_succ, true_imp_iff, false_imp_iff, not_true_eq_false, not_false_eq_true, and_true, true_and, and_false, false_and, implies_true, ↓reduceIte, Bool.false_eq_true, Bool.true_eq_false, Bool.not_true, Bool.not_false, beq_self_eq_true, Bool.true_beq, Bool.false_beq, List.take_zero, List.drop_zero, List.take_succ_cons, List.drop_succ_cons, List.take_nil, List.drop_nil, List.replicate_zero, List.replicate_succ, Nat.reduceAdd, Nat.reduceSub, Nat.reduceMul, Nat.reduceLeDiff, Nat.reduceEqDiff, Nat.zero_add, Nat.add_zero, Int.reduceLT, Int.reduceLE, Int.reduceEq, Int.reduceNe, Int.reduceAdd, Int.reduceSub, Int.reduceMul, Int.reduceNeg, Int.reduceToNat, Int.toNat_natCast, Int.natCast_nonneg, Int.natCast_zero, Nat.lt_irrefl, Option.some.injEq, reduceCtorEq, Option.map_some, ne_eq, List.length_map]
  refine ⟨fun h => ?_, fun h => ?_⟩
  · refine loopB (st := fun (i : Nat) => [.sl 1 (a.map T) none, .sl 1 (b.map T) none, .junk, .junk, .junk, i64 i, .junk, .junk, .junk, .junk, .junk, .junk, .junk, .junk, .junk, .junk, .junk, .junk, .junk, .junk, .junk, .junk, .junk, .junk, .junk, .junk])
      (hp := fun _ => []) (I := fun i => i ≤ a.length ∧ a.take i = b.take i) (m := fun i => a.length - i) (0 : Nat) ⟨Nat.zero_le _, rfl⟩ ?_ ?_
    · refine weak_nil ?_; simp [WeakL, AV.low, lows]
    · rintro i ⟨hi, he⟩
      by_cases hlt : i < a.length
      · have e1 := getD_T a hlt
        have e2 := getD_T b (i := i) (by omega)
        have e3 : (i : Int) < (a.length : Int) := by omega
        have e4 : (i : Int) < (b.length : Int) := by omega
        simp (maxSteps := 2000000) -implicitDefEqProofs only [↓RP0, ↓RP1, ↓RP2, ↓RP3, RV, List.map_cons, List.map_nil, List.cons_append, List.nil_append, List.append_nil, List.length_cons, List.length_nil, List.getElem?_cons_zero, List.getElem?_cons_succ, List.set_cons_zero, List.set_cons_succ, true_imp_iff, false_imp_iff, not_true_eq_false, not_false_eq_true, and_true, true_and, and_false, false_and, implies_true, ↓reduceIte, Bool.false_eq_true, Bool.true_eq_false, Bool.not_true, Bool.not_false, beq_self_eq_true, Bool.true_beq, Bool.false_beq, List.take_zero, List.drop_zero, List.take_succ_cons, List.drop_succ_cons, List.take_nil, List.drop_nil, List.replicate_zero, List.replicate_succ, Nat.reduceAdd, Nat.reduceSub, Nat.reduceMul, Nat.reduceLeDiff, Nat.reduceEqDiff, Nat.zero_add, Nat.add_zero, Int.reduceLT, Int.reduceLE, Int.reduceEq, Int.reduceNe, Int.reduceAdd, Int.reduceSub, Int.reduceMul, Int.reduceNeg, Int.reduceToNat, Int.toNat_natCast, Int.natCast_nonneg, Int.natCast_zero, Nat.lt_irrefl, Option.some.injEq, reduceCtorEq, Option.map_some, ne_eq, e1, e2, e3, e4, List.length_map, AV.cells]
        refine ⟨fun h1 => ?_, fun h1 => ?_⟩
        · refine ⟨⟨by omega, by omega⟩, i + 1, by dsimp only; omega, ⟨by omega, ?_⟩, ?_⟩
          · rw [List.take_add_one, List.take_add_one, he]
            congr 1
            rw [List.getD_eq_getElem?_getD, List.getD_eq_getElem?_getD, List.getElem?_eq_getElem hlt, List.getElem?_eq_getElem (by omega)] at h1
            rw [List.getElem?_eq_getElem hlt, List.getElem?_eq_getElem (by omega)]
            simpa using h1
          · refine weak_nil ?_; simp [WeakL, AV.low, lows]
        · have : ¬ a = b := fun e => h1 (by rw [e])
          simp [this]
      · obtain rfl : i = a.length := by omega
        simp (maxSteps := 2000000) -implicitDefEqProofs only [↓RP0, ↓RP1, ↓RP2, ↓RP3, RV, List.map_cons, List.map_nil, List.cons_append, List.nil_append, List.append_nil, List.length_cons, List.length_nil, List.getElem?_cons_zero, List.getElem?_cons_succ, List.set_cons_zero, List.set_cons_succ, true_imp_iff, false_imp_iff, not_true_eq_false, not_false_eq_true, and_true, true_and, and_false, false_and, implies_true, ↓reduceIte, Bool.false_eq_true, Bool.true_eq_false, Bool.not_true, Bool.not_false, beq_self_eq_true, Bool.true_beq, Bool.false_beq, List.take_zero, List.drop_zero, List.take_succ_cons, List.drop_succ_cons, List.take_nil, List.drop_nil, List.replicate_zero, List.replicate_succ, Nat.reduceAdd, Nat.reduceSub, Nat.reduceMul, Nat.reduceLeDiff, Nat.reduceEqDiff, Nat.zero_add, Nat.add_zero, Int.reduceLT, Int.reduceLE, Int.reduceEq, Int.reduceNe, Int.reduceAdd, Int.reduceSub, Int.reduceMul, Int.reduceNeg, Int.reduceToNat, Int.toNat_natCast, Int.natCast_nonneg, Int.natCast_zero, Nat.lt_irrefl, Option.some.injEq, reduceCtorEq, Option.map_some, ne_eq, List.length_map, Int.lt_irrefl]
        have : a = b := by
          have h2 : b.length = a.length := by omega
          rw [List.take_length, ← h2, List.take_length] at he
          exact he
        simp [this]
  · have : ¬ a = b := fun e => h (by rw [e])
    simp [this]

/-- A byte that may stand in a part. -/
def letterI (n : Int) : Bool := decide (97 ≤ n) && decide (n ≤ 122) || decide (65 ≤ n) && decide (n ≤ 90) || decide (48 ≤ n) && decide (n ≤ 57) || decide (n = 45) || decide (n = 46) || decide (n = 95) || decide (n = 43) || decide (n = 126)

theorem letterI_iff (n : Int) : letterI n = true ↔ (97 ≤ n ∧ n ≤ 122) ∨ (65 ≤ n ∧ n ≤ 90) ∨ (48 ≤ n ∧ n ≤ 57) ∨ n = 45 ∨ n = 46 ∨ n = 95 ∨ n = 43 ∨ n = 126 := by
  simp [letterI, or_assoc]

def c49 : ACode := (.seq (.reg false 0 [⟨(.some 2), none, (.q .mv), [(.c (.imm (.bool false)))]⟩]) (.seq (.reg false 0 [⟨(.some 3), none, (.q .mv), [(.t 0)]⟩, ⟨(.some 4), none, (.q (.bin .geq 5)), [(.t 3), (.c (.imm (.int .u8 97)))]⟩, ⟨(.some 5), none, (.q .mv), [(.t 4)]⟩, ⟨(.some 6), (.some (5, true)), (.q .mv), [(.t 0)]⟩, ⟨(.some 7), (.some (5, true)), (.q (.bin .leq 5)), [(.t 6), (.c (.imm (.int .u8 122)))]⟩, ⟨(.some 8), none, (.q .pick), [(.t 5), (.t 7), (.c (.imm (.bool false)))]⟩, ⟨(.some 9), none, (.q .mv), [(.t 8)]⟩, ⟨(.some 10), (.some (9, false)), (.q .mv), [(.t 0)]⟩, ⟨(.some 11), (.some (9, false)), (.q (.bin .geq 5)), [(.t 10), (.c (.imm (.int .u8 65)))]⟩, ⟨(.some 12), (.some (9, false)), (.q .mv), [(.t 11)]⟩, ⟨(.some 13), (.some (12, true)), (.q .mv), [(.t 0)]⟩, ⟨(.some 14), (.some (12, true)), (.q (.bin .leq 5)), [(.t 13), (.c (.imm (.int .u8 90)))]⟩, ⟨(.some 15), (.some (9, false)), (.q .pick), [(.t 12), (.t 14), (.c (.imm (.bool false)))]⟩, ⟨(.some 16), none, (.q .pick), [(.t 9), (.c (.imm (.bool true))), (.t 15)]⟩, ⟨(.some 17), none, (.q .mv), [(.t 16)]⟩, ⟨(.some 18), (.some (17, false)), (.q .mv), [(.t 0)]⟩, ⟨(.some 19), (.some (17, false)), (.q (.bin .geq 5)), [(.t 18), (.c (.imm (.int .u8 48)))]⟩, ⟨(.some 20), (.some (17, false)), (.q .mv), [(.t 19)]⟩, ⟨(.some 21), (.some (20, true)), (.q .mv), [(.t 0)]⟩, ⟨(.some 22), (.some (20, true)), (.q (.bin .leq 5)), [(.t 21), (.c (.imm (.int .u8 57)))]⟩, ⟨(.some 23), (.some (17, false)), (.q .pick), [(.t 20), (.t 22), (.c (.imm (.bool false)))]⟩, ⟨(.some 24), none, (.q .pick), [(.t 17), (.c (.imm (.bool true))), (.t 23)]⟩, ⟨(.some 25), none, (.q .mv), [(.t 24)]⟩, ⟨(.some 26), (.some (25, false)), (.q .mv), [(.t 0)]⟩, ⟨(.some 27), (.some (25, false)), (.q (.bin .eql 5)), [(.t 26), (.c (.imm (.int .u8 45)))]⟩, ⟨(.some 28), none, (.q .pick), [(.t 25), (.c (.imm (.bool true))), (.t 27)]⟩, ⟨(.some 29), none, (.q .mv), [(.t 28)]⟩, ⟨(.some 30), (.some (29, false)), (.q .mv), [(.t 0)]⟩, ⟨(.some 31), (.some (29, false)), (.q (.bin .eql 5)), [(.t 30), (.c (.imm (.int .u8 46)))]⟩, ⟨(.some 32), none, (.q .pick), [(.t 29), (.c (.imm (.bool true))), (.t 31)]⟩, ⟨(.some 33), none, (.q .mv), [(.t 32)]⟩, ⟨(.some 34), (.some (33, false)), (.q .mv), [(.t 0)]⟩, ⟨(.some 35), (.some (33, false)), (.q (.bin .eql 5)), [(.t 34), (.c (.imm (.int .u8 95)))]⟩, ⟨(.some 36), none, (.q .pick), [(.t 33), (.c (.imm (.bool true))), (.t 35)]⟩, ⟨(.some 37), none, (.q .mv), [(.t 36)]⟩, ⟨(.some 38), (.some (37, false)), (.q .mv), [(.t 0)]⟩, ⟨(.some 39), (.some (37, false)), (.q (.bin .eql 5)), [(.t 38), (.c (.imm (.int .u8 43)))]⟩, ⟨(.some 40), none, (.q .pick), [(.t 37), (.c (.imm (.bool true))), (.t 39)]⟩, ⟨(.some 41), none, (.q .mv), [(.t 40)]⟩, ⟨(.some 42), (.some (41, false)), (.q .mv), [(.t 0)]⟩, ⟨(.some 43), (.some (41, false)), (.q (.bin .eql 5)), [(.t 42), (.c (.imm (.int .u8 126)))]⟩, ⟨(.some 44), none, (.q .pick), [(.t 41), (.c (.imm (.bool true))), (.t 43)]⟩, ⟨(.some 2), none, (.q .mv), [(.t 44)]⟩]) .ret))
theorem fn49 : IsFn Tryd.prog 49 [] c49 [2] 45 := ⟨_, _, Tryd.func49, rfl, by decide +kernel, by kernel_rfl, rfl, rfl⟩
theorem p49 (n : Int) : Pure Tryd.prog G 49 [.imm (.int .u8 n)] (bool (letterI n)) := by
  refine pure_of_code' (S := sp [] []) hm hG (sp_holds .nil .nil) fn49 ([.imm (.int .u8 n), .junk, .junk, .junk, .junk, .junk, .junk, .junk, .junk, .junk, .junk, .junk, .junk, .junk, .junk, .junk, .junk, .junk, .junk, .junk, .junk, .junk, .junk, .junk, .junk, .junk, .junk, .junk, .junk, .junk, .junk, .junk, .junk, .junk, .junk, .junk, .junk, .junk, .junk, .junk, .junk, .junk, .junk, .junk, .junk]) rfl (by simp [lows, AV.low]) (by simp [AV.low]) ?_
  simp (maxSteps := 2000000) -implicitDefEqProofs only [c49, ↓RP0, ↓RP1, ↓RP2, ↓RP3, RV, List.map_cons, List.map_nil, List.cons_append, List.nil_append, List.append_nil, List.length_cons, List.length_nil, List.getElem?_cons_zero, List.getElem?_cons_succ, List.set_cons_zero, List.set_cons_succ, true_imp_iff, false_imp_iff, not_true_eq_false, not_false_eq_true, and_true, true_and, and_false, false_and, implies_true, ↓reduceIte, Bool.false_eq_true, Bool.true_eq_false, Bool.not_true, Bool.not_false, beq_self_eq_true, Bool.true_beq, Bool.false_beq, List.take_zero, List.drop_zero, List.take_succ_cons, List.drop_succ_cons, List.take_nil, List.drop_nil, List.replicate_zero, List.replicate_succ, Nat.reduceAdd, Nat.reduceSub, Nat.reduceMul, Nat.reduceLeDiff, Nat.reduceEqDiff, Nat.zero_add, Nat.add_zero, Int.reduceLT, Int.reduceLE, Int.reduceEq, Int.reduceNe, Int.reduceAdd, Int.reduceSub, Int.reduceMul, Int.reduceNeg, Int.reduceToNat, Int.toNat_natCast, Int.natCast_nonneg, Int.natCast_zero, Nat.lt_irrefl, Option.some.injEq, reduceCtorEq, Option.map_some, ne_eq]
  have key : ∀ b, b = letterI n → AV.imm (.bool b) = bool (letterI n) := by rintro _ rfl; rfl
  repeat' (first | apply And.intro | intro _)
  all_goals first
    | exact key true ((letterI_iff n).2 (by omega)).symm
    | exact key false (Bool.eq_false_iff.2 fun e => absurd ((letterI_iff n).1 e) (by omega)).symm

def partOk (s : List UInt8) : Bool := s.all (fun b => letterI b.toNat) && decide (1 ≤ s.length) && decide (s.length ≤ 100) && !decide (s = [46]) && !decide (s = [46, 46])

def c37 : ACode := (.seq (.reg false 0 [⟨(.some 2), none, (.q .mv), [(.c (.imm (.bool false)))]⟩]) (.seq (.seq (.reg false 0 [⟨(.some 3), none, (.q .mv), [(.c (.imm (.int .i64 0)))]⟩]) (.block 0 (.loop (.seq (.seq (.reg false 0 [⟨(.some 4), none, (.q .mv), [(.t 3)]⟩, ⟨(.some 5), none, (.q .mv), [(.t 0)]⟩, ⟨(.some 6), none, (.q .lenS), [(.t 5)]⟩, ⟨(.some 7), none, (.q (.bin .lss 3)), [(.t 4), (.t 6)]⟩]) (.cond (.t 7) .skip (.exit 0))) (.seq (.block 1 (.seq (.reg false 0 [⟨(.some 10), none, (.q .mv), [(.t 0)]⟩, ⟨(.some 11), none, (.q .mv), [(.t 3)]⟩, ⟨(.some 12), none, (.q .idxS), [(.t 10), (.t 11)]⟩, ⟨(.some 13), none, (.call true), [(.c (.fn (.func 49) [] [])), (.t 12)]⟩, ⟨(.some 14), none, (.q (.un .not)), [(.t 13)]⟩]) (.cond (.t 14) (.seq (.reg false 0 [⟨(.some 2), none, (.q .mv), [(.c (.imm (.bool false)))]⟩]) .ret) .skip))) (.reg false 0 [⟨(.some 8), none, (.q .mv), [(.t 3)]⟩, ⟨(.some 9), none, (.q (.bin .add 3)), [(.t 8), (.c (.imm (.int .i64 1)))]⟩, ⟨(.some 3), none, (.q .mv), [(.t 9)]⟩])))))) (.seq (.reg false 0 [⟨(.some 15), none, (.q .mv), [(.t 0)]⟩, ⟨(.some 16), none, (.q .lenS), [(.t 15)]⟩, ⟨(.some 17), none, (.q (.bin .geq 3)), [(.t 16), (.c (.imm (.int .i64 1)))]⟩, ⟨(.some 18), none, (.q .mv), [(.t 17)]⟩, ⟨(.some 19), (.some (18, true)), (.q .mv), [(.t 0)]⟩, ⟨(.some 20), (.some (18, true)), (.q .lenS), [(.t 19)]⟩, ⟨(.some 21), (.some (18, true)), (.q (.bin .leq 3)), [(.t 20), (.c (.imm (.int .i64 100)))]⟩, ⟨(.some 22), none, (.q .pick), [(.t 18), (.t 21), (.c (.imm (.bool false)))]⟩, ⟨(.some 23), none, (.q .mv), [(.t 22)]⟩, ⟨(.some 24), (.some (23, true)), (.q .mv), [(.t 0)]⟩, ⟨(.some 25), (.some (23, true)), (.q (.bin .neq 9)), [(.t 24), (.c (.imm (.string (B [46]))))]⟩, ⟨(.some 26), none, (.q .pick), [(.t 23), (.t 25), (.c (.imm (.bool false)))]⟩, ⟨(.some 27), none, (.q .mv), [(.t 26)]⟩, ⟨(.some 28), (.some (27, true)), (.q .mv), [(.t 0)]⟩, ⟨(.some 29), (.some (27, true)), (.q (.bin .neq 9)), [(.t 28), (.c (.imm (.string (B [46, 46]))))]⟩, ⟨(.some 30), none, (.q .pick), [(.t 27), (.t 29), (.c (.imm (.bool false)))]⟩, ⟨(.some 2), none, (.q .mv), [(.t 30)]⟩]) .ret)))
theorem fn37 : IsFn Tryd.prog 37 [] c37 [2] 31 := ⟨_, _, Tryd.func37, rfl, by decide +kernel, by kernel_rfl, rfl, rfl⟩
theorem p37 (s : List UInt8) (hs : s.length ≤ 1099511627776) : Pure Tryd.prog G 37 [T s] (bool (partOk s)) := by
  refine pure_of_code' (S := sp [(49, byte1b (fun _ => True) letterI)] []) hm hG (sp_holds (.cons (told_byte1b fun n _ => p49 n) .nil) .nil) fn37 ([T s, .junk, .junk, .junk, .junk, .junk, .junk, .junk, .junk, .junk, .junk, .junk, .junk, .junk, .junk, .junk, .junk, .junk, .junk, .junk, .junk, .junk, .junk, .junk, .junk, .junk, .junk, .junk, .junk, .junk, .junk]) rfl (by simp [lows, AV.low]) (by simp [AV.low]) ?_
  simp (maxSteps := 2000000) -implicitDefEqProofs only [c37, ↓RP0, ↓RP1, ↓RP2, ↓RP3, RV, List.map_cons, List.map_nil, List.cons_append, List.nil_append, List.append_nil, List.length_cons, List.length_nil, List.getElem?_cons_zero, List.getElem?_cons_succ, List.set_cons_zero, List.set_cons_succ, true_imp_iff, false_imp_iff, not_true_eq_false, not_false_eq_true, and_true, true_and, and_false, false_and, implies_true, ↓reduceIte, Bool.false_eq_true, Bool.true_eq_false, Bool.not_true, Bool.not_false, beq_self_eq_true, Bool.true_beq, Bool.false_beq, List.take_zero, List.drop_zero, List.take_succ_cons, List.drop_succ_cons, List.take_nil, List.drop_nil, List.replicate_zero, List.replicate_succ, Nat.reduceAdd, Nat.reduceSub, Nat.reduceMul, Nat.reduceLeDiff, Nat.reduceEqDiff, Nat.zero_add, Nat.add_zero, Int.reduceLT, Int.reduceLE, Int.reduceEq, Int.reduceNe, Int.reduceAdd, Int.reduceSub, Int.reduceMul, Int.reduceNeg, Int.reduceToNat, Int.toNat_natCast, Int.natCast_nonneg, Int.natCast_zero, Nat.lt_irrefl, Option.some.injEq, reduceCtorEq, Option.map_some, ne_eq]
  refine loopB (st := fun (i : Nat) => [T s, .junk, .junk, i64 i, .junk, .junk, .junk, .junk, .junk, .junk, .junk, .junk, .junk, .junk, .junk, .junk, .junk, .junk, .junk, .junk, .junk, .junk, .junk, .junk, .junk, .junk, .junk, .junk, .junk, .junk, .junk])
    (hp := fun _ => []) (I := fun i => i ≤ s.length ∧ ∀ j (h : j < s.length), j < i → letterI s[j].toNat = true) (m := fun i => s.length - i) (0 : Nat) ⟨Nat.zero_le _, fun j _ h => absurd h (Nat.not_lt_zero j)⟩ ?_ ?_
  · refine weak_nil ?_; simp [WeakL, AV.low, lows]
  · rintro i ⟨hi, he⟩
    simp (maxSteps := 2000000) -implicitDefEqProofs only [↓RP0, ↓RP1, ↓RP2, ↓RP3, RV, List.map_cons, List.map_nil, List.cons_append, List.nil_append, List.append_nil, List.length_cons, List.length_nil, List.getElem?_cons_zero, List.getElem?_cons_succ, List.set_cons_zero, List.set_cons_succ, true_imp_iff, false_imp_iff, not_true_eq_false, not_false_eq_true, and_true, true_and, and_false, false_and, implies_true, ↓reduceIte, Bool.false_eq_true, Bool.true_eq_false, Bool.not_true, Bool.not_false, beq_self_eq_true, Bool.true_beq, Bool.false_beq, List.take_zero, List.drop_zero, List.take_succ_cons, List.drop_succ_cons, List.take_nil, List.drop_nil, List.replicate_zero, List.replicate_succ, Nat.reduceAdd, Nat.reduceSub, Nat.reduceMul, Nat.reduceLeDiff, Nat.reduceEqDiff, Nat.zero_add, Nat.add_zero, Int.reduceLT, Int.reduceLE, Int.reduceEq, Int.reduceNe, Int.reduceAdd, Int.reduceSub, Int.reduceMul, Int.reduceNeg, Int.reduceToNat, Int.toNat_natCast, Int.natCast_nonneg, Int.natCast_zero, Nat.lt_irrefl, Option.some.injEq, reduceCtorEq, Option.map_some, ne_eq]
    refine ⟨fun h => ⟨h, fun h1 => ?_, fun h1 => ?_⟩, fun h => ?_⟩
    · refine ⟨⟨by omega, by omega⟩, i + 1, by dsimp only; omega, ⟨by omega, fun j hj hji => ?_⟩, ?_⟩
      · by_cases e : j = i
        · subst e; rw [at'_nat, List.getD_eq_getElem?_getD, List.getElem?_eq_getElem hj] at h1; exact h1
        · exact he j hj (by omega)
      · refine weak_nil ?_; simp [WeakL, AV.low, lows]
    · have : partOk s = false := by
        have hl : i < s.length := by omega
        rw [at'_nat, List.getD_eq_getElem?_getD, List.getElem?_eq_getElem hl] at h1
        have : s.all (fun b => letterI b.toNat) = false := by
          rw [List.all_eq_false]
          exact ⟨s[i], List.getElem_mem hl, by simpa using h1⟩
        simp [partOk, this]
      rw [this]
    · have hall : s.all (fun b => letterI b.toNat) = true := by
        rw [List.all_eq_true]
        intro x hx
        obtain ⟨j, hj, rfl⟩ := List.getElem_of_mem hx
        exact he j hj (by omega)
      have key : ∀ b, b = partOk s → AV.imm (.bool b) = bool (partOk s) := by rintro _ rfl; rfl
      repeat' (first | apply And.intro | intro _)
      all_goals (apply key; simp only [partOk, hall, Bool.true_and])
      all_goals simp_all
      all_goals omega
end Go.AL.Path
