/- Path: PathCopies: a copy of a user's path is no user's; copies of unlike paths, or by unlike dots, are unlike. -/
import Derived.Test.YtfilcbnobmnopaaDoorP16
set_option linter.unusedSimpArgs false
set_option linter.unusedVariables false
set_option maxRecDepth 100000
namespace Go.AL.Path
open Go Go.RowKit Go.Proofs Go.AL

set_option maxHeartbeats 4000000 in
theorem p3 (a b : List UInt8) (r q r' q' : Int) (ha : a.length ≤ 1099511627) (hb : b.length ≤ 1099511627) (h1 : In64 r) (h2 : In64 q) (h3 : In64 r') (h4 : In64 q') : Pure Tryd.prog G 3 [.agg [T a, T b, i64 r, i64 q, i64 r', i64 q']] (bool true) := by
  cases o1 : ownP a with
  | false =>
    refine pure_of_code' (S := sp [(9, none0 (bool true)), (10, txt1b (fun l => l.length ≤ 1099511627) ownP), (11, copySp), (12, splitSp)] []) hm hG
      (sp_holds (.cons (told_none0 p9) (.cons (told_txt1b p10) (.cons (told_copy p11) (.cons (told_split p12) .nil)))) .nil) fn3 (St 14 109 [.agg [T a, T b, i64 r, i64 q, i64 r', i64 q'], .junk, .junk, .junk, .junk, .junk, .junk, .junk, .junk, .junk, .junk, .junk, .junk, .junk] []) (by kernel_rfl) (by simp [lows, AV.low]) (by simp [AV.low]) ?_
    have ha' : a.length ≤ 1099511627776 := by omega
    have hb' : b.length ≤ 1099511627776 := by omega
    simp (maxSteps := 2000000) -implicitDefEqProofs only [c3, RS, Nat.reduceLT, ↓RP0, ↓RP1, ↓RP2, ↓RP3, RV, List.map_cons, List.map_nil, List.cons_append, List.nil_append, List.append_nil, List.length_cons, List.length_nil, List.getElem?_cons_zero, List.getElem?_cons_succ, List.set_cons_zero, List.set_cons_succ, true_imp_iff, false_imp_iff, not_true_eq_false, not_false_eq_true, and_true, true_and, and_false, false_and, implies_true, ↓reduceIte, Bool.false_eq_true, Bool.true_eq_false, Bool.not_eq_true, Bool.not_true, Bool.not_false, beq_self_eq_true, Bool.true_beq, Bool.false_beq, List.take_zero, List.drop_zero, List.take_succ_cons, List.drop_succ_cons, List.take_nil, List.drop_nil, List.replicate_zero, List.replicate_succ, Nat.reduceAdd, Nat.reduceSub, Nat.reduceMul, Nat.reduceLeDiff, Nat.reduceEqDiff, Nat.zero_add, Nat.add_zero, Int.reduceLT, Int.reduceLE, Int.reduceEq, Int.reduceNe, Int.reduceAdd, Int.reduceSub, Int.reduceMul, Int.reduceNeg, Int.reduceToNat, Int.toNat_natCast, Int.natCast_nonneg, Int.natCast_zero, Nat.lt_irrefl, Option.some.injEq, reduceCtorEq, Option.map_some, ne_eq, ↓qB_eqA2, ↓ask_copy, ha, hb, ha', hb', h1, h2, h3, h4, o1, true_and]
  | true =>
    cases o2 : ownP b with
    | false =>
      refine pure_of_code' (S := sp [(9, none0 (bool true)), (10, txt1b (fun l => l.length ≤ 1099511627) ownP), (11, copySp), (12, splitSp)] []) hm hG
        (sp_holds (.cons (told_none0 p9) (.cons (told_txt1b p10) (.cons (told_copy p11) (.cons (told_split p12) .nil)))) .nil) fn3 (St 14 109 [.agg [T a, T b, i64 r, i64 q, i64 r', i64 q'], .junk, .junk, .junk, .junk, .junk, .junk, .junk, .junk, .junk, .junk, .junk, .junk, .junk] []) (by kernel_rfl) (by simp [lows, AV.low]) (by simp [AV.low]) ?_
      have ha' : a.length ≤ 1099511627776 := by omega
      have hb' : b.length ≤ 1099511627776 := by omega
      simp (maxSteps := 2000000) -implicitDefEqProofs only [c3, RS, Nat.reduceLT, ↓RP0, ↓RP1, ↓RP2, ↓RP3, RV, List.map_cons, List.map_nil, List.cons_append, List.nil_append, List.append_nil, List.length_cons, List.length_nil, List.getElem?_cons_zero, List.getElem?_cons_succ, List.set_cons_zero, List.set_cons_succ, true_imp_iff, false_imp_iff, not_true_eq_false, not_false_eq_true, and_true, true_and, and_false, false_and, implies_true, ↓reduceIte, Bool.false_eq_true, Bool.true_eq_false, Bool.not_eq_true, Bool.not_true, Bool.not_false, beq_self_eq_true, Bool.true_beq, Bool.false_beq, List.take_zero, List.drop_zero, List.take_succ_cons, List.drop_succ_cons, List.take_nil, List.drop_nil, List.replicate_zero, List.replicate_succ, Nat.reduceAdd, Nat.reduceSub, Nat.reduceMul, Nat.reduceLeDiff, Nat.reduceEqDiff, Nat.zero_add, Nat.add_zero, Int.reduceLT, Int.reduceLE, Int.reduceEq, Int.reduceNe, Int.reduceAdd, Int.reduceSub, Int.reduceMul, Int.reduceNeg, Int.reduceToNat, Int.toNat_natCast, Int.natCast_nonneg, Int.natCast_zero, Nat.lt_irrefl, Option.some.injEq, reduceCtorEq, Option.map_some, ne_eq, ↓qB_eqA2, ↓ask_copy, ha, hb, ha', hb', h1, h2, h3, h4, o1, o2, true_and]
    | true =>
      cases hs : splitP (copyP a r q) with
      | none => exact p3_none a b r q r' q' ha hb h1 h2 h3 h4 o1 o2 hs
      | some p => exact p3_some a b r q r' q' ha hb h1 h2 h3 h4 o1 o2 hs
end Go.AL.Path
