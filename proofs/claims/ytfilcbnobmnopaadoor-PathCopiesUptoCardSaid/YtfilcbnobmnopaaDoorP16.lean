/- Path: PathCopies: a copy of a user's path is no user's; copies of unlike paths, or by unlike dots, are unlike. -/
import Derived.Test.YtfilcbnobmnopaaDoorP15
set_option linter.unusedSimpArgs false
set_option linter.unusedVariables false
set_option maxRecDepth 100000
namespace Go.AL.Path
open Go Go.RowKit Go.Proofs Go.AL

set_option maxHeartbeats 4000000 in
theorem p3_some (a b : List UInt8) (r q r' q' : Int) (ha : a.length ≤ 1099511627) (hb : b.length ≤ 1099511627) (h1 : In64 r) (h2 : In64 q) (h3 : In64 r') (h4 : In64 q') (o1 : ownP a = true) (o2 : ownP b = true) {u v : List UInt8} (hs : splitP (copyP a r q) = some (u, v)) : Pure Tryd.prog G 3 [.agg [T a, T b, i64 r, i64 q, i64 r', i64 q']] (bool true) := by
  refine pure_of_code' (S := sp [(9, none0 (bool true)), (10, txt1b (fun l => l.length ≤ 1099511627) ownP), (11, copySp), (12, splitSp)] []) hm hG
    (sp_holds (.cons (told_none0 p9) (.cons (told_txt1b p10) (.cons (told_copy p11) (.cons (told_split p12) .nil)))) .nil) fn3 (St 14 109 [.agg [T a, T b, i64 r, i64 q, i64 r', i64 q'], .junk, .junk, .junk, .junk, .junk, .junk, .junk, .junk, .junk, .junk, .junk, .junk, .junk] []) (by kernel_rfl) (by simp [lows, AV.low]) (by simp [AV.low]) ?_
  have ha' : a.length ≤ 1099511627776 := by omega
  have hb' : b.length ≤ 1099511627776 := by omega
  obtain ⟨n1, _, l1, _⟩ := ownP_parts o1
  obtain ⟨n2, _, l2, _⟩ := ownP_parts o2
  have hx : (copyP a r q).length = a.length + (tailW r q).length := copyP_len a r q
  have t1 : (tailW r q).length ≤ 202 := by
    rw [tailW_len]; have := itoa_length r h1; have := itoa_length q h2; omega
  have e5 : (copyP a r q).length ≤ 1099511627 := by omega
  have e6 : (copyP a r q).length ≤ 1099511627776 := by omega
  have e7 := ownP_copy a r q
  have hinj : copyP a r q = copyP b r' q' ↔ a = b ∧ r = r' ∧ q = q' := copyP_inj n1 n2
  have hmay : ∀ h : (copyP a r q).length ≤ 100 ∨ (tailW r q).length ≤ 17, mayP (copyP a r q) = true := fun h => mayP_copy o1 h
  have hsm : 0 ≤ r → r < 32 → 1 ≤ q → q ≤ 1099511627776 → (tailW r q).length ≤ 17 := tailW_small
  have c1 : ∀ K, ask copySp [T a, .agg [i64 r, i64 q]] K = ((a.length ≤ 1099511627776 ∧ In64 r ∧ In64 q) ∧ K (T (copyP a r q))) := fun K => ask_copy
  have c2 : ∀ K, ask copySp [T b, .agg [i64 r', i64 q']] K = ((b.length ≤ 1099511627776 ∧ In64 r' ∧ In64 q') ∧ K (T (copyP b r' q'))) := fun K => ask_copy
  generalize copyP a r q = x at *
  generalize copyP b r' q' = y at *
  obtain ⟨_, j2, _, _⟩ := splitP_inv hs
  have e1 : ∀ K, ask splitSp [T x] K = (x.length ≤ 1099511627776 ∧ K (.tup [T u, T v, i64 0])) := fun K => by rw [ask_split, hs]; simp
  have e8 : ((u.length : Int) ≤ 155) = True := eq_true (by omega)
  have hns : ∀ (h : 0 ≤ r ∧ r < 32 ∧ 1 ≤ q ∧ q ≤ 1099511627776), (x.length : Int) ≤ 217 := fun h => by
    have := hsm h.1 h.2.1 h.2.2.1 h.2.2.2; omega
  clear hmay hsm
  by_cases hab : a = b
  · by_cases hd : r = r' ∧ q = q'
    · have x1 : (x = y) = True := eq_true (hinj.2 ⟨hab, hd⟩)
      have x2 : (a = b) = True := eq_true hab
      have x3 : (r = r' ∧ q = q') = True := eq_true hd
      clear hinj hab
      simp (maxSteps := 2000000) -implicitDefEqProofs only [c3, RS, Nat.reduceLT, ↓RP0, ↓RP1, ↓RP2, ↓RP3, RV, List.map_cons, List.map_nil, List.cons_append, List.nil_append, List.append_nil, List.length_cons, List.length_nil, List.getElem?_cons_zero, List.getElem?_cons_succ, List.set_cons_zero, List.set_cons_succ, true_imp_iff, false_imp_iff, not_true_eq_false, not_false_eq_true, and_true, true_and, and_false, false_and, implies_true, ↓reduceIte, Bool.false_eq_true, Bool.true_eq_false, Bool.not_eq_true, Bool.not_true, Bool.not_false, beq_self_eq_true, Bool.true_beq, Bool.false_beq, List.take_zero, List.drop_zero, List.take_succ_cons, List.drop_succ_cons, List.take_nil, List.drop_nil, List.replicate_zero, List.replicate_succ, Nat.reduceAdd, Nat.reduceSub, Nat.reduceMul, Nat.reduceLeDiff, Nat.reduceEqDiff, Nat.zero_add, Nat.add_zero, Int.reduceLT, Int.reduceLE, Int.reduceEq, Int.reduceNe, Int.reduceAdd, Int.reduceSub, Int.reduceMul, Int.reduceNeg, Int.reduceToNat, Int.toNat_natCast, Int.natCast_nonneg, Int.natCast_zero, Nat.lt_irrefl, Option.some.injEq, reduceCtorEq, Option.map_some, ne_eq, ↓qB_eqA2, ↓c1, ↓c2, ↓e1, ↓x1, ↓x2, ↓x3, ha, hb, ha', hb', h1, h2, h3, h4, o1, o2, e5, e6, e7, e8, true_and]
      exact fun k1 k2 k3 k4 k5 => absurd (hns ⟨k1, k2, k3, k4⟩) k5
    · have x1 : (x = y) = False := eq_false fun h => hd (hinj.1 h).2
      have x2 : (a = b) = True := eq_true hab
      have x3 : (r = r' ∧ q = q') = False := eq_false hd
      clear hinj hab
      simp (maxSteps := 2000000) -implicitDefEqProofs only [c3, RS, Nat.reduceLT, ↓RP0, ↓RP1, ↓RP2, ↓RP3, RV, List.map_cons, List.map_nil, List.cons_append, List.nil_append, List.append_nil, List.length_cons, List.length_nil, List.getElem?_cons_zero, List.getElem?_cons_succ, List.set_cons_zero, List.set_cons_succ, true_imp_iff, false_imp_iff, not_true_eq_false, not_false_eq_true, and_true, true_and, and_false, false_and, implies_true, ↓reduceIte, Bool.false_eq_true, Bool.true_eq_false, Bool.not_eq_true, Bool.not_true, Bool.not_false, beq_self_eq_true, Bool.true_beq, Bool.false_beq, List.take_zero, List.drop_zero, List.take_succ_cons, List.drop_succ_cons, List.take_nil, List.drop_nil, List.replicate_zero, List.replicate_succ, Nat.reduceAdd, Nat.reduceSub, Nat.reduceMul, Nat.reduceLeDiff, Nat.reduceEqDiff, Nat.zero_add, Nat.add_zero, Int.reduceLT, Int.reduceLE, Int.reduceEq, Int.reduceNe, Int.reduceAdd, Int.reduceSub, Int.reduceMul, Int.reduceNeg, Int.reduceToNat, Int.toNat_natCast, Int.natCast_nonneg, Int.natCast_zero, Nat.lt_irrefl, Option.some.injEq, reduceCtorEq, Option.map_some, ne_eq, ↓qB_eqA2, ↓c1, ↓c2, ↓e1, ↓x1, ↓x2, ↓x3, ha, hb, ha', hb', h1, h2, h3, h4, o1, o2, e5, e6, e7, e8, true_and]
      exact fun k1 k2 k3 k4 k5 => absurd (hns ⟨k1, k2, k3, k4⟩) k5
  · have x1 : (x = y) = False := eq_false fun h => hab (hinj.1 h).1
    have x2 : (a = b) = False := eq_false hab
    clear hinj hab
    simp (maxSteps := 2000000) -implicitDefEqProofs only [c3, RS, Nat.reduceLT, ↓RP0, ↓RP1, ↓RP2, ↓RP3, RV, List.map_cons, List.map_nil, List.cons_append, List.nil_append, List.append_nil, List.length_cons, List.length_nil, List.getElem?_cons_zero, List.getElem?_cons_succ, List.set_cons_zero, List.set_cons_succ, true_imp_iff, false_imp_iff, not_true_eq_false, not_false_eq_true, and_true, true_and, and_false, false_and, implies_true, ↓reduceIte, Bool.false_eq_true, Bool.true_eq_false, Bool.not_eq_true, Bool.not_true, Bool.not_false, beq_self_eq_true, Bool.true_beq, Bool.false_beq, List.take_zero, List.drop_zero, List.take_succ_cons, List.drop_succ_cons, List.take_nil, List.drop_nil, List.replicate_zero, List.replicate_succ, Nat.reduceAdd, Nat.reduceSub, Nat.reduceMul, Nat.reduceLeDiff, Nat.reduceEqDiff, Nat.zero_add, Nat.add_zero, Int.reduceLT, Int.reduceLE, Int.reduceEq, Int.reduceNe, Int.reduceAdd, Int.reduceSub, Int.reduceMul, Int.reduceNeg, Int.reduceToNat, Int.toNat_natCast, Int.natCast_nonneg, Int.natCast_zero, Nat.lt_irrefl, Option.some.injEq, reduceCtorEq, Option.map_some, ne_eq, ↓qB_eqA2, ↓c1, ↓c2, ↓e1, ↓x1, ↓x2, ha, hb, ha', hb', h1, h2, h3, h4, o1, o2, e5, e6, e7, e8, true_and]
    exact fun k1 k2 k3 k4 k5 => absurd (hns ⟨k1, k2, k3, k4⟩) k5
end Go.AL.Path
