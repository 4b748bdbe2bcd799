/- Closures of heads; slices.IndexFunc, ContainsFunc at events. -/
import Derived.Test.YtcppnhnomemphaaGreatDoorG11
import Derived.Test.YtcppnhnomemphaaGreatDoorG26
set_option linter.unusedSimpArgs false
set_option linter.unusedVariables false
set_option maxRecDepth 100000
namespace Go.AL.Path
open Go Go.RowKit Go.Proofs Go.AL

/-- A question about an event, asked of a closure that captured these. -/
def ev1c (caps : List AV) (p : Ev → Bool) : PSp := fun args K => ∃ e, args = evV e :: caps ∧ EvOk e ∧ splitB (p e) K
theorem ask_ev1c {caps : List AV} {p : Ev → Bool} {e : Ev} {K} (he : EvOk e) : ask (ev1c caps p) (evV e :: caps) K = splitB (p e) K := by
  show (∃ e', evV e :: caps = evV e' :: caps ∧ EvOk e' ∧ splitB (p e') K) = _
  simp only [eq_iff_iff]
  constructor
  · rintro ⟨e', h1, h2, h3⟩
    have h4 : evCells e = evCells e' := by injection h1 with h1 _; injection h1
    have h5 := evOf_cells he.len
    rw [h4, evOf_cells h2.len] at h5
    cases h5
    exact h3
  · exact fun h => ⟨e, rfl, he, h⟩
theorem told_ev1c {F} {caps : List AV} {p : Ev → Bool} (h : ∀ e, EvOk e → Pure Tryz.prog G F (evV e :: caps) (bool (p e))) : Told Tryz.prog G F (ev1c caps p) := by
  rintro args K ⟨e, rfl, h1, h2⟩
  exact ⟨_, h _ h1, splitB_of h2⟩

def c30 : ACode := (.seq (.reg false 1 [⟨(.some 2), none, (.m .box 0), [(.t 0)]⟩, ⟨(.some 3), none, (.q .mv), [(.c (.imm (.bool false)))]⟩]) (.seq (.reg false 0 [⟨(.some 4), none, (.q (.faddr 4)), [(.t 2)]⟩, ⟨(.some 5), none, (.l .load1), [(.t 4)]⟩, ⟨(.some 6), none, (.q (.faddr 4)), [(.t 1)]⟩, ⟨(.some 7), none, (.l .load1), [(.t 6)]⟩, ⟨(.some 8), none, (.q (.bin .eql 9)), [(.t 5), (.t 7)]⟩, ⟨(.some 9), none, (.q .mv), [(.t 8)]⟩, ⟨(.some 10), (.some (9, true)), (.q (.faddr 0)), [(.t 2)]⟩, ⟨(.some 11), (.some (9, true)), (.l (.loadA 2)), [(.t 10)]⟩, ⟨(.some 12), (.some (9, true)), (.q (.faddr 0)), [(.t 1)]⟩, ⟨(.some 13), (.some (9, true)), (.l (.loadA 2)), [(.t 12)]⟩, ⟨(.some 14), (.some (9, true)), (.q (.eqA false 2)), [(.t 11), (.t 13)]⟩, ⟨(.some 15), (.some (9, true)), (.q .mv), [(.t 14)]⟩, ⟨(.some 16), (.some (15, false)), (.l (.loadA 38)), [(.t 2)]⟩, ⟨(.some 17), (.some (15, false)), (.l (.loadA 38)), [(.t 1)]⟩, ⟨(.some 18), (.some (15, false)), (.call true), [(.c (.fn (.func 27) [] [])), (.t 16), (.t 17)]⟩, ⟨(.some 19), (.some (9, true)), (.q .pick), [(.t 15), (.c (.imm (.bool true))), (.t 18)]⟩, ⟨(.some 20), none, (.q .pick), [(.t 9), (.t 19), (.c (.imm (.bool false)))]⟩, ⟨(.some 3), none, (.q .mv), [(.t 20)]⟩]) .ret))
theorem fn30 : IsFn Tryz.prog 30 [] c30 [3] 21 := ⟨_, _, Tryz.func30, rfl, by decide +kernel, by kernel_rfl, rfl, rfl⟩
theorem p30c (e f : Ev) (he : EvOk e) (hf : EvOk f) : Pure Tryz.prog G 30 [evV f, .rptr (evCells e) 0] (bool (covers e f)) := by
  refine pure_of_code' (S := sp [(27, ev2b knows)] []) hm hG (sp_holds (.cons (told_ev2b p27') .nil) .nil) fn30 (St 4 21 [evV f, .rptr (evCells e) 0, .junk, .junk] []) (by kernel_rfl) (by simp [lows, AV.low, lows_ev]) (by simp [AV.low]) ?_
  have hl := ev_len hf.len
  have hl' := ev_len he.len
  have t1 := take38 he
  have t2 := take38 hf
  have q : ∀ K, ask (ev2b knows) [.agg (evCells f), .agg (evCells e)] K = splitB (knows f e) K := fun K => ask_ev2b hf he
  simp (maxSteps := 2000000) -implicitDefEqProofs only [c30, RS, retC_normal, retC_ret, rvals_nil, rvals_tmp, rvals_cell, collect_one, collect_two, Nat.reduceLT, ↓RP0, ↓RP1, ↓RP2, ↓RP3, RV, List.map_cons, List.map_nil, List.cons_append, List.nil_append, List.append_nil, List.length_cons, List.length_nil, List.getElem?_cons_zero, List.getElem?_cons_succ, List.set_cons_zero, List.set_cons_succ, true_imp_iff, false_imp_iff, not_true_eq_false, not_false_eq_true, and_true, true_and, and_false, false_and, implies_true, ↓reduceIte, Bool.false_eq_true, Bool.true_eq_false, Bool.not_eq_true, Bool.not_true, Bool.not_false, beq_self_eq_true, Bool.true_beq, Bool.false_beq, List.take_zero, List.drop_zero, List.take_succ_cons, List.drop_succ_cons, List.take_nil, List.drop_nil, List.replicate_zero, List.replicate_succ, Nat.reduceAdd, Nat.reduceSub, Nat.reduceMul, Nat.reduceLeDiff, Nat.reduceEqDiff, Nat.zero_add, Nat.add_zero, Int.reduceLT, Int.reduceLE, Int.reduceEq, Int.reduceNe, Int.reduceAdd, Int.reduceSub, Int.reduceMul, Int.reduceNeg, Int.reduceToNat, Int.toNat_natCast, Int.natCast_nonneg, Int.natCast_zero, Nat.lt_irrefl, Option.some.injEq, reduceCtorEq, Option.map_some, ne_eq, ↓q, q, ↓qB_eqA2, qB_eqA2, ev4, ev_take, hl, hl', t1, t2, ev_strip, AV.strip1]
  refine ⟨fun h1 => ⟨fun h2 => ?_, fun h2 => ⟨fun h3 => ?_, fun h3 => ?_⟩⟩, fun h1 => ?_⟩
  all_goals simp only [covers, *]
  all_goals simp_all

def c33 : ACode := (.seq (.reg false 1 [⟨(.some 2), none, (.m .box 0), [(.t 0)]⟩, ⟨(.some 3), none, (.q .mv), [(.c (.imm (.bool false)))]⟩]) (.seq (.reg false 0 [⟨(.some 4), none, (.q (.faddr 4)), [(.t 2)]⟩, ⟨(.some 5), none, (.l .load1), [(.t 4)]⟩, ⟨(.some 6), none, (.q (.faddr 4)), [(.t 1)]⟩, ⟨(.some 7), none, (.l .load1), [(.t 6)]⟩, ⟨(.some 8), none, (.q (.bin .eql 9)), [(.t 5), (.t 7)]⟩, ⟨(.some 9), none, (.q .mv), [(.t 8)]⟩, ⟨(.some 10), (.some (9, true)), (.l (.loadA 38)), [(.t 1)]⟩, ⟨(.some 11), (.some (9, true)), (.l (.loadA 38)), [(.t 2)]⟩, ⟨(.some 12), (.some (9, true)), (.call true), [(.c (.fn (.func 27) [] [])), (.t 10), (.t 11)]⟩, ⟨(.some 13), none, (.q .pick), [(.t 9), (.t 12), (.c (.imm (.bool false)))]⟩, ⟨(.some 3), none, (.q .mv), [(.t 13)]⟩]) .ret))
theorem fn33 : IsFn Tryz.prog 33 [] c33 [3] 14 := ⟨_, _, Tryz.func33, rfl, by decide +kernel, by kernel_rfl, rfl, rfl⟩
theorem p33c (e f : Ev) (he : EvOk e) (hf : EvOk f) : Pure Tryz.prog G 33 [evV f, .rptr (evCells e) 0] (bool (gone e f)) := by
  refine pure_of_code' (S := sp [(27, ev2b knows)] []) hm hG (sp_holds (.cons (told_ev2b p27') .nil) .nil) fn33 (St 4 14 [evV f, .rptr (evCells e) 0, .junk, .junk] []) (by kernel_rfl) (by simp [lows, AV.low, lows_ev]) (by simp [AV.low]) ?_
  have hl := ev_len hf.len
  have hl' := ev_len he.len
  have t1 := take38 he
  have t2 := take38 hf
  have q : ∀ K, ask (ev2b knows) [.agg (evCells e), .agg (evCells f)] K = splitB (knows e f) K := fun K => ask_ev2b he hf
  simp (maxSteps := 2000000) -implicitDefEqProofs only [c33, RS, retC_normal, retC_ret, rvals_nil, rvals_tmp, rvals_cell, collect_one, collect_two, Nat.reduceLT, ↓RP0, ↓RP1, ↓RP2, ↓RP3, RV, List.map_cons, List.map_nil, List.cons_append, List.nil_append, List.append_nil, List.length_cons, List.length_nil, List.getElem?_cons_zero, List.getElem?_cons_succ, List.set_cons_zero, List.set_cons_succ, true_imp_iff, false_imp_iff, not_true_eq_false, not_false_eq_true, and_true, true_and, and_false, false_and, implies_true, ↓reduceIte, Bool.false_eq_true, Bool.true_eq_false, Bool.not_eq_true, Bool.not_true, Bool.not_false, beq_self_eq_true, Bool.true_beq, Bool.false_beq, List.take_zero, List.drop_zero, List.take_succ_cons, List.drop_succ_cons, List.take_nil, List.drop_nil, List.replicate_zero, List.replicate_succ, Nat.reduceAdd, Nat.reduceSub, Nat.reduceMul, Nat.reduceLeDiff, Nat.reduceEqDiff, Nat.zero_add, Nat.add_zero, Int.reduceLT, Int.reduceLE, Int.reduceEq, Int.reduceNe, Int.reduceAdd, Int.reduceSub, Int.reduceMul, Int.reduceNeg, Int.reduceToNat, Int.toNat_natCast, Int.natCast_nonneg, Int.natCast_zero, Nat.lt_irrefl, Option.some.injEq, reduceCtorEq, Option.map_some, ne_eq, ↓q, q, ↓qB_eqA2, qB_eqA2, ev4, ev_take, hl, hl', t1, t2, ev_strip, AV.strip1]
  refine ⟨fun h1 => ⟨fun h3 => ?_, fun h3 => ?_⟩, fun h1 => ?_⟩
  all_goals simp only [gone, *]
  all_goals simp_all

def c35 : ACode := (.seq (.reg false 1 [⟨(.some 2), none, (.m .box 0), [(.t 0)]⟩, ⟨(.some 3), none, (.q .mv), [(.c (.imm (.bool false)))]⟩]) (.seq (.reg false 0 [⟨(.some 4), none, (.l (.loadA 38)), [(.t 2)]⟩, ⟨(.some 5), none, (.l (.loadA 38)), [(.t 1)]⟩, ⟨(.some 6), none, (.call true), [(.c (.fn (.func 29) [] [])), (.t 4), (.t 5)]⟩, ⟨(.some 7), none, (.q (.bin .gtr 3)), [(.t 6), (.c (.imm (.int .i64 0)))]⟩, ⟨(.some 3), none, (.q .mv), [(.t 7)]⟩]) .ret))
theorem fn35 : IsFn Tryz.prog 35 [] c35 [3] 8 := ⟨_, _, Tryz.func35, rfl, by decide +kernel, by kernel_rfl, rfl, rfl⟩
theorem p35c (e f : Ev) (he : EvOk e) (hf : EvOk f) : Pure Tryz.prog G 35 [evV f, .rptr (evCells e) 0] (bool (decide (0 < cmpEv f e))) := by
  refine pure_of_code' (S := sp [(29, ev2n cmpEv)] []) hm hG (sp_holds (.cons (told_ev2n p29c) .nil) .nil) fn35 (St 4 8 [evV f, .rptr (evCells e) 0, .junk, .junk] []) (by kernel_rfl) (by simp [lows, AV.low, lows_ev]) (by simp [AV.low]) ?_
  have hl := ev_len hf.len
  have hl' := ev_len he.len
  have t1 := take38 he
  have t2 := take38 hf
  have q : ∀ K, ask (ev2n cmpEv) [.agg (evCells f), .agg (evCells e)] K = K (i64 (cmpEv f e)) := fun K => ask_ev2n hf he
  simp (maxSteps := 2000000) -implicitDefEqProofs only [c35, RS, retC_normal, retC_ret, rvals_nil, rvals_tmp, rvals_cell, collect_one, collect_two, Nat.reduceLT, ↓RP0, ↓RP1, ↓RP2, ↓RP3, RV, List.map_cons, List.map_nil, List.cons_append, List.nil_append, List.append_nil, List.length_cons, List.length_nil, List.getElem?_cons_zero, List.getElem?_cons_succ, List.set_cons_zero, List.set_cons_succ, true_imp_iff, false_imp_iff, not_true_eq_false, not_false_eq_true, and_true, true_and, and_false, false_and, implies_true, ↓reduceIte, Bool.false_eq_true, Bool.true_eq_false, Bool.not_eq_true, Bool.not_true, Bool.not_false, beq_self_eq_true, Bool.true_beq, Bool.false_beq, List.take_zero, List.drop_zero, List.take_succ_cons, List.drop_succ_cons, List.take_nil, List.drop_nil, List.replicate_zero, List.replicate_succ, Nat.reduceAdd, Nat.reduceSub, Nat.reduceMul, Nat.reduceLeDiff, Nat.reduceEqDiff, Nat.zero_add, Nat.add_zero, Int.reduceLT, Int.reduceLE, Int.reduceEq, Int.reduceNe, Int.reduceAdd, Int.reduceSub, Int.reduceMul, Int.reduceNeg, Int.reduceToNat, Int.toNat_natCast, Int.natCast_nonneg, Int.natCast_zero, Nat.lt_irrefl, Option.some.injEq, reduceCtorEq, Option.map_some, ne_eq, ↓q, q, ev4, ev_take, hl, hl', t1, t2, ev_strip, AV.strip1]
  refine ⟨fun h => ?_, fun h => ?_⟩ <;> simp [h]

def c39 : ACode := (.seq (.reg false 1 [⟨(.some 2), none, (.m .box 0), [(.t 0)]⟩, ⟨(.some 3), none, (.q .mv), [(.c (.imm (.bool false)))]⟩]) (.seq (.reg false 0 [⟨(.some 4), none, (.q (.faddr 4)), [(.t 2)]⟩, ⟨(.some 5), none, (.l .load1), [(.t 4)]⟩, ⟨(.some 6), none, (.l .load1), [(.t 1)]⟩, ⟨(.some 7), none, (.q (.bin .neq 9)), [(.t 5), (.t 6)]⟩, ⟨(.some 3), none, (.q .mv), [(.t 7)]⟩]) .ret))
theorem fn39 : IsFn Tryz.prog 39 [] c39 [3] 8 := ⟨_, _, Tryz.func39, rfl, by decide +kernel, by kernel_rfl, rfl, rfl⟩
theorem p39c (d : List UInt8) (e : Ev) (he : EvOk e) : Pure Tryz.prog G 39 [evV e, .rptr [T d] 0] (bool (decide (¬ e.path = d))) := by
  refine pure_of_code' (S := sp [] []) hm hG (sp_holds .nil .nil) fn39 (St 4 8 [evV e, .rptr [T d] 0, .junk, .junk] []) (by kernel_rfl) (by simp [lows, AV.low, lows_ev]) (by simp [AV.low]) ?_
  have hl := ev_len he.len
  simp (maxSteps := 2000000) -implicitDefEqProofs only [c39, RS, retC_normal, retC_ret, rvals_nil, rvals_tmp, rvals_cell, collect_one, collect_two, Nat.reduceLT, ↓RP0, ↓RP1, ↓RP2, ↓RP3, RV, List.map_cons, List.map_nil, List.cons_append, List.nil_append, List.append_nil, List.length_cons, List.length_nil, List.getElem?_cons_zero, List.getElem?_cons_succ, List.set_cons_zero, List.set_cons_succ, true_imp_iff, false_imp_iff, not_true_eq_false, not_false_eq_true, and_true, true_and, and_false, false_and, implies_true, ↓reduceIte, Bool.false_eq_true, Bool.true_eq_false, Bool.not_eq_true, Bool.not_true, Bool.not_false, beq_self_eq_true, Bool.true_beq, Bool.false_beq, List.take_zero, List.drop_zero, List.take_succ_cons, List.drop_succ_cons, List.take_nil, List.drop_nil, List.replicate_zero, List.replicate_succ, Nat.reduceAdd, Nat.reduceSub, Nat.reduceMul, Nat.reduceLeDiff, Nat.reduceEqDiff, Nat.zero_add, Nat.add_zero, Int.reduceLT, Int.reduceLE, Int.reduceEq, Int.reduceNe, Int.reduceAdd, Int.reduceSub, Int.reduceMul, Int.reduceNeg, Int.reduceToNat, Int.toNat_natCast, Int.natCast_nonneg, Int.natCast_zero, Nat.lt_irrefl, Option.some.injEq, reduceCtorEq, Option.map_some, ne_eq, ev4, hl]
  refine ⟨fun h => ?_, fun h => ?_⟩ <;> simp [h]

def c46 : ACode := (.seq (.reg false 1 [⟨(.some 2), none, (.m .box 0), [(.t 0)]⟩, ⟨(.some 3), none, (.q .mv), [(.c (.imm (.bool false)))]⟩]) (.seq (.reg false 0 [⟨(.some 4), none, (.q (.faddr 3)), [(.t 2)]⟩, ⟨(.some 5), none, (.l .load1), [(.t 4)]⟩, ⟨(.some 6), none, (.q (.bin .eql 3)), [(.t 5), (.c (.imm (.int .i64 2)))]⟩, ⟨(.some 7), none, (.q .mv), [(.t 6)]⟩, ⟨(.some 8), (.some (7, true)), (.l .load1), [(.t 1)]⟩, ⟨(.some 9), (.some (7, true)), (.q (.faddr 0)), [(.t 2)]⟩, ⟨(.some 10), (.some (7, true)), (.l (.loadA 2)), [(.t 9)]⟩, ⟨(.some 11), (.some (7, true)), (.call true), [(.c (.fn (.func 47) [] [])), (.t 8), (.t 10)]⟩, ⟨(.some 12), none, (.q .pick), [(.t 7), (.t 11), (.c (.imm (.bool false)))]⟩, ⟨(.some 3), none, (.q .mv), [(.t 12)]⟩]) .ret))
theorem fn46 : IsFn Tryz.prog 46 [] c46 [3] 13 := ⟨_, _, Tryz.func46, rfl, by decide +kernel, by kernel_rfl, rfl, rfl⟩
theorem p46c (v : Vec) (hv : Small v) (e : Ev) (he : EvOk e) : Pure Tryz.prog G 46 [evV e, .rptr [vecV v] 0] (bool (decide (e.kind = 2) && hasP v e.r e.q)) := by
  refine pure_of_code' (S := sp [(47, vecDotb hasP)] []) hm hG (sp_holds (.cons (told_vecDotb fun v r q h => p47' v r q h) .nil) .nil) fn46 (St 4 13 [evV e, .rptr [vecV v] 0, .junk, .junk] []) (by kernel_rfl) (by simp [lows, AV.low, lows_ev, lows_vdots]) (by simp [AV.low]) ?_
  have hl := ev_len he.len
  simp (maxSteps := 2000000) -implicitDefEqProofs only [c46, RS, retC_normal, retC_ret, rvals_nil, rvals_tmp, rvals_cell, collect_one, collect_two, Nat.reduceLT, ↓RP0, ↓RP1, ↓RP2, ↓RP3, RV, List.map_cons, List.map_nil, List.cons_append, List.nil_append, List.append_nil, List.length_cons, List.length_nil, List.getElem?_cons_zero, List.getElem?_cons_succ, List.set_cons_zero, List.set_cons_succ, true_imp_iff, false_imp_iff, not_true_eq_false, not_false_eq_true, and_true, true_and, and_false, false_and, implies_true, ↓reduceIte, Bool.false_eq_true, Bool.true_eq_false, Bool.not_eq_true, Bool.not_true, Bool.not_false, beq_self_eq_true, Bool.true_beq, Bool.false_beq, List.take_zero, List.drop_zero, List.take_succ_cons, List.drop_succ_cons, List.take_nil, List.drop_nil, List.replicate_zero, List.replicate_succ, Nat.reduceAdd, Nat.reduceSub, Nat.reduceMul, Nat.reduceLeDiff, Nat.reduceEqDiff, Nat.zero_add, Nat.add_zero, Int.reduceLT, Int.reduceLE, Int.reduceEq, Int.reduceNe, Int.reduceAdd, Int.reduceSub, Int.reduceMul, Int.reduceNeg, Int.reduceToNat, Int.toNat_natCast, Int.natCast_nonneg, Int.natCast_zero, Nat.lt_irrefl, Option.some.injEq, reduceCtorEq, Option.map_some, ne_eq, ↓ask_vecDotb, ask_vecDotb, ev3, ev_take, hl, AV.strip1]
  refine ⟨fun h => ⟨hv, ⟨fun h1 => ?_, fun h1 => ?_⟩⟩, fun h => ?_⟩ <;> simp [*]

/-- f, at e's path, is another one, and knows it. -/
def beaten (e f : Ev) : Bool := decide (f.path = e.path) && !decide (f.r = e.r ∧ f.q = e.q) && knows f e
def c26 : ACode := (.seq (.reg false 1 [⟨(.some 2), none, (.m .box 0), [(.t 0)]⟩, ⟨(.some 3), none, (.q .mv), [(.c (.imm (.bool false)))]⟩]) (.seq (.reg false 0 [⟨(.some 4), none, (.q (.faddr 4)), [(.t 2)]⟩, ⟨(.some 5), none, (.l .load1), [(.t 4)]⟩, ⟨(.some 6), none, (.q (.faddr 4)), [(.t 1)]⟩, ⟨(.some 7), none, (.l .load1), [(.t 6)]⟩, ⟨(.some 8), none, (.q (.bin .eql 9)), [(.t 5), (.t 7)]⟩, ⟨(.some 9), none, (.q .mv), [(.t 8)]⟩, ⟨(.some 10), (.some (9, true)), (.q (.faddr 0)), [(.t 2)]⟩, ⟨(.some 11), (.some (9, true)), (.l (.loadA 2)), [(.t 10)]⟩, ⟨(.some 12), (.some (9, true)), (.q (.faddr 0)), [(.t 1)]⟩, ⟨(.some 13), (.some (9, true)), (.l (.loadA 2)), [(.t 12)]⟩, ⟨(.some 14), (.some (9, true)), (.q (.eqA true 2)), [(.t 11), (.t 13)]⟩, ⟨(.some 15), none, (.q .pick), [(.t 9), (.t 14), (.c (.imm (.bool false)))]⟩, ⟨(.some 16), none, (.q .mv), [(.t 15)]⟩, ⟨(.some 17), (.some (16, true)), (.l (.loadA 38)), [(.t 2)]⟩, ⟨(.some 18), (.some (16, true)), (.l (.loadA 38)), [(.t 1)]⟩, ⟨(.some 19), (.some (16, true)), (.call true), [(.c (.fn (.func 27) [] [])), (.t 17), (.t 18)]⟩, ⟨(.some 20), none, (.q .pick), [(.t 16), (.t 19), (.c (.imm (.bool false)))]⟩, ⟨(.some 3), none, (.q .mv), [(.t 20)]⟩]) .ret))
theorem fn26 : IsFn Tryz.prog 26 [] c26 [3] 21 := ⟨_, _, Tryz.func26, rfl, by decide +kernel, by kernel_rfl, rfl, rfl⟩
theorem p26c (e f : Ev) (he : EvOk e) (hf : EvOk f) : Pure Tryz.prog G 26 [evV f, .rptr (evCells e) 0] (bool (beaten e f)) := by
  refine pure_of_code' (S := sp [(27, ev2b knows)] []) hm hG (sp_holds (.cons (told_ev2b p27') .nil) .nil) fn26 (St 4 21 [evV f, .rptr (evCells e) 0, .junk, .junk] []) (by kernel_rfl) (by simp [lows, AV.low, lows_ev]) (by simp [AV.low]) ?_
  have hl := ev_len hf.len
  have hl' := ev_len he.len
  have t1 := take38 he
  have t2 := take38 hf
  have q : ∀ K, ask (ev2b knows) [.agg (evCells f), .agg (evCells e)] K = splitB (knows f e) K := fun K => ask_ev2b hf he
  simp (maxSteps := 2000000) -implicitDefEqProofs only [c26, RS, retC_normal, retC_ret, rvals_nil, rvals_tmp, rvals_cell, collect_one, collect_two, Nat.reduceLT, ↓RP0, ↓RP1, ↓RP2, ↓RP3, RV, List.map_cons, List.map_nil, List.cons_append, List.nil_append, List.append_nil, List.length_cons, List.length_nil, List.getElem?_cons_zero, List.getElem?_cons_succ, List.set_cons_zero, List.set_cons_succ, true_imp_iff, false_imp_iff, not_true_eq_false, not_false_eq_true, and_true, true_and, and_false, false_and, implies_true, ↓reduceIte, Bool.false_eq_true, Bool.true_eq_false, Bool.not_eq_true, Bool.not_true, Bool.not_false, beq_self_eq_true, Bool.true_beq, Bool.false_beq, List.take_zero, List.drop_zero, List.take_succ_cons, List.drop_succ_cons, List.take_nil, List.drop_nil, List.replicate_zero, List.replicate_succ, Nat.reduceAdd, Nat.reduceSub, Nat.reduceMul, Nat.reduceLeDiff, Nat.reduceEqDiff, Nat.zero_add, Nat.add_zero, Int.reduceLT, Int.reduceLE, Int.reduceEq, Int.reduceNe, Int.reduceAdd, Int.reduceSub, Int.reduceMul, Int.reduceNeg, Int.reduceToNat, Int.toNat_natCast, Int.natCast_nonneg, Int.natCast_zero, Nat.lt_irrefl, Option.some.injEq, reduceCtorEq, Option.map_some, ne_eq, ↓q, q, ↓qB_neA2, qB_neA2, ev4, ev_take, hl, hl', t1, t2, ev_strip, AV.strip1]
  refine ⟨fun h1 => ⟨fun h2 => ?_, fun h2 => ⟨fun h3 => ?_, fun h3 => ?_⟩⟩, fun h1 => ?_⟩
  all_goals simp only [beaten, *]
  all_goals simp_all

/-- Where the first one stands of which something holds; -1: nowhere. -/
def idxOf {α : Type} (p : α → Bool) (l : List α) : Int := if l.any p = true then (l.findIdx p : Int) else -1
theorem idxOf_hit {α : Type} {p : α → Bool} {l : List α} {i : Nat} (h : i < l.length) (hp : p l[i] = true) (hn : (l.take i).any p = false) : idxOf p l = i := by
  have h1 : l.any p = true := List.any_eq_true.2 ⟨_, List.getElem_mem h, hp⟩
  unfold idxOf
  rw [if_pos h1, (List.findIdx_eq h).2 ⟨hp, fun j hj => ?_⟩]
  rw [List.any_eq_false] at hn
  have := hn l[j] (by rw [List.mem_take_iff_getElem]; exact ⟨j, by omega, rfl⟩)
  simpa using this
theorem idxOf_none {α : Type} {p : α → Bool} {l : List α} (h : l.any p = false) : idxOf p l = -1 := by
  unfold idxOf; rw [h]; rfl

def c34 : ACode := (.seq (.reg false 0 [⟨(.some 4), none, (.q .mv), [(.c (.imm (.int .i64 0)))]⟩]) (.seq (.seq (.reg false 0 [⟨(.some 6), none, (.q .mv), [(.t 0)]⟩, ⟨(.some 7), none, (.q .lenL), [(.t 6)]⟩, ⟨(.some 8), none, (.q .mv), [(.c (.imm (.int .i64 0)))]⟩]) (.block 0 (.loop (.seq (.reg false 0 [⟨(.some 9), none, (.q (.bin .lss 3)), [(.t 8), (.t 7)]⟩]) (.seq (.cond (.t 9) .skip (.exit 0)) (.seq (.block 1 (.seq (.reg false 0 [⟨(.some 10), none, (.q .mv), [(.t 8)]⟩, ⟨(.some 5), none, (.q .mv), [(.t 10)]⟩]) (.seq (.reg false 0 [⟨(.some 11), none, (.q .mv), [(.t 1)]⟩, ⟨(.some 12), none, (.q .mv), [(.t 0)]⟩, ⟨(.some 13), none, (.q .mv), [(.t 5)]⟩, ⟨(.some 14), none, (.q (.iaddrS 38)), [(.t 12), (.t 13)]⟩, ⟨(.some 15), none, (.l (.loadA 38)), [(.t 14)]⟩, ⟨(.some 16), none, (.call true), [(.t 11), (.t 15)]⟩]) (.cond (.t 16) (.seq (.reg false 0 [⟨(.some 17), none, (.q .mv), [(.t 5)]⟩, ⟨(.some 4), none, (.q .mv), [(.t 17)]⟩]) .ret) .skip)))) (.reg false 0 [⟨(.some 18), none, (.q (.bin .add 3)), [(.t 8), (.c (.imm (.int .i64 1)))]⟩, ⟨(.some 8), none, (.q .mv), [(.t 18)]⟩]))))))) (.seq (.reg false 0 [⟨(.some 4), none, (.q .mv), [(.c (.imm (.int .i64 (-1))))]⟩]) .ret)))
theorem fn34 : IsFn Tryz.prog 34 [] c34 [4] 19 := ⟨_, _, Tryz.func34, rfl, by decide +kernel, by kernel_rfl, rfl, rfl⟩
set_option maxHeartbeats 2000000 in
theorem p34c {g : Nat} {caps : List AV} {p : Ev → Bool} (hc : lows 0 caps) (hst : caps.map AV.strip = caps) (hg : ∀ e, EvOk e → Pure Tryz.prog G g (evV e :: caps) (bool (p e))) (l : List Ev) (ho : AllOk l) (hs : l.length ≤ 1099511627776) :
    Pure Tryz.prog G 34 [evsV l, .fn (.func g) [] caps] (i64 (idxOf p l)) := by
  refine pure_of_code' (S := sp [(g, ev1c caps p)] []) hm hG (sp_holds (.cons (told_ev1c hg) .nil) .nil) fn34 (St 9 19 [evsV l, .fn (.func g) [] caps, .junk, .junk, .junk, .junk, .junk, .junk, .junk] []) (by kernel_rfl) (by simp [lows, AV.low, lows_evs, hc]) (by simp [AV.low]) ?_
  simp (maxSteps := 2000000) -implicitDefEqProofs only [c34, RS, retC_normal, retC_ret, rvals_nil, rvals_tmp, rvals_cell, collect_one, collect_two, Nat.reduceLT, ↓RP0, ↓RP1, ↓RP2, ↓RP3, RV, List.map_cons, List.map_nil, List.cons_append, List.nil_append, List.append_nil, List.length_cons, List.length_nil, List.getElem?_cons_zero, List.getElem?_cons_succ, List.set_cons_zero, List.set_cons_succ, true_imp_iff, false_imp_iff, not_true_eq_false, not_false_eq_true, and_true, true_and, and_false, false_and, implies_true, ↓reduceIte, Bool.false_eq_true, Bool.true_eq_false, Bool.not_eq_true, Bool.not_true, Bool.not_false, beq_self_eq_true, Bool.true_beq, Bool.false_beq, List.take_zero, List.drop_zero, List.take_succ_cons, List.drop_succ_cons, List.take_nil, List.drop_nil, List.replicate_zero, List.replicate_succ, Nat.reduceAdd, Nat.reduceSub, Nat.reduceMul, Nat.reduceLeDiff, Nat.reduceEqDiff, Nat.zero_add, Nat.add_zero, Int.reduceLT, Int.reduceLE, Int.reduceEq, Int.reduceNe, Int.reduceAdd, Int.reduceSub, Int.reduceMul, Int.reduceNeg, Int.reduceToNat, Int.toNat_natCast, Int.natCast_nonneg, Int.natCast_zero, Nat.lt_irrefl, Option.some.injEq, reduceCtorEq, Option.map_some, ne_eq, evs_len]
  refine loopB (st := fun (i : Nat) => (St 9 19 [evsV l, .fn (.func g) [] caps, .junk, .junk, i64 0, .junk, evsV l, i64 l.length, i64 i] [])) (hp := fun _ => []) (I := fun i => i ≤ l.length ∧ (l.take i).any p = false) (m := fun i => l.length - i) (0 : Nat) ⟨Nat.zero_le _, rfl⟩ ?_ ?_
  · refine weak_nilS ?_; simp [WeakL, AV.low, lows, lows_evs, hc]
  · rintro i ⟨hi, hn⟩
    by_cases hlt : i < l.length
    · have e1 := evs_get hlt
      have e3 : (i : Int) < (l.length : Int) := by omega
      have t1 := evs_take hlt
      have o1 := evs_ok ho i
      have hany : (l.take (i + 1)).any p = ((l.take i).any p || p (l.getD i ev0d)) := by rw [t1]; simp
      have hhit : p (l.getD i ev0d) = true → idxOf p l = i := fun h => idxOf_hit hlt (by rwa [List.getD_eq_getElem?_getD, List.getElem?_eq_getElem hlt] at h) hn
      generalize l.getD i ev0d = x at *
      have l1 := ev_len o1.len
      have k1 := take38 o1
      have q : ∀ K, ask (ev1c caps p) (.agg (evCells x) :: caps) K = splitB (p x) K := fun K => ask_ev1c o1
      simp (maxSteps := 2000000) -implicitDefEqProofs only [RS, retC_normal, retC_ret, rvals_nil, rvals_tmp, rvals_cell, collect_one, collect_two, Nat.reduceLT, ↓RP0, ↓RP1, ↓RP2, ↓RP3, RV, List.map_cons, List.map_nil, List.cons_append, List.nil_append, List.append_nil, List.length_cons, List.length_nil, List.getElem?_cons_zero, List.getElem?_cons_succ, List.set_cons_zero, List.set_cons_succ, true_imp_iff, false_imp_iff, not_true_eq_false, not_false_eq_true, and_true, true_and, and_false, false_and, implies_true, ↓reduceIte, Bool.false_eq_true, Bool.true_eq_false, Bool.not_eq_true, Bool.not_true, Bool.not_false, beq_self_eq_true, Bool.true_beq, Bool.false_beq, List.take_zero, List.drop_zero, List.take_succ_cons, List.drop_succ_cons, List.take_nil, List.drop_nil, List.replicate_zero, List.replicate_succ, Nat.reduceAdd, Nat.reduceSub, Nat.reduceMul, Nat.reduceLeDiff, Nat.reduceEqDiff, Nat.zero_add, Nat.add_zero, Int.reduceLT, Int.reduceLE, Int.reduceEq, Int.reduceNe, Int.reduceAdd, Int.reduceSub, Int.reduceMul, Int.reduceNeg, Int.reduceToNat, Int.toNat_natCast, Int.natCast_nonneg, Int.natCast_zero, Nat.lt_irrefl, Option.some.injEq, reduceCtorEq, Option.map_some, ne_eq, ↓q, q, e1, e3, evs_len, l1, k1, ev_strip, hst, AV.cells]
      refine ⟨fun h => ?_, fun h => ⟨⟨by omega, by omega⟩, i + 1, by dsimp only; omega, ⟨by omega, by rw [hany, hn, h]; rfl⟩, ?_⟩⟩
      · rw [hhit h]
      · refine weak_nilS ?_; simp [WeakL, AV.low, lows, lows_evs, hc]
    · obtain rfl : i = l.length := by omega
      rw [List.take_length] at hn
      simp (maxSteps := 2000000) -implicitDefEqProofs only [RS, retC_normal, retC_ret, rvals_nil, rvals_tmp, rvals_cell, collect_one, collect_two, Nat.reduceLT, ↓RP0, ↓RP1, ↓RP2, ↓RP3, RV, List.map_cons, List.map_nil, List.cons_append, List.nil_append, List.append_nil, List.length_cons, List.length_nil, List.getElem?_cons_zero, List.getElem?_cons_succ, List.set_cons_zero, List.set_cons_succ, true_imp_iff, false_imp_iff, not_true_eq_false, not_false_eq_true, and_true, true_and, and_false, false_and, implies_true, ↓reduceIte, Bool.false_eq_true, Bool.true_eq_false, Bool.not_eq_true, Bool.not_true, Bool.not_false, beq_self_eq_true, Bool.true_beq, Bool.false_beq, List.take_zero, List.drop_zero, List.take_succ_cons, List.drop_succ_cons, List.take_nil, List.drop_nil, List.replicate_zero, List.replicate_succ, Nat.reduceAdd, Nat.reduceSub, Nat.reduceMul, Nat.reduceLeDiff, Nat.reduceEqDiff, Nat.zero_add, Nat.add_zero, Int.reduceLT, Int.reduceLE, Int.reduceEq, Int.reduceNe, Int.reduceAdd, Int.reduceSub, Int.reduceMul, Int.reduceNeg, Int.reduceToNat, Int.toNat_natCast, Int.natCast_nonneg, Int.natCast_zero, Nat.lt_irrefl, Option.some.injEq, reduceCtorEq, Option.map_some, ne_eq, evs_len, Int.lt_irrefl]
      rw [idxOf_none hn]

def evsFn (g : Nat) (caps : List AV) (f : List Ev → AV) : PSp := fun args K => ∃ l, args = [evsV l, .fn (.func g) [] caps] ∧ AllOk l ∧ l.length ≤ 1099511627776 ∧ K (f l)
theorem ask_evsFn {g caps f} {l : List Ev} {K} (ho : AllOk l) : ask (evsFn g caps f) [evsV l, .fn (.func g) [] caps] K = (l.length ≤ 1099511627776 ∧ K (f l)) := by
  show (∃ l', [evsV l, .fn (.func g) [] caps] = [evsV l', .fn (.func g) [] caps] ∧ AllOk l' ∧ l'.length ≤ 1099511627776 ∧ K (f l')) = _
  simp only [eq_iff_iff]
  constructor
  · rintro ⟨l', h1, h2, h3, h4⟩
    have h5 : l.map evV = l'.map evV := by injection h1 with h1 _; injection h1
    obtain rfl := evs_inj ho h2 h5
    exact ⟨h3, h4⟩
  · exact fun h => ⟨l, rfl, ho, h⟩
theorem told_evsFn {F g caps f} (h : ∀ l, AllOk l → l.length ≤ 1099511627776 → Pure Tryz.prog G F [evsV l, .fn (.func g) [] caps] (f l)) : Told Tryz.prog G F (evsFn g caps f) := by
  rintro args K ⟨l, rfl, h1, h2, h3⟩
  exact ⟨_, h _ h1 h2, h3⟩

theorem idxOf_ge {α : Type} {p : α → Bool} {l : List α} : 0 ≤ idxOf p l ↔ l.any p = true := by
  unfold idxOf
  split <;> simp_all

def c25 : ACode := (.seq (.reg false 0 [⟨(.some 4), none, (.q .mv), [(.c (.imm (.bool false)))]⟩]) (.seq (.reg false 0 [⟨(.some 5), none, (.q .mv), [(.t 0)]⟩, ⟨(.some 6), none, (.q .mv), [(.t 1)]⟩, ⟨(.some 7), none, (.call true), [(.c (.fn (.func 34) [] [])), (.t 5), (.t 6)]⟩, ⟨(.some 8), none, (.q (.bin .geq 3)), [(.t 7), (.c (.imm (.int .i64 0)))]⟩, ⟨(.some 4), none, (.q .mv), [(.t 8)]⟩]) .ret))
theorem fn25 : IsFn Tryz.prog 25 [] c25 [4] 9 := ⟨_, _, Tryz.func25, rfl, by decide +kernel, by kernel_rfl, rfl, rfl⟩
theorem p25c {g : Nat} {caps : List AV} {p : Ev → Bool} (hc : lows 0 caps) (hst : caps.map AV.strip = caps) (hg : ∀ e, EvOk e → Pure Tryz.prog G g (evV e :: caps) (bool (p e))) (l : List Ev) (ho : AllOk l) (hs : l.length ≤ 1099511627776) :
    Pure Tryz.prog G 25 [evsV l, .fn (.func g) [] caps] (bool (l.any p)) := by
  refine pure_of_code' (S := sp [(34, evsFn g caps fun l => i64 (idxOf p l))] []) hm hG (sp_holds (.cons (told_evsFn fun l h1 h2 => p34c hc hst hg l h1 h2) .nil) .nil) fn25 (St 5 9 [evsV l, .fn (.func g) [] caps, .junk, .junk, .junk] []) (by kernel_rfl) (by simp [lows, AV.low, lows_evs, hc]) (by simp [AV.low]) ?_
  have q : ∀ K, ask (evsFn g caps fun l => i64 (idxOf p l)) [.sl 38 (l.map evV) none, .fn (.func g) [] caps] K = (l.length ≤ 1099511627776 ∧ K (i64 (idxOf p l))) := fun K => ask_evsFn ho
  simp (maxSteps := 2000000) -implicitDefEqProofs only [c25, RS, retC_normal, retC_ret, rvals_nil, rvals_tmp, rvals_cell, collect_one, collect_two, Nat.reduceLT, ↓RP0, ↓RP1, ↓RP2, ↓RP3, RV, List.map_cons, List.map_nil, List.cons_append, List.nil_append, List.append_nil, List.length_cons, List.length_nil, List.getElem?_cons_zero, List.getElem?_cons_succ, List.set_cons_zero, List.set_cons_succ, true_imp_iff, false_imp_iff, not_true_eq_false, not_false_eq_true, and_true, true_and, and_false, false_and, implies_true, ↓reduceIte, Bool.false_eq_true, Bool.true_eq_false, Bool.not_eq_true, Bool.not_true, Bool.not_false, beq_self_eq_true, Bool.true_beq, Bool.false_beq, List.take_zero, List.drop_zero, List.take_succ_cons, List.drop_succ_cons, List.take_nil, List.drop_nil, List.replicate_zero, List.replicate_succ, Nat.reduceAdd, Nat.reduceSub, Nat.reduceMul, Nat.reduceLeDiff, Nat.reduceEqDiff, Nat.zero_add, Nat.add_zero, Int.reduceLT, Int.reduceLE, Int.reduceEq, Int.reduceNe, Int.reduceAdd, Int.reduceSub, Int.reduceMul, Int.reduceNeg, Int.reduceToNat, Int.toNat_natCast, Int.natCast_nonneg, Int.natCast_zero, Nat.lt_irrefl, Option.some.injEq, reduceCtorEq, Option.map_some, ne_eq, ↓q, q]
  refine ⟨hs, fun h => ?_, fun h => ?_⟩
  · rw [idxOf_ge.1 h]
  · rw [show l.any p = false by cases h1 : l.any p; rfl; exact absurd (idxOf_ge.2 h1) h]
end Go.AL.Path
