/- Vectors of the program; events. -/
import Derived.Test.YtcppnhnomemphaaGreatDoorG21
set_option linter.unusedSimpArgs false
set_option linter.unusedVariables false
set_option maxRecDepth 100000
namespace Go.AL.Path
open Go Go.RowKit Go.Proofs Go.AL

def c51 : ACode := (.seq (.reg false 0 [⟨(.some 4), none, (.q .mv), [(.c (.imm (.int .i64 0)))]⟩]) (.seq (.seq (.reg false 0 [⟨(.some 5), none, (.q .mv), [(.t 1)]⟩, ⟨(.some 6), none, (.q (.bin .lss 3)), [(.t 5), (.c (.imm (.int .i64 0)))]⟩, ⟨(.some 7), none, (.q .mv), [(.t 6)]⟩, ⟨(.some 8), (.some (7, false)), (.q .mv), [(.t 1)]⟩, ⟨(.some 9), (.some (7, false)), (.q (.bin .geq 3)), [(.t 8), (.c (.imm (.int .i64 32)))]⟩, ⟨(.some 10), none, (.q .pick), [(.t 7), (.c (.imm (.bool true))), (.t 9)]⟩]) (.cond (.t 10) (.seq (.reg false 0 [⟨(.some 4), none, (.q .mv), [(.c (.imm (.int .i64 0)))]⟩]) .ret) .skip)) (.seq (.reg false 0 [⟨(.some 11), none, (.q .mv), [(.t 0)]⟩, ⟨(.some 12), none, (.call true), [(.c (.fn (.func 65) [] [])), (.t 11)]⟩, ⟨(.some 13), none, (.q .mv), [(.t 1)]⟩, ⟨(.some 14), none, (.q (.idx1 32)), [(.t 12), (.t 13)]⟩, ⟨(.some 4), none, (.q .mv), [(.t 14)]⟩]) .ret)))
theorem fn51 : IsFn Tryz.prog 51 [] c51 [4] 15 := ⟨_, _, Tryz.func51, rfl, by decide +kernel, by kernel_rfl, rfl, rfl⟩
set_option maxHeartbeats 2000000 in
theorem p51' (v : Vec) (r : Int) (hv : Small v) : Pure Tryz.prog G 51 [vecV v, i64 r] (i64 (getV v r)) := by
  refine pure_of_code' (S := sp [(65, vec1 (fun v => v.length ≤ 1099511627776) fun v => .agg (arr (cnt v)))] []) hm hG (sp_holds (.cons (told_vec1 p65) .nil) .nil) fn51 (St 6 15 [vecV v, i64 r, .junk, .junk, .junk, .junk] []) (by kernel_rfl) (by simp [lows, AV.low, lows_vdots]) (by simp [AV.low]) ?_
  simp (maxSteps := 2000000) -implicitDefEqProofs only [c51, RS, retC_normal, retC_ret, rvals_nil, rvals_tmp, rvals_cell, collect_one, collect_two, Nat.reduceLT, ↓RP0, ↓RP1, ↓RP2, ↓RP3, RV, List.map_cons, List.map_nil, List.cons_append, List.nil_append, List.append_nil, List.length_cons, List.length_nil, List.getElem?_cons_zero, List.getElem?_cons_succ, List.set_cons_zero, List.set_cons_succ, true_imp_iff, false_imp_iff, not_true_eq_false, not_false_eq_true, and_true, true_and, and_false, false_and, implies_true, ↓reduceIte, Bool.false_eq_true, Bool.true_eq_false, Bool.not_eq_true, Bool.not_true, Bool.not_false, beq_self_eq_true, Bool.true_beq, Bool.false_beq, List.take_zero, List.drop_zero, List.take_succ_cons, List.drop_succ_cons, List.take_nil, List.drop_nil, List.replicate_zero, List.replicate_succ, Nat.reduceAdd, Nat.reduceSub, Nat.reduceMul, Nat.reduceLeDiff, Nat.reduceEqDiff, Nat.zero_add, Nat.add_zero, Int.reduceLT, Int.reduceLE, Int.reduceEq, Int.reduceNe, Int.reduceAdd, Int.reduceSub, Int.reduceMul, Int.reduceNeg, Int.reduceToNat, Int.toNat_natCast, Int.natCast_nonneg, Int.natCast_zero, Nat.lt_irrefl, Option.some.injEq, reduceCtorEq, Option.map_some, ne_eq, ↓ask_vec1, hv]
  refine ⟨fun h => ?_, fun h => ⟨fun h1 => ?_, fun h1 => ⟨by omega, by omega, ?_⟩⟩⟩
  · unfold getV; rw [if_neg (by omega)]
  · unfold getV; rw [if_neg (by omega)]
  · unfold getV; rw [if_pos (by omega), arr_get _ (show r.toNat < 32 by omega)]; rfl

def c47 : ACode := (.seq (.reg false 1 [⟨(.some 3), none, (.m .box 0), [(.t 1)]⟩, ⟨(.some 4), none, (.q .mv), [(.c (.imm (.bool false)))]⟩]) (.seq (.reg true 0 [⟨(.some 5), none, (.l (.loadA 2)), [(.t 3)]⟩, ⟨(.some 6), none, (.call true), [(.c (.fn (.func 49) [] [])), (.t 5)]⟩, ⟨(.some 7), none, (.q .mv), [(.t 6)]⟩, ⟨(.some 8), (.some (7, true)), (.q (.faddr 1)), [(.t 3)]⟩, ⟨(.some 9), (.some (7, true)), (.l .load1), [(.t 8)]⟩, ⟨(.some 10), (.some (7, true)), (.q .mv), [(.t 0)]⟩, ⟨(.some 11), (.some (7, true)), (.q (.faddr 0)), [(.t 3)]⟩, ⟨(.some 12), (.some (7, true)), (.l .load1), [(.t 11)]⟩, ⟨(.some 13), (.some (7, true)), (.call false), [(.c (.fn (.func 51) [] [])), (.t 10), (.t 12)]⟩, ⟨(.some 14), (.some (7, true)), (.q (.bin .leq 2)), [(.t 9), (.t 13)]⟩, ⟨(.some 15), none, (.q .pick), [(.t 7), (.t 14), (.c (.imm (.bool false)))]⟩, ⟨(.some 4), none, (.q .mv), [(.t 15)]⟩]) .ret))
theorem fn47 : IsFn Tryz.prog 47 [] c47 [4] 16 := ⟨_, _, Tryz.func47, rfl, by decide +kernel, by kernel_rfl, rfl, rfl⟩
set_option maxHeartbeats 2000000 in
theorem p47' (v : Vec) (r q : Int) (hv : Small v) : Pure Tryz.prog G 47 [vecV v, dotV r q] (bool (hasP v r q)) := by
  refine pure_of_code' (S := sp [(49, dot1b dotOk), (51, vecInt fun v r => i64 (getV v r))] []) hm hG (sp_holds (.cons (told_dot1b p49) (.cons (told_vecInt fun v r h => p51' v r h) .nil)) .nil) fn47 (St 6 16 [vecV v, dotV r q, .junk, .junk, .junk, .junk] []) (by kernel_rfl) (by simp [lows, AV.low, lows_vdots]) (by simp [AV.low]) ?_
  cases hd : dotOk r q with
  | true =>
    simp (maxSteps := 2000000) -implicitDefEqProofs only [c47, RS, retC_normal, retC_ret, rvals_nil, rvals_tmp, rvals_cell, collect_one, collect_two, Nat.reduceLT, ↓RP0, ↓RP1, ↓RP2, ↓RP3, RV, List.map_cons, List.map_nil, List.cons_append, List.nil_append, List.append_nil, List.length_cons, List.length_nil, List.getElem?_cons_zero, List.getElem?_cons_succ, List.set_cons_zero, List.set_cons_succ, true_imp_iff, false_imp_iff, not_true_eq_false, not_false_eq_true, and_true, true_and, and_false, false_and, implies_true, ↓reduceIte, Bool.false_eq_true, Bool.true_eq_false, Bool.not_eq_true, Bool.not_true, Bool.not_false, beq_self_eq_true, Bool.true_beq, Bool.false_beq, List.take_zero, List.drop_zero, List.take_succ_cons, List.drop_succ_cons, List.take_nil, List.drop_nil, List.replicate_zero, List.replicate_succ, Nat.reduceAdd, Nat.reduceSub, Nat.reduceMul, Nat.reduceLeDiff, Nat.reduceEqDiff, Nat.zero_add, Nat.add_zero, Int.reduceLT, Int.reduceLE, Int.reduceEq, Int.reduceNe, Int.reduceAdd, Int.reduceSub, Int.reduceMul, Int.reduceNeg, Int.reduceToNat, Int.toNat_natCast, Int.natCast_nonneg, Int.natCast_zero, Nat.lt_irrefl, Option.some.injEq, reduceCtorEq, Option.map_some, ne_eq, ↓ask_dot1b, ↓ask_vecInt, hd]
    refine ⟨hv, fun h => ?_, fun h => ?_⟩ <;> simp [hasP, hd, h]
  | false =>
    simp (maxSteps := 2000000) -implicitDefEqProofs only [c47, RS, retC_normal, retC_ret, rvals_nil, rvals_tmp, rvals_cell, collect_one, collect_two, Nat.reduceLT, ↓RP0, ↓RP1, ↓RP2, ↓RP3, RV, List.map_cons, List.map_nil, List.cons_append, List.nil_append, List.append_nil, List.length_cons, List.length_nil, List.getElem?_cons_zero, List.getElem?_cons_succ, List.set_cons_zero, List.set_cons_succ, true_imp_iff, false_imp_iff, not_true_eq_false, not_false_eq_true, and_true, true_and, and_false, false_and, implies_true, ↓reduceIte, Bool.false_eq_true, Bool.true_eq_false, Bool.not_eq_true, Bool.not_true, Bool.not_false, beq_self_eq_true, Bool.true_beq, Bool.false_beq, List.take_zero, List.drop_zero, List.take_succ_cons, List.drop_succ_cons, List.take_nil, List.drop_nil, List.replicate_zero, List.replicate_succ, Nat.reduceAdd, Nat.reduceSub, Nat.reduceMul, Nat.reduceLeDiff, Nat.reduceEqDiff, Nat.zero_add, Nat.add_zero, Int.reduceLT, Int.reduceLE, Int.reduceEq, Int.reduceNe, Int.reduceAdd, Int.reduceSub, Int.reduceMul, Int.reduceNeg, Int.reduceToNat, Int.toNat_natCast, Int.natCast_nonneg, Int.natCast_zero, Nat.lt_irrefl, Option.some.injEq, reduceCtorEq, Option.map_some, ne_eq, ↓ask_dot1b, ↓ask_vecInt, hd]
    simp [hasP, hd]

def c50 : ACode := (.seq (.reg false 0 [⟨(.some 2), none, (.q .mv), [(.c (.imm (.bool false)))]⟩]) (.seq (.reg false 0 [⟨(.some 3), none, (.q .mv), [(.t 0)]⟩, ⟨(.some 4), none, (.q .mv), [(.t 0)]⟩, ⟨(.some 5), none, (.call true), [(.c (.fn (.func 65) [] [])), (.t 4)]⟩, ⟨(.some 6), none, (.call true), [(.c (.fn (.func 66) [] [])), (.t 5)]⟩, ⟨(.some 7), none, (.call true), [(.c (.fn (.func 64) [] [])), (.t 3), (.t 6)]⟩, ⟨(.some 2), none, (.q .mv), [(.t 7)]⟩]) .ret))
theorem fn50 : IsFn Tryz.prog 50 [] c50 [2] 8 := ⟨_, _, Tryz.func50, rfl, by decide +kernel, by kernel_rfl, rfl, rfl⟩
theorem p50 (v : Vec) (hv : Small v) : Pure Tryz.prog G 50 [vecV v] (bool (decide (v = ofP (cnt v)))) := by
  refine pure_of_code' (S := sp [(65, vec1 (fun v => v.length ≤ 1099511627776) fun v => .agg (arr (cnt v))), (66, arr1 fun f => vecV (ofP f)), (64, vec2b fun a b => decide (a = b))] []) hm hG (sp_holds (.cons (told_vec1 p65) (.cons (told_arr1 p66) (.cons (told_vec2b fun a b h => p64' a b h) .nil))) .nil) fn50 (St 4 8 [vecV v, .junk, .junk, .junk] []) (by kernel_rfl) (by simp [lows, AV.low, lows_vdots]) (by simp [AV.low]) ?_
  simp (maxSteps := 2000000) -implicitDefEqProofs only [c50, RS, retC_normal, retC_ret, rvals_nil, rvals_tmp, rvals_cell, collect_one, collect_two, Nat.reduceLT, ↓RP0, ↓RP1, ↓RP2, ↓RP3, RV, List.map_cons, List.map_nil, List.cons_append, List.nil_append, List.append_nil, List.length_cons, List.length_nil, List.getElem?_cons_zero, List.getElem?_cons_succ, List.set_cons_zero, List.set_cons_succ, true_imp_iff, false_imp_iff, not_true_eq_false, not_false_eq_true, and_true, true_and, and_false, false_and, implies_true, ↓reduceIte, Bool.false_eq_true, Bool.true_eq_false, Bool.not_eq_true, Bool.not_true, Bool.not_false, beq_self_eq_true, Bool.true_beq, Bool.false_beq, List.take_zero, List.drop_zero, List.take_succ_cons, List.drop_succ_cons, List.take_nil, List.drop_nil, List.replicate_zero, List.replicate_succ, Nat.reduceAdd, Nat.reduceSub, Nat.reduceMul, Nat.reduceLeDiff, Nat.reduceEqDiff, Nat.zero_add, Nat.add_zero, Int.reduceLT, Int.reduceLE, Int.reduceEq, Int.reduceNe, Int.reduceAdd, Int.reduceSub, Int.reduceMul, Int.reduceNeg, Int.reduceToNat, Int.toNat_natCast, Int.natCast_nonneg, Int.natCast_zero, Nat.lt_irrefl, Option.some.injEq, reduceCtorEq, Option.map_some, ne_eq, ↓ask_vec1, ↓ask_arr1, ask_arr1, arr_strip, arr_take, ↓ask_vec2b, hv]
  refine ⟨fun h => ?_, fun h => ?_⟩ <;> rw [h]

/-! Events: a dot, what was known, a kind, a path, a digest, a size. -/
structure Ev where
  r : Int
  q : Int
  deps : Vec
  kind : Int
  path : List UInt8
  sum : List Int
  size : Int
  deriving DecidableEq
def u8 (n : Int) : AV := .imm (.int .u8 n)
def evCells (e : Ev) : List AV := [i64 e.r, i64 e.q, vecV e.deps, i64 e.kind, T e.path] ++ e.sum.map u8 ++ [i64 e.size]
abbrev evV (e : Ev) : AV := .agg (evCells e)

theorem ev0 {e : Ev} : (evCells e)[0]? = some (i64 e.r) := rfl
theorem ev1 {e : Ev} : (evCells e)[1]? = some (i64 e.q) := rfl
theorem ev2 {e : Ev} : (evCells e)[2]? = some (vecV e.deps) := rfl
theorem ev3 {e : Ev} : (evCells e)[3]? = some (i64 e.kind) := rfl
theorem ev4 {e : Ev} : (evCells e)[4]? = some (T e.path) := rfl
theorem ev_take {e : Ev} : (evCells e).take 2 = [i64 e.r, i64 e.q] := rfl
theorem ev_len {e : Ev} (h : e.sum.length = 32) : (evCells e).length = 38 := by simp [evCells, h]
theorem ev_size {e : Ev} (h : e.sum.length = 32) : (evCells e)[37]? = some (i64 e.size) := by
  unfold evCells
  rw [List.getElem?_append_right (by simp [h])]
  simp [h]
theorem ev_sum {e : Ev} (h : e.sum.length = 32) : ((evCells e).drop 5).take 32 = e.sum.map u8 := by
  show ((e.sum.map u8) ++ [i64 e.size]).take 32 = _
  rw [List.take_append_of_le_length (by simp [h]), List.take_of_length_le (by simp [h])]
theorem u8_strip (l : List Int) : (l.map u8).map AV.strip1 = l.map u8 := by simp [u8, AV.strip1]
theorem ev_strip {e : Ev} : (evCells e).map AV.strip1 = evCells e := by
  unfold evCells
  simp [AV.strip1, u8]
theorem lows_u8 (n : Nat) (l : List Int) : lows n (l.map u8) := by
  induction l with
  | nil => trivial
  | cons a l ih => exact ⟨trivial, ih⟩
theorem lows_ev (n : Nat) (e : Ev) : lows n (evCells e) := by
  unfold evCells
  simp [lows, AV.low, lows_vdots, lows_u8]

/-- An event that may be handed on. -/
structure EvOk (e : Ev) : Prop where
  small : Small e.deps
  len : e.sum.length = 32
  path : e.path.length ≤ 1099511627

def evOf : List AV → Option Ev
  | .imm (.int .i64 r) :: .imm (.int .i64 q) :: .sl 2 xs none :: .imm (.int .i64 k) :: .imm (.string p) :: rest =>
    match dotsOf xs, (rest.take 32).mapM (fun x => match x with | .imm (.int .u8 n) => some n | _ => none), rest[32]? with
    | some v, some su, some (.imm (.int .i64 z)) => some ⟨r, q, v, k, p.data.toList, su, z⟩
    | _, _, _ => none
  | _ => none
theorem u8_mapM : ∀ l : List Int, (l.map u8).mapM (fun x => match x with | .imm (.int .u8 n) => some n | _ => none) = some l
  | [] => rfl
  | a :: l => by
    rw [List.map_cons, List.mapM_cons, u8_mapM l]; rfl
theorem evOf_cells {e : Ev} (h : e.sum.length = 32) : evOf (evCells e) = some e := by
  show (match dotsOf (vdots e.deps), ((e.sum.map u8 ++ [i64 e.size]).take 32).mapM _, (e.sum.map u8 ++ [i64 e.size])[32]? with
    | some v, some su, some (.imm (.int .i64 z)) => some (⟨e.r, e.q, v, e.kind, (B e.path).data.toList, su, z⟩ : Ev)
    | _, _, _ => none) = _
  rw [dotsOf_vdots, List.take_append_of_le_length (by simp [h]), List.take_of_length_le (by simp [h]), u8_mapM, List.getElem?_append_right (by simp [h])]
  simp [h, B_data]

def ev2b (f : Ev → Ev → Bool) : PSp := fun args K => match args with
  | [.agg xs, .agg ys] => (match evOf xs, evOf ys with | some e, some g => xs = evCells e ∧ ys = evCells g ∧ EvOk e ∧ EvOk g ∧ splitB (f e g) K | _, _ => False) | _ => False
theorem ask_ev2b {f} {e g : Ev} {K} (he : EvOk e) (hg : EvOk g) : ask (ev2b f) [evV e, evV g] K = splitB (f e g) K := by
  show (match evOf (evCells e), evOf (evCells g) with | some e', some g' => evCells e = evCells e' ∧ evCells g = evCells g' ∧ EvOk e' ∧ EvOk g' ∧ splitB (f e' g') K | _, _ => False) = _
  rw [evOf_cells he.len, evOf_cells hg.len]
  simp [he, hg]
theorem told_ev2b {F f} (h : ∀ e g, EvOk e → EvOk g → Pure Tryz.prog G F [evV e, evV g] (bool (f e g))) : Told Tryz.prog G F (ev2b f) := by
  intro args K hk
  unfold ev2b at hk
  split at hk
  · split at hk
    · obtain ⟨rfl, rfl, h1, h2, h3⟩ := hk
      exact ⟨_, h _ _ h1 h2, splitB_of h3⟩
    · exact hk.elim
  · exact hk.elim

def knows (e f : Ev) : Bool := hasP e.deps f.r f.q

def c12 : ACode := (.seq (.reg false 2 [⟨(.some 2), none, (.m .box 0), [(.t 0)]⟩, ⟨(.some 3), none, (.m .box 1), [(.t 1)]⟩, ⟨(.some 4), none, (.q .mv), [(.c (.imm (.bool false)))]⟩]) (.seq (.reg false 0 [⟨(.some 5), none, (.q (.faddr 2)), [(.t 2)]⟩, ⟨(.some 6), none, (.l .load1), [(.t 5)]⟩, ⟨(.some 7), none, (.q (.faddr 0)), [(.t 3)]⟩, ⟨(.some 8), none, (.l (.loadA 2)), [(.t 7)]⟩, ⟨(.some 9), none, (.call true), [(.c (.fn (.func 37) [] [])), (.t 6), (.t 8)]⟩, ⟨(.some 4), none, (.q .mv), [(.t 9)]⟩]) .ret))
theorem fn12 : IsFn Tryz.prog 12 [] c12 [4] 10 := ⟨_, _, Tryz.func12, rfl, by decide +kernel, by kernel_rfl, rfl, rfl⟩
set_option maxHeartbeats 2000000 in
theorem p12' (e f : Ev) (he : EvOk e) (hf : EvOk f) : Pure Tryz.prog G 12 [evV e, evV f] (bool (knows e f)) := by
  refine pure_of_code' (S := sp [(37, vecDotb hasP)] []) hm hG (sp_holds (.cons (told_vecDotb fun v r q h => p37' v r q h) .nil) .nil) fn12 (St 5 10 [evV e, evV f, .junk, .junk, .junk] []) (by kernel_rfl) (by simp [lows, AV.low, lows_ev]) (by simp [AV.low]) ?_
  have hl := ev_len hf.len
  have hs := he.small
  simp (maxSteps := 2000000) -implicitDefEqProofs only [c12, RS, retC_normal, retC_ret, rvals_nil, rvals_tmp, rvals_cell, collect_one, collect_two, Nat.reduceLT, ↓RP0, ↓RP1, ↓RP2, ↓RP3, RV, List.map_cons, List.map_nil, List.cons_append, List.nil_append, List.append_nil, List.length_cons, List.length_nil, List.getElem?_cons_zero, List.getElem?_cons_succ, List.set_cons_zero, List.set_cons_succ, true_imp_iff, false_imp_iff, not_true_eq_false, not_false_eq_true, and_true, true_and, and_false, false_and, implies_true, ↓reduceIte, Bool.false_eq_true, Bool.true_eq_false, Bool.not_eq_true, Bool.not_true, Bool.not_false, beq_self_eq_true, Bool.true_beq, Bool.false_beq, List.take_zero, List.drop_zero, List.take_succ_cons, List.drop_succ_cons, List.take_nil, List.drop_nil, List.replicate_zero, List.replicate_succ, Nat.reduceAdd, Nat.reduceSub, Nat.reduceMul, Nat.reduceLeDiff, Nat.reduceEqDiff, Nat.zero_add, Nat.add_zero, Int.reduceLT, Int.reduceLE, Int.reduceEq, Int.reduceNe, Int.reduceAdd, Int.reduceSub, Int.reduceMul, Int.reduceNeg, Int.reduceToNat, Int.toNat_natCast, Int.natCast_nonneg, Int.natCast_zero, Nat.lt_irrefl, Option.some.injEq, reduceCtorEq, Option.map_some, ne_eq, ↓ask_vecDotb, ask_vecDotb, ev2, ev_take, hl, hs, AV.strip1]
  refine ⟨fun h => ?_, fun h => ?_⟩ <;> rw [knows, h]

def c27 : ACode := (.seq (.reg false 2 [⟨(.some 2), none, (.m .box 0), [(.t 0)]⟩, ⟨(.some 3), none, (.m .box 1), [(.t 1)]⟩, ⟨(.some 4), none, (.q .mv), [(.c (.imm (.bool false)))]⟩]) (.seq (.reg false 0 [⟨(.some 5), none, (.q (.faddr 2)), [(.t 2)]⟩, ⟨(.some 6), none, (.l .load1), [(.t 5)]⟩, ⟨(.some 7), none, (.q (.faddr 0)), [(.t 3)]⟩, ⟨(.some 8), none, (.l (.loadA 2)), [(.t 7)]⟩, ⟨(.some 9), none, (.call true), [(.c (.fn (.func 47) [] [])), (.t 6), (.t 8)]⟩, ⟨(.some 4), none, (.q .mv), [(.t 9)]⟩]) .ret))
theorem fn27 : IsFn Tryz.prog 27 [] c27 [4] 10 := ⟨_, _, Tryz.func27, rfl, by decide +kernel, by kernel_rfl, rfl, rfl⟩
set_option maxHeartbeats 2000000 in
theorem p27' (e f : Ev) (he : EvOk e) (hf : EvOk f) : Pure Tryz.prog G 27 [evV e, evV f] (bool (knows e f)) := by
  refine pure_of_code' (S := sp [(47, vecDotb hasP)] []) hm hG (sp_holds (.cons (told_vecDotb fun v r q h => p47' v r q h) .nil) .nil) fn27 (St 5 10 [evV e, evV f, .junk, .junk, .junk] []) (by kernel_rfl) (by simp [lows, AV.low, lows_ev]) (by simp [AV.low]) ?_
  have hl := ev_len hf.len
  have hs := he.small
  simp (maxSteps := 2000000) -implicitDefEqProofs only [c27, RS, retC_normal, retC_ret, rvals_nil, rvals_tmp, rvals_cell, collect_one, collect_two, Nat.reduceLT, ↓RP0, ↓RP1, ↓RP2, ↓RP3, RV, List.map_cons, List.map_nil, List.cons_append, List.nil_append, List.append_nil, List.length_cons, List.length_nil, List.getElem?_cons_zero, List.getElem?_cons_succ, List.set_cons_zero, List.set_cons_succ, true_imp_iff, false_imp_iff, not_true_eq_false, not_false_eq_true, and_true, true_and, and_false, false_and, implies_true, ↓reduceIte, Bool.false_eq_true, Bool.true_eq_false, Bool.not_eq_true, Bool.not_true, Bool.not_false, beq_self_eq_true, Bool.true_beq, Bool.false_beq, List.take_zero, List.drop_zero, List.take_succ_cons, List.drop_succ_cons, List.take_nil, List.drop_nil, List.replicate_zero, List.replicate_succ, Nat.reduceAdd, Nat.reduceSub, Nat.reduceMul, Nat.reduceLeDiff, Nat.reduceEqDiff, Nat.zero_add, Nat.add_zero, Int.reduceLT, Int.reduceLE, Int.reduceEq, Int.reduceNe, Int.reduceAdd, Int.reduceSub, Int.reduceMul, Int.reduceNeg, Int.reduceToNat, Int.toNat_natCast, Int.natCast_nonneg, Int.natCast_zero, Nat.lt_irrefl, Option.some.injEq, reduceCtorEq, Option.map_some, ne_eq, ↓ask_vecDotb, ask_vecDotb, ev2, ev_take, hl, hs, AV.strip1]
  refine ⟨fun h => ?_, fun h => ?_⟩ <;> rw [knows, h]
end Go.AL.Path

/- Events: the same, compared, what may be. -/
set_option linter.unusedSimpArgs false
set_option linter.unusedVariables false
set_option maxRecDepth 100000
namespace Go.AL.Path
open Go Go.RowKit Go.Proofs Go.AL

theorem eqCells_u8 : ∀ (l m : List Int), l.length = m.length → eqCells (l.map u8) (m.map u8) = some (decide (l = m))
  | [], [], _ => rfl
  | a :: l, b :: m, h => by
    have ih := eqCells_u8 l m (by simpa using h)
    show (match eqCell (u8 a) (u8 b), eqCells (l.map u8) (m.map u8) with | some x, some y => some (x && y) | _, _ => none) = _
    rw [ih]
    show some ((a == b) && decide (l = m)) = _
    congr 1
    have e1 : (a == b) = decide (a = b) := rfl
    rw [e1]
    by_cases h1 : a = b <;> by_cases h2 : l = m <;> simp [h1, h2]
theorem qB_eqSum {l m : List Int} {K : AV → Prop} (hl : l.length = 32) (hm' : m.length = 32) : qB (.eqA false 32) [.agg (l.map u8), .agg (m.map u8)] K = SplitP (l = m) (K (bool true)) (K (bool false)) := by
  show ((l.map u8).length = 32 ∧ onSome (eqCells (l.map u8) (m.map u8)) fun b => K (bool (if false then !b else b))) = _
  rw [eqCells_u8 l m (by omega)]
  by_cases h : l = m
  · subst h; simp [SplitP, hl, onSome]
  · simp [SplitP, hl, h, onSome]

def sameP (e f : Ev) : Bool := decide (e = f)

def c14 : ACode := (.seq (.reg false 2 [⟨(.some 2), none, (.m .box 0), [(.t 0)]⟩, ⟨(.some 3), none, (.m .box 1), [(.t 1)]⟩, ⟨(.some 4), none, (.q .mv), [(.c (.imm (.bool false)))]⟩]) (.seq (.reg false 0 [⟨(.some 5), none, (.q (.faddr 0)), [(.t 2)]⟩, ⟨(.some 6), none, (.l (.loadA 2)), [(.t 5)]⟩, ⟨(.some 7), none, (.q (.faddr 0)), [(.t 3)]⟩, ⟨(.some 8), none, (.l (.loadA 2)), [(.t 7)]⟩, ⟨(.some 9), none, (.q (.eqA false 2)), [(.t 6), (.t 8)]⟩, ⟨(.some 10), none, (.q .mv), [(.t 9)]⟩, ⟨(.some 11), (.some (10, true)), (.q (.faddr 2)), [(.t 2)]⟩, ⟨(.some 12), (.some (10, true)), (.l .load1), [(.t 11)]⟩, ⟨(.some 13), (.some (10, true)), (.q (.faddr 2)), [(.t 3)]⟩, ⟨(.some 14), (.some (10, true)), (.l .load1), [(.t 13)]⟩, ⟨(.some 15), (.some (10, true)), (.call true), [(.c (.fn (.func 40) [] [])), (.t 12), (.t 14)]⟩, ⟨(.some 16), none, (.q .pick), [(.t 10), (.t 15), (.c (.imm (.bool false)))]⟩, ⟨(.some 17), none, (.q .mv), [(.t 16)]⟩, ⟨(.some 18), (.some (17, true)), (.q (.faddr 3)), [(.t 2)]⟩, ⟨(.some 19), (.some (17, true)), (.l .load1), [(.t 18)]⟩, ⟨(.some 20), (.some (17, true)), (.q (.faddr 3)), [(.t 3)]⟩, ⟨(.some 21), (.some (17, true)), (.l .load1), [(.t 20)]⟩, ⟨(.some 22), (.some (17, true)), (.q (.bin .eql 3)), [(.t 19), (.t 21)]⟩, ⟨(.some 23), none, (.q .pick), [(.t 17), (.t 22), (.c (.imm (.bool false)))]⟩, ⟨(.some 24), none, (.q .mv), [(.t 23)]⟩, ⟨(.some 25), (.some (24, true)), (.q (.faddr 4)), [(.t 2)]⟩, ⟨(.some 26), (.some (24, true)), (.l .load1), [(.t 25)]⟩, ⟨(.some 27), (.some (24, true)), (.q (.faddr 4)), [(.t 3)]⟩, ⟨(.some 28), (.some (24, true)), (.l .load1), [(.t 27)]⟩, ⟨(.some 29), (.some (24, true)), (.q (.bin .eql 9)), [(.t 26), (.t 28)]⟩, ⟨(.some 30), none, (.q .pick), [(.t 24), (.t 29), (.c (.imm (.bool false)))]⟩, ⟨(.some 31), none, (.q .mv), [(.t 30)]⟩, ⟨(.some 32), (.some (31, true)), (.q (.faddr 5)), [(.t 2)]⟩, ⟨(.some 33), (.some (31, true)), (.l (.loadA 32)), [(.t 32)]⟩, ⟨(.some 34), (.some (31, true)), (.q (.faddr 5)), [(.t 3)]⟩, ⟨(.some 35), (.some (31, true)), (.l (.loadA 32)), [(.t 34)]⟩, ⟨(.some 36), (.some (31, true)), (.q (.eqA false 32)), [(.t 33), (.t 35)]⟩, ⟨(.some 37), none, (.q .pick), [(.t 31), (.t 36), (.c (.imm (.bool false)))]⟩, ⟨(.some 38), none, (.q .mv), [(.t 37)]⟩, ⟨(.some 39), (.some (38, true)), (.q (.faddr 37)), [(.t 2)]⟩, ⟨(.some 40), (.some (38, true)), (.l .load1), [(.t 39)]⟩, ⟨(.some 41), (.some (38, true)), (.q (.faddr 37)), [(.t 3)]⟩, ⟨(.some 42), (.some (38, true)), (.l .load1), [(.t 41)]⟩, ⟨(.some 43), (.some (38, true)), (.q (.bin .eql 3)), [(.t 40), (.t 42)]⟩, ⟨(.some 44), none, (.q .pick), [(.t 38), (.t 43), (.c (.imm (.bool false)))]⟩, ⟨(.some 4), none, (.q .mv), [(.t 44)]⟩]) .ret))
theorem fn14 : IsFn Tryz.prog 14 [] c14 [4] 45 := ⟨_, _, Tryz.func14, rfl, by decide +kernel, by kernel_rfl, rfl, rfl⟩
set_option maxHeartbeats 4000000 in
theorem p14' (e f : Ev) (he : EvOk e) (hf : EvOk f) : Pure Tryz.prog G 14 [evV e, evV f] (bool (sameP e f)) := by
  refine pure_of_code' (S := sp [(40, vec2b fun a b => decide (a = b))] []) hm hG (sp_holds (.cons (told_vec2b fun a b h => p40 a b h) .nil) .nil) fn14 (St 5 45 [evV e, evV f, .junk, .junk, .junk] []) (by kernel_rfl) (by simp [lows, AV.low, lows_ev]) (by simp [AV.low]) ?_
  have hl := ev_len hf.len
  have hl' := ev_len he.len
  have hs := he.small
  have z1 := ev_size he.len
  have z2 := ev_size hf.len
  have s1 := ev_sum he.len
  have s2 := ev_sum hf.len
  have q1 : ∀ K, qB (.eqA false 32) [.agg (e.sum.map u8), .agg (f.sum.map u8)] K = SplitP (e.sum = f.sum) (K (bool true)) (K (bool false)) := fun K => qB_eqSum he.len hf.len
  by_cases h : e = f
  · subst h
    simp (maxSteps := 2000000) -implicitDefEqProofs only [c14, RS, retC_normal, retC_ret, rvals_nil, rvals_tmp, rvals_cell, collect_one, collect_two, Nat.reduceLT, ↓RP0, ↓RP1, ↓RP2, ↓RP3, RV, List.map_cons, List.map_nil, List.cons_append, List.nil_append, List.append_nil, List.length_cons, List.length_nil, List.getElem?_cons_zero, List.getElem?_cons_succ, List.set_cons_zero, List.set_cons_succ, true_imp_iff, false_imp_iff, not_true_eq_false, not_false_eq_true, and_true, true_and, and_false, false_and, implies_true, ↓reduceIte, Bool.false_eq_true, Bool.true_eq_false, Bool.not_eq_true, Bool.not_true, Bool.not_false, beq_self_eq_true, Bool.true_beq, Bool.false_beq, List.take_zero, List.drop_zero, List.take_succ_cons, List.drop_succ_cons, List.take_nil, List.drop_nil, List.replicate_zero, List.replicate_succ, Nat.reduceAdd, Nat.reduceSub, Nat.reduceMul, Nat.reduceLeDiff, Nat.reduceEqDiff, Nat.zero_add, Nat.add_zero, Int.reduceLT, Int.reduceLE, Int.reduceEq, Int.reduceNe, Int.reduceAdd, Int.reduceSub, Int.reduceMul, Int.reduceNeg, Int.reduceToNat, Int.toNat_natCast, Int.natCast_nonneg, Int.natCast_zero, Nat.lt_irrefl, Option.some.injEq, reduceCtorEq, Option.map_some, ne_eq, ↓ask_vec2b, ask_vec2b, ↓qB_eqA2, qB_eqA2, q1, ev2, ev3, ev4, ev_take, z1, s1, hl, hs, AV.strip1]
    simp [sameP]
  · have : sameP e f = false := decide_eq_false h
    simp (maxSteps := 2000000) -implicitDefEqProofs only [c14, RS, retC_normal, retC_ret, rvals_nil, rvals_tmp, rvals_cell, collect_one, collect_two, Nat.reduceLT, ↓RP0, ↓RP1, ↓RP2, ↓RP3, RV, List.map_cons, List.map_nil, List.cons_append, List.nil_append, List.append_nil, List.length_cons, List.length_nil, List.getElem?_cons_zero, List.getElem?_cons_succ, List.set_cons_zero, List.set_cons_succ, true_imp_iff, false_imp_iff, not_true_eq_false, not_false_eq_true, and_true, true_and, and_false, false_and, implies_true, ↓reduceIte, Bool.false_eq_true, Bool.true_eq_false, Bool.not_eq_true, Bool.not_true, Bool.not_false, beq_self_eq_true, Bool.true_beq, Bool.false_beq, List.take_zero, List.drop_zero, List.take_succ_cons, List.drop_succ_cons, List.take_nil, List.drop_nil, List.replicate_zero, List.replicate_succ, Nat.reduceAdd, Nat.reduceSub, Nat.reduceMul, Nat.reduceLeDiff, Nat.reduceEqDiff, Nat.zero_add, Nat.add_zero, Int.reduceLT, Int.reduceLE, Int.reduceEq, Int.reduceNe, Int.reduceAdd, Int.reduceSub, Int.reduceMul, Int.reduceNeg, Int.reduceToNat, Int.toNat_natCast, Int.natCast_nonneg, Int.natCast_zero, Nat.lt_irrefl, Option.some.injEq, reduceCtorEq, Option.map_some, ne_eq, ↓ask_vec2b, ask_vec2b, ↓qB_eqA2, qB_eqA2, q1, ev2, ev3, ev4, ev_take, z1, z2, s1, s2, hl, hl', hs, this, AV.strip1]
    intro h1 h2 h3 h4 h5 h6
    exact absurd (by cases e; cases f; simp_all) h

theorem binB_slss {l m : List UInt8} {K : AV → Prop} {t : TypeId} : binB .lss t (T l) (T m) K = SplitP (Op.bytesLess l m = true) (K (bool true)) (K (bool false)) := by
  have : binB .lss t (T l) (T m) K = K (bool (Op.bytesLess l m)) := by simp [binB, binsem, binStr, toList_B]
  rw [this]
  cases Op.bytesLess l m <;> simp [SplitP]
theorem binB_sgtr {l m : List UInt8} {K : AV → Prop} {t : TypeId} : binB .gtr t (T l) (T m) K = SplitP ((Op.bytesLess l m || l == m) = true) (K (bool false)) (K (bool true)) := by
  have : binB .gtr t (T l) (T m) K = K (bool !(Op.bytesLess l m || l == m)) := by simp [binB, binsem, binStr, toList_B]
  rw [this]
  cases (Op.bytesLess l m || l == m) <;> simp [SplitP]
def cmpEv (e f : Ev) : Int := if Op.bytesLess e.path f.path = true then -1 else if e.path = f.path then cmpDot e.r e.q f.r f.q else 1

def c45 : ACode := (.seq (.reg false 2 [⟨(.some 2), none, (.m .box 0), [(.t 0)]⟩, ⟨(.some 3), none, (.m .box 1), [(.t 1)]⟩, ⟨(.some 4), none, (.q .mv), [(.c (.imm (.int .i64 0)))]⟩]) (.seq (.seq (.reg false 0 [⟨(.some 5), none, (.q (.faddr 4)), [(.t 2)]⟩, ⟨(.some 6), none, (.l .load1), [(.t 5)]⟩, ⟨(.some 7), none, (.q (.faddr 4)), [(.t 3)]⟩, ⟨(.some 8), none, (.l .load1), [(.t 7)]⟩, ⟨(.some 9), none, (.q (.bin .lss 9)), [(.t 6), (.t 8)]⟩]) (.cond (.t 9) (.seq (.reg false 0 [⟨(.some 4), none, (.q .mv), [(.c (.imm (.int .i64 (-1))))]⟩]) .ret) .skip)) (.seq (.seq (.reg false 0 [⟨(.some 10), none, (.q (.faddr 4)), [(.t 2)]⟩, ⟨(.some 11), none, (.l .load1), [(.t 10)]⟩, ⟨(.some 12), none, (.q (.faddr 4)), [(.t 3)]⟩, ⟨(.some 13), none, (.l .load1), [(.t 12)]⟩, ⟨(.some 14), none, (.q (.bin .gtr 9)), [(.t 11), (.t 13)]⟩]) (.cond (.t 14) (.seq (.reg false 0 [⟨(.some 4), none, (.q .mv), [(.c (.imm (.int .i64 1)))]⟩]) .ret) .skip)) (.seq (.reg false 0 [⟨(.some 15), none, (.q (.faddr 0)), [(.t 2)]⟩, ⟨(.some 16), none, (.l (.loadA 2)), [(.t 15)]⟩, ⟨(.some 17), none, (.q (.faddr 0)), [(.t 3)]⟩, ⟨(.some 18), none, (.l (.loadA 2)), [(.t 17)]⟩, ⟨(.some 19), none, (.call true), [(.c (.fn (.func 44) [] [])), (.t 16), (.t 18)]⟩, ⟨(.some 4), none, (.q .mv), [(.t 19)]⟩]) .ret))))
theorem fn45 : IsFn Tryz.prog 45 [] c45 [4] 20 := ⟨_, _, Tryz.func45, rfl, by decide +kernel, by kernel_rfl, rfl, rfl⟩
set_option maxHeartbeats 2000000 in
theorem p45' (e f : Ev) (he : EvOk e) (hf : EvOk f) : Pure Tryz.prog G 45 [evV e, evV f] (i64 (cmpEv e f)) := by
  refine pure_of_code' (S := sp [(44, dot2n cmpDot)] []) hm hG (sp_holds (.cons (told_dot2n p44') .nil) .nil) fn45 (St 5 20 [evV e, evV f, .junk, .junk, .junk] []) (by kernel_rfl) (by simp [lows, AV.low, lows_ev]) (by simp [AV.low]) ?_
  have hl := ev_len hf.len
  have hl' := ev_len he.len
  simp (maxSteps := 2000000) -implicitDefEqProofs only [c45, RS, retC_normal, retC_ret, rvals_nil, rvals_tmp, rvals_cell, collect_one, collect_two, Nat.reduceLT, ↓RP0, ↓RP1, ↓RP2, ↓RP3, RV, List.map_cons, List.map_nil, List.cons_append, List.nil_append, List.append_nil, List.length_cons, List.length_nil, List.getElem?_cons_zero, List.getElem?_cons_succ, List.set_cons_zero, List.set_cons_succ, true_imp_iff, false_imp_iff, not_true_eq_false, not_false_eq_true, and_true, true_and, and_false, false_and, implies_true, ↓reduceIte, Bool.false_eq_true, Bool.true_eq_false, Bool.not_eq_true, Bool.not_true, Bool.not_false, beq_self_eq_true, Bool.true_beq, Bool.false_beq, List.take_zero, List.drop_zero, List.take_succ_cons, List.drop_succ_cons, List.take_nil, List.drop_nil, List.replicate_zero, List.replicate_succ, Nat.reduceAdd, Nat.reduceSub, Nat.reduceMul, Nat.reduceLeDiff, Nat.reduceEqDiff, Nat.zero_add, Nat.add_zero, Int.reduceLT, Int.reduceLE, Int.reduceEq, Int.reduceNe, Int.reduceAdd, Int.reduceSub, Int.reduceMul, Int.reduceNeg, Int.reduceToNat, Int.toNat_natCast, Int.natCast_nonneg, Int.natCast_zero, Nat.lt_irrefl, Option.some.injEq, reduceCtorEq, Option.map_some, ne_eq, ↓ask_dot2n, ask_dot2n, ↓binB_slss, binB_slss, ↓binB_sgtr, binB_sgtr, ev4, ev_take, hl, hl', AV.strip1]
  refine ⟨fun h => ?_, fun h => ⟨fun h1 => ?_, fun h1 => ?_⟩⟩
  · simp [cmpEv, h]
  · have : e.path = f.path := by simpa [h] using h1
    simp [cmpEv, h, this] at h ⊢
    simp [h]
  · have : ¬ e.path = f.path := by simpa [h] using h1
    simp [cmpEv, h, this]
end Go.AL.Path

/- Lists of events. -/
set_option linter.unusedSimpArgs false
set_option linter.unusedVariables false
set_option maxRecDepth 100000
namespace Go.AL.Path
open Go Go.RowKit Go.Proofs Go.AL

abbrev evsV (l : List Ev) : AV := .sl 38 (l.map evV) none
abbrev AllOk (l : List Ev) : Prop := ∀ e ∈ l, EvOk e
def ev0d : Ev := ⟨0, 0, [], 0, [], List.replicate 32 0, 0⟩
theorem ev0d_ok : EvOk ev0d := ⟨by simp [Small, ev0d], by simp [ev0d], by simp [ev0d]⟩
theorem evs_len (l : List Ev) : (l.map evV).length = l.length := List.length_map _
theorem evs_get {l : List Ev} {i : Nat} (h : i < l.length) : (l.map evV).getD i .junk = evV (l.getD i ev0d) := by
  rw [List.getD_eq_getElem?_getD, List.getElem?_map, List.getD_eq_getElem?_getD, List.getElem?_eq_getElem h]; rfl
theorem evs_ok {l : List Ev} (ho : AllOk l) (i : Nat) : EvOk (l.getD i ev0d) := by
  rw [List.getD_eq_getElem?_getD]
  rcases Nat.lt_or_ge i l.length with h | h
  · rw [List.getElem?_eq_getElem h]; exact ho _ (List.getElem_mem h)
  · rw [List.getElem?_eq_none h]; exact ev0d_ok
theorem evs_take {l : List Ev} {i : Nat} (h : i < l.length) : l.take (i + 1) = l.take i ++ [l.getD i ev0d] := by
  rw [List.take_add_one, List.getD_eq_getElem?_getD, List.getElem?_eq_getElem h]; rfl
theorem lows_evs (n : Nat) (l : List Ev) : lows n (l.map evV) := by
  induction l with
  | nil => trivial
  | cons a l ih => exact ⟨lows_ev n a, ih⟩
theorem take38 {e : Ev} (h : EvOk e) : (evCells e).take 38 = evCells e := List.take_of_length_le (by rw [ev_len h.len]; exact Nat.le_refl _)

theorem ev_inj {e f : Ev} (he : EvOk e) (hf : EvOk f) (h : evV e = evV f) : e = f := by
  have h1 : evCells e = evCells f := by injection h
  have h2 := evOf_cells he.len
  rw [h1, evOf_cells hf.len] at h2
  exact (Option.some.inj h2).symm
theorem evs_inj : ∀ {a b : List Ev}, AllOk a → AllOk b → a.map evV = b.map evV → a = b
  | [], [], _, _, _ => rfl
  | [], _ :: _, _, _, h => by simp at h
  | _ :: _, [], _, _, h => by simp at h
  | e :: a, f :: b, ha, hb, h => by
    rw [List.map_cons, List.map_cons] at h
    obtain ⟨h1, h2⟩ := List.cons.inj h
    rw [ev_inj (ha e List.mem_cons_self) (hb f List.mem_cons_self) h1, evs_inj (fun x hx => ha x (List.mem_cons_of_mem _ hx)) (fun x hx => hb x (List.mem_cons_of_mem _ hx)) h2]

def evs2b (f : List Ev → List Ev → Bool) : PSp := fun args K => match args with
  | [.sl 38 xs none, .sl 38 ys none] => ∃ a b, xs = a.map evV ∧ ys = b.map evV ∧ AllOk a ∧ AllOk b ∧ a.length ≤ 1099511627776 ∧ splitB (f a b) K | _ => False
theorem ask_evs2b {f} {a b : List Ev} {K} (ha : AllOk a) (hb : AllOk b) : ask (evs2b f) [evsV a, evsV b] K = (a.length ≤ 1099511627776 ∧ splitB (f a b) K) := by
  show (∃ a' b', a.map evV = a'.map evV ∧ b.map evV = b'.map evV ∧ AllOk a' ∧ AllOk b' ∧ a'.length ≤ 1099511627776 ∧ splitB (f a' b') K) = _
  simp only [eq_iff_iff]
  constructor
  · rintro ⟨a', b', h1, h2, h3, h4, h5, h6⟩
    rw [evs_inj ha h3 h1, evs_inj hb h4 h2]
    exact ⟨h5, h6⟩
  · rintro ⟨h1, h2⟩
    exact ⟨a, b, rfl, rfl, ha, hb, h1, h2⟩
theorem told_evs2b {F f} (h : ∀ a b, AllOk a → AllOk b → a.length ≤ 1099511627776 → Pure Tryz.prog G F [evsV a, evsV b] (bool (f a b))) : Told Tryz.prog G F (evs2b f) := by
  intro args K hk
  unfold evs2b at hk
  split at hk
  · obtain ⟨a, b, rfl, rfl, h1, h2, h3, h4⟩ := hk
    exact ⟨_, h _ _ h1 h2 h3, splitB_of h4⟩
  · exact hk.elim
/-- A list of events, of a list and one more. -/
def evs1e (g : List Ev → Ev → List Ev) : PSp := fun args K => match args with
  | [.sl 38 xs none, y] => ∃ a e, xs = a.map evV ∧ y = evV e ∧ AllOk a ∧ EvOk e ∧ a.length ≤ 1099511627 ∧ K (evsV (g a e)) | _ => False
theorem ask_evs1e {g} {a : List Ev} {e : Ev} {K} (ha : AllOk a) (he : EvOk e) : ask (evs1e g) [evsV a, evV e] K = (a.length ≤ 1099511627 ∧ K (evsV (g a e))) := by
  show (∃ a' e', a.map evV = a'.map evV ∧ evV e = evV e' ∧ AllOk a' ∧ EvOk e' ∧ a'.length ≤ 1099511627 ∧ K (evsV (g a' e'))) = _
  simp only [eq_iff_iff]
  constructor
  · rintro ⟨a', e', h1, h2, h3, h4, h5, h6⟩
    rw [evs_inj ha h3 h1, ev_inj he h4 h2]
    exact ⟨h5, h6⟩
  · rintro ⟨h1, h2⟩
    exact ⟨a, e, rfl, rfl, ha, he, h1, h2⟩
theorem told_evs1e {F g} (h : ∀ a e, AllOk a → EvOk e → a.length ≤ 1099511627 → Pure Tryz.prog G F [evsV a, evV e] (evsV (g a e))) : Told Tryz.prog G F (evs1e g) := by
  intro args K hk
  unfold evs1e at hk
  split at hk
  · obtain ⟨a, e, rfl, rfl, h1, h2, h3, h4⟩ := hk
    exact ⟨_, h _ _ h1 h2 h3, h4⟩
  · exact hk.elim

def ev2n (f : Ev → Ev → Int) : PSp := fun args K => match args with
  | [x, y] => ∃ e g, x = evV e ∧ y = evV g ∧ EvOk e ∧ EvOk g ∧ K (i64 (f e g)) | _ => False
theorem ask_ev2n {f} {e g : Ev} {K} (he : EvOk e) (hg : EvOk g) : ask (ev2n f) [evV e, evV g] K = K (i64 (f e g)) := by
  show (∃ e' g', evV e = evV e' ∧ evV g = evV g' ∧ EvOk e' ∧ EvOk g' ∧ K (i64 (f e' g'))) = _
  simp only [eq_iff_iff]
  constructor
  · rintro ⟨e', g', h1, h2, h3, h4, h5⟩
    rw [ev_inj he h3 h1, ev_inj hg h4 h2]; exact h5
  · exact fun h => ⟨e, g, rfl, rfl, he, hg, h⟩
theorem told_ev2n {F f} (h : ∀ e g, EvOk e → EvOk g → Pure Tryz.prog G F [evV e, evV g] (i64 (f e g))) : Told Tryz.prog G F (ev2n f) := by
  intro args K hk
  unfold ev2n at hk
  split at hk
  · obtain ⟨e, g, rfl, rfl, h1, h2, h3⟩ := hk
    exact ⟨_, h _ _ h1 h2, h3⟩
  · exact hk.elim

def c19 : ACode := (.seq (.reg false 0 [⟨(.some 4), none, (.q .mv), [(.c (.imm (.bool false)))]⟩]) (.seq (.seq (.reg false 0 [⟨(.some 6), none, (.q .mv), [(.t 0)]⟩, ⟨(.some 7), none, (.q .lenL), [(.t 6)]⟩, ⟨(.some 8), none, (.q .mv), [(.t 1)]⟩, ⟨(.some 9), none, (.q .lenL), [(.t 8)]⟩, ⟨(.some 10), none, (.q (.bin .neq 3)), [(.t 7), (.t 9)]⟩]) (.cond (.t 10) (.seq (.reg false 0 [⟨(.some 4), none, (.q .mv), [(.c (.imm (.bool false)))]⟩]) .ret) .skip)) (.seq (.seq (.reg false 0 [⟨(.some 5), none, (.q .mv), [(.c (.imm (.int .i64 0)))]⟩]) (.block 0 (.loop (.seq (.seq (.reg false 0 [⟨(.some 11), none, (.q .mv), [(.t 5)]⟩, ⟨(.some 12), none, (.q .mv), [(.t 0)]⟩, ⟨(.some 13), none, (.q .lenL), [(.t 12)]⟩, ⟨(.some 14), none, (.q (.bin .lss 3)), [(.t 11), (.t 13)]⟩]) (.cond (.t 14) .skip (.exit 0))) (.seq (.block 1 (.seq (.reg true 0 [⟨(.some 17), none, (.q .mv), [(.t 0)]⟩, ⟨(.some 18), none, (.q .mv), [(.t 5)]⟩, ⟨(.some 19), none, (.q (.iaddrS 38)), [(.t 17), (.t 18)]⟩, ⟨(.some 20), none, (.l (.loadA 38)), [(.t 19)]⟩, ⟨(.some 21), none, (.q .mv), [(.t 1)]⟩, ⟨(.some 22), none, (.q .mv), [(.t 5)]⟩, ⟨(.some 23), none, (.q (.iaddrS 38)), [(.t 21), (.t 22)]⟩, ⟨(.some 24), none, (.l (.loadA 38)), [(.t 23)]⟩, ⟨(.some 25), none, (.call true), [(.c (.fn (.func 14) [] [])), (.t 20), (.t 24)]⟩, ⟨(.some 26), none, (.q (.un .not)), [(.t 25)]⟩]) (.cond (.t 26) (.seq (.reg false 0 [⟨(.some 4), none, (.q .mv), [(.c (.imm (.bool false)))]⟩]) .ret) .skip))) (.reg false 0 [⟨(.some 15), none, (.q .mv), [(.t 5)]⟩, ⟨(.some 16), none, (.q (.bin .add 3)), [(.t 15), (.c (.imm (.int .i64 1)))]⟩, ⟨(.some 5), none, (.q .mv), [(.t 16)]⟩])))))) (.seq (.reg false 0 [⟨(.some 4), none, (.q .mv), [(.c (.imm (.bool true)))]⟩]) .ret))))
theorem fn19 : IsFn Tryz.prog 19 [] c19 [4] 27 := ⟨_, _, Tryz.func19, rfl, by decide +kernel, by kernel_rfl, rfl, rfl⟩
set_option maxHeartbeats 4000000 in
theorem p19' (a b : List Ev) (ha : AllOk a) (hb : AllOk b) (hs : a.length ≤ 1099511627776) : Pure Tryz.prog G 19 [evsV a, evsV b] (bool (decide (a = b))) := by
  refine pure_of_code' (S := sp [(14, ev2b sameP)] []) hm hG (sp_holds (.cons (told_ev2b p14') .nil) .nil) fn19 (St 6 27 [evsV a, evsV b, .junk, .junk, .junk, .junk] []) (by kernel_rfl) (by simp [lows, AV.low, lows_evs]) (by simp [AV.low]) ?_
  simp (maxSteps := 2000000) -implicitDefEqProofs only [c19, RS, retC_normal, retC_ret, rvals_nil, rvals_tmp, rvals_cell, collect_one, collect_two, Nat.reduceLT, ↓RP0, ↓RP1, ↓RP2, ↓RP3, RV, List.map_cons, List.map_nil, List.cons_append, List.nil_append, List.append_nil, List.length_cons, List.length_nil, List.getElem?_cons_zero, List.getElem?_cons_succ, List.set_cons_zero, List.set_cons_succ, true_imp_iff, false_imp_iff, not_true_eq_false, not_false_eq_true, and_true, true_and, and_false, false_and, implies_true, ↓reduceIte, Bool.false_eq_true, Bool.true_eq_false, Bool.not_eq_true, Bool.not_true, Bool.not_false, beq_self_eq_true, Bool.true_beq, Bool.false_beq, List.take_zero, List.drop_zero, List.take_succ_cons, List.drop_succ_cons, List.take_nil, List.drop_nil, List.replicate_zero, List.replicate_succ, Nat.reduceAdd, Nat.reduceSub, Nat.reduceMul, Nat.reduceLeDiff, Nat.reduceEqDiff, Nat.zero_add, Nat.add_zero, Int.reduceLT, Int.reduceLE, Int.reduceEq, Int.reduceNe, Int.reduceAdd, Int.reduceSub, Int.reduceMul, Int.reduceNeg, Int.reduceToNat, Int.toNat_natCast, Int.natCast_nonneg, Int.natCast_zero, Nat.lt_irrefl, Option.some.injEq, reduceCtorEq, Option.map_some, ne_eq, evs_len]
  refine ⟨fun h => ?_, fun h => ?_⟩
  · refine loopB (st := fun (i : Nat) => (St 6 27 [evsV a, evsV b, .junk, .junk, .imm (.bool false), i64 i] [])) (hp := fun _ => []) (I := fun i => i ≤ a.length ∧ a.take i = b.take i) (m := fun i => a.length - i) (0 : Nat) ⟨Nat.zero_le _, rfl⟩ ?_ ?_
    · refine weak_nilS ?_; simp [WeakL, AV.low, lows, lows_evs]
    · rintro i ⟨hi, he⟩
      by_cases hlt : i < a.length
      · have e1 := evs_get hlt
        have e2 := evs_get (l := b) (i := i) (by omega)
        have e3 : (i : Int) < (a.length : Int) := by omega
        have e4 : (i : Int) < (b.length : Int) := by omega
        have t1 := evs_take (l := a) hlt
        have t2 := evs_take (l := b) (i := i) (by omega)
        have o1 := evs_ok ha i
        have o2 := evs_ok hb i
        generalize a.getD i ev0d = x at *
        generalize b.getD i ev0d = y at *
        have l1 := ev_len o1.len
        have l2 := ev_len o2.len
        have k1 := take38 o1
        have k2 := take38 o2
        have q : ∀ K, ask (ev2b sameP) [.agg (evCells x), .agg (evCells y)] K = splitB (sameP x y) K := fun K => ask_ev2b o1 o2
        simp (maxSteps := 2000000) -implicitDefEqProofs only [RS, retC_normal, retC_ret, rvals_nil, rvals_tmp, rvals_cell, collect_one, collect_two, Nat.reduceLT, ↓RP0, ↓RP1, ↓RP2, ↓RP3, RV, List.map_cons, List.map_nil, List.cons_append, List.nil_append, List.append_nil, List.length_cons, List.length_nil, List.getElem?_cons_zero, List.getElem?_cons_succ, List.set_cons_zero, List.set_cons_succ, true_imp_iff, false_imp_iff, not_true_eq_false, not_false_eq_true, and_true, true_and, and_false, false_and, implies_true, ↓reduceIte, Bool.false_eq_true, Bool.true_eq_false, Bool.not_eq_true, Bool.not_true, Bool.not_false, beq_self_eq_true, Bool.true_beq, Bool.false_beq, List.take_zero, List.drop_zero, List.take_succ_cons, List.drop_succ_cons, List.take_nil, List.drop_nil, List.replicate_zero, List.replicate_succ, Nat.reduceAdd, Nat.reduceSub, Nat.reduceMul, Nat.reduceLeDiff, Nat.reduceEqDiff, Nat.zero_add, Nat.add_zero, Int.reduceLT, Int.reduceLE, Int.reduceEq, Int.reduceNe, Int.reduceAdd, Int.reduceSub, Int.reduceMul, Int.reduceNeg, Int.reduceToNat, Int.toNat_natCast, Int.natCast_nonneg, Int.natCast_zero, Nat.lt_irrefl, Option.some.injEq, reduceCtorEq, Option.map_some, ne_eq, ↓q, q, e1, e2, e3, e4, evs_len, l1, l2, k1, k2, ev_strip, AV.cells]
        refine ⟨fun hxy => ⟨⟨by omega, by omega⟩, i + 1, by dsimp only; omega, ⟨by omega, ?_⟩, ?_⟩, fun hxy => ?_⟩
        · rw [t1, t2, he, show x = y from of_decide_eq_true hxy]
        · refine weak_nilS ?_; simp [WeakL, AV.low, lows, lows_evs]
        · have : ¬ a = b := by
            intro e
            subst e
            rw [t1] at t2
            have := List.append_cancel_left t2
            simp at this
            exact of_decide_eq_false hxy this
          simp [this]
      · obtain rfl : i = a.length := by omega
        simp (maxSteps := 2000000) -implicitDefEqProofs only [RS, retC_normal, retC_ret, rvals_nil, rvals_tmp, rvals_cell, collect_one, collect_two, Nat.reduceLT, ↓RP0, ↓RP1, ↓RP2, ↓RP3, RV, List.map_cons, List.map_nil, List.cons_append, List.nil_append, List.append_nil, List.length_cons, List.length_nil, List.getElem?_cons_zero, List.getElem?_cons_succ, List.set_cons_zero, List.set_cons_succ, true_imp_iff, false_imp_iff, not_true_eq_false, not_false_eq_true, and_true, true_and, and_false, false_and, implies_true, ↓reduceIte, Bool.false_eq_true, Bool.true_eq_false, Bool.not_eq_true, Bool.not_true, Bool.not_false, beq_self_eq_true, Bool.true_beq, Bool.false_beq, List.take_zero, List.drop_zero, List.take_succ_cons, List.drop_succ_cons, List.take_nil, List.drop_nil, List.replicate_zero, List.replicate_succ, Nat.reduceAdd, Nat.reduceSub, Nat.reduceMul, Nat.reduceLeDiff, Nat.reduceEqDiff, Nat.zero_add, Nat.add_zero, Int.reduceLT, Int.reduceLE, Int.reduceEq, Int.reduceNe, Int.reduceAdd, Int.reduceSub, Int.reduceMul, Int.reduceNeg, Int.reduceToNat, Int.toNat_natCast, Int.natCast_nonneg, Int.natCast_zero, Nat.lt_irrefl, Option.some.injEq, reduceCtorEq, Option.map_some, ne_eq, evs_len, Int.lt_irrefl]
        have : a = b := by
          have h2 : b.length = a.length := by omega
          rw [List.take_length, ← h2, List.take_length] at he
          exact he
        simp [this]
  · have : ¬ a = b := fun e => h (by rw [e])
    simp [this]

end Go.AL.Path
