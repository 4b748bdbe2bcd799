/- Vectors, on: what is known. -/
import Derived.Test.YtcppnhnomemphaaGreatDoorG20
set_option linter.unusedSimpArgs false
set_option linter.unusedVariables false
set_option maxRecDepth 100000
namespace Go.AL.Path
open Go Go.RowKit Go.Proofs Go.AL

def getV (v : Vec) (r : Int) : Int := if 0 ≤ r ∧ r ≤ 31 then cnt v r.toNat else 0
def hasP (v : Vec) (r q : Int) : Bool := dotOk r q && decide (q ≤ getV v r)
abbrev Small (v : Vec) : Prop := v.length ≤ 1099511627776

def vecInt (f : Vec → Int → AV) : PSp := fun args K => match args with
  | [.sl 2 xs none, .imm (.int .i64 r)] => (match dotsOf xs with | some v => Small v ∧ K (f v r) | none => False) | _ => False
theorem ask_vecInt {f} {v : Vec} {r : Int} {K} : ask (vecInt f) [vecV v, i64 r] K = (Small v ∧ K (f v r)) := by
  show (match dotsOf (vdots v) with | some v => Small v ∧ K (f v r) | none => False) = _
  rw [dotsOf_vdots]
theorem told_vecInt {F f} (h : ∀ v r, Small v → Pure Tryz.prog G F [vecV v, i64 r] (f v r)) : Told Tryz.prog G F (vecInt f) := by
  intro args K hk
  unfold vecInt at hk
  split at hk
  · split at hk
    · rename_i v e
      rw [vdots_of e]
      exact ⟨_, h _ _ hk.1, hk.2⟩
    · exact hk.elim
  · exact hk.elim
def vecDotb (f : Vec → Int → Int → Bool) : PSp := fun args K => match args with
  | [.sl 2 xs none, .agg [.imm (.int .i64 r), .imm (.int .i64 q)]] => (match dotsOf xs with | some v => Small v ∧ splitB (f v r q) K | none => False) | _ => False
theorem ask_vecDotb {f} {v : Vec} {r q : Int} {K} : ask (vecDotb f) [vecV v, dotV r q] K = (Small v ∧ splitB (f v r q) K) := by
  show (match dotsOf (vdots v) with | some v => Small v ∧ splitB (f v r q) K | none => False) = _
  rw [dotsOf_vdots]
theorem told_vecDotb {F f} (h : ∀ v r q, Small v → Pure Tryz.prog G F [vecV v, dotV r q] (bool (f v r q))) : Told Tryz.prog G F (vecDotb f) := by
  intro args K hk
  unfold vecDotb at hk
  split at hk
  · split at hk
    · rename_i v e
      rw [vdots_of e]
      exact ⟨_, h _ _ _ hk.1, splitB_of hk.2⟩
    · exact hk.elim
  · exact hk.elim
def vec2b (f : Vec → Vec → Bool) : PSp := fun args K => match args with
  | [.sl 2 xs none, .sl 2 ys none] => (match dotsOf xs, dotsOf ys with | some v, some u => Small v ∧ splitB (f v u) K | _, _ => False) | _ => False
theorem ask_vec2b {f} {v u : Vec} {K} : ask (vec2b f) [vecV v, vecV u] K = (Small v ∧ splitB (f v u) K) := by
  show (match dotsOf (vdots v), dotsOf (vdots u) with | some v, some u => Small v ∧ splitB (f v u) K | _, _ => False) = _
  rw [dotsOf_vdots, dotsOf_vdots]
theorem told_vec2b {F f} (h : ∀ v u, Small v → Pure Tryz.prog G F [vecV v, vecV u] (bool (f v u))) : Told Tryz.prog G F (vec2b f) := by
  intro args K hk
  unfold vec2b at hk
  split at hk
  · split at hk
    · rename_i v u e1 e2
      rw [vdots_of e1, vdots_of e2]
      exact ⟨_, h _ _ hk.1, splitB_of hk.2⟩
    · exact hk.elim
  · exact hk.elim
/-- 32 numbers, as they are shown. -/
def arrOf (xs : List AV) (i : Nat) : Int := match xs[i]? with | some (.imm (.int .i64 n)) => n | _ => 0
theorem arrOf_arr (f : Nat → Int) : arr (arrOf (arr f)) = arr f := by
  unfold arr
  refine List.map_congr_left fun i hi => ?_
  have : (arr f)[i]? = some (i64 (f i)) := arr_get f (List.mem_range.1 hi)
  unfold arr at this
  simp only [arrOf, this]
def arr1 (g : (Nat → Int) → AV) : PSp := fun args K => match args with
  | [.agg xs] => arr (arrOf xs) = xs ∧ K (g (arrOf xs)) | _ => False
theorem arr_congr {f f' : Nat → Int} (h : arr f = arr f') (i : Nat) (hi : i < 32) : f i = f' i := by
  have h1 := arr_get f hi
  rw [h, arr_get f' hi] at h1
  simp at h1; exact h1.symm
theorem ofTo_congr {f f' : Nat → Int} (h : ∀ i, i < 32 → f i = f' i) : ∀ n, n ≤ 32 → ofTo f n = ofTo f' n
  | 0, _ => rfl
  | n + 1, hn => by rw [ofTo, ofTo, h n (by omega), ofTo_congr h n (by omega)]
theorem ofP_congr {f f' : Nat → Int} (h : arr f = arr f') : ofP f = ofP f' := ofTo_congr (arr_congr h) 32 (Nat.le_refl _)
theorem ask_arr1 {f : Nat → Int} {K} : ask (arr1 fun f => vecV (ofP f)) [.agg (arr f)] K = K (vecV (ofP f)) := by
  show (arr (arrOf (arr f)) = arr f ∧ K (vecV (ofP (arrOf (arr f))))) = _
  rw [ofP_congr (arrOf_arr f)]
  simp [arrOf_arr]
theorem told_arr1 {F g} (h : ∀ f, Pure Tryz.prog G F [.agg (arr f)] (g f)) : Told Tryz.prog G F (arr1 g) := by
  intro args K hk
  unfold arr1 at hk
  split at hk
  · rename_i xs
    refine ⟨_, ?_, hk.2⟩
    have := h (arrOf xs)
    rw [hk.1] at this
    exact this
  · exact hk.elim

theorem arr_take (f : Nat → Int) : (arr f).take 32 = arr f := List.take_of_length_le (by simp [arr])
theorem step_yes {a : Nat → Int} {k : Nat} {q : Int} (h : dotOk k q = true) (hq : a k < q) : step a ((k : Int), q) = fun i => if i = k then q else a i := by
  funext j
  by_cases hj : j = k
  · subst hj; simp [step, h, hq]
  · have : ¬ (k : Int) = (j : Int) := by omega
    simp [step, this, hj]
theorem step_no {a : Nat → Int} {k : Nat} {q : Int} (hq : ¬ a k < q) : step a ((k : Int), q) = a := by
  funext j
  by_cases hj : j = k
  · subst hj; simp [step, hq]
  · have : ¬ (k : Int) = (j : Int) := by omega
    simp [step, this]
theorem step_bad {a : Nat → Int} {r q : Int} (h : dotOk r q = false) : step a (r, q) = a := by
  funext j; simp [step, h]

def c37 : ACode := (.seq (.reg false 1 [⟨(.some 3), none, (.m .box 0), [(.t 1)]⟩, ⟨(.some 4), none, (.q .mv), [(.c (.imm (.bool false)))]⟩]) (.seq (.reg true 0 [⟨(.some 5), none, (.l (.loadA 2)), [(.t 3)]⟩, ⟨(.some 6), none, (.call true), [(.c (.fn (.func 58) [] [])), (.t 5)]⟩, ⟨(.some 7), none, (.q .mv), [(.t 6)]⟩, ⟨(.some 8), (.some (7, true)), (.q (.faddr 1)), [(.t 3)]⟩, ⟨(.some 9), (.some (7, true)), (.l .load1), [(.t 8)]⟩, ⟨(.some 10), (.some (7, true)), (.q .mv), [(.t 0)]⟩, ⟨(.some 11), (.some (7, true)), (.q (.faddr 0)), [(.t 3)]⟩, ⟨(.some 12), (.some (7, true)), (.l .load1), [(.t 11)]⟩, ⟨(.some 13), (.some (7, true)), (.call false), [(.c (.fn (.func 42) [] [])), (.t 10), (.t 12)]⟩, ⟨(.some 14), (.some (7, true)), (.q (.bin .leq 2)), [(.t 9), (.t 13)]⟩, ⟨(.some 15), none, (.q .pick), [(.t 7), (.t 14), (.c (.imm (.bool false)))]⟩, ⟨(.some 4), none, (.q .mv), [(.t 15)]⟩]) .ret))
theorem fn37 : IsFn Tryz.prog 37 [] c37 [4] 16 := ⟨_, _, Tryz.func37, rfl, by decide +kernel, by kernel_rfl, rfl, rfl⟩
set_option maxHeartbeats 2000000 in
theorem p37' (v : Vec) (r q : Int) (hv : Small v) : Pure Tryz.prog G 37 [vecV v, dotV r q] (bool (hasP v r q)) := by
  refine pure_of_code' (S := sp [(58, dot1b dotOk), (42, vecInt fun v r => i64 (getV v r))] []) hm hG (sp_holds (.cons (told_dot1b p58) (.cons (told_vecInt fun v r h => p42' v r h) .nil)) .nil) fn37 (St 6 16 [vecV v, dotV r q, .junk, .junk, .junk, .junk] []) (by kernel_rfl) (by simp [lows, AV.low, lows_vdots]) (by simp [AV.low]) ?_
  cases hd : dotOk r q with
  | true =>
    simp (maxSteps := 2000000) -implicitDefEqProofs only [c37, RS, retC_normal, retC_ret, rvals_nil, rvals_tmp, rvals_cell, collect_one, collect_two, Nat.reduceLT, ↓RP0, ↓RP1, ↓RP2, ↓RP3, RV, List.map_cons, List.map_nil, List.cons_append, List.nil_append, List.append_nil, List.length_cons, List.length_nil, List.getElem?_cons_zero, List.getElem?_cons_succ, List.set_cons_zero, List.set_cons_succ, true_imp_iff, false_imp_iff, not_true_eq_false, not_false_eq_true, and_true, true_and, and_false, false_and, implies_true, ↓reduceIte, Bool.false_eq_true, Bool.true_eq_false, Bool.not_eq_true, Bool.not_true, Bool.not_false, beq_self_eq_true, Bool.true_beq, Bool.false_beq, List.take_zero, List.drop_zero, List.take_succ_cons, List.drop_succ_cons, List.take_nil, List.drop_nil, List.replicate_zero, List.replicate_succ, Nat.reduceAdd, Nat.reduceSub, Nat.reduceMul, Nat.reduceLeDiff, Nat.reduceEqDiff, Nat.zero_add, Nat.add_zero, Int.reduceLT, Int.reduceLE, Int.reduceEq, Int.reduceNe, Int.reduceAdd, Int.reduceSub, Int.reduceMul, Int.reduceNeg, Int.reduceToNat, Int.toNat_natCast, Int.natCast_nonneg, Int.natCast_zero, Nat.lt_irrefl, Option.some.injEq, reduceCtorEq, Option.map_some, ne_eq, ↓ask_dot1b, ↓ask_vecInt, hd]
    refine ⟨hv, fun h => ?_, fun h => ?_⟩ <;> simp [hasP, hd, h]
  | false =>
    simp (maxSteps := 2000000) -implicitDefEqProofs only [c37, RS, retC_normal, retC_ret, rvals_nil, rvals_tmp, rvals_cell, collect_one, collect_two, Nat.reduceLT, ↓RP0, ↓RP1, ↓RP2, ↓RP3, RV, List.map_cons, List.map_nil, List.cons_append, List.nil_append, List.append_nil, List.length_cons, List.length_nil, List.getElem?_cons_zero, List.getElem?_cons_succ, List.set_cons_zero, List.set_cons_succ, true_imp_iff, false_imp_iff, not_true_eq_false, not_false_eq_true, and_true, true_and, and_false, false_and, implies_true, ↓reduceIte, Bool.false_eq_true, Bool.true_eq_false, Bool.not_eq_true, Bool.not_true, Bool.not_false, beq_self_eq_true, Bool.true_beq, Bool.false_beq, List.take_zero, List.drop_zero, List.take_succ_cons, List.drop_succ_cons, List.take_nil, List.drop_nil, List.replicate_zero, List.replicate_succ, Nat.reduceAdd, Nat.reduceSub, Nat.reduceMul, Nat.reduceLeDiff, Nat.reduceEqDiff, Nat.zero_add, Nat.add_zero, Int.reduceLT, Int.reduceLE, Int.reduceEq, Int.reduceNe, Int.reduceAdd, Int.reduceSub, Int.reduceMul, Int.reduceNeg, Int.reduceToNat, Int.toNat_natCast, Int.natCast_nonneg, Int.natCast_zero, Nat.lt_irrefl, Option.some.injEq, reduceCtorEq, Option.map_some, ne_eq, ↓ask_dot1b, ↓ask_vecInt, hd]
    simp [hasP, hd]

def c61 : ACode := (.seq (.reg false 0 [⟨(.some 2), none, (.q .mv), [(.c (.imm (.bool false)))]⟩]) (.seq (.reg false 0 [⟨(.some 3), none, (.q .mv), [(.t 0)]⟩, ⟨(.some 4), none, (.q .mv), [(.t 0)]⟩, ⟨(.some 5), none, (.call true), [(.c (.fn (.func 59) [] [])), (.t 4)]⟩, ⟨(.some 6), none, (.call true), [(.c (.fn (.func 60) [] [])), (.t 5)]⟩, ⟨(.some 7), none, (.call true), [(.c (.fn (.func 40) [] [])), (.t 3), (.t 6)]⟩, ⟨(.some 2), none, (.q .mv), [(.t 7)]⟩]) .ret))
theorem fn61 : IsFn Tryz.prog 61 [] c61 [2] 8 := ⟨_, _, Tryz.func61, rfl, by decide +kernel, by kernel_rfl, rfl, rfl⟩
theorem p61 (v : Vec) (hv : Small v) : Pure Tryz.prog G 61 [vecV v] (bool (decide (v = ofP (cnt v)))) := by
  refine pure_of_code' (S := sp [(59, vec1 (fun v => v.length ≤ 1099511627776) fun v => .agg (arr (cnt v))), (60, arr1 fun f => vecV (ofP f)), (40, vec2b fun a b => decide (a = b))] []) hm hG (sp_holds (.cons (told_vec1 p59) (.cons (told_arr1 p60) (.cons (told_vec2b fun a b h => p40 a b h) .nil))) .nil) fn61 (St 4 8 [vecV v, .junk, .junk, .junk] []) (by kernel_rfl) (by simp [lows, AV.low, lows_vdots]) (by simp [AV.low]) ?_
  simp (maxSteps := 2000000) -implicitDefEqProofs only [c61, RS, retC_normal, retC_ret, rvals_nil, rvals_tmp, rvals_cell, collect_one, collect_two, Nat.reduceLT, ↓RP0, ↓RP1, ↓RP2, ↓RP3, RV, List.map_cons, List.map_nil, List.cons_append, List.nil_append, List.append_nil, List.length_cons, List.length_nil, List.getElem?_cons_zero, List.getElem?_cons_succ, List.set_cons_zero, List.set_cons_succ, true_imp_iff, false_imp_iff, not_true_eq_false, not_false_eq_true, and_true, true_and, and_false, false_and, implies_true, ↓reduceIte, Bool.false_eq_true, Bool.true_eq_false, Bool.not_eq_true, Bool.not_true, Bool.not_false, beq_self_eq_true, Bool.true_beq, Bool.false_beq, List.take_zero, List.drop_zero, List.take_succ_cons, List.drop_succ_cons, List.take_nil, List.drop_nil, List.replicate_zero, List.replicate_succ, Nat.reduceAdd, Nat.reduceSub, Nat.reduceMul, Nat.reduceLeDiff, Nat.reduceEqDiff, Nat.zero_add, Nat.add_zero, Int.reduceLT, Int.reduceLE, Int.reduceEq, Int.reduceNe, Int.reduceAdd, Int.reduceSub, Int.reduceMul, Int.reduceNeg, Int.reduceToNat, Int.toNat_natCast, Int.natCast_nonneg, Int.natCast_zero, Nat.lt_irrefl, Option.some.injEq, reduceCtorEq, Option.map_some, ne_eq, ↓ask_vec1, ↓ask_arr1, ask_arr1, arr_strip, arr_take, ↓ask_vec2b, hv]
  refine ⟨fun h => ?_, fun h => ?_⟩ <;> rw [h]

def c43 : ACode := (.seq (.reg false 1 [⟨(.some 3), none, (.m .box 0), [(.t 1)]⟩, ⟨(.some 4), none, (.q .mv), [(.c (.sl 0 [] none))]⟩]) (.seq (.reg false 1 [⟨(.some 6), none, (.q .mv), [(.t 0)]⟩, ⟨(.some 7), none, (.call true), [(.c (.fn (.func 59) [] [])), (.t 6)]⟩, ⟨(.some 5), none, (.m (.alloc [(.imm (.int .i64 0)), (.imm (.int .i64 0)), (.imm (.int .i64 0)), (.imm (.int .i64 0)), (.imm (.int .i64 0)), (.imm (.int .i64 0)), (.imm (.int .i64 0)), (.imm (.int .i64 0)), (.imm (.int .i64 0)), (.imm (.int .i64 0)), (.imm (.int .i64 0)), (.imm (.int .i64 0)), (.imm (.int .i64 0)), (.imm (.int .i64 0)), (.imm (.int .i64 0)), (.imm (.int .i64 0)), (.imm (.int .i64 0)), (.imm (.int .i64 0)), (.imm (.int .i64 0)), (.imm (.int .i64 0)), (.imm (.int .i64 0)), (.imm (.int .i64 0)), (.imm (.int .i64 0)), (.imm (.int .i64 0)), (.imm (.int .i64 0)), (.imm (.int .i64 0)), (.imm (.int .i64 0)), (.imm (.int .i64 0)), (.imm (.int .i64 0)), (.imm (.int .i64 0)), (.imm (.int .i64 0)), (.imm (.int .i64 0))] false) 0), []⟩, ⟨none, none, (.e (.store 32)), [(.t 5), (.t 7)]⟩]) (.seq (.seq (.reg true 0 [⟨(.some 8), none, (.l (.loadA 2)), [(.t 3)]⟩, ⟨(.some 9), none, (.call true), [(.c (.fn (.func 58) [] [])), (.t 8)]⟩, ⟨(.some 10), none, (.q .mv), [(.t 9)]⟩, ⟨(.some 11), (.some (10, true)), (.q (.faddr 1)), [(.t 3)]⟩, ⟨(.some 12), (.some (10, true)), (.l .load1), [(.t 11)]⟩, ⟨(.some 13), (.some (10, true)), (.q (.faddr 0)), [(.t 3)]⟩, ⟨(.some 14), (.some (10, true)), (.l .load1), [(.t 13)]⟩, ⟨(.some 15), (.some (10, true)), (.q (.iaddrA 32 1)), [(.t 5), (.t 14)]⟩, ⟨(.some 16), (.some (10, true)), (.l .load1), [(.t 15)]⟩, ⟨(.some 17), (.some (10, true)), (.q (.bin .gtr 2)), [(.t 12), (.t 16)]⟩, ⟨(.some 18), none, (.q .pick), [(.t 10), (.t 17), (.c (.imm (.bool false)))]⟩]) (.cond (.t 18) (.reg false 0 [⟨(.some 19), none, (.q (.faddr 0)), [(.t 3)]⟩, ⟨(.some 20), none, (.l .load1), [(.t 19)]⟩, ⟨(.some 21), none, (.q (.faddr 1)), [(.t 3)]⟩, ⟨(.some 22), none, (.l .load1), [(.t 21)]⟩, ⟨(.some 23), none, (.q (.iaddrA 32 1)), [(.t 5), (.t 20)]⟩, ⟨none, none, (.e (.store 1)), [(.t 23), (.t 22)]⟩]) .skip)) (.seq (.reg false 0 [⟨(.some 24), none, (.l (.loadA 32)), [(.t 5)]⟩, ⟨(.some 25), none, (.call true), [(.c (.fn (.func 60) [] [])), (.t 24)]⟩, ⟨(.some 4), none, (.q .mv), [(.t 25)]⟩]) .ret))))
theorem fn43 : IsFn Tryz.prog 43 [] c43 [4] 26 := ⟨_, _, Tryz.func43, rfl, by decide +kernel, by kernel_rfl, rfl, rfl⟩
set_option maxHeartbeats 2000000 in
theorem p43' (v : Vec) (r q : Int) (hv : Small v) : Pure Tryz.prog G 43 [vecV v, dotV r q] (vecV (ofP (step (cnt v) (r, q)))) := by
  refine pure_of_code' (S := sp [(59, vec1 (fun v => v.length ≤ 1099511627776) fun v => .agg (arr (cnt v))), (60, arr1 fun f => vecV (ofP f)), (58, dot1b dotOk)] []) hm hG (sp_holds (.cons (told_vec1 p59) (.cons (told_arr1 p60) (.cons (told_dot1b p58) .nil))) .nil) fn43 (St 6 26 [vecV v, dotV r q, .junk, .junk, .junk, .junk] []) (by kernel_rfl) (by simp [lows, AV.low, lows_vdots]) (by simp [AV.low, lows_vdots]) ?_
  cases hd : dotOk r q with
  | true =>
    obtain ⟨k, rfl⟩ : ∃ k : Nat, r = (k : Int) := ⟨r.toNat, by simp [dotOk] at hd; omega⟩
    have hk : k < 32 := by simp [dotOk] at hd; omega
    have e3 : (k : Int) < 32 := by omega
    have e4 := arr_get (cnt v) hk
    have e5 : (0 : Int) ≤ (k : Int) := by omega
    by_cases hq : cnt v k < q
    · have e6 : (cnt v k < q) = True := eq_true hq
      have e7 := arr_set (cnt v) hk q
      simp (maxSteps := 2000000) -implicitDefEqProofs only [c43, RS, retC_normal, retC_ret, rvals_nil, rvals_tmp, rvals_cell, collect_one, collect_two, Nat.reduceLT, ↓RP0, ↓RP1, ↓RP2, ↓RP3, RV, List.map_cons, List.map_nil, List.cons_append, List.nil_append, List.append_nil, List.length_cons, List.length_nil, List.getElem?_cons_zero, List.getElem?_cons_succ, List.set_cons_zero, List.set_cons_succ, true_imp_iff, false_imp_iff, not_true_eq_false, not_false_eq_true, and_true, true_and, and_false, false_and, implies_true, ↓reduceIte, Bool.false_eq_true, Bool.true_eq_false, Bool.not_eq_true, Bool.not_true, Bool.not_false, beq_self_eq_true, Bool.true_beq, Bool.false_beq, List.take_zero, List.drop_zero, List.take_succ_cons, List.drop_succ_cons, List.take_nil, List.drop_nil, List.replicate_zero, List.replicate_succ, Nat.reduceAdd, Nat.reduceSub, Nat.reduceMul, Nat.reduceLeDiff, Nat.reduceEqDiff, Nat.zero_add, Nat.add_zero, Int.reduceLT, Int.reduceLE, Int.reduceEq, Int.reduceNe, Int.reduceAdd, Int.reduceSub, Int.reduceMul, Int.reduceNeg, Int.reduceToNat, Int.toNat_natCast, Int.natCast_nonneg, Int.natCast_zero, Nat.lt_irrefl, Option.some.injEq, reduceCtorEq, Option.map_some, ne_eq, ↓ask_vec1, ↓ask_arr1, ask_arr1, arr_strip, arr_take, ↓ask_dot1b, hd, hv, e3, e4, e5, e6, e7, Nat.mul_one, arr_len]
      refine ⟨by omega, by omega, by omega, ?_⟩
      rw [step_yes hd hq]
    · have e6 : (cnt v k < q) = False := eq_false hq
      simp (maxSteps := 2000000) -implicitDefEqProofs only [c43, RS, retC_normal, retC_ret, rvals_nil, rvals_tmp, rvals_cell, collect_one, collect_two, Nat.reduceLT, ↓RP0, ↓RP1, ↓RP2, ↓RP3, RV, List.map_cons, List.map_nil, List.cons_append, List.nil_append, List.append_nil, List.length_cons, List.length_nil, List.getElem?_cons_zero, List.getElem?_cons_succ, List.set_cons_zero, List.set_cons_succ, true_imp_iff, false_imp_iff, not_true_eq_false, not_false_eq_true, and_true, true_and, and_false, false_and, implies_true, ↓reduceIte, Bool.false_eq_true, Bool.true_eq_false, Bool.not_eq_true, Bool.not_true, Bool.not_false, beq_self_eq_true, Bool.true_beq, Bool.false_beq, List.take_zero, List.drop_zero, List.take_succ_cons, List.drop_succ_cons, List.take_nil, List.drop_nil, List.replicate_zero, List.replicate_succ, Nat.reduceAdd, Nat.reduceSub, Nat.reduceMul, Nat.reduceLeDiff, Nat.reduceEqDiff, Nat.zero_add, Nat.add_zero, Int.reduceLT, Int.reduceLE, Int.reduceEq, Int.reduceNe, Int.reduceAdd, Int.reduceSub, Int.reduceMul, Int.reduceNeg, Int.reduceToNat, Int.toNat_natCast, Int.natCast_nonneg, Int.natCast_zero, Nat.lt_irrefl, Option.some.injEq, reduceCtorEq, Option.map_some, ne_eq, ↓ask_vec1, ↓ask_arr1, ask_arr1, arr_strip, arr_take, ↓ask_dot1b, hd, hv, e3, e4, e5, e6, Nat.mul_one, arr_len]
      refine ⟨by omega, ?_⟩
      rw [step_no hq]
  | false =>
    simp (maxSteps := 2000000) -implicitDefEqProofs only [c43, RS, retC_normal, retC_ret, rvals_nil, rvals_tmp, rvals_cell, collect_one, collect_two, Nat.reduceLT, ↓RP0, ↓RP1, ↓RP2, ↓RP3, RV, List.map_cons, List.map_nil, List.cons_append, List.nil_append, List.append_nil, List.length_cons, List.length_nil, List.getElem?_cons_zero, List.getElem?_cons_succ, List.set_cons_zero, List.set_cons_succ, true_imp_iff, false_imp_iff, not_true_eq_false, not_false_eq_true, and_true, true_and, and_false, false_and, implies_true, ↓reduceIte, Bool.false_eq_true, Bool.true_eq_false, Bool.not_eq_true, Bool.not_true, Bool.not_false, beq_self_eq_true, Bool.true_beq, Bool.false_beq, List.take_zero, List.drop_zero, List.take_succ_cons, List.drop_succ_cons, List.take_nil, List.drop_nil, List.replicate_zero, List.replicate_succ, Nat.reduceAdd, Nat.reduceSub, Nat.reduceMul, Nat.reduceLeDiff, Nat.reduceEqDiff, Nat.zero_add, Nat.add_zero, Int.reduceLT, Int.reduceLE, Int.reduceEq, Int.reduceNe, Int.reduceAdd, Int.reduceSub, Int.reduceMul, Int.reduceNeg, Int.reduceToNat, Int.toNat_natCast, Int.natCast_nonneg, Int.natCast_zero, Nat.lt_irrefl, Option.some.injEq, reduceCtorEq, Option.map_some, ne_eq, ↓ask_vec1, ↓ask_arr1, ask_arr1, arr_strip, arr_take, ↓ask_dot1b, hd, hv]
    refine ⟨by simp [arr], by simp [arr], ?_⟩
    rw [step_bad hd]
end Go.AL.Path

/- Vectors, on: joined. -/
set_option linter.unusedSimpArgs false
set_option linter.unusedVariables false
set_option maxRecDepth 100000
namespace Go.AL.Path
open Go Go.RowKit Go.Proofs Go.AL

theorem step_max {a : Nat → Int} {k : Nat} {q : Int} (h : dotOk k q = true) : step a ((k : Int), q) = fun i => if i = k then max (a k) q else a i := by
  funext j
  by_cases hj : j = k
  · subst hj
    simp only [step, h, true_and, if_true]
    split <;> omega
  · have : ¬ (k : Int) = (j : Int) := by omega
    simp [step, this, hj]
def joinV2 (a b : Vec) : Vec := ofP fun i => max (cnt a i) (cnt b i)

def c41 : ACode := (.seq (.reg false 0 [⟨(.some 4), none, (.q .mv), [(.c (.sl 0 [] none))]⟩]) (.seq (.reg false 1 [⟨(.some 8), none, (.q .mv), [(.t 0)]⟩, ⟨(.some 9), none, (.call true), [(.c (.fn (.func 59) [] [])), (.t 8)]⟩, ⟨(.some 5), none, (.m (.alloc [(.imm (.int .i64 0)), (.imm (.int .i64 0)), (.imm (.int .i64 0)), (.imm (.int .i64 0)), (.imm (.int .i64 0)), (.imm (.int .i64 0)), (.imm (.int .i64 0)), (.imm (.int .i64 0)), (.imm (.int .i64 0)), (.imm (.int .i64 0)), (.imm (.int .i64 0)), (.imm (.int .i64 0)), (.imm (.int .i64 0)), (.imm (.int .i64 0)), (.imm (.int .i64 0)), (.imm (.int .i64 0)), (.imm (.int .i64 0)), (.imm (.int .i64 0)), (.imm (.int .i64 0)), (.imm (.int .i64 0)), (.imm (.int .i64 0)), (.imm (.int .i64 0)), (.imm (.int .i64 0)), (.imm (.int .i64 0)), (.imm (.int .i64 0)), (.imm (.int .i64 0)), (.imm (.int .i64 0)), (.imm (.int .i64 0)), (.imm (.int .i64 0)), (.imm (.int .i64 0)), (.imm (.int .i64 0)), (.imm (.int .i64 0))] false) 0), []⟩, ⟨none, none, (.e (.store 32)), [(.t 5), (.t 9)]⟩]) (.seq (.reg false 1 [⟨(.some 10), none, (.q .mv), [(.t 1)]⟩, ⟨(.some 11), none, (.call true), [(.c (.fn (.func 59) [] [])), (.t 10)]⟩, ⟨(.some 6), none, (.m (.alloc [(.imm (.int .i64 0)), (.imm (.int .i64 0)), (.imm (.int .i64 0)), (.imm (.int .i64 0)), (.imm (.int .i64 0)), (.imm (.int .i64 0)), (.imm (.int .i64 0)), (.imm (.int .i64 0)), (.imm (.int .i64 0)), (.imm (.int .i64 0)), (.imm (.int .i64 0)), (.imm (.int .i64 0)), (.imm (.int .i64 0)), (.imm (.int .i64 0)), (.imm (.int .i64 0)), (.imm (.int .i64 0)), (.imm (.int .i64 0)), (.imm (.int .i64 0)), (.imm (.int .i64 0)), (.imm (.int .i64 0)), (.imm (.int .i64 0)), (.imm (.int .i64 0)), (.imm (.int .i64 0)), (.imm (.int .i64 0)), (.imm (.int .i64 0)), (.imm (.int .i64 0)), (.imm (.int .i64 0)), (.imm (.int .i64 0)), (.imm (.int .i64 0)), (.imm (.int .i64 0)), (.imm (.int .i64 0)), (.imm (.int .i64 0))] false) 0), []⟩, ⟨none, none, (.e (.store 32)), [(.t 6), (.t 11)]⟩]) (.seq (.seq (.reg false 0 [⟨(.some 7), none, (.q .mv), [(.c (.imm (.int .i64 0)))]⟩]) (.block 0 (.loop (.seq (.seq (.reg false 0 [⟨(.some 12), none, (.q .mv), [(.t 7)]⟩, ⟨(.some 13), none, (.q (.bin .lss 3)), [(.t 12), (.c (.imm (.int .i64 32)))]⟩]) (.cond (.t 13) .skip (.exit 0))) (.seq (.block 1 (.reg true 0 [⟨(.some 16), none, (.q .mv), [(.t 7)]⟩, ⟨(.some 17), none, (.q .mv), [(.t 7)]⟩, ⟨(.some 18), none, (.q (.iaddrA 32 1)), [(.t 5), (.t 17)]⟩, ⟨(.some 19), none, (.l .load1), [(.t 18)]⟩, ⟨(.some 20), none, (.q .mv), [(.t 7)]⟩, ⟨(.some 21), none, (.q (.iaddrA 32 1)), [(.t 6), (.t 20)]⟩, ⟨(.some 22), none, (.l .load1), [(.t 21)]⟩, ⟨(.some 23), none, (.q .max2), [(.t 19), (.t 22)]⟩, ⟨(.some 24), none, (.q (.iaddrA 32 1)), [(.t 5), (.t 16)]⟩, ⟨none, none, (.e (.store 1)), [(.t 24), (.t 23)]⟩])) (.reg false 0 [⟨(.some 14), none, (.q .mv), [(.t 7)]⟩, ⟨(.some 15), none, (.q (.bin .add 3)), [(.t 14), (.c (.imm (.int .i64 1)))]⟩, ⟨(.some 7), none, (.q .mv), [(.t 15)]⟩])))))) (.seq (.reg false 0 [⟨(.some 25), none, (.l (.loadA 32)), [(.t 5)]⟩, ⟨(.some 26), none, (.call true), [(.c (.fn (.func 60) [] [])), (.t 25)]⟩, ⟨(.some 4), none, (.q .mv), [(.t 26)]⟩]) .ret)))))
theorem fn41 : IsFn Tryz.prog 41 [] c41 [4] 27 := ⟨_, _, Tryz.func41, rfl, by decide +kernel, by kernel_rfl, rfl, rfl⟩
set_option maxHeartbeats 2000000 in
theorem p41' (a b : Vec) (ha : Small a) (hb : Small b) : Pure Tryz.prog G 41 [vecV a, vecV b] (vecV (joinV2 a b)) := by
  refine pure_of_code' (S := sp [(59, vec1 (fun v => v.length ≤ 1099511627776) fun v => .agg (arr (cnt v))), (60, arr1 fun f => vecV (ofP f))] []) hm hG (sp_holds (.cons (told_vec1 p59) (.cons (told_arr1 p60) .nil)) .nil) fn41 (St 8 27 [vecV a, vecV b, .junk, .junk, .junk, .junk, .junk, .junk] []) (by kernel_rfl) (by simp [lows, AV.low, lows_vdots]) (by simp [AV.low, lows_vdots]) ?_
  simp (maxSteps := 2000000) -implicitDefEqProofs only [c41, RS, retC_normal, retC_ret, rvals_nil, rvals_tmp, rvals_cell, collect_one, collect_two, Nat.reduceLT, ↓RP0, ↓RP1, ↓RP2, ↓RP3, RV, List.map_cons, List.map_nil, List.cons_append, List.nil_append, List.append_nil, List.length_cons, List.length_nil, List.getElem?_cons_zero, List.getElem?_cons_succ, List.set_cons_zero, List.set_cons_succ, true_imp_iff, false_imp_iff, not_true_eq_false, not_false_eq_true, and_true, true_and, and_false, false_and, implies_true, ↓reduceIte, Bool.false_eq_true, Bool.true_eq_false, Bool.not_eq_true, Bool.not_true, Bool.not_false, beq_self_eq_true, Bool.true_beq, Bool.false_beq, List.take_zero, List.drop_zero, List.take_succ_cons, List.drop_succ_cons, List.take_nil, List.drop_nil, List.replicate_zero, List.replicate_succ, Nat.reduceAdd, Nat.reduceSub, Nat.reduceMul, Nat.reduceLeDiff, Nat.reduceEqDiff, Nat.zero_add, Nat.add_zero, Int.reduceLT, Int.reduceLE, Int.reduceEq, Int.reduceNe, Int.reduceAdd, Int.reduceSub, Int.reduceMul, Int.reduceNeg, Int.reduceToNat, Int.toNat_natCast, Int.natCast_nonneg, Int.natCast_zero, Nat.lt_irrefl, Option.some.injEq, reduceCtorEq, Option.map_some, ne_eq, ↓ask_vec1, ↓ask_arr1, ask_arr1, arr_strip, arr_take, ha, hb]
  refine ⟨arr_len _, arr_len _, ?_⟩
  refine loopB (st := fun (i : Nat) => (St 8 27 [vecV a, vecV b, .junk, .junk, .sl 0 [] none, .ptr 0 0, .ptr 1 0, i64 i] [])) (hp := fun i => [.box (arr fun j => if j < i then max (cnt a j) (cnt b j) else cnt a j), .box (arr (cnt b))]) (I := fun i => i ≤ 32) (m := fun i => 32 - i) (0 : Nat) (by decide) ?_ ?_
  · refine weak_sameS (by simp) ?_ ?_
    · simp [AObj.low, lows, AV.low, lows_arr]
    · simp [WeakL, AV.low, lows, lows_vdots]
  · intro i hi
    by_cases hlt : i < 32
    · have e3 : (i : Int) < 32 := by omega
      have e4 := arr_get (fun j => if j < i then max (cnt a j) (cnt b j) else cnt a j) hlt
      have e4b := arr_get (cnt b) hlt
      have e5 : (0 : Int) ≤ (i : Int) := by omega
      have e7 := arr_set (fun j => if j < i then max (cnt a j) (cnt b j) else cnt a j) hlt (max (cnt a i) (cnt b i))
      rw [if_neg (Nat.lt_irrefl i)] at e4
      simp (maxSteps := 2000000) -implicitDefEqProofs only [RS, retC_normal, retC_ret, rvals_nil, rvals_tmp, rvals_cell, collect_one, collect_two, Nat.reduceLT, ↓RP0, ↓RP1, ↓RP2, ↓RP3, RV, List.map_cons, List.map_nil, List.cons_append, List.nil_append, List.append_nil, List.length_cons, List.length_nil, List.getElem?_cons_zero, List.getElem?_cons_succ, List.set_cons_zero, List.set_cons_succ, true_imp_iff, false_imp_iff, not_true_eq_false, not_false_eq_true, and_true, true_and, and_false, false_and, implies_true, ↓reduceIte, Bool.false_eq_true, Bool.true_eq_false, Bool.not_eq_true, Bool.not_true, Bool.not_false, beq_self_eq_true, Bool.true_beq, Bool.false_beq, List.take_zero, List.drop_zero, List.take_succ_cons, List.drop_succ_cons, List.take_nil, List.drop_nil, List.replicate_zero, List.replicate_succ, Nat.reduceAdd, Nat.reduceSub, Nat.reduceMul, Nat.reduceLeDiff, Nat.reduceEqDiff, Nat.zero_add, Nat.add_zero, Int.reduceLT, Int.reduceLE, Int.reduceEq, Int.reduceNe, Int.reduceAdd, Int.reduceSub, Int.reduceMul, Int.reduceNeg, Int.reduceToNat, Int.toNat_natCast, Int.natCast_nonneg, Int.natCast_zero, Nat.lt_irrefl, Option.some.injEq, reduceCtorEq, Option.map_some, ne_eq, e3, e4, e4b, e5, e7, arr_len, Nat.mul_one]
      refine ⟨by omega, by omega, by omega, by omega, ⟨by omega, by omega⟩, i + 1, by dsimp only; omega, by omega, ?_⟩
      have h9 : (fun j => if j = i then max (cnt a i) (cnt b i) else if j < i then max (cnt a j) (cnt b j) else cnt a j) = fun j => if j < i + 1 then max (cnt a j) (cnt b j) else cnt a j := by
        funext j
        by_cases h1 : j = i
        · subst h1; simp
        · by_cases h2 : j < i
          · simp [h1, h2, show j < i + 1 by omega]
          · simp [h1, h2, show ¬ j < i + 1 by omega]
      rw [h9]
      refine weak_sameS (by simp) ?_ ?_
      · simp [AObj.low, lows, AV.low, lows_arr]
      · simp [WeakL, AV.low, lows, lows_vdots]
    · obtain rfl : i = 32 := by omega
      simp (maxSteps := 2000000) -implicitDefEqProofs only [RS, retC_normal, retC_ret, rvals_nil, rvals_tmp, rvals_cell, collect_one, collect_two, Nat.reduceLT, ↓RP0, ↓RP1, ↓RP2, ↓RP3, RV, List.map_cons, List.map_nil, List.cons_append, List.nil_append, List.append_nil, List.length_cons, List.length_nil, List.getElem?_cons_zero, List.getElem?_cons_succ, List.set_cons_zero, List.set_cons_succ, true_imp_iff, false_imp_iff, not_true_eq_false, not_false_eq_true, and_true, true_and, and_false, false_and, implies_true, ↓reduceIte, Bool.false_eq_true, Bool.true_eq_false, Bool.not_eq_true, Bool.not_true, Bool.not_false, beq_self_eq_true, Bool.true_beq, Bool.false_beq, List.take_zero, List.drop_zero, List.take_succ_cons, List.drop_succ_cons, List.take_nil, List.drop_nil, List.replicate_zero, List.replicate_succ, Nat.reduceAdd, Nat.reduceSub, Nat.reduceMul, Nat.reduceLeDiff, Nat.reduceEqDiff, Nat.zero_add, Nat.add_zero, Int.reduceLT, Int.reduceLE, Int.reduceEq, Int.reduceNe, Int.reduceAdd, Int.reduceSub, Int.reduceMul, Int.reduceNeg, Int.reduceToNat, Int.toNat_natCast, Int.natCast_nonneg, Int.natCast_zero, Nat.lt_irrefl, Option.some.injEq, reduceCtorEq, Option.map_some, ne_eq, Int.lt_irrefl, ↓ask_arr1, ask_arr1, arr_strip, arr_take, arr_len]
      refine ⟨fun h => absurd h (by omega), fun _ => ?_⟩
      have : (ofP fun j => if j < 32 then max (cnt a j) (cnt b j) else cnt a j) = joinV2 a b := by
        unfold joinV2 ofP
        exact ofTo_congr (fun i hi => by simp only [hi, if_true]) 32 (Nat.le_refl _)
      rw [this]

def c65 : ACode := (.seq (.reg false 1 [⟨(.some 2), none, (.m (.alloc [(.imm (.int .i64 0)), (.imm (.int .i64 0)), (.imm (.int .i64 0)), (.imm (.int .i64 0)), (.imm (.int .i64 0)), (.imm (.int .i64 0)), (.imm (.int .i64 0)), (.imm (.int .i64 0)), (.imm (.int .i64 0)), (.imm (.int .i64 0)), (.imm (.int .i64 0)), (.imm (.int .i64 0)), (.imm (.int .i64 0)), (.imm (.int .i64 0)), (.imm (.int .i64 0)), (.imm (.int .i64 0)), (.imm (.int .i64 0)), (.imm (.int .i64 0)), (.imm (.int .i64 0)), (.imm (.int .i64 0)), (.imm (.int .i64 0)), (.imm (.int .i64 0)), (.imm (.int .i64 0)), (.imm (.int .i64 0)), (.imm (.int .i64 0)), (.imm (.int .i64 0)), (.imm (.int .i64 0)), (.imm (.int .i64 0)), (.imm (.int .i64 0)), (.imm (.int .i64 0)), (.imm (.int .i64 0)), (.imm (.int .i64 0))] false) 0), []⟩]) (.seq (.reg false 1 [⟨(.some 3), none, (.m (.alloc [(.imm (.int .i64 0)), (.imm (.int .i64 0)), (.imm (.int .i64 0)), (.imm (.int .i64 0)), (.imm (.int .i64 0)), (.imm (.int .i64 0)), (.imm (.int .i64 0)), (.imm (.int .i64 0)), (.imm (.int .i64 0)), (.imm (.int .i64 0)), (.imm (.int .i64 0)), (.imm (.int .i64 0)), (.imm (.int .i64 0)), (.imm (.int .i64 0)), (.imm (.int .i64 0)), (.imm (.int .i64 0)), (.imm (.int .i64 0)), (.imm (.int .i64 0)), (.imm (.int .i64 0)), (.imm (.int .i64 0)), (.imm (.int .i64 0)), (.imm (.int .i64 0)), (.imm (.int .i64 0)), (.imm (.int .i64 0)), (.imm (.int .i64 0)), (.imm (.int .i64 0)), (.imm (.int .i64 0)), (.imm (.int .i64 0)), (.imm (.int .i64 0)), (.imm (.int .i64 0)), (.imm (.int .i64 0)), (.imm (.int .i64 0))] false) 0), []⟩]) (.seq (.seq (.reg false 0 [⟨(.some 6), none, (.q .mv), [(.t 0)]⟩, ⟨(.some 7), none, (.q .lenL), [(.t 6)]⟩, ⟨(.some 8), none, (.q .mv), [(.c (.imm (.int .i64 0)))]⟩]) (.block 0 (.loop (.seq (.reg false 0 [⟨(.some 9), none, (.q (.bin .lss 3)), [(.t 8), (.t 7)]⟩]) (.seq (.cond (.t 9) .skip (.exit 0)) (.seq (.block 1 (.seq (.reg false 1 [⟨(.some 10), none, (.q (.iaddrS 2)), [(.t 6), (.t 8)]⟩, ⟨(.some 11), none, (.l (.loadA 2)), [(.t 10)]⟩, ⟨(.some 5), none, (.m (.alloc [(.imm (.int .i64 0)), (.imm (.int .i64 0))] false) 0), []⟩, ⟨none, none, (.e (.store 2)), [(.t 5), (.t 11)]⟩]) (.seq (.reg false 0 [⟨(.some 12), none, (.l (.loadA 2)), [(.t 5)]⟩, ⟨(.some 13), none, (.call true), [(.c (.fn (.func 49) [] [])), (.t 12)]⟩]) (.cond (.t 13) (.reg true 0 [⟨(.some 14), none, (.q (.faddr 0)), [(.t 5)]⟩, ⟨(.some 15), none, (.l .load1), [(.t 14)]⟩, ⟨(.some 16), none, (.q (.faddr 0)), [(.t 5)]⟩, ⟨(.some 17), none, (.l .load1), [(.t 16)]⟩, ⟨(.some 18), none, (.q (.iaddrA 32 1)), [(.t 3), (.t 17)]⟩, ⟨(.some 19), none, (.l .load1), [(.t 18)]⟩, ⟨(.some 20), none, (.q (.faddr 1)), [(.t 5)]⟩, ⟨(.some 21), none, (.l .load1), [(.t 20)]⟩, ⟨(.some 22), none, (.q .max2), [(.t 19), (.t 21)]⟩, ⟨(.some 23), none, (.q (.iaddrA 32 1)), [(.t 3), (.t 15)]⟩, ⟨none, none, (.e (.store 1)), [(.t 23), (.t 22)]⟩]) .skip)))) (.reg false 0 [⟨(.some 24), none, (.q (.bin .add 3)), [(.t 8), (.c (.imm (.int .i64 1)))]⟩, ⟨(.some 8), none, (.q .mv), [(.t 24)]⟩]))))))) (.seq (.reg false 0 [⟨(.some 25), none, (.l (.loadA 32)), [(.t 3)]⟩, ⟨none, none, (.e (.store 32)), [(.t 2), (.t 25)]⟩]) .ret))))
theorem fn65 : IsFnC Tryz.prog 65 [] c65 [(2, some (76, .loadA 32))] 26 := ⟨⟨_, _, Tryz.func65, rfl, by decide +kernel, by kernel_rfl, rfl, rfl⟩, by intro r hr; simp only [List.mem_cons, List.not_mem_nil, or_false] at hr; subst hr; kernel_rfl⟩
set_option maxHeartbeats 2000000 in
theorem p65 (v : Vec) (hv : v.length ≤ 1099511627776) : Pure Tryz.prog G 65 [vecV v] (.agg (arr (cnt v))) := by
  refine pure_of_codeC (S := sp [(49, dot1b dotOk)] []) hm hG (sp_holds (.cons (told_dot1b p49) .nil) .nil) fn65 (St 9 26 [vecV v, .junk, .junk, .junk, .junk, .junk, .junk, .junk, .junk] []) (by kernel_rfl) (by simp [lows, AV.low, lows_vdots]) (by simp [AV.low, lows_arr]) ?_
  simp (maxSteps := 2000000) -implicitDefEqProofs only [c65, RS, retC_normal, retC_ret, rvals_nil, rvals_tmp, rvals_cell, collect_one, collect_two, Nat.reduceLT, ↓RP0, ↓RP1, ↓RP2, ↓RP3, RV, List.map_cons, List.map_nil, List.cons_append, List.nil_append, List.append_nil, List.length_cons, List.length_nil, List.getElem?_cons_zero, List.getElem?_cons_succ, List.set_cons_zero, List.set_cons_succ, true_imp_iff, false_imp_iff, not_true_eq_false, not_false_eq_true, and_true, true_and, and_false, false_and, implies_true, ↓reduceIte, Bool.false_eq_true, Bool.true_eq_false, Bool.not_eq_true, Bool.not_true, Bool.not_false, beq_self_eq_true, Bool.true_beq, Bool.false_beq, List.take_zero, List.drop_zero, List.take_succ_cons, List.drop_succ_cons, List.take_nil, List.drop_nil, List.replicate_zero, List.replicate_succ, Nat.reduceAdd, Nat.reduceSub, Nat.reduceMul, Nat.reduceLeDiff, Nat.reduceEqDiff, Nat.zero_add, Nat.add_zero, Int.reduceLT, Int.reduceLE, Int.reduceEq, Int.reduceNe, Int.reduceAdd, Int.reduceSub, Int.reduceMul, Int.reduceNeg, Int.reduceToNat, Int.toNat_natCast, Int.natCast_nonneg, Int.natCast_zero, Nat.lt_irrefl, Option.some.injEq, reduceCtorEq, Option.map_some, ne_eq]
  refine loopB (st := fun (i : Nat) => (St 9 26 [vecV v, .junk, .ptr 0 0, .ptr 1 0, .junk, .junk, vecV v, i64 v.length, i64 i] [])) (hp := fun i => [.box (List.replicate 32 (i64 0)), .box (arr (cnt (v.take i)))]) (I := fun i => i ≤ v.length) (m := fun i => v.length - i) (0 : Nat) (Nat.zero_le _) ?_ ?_
  · refine weak_sameS (by simp) ?_ ?_
    · simp [AObj.low, lows, AV.low]
    · simp [WeakL, AV.low, lows, lows_vdots, vdots_len]
  · intro i hi
    by_cases hlt : i < v.length
    · have e1 := vdots_get hlt
      have e2 : (i : Int) < (v.length : Int) := by omega
      have hc := cnt_take hlt
      generalize v.getD i (0, 0) = d at *
      obtain ⟨r, q⟩ := d
      cases hd : dotOk r q with
      | true =>
        obtain ⟨k, rfl⟩ : ∃ k : Nat, r = (k : Int) := ⟨r.toNat, by simp [dotOk] at hd; omega⟩
        have hk : k < 32 := by simp [dotOk] at hd; omega
        have e3 : (k : Int) < 32 := by omega
        have e4 := arr_get (cnt (v.take i)) hk
        have e5 : (0 : Int) ≤ (k : Int) := by omega
        have e7 := arr_set (cnt (v.take i)) hk (max (cnt (v.take i) k) q)
        simp (maxSteps := 2000000) -implicitDefEqProofs only [RS, retC_normal, retC_ret, rvals_nil, rvals_tmp, rvals_cell, collect_one, collect_two, Nat.reduceLT, ↓RP0, ↓RP1, ↓RP2, ↓RP3, RV, List.map_cons, List.map_nil, List.cons_append, List.nil_append, List.append_nil, List.length_cons, List.length_nil, List.getElem?_cons_zero, List.getElem?_cons_succ, List.set_cons_zero, List.set_cons_succ, true_imp_iff, false_imp_iff, not_true_eq_false, not_false_eq_true, and_true, true_and, and_false, false_and, implies_true, ↓reduceIte, Bool.false_eq_true, Bool.true_eq_false, Bool.not_eq_true, Bool.not_true, Bool.not_false, beq_self_eq_true, Bool.true_beq, Bool.false_beq, List.take_zero, List.drop_zero, List.take_succ_cons, List.drop_succ_cons, List.take_nil, List.drop_nil, List.replicate_zero, List.replicate_succ, Nat.reduceAdd, Nat.reduceSub, Nat.reduceMul, Nat.reduceLeDiff, Nat.reduceEqDiff, Nat.zero_add, Nat.add_zero, Int.reduceLT, Int.reduceLE, Int.reduceEq, Int.reduceNe, Int.reduceAdd, Int.reduceSub, Int.reduceMul, Int.reduceNeg, Int.reduceToNat, Int.toNat_natCast, Int.natCast_nonneg, Int.natCast_zero, Nat.lt_irrefl, Option.some.injEq, reduceCtorEq, Option.map_some, ne_eq, ↓ask_dot1b, e1, e2, e3, e4, e5, e7, hd, vdots_len, AV.cells, Nat.mul_one, arr_len]
        refine ⟨by omega, by omega, by omega, ⟨by omega, by omega⟩, i + 1, by dsimp only; omega, by omega, ?_⟩
        rw [← step_max hd, ← hc]
        refine weak_cutS 2 (by decide) (by simp) ?_ ?_
        · simp [AObj.low, lows, AV.low, lows_arr]
        · simp [WeakL, AV.low, lows, lows_vdots]
      | false =>
        simp (maxSteps := 2000000) -implicitDefEqProofs only [RS, retC_normal, retC_ret, rvals_nil, rvals_tmp, rvals_cell, collect_one, collect_two, Nat.reduceLT, ↓RP0, ↓RP1, ↓RP2, ↓RP3, RV, List.map_cons, List.map_nil, List.cons_append, List.nil_append, List.append_nil, List.length_cons, List.length_nil, List.getElem?_cons_zero, List.getElem?_cons_succ, List.set_cons_zero, List.set_cons_succ, true_imp_iff, false_imp_iff, not_true_eq_false, not_false_eq_true, and_true, true_and, and_false, false_and, implies_true, ↓reduceIte, Bool.false_eq_true, Bool.true_eq_false, Bool.not_eq_true, Bool.not_true, Bool.not_false, beq_self_eq_true, Bool.true_beq, Bool.false_beq, List.take_zero, List.drop_zero, List.take_succ_cons, List.drop_succ_cons, List.take_nil, List.drop_nil, List.replicate_zero, List.replicate_succ, Nat.reduceAdd, Nat.reduceSub, Nat.reduceMul, Nat.reduceLeDiff, Nat.reduceEqDiff, Nat.zero_add, Nat.add_zero, Int.reduceLT, Int.reduceLE, Int.reduceEq, Int.reduceNe, Int.reduceAdd, Int.reduceSub, Int.reduceMul, Int.reduceNeg, Int.reduceToNat, Int.toNat_natCast, Int.natCast_nonneg, Int.natCast_zero, Nat.lt_irrefl, Option.some.injEq, reduceCtorEq, Option.map_some, ne_eq, ↓ask_dot1b, e1, e2, hd, vdots_len, AV.cells]
        refine ⟨⟨by omega, by omega⟩, i + 1, by dsimp only; omega, by omega, ?_⟩
        have hc' : cnt (v.take (i + 1)) = cnt (v.take i) := by rw [hc, step_bad hd]
        rw [← hc']
        refine weak_cutS 2 (by decide) (by simp) ?_ ?_
        · simp [AObj.low, lows, AV.low, lows_arr]
        · simp [WeakL, AV.low, lows, lows_vdots]
    · obtain rfl : i = v.length := by omega
      simp (maxSteps := 2000000) -implicitDefEqProofs only [RS, retC_normal, retC_ret, rvals_nil, rvals_tmp, rvals_cell, collect_one, collect_two, Nat.reduceLT, ↓RP0, ↓RP1, ↓RP2, ↓RP3, RV, List.map_cons, List.map_nil, List.cons_append, List.nil_append, List.append_nil, List.length_cons, List.length_nil, List.getElem?_cons_zero, List.getElem?_cons_succ, List.set_cons_zero, List.set_cons_succ, true_imp_iff, false_imp_iff, not_true_eq_false, not_false_eq_true, and_true, true_and, and_false, false_and, implies_true, ↓reduceIte, Bool.false_eq_true, Bool.true_eq_false, Bool.not_eq_true, Bool.not_true, Bool.not_false, beq_self_eq_true, Bool.true_beq, Bool.false_beq, List.take_zero, List.drop_zero, List.take_succ_cons, List.drop_succ_cons, List.take_nil, List.drop_nil, List.replicate_zero, List.replicate_succ, Nat.reduceAdd, Nat.reduceSub, Nat.reduceMul, Nat.reduceLeDiff, Nat.reduceEqDiff, Nat.zero_add, Nat.add_zero, Int.reduceLT, Int.reduceLE, Int.reduceEq, Int.reduceNe, Int.reduceAdd, Int.reduceSub, Int.reduceMul, Int.reduceNeg, Int.reduceToNat, Int.toNat_natCast, Int.natCast_nonneg, Int.natCast_zero, Nat.lt_irrefl, Option.some.injEq, reduceCtorEq, Option.map_some, ne_eq, vdots_len, Int.lt_irrefl]
      rw [List.take_length]
      refine ⟨by simp [arr], by simp [arr], by simp [arr], ?_⟩
      have h32 : (arr (cnt v)).take 32 = arr (cnt v) := List.take_of_length_le (by simp [arr])
      rw [h32, h32, arr_strip]

def c66 : ACode := (.seq (.reg false 2 [⟨(.some 1), none, (.m .box 0), [(.t 0)]⟩, ⟨(.some 2), none, (.m (.nilT 24 2) 1), []⟩]) (.seq (.reg false 1 [⟨(.some 3), none, (.m (.nilT 24 2) 0), []⟩]) (.seq (.seq (.reg false 0 [⟨(.some 6), none, (.l (.loadA 32)), [(.t 1)]⟩, ⟨(.some 7), none, (.q .mv), [(.c (.imm (.int .i64 0)))]⟩]) (.block 0 (.loop (.seq (.reg false 0 [⟨(.some 8), none, (.q (.bin .lss 3)), [(.t 7), (.c (.imm (.int .i64 32)))]⟩]) (.seq (.cond (.t 8) .skip (.exit 0)) (.seq (.block 1 (.seq (.reg false 0 [⟨(.some 9), none, (.q .mv), [(.t 7)]⟩, ⟨(.some 10), none, (.q (.idx1 32)), [(.t 6), (.t 7)]⟩, ⟨(.some 4), none, (.q .mv), [(.t 9)]⟩, ⟨(.some 5), none, (.q .mv), [(.t 10)]⟩]) (.seq (.reg false 0 [⟨(.some 11), none, (.q .mv), [(.t 5)]⟩, ⟨(.some 12), none, (.q (.bin .gtr 2)), [(.t 11), (.c (.imm (.int .i64 0)))]⟩]) (.cond (.t 12) (.reg false 1 [⟨(.some 13), none, (.q .mv), [(.t 3)]⟩, ⟨(.some 14), none, (.q .mv), [(.t 4)]⟩, ⟨(.some 15), none, (.q .mv), [(.t 5)]⟩, ⟨(.some 16), none, (.q (.build [(.imm (.int .i64 0)), (.imm (.int .i64 0))] [(0, 1), (1, 1)])), [(.t 14), (.t 15)]⟩, ⟨(.some 17), none, (.m (.bsliceO 24 2) 0), [(.t 16)]⟩, ⟨(.some 18), none, (.e (.append 24 2 16)), [(.t 13), (.t 17)]⟩, ⟨(.some 3), none, (.q .mv), [(.t 18)]⟩]) .skip)))) (.reg false 0 [⟨(.some 19), none, (.q (.bin .add 3)), [(.t 7), (.c (.imm (.int .i64 1)))]⟩, ⟨(.some 7), none, (.q .mv), [(.t 19)]⟩]))))))) (.seq (.reg false 0 [⟨(.some 20), none, (.q .mv), [(.t 3)]⟩, ⟨(.some 2), none, (.q .mv), [(.t 20)]⟩]) .ret))))
theorem fn66 : IsFn Tryz.prog 66 (List.range 200) c66 [2] 21 := ⟨_, _, Tryz.func66, rfl, by decide +kernel, by kernel_rfl, rfl, rfl⟩
set_option maxHeartbeats 2000000 in
theorem p66 (f : Nat → Int) : Pure Tryz.prog G 66 [.agg (arr f)] (vecV (ofP f)) := by
  refine pure_of_code' (S := sp [] []) hm hG (sp_holds .nil .nil) fn66 (St 8 21 [.agg (arr f), .junk, .junk, .junk, .junk, .junk, .junk, .junk] []) (by kernel_rfl) (by simp [lows, AV.low, lows_arr]) (by simp [AV.low, lows_vdots]) ?_
  simp (maxSteps := 2000000) -implicitDefEqProofs only [c66, RS, retC_normal, retC_ret, rvals_nil, rvals_tmp, rvals_cell, collect_one, collect_two, Nat.reduceLT, ↓RP0, ↓RP1, ↓RP2, ↓RP3, RV, List.map_cons, List.map_nil, List.cons_append, List.nil_append, List.append_nil, List.length_cons, List.length_nil, List.getElem?_cons_zero, List.getElem?_cons_succ, List.set_cons_zero, List.set_cons_succ, true_imp_iff, false_imp_iff, not_true_eq_false, not_false_eq_true, and_true, true_and, and_false, false_and, implies_true, ↓reduceIte, Bool.false_eq_true, Bool.true_eq_false, Bool.not_eq_true, Bool.not_true, Bool.not_false, beq_self_eq_true, Bool.true_beq, Bool.false_beq, List.take_zero, List.drop_zero, List.take_succ_cons, List.drop_succ_cons, List.take_nil, List.drop_nil, List.replicate_zero, List.replicate_succ, Nat.reduceAdd, Nat.reduceSub, Nat.reduceMul, Nat.reduceLeDiff, Nat.reduceEqDiff, Nat.zero_add, Nat.add_zero, Int.reduceLT, Int.reduceLE, Int.reduceEq, Int.reduceNe, Int.reduceAdd, Int.reduceSub, Int.reduceMul, Int.reduceNeg, Int.reduceToNat, Int.toNat_natCast, Int.natCast_nonneg, Int.natCast_zero, Nat.lt_irrefl, Option.some.injEq, reduceCtorEq, Option.map_some, ne_eq, arr_len, arr_take]
  refine loopB (st := fun (i : Nat) => (St 8 21 [.agg (arr f), .ptr 0 0, .sl 2 [] (some 1), .sl 2 (vdots (ofTo f i)) (some 2), .junk, .junk, .agg (arr f), i64 i] [])) (hp := fun i => [.box (arr f), .tok 24 2 0, .tok 24 2 (ofTo f i).length]) (I := fun i => i ≤ 32) (m := fun i => 32 - i) (0 : Nat) (by decide) ?_ ?_
  · refine weak_sameS (by simp) ?_ ?_
    · simp [AObj.low, lows, AV.low, lows_arr]
    · simp [WeakL, AV.low, lows, lows_arr, vdots, ofTo]
  · intro i hi
    have hlen := ofTo_len f i
    by_cases hlt : i < 32
    · have e3 : (i : Int) < 32 := by omega
      have e4 := arr_get f hlt
      have e5 : (0 : Int) ≤ (i : Int) := by omega
      by_cases hp : 0 < f i
      · have e6 : (0 < f i) = True := eq_true hp
        simp (maxSteps := 2000000) -implicitDefEqProofs only [RS, retC_normal, retC_ret, rvals_nil, rvals_tmp, rvals_cell, collect_one, collect_two, Nat.reduceLT, ↓RP0, ↓RP1, ↓RP2, ↓RP3, RV, List.map_cons, List.map_nil, List.cons_append, List.nil_append, List.append_nil, List.length_cons, List.length_nil, List.getElem?_cons_zero, List.getElem?_cons_succ, List.set_cons_zero, List.set_cons_succ, true_imp_iff, false_imp_iff, not_true_eq_false, not_false_eq_true, and_true, true_and, and_false, false_and, implies_true, ↓reduceIte, Bool.false_eq_true, Bool.true_eq_false, Bool.not_eq_true, Bool.not_true, Bool.not_false, beq_self_eq_true, Bool.true_beq, Bool.false_beq, List.take_zero, List.drop_zero, List.take_succ_cons, List.drop_succ_cons, List.take_nil, List.drop_nil, List.replicate_zero, List.replicate_succ, Nat.reduceAdd, Nat.reduceSub, Nat.reduceMul, Nat.reduceLeDiff, Nat.reduceEqDiff, Nat.zero_add, Nat.add_zero, Int.reduceLT, Int.reduceLE, Int.reduceEq, Int.reduceNe, Int.reduceAdd, Int.reduceSub, Int.reduceMul, Int.reduceNeg, Int.reduceToNat, Int.toNat_natCast, Int.natCast_nonneg, Int.natCast_zero, Nat.lt_irrefl, Option.some.injEq, reduceCtorEq, Option.map_some, ne_eq, e3, e4, e5, e6, arr_len, Nat.mul_one, AV.cells, vdots_len]
        refine ⟨by omega, by simp [AV.isVal], .inl trivial, .inl trivial, by omega, by omega, ⟨by omega, by omega⟩, i + 1, by dsimp only; omega, by omega, ?_⟩
        have h9 : ofTo f (i + 1) = ofTo f i ++ [((i : Int), f i)] := by rw [ofTo, if_pos hp]
        have h10 : vdots (ofTo f i) ++ [dotV i (f i)] = vdots (ofTo f (i + 1)) := by rw [h9]; simp [vdots]
        have h11 : (ofTo f (i + 1)).length = (ofTo f i).length + 1 := by rw [h9]; simp
        rw [h10, ← h11]
        refine weak_cutS 3 (by decide) (by simp) ?_ ?_
        · simp [AObj.low, lows, AV.low, lows_arr]
        · simp [WeakL, AV.low, lows, lows_arr, lows_vdots]
      · have e6 : (0 < f i) = False := eq_false hp
        simp (maxSteps := 2000000) -implicitDefEqProofs only [RS, retC_normal, retC_ret, rvals_nil, rvals_tmp, rvals_cell, collect_one, collect_two, Nat.reduceLT, ↓RP0, ↓RP1, ↓RP2, ↓RP3, RV, List.map_cons, List.map_nil, List.cons_append, List.nil_append, List.append_nil, List.length_cons, List.length_nil, List.getElem?_cons_zero, List.getElem?_cons_succ, List.set_cons_zero, List.set_cons_succ, true_imp_iff, false_imp_iff, not_true_eq_false, not_false_eq_true, and_true, true_and, and_false, false_and, implies_true, ↓reduceIte, Bool.false_eq_true, Bool.true_eq_false, Bool.not_eq_true, Bool.not_true, Bool.not_false, beq_self_eq_true, Bool.true_beq, Bool.false_beq, List.take_zero, List.drop_zero, List.take_succ_cons, List.drop_succ_cons, List.take_nil, List.drop_nil, List.replicate_zero, List.replicate_succ, Nat.reduceAdd, Nat.reduceSub, Nat.reduceMul, Nat.reduceLeDiff, Nat.reduceEqDiff, Nat.zero_add, Nat.add_zero, Int.reduceLT, Int.reduceLE, Int.reduceEq, Int.reduceNe, Int.reduceAdd, Int.reduceSub, Int.reduceMul, Int.reduceNeg, Int.reduceToNat, Int.toNat_natCast, Int.natCast_nonneg, Int.natCast_zero, Nat.lt_irrefl, Option.some.injEq, reduceCtorEq, Option.map_some, ne_eq, e3, e4, e5, e6, arr_len, Nat.mul_one, AV.cells, vdots_len]
        refine ⟨by omega, ⟨by omega, by omega⟩, i + 1, by dsimp only; omega, by omega, ?_⟩
        have h9 : ofTo f (i + 1) = ofTo f i := by rw [ofTo, if_neg hp]
        rw [← h9]
        refine weak_sameS (by simp) ?_ ?_
        · simp [AObj.low, lows, AV.low, lows_arr]
        · simp [WeakL, AV.low, lows, lows_arr, lows_vdots]
    · obtain rfl : i = 32 := by omega
      simp (maxSteps := 2000000) -implicitDefEqProofs only [RS, retC_normal, retC_ret, rvals_nil, rvals_tmp, rvals_cell, collect_one, collect_two, Nat.reduceLT, ↓RP0, ↓RP1, ↓RP2, ↓RP3, RV, List.map_cons, List.map_nil, List.cons_append, List.nil_append, List.append_nil, List.length_cons, List.length_nil, List.getElem?_cons_zero, List.getElem?_cons_succ, List.set_cons_zero, List.set_cons_succ, true_imp_iff, false_imp_iff, not_true_eq_false, not_false_eq_true, and_true, true_and, and_false, false_and, implies_true, ↓reduceIte, Bool.false_eq_true, Bool.true_eq_false, Bool.not_eq_true, Bool.not_true, Bool.not_false, beq_self_eq_true, Bool.true_beq, Bool.false_beq, List.take_zero, List.drop_zero, List.take_succ_cons, List.drop_succ_cons, List.take_nil, List.drop_nil, List.replicate_zero, List.replicate_succ, Nat.reduceAdd, Nat.reduceSub, Nat.reduceMul, Nat.reduceLeDiff, Nat.reduceEqDiff, Nat.zero_add, Nat.add_zero, Int.reduceLT, Int.reduceLE, Int.reduceEq, Int.reduceNe, Int.reduceAdd, Int.reduceSub, Int.reduceMul, Int.reduceNeg, Int.reduceToNat, Int.toNat_natCast, Int.natCast_nonneg, Int.natCast_zero, Nat.lt_irrefl, Option.some.injEq, reduceCtorEq, Option.map_some, ne_eq, Int.lt_irrefl, vdots_len]
      exact ⟨fun h => absurd h (by omega), fun _ => rfl⟩

def c64 : ACode := (.seq (.reg false 0 [⟨(.some 4), none, (.q .mv), [(.c (.imm (.bool false)))]⟩]) (.seq (.seq (.reg false 0 [⟨(.some 6), none, (.q .mv), [(.t 0)]⟩, ⟨(.some 7), none, (.q .lenL), [(.t 6)]⟩, ⟨(.some 8), none, (.q .mv), [(.t 1)]⟩, ⟨(.some 9), none, (.q .lenL), [(.t 8)]⟩, ⟨(.some 10), none, (.q (.bin .neq 3)), [(.t 7), (.t 9)]⟩]) (.cond (.t 10) (.seq (.reg false 0 [⟨(.some 4), none, (.q .mv), [(.c (.imm (.bool false)))]⟩]) .ret) .skip)) (.seq (.seq (.reg false 0 [⟨(.some 11), none, (.q .mv), [(.t 0)]⟩, ⟨(.some 12), none, (.q .lenL), [(.t 11)]⟩, ⟨(.some 13), none, (.q .mv), [(.c (.imm (.int .i64 0)))]⟩]) (.block 0 (.loop (.seq (.reg false 0 [⟨(.some 14), none, (.q (.bin .lss 3)), [(.t 13), (.t 12)]⟩]) (.seq (.cond (.t 14) .skip (.exit 0)) (.seq (.block 1 (.seq (.reg false 0 [⟨(.some 15), none, (.q .mv), [(.t 13)]⟩, ⟨(.some 5), none, (.q .mv), [(.t 15)]⟩]) (.seq (.reg true 0 [⟨(.some 16), none, (.q .mv), [(.t 0)]⟩, ⟨(.some 17), none, (.q .mv), [(.t 5)]⟩, ⟨(.some 18), none, (.q (.iaddrS 2)), [(.t 16), (.t 17)]⟩, ⟨(.some 19), none, (.l (.loadA 2)), [(.t 18)]⟩, ⟨(.some 20), none, (.q .mv), [(.t 1)]⟩, ⟨(.some 21), none, (.q .mv), [(.t 5)]⟩, ⟨(.some 22), none, (.q (.iaddrS 2)), [(.t 20), (.t 21)]⟩, ⟨(.some 23), none, (.l (.loadA 2)), [(.t 22)]⟩, ⟨(.some 24), none, (.q (.eqA true 2)), [(.t 19), (.t 23)]⟩]) (.cond (.t 24) (.seq (.reg false 0 [⟨(.some 4), none, (.q .mv), [(.c (.imm (.bool false)))]⟩]) .ret) .skip)))) (.reg false 0 [⟨(.some 25), none, (.q (.bin .add 3)), [(.t 13), (.c (.imm (.int .i64 1)))]⟩, ⟨(.some 13), none, (.q .mv), [(.t 25)]⟩]))))))) (.seq (.reg false 0 [⟨(.some 4), none, (.q .mv), [(.c (.imm (.bool true)))]⟩]) .ret))))
theorem fn64 : IsFn Tryz.prog 64 [] c64 [4] 26 := ⟨_, _, Tryz.func64, rfl, by decide +kernel, by kernel_rfl, rfl, rfl⟩
set_option maxHeartbeats 2000000 in
theorem p64' (a b : Vec) (ha : a.length ≤ 1099511627776) : Pure Tryz.prog G 64 [vecV a, vecV b] (bool (decide (a = b))) := by
  refine pure_of_code' (S := sp [] []) hm hG (sp_holds .nil .nil) fn64 (St 14 26 [vecV a, vecV b, .junk, .junk, .junk, .junk, .junk, .junk, .junk, .junk, .junk, .junk, .junk, .junk] []) (by kernel_rfl) (by simp [lows, AV.low, lows_vdots]) (by simp [AV.low]) ?_
  simp (maxSteps := 2000000) -implicitDefEqProofs only [c64, RS, retC_normal, retC_ret, rvals_nil, rvals_tmp, rvals_cell, collect_one, collect_two, Nat.reduceLT, ↓RP0, ↓RP1, ↓RP2, ↓RP3, RV, List.map_cons, List.map_nil, List.cons_append, List.nil_append, List.append_nil, List.length_cons, List.length_nil, List.getElem?_cons_zero, List.getElem?_cons_succ, List.set_cons_zero, List.set_cons_succ, true_imp_iff, false_imp_iff, not_true_eq_false, not_false_eq_true, and_true, true_and, and_false, false_and, implies_true, ↓reduceIte, Bool.false_eq_true, Bool.true_eq_false, Bool.not_eq_true, Bool.not_true, Bool.not_false, beq_self_eq_true, Bool.true_beq, Bool.false_beq, List.take_zero, List.drop_zero, List.take_succ_cons, List.drop_succ_cons, List.take_nil, List.drop_nil, List.replicate_zero, List.replicate_succ, Nat.reduceAdd, Nat.reduceSub, Nat.reduceMul, Nat.reduceLeDiff, Nat.reduceEqDiff, Nat.zero_add, Nat.add_zero, Int.reduceLT, Int.reduceLE, Int.reduceEq, Int.reduceNe, Int.reduceAdd, Int.reduceSub, Int.reduceMul, Int.reduceNeg, Int.reduceToNat, Int.toNat_natCast, Int.natCast_nonneg, Int.natCast_zero, Nat.lt_irrefl, Option.some.injEq, reduceCtorEq, Option.map_some, ne_eq, vdots_len]
  refine ⟨fun h => ?_, fun h => ?_⟩
  · refine loopB (st := fun (i : Nat) => (St 14 26 [vecV a, vecV b, .junk, .junk, .imm (.bool false), .junk, .junk, .junk, .junk, .junk, .junk, .junk, i64 a.length, i64 i] [])) (hp := fun _ => []) (I := fun i => i ≤ a.length ∧ a.take i = b.take i) (m := fun i => a.length - i) (0 : Nat) ⟨Nat.zero_le _, rfl⟩ ?_ ?_
    · refine weak_nilS ?_; simp [WeakL, AV.low, lows, lows_vdots]
    · rintro i ⟨hi, he⟩
      by_cases hlt : i < a.length
      · have e1 := vdots_get hlt
        have e2 := vdots_get (v := b) (i := i) (by omega)
        have e3 : (i : Int) < (a.length : Int) := by omega
        have e4 : (i : Int) < (b.length : Int) := by omega
        have t1 := getD_take (v := a) hlt
        have t2 := getD_take (v := b) (i := i) (by omega)
        generalize a.getD i (0, 0) = x at *
        generalize b.getD i (0, 0) = y at *
        simp (maxSteps := 2000000) -implicitDefEqProofs only [RS, retC_normal, retC_ret, rvals_nil, rvals_tmp, rvals_cell, collect_one, collect_two, Nat.reduceLT, ↓RP0, ↓RP1, ↓RP2, ↓RP3, RV, List.map_cons, List.map_nil, List.cons_append, List.nil_append, List.append_nil, List.length_cons, List.length_nil, List.getElem?_cons_zero, List.getElem?_cons_succ, List.set_cons_zero, List.set_cons_succ, true_imp_iff, false_imp_iff, not_true_eq_false, not_false_eq_true, and_true, true_and, and_false, false_and, implies_true, ↓reduceIte, Bool.false_eq_true, Bool.true_eq_false, Bool.not_eq_true, Bool.not_true, Bool.not_false, beq_self_eq_true, Bool.true_beq, Bool.false_beq, List.take_zero, List.drop_zero, List.take_succ_cons, List.drop_succ_cons, List.take_nil, List.drop_nil, List.replicate_zero, List.replicate_succ, Nat.reduceAdd, Nat.reduceSub, Nat.reduceMul, Nat.reduceLeDiff, Nat.reduceEqDiff, Nat.zero_add, Nat.add_zero, Int.reduceLT, Int.reduceLE, Int.reduceEq, Int.reduceNe, Int.reduceAdd, Int.reduceSub, Int.reduceMul, Int.reduceNeg, Int.reduceToNat, Int.toNat_natCast, Int.natCast_nonneg, Int.natCast_zero, Nat.lt_irrefl, Option.some.injEq, reduceCtorEq, Option.map_some, ne_eq, ↓qB_neA2, e1, e2, e3, e4, vdots_len, AV.cells]
        refine ⟨fun hxy => ⟨⟨by omega, by omega⟩, i + 1, by dsimp only; omega, ⟨by omega, ?_⟩, ?_⟩, fun hxy => ?_⟩
        · rw [t1, t2, he]; congr 2; exact Prod.ext hxy.1 hxy.2
        · refine weak_nilS ?_; simp [WeakL, AV.low, lows, lows_vdots]
        · have : ¬ a = b := by
            intro e
            subst e
            rw [t1] at t2
            have := List.append_cancel_left t2
            simp at this
            exact hxy ⟨by rw [this], by rw [this]⟩
          simp [this]
      · obtain rfl : i = a.length := by omega
        simp (maxSteps := 2000000) -implicitDefEqProofs only [RS, retC_normal, retC_ret, rvals_nil, rvals_tmp, rvals_cell, collect_one, collect_two, Nat.reduceLT, ↓RP0, ↓RP1, ↓RP2, ↓RP3, RV, List.map_cons, List.map_nil, List.cons_append, List.nil_append, List.append_nil, List.length_cons, List.length_nil, List.getElem?_cons_zero, List.getElem?_cons_succ, List.set_cons_zero, List.set_cons_succ, true_imp_iff, false_imp_iff, not_true_eq_false, not_false_eq_true, and_true, true_and, and_false, false_and, implies_true, ↓reduceIte, Bool.false_eq_true, Bool.true_eq_false, Bool.not_eq_true, Bool.not_true, Bool.not_false, beq_self_eq_true, Bool.true_beq, Bool.false_beq, List.take_zero, List.drop_zero, List.take_succ_cons, List.drop_succ_cons, List.take_nil, List.drop_nil, List.replicate_zero, List.replicate_succ, Nat.reduceAdd, Nat.reduceSub, Nat.reduceMul, Nat.reduceLeDiff, Nat.reduceEqDiff, Nat.zero_add, Nat.add_zero, Int.reduceLT, Int.reduceLE, Int.reduceEq, Int.reduceNe, Int.reduceAdd, Int.reduceSub, Int.reduceMul, Int.reduceNeg, Int.reduceToNat, Int.toNat_natCast, Int.natCast_nonneg, Int.natCast_zero, Nat.lt_irrefl, Option.some.injEq, reduceCtorEq, Option.map_some, ne_eq, vdots_len, Int.lt_irrefl]
        have : a = b := by
          have h2 : b.length = a.length := by omega
          rw [List.take_length, ← h2, List.take_length] at he
          exact he
        simp [this]
  · have : ¬ a = b := fun e => h (by rw [e])
    simp [this]
end Go.AL.Path
