/- Dots. -/
import Derived.Test.YtcppnhnomemphaaGreatDoorG14
import Derived.Test.YtcppnhnomemphaaGreatDoorG15
import Derived.Test.YtcppnhnomemphaaGreatDoorG23
set_option linter.unusedSimpArgs false
set_option linter.unusedVariables false
set_option maxRecDepth 100000
namespace Go.AL.Path
open Go Go.RowKit Go.Proofs Go.AL

theorem qB_eqA2 {a b c d : Int} {K : AV → Prop} : qB (.eqA false 2) [.agg [i64 a, i64 b], .agg [i64 c, i64 d]] K = SplitP (a = c ∧ b = d) (K (bool true)) (K (bool false)) := by
  show (2 = 2 ∧ K (bool ((a == c) && ((b == d) && true)))) = _
  have e1 : (a == c) = decide (a = c) := rfl
  have e2 : (b == d) = decide (b = d) := rfl
  rw [e1, e2]
  by_cases h1 : a = c <;> by_cases h2 : b = d <;> simp [SplitP, h1, h2]
theorem qB_neA2 {a b c d : Int} {K : AV → Prop} : qB (.eqA true 2) [.agg [i64 a, i64 b], .agg [i64 c, i64 d]] K = SplitP (a = c ∧ b = d) (K (bool false)) (K (bool true)) := by
  show (2 = 2 ∧ K (bool (!((a == c) && ((b == d) && true))))) = _
  have e1 : (a == c) = decide (a = c) := rfl
  have e2 : (b == d) = decide (b = d) := rfl
  rw [e1, e2]
  by_cases h1 : a = c <;> by_cases h2 : b = d <;> simp [SplitP, h1, h2]

def dotOk (r q : Int) : Bool := decide (0 ≤ r) && decide (r ≤ 31) && decide (1 ≤ q) && decide (q ≤ 1099511627776)
abbrev dotV (r q : Int) : AV := .agg [i64 r, i64 q]
def cmpDot (r q r' q' : Int) : Int := if r = r' ∧ q = q' then 0 else if r < r' ∨ r = r' ∧ q < q' then -1 else 1

/-- A question about a dot. -/
def dot1b (f : Int → Int → Bool) : PSp := fun args K => match args with
  | [.agg [.imm (.int .i64 r), .imm (.int .i64 q)]] => splitB (f r q) K | _ => False
theorem ask_dot1b {f} {r q : Int} {K} : ask (dot1b f) [dotV r q] K = splitB (f r q) K := rfl
theorem told_dot1b {F f} (h : ∀ r q, Pure Tryz.prog G F [dotV r q] (bool (f r q))) : Told Tryz.prog G F (dot1b f) := by
  intro args K hk
  unfold dot1b at hk
  split at hk
  · exact ⟨_, h _ _, splitB_of hk⟩
  · exact hk.elim
/-- A number of two dots. -/
def dot2n (f : Int → Int → Int → Int → Int) : PSp := fun args K => match args with
  | [.agg [.imm (.int .i64 r), .imm (.int .i64 q)], .agg [.imm (.int .i64 r'), .imm (.int .i64 q')]] => K (i64 (f r q r' q')) | _ => False
theorem ask_dot2n {f} {r q r' q' : Int} {K} : ask (dot2n f) [dotV r q, dotV r' q'] K = K (i64 (f r q r' q')) := rfl
theorem told_dot2n {F f} (h : ∀ r q r' q', Pure Tryz.prog G F [dotV r q, dotV r' q'] (i64 (f r q r' q'))) : Told Tryz.prog G F (dot2n f) := by
  intro args K hk
  unfold dot2n at hk
  split at hk
  · exact ⟨_, h _ _ _ _, hk⟩
  · exact hk.elim
def int1b (f : Int → Bool) : PSp := fun args K => match args with
  | [.imm (.int .i64 r)] => splitB (f r) K | _ => False
theorem ask_int1b {f} {r : Int} {K} : ask (int1b f) [i64 r] K = splitB (f r) K := rfl
theorem told_int1b {F f} (h : ∀ r, Pure Tryz.prog G F [i64 r] (bool (f r))) : Told Tryz.prog G F (int1b f) := by
  intro args K hk
  unfold int1b at hk
  split at hk
  · exact ⟨_, h _, splitB_of hk⟩
  · exact hk.elim

def c58 : ACode := (.seq (.reg false 1 [⟨(.some 1), none, (.m .box 0), [(.t 0)]⟩, ⟨(.some 2), none, (.q .mv), [(.c (.imm (.bool false)))]⟩]) (.seq (.reg false 0 [⟨(.some 3), none, (.q (.faddr 0)), [(.t 1)]⟩, ⟨(.some 4), none, (.l .load1), [(.t 3)]⟩, ⟨(.some 5), none, (.q (.bin .geq 3)), [(.t 4), (.c (.imm (.int .i64 0)))]⟩, ⟨(.some 6), none, (.q .mv), [(.t 5)]⟩, ⟨(.some 7), (.some (6, true)), (.q (.faddr 0)), [(.t 1)]⟩, ⟨(.some 8), (.some (6, true)), (.l .load1), [(.t 7)]⟩, ⟨(.some 9), (.some (6, true)), (.q (.bin .leq 3)), [(.t 8), (.c (.imm (.int .i64 31)))]⟩, ⟨(.some 10), none, (.q .pick), [(.t 6), (.t 9), (.c (.imm (.bool false)))]⟩, ⟨(.some 11), none, (.q .mv), [(.t 10)]⟩, ⟨(.some 12), (.some (11, true)), (.q (.faddr 1)), [(.t 1)]⟩, ⟨(.some 13), (.some (11, true)), (.l .load1), [(.t 12)]⟩, ⟨(.some 14), (.some (11, true)), (.q (.bin .geq 2)), [(.t 13), (.c (.imm (.int .i64 1)))]⟩, ⟨(.some 15), none, (.q .pick), [(.t 11), (.t 14), (.c (.imm (.bool false)))]⟩, ⟨(.some 16), none, (.q .mv), [(.t 15)]⟩, ⟨(.some 17), (.some (16, true)), (.q (.faddr 1)), [(.t 1)]⟩, ⟨(.some 18), (.some (16, true)), (.l .load1), [(.t 17)]⟩, ⟨(.some 19), (.some (16, true)), (.q (.bin .leq 2)), [(.t 18), (.c (.imm (.int .i64 1099511627776)))]⟩, ⟨(.some 20), none, (.q .pick), [(.t 16), (.t 19), (.c (.imm (.bool false)))]⟩, ⟨(.some 2), none, (.q .mv), [(.t 20)]⟩]) .ret))
theorem fn58 : IsFn Tryz.prog 58 [] c58 [2] 21 := ⟨_, _, Tryz.func58, rfl, by decide +kernel, by kernel_rfl, rfl, rfl⟩
theorem p58 (r q : Int) : Pure Tryz.prog G 58 [dotV r q] (bool (dotOk r q)) := by
  refine pure_of_code' (S := sp [] []) hm hG (sp_holds .nil .nil) fn58 (St 4 21 [dotV r q, .junk, .junk, .junk] []) (by kernel_rfl) (by simp [lows, AV.low]) (by simp [AV.low]) ?_
  simp (maxSteps := 2000000) -implicitDefEqProofs only [c58, RS, Nat.reduceLT, ↓RP0, ↓RP1, ↓RP2, ↓RP3, RV, RW, ↓reduceIte, Nat.reduceAdd, Nat.reduceSub, Nat.reduceMul, Nat.reduceLeDiff, Nat.reduceEqDiff, Int.reduceLT, Int.reduceLE, Int.reduceEq, Int.reduceNe, Int.reduceAdd, Int.reduceSub, Int.reduceMul, Int.reduceNeg, Int.reduceToNat, reduceCtorEq]
  refine ⟨fun h1 => ⟨fun h2 => ⟨fun h3 => ⟨fun h4 => ?_, fun h4 => ?_⟩, fun h3 => ?_⟩, fun h2 => ?_⟩, fun h1 => ?_⟩ <;> simp [dotOk] <;> omega

def c63 : ACode := (.seq (.reg false 0 [⟨(.some 2), none, (.q .mv), [(.c (.imm (.bool false)))]⟩]) (.seq (.reg false 0 [⟨(.some 3), none, (.q .mv), [(.t 0)]⟩, ⟨(.some 4), none, (.q (.bin .geq 3)), [(.t 3), (.c (.imm (.int .i64 0)))]⟩, ⟨(.some 5), none, (.q .mv), [(.t 4)]⟩, ⟨(.some 6), (.some (5, true)), (.q .mv), [(.t 0)]⟩, ⟨(.some 7), (.some (5, true)), (.q (.bin .lss 3)), [(.t 6), (.c (.imm (.int .i64 32)))]⟩, ⟨(.some 8), none, (.q .pick), [(.t 5), (.t 7), (.c (.imm (.bool false)))]⟩, ⟨(.some 2), none, (.q .mv), [(.t 8)]⟩]) .ret))
theorem fn63 : IsFn Tryz.prog 63 [] c63 [2] 9 := ⟨_, _, Tryz.func63, rfl, by decide +kernel, by kernel_rfl, rfl, rfl⟩
theorem p63' (r : Int) : Pure Tryz.prog G 63 [i64 r] (bool (decide (0 ≤ r) && decide (r ≤ 31))) := by
  refine pure_of_code' (S := sp [] []) hm hG (sp_holds .nil .nil) fn63 (St 4 9 [i64 r, .junk, .junk, .junk] []) (by kernel_rfl) (by simp [lows, AV.low]) (by simp [AV.low]) ?_
  simp (maxSteps := 2000000) -implicitDefEqProofs only [c63, RS, Nat.reduceLT, ↓RP0, ↓RP1, ↓RP2, ↓RP3, RV, RW, ↓reduceIte, Nat.reduceAdd, Nat.reduceSub, Nat.reduceMul, Nat.reduceLeDiff, Nat.reduceEqDiff, Int.reduceLT, Int.reduceLE, Int.reduceEq, Int.reduceNe, Int.reduceAdd, Int.reduceSub, Int.reduceMul, Int.reduceNeg, Int.reduceToNat, reduceCtorEq]
  refine ⟨fun h1 => ⟨fun h2 => ?_, fun h2 => ?_⟩, fun h1 => ?_⟩ <;> simp <;> omega

def c49 : ACode := (.seq (.reg false 1 [⟨(.some 1), none, (.m .box 0), [(.t 0)]⟩, ⟨(.some 2), none, (.q .mv), [(.c (.imm (.bool false)))]⟩]) (.seq (.reg false 0 [⟨(.some 3), none, (.q (.faddr 0)), [(.t 1)]⟩, ⟨(.some 4), none, (.l .load1), [(.t 3)]⟩, ⟨(.some 5), none, (.call true), [(.c (.fn (.func 63) [] [])), (.t 4)]⟩, ⟨(.some 6), none, (.q .mv), [(.t 5)]⟩, ⟨(.some 7), (.some (6, true)), (.q (.faddr 1)), [(.t 1)]⟩, ⟨(.some 8), (.some (6, true)), (.l .load1), [(.t 7)]⟩, ⟨(.some 9), (.some (6, true)), (.q (.bin .geq 2)), [(.t 8), (.c (.imm (.int .i64 1)))]⟩, ⟨(.some 10), none, (.q .pick), [(.t 6), (.t 9), (.c (.imm (.bool false)))]⟩, ⟨(.some 11), none, (.q .mv), [(.t 10)]⟩, ⟨(.some 12), (.some (11, true)), (.q (.faddr 1)), [(.t 1)]⟩, ⟨(.some 13), (.some (11, true)), (.l .load1), [(.t 12)]⟩, ⟨(.some 14), (.some (11, true)), (.q (.bin .leq 2)), [(.t 13), (.c (.imm (.int .i64 1099511627776)))]⟩, ⟨(.some 15), none, (.q .pick), [(.t 11), (.t 14), (.c (.imm (.bool false)))]⟩, ⟨(.some 2), none, (.q .mv), [(.t 15)]⟩]) .ret))
theorem fn49 : IsFn Tryz.prog 49 [] c49 [2] 16 := ⟨_, _, Tryz.func49, rfl, by decide +kernel, by kernel_rfl, rfl, rfl⟩
theorem p49 (r q : Int) : Pure Tryz.prog G 49 [dotV r q] (bool (dotOk r q)) := by
  refine pure_of_code' (S := sp [(63, int1b fun r => decide (0 ≤ r) && decide (r ≤ 31))] []) hm hG (sp_holds (.cons (told_int1b p63') .nil) .nil) fn49 (St 4 16 [dotV r q, .junk, .junk, .junk] []) (by kernel_rfl) (by simp [lows, AV.low]) (by simp [AV.low]) ?_
  simp (maxSteps := 2000000) -implicitDefEqProofs only [c49, RS, Nat.reduceLT, ↓RP0, ↓RP1, ↓RP2, ↓RP3, RV, RW, ↓reduceIte, Nat.reduceAdd, Nat.reduceSub, Nat.reduceMul, Nat.reduceLeDiff, Nat.reduceEqDiff, Int.reduceLT, Int.reduceLE, Int.reduceEq, Int.reduceNe, Int.reduceAdd, Int.reduceSub, Int.reduceMul, Int.reduceNeg, Int.reduceToNat, reduceCtorEq, ↓ask_int1b]
  refine ⟨fun h1 => ⟨fun h3 => ⟨fun h4 => ?_, fun h4 => ?_⟩, fun h3 => ?_⟩, fun h1 => ?_⟩ <;> simp [dotOk] at h1 ⊢ <;> omega

def c44 : ACode := (.seq (.reg false 2 [⟨(.some 2), none, (.m .box 0), [(.t 0)]⟩, ⟨(.some 3), none, (.m .box 1), [(.t 1)]⟩, ⟨(.some 4), none, (.q .mv), [(.c (.imm (.int .i64 0)))]⟩]) (.seq (.seq (.reg false 0 [⟨(.some 5), none, (.l (.loadA 2)), [(.t 2)]⟩, ⟨(.some 6), none, (.l (.loadA 2)), [(.t 3)]⟩, ⟨(.some 7), none, (.q (.eqA false 2)), [(.t 5), (.t 6)]⟩]) (.cond (.t 7) (.seq (.reg false 0 [⟨(.some 4), none, (.q .mv), [(.c (.imm (.int .i64 0)))]⟩]) .ret) .skip)) (.seq (.seq (.reg false 0 [⟨(.some 8), none, (.q (.faddr 0)), [(.t 2)]⟩, ⟨(.some 9), none, (.l .load1), [(.t 8)]⟩, ⟨(.some 10), none, (.q (.faddr 0)), [(.t 3)]⟩, ⟨(.some 11), none, (.l .load1), [(.t 10)]⟩, ⟨(.some 12), none, (.q (.bin .lss 3)), [(.t 9), (.t 11)]⟩, ⟨(.some 13), none, (.q .mv), [(.t 12)]⟩, ⟨(.some 14), (.some (13, false)), (.q (.faddr 0)), [(.t 2)]⟩, ⟨(.some 15), (.some (13, false)), (.l .load1), [(.t 14)]⟩, ⟨(.some 16), (.some (13, false)), (.q (.faddr 0)), [(.t 3)]⟩, ⟨(.some 17), (.some (13, false)), (.l .load1), [(.t 16)]⟩, ⟨(.some 18), (.some (13, false)), (.q (.bin .eql 3)), [(.t 15), (.t 17)]⟩, ⟨(.some 19), (.some (13, false)), (.q .mv), [(.t 18)]⟩, ⟨(.some 20), (.some (19, true)), (.q (.faddr 1)), [(.t 2)]⟩, ⟨(.some 21), (.some (19, true)), (.l .load1), [(.t 20)]⟩, ⟨(.some 22), (.some (19, true)), (.q (.faddr 1)), [(.t 3)]⟩, ⟨(.some 23), (.some (19, true)), (.l .load1), [(.t 22)]⟩, ⟨(.some 24), (.some (19, true)), (.q (.bin .lss 2)), [(.t 21), (.t 23)]⟩, ⟨(.some 25), (.some (13, false)), (.q .pick), [(.t 19), (.t 24), (.c (.imm (.bool false)))]⟩, ⟨(.some 26), none, (.q .pick), [(.t 13), (.c (.imm (.bool true))), (.t 25)]⟩]) (.cond (.t 26) (.seq (.reg false 0 [⟨(.some 4), none, (.q .mv), [(.c (.imm (.int .i64 (-1))))]⟩]) .ret) .skip)) (.seq (.reg false 0 [⟨(.some 4), none, (.q .mv), [(.c (.imm (.int .i64 1)))]⟩]) .ret))))
theorem fn44 : IsFn Tryz.prog 44 [] c44 [4] 27 := ⟨_, _, Tryz.func44, rfl, by decide +kernel, by kernel_rfl, rfl, rfl⟩
theorem p44' (r q r' q' : Int) : Pure Tryz.prog G 44 [dotV r q, dotV r' q'] (i64 (cmpDot r q r' q')) := by
  refine pure_of_code' (S := sp [] []) hm hG (sp_holds .nil .nil) fn44 (St 4 27 [dotV r q, dotV r' q', .junk, .junk] []) (by kernel_rfl) (by simp [lows, AV.low]) (by simp [AV.low]) ?_
  simp (maxSteps := 2000000) -implicitDefEqProofs only [c44, RS, Nat.reduceLT, ↓RP0, ↓RP1, ↓RP2, ↓RP3, RV, RW, ↓reduceIte, Nat.reduceAdd, Nat.reduceSub, Nat.reduceMul, Nat.reduceLeDiff, Nat.reduceEqDiff, Int.reduceLT, Int.reduceLE, Int.reduceEq, Int.reduceNe, Int.reduceAdd, Int.reduceSub, Int.reduceMul, Int.reduceNeg, Int.reduceToNat, reduceCtorEq, ↓qB_eqA2]
  refine ⟨fun h => ?_, fun h => ⟨fun h1 => ?_, fun h1 => ⟨fun h2 => ⟨fun h3 => ?_, fun h3 => ?_⟩, fun h2 => ?_⟩⟩⟩ <;> congr 2 <;> unfold cmpDot <;> (repeat' split) <;> omega
end Go.AL.Path

/- Vectors. -/
set_option linter.unusedSimpArgs false
set_option linter.unusedVariables false
set_option maxRecDepth 100000
namespace Go.AL.Path
open Go Go.RowKit Go.Proofs Go.AL

/-- 32 numbers. -/
def arr (f : Nat → Int) : List AV := (List.range 32).map fun i => i64 (f i)
theorem arr_len (f : Nat → Int) : (arr f).length = 32 := by simp [arr]
theorem arr_get (f : Nat → Int) {k : Nat} (h : k < 32) : (arr f)[k]? = some (i64 (f k)) := by simp [arr, h]
theorem arr_set (f : Nat → Int) {k : Nat} (h : k < 32) (v : Int) : (arr f).take k ++ [i64 v] ++ (arr f).drop (k + 1) = arr (fun i => if i = k then v else f i) := by
  apply List.ext_getElem?
  intro i
  by_cases hi : i < 32
  · rw [arr_get _ hi]
    by_cases h1 : i < k
    · rw [List.append_assoc, List.getElem?_append_left (by simp [arr]; omega), List.getElem?_take_of_lt h1, arr_get _ hi, if_neg (by omega)]
    · by_cases h2 : i = k
      · subst h2
        rw [List.append_assoc, List.getElem?_append_right (by simp [arr]; omega), show i - (List.take i (arr f)).length = 0 by simp [arr]; omega]
        simp
      · rw [List.append_assoc, List.getElem?_append_right (by simp [arr]; omega), List.getElem?_append_right (by simp [arr]; omega), List.getElem?_drop, if_neg h2]
        simp only [List.length_take, arr_len, List.length_singleton]
        rw [show k + 1 + (i - min k 32 - 1) = i by omega, arr_get _ hi]
  · rw [List.getElem?_eq_none (by simp [arr]; omega), List.getElem?_eq_none (by simp [arr]; omega)]
theorem arr_zero : arr (fun _ => 0) = List.replicate 32 (i64 0) := by rfl
theorem arr_strip (f : Nat → Int) : (arr f).map AV.strip1 = arr f := by simp [arr, AV.strip1]
theorem lows_arr (n : Nat) (f : Nat → Int) : lows n (arr f) := by
  unfold arr
  generalize List.range 32 = l
  induction l with
  | nil => trivial
  | cons a l ih => exact ⟨trivial, ih⟩

abbrev Vec := List (Int × Int)
def vdots (v : Vec) : List AV := v.map fun d => dotV d.1 d.2
abbrev vecV (v : Vec) : AV := .sl 2 (vdots v) none
def step (a : Nat → Int) (d : Int × Int) : Nat → Int := fun i => if dotOk d.1 d.2 = true ∧ d.1 = (i : Int) ∧ a i < d.2 then d.2 else a i
def cnt (v : Vec) : Nat → Int := v.foldl step fun _ => 0
theorem cnt_take {v : Vec} {i : Nat} (h : i < v.length) : cnt (v.take (i + 1)) = step (cnt (v.take i)) (v.getD i (0, 0)) := by
  unfold cnt
  rw [List.take_add_one, List.getElem?_eq_getElem h, List.foldl_append, List.getD_eq_getElem?_getD, List.getElem?_eq_getElem h]; rfl

theorem lows_vdots (n : Nat) (v : Vec) : lows n (vdots v) := by
  unfold vdots
  induction v with
  | nil => trivial
  | cons a l ih => exact ⟨⟨trivial, trivial, trivial⟩, ih⟩
theorem vdots_len (v : Vec) : (vdots v).length = v.length := by simp [vdots]
theorem vdots_get {v : Vec} {i : Nat} (h : i < v.length) : (vdots v).getD i .junk = dotV (v.getD i (0, 0)).1 (v.getD i (0, 0)).2 := by
  unfold vdots
  rw [List.getD_eq_getElem?_getD, List.getElem?_map, List.getD_eq_getElem?_getD, List.getElem?_eq_getElem h]; rfl

def c59 : ACode := (.seq (.reg false 1 [⟨(.some 2), none, (.m (.alloc [(.imm (.int .i64 0)), (.imm (.int .i64 0)), (.imm (.int .i64 0)), (.imm (.int .i64 0)), (.imm (.int .i64 0)), (.imm (.int .i64 0)), (.imm (.int .i64 0)), (.imm (.int .i64 0)), (.imm (.int .i64 0)), (.imm (.int .i64 0)), (.imm (.int .i64 0)), (.imm (.int .i64 0)), (.imm (.int .i64 0)), (.imm (.int .i64 0)), (.imm (.int .i64 0)), (.imm (.int .i64 0)), (.imm (.int .i64 0)), (.imm (.int .i64 0)), (.imm (.int .i64 0)), (.imm (.int .i64 0)), (.imm (.int .i64 0)), (.imm (.int .i64 0)), (.imm (.int .i64 0)), (.imm (.int .i64 0)), (.imm (.int .i64 0)), (.imm (.int .i64 0)), (.imm (.int .i64 0)), (.imm (.int .i64 0)), (.imm (.int .i64 0)), (.imm (.int .i64 0)), (.imm (.int .i64 0)), (.imm (.int .i64 0))] false) 0), []⟩]) (.seq (.reg false 1 [⟨(.some 3), none, (.m (.alloc [(.imm (.int .i64 0)), (.imm (.int .i64 0)), (.imm (.int .i64 0)), (.imm (.int .i64 0)), (.imm (.int .i64 0)), (.imm (.int .i64 0)), (.imm (.int .i64 0)), (.imm (.int .i64 0)), (.imm (.int .i64 0)), (.imm (.int .i64 0)), (.imm (.int .i64 0)), (.imm (.int .i64 0)), (.imm (.int .i64 0)), (.imm (.int .i64 0)), (.imm (.int .i64 0)), (.imm (.int .i64 0)), (.imm (.int .i64 0)), (.imm (.int .i64 0)), (.imm (.int .i64 0)), (.imm (.int .i64 0)), (.imm (.int .i64 0)), (.imm (.int .i64 0)), (.imm (.int .i64 0)), (.imm (.int .i64 0)), (.imm (.int .i64 0)), (.imm (.int .i64 0)), (.imm (.int .i64 0)), (.imm (.int .i64 0)), (.imm (.int .i64 0)), (.imm (.int .i64 0)), (.imm (.int .i64 0)), (.imm (.int .i64 0))] false) 0), []⟩]) (.seq (.seq (.reg false 0 [⟨(.some 4), none, (.q .mv), [(.c (.imm (.int .i64 0)))]⟩]) (.block 0 (.loop (.seq (.seq (.reg false 0 [⟨(.some 5), none, (.q .mv), [(.t 4)]⟩, ⟨(.some 6), none, (.q .mv), [(.t 0)]⟩, ⟨(.some 7), none, (.q .lenL), [(.t 6)]⟩, ⟨(.some 8), none, (.q (.bin .lss 3)), [(.t 5), (.t 7)]⟩]) (.cond (.t 8) .skip (.exit 0))) (.seq (.block 1 (.seq (.reg true 0 [⟨(.some 11), none, (.q .mv), [(.t 0)]⟩, ⟨(.some 12), none, (.q .mv), [(.t 4)]⟩, ⟨(.some 13), none, (.q (.iaddrS 2)), [(.t 11), (.t 12)]⟩, ⟨(.some 14), none, (.l (.loadA 2)), [(.t 13)]⟩, ⟨(.some 15), none, (.call true), [(.c (.fn (.func 58) [] [])), (.t 14)]⟩, ⟨(.some 16), none, (.q .mv), [(.t 15)]⟩, ⟨(.some 17), (.some (16, true)), (.q .mv), [(.t 0)]⟩, ⟨(.some 18), (.some (16, true)), (.q .mv), [(.t 4)]⟩, ⟨(.some 19), (.some (16, true)), (.q (.iaddrS 2)), [(.t 17), (.t 18)]⟩, ⟨(.some 20), (.some (16, true)), (.q (.faddr 1)), [(.t 19)]⟩, ⟨(.some 21), (.some (16, true)), (.l .load1), [(.t 20)]⟩, ⟨(.some 22), (.some (16, true)), (.q .mv), [(.t 0)]⟩, ⟨(.some 23), (.some (16, true)), (.q .mv), [(.t 4)]⟩, ⟨(.some 24), (.some (16, true)), (.q (.iaddrS 2)), [(.t 22), (.t 23)]⟩, ⟨(.some 25), (.some (16, true)), (.q (.faddr 0)), [(.t 24)]⟩, ⟨(.some 26), (.some (16, true)), (.l .load1), [(.t 25)]⟩, ⟨(.some 27), (.some (16, true)), (.q (.iaddrA 32 1)), [(.t 3), (.t 26)]⟩, ⟨(.some 28), (.some (16, true)), (.l .load1), [(.t 27)]⟩, ⟨(.some 29), (.some (16, true)), (.q (.bin .gtr 2)), [(.t 21), (.t 28)]⟩, ⟨(.some 30), none, (.q .pick), [(.t 16), (.t 29), (.c (.imm (.bool false)))]⟩]) (.cond (.t 30) (.reg true 0 [⟨(.some 31), none, (.q .mv), [(.t 0)]⟩, ⟨(.some 32), none, (.q .mv), [(.t 4)]⟩, ⟨(.some 33), none, (.q (.iaddrS 2)), [(.t 31), (.t 32)]⟩, ⟨(.some 34), none, (.q (.faddr 0)), [(.t 33)]⟩, ⟨(.some 35), none, (.l .load1), [(.t 34)]⟩, ⟨(.some 36), none, (.q .mv), [(.t 0)]⟩, ⟨(.some 37), none, (.q .mv), [(.t 4)]⟩, ⟨(.some 38), none, (.q (.iaddrS 2)), [(.t 36), (.t 37)]⟩, ⟨(.some 39), none, (.q (.faddr 1)), [(.t 38)]⟩, ⟨(.some 40), none, (.l .load1), [(.t 39)]⟩, ⟨(.some 41), none, (.q (.iaddrA 32 1)), [(.t 3), (.t 35)]⟩, ⟨none, none, (.e (.store 1)), [(.t 41), (.t 40)]⟩]) .skip))) (.reg false 0 [⟨(.some 9), none, (.q .mv), [(.t 4)]⟩, ⟨(.some 10), none, (.q (.bin .add 3)), [(.t 9), (.c (.imm (.int .i64 1)))]⟩, ⟨(.some 4), none, (.q .mv), [(.t 10)]⟩])))))) (.seq (.reg false 0 [⟨(.some 42), none, (.l (.loadA 32)), [(.t 3)]⟩, ⟨none, none, (.e (.store 32)), [(.t 2), (.t 42)]⟩]) .ret))))
theorem fn59 : IsFnC Tryz.prog 59 [] c59 [(2, some (72, .loadA 32))] 43 := ⟨⟨_, _, Tryz.func59, rfl, by decide +kernel, by kernel_rfl, rfl, rfl⟩, by intro r hr; simp only [List.mem_cons, List.not_mem_nil, or_false] at hr; first | (subst hr; kernel_rfl) | (rcases hr with rfl | rfl <;> kernel_rfl)⟩
set_option maxHeartbeats 2000000 in
theorem p59 (v : Vec) (hv : v.length ≤ 1099511627776) : Pure Tryz.prog G 59 [vecV v] (.agg (arr (cnt v))) := by
  refine pure_of_codeC (S := sp [(58, dot1b dotOk)] []) hm hG (sp_holds (.cons (told_dot1b p58) .nil) .nil) fn59 (St 6 43 [vecV v, .junk, .junk, .junk, .junk, .junk] []) (by kernel_rfl) (by simp [lows, AV.low, lows_vdots]) (by simp [AV.low, lows_arr]) ?_
  simp (maxSteps := 2000000) -implicitDefEqProofs only [c59, RS, RX, Nat.reduceLT, ↓RP0, ↓RP1, ↓RP2, ↓RP3, RV, RW, ↓reduceIte, Nat.reduceAdd, Nat.reduceSub, Nat.reduceMul, Nat.reduceLeDiff, Nat.reduceEqDiff, Int.reduceLT, Int.reduceLE, Int.reduceEq, Int.reduceNe, Int.reduceAdd, Int.reduceSub, Int.reduceMul, Int.reduceNeg, Int.reduceToNat, reduceCtorEq]
  refine loopB (st := fun (i : Nat) => (St 6 43 [vecV v, .junk, .ptr 0 0, .ptr 1 0, i64 i, .junk] [])) (hp := fun i => [.box (List.replicate 32 (i64 0)), .box (arr (cnt (v.take i)))]) (I := fun i => i ≤ v.length) (m := fun i => v.length - i) (0 : Nat) (Nat.zero_le _) ?_ ?_
  · refine weak_sameS (by simp) ?_ ?_
    · simp [AObj.low, lows, AV.low]
    · simp [WeakL, AV.low, lows, lows_vdots]
  · intro i hi
    by_cases hlt : i < v.length
    · have e1 := vdots_get hlt
      have e2 : (i : Int) < (v.length : Int) := by omega
      have hc := cnt_take hlt
      generalize v.getD i (0, 0) = d at *
      obtain ⟨r, q⟩ := d
      cases hd : dotOk r q with
      | true =>
        obtain ⟨k, rfl⟩ : ∃ k : Nat, r = (k : Int) := ⟨r.toNat, by simp [dotOk] at hd; omega⟩
        have hk : k < 32 := by simp [dotOk] at hd; omega
        have e3 : (k : Int) < 32 := by omega
        have e4 := arr_get (cnt (v.take i)) hk
        have e5 : (0 : Int) ≤ (k : Int) := by omega
        by_cases hq : cnt (v.take i) k < q
        · have e6 : (cnt (v.take i) k < q) = True := eq_true hq
          simp (maxSteps := 2000000) -implicitDefEqProofs only [RS, RX, Nat.reduceLT, ↓RP0, ↓RP1, ↓RP2, ↓RP3, RV, RW, ↓reduceIte, Nat.reduceAdd, Nat.reduceSub, Nat.reduceMul, Nat.reduceLeDiff, Nat.reduceEqDiff, Int.reduceLT, Int.reduceLE, Int.reduceEq, Int.reduceNe, Int.reduceAdd, Int.reduceSub, Int.reduceMul, Int.reduceNeg, Int.reduceToNat, reduceCtorEq, ↓ask_dot1b, e1, e2, e3, e4, e5, e6, hd, vdots_len, AV.cells, Nat.mul_one, arr_len]
          refine ⟨by omega, by omega, by omega, ⟨by omega, by omega⟩, i + 1, by dsimp only; omega, by omega, ?_⟩
          have hc' : cnt (v.take (i + 1)) = fun j => if j = k then q else cnt (v.take i) j := by
            rw [hc]; funext j
            by_cases hj : j = k
            · subst hj; simp [step, hd, hq]
            · have : ¬ (k : Int) = (j : Int) := by omega
              simp [step, this, hj]
          rw [arr_set (cnt (v.take i)) hk q, ← hc']
          refine weak_sameS (by simp) ?_ ?_
          · simp [AObj.low, lows, AV.low, lows_arr]
          · simp [WeakL, AV.low, lows, lows_vdots]
        · have e6 : (cnt (v.take i) k < q) = False := eq_false hq
          simp (maxSteps := 2000000) -implicitDefEqProofs only [RS, RX, Nat.reduceLT, ↓RP0, ↓RP1, ↓RP2, ↓RP3, RV, RW, ↓reduceIte, Nat.reduceAdd, Nat.reduceSub, Nat.reduceMul, Nat.reduceLeDiff, Nat.reduceEqDiff, Int.reduceLT, Int.reduceLE, Int.reduceEq, Int.reduceNe, Int.reduceAdd, Int.reduceSub, Int.reduceMul, Int.reduceNeg, Int.reduceToNat, reduceCtorEq, ↓ask_dot1b, e1, e2, e3, e4, e5, e6, hd, vdots_len, AV.cells, Nat.mul_one, arr_len]
          refine ⟨by omega, ⟨by omega, by omega⟩, i + 1, by dsimp only; omega, by omega, ?_⟩
          have hc' : cnt (v.take (i + 1)) = cnt (v.take i) := by
            rw [hc]; funext j
            by_cases hj : j = k
            · subst hj; simp [step, hq]
            · have : ¬ (k : Int) = (j : Int) := by omega
              simp [step, this]
          rw [← hc']
          refine weak_sameS (by simp) ?_ ?_
          · simp [AObj.low, lows, AV.low, lows_arr]
          · simp [WeakL, AV.low, lows, lows_vdots]
      | false =>
        simp (maxSteps := 2000000) -implicitDefEqProofs only [RS, RX, Nat.reduceLT, ↓RP0, ↓RP1, ↓RP2, ↓RP3, RV, RW, ↓reduceIte, Nat.reduceAdd, Nat.reduceSub, Nat.reduceMul, Nat.reduceLeDiff, Nat.reduceEqDiff, Int.reduceLT, Int.reduceLE, Int.reduceEq, Int.reduceNe, Int.reduceAdd, Int.reduceSub, Int.reduceMul, Int.reduceNeg, Int.reduceToNat, reduceCtorEq, ↓ask_dot1b, e1, e2, hd, vdots_len, AV.cells]
        refine ⟨⟨by omega, by omega⟩, i + 1, by dsimp only; omega, by omega, ?_⟩
        have : cnt (v.take (i + 1)) = cnt (v.take i) := by rw [hc]; funext j; simp [step, hd]
        rw [← this]
        refine weak_sameS (by simp) ?_ ?_
        · simp [AObj.low, lows, AV.low, lows_arr]
        · simp [WeakL, AV.low, lows, lows_vdots]
    · obtain rfl : i = v.length := by omega
      simp (maxSteps := 2000000) -implicitDefEqProofs only [RS, RX, Nat.reduceLT, ↓RP0, ↓RP1, ↓RP2, ↓RP3, RV, RW, ↓reduceIte, Nat.reduceAdd, Nat.reduceSub, Nat.reduceMul, Nat.reduceLeDiff, Nat.reduceEqDiff, Int.reduceLT, Int.reduceLE, Int.reduceEq, Int.reduceNe, Int.reduceAdd, Int.reduceSub, Int.reduceMul, Int.reduceNeg, Int.reduceToNat, reduceCtorEq, vdots_len, Int.lt_irrefl]
      rw [List.take_length]
      refine ⟨by simp [arr], by simp [arr], by simp [arr], ?_⟩
      have h32 : (arr (cnt v)).take 32 = arr (cnt v) := List.take_of_length_le (by simp [arr])
      rw [h32, h32, arr_strip]
end Go.AL.Path

/- Vectors, on. -/
set_option linter.unusedSimpArgs false
set_option linter.unusedVariables false
set_option maxRecDepth 100000
namespace Go.AL.Path
open Go Go.RowKit Go.Proofs Go.AL

/-- A vector out of what it is shown by. -/
def dotsOf : List AV → Option Vec
  | [] => some []
  | .agg [.imm (.int .i64 r), .imm (.int .i64 q)] :: l => (dotsOf l).map ((r, q) :: ·)
  | _ :: _ => none
theorem dotsOf_vdots : ∀ v : Vec, dotsOf (vdots v) = some v
  | [] => rfl
  | (r, q) :: v => by
    have := dotsOf_vdots v
    unfold vdots at this ⊢
    simp only [List.map_cons, dotsOf, this]; rfl
theorem vdots_of : ∀ {l : List AV} {v : Vec}, dotsOf l = some v → l = vdots v := by
  intro l
  induction l with
  | nil => intro v h; simp [dotsOf] at h; subst h; rfl
  | cons x l ih =>
    intro v h
    unfold dotsOf at h
    split at h
    · rename_i e; cases e
    · rename_i r q l' e
      cases e
      obtain ⟨w, h1, h2⟩ := Option.map_eq_some_iff.1 h
      rw [ih h1, ← h2]; rfl
    · cases h
def vec1 (pre : Vec → Prop) (f : Vec → AV) : PSp := fun args K => match args with
  | [.sl 2 xs none] => (match dotsOf xs with | some v => pre v ∧ K (f v) | none => False) | _ => False
theorem ask_vec1 {pre f} {v : Vec} {K} : ask (vec1 pre f) [vecV v] K = (pre v ∧ K (f v)) := by
  show (match dotsOf (vdots v) with | some v => pre v ∧ K (f v) | none => False) = _
  rw [dotsOf_vdots]
theorem told_vec1 {F pre f} (h : ∀ v, pre v → Pure Tryz.prog G F [vecV v] (f v)) : Told Tryz.prog G F (vec1 pre f) := by
  intro args K hk
  unfold vec1 at hk
  split at hk
  · split at hk
    · rename_i v e
      rw [vdots_of e]
      exact ⟨_, h _ hk.1, hk.2⟩
    · exact hk.elim
  · exact hk.elim

theorem getD_take {v : Vec} {i : Nat} (h : i < v.length) : v.take (i + 1) = v.take i ++ [v.getD i (0, 0)] := by
  rw [List.take_add_one, List.getD_eq_getElem?_getD, List.getElem?_eq_getElem h]; rfl
def ofTo (f : Nat → Int) : Nat → Vec
  | 0 => []
  | i + 1 => if 0 < f i then ofTo f i ++ [((i : Int), f i)] else ofTo f i
def ofP (f : Nat → Int) : Vec := ofTo f 32
theorem ofTo_len (f : Nat → Int) : ∀ i, (ofTo f i).length ≤ i
  | 0 => Nat.le_refl _
  | i + 1 => by
    have := ofTo_len f i
    rw [ofTo]; split
    · simp; omega
    · omega

def c60 : ACode := (.seq (.reg false 2 [⟨(.some 1), none, (.m .box 0), [(.t 0)]⟩, ⟨(.some 2), none, (.m (.nilT 24 2) 1), []⟩]) (.seq (.reg false 1 [⟨(.some 3), none, (.m (.nilT 24 2) 0), []⟩]) (.seq (.seq (.reg false 0 [⟨(.some 4), none, (.q .mv), [(.c (.imm (.int .i64 0)))]⟩]) (.block 0 (.loop (.seq (.seq (.reg false 0 [⟨(.some 5), none, (.q .mv), [(.t 4)]⟩, ⟨(.some 6), none, (.q (.bin .lss 3)), [(.t 5), (.c (.imm (.int .i64 32)))]⟩]) (.cond (.t 6) .skip (.exit 0))) (.seq (.block 1 (.seq (.reg false 0 [⟨(.some 9), none, (.q .mv), [(.t 4)]⟩, ⟨(.some 10), none, (.q (.iaddrA 32 1)), [(.t 1), (.t 9)]⟩, ⟨(.some 11), none, (.l .load1), [(.t 10)]⟩, ⟨(.some 12), none, (.q (.bin .gtr 2)), [(.t 11), (.c (.imm (.int .i64 0)))]⟩]) (.cond (.t 12) (.reg false 1 [⟨(.some 13), none, (.q .mv), [(.t 3)]⟩, ⟨(.some 14), none, (.q .mv), [(.t 4)]⟩, ⟨(.some 15), none, (.q .mv), [(.t 4)]⟩, ⟨(.some 16), none, (.q (.iaddrA 32 1)), [(.t 1), (.t 15)]⟩, ⟨(.some 17), none, (.l .load1), [(.t 16)]⟩, ⟨(.some 18), none, (.q (.build [(.imm (.int .i64 0)), (.imm (.int .i64 0))] [(0, 1), (1, 1)])), [(.t 14), (.t 17)]⟩, ⟨(.some 19), none, (.m (.bsliceO 24 2) 0), [(.t 18)]⟩, ⟨(.some 20), none, (.e (.append 24 2 16)), [(.t 13), (.t 19)]⟩, ⟨(.some 3), none, (.q .mv), [(.t 20)]⟩]) .skip))) (.reg false 0 [⟨(.some 7), none, (.q .mv), [(.t 4)]⟩, ⟨(.some 8), none, (.q (.bin .add 3)), [(.t 7), (.c (.imm (.int .i64 1)))]⟩, ⟨(.some 4), none, (.q .mv), [(.t 8)]⟩])))))) (.seq (.reg false 0 [⟨(.some 21), none, (.q .mv), [(.t 3)]⟩, ⟨(.some 2), none, (.q .mv), [(.t 21)]⟩]) .ret))))
theorem fn60 : IsFn Tryz.prog 60 (List.range 200) c60 [2] 22 := ⟨_, _, Tryz.func60, rfl, by decide +kernel, by kernel_rfl, rfl, rfl⟩
set_option maxHeartbeats 2000000 in
theorem p60 (f : Nat → Int) : Pure Tryz.prog G 60 [.agg (arr f)] (vecV (ofP f)) := by
  refine pure_of_code' (S := sp [] []) hm hG (sp_holds .nil .nil) fn60 (St 5 22 [.agg (arr f), .junk, .junk, .junk, .junk] []) (by kernel_rfl) (by simp [lows, AV.low, lows_arr]) (by simp [AV.low, lows_vdots]) ?_
  simp (maxSteps := 2000000) -implicitDefEqProofs only [c60, RS, RX, Nat.reduceLT, ↓RP0, ↓RP1, ↓RP2, ↓RP3, RV, RW, ↓reduceIte, Nat.reduceAdd, Nat.reduceSub, Nat.reduceMul, Nat.reduceLeDiff, Nat.reduceEqDiff, Int.reduceLT, Int.reduceLE, Int.reduceEq, Int.reduceNe, Int.reduceAdd, Int.reduceSub, Int.reduceMul, Int.reduceNeg, Int.reduceToNat, reduceCtorEq]
  refine loopB (st := fun (i : Nat) => (St 5 22 [.agg (arr f), .ptr 0 0, .sl 2 [] (some 1), .sl 2 (vdots (ofTo f i)) (some 2), i64 i] [])) (hp := fun i => [.box (arr f), .tok 24 2 0, .tok 24 2 (ofTo f i).length]) (I := fun i => i ≤ 32) (m := fun i => 32 - i) (0 : Nat) (by decide) ?_ ?_
  · refine weak_sameS (by simp) ?_ ?_
    · simp [AObj.low, lows, AV.low, lows_arr]
    · simp [WeakL, AV.low, lows, lows_arr, vdots, ofTo]
  · intro i hi
    have hlen := ofTo_len f i
    by_cases hlt : i < 32
    · have e3 : (i : Int) < 32 := by omega
      have e4 := arr_get f hlt
      have e5 : (0 : Int) ≤ (i : Int) := by omega
      by_cases hp : 0 < f i
      · have e6 : (0 < f i) = True := eq_true hp
        simp (maxSteps := 2000000) -implicitDefEqProofs only [RS, RX, Nat.reduceLT, ↓RP0, ↓RP1, ↓RP2, ↓RP3, RV, RW, ↓reduceIte, Nat.reduceAdd, Nat.reduceSub, Nat.reduceMul, Nat.reduceLeDiff, Nat.reduceEqDiff, Int.reduceLT, Int.reduceLE, Int.reduceEq, Int.reduceNe, Int.reduceAdd, Int.reduceSub, Int.reduceMul, Int.reduceNeg, Int.reduceToNat, reduceCtorEq, e3, e4, e5, e6, arr_len, Nat.mul_one, AV.cells, vdots_len]
        refine ⟨by omega, by omega, by simp [AV.isVal], .inl trivial, .inl trivial, by omega, by omega, ⟨by omega, by omega⟩, i + 1, by dsimp only; omega, by omega, ?_⟩
        have h9 : ofTo f (i + 1) = ofTo f i ++ [((i : Int), f i)] := by rw [ofTo, if_pos hp]
        have h10 : vdots (ofTo f i) ++ [dotV i (f i)] = vdots (ofTo f (i + 1)) := by rw [h9]; simp [vdots]
        have h11 : (ofTo f (i + 1)).length = (ofTo f i).length + 1 := by rw [h9]; simp
        rw [h10, ← h11]
        refine weak_cutS 3 (by decide) (by simp) ?_ ?_
        · simp [AObj.low, lows, AV.low, lows_arr]
        · simp [WeakL, AV.low, lows, lows_arr, lows_vdots]
      · have e6 : (0 < f i) = False := eq_false hp
        simp (maxSteps := 2000000) -implicitDefEqProofs only [RS, RX, Nat.reduceLT, ↓RP0, ↓RP1, ↓RP2, ↓RP3, RV, RW, ↓reduceIte, Nat.reduceAdd, Nat.reduceSub, Nat.reduceMul, Nat.reduceLeDiff, Nat.reduceEqDiff, Int.reduceLT, Int.reduceLE, Int.reduceEq, Int.reduceNe, Int.reduceAdd, Int.reduceSub, Int.reduceMul, Int.reduceNeg, Int.reduceToNat, reduceCtorEq, e3, e4, e5, e6, arr_len, Nat.mul_one, AV.cells, vdots_len]
        refine ⟨by omega, ⟨by omega, by omega⟩, i + 1, by dsimp only; omega, by omega, ?_⟩
        have h9 : ofTo f (i + 1) = ofTo f i := by rw [ofTo, if_neg hp]
        rw [← h9]
        refine weak_sameS (by simp) ?_ ?_
        · simp [AObj.low, lows, AV.low, lows_arr]
        · simp [WeakL, AV.low, lows, lows_arr, lows_vdots]
    · obtain rfl : i = 32 := by omega
      simp (maxSteps := 2000000) -implicitDefEqProofs only [RS, RX, Nat.reduceLT, ↓RP0, ↓RP1, ↓RP2, ↓RP3, RV, RW, ↓reduceIte, Nat.reduceAdd, Nat.reduceSub, Nat.reduceMul, Nat.reduceLeDiff, Nat.reduceEqDiff, Int.reduceLT, Int.reduceLE, Int.reduceEq, Int.reduceNe, Int.reduceAdd, Int.reduceSub, Int.reduceMul, Int.reduceNeg, Int.reduceToNat, reduceCtorEq, Int.lt_irrefl, vdots_len]
      exact ⟨fun h => absurd h (by omega), fun _ => rfl⟩

def c40 : ACode := (.seq (.reg false 0 [⟨(.some 4), none, (.q .mv), [(.c (.imm (.bool false)))]⟩]) (.seq (.seq (.reg false 0 [⟨(.some 6), none, (.q .mv), [(.t 0)]⟩, ⟨(.some 7), none, (.q .lenL), [(.t 6)]⟩, ⟨(.some 8), none, (.q .mv), [(.t 1)]⟩, ⟨(.some 9), none, (.q .lenL), [(.t 8)]⟩, ⟨(.some 10), none, (.q (.bin .neq 3)), [(.t 7), (.t 9)]⟩]) (.cond (.t 10) (.seq (.reg false 0 [⟨(.some 4), none, (.q .mv), [(.c (.imm (.bool false)))]⟩]) .ret) .skip)) (.seq (.seq (.reg false 0 [⟨(.some 5), none, (.q .mv), [(.c (.imm (.int .i64 0)))]⟩]) (.block 0 (.loop (.seq (.seq (.reg false 0 [⟨(.some 11), none, (.q .mv), [(.t 5)]⟩, ⟨(.some 12), none, (.q .mv), [(.t 0)]⟩, ⟨(.some 13), none, (.q .lenL), [(.t 12)]⟩, ⟨(.some 14), none, (.q (.bin .lss 3)), [(.t 11), (.t 13)]⟩]) (.cond (.t 14) .skip (.exit 0))) (.seq (.block 1 (.seq (.reg true 0 [⟨(.some 17), none, (.q .mv), [(.t 0)]⟩, ⟨(.some 18), none, (.q .mv), [(.t 5)]⟩, ⟨(.some 19), none, (.q (.iaddrS 2)), [(.t 17), (.t 18)]⟩, ⟨(.some 20), none, (.l (.loadA 2)), [(.t 19)]⟩, ⟨(.some 21), none, (.q .mv), [(.t 1)]⟩, ⟨(.some 22), none, (.q .mv), [(.t 5)]⟩, ⟨(.some 23), none, (.q (.iaddrS 2)), [(.t 21), (.t 22)]⟩, ⟨(.some 24), none, (.l (.loadA 2)), [(.t 23)]⟩, ⟨(.some 25), none, (.q (.eqA true 2)), [(.t 20), (.t 24)]⟩]) (.cond (.t 25) (.seq (.reg false 0 [⟨(.some 4), none, (.q .mv), [(.c (.imm (.bool false)))]⟩]) .ret) .skip))) (.reg false 0 [⟨(.some 15), none, (.q .mv), [(.t 5)]⟩, ⟨(.some 16), none, (.q (.bin .add 3)), [(.t 15), (.c (.imm (.int .i64 1)))]⟩, ⟨(.some 5), none, (.q .mv), [(.t 16)]⟩])))))) (.seq (.reg false 0 [⟨(.some 4), none, (.q .mv), [(.c (.imm (.bool true)))]⟩]) .ret))))
theorem fn40 : IsFn Tryz.prog 40 [] c40 [4] 26 := ⟨_, _, Tryz.func40, rfl, by decide +kernel, by kernel_rfl, rfl, rfl⟩
set_option maxHeartbeats 2000000 in
theorem p40 (a b : Vec) (ha : a.length ≤ 1099511627776) : Pure Tryz.prog G 40 [vecV a, vecV b] (bool (decide (a = b))) := by
  refine pure_of_code' (S := sp [] []) hm hG (sp_holds .nil .nil) fn40 (St 6 26 [vecV a, vecV b, .junk, .junk, .junk, .junk] []) (by kernel_rfl) (by simp [lows, AV.low, lows_vdots]) (by simp [AV.low]) ?_
  simp (maxSteps := 2000000) -implicitDefEqProofs only [c40, RS, RX, Nat.reduceLT, ↓RP0, ↓RP1, ↓RP2, ↓RP3, RV, RW, ↓reduceIte, Nat.reduceAdd, Nat.reduceSub, Nat.reduceMul, Nat.reduceLeDiff, Nat.reduceEqDiff, Int.reduceLT, Int.reduceLE, Int.reduceEq, Int.reduceNe, Int.reduceAdd, Int.reduceSub, Int.reduceMul, Int.reduceNeg, Int.reduceToNat, reduceCtorEq, vdots_len]
  refine ⟨fun h => ?_, fun h => ?_⟩
  · refine loopB (st := fun (i : Nat) => (St 6 26 [vecV a, vecV b, .junk, .junk, .imm (.bool false), i64 i] [])) (hp := fun _ => []) (I := fun i => i ≤ a.length ∧ a.take i = b.take i) (m := fun i => a.length - i) (0 : Nat) ⟨Nat.zero_le _, rfl⟩ ?_ ?_
    · refine weak_nilS ?_; simp [WeakL, AV.low, lows, lows_vdots]
    · rintro i ⟨hi, he⟩
      by_cases hlt : i < a.length
      · have e1 := vdots_get hlt
        have e2 := vdots_get (v := b) (i := i) (by omega)
        have e3 : (i : Int) < (a.length : Int) := by omega
        have e4 : (i : Int) < (b.length : Int) := by omega
        have t1 := getD_take (v := a) hlt
        have t2 := getD_take (v := b) (i := i) (by omega)
        generalize a.getD i (0, 0) = x at *
        generalize b.getD i (0, 0) = y at *
        simp (maxSteps := 2000000) -implicitDefEqProofs only [RS, RX, Nat.reduceLT, ↓RP0, ↓RP1, ↓RP2, ↓RP3, RV, RW, ↓reduceIte, Nat.reduceAdd, Nat.reduceSub, Nat.reduceMul, Nat.reduceLeDiff, Nat.reduceEqDiff, Int.reduceLT, Int.reduceLE, Int.reduceEq, Int.reduceNe, Int.reduceAdd, Int.reduceSub, Int.reduceMul, Int.reduceNeg, Int.reduceToNat, reduceCtorEq, ↓qB_neA2, e1, e2, e3, e4, vdots_len, AV.cells]
        refine ⟨fun hxy => ⟨⟨by omega, by omega⟩, i + 1, by dsimp only; omega, ⟨by omega, ?_⟩, ?_⟩, fun hxy => ?_⟩
        · rw [t1, t2, he]; congr 2; exact Prod.ext hxy.1 hxy.2
        · refine weak_nilS ?_; simp [WeakL, AV.low, lows, lows_vdots]
        · have : ¬ a = b := by
            intro e
            subst e
            rw [t1] at t2
            have := List.append_cancel_left t2
            simp at this
            exact hxy ⟨by rw [this], by rw [this]⟩
          simp [this]
      · obtain rfl : i = a.length := by omega
        simp (maxSteps := 2000000) -implicitDefEqProofs only [RS, RX, Nat.reduceLT, ↓RP0, ↓RP1, ↓RP2, ↓RP3, RV, RW, ↓reduceIte, Nat.reduceAdd, Nat.reduceSub, Nat.reduceMul, Nat.reduceLeDiff, Nat.reduceEqDiff, Int.reduceLT, Int.reduceLE, Int.reduceEq, Int.reduceNe, Int.reduceAdd, Int.reduceSub, Int.reduceMul, Int.reduceNeg, Int.reduceToNat, reduceCtorEq, vdots_len, Int.lt_irrefl]
        have : a = b := by
          have h2 : b.length = a.length := by omega
          rw [List.take_length, ← h2, List.take_length] at he
          exact he
        simp [this]
  · have : ¬ a = b := fun e => h (by rw [e])
    simp [this]

def c42 : ACode := (.seq (.reg false 0 [⟨(.some 4), none, (.q .mv), [(.c (.imm (.int .i64 0)))]⟩]) (.seq (.seq (.reg false 0 [⟨(.some 5), none, (.q .mv), [(.t 1)]⟩, ⟨(.some 6), none, (.q (.bin .lss 3)), [(.t 5), (.c (.imm (.int .i64 0)))]⟩, ⟨(.some 7), none, (.q .mv), [(.t 6)]⟩, ⟨(.some 8), (.some (7, false)), (.q .mv), [(.t 1)]⟩, ⟨(.some 9), (.some (7, false)), (.q (.bin .gtr 3)), [(.t 8), (.c (.imm (.int .i64 31)))]⟩, ⟨(.some 10), none, (.q .pick), [(.t 7), (.c (.imm (.bool true))), (.t 9)]⟩]) (.cond (.t 10) (.seq (.reg false 0 [⟨(.some 4), none, (.q .mv), [(.c (.imm (.int .i64 0)))]⟩]) .ret) .skip)) (.seq (.reg false 0 [⟨(.some 11), none, (.q .mv), [(.t 0)]⟩, ⟨(.some 12), none, (.call true), [(.c (.fn (.func 59) [] [])), (.t 11)]⟩, ⟨(.some 13), none, (.q .mv), [(.t 1)]⟩, ⟨(.some 14), none, (.q (.idx1 32)), [(.t 12), (.t 13)]⟩, ⟨(.some 4), none, (.q .mv), [(.t 14)]⟩]) .ret)))
theorem fn42 : IsFn Tryz.prog 42 [] c42 [4] 15 := ⟨_, _, Tryz.func42, rfl, by decide +kernel, by kernel_rfl, rfl, rfl⟩
set_option maxHeartbeats 2000000 in
theorem p42' (v : Vec) (r : Int) (hv : v.length ≤ 1099511627776) : Pure Tryz.prog G 42 [vecV v, i64 r] (i64 (if 0 ≤ r ∧ r ≤ 31 then cnt v r.toNat else 0)) := by
  refine pure_of_code' (S := sp [(59, vec1 (fun v => v.length ≤ 1099511627776) fun v => .agg (arr (cnt v)))] []) hm hG (sp_holds (.cons (told_vec1 p59) .nil) .nil) fn42 (St 6 15 [vecV v, i64 r, .junk, .junk, .junk, .junk] []) (by kernel_rfl) (by simp [lows, AV.low, lows_vdots]) (by simp [AV.low]) ?_
  simp (maxSteps := 2000000) -implicitDefEqProofs only [c42, RS, RX, Nat.reduceLT, ↓RP0, ↓RP1, ↓RP2, ↓RP3, RV, RW, ↓reduceIte, Nat.reduceAdd, Nat.reduceSub, Nat.reduceMul, Nat.reduceLeDiff, Nat.reduceEqDiff, Int.reduceLT, Int.reduceLE, Int.reduceEq, Int.reduceNe, Int.reduceAdd, Int.reduceSub, Int.reduceMul, Int.reduceNeg, Int.reduceToNat, reduceCtorEq, ↓ask_vec1]
  refine ⟨fun h => ?_, fun h => ⟨fun h1 => ?_, fun h1 => ⟨hv, by omega, by omega, ?_⟩⟩⟩
  · rw [if_neg (by omega)]
  · rw [if_neg (by omega)]
  · rw [if_pos (by omega), arr_get _ (show r.toNat < 32 by omega)]; rfl
end Go.AL.Path

/- Vectors, on: what is known. -/
set_option linter.unusedSimpArgs false
set_option linter.unusedVariables false
set_option maxRecDepth 100000
namespace Go.AL.Path
open Go Go.RowKit Go.Proofs Go.AL

def getV (v : Vec) (r : Int) : Int := if 0 ≤ r ∧ r ≤ 31 then cnt v r.toNat else 0
def hasP (v : Vec) (r q : Int) : Bool := dotOk r q && decide (q ≤ getV v r)
abbrev Small (v : Vec) : Prop := v.length ≤ 1099511627776

def vecInt (f : Vec → Int → AV) : PSp := fun args K => match args with
  | [.sl 2 xs none, .imm (.int .i64 r)] => (match dotsOf xs with | some v => Small v ∧ K (f v r) | none => False) | _ => False
theorem ask_vecInt {f} {v : Vec} {r : Int} {K} : ask (vecInt f) [vecV v, i64 r] K = (Small v ∧ K (f v r)) := by
  show (match dotsOf (vdots v) with | some v => Small v ∧ K (f v r) | none => False) = _
  rw [dotsOf_vdots]
theorem told_vecInt {F f} (h : ∀ v r, Small v → Pure Tryz.prog G F [vecV v, i64 r] (f v r)) : Told Tryz.prog G F (vecInt f) := by
  intro args K hk
  unfold vecInt at hk
  split at hk
  · split at hk
    · rename_i v e
      rw [vdots_of e]
      exact ⟨_, h _ _ hk.1, hk.2⟩
    · exact hk.elim
  · exact hk.elim
def vecDotb (f : Vec → Int → Int → Bool) : PSp := fun args K => match args with
  | [.sl 2 xs none, .agg [.imm (.int .i64 r), .imm (.int .i64 q)]] => (match dotsOf xs with | some v => Small v ∧ splitB (f v r q) K | none => False) | _ => False
theorem ask_vecDotb {f} {v : Vec} {r q : Int} {K} : ask (vecDotb f) [vecV v, dotV r q] K = (Small v ∧ splitB (f v r q) K) := by
  show (match dotsOf (vdots v) with | some v => Small v ∧ splitB (f v r q) K | none => False) = _
  rw [dotsOf_vdots]
theorem told_vecDotb {F f} (h : ∀ v r q, Small v → Pure Tryz.prog G F [vecV v, dotV r q] (bool (f v r q))) : Told Tryz.prog G F (vecDotb f) := by
  intro args K hk
  unfold vecDotb at hk
  split at hk
  · split at hk
    · rename_i v e
      rw [vdots_of e]
      exact ⟨_, h _ _ _ hk.1, splitB_of hk.2⟩
    · exact hk.elim
  · exact hk.elim
def vec2b (f : Vec → Vec → Bool) : PSp := fun args K => match args with
  | [.sl 2 xs none, .sl 2 ys none] => (match dotsOf xs, dotsOf ys with | some v, some u => Small v ∧ splitB (f v u) K | _, _ => False) | _ => False
theorem ask_vec2b {f} {v u : Vec} {K} : ask (vec2b f) [vecV v, vecV u] K = (Small v ∧ splitB (f v u) K) := by
  show (match dotsOf (vdots v), dotsOf (vdots u) with | some v, some u => Small v ∧ splitB (f v u) K | _, _ => False) = _
  rw [dotsOf_vdots, dotsOf_vdots]
theorem told_vec2b {F f} (h : ∀ v u, Small v → Pure Tryz.prog G F [vecV v, vecV u] (bool (f v u))) : Told Tryz.prog G F (vec2b f) := by
  intro args K hk
  unfold vec2b at hk
  split at hk
  · split at hk
    · rename_i v u e1 e2
      rw [vdots_of e1, vdots_of e2]
      exact ⟨_, h _ _ hk.1, splitB_of hk.2⟩
    · exact hk.elim
  · exact hk.elim
/-- 32 numbers, as they are shown. -/
def arrOf (xs : List AV) (i : Nat) : Int := match xs[i]? with | some (.imm (.int .i64 n)) => n | _ => 0
theorem arrOf_arr (f : Nat → Int) : arr (arrOf (arr f)) = arr f := by
  unfold arr
  refine List.map_congr_left fun i hi => ?_
  have : (arr f)[i]? = some (i64 (f i)) := arr_get f (List.mem_range.1 hi)
  unfold arr at this
  simp only [arrOf, this]
def arr1 (g : (Nat → Int) → AV) : PSp := fun args K => match args with
  | [.agg xs] => arr (arrOf xs) = xs ∧ K (g (arrOf xs)) | _ => False
theorem arr_congr {f f' : Nat → Int} (h : arr f = arr f') (i : Nat) (hi : i < 32) : f i = f' i := by
  have h1 := arr_get f hi
  rw [h, arr_get f' hi] at h1
  simp at h1; exact h1.symm
theorem ofTo_congr {f f' : Nat → Int} (h : ∀ i, i < 32 → f i = f' i) : ∀ n, n ≤ 32 → ofTo f n = ofTo f' n
  | 0, _ => rfl
  | n + 1, hn => by rw [ofTo, ofTo, h n (by omega), ofTo_congr h n (by omega)]
theorem ofP_congr {f f' : Nat → Int} (h : arr f = arr f') : ofP f = ofP f' := ofTo_congr (arr_congr h) 32 (Nat.le_refl _)
theorem ask_arr1 {f : Nat → Int} {K} : ask (arr1 fun f => vecV (ofP f)) [.agg (arr f)] K = K (vecV (ofP f)) := by
  show (arr (arrOf (arr f)) = arr f ∧ K (vecV (ofP (arrOf (arr f))))) = _
  rw [ofP_congr (arrOf_arr f)]
  simp [arrOf_arr]
theorem told_arr1 {F g} (h : ∀ f, Pure Tryz.prog G F [.agg (arr f)] (g f)) : Told Tryz.prog G F (arr1 g) := by
  intro args K hk
  unfold arr1 at hk
  split at hk
  · rename_i xs
    refine ⟨_, ?_, hk.2⟩
    have := h (arrOf xs)
    rw [hk.1] at this
    exact this
  · exact hk.elim

theorem arr_take (f : Nat → Int) : (arr f).take 32 = arr f := List.take_of_length_le (by simp [arr])
theorem step_yes {a : Nat → Int} {k : Nat} {q : Int} (h : dotOk k q = true) (hq : a k < q) : step a ((k : Int), q) = fun i => if i = k then q else a i := by
  funext j
  by_cases hj : j = k
  · subst hj; simp [step, h, hq]
  · have : ¬ (k : Int) = (j : Int) := by omega
    simp [step, this, hj]
theorem step_no {a : Nat → Int} {k : Nat} {q : Int} (hq : ¬ a k < q) : step a ((k : Int), q) = a := by
  funext j
  by_cases hj : j = k
  · subst hj; simp [step, hq]
  · have : ¬ (k : Int) = (j : Int) := by omega
    simp [step, this]
theorem step_bad {a : Nat → Int} {r q : Int} (h : dotOk r q = false) : step a (r, q) = a := by
  funext j; simp [step, h]

def c37 : ACode := (.seq (.reg false 1 [⟨(.some 3), none, (.m .box 0), [(.t 1)]⟩, ⟨(.some 4), none, (.q .mv), [(.c (.imm (.bool false)))]⟩]) (.seq (.reg true 0 [⟨(.some 5), none, (.l (.loadA 2)), [(.t 3)]⟩, ⟨(.some 6), none, (.call true), [(.c (.fn (.func 58) [] [])), (.t 5)]⟩, ⟨(.some 7), none, (.q .mv), [(.t 6)]⟩, ⟨(.some 8), (.some (7, true)), (.q (.faddr 1)), [(.t 3)]⟩, ⟨(.some 9), (.some (7, true)), (.l .load1), [(.t 8)]⟩, ⟨(.some 10), (.some (7, true)), (.q .mv), [(.t 0)]⟩, ⟨(.some 11), (.some (7, true)), (.q (.faddr 0)), [(.t 3)]⟩, ⟨(.some 12), (.some (7, true)), (.l .load1), [(.t 11)]⟩, ⟨(.some 13), (.some (7, true)), (.call false), [(.c (.fn (.func 42) [] [])), (.t 10), (.t 12)]⟩, ⟨(.some 14), (.some (7, true)), (.q (.bin .leq 2)), [(.t 9), (.t 13)]⟩, ⟨(.some 15), none, (.q .pick), [(.t 7), (.t 14), (.c (.imm (.bool false)))]⟩, ⟨(.some 4), none, (.q .mv), [(.t 15)]⟩]) .ret))
theorem fn37 : IsFn Tryz.prog 37 [] c37 [4] 16 := ⟨_, _, Tryz.func37, rfl, by decide +kernel, by kernel_rfl, rfl, rfl⟩
set_option maxHeartbeats 2000000 in
theorem p37' (v : Vec) (r q : Int) (hv : Small v) : Pure Tryz.prog G 37 [vecV v, dotV r q] (bool (hasP v r q)) := by
  refine pure_of_code' (S := sp [(58, dot1b dotOk), (42, vecInt fun v r => i64 (getV v r))] []) hm hG (sp_holds (.cons (told_dot1b p58) (.cons (told_vecInt fun v r h => p42' v r h) .nil)) .nil) fn37 (St 6 16 [vecV v, dotV r q, .junk, .junk, .junk, .junk] []) (by kernel_rfl) (by simp [lows, AV.low, lows_vdots]) (by simp [AV.low]) ?_
  cases hd : dotOk r q with
  | true =>
    simp (maxSteps := 2000000) -implicitDefEqProofs only [c37, RS, RX, Nat.reduceLT, ↓RP0, ↓RP1, ↓RP2, ↓RP3, RV, RW, ↓reduceIte, Nat.reduceAdd, Nat.reduceSub, Nat.reduceMul, Nat.reduceLeDiff, Nat.reduceEqDiff, Int.reduceLT, Int.reduceLE, Int.reduceEq, Int.reduceNe, Int.reduceAdd, Int.reduceSub, Int.reduceMul, Int.reduceNeg, Int.reduceToNat, reduceCtorEq, ↓ask_dot1b, ↓ask_vecInt, hd]
    refine ⟨hv, fun h => ?_, fun h => ?_⟩ <;> simp [hasP, hd, h]
  | false =>
    simp (maxSteps := 2000000) -implicitDefEqProofs only [c37, RS, RX, Nat.reduceLT, ↓RP0, ↓RP1, ↓RP2, ↓RP3, RV, RW, ↓reduceIte, Nat.reduceAdd, Nat.reduceSub, Nat.reduceMul, Nat.reduceLeDiff, Nat.reduceEqDiff, Int.reduceLT, Int.reduceLE, Int.reduceEq, Int.reduceNe, Int.reduceAdd, Int.reduceSub, Int.reduceMul, Int.reduceNeg, Int.reduceToNat, reduceCtorEq, ↓ask_dot1b, ↓ask_vecInt, hd]
    simp [hasP, hd]

def c61 : ACode := (.seq (.reg false 0 [⟨(.some 2), none, (.q .mv), [(.c (.imm (.bool false)))]⟩]) (.seq (.reg false 0 [⟨(.some 3), none, (.q .mv), [(.t 0)]⟩, ⟨(.some 4), none, (.q .mv), [(.t 0)]⟩, ⟨(.some 5), none, (.call true), [(.c (.fn (.func 59) [] [])), (.t 4)]⟩, ⟨(.some 6), none, (.call true), [(.c (.fn (.func 60) [] [])), (.t 5)]⟩, ⟨(.some 7), none, (.call true), [(.c (.fn (.func 40) [] [])), (.t 3), (.t 6)]⟩, ⟨(.some 2), none, (.q .mv), [(.t 7)]⟩]) .ret))
theorem fn61 : IsFn Tryz.prog 61 [] c61 [2] 8 := ⟨_, _, Tryz.func61, rfl, by decide +kernel, by kernel_rfl, rfl, rfl⟩
theorem p61 (v : Vec) (hv : Small v) : Pure Tryz.prog G 61 [vecV v] (bool (decide (v = ofP (cnt v)))) := by
  refine pure_of_code' (S := sp [(59, vec1 (fun v => v.length ≤ 1099511627776) fun v => .agg (arr (cnt v))), (60, arr1 fun f => vecV (ofP f)), (40, vec2b fun a b => decide (a = b))] []) hm hG (sp_holds (.cons (told_vec1 p59) (.cons (told_arr1 p60) (.cons (told_vec2b fun a b h => p40 a b h) .nil))) .nil) fn61 (St 4 8 [vecV v, .junk, .junk, .junk] []) (by kernel_rfl) (by simp [lows, AV.low, lows_vdots]) (by simp [AV.low]) ?_
  simp (maxSteps := 2000000) -implicitDefEqProofs only [c61, RS, RX, Nat.reduceLT, ↓RP0, ↓RP1, ↓RP2, ↓RP3, RV, RW, ↓reduceIte, Nat.reduceAdd, Nat.reduceSub, Nat.reduceMul, Nat.reduceLeDiff, Nat.reduceEqDiff, Int.reduceLT, Int.reduceLE, Int.reduceEq, Int.reduceNe, Int.reduceAdd, Int.reduceSub, Int.reduceMul, Int.reduceNeg, Int.reduceToNat, reduceCtorEq, ↓ask_vec1, ↓ask_arr1, ask_arr1, arr_strip, arr_take, ↓ask_vec2b, hv]
  refine ⟨fun h => ?_, fun h => ?_⟩ <;> rw [h]

def c43 : ACode := (.seq (.reg false 1 [⟨(.some 3), none, (.m .box 0), [(.t 1)]⟩, ⟨(.some 4), none, (.q .mv), [(.c (.sl 0 [] none))]⟩]) (.seq (.reg false 1 [⟨(.some 6), none, (.q .mv), [(.t 0)]⟩, ⟨(.some 7), none, (.call true), [(.c (.fn (.func 59) [] [])), (.t 6)]⟩, ⟨(.some 5), none, (.m (.alloc [(.imm (.int .i64 0)), (.imm (.int .i64 0)), (.imm (.int .i64 0)), (.imm (.int .i64 0)), (.imm (.int .i64 0)), (.imm (.int .i64 0)), (.imm (.int .i64 0)), (.imm (.int .i64 0)), (.imm (.int .i64 0)), (.imm (.int .i64 0)), (.imm (.int .i64 0)), (.imm (.int .i64 0)), (.imm (.int .i64 0)), (.imm (.int .i64 0)), (.imm (.int .i64 0)), (.imm (.int .i64 0)), (.imm (.int .i64 0)), (.imm (.int .i64 0)), (.imm (.int .i64 0)), (.imm (.int .i64 0)), (.imm (.int .i64 0)), (.imm (.int .i64 0)), (.imm (.int .i64 0)), (.imm (.int .i64 0)), (.imm (.int .i64 0)), (.imm (.int .i64 0)), (.imm (.int .i64 0)), (.imm (.int .i64 0)), (.imm (.int .i64 0)), (.imm (.int .i64 0)), (.imm (.int .i64 0)), (.imm (.int .i64 0))] false) 0), []⟩, ⟨none, none, (.e (.store 32)), [(.t 5), (.t 7)]⟩]) (.seq (.seq (.reg true 0 [⟨(.some 8), none, (.l (.loadA 2)), [(.t 3)]⟩, ⟨(.some 9), none, (.call true), [(.c (.fn (.func 58) [] [])), (.t 8)]⟩, ⟨(.some 10), none, (.q .mv), [(.t 9)]⟩, ⟨(.some 11), (.some (10, true)), (.q (.faddr 1)), [(.t 3)]⟩, ⟨(.some 12), (.some (10, true)), (.l .load1), [(.t 11)]⟩, ⟨(.some 13), (.some (10, true)), (.q (.faddr 0)), [(.t 3)]⟩, ⟨(.some 14), (.some (10, true)), (.l .load1), [(.t 13)]⟩, ⟨(.some 15), (.some (10, true)), (.q (.iaddrA 32 1)), [(.t 5), (.t 14)]⟩, ⟨(.some 16), (.some (10, true)), (.l .load1), [(.t 15)]⟩, ⟨(.some 17), (.some (10, true)), (.q (.bin .gtr 2)), [(.t 12), (.t 16)]⟩, ⟨(.some 18), none, (.q .pick), [(.t 10), (.t 17), (.c (.imm (.bool false)))]⟩]) (.cond (.t 18) (.reg false 0 [⟨(.some 19), none, (.q (.faddr 0)), [(.t 3)]⟩, ⟨(.some 20), none, (.l .load1), [(.t 19)]⟩, ⟨(.some 21), none, (.q (.faddr 1)), [(.t 3)]⟩, ⟨(.some 22), none, (.l .load1), [(.t 21)]⟩, ⟨(.some 23), none, (.q (.iaddrA 32 1)), [(.t 5), (.t 20)]⟩, ⟨none, none, (.e (.store 1)), [(.t 23), (.t 22)]⟩]) .skip)) (.seq (.reg false 0 [⟨(.some 24), none, (.l (.loadA 32)), [(.t 5)]⟩, ⟨(.some 25), none, (.call true), [(.c (.fn (.func 60) [] [])), (.t 24)]⟩, ⟨(.some 4), none, (.q .mv), [(.t 25)]⟩]) .ret))))
theorem fn43 : IsFn Tryz.prog 43 [] c43 [4] 26 := ⟨_, _, Tryz.func43, rfl, by decide +kernel, by kernel_rfl, rfl, rfl⟩
set_option maxHeartbeats 2000000 in
theorem p43' (v : Vec) (r q : Int) (hv : Small v) : Pure Tryz.prog G 43 [vecV v, dotV r q] (vecV (ofP (step (cnt v) (r, q)))) := by
  refine pure_of_code' (S := sp [(59, vec1 (fun v => v.length ≤ 1099511627776) fun v => .agg (arr (cnt v))), (60, arr1 fun f => vecV (ofP f)), (58, dot1b dotOk)] []) hm hG (sp_holds (.cons (told_vec1 p59) (.cons (told_arr1 p60) (.cons (told_dot1b p58) .nil))) .nil) fn43 (St 6 26 [vecV v, dotV r q, .junk, .junk, .junk, .junk] []) (by kernel_rfl) (by simp [lows, AV.low, lows_vdots]) (by simp [AV.low, lows_vdots]) ?_
  cases hd : dotOk r q with
  | true =>
    obtain ⟨k, rfl⟩ : ∃ k : Nat, r = (k : Int) := ⟨r.toNat, by simp [dotOk] at hd; omega⟩
    have hk : k < 32 := by simp [dotOk] at hd; omega
    have e3 : (k : Int) < 32 := by omega
    have e4 := arr_get (cnt v) hk
    have e5 : (0 : Int) ≤ (k : Int) := by omega
    by_cases hq : cnt v k < q
    · have e6 : (cnt v k < q) = True := eq_true hq
      have e7 := arr_set (cnt v) hk q
      simp (maxSteps := 2000000) -implicitDefEqProofs only [c43, RS, RX, Nat.reduceLT, ↓RP0, ↓RP1, ↓RP2, ↓RP3, RV, RW, ↓reduceIte, Nat.reduceAdd, Nat.reduceSub, Nat.reduceMul, Nat.reduceLeDiff, Nat.reduceEqDiff, Int.reduceLT, Int.reduceLE, Int.reduceEq, Int.reduceNe, Int.reduceAdd, Int.reduceSub, Int.reduceMul, Int.reduceNeg, Int.reduceToNat, reduceCtorEq, ↓ask_vec1, ↓ask_arr1, ask_arr1, arr_strip, arr_take, ↓ask_dot1b, hd, hv, e3, e4, e5, e6, e7, Nat.mul_one, arr_len]
      refine ⟨by omega, by omega, by omega, ?_⟩
      rw [step_yes hd hq]
    · have e6 : (cnt v k < q) = False := eq_false hq
      simp (maxSteps := 2000000) -implicitDefEqProofs only [c43, RS, RX, Nat.reduceLT, ↓RP0, ↓RP1, ↓RP2, ↓RP3, RV, RW, ↓reduceIte, Nat.reduceAdd, Nat.reduceSub, Nat.reduceMul, Nat.reduceLeDiff, Nat.reduceEqDiff, Int.reduceLT, Int.reduceLE, Int.reduceEq, Int.reduceNe, Int.reduceAdd, Int.reduceSub, Int.reduceMul, Int.reduceNeg, Int.reduceToNat, reduceCtorEq, ↓ask_vec1, ↓ask_arr1, ask_arr1, arr_strip, arr_take, ↓ask_dot1b, hd, hv, e3, e4, e5, e6, Nat.mul_one, arr_len]
      refine ⟨by omega, ?_⟩
      rw [step_no hq]
  | false =>
    simp (maxSteps := 2000000) -implicitDefEqProofs only [c43, RS, RX, Nat.reduceLT, ↓RP0, ↓RP1, ↓RP2, ↓RP3, RV, RW, ↓reduceIte, Nat.reduceAdd, Nat.reduceSub, Nat.reduceMul, Nat.reduceLeDiff, Nat.reduceEqDiff, Int.reduceLT, Int.reduceLE, Int.reduceEq, Int.reduceNe, Int.reduceAdd, Int.reduceSub, Int.reduceMul, Int.reduceNeg, Int.reduceToNat, reduceCtorEq, ↓ask_vec1, ↓ask_arr1, ask_arr1, arr_strip, arr_take, ↓ask_dot1b, hd, hv]
    refine ⟨by simp [arr], by simp [arr], ?_⟩
    rw [step_bad hd]
end Go.AL.Path
