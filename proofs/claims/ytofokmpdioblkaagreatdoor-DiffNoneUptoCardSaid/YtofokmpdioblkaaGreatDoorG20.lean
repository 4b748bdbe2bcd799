/- Path: contracts of the library's functions, and of the ones that need no loop. -/
import Derived.Test.YtofokmpdioblkaaGreatDoorG11
import Derived.Test.YtofokmpdioblkaaGreatDoorG18
import Derived.KernelRfl
set_option linter.unusedSimpArgs false
set_option linter.unusedVariables false
set_option maxRecDepth 100000
namespace Go.AL.Path
open Go Go.RowKit Go.Proofs Go.AL
def powAV : List AV := Lib.pow10Tab.map fun z => .imm (.int .u64 z)
def G : Nat → Option (List AV) := fun g => if g = 1 then some powAV else none
theorem hG : ∀ g cs, G g = some cs → lows 0 cs := by
  intro g cs h
  unfold G at h
  split at h
  · cases h; exact lows_map _ _
  · cases h
theorem hm : Tryz.prog.follows .mixedOrders = true := by kernel_rfl
/-- What the shelf's contracts of numbers ask. -/
theorem tab {lo E H w} (h : SimH G lo E H w) : Lib.TabIs Tryz.prog w "internal/strconv.uint64pow10" .u64 Lib.pow10Tab := by
  have himm : ∀ l : List Int, Imms (l.map fun z => AV.imm (.int .u64 z)) (l.map fun z => Value.int .u64 z) := by
    intro l; induction l with
    | nil => exact .nil
    | cons x l ih => exact .cons ih
  obtain ⟨ty, fz, h1⟩ := h.cells (g := 1) (cs := powAV) rfl (himm _)
  unfold Lib.TabIs World.var?
  rw [show Tryz.prog.globalNamed "internal/strconv.uint64pow10" = some 1 by kernel_rfl]
  simp [h1]
theorem imm1 {a : Value} : Imms [.imm a] [a] := .cons .nil
theorem imm2 {a b : Value} : Imms [.imm a, .imm b] [a, b] := .cons (.cons .nil)
theorem p54 (l m : List UInt8) : Pure Tryz.prog G 54 [T l, T m] (.tup [T (Lib.trimPrefix l m), bool (Lib.hasPrefix l m)]) :=
  pure_of_same_tup Tryz.func54 rfl (by decide +kernel) (rs := [T (Lib.trimPrefix l m), bool (Lib.hasPrefix l m)]) (us := [.string (B (Lib.trimPrefix l m)), .bool (Lib.hasPrefix l m)]) imm2 (by simp [Value.oneCell']) imm2
    fun w => Tryz.strings_CutPrefix (B l) (B m) w
theorem p61 (l : List UInt8) (c : UInt8) : Pure Tryz.prog G 61 [T l, T [c]] (i64 (Lib.indexByte l c)) :=
  pure_of_same Tryz.func61 rfl (by decide +kernel) rfl imm2 fun w => Tryz.strings_Index_one (B l) c w
theorem p49 (l : List UInt8) (c : UInt8) : Pure Tryz.prog G 49 [T l, T [c]] (bool (decide (0 ≤ Lib.indexByte l c))) :=
  pure_of_same Tryz.func49 rfl (by decide +kernel) rfl imm2 fun w => Tryz.strings_Contains_one (B l) c w
theorem p72 (n : Int) (h : In64 n) : Pure Tryz.prog G 72 [i64 n, i64 10] (T (Lib.itoa n)) :=
  pure_of_below Tryz.func72 rfl (by decide +kernel) rfl imm2 fun H lo E w hs =>
    (Tryz.strconv_FormatInt_10 n h.1 h.2 w (tab hs)).mono fun e w' ⟨h1, k, os, h2⟩ => ⟨h1, h2 ▸ below_grown w k os⟩
def c59 : ACode := (.seq (.reg false 0 [⟨(.some 2), none, (.q .mv), [(.c (.imm (.string (B []))))]⟩]) (.seq (.reg false 0 [⟨(.some 3), none, (.q .mv), [(.t 0)]⟩, ⟨(.some 4), none, (.call true), [(.c (.fn (.func 72) [] [])), (.t 3), (.c (.imm (.int .i64 10)))]⟩, ⟨(.some 2), none, (.q .mv), [(.t 4)]⟩]) .ret))
theorem fn59 : IsFn Tryz.prog 59 [] c59 [2] 5 := ⟨_, _, Tryz.func59, rfl, by decide +kernel, by kernel_rfl, rfl, rfl⟩
theorem p59 (n : Int) (h : In64 n) : Pure Tryz.prog G 59 [i64 n] (T (Lib.itoa n)) := by
  refine pure_of_code' (S := sp [(72, num1c 10 In64 fun n => T (Lib.itoa n))] []) hm hG (sp_holds (.cons (told_num1c p72) .nil) .nil) fn59 ([i64 n, .junk, .junk, .junk, .junk]) rfl (by simp [lows, AV.low]) (by simp [AV.low]) ?_
  simp (maxSteps := 2000000) -implicitDefEqProofs only [c59, ↓RP0, ↓RP1, ↓RP2, ↓RP3, RV, RW, ↓reduceIte, Nat.reduceAdd, Nat.reduceSub, Nat.reduceMul, Nat.reduceLeDiff, Nat.reduceEqDiff, Int.reduceLT, Int.reduceLE, Int.reduceEq, Int.reduceNe, Int.reduceAdd, Int.reduceSub, Int.reduceMul, Int.reduceNeg, Int.reduceToNat, reduceCtorEq]
  exact h
/-- Lies below. -/
def under (s d : List UInt8) : Bool := Lib.hasPrefix s (d ++ [47]) && !(Lib.trimPrefix s (d ++ [47])).isEmpty
def c37 : ACode := (.seq (.reg false 0 [⟨(.some 4), none, (.q .mv), [(.c (.imm (.bool false)))]⟩]) (.seq (.reg false 0 [⟨(.some 8), none, (.q .mv), [(.t 0)]⟩, ⟨(.some 9), none, (.q .mv), [(.t 1)]⟩, ⟨(.some 10), none, (.q (.bin .add 9)), [(.t 9), (.c (.imm (.string (B [47]))))]⟩, ⟨(.some 11), none, (.call true), [(.c (.fn (.func 54) [] [])), (.t 8), (.t 10)]⟩, ⟨(.some 7), none, (.q .mv), [(.t 11)]⟩, ⟨(.some 12), none, (.q (.ext 0)), [(.t 7)]⟩, ⟨(.some 13), none, (.q (.ext 1)), [(.t 7)]⟩, ⟨(.some 5), none, (.q .mv), [(.t 12)]⟩, ⟨(.some 6), none, (.q .mv), [(.t 13)]⟩]) (.seq (.reg false 0 [⟨(.some 14), none, (.q .mv), [(.t 6)]⟩, ⟨(.some 15), none, (.q .mv), [(.t 14)]⟩, ⟨(.some 16), (.some (15, true)), (.q .mv), [(.t 5)]⟩, ⟨(.some 17), (.some (15, true)), (.q (.bin .neq 9)), [(.t 16), (.c (.imm (.string (B []))))]⟩, ⟨(.some 18), none, (.q .pick), [(.t 15), (.t 17), (.c (.imm (.bool false)))]⟩, ⟨(.some 4), none, (.q .mv), [(.t 18)]⟩]) .ret)))
theorem fn37 : IsFn Tryz.prog 37 [] c37 [4] 19 := ⟨_, _, Tryz.func37, rfl, by decide +kernel, by kernel_rfl, rfl, rfl⟩
theorem p37 (s d : List UInt8) (hd : d.length ≤ 1099511627776) : Pure Tryz.prog G 37 [T s, T d] (bool (under s d)) := by
  refine pure_of_code' (S := sp [(54, txt2t (fun _ _ => True) (fun l m => T (Lib.trimPrefix l m)) Lib.hasPrefix)] []) hm hG (sp_holds (.cons (told_txt2t fun l m _ => p54 l m) .nil) .nil) fn37 ([T s, T d, .junk, .junk, .junk, .junk, .junk, .junk, .junk, .junk, .junk, .junk, .junk, .junk, .junk, .junk, .junk, .junk, .junk]) rfl (by simp [lows, AV.low]) (by simp [AV.low]) ?_
  simp (maxSteps := 2000000) -implicitDefEqProofs only [c37, ↓RP0, ↓RP1, ↓RP2, ↓RP3, RV, RW, ↓reduceIte, Nat.reduceAdd, Nat.reduceSub, Nat.reduceMul, Nat.reduceLeDiff, Nat.reduceEqDiff, Int.reduceLT, Int.reduceLE, Int.reduceEq, Int.reduceNe, Int.reduceAdd, Int.reduceSub, Int.reduceMul, Int.reduceNeg, Int.reduceToNat, reduceCtorEq]
  refine ⟨by omega, fun h => ⟨fun h1 => ?_, fun h1 => ?_⟩, fun h => ?_⟩
  · simp [under, h, h1]
  · simp [under, h, h1]
  · simp [under, h]
def c38 : ACode := (.seq (.reg false 0 [⟨(.some 4), none, (.q .mv), [(.c (.imm (.bool false)))]⟩]) (.seq (.reg false 0 [⟨(.some 5), none, (.q .mv), [(.t 0)]⟩, ⟨(.some 6), none, (.q .lenS), [(.t 5)]⟩, ⟨(.some 7), none, (.q .mv), [(.t 1)]⟩, ⟨(.some 8), none, (.q .lenS), [(.t 7)]⟩, ⟨(.some 9), none, (.q (.bin .add 3)), [(.t 8), (.c (.imm (.int .i64 1)))]⟩, ⟨(.some 10), none, (.q (.bin .gtr 3)), [(.t 6), (.t 9)]⟩, ⟨(.some 11), none, (.q .mv), [(.t 10)]⟩, ⟨(.some 12), (.some (11, true)), (.q .mv), [(.t 0)]⟩, ⟨(.some 13), (.some (11, true)), (.q .mv), [(.t 1)]⟩, ⟨(.some 14), (.some (11, true)), (.q .lenS), [(.t 13)]⟩, ⟨(.some 15), (.some (11, true)), (.q (.sliceS false true)), [(.t 12), (.t 14)]⟩, ⟨(.some 16), (.some (11, true)), (.q .mv), [(.t 1)]⟩, ⟨(.some 17), (.some (11, true)), (.q (.bin .eql 9)), [(.t 15), (.t 16)]⟩, ⟨(.some 18), none, (.q .pick), [(.t 11), (.t 17), (.c (.imm (.bool false)))]⟩, ⟨(.some 19), none, (.q .mv), [(.t 18)]⟩, ⟨(.some 20), (.some (19, true)), (.q .mv), [(.t 0)]⟩, ⟨(.some 21), (.some (19, true)), (.q .mv), [(.t 1)]⟩, ⟨(.some 22), (.some (19, true)), (.q .lenS), [(.t 21)]⟩, ⟨(.some 23), (.some (19, true)), (.q .idxS), [(.t 20), (.t 22)]⟩, ⟨(.some 24), (.some (19, true)), (.q (.bin .eql 5)), [(.t 23), (.c (.imm (.int .u8 47)))]⟩, ⟨(.some 25), none, (.q .pick), [(.t 19), (.t 24), (.c (.imm (.bool false)))]⟩, ⟨(.some 4), none, (.q .mv), [(.t 25)]⟩]) .ret))
theorem fn38 : IsFn Tryz.prog 38 [] c38 [4] 26 := ⟨_, _, Tryz.func38, rfl, by decide +kernel, by kernel_rfl, rfl, rfl⟩
theorem under_eq (s d : List UInt8) : under s d = true ↔ d.length + 1 < s.length ∧ s.take d.length = d ∧ s[d.length]? = some 47 := by
  unfold under
  simp only [Lib.hasPrefix, Lib.trimPrefix, Bool.and_eq_true, Bool.not_eq_true', List.isEmpty_eq_false_iff, List.isPrefixOf_iff_prefix, List.prefix_iff_eq_take]
  simp only [List.length_append, List.length_cons, List.length_nil, Nat.zero_add]
  constructor
  · rintro ⟨h1, h2⟩
    have h3 : d ++ [47] <+: s := by rw [h1]; exact List.take_prefix _ _
    obtain ⟨t, rfl⟩ := h3
    rw [if_pos h1] at h2
    cases t with
    | nil => simp at h2
    | cons x t => simp
  · rintro ⟨h1, h2, h3⟩
    have h4 : d ++ [47] = s.take (d.length + 1) := by rw [List.take_add_one, h2, h3]; rfl
    refine ⟨h4, ?_⟩
    rw [if_pos h4]
    intro h
    have := congrArg List.length h
    simp at this
    omega
theorem p38 (s d : List UInt8) (hd : d.length ≤ 1099511627776) (hs : s.length ≤ 1099511627776) : Pure Tryz.prog G 38 [T s, T d] (bool (under s d)) := by
  refine pure_of_code' (S := sp [] []) hm hG (sp_holds .nil .nil) fn38 ([T s, T d, .junk, .junk, .junk, .junk, .junk, .junk, .junk, .junk, .junk, .junk, .junk, .junk, .junk, .junk, .junk, .junk, .junk, .junk, .junk, .junk, .junk, .junk, .junk, .junk]) rfl (by simp [lows, AV.low]) (by simp [AV.low]) ?_
  simp (maxSteps := 2000000) -implicitDefEqProofs only [c38, ↓RP0, ↓RP1, ↓RP2, ↓RP3, RV, RW, ↓reduceIte, Nat.reduceAdd, Nat.reduceSub, Nat.reduceMul, Nat.reduceLeDiff, Nat.reduceEqDiff, Int.reduceLT, Int.reduceLE, Int.reduceEq, Int.reduceNe, Int.reduceAdd, Int.reduceSub, Int.reduceMul, Int.reduceNeg, Int.reduceToNat, reduceCtorEq]
  refine ⟨⟨by omega, by omega⟩, fun h => ⟨by omega, fun h1 => ⟨by omega, fun h2 => ?_, fun h2 => ?_⟩, fun h1 => ?_⟩, fun h => ?_⟩
  · rw [(under_eq s d).2 ⟨by omega, h1, (at'_eq (by omega) 47).1 h2⟩]
  · rw [show under s d = false from Bool.eq_false_iff.2 fun e => h2 ((at'_eq (by omega) 47).2 ((under_eq s d).1 e).2.2)]
  · rw [show under s d = false from Bool.eq_false_iff.2 fun e => h1 ((under_eq s d).1 e).2.1]
  · rw [show under s d = false from Bool.eq_false_iff.2 fun e => h (by have := ((under_eq s d).1 e).1; omega)]
end Go.AL.Path

/- Path: the functions that go through a text. -/
set_option linter.unusedSimpArgs false
set_option linter.unusedVariables false
set_option maxRecDepth 100000
namespace Go.AL.Path
open Go Go.RowKit Go.Proofs Go.AL
/-- What a text lies below, the first i bytes being looked at. -/
def parentsTo (s : List UInt8) : Nat → List (List UInt8)
  | 0 => []
  | i + 1 => if s[i]? = some 47 then parentsTo s i ++ [s.take i] else parentsTo s i
def parents (s : List UInt8) : List (List UInt8) := parentsTo s s.length
def sts (l : List (List UInt8)) : AV := .sl 1 (l.map T) none
theorem parentsTo_length (s : List UInt8) : ∀ i, (parentsTo s i).length ≤ i
  | 0 => Nat.le_refl _
  | i + 1 => by
    have := parentsTo_length s i
    unfold parentsTo
    split
    · simp; omega
    · omega
def c36 : ACode := (.seq (.reg false 1 [⟨(.some 2), none, (.m (.nilT 9 1) 0), []⟩]) (.seq (.reg false 1 [⟨(.some 3), none, (.m (.nilT 9 1) 0), []⟩]) (.seq (.seq (.reg false 0 [⟨(.some 5), none, (.q .mv), [(.t 0)]⟩, ⟨(.some 6), none, (.q .lenS), [(.t 5)]⟩, ⟨(.some 7), none, (.q .mv), [(.c (.imm (.int .i64 0)))]⟩]) (.block 0 (.loop (.seq (.reg false 0 [⟨(.some 8), none, (.q (.bin .lss 3)), [(.t 7), (.t 6)]⟩]) (.seq (.cond (.t 8) .skip (.exit 0)) (.seq (.block 1 (.seq (.reg false 0 [⟨(.some 9), none, (.q .mv), [(.t 7)]⟩, ⟨(.some 4), none, (.q .mv), [(.t 9)]⟩]) (.seq (.reg true 0 [⟨(.some 10), none, (.q .mv), [(.t 0)]⟩, ⟨(.some 11), none, (.q .mv), [(.t 4)]⟩, ⟨(.some 12), none, (.q .idxS), [(.t 10), (.t 11)]⟩, ⟨(.some 13), none, (.q .idxS), [(.c (.imm (.string (B [47])))), (.c (.imm (.int .i64 0)))]⟩, ⟨(.some 14), none, (.q (.bin .eql 5)), [(.t 12), (.t 13)]⟩]) (.cond (.t 14) (.reg false 1 [⟨(.some 15), none, (.q .mv), [(.t 3)]⟩, ⟨(.some 16), none, (.q .mv), [(.t 0)]⟩, ⟨(.some 17), none, (.q .mv), [(.t 4)]⟩, ⟨(.some 18), none, (.q (.sliceS false true)), [(.t 16), (.t 17)]⟩, ⟨(.some 19), none, (.m (.bsliceO 9 1) 0), [(.t 18)]⟩, ⟨(.some 20), none, (.e (.append 9 1 16)), [(.t 15), (.t 19)]⟩, ⟨(.some 3), none, (.q .mv), [(.t 20)]⟩]) .skip)))) (.reg false 0 [⟨(.some 21), none, (.q (.bin .add 3)), [(.t 7), (.c (.imm (.int .i64 1)))]⟩, ⟨(.some 7), none, (.q .mv), [(.t 21)]⟩]))))))) (.seq (.reg false 0 [⟨(.some 22), none, (.q .mv), [(.t 3)]⟩, ⟨(.some 2), none, (.q .mv), [(.t 22)]⟩]) .ret))))
theorem fn36 : IsFn Tryz.prog 36 (List.range 200) c36 [2] 23 := ⟨_, _, Tryz.func36, rfl, by decide +kernel, by kernel_rfl, rfl, rfl⟩
theorem p36 (s : List UInt8) (hs : s.length ≤ 1099511627776) : Pure Tryz.prog G 36 [T s] (sts (parents s)) := by
  refine pure_of_code' (S := sp [] []) hm hG (sp_holds .nil .nil) fn36 ([T s, .junk, .junk, .junk, .junk, .junk, .junk, .junk, .junk, .junk, .junk, .junk, .junk, .junk, .junk, .junk, .junk, .junk, .junk, .junk, .junk, .junk, .junk]) rfl (by simp [lows, AV.low]) (by simp [AV.low, sts, lows_map]) ?_
  simp (maxSteps := 2000000) -implicitDefEqProofs only [c36, ↓RP0, ↓RP1, ↓RP2, ↓RP3, RV, RW, ↓reduceIte, Nat.reduceAdd, Nat.reduceSub, Nat.reduceMul, Nat.reduceLeDiff, Nat.reduceEqDiff, Int.reduceLT, Int.reduceLE, Int.reduceEq, Int.reduceNe, Int.reduceAdd, Int.reduceSub, Int.reduceMul, Int.reduceNeg, Int.reduceToNat, reduceCtorEq]
  refine loopB (st := fun i => [T s, .junk, .sl 1 [] (some 0), .sl 1 ((parentsTo s i).map T) (some 1), .junk, T s, i64 s.length, i64 i, .junk, .junk, .junk, .junk, .junk, .junk, .junk, .junk, .junk, .junk, .junk, .junk, .junk, .junk, .junk])
    (hp := fun i => [.tok 9 1 0, .tok 9 1 (parentsTo s i).length]) (I := fun i => i ≤ s.length) (m := fun i => s.length - i) (0 : Nat) (Nat.zero_le _) ?_ ?_
  · refine weak_same (Nat.zero_le _) ?_ ?_ <;> simp [parentsTo, WeakL, AV.low, lows, AObj.low]
  · intro i hi
    simp (maxSteps := 2000000) -implicitDefEqProofs only [↓RP0, ↓RP1, ↓RP2, ↓RP3, RV, RW, ↓reduceIte, Nat.reduceAdd, Nat.reduceSub, Nat.reduceMul, Nat.reduceLeDiff, Nat.reduceEqDiff, Int.reduceLT, Int.reduceLE, Int.reduceEq, Int.reduceNe, Int.reduceAdd, Int.reduceSub, Int.reduceMul, Int.reduceNeg, Int.reduceToNat, reduceCtorEq]
    refine ⟨fun h => ⟨h, by decide, fun h1 => ?_, fun h1 => ?_⟩, fun h => ?_⟩
    · have h2 : s[i]? = some 47 := (at'_eq (by omega) 47).1 h1
      have h3 : (parentsTo s i).length ≤ i := parentsTo_length s i
      refine ⟨by omega, by decide, by simp [AV.isVal, AV.cells], by decide, by simp, .inl trivial, .inl trivial, by simp; omega, by simp; omega, ⟨by omega, by omega⟩, i + 1, by dsimp only; omega, by omega, ?_⟩
      exact weak_cut 2 (by omega) (by simp [parentsTo, h2]) (by simp [AObj.low]) (by simp [WeakL, AV.low, lows, parentsTo, h2])
    · have h2 : ¬ s[i]? = some 47 := fun e => h1 (((at'_eq (by omega) 47).2 e).trans rfl)
      refine ⟨⟨by omega, by omega⟩, i + 1, by dsimp only; omega, by omega, ?_⟩
      exact weak_cut 2 (by omega) (by simp [parentsTo, h2]) (by simp [AObj.low]) (by simp [WeakL, AV.low, lows, parentsTo, h2])
    · obtain rfl : i = s.length := by omega
      rfl
end Go.AL.Path

/- Path: the document's parts. -/
set_option linter.unusedSimpArgs false
set_option linter.unusedVariables false
set_option maxRecDepth 100000
namespace Go.AL.Path
open Go Go.RowKit Go.Proofs Go.AL
theorem T_inj {l m : List UInt8} : T l = T m ↔ l = m := by simp [B_inj]
/-- A byte that may stand in a part. -/
def letterI (n : Int) : Bool := decide (97 ≤ n) && decide (n ≤ 122) || decide (65 ≤ n) && decide (n ≤ 90) || decide (48 ≤ n) && decide (n ≤ 57) || decide (n = 45) || decide (n = 46) || decide (n = 95) || decide (n = 43) || decide (n = 126)
theorem letterI_iff (n : Int) : letterI n = true ↔ (97 ≤ n ∧ n ≤ 122) ∨ (65 ≤ n ∧ n ≤ 90) ∨ (48 ≤ n ∧ n ≤ 57) ∨ n = 45 ∨ n = 46 ∨ n = 95 ∨ n = 43 ∨ n = 126 := by
  simp [letterI, or_assoc]
def c99 : ACode := (.seq (.reg false 0 [⟨(.some 2), none, (.q .mv), [(.c (.imm (.bool false)))]⟩]) (.seq (.reg false 0 [⟨(.some 3), none, (.q .mv), [(.t 0)]⟩, ⟨(.some 4), none, (.q (.bin .geq 5)), [(.t 3), (.c (.imm (.int .u8 97)))]⟩, ⟨(.some 5), none, (.q .mv), [(.t 4)]⟩, ⟨(.some 6), (.some (5, true)), (.q .mv), [(.t 0)]⟩, ⟨(.some 7), (.some (5, true)), (.q (.bin .leq 5)), [(.t 6), (.c (.imm (.int .u8 122)))]⟩, ⟨(.some 8), none, (.q .pick), [(.t 5), (.t 7), (.c (.imm (.bool false)))]⟩, ⟨(.some 9), none, (.q .mv), [(.t 8)]⟩, ⟨(.some 10), (.some (9, false)), (.q .mv), [(.t 0)]⟩, ⟨(.some 11), (.some (9, false)), (.q (.bin .geq 5)), [(.t 10), (.c (.imm (.int .u8 65)))]⟩, ⟨(.some 12), (.some (9, false)), (.q .mv), [(.t 11)]⟩, ⟨(.some 13), (.some (12, true)), (.q .mv), [(.t 0)]⟩, ⟨(.some 14), (.some (12, true)), (.q (.bin .leq 5)), [(.t 13), (.c (.imm (.int .u8 90)))]⟩, ⟨(.some 15), (.some (9, false)), (.q .pick), [(.t 12), (.t 14), (.c (.imm (.bool false)))]⟩, ⟨(.some 16), none, (.q .pick), [(.t 9), (.c (.imm (.bool true))), (.t 15)]⟩, ⟨(.some 17), none, (.q .mv), [(.t 16)]⟩, ⟨(.some 18), (.some (17, false)), (.q .mv), [(.t 0)]⟩, ⟨(.some 19), (.some (17, false)), (.q (.bin .geq 5)), [(.t 18), (.c (.imm (.int .u8 48)))]⟩, ⟨(.some 20), (.some (17, false)), (.q .mv), [(.t 19)]⟩, ⟨(.some 21), (.some (20, true)), (.q .mv), [(.t 0)]⟩, ⟨(.some 22), (.some (20, true)), (.q (.bin .leq 5)), [(.t 21), (.c (.imm (.int .u8 57)))]⟩, ⟨(.some 23), (.some (17, false)), (.q .pick), [(.t 20), (.t 22), (.c (.imm (.bool false)))]⟩, ⟨(.some 24), none, (.q .pick), [(.t 17), (.c (.imm (.bool true))), (.t 23)]⟩, ⟨(.some 25), none, (.q .mv), [(.t 24)]⟩, ⟨(.some 26), (.some (25, false)), (.q .mv), [(.t 0)]⟩, ⟨(.some 27), (.some (25, false)), (.q (.bin .eql 5)), [(.t 26), (.c (.imm (.int .u8 45)))]⟩, ⟨(.some 28), none, (.q .pick), [(.t 25), (.c (.imm (.bool true))), (.t 27)]⟩, ⟨(.some 29), none, (.q .mv), [(.t 28)]⟩, ⟨(.some 30), (.some (29, false)), (.q .mv), [(.t 0)]⟩, ⟨(.some 31), (.some (29, false)), (.q (.bin .eql 5)), [(.t 30), (.c (.imm (.int .u8 46)))]⟩, ⟨(.some 32), none, (.q .pick), [(.t 29), (.c (.imm (.bool true))), (.t 31)]⟩, ⟨(.some 33), none, (.q .mv), [(.t 32)]⟩, ⟨(.some 34), (.some (33, false)), (.q .mv), [(.t 0)]⟩, ⟨(.some 35), (.some (33, false)), (.q (.bin .eql 5)), [(.t 34), (.c (.imm (.int .u8 95)))]⟩, ⟨(.some 36), none, (.q .pick), [(.t 33), (.c (.imm (.bool true))), (.t 35)]⟩, ⟨(.some 37), none, (.q .mv), [(.t 36)]⟩, ⟨(.some 38), (.some (37, false)), (.q .mv), [(.t 0)]⟩, ⟨(.some 39), (.some (37, false)), (.q (.bin .eql 5)), [(.t 38), (.c (.imm (.int .u8 43)))]⟩, ⟨(.some 40), none, (.q .pick), [(.t 37), (.c (.imm (.bool true))), (.t 39)]⟩, ⟨(.some 41), none, (.q .mv), [(.t 40)]⟩, ⟨(.some 42), (.some (41, false)), (.q .mv), [(.t 0)]⟩, ⟨(.some 43), (.some (41, false)), (.q (.bin .eql 5)), [(.t 42), (.c (.imm (.int .u8 126)))]⟩, ⟨(.some 44), none, (.q .pick), [(.t 41), (.c (.imm (.bool true))), (.t 43)]⟩, ⟨(.some 2), none, (.q .mv), [(.t 44)]⟩]) .ret))
theorem fn99 : IsFn Tryz.prog 99 [] c99 [2] 45 := ⟨_, _, Tryz.func99, rfl, by decide +kernel, by kernel_rfl, rfl, rfl⟩
theorem p99 (n : Int) : Pure Tryz.prog G 99 [.imm (.int .u8 n)] (bool (letterI n)) := by
  refine pure_of_code' (S := sp [] []) hm hG (sp_holds .nil .nil) fn99 ([.imm (.int .u8 n), .junk, .junk, .junk, .junk, .junk, .junk, .junk, .junk, .junk, .junk, .junk, .junk, .junk, .junk, .junk, .junk, .junk, .junk, .junk, .junk, .junk, .junk, .junk, .junk, .junk, .junk, .junk, .junk, .junk, .junk, .junk, .junk, .junk, .junk, .junk, .junk, .junk, .junk, .junk, .junk, .junk, .junk, .junk, .junk]) rfl (by simp [lows, AV.low]) (by simp [AV.low]) ?_
  simp (maxSteps := 2000000) -implicitDefEqProofs only [c99, ↓RP0, ↓RP1, ↓RP2, ↓RP3, RV, RW, ↓reduceIte, Nat.reduceAdd, Nat.reduceSub, Nat.reduceMul, Nat.reduceLeDiff, Nat.reduceEqDiff, Int.reduceLT, Int.reduceLE, Int.reduceEq, Int.reduceNe, Int.reduceAdd, Int.reduceSub, Int.reduceMul, Int.reduceNeg, Int.reduceToNat, reduceCtorEq]
  have key : ∀ b, b = letterI n → AV.imm (.bool b) = bool (letterI n) := by rintro _ rfl; rfl
  repeat' (first | apply And.intro | intro _)
  all_goals first
    | exact key true ((letterI_iff n).2 (by omega)).symm
    | exact key false (Bool.eq_false_iff.2 fun e => absurd ((letterI_iff n).1 e) (by omega)).symm
def partOk (s : List UInt8) : Bool := s.all (fun b => letterI b.toNat) && decide (1 ≤ s.length) && decide (s.length ≤ 100) && !decide (s = [46]) && !decide (s = [46, 46])
def c84 : ACode := (.seq (.reg false 0 [⟨(.some 2), none, (.q .mv), [(.c (.imm (.bool false)))]⟩]) (.seq (.seq (.reg false 0 [⟨(.some 3), none, (.q .mv), [(.c (.imm (.int .i64 0)))]⟩]) (.block 0 (.loop (.seq (.seq (.reg false 0 [⟨(.some 4), none, (.q .mv), [(.t 3)]⟩, ⟨(.some 5), none, (.q .mv), [(.t 0)]⟩, ⟨(.some 6), none, (.q .lenS), [(.t 5)]⟩, ⟨(.some 7), none, (.q (.bin .lss 3)), [(.t 4), (.t 6)]⟩]) (.cond (.t 7) .skip (.exit 0))) (.seq (.block 1 (.seq (.reg false 0 [⟨(.some 10), none, (.q .mv), [(.t 0)]⟩, ⟨(.some 11), none, (.q .mv), [(.t 3)]⟩, ⟨(.some 12), none, (.q .idxS), [(.t 10), (.t 11)]⟩, ⟨(.some 13), none, (.call true), [(.c (.fn (.func 99) [] [])), (.t 12)]⟩, ⟨(.some 14), none, (.q (.un .not)), [(.t 13)]⟩]) (.cond (.t 14) (.seq (.reg false 0 [⟨(.some 2), none, (.q .mv), [(.c (.imm (.bool false)))]⟩]) .ret) .skip))) (.reg false 0 [⟨(.some 8), none, (.q .mv), [(.t 3)]⟩, ⟨(.some 9), none, (.q (.bin .add 3)), [(.t 8), (.c (.imm (.int .i64 1)))]⟩, ⟨(.some 3), none, (.q .mv), [(.t 9)]⟩])))))) (.seq (.reg false 0 [⟨(.some 15), none, (.q .mv), [(.t 0)]⟩, ⟨(.some 16), none, (.q .lenS), [(.t 15)]⟩, ⟨(.some 17), none, (.q (.bin .geq 3)), [(.t 16), (.c (.imm (.int .i64 1)))]⟩, ⟨(.some 18), none, (.q .mv), [(.t 17)]⟩, ⟨(.some 19), (.some (18, true)), (.q .mv), [(.t 0)]⟩, ⟨(.some 20), (.some (18, true)), (.q .lenS), [(.t 19)]⟩, ⟨(.some 21), (.some (18, true)), (.q (.bin .leq 3)), [(.t 20), (.c (.imm (.int .i64 100)))]⟩, ⟨(.some 22), none, (.q .pick), [(.t 18), (.t 21), (.c (.imm (.bool false)))]⟩, ⟨(.some 23), none, (.q .mv), [(.t 22)]⟩, ⟨(.some 24), (.some (23, true)), (.q .mv), [(.t 0)]⟩, ⟨(.some 25), (.some (23, true)), (.q (.bin .neq 9)), [(.t 24), (.c (.imm (.string (B [46]))))]⟩, ⟨(.some 26), none, (.q .pick), [(.t 23), (.t 25), (.c (.imm (.bool false)))]⟩, ⟨(.some 27), none, (.q .mv), [(.t 26)]⟩, ⟨(.some 28), (.some (27, true)), (.q .mv), [(.t 0)]⟩, ⟨(.some 29), (.some (27, true)), (.q (.bin .neq 9)), [(.t 28), (.c (.imm (.string (B [46, 46]))))]⟩, ⟨(.some 30), none, (.q .pick), [(.t 27), (.t 29), (.c (.imm (.bool false)))]⟩, ⟨(.some 2), none, (.q .mv), [(.t 30)]⟩]) .ret)))
theorem fn84 : IsFn Tryz.prog 84 [] c84 [2] 31 := ⟨_, _, Tryz.func84, rfl, by decide +kernel, by kernel_rfl, rfl, rfl⟩
theorem p84 (s : List UInt8) (hs : s.length ≤ 1099511627776) : Pure Tryz.prog G 84 [T s] (bool (partOk s)) := by
  refine pure_of_code' (S := sp [(99, byte1b (fun _ => True) letterI)] []) hm hG (sp_holds (.cons (told_byte1b fun n _ => p99 n) .nil) .nil) fn84 ([T s, .junk, .junk, .junk, .junk, .junk, .junk, .junk, .junk, .junk, .junk, .junk, .junk, .junk, .junk, .junk, .junk, .junk, .junk, .junk, .junk, .junk, .junk, .junk, .junk, .junk, .junk, .junk, .junk, .junk, .junk]) rfl (by simp [lows, AV.low]) (by simp [AV.low]) ?_
  simp (maxSteps := 2000000) -implicitDefEqProofs only [c84, ↓RP0, ↓RP1, ↓RP2, ↓RP3, RV, RW, ↓reduceIte, Nat.reduceAdd, Nat.reduceSub, Nat.reduceMul, Nat.reduceLeDiff, Nat.reduceEqDiff, Int.reduceLT, Int.reduceLE, Int.reduceEq, Int.reduceNe, Int.reduceAdd, Int.reduceSub, Int.reduceMul, Int.reduceNeg, Int.reduceToNat, reduceCtorEq]
  refine loopB (st := fun (i : Nat) => [T s, .junk, .junk, i64 i, .junk, .junk, .junk, .junk, .junk, .junk, .junk, .junk, .junk, .junk, .junk, .junk, .junk, .junk, .junk, .junk, .junk, .junk, .junk, .junk, .junk, .junk, .junk, .junk, .junk, .junk, .junk])
    (hp := fun _ => []) (I := fun i => i ≤ s.length ∧ ∀ j (h : j < s.length), j < i → letterI s[j].toNat = true) (m := fun i => s.length - i) (0 : Nat) ⟨Nat.zero_le _, fun j _ h => absurd h (Nat.not_lt_zero j)⟩ ?_ ?_
  · refine weak_nil ?_; simp [WeakL, AV.low, lows]
  · rintro i ⟨hi, he⟩
    simp (maxSteps := 2000000) -implicitDefEqProofs only [↓RP0, ↓RP1, ↓RP2, ↓RP3, RV, RW, ↓reduceIte, Nat.reduceAdd, Nat.reduceSub, Nat.reduceMul, Nat.reduceLeDiff, Nat.reduceEqDiff, Int.reduceLT, Int.reduceLE, Int.reduceEq, Int.reduceNe, Int.reduceAdd, Int.reduceSub, Int.reduceMul, Int.reduceNeg, Int.reduceToNat, reduceCtorEq]
    refine ⟨fun h => ⟨h, fun h1 => ?_, fun h1 => ?_⟩, fun h => ?_⟩
    · refine ⟨⟨by omega, by omega⟩, i + 1, by dsimp only; omega, ⟨by omega, fun j hj hji => ?_⟩, ?_⟩
      · by_cases e : j = i
        · subst e; rw [at'_nat, List.getD_eq_getElem?_getD, List.getElem?_eq_getElem hj] at h1; exact h1
        · exact he j hj (by omega)
      · refine weak_nil ?_; simp [WeakL, AV.low, lows]
    · have : partOk s = false := by
        have hl : i < s.length := by omega
        rw [at'_nat, List.getD_eq_getElem?_getD, List.getElem?_eq_getElem hl] at h1
        have : s.all (fun b => letterI b.toNat) = false := by
          rw [List.all_eq_false]
          exact ⟨s[i], List.getElem_mem hl, by simpa using h1⟩
        simp [partOk, this]
      rw [this]
    · have hall : s.all (fun b => letterI b.toNat) = true := by
        rw [List.all_eq_true]
        intro x hx
        obtain ⟨j, hj, rfl⟩ := List.getElem_of_mem hx
        exact he j hj (by omega)
      have key : ∀ b, b = partOk s → AV.imm (.bool b) = bool (partOk s) := by rintro _ rfl; rfl
      repeat' (first | apply And.intro | intro _)
      all_goals (apply key; simp only [partOk, hall, Bool.true_and])
      all_goals simp_all
      all_goals omega
end Go.AL.Path

/- Path: the document's numbers and parts. -/
set_option linter.unusedSimpArgs false
set_option linter.unusedVariables false
set_option maxRecDepth 100000
namespace Go.AL.Path
open Go Go.RowKit Go.Proofs Go.AL
theorem itoa_small {n : Int} (h0 : 0 ≤ n) (h1 : n < 10) : Lib.itoa n = [UInt8.ofNat (48 + n).toNat] := by
  unfold Lib.itoa
  rw [if_neg (by omega), Lib.decDigits_one (by omega)]
  congr 2
  omega
theorem itoa_pos {n : Int} (h : 10 ≤ n) : Lib.itoa n = Lib.itoa (n.tdiv 10) ++ [UInt8.ofNat (48 + n.tmod 10).toNat] := by
  have e1 : n.tdiv 10 = ((n.toNat / 10 : Nat) : Int) := by rw [Int.tdiv_eq_ediv_of_nonneg (by omega)]; omega
  have e2 : n.tmod 10 = ((n.toNat % 10 : Nat) : Int) := by rw [Int.tmod_eq_emod_of_nonneg (by omega)]; omega
  rw [e1, e2]
  unfold Lib.itoa
  rw [if_neg (by omega), if_neg (by omega)]
  conv => lhs; rw [Lib.decDigits, dif_neg (by omega)]
  congr 3
theorem itoa_length (n : Int) (h : In64 n) : (Lib.itoa n).length ≤ 100 := by
  have hd : ∀ k u : Nat, u < 10 ^ (k + 1) → (Lib.decDigits u).length ≤ k + 1 := by
    intro k
    induction k with
    | zero => intro u hu; rw [Lib.decDigits_one (by simpa using hu)]; simp
    | succ k ih =>
      intro u hu
      rw [Lib.decDigits]
      split
      · simp
      · have := ih (u / 10) (by rw [Nat.div_lt_iff_lt_mul (by decide)]; rw [← Nat.pow_succ]; exact hu)
        simp; omega
  obtain ⟨h1, h2⟩ := h
  unfold Lib.itoa
  split
  · have := hd 19 n.natAbs (by have : (10:Nat)^(19+1) = 100000000000000000000 := by decide
                               omega)
    simp; omega
  · have := hd 19 n.toNat (by have : (10:Nat)^(19+1) = 100000000000000000000 := by decide
                              omega)
    omega
/-- The text of parts, of which a beginning has been read. -/
def goParts : List UInt8 → List UInt8 → Bool
  | cur, [] => partOk cur
  | cur, c :: r => if c = 47 then partOk cur && goParts [] r else goParts (cur ++ [c]) r
def partsOk (s : List UInt8) : Bool := goParts [] s
theorem goParts_sep {s : List UInt8} {f i : Nat} (hi : i < s.length) (h : s[i]? = some 47) : goParts ((s.take i).drop f) (s.drop i) = (partOk ((s.take i).drop f) && goParts ((s.take (i + 1)).drop (i + 1)) (s.drop (i + 1))) := by
  rw [List.getElem?_eq_getElem hi] at h
  rw [List.drop_eq_getElem_cons hi, goParts, if_pos (Option.some.inj h), show (s.take (i + 1)).drop (i + 1) = [] from List.drop_eq_nil_of_le (by simp; omega)]
theorem goParts_go {s : List UInt8} {f i : Nat} (hf : f ≤ i) (hi : i < s.length) (h : ¬ s[i]? = some 47) : goParts ((s.take i).drop f) (s.drop i) = goParts ((s.take (i + 1)).drop f) (s.drop (i + 1)) := by
  rw [List.getElem?_eq_getElem hi] at h
  rw [List.drop_eq_getElem_cons hi, goParts, if_neg (fun e => h (by rw [e]))]
  rw [List.take_add_one, List.getElem?_eq_getElem hi, Option.toList_some, List.drop_append_of_le_length (by simp; omega)]
theorem goParts_end {s : List UInt8} {f : Nat} : goParts ((s.take s.length).drop f) (s.drop s.length) = partOk ((s.take s.length).drop f) := by
  rw [List.drop_length, goParts]
def c68 : ACode := (.seq (.reg false 0 [⟨(.some 2), none, (.q .mv), [(.c (.imm (.bool false)))]⟩]) (.seq (.reg false 0 [⟨(.some 3), none, (.q .mv), [(.c (.imm (.int .i64 0)))]⟩]) (.seq (.seq (.reg false 0 [⟨(.some 4), none, (.q .mv), [(.c (.imm (.int .i64 0)))]⟩]) (.block 0 (.loop (.seq (.seq (.reg false 0 [⟨(.some 5), none, (.q .mv), [(.t 4)]⟩, ⟨(.some 6), none, (.q .mv), [(.t 0)]⟩, ⟨(.some 7), none, (.q .lenS), [(.t 6)]⟩, ⟨(.some 8), none, (.q (.bin .leq 3)), [(.t 5), (.t 7)]⟩]) (.cond (.t 8) .skip (.exit 0))) (.seq (.block 1 (.seq (.reg false 0 [⟨(.some 11), none, (.q .mv), [(.t 4)]⟩, ⟨(.some 12), none, (.q .mv), [(.t 0)]⟩, ⟨(.some 13), none, (.q .lenS), [(.t 12)]⟩, ⟨(.some 14), none, (.q (.bin .eql 3)), [(.t 11), (.t 13)]⟩, ⟨(.some 15), none, (.q .mv), [(.t 14)]⟩, ⟨(.some 16), (.some (15, false)), (.q .mv), [(.t 0)]⟩, ⟨(.some 17), (.some (15, false)), (.q .mv), [(.t 4)]⟩, ⟨(.some 18), (.some (15, false)), (.q .idxS), [(.t 16), (.t 17)]⟩, ⟨(.some 19), (.some (15, false)), (.q (.bin .eql 5)), [(.t 18), (.c (.imm (.int .u8 47)))]⟩, ⟨(.some 20), none, (.q .pick), [(.t 15), (.c (.imm (.bool true))), (.t 19)]⟩]) (.cond (.t 20) (.seq (.seq (.reg false 0 [⟨(.some 21), none, (.q .mv), [(.t 0)]⟩, ⟨(.some 22), none, (.q .mv), [(.t 3)]⟩, ⟨(.some 23), none, (.q .mv), [(.t 4)]⟩, ⟨(.some 24), none, (.q (.sliceS true true)), [(.t 21), (.t 22), (.t 23)]⟩, ⟨(.some 25), none, (.call true), [(.c (.fn (.func 84) [] [])), (.t 24)]⟩, ⟨(.some 26), none, (.q (.un .not)), [(.t 25)]⟩]) (.cond (.t 26) (.seq (.reg false 0 [⟨(.some 2), none, (.q .mv), [(.c (.imm (.bool false)))]⟩]) .ret) .skip)) (.reg false 0 [⟨(.some 27), none, (.q .mv), [(.t 4)]⟩, ⟨(.some 28), none, (.q (.bin .add 3)), [(.t 27), (.c (.imm (.int .i64 1)))]⟩, ⟨(.some 3), none, (.q .mv), [(.t 28)]⟩])) .skip))) (.reg false 0 [⟨(.some 9), none, (.q .mv), [(.t 4)]⟩, ⟨(.some 10), none, (.q (.bin .add 3)), [(.t 9), (.c (.imm (.int .i64 1)))]⟩, ⟨(.some 4), none, (.q .mv), [(.t 10)]⟩])))))) (.seq (.reg false 0 [⟨(.some 2), none, (.q .mv), [(.c (.imm (.bool true)))]⟩]) .ret))))
theorem fn68 : IsFn Tryz.prog 68 [] c68 [2] 29 := ⟨_, _, Tryz.func68, rfl, by decide +kernel, by kernel_rfl, rfl, rfl⟩
theorem p68 (s : List UInt8) (hs : s.length ≤ 1099511627776) : Pure Tryz.prog G 68 [T s] (bool (partsOk s)) := by
  refine pure_of_code' (S := sp [(84, txt1b (fun l => l.length ≤ 1099511627776) partOk)] []) hm hG (sp_holds (.cons (told_txt1b p84) .nil) .nil) fn68 ([T s, .junk, .junk, .junk, .junk, .junk, .junk, .junk, .junk, .junk, .junk, .junk, .junk, .junk, .junk, .junk, .junk, .junk, .junk, .junk, .junk, .junk, .junk, .junk, .junk, .junk, .junk, .junk, .junk]) rfl (by simp [lows, AV.low]) (by simp [AV.low]) ?_
  simp (maxSteps := 2000000) -implicitDefEqProofs only [c68, ↓RP0, ↓RP1, ↓RP2, ↓RP3, RV, RW, ↓reduceIte, Nat.reduceAdd, Nat.reduceSub, Nat.reduceMul, Nat.reduceLeDiff, Nat.reduceEqDiff, Int.reduceLT, Int.reduceLE, Int.reduceEq, Int.reduceNe, Int.reduceAdd, Int.reduceSub, Int.reduceMul, Int.reduceNeg, Int.reduceToNat, reduceCtorEq]
  refine loopB (X := Nat × Nat) (st := fun x => [T s, .junk, .junk, i64 x.1, i64 x.2, .junk, .junk, .junk, .junk, .junk, .junk, .junk, .junk, .junk, .junk, .junk, .junk, .junk, .junk, .junk, .junk, .junk, .junk, .junk, .junk, .junk, .junk, .junk, .junk])
    (hp := fun _ => []) (I := fun x => x.2 ≤ s.length + 1 ∧ (x.2 ≤ s.length → x.1 ≤ x.2 ∧ partsOk s = goParts ((s.take x.2).drop x.1) (s.drop x.2)) ∧ (x.2 = s.length + 1 → partsOk s = true)) (m := fun x => s.length + 1 - x.2) (0, 0) ⟨Nat.zero_le _, fun _ => ⟨Nat.le_refl _, rfl⟩, fun h => by dsimp only at h; omega⟩ ?_ ?_
  · refine weak_nil ?_; simp [WeakL, AV.low, lows]
  · rintro ⟨f, i⟩ ⟨hi, h1, h2⟩
    dsimp only at hi h1 h2
    simp (maxSteps := 2000000) -implicitDefEqProofs only [↓RP0, ↓RP1, ↓RP2, ↓RP3, RV, RW, ↓reduceIte, Nat.reduceAdd, Nat.reduceSub, Nat.reduceMul, Nat.reduceLeDiff, Nat.reduceEqDiff, Int.reduceLT, Int.reduceLE, Int.reduceEq, Int.reduceNe, Int.reduceAdd, Int.reduceSub, Int.reduceMul, Int.reduceNeg, Int.reduceToNat, reduceCtorEq]
    have hp : ((s.take i).drop f).length ≤ 1099511627776 := by simp; omega
    refine ⟨fun h => ⟨fun he => ?_, fun he => ⟨by omega, fun hb => ?_, fun hb => ?_⟩⟩, fun h => ?_⟩
    · obtain rfl : i = s.length := by omega
      obtain ⟨hf, hg⟩ := h1 (Nat.le_refl _)
      rw [goParts_end] at hg
      refine ⟨by omega, by omega, hp, fun ho => ⟨⟨by omega, by omega⟩, ⟨by omega, by omega⟩, (s.length + 1, s.length + 1), by dsimp only; omega, ⟨by dsimp only; omega, fun h => by dsimp only at h; omega, fun _ => hg.trans ho⟩, ?_⟩, fun ho => by rw [hg, ho]⟩
      refine weak_nil ?_; simp [WeakL, AV.low, lows]
    · obtain ⟨hf, hg⟩ := h1 (by omega)
      rw [goParts_sep (by omega) ((at'_eq (by omega) 47).1 hb)] at hg
      refine ⟨by omega, by omega, hp, fun ho => ⟨⟨by omega, by omega⟩, ⟨by omega, by omega⟩, (i + 1, i + 1), by dsimp only; omega, ⟨by dsimp only; omega, fun _ => ⟨Nat.le_refl _, by rw [hg, ho]; rfl⟩, fun h => by dsimp only at h; omega⟩, ?_⟩, fun ho => by rw [hg, ho]; rfl⟩
      refine weak_nil ?_; simp [WeakL, AV.low, lows]
    · obtain ⟨hf, hg⟩ := h1 (by omega)
      rw [goParts_go hf (by omega) fun e => hb (((at'_eq (by omega) 47).2 e).trans rfl)] at hg
      refine ⟨⟨by omega, by omega⟩, (f, i + 1), by dsimp only; omega, ⟨by dsimp only; omega, fun _ => ⟨by dsimp only; omega, hg⟩, fun h => by dsimp only at h; omega⟩, ?_⟩
      refine weak_nil ?_; simp [WeakL, AV.low, lows]
    · rw [h2 (by omega)]
/-- A path's two fields. -/
def splitP (s : List UInt8) : Option (List UInt8 × List UInt8) :=
  if partsOk s = false ∨ 254 < s.length then none
  else if s.length ≤ 100 then some ([], s)
  else
    let n := Lib.indexByte (s.drop (s.length - 101)) 47
    if n < 0 ∨ ((s.length - 101 : Nat) : Int) + n > 155 then none
    else some (s.take (s.length - 101 + n.toNat), s.drop (s.length - 101 + n.toNat + 1))
def splitV (s : List UInt8) : AV :=
  match splitP s with
  | some (a, b) => .tup [T a, T b, i64 0]
  | none => .tup [T [], T [], i64 9]
def mayP (s : List UInt8) : Bool := (splitP s).isSome
def longest : List UInt8 := [126] ++ Lib.itoa 31 ++ [45] ++ Lib.itoa 1099511627776
def ownP (s : List UInt8) : Bool := !s.contains 126 && mayP s && decide (s.length ≤ 200) && mayP (s ++ longest)
def copyP (s : List UInt8) (r q : Int) : List UInt8 := s ++ [126] ++ Lib.itoa r ++ [45] ++ Lib.itoa q
end Go.AL.Path

/- Path: the document's paths, and copies. -/
set_option linter.unusedSimpArgs false
set_option linter.unusedVariables false
set_option maxRecDepth 100000
namespace Go.AL.Path
open Go Go.RowKit Go.Proofs Go.AL
theorem indexByte_of {l : List UInt8} {c : UInt8} {k : Nat} (h : l[k]? = some c) (hn : ∀ j, j < k → l[j]? ≠ some c) : Lib.indexByte l c = k := by
  have h1 := Lib.indexByte_ge l c
  rcases (by omega : Lib.indexByte l c = -1 ∨ 0 ≤ Lib.indexByte l c) with h2 | h2
  · exact absurd h (Lib.indexByte_none h2 k)
  · obtain ⟨o, ho⟩ := Int.eq_ofNat_of_zero_le h2
    obtain ⟨h3, h4⟩ := Lib.indexByte_some ho
    rcases Nat.lt_trichotomy o k with h5 | h5 | h5
    · exact absurd h3 (hn o h5)
    · rw [ho, h5]
    · exact absurd h (h4 k h5)
theorem indexByte_not {l : List UInt8} {c : UInt8} (hn : ∀ j : Nat, l[j]? ≠ some c) : Lib.indexByte l c = -1 := by
  have h1 := Lib.indexByte_ge l c
  rcases (by omega : Lib.indexByte l c = -1 ∨ 0 ≤ Lib.indexByte l c) with h2 | h2
  · exact h2
  · obtain ⟨o, ho⟩ := Int.eq_ofNat_of_zero_le h2
    exact absurd (Lib.indexByte_some ho).1 (hn o)
theorem splitV_low (s : List UInt8) : (splitV s).low 0 := by unfold splitV; split <;> simp [AV.low, lows]
/-- A call of Split; of Join. -/
def splitSp : PSp := fun args K => match args with
  | [.imm (.string a)] => a.data.toList.length ≤ 1099511627776 ∧ (∀ x y, splitP a.data.toList = some (x, y) → K (.tup [T x, T y, i64 0])) ∧ (splitP a.data.toList = none → K (.tup [T [], T [], i64 9]))
  | _ => False
theorem ask_split {l : List UInt8} {K} : ask splitSp [T l] K = (l.length ≤ 1099511627776 ∧ (∀ x y, splitP l = some (x, y) → K (.tup [T x, T y, i64 0])) ∧ (splitP l = none → K (.tup [T [], T [], i64 9]))) := rfl
theorem told_split {F} (h : ∀ l : List UInt8, l.length ≤ 1099511627776 → Pure Tryz.prog G F [T l] (splitV l)) : Told Tryz.prog G F splitSp := by
  intro args K hk
  unfold splitSp at hk
  split at hk
  · rename_i a
    refine ⟨_, h _ hk.1, ?_⟩
    unfold splitV
    split
    · exact hk.2.1 _ _ (by assumption)
    · exact hk.2.2 (by assumption)
  · exact hk.elim
def c53 : ACode := (.seq (.reg false 0 [⟨(.some 2), none, (.q .mv), [(.c (.imm (.string (B []))))]⟩, ⟨(.some 3), none, (.q .mv), [(.c (.imm (.string (B []))))]⟩, ⟨(.some 4), none, (.q .mv), [(.c (.imm (.int .i64 0)))]⟩]) (.seq (.seq (.reg false 0 [⟨(.some 6), none, (.q .mv), [(.t 0)]⟩, ⟨(.some 7), none, (.call true), [(.c (.fn (.func 68) [] [])), (.t 6)]⟩, ⟨(.some 8), none, (.q (.un .not)), [(.t 7)]⟩, ⟨(.some 9), none, (.q .mv), [(.t 8)]⟩, ⟨(.some 10), (.some (9, false)), (.q .mv), [(.t 0)]⟩, ⟨(.some 11), (.some (9, false)), (.q .lenS), [(.t 10)]⟩, ⟨(.some 12), (.some (9, false)), (.q (.bin .gtr 3)), [(.t 11), (.c (.imm (.int .i64 254)))]⟩, ⟨(.some 13), none, (.q .pick), [(.t 9), (.c (.imm (.bool true))), (.t 12)]⟩]) (.cond (.t 13) (.seq (.reg false 0 [⟨(.some 2), none, (.q .mv), [(.c (.imm (.string (B []))))]⟩, ⟨(.some 3), none, (.q .mv), [(.c (.imm (.string (B []))))]⟩, ⟨(.some 4), none, (.q .mv), [(.c (.imm (.int .i64 9)))]⟩]) .ret) .skip)) (.seq (.seq (.reg false 0 [⟨(.some 14), none, (.q .mv), [(.t 0)]⟩, ⟨(.some 15), none, (.q .lenS), [(.t 14)]⟩, ⟨(.some 16), none, (.q (.bin .leq 3)), [(.t 15), (.c (.imm (.int .i64 100)))]⟩]) (.cond (.t 16) (.seq (.reg false 0 [⟨(.some 17), none, (.q .mv), [(.t 0)]⟩, ⟨(.some 2), none, (.q .mv), [(.c (.imm (.string (B []))))]⟩, ⟨(.some 3), none, (.q .mv), [(.t 17)]⟩, ⟨(.some 4), none, (.q .mv), [(.c (.imm (.int .i64 0)))]⟩]) .ret) .skip)) (.seq (.seq (.reg false 0 [⟨(.some 5), none, (.q .mv), [(.c (.imm (.int .i64 0)))]⟩]) (.block 0 (.loop (.seq (.seq (.reg false 0 [⟨(.some 18), none, (.q .mv), [(.t 5)]⟩, ⟨(.some 19), none, (.q .mv), [(.t 0)]⟩, ⟨(.some 20), none, (.q .lenS), [(.t 19)]⟩, ⟨(.some 21), none, (.q (.bin .lss 3)), [(.t 18), (.t 20)]⟩]) (.cond (.t 21) .skip (.exit 0))) (.seq (.block 1 (.seq (.reg false 0 [⟨(.some 24), none, (.q .mv), [(.t 0)]⟩, ⟨(.some 25), none, (.q .mv), [(.t 5)]⟩, ⟨(.some 26), none, (.q .idxS), [(.t 24), (.t 25)]⟩, ⟨(.some 27), none, (.q (.bin .eql 5)), [(.t 26), (.c (.imm (.int .u8 47)))]⟩, ⟨(.some 28), none, (.q .mv), [(.t 27)]⟩, ⟨(.some 29), (.some (28, true)), (.q .mv), [(.t 0)]⟩, ⟨(.some 30), (.some (28, true)), (.q .lenS), [(.t 29)]⟩, ⟨(.some 31), (.some (28, true)), (.q .mv), [(.t 5)]⟩, ⟨(.some 32), (.some (28, true)), (.q (.bin .sub 3)), [(.t 30), (.t 31)]⟩, ⟨(.some 33), (.some (28, true)), (.q (.bin .sub 3)), [(.t 32), (.c (.imm (.int .i64 1)))]⟩, ⟨(.some 34), (.some (28, true)), (.q (.bin .leq 3)), [(.t 33), (.c (.imm (.int .i64 100)))]⟩, ⟨(.some 35), none, (.q .pick), [(.t 28), (.t 34), (.c (.imm (.bool false)))]⟩]) (.cond (.t 35) (.seq (.seq (.reg false 0 [⟨(.some 36), none, (.q .mv), [(.t 5)]⟩, ⟨(.some 37), none, (.q (.bin .gtr 3)), [(.t 36), (.c (.imm (.int .i64 155)))]⟩]) (.cond (.t 37) (.seq (.reg false 0 [⟨(.some 2), none, (.q .mv), [(.c (.imm (.string (B []))))]⟩, ⟨(.some 3), none, (.q .mv), [(.c (.imm (.string (B []))))]⟩, ⟨(.some 4), none, (.q .mv), [(.c (.imm (.int .i64 9)))]⟩]) .ret) .skip)) (.seq (.reg true 0 [⟨(.some 38), none, (.q .mv), [(.t 0)]⟩, ⟨(.some 39), none, (.q .mv), [(.t 5)]⟩, ⟨(.some 40), none, (.q (.sliceS false true)), [(.t 38), (.t 39)]⟩, ⟨(.some 41), none, (.q .mv), [(.t 0)]⟩, ⟨(.some 42), none, (.q .mv), [(.t 5)]⟩, ⟨(.some 43), none, (.q (.bin .add 3)), [(.t 42), (.c (.imm (.int .i64 1)))]⟩, ⟨(.some 44), none, (.q (.sliceS true false)), [(.t 41), (.t 43)]⟩, ⟨(.some 2), none, (.q .mv), [(.t 40)]⟩, ⟨(.some 3), none, (.q .mv), [(.t 44)]⟩, ⟨(.some 4), none, (.q .mv), [(.c (.imm (.int .i64 0)))]⟩]) .ret)) .skip))) (.reg false 0 [⟨(.some 22), none, (.q .mv), [(.t 5)]⟩, ⟨(.some 23), none, (.q (.bin .add 3)), [(.t 22), (.c (.imm (.int .i64 1)))]⟩, ⟨(.some 5), none, (.q .mv), [(.t 23)]⟩])))))) (.seq (.reg false 0 [⟨(.some 2), none, (.q .mv), [(.c (.imm (.string (B []))))]⟩, ⟨(.some 3), none, (.q .mv), [(.c (.imm (.string (B []))))]⟩, ⟨(.some 4), none, (.q .mv), [(.c (.imm (.int .i64 9)))]⟩]) .ret)))))
theorem fn53 : IsFn Tryz.prog 53 [] c53 [2, 3, 4] 45 := ⟨_, _, Tryz.func53, rfl, by decide +kernel, by kernel_rfl, rfl, rfl⟩
theorem p53 (s : List UInt8) (hs : s.length ≤ 1099511627776) : Pure Tryz.prog G 53 [T s] (splitV s) := by
  refine pure_of_code' (S := sp [(68, txt1b (fun l => l.length ≤ 1099511627776) partsOk)] []) hm hG (sp_holds (.cons (told_txt1b p68) .nil) .nil) fn53 ([T s, .junk, .junk, .junk, .junk, .junk, .junk, .junk, .junk, .junk, .junk, .junk, .junk, .junk, .junk, .junk, .junk, .junk, .junk, .junk, .junk, .junk, .junk, .junk, .junk, .junk, .junk, .junk, .junk, .junk, .junk, .junk, .junk, .junk, .junk, .junk, .junk, .junk, .junk, .junk, .junk, .junk, .junk, .junk, .junk]) rfl (by simp [lows, AV.low]) (splitV_low s) ?_
  simp (maxSteps := 2000000) -implicitDefEqProofs only [c53, ↓RP0, ↓RP1, ↓RP2, ↓RP3, RV, RW, ↓reduceIte, Nat.reduceAdd, Nat.reduceSub, Nat.reduceMul, Nat.reduceLeDiff, Nat.reduceEqDiff, Int.reduceLT, Int.reduceLE, Int.reduceEq, Int.reduceNe, Int.reduceAdd, Int.reduceSub, Int.reduceMul, Int.reduceNeg, Int.reduceToNat, reduceCtorEq]
  have key : ∀ x y, splitP s = some (x, y) → AV.tup [T x, T y, i64 0] = splitV s := by intro x y h; unfold splitV; rw [h]
  have keyn : splitP s = none → AV.tup [T [], T [], i64 9] = splitV s := by intro h; unfold splitV; rw [h]
  refine ⟨hs, fun hp => ⟨fun h => ?_, fun h => ⟨fun h1 => ?_, fun h1 => ?_⟩⟩, fun hp => ?_⟩
  · exact keyn (by unfold splitP; rw [if_pos (.inr (by omega))])
  · exact key _ _ (by unfold splitP; rw [if_neg (by simp [hp]; omega), if_pos (by omega)])
  · have hsp : splitP s = (let n := Lib.indexByte (s.drop (s.length - 101)) 47
        if n < 0 ∨ ((s.length - 101 : Nat) : Int) + n > 155 then none else some (s.take (s.length - 101 + n.toNat), s.drop (s.length - 101 + n.toNat + 1))) := by
      unfold splitP; rw [if_neg (by simp [hp]; omega), if_neg (by omega)]
    refine loopB (st := fun (i : Nat) => [T s, .junk, T [], T [], i64 0, i64 i, .junk, .junk, .junk, .junk, .junk, .junk, .junk, .junk, .junk, .junk, .junk, .junk, .junk, .junk, .junk, .junk, .junk, .junk, .junk, .junk, .junk, .junk, .junk, .junk, .junk, .junk, .junk, .junk, .junk, .junk, .junk, .junk, .junk, .junk, .junk, .junk, .junk, .junk, .junk])
      (hp := fun _ => []) (I := fun i => i ≤ s.length ∧ ∀ j, j < i → s[j]? = some 47 → ¬ s.length - j - 1 ≤ 100) (m := fun i => s.length - i) (0 : Nat) ⟨Nat.zero_le _, fun j h => absurd h (Nat.not_lt_zero j)⟩ ?_ ?_
    · refine weak_nil ?_; simp [WeakL, AV.low, lows]
    · rintro i ⟨hi, he⟩
      simp (maxSteps := 2000000) -implicitDefEqProofs only [↓RP0, ↓RP1, ↓RP2, ↓RP3, RV, RW, ↓reduceIte, Nat.reduceAdd, Nat.reduceSub, Nat.reduceMul, Nat.reduceLeDiff, Nat.reduceEqDiff, Int.reduceLT, Int.reduceLE, Int.reduceEq, Int.reduceNe, Int.reduceAdd, Int.reduceSub, Int.reduceMul, Int.reduceNeg, Int.reduceToNat, reduceCtorEq]
      have next : ∀ ts, (¬ (s[i]? = some 47 ∧ s.length - i - 1 ≤ 100)) → i < s.length → WeakL 0 ts [T s, .junk, T [], T [], i64 0, i64 ((i + 1 : Nat) : Int), .junk, .junk, .junk, .junk, .junk, .junk, .junk, .junk, .junk, .junk, .junk, .junk, .junk, .junk, .junk, .junk, .junk, .junk, .junk, .junk, .junk, .junk, .junk, .junk, .junk, .junk, .junk, .junk, .junk, .junk, .junk, .junk, .junk, .junk, .junk, .junk, .junk, .junk, .junk] →
          Again 0 (fun (i : Nat) => [T s, .junk, T [], T [], i64 0, i64 i, .junk, .junk, .junk, .junk, .junk, .junk, .junk, .junk, .junk, .junk, .junk, .junk, .junk, .junk, .junk, .junk, .junk, .junk, .junk, .junk, .junk, .junk, .junk, .junk, .junk, .junk, .junk, .junk, .junk, .junk, .junk, .junk, .junk, .junk, .junk, .junk, .junk, .junk, .junk])
            (fun _ => []) (fun i => i ≤ s.length ∧ ∀ j, j < i → s[j]? = some 47 → ¬ s.length - j - 1 ≤ 100) (fun i => s.length - i) i ts [] := by
        intro ts h1 h2 hw
        refine ⟨i + 1, by dsimp only; omega, ⟨by omega, fun j hj hs => ?_⟩, weak_nil hw⟩
        by_cases e : j = i
        · subst e; exact fun h => h1 ⟨hs, h⟩
        · exact he j (by omega) hs
      refine ⟨fun hlt => ⟨hlt, fun hb => ⟨⟨by omega, by omega⟩, ⟨by omega, by omega⟩, fun hc => ⟨fun hd => ?_, fun hd => ?_⟩, fun hc => ⟨⟨by omega, by omega⟩, ?_⟩⟩, fun hb => ⟨⟨by omega, by omega⟩, ?_⟩⟩, fun hge => ?_⟩
      · have hk : Lib.indexByte (s.drop (s.length - 101)) 47 = ((i - (s.length - 101) : Nat) : Int) := by
          refine indexByte_of ?_ fun j hj hcj => ?_
          · rw [List.getElem?_drop]
            rw [show s.length - 101 + (i - (s.length - 101)) = i by omega]
            exact (at'_eq (by omega) 47).1 hb
          · rw [List.getElem?_drop] at hcj
            exact he _ (by omega) hcj (by omega)
        exact keyn (by rw [hsp, hk]; dsimp only; rw [if_pos (by omega)])
      · have hk : Lib.indexByte (s.drop (s.length - 101)) 47 = ((i - (s.length - 101) : Nat) : Int) := by
          refine indexByte_of ?_ fun j hj hcj => ?_
          · rw [List.getElem?_drop]
            rw [show s.length - 101 + (i - (s.length - 101)) = i by omega]
            exact (at'_eq (by omega) 47).1 hb
          · rw [List.getElem?_drop] at hcj
            exact he _ (by omega) hcj (by omega)
        refine ⟨by omega, ⟨by omega, by omega⟩, by omega, by omega, ?_⟩
        have e1 : s.length - 101 + (i - (s.length - 101)) = i := by omega
        have := key (s.take i) (s.drop (i + 1)) (by rw [hsp, hk]; dsimp only; rw [if_neg (by omega), Int.toNat_natCast, e1])
        rw [← this]
        have e2 : ((i : Int) + 1).toNat = i + 1 := by omega
        rw [e2, List.take_length]
      · exact next _ (fun h => by omega) (by omega) (by simp [WeakL, AV.low, lows])
      · exact next _ (fun h => hb (((at'_eq (by omega) 47).2 h.1).trans rfl)) (by omega) (by simp [WeakL, AV.low, lows])
      · have hk : Lib.indexByte (s.drop (s.length - 101)) 47 = -1 := by
          refine indexByte_not fun j hj => ?_
          rw [List.getElem?_drop] at hj
          have hl : s.length - 101 + j < s.length := by
            rcases Nat.lt_or_ge (s.length - 101 + j) s.length with h | h
            · exact h
            · rw [List.getElem?_eq_none h] at hj; cases hj
          exact he _ (by omega) hj (by omega)
        exact keyn (by rw [hsp, hk]; dsimp only; rw [if_pos (by omega)])
  · exact keyn (by unfold splitP; rw [if_pos (.inl hp)])
def c32 : ACode := (.seq (.reg false 0 [⟨(.some 2), none, (.q .mv), [(.c (.imm (.bool false)))]⟩]) (.seq (.reg false 0 [⟨(.some 7), none, (.q .mv), [(.t 0)]⟩, ⟨(.some 8), none, (.call true), [(.c (.fn (.func 53) [] [])), (.t 7)]⟩, ⟨(.some 6), none, (.q .mv), [(.t 8)]⟩, ⟨(.some 9), none, (.q (.ext 0)), [(.t 6)]⟩, ⟨(.some 10), none, (.q (.ext 1)), [(.t 6)]⟩, ⟨(.some 11), none, (.q (.ext 2)), [(.t 6)]⟩, ⟨(.some 3), none, (.q .mv), [(.t 9)]⟩, ⟨(.some 4), none, (.q .mv), [(.t 10)]⟩, ⟨(.some 5), none, (.q .mv), [(.t 11)]⟩]) (.seq (.reg false 0 [⟨(.some 12), none, (.q .mv), [(.t 5)]⟩, ⟨(.some 13), none, (.q (.bin .eql 3)), [(.t 12), (.c (.imm (.int .i64 0)))]⟩, ⟨(.some 2), none, (.q .mv), [(.t 13)]⟩]) .ret)))
theorem fn32 : IsFn Tryz.prog 32 [] c32 [2] 14 := ⟨_, _, Tryz.func32, rfl, by decide +kernel, by kernel_rfl, rfl, rfl⟩
theorem p32 (s : List UInt8) (hs : s.length ≤ 1099511627776) : Pure Tryz.prog G 32 [T s] (bool (mayP s)) := by
  refine pure_of_code' (S := sp [(53, splitSp)] []) hm hG (sp_holds (.cons (told_split p53) .nil) .nil) fn32 ([T s, .junk, .junk, .junk, .junk, .junk, .junk, .junk, .junk, .junk, .junk, .junk, .junk, .junk]) rfl (by simp [lows, AV.low]) (by simp [AV.low]) ?_
  simp (maxSteps := 2000000) -implicitDefEqProofs only [c32, ↓RP0, ↓RP1, ↓RP2, ↓RP3, RV, RW, ↓reduceIte, Nat.reduceAdd, Nat.reduceSub, Nat.reduceMul, Nat.reduceLeDiff, Nat.reduceEqDiff, Int.reduceLT, Int.reduceLE, Int.reduceEq, Int.reduceNe, Int.reduceAdd, Int.reduceSub, Int.reduceMul, Int.reduceNeg, Int.reduceToNat, reduceCtorEq, ↓ask_split]
  refine ⟨hs, fun x y h => ?_, fun h => ?_⟩ <;> simp [mayP, h]
theorem itoa31 : Lib.itoa 31 = [51, 49] := by
  rw [itoa_pos (by decide), show (31 : Int).tdiv 10 = 3 by decide, itoa_small (by decide) (by decide)]; decide
theorem itoa_two {n : Int} {l : List UInt8} (h : 10 ≤ n) (hl : Lib.itoa (n.tdiv 10) = l) : Lib.itoa n = l ++ [UInt8.ofNat (48 + n.tmod 10).toNat] := by rw [itoa_pos h, hl]
theorem itoaBig : Lib.itoa 1099511627776 = [49, 48, 57, 57, 53, 49, 49, 54, 50, 55, 55, 55, 54] := by
  have h0 : Lib.itoa 1 = [49] := by rw [itoa_small (by decide) (by decide)]; decide
  have h1 : Lib.itoa 10 = [49, 48] := itoa_two (n := 10) (by decide) h0
  have h2 : Lib.itoa 109 = [49, 48, 57] := itoa_two (n := 109) (by decide) h1
  have h3 : Lib.itoa 1099 = [49, 48, 57, 57] := itoa_two (n := 1099) (by decide) h2
  have h4 : Lib.itoa 10995 = [49, 48, 57, 57, 53] := itoa_two (n := 10995) (by decide) h3
  have h5 : Lib.itoa 109951 = [49, 48, 57, 57, 53, 49] := itoa_two (n := 109951) (by decide) h4
  have h6 : Lib.itoa 1099511 = [49, 48, 57, 57, 53, 49, 49] := itoa_two (n := 1099511) (by decide) h5
  have h7 : Lib.itoa 10995116 = [49, 48, 57, 57, 53, 49, 49, 54] := itoa_two (n := 10995116) (by decide) h6
  have h8 : Lib.itoa 109951162 = [49, 48, 57, 57, 53, 49, 49, 54, 50] := itoa_two (n := 109951162) (by decide) h7
  have h9 : Lib.itoa 1099511627 = [49, 48, 57, 57, 53, 49, 49, 54, 50, 55] := itoa_two (n := 1099511627) (by decide) h8
  have h10 : Lib.itoa 10995116277 = [49, 48, 57, 57, 53, 49, 49, 54, 50, 55, 55] := itoa_two (n := 10995116277) (by decide) h9
  have h11 : Lib.itoa 109951162777 = [49, 48, 57, 57, 53, 49, 49, 54, 50, 55, 55, 55] := itoa_two (n := 109951162777) (by decide) h10
  exact itoa_two (n := 1099511627776) (by decide) h11
theorem longest_eq : longest = [126, 51, 49, 45, 49, 48, 57, 57, 53, 49, 49, 54, 50, 55, 55, 55, 54] := by unfold longest; rw [itoa31, itoaBig]; rfl
def c12 : ACode := (.seq (.reg false 0 [⟨(.some 2), none, (.q .mv), [(.c (.imm (.bool false)))]⟩]) (.seq (.seq (.reg false 0 [⟨(.some 3), none, (.q .mv), [(.c (.imm (.int .i64 0)))]⟩]) (.block 0 (.loop (.seq (.seq (.reg false 0 [⟨(.some 4), none, (.q .mv), [(.t 3)]⟩, ⟨(.some 5), none, (.q .mv), [(.t 0)]⟩, ⟨(.some 6), none, (.q .lenS), [(.t 5)]⟩, ⟨(.some 7), none, (.q (.bin .lss 3)), [(.t 4), (.t 6)]⟩]) (.cond (.t 7) .skip (.exit 0))) (.seq (.block 1 (.seq (.reg false 0 [⟨(.some 10), none, (.q .mv), [(.t 0)]⟩, ⟨(.some 11), none, (.q .mv), [(.t 3)]⟩, ⟨(.some 12), none, (.q .idxS), [(.t 10), (.t 11)]⟩, ⟨(.some 13), none, (.q (.bin .eql 5)), [(.t 12), (.c (.imm (.int .u8 126)))]⟩]) (.cond (.t 13) (.seq (.reg false 0 [⟨(.some 2), none, (.q .mv), [(.c (.imm (.bool false)))]⟩]) .ret) .skip))) (.reg false 0 [⟨(.some 8), none, (.q .mv), [(.t 3)]⟩, ⟨(.some 9), none, (.q (.bin .add 3)), [(.t 8), (.c (.imm (.int .i64 1)))]⟩, ⟨(.some 3), none, (.q .mv), [(.t 9)]⟩])))))) (.seq (.reg false 0 [⟨(.some 14), none, (.q .mv), [(.t 0)]⟩, ⟨(.some 15), none, (.call true), [(.c (.fn (.func 32) [] [])), (.t 14)]⟩, ⟨(.some 16), none, (.q .mv), [(.t 15)]⟩, ⟨(.some 17), (.some (16, true)), (.q .mv), [(.t 0)]⟩, ⟨(.some 18), (.some (16, true)), (.q .lenS), [(.t 17)]⟩, ⟨(.some 19), (.some (16, true)), (.q (.bin .leq 3)), [(.t 18), (.c (.imm (.int .i64 200)))]⟩, ⟨(.some 20), none, (.q .pick), [(.t 16), (.t 19), (.c (.imm (.bool false)))]⟩, ⟨(.some 21), none, (.q .mv), [(.t 20)]⟩, ⟨(.some 22), (.some (21, true)), (.q .mv), [(.t 0)]⟩, ⟨(.some 23), (.some (21, true)), (.q (.bin .add 9)), [(.t 22), (.c (.imm (.string (B [126, 51, 49, 45, 49, 48, 57, 57, 53, 49, 49, 54, 50, 55, 55, 55, 54]))))]⟩, ⟨(.some 24), (.some (21, true)), (.call true), [(.c (.fn (.func 32) [] [])), (.t 23)]⟩, ⟨(.some 25), none, (.q .pick), [(.t 21), (.t 24), (.c (.imm (.bool false)))]⟩, ⟨(.some 2), none, (.q .mv), [(.t 25)]⟩]) .ret)))
theorem fn12 : IsFn Tryz.prog 12 [] c12 [2] 26 := ⟨_, _, Tryz.func12, rfl, by decide +kernel, by kernel_rfl, rfl, rfl⟩
theorem p12 (s : List UInt8) (hs : s.length ≤ 1099511627) : Pure Tryz.prog G 12 [T s] (bool (ownP s)) := by
  refine pure_of_code' (S := sp [(32, txt1b (fun l => l.length ≤ 1099511627776) mayP)] []) hm hG (sp_holds (.cons (told_txt1b p32) .nil) .nil) fn12 ([T s, .junk, .junk, .junk, .junk, .junk, .junk, .junk, .junk, .junk, .junk, .junk, .junk, .junk, .junk, .junk, .junk, .junk, .junk, .junk, .junk, .junk, .junk, .junk, .junk, .junk]) rfl (by simp [lows, AV.low]) (by simp [AV.low]) ?_
  simp (maxSteps := 2000000) -implicitDefEqProofs only [c12, ↓RP0, ↓RP1, ↓RP2, ↓RP3, RV, RW, ↓reduceIte, Nat.reduceAdd, Nat.reduceSub, Nat.reduceMul, Nat.reduceLeDiff, Nat.reduceEqDiff, Int.reduceLT, Int.reduceLE, Int.reduceEq, Int.reduceNe, Int.reduceAdd, Int.reduceSub, Int.reduceMul, Int.reduceNeg, Int.reduceToNat, reduceCtorEq]
  refine loopB (st := fun (i : Nat) => [T s, .junk, .junk, i64 i, .junk, .junk, .junk, .junk, .junk, .junk, .junk, .junk, .junk, .junk, .junk, .junk, .junk, .junk, .junk, .junk, .junk, .junk, .junk, .junk, .junk, .junk])
    (hp := fun _ => []) (I := fun i => i ≤ s.length ∧ ∀ j, j < i → s[j]? ≠ some 126) (m := fun i => s.length - i) (0 : Nat) ⟨Nat.zero_le _, fun j h => absurd h (Nat.not_lt_zero j)⟩ ?_ ?_
  · refine weak_nil ?_; simp [WeakL, AV.low, lows]
  · rintro i ⟨hi, he⟩
    simp (maxSteps := 2000000) -implicitDefEqProofs only [↓RP0, ↓RP1, ↓RP2, ↓RP3, RV, RW, ↓reduceIte, Nat.reduceAdd, Nat.reduceSub, Nat.reduceMul, Nat.reduceLeDiff, Nat.reduceEqDiff, Int.reduceLT, Int.reduceLE, Int.reduceEq, Int.reduceNe, Int.reduceAdd, Int.reduceSub, Int.reduceMul, Int.reduceNeg, Int.reduceToNat, reduceCtorEq]
    refine ⟨fun hlt => ⟨hlt, fun hb => ?_, fun hb => ?_⟩, fun hge => ?_⟩
    · have h1 := (at'_eq (by omega) 126).1 hb
      have : s.contains 126 = true := by rw [List.contains_iff_mem]; exact List.mem_of_getElem? h1
      simp only [ownP, this, Bool.not_true, Bool.false_and]
    · refine ⟨⟨by omega, by omega⟩, i + 1, by dsimp only; omega, ⟨by omega, fun j hj h => ?_⟩, ?_⟩
      · by_cases e : j = i
        · subst e; exact hb (((at'_eq (by omega) 126).2 h).trans rfl)
        · exact he j (by omega) h
      · refine weak_nil ?_; simp [WeakL, AV.low, lows]
    · have hc : s.contains 126 = false := by
        rw [Bool.eq_false_iff]
        intro h
        rw [List.contains_iff_mem] at h
        obtain ⟨j, hj, h⟩ := List.getElem_of_mem h
        exact he j (by omega) (by rw [List.getElem?_eq_getElem hj, h])
      refine ⟨by omega, fun hm1 => ⟨fun hl => ⟨by omega, by simp; omega, fun h2 => ?_, fun h2 => ?_⟩, fun hl => ?_⟩, fun hm1 => ?_⟩
      · rw [← longest_eq] at h2; simp only [ownP, hc, hm1, h2, Bool.not_false, Bool.true_and, Bool.and_true]; rw [decide_eq_true (by omega)]
      · rw [← longest_eq] at h2; simp only [ownP, h2, Bool.and_false]
      · simp only [ownP, decide_eq_false (show ¬ s.length ≤ 200 by omega), Bool.and_false, Bool.false_and]
      · simp only [ownP, hm1, Bool.and_false, Bool.false_and]
def c47 : ACode := (.seq (.reg false 1 [⟨(.some 3), none, (.m .box 0), [(.t 1)]⟩, ⟨(.some 4), none, (.q .mv), [(.c (.imm (.string (B []))))]⟩]) (.seq (.reg true 0 [⟨(.some 5), none, (.q .mv), [(.t 0)]⟩, ⟨(.some 6), none, (.q (.bin .add 9)), [(.t 5), (.c (.imm (.string (B [126]))))]⟩, ⟨(.some 7), none, (.q (.faddr 0)), [(.t 3)]⟩, ⟨(.some 8), none, (.l .load1), [(.t 7)]⟩, ⟨(.some 9), none, (.call false), [(.c (.fn (.func 59) [] [])), (.t 8)]⟩, ⟨(.some 10), none, (.q (.bin .add 9)), [(.t 6), (.t 9)]⟩, ⟨(.some 11), none, (.q (.bin .add 9)), [(.t 10), (.c (.imm (.string (B [45]))))]⟩, ⟨(.some 12), none, (.q (.faddr 1)), [(.t 3)]⟩, ⟨(.some 13), none, (.l .load1), [(.t 12)]⟩, ⟨(.some 14), none, (.call true), [(.c (.fn (.func 59) [] [])), (.t 13)]⟩, ⟨(.some 15), none, (.q (.bin .add 9)), [(.t 11), (.t 14)]⟩, ⟨(.some 4), none, (.q .mv), [(.t 15)]⟩]) .ret))
theorem fn47 : IsFn Tryz.prog 47 [] c47 [4] 16 := ⟨_, _, Tryz.func47, rfl, by decide +kernel, by kernel_rfl, rfl, rfl⟩
theorem p47 (s : List UInt8) (r q : Int) (hs : s.length ≤ 1099511627776) (hr : In64 r) (hq : In64 q) : Pure Tryz.prog G 47 [T s, .agg [i64 r, i64 q]] (T (copyP s r q)) := by
  refine pure_of_code' (S := sp [(59, num1 In64 fun n => T (Lib.itoa n))] []) hm hG (sp_holds (.cons (told_num1 p59) .nil) .nil) fn47 ([T s, .agg [i64 r, i64 q], .junk, .junk, .junk, .junk, .junk, .junk, .junk, .junk, .junk, .junk, .junk, .junk, .junk, .junk]) rfl (by simp [lows, AV.low]) (by simp [AV.low]) ?_
  simp (maxSteps := 2000000) -implicitDefEqProofs only [c47, ↓RP0, ↓RP1, ↓RP2, ↓RP3, RV, RW, ↓reduceIte, Nat.reduceAdd, Nat.reduceSub, Nat.reduceMul, Nat.reduceLeDiff, Nat.reduceEqDiff, Int.reduceLT, Int.reduceLE, Int.reduceEq, Int.reduceNe, Int.reduceAdd, Int.reduceSub, Int.reduceMul, Int.reduceNeg, Int.reduceToNat, reduceCtorEq]
  have h1 := itoa_length r hr
  have h2 := itoa_length q hq
  refine ⟨by omega, hr, by simp; omega, by simp; omega, hq, by simp; omega, rfl⟩
end Go.AL.Path
