/- Path: contracts of the library's functions, and of the ones that need no loop. -/
import Derived.Test.YtfilcbnobmnopaaDoorA25
import Derived.Test.YtfilcbnobmnopaaDoorShelf
import Derived.KernelRfl
set_option linter.unusedSimpArgs false
set_option linter.unusedVariables false
set_option maxRecDepth 100000
namespace Go.AL.Path
open Go Go.RowKit Go.Proofs Go.AL

def powAV : List AV := Lib.pow10Tab.map fun z => .imm (.int .u64 z)
def G : Nat → Option (List AV) := fun g => if g = 1 then some powAV else none
theorem hG : ∀ g cs, G g = some cs → lows 0 cs := by
  intro g cs h
  unfold G at h
  split at h
  · cases h; exact lows_map _ _
  · cases h
theorem hm : Tryd.prog.follows .mixedOrders = true := by kernel_rfl

/-- What the shelf's contracts of numbers ask. -/
theorem tab {lo E H w} (h : SimH G lo E H w) : Lib.TabIs Tryd.prog w "internal/strconv.uint64pow10" .u64 Lib.pow10Tab := by
  have himm : ∀ l : List Int, Imms (l.map fun z => AV.imm (.int .u64 z)) (l.map fun z => Value.int .u64 z) := by
    intro l; induction l with
    | nil => exact .nil
    | cons x l ih => exact .cons ih
  obtain ⟨ty, fz, h1⟩ := h.cells (g := 1) (cs := powAV) rfl (himm _)
  unfold Lib.TabIs World.var?
  rw [show Tryd.prog.globalNamed "internal/strconv.uint64pow10" = some 1 by kernel_rfl]
  simp [h1]

theorem imm1 {a : Value} : Imms [.imm a] [a] := .cons .nil
theorem imm2 {a b : Value} : Imms [.imm a, .imm b] [a, b] := .cons (.cons .nil)

theorem p29 (l m : List UInt8) : Pure Tryd.prog G 29 [T l, T m] (.tup [T (Lib.trimPrefix l m), bool (Lib.hasPrefix l m)]) :=
  pure_of_same_tup Tryd.func29 rfl (by decide +kernel) (rs := [T (Lib.trimPrefix l m), bool (Lib.hasPrefix l m)]) (us := [.string (B (Lib.trimPrefix l m)), .bool (Lib.hasPrefix l m)]) imm2 (by simp [Value.oneCell']) imm2
    fun w => Tryd.strings_CutPrefix (B l) (B m) w

theorem p28 (l : List UInt8) (c : UInt8) : Pure Tryd.prog G 28 [T l, T [c]] (i64 (Lib.indexByte l c)) :=
  pure_of_same Tryd.func28 rfl (by decide +kernel) rfl imm2 fun w => Tryd.strings_Index_one (B l) c w
theorem p25 (l : List UInt8) (c : UInt8) : Pure Tryd.prog G 25 [T l, T [c]] (bool (decide (0 ≤ Lib.indexByte l c))) :=
  pure_of_same Tryd.func25 rfl (by decide +kernel) rfl imm2 fun w => Tryd.strings_Contains_one (B l) c w
theorem p32 (n : Int) (h : In64 n) : Pure Tryd.prog G 32 [i64 n, i64 10] (T (Lib.itoa n)) :=
  pure_of_below Tryd.func32 rfl (by decide +kernel) rfl imm2 fun H lo E w hs =>
    (Tryd.strconv_FormatInt_10 n h.1 h.2 w (tab hs)).mono fun e w' ⟨h1, k, os, h2⟩ => ⟨h1, h2 ▸ below_grown w k os⟩

def c26 : ACode := (.seq (.reg false 0 [⟨(.some 2), none, (.q .mv), [(.c (.imm (.string (B []))))]⟩]) (.seq (.reg false 0 [⟨(.some 3), none, (.q .mv), [(.t 0)]⟩, ⟨(.some 4), none, (.call true), [(.c (.fn (.func 32) [] [])), (.t 3), (.c (.imm (.int .i64 10)))]⟩, ⟨(.some 2), none, (.q .mv), [(.t 4)]⟩]) .ret))
theorem fn26 : IsFn Tryd.prog 26 [] c26 [2] 5 := ⟨_, _, Tryd.func26, rfl, by decide +kernel, by kernel_rfl, rfl, rfl⟩
theorem p26 (n : Int) (h : In64 n) : Pure Tryd.prog G 26 [i64 n] (T (Lib.itoa n)) := by
  refine pure_of_code' (S := sp [(32, num1c 10 In64 fun n => T (Lib.itoa n))] []) hm hG (sp_holds (.cons (told_num1c p32) .nil) .nil) fn26 ([i64 n, .junk, .junk, .junk, .junk]) rfl (by simp [lows, AV.low]) (by simp [AV.low]) ?_
  simp (maxSteps := 2000000) -implicitDefEqProofs only [c26, ↓RP0, ↓RP1, ↓RP2, ↓RP3, RV, List.map_cons, List.map_nil, List.cons_append, List.nil_append, List.append_nil, List.length_cons, List.length_nil, List.getElem?_cons_zero, List.getElem?_cons_succ, List.set_cons_zero, List.set_cons_succ, true_imp_iff, false_imp_iff, not_true_eq_false, not_false_eq_true, and_true, true_and, and_false, false_and, implies_true, ↓reduceIte, Bool.false_eq_true, Bool.true_eq_false, Bool.not_eq_true, Bool.not_true, Bool.not_false, beq_self_eq_true, Bool.true_beq, Bool.false_beq, List.take_zero, List.drop_zero, List.take_succ_cons, List.drop_succ_cons, List.take_nil, List.drop_nil, List.replicate_zero, List.replicate_succ, Nat.reduceAdd, Nat.reduceSub, Nat.reduceMul, Nat.reduceLeDiff, Nat.reduceEqDiff, Nat.zero_add, Nat.add_zero, Int.reduceLT, Int.reduceLE, Int.reduceEq, Int.reduceNe, Int.reduceAdd, Int.reduceSub, Int.reduceMul, Int.reduceNeg, Int.reduceToNat, Int.toNat_natCast, Int.natCast_nonneg, Int.natCast_zero, Nat.lt_irrefl, Option.some.injEq, reduceCtorEq, Option.map_some, ne_eq]
  exact h

/-- Lies below. -/
def under (s d : List UInt8) : Bool := Lib.hasPrefix s (d ++ [47]) && !(Lib.trimPrefix s (d ++ [47])).isEmpty

def c13 : ACode := (.seq (.reg false 0 [⟨(.some 4), none, (.q .mv), [(.c (.imm (.bool false)))]⟩]) (.seq (.reg false 0 [⟨(.some 8), none, (.q .mv), [(.t 0)]⟩, ⟨(.some 9), none, (.q .mv), [(.t 1)]⟩, ⟨(.some 10), none, (.q (.bin .add 9)), [(.t 9), (.c (.imm (.string (B [47]))))]⟩, ⟨(.some 11), none, (.call true), [(.c (.fn (.func 29) [] [])), (.t 8), (.t 10)]⟩, ⟨(.some 7), none, (.q .mv), [(.t 11)]⟩, ⟨(.some 12), none, (.q (.ext 0)), [(.t 7)]⟩, ⟨(.some 13), none, (.q (.ext 1)), [(.t 7)]⟩, ⟨(.some 5), none, (.q .mv), [(.t 12)]⟩, ⟨(.some 6), none, (.q .mv), [(.t 13)]⟩]) (.seq (.reg false 0 [⟨(.some 14), none, (.q .mv), [(.t 6)]⟩, ⟨(.some 15), none, (.q .mv), [(.t 14)]⟩, ⟨(.some 16), (.some (15, true)), (.q .mv), [(.t 5)]⟩, ⟨(.some 17), (.some (15, true)), (.q (.bin .neq 9)), [(.t 16), (.c (.imm (.string (B []))))]⟩, ⟨(.some 18), none, (.q .pick), [(.t 15), (.t 17), (.c (.imm (.bool false)))]⟩, ⟨(.some 4), none, (.q .mv), [(.t 18)]⟩]) .ret)))
theorem fn13 : IsFn Tryd.prog 13 [] c13 [4] 19 := ⟨_, _, Tryd.func13, rfl, by decide +kernel, by kernel_rfl, rfl, rfl⟩
theorem p13 (s d : List UInt8) (hd : d.length ≤ 1099511627776) : Pure Tryd.prog G 13 [T s, T d] (bool (under s d)) := by
  refine pure_of_code' (S := sp [(29, txt2t (fun _ _ => True) (fun l m => T (Lib.trimPrefix l m)) Lib.hasPrefix)] []) hm hG (sp_holds (.cons (told_txt2t fun l m _ => p29 l m) .nil) .nil) fn13 ([T s, T d, .junk, .junk, .junk, .junk, .junk, .junk, .junk, .junk, .junk, .junk, .junk, .junk, .junk, .junk, .junk, .junk, .junk]) rfl (by simp [lows, AV.low]) (by simp [AV.low]) ?_
  simp (maxSteps := 2000000) -implicitDefEqProofs only [c13, ↓RP0, ↓RP1, ↓RP2, ↓RP3, RV, List.map_cons, List.map_nil, List.cons_append, List.nil_append, List.append_nil, List.length_cons, List.length_nil, List.getElem?_cons_zero, List.getElem?_cons_succ, List.set_cons_zero, List.set_cons_succ, true_imp_iff, false_imp_iff, not_true_eq_false, not_false_eq_true, and_true, true_and, and_false, false_and, implies_true, ↓reduceIte, Bool.false_eq_true, Bool.true_eq_false, Bool.not_eq_true, Bool.not_true, Bool.not_false, beq_self_eq_true, Bool.true_beq, Bool.false_beq, List.take_zero, List.drop_zero, List.take_succ_cons, List.drop_succ_cons, List.take_nil, List.drop_nil, List.replicate_zero, List.replicate_succ, Nat.reduceAdd, Nat.reduceSub, Nat.reduceMul, Nat.reduceLeDiff, Nat.reduceEqDiff, Nat.zero_add, Nat.add_zero, Int.reduceLT, Int.reduceLE, Int.reduceEq, Int.reduceNe, Int.reduceAdd, Int.reduceSub, Int.reduceMul, Int.reduceNeg, Int.reduceToNat, Int.toNat_natCast, Int.natCast_nonneg, Int.natCast_zero, Nat.lt_irrefl, Option.some.injEq, reduceCtorEq, Option.map_some, ne_eq]
  refine ⟨by omega, fun h => ⟨fun h1 => ?_, fun h1 => ?_⟩, fun h => ?_⟩
  · simp [under, h, h1]
  · simp [under, h, h1]
  · simp [under, h]
def c14 : ACode := (.seq (.reg false 0 [⟨(.some 4), none, (.q .mv), [(.c (.imm (.bool false)))]⟩]) (.seq (.reg false 0 [⟨(.some 5), none, (.q .mv), [(.t 0)]⟩, ⟨(.some 6), none, (.q .lenS), [(.t 5)]⟩, ⟨(.some 7), none, (.q .mv), [(.t 1)]⟩, ⟨(.some 8), none, (.q .lenS), [(.t 7)]⟩, ⟨(.some 9), none, (.q (.bin .add 3)), [(.t 8), (.c (.imm (.int .i64 1)))]⟩, ⟨(.some 10), none, (.q (.bin .gtr 3)), [(.t 6), (.t 9)]⟩, ⟨(.some 11), none, (.q .mv), [(.t 10)]⟩, ⟨(.some 12), (.some (11, true)), (.q .mv), [(.t 0)]⟩, ⟨(.some 13), (.some (11, true)), (.q .mv), [(.t 1)]⟩, ⟨(.some 14), (.some (11, true)), (.q .lenS), [(.t 13)]⟩, ⟨(.some 15), (.some (11, true)), (.q (.sliceS false true)), [(.t 12), (.t 14)]⟩, ⟨(.some 16), (.some (11, true)), (.q .mv), [(.t 1)]⟩, ⟨(.some 17), (.some (11, true)), (.q (.bin .eql 9)), [(.t 15), (.t 16)]⟩, ⟨(.some 18), none, (.q .pick), [(.t 11), (.t 17), (.c (.imm (.bool false)))]⟩, ⟨(.some 19), none, (.q .mv), [(.t 18)]⟩, ⟨(.some 20), (.some (19, true)), (.q .mv), [(.t 0)]⟩, ⟨(.some 21), (.some (19, true)), (.q .mv), [(.t 1)]⟩, ⟨(.some 22), (.some (19, true)), (.q .lenS), [(.t 21)]⟩, ⟨(.some 23), (.some (19, true)), (.q .idxS), [(.t 20), (.t 22)]⟩, ⟨(.some 24), (.some (19, true)), (.q (.bin .eql 5)), [(.t 23), (.c (.imm (.int .u8 47)))]⟩, ⟨(.some 25), none, (.q .pick), [(.t 19), (.t 24), (.c (.imm (.bool false)))]⟩, ⟨(.some 4), none, (.q .mv), [(.t 25)]⟩]) .ret))
theorem fn14 : IsFn Tryd.prog 14 [] c14 [4] 26 := ⟨_, _, Tryd.func14, rfl, by decide +kernel, by kernel_rfl, rfl, rfl⟩
theorem under_eq (s d : List UInt8) : under s d = true ↔ d.length + 1 < s.length ∧ s.take d.length = d ∧ s[d.length]? = some 47 := by
  unfold under
  simp only [Lib.hasPrefix, Lib.trimPrefix, Bool.and_eq_true, Bool.not_eq_true', List.isEmpty_eq_false_iff, List.isPrefixOf_iff_prefix, List.prefix_iff_eq_take]
  simp only [List.length_append, List.length_cons, List.length_nil, Nat.zero_add]
  constructor
  · rintro ⟨h1, h2⟩
    have h3 : d ++ [47] <+: s := by rw [h1]; exact List.take_prefix _ _
    obtain ⟨t, rfl⟩ := h3
    rw [if_pos h1] at h2
    cases t with
    | nil => simp at h2
    | cons x t => simp
  · rintro ⟨h1, h2, h3⟩
    have h4 : d ++ [47] = s.take (d.length + 1) := by rw [List.take_add_one, h2, h3]; rfl
    refine ⟨h4, ?_⟩
    rw [if_pos h4]
    intro h
    have := congrArg List.length h
    simp at this
    omega
theorem p14 (s d : List UInt8) (hd : d.length ≤ 1099511627776) (hs : s.length ≤ 1099511627776) : Pure Tryd.prog G 14 [T s, T d] (bool (under s d)) := by
  refine pure_of_code' (S := sp [] []) hm hG (sp_holds .nil .nil) fn14 ([T s, T d, .junk, .junk, .junk, .junk, .junk, .junk, .junk, .junk, .junk, .junk, .junk, .junk, .junk, .junk, .junk, .junk, .junk, .junk, .junk, .junk, .junk, .junk, .junk, .junk]) rfl (by simp [lows, AV.low]) (by simp [AV.low]) ?_
  simp (maxSteps := 2000000) -implicitDefEqProofs only [c14, ↓RP0, ↓RP1, ↓RP2, ↓RP3, RV, List.map_cons, List.map_nil, List.cons_append, List.nil_append, List.append_nil, List.length_cons, List.length_nil, List.getElem?_cons_zero, List.getElem?_cons_succ, List.set_cons_zero, List.set_cons_succ, true_imp_iff, false_imp_iff, not_true_eq_false, not_false_eq_true, and_true, true_and, and_false, false_and, implies_true, ↓reduceIte, Bool.false_eq_true, Bool.true_eq_false, Bool.not_eq_true, Bool.not_true, Bool.not_false, beq_self_eq_true, Bool.true_beq, Bool.false_beq, List.take_zero, List.drop_zero, List.take_succ_cons, List.drop_succ_cons, List.take_nil, List.drop_nil, List.replicate_zero, List.replicate_succ, Nat.reduceAdd, Nat.reduceSub, Nat.reduceMul, Nat.reduceLeDiff, Nat.reduceEqDiff, Nat.zero_add, Nat.add_zero, Int.reduceLT, Int.reduceLE, Int.reduceEq, Int.reduceNe, Int.reduceAdd, Int.reduceSub, Int.reduceMul, Int.reduceNeg, Int.reduceToNat, Int.toNat_natCast, Int.natCast_nonneg, Int.natCast_zero, Nat.lt_irrefl, Option.some.injEq, reduceCtorEq, Option.map_some, ne_eq]
  refine ⟨⟨by omega, by omega⟩, fun h => ⟨by omega, fun h1 => ⟨by omega, fun h2 => ?_, fun h2 => ?_⟩, fun h1 => ?_⟩, fun h => ?_⟩
  · rw [(under_eq s d).2 ⟨by omega, h1, (at'_eq (by omega) 47).1 h2⟩]
  · rw [show under s d = false from Bool.eq_false_iff.2 fun e => h2 ((at'_eq (by omega) 47).2 ((under_eq s d).1 e).2.2)]
  · rw [show under s d = false from Bool.eq_false_iff.2 fun e => h1 ((under_eq s d).1 e).2.1]
  · rw [show under s d = false from Bool.eq_false_iff.2 fun e => h (by have := ((under_eq s d).1 e).1; omega)]
end Go.AL.Path
