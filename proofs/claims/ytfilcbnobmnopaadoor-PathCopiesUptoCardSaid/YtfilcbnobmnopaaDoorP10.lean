/- Path: the laws. -/
import Derived.Test.YtfilcbnobmnopaaDoorP9
set_option linter.unusedSimpArgs false
set_option linter.unusedVariables false
set_option maxRecDepth 100000
namespace Go.AL.Path
open Go Go.RowKit Go.Proofs Go.AL

abbrev U (f : List UInt8 → List UInt8 → Bool) : PSp := txt2b (fun s d => d.length ≤ 1099511627776 ∧ s.length ≤ 1099511627776) f
theorem itoa3 : Lib.itoa 3 = [51] := by rw [itoa_small (by decide) (by decide)]; decide
theorem itoa17 : Lib.itoa 17 = [49, 55] := itoa_two (n := 17) (by decide) (by rw [show (17 : Int).tdiv 10 = 1 by decide, itoa_small (by decide) (by decide)])
theorem w1 : under [97, 47, 98] [97] = true := by decide +kernel
theorem w2 : copyP [97] 3 17 = [97, 126, 51, 45, 49, 55] := by unfold copyP; rw [itoa3, itoa17]; rfl
theorem w3 : mayP [97, 47, 98, 46, 99] = true := by decide +kernel
theorem w4 : mayP [97, 47, 46, 46, 47, 98] = false := by decide +kernel
theorem w5 : ownP [97] = true := by unfold ownP; rw [longest_eq]; decide +kernel
theorem w6 : ownP [97, 126, 49, 45, 49] = false := by unfold ownP; rw [longest_eq]; decide +kernel

def c9 : ACode := (.seq (.reg false 0 [⟨(.some 0), none, (.q .mv), [(.c (.imm (.bool false)))]⟩]) (.seq (.reg false 0 [⟨(.some 1), none, (.call true), [(.c (.fn (.func 13) [] [])), (.c (.imm (.string (B [97, 47, 98])))), (.c (.imm (.string (B [97]))))]⟩, ⟨(.some 2), none, (.q .mv), [(.t 1)]⟩, ⟨(.some 3), (.some (2, true)), (.q (.build [(.imm (.int .i64 0)), (.imm (.int .i64 0))] [(0, 1), (1, 1)])), [(.c (.imm (.int .i64 3))), (.c (.imm (.int .i64 17)))]⟩, ⟨(.some 4), (.some (2, true)), (.call true), [(.c (.fn (.func 11) [] [])), (.c (.imm (.string (B [97])))), (.t 3)]⟩, ⟨(.some 5), (.some (2, true)), (.q (.bin .eql 9)), [(.t 4), (.c (.imm (.string (B [97, 126, 51, 45, 49, 55]))))]⟩, ⟨(.some 6), none, (.q .pick), [(.t 2), (.t 5), (.c (.imm (.bool false)))]⟩, ⟨(.some 7), none, (.q .mv), [(.t 6)]⟩, ⟨(.some 8), (.some (7, true)), (.call true), [(.c (.fn (.func 19) [] [])), (.c (.imm (.string (B [97, 47, 98, 46, 99]))))]⟩, ⟨(.some 9), none, (.q .pick), [(.t 7), (.t 8), (.c (.imm (.bool false)))]⟩, ⟨(.some 10), none, (.q .mv), [(.t 9)]⟩, ⟨(.some 11), (.some (10, true)), (.call true), [(.c (.fn (.func 19) [] [])), (.c (.imm (.string (B [97, 47, 46, 46, 47, 98]))))]⟩, ⟨(.some 12), (.some (10, true)), (.q (.un .not)), [(.t 11)]⟩, ⟨(.some 13), none, (.q .pick), [(.t 10), (.t 12), (.c (.imm (.bool false)))]⟩, ⟨(.some 14), none, (.q .mv), [(.t 13)]⟩, ⟨(.some 15), (.some (14, true)), (.call true), [(.c (.fn (.func 10) [] [])), (.c (.imm (.string (B [97]))))]⟩, ⟨(.some 16), none, (.q .pick), [(.t 14), (.t 15), (.c (.imm (.bool false)))]⟩, ⟨(.some 17), none, (.q .mv), [(.t 16)]⟩, ⟨(.some 18), (.some (17, true)), (.call true), [(.c (.fn (.func 10) [] [])), (.c (.imm (.string (B [97, 126, 49, 45, 49]))))]⟩, ⟨(.some 19), (.some (17, true)), (.q (.un .not)), [(.t 18)]⟩, ⟨(.some 20), none, (.q .pick), [(.t 17), (.t 19), (.c (.imm (.bool false)))]⟩, ⟨(.some 0), none, (.q .mv), [(.t 20)]⟩]) .ret))
theorem fn9 : IsFn Tryd.prog 9 [] c9 [0] 21 := ⟨_, _, Tryd.func9, rfl, by decide +kernel, by kernel_rfl, rfl, rfl⟩
theorem p9 : Pure Tryd.prog G 9 [] (bool true) := by
  refine pure_of_code' (S := sp [(13, U under), (11, copySp), (19, txt1b (fun l => l.length ≤ 1099511627776) mayP), (10, txt1b (fun l => l.length ≤ 1099511627) ownP)] []) hm hG
    (sp_holds (.cons (told_txt2b fun s d h => p13 s d h.1) (.cons (told_copy p11) (.cons (told_txt1b p19) (.cons (told_txt1b p10) .nil)))) .nil) fn9 ([.junk, .junk, .junk, .junk, .junk, .junk, .junk, .junk, .junk, .junk, .junk, .junk, .junk, .junk, .junk, .junk, .junk, .junk, .junk, .junk, .junk]) rfl (by simp [lows, AV.low]) (by simp [AV.low]) ?_
  simp (maxSteps := 2000000) -implicitDefEqProofs only [c9, ↓RP0, ↓RP1, ↓RP2, ↓RP3, RV, List.map_cons, List.map_nil, List.cons_append, List.nil_append, List.append_nil, List.length_cons, List.length_nil, List.getElem?_cons_zero, List.getElem?_cons_succ, List.set_cons_zero, List.set_cons_succ, true_imp_iff, false_imp_iff, not_true_eq_false, not_false_eq_true, and_true, true_and, and_false, false_and, implies_true, ↓reduceIte, Bool.false_eq_true, Bool.true_eq_false, Bool.not_eq_true, Bool.not_true, Bool.not_false, beq_self_eq_true, Bool.true_beq, Bool.false_beq, List.take_zero, List.drop_zero, List.take_succ_cons, List.drop_succ_cons, List.take_nil, List.drop_nil, List.replicate_zero, List.replicate_succ, Nat.reduceAdd, Nat.reduceSub, Nat.reduceMul, Nat.reduceLeDiff, Nat.reduceEqDiff, Nat.zero_add, Nat.add_zero, Int.reduceLT, Int.reduceLE, Int.reduceEq, Int.reduceNe, Int.reduceAdd, Int.reduceSub, Int.reduceMul, Int.reduceNeg, Int.reduceToNat, Int.toNat_natCast, Int.natCast_nonneg, Int.natCast_zero, Nat.lt_irrefl, Option.some.injEq, reduceCtorEq, Option.map_some, ne_eq, ↓ask_copy, w1, w2, w3, w4, w5, w6]
  exact ⟨⟨by decide, by decide⟩, by decide, by decide⟩

def lst2b (f : List (List UInt8) → List (List UInt8) → Bool) : PSp := fun args K => ∃ a b, args = [sts a, sts b] ∧ a.length ≤ 1099511627776 ∧ splitB (f a b) K
theorem ask_lst2b {f a b K} : ask (lst2b f) [.sl 1 (a.map T) none, .sl 1 (b.map T) none] K = (a.length ≤ 1099511627776 ∧ splitB (f a b) K) := by
  unfold ask lst2b
  simp only [eq_iff_iff]
  constructor
  · rintro ⟨a', b', h, h1, h2⟩
    simp only [sts, List.cons.injEq, AV.sl.injEq, mapT_inj, and_true, true_and] at h
    obtain ⟨rfl, rfl⟩ := h
    exact ⟨h1, h2⟩
  · rintro ⟨h1, h2⟩; exact ⟨a, b, rfl, h1, h2⟩
theorem told_lst2b : Told Tryd.prog G 15 (lst2b fun a b => decide (a = b)) := by
  rintro args K ⟨a, b, rfl, h1, h2⟩
  exact ⟨_, p15 a b h1, splitB_of h2⟩
theorem parents_length (s : List UInt8) : (parents s).length ≤ s.length := parentsTo_length s s.length

def c4 : ACode := (.seq (.reg false 1 [⟨(.some 5), none, (.m .box 0), [(.t 2)]⟩, ⟨(.some 6), none, (.q .mv), [(.c (.imm (.bool false)))]⟩]) (.seq (.reg false 0 [⟨(.some 8), none, (.call true), [(.c (.fn (.func 9) [] []))]⟩, ⟨(.some 7), none, (.q .mv), [(.t 8)]⟩]) (.seq (.reg true 0 [⟨(.some 9), none, (.q .mv), [(.t 7)]⟩, ⟨(.some 10), none, (.q .mv), [(.t 9)]⟩, ⟨(.some 11), (.some (10, true)), (.q .mv), [(.t 0)]⟩, ⟨(.some 12), (.some (10, true)), (.q .mv), [(.t 1)]⟩, ⟨(.some 13), (.some (10, true)), (.call true), [(.c (.fn (.func 13) [] [])), (.t 11), (.t 12)]⟩, ⟨(.some 14), (.some (10, true)), (.q .mv), [(.t 0)]⟩, ⟨(.some 15), (.some (10, true)), (.q .mv), [(.t 1)]⟩, ⟨(.some 16), (.some (10, true)), (.call true), [(.c (.fn (.func 14) [] [])), (.t 14), (.t 15)]⟩, ⟨(.some 17), (.some (10, true)), (.q (.eqBoo false)), [(.t 13), (.t 16)]⟩, ⟨(.some 18), none, (.q .pick), [(.t 10), (.t 17), (.c (.imm (.bool false)))]⟩, ⟨(.some 19), none, (.q .mv), [(.t 18)]⟩, ⟨(.some 20), (.some (19, true)), (.q .mv), [(.t 0)]⟩, ⟨(.some 21), (.some (19, true)), (.call true), [(.c (.fn (.func 16) [] [])), (.t 20)]⟩, ⟨(.some 22), (.some (19, true)), (.q .mv), [(.t 0)]⟩, ⟨(.some 23), (.some (19, true)), (.call true), [(.c (.fn (.func 17) [] [])), (.t 22)]⟩, ⟨(.some 24), (.some (19, true)), (.call true), [(.c (.fn (.func 15) [] [])), (.t 21), (.t 23)]⟩, ⟨(.some 25), none, (.q .pick), [(.t 19), (.t 24), (.c (.imm (.bool false)))]⟩, ⟨(.some 26), none, (.q .mv), [(.t 25)]⟩, ⟨(.some 27), (.some (26, true)), (.q .mv), [(.t 0)]⟩, ⟨(.some 28), (.some (26, true)), (.l (.loadA 2)), [(.t 5)]⟩, ⟨(.some 29), (.some (26, true)), (.call false), [(.c (.fn (.func 11) [] [])), (.t 27), (.t 28)]⟩, ⟨(.some 30), (.some (26, true)), (.q .mv), [(.t 0)]⟩, ⟨(.some 31), (.some (26, true)), (.l (.loadA 2)), [(.t 5)]⟩, ⟨(.some 32), (.some (26, true)), (.call true), [(.c (.fn (.func 18) [] [])), (.t 30), (.t 31)]⟩, ⟨(.some 33), (.some (26, true)), (.q (.bin .eql 9)), [(.t 29), (.t 32)]⟩, ⟨(.some 34), none, (.q .pick), [(.t 26), (.t 33), (.c (.imm (.bool false)))]⟩, ⟨(.some 6), none, (.q .mv), [(.t 34)]⟩]) .ret)))
theorem fn4 : IsFn Tryd.prog 4 [] c4 [6] 35 := ⟨_, _, Tryd.func4, rfl, by decide +kernel, by kernel_rfl, rfl, rfl⟩
theorem p4 (s d : List UInt8) (r q : Int) (hs : s.length ≤ 1099511627776) (hd : d.length ≤ 1099511627776) (hr : In64 r) (hq : In64 q) : Pure Tryd.prog G 4 [T s, T d, .agg [i64 r, i64 q]] (bool true) := by
  refine pure_of_code' (S := sp [(9, none0 (bool true)), (13, U under), (14, U under), (16, txt1 (fun l => l.length ≤ 1099511627776) fun l => .sl 1 ((parents l).map T) none), (17, txt1 (fun l => l.length ≤ 1099511627776) fun l => .sl 1 ((parents l).map T) none), (15, lst2b fun a b => decide (a = b)), (11, copySp), (18, copySp)] []) hm hG
    (sp_holds (.cons (told_none0 p9) (.cons (told_txt2b fun s d h => p13 s d h.1) (.cons (told_txt2b fun s d h => p14 s d h.1 h.2) (.cons (told_txt1 p16) (.cons (told_txt1 p17) (.cons told_lst2b (.cons (told_copy p11) (.cons (told_copy p18) .nil)))))))) .nil) fn4 ([T s, T d, .agg [i64 r, i64 q], .junk, .junk, .junk, .junk, .junk, .junk, .junk, .junk, .junk, .junk, .junk, .junk, .junk, .junk, .junk, .junk, .junk, .junk, .junk, .junk, .junk, .junk, .junk, .junk, .junk, .junk, .junk, .junk, .junk, .junk, .junk, .junk]) rfl (by simp [lows, AV.low]) (by simp [AV.low]) ?_
  simp (maxSteps := 2000000) -implicitDefEqProofs only [c4, ↓RP0, ↓RP1, ↓RP2, ↓RP3, RV, List.map_cons, List.map_nil, List.cons_append, List.nil_append, List.append_nil, List.length_cons, List.length_nil, List.getElem?_cons_zero, List.getElem?_cons_succ, List.set_cons_zero, List.set_cons_succ, true_imp_iff, false_imp_iff, not_true_eq_false, not_false_eq_true, and_true, true_and, and_false, false_and, implies_true, ↓reduceIte, Bool.false_eq_true, Bool.true_eq_false, Bool.not_eq_true, Bool.not_true, Bool.not_false, beq_self_eq_true, Bool.true_beq, Bool.false_beq, List.take_zero, List.drop_zero, List.take_succ_cons, List.drop_succ_cons, List.take_nil, List.drop_nil, List.replicate_zero, List.replicate_succ, Nat.reduceAdd, Nat.reduceSub, Nat.reduceMul, Nat.reduceLeDiff, Nat.reduceEqDiff, Nat.zero_add, Nat.add_zero, Int.reduceLT, Int.reduceLE, Int.reduceEq, Int.reduceNe, Int.reduceAdd, Int.reduceSub, Int.reduceMul, Int.reduceNeg, Int.reduceToNat, Int.toNat_natCast, Int.natCast_nonneg, Int.natCast_zero, Nat.lt_irrefl, Option.some.injEq, reduceCtorEq, Option.map_some, ne_eq, ↓ask_copy, ↓ask_lst2b, decide_true]
  have hp : (parents s).length ≤ 1099511627776 := Nat.le_trans (parents_length s) hs
  refine ⟨⟨hd, hs⟩, fun h1 => ⟨⟨hd, hs⟩, fun _ => ⟨hs, hs, hp, ⟨hs, hr, hq⟩, hs, hr, hq⟩, fun h2 => ?_⟩, fun h1 => ⟨⟨hd, hs⟩, fun h2 => ?_, fun _ => ⟨hs, hs, hp, ⟨hs, hr, hq⟩, hs, hr, hq⟩⟩⟩
  · rw [h1] at h2; cases h2
  · rw [h1] at h2; cases h2

end Go.AL.Path
