/- Path: the program's paths. -/
import Derived.Test.YtfilcbnobmnopaaDoorW27
set_option linter.unusedSimpArgs false
set_option linter.unusedVariables false
set_option maxRecDepth 100000
namespace Go.AL.Path
open Go Go.RowKit Go.Proofs Go.AL

def c12 : ACode := (.seq (.reg false 0 [⟨(.some 2), none, (.q .mv), [(.c (.imm (.string (B []))))]⟩, ⟨(.some 3), none, (.q .mv), [(.c (.imm (.string (B []))))]⟩, ⟨(.some 4), none, (.q .mv), [(.c (.imm (.int .i64 0)))]⟩]) (.seq (.block 0 (.seq (.reg false 0 [⟨(.some 8), none, (.q .mv), [(.t 0)]⟩, ⟨(.some 9), none, (.call true), [(.c (.fn (.func 27) [] [])), (.t 8)]⟩, ⟨(.some 10), none, (.q (.un .not)), [(.t 9)]⟩, ⟨(.some 7), none, (.q .mv), [(.t 10)]⟩]) (.cond (.t 7) (.seq (.reg false 0 [⟨(.some 2), none, (.q .mv), [(.c (.imm (.string (B []))))]⟩, ⟨(.some 3), none, (.q .mv), [(.c (.imm (.string (B []))))]⟩, ⟨(.some 4), none, (.q .mv), [(.c (.imm (.int .i64 9)))]⟩]) .ret) (.seq (.reg false 0 [⟨(.some 12), none, (.q .mv), [(.t 0)]⟩, ⟨(.some 13), none, (.q .lenS), [(.t 12)]⟩, ⟨(.some 14), none, (.q (.bin .leq 3)), [(.t 13), (.c (.imm (.int .i64 100)))]⟩, ⟨(.some 11), none, (.q .mv), [(.t 14)]⟩]) (.cond (.t 11) (.seq (.reg false 0 [⟨(.some 15), none, (.q .mv), [(.t 0)]⟩, ⟨(.some 2), none, (.q .mv), [(.c (.imm (.string (B []))))]⟩, ⟨(.some 3), none, (.q .mv), [(.t 15)]⟩, ⟨(.some 4), none, (.q .mv), [(.c (.imm (.int .i64 0)))]⟩]) .ret) .skip))))) (.seq (.reg false 0 [⟨(.some 16), none, (.q .mv), [(.t 0)]⟩, ⟨(.some 17), none, (.q .lenS), [(.t 16)]⟩, ⟨(.some 18), none, (.q (.bin .sub 3)), [(.t 17), (.c (.imm (.int .i64 100)))]⟩, ⟨(.some 19), none, (.q (.bin .sub 3)), [(.t 18), (.c (.imm (.int .i64 1)))]⟩, ⟨(.some 5), none, (.q .mv), [(.t 19)]⟩]) (.seq (.reg false 0 [⟨(.some 20), none, (.q .mv), [(.t 0)]⟩, ⟨(.some 21), none, (.q .mv), [(.t 5)]⟩, ⟨(.some 22), none, (.q (.sliceS true false)), [(.t 20), (.t 21)]⟩, ⟨(.some 23), none, (.call true), [(.c (.fn (.func 28) [] [])), (.t 22), (.c (.imm (.string (B [47]))))]⟩, ⟨(.some 6), none, (.q .mv), [(.t 23)]⟩]) (.seq (.seq (.reg false 0 [⟨(.some 24), none, (.q .mv), [(.t 6)]⟩, ⟨(.some 25), none, (.q (.bin .lss 3)), [(.t 24), (.c (.imm (.int .i64 0)))]⟩, ⟨(.some 26), none, (.q .mv), [(.t 25)]⟩, ⟨(.some 27), (.some (26, false)), (.q .mv), [(.t 5)]⟩, ⟨(.some 28), (.some (26, false)), (.q .mv), [(.t 6)]⟩, ⟨(.some 29), (.some (26, false)), (.q (.bin .add 3)), [(.t 27), (.t 28)]⟩, ⟨(.some 30), (.some (26, false)), (.q (.bin .gtr 3)), [(.t 29), (.c (.imm (.int .i64 155)))]⟩, ⟨(.some 31), none, (.q .pick), [(.t 26), (.c (.imm (.bool true))), (.t 30)]⟩]) (.cond (.t 31) (.seq (.reg false 0 [⟨(.some 2), none, (.q .mv), [(.c (.imm (.string (B []))))]⟩, ⟨(.some 3), none, (.q .mv), [(.c (.imm (.string (B []))))]⟩, ⟨(.some 4), none, (.q .mv), [(.c (.imm (.int .i64 9)))]⟩]) .ret) .skip)) (.seq (.reg true 0 [⟨(.some 32), none, (.q .mv), [(.t 0)]⟩, ⟨(.some 33), none, (.q .mv), [(.t 5)]⟩, ⟨(.some 34), none, (.q .mv), [(.t 6)]⟩, ⟨(.some 35), none, (.q (.bin .add 3)), [(.t 33), (.t 34)]⟩, ⟨(.some 36), none, (.q (.sliceS false true)), [(.t 32), (.t 35)]⟩, ⟨(.some 37), none, (.q .mv), [(.t 0)]⟩, ⟨(.some 38), none, (.q .mv), [(.t 5)]⟩, ⟨(.some 39), none, (.q .mv), [(.t 6)]⟩, ⟨(.some 40), none, (.q (.bin .add 3)), [(.t 38), (.t 39)]⟩, ⟨(.some 41), none, (.q (.bin .add 3)), [(.t 40), (.c (.imm (.int .i64 1)))]⟩, ⟨(.some 42), none, (.q (.sliceS true false)), [(.t 37), (.t 41)]⟩, ⟨(.some 2), none, (.q .mv), [(.t 36)]⟩, ⟨(.some 3), none, (.q .mv), [(.t 42)]⟩, ⟨(.some 4), none, (.q .mv), [(.c (.imm (.int .i64 0)))]⟩]) .ret))))))
theorem fn12 : IsFn Tryd.prog 12 [] c12 [2, 3, 4] 43 := ⟨_, _, Tryd.func12, rfl, by decide +kernel, by kernel_rfl, rfl, rfl⟩
theorem p12 (s : List UInt8) (hs : s.length ≤ 1099511627776) : Pure Tryd.prog G 12 [T s] (splitV s) := by
  refine pure_of_code' (S := sp [(27, txt1b (fun l => l.length ≤ 1099511627776) wholeP), (28, txt1c [47] (fun _ => True) fun l => i64 (Lib.indexByte l 47))] []) hm hG (sp_holds (.cons (told_txt1b p27) (.cons (told_txt1c fun l _ => p28 l 47) .nil)) .nil) fn12 ([T s, .junk, .junk, .junk, .junk, .junk, .junk, .junk, .junk, .junk, .junk, .junk, .junk, .junk, .junk, .junk, .junk, .junk, .junk, .junk, .junk, .junk, .junk, .junk, .junk, .junk, .junk, .junk, .junk, .junk, .junk, .junk, .junk, .junk, .junk, .junk, .junk, .junk, .junk, .junk, .junk, .junk, .junk]) rfl (by simp [lows, AV.low]) (splitV_low s) ?_
  have key : ∀ x y, splitP s = some (x, y) → AV.tup [T x, T y, i64 0] = splitV s := by intro x y h; unfold splitV; rw [h]
  have keyn : splitP s = none → AV.tup [T [], T [], i64 9] = splitV s := by intro h; unfold splitV; rw [h]
  simp (maxSteps := 2000000) -implicitDefEqProofs only [c12, ↓RP0, ↓RP1, ↓RP2, ↓RP3, RV, List.map_cons, List.map_nil, List.cons_append, List.nil_append, List.append_nil, List.length_cons, List.length_nil, List.getElem?_cons_zero, List.getElem?_cons_succ, List.set_cons_zero, List.set_cons_succ, true_imp_iff, false_imp_iff, not_true_eq_false, not_false_eq_true, and_true, true_and, and_false, false_and, implies_true, ↓reduceIte, Bool.false_eq_true, Bool.true_eq_false, Bool.not_eq_true, Bool.not_true, Bool.not_false, beq_self_eq_true, Bool.true_beq, Bool.false_beq, List.take_zero, List.drop_zero, List.take_succ_cons, List.drop_succ_cons, List.take_nil, List.drop_nil, List.replicate_zero, List.replicate_succ, Nat.reduceAdd, Nat.reduceSub, Nat.reduceMul, Nat.reduceLeDiff, Nat.reduceEqDiff, Nat.zero_add, Nat.add_zero, Int.reduceLT, Int.reduceLE, Int.reduceEq, Int.reduceNe, Int.reduceAdd, Int.reduceSub, Int.reduceMul, Int.reduceNeg, Int.reduceToNat, Int.toNat_natCast, Int.natCast_nonneg, Int.natCast_zero, Nat.lt_irrefl, Option.some.injEq, reduceCtorEq, Option.map_some, ne_eq]
  refine ⟨hs, fun hw => ⟨fun h => ?_, fun h => ?_⟩, fun hw => ?_⟩
  · simp only [wholeP, Bool.and_eq_true, decide_eq_true_eq] at hw
    exact key _ _ (by unfold splitP; rw [if_neg (by simp [hw.1]; omega), if_pos (by omega)])
  · simp only [wholeP, Bool.and_eq_true, decide_eq_true_eq] at hw
    have hsp : splitP s = (let n := Lib.indexByte (s.drop (s.length - 101)) 47
        if n < 0 ∨ ((s.length - 101 : Nat) : Int) + n > 155 then none else some (s.take (s.length - 101 + n.toNat), s.drop (s.length - 101 + n.toNat + 1))) := by
      unfold splitP; rw [if_neg (by simp [hw.1]; omega), if_neg (by omega)]
    have e0 : ((s.length : Int) - 100 - 1).toNat = s.length - 101 := by omega
    simp only [e0, List.take_length]
    obtain ⟨n, hn⟩ : ∃ n, Lib.indexByte (s.drop (s.length - 101)) 47 = n := ⟨_, rfl⟩
    have hge := Lib.indexByte_ge (s.drop (s.length - 101)) 47
    have hlt : n < s.length - (s.length - 101 : Nat) := by
      rcases (by omega : n < 0 ∨ 0 ≤ n) with h0 | h0
      · omega
      · obtain ⟨o, rfl⟩ := Int.eq_ofNat_of_zero_le h0
        have := (Lib.indexByte_some hn).1
        obtain ⟨hl, _⟩ := List.getElem?_eq_some_iff.1 this
        simp at hl
        omega
    rw [hn] at hge
    rw [hn] at hsp
    simp only [hn]
    have tail : ¬ n < 0 → ¬ 155 < (s.length : Int) - 100 - 1 + n → splitP s = some (s.take ((s.length : Int) - 100 - 1 + n).toNat, s.drop ((s.length : Int) - 100 - 1 + n + 1).toNat) := by
      intro h1 h2
      rw [hsp]
      dsimp only
      rw [if_neg (by omega)]
      congr 3 <;> omega
    refine ⟨⟨by omega, by omega⟩, ⟨by omega, by omega⟩, by omega, by omega, fun h1 => keyn (by rw [hsp]; dsimp only; rw [if_pos (by omega)]), fun h1 => ⟨⟨by omega, by omega⟩, fun h2 => keyn (by rw [hsp]; dsimp only; rw [if_pos (by omega)]), fun h2 => ?_⟩⟩
    exact ⟨⟨by omega, by omega⟩, by omega, by omega, ⟨by omega, by omega⟩, ⟨by omega, by omega⟩, by omega, by omega, key _ _ (tail h1 h2)⟩
  · refine keyn ?_
    unfold splitP
    rw [if_pos]
    simp only [wholeP, Bool.and_eq_false_iff, decide_eq_false_iff_not] at hw
    rcases hw with h | h
    · exact .inl h
    · exact .inr (by omega)

def c19 : ACode := (.seq (.reg false 0 [⟨(.some 2), none, (.q .mv), [(.c (.imm (.bool false)))]⟩]) (.seq (.reg false 0 [⟨(.some 7), none, (.q .mv), [(.t 0)]⟩, ⟨(.some 8), none, (.call true), [(.c (.fn (.func 12) [] [])), (.t 7)]⟩, ⟨(.some 6), none, (.q .mv), [(.t 8)]⟩, ⟨(.some 9), none, (.q (.ext 0)), [(.t 6)]⟩, ⟨(.some 10), none, (.q (.ext 1)), [(.t 6)]⟩, ⟨(.some 11), none, (.q (.ext 2)), [(.t 6)]⟩, ⟨(.some 3), none, (.q .mv), [(.t 9)]⟩, ⟨(.some 4), none, (.q .mv), [(.t 10)]⟩, ⟨(.some 5), none, (.q .mv), [(.t 11)]⟩]) (.seq (.reg false 0 [⟨(.some 12), none, (.q .mv), [(.t 5)]⟩, ⟨(.some 13), none, (.q (.bin .eql 29)), [(.t 12), (.c (.imm (.int .i64 0)))]⟩, ⟨(.some 2), none, (.q .mv), [(.t 13)]⟩]) .ret)))
theorem fn19 : IsFn Tryd.prog 19 [] c19 [2] 14 := ⟨_, _, Tryd.func19, rfl, by decide +kernel, by kernel_rfl, rfl, rfl⟩
theorem p19 (s : List UInt8) (hs : s.length ≤ 1099511627776) : Pure Tryd.prog G 19 [T s] (bool (mayP s)) := by
  refine pure_of_code' (S := sp [(12, splitSp)] []) hm hG (sp_holds (.cons (told_split p12) .nil) .nil) fn19 ([T s, .junk, .junk, .junk, .junk, .junk, .junk, .junk, .junk, .junk, .junk, .junk, .junk, .junk]) rfl (by simp [lows, AV.low]) (by simp [AV.low]) ?_
  simp (maxSteps := 2000000) -implicitDefEqProofs only [c19, ↓RP0, ↓RP1, ↓RP2, ↓RP3, RV, List.map_cons, List.map_nil, List.cons_append, List.nil_append, List.append_nil, List.length_cons, List.length_nil, List.getElem?_cons_zero, List.getElem?_cons_succ, List.set_cons_zero, List.set_cons_succ, true_imp_iff, false_imp_iff, not_true_eq_false, not_false_eq_true, and_true, true_and, and_false, false_and, implies_true, ↓reduceIte, Bool.false_eq_true, Bool.true_eq_false, Bool.not_eq_true, Bool.not_true, Bool.not_false, beq_self_eq_true, Bool.true_beq, Bool.false_beq, List.take_zero, List.drop_zero, List.take_succ_cons, List.drop_succ_cons, List.take_nil, List.drop_nil, List.replicate_zero, List.replicate_succ, Nat.reduceAdd, Nat.reduceSub, Nat.reduceMul, Nat.reduceLeDiff, Nat.reduceEqDiff, Nat.zero_add, Nat.add_zero, Int.reduceLT, Int.reduceLE, Int.reduceEq, Int.reduceNe, Int.reduceAdd, Int.reduceSub, Int.reduceMul, Int.reduceNeg, Int.reduceToNat, Int.toNat_natCast, Int.natCast_nonneg, Int.natCast_zero, Nat.lt_irrefl, Option.some.injEq, reduceCtorEq, Option.map_some, ne_eq, ↓ask_split]
  refine ⟨hs, fun x y h => ?_, fun h => ?_⟩ <;> simp [mayP, h]

def c21 : ACode := (.seq (.reg false 0 [⟨(.some 4), none, (.q .mv), [(.c (.imm (.string (B []))))]⟩, ⟨(.some 5), none, (.q .mv), [(.c (.imm (.int .i64 0)))]⟩]) (.seq (.reg false 0 [⟨(.some 10), none, (.q .mv), [(.t 1)]⟩, ⟨(.some 6), none, (.q .mv), [(.t 10)]⟩]) (.seq (.seq (.reg false 0 [⟨(.some 11), none, (.q .mv), [(.t 0)]⟩, ⟨(.some 12), none, (.q (.bin .neq 9)), [(.t 11), (.c (.imm (.string (B []))))]⟩]) (.cond (.t 12) (.reg false 0 [⟨(.some 13), none, (.q .mv), [(.t 0)]⟩, ⟨(.some 14), none, (.q (.bin .add 9)), [(.t 13), (.c (.imm (.string (B [47]))))]⟩, ⟨(.some 15), none, (.q .mv), [(.t 1)]⟩, ⟨(.some 16), none, (.q (.bin .add 9)), [(.t 14), (.t 15)]⟩, ⟨(.some 6), none, (.q .mv), [(.t 16)]⟩]) .skip)) (.seq (.reg false 0 [⟨(.some 18), none, (.q .mv), [(.t 6)]⟩, ⟨(.some 19), none, (.call true), [(.c (.fn (.func 12) [] [])), (.t 18)]⟩, ⟨(.some 17), none, (.q .mv), [(.t 19)]⟩, ⟨(.some 20), none, (.q (.ext 0)), [(.t 17)]⟩, ⟨(.some 21), none, (.q (.ext 1)), [(.t 17)]⟩, ⟨(.some 22), none, (.q (.ext 2)), [(.t 17)]⟩, ⟨(.some 7), none, (.q .mv), [(.t 20)]⟩, ⟨(.some 8), none, (.q .mv), [(.t 21)]⟩, ⟨(.some 9), none, (.q .mv), [(.t 22)]⟩]) (.seq (.seq (.reg false 0 [⟨(.some 23), none, (.q .mv), [(.t 9)]⟩, ⟨(.some 24), none, (.q (.bin .neq 29)), [(.t 23), (.c (.imm (.int .i64 0)))]⟩, ⟨(.some 25), none, (.q .mv), [(.t 24)]⟩, ⟨(.some 26), (.some (25, false)), (.q .mv), [(.t 7)]⟩, ⟨(.some 27), (.some (25, false)), (.q .mv), [(.t 0)]⟩, ⟨(.some 28), (.some (25, false)), (.q (.bin .neq 9)), [(.t 26), (.t 27)]⟩, ⟨(.some 29), none, (.q .pick), [(.t 25), (.c (.imm (.bool true))), (.t 28)]⟩, ⟨(.some 30), none, (.q .mv), [(.t 29)]⟩, ⟨(.some 31), (.some (30, false)), (.q .mv), [(.t 8)]⟩, ⟨(.some 32), (.some (30, false)), (.q .mv), [(.t 1)]⟩, ⟨(.some 33), (.some (30, false)), (.q (.bin .neq 9)), [(.t 31), (.t 32)]⟩, ⟨(.some 34), none, (.q .pick), [(.t 30), (.c (.imm (.bool true))), (.t 33)]⟩]) (.cond (.t 34) (.seq (.reg false 0 [⟨(.some 4), none, (.q .mv), [(.c (.imm (.string (B []))))]⟩, ⟨(.some 5), none, (.q .mv), [(.c (.imm (.int .i64 9)))]⟩]) .ret) .skip)) (.seq (.reg false 0 [⟨(.some 35), none, (.q .mv), [(.t 6)]⟩, ⟨(.some 4), none, (.q .mv), [(.t 35)]⟩, ⟨(.some 5), none, (.q .mv), [(.c (.imm (.int .i64 0)))]⟩]) .ret))))))
theorem fn21 : IsFn Tryd.prog 21 [] c21 [4, 5] 36 := ⟨_, _, Tryd.func21, rfl, by decide +kernel, by kernel_rfl, rfl, rfl⟩
theorem p21 (p n : List UInt8) (hp : p.length ≤ 1099511627) (hn : n.length ≤ 1099511627) : Pure Tryd.prog G 21 [T p, T n] (joinV p n) := by
  refine pure_of_code' (S := sp [(12, splitSp)] []) hm hG (sp_holds (.cons (told_split p12) .nil) .nil) fn21 ([T p, T n, .junk, .junk, .junk, .junk, .junk, .junk, .junk, .junk, .junk, .junk, .junk, .junk, .junk, .junk, .junk, .junk, .junk, .junk, .junk, .junk, .junk, .junk, .junk, .junk, .junk, .junk, .junk, .junk, .junk, .junk, .junk, .junk, .junk, .junk]) rfl (by simp [lows, AV.low]) (joinV_low p n) ?_
  simp (maxSteps := 2000000) -implicitDefEqProofs only [c21, ↓RP0, ↓RP1, ↓RP2, ↓RP3, RV, List.map_cons, List.map_nil, List.cons_append, List.nil_append, List.append_nil, List.length_cons, List.length_nil, List.getElem?_cons_zero, List.getElem?_cons_succ, List.set_cons_zero, List.set_cons_succ, true_imp_iff, false_imp_iff, not_true_eq_false, not_false_eq_true, and_true, true_and, and_false, false_and, implies_true, ↓reduceIte, Bool.false_eq_true, Bool.true_eq_false, Bool.not_eq_true, Bool.not_true, Bool.not_false, beq_self_eq_true, Bool.true_beq, Bool.false_beq, List.take_zero, List.drop_zero, List.take_succ_cons, List.drop_succ_cons, List.take_nil, List.drop_nil, List.replicate_zero, List.replicate_succ, Nat.reduceAdd, Nat.reduceSub, Nat.reduceMul, Nat.reduceLeDiff, Nat.reduceEqDiff, Nat.zero_add, Nat.add_zero, Int.reduceLT, Int.reduceLE, Int.reduceEq, Int.reduceNe, Int.reduceAdd, Int.reduceSub, Int.reduceMul, Int.reduceNeg, Int.reduceToNat, Int.toNat_natCast, Int.natCast_nonneg, Int.natCast_zero, Nat.lt_irrefl, Option.some.injEq, reduceCtorEq, Option.map_some, ne_eq, ↓ask_split]
  have key : ∀ x, joinP p n = some x → AV.tup [T x, i64 0] = joinV p n := by intro x h; unfold joinV; rw [h]
  have keyn : joinP p n = none → AV.tup [T [], i64 9] = joinV p n := by intro h; unfold joinV; rw [h]
  refine ⟨fun h => ⟨by omega, fun x y hs => ⟨fun hx => ⟨fun hy => ?_, fun hy => ?_⟩, fun hx => ?_⟩, fun hs => ?_⟩, fun h => ⟨by omega, by simp; omega, by simp; omega, fun x y hs => ⟨fun hx => ⟨fun hy => ?_, fun hy => ?_⟩, fun hx => ?_⟩, fun hs => ?_⟩⟩
  · exact key _ (by unfold joinP; simp only [h, if_true]; rw [hs, if_pos (by rw [hx, hy, h])])
  · exact keyn (by unfold joinP; simp only [h, if_true]; rw [hs, if_neg (by simp; intro _; exact hy)])
  · exact keyn (by unfold joinP; simp only [h, if_true]; rw [hs, if_neg (by simp; intro e; exact absurd (e.trans h.symm) hx)])
  · exact keyn (by unfold joinP; simp only [h, if_true]; rw [hs, if_neg (by simp)])
  · exact key _ (by unfold joinP; simp only [h, if_false]; rw [hs, if_pos (by rw [hx, hy])])
  · exact keyn (by unfold joinP; simp only [h, if_false]; rw [hs, if_neg (by simp; intro _; exact hy)])
  · exact keyn (by unfold joinP; simp only [h, if_false]; rw [hs, if_neg (by simp; intro e; exact absurd e hx)])
  · exact keyn (by unfold joinP; simp only [h, if_false]; rw [hs, if_neg (by simp)])

def copySp : PSp := fun args K => match args with
  | [.imm (.string a), .agg [.imm (.int .i64 r), .imm (.int .i64 q)]] => (a.data.toList.length ≤ 1099511627776 ∧ In64 r ∧ In64 q) ∧ K (T (copyP a.data.toList r q)) | _ => False
theorem ask_copy {l : List UInt8} {r q : Int} {K} : ask copySp [T l, .agg [i64 r, i64 q]] K = ((l.length ≤ 1099511627776 ∧ In64 r ∧ In64 q) ∧ K (T (copyP l r q))) := rfl
theorem told_copy {F} (h : ∀ (s : List UInt8) (r q : Int), s.length ≤ 1099511627776 → In64 r → In64 q → Pure Tryd.prog G F [T s, .agg [i64 r, i64 q]] (T (copyP s r q))) : Told Tryd.prog G F copySp := by
  intro args K hk
  unfold copySp at hk
  split at hk
  · exact ⟨_, h _ _ _ hk.1.1 hk.1.2.1 hk.1.2.2, hk.2⟩
  · exact hk.elim

def c10 : ACode := (.seq (.reg false 0 [⟨(.some 2), none, (.q .mv), [(.c (.imm (.bool false)))]⟩]) (.seq (.reg false 0 [⟨(.some 4), none, (.q .mv), [(.t 0)]⟩, ⟨(.some 5), none, (.q (.build [(.imm (.int .i64 0)), (.imm (.int .i64 0))] [(0, 1), (1, 1)])), [(.c (.imm (.int .i64 31))), (.c (.imm (.int .i64 1099511627776)))]⟩, ⟨(.some 6), none, (.call true), [(.c (.fn (.func 11) [] [])), (.t 4), (.t 5)]⟩, ⟨(.some 3), none, (.q .mv), [(.t 6)]⟩]) (.seq (.reg false 0 [⟨(.some 7), none, (.q .mv), [(.t 0)]⟩, ⟨(.some 8), none, (.call true), [(.c (.fn (.func 19) [] [])), (.t 7)]⟩, ⟨(.some 9), none, (.q .mv), [(.t 8)]⟩, ⟨(.some 10), (.some (9, true)), (.q .mv), [(.t 0)]⟩, ⟨(.some 11), (.some (9, true)), (.q .lenS), [(.t 10)]⟩, ⟨(.some 12), (.some (9, true)), (.q (.bin .leq 3)), [(.t 11), (.c (.imm (.int .i64 200)))]⟩, ⟨(.some 13), none, (.q .pick), [(.t 9), (.t 12), (.c (.imm (.bool false)))]⟩, ⟨(.some 14), none, (.q .mv), [(.t 13)]⟩, ⟨(.some 15), (.some (14, true)), (.q .mv), [(.t 0)]⟩, ⟨(.some 16), (.some (14, true)), (.call true), [(.c (.fn (.func 25) [] [])), (.t 15), (.c (.imm (.string (B [126]))))]⟩, ⟨(.some 17), (.some (14, true)), (.q (.un .not)), [(.t 16)]⟩, ⟨(.some 18), none, (.q .pick), [(.t 14), (.t 17), (.c (.imm (.bool false)))]⟩, ⟨(.some 19), none, (.q .mv), [(.t 18)]⟩, ⟨(.some 20), (.some (19, true)), (.q .mv), [(.t 3)]⟩, ⟨(.some 21), (.some (19, true)), (.call true), [(.c (.fn (.func 19) [] [])), (.t 20)]⟩, ⟨(.some 22), none, (.q .pick), [(.t 19), (.t 21), (.c (.imm (.bool false)))]⟩, ⟨(.some 2), none, (.q .mv), [(.t 22)]⟩]) .ret)))
theorem fn10 : IsFn Tryd.prog 10 [] c10 [2] 23 := ⟨_, _, Tryd.func10, rfl, by decide +kernel, by kernel_rfl, rfl, rfl⟩
theorem p10 (s : List UInt8) (hs : s.length ≤ 1099511627) : Pure Tryd.prog G 10 [T s] (bool (ownP s)) := by
  refine pure_of_code' (S := sp [(11, copySp), (19, txt1b (fun l => l.length ≤ 1099511627776) mayP), (25, txt1cb [126] (fun _ => True) fun l => decide (0 ≤ Lib.indexByte l 126))] []) hm hG (sp_holds (.cons (told_copy p11) (.cons (told_txt1b p19) (.cons (told_txt1cb fun l _ => p25 l 126) .nil))) .nil) fn10 ([T s, .junk, .junk, .junk, .junk, .junk, .junk, .junk, .junk, .junk, .junk, .junk, .junk, .junk, .junk, .junk, .junk, .junk, .junk, .junk, .junk, .junk, .junk]) rfl (by simp [lows, AV.low]) (by simp [AV.low]) ?_
  have hI31 : In64 31 := ⟨by decide, by decide⟩
  have hIb : In64 1099511627776 := ⟨by decide, by decide⟩
  have hlc : (copyP s 31 1099511627776) = s ++ longest := by unfold copyP longest; simp
  have hcl : (copyP s 31 1099511627776).length ≤ 1099511627776 := by rw [hlc, longest_eq]; simp; omega
  have hct : decide (0 ≤ Lib.indexByte s 126) = s.contains 126 := (Lib.contains_iff_indexByte s 126).symm
  simp (maxSteps := 2000000) -implicitDefEqProofs only [c10, ↓RP0, ↓RP1, ↓RP2, ↓RP3, RV, List.map_cons, List.map_nil, List.cons_append, List.nil_append, List.append_nil, List.length_cons, List.length_nil, List.getElem?_cons_zero, List.getElem?_cons_succ, List.set_cons_zero, List.set_cons_succ, true_imp_iff, false_imp_iff, not_true_eq_false, not_false_eq_true, and_true, true_and, and_false, false_and, implies_true, ↓reduceIte, Bool.false_eq_true, Bool.true_eq_false, Bool.not_eq_true, Bool.not_true, Bool.not_false, beq_self_eq_true, Bool.true_beq, Bool.false_beq, List.take_zero, List.drop_zero, List.take_succ_cons, List.drop_succ_cons, List.take_nil, List.drop_nil, List.replicate_zero, List.replicate_succ, Nat.reduceAdd, Nat.reduceSub, Nat.reduceMul, Nat.reduceLeDiff, Nat.reduceEqDiff, Nat.zero_add, Nat.add_zero, Int.reduceLT, Int.reduceLE, Int.reduceEq, Int.reduceNe, Int.reduceAdd, Int.reduceSub, Int.reduceMul, Int.reduceNeg, Int.reduceToNat, Int.toNat_natCast, Int.natCast_nonneg, Int.natCast_zero, Nat.lt_irrefl, Option.some.injEq, reduceCtorEq, Option.map_some, ne_eq, ↓ask_copy]
  rw [hct]
  rw [hlc] at hcl ⊢
  refine ⟨⟨by omega, hI31, hIb⟩, by omega, fun h1 => ⟨fun h2 => ⟨fun h3 => ?_, fun h3 => ⟨hcl, fun h4 => ?_, fun h4 => ?_⟩⟩, fun h2 => ?_⟩, fun h1 => ?_⟩
  · simp only [ownP, h3, Bool.not_true, Bool.false_and]
  · simp only [ownP, h1, h3, h4, decide_eq_true (show s.length ≤ 200 by omega), Bool.not_false, Bool.and_self]
  · simp only [ownP, h4, Bool.and_false]
  · simp only [ownP, decide_eq_false (show ¬ s.length ≤ 200 by omega), Bool.and_false, Bool.false_and]
  · simp only [ownP, h1, Bool.and_false, Bool.false_and]
end Go.AL.Path
