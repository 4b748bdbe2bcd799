/- Path: PathSplits. -/
import Derived.Test.YtfilcbnobmnopaaDoorP10
set_option linter.unusedSimpArgs false
set_option linter.unusedVariables false
set_option maxRecDepth 100000
namespace Go.AL.Path
open Go Go.RowKit Go.Proofs Go.AL

def c7 : ACode := (.seq (.reg false 0 [⟨(.some 6), none, (.q .mv), [(.c (.imm (.bool false)))]⟩]) (.seq (.reg false 0 [⟨(.some 18), none, (.call true), [(.c (.fn (.func 9) [] []))]⟩, ⟨(.some 7), none, (.q .mv), [(.t 18)]⟩]) (.seq (.reg false 0 [⟨(.some 20), none, (.q .mv), [(.t 0)]⟩, ⟨(.some 21), none, (.call true), [(.c (.fn (.func 12) [] [])), (.t 20)]⟩, ⟨(.some 19), none, (.q .mv), [(.t 21)]⟩, ⟨(.some 22), none, (.q (.ext 0)), [(.t 19)]⟩, ⟨(.some 23), none, (.q (.ext 1)), [(.t 19)]⟩, ⟨(.some 24), none, (.q (.ext 2)), [(.t 19)]⟩, ⟨(.some 8), none, (.q .mv), [(.t 22)]⟩, ⟨(.some 9), none, (.q .mv), [(.t 23)]⟩, ⟨(.some 10), none, (.q .mv), [(.t 24)]⟩]) (.seq (.reg false 0 [⟨(.some 26), none, (.q .mv), [(.t 0)]⟩, ⟨(.some 27), none, (.call true), [(.c (.fn (.func 20) [] [])), (.t 26)]⟩, ⟨(.some 25), none, (.q .mv), [(.t 27)]⟩, ⟨(.some 28), none, (.q (.ext 0)), [(.t 25)]⟩, ⟨(.some 29), none, (.q (.ext 1)), [(.t 25)]⟩, ⟨(.some 30), none, (.q (.ext 2)), [(.t 25)]⟩, ⟨(.some 11), none, (.q .mv), [(.t 28)]⟩, ⟨(.some 12), none, (.q .mv), [(.t 29)]⟩, ⟨(.some 13), none, (.q .mv), [(.t 30)]⟩]) (.seq (.reg false 0 [⟨(.some 32), none, (.q .mv), [(.t 1)]⟩, ⟨(.some 33), none, (.q .mv), [(.t 2)]⟩, ⟨(.some 34), none, (.call true), [(.c (.fn (.func 21) [] [])), (.t 32), (.t 33)]⟩, ⟨(.some 31), none, (.q .mv), [(.t 34)]⟩, ⟨(.some 35), none, (.q (.ext 0)), [(.t 31)]⟩, ⟨(.some 36), none, (.q (.ext 1)), [(.t 31)]⟩, ⟨(.some 14), none, (.q .mv), [(.t 35)]⟩, ⟨(.some 15), none, (.q .mv), [(.t 36)]⟩]) (.seq (.reg false 0 [⟨(.some 38), none, (.q .mv), [(.t 1)]⟩, ⟨(.some 39), none, (.q .mv), [(.t 2)]⟩, ⟨(.some 40), none, (.call true), [(.c (.fn (.func 22) [] [])), (.t 38), (.t 39)]⟩, ⟨(.some 37), none, (.q .mv), [(.t 40)]⟩, ⟨(.some 41), none, (.q (.ext 0)), [(.t 37)]⟩, ⟨(.some 42), none, (.q (.ext 1)), [(.t 37)]⟩, ⟨(.some 16), none, (.q .mv), [(.t 41)]⟩, ⟨(.some 17), none, (.q .mv), [(.t 42)]⟩]) (.seq (.reg false 0 [⟨(.some 43), none, (.q .mv), [(.t 7)]⟩, ⟨(.some 44), none, (.q .mv), [(.t 43)]⟩, ⟨(.some 45), (.some (44, true)), (.q .mv), [(.t 8)]⟩, ⟨(.some 46), (.some (44, true)), (.q .mv), [(.t 11)]⟩, ⟨(.some 47), (.some (44, true)), (.q (.bin .eql 9)), [(.t 45), (.t 46)]⟩, ⟨(.some 48), none, (.q .pick), [(.t 44), (.t 47), (.c (.imm (.bool false)))]⟩, ⟨(.some 49), none, (.q .mv), [(.t 48)]⟩, ⟨(.some 50), (.some (49, true)), (.q .mv), [(.t 9)]⟩, ⟨(.some 51), (.some (49, true)), (.q .mv), [(.t 12)]⟩, ⟨(.some 52), (.some (49, true)), (.q (.bin .eql 9)), [(.t 50), (.t 51)]⟩, ⟨(.some 53), none, (.q .pick), [(.t 49), (.t 52), (.c (.imm (.bool false)))]⟩, ⟨(.some 54), none, (.q .mv), [(.t 53)]⟩, ⟨(.some 55), (.some (54, true)), (.q .mv), [(.t 10)]⟩, ⟨(.some 56), (.some (54, true)), (.q .mv), [(.t 13)]⟩, ⟨(.some 57), (.some (54, true)), (.q (.bin .eql 3)), [(.t 55), (.t 56)]⟩, ⟨(.some 58), none, (.q .pick), [(.t 54), (.t 57), (.c (.imm (.bool false)))]⟩, ⟨(.some 59), none, (.q .mv), [(.t 58)]⟩, ⟨(.some 60), (.some (59, true)), (.q .mv), [(.t 14)]⟩, ⟨(.some 61), (.some (59, true)), (.q .mv), [(.t 16)]⟩, ⟨(.some 62), (.some (59, true)), (.q (.bin .eql 9)), [(.t 60), (.t 61)]⟩, ⟨(.some 63), none, (.q .pick), [(.t 59), (.t 62), (.c (.imm (.bool false)))]⟩, ⟨(.some 64), none, (.q .mv), [(.t 63)]⟩, ⟨(.some 65), (.some (64, true)), (.q .mv), [(.t 15)]⟩, ⟨(.some 66), (.some (64, true)), (.q .mv), [(.t 17)]⟩, ⟨(.some 67), (.some (64, true)), (.q (.bin .eql 3)), [(.t 65), (.t 66)]⟩, ⟨(.some 68), none, (.q .pick), [(.t 64), (.t 67), (.c (.imm (.bool false)))]⟩, ⟨(.some 69), none, (.q .mv), [(.t 68)]⟩, ⟨(.some 70), (.some (69, true)), (.q .mv), [(.t 0)]⟩, ⟨(.some 71), (.some (69, true)), (.call true), [(.c (.fn (.func 19) [] [])), (.t 70)]⟩, ⟨(.some 72), (.some (69, true)), (.q .mv), [(.t 0)]⟩, ⟨(.some 73), (.some (69, true)), (.call true), [(.c (.fn (.func 23) [] [])), (.t 72)]⟩, ⟨(.some 74), (.some (69, true)), (.q (.eqBoo false)), [(.t 71), (.t 73)]⟩, ⟨(.some 75), none, (.q .pick), [(.t 69), (.t 74), (.c (.imm (.bool false)))]⟩, ⟨(.some 76), none, (.q .mv), [(.t 75)]⟩, ⟨(.some 77), (.some (76, true)), (.q .mv), [(.t 0)]⟩, ⟨(.some 78), (.some (76, true)), (.call true), [(.c (.fn (.func 10) [] [])), (.t 77)]⟩, ⟨(.some 79), (.some (76, true)), (.q .mv), [(.t 0)]⟩, ⟨(.some 80), (.some (76, true)), (.call true), [(.c (.fn (.func 24) [] [])), (.t 79)]⟩, ⟨(.some 81), (.some (76, true)), (.q (.eqBoo false)), [(.t 78), (.t 80)]⟩, ⟨(.some 82), none, (.q .pick), [(.t 76), (.t 81), (.c (.imm (.bool false)))]⟩, ⟨(.some 6), none, (.q .mv), [(.t 82)]⟩]) .ret)))))))
theorem fn7 : IsFn Tryd.prog 7 [] c7 [6] 83 := ⟨_, _, Tryd.func7, rfl, by decide +kernel, by kernel_rfl, rfl, rfl⟩
set_option maxHeartbeats 4000000 in
theorem p7 (s p n : List UInt8) (hs : s.length ≤ 1099511627) (hp : p.length ≤ 1099511627) (hn : n.length ≤ 1099511627) : Pure Tryd.prog G 7 [T s, T p, T n] (bool true) := by
  refine pure_of_code' (S := sp [(9, none0 (bool true)), (12, splitSp), (20, splitSp), (21, joinSp), (22, joinSp), (19, txt1b (fun l => l.length ≤ 1099511627776) mayP), (23, txt1b (fun l => l.length ≤ 1099511627776) mayP), (10, txt1b (fun l => l.length ≤ 1099511627) ownP), (24, txt1b (fun l => l.length ≤ 1099511627) ownP)] []) hm hG
    (sp_holds (.cons (told_none0 p9) (.cons (told_split p12) (.cons (told_split p20) (.cons (told_join p21) (.cons (told_join p22) (.cons (told_txt1b p19) (.cons (told_txt1b p23) (.cons (told_txt1b p10) (.cons (told_txt1b p24) .nil))))))))) .nil) fn7 ([T s, T p, T n, .junk, .junk, .junk, .junk, .junk, .junk, .junk, .junk, .junk, .junk, .junk, .junk, .junk, .junk, .junk, .junk, .junk, .junk, .junk, .junk, .junk, .junk, .junk, .junk, .junk, .junk, .junk, .junk, .junk, .junk, .junk, .junk, .junk, .junk, .junk, .junk, .junk, .junk, .junk, .junk, .junk, .junk, .junk, .junk, .junk, .junk, .junk, .junk, .junk, .junk, .junk, .junk, .junk, .junk, .junk, .junk, .junk, .junk, .junk, .junk, .junk, .junk, .junk, .junk, .junk, .junk, .junk, .junk, .junk, .junk, .junk, .junk, .junk, .junk, .junk, .junk, .junk, .junk, .junk, .junk]) rfl (by simp [lows, AV.low]) (by simp [AV.low]) ?_
  have hs' : s.length ≤ 1099511627776 := by omega
  have e1 : ∃ a b c, ∀ K, ask splitSp [T s] K = (s.length ≤ 1099511627776 ∧ K (.tup [T a, T b, i64 c])) := by
    cases hx : splitP s with
    | none => exact ⟨[], [], 9, fun K => by rw [ask_split, hx]; simp⟩
    | some x => exact ⟨x.1, x.2, 0, fun K => by rw [ask_split, hx]; cases x; simp⟩
  have e2 : ∃ t c, ∀ K, ask joinSp [T p, T n] K = ((p.length ≤ 1099511627 ∧ n.length ≤ 1099511627) ∧ K (.tup [T t, i64 c])) := by
    cases hx : joinP p n with
    | none => exact ⟨[], 9, fun K => by rw [ask_join, hx]; simp⟩
    | some x => exact ⟨x, 0, fun K => by rw [ask_join, hx]; simp⟩
  obtain ⟨a, b, c, e1⟩ := e1
  obtain ⟨t, c', e2⟩ := e2
  simp (maxSteps := 2000000) -implicitDefEqProofs only [c7, ↓RP0, ↓RP1, ↓RP2, ↓RP3, RV, List.map_cons, List.map_nil, List.cons_append, List.nil_append, List.append_nil, List.length_cons, List.length_nil, List.getElem?_cons_zero, List.getElem?_cons_succ, List.set_cons_zero, List.set_cons_succ, true_imp_iff, false_imp_iff, not_true_eq_false, not_false_eq_true, and_true, true_and, and_false, false_and, implies_true, ↓reduceIte, Bool.false_eq_true, Bool.true_eq_false, Bool.not_eq_true, Bool.not_true, Bool.not_false, beq_self_eq_true, Bool.true_beq, Bool.false_beq, List.take_zero, List.drop_zero, List.take_succ_cons, List.drop_succ_cons, List.take_nil, List.drop_nil, List.replicate_zero, List.replicate_succ, Nat.reduceAdd, Nat.reduceSub, Nat.reduceMul, Nat.reduceLeDiff, Nat.reduceEqDiff, Nat.zero_add, Nat.add_zero, Int.reduceLT, Int.reduceLE, Int.reduceEq, Int.reduceNe, Int.reduceAdd, Int.reduceSub, Int.reduceMul, Int.reduceNeg, Int.reduceToNat, Int.toNat_natCast, Int.natCast_nonneg, Int.natCast_zero, Nat.lt_irrefl, Option.some.injEq, reduceCtorEq, Option.map_some, ne_eq, ↓e1, ↓e2, hs, hs', hp, hn, and_self, Int.lt_irrefl, eq_self]
  cases mayP s <;> cases ownP s <;> simp

theorem goParts_tail : ∀ (l cur : List UInt8), goParts cur (l ++ [47]) = false
  | [], cur => by simp [goParts, partOk]
  | c :: l, cur => by
    rw [List.cons_append, goParts]
    split
    · rw [goParts_tail l [], Bool.and_false]
    · exact goParts_tail l _
theorem partsOk_tail (l : List UInt8) : partsOk (l ++ [47]) = false := goParts_tail l []
theorem partsOk_head (l : List UInt8) : partsOk (47 :: l) = false := by simp [partsOk, goParts, partOk]
theorem partsOk_nil : partsOk [] = false := by simp [partsOk, goParts, partOk]

theorem splitP_inv {s a b : List UInt8} (h : splitP s = some (a, b)) : joinP a b = some s ∧ a.length ≤ 155 ∧ b.length ≤ 100 ∧ b ≠ [] := by
  have hs := h
  unfold splitP at h
  split at h
  · cases h
  · rename_i hok
    have hok1 : partsOk s = true := by
      cases hp : partsOk s
      · exact absurd (.inl hp) hok
      · rfl
    split at h
    · rename_i h100
      simp only [Option.some.injEq, Prod.mk.injEq] at h
      obtain ⟨rfl, rfl⟩ := h
      refine ⟨?_, by simp, h100, fun e => ?_⟩
      · unfold joinP
        simp only [if_true]
        rw [hs]; simp
      · rw [e, partsOk_nil] at hok1; cases hok1
    · rename_i h100
      dsimp only at h
      obtain ⟨n, hn⟩ : ∃ n, Lib.indexByte (s.drop (s.length - 101)) 47 = n := ⟨_, rfl⟩
      rw [hn] at h
      split at h
      · cases h
      · rename_i hc
        simp only [Option.some.injEq, Prod.mk.injEq] at h
        obtain ⟨ha, hb⟩ := h
        obtain ⟨o, ho⟩ := Int.eq_ofNat_of_zero_le (show 0 ≤ n by omega)
        subst ho
        have h47 := (Lib.indexByte_some hn).1
        rw [List.getElem?_drop] at h47
        simp only [Int.toNat_natCast, Int.ofNat_eq_natCast] at ha hb hc
        obtain ⟨k, hk⟩ : ∃ k, s.length - 101 + o = k := ⟨_, rfl⟩
        rw [hk] at ha hb h47
        obtain ⟨hkl, hke⟩ := List.getElem?_eq_some_iff.1 h47
        have hsplit : s = a ++ [47] ++ b := by
          rw [← ha, ← hb]
          have := List.take_append_drop k s
          rw [List.drop_eq_getElem_cons hkl, hke] at this
          simpa using this.symm
        have hane : a ≠ [] := by
          intro e
          rw [hsplit, e] at hok1
          have := partsOk_head b
          simp only [List.nil_append, List.cons_append] at hok1
          rw [this] at hok1; cases hok1
        have hbne : b ≠ [] := by
          intro e
          rw [hsplit, e, List.append_nil, partsOk_tail] at hok1
          cases hok1
        refine ⟨?_, by rw [← ha]; simp; omega, by rw [← hb]; simp; omega, hbne⟩
        unfold joinP
        simp only [hane, if_false]
        rw [← hsplit, hs]; simp
theorem joinP_inv {p n t : List UInt8} (h : joinP p n = some t) : splitP t = some (p, n) := by
  unfold joinP at h
  dsimp only at h
  generalize (if p = [] then n else p ++ [47] ++ n) = S at h
  by_cases e : splitP S = some (p, n)
  · rw [if_pos e] at h; cases h; exact e
  · rw [if_neg e] at h; cases h
theorem splitP_len {s a b : List UInt8} (h : splitP s = some (a, b)) : s.length ≤ 254 := by
  unfold splitP at h
  split at h
  · cases h
  · omega

end Go.AL.Path
