/- Path: the document's paths, and copies. -/
import Derived.Test.YtofokmpdioblkaaGreatDoorG19
set_option linter.unusedSimpArgs false
set_option linter.unusedVariables false
set_option maxRecDepth 100000
namespace Go.AL.Path
open Go Go.RowKit Go.Proofs Go.AL

theorem indexByte_of {l : List UInt8} {c : UInt8} {k : Nat} (h : l[k]? = some c) (hn : ∀ j, j < k → l[j]? ≠ some c) : Lib.indexByte l c = k := by
  have h1 := Lib.indexByte_ge l c
  rcases (by omega : Lib.indexByte l c = -1 ∨ 0 ≤ Lib.indexByte l c) with h2 | h2
  · exact absurd h (Lib.indexByte_none h2 k)
  · obtain ⟨o, ho⟩ := Int.eq_ofNat_of_zero_le h2
    obtain ⟨h3, h4⟩ := Lib.indexByte_some ho
    rcases Nat.lt_trichotomy o k with h5 | h5 | h5
    · exact absurd h3 (hn o h5)
    · rw [ho, h5]
    · exact absurd h (h4 k h5)
theorem indexByte_not {l : List UInt8} {c : UInt8} (hn : ∀ j : Nat, l[j]? ≠ some c) : Lib.indexByte l c = -1 := by
  have h1 := Lib.indexByte_ge l c
  rcases (by omega : Lib.indexByte l c = -1 ∨ 0 ≤ Lib.indexByte l c) with h2 | h2
  · exact h2
  · obtain ⟨o, ho⟩ := Int.eq_ofNat_of_zero_le h2
    exact absurd (Lib.indexByte_some ho).1 (hn o)

theorem splitV_low (s : List UInt8) : (splitV s).low 0 := by unfold splitV; split <;> simp [AV.low, lows]
theorem joinV_low (p n : List UInt8) : (joinV p n).low 0 := by unfold joinV; split <;> simp [AV.low, lows]

/-- A call of Split; of Join. -/
def splitSp : PSp := fun args K => match args with
  | [.imm (.string a)] => a.data.toList.length ≤ 1099511627776 ∧ (∀ x y, splitP a.data.toList = some (x, y) → K (.tup [T x, T y, i64 0])) ∧ (splitP a.data.toList = none → K (.tup [T [], T [], i64 9]))
  | _ => False
theorem ask_split {l : List UInt8} {K} : ask splitSp [T l] K = (l.length ≤ 1099511627776 ∧ (∀ x y, splitP l = some (x, y) → K (.tup [T x, T y, i64 0])) ∧ (splitP l = none → K (.tup [T [], T [], i64 9]))) := rfl
theorem told_split {F} (h : ∀ l : List UInt8, l.length ≤ 1099511627776 → Pure Tryz.prog G F [T l] (splitV l)) : Told Tryz.prog G F splitSp := by
  intro args K hk
  unfold splitSp at hk
  split at hk
  · rename_i a
    refine ⟨_, h _ hk.1, ?_⟩
    unfold splitV
    split
    · exact hk.2.1 _ _ (by assumption)
    · exact hk.2.2 (by assumption)
  · exact hk.elim
def joinSp : PSp := fun args K => match args with
  | [.imm (.string a), .imm (.string b)] => (a.data.toList.length ≤ 1099511627 ∧ b.data.toList.length ≤ 1099511627) ∧ (∀ x, joinP a.data.toList b.data.toList = some x → K (.tup [T x, i64 0])) ∧ (joinP a.data.toList b.data.toList = none → K (.tup [T [], i64 9]))
  | _ => False
theorem ask_join {l m : List UInt8} {K} : ask joinSp [T l, T m] K = ((l.length ≤ 1099511627 ∧ m.length ≤ 1099511627) ∧ (∀ x, joinP l m = some x → K (.tup [T x, i64 0])) ∧ (joinP l m = none → K (.tup [T [], i64 9]))) := rfl
theorem told_join {F} (h : ∀ l m : List UInt8, l.length ≤ 1099511627 → m.length ≤ 1099511627 → Pure Tryz.prog G F [T l, T m] (joinV l m)) : Told Tryz.prog G F joinSp := by
  intro args K hk
  unfold joinSp at hk
  split at hk
  · refine ⟨_, h _ _ hk.1.1 hk.1.2, ?_⟩
    unfold joinV
    split
    · exact hk.2.1 _ (by assumption)
    · exact hk.2.2 (by assumption)
  · exact hk.elim

def c53 : ACode := (.seq (.reg false 0 [⟨(.some 2), none, (.q .mv), [(.c (.imm (.string (B []))))]⟩, ⟨(.some 3), none, (.q .mv), [(.c (.imm (.string (B []))))]⟩, ⟨(.some 4), none, (.q .mv), [(.c (.imm (.int .i64 0)))]⟩]) (.seq (.seq (.reg false 0 [⟨(.some 6), none, (.q .mv), [(.t 0)]⟩, ⟨(.some 7), none, (.call true), [(.c (.fn (.func 68) [] [])), (.t 6)]⟩, ⟨(.some 8), none, (.q (.un .not)), [(.t 7)]⟩, ⟨(.some 9), none, (.q .mv), [(.t 8)]⟩, ⟨(.some 10), (.some (9, false)), (.q .mv), [(.t 0)]⟩, ⟨(.some 11), (.some (9, false)), (.q .lenS), [(.t 10)]⟩, ⟨(.some 12), (.some (9, false)), (.q (.bin .gtr 3)), [(.t 11), (.c (.imm (.int .i64 254)))]⟩, ⟨(.some 13), none, (.q .pick), [(.t 9), (.c (.imm (.bool true))), (.t 12)]⟩]) (.cond (.t 13) (.seq (.reg false 0 [⟨(.some 2), none, (.q .mv), [(.c (.imm (.string (B []))))]⟩, ⟨(.some 3), none, (.q .mv), [(.c (.imm (.string (B []))))]⟩, ⟨(.some 4), none, (.q .mv), [(.c (.imm (.int .i64 9)))]⟩]) .ret) .skip)) (.seq (.seq (.reg false 0 [⟨(.some 14), none, (.q .mv), [(.t 0)]⟩, ⟨(.some 15), none, (.q .lenS), [(.t 14)]⟩, ⟨(.some 16), none, (.q (.bin .leq 3)), [(.t 15), (.c (.imm (.int .i64 100)))]⟩]) (.cond (.t 16) (.seq (.reg false 0 [⟨(.some 17), none, (.q .mv), [(.t 0)]⟩, ⟨(.some 2), none, (.q .mv), [(.c (.imm (.string (B []))))]⟩, ⟨(.some 3), none, (.q .mv), [(.t 17)]⟩, ⟨(.some 4), none, (.q .mv), [(.c (.imm (.int .i64 0)))]⟩]) .ret) .skip)) (.seq (.seq (.reg false 0 [⟨(.some 5), none, (.q .mv), [(.c (.imm (.int .i64 0)))]⟩]) (.block 0 (.loop (.seq (.seq (.reg false 0 [⟨(.some 18), none, (.q .mv), [(.t 5)]⟩, ⟨(.some 19), none, (.q .mv), [(.t 0)]⟩, ⟨(.some 20), none, (.q .lenS), [(.t 19)]⟩, ⟨(.some 21), none, (.q (.bin .lss 3)), [(.t 18), (.t 20)]⟩]) (.cond (.t 21) .skip (.exit 0))) (.seq (.block 1 (.seq (.reg false 0 [⟨(.some 24), none, (.q .mv), [(.t 0)]⟩, ⟨(.some 25), none, (.q .mv), [(.t 5)]⟩, ⟨(.some 26), none, (.q .idxS), [(.t 24), (.t 25)]⟩, ⟨(.some 27), none, (.q (.bin .eql 5)), [(.t 26), (.c (.imm (.int .u8 47)))]⟩, ⟨(.some 28), none, (.q .mv), [(.t 27)]⟩, ⟨(.some 29), (.some (28, true)), (.q .mv), [(.t 0)]⟩, ⟨(.some 30), (.some (28, true)), (.q .lenS), [(.t 29)]⟩, ⟨(.some 31), (.some (28, true)), (.q .mv), [(.t 5)]⟩, ⟨(.some 32), (.some (28, true)), (.q (.bin .sub 3)), [(.t 30), (.t 31)]⟩, ⟨(.some 33), (.some (28, true)), (.q (.bin .sub 3)), [(.t 32), (.c (.imm (.int .i64 1)))]⟩, ⟨(.some 34), (.some (28, true)), (.q (.bin .leq 3)), [(.t 33), (.c (.imm (.int .i64 100)))]⟩, ⟨(.some 35), none, (.q .pick), [(.t 28), (.t 34), (.c (.imm (.bool false)))]⟩]) (.cond (.t 35) (.seq (.seq (.reg false 0 [⟨(.some 36), none, (.q .mv), [(.t 5)]⟩, ⟨(.some 37), none, (.q (.bin .gtr 3)), [(.t 36), (.c (.imm (.int .i64 155)))]⟩]) (.cond (.t 37) (.seq (.reg false 0 [⟨(.some 2), none, (.q .mv), [(.c (.imm (.string (B []))))]⟩, ⟨(.some 3), none, (.q .mv), [(.c (.imm (.string (B []))))]⟩, ⟨(.some 4), none, (.q .mv), [(.c (.imm (.int .i64 9)))]⟩]) .ret) .skip)) (.seq (.reg true 0 [⟨(.some 38), none, (.q .mv), [(.t 0)]⟩, ⟨(.some 39), none, (.q .mv), [(.t 5)]⟩, ⟨(.some 40), none, (.q (.sliceS false true)), [(.t 38), (.t 39)]⟩, ⟨(.some 41), none, (.q .mv), [(.t 0)]⟩, ⟨(.some 42), none, (.q .mv), [(.t 5)]⟩, ⟨(.some 43), none, (.q (.bin .add 3)), [(.t 42), (.c (.imm (.int .i64 1)))]⟩, ⟨(.some 44), none, (.q (.sliceS true false)), [(.t 41), (.t 43)]⟩, ⟨(.some 2), none, (.q .mv), [(.t 40)]⟩, ⟨(.some 3), none, (.q .mv), [(.t 44)]⟩, ⟨(.some 4), none, (.q .mv), [(.c (.imm (.int .i64 0)))]⟩]) .ret)) .skip))) (.reg false 0 [⟨(.some 22), none, (.q .mv), [(.t 5)]⟩, ⟨(.some 23), none, (.q (.bin .add 3)), [(.t 22), (.c (.imm (.int .i64 1)))]⟩, ⟨(.some 5), none, (.q .mv), [(.t 23)]⟩])))))) (.seq (.reg false 0 [⟨(.some 2), none, (.q .mv), [(.c (.imm (.string (B []))))]⟩, ⟨(.some 3), none, (.q .mv), [(.c (.imm (.string (B []))))]⟩, ⟨(.some 4), none, (.q .mv), [(.c (.imm (.int .i64 9)))]⟩]) .ret)))))
theorem fn53 : IsFn Tryz.prog 53 [] c53 [2, 3, 4] 45 := ⟨_, _, Tryz.func53, rfl, by decide +kernel, by kernel_rfl, rfl, rfl⟩
theorem p53 (s : List UInt8) (hs : s.length ≤ 1099511627776) : Pure Tryz.prog G 53 [T s] (splitV s) := by
  refine pure_of_code' (S := sp [(68, txt1b (fun l => l.length ≤ 1099511627776) partsOk)] []) hm hG (sp_holds (.cons (told_txt1b p68) .nil) .nil) fn53 ([T s, .junk, .junk, .junk, .junk, .junk, .junk, .junk, .junk, .junk, .junk, .junk, .junk, .junk, .junk, .junk, .junk, .junk, .junk, .junk, .junk, .junk, .junk, .junk, .junk, .junk, .junk, .junk, .junk, .junk, .junk, .junk, .junk, .junk, .junk, .junk, .junk, .junk, .junk, .junk, .junk, .junk, .junk, .junk, .junk]) rfl (by simp [lows, AV.low]) (splitV_low s) ?_
  simp (maxSteps := 2000000) -implicitDefEqProofs only [c53, ↓RP0, ↓RP1, ↓RP2, ↓RP3, RV, RW, ↓reduceIte, Nat.reduceAdd, Nat.reduceSub, Nat.reduceMul, Nat.reduceLeDiff, Nat.reduceEqDiff, Int.reduceLT, Int.reduceLE, Int.reduceEq, Int.reduceNe, Int.reduceAdd, Int.reduceSub, Int.reduceMul, Int.reduceNeg, Int.reduceToNat, reduceCtorEq]
  have key : ∀ x y, splitP s = some (x, y) → AV.tup [T x, T y, i64 0] = splitV s := by intro x y h; unfold splitV; rw [h]
  have keyn : splitP s = none → AV.tup [T [], T [], i64 9] = splitV s := by intro h; unfold splitV; rw [h]
  refine ⟨hs, fun hp => ⟨fun h => ?_, fun h => ⟨fun h1 => ?_, fun h1 => ?_⟩⟩, fun hp => ?_⟩
  · exact keyn (by unfold splitP; rw [if_pos (.inr (by omega))])
  · exact key _ _ (by unfold splitP; rw [if_neg (by simp [hp]; omega), if_pos (by omega)])
  · have hsp : splitP s = (let n := Lib.indexByte (s.drop (s.length - 101)) 47
        if n < 0 ∨ ((s.length - 101 : Nat) : Int) + n > 155 then none else some (s.take (s.length - 101 + n.toNat), s.drop (s.length - 101 + n.toNat + 1))) := by
      unfold splitP; rw [if_neg (by simp [hp]; omega), if_neg (by omega)]
    refine loopB (st := fun (i : Nat) => [T s, .junk, T [], T [], i64 0, i64 i, .junk, .junk, .junk, .junk, .junk, .junk, .junk, .junk, .junk, .junk, .junk, .junk, .junk, .junk, .junk, .junk, .junk, .junk, .junk, .junk, .junk, .junk, .junk, .junk, .junk, .junk, .junk, .junk, .junk, .junk, .junk, .junk, .junk, .junk, .junk, .junk, .junk, .junk, .junk])
      (hp := fun _ => []) (I := fun i => i ≤ s.length ∧ ∀ j, j < i → s[j]? = some 47 → ¬ s.length - j - 1 ≤ 100) (m := fun i => s.length - i) (0 : Nat) ⟨Nat.zero_le _, fun j h => absurd h (Nat.not_lt_zero j)⟩ ?_ ?_
    · refine weak_nil ?_; simp [WeakL, AV.low, lows]
    · rintro i ⟨hi, he⟩
      simp (maxSteps := 2000000) -implicitDefEqProofs only [↓RP0, ↓RP1, ↓RP2, ↓RP3, RV, RW, ↓reduceIte, Nat.reduceAdd, Nat.reduceSub, Nat.reduceMul, Nat.reduceLeDiff, Nat.reduceEqDiff, Int.reduceLT, Int.reduceLE, Int.reduceEq, Int.reduceNe, Int.reduceAdd, Int.reduceSub, Int.reduceMul, Int.reduceNeg, Int.reduceToNat, reduceCtorEq]
      have next : ∀ ts, (¬ (s[i]? = some 47 ∧ s.length - i - 1 ≤ 100)) → i < s.length → WeakL 0 ts [T s, .junk, T [], T [], i64 0, i64 ((i + 1 : Nat) : Int), .junk, .junk, .junk, .junk, .junk, .junk, .junk, .junk, .junk, .junk, .junk, .junk, .junk, .junk, .junk, .junk, .junk, .junk, .junk, .junk, .junk, .junk, .junk, .junk, .junk, .junk, .junk, .junk, .junk, .junk, .junk, .junk, .junk, .junk, .junk, .junk, .junk, .junk, .junk] →
          Again 0 (fun (i : Nat) => [T s, .junk, T [], T [], i64 0, i64 i, .junk, .junk, .junk, .junk, .junk, .junk, .junk, .junk, .junk, .junk, .junk, .junk, .junk, .junk, .junk, .junk, .junk, .junk, .junk, .junk, .junk, .junk, .junk, .junk, .junk, .junk, .junk, .junk, .junk, .junk, .junk, .junk, .junk, .junk, .junk, .junk, .junk, .junk, .junk])
            (fun _ => []) (fun i => i ≤ s.length ∧ ∀ j, j < i → s[j]? = some 47 → ¬ s.length - j - 1 ≤ 100) (fun i => s.length - i) i ts [] := by
        intro ts h1 h2 hw
        refine ⟨i + 1, by dsimp only; omega, ⟨by omega, fun j hj hs => ?_⟩, weak_nil hw⟩
        by_cases e : j = i
        · subst e; exact fun h => h1 ⟨hs, h⟩
        · exact he j (by omega) hs
      refine ⟨fun hlt => ⟨hlt, fun hb => ⟨⟨by omega, by omega⟩, ⟨by omega, by omega⟩, fun hc => ⟨fun hd => ?_, fun hd => ?_⟩, fun hc => ⟨⟨by omega, by omega⟩, ?_⟩⟩, fun hb => ⟨⟨by omega, by omega⟩, ?_⟩⟩, fun hge => ?_⟩
      · have hk : Lib.indexByte (s.drop (s.length - 101)) 47 = ((i - (s.length - 101) : Nat) : Int) := by
          refine indexByte_of ?_ fun j hj hcj => ?_
          · rw [List.getElem?_drop]
            rw [show s.length - 101 + (i - (s.length - 101)) = i by omega]
            exact (at'_eq (by omega) 47).1 hb
          · rw [List.getElem?_drop] at hcj
            exact he _ (by omega) hcj (by omega)
        exact keyn (by rw [hsp, hk]; dsimp only; rw [if_pos (by omega)])
      · have hk : Lib.indexByte (s.drop (s.length - 101)) 47 = ((i - (s.length - 101) : Nat) : Int) := by
          refine indexByte_of ?_ fun j hj hcj => ?_
          · rw [List.getElem?_drop]
            rw [show s.length - 101 + (i - (s.length - 101)) = i by omega]
            exact (at'_eq (by omega) 47).1 hb
          · rw [List.getElem?_drop] at hcj
            exact he _ (by omega) hcj (by omega)
        refine ⟨by omega, ⟨by omega, by omega⟩, by omega, by omega, ?_⟩
        have e1 : s.length - 101 + (i - (s.length - 101)) = i := by omega
        have := key (s.take i) (s.drop (i + 1)) (by rw [hsp, hk]; dsimp only; rw [if_neg (by omega), Int.toNat_natCast, e1])
        rw [← this]
        have e2 : ((i : Int) + 1).toNat = i + 1 := by omega
        rw [e2, List.take_length]
      · exact next _ (fun h => by omega) (by omega) (by simp [WeakL, AV.low, lows])
      · exact next _ (fun h => hb (((at'_eq (by omega) 47).2 h.1).trans rfl)) (by omega) (by simp [WeakL, AV.low, lows])
      · have hk : Lib.indexByte (s.drop (s.length - 101)) 47 = -1 := by
          refine indexByte_not fun j hj => ?_
          rw [List.getElem?_drop] at hj
          have hl : s.length - 101 + j < s.length := by
            rcases Nat.lt_or_ge (s.length - 101 + j) s.length with h | h
            · exact h
            · rw [List.getElem?_eq_none h] at hj; cases hj
          exact he _ (by omega) hj (by omega)
        exact keyn (by rw [hsp, hk]; dsimp only; rw [if_pos (by omega)])
  · exact keyn (by unfold splitP; rw [if_pos (.inl hp)])

def c32 : ACode := (.seq (.reg false 0 [⟨(.some 2), none, (.q .mv), [(.c (.imm (.bool false)))]⟩]) (.seq (.reg false 0 [⟨(.some 7), none, (.q .mv), [(.t 0)]⟩, ⟨(.some 8), none, (.call true), [(.c (.fn (.func 53) [] [])), (.t 7)]⟩, ⟨(.some 6), none, (.q .mv), [(.t 8)]⟩, ⟨(.some 9), none, (.q (.ext 0)), [(.t 6)]⟩, ⟨(.some 10), none, (.q (.ext 1)), [(.t 6)]⟩, ⟨(.some 11), none, (.q (.ext 2)), [(.t 6)]⟩, ⟨(.some 3), none, (.q .mv), [(.t 9)]⟩, ⟨(.some 4), none, (.q .mv), [(.t 10)]⟩, ⟨(.some 5), none, (.q .mv), [(.t 11)]⟩]) (.seq (.reg false 0 [⟨(.some 12), none, (.q .mv), [(.t 5)]⟩, ⟨(.some 13), none, (.q (.bin .eql 3)), [(.t 12), (.c (.imm (.int .i64 0)))]⟩, ⟨(.some 2), none, (.q .mv), [(.t 13)]⟩]) .ret)))
theorem fn32 : IsFn Tryz.prog 32 [] c32 [2] 14 := ⟨_, _, Tryz.func32, rfl, by decide +kernel, by kernel_rfl, rfl, rfl⟩
theorem p32 (s : List UInt8) (hs : s.length ≤ 1099511627776) : Pure Tryz.prog G 32 [T s] (bool (mayP s)) := by
  refine pure_of_code' (S := sp [(53, splitSp)] []) hm hG (sp_holds (.cons (told_split p53) .nil) .nil) fn32 ([T s, .junk, .junk, .junk, .junk, .junk, .junk, .junk, .junk, .junk, .junk, .junk, .junk, .junk]) rfl (by simp [lows, AV.low]) (by simp [AV.low]) ?_
  simp (maxSteps := 2000000) -implicitDefEqProofs only [c32, ↓RP0, ↓RP1, ↓RP2, ↓RP3, RV, RW, ↓reduceIte, Nat.reduceAdd, Nat.reduceSub, Nat.reduceMul, Nat.reduceLeDiff, Nat.reduceEqDiff, Int.reduceLT, Int.reduceLE, Int.reduceEq, Int.reduceNe, Int.reduceAdd, Int.reduceSub, Int.reduceMul, Int.reduceNeg, Int.reduceToNat, reduceCtorEq, ↓ask_split]
  refine ⟨hs, fun x y h => ?_, fun h => ?_⟩ <;> simp [mayP, h]



theorem itoa31 : Lib.itoa 31 = [51, 49] := by
  rw [itoa_pos (by decide), show (31 : Int).tdiv 10 = 3 by decide, itoa_small (by decide) (by decide)]; decide
theorem itoa_two {n : Int} {l : List UInt8} (h : 10 ≤ n) (hl : Lib.itoa (n.tdiv 10) = l) : Lib.itoa n = l ++ [UInt8.ofNat (48 + n.tmod 10).toNat] := by rw [itoa_pos h, hl]
theorem itoaBig : Lib.itoa 1099511627776 = [49, 48, 57, 57, 53, 49, 49, 54, 50, 55, 55, 55, 54] := by
  have h0 : Lib.itoa 1 = [49] := by rw [itoa_small (by decide) (by decide)]; decide
  have h1 : Lib.itoa 10 = [49, 48] := itoa_two (n := 10) (by decide) h0
  have h2 : Lib.itoa 109 = [49, 48, 57] := itoa_two (n := 109) (by decide) h1
  have h3 : Lib.itoa 1099 = [49, 48, 57, 57] := itoa_two (n := 1099) (by decide) h2
  have h4 : Lib.itoa 10995 = [49, 48, 57, 57, 53] := itoa_two (n := 10995) (by decide) h3
  have h5 : Lib.itoa 109951 = [49, 48, 57, 57, 53, 49] := itoa_two (n := 109951) (by decide) h4
  have h6 : Lib.itoa 1099511 = [49, 48, 57, 57, 53, 49, 49] := itoa_two (n := 1099511) (by decide) h5
  have h7 : Lib.itoa 10995116 = [49, 48, 57, 57, 53, 49, 49, 54] := itoa_two (n := 10995116) (by decide) h6
  have h8 : Lib.itoa 109951162 = [49, 48, 57, 57, 53, 49, 49, 54, 50] := itoa_two (n := 109951162) (by decide) h7
  have h9 : Lib.itoa 1099511627 = [49, 48, 57, 57, 53, 49, 49, 54, 50, 55] := itoa_two (n := 1099511627) (by decide) h8
  have h10 : Lib.itoa 10995116277 = [49, 48, 57, 57, 53, 49, 49, 54, 50, 55, 55] := itoa_two (n := 10995116277) (by decide) h9
  have h11 : Lib.itoa 109951162777 = [49, 48, 57, 57, 53, 49, 49, 54, 50, 55, 55, 55] := itoa_two (n := 109951162777) (by decide) h10
  exact itoa_two (n := 1099511627776) (by decide) h11
theorem longest_eq : longest = [126, 51, 49, 45, 49, 48, 57, 57, 53, 49, 49, 54, 50, 55, 55, 55, 54] := by unfold longest; rw [itoa31, itoaBig]; rfl

def c12 : ACode := (.seq (.reg false 0 [⟨(.some 2), none, (.q .mv), [(.c (.imm (.bool false)))]⟩]) (.seq (.seq (.reg false 0 [⟨(.some 3), none, (.q .mv), [(.c (.imm (.int .i64 0)))]⟩]) (.block 0 (.loop (.seq (.seq (.reg false 0 [⟨(.some 4), none, (.q .mv), [(.t 3)]⟩, ⟨(.some 5), none, (.q .mv), [(.t 0)]⟩, ⟨(.some 6), none, (.q .lenS), [(.t 5)]⟩, ⟨(.some 7), none, (.q (.bin .lss 3)), [(.t 4), (.t 6)]⟩]) (.cond (.t 7) .skip (.exit 0))) (.seq (.block 1 (.seq (.reg false 0 [⟨(.some 10), none, (.q .mv), [(.t 0)]⟩, ⟨(.some 11), none, (.q .mv), [(.t 3)]⟩, ⟨(.some 12), none, (.q .idxS), [(.t 10), (.t 11)]⟩, ⟨(.some 13), none, (.q (.bin .eql 5)), [(.t 12), (.c (.imm (.int .u8 126)))]⟩]) (.cond (.t 13) (.seq (.reg false 0 [⟨(.some 2), none, (.q .mv), [(.c (.imm (.bool false)))]⟩]) .ret) .skip))) (.reg false 0 [⟨(.some 8), none, (.q .mv), [(.t 3)]⟩, ⟨(.some 9), none, (.q (.bin .add 3)), [(.t 8), (.c (.imm (.int .i64 1)))]⟩, ⟨(.some 3), none, (.q .mv), [(.t 9)]⟩])))))) (.seq (.reg false 0 [⟨(.some 14), none, (.q .mv), [(.t 0)]⟩, ⟨(.some 15), none, (.call true), [(.c (.fn (.func 32) [] [])), (.t 14)]⟩, ⟨(.some 16), none, (.q .mv), [(.t 15)]⟩, ⟨(.some 17), (.some (16, true)), (.q .mv), [(.t 0)]⟩, ⟨(.some 18), (.some (16, true)), (.q .lenS), [(.t 17)]⟩, ⟨(.some 19), (.some (16, true)), (.q (.bin .leq 3)), [(.t 18), (.c (.imm (.int .i64 200)))]⟩, ⟨(.some 20), none, (.q .pick), [(.t 16), (.t 19), (.c (.imm (.bool false)))]⟩, ⟨(.some 21), none, (.q .mv), [(.t 20)]⟩, ⟨(.some 22), (.some (21, true)), (.q .mv), [(.t 0)]⟩, ⟨(.some 23), (.some (21, true)), (.q (.bin .add 9)), [(.t 22), (.c (.imm (.string (B [126, 51, 49, 45, 49, 48, 57, 57, 53, 49, 49, 54, 50, 55, 55, 55, 54]))))]⟩, ⟨(.some 24), (.some (21, true)), (.call true), [(.c (.fn (.func 32) [] [])), (.t 23)]⟩, ⟨(.some 25), none, (.q .pick), [(.t 21), (.t 24), (.c (.imm (.bool false)))]⟩, ⟨(.some 2), none, (.q .mv), [(.t 25)]⟩]) .ret)))
theorem fn12 : IsFn Tryz.prog 12 [] c12 [2] 26 := ⟨_, _, Tryz.func12, rfl, by decide +kernel, by kernel_rfl, rfl, rfl⟩
theorem p12 (s : List UInt8) (hs : s.length ≤ 1099511627) : Pure Tryz.prog G 12 [T s] (bool (ownP s)) := by
  refine pure_of_code' (S := sp [(32, txt1b (fun l => l.length ≤ 1099511627776) mayP)] []) hm hG (sp_holds (.cons (told_txt1b p32) .nil) .nil) fn12 ([T s, .junk, .junk, .junk, .junk, .junk, .junk, .junk, .junk, .junk, .junk, .junk, .junk, .junk, .junk, .junk, .junk, .junk, .junk, .junk, .junk, .junk, .junk, .junk, .junk, .junk]) rfl (by simp [lows, AV.low]) (by simp [AV.low]) ?_
  simp (maxSteps := 2000000) -implicitDefEqProofs only [c12, ↓RP0, ↓RP1, ↓RP2, ↓RP3, RV, RW, ↓reduceIte, Nat.reduceAdd, Nat.reduceSub, Nat.reduceMul, Nat.reduceLeDiff, Nat.reduceEqDiff, Int.reduceLT, Int.reduceLE, Int.reduceEq, Int.reduceNe, Int.reduceAdd, Int.reduceSub, Int.reduceMul, Int.reduceNeg, Int.reduceToNat, reduceCtorEq]
  refine loopB (st := fun (i : Nat) => [T s, .junk, .junk, i64 i, .junk, .junk, .junk, .junk, .junk, .junk, .junk, .junk, .junk, .junk, .junk, .junk, .junk, .junk, .junk, .junk, .junk, .junk, .junk, .junk, .junk, .junk])
    (hp := fun _ => []) (I := fun i => i ≤ s.length ∧ ∀ j, j < i → s[j]? ≠ some 126) (m := fun i => s.length - i) (0 : Nat) ⟨Nat.zero_le _, fun j h => absurd h (Nat.not_lt_zero j)⟩ ?_ ?_
  · refine weak_nil ?_; simp [WeakL, AV.low, lows]
  · rintro i ⟨hi, he⟩
    simp (maxSteps := 2000000) -implicitDefEqProofs only [↓RP0, ↓RP1, ↓RP2, ↓RP3, RV, RW, ↓reduceIte, Nat.reduceAdd, Nat.reduceSub, Nat.reduceMul, Nat.reduceLeDiff, Nat.reduceEqDiff, Int.reduceLT, Int.reduceLE, Int.reduceEq, Int.reduceNe, Int.reduceAdd, Int.reduceSub, Int.reduceMul, Int.reduceNeg, Int.reduceToNat, reduceCtorEq]
    refine ⟨fun hlt => ⟨hlt, fun hb => ?_, fun hb => ?_⟩, fun hge => ?_⟩
    · have h1 := (at'_eq (by omega) 126).1 hb
      have : s.contains 126 = true := by rw [List.contains_iff_mem]; exact List.mem_of_getElem? h1
      simp only [ownP, this, Bool.not_true, Bool.false_and]
    · refine ⟨⟨by omega, by omega⟩, i + 1, by dsimp only; omega, ⟨by omega, fun j hj h => ?_⟩, ?_⟩
      · by_cases e : j = i
        · subst e; exact hb (((at'_eq (by omega) 126).2 h).trans rfl)
        · exact he j (by omega) h
      · refine weak_nil ?_; simp [WeakL, AV.low, lows]
    · have hc : s.contains 126 = false := by
        rw [Bool.eq_false_iff]
        intro h
        rw [List.contains_iff_mem] at h
        obtain ⟨j, hj, h⟩ := List.getElem_of_mem h
        exact he j (by omega) (by rw [List.getElem?_eq_getElem hj, h])
      refine ⟨by omega, fun hm1 => ⟨fun hl => ⟨by omega, by simp; omega, fun h2 => ?_, fun h2 => ?_⟩, fun hl => ?_⟩, fun hm1 => ?_⟩
      · rw [← longest_eq] at h2; simp only [ownP, hc, hm1, h2, Bool.not_false, Bool.true_and, Bool.and_true]; rw [decide_eq_true (by omega)]
      · rw [← longest_eq] at h2; simp only [ownP, h2, Bool.and_false]
      · simp only [ownP, decide_eq_false (show ¬ s.length ≤ 200 by omega), Bool.and_false, Bool.false_and]
      · simp only [ownP, hm1, Bool.and_false, Bool.false_and]

def c47 : ACode := (.seq (.reg false 1 [⟨(.some 3), none, (.m .box 0), [(.t 1)]⟩, ⟨(.some 4), none, (.q .mv), [(.c (.imm (.string (B []))))]⟩]) (.seq (.reg true 0 [⟨(.some 5), none, (.q .mv), [(.t 0)]⟩, ⟨(.some 6), none, (.q (.bin .add 9)), [(.t 5), (.c (.imm (.string (B [126]))))]⟩, ⟨(.some 7), none, (.q (.faddr 0)), [(.t 3)]⟩, ⟨(.some 8), none, (.l .load1), [(.t 7)]⟩, ⟨(.some 9), none, (.call false), [(.c (.fn (.func 59) [] [])), (.t 8)]⟩, ⟨(.some 10), none, (.q (.bin .add 9)), [(.t 6), (.t 9)]⟩, ⟨(.some 11), none, (.q (.bin .add 9)), [(.t 10), (.c (.imm (.string (B [45]))))]⟩, ⟨(.some 12), none, (.q (.faddr 1)), [(.t 3)]⟩, ⟨(.some 13), none, (.l .load1), [(.t 12)]⟩, ⟨(.some 14), none, (.call true), [(.c (.fn (.func 59) [] [])), (.t 13)]⟩, ⟨(.some 15), none, (.q (.bin .add 9)), [(.t 11), (.t 14)]⟩, ⟨(.some 4), none, (.q .mv), [(.t 15)]⟩]) .ret))
theorem fn47 : IsFn Tryz.prog 47 [] c47 [4] 16 := ⟨_, _, Tryz.func47, rfl, by decide +kernel, by kernel_rfl, rfl, rfl⟩
theorem p47 (s : List UInt8) (r q : Int) (hs : s.length ≤ 1099511627776) (hr : In64 r) (hq : In64 q) : Pure Tryz.prog G 47 [T s, .agg [i64 r, i64 q]] (T (copyP s r q)) := by
  refine pure_of_code' (S := sp [(59, num1 In64 fun n => T (Lib.itoa n))] []) hm hG (sp_holds (.cons (told_num1 p59) .nil) .nil) fn47 ([T s, .agg [i64 r, i64 q], .junk, .junk, .junk, .junk, .junk, .junk, .junk, .junk, .junk, .junk, .junk, .junk, .junk, .junk]) rfl (by simp [lows, AV.low]) (by simp [AV.low]) ?_
  simp (maxSteps := 2000000) -implicitDefEqProofs only [c47, ↓RP0, ↓RP1, ↓RP2, ↓RP3, RV, RW, ↓reduceIte, Nat.reduceAdd, Nat.reduceSub, Nat.reduceMul, Nat.reduceLeDiff, Nat.reduceEqDiff, Int.reduceLT, Int.reduceLE, Int.reduceEq, Int.reduceNe, Int.reduceAdd, Int.reduceSub, Int.reduceMul, Int.reduceNeg, Int.reduceToNat, reduceCtorEq]
  have h1 := itoa_length r hr
  have h2 := itoa_length q hq
  refine ⟨by omega, hr, by simp; omega, by simp; omega, hq, by simp; omega, rfl⟩
end Go.AL.Path
