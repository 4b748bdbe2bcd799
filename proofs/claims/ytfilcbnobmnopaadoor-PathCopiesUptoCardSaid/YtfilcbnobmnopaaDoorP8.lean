/- Path: a part is what the document says. -/
import Derived.Test.YtfilcbnobmnopaaDoorP7
set_option linter.unusedSimpArgs false
set_option linter.unusedVariables false
set_option maxRecDepth 100000
namespace Go.AL.Path
open Go Go.RowKit Go.Proofs Go.AL

theorem inL_letter : ∀ n, n < 256 → inL n = letterI n := by
  have h : (List.range 256).all (fun n => inL n == letterI n) = true := by decide +kernel
  intro n hn
  have := List.all_eq_true.1 h n (List.mem_range.2 hn)
  simpa using this
theorem contains_letter (b : UInt8) : letters.contains b = letterI b.toNat := by
  have h : (List.range 256).all (fun n => letters.contains (UInt8.ofNat n) == letterI n) = true := by decide +kernel
  have := List.all_eq_true.1 h b.toNat (List.mem_range.2 (UInt8.toNat_lt b))
  simpa using this
theorem inL_big {n : Nat} (h : 128 ≤ n) : inL n = false := by unfold inL; rw [decide_eq_false (by omega), Bool.false_and]

theorem decode_small (s : List UInt8) (i : Nat) (h : i < s.length) (hb : (s[i]'h).toNat < 128) : Utf8.decode (B s) i = ((s[i]'h).toNat, 1) := by
  have e : ((B s).get! i) = s[i]'h := by
    show (B s).data[i]! = _
    have hd : i < (B s).data.size := by exact h
    rw [getElem!_pos (B s).data i hd]
    rfl
  unfold Utf8.decode
  simp only [Nat.add_zero, e]
  rw [if_pos hb]
theorem decode_big (s : List UInt8) (i : Nat) (h : i < s.length) (hb : 128 ≤ (s[i]'h).toNat) : 128 ≤ (Utf8.decode (B s) i).1 := by
  have e : ((B s).get! i) = s[i]'h := by
    show (B s).data[i]! = _
    have hd : i < (B s).data.size := by exact h
    rw [getElem!_pos (B s).data i hd]
    rfl
  unfold Utf8.decode
  simp only [Nat.add_zero, e]
  rw [if_neg (by omega)]
  simp only [Utf8.runeError]
  repeat' split
  all_goals simp_all
  all_goals omega

theorem idx_from (s : List UInt8) : ∀ (f i : Nat), s.length ≤ i + f → (Lib.idxFuncFrom (fun x => !inL x) true (B s) f i < 0 ↔ ∀ j (h : j < s.length), i ≤ j → letterI (s[j]'h).toNat = true)
  | 0, i, hf => by
    unfold Lib.idxFuncFrom
    refine ⟨fun _ j h hij => by omega, fun _ => by decide⟩
  | f + 1, i, hf => by
    unfold Lib.idxFuncFrom
    by_cases hi : i < s.length
    · rw [if_pos (show i < (B s).size from hi)]
      by_cases hb : (s[i]'hi).toNat < 128
      · rw [decode_small s i hi hb]
        simp only
        have hL := inL_letter (s[i]'hi).toNat (UInt8.toNat_lt _)
        cases hl : letterI (s[i]'hi).toNat with
        | true =>
          rw [hL, hl]
          simp only [Bool.not_true, Bool.false_eq_true, if_false]
          rw [idx_from s f (i + 1) (by omega)]
          constructor
          · intro h j hj hij
            by_cases e : j = i
            · subst e; exact hl
            · exact h j hj (by omega)
          · intro h j hj hij
            exact h j hj (by omega)
        | false =>
          rw [hL, hl]
          simp only [Bool.not_false, if_true]
          constructor
          · intro h; omega
          · intro h; have := h i hi (Nat.le_refl _); rw [hl] at this; cases this
      · have hd := decode_big s i hi (by omega)
        rw [inL_big hd]
        simp only [Bool.not_false, if_true]
        constructor
        · intro h; omega
        · intro h
          have h1 := h i hi (Nat.le_refl _)
          have h2 := (letterI_iff _).1 h1
          omega
    · rw [if_neg (show ¬ i < (B s).size from hi)]
      exact ⟨fun _ j h hij => by omega, fun _ => by decide⟩

theorem idx_all (s : List UInt8) : decide (0 ≤ Lib.idxFunc (fun x => !inL x) true (B s)) = !(s.all fun b => letterI b.toNat) := by
  have h := idx_from s s.length 0 (by omega)
  have e : Lib.idxFunc (fun x => !inL x) true (B s) = Lib.idxFuncFrom (fun x => !inL x) true (B s) s.length 0 := rfl
  rw [e]
  cases ha : s.all (fun b => letterI b.toNat) with
  | true =>
    have : Lib.idxFuncFrom (fun x => !inL x) true (B s) s.length 0 < 0 := h.2 fun j hj _ => by
      exact List.all_eq_true.1 ha _ (List.getElem_mem hj)
    simp; omega
  | false =>
    obtain ⟨x, hx, hn⟩ := List.all_eq_false.1 ha
    obtain ⟨j, hj, rfl⟩ := List.getElem_of_mem hx
    have : ¬ Lib.idxFuncFrom (fun x => !inL x) true (B s) s.length 0 < 0 := fun hlt => hn (h.1 hlt j hj (Nat.zero_le _))
    simp; omega

theorem trim_all {s : List UInt8} (h : s.all (fun b => letterI b.toNat) = true) : Lib.trimS s letters = [] := by
  have hd : ∀ l : List UInt8, (∀ b ∈ l, letters.contains b = true) → l.dropWhile (letters.contains ·) = [] := by
    intro l
    induction l with
    | nil => intro _; rfl
    | cons x l ih => intro hl; rw [List.dropWhile_cons_of_pos (hl x List.mem_cons_self)]; exact ih fun b hb => hl b (List.mem_cons_of_mem _ hb)
  unfold Lib.trimS Lib.trimRightS Lib.trimLeftS
  rw [hd s.reverse fun b hb => by rw [contains_letter]; exact List.all_eq_true.1 h b (List.mem_reverse.1 hb)]
  rfl

def cfSp : PSp := fun args K => match args with
  | [.imm (.string a), .fn (.func 42) [] []] => splitB (!(a.data.toList.all fun b => letterI b.toNat)) K | _ => False
theorem ask_cf {l : List UInt8} {K} : ask cfSp [T l, .fn (.func 42) [] []] K = splitB (!(l.all fun b => letterI b.toNat)) K := rfl
theorem told_cf : Told Tryd.prog G 41 cfSp := by
  intro args K hk
  unfold cfSp at hk
  split at hk
  · rename_i a
    have := p41 a.data.toList
    rw [idx_all] at this
    exact ⟨_, this, splitB_of hk⟩
  · exact hk.elim

def c34 : ACode := (.seq (.reg false 0 [⟨(.some 2), none, (.q .mv), [(.c (.imm (.bool false)))]⟩]) (.seq (.reg false 0 [⟨(.some 3), none, (.q .mv), [(.t 0)]⟩, ⟨(.some 4), none, (.q (.bin .neq 9)), [(.t 3), (.c (.imm (.string (B []))))]⟩, ⟨(.some 5), none, (.q .mv), [(.t 4)]⟩, ⟨(.some 6), (.some (5, true)), (.q .mv), [(.t 0)]⟩, ⟨(.some 7), (.some (5, true)), (.q .lenS), [(.t 6)]⟩, ⟨(.some 8), (.some (5, true)), (.q (.bin .leq 3)), [(.t 7), (.c (.imm (.int .i64 100)))]⟩, ⟨(.some 9), none, (.q .pick), [(.t 5), (.t 8), (.c (.imm (.bool false)))]⟩, ⟨(.some 10), none, (.q .mv), [(.t 9)]⟩, ⟨(.some 11), (.some (10, true)), (.q .mv), [(.t 0)]⟩, ⟨(.some 12), (.some (10, true)), (.q (.bin .neq 9)), [(.t 11), (.c (.imm (.string (B [46]))))]⟩, ⟨(.some 13), none, (.q .pick), [(.t 10), (.t 12), (.c (.imm (.bool false)))]⟩, ⟨(.some 14), none, (.q .mv), [(.t 13)]⟩, ⟨(.some 15), (.some (14, true)), (.q .mv), [(.t 0)]⟩, ⟨(.some 16), (.some (14, true)), (.q (.bin .neq 9)), [(.t 15), (.c (.imm (.string (B [46, 46]))))]⟩, ⟨(.some 17), none, (.q .pick), [(.t 14), (.t 16), (.c (.imm (.bool false)))]⟩, ⟨(.some 18), none, (.q .mv), [(.t 17)]⟩, ⟨(.some 19), (.some (18, true)), (.q .mv), [(.t 0)]⟩, ⟨(.some 20), (.some (18, true)), (.call true), [(.c (.fn (.func 40) [] [])), (.t 19), (.c (.imm (.string (B [97, 98, 99, 100, 101, 102, 103, 104, 105, 106, 107, 108, 109, 110, 111, 112, 113, 114, 115, 116, 117, 118, 119, 120, 121, 122, 65, 66, 67, 68, 69, 70, 71, 72, 73, 74, 75, 76, 77, 78, 79, 80, 81, 82, 83, 84, 85, 86, 87, 88, 89, 90, 48, 49, 50, 51, 52, 53, 54, 55, 56, 57, 45, 46, 95, 43, 126]))))]⟩, ⟨(.some 21), (.some (18, true)), (.q (.bin .eql 9)), [(.t 20), (.c (.imm (.string (B []))))]⟩, ⟨(.some 22), none, (.q .pick), [(.t 18), (.t 21), (.c (.imm (.bool false)))]⟩, ⟨(.some 23), none, (.q .mv), [(.t 22)]⟩, ⟨(.some 24), (.some (23, true)), (.q .mv), [(.t 0)]⟩, ⟨(.some 25), (.some (23, true)), (.call true), [(.c (.fn (.func 41) [] [])), (.t 24), (.c (.fn (.func 42) [] []))]⟩, ⟨(.some 26), (.some (23, true)), (.q (.un .not)), [(.t 25)]⟩, ⟨(.some 27), none, (.q .pick), [(.t 23), (.t 26), (.c (.imm (.bool false)))]⟩, ⟨(.some 2), none, (.q .mv), [(.t 27)]⟩]) .ret))
theorem fn34 : IsFn Tryd.prog 34 [] c34 [2] 28 := ⟨_, _, Tryd.func34, rfl, by decide +kernel, by kernel_rfl, rfl, rfl⟩
theorem p34 (s : List UInt8) (hs : s.length ≤ 1099511627776) : Pure Tryd.prog G 34 [T s] (bool (partOk s)) := by
  refine pure_of_code' (S := sp [(40, txt1c letters (fun l => l.length ≤ 1099511627776) fun l => T (Lib.trimS l letters)), (41, cfSp)] []) hm hG (sp_holds (.cons (told_txt1c p40) (.cons told_cf .nil)) .nil) fn34 ([T s, .junk, .junk, .junk, .junk, .junk, .junk, .junk, .junk, .junk, .junk, .junk, .junk, .junk, .junk, .junk, .junk, .junk, .junk, .junk, .junk, .junk, .junk, .junk, .junk, .junk, .junk, .junk]) rfl (by simp [lows, AV.low]) (by simp [AV.low]) ?_
  simp (maxSteps := 2000000) -implicitDefEqProofs only [c34, ↓RP0, ↓RP1, ↓RP2, ↓RP3, RV, List.map_cons, List.map_nil, List.cons_append, List.nil_append, List.append_nil, List.length_cons, List.length_nil, List.getElem?_cons_zero, List.getElem?_cons_succ, List.set_cons_zero, List.set_cons_succ, true_imp_iff, false_imp_iff, not_true_eq_false, not_false_eq_true, and_true, true_and, and_false, false_and, implies_true, ↓reduceIte, Bool.false_eq_true, Bool.true_eq_false, Bool.not_eq_true, Bool.not_true, Bool.not_false, beq_self_eq_true, Bool.true_beq, Bool.false_beq, List.take_zero, List.drop_zero, List.take_succ_cons, List.drop_succ_cons, List.take_nil, List.drop_nil, List.replicate_zero, List.replicate_succ, Nat.reduceAdd, Nat.reduceSub, Nat.reduceMul, Nat.reduceLeDiff, Nat.reduceEqDiff, Nat.zero_add, Nat.add_zero, Int.reduceLT, Int.reduceLE, Int.reduceEq, Int.reduceNe, Int.reduceAdd, Int.reduceSub, Int.reduceMul, Int.reduceNeg, Int.reduceToNat, Int.toNat_natCast, Int.natCast_nonneg, Int.natCast_zero, Nat.lt_irrefl, Option.some.injEq, reduceCtorEq, Option.map_some, ne_eq, ↓ask_cf]
  have key : ∀ b, b = partOk s → AV.imm (.bool b) = bool (partOk s) := by rintro _ rfl; rfl
  refine ⟨fun h => key _ ?_, fun h => ⟨fun h1 => ⟨fun h2 => key _ ?_, fun h2 => ⟨fun h3 => key _ ?_, fun h3 => ⟨rfl, hs, fun h4 => ⟨fun h5 => key _ ?_, fun h5 => key _ ?_⟩, fun h4 => key _ ?_⟩⟩⟩, fun h1 => key _ ?_⟩⟩
  · simp [partOk, h]
  · simp [partOk, h2]
  · simp [partOk, h3]
  · simp only [Bool.not_eq_true'] at h5; simp [partOk, h5]
  · simp only [Bool.not_eq_false'] at h5
    have : 1 ≤ s.length := by cases s with | nil => exact absurd rfl h | cons => simp
    simp only [partOk, h5, decide_eq_true this, decide_eq_true (show s.length ≤ 100 by omega), decide_eq_false h2, decide_eq_false h3]; rfl
  · have : (s.all fun b => letterI b.toNat) = false := by
      rw [Bool.eq_false_iff]; exact fun e => h4 (trim_all e)
    simp only [partOk, this, Bool.false_and]
  · simp only [partOk, decide_eq_false (show ¬ s.length ≤ 100 by omega), Bool.and_false, Bool.false_and]
end Go.AL.Path
