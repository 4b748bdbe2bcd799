/- Path: a part. -/
import Derived.Test.YtofokmpdioblkaaGreatDoorG19
import Derived.Test.YtofokmpdioblkaaGreatDoorG21
import Derived.Shelf.Strings.FuncGrows
import Derived.Shelf.Strings.SlTrimAscii
set_option linter.unusedSimpArgs false
set_option linter.unusedVariables false
set_option maxRecDepth 100000
namespace Go.AL.Path
open Go Go.RowKit Go.Proofs Go.AL
def letters : List UInt8 := [97, 98, 99, 100, 101, 102, 103, 104, 105, 106, 107, 108, 109, 110, 111, 112, 113, 114, 115, 116, 117, 118, 119, 120, 121, 122, 65, 66, 67, 68, 69, 70, 71, 72, 73, 74, 75, 76, 77, 78, 79, 80, 81, 82, 83, 84, 85, 86, 87, 88, 89, 90, 48, 49, 50, 51, 52, 53, 54, 55, 56, 57, 45, 46, 95, 43, 126]
theorem letters_small : ∀ b ∈ letters, b.toNat < 128 := by decide
def inL (x : Nat) : Bool := decide (x < 128) && decide (0 ≤ Lib.indexByte letters x.toUInt8)
theorem p63big (r : Int) (h1 : 128 ≤ r) : Pure Tryz.prog G 131 [T letters, .imm (.int .i32 r)] (i64 (-1)) := by
  by_cases h2 : r = 65533
  · subst h2
    refine pure_of_below Tryz.func131 rfl (by decide +kernel) rfl imm2 fun H lo E w hs => ir_err (B letters) ?_ w
    intro i h
    exact letters_small _ (List.getElem_mem (l := letters) (by exact h))
  · exact p131 letters r letters_small (by decide) (by decide) h1 h2
def irBig : PSp := fun args K => match args with
  | [.imm (.string a), .imm (.int .i32 c)] => a = B letters ∧ 128 ≤ c ∧ K (i64 (-1)) | _ => False
theorem ask_irBig {l : List UInt8} {c : Int} {K} : ask irBig [T l, .imm (.int .i32 c)] K = (l = letters ∧ 128 ≤ c ∧ K (i64 (-1))) := by
  show (B l = B letters ∧ _) = _; rw [B_inj]
theorem told_irBig : Told Tryz.prog G 131 irBig := by
  intro args K hk
  unfold irBig at hk
  split at hk
  · obtain ⟨rfl, h1, h2⟩ := hk; exact ⟨_, p63big _ h1, h2⟩
  · exact hk.elim
def c108 : ACode := (.seq (.reg false 0 [⟨(.some 4), none, (.q .mv), [(.c (.imm (.bool false)))]⟩]) (.seq (.reg false 0 [⟨(.some 5), none, (.q .mv), [(.t 0)]⟩, ⟨(.some 6), none, (.q .mv), [(.t 1)]⟩, ⟨(.some 7), none, (.call true), [(.c (.fn (.func 131) [] [])), (.t 5), (.t 6)]⟩, ⟨(.some 8), none, (.q (.bin .geq 3)), [(.t 7), (.c (.imm (.int .i64 0)))]⟩, ⟨(.some 4), none, (.q .mv), [(.t 8)]⟩]) .ret))
theorem fn108 : IsFn Tryz.prog 108 [] c108 [4] 9 := ⟨_, _, Tryz.func108, rfl, by decide +kernel, by kernel_rfl, rfl, rfl⟩
theorem p108 (x : Nat) : Pure Tryz.prog G 108 [T letters, .imm (.int .i32 x)] (bool (inL x)) := by
  by_cases h : x < 128
  · have : inL x = decide (0 ≤ Lib.indexByte letters x.toUInt8) := by unfold inL; rw [decide_eq_true h, Bool.true_and]
    rw [this]
    exact pure_of_same Tryz.func108 rfl (by decide +kernel) rfl imm2 fun w => Tryz.strings_ContainsRune_ascii (B letters) x w (by omega) (by omega)
  · have : inL x = false := by unfold inL; rw [decide_eq_false h, Bool.false_and]
    rw [this]
    refine pure_of_code' (S := sp [(131, irBig)] []) hm hG (sp_holds (.cons told_irBig .nil) .nil) fn108 ([T letters, .imm (.int .i32 x), .junk, .junk, .junk, .junk, .junk, .junk, .junk]) rfl (by simp [lows, AV.low]) (by simp [AV.low]) ?_
    simp (maxSteps := 2000000) -implicitDefEqProofs only [c108, ↓RP0, ↓RP1, ↓RP2, ↓RP3, RV, RW, ↓reduceIte, Nat.reduceAdd, Nat.reduceSub, Nat.reduceMul, Nat.reduceLeDiff, Nat.reduceEqDiff, Int.reduceLT, Int.reduceLE, Int.reduceEq, Int.reduceNe, Int.reduceAdd, Int.reduceSub, Int.reduceMul, Int.reduceNeg, Int.reduceToNat, reduceCtorEq, ↓ask_irBig]
    omega
def crSp : PSp := fun args K => match args with
  | [.imm (.string a), .imm (.int .i32 c)] => a = B letters ∧ 0 ≤ c ∧ splitB (inL c.toNat) K | _ => False
theorem ask_cr {l : List UInt8} {c : Int} {K} : ask crSp [T l, .imm (.int .i32 c)] K = (l = letters ∧ 0 ≤ c ∧ splitB (inL c.toNat) K) := by
  show (B l = B letters ∧ _) = _; rw [B_inj]
theorem told_cr : Told Tryz.prog G 108 crSp := by
  intro args K hk
  unfold crSp at hk
  split at hk
  · rename_i a c
    obtain ⟨rfl, h1, h2⟩ := hk
    have := p108 c.toNat
    rw [Int.toNat_of_nonneg h1] at this
    exact ⟨_, this, splitB_of h2⟩
  · exact hk.elim
def c107 : ACode := (.seq (.reg false 0 [⟨(.some 2), none, (.q .mv), [(.c (.imm (.bool false)))]⟩]) (.seq (.reg false 0 [⟨(.some 3), none, (.q .mv), [(.t 0)]⟩, ⟨(.some 4), none, (.call true), [(.c (.fn (.func 108) [] [])), (.c (.imm (.string (B [97, 98, 99, 100, 101, 102, 103, 104, 105, 106, 107, 108, 109, 110, 111, 112, 113, 114, 115, 116, 117, 118, 119, 120, 121, 122, 65, 66, 67, 68, 69, 70, 71, 72, 73, 74, 75, 76, 77, 78, 79, 80, 81, 82, 83, 84, 85, 86, 87, 88, 89, 90, 48, 49, 50, 51, 52, 53, 54, 55, 56, 57, 45, 46, 95, 43, 126])))), (.t 3)]⟩, ⟨(.some 5), none, (.q (.un .not)), [(.t 4)]⟩, ⟨(.some 2), none, (.q .mv), [(.t 5)]⟩]) .ret))
theorem fn107 : IsFn Tryz.prog 107 [] c107 [2] 6 := ⟨_, _, Tryz.func107, rfl, by decide +kernel, by kernel_rfl, rfl, rfl⟩
theorem p107 (x : Nat) : Pure Tryz.prog G 107 [.imm (.int .i32 x)] (bool (!inL x)) := by
  refine pure_of_code' (S := sp [(108, crSp)] []) hm hG (sp_holds (.cons told_cr .nil) .nil) fn107 ([.imm (.int .i32 x), .junk, .junk, .junk, .junk, .junk]) rfl (by simp [lows, AV.low]) (by simp [AV.low]) ?_
  simp (maxSteps := 2000000) -implicitDefEqProofs only [c107, ↓RP0, ↓RP1, ↓RP2, ↓RP3, RV, RW, ↓reduceIte, Nat.reduceAdd, Nat.reduceSub, Nat.reduceMul, Nat.reduceLeDiff, Nat.reduceEqDiff, Int.reduceLT, Int.reduceLE, Int.reduceEq, Int.reduceNe, Int.reduceAdd, Int.reduceSub, Int.reduceMul, Int.reduceNeg, Int.reduceToNat, reduceCtorEq, ↓ask_cr]
  refine ⟨rfl, fun h => ?_, fun h => ?_⟩ <;> simp [h]
theorem SimH.restart {G : Nat → Option (List AV)} (hG : ∀ g cs, G g = some cs → lows 0 cs) {lo E H w} (hs : SimH G lo E H w) : ∃ E0, SimH G w.heap.size E0 [] w := by
  refine ⟨{ I := E.I, bx := fun _ => none, tk := fun _ => none }, Nat.le_refl _, hs.inI, fun id o ho => by simp at ho, fun id _ => ⟨rfl, rfl⟩, fun i j b hi _ => by simp [Env.at] at hi, fun g cs hg => ?_⟩
  obtain ⟨us, h1, h2, h3, ty, fz, h4, h5⟩ := hs.glob g cs hg
  exact ⟨us, Reps.cut (E := E) (E' := { I := E.I, bx := fun _ => none, tk := fun _ => none }) (n := 0) (fun _ h => h) (fun k hk => absurd hk (Nat.not_lt_zero k)) (fun k hk => absurd hk (Nat.not_lt_zero k)) h1 (hG g cs hg), h2, h3, ty, fz, Nat.lt_of_lt_of_le h4 hs.lo_le, h5⟩
theorem pred107 {lo E H w} (hs : SimH G lo E H w) : PredGrows Tryz.prog 107 #[] (fun x => !inL x) w := by
  intro W x hx hb
  obtain ⟨k1, _⟩ := hs.grow hb (fun _ => False) (fun _ h => h.elim)
  obtain ⟨E0, k2⟩ := SimH.restart hG k1
  exact calls_of_pure Tryz.func107 rfl (by decide +kernel) (p107 x) imm1 k2 (by simp [Value.oneCell'])
theorem e107 : ∀ args w, (callFunc 107 args).run Tryz.prog w = .ok (.enter 107 args) w := enters_of Tryz.func107 (by kernel_rfl) rfl
theorem p106 (s : List UInt8) : Pure Tryz.prog G 106 [T s, .fn (.func 107) [] []] (bool (decide (0 ≤ Lib.idxFunc (fun x => !inL x) true (B s)))) := by
  intro H lo E w cargs hs ha
  have hc : cargs = [.string (B s), .func (.func 107) #[] #[]] := by
    cases ha with
    | cons _ v _ vs h1 h2 =>
      cases h2 with
      | cons _ v' _ vs' h3 h4 =>
        cases h4
        cases h1.imm_inv'
        cases h3 with
        | fn f a b us vs h5 h6 => cases h5; cases h6; rfl
  subst hc
  refine callsX_of_calls Tryz.func106 rfl (by decide +kernel) (Tryz.strings_ContainsFunc_grows 107 #[] e107 (fun x => !inL x) (B s) w (pred107 hs)) fun w' hw' => ?_
  obtain ⟨k1, k2⟩ := hs.grow hw' (fun _ => False) (fun _ h => h.elim)
  exact ⟨_, .imm _ rfl, k1, k2⟩
theorem p105 (s : List UInt8) (hs : s.length ≤ 1099511627776) : Pure Tryz.prog G 105 [T s, T letters] (T (Lib.trimS s letters)) :=
  pure_of_below Tryz.func105 rfl (by decide +kernel) rfl imm2 fun H lo E w _ => by
    have := Any.strings_Trim_laid Tryz.lays160 (by kernel_rfl) (B s) (B letters) w (by show s.length ≤ _; omega) (by decide) (ascii_of_all (by decide))
    exact this
end Go.AL.Path

/- Path: a part is what the document says. -/
set_option linter.unusedSimpArgs false
set_option linter.unusedVariables false
set_option maxRecDepth 100000
namespace Go.AL.Path
open Go Go.RowKit Go.Proofs Go.AL
theorem inL_letter : ∀ n, n < 256 → inL n = letterI n := by
  have h : (List.range 256).all (fun n => inL n == letterI n) = true := by decide +kernel
  intro n hn
  have := List.all_eq_true.1 h n (List.mem_range.2 hn)
  simpa using this
theorem contains_letter (b : UInt8) : letters.contains b = letterI b.toNat := by
  have h : (List.range 256).all (fun n => letters.contains (UInt8.ofNat n) == letterI n) = true := by decide +kernel
  have := List.all_eq_true.1 h b.toNat (List.mem_range.2 (UInt8.toNat_lt b))
  simpa using this
theorem inL_big {n : Nat} (h : 128 ≤ n) : inL n = false := by unfold inL; rw [decide_eq_false (by omega), Bool.false_and]
theorem decode_small (s : List UInt8) (i : Nat) (h : i < s.length) (hb : (s[i]'h).toNat < 128) : Utf8.decode (B s) i = ((s[i]'h).toNat, 1) := by
  have e : ((B s).get! i) = s[i]'h := by
    show (B s).data[i]! = _
    have hd : i < (B s).data.size := by exact h
    rw [getElem!_pos (B s).data i hd]
    rfl
  unfold Utf8.decode
  simp only [Nat.add_zero, e]
  rw [if_pos hb]
theorem decode_big (s : List UInt8) (i : Nat) (h : i < s.length) (hb : 128 ≤ (s[i]'h).toNat) : 128 ≤ (Utf8.decode (B s) i).1 := by
  have e : ((B s).get! i) = s[i]'h := by
    show (B s).data[i]! = _
    have hd : i < (B s).data.size := by exact h
    rw [getElem!_pos (B s).data i hd]
    rfl
  unfold Utf8.decode
  simp only [Nat.add_zero, e]
  rw [if_neg (by omega)]
  simp only [Utf8.runeError]
  repeat' split
  all_goals simp_all
  all_goals omega
theorem idx_from (s : List UInt8) : ∀ (f i : Nat), s.length ≤ i + f → (Lib.idxFuncFrom (fun x => !inL x) true (B s) f i < 0 ↔ ∀ j (h : j < s.length), i ≤ j → letterI (s[j]'h).toNat = true)
  | 0, i, hf => by
    unfold Lib.idxFuncFrom
    refine ⟨fun _ j h hij => by omega, fun _ => by decide⟩
  | f + 1, i, hf => by
    unfold Lib.idxFuncFrom
    by_cases hi : i < s.length
    · rw [if_pos (show i < (B s).size from hi)]
      by_cases hb : (s[i]'hi).toNat < 128
      · rw [decode_small s i hi hb]
        simp only
        have hL := inL_letter (s[i]'hi).toNat (UInt8.toNat_lt _)
        cases hl : letterI (s[i]'hi).toNat with
        | true =>
          rw [hL, hl]
          simp only [Bool.not_true, Bool.false_eq_true, if_false]
          rw [idx_from s f (i + 1) (by omega)]
          constructor
          · intro h j hj hij
            by_cases e : j = i
            · subst e; exact hl
            · exact h j hj (by omega)
          · intro h j hj hij
            exact h j hj (by omega)
        | false =>
          rw [hL, hl]
          simp only [Bool.not_false, if_true]
          constructor
          · intro h; omega
          · intro h; have := h i hi (Nat.le_refl _); rw [hl] at this; cases this
      · have hd := decode_big s i hi (by omega)
        rw [inL_big hd]
        simp only [Bool.not_false, if_true]
        constructor
        · intro h; omega
        · intro h
          have h1 := h i hi (Nat.le_refl _)
          have h2 := (letterI_iff _).1 h1
          omega
    · rw [if_neg (show ¬ i < (B s).size from hi)]
      exact ⟨fun _ j h hij => by omega, fun _ => by decide⟩
theorem idx_all (s : List UInt8) : decide (0 ≤ Lib.idxFunc (fun x => !inL x) true (B s)) = !(s.all fun b => letterI b.toNat) := by
  have h := idx_from s s.length 0 (by omega)
  have e : Lib.idxFunc (fun x => !inL x) true (B s) = Lib.idxFuncFrom (fun x => !inL x) true (B s) s.length 0 := rfl
  rw [e]
  cases ha : s.all (fun b => letterI b.toNat) with
  | true =>
    have : Lib.idxFuncFrom (fun x => !inL x) true (B s) s.length 0 < 0 := h.2 fun j hj _ => by
      exact List.all_eq_true.1 ha _ (List.getElem_mem hj)
    simp; omega
  | false =>
    obtain ⟨x, hx, hn⟩ := List.all_eq_false.1 ha
    obtain ⟨j, hj, rfl⟩ := List.getElem_of_mem hx
    have : ¬ Lib.idxFuncFrom (fun x => !inL x) true (B s) s.length 0 < 0 := fun hlt => hn (h.1 hlt j hj (Nat.zero_le _))
    simp; omega
theorem trim_all {s : List UInt8} (h : s.all (fun b => letterI b.toNat) = true) : Lib.trimS s letters = [] := by
  have hd : ∀ l : List UInt8, (∀ b ∈ l, letters.contains b = true) → l.dropWhile (letters.contains ·) = [] := by
    intro l
    induction l with
    | nil => intro _; rfl
    | cons x l ih => intro hl; rw [List.dropWhile_cons_of_pos (hl x List.mem_cons_self)]; exact ih fun b hb => hl b (List.mem_cons_of_mem _ hb)
  unfold Lib.trimS Lib.trimRightS Lib.trimLeftS
  rw [hd s.reverse fun b hb => by rw [contains_letter]; exact List.all_eq_true.1 h b (List.mem_reverse.1 hb)]
  rfl
def cfSp : PSp := fun args K => match args with
  | [.imm (.string a), .fn (.func 107) [] []] => splitB (!(a.data.toList.all fun b => letterI b.toNat)) K | _ => False
theorem ask_cf {l : List UInt8} {K} : ask cfSp [T l, .fn (.func 107) [] []] K = splitB (!(l.all fun b => letterI b.toNat)) K := rfl
theorem told_cf : Told Tryz.prog G 106 cfSp := by
  intro args K hk
  unfold cfSp at hk
  split at hk
  · rename_i a
    have := p106 a.data.toList
    rw [idx_all] at this
    exact ⟨_, this, splitB_of hk⟩
  · exact hk.elim
def c90 : ACode := (.seq (.reg false 0 [⟨(.some 2), none, (.q .mv), [(.c (.imm (.bool false)))]⟩]) (.seq (.reg false 0 [⟨(.some 3), none, (.q .mv), [(.t 0)]⟩, ⟨(.some 4), none, (.q (.bin .neq 9)), [(.t 3), (.c (.imm (.string (B []))))]⟩, ⟨(.some 5), none, (.q .mv), [(.t 4)]⟩, ⟨(.some 6), (.some (5, true)), (.q .mv), [(.t 0)]⟩, ⟨(.some 7), (.some (5, true)), (.q .lenS), [(.t 6)]⟩, ⟨(.some 8), (.some (5, true)), (.q (.bin .leq 3)), [(.t 7), (.c (.imm (.int .i64 100)))]⟩, ⟨(.some 9), none, (.q .pick), [(.t 5), (.t 8), (.c (.imm (.bool false)))]⟩, ⟨(.some 10), none, (.q .mv), [(.t 9)]⟩, ⟨(.some 11), (.some (10, true)), (.q .mv), [(.t 0)]⟩, ⟨(.some 12), (.some (10, true)), (.q (.bin .neq 9)), [(.t 11), (.c (.imm (.string (B [46]))))]⟩, ⟨(.some 13), none, (.q .pick), [(.t 10), (.t 12), (.c (.imm (.bool false)))]⟩, ⟨(.some 14), none, (.q .mv), [(.t 13)]⟩, ⟨(.some 15), (.some (14, true)), (.q .mv), [(.t 0)]⟩, ⟨(.some 16), (.some (14, true)), (.q (.bin .neq 9)), [(.t 15), (.c (.imm (.string (B [46, 46]))))]⟩, ⟨(.some 17), none, (.q .pick), [(.t 14), (.t 16), (.c (.imm (.bool false)))]⟩, ⟨(.some 18), none, (.q .mv), [(.t 17)]⟩, ⟨(.some 19), (.some (18, true)), (.q .mv), [(.t 0)]⟩, ⟨(.some 20), (.some (18, true)), (.call true), [(.c (.fn (.func 105) [] [])), (.t 19), (.c (.imm (.string (B [97, 98, 99, 100, 101, 102, 103, 104, 105, 106, 107, 108, 109, 110, 111, 112, 113, 114, 115, 116, 117, 118, 119, 120, 121, 122, 65, 66, 67, 68, 69, 70, 71, 72, 73, 74, 75, 76, 77, 78, 79, 80, 81, 82, 83, 84, 85, 86, 87, 88, 89, 90, 48, 49, 50, 51, 52, 53, 54, 55, 56, 57, 45, 46, 95, 43, 126]))))]⟩, ⟨(.some 21), (.some (18, true)), (.q (.bin .eql 9)), [(.t 20), (.c (.imm (.string (B []))))]⟩, ⟨(.some 22), none, (.q .pick), [(.t 18), (.t 21), (.c (.imm (.bool false)))]⟩, ⟨(.some 23), none, (.q .mv), [(.t 22)]⟩, ⟨(.some 24), (.some (23, true)), (.q .mv), [(.t 0)]⟩, ⟨(.some 25), (.some (23, true)), (.call true), [(.c (.fn (.func 106) [] [])), (.t 24), (.c (.fn (.func 107) [] []))]⟩, ⟨(.some 26), (.some (23, true)), (.q (.un .not)), [(.t 25)]⟩, ⟨(.some 27), none, (.q .pick), [(.t 23), (.t 26), (.c (.imm (.bool false)))]⟩, ⟨(.some 2), none, (.q .mv), [(.t 27)]⟩]) .ret))
theorem fn90 : IsFn Tryz.prog 90 [] c90 [2] 28 := ⟨_, _, Tryz.func90, rfl, by decide +kernel, by kernel_rfl, rfl, rfl⟩
theorem p90 (s : List UInt8) (hs : s.length ≤ 1099511627776) : Pure Tryz.prog G 90 [T s] (bool (partOk s)) := by
  refine pure_of_code' (S := sp [(105, txt1c letters (fun l => l.length ≤ 1099511627776) fun l => T (Lib.trimS l letters)), (106, cfSp)] []) hm hG (sp_holds (.cons (told_txt1c p105) (.cons told_cf .nil)) .nil) fn90 ([T s, .junk, .junk, .junk, .junk, .junk, .junk, .junk, .junk, .junk, .junk, .junk, .junk, .junk, .junk, .junk, .junk, .junk, .junk, .junk, .junk, .junk, .junk, .junk, .junk, .junk, .junk, .junk]) rfl (by simp [lows, AV.low]) (by simp [AV.low]) ?_
  simp (maxSteps := 2000000) -implicitDefEqProofs only [c90, ↓RP0, ↓RP1, ↓RP2, ↓RP3, RV, RW, ↓reduceIte, Nat.reduceAdd, Nat.reduceSub, Nat.reduceMul, Nat.reduceLeDiff, Nat.reduceEqDiff, Int.reduceLT, Int.reduceLE, Int.reduceEq, Int.reduceNe, Int.reduceAdd, Int.reduceSub, Int.reduceMul, Int.reduceNeg, Int.reduceToNat, reduceCtorEq, ↓ask_cf]
  have key : ∀ b, b = partOk s → AV.imm (.bool b) = bool (partOk s) := by rintro _ rfl; rfl
  refine ⟨fun h => key _ ?_, fun h => ⟨fun h1 => ⟨fun h2 => key _ ?_, fun h2 => ⟨fun h3 => key _ ?_, fun h3 => ⟨rfl, hs, fun h4 => ⟨fun h5 => key _ ?_, fun h5 => key _ ?_⟩, fun h4 => key _ ?_⟩⟩⟩, fun h1 => key _ ?_⟩⟩
  · simp [partOk, h]
  · simp [partOk, h2]
  · simp [partOk, h3]
  · simp only [Bool.not_eq_true'] at h5; simp [partOk, h5]
  · simp only [Bool.not_eq_false'] at h5
    have : 1 ≤ s.length := by cases s with | nil => exact absurd rfl h | cons => simp
    simp only [partOk, h5, decide_eq_true this, decide_eq_true (show s.length ≤ 100 by omega), decide_eq_false h2, decide_eq_false h3]; rfl
  · have : (s.all fun b => letterI b.toNat) = false := by
      rw [Bool.eq_false_iff]; exact fun e => h4 (trim_all e)
    simp only [partOk, this, Bool.false_and]
  · simp only [partOk, decide_eq_false (show ¬ s.length ≤ 100 by omega), Bool.and_false, Bool.false_and]
end Go.AL.Path

/- Path: whether a text is parts between slashes. -/
set_option linter.unusedSimpArgs false
set_option linter.unusedVariables false
set_option maxRecDepth 100000
namespace Go.AL.Path
open Go Go.RowKit Go.Proofs Go.AL Go.Shelf
attribute [local go_sem] Oper.semAt_some
def wholeP (s : List UInt8) : Bool := partsOk s && decide (s.length ≤ 254)
theorem goParts_pieces : ∀ (l cur : List UInt8), goParts cur l = (pieces cur l).all partOk
  | [], cur => by simp [goParts, pieces]
  | c :: r, cur => by
    rw [goParts, pieces]
    split
    · rw [goParts_pieces r [], List.all_cons]
    · exact goParts_pieces r _
def laid54 (s : List UInt8) (w : World) : World := ((w.alloc (.cells #[.string (B s)] 9)).alloc (.cells #[.string (B [47])] 9)).alloc (.cells #[.int .i64 0] 3)
def fn54V (b : Nat) : Value := .func (.func 135) #[] #[.pointer (some ⟨b + 1, 0, none⟩), .pointer (some ⟨b, 0, none⟩), .pointer (some ⟨b + 2, 0, none⟩)]
theorem calls54 (s : List UInt8) (w : World) : CallsIn Fence.wide 3 Tryz.prog 122 #[.string (B s), .string (B [47]), .int .i64 0] w fun e w' => e = .returned (fn54V w.heap.size) ∧ w' = laid54 s w := by
  refine callsIn_of_wp Tryz.func122 rfl trivial ?_ rfl
  simp only [Tryz.ntmps122, List.size_toArray, List.length_cons, List.length_nil, Nat.reduceAdd, Nat.reduceSub, Array.replicate_succ, Array.replicate_zero, List.push_toArray, List.append_toArray, List.nil_append, List.cons_append]
  gi_wp2
  refine bodyPost_ret (results_tmp rfl _ _ _) rfl ?_
  exact ⟨by simp [fn54V], rfl⟩
theorem calls39 (s : List UInt8) (w : World) : CallsIn Fence.wide 3 Tryz.prog 104 #[.string (B s), .string (B [47])] w fun e w' => e = .returned (fn54V w.heap.size) ∧ w' = laid54 s w := by
  refine callsIn_of_wp Tryz.func104 rfl trivial ?_ rfl
  simp only [Tryz.ntmps104, List.size_toArray, List.length_cons, List.length_nil, Nat.reduceAdd, Nat.reduceSub, Array.replicate_succ, Array.replicate_zero, List.push_toArray, List.append_toArray, List.nil_append, List.cons_append]
  gi_wp2_with (refine ⟨trivial, ?_⟩; gi_at_call 122; refine (callsIn_wide.2 (callsIn_wide.1 (calls54 s w))).mono ?_; rintro e w' ⟨rfl, rfl⟩)
  refine bodyPost_ret (results_tmp rfl _ _ _) rfl ?_
  exact ⟨rfl, rfl⟩
theorem calls33 (s : List UInt8) (w : World) : CallsIn Fence.wide 3 Tryz.prog 89 #[.string (B s)] w fun e w' => e = .returned (fn54V w.heap.size) ∧ w' = laid54 s w := by
  refine callsIn_of_wp Tryz.func89 rfl trivial ?_ rfl
  simp only [Tryz.ntmps89, List.size_toArray, List.length_cons, List.length_nil, Nat.reduceAdd, Nat.reduceSub, Array.replicate_succ, Array.replicate_zero, List.push_toArray, List.append_toArray, List.nil_append, List.cons_append]
  gi_wp2_with (refine ⟨trivial, ?_⟩; gi_at_call 104; refine (callsIn_wide.2 (callsIn_wide.1 (calls39 s w))).mono ?_; rintro e w' ⟨rfl, rfl⟩)
  refine bodyPost_ret (results_tmp rfl _ _ _) rfl ?_
  exact ⟨rfl, rfl⟩
theorem heap_newest (w : World) (o : Obj) : (w.alloc o).heap[w.heap.size]? = some o := World.alloc_heap_new w o
theorem heap_older (w : World) (o : Obj) {k : Nat} {x : Obj} (h : w.heap[k]? = some x) : (w.alloc o).heap[k]? = some x := (Below.heap_alloc w o k (heap_lt h)).trans h
theorem cell_of {w : World} {k : Nat} {v : Value} {ty : TypeId} (h : w.heap[k]? = some (.cells #[v] ty)) : w.cell? ⟨k, 0, none⟩ = some v ∧ w.frozen? ⟨k, 0, none⟩ = false := by
  constructor <;> simp [World.cell?, World.frozen?, h]
/-- What lies when the loop begins. -/
theorem laid_facts (s : List UInt8) (w : World) :
    (laid54 s (w.alloc (.cells #[.bool false] 4))).heap.size = w.heap.size + 4 ∧
    (laid54 s (w.alloc (.cells #[.bool false] 4))).heap[w.heap.size]? = some (.cells #[.bool false] 4) ∧
    (laid54 s (w.alloc (.cells #[.bool false] 4))).heap[w.heap.size + 1]? = some (.cells #[.string (B s)] 9) ∧
    (laid54 s (w.alloc (.cells #[.bool false] 4))).heap[w.heap.size + 2]? = some (.cells #[.string (B [47])] 9) ∧
    (laid54 s (w.alloc (.cells #[.bool false] 4))).heap[w.heap.size + 3]? = some (.cells #[.int .i64 0] 3) ∧
    Below w.heap.size w (laid54 s (w.alloc (.cells #[.bool false] 4))) := by
  unfold laid54
  have h0 := heap_newest w (.cells #[.bool false] 4)
  have h1 := heap_newest (w.alloc (.cells #[.bool false] 4)) (.cells #[.string (B s)] 9)
  have h2 := heap_newest ((w.alloc (.cells #[.bool false] 4)).alloc (.cells #[.string (B s)] 9)) (.cells #[.string (B [47])] 9)
  have h3 := heap_newest (((w.alloc (.cells #[.bool false] 4)).alloc (.cells #[.string (B s)] 9)).alloc (.cells #[.string (B [47])] 9)) (.cells #[.int .i64 0] 3)
  simp only [World.size_alloc] at h0 h1 h2 h3
  refine ⟨by simp only [World.size_alloc], heap_older _ _ (heap_older _ _ (heap_older _ _ h0)), heap_older _ _ (heap_older _ _ h1), heap_older _ _ h2, h3, ?_⟩
  exact ((((Below.refl _ w).alloc (Nat.le_refl _) _).alloc (by simp only [World.size_alloc]; omega) _).alloc (by simp only [World.size_alloc]; omega) _).alloc (by simp only [World.size_alloc]; omega) _
/-- The loop's record. -/
@[reducible] def recL (fn : FuncId) (tmps : Array Value) (ps : Array Tmp) (asg body : Code) (D : Nat) (st : LoopState) (pe : Option Code) : Loop := { state := st, pending := pe, fn, tmps, params := ps, assign := asg, body, defers := D }
/-- A range over a function, laid open: what is left to show of the call of it. -/
theorem wpIn_ranged {F : Fence} {n : Nat} {P : Program} {g : Operand} {ps : Array Tmp} {asg body : Code} {Q : Exit → Act → World → Prop} {a : Act} {w : World} (hro : F.round = none) (h1 : 1 ≤ n) {gf : Nat} {lb : Array Value}
    (hg : a.eval g = .func (.func gf) #[] lb) (hF : F.fn gf) (eg : ∀ args w, (callFunc gf args).run P w = .ok (.enter gf args) w)
    (h : ∀ fn, F.fn fn → ∀ rec : LoopState → Option Code → Loop, rec = recL fn a.tmps ps asg body w.heap.size → CallsIn F (n - 1) P gf (#[.func (.yield (w.heap.size + 1)) #[] #[]] ++ lb) ((w.alloc (.deferred (some []))).alloc (.loop (rec .ready none)))
      (rangePost F n P (w.heap.size + 1) Q { a with defers := { target := .collected w.heap.size, args := #[] } :: a.defers })) :
    (Code.rangeFunc g ps asg body).wpIn F n P Q a w := by
  refine wpIn_rangeFunc ?_
  intro fn hfn
  rw [hro]
  have hc := h fn hfn _ rfl
  have he := run_enterLoop_outer (P := P) (w := w) fn a.tmps ps asg body
  obtain ⟨W1, hW1⟩ : ∃ W1, (w.alloc (.deferred (some []))).alloc (.loop (recL fn a.tmps ps asg body w.heap.size .ready none)) = W1 := ⟨_, rfl⟩
  rw [hW1] at hc he
  refine ⟨w.heap.size + 1, [{ target := .collected w.heap.size, args := #[] }], W1, { target := .fn (.func gf) lb, args := #[.func (.yield (w.heap.size + 1)) #[] #[]] }, W1, gf, #[.func (.yield (w.heap.size + 1)) #[] #[]] ++ lb, W1, ?_, ?_, ?_, ?_, fun _ => h1, ?_⟩
  · exact he
  · simp only [resolve, hg]
    simp [go_sem]
  · intro f' hf'
    simp [Target.leads] at hf'
    subst hf'
    exact hF
  · simp [invoke, go_sem, eg]
  · exact hc
theorem p73 (s : List UInt8) (hs : s.length ≤ 1099511627776) : Pure Tryz.prog G 73 [T s] (bool (wholeP s)) := by
  refine pure_of_below Tryz.func73 rfl (by decide +kernel) rfl imm1 fun H lo E w hsim => ?_
  refine (callsIn_wide (n := 3)).1 ?_
  refine callsIn_of_wp_marks Tryz.func73 rfl trivial ?_ rfl
  simp only [Tryz.ntmps73, List.size_toArray, List.length_cons, List.length_nil, Nat.reduceAdd, Nat.reduceSub, Array.replicate_succ, Array.replicate_zero, List.push_toArray, List.append_toArray, List.nil_append, List.cons_append]
  gi_wp2_with (refine ⟨trivial, ?_⟩; gi_at_call 89; refine (callsIn_wide.2 (callsIn_wide.1 (calls33 s _))).mono ?_; rintro e w' ⟨rfl, rfl⟩)
  obtain ⟨hz, hc0, hc1, hc2, hc3, hB0⟩ := laid_facts s w
  obtain ⟨h, hh⟩ : ∃ h, w.heap.size = h := ⟨_, rfl⟩
  obtain ⟨W0, hW0⟩ : ∃ W0, laid54 s (w.alloc (.cells #[.bool false] 4)) = W0 := ⟨_, rfl⟩
  rw [hW0, hh] at hz hc0 hc1 hc2 hc3
  rw [hW0] at hB0
  rw [hW0, hh]
  refine wpIn_ranged rfl (by decide) (gf := 135) (lb := #[.pointer (some ⟨h + 2, 0, none⟩), .pointer (some ⟨h + 1, 0, none⟩), .pointer (some ⟨h + 3, 0, none⟩)]) rfl trivial (enters_of Tryz.func135 (by kernel_rfl) rfl) fun fn hfn rec hrec => ?_
  rw [hz]
  obtain ⟨W1, hW1⟩ : ∃ W1, (W0.alloc (.deferred (some []))) = W1 := ⟨_, rfl⟩
  rw [hW1]
  have hD := heap_newest W0 (.deferred (some []))
  rw [hW1, hz] at hD
  have hz1 : W1.heap.size = h + 5 := by rw [← hW1, World.size_alloc, hz]
  have hk0 := heap_older W0 (.deferred (some [])) hc0
  have hk1 := heap_older W0 (.deferred (some [])) hc1
  have hk2 := heap_older W0 (.deferred (some [])) hc2
  have hk3 := heap_older W0 (.deferred (some [])) hc3
  rw [hW1] at hk0 hk1 hk2 hk3
  have hB1 : Below w.heap.size w W1 := by rw [← hW1]; exact hB0.alloc (by omega) _
  clear hc0 hc1 hc2 hc3 hB0 hW1
  obtain ⟨W2, hW2⟩ : ∃ W2, (W1.alloc (.loop (rec .ready none))) = W2 := ⟨_, rfl⟩
  have hL := heap_newest W1 (.loop (rec .ready none))
  rw [hW2, hz1] at hL
  replace hD := heap_older W1 (.loop (rec .ready none)) hD
  replace hk0 := heap_older W1 (.loop (rec .ready none)) hk0
  replace hk1 := heap_older W1 (.loop (rec .ready none)) hk1
  replace hk2 := heap_older W1 (.loop (rec .ready none)) hk2
  replace hk3 := heap_older W1 (.loop (rec .ready none)) hk3
  rw [hW2] at hk0 hk1 hk2 hk3 hD
  have hB2 : Below w.heap.size w W2 := by rw [← hW2]; exact hB1.alloc (by omega) _
  rw [hW2]
  refine (seq71 Fence.wide 2 rfl (h + 5) (h + 1) (h + 2) (h + 3) (h + 4) s hs (by omega) (by omega) (by omega) (by omega) (by omega)
    (fun pre W => pre.all partOk = true ∧ W.heap[h]? = some (.cells #[.bool false] 4) ∧ W.heap[h + 4]? = some (.deferred (some [])) ∧ W.heap[h + 5]? = some (.loop (rec .ready none)) ∧ Below w.heap.size w W)
    (fun pre W => pre.all partOk = false ∧ W.cell? ⟨h, 0, none⟩ = some (.bool false) ∧ W.heap[h + 4]? = some (.deferred (some [])) ∧ W.heap[h + 5]? = some (.loop (rec .done (some .ret))) ∧ Below w.heap.size w W)
    ?J ?Y W2 (cell_of hk1).1 (cell_of hk1).2 (cell_of hk2).1 (cell_of hk3).1 ⟨rfl, hk0, hD, hL, hB2⟩).mono ?E
  case J =>
    rintro pre W v ⟨h1, h2, h3, h4, h5⟩
    exact ⟨h1, (Below.heap_setCell _ _ _ _ (by simp)).trans h2, (Below.heap_setCell _ _ _ _ (by simp)).trans h3, (Below.heap_setCell _ _ _ _ (by simp)).trans h4, h5.setCell (by simp; omega) _⟩
  case Y =>
    rintro pre x W ⟨h1, h2, h3, h4, h5⟩ hx
    have hlt : h + 5 < W.heap.size := heap_lt h4
    have hy := run_yield (P := Tryz.prog) (args := #[.string (B x)]) h4 (by rw [hrec]; rfl)
    have hbr := run_beginRound (P := Tryz.prog) h4 (by rw [hrec])
    obtain ⟨W3, hW3⟩ : ∃ W3, W.putObj (h + 5) (.loop { rec .ready none with state := .busy }) = W3 := ⟨_, rfl⟩
    rw [hW3] at hbr
    have b1 : Below (h + 4) W W3 := by rw [← hW3]; exact (Below.refl _ W).grown (grownBy_putObj' W _ _) (by omega) (fun k e => by cases e; omega)
    have b2 : Below w.heap.size w W3 := h5.trans (b1.mono (by omega))
    have g2 : W3.heap[h]? = some (.cells #[.bool false] 4) := (b1.block h (by omega)).trans h2
    have g3 : W3.heap[h + 4]? = some (.deferred (some [])) := by rw [← hW3]; exact (World.putObj_heap_other (by omega)).trans h3
    have g4 : W3.heap[h + 5]? = some (.loop { rec .ready none with state := .busy }) := by rw [← hW3]; exact World.putObj_heap_same hlt
    have hlt3 : h + 5 < W3.heap.size := heap_lt g4
    obtain ⟨k1, _⟩ := hsim.grow b2 (fun _ => False) (fun _ h => h.elim)
    obtain ⟨E0, k2⟩ := SimH.restart hG k1
    have h34 : Calls Tryz.prog 90 #[.string (B x)] W3 fun e W' => e = .returned (.bool (partOk x)) ∧ Below W3.heap.size W3 W' := calls_of_pure Tryz.func90 rfl (by decide +kernel) (p90 x (by omega)) imm1 k2 (by simp [Value.oneCell'])
    have her : ∀ jump W', W'.heap[h + 5]? = some (.loop { rec .ready none with state := .busy }) → (Instr.endRound (h + 5) jump).run Tryz.prog W' = .ok (.bool jump.isNone) (W'.putObj (h + 5) (.loop (rec (if jump.isNone then .ready else .done) jump))) := by
      intro jump W' hw
      have := run_endRound (P := Tryz.prog) jump hw
      rw [hrec] at this ⊢
      exact this
    rw [hrec] at hy
    refine ⟨fn, _, _, _, hy, roundIn_of_wpIn hfn ?_⟩
    dsimp only [recL]
    clear hrec hy hW3 hL h4
    have fin : ∀ W4, Below W3.heap.size W3 W4 → W4.heap[h]? = some (.cells #[.bool false] 4) ∧ W4.heap[h + 4]? = some (.deferred (some [])) ∧ W4.heap[h + 5]? = some (.loop { rec .ready none with state := .busy }) ∧ Below w.heap.size w W4 ∧ Below (h + 4) W W4 := fun W4 hb4 =>
      ⟨(hb4.block h (by omega)).trans g2, (hb4.block (h + 4) (by omega)).trans g3, (hb4.block (h + 5) hlt3).trans g4, b2.trans (hb4.mono b2.size), b1.trans (hb4.mono (by omega))⟩
    have hend : ∀ jump W4, W4.heap[h]? = some (.cells #[.bool false] 4) → W4.heap[h + 4]? = some (.deferred (some [])) → W4.heap[h + 5]? = some (.loop { rec .ready none with state := .busy }) → Below w.heap.size w W4 →
        (W4.putObj (h + 5) (.loop (rec (if jump.isNone then .ready else .done) jump))).heap[h]? = some (.cells #[.bool false] 4) ∧ (W4.putObj (h + 5) (.loop (rec (if jump.isNone then .ready else .done) jump))).heap[h + 4]? = some (.deferred (some [])) ∧
        (W4.putObj (h + 5) (.loop (rec (if jump.isNone then .ready else .done) jump))).heap[h + 5]? = some (.loop (rec (if jump.isNone then .ready else .done) jump)) ∧ Below w.heap.size w (W4.putObj (h + 5) (.loop (rec (if jump.isNone then .ready else .done) jump))) ∧ Below (h + 4) W4 (W4.putObj (h + 5) (.loop (rec (if jump.isNone then .ready else .done) jump))) := fun jump W4 e1 e2 e3 e4 =>
      ⟨(World.putObj_heap_other (by omega)).trans e1, (World.putObj_heap_other (by omega)).trans e2, World.putObj_heap_same (heap_lt e3), e4.grown (grownBy_putObj' W4 _ _) e4.size (fun k e => by cases e; omega), (Below.refl _ W4).grown (grownBy_putObj' W4 _ _) (by have := heap_lt e3; omega) (fun k e => by cases e; omega)⟩
    clear hsim k1 k2 hB1 hB2 hk0 hk1 hk2 hk3 hD b1 b2 g2 g3
    cases hpx : partOk x with
    | true =>
      rw [hpx] at h34
      gi_wp2
      refine ⟨trivial, (CallsIn.inRound _ (callsIn_wide.2 h34)).mono ?_⟩
      rintro e W4 ⟨rfl, hb4⟩
      obtain ⟨f1, f2, f3, f4, f5⟩ := fin W4 hb4
      obtain ⟨e1, e2, e3, e4, e5⟩ := hend none W4 f1 f2 f3 f4
      clear fin h34 hbr hb4
      gi_wp2
      refine ⟨_, _, her none W4 f3, rfl, ⟨e1, e2, e3, ?_⟩, f5.trans e5⟩
      first | exact e4 | (rw [hh] at e4; exact e4)
    | false =>
      rw [hpx] at h34
      gi_wp2
      refine ⟨trivial, (CallsIn.inRound _ (callsIn_wide.2 h34)).mono ?_⟩
      rintro e W4 ⟨rfl, hb4⟩
      obtain ⟨f1, f2, f3, f4, f5⟩ := fin W4 hb4
      have hcl := cell_of f1
      have q0 : (W4.setCell ⟨h, 0, none⟩ (.bool false)).cell? ⟨h, 0, none⟩ = some (.bool false) := World.cell?_setCell_same' _ _ _ (by rw [hcl.1]; rfl)
      have q1 : (W4.setCell ⟨h, 0, none⟩ (.bool false)).heap[h + 4]? = some (.deferred (some [])) := (Below.heap_setCell _ _ _ _ (by simp)).trans f2
      have q2 : (W4.setCell ⟨h, 0, none⟩ (.bool false)).heap[h + 5]? = some (.loop { rec .ready none with state := .busy }) := (Below.heap_setCell _ _ _ _ (by simp)).trans f3
      have q3 : Below w.heap.size w (W4.setCell ⟨h, 0, none⟩ (.bool false)) := f4.setCell (by simp; omega) _
      obtain ⟨W5, hW5⟩ : ∃ W5, W4.setCell ⟨h, 0, none⟩ (.bool false) = W5 := ⟨_, rfl⟩
      rw [hW5] at q0 q1 q2 q3
      clear fin h34 hbr hb4
      gi_wp2
      refine ⟨_, _, her (some .ret) W5 q2, ⟨rfl, (World.cell?_of_block (World.putObj_heap_other (by simp))).trans q0, (World.putObj_heap_other (by omega)).trans q1, World.putObj_heap_same (heap_lt q2), ?_⟩⟩
      have q4 : Below w.heap.size w (W5.putObj (h + 5) (.loop (rec .done (some .ret)))) := q3.grown (grownBy_putObj' W5 _ _) q3.size (fun k e => by cases e; omega)
      first | exact q4 | (rw [hh] at q4; exact q4)
  case E =>
    have hro : ∀ st pe, (rec st pe).state = st ∧ (rec st pe).pending = pe := fun st pe => by rw [hrec]; exact ⟨rfl, rfl⟩
    rintro e W4 ⟨⟨v, rfl⟩, hA⟩
    have hA' : (partsOk s = true ∧ W4.heap[h]? = some (.cells #[.bool false] 4) ∧ W4.heap[h + 4]? = some (.deferred (some [])) ∧ W4.heap[h + 5]? = some (.loop (rec .ready none)) ∧ Below w.heap.size w W4) ∨
        (partsOk s = false ∧ W4.cell? ⟨h, 0, none⟩ = some (.bool false) ∧ W4.heap[h + 4]? = some (.deferred (some [])) ∧ W4.heap[h + 5]? = some (.loop (rec .done (some .ret))) ∧ Below w.heap.size w W4) := by
      unfold partsOk
      rw [goParts_pieces s []]
      rcases hA with hA | hA | ⟨pre, ⟨t, ht⟩, h1, hA⟩
      · exact .inl hA
      · exact .inr hA
      · exact .inr ⟨by rw [← ht, List.all_append, h1]; rfl, hA⟩
    clear hA
    have h45 : h + 4 + 1 = h + 5 := rfl
    rw [h45]
    rcases hA' with ⟨h1, h2, h3, h4, h5⟩ | ⟨h1, h2, h3, h4, h5⟩
    · obtain ⟨W5, hW5⟩ : ∃ W5, W4.putObj (h + 5) (.loop { rec .ready none with state := .exhausted }) = W5 := ⟨_, rfl⟩
      have g2 : W5.heap[h]? = some (.cells #[.bool false] 4) := by rw [← hW5]; exact (World.putObj_heap_other (by omega)).trans h2
      have g3 : W5.heap[h + 4]? = some (.deferred (some [])) := by rw [← hW5]; exact (World.putObj_heap_other (by omega)).trans h3
      have g5 : Below w.heap.size w W5 := by rw [← hW5]; exact h5.grown (grownBy_putObj' W4 _ _) h5.size (fun k e => by cases e; omega)
      have hE := run_endLoop (P := Tryz.prog) h4 (by rw [(hro _ _).1]; decide)
      rw [hW5, (hro _ _).2] at hE
      refine ⟨none, W5, hE, ?_⟩
      have hcl := cell_of g2
      have hsz : (((B s).size : Nat) : Int) = (s.length : Int) := rfl
      clear hE hW5 hro hrec hL hk0 hk1 hk2 hk3 hB1 hB2
      dsimp only
      gi_wp2
      obtain ⟨W6, hW6⟩ : ∃ W6, W5.setCell ⟨h, 0, none⟩ (.bool (decide ((s.length : Int) ≤ 254))) = W6 := ⟨_, rfl⟩
      have q0 : W6.cell? ⟨h, 0, none⟩ = some (.bool (decide ((s.length : Int) ≤ 254))) := by rw [← hW6]; exact World.cell?_setCell_same' _ _ _ (by rw [hcl.1]; rfl)
      have q1 : W6.heap[h + 4]? = some (.deferred (some [])) := by rw [← hW6]; exact (Below.heap_setCell _ _ _ _ (by simp)).trans g3
      have q3 : Below w.heap.size w W6 := by rw [← hW6]; exact g5.setCell (by simp; omega) _
      rw [hW6]
      refine ⟨by simp, .inl ⟨_, _, rfl, run_takeDeferred q1, ?_⟩⟩
      have q4 : (W6.putObj (h + 4) (.deferred none)).cell? ⟨h, 0, none⟩ = some (.bool (decide ((s.length : Int) ≤ 254))) := (World.cell?_of_block (World.putObj_heap_other (by simp))).trans q0
      refine ⟨.bool (decide ((s.length : Int) ≤ 254)), ?_, ?_, ?_⟩
      · simp [results, Tryz.f73, go_sem, q4]
      · congr 2
        unfold wholeP
        rw [h1, Bool.true_and]
        exact decide_eq_decide.2 (by omega)
      · have q5 : Below w.heap.size w (W6.putObj (h + 4) (.deferred none)) := q3.grown (grownBy_putObj' W6 _ _) q3.size (fun k e => by cases e; omega)
        first | exact q5 | (rw [hh] at q5; exact q5)
    · obtain ⟨W5, hW5⟩ : ∃ W5, W4.putObj (h + 5) (.loop { rec .done (some .ret) with state := .exhausted }) = W5 := ⟨_, rfl⟩
      have g2 : W5.cell? ⟨h, 0, none⟩ = some (.bool false) := by rw [← hW5]; exact (World.cell?_of_block (World.putObj_heap_other (by simp))).trans h2
      have g3 : W5.heap[h + 4]? = some (.deferred (some [])) := by rw [← hW5]; exact (World.putObj_heap_other (by omega)).trans h3
      have g5 : Below w.heap.size w W5 := by rw [← hW5]; exact h5.grown (grownBy_putObj' W4 _ _) h5.size (fun k e => by cases e; omega)
      have hE := run_endLoop (P := Tryz.prog) h4 (by rw [(hro _ _).1]; decide)
      rw [hW5, (hro _ _).2] at hE
      refine ⟨some .ret, W5, hE, ?_⟩
      clear hE hW5 hro hrec hL hk0 hk1 hk2 hk3 hB1 hB2
      dsimp only
      gi_wp2
      refine ⟨by simp, .inl ⟨_, _, rfl, run_takeDeferred g3, ?_⟩⟩
      have q4 : (W5.putObj (h + 4) (.deferred none)).cell? ⟨h, 0, none⟩ = some (.bool false) := (World.cell?_of_block (World.putObj_heap_other (by simp))).trans g2
      refine ⟨.bool false, ?_, ?_, ?_⟩
      · simp [results, Tryz.f73, go_sem, q4]
      · congr 2
        unfold wholeP
        rw [h1, Bool.false_and]
      · have q5 : Below w.heap.size w (W5.putObj (h + 4) (.deferred none)) := g5.grown (grownBy_putObj' W5 _ _) g5.size (fun k e => by cases e; omega)
        first | exact q5 | (rw [hh] at q5; exact q5)
#print axioms p73
end Go.AL.Path

/- Path: the program's paths. -/
set_option linter.unusedSimpArgs false
set_option linter.unusedVariables false
set_option maxRecDepth 100000
namespace Go.AL.Path
open Go Go.RowKit Go.Proofs Go.AL
def c60 : ACode := (.seq (.reg false 0 [⟨(.some 2), none, (.q .mv), [(.c (.imm (.string (B []))))]⟩, ⟨(.some 3), none, (.q .mv), [(.c (.imm (.string (B []))))]⟩, ⟨(.some 4), none, (.q .mv), [(.c (.imm (.int .i64 0)))]⟩]) (.seq (.block 0 (.seq (.reg false 0 [⟨(.some 8), none, (.q .mv), [(.t 0)]⟩, ⟨(.some 9), none, (.call true), [(.c (.fn (.func 73) [] [])), (.t 8)]⟩, ⟨(.some 10), none, (.q (.un .not)), [(.t 9)]⟩, ⟨(.some 7), none, (.q .mv), [(.t 10)]⟩]) (.cond (.t 7) (.seq (.reg false 0 [⟨(.some 2), none, (.q .mv), [(.c (.imm (.string (B []))))]⟩, ⟨(.some 3), none, (.q .mv), [(.c (.imm (.string (B []))))]⟩, ⟨(.some 4), none, (.q .mv), [(.c (.imm (.int .i64 9)))]⟩]) .ret) (.seq (.reg false 0 [⟨(.some 12), none, (.q .mv), [(.t 0)]⟩, ⟨(.some 13), none, (.q .lenS), [(.t 12)]⟩, ⟨(.some 14), none, (.q (.bin .leq 3)), [(.t 13), (.c (.imm (.int .i64 100)))]⟩, ⟨(.some 11), none, (.q .mv), [(.t 14)]⟩]) (.cond (.t 11) (.seq (.reg false 0 [⟨(.some 15), none, (.q .mv), [(.t 0)]⟩, ⟨(.some 2), none, (.q .mv), [(.c (.imm (.string (B []))))]⟩, ⟨(.some 3), none, (.q .mv), [(.t 15)]⟩, ⟨(.some 4), none, (.q .mv), [(.c (.imm (.int .i64 0)))]⟩]) .ret) .skip))))) (.seq (.reg false 0 [⟨(.some 16), none, (.q .mv), [(.t 0)]⟩, ⟨(.some 17), none, (.q .lenS), [(.t 16)]⟩, ⟨(.some 18), none, (.q (.bin .sub 3)), [(.t 17), (.c (.imm (.int .i64 100)))]⟩, ⟨(.some 19), none, (.q (.bin .sub 3)), [(.t 18), (.c (.imm (.int .i64 1)))]⟩, ⟨(.some 5), none, (.q .mv), [(.t 19)]⟩]) (.seq (.reg false 0 [⟨(.some 20), none, (.q .mv), [(.t 0)]⟩, ⟨(.some 21), none, (.q .mv), [(.t 5)]⟩, ⟨(.some 22), none, (.q (.sliceS true false)), [(.t 20), (.t 21)]⟩, ⟨(.some 23), none, (.call true), [(.c (.fn (.func 61) [] [])), (.t 22), (.c (.imm (.string (B [47]))))]⟩, ⟨(.some 6), none, (.q .mv), [(.t 23)]⟩]) (.seq (.seq (.reg false 0 [⟨(.some 24), none, (.q .mv), [(.t 6)]⟩, ⟨(.some 25), none, (.q (.bin .lss 3)), [(.t 24), (.c (.imm (.int .i64 0)))]⟩, ⟨(.some 26), none, (.q .mv), [(.t 25)]⟩, ⟨(.some 27), (.some (26, false)), (.q .mv), [(.t 5)]⟩, ⟨(.some 28), (.some (26, false)), (.q .mv), [(.t 6)]⟩, ⟨(.some 29), (.some (26, false)), (.q (.bin .add 3)), [(.t 27), (.t 28)]⟩, ⟨(.some 30), (.some (26, false)), (.q (.bin .gtr 3)), [(.t 29), (.c (.imm (.int .i64 155)))]⟩, ⟨(.some 31), none, (.q .pick), [(.t 26), (.c (.imm (.bool true))), (.t 30)]⟩]) (.cond (.t 31) (.seq (.reg false 0 [⟨(.some 2), none, (.q .mv), [(.c (.imm (.string (B []))))]⟩, ⟨(.some 3), none, (.q .mv), [(.c (.imm (.string (B []))))]⟩, ⟨(.some 4), none, (.q .mv), [(.c (.imm (.int .i64 9)))]⟩]) .ret) .skip)) (.seq (.reg true 0 [⟨(.some 32), none, (.q .mv), [(.t 0)]⟩, ⟨(.some 33), none, (.q .mv), [(.t 5)]⟩, ⟨(.some 34), none, (.q .mv), [(.t 6)]⟩, ⟨(.some 35), none, (.q (.bin .add 3)), [(.t 33), (.t 34)]⟩, ⟨(.some 36), none, (.q (.sliceS false true)), [(.t 32), (.t 35)]⟩, ⟨(.some 37), none, (.q .mv), [(.t 0)]⟩, ⟨(.some 38), none, (.q .mv), [(.t 5)]⟩, ⟨(.some 39), none, (.q .mv), [(.t 6)]⟩, ⟨(.some 40), none, (.q (.bin .add 3)), [(.t 38), (.t 39)]⟩, ⟨(.some 41), none, (.q (.bin .add 3)), [(.t 40), (.c (.imm (.int .i64 1)))]⟩, ⟨(.some 42), none, (.q (.sliceS true false)), [(.t 37), (.t 41)]⟩, ⟨(.some 2), none, (.q .mv), [(.t 36)]⟩, ⟨(.some 3), none, (.q .mv), [(.t 42)]⟩, ⟨(.some 4), none, (.q .mv), [(.c (.imm (.int .i64 0)))]⟩]) .ret))))))
theorem fn60 : IsFn Tryz.prog 60 [] c60 [2, 3, 4] 43 := ⟨_, _, Tryz.func60, rfl, by decide +kernel, by kernel_rfl, rfl, rfl⟩
theorem p60 (s : List UInt8) (hs : s.length ≤ 1099511627776) : Pure Tryz.prog G 60 [T s] (splitV s) := by
  refine pure_of_code' (S := sp [(73, txt1b (fun l => l.length ≤ 1099511627776) wholeP), (61, txt1c [47] (fun _ => True) fun l => i64 (Lib.indexByte l 47))] []) hm hG (sp_holds (.cons (told_txt1b p73) (.cons (told_txt1c fun l _ => p61 l 47) .nil)) .nil) fn60 ([T s, .junk, .junk, .junk, .junk, .junk, .junk, .junk, .junk, .junk, .junk, .junk, .junk, .junk, .junk, .junk, .junk, .junk, .junk, .junk, .junk, .junk, .junk, .junk, .junk, .junk, .junk, .junk, .junk, .junk, .junk, .junk, .junk, .junk, .junk, .junk, .junk, .junk, .junk, .junk, .junk, .junk, .junk]) rfl (by simp [lows, AV.low]) (splitV_low s) ?_
  have key : ∀ x y, splitP s = some (x, y) → AV.tup [T x, T y, i64 0] = splitV s := by intro x y h; unfold splitV; rw [h]
  have keyn : splitP s = none → AV.tup [T [], T [], i64 9] = splitV s := by intro h; unfold splitV; rw [h]
  simp (maxSteps := 2000000) -implicitDefEqProofs only [c60, ↓RP0, ↓RP1, ↓RP2, ↓RP3, RV, RW, ↓reduceIte, Nat.reduceAdd, Nat.reduceSub, Nat.reduceMul, Nat.reduceLeDiff, Nat.reduceEqDiff, Int.reduceLT, Int.reduceLE, Int.reduceEq, Int.reduceNe, Int.reduceAdd, Int.reduceSub, Int.reduceMul, Int.reduceNeg, Int.reduceToNat, reduceCtorEq]
  refine ⟨hs, fun hw => ⟨fun h => ?_, fun h => ?_⟩, fun hw => ?_⟩
  · simp only [wholeP, Bool.and_eq_true, decide_eq_true_eq] at hw
    exact key _ _ (by unfold splitP; rw [if_neg (by simp [hw.1]; omega), if_pos (by omega)])
  · simp only [wholeP, Bool.and_eq_true, decide_eq_true_eq] at hw
    have hsp : splitP s = (let n := Lib.indexByte (s.drop (s.length - 101)) 47
        if n < 0 ∨ ((s.length - 101 : Nat) : Int) + n > 155 then none else some (s.take (s.length - 101 + n.toNat), s.drop (s.length - 101 + n.toNat + 1))) := by
      unfold splitP; rw [if_neg (by simp [hw.1]; omega), if_neg (by omega)]
    have e0 : ((s.length : Int) - 100 - 1).toNat = s.length - 101 := by omega
    simp only [e0, List.take_length]
    obtain ⟨n, hn⟩ : ∃ n, Lib.indexByte (s.drop (s.length - 101)) 47 = n := ⟨_, rfl⟩
    have hge := Lib.indexByte_ge (s.drop (s.length - 101)) 47
    have hlt : n < s.length - (s.length - 101 : Nat) := by
      rcases (by omega : n < 0 ∨ 0 ≤ n) with h0 | h0
      · omega
      · obtain ⟨o, rfl⟩ := Int.eq_ofNat_of_zero_le h0
        have := (Lib.indexByte_some hn).1
        obtain ⟨hl, _⟩ := List.getElem?_eq_some_iff.1 this
        simp at hl
        omega
    rw [hn] at hge
    rw [hn] at hsp
    simp only [hn]
    have tail : ¬ n < 0 → ¬ 155 < (s.length : Int) - 100 - 1 + n → splitP s = some (s.take ((s.length : Int) - 100 - 1 + n).toNat, s.drop ((s.length : Int) - 100 - 1 + n + 1).toNat) := by
      intro h1 h2
      rw [hsp]
      dsimp only
      rw [if_neg (by omega)]
      congr 3 <;> omega
    refine ⟨⟨by omega, by omega⟩, ⟨by omega, by omega⟩, by omega, by omega, fun h1 => keyn (by rw [hsp]; dsimp only; rw [if_pos (by omega)]), fun h1 => ⟨⟨by omega, by omega⟩, fun h2 => keyn (by rw [hsp]; dsimp only; rw [if_pos (by omega)]), fun h2 => ?_⟩⟩
    exact ⟨⟨by omega, by omega⟩, by omega, by omega, ⟨by omega, by omega⟩, ⟨by omega, by omega⟩, by omega, by omega, key _ _ (tail h1 h2)⟩
  · refine keyn ?_
    unfold splitP
    rw [if_pos]
    simp only [wholeP, Bool.and_eq_false_iff, decide_eq_false_iff_not] at hw
    rcases hw with h | h
    · exact .inl h
    · exact .inr (by omega)
def c48 : ACode := (.seq (.reg false 0 [⟨(.some 2), none, (.q .mv), [(.c (.imm (.bool false)))]⟩]) (.seq (.reg false 0 [⟨(.some 7), none, (.q .mv), [(.t 0)]⟩, ⟨(.some 8), none, (.call true), [(.c (.fn (.func 60) [] [])), (.t 7)]⟩, ⟨(.some 6), none, (.q .mv), [(.t 8)]⟩, ⟨(.some 9), none, (.q (.ext 0)), [(.t 6)]⟩, ⟨(.some 10), none, (.q (.ext 1)), [(.t 6)]⟩, ⟨(.some 11), none, (.q (.ext 2)), [(.t 6)]⟩, ⟨(.some 3), none, (.q .mv), [(.t 9)]⟩, ⟨(.some 4), none, (.q .mv), [(.t 10)]⟩, ⟨(.some 5), none, (.q .mv), [(.t 11)]⟩]) (.seq (.reg false 0 [⟨(.some 12), none, (.q .mv), [(.t 5)]⟩, ⟨(.some 13), none, (.q (.bin .eql 27)), [(.t 12), (.c (.imm (.int .i64 0)))]⟩, ⟨(.some 2), none, (.q .mv), [(.t 13)]⟩]) .ret)))
theorem fn48 : IsFn Tryz.prog 48 [] c48 [2] 14 := ⟨_, _, Tryz.func48, rfl, by decide +kernel, by kernel_rfl, rfl, rfl⟩
theorem p48 (s : List UInt8) (hs : s.length ≤ 1099511627776) : Pure Tryz.prog G 48 [T s] (bool (mayP s)) := by
  refine pure_of_code' (S := sp [(60, splitSp)] []) hm hG (sp_holds (.cons (told_split p60) .nil) .nil) fn48 ([T s, .junk, .junk, .junk, .junk, .junk, .junk, .junk, .junk, .junk, .junk, .junk, .junk, .junk]) rfl (by simp [lows, AV.low]) (by simp [AV.low]) ?_
  simp (maxSteps := 2000000) -implicitDefEqProofs only [c48, ↓RP0, ↓RP1, ↓RP2, ↓RP3, RV, RW, ↓reduceIte, Nat.reduceAdd, Nat.reduceSub, Nat.reduceMul, Nat.reduceLeDiff, Nat.reduceEqDiff, Int.reduceLT, Int.reduceLE, Int.reduceEq, Int.reduceNe, Int.reduceAdd, Int.reduceSub, Int.reduceMul, Int.reduceNeg, Int.reduceToNat, reduceCtorEq, ↓ask_split]
  refine ⟨hs, fun x y h => ?_, fun h => ?_⟩ <;> simp [mayP, h]
def copySp : PSp := fun args K => match args with
  | [.imm (.string a), .agg [.imm (.int .i64 r), .imm (.int .i64 q)]] => (a.data.toList.length ≤ 1099511627776 ∧ In64 r ∧ In64 q) ∧ K (T (copyP a.data.toList r q)) | _ => False
theorem ask_copy {l : List UInt8} {r q : Int} {K} : ask copySp [T l, .agg [i64 r, i64 q]] K = ((l.length ≤ 1099511627776 ∧ In64 r ∧ In64 q) ∧ K (T (copyP l r q))) := rfl
theorem told_copy {F} (h : ∀ (s : List UInt8) (r q : Int), s.length ≤ 1099511627776 → In64 r → In64 q → Pure Tryz.prog G F [T s, .agg [i64 r, i64 q]] (T (copyP s r q))) : Told Tryz.prog G F copySp := by
  intro args K hk
  unfold copySp at hk
  split at hk
  · exact ⟨_, h _ _ _ hk.1.1 hk.1.2.1 hk.1.2.2, hk.2⟩
  · exact hk.elim
def c28 : ACode := (.seq (.reg false 0 [⟨(.some 2), none, (.q .mv), [(.c (.imm (.bool false)))]⟩]) (.seq (.reg false 0 [⟨(.some 4), none, (.q .mv), [(.t 0)]⟩, ⟨(.some 5), none, (.q (.build [(.imm (.int .i64 0)), (.imm (.int .i64 0))] [(0, 1), (1, 1)])), [(.c (.imm (.int .i64 31))), (.c (.imm (.int .i64 1099511627776)))]⟩, ⟨(.some 6), none, (.call true), [(.c (.fn (.func 47) [] [])), (.t 4), (.t 5)]⟩, ⟨(.some 3), none, (.q .mv), [(.t 6)]⟩]) (.seq (.reg false 0 [⟨(.some 7), none, (.q .mv), [(.t 0)]⟩, ⟨(.some 8), none, (.call true), [(.c (.fn (.func 48) [] [])), (.t 7)]⟩, ⟨(.some 9), none, (.q .mv), [(.t 8)]⟩, ⟨(.some 10), (.some (9, true)), (.q .mv), [(.t 0)]⟩, ⟨(.some 11), (.some (9, true)), (.q .lenS), [(.t 10)]⟩, ⟨(.some 12), (.some (9, true)), (.q (.bin .leq 3)), [(.t 11), (.c (.imm (.int .i64 200)))]⟩, ⟨(.some 13), none, (.q .pick), [(.t 9), (.t 12), (.c (.imm (.bool false)))]⟩, ⟨(.some 14), none, (.q .mv), [(.t 13)]⟩, ⟨(.some 15), (.some (14, true)), (.q .mv), [(.t 0)]⟩, ⟨(.some 16), (.some (14, true)), (.call true), [(.c (.fn (.func 49) [] [])), (.t 15), (.c (.imm (.string (B [126]))))]⟩, ⟨(.some 17), (.some (14, true)), (.q (.un .not)), [(.t 16)]⟩, ⟨(.some 18), none, (.q .pick), [(.t 14), (.t 17), (.c (.imm (.bool false)))]⟩, ⟨(.some 19), none, (.q .mv), [(.t 18)]⟩, ⟨(.some 20), (.some (19, true)), (.q .mv), [(.t 3)]⟩, ⟨(.some 21), (.some (19, true)), (.call true), [(.c (.fn (.func 48) [] [])), (.t 20)]⟩, ⟨(.some 22), none, (.q .pick), [(.t 19), (.t 21), (.c (.imm (.bool false)))]⟩, ⟨(.some 2), none, (.q .mv), [(.t 22)]⟩]) .ret)))
theorem fn28 : IsFn Tryz.prog 28 [] c28 [2] 23 := ⟨_, _, Tryz.func28, rfl, by decide +kernel, by kernel_rfl, rfl, rfl⟩
theorem p28 (s : List UInt8) (hs : s.length ≤ 1099511627) : Pure Tryz.prog G 28 [T s] (bool (ownP s)) := by
  refine pure_of_code' (S := sp [(47, copySp), (48, txt1b (fun l => l.length ≤ 1099511627776) mayP), (49, txt1cb [126] (fun _ => True) fun l => decide (0 ≤ Lib.indexByte l 126))] []) hm hG (sp_holds (.cons (told_copy p47) (.cons (told_txt1b p48) (.cons (told_txt1cb fun l _ => p49 l 126) .nil))) .nil) fn28 ([T s, .junk, .junk, .junk, .junk, .junk, .junk, .junk, .junk, .junk, .junk, .junk, .junk, .junk, .junk, .junk, .junk, .junk, .junk, .junk, .junk, .junk, .junk]) rfl (by simp [lows, AV.low]) (by simp [AV.low]) ?_
  have hI31 : In64 31 := ⟨by decide, by decide⟩
  have hIb : In64 1099511627776 := ⟨by decide, by decide⟩
  have hlc : (copyP s 31 1099511627776) = s ++ longest := by unfold copyP longest; simp
  have hcl : (copyP s 31 1099511627776).length ≤ 1099511627776 := by rw [hlc, longest_eq]; simp; omega
  have hct : decide (0 ≤ Lib.indexByte s 126) = s.contains 126 := (Lib.contains_iff_indexByte s 126).symm
  simp (maxSteps := 2000000) -implicitDefEqProofs only [c28, ↓RP0, ↓RP1, ↓RP2, ↓RP3, RV, RW, ↓reduceIte, Nat.reduceAdd, Nat.reduceSub, Nat.reduceMul, Nat.reduceLeDiff, Nat.reduceEqDiff, Int.reduceLT, Int.reduceLE, Int.reduceEq, Int.reduceNe, Int.reduceAdd, Int.reduceSub, Int.reduceMul, Int.reduceNeg, Int.reduceToNat, reduceCtorEq, ↓ask_copy]
  rw [hct]
  rw [hlc] at hcl ⊢
  refine ⟨⟨by omega, hI31, hIb⟩, by omega, fun h1 => ⟨fun h2 => ⟨fun h3 => ?_, fun h3 => ⟨hcl, fun h4 => ?_, fun h4 => ?_⟩⟩, fun h2 => ?_⟩, fun h1 => ?_⟩
  · simp only [ownP, h3, Bool.not_true, Bool.false_and]
  · simp only [ownP, h1, h3, h4, decide_eq_true (show s.length ≤ 200 by omega), Bool.not_false, Bool.and_self]
  · simp only [ownP, h4, Bool.and_false]
  · simp only [ownP, decide_eq_false (show ¬ s.length ≤ 200 by omega), Bool.and_false, Bool.false_and]
  · simp only [ownP, h1, Bool.and_false, Bool.false_and]
end Go.AL.Path
