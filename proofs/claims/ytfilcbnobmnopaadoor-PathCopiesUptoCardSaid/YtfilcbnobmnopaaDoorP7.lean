/- Path: a part. -/
import Derived.Test.YtfilcbnobmnopaaDoorP6
import Derived.Shelf.Strings.FuncGrows
import Derived.Shelf.Strings.SlTrimAscii
set_option linter.unusedSimpArgs false
set_option linter.unusedVariables false
set_option maxRecDepth 100000
namespace Go.AL.Path
open Go Go.RowKit Go.Proofs Go.AL

def letters : List UInt8 := [97, 98, 99, 100, 101, 102, 103, 104, 105, 106, 107, 108, 109, 110, 111, 112, 113, 114, 115, 116, 117, 118, 119, 120, 121, 122, 65, 66, 67, 68, 69, 70, 71, 72, 73, 74, 75, 76, 77, 78, 79, 80, 81, 82, 83, 84, 85, 86, 87, 88, 89, 90, 48, 49, 50, 51, 52, 53, 54, 55, 56, 57, 45, 46, 95, 43, 126]
theorem letters_small : ∀ b ∈ letters, b.toNat < 128 := by decide
def inL (x : Nat) : Bool := decide (x < 128) && decide (0 ≤ Lib.indexByte letters x.toUInt8)

theorem p63big (r : Int) (h1 : 128 ≤ r) : Pure Tryd.prog G 63 [T letters, .imm (.int .i32 r)] (i64 (-1)) := by
  by_cases h2 : r = 65533
  · subst h2
    refine pure_of_below Tryd.func63 rfl (by decide +kernel) rfl imm2 fun H lo E w hs => ir_err (B letters) ?_ w
    intro i h
    exact letters_small _ (List.getElem_mem (l := letters) (by exact h))
  · exact p63 letters r letters_small (by decide) (by decide) h1 h2

def irBig : PSp := fun args K => match args with
  | [.imm (.string a), .imm (.int .i32 c)] => a = B letters ∧ 128 ≤ c ∧ K (i64 (-1)) | _ => False
theorem ask_irBig {l : List UInt8} {c : Int} {K} : ask irBig [T l, .imm (.int .i32 c)] K = (l = letters ∧ 128 ≤ c ∧ K (i64 (-1))) := by
  show (B l = B letters ∧ _) = _; rw [B_inj]
theorem told_irBig : Told Tryd.prog G 63 irBig := by
  intro args K hk
  unfold irBig at hk
  split at hk
  · obtain ⟨rfl, h1, h2⟩ := hk; exact ⟨_, p63big _ h1, h2⟩
  · exact hk.elim

def c43 : ACode := (.seq (.reg false 0 [⟨(.some 4), none, (.q .mv), [(.c (.imm (.bool false)))]⟩]) (.seq (.reg false 0 [⟨(.some 5), none, (.q .mv), [(.t 0)]⟩, ⟨(.some 6), none, (.q .mv), [(.t 1)]⟩, ⟨(.some 7), none, (.call true), [(.c (.fn (.func 63) [] [])), (.t 5), (.t 6)]⟩, ⟨(.some 8), none, (.q (.bin .geq 3)), [(.t 7), (.c (.imm (.int .i64 0)))]⟩, ⟨(.some 4), none, (.q .mv), [(.t 8)]⟩]) .ret))
theorem fn43 : IsFn Tryd.prog 43 [] c43 [4] 9 := ⟨_, _, Tryd.func43, rfl, by decide +kernel, by kernel_rfl, rfl, rfl⟩
theorem p43 (x : Nat) : Pure Tryd.prog G 43 [T letters, .imm (.int .i32 x)] (bool (inL x)) := by
  by_cases h : x < 128
  · have : inL x = decide (0 ≤ Lib.indexByte letters x.toUInt8) := by unfold inL; rw [decide_eq_true h, Bool.true_and]
    rw [this]
    exact pure_of_same Tryd.func43 rfl (by decide +kernel) rfl imm2 fun w => Tryd.strings_ContainsRune_ascii (B letters) x w (by omega) (by omega)
  · have : inL x = false := by unfold inL; rw [decide_eq_false h, Bool.false_and]
    rw [this]
    refine pure_of_code' (S := sp [(63, irBig)] []) hm hG (sp_holds (.cons told_irBig .nil) .nil) fn43 ([T letters, .imm (.int .i32 x), .junk, .junk, .junk, .junk, .junk, .junk, .junk]) rfl (by simp [lows, AV.low]) (by simp [AV.low]) ?_
    simp (maxSteps := 2000000) -implicitDefEqProofs only [c43, ↓RP0, ↓RP1, ↓RP2, ↓RP3, RV, List.map_cons, List.map_nil, List.cons_append, List.nil_append, List.append_nil, List.length_cons, List.length_nil, List.getElem?_cons_zero, List.getElem?_cons_succ, List.set_cons_zero, List.set_cons_succ, true_imp_iff, false_imp_iff, not_true_eq_false, not_false_eq_true, and_true, true_and, and_false, false_and, implies_true, ↓reduceIte, Bool.false_eq_true, Bool.true_eq_false, Bool.not_eq_true, Bool.not_true, Bool.not_false, beq_self_eq_true, Bool.true_beq, Bool.false_beq, List.take_zero, List.drop_zero, List.take_succ_cons, List.drop_succ_cons, List.take_nil, List.drop_nil, List.replicate_zero, List.replicate_succ, Nat.reduceAdd, Nat.reduceSub, Nat.reduceMul, Nat.reduceLeDiff, Nat.reduceEqDiff, Nat.zero_add, Nat.add_zero, Int.reduceLT, Int.reduceLE, Int.reduceEq, Int.reduceNe, Int.reduceAdd, Int.reduceSub, Int.reduceMul, Int.reduceNeg, Int.reduceToNat, Int.toNat_natCast, Int.natCast_nonneg, Int.natCast_zero, Nat.lt_irrefl, Option.some.injEq, reduceCtorEq, Option.map_some, ne_eq, ↓ask_irBig]
    omega

def crSp : PSp := fun args K => match args with
  | [.imm (.string a), .imm (.int .i32 c)] => a = B letters ∧ 0 ≤ c ∧ splitB (inL c.toNat) K | _ => False
theorem ask_cr {l : List UInt8} {c : Int} {K} : ask crSp [T l, .imm (.int .i32 c)] K = (l = letters ∧ 0 ≤ c ∧ splitB (inL c.toNat) K) := by
  show (B l = B letters ∧ _) = _; rw [B_inj]
theorem told_cr : Told Tryd.prog G 43 crSp := by
  intro args K hk
  unfold crSp at hk
  split at hk
  · rename_i a c
    obtain ⟨rfl, h1, h2⟩ := hk
    have := p43 c.toNat
    rw [Int.toNat_of_nonneg h1] at this
    exact ⟨_, this, splitB_of h2⟩
  · exact hk.elim

def c42 : ACode := (.seq (.reg false 0 [⟨(.some 2), none, (.q .mv), [(.c (.imm (.bool false)))]⟩]) (.seq (.reg false 0 [⟨(.some 3), none, (.q .mv), [(.t 0)]⟩, ⟨(.some 4), none, (.call true), [(.c (.fn (.func 43) [] [])), (.c (.imm (.string (B [97, 98, 99, 100, 101, 102, 103, 104, 105, 106, 107, 108, 109, 110, 111, 112, 113, 114, 115, 116, 117, 118, 119, 120, 121, 122, 65, 66, 67, 68, 69, 70, 71, 72, 73, 74, 75, 76, 77, 78, 79, 80, 81, 82, 83, 84, 85, 86, 87, 88, 89, 90, 48, 49, 50, 51, 52, 53, 54, 55, 56, 57, 45, 46, 95, 43, 126])))), (.t 3)]⟩, ⟨(.some 5), none, (.q (.un .not)), [(.t 4)]⟩, ⟨(.some 2), none, (.q .mv), [(.t 5)]⟩]) .ret))
theorem fn42 : IsFn Tryd.prog 42 [] c42 [2] 6 := ⟨_, _, Tryd.func42, rfl, by decide +kernel, by kernel_rfl, rfl, rfl⟩
theorem p42 (x : Nat) : Pure Tryd.prog G 42 [.imm (.int .i32 x)] (bool (!inL x)) := by
  refine pure_of_code' (S := sp [(43, crSp)] []) hm hG (sp_holds (.cons told_cr .nil) .nil) fn42 ([.imm (.int .i32 x), .junk, .junk, .junk, .junk, .junk]) rfl (by simp [lows, AV.low]) (by simp [AV.low]) ?_
  simp (maxSteps := 2000000) -implicitDefEqProofs only [c42, ↓RP0, ↓RP1, ↓RP2, ↓RP3, RV, List.map_cons, List.map_nil, List.cons_append, List.nil_append, List.append_nil, List.length_cons, List.length_nil, List.getElem?_cons_zero, List.getElem?_cons_succ, List.set_cons_zero, List.set_cons_succ, true_imp_iff, false_imp_iff, not_true_eq_false, not_false_eq_true, and_true, true_and, and_false, false_and, implies_true, ↓reduceIte, Bool.false_eq_true, Bool.true_eq_false, Bool.not_eq_true, Bool.not_true, Bool.not_false, beq_self_eq_true, Bool.true_beq, Bool.false_beq, List.take_zero, List.drop_zero, List.take_succ_cons, List.drop_succ_cons, List.take_nil, List.drop_nil, List.replicate_zero, List.replicate_succ, Nat.reduceAdd, Nat.reduceSub, Nat.reduceMul, Nat.reduceLeDiff, Nat.reduceEqDiff, Nat.zero_add, Nat.add_zero, Int.reduceLT, Int.reduceLE, Int.reduceEq, Int.reduceNe, Int.reduceAdd, Int.reduceSub, Int.reduceMul, Int.reduceNeg, Int.reduceToNat, Int.toNat_natCast, Int.natCast_nonneg, Int.natCast_zero, Nat.lt_irrefl, Option.some.injEq, reduceCtorEq, Option.map_some, ne_eq, ↓ask_cr]
  refine ⟨rfl, fun h => ?_, fun h => ?_⟩ <;> simp [h]

theorem SimH.restart {G : Nat → Option (List AV)} (hG : ∀ g cs, G g = some cs → lows 0 cs) {lo E H w} (hs : SimH G lo E H w) : ∃ E0, SimH G w.heap.size E0 [] w := by
  refine ⟨{ I := E.I, bx := fun _ => none, tk := fun _ => none }, Nat.le_refl _, hs.inI, fun id o ho => by simp at ho, fun id _ => ⟨rfl, rfl⟩, fun i j b hi _ => by simp [Env.at] at hi, fun g cs hg => ?_⟩
  obtain ⟨us, h1, h2, h3, ty, fz, h4, h5⟩ := hs.glob g cs hg
  exact ⟨us, Reps.cut (E := E) (E' := { I := E.I, bx := fun _ => none, tk := fun _ => none }) (n := 0) (fun _ h => h) (fun k hk => absurd hk (Nat.not_lt_zero k)) (fun k hk => absurd hk (Nat.not_lt_zero k)) h1 (hG g cs hg), h2, h3, ty, fz, Nat.lt_of_lt_of_le h4 hs.lo_le, h5⟩

theorem pred42 {lo E H w} (hs : SimH G lo E H w) : PredGrows Tryd.prog 42 #[] (fun x => !inL x) w := by
  intro W x hx hb
  obtain ⟨k1, _⟩ := hs.grow hb (fun _ => False) (fun _ h => h.elim)
  obtain ⟨E0, k2⟩ := SimH.restart hG k1
  exact calls_of_pure Tryd.func42 rfl (by decide +kernel) (p42 x) imm1 k2 (by simp [Value.oneCell'])

theorem e42 : ∀ args w, (callFunc 42 args).run Tryd.prog w = .ok (.enter 42 args) w := enters_of Tryd.func42 (by kernel_rfl) rfl

theorem p41 (s : List UInt8) : Pure Tryd.prog G 41 [T s, .fn (.func 42) [] []] (bool (decide (0 ≤ Lib.idxFunc (fun x => !inL x) true (B s)))) := by
  intro H lo E w cargs hs ha
  have hc : cargs = [.string (B s), .func (.func 42) #[] #[]] := by
    cases ha with
    | cons _ v _ vs h1 h2 =>
      cases h2 with
      | cons _ v' _ vs' h3 h4 =>
        cases h4
        cases h1.imm_inv'
        cases h3 with
        | fn f a b us vs h5 h6 => cases h5; cases h6; rfl
  subst hc
  refine callsX_of_calls Tryd.func41 rfl (by decide +kernel) (Tryd.strings_ContainsFunc_grows 42 #[] e42 (fun x => !inL x) (B s) w (pred42 hs)) fun w' hw' => ?_
  obtain ⟨k1, k2⟩ := hs.grow hw' (fun _ => False) (fun _ h => h.elim)
  exact ⟨_, .imm _ rfl, k1, k2⟩

theorem h116 : (Tryd.prog.info? 73).map (·.size) = some 256 := by kernel_rfl
theorem p40 (s : List UInt8) (hs : s.length ≤ 1099511627776) : Pure Tryd.prog G 40 [T s, T letters] (T (Lib.trimS s letters)) :=
  pure_of_below Tryd.func40 rfl (by decide +kernel) rfl imm2 fun H lo E w _ => by
    have := Any.strings_Trim_laid Tryd.lays160 (by kernel_rfl) (B s) (B letters) w (by show s.length ≤ _; omega) (by decide) (ascii_of_all (by decide))
    exact this
end Go.AL.Path
