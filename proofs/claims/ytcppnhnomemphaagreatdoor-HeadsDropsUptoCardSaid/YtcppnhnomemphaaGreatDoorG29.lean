/- dot.Compare: by way of floats. -/
import Derived.Test.YtcppnhnomemphaaGreatDoorG15
import Derived.Test.YtcppnhnomemphaaGreatDoorG27
import Derived.Test.YtcppnhnomemphaaGreatDoorG28
import Derived.WalkKit
import Derived.WalkSpells
import Derived.WalkLawsBesides
import Derived.Laws.ComplexArith
set_option linter.unusedSimpArgs false
set_option linter.unusedVariables false
set_option maxRecDepth 100000
namespace Go.AL.Path
open Go Go.RowKit Go.Proofs Go.AL

def fits (r q : Int) : Bool := decide (-1125899906842624 < r) && decide (r < 1125899906842624) && decide (-1125899906842624 < q) && decide (q < 1125899906842624)

set_option maxHeartbeats 800000 in
theorem c71 (r q : Int) (w : World) : Calls Tryz.prog 71 #[.agg #[.int .i64 r, .int .i64 q]] w fun e w' => e = .returned (.tuple #[.complex .f64 (FloatKind.nearest .f64 r) (FloatKind.nearest .f64 q), .bool (fits r q)]) ∧ Below w.heap.size w w' := by
  go_enter Tryz.func71, Tryz.ntmps71
  go_wp2
  all_goals
    refine bodyPost_ret (results_tmp2 rfl _ _ _) rfl ⟨?_, (Below.refl _ w).alloc (Nat.le_refl _) _⟩
    simp [fits, floatOfInt, Array.getD]
    try omega

/-- Which of two floats is ahead. -/
def ordI : Ordering → Int
  | .lt => -1
  | .eq => 0
  | .gt => 1

theorem c80 (x : Nat) (w : World) (h : FloatKind.f64.format.order x x = some .eq) : Calls Tryz.prog 80 #[.float .f64 x] w fun e w' => e = .returned (.bool false) ∧ w' = w := by
  go_enter Tryz.func80, Tryz.ntmps80
  go_wp2
  refine bodyPost_ret (results_tmp rfl _ _ _) rfl ⟨?_, rfl⟩
  simp [Array.getD, h]
set_option maxHeartbeats 800000 in
theorem c72 (x y : Nat) (o : Ordering) (w : World) (h1 : FloatKind.f64.format.order x x = some .eq) (h2 : FloatKind.f64.format.order y y = some .eq) (h : FloatKind.f64.format.order x y = some o) : Calls Tryz.prog 72 #[.float .f64 x, .float .f64 y] w fun e w' => e = .returned (.int .i64 (ordI o)) ∧ w' = w := by
  have e1 : (some Ordering.eq != some Ordering.eq) = false := rfl
  cases o <;> (go_enter Tryz.func72, Tryz.ntmps72; go_wp2; exact bodyPost_ret (results_tmp rfl _ _ _) rfl ⟨by simp [ordI, Array.getD], rfl⟩)
end Go.AL.Path

/- dot.Compare, event.Compare. -/
set_option linter.unusedSimpArgs false
set_option linter.unusedVariables false
set_option maxRecDepth 100000
namespace Go.AL.Path
open Go Go.RowKit Go.Proofs Go.AL Go.AL.Fl

abbrev fl (a : Int) : Nat := FloatKind.nearest .f64 a
abbrev cxV (a b : Nat) : AV := .imm (.complex .f64 a b)
abbrev flV (a : Nat) : AV := .imm (.float .f64 a)

theorem p71 (r q : Int) : Pure Tryz.prog G 71 [dotV r q] (.tup [cxV (fl r) (fl q), bool (fits r q)]) := by
  intro H lo E w cargs hs ha
  have hc : cargs = [.agg #[.int .i64 r, .int .i64 q]] := by
    cases ha with
    | cons _ v _ vs h1 h2 =>
      cases h2
      cases h1 with
      | agg cs us h3 h4 =>
        cases h3 with
        | cons _ u _ us' h5 h6 =>
          cases h6 with
          | cons _ u' _ us'' h7 h8 =>
            cases h8
            cases h5.imm_inv
            cases h7.imm_inv
            rfl
  subst hc
  refine callsX_of_calls Tryz.func71 rfl (by decide +kernel) (c71 r q w) fun w' hw' => ?_
  obtain ⟨k1, k2⟩ := hs.grow hw' (fun _ => False) (fun _ h => h.elim)
  exact ⟨_, .tup _ [.complex .f64 (fl r) (fl q), .bool (fits r q)] (.cons _ _ _ _ (.imm _ rfl) (.cons _ _ _ _ (.imm _ rfl) .nil)), k1, k2⟩

def pointSp : PSp := fun args K => match args with
  | [.agg [.imm (.int .i64 r), .imm (.int .i64 q)]] => K (.tup [cxV (fl r) (fl q), bool (fits r q)]) | _ => False
theorem ask_point {r q : Int} {K} : ask pointSp [dotV r q] K = K (.tup [cxV (fl r) (fl q), bool (fits r q)]) := rfl
theorem told_point : Told Tryz.prog G 71 pointSp := by
  intro args K hk
  unfold pointSp at hk
  split at hk
  · exact ⟨_, p71 _ _, hk⟩
  · exact hk.elim

theorem p72 (x y : Nat) {a b : Int} (ha : Reads x a) (hb : Reads y b) : Pure Tryz.prog G 72 [flV x, flV y] (i64 (ordI (compare a b))) :=
  pure_of_same Tryz.func72 rfl (by decide +kernel) rfl imm2 fun w => c72 x y (compare a b) w (by
    have := reads_order ha ha
    rw [show compare a a = Ordering.eq from Std.ReflCmp.compare_self] at this
    exact this) (by
    have := reads_order hb hb
    rw [show compare b b = Ordering.eq from Std.ReflCmp.compare_self] at this
    exact this) (reads_order ha hb)
def fcmpSp : PSp := fun args K => match args with
  | [.imm (.float .f64 x), .imm (.float .f64 y)] => ∃ a b, Reads x a ∧ Reads y b ∧ K (i64 (ordI (compare a b))) | _ => False
theorem ask_fcmp {x y : Nat} {a b : Int} {K} (ha : Reads x a) (hb : Reads y b) : ask fcmpSp [flV x, flV y] K = K (i64 (ordI (compare a b))) := by
  show (∃ a b, Reads x a ∧ Reads y b ∧ K (i64 (ordI (compare a b)))) = _
  simp only [eq_iff_iff]
  constructor
  · rintro ⟨a', b', h1, h2, h3⟩
    have e1 := reads_order ha hb
    have e2 := reads_order h1 h2
    rw [e1] at e2
    rw [Option.some.inj e2]; exact h3
  · exact fun h => ⟨a, b, ha, hb, h⟩
theorem told_fcmp : Told Tryz.prog G 72 fcmpSp := by
  intro args K hk
  unfold fcmpSp at hk
  split at hk
  · obtain ⟨a, b, h1, h2, h3⟩ := hk
    exact ⟨_, p72 _ _ h1 h2, h3⟩
  · exact hk.elim

theorem qB_cpart {im : Bool} {a b : Nat} {K : AV → Prop} : qB (.cpart im) [cxV a b] K = K (flV (if im then b else a)) := rfl
theorem qB_csub {t : TypeId} {a b c d re im : Nat} {K : AV → Prop} (h : cSumBits .sub .f64 a b c d = some (re, im)) : qB (.bin .sub t) [cxV a b, cxV c d] K = K (cxV re im) := by
  have hrun : ∀ (P : Program) (w : World) (ox oy : Operand), (do eqGuard .sub t ox oy (.complex .f64 a b) (.complex .f64 c d); binOp .sub t (.complex .f64 a b) (.complex .f64 c d) : Sem Value).run P w = .ok (.complex .f64 re im) w := by
    intro P w ox oy
    have := run_complex_sum (P := P) w .sub (.inr rfl) t .f64 a b c d re im h
    simp [eqGuard, this]
  show binAny .sub t (.complex .f64 a b) (.complex .f64 c d) K = _
  simp only [binAny, eq_iff_iff]
  constructor
  · rintro ⟨r, h1, h2, h3⟩
    have e1 := h2 Tryz.prog default default default
    rw [hrun] at e1
    injection e1 with e1
    subst e1; exact h3
  · exact fun hK => ⟨_, rfl, hrun, hK⟩

def cmpI (a b : Int) : Int := if a < b then -1 else if b < a then 1 else 0
def c81 : ACode := (.seq (.reg false 0 [⟨(.some 2), none, (.q .mv), [(.c (.imm (.bool false)))]⟩]) (.seq (.reg false 0 [⟨(.some 3), none, (.q .mv), [(.t 0)]⟩, ⟨(.some 4), none, (.q .mv), [(.t 0)]⟩, ⟨(.some 5), none, (.q (.bin .neq 3)), [(.t 3), (.t 4)]⟩, ⟨(.some 2), none, (.q .mv), [(.t 5)]⟩]) .ret))
theorem fn81 : IsFn Tryz.prog 81 [] c81 [2] 6 := ⟨_, _, Tryz.func81, rfl, by decide +kernel, by kernel_rfl, rfl, rfl⟩
theorem p81' (a : Int) : Pure Tryz.prog G 81 [i64 a] (bool false) := by
  refine pure_of_code' (S := sp [] []) hm hG (sp_holds .nil .nil) fn81 (St 3 6 [i64 a, .junk, .junk] []) (by kernel_rfl) (by simp [lows, AV.low]) (by simp [AV.low]) ?_
  simp (maxSteps := 2000000) -implicitDefEqProofs only [c81, RS, RX, Nat.reduceLT, ↓RP0, ↓RP1, ↓RP2, ↓RP3, RV, RW, ↓reduceIte, Nat.reduceAdd, Nat.reduceSub, Nat.reduceMul, Nat.reduceLeDiff, Nat.reduceEqDiff, Int.reduceLT, Int.reduceLE, Int.reduceEq, Int.reduceNe, Int.reduceAdd, Int.reduceSub, Int.reduceMul, Int.reduceNeg, Int.reduceToNat, reduceCtorEq, eq_self]
def c82 : ACode := (.seq (.reg false 0 [⟨(.some 2), none, (.q .mv), [(.c (.imm (.bool false)))]⟩]) (.seq (.reg false 0 [⟨(.some 3), none, (.q .mv), [(.t 0)]⟩, ⟨(.some 4), none, (.q .mv), [(.t 0)]⟩, ⟨(.some 5), none, (.q (.bin .neq 2)), [(.t 3), (.t 4)]⟩, ⟨(.some 2), none, (.q .mv), [(.t 5)]⟩]) .ret))
theorem fn82 : IsFn Tryz.prog 82 [] c82 [2] 6 := ⟨_, _, Tryz.func82, rfl, by decide +kernel, by kernel_rfl, rfl, rfl⟩
theorem p82' (a : Int) : Pure Tryz.prog G 82 [i64 a] (bool false) := by
  refine pure_of_code' (S := sp [] []) hm hG (sp_holds .nil .nil) fn82 (St 3 6 [i64 a, .junk, .junk] []) (by kernel_rfl) (by simp [lows, AV.low]) (by simp [AV.low]) ?_
  simp (maxSteps := 2000000) -implicitDefEqProofs only [c82, RS, RX, Nat.reduceLT, ↓RP0, ↓RP1, ↓RP2, ↓RP3, RV, RW, ↓reduceIte, Nat.reduceAdd, Nat.reduceSub, Nat.reduceMul, Nat.reduceLeDiff, Nat.reduceEqDiff, Int.reduceLT, Int.reduceLE, Int.reduceEq, Int.reduceNe, Int.reduceAdd, Int.reduceSub, Int.reduceMul, Int.reduceNeg, Int.reduceToNat, reduceCtorEq, eq_self]
def c73 : ACode := (.seq (.reg false 0 [⟨(.some 4), none, (.q .mv), [(.c (.imm (.int .i64 0)))]⟩]) (.seq (.reg false 0 [⟨(.some 7), none, (.q .mv), [(.t 0)]⟩, ⟨(.some 8), none, (.call true), [(.c (.fn (.func 81) [] [])), (.t 7)]⟩, ⟨(.some 5), none, (.q .mv), [(.t 8)]⟩]) (.seq (.reg false 0 [⟨(.some 9), none, (.q .mv), [(.t 1)]⟩, ⟨(.some 10), none, (.call true), [(.c (.fn (.func 81) [] [])), (.t 9)]⟩, ⟨(.some 6), none, (.q .mv), [(.t 10)]⟩]) (.seq (.seq (.reg false 0 [⟨(.some 11), none, (.q .mv), [(.t 5)]⟩]) (.cond (.t 11) (.seq (.seq (.reg false 0 [⟨(.some 12), none, (.q .mv), [(.t 6)]⟩]) (.cond (.t 12) (.seq (.reg false 0 [⟨(.some 4), none, (.q .mv), [(.c (.imm (.int .i64 0)))]⟩]) .ret) .skip)) (.seq (.reg false 0 [⟨(.some 4), none, (.q .mv), [(.c (.imm (.int .i64 (-1))))]⟩]) .ret)) .skip)) (.seq (.seq (.reg false 0 [⟨(.some 13), none, (.q .mv), [(.t 6)]⟩]) (.cond (.t 13) (.seq (.reg false 0 [⟨(.some 4), none, (.q .mv), [(.c (.imm (.int .i64 1)))]⟩]) .ret) .skip)) (.seq (.seq (.reg false 0 [⟨(.some 14), none, (.q .mv), [(.t 0)]⟩, ⟨(.some 15), none, (.q .mv), [(.t 1)]⟩, ⟨(.some 16), none, (.q (.bin .lss 3)), [(.t 14), (.t 15)]⟩]) (.cond (.t 16) (.seq (.reg false 0 [⟨(.some 4), none, (.q .mv), [(.c (.imm (.int .i64 (-1))))]⟩]) .ret) .skip)) (.seq (.seq (.reg false 0 [⟨(.some 17), none, (.q .mv), [(.t 0)]⟩, ⟨(.some 18), none, (.q .mv), [(.t 1)]⟩, ⟨(.some 19), none, (.q (.bin .gtr 3)), [(.t 17), (.t 18)]⟩]) (.cond (.t 19) (.seq (.reg false 0 [⟨(.some 4), none, (.q .mv), [(.c (.imm (.int .i64 1)))]⟩]) .ret) .skip)) (.seq (.reg false 0 [⟨(.some 4), none, (.q .mv), [(.c (.imm (.int .i64 0)))]⟩]) .ret))))))))
theorem fn73 : IsFn Tryz.prog 73 [] c73 [4] 20 := ⟨_, _, Tryz.func73, rfl, by decide +kernel, by kernel_rfl, rfl, rfl⟩
theorem p73' (a b : Int) : Pure Tryz.prog G 73 [i64 a, i64 b] (i64 (cmpI a b)) := by
  refine pure_of_code' (S := sp [(81, int1b fun _ => false)] []) hm hG (sp_holds (.cons (told_int1b p81') .nil) .nil) fn73 (St 7 20 [i64 a, i64 b, .junk, .junk, .junk, .junk, .junk] []) (by kernel_rfl) (by simp [lows, AV.low]) (by simp [AV.low]) ?_
  simp (maxSteps := 2000000) -implicitDefEqProofs only [c73, RS, RX, Nat.reduceLT, ↓RP0, ↓RP1, ↓RP2, ↓RP3, RV, RW, ↓reduceIte, Nat.reduceAdd, Nat.reduceSub, Nat.reduceMul, Nat.reduceLeDiff, Nat.reduceEqDiff, Int.reduceLT, Int.reduceLE, Int.reduceEq, Int.reduceNe, Int.reduceAdd, Int.reduceSub, Int.reduceMul, Int.reduceNeg, Int.reduceToNat, reduceCtorEq, ↓ask_int1b]
  refine ⟨fun h => ?_, fun h => ⟨fun h1 => ?_, fun h1 => ?_⟩⟩ <;> simp [cmpI] <;> omega
def c74 : ACode := (.seq (.reg false 0 [⟨(.some 4), none, (.q .mv), [(.c (.imm (.int .i64 0)))]⟩]) (.seq (.reg false 0 [⟨(.some 7), none, (.q .mv), [(.t 0)]⟩, ⟨(.some 8), none, (.call true), [(.c (.fn (.func 82) [] [])), (.t 7)]⟩, ⟨(.some 5), none, (.q .mv), [(.t 8)]⟩]) (.seq (.reg false 0 [⟨(.some 9), none, (.q .mv), [(.t 1)]⟩, ⟨(.some 10), none, (.call true), [(.c (.fn (.func 82) [] [])), (.t 9)]⟩, ⟨(.some 6), none, (.q .mv), [(.t 10)]⟩]) (.seq (.seq (.reg false 0 [⟨(.some 11), none, (.q .mv), [(.t 5)]⟩]) (.cond (.t 11) (.seq (.seq (.reg false 0 [⟨(.some 12), none, (.q .mv), [(.t 6)]⟩]) (.cond (.t 12) (.seq (.reg false 0 [⟨(.some 4), none, (.q .mv), [(.c (.imm (.int .i64 0)))]⟩]) .ret) .skip)) (.seq (.reg false 0 [⟨(.some 4), none, (.q .mv), [(.c (.imm (.int .i64 (-1))))]⟩]) .ret)) .skip)) (.seq (.seq (.reg false 0 [⟨(.some 13), none, (.q .mv), [(.t 6)]⟩]) (.cond (.t 13) (.seq (.reg false 0 [⟨(.some 4), none, (.q .mv), [(.c (.imm (.int .i64 1)))]⟩]) .ret) .skip)) (.seq (.seq (.reg false 0 [⟨(.some 14), none, (.q .mv), [(.t 0)]⟩, ⟨(.some 15), none, (.q .mv), [(.t 1)]⟩, ⟨(.some 16), none, (.q (.bin .lss 2)), [(.t 14), (.t 15)]⟩]) (.cond (.t 16) (.seq (.reg false 0 [⟨(.some 4), none, (.q .mv), [(.c (.imm (.int .i64 (-1))))]⟩]) .ret) .skip)) (.seq (.seq (.reg false 0 [⟨(.some 17), none, (.q .mv), [(.t 0)]⟩, ⟨(.some 18), none, (.q .mv), [(.t 1)]⟩, ⟨(.some 19), none, (.q (.bin .gtr 2)), [(.t 17), (.t 18)]⟩]) (.cond (.t 19) (.seq (.reg false 0 [⟨(.some 4), none, (.q .mv), [(.c (.imm (.int .i64 1)))]⟩]) .ret) .skip)) (.seq (.reg false 0 [⟨(.some 4), none, (.q .mv), [(.c (.imm (.int .i64 0)))]⟩]) .ret))))))))
theorem fn74 : IsFn Tryz.prog 74 [] c74 [4] 20 := ⟨_, _, Tryz.func74, rfl, by decide +kernel, by kernel_rfl, rfl, rfl⟩
theorem p74' (a b : Int) : Pure Tryz.prog G 74 [i64 a, i64 b] (i64 (cmpI a b)) := by
  refine pure_of_code' (S := sp [(82, int1b fun _ => false)] []) hm hG (sp_holds (.cons (told_int1b p82') .nil) .nil) fn74 (St 7 20 [i64 a, i64 b, .junk, .junk, .junk, .junk, .junk] []) (by kernel_rfl) (by simp [lows, AV.low]) (by simp [AV.low]) ?_
  simp (maxSteps := 2000000) -implicitDefEqProofs only [c74, RS, RX, Nat.reduceLT, ↓RP0, ↓RP1, ↓RP2, ↓RP3, RV, RW, ↓reduceIte, Nat.reduceAdd, Nat.reduceSub, Nat.reduceMul, Nat.reduceLeDiff, Nat.reduceEqDiff, Int.reduceLT, Int.reduceLE, Int.reduceEq, Int.reduceNe, Int.reduceAdd, Int.reduceSub, Int.reduceMul, Int.reduceNeg, Int.reduceToNat, reduceCtorEq, ↓ask_int1b]
  refine ⟨fun h => ?_, fun h => ⟨fun h1 => ?_, fun h1 => ?_⟩⟩ <;> simp [cmpI] <;> omega

def orSp : PSp := fun args K => match args with
  | [.sl 1 [.imm (.int .i64 a), .imm (.int .i64 b)] none] => K (i64 (if a = 0 then b else a)) | _ => False
theorem ask_or {a b : Int} {K} : ask orSp [.sl 1 [i64 a, i64 b] none] K = K (i64 (if a = 0 then b else a)) := rfl
theorem told_or : Told Tryz.prog G 53 orSp := by
  intro args K hk
  unfold orSp at hk
  split at hk
  · exact ⟨_, p53' _ _, hk⟩
  · exact hk.elim
def int2n (f : Int → Int → Int) : PSp := fun args K => match args with
  | [.imm (.int .i64 a), .imm (.int .i64 b)] => K (i64 (f a b)) | _ => False
theorem ask_int2n {f} {a b : Int} {K} : ask (int2n f) [i64 a, i64 b] K = K (i64 (f a b)) := rfl
theorem told_int2n {F f} (h : ∀ a b, Pure Tryz.prog G F [i64 a, i64 b] (i64 (f a b))) : Told Tryz.prog G F (int2n f) := by
  intro args K hk
  unfold int2n at hk
  split at hk
  · exact ⟨_, h _ _, hk⟩
  · exact hk.elim

theorem ordI_compare (a b : Int) : ordI (compare a b) = if a < b then -1 else if a = b then 0 else 1 := by
  simp only [compare, compareOfLessAndEq]
  split
  · rfl
  · split <;> rfl
theorem cmpDot_ord (r q r' q' : Int) : (if ordI (compare (r - r') 0) = 0 then ordI (compare (q - q') 0) else ordI (compare (r - r') 0)) = cmpDot r q r' q' := by
  rw [ordI_compare, ordI_compare]
  unfold cmpDot
  repeat' split
  all_goals omega
theorem cmpDot_int (r q r' q' : Int) : (if cmpI r r' = 0 then cmpI q q' else cmpI r r') = cmpDot r q r' q' := by
  unfold cmpDot cmpI
  repeat' split
  all_goals omega

def c55 : ACode := (.seq (.reg false 2 [⟨(.some 2), none, (.m .box 0), [(.t 0)]⟩, ⟨(.some 3), none, (.m .box 1), [(.t 1)]⟩, ⟨(.some 4), none, (.q .mv), [(.c (.imm (.int .i64 0)))]⟩]) (.seq (.reg false 0 [⟨(.some 11), none, (.l (.loadA 2)), [(.t 2)]⟩, ⟨(.some 12), none, (.call true), [(.c (.fn (.func 71) [] [])), (.t 11)]⟩, ⟨(.some 10), none, (.q .mv), [(.t 12)]⟩, ⟨(.some 13), none, (.q (.ext 0)), [(.t 10)]⟩, ⟨(.some 14), none, (.q (.ext 1)), [(.t 10)]⟩, ⟨(.some 5), none, (.q .mv), [(.t 13)]⟩, ⟨(.some 6), none, (.q .mv), [(.t 14)]⟩]) (.seq (.reg false 0 [⟨(.some 16), none, (.l (.loadA 2)), [(.t 3)]⟩, ⟨(.some 17), none, (.call true), [(.c (.fn (.func 71) [] [])), (.t 16)]⟩, ⟨(.some 15), none, (.q .mv), [(.t 17)]⟩, ⟨(.some 18), none, (.q (.ext 0)), [(.t 15)]⟩, ⟨(.some 19), none, (.q (.ext 1)), [(.t 15)]⟩, ⟨(.some 7), none, (.q .mv), [(.t 18)]⟩, ⟨(.some 8), none, (.q .mv), [(.t 19)]⟩]) (.seq (.seq (.reg false 0 [⟨(.some 20), none, (.q .mv), [(.t 6)]⟩, ⟨(.some 21), none, (.q .mv), [(.t 20)]⟩, ⟨(.some 22), (.some (21, true)), (.q .mv), [(.t 8)]⟩, ⟨(.some 23), none, (.q .pick), [(.t 21), (.t 22), (.c (.imm (.bool false)))]⟩]) (.cond (.t 23) (.seq (.reg false 0 [⟨(.some 24), none, (.q .mv), [(.t 5)]⟩, ⟨(.some 25), none, (.q .mv), [(.t 7)]⟩, ⟨(.some 26), none, (.q (.bin .sub 82)), [(.t 24), (.t 25)]⟩, ⟨(.some 9), none, (.q .mv), [(.t 26)]⟩]) (.seq (.reg false 0 [⟨(.some 27), none, (.q .mv), [(.t 9)]⟩, ⟨(.some 28), none, (.q (.cpart false)), [(.t 27)]⟩, ⟨(.some 29), none, (.call true), [(.c (.fn (.func 72) [] [])), (.t 28), (.c (.imm (.float .f64 0)))]⟩, ⟨(.some 30), none, (.q .mv), [(.t 9)]⟩, ⟨(.some 31), none, (.q (.cpart true)), [(.t 30)]⟩, ⟨(.some 32), none, (.call true), [(.c (.fn (.func 72) [] [])), (.t 31), (.c (.imm (.float .f64 0)))]⟩, ⟨(.some 33), none, (.q (.bslice 1)), [(.t 29), (.t 32)]⟩, ⟨(.some 34), none, (.call true), [(.c (.fn (.func 53) [] [])), (.t 33)]⟩, ⟨(.some 4), none, (.q .mv), [(.t 34)]⟩]) .ret)) .skip)) (.seq (.reg true 0 [⟨(.some 35), none, (.q (.faddr 0)), [(.t 2)]⟩, ⟨(.some 36), none, (.l .load1), [(.t 35)]⟩, ⟨(.some 37), none, (.q (.faddr 0)), [(.t 3)]⟩, ⟨(.some 38), none, (.l .load1), [(.t 37)]⟩, ⟨(.some 39), none, (.call false), [(.c (.fn (.func 73) [] [])), (.t 36), (.t 38)]⟩, ⟨(.some 40), none, (.q (.faddr 1)), [(.t 2)]⟩, ⟨(.some 41), none, (.l .load1), [(.t 40)]⟩, ⟨(.some 42), none, (.q (.faddr 1)), [(.t 3)]⟩, ⟨(.some 43), none, (.l .load1), [(.t 42)]⟩, ⟨(.some 44), none, (.call true), [(.c (.fn (.func 74) [] [])), (.t 41), (.t 43)]⟩, ⟨(.some 45), none, (.q (.bslice 1)), [(.t 39), (.t 44)]⟩, ⟨(.some 46), none, (.call true), [(.c (.fn (.func 53) [] [])), (.t 45)]⟩, ⟨(.some 4), none, (.q .mv), [(.t 46)]⟩]) .ret)))))
theorem fn55 : IsFn Tryz.prog 55 [] c55 [4] 47 := ⟨_, _, Tryz.func55, rfl, by decide +kernel, by kernel_rfl, rfl, rfl⟩
set_option maxHeartbeats 2000000 in
theorem p55' (r q r' q' : Int) : Pure Tryz.prog G 55 [dotV r q, dotV r' q'] (i64 (cmpDot r q r' q')) := by
  refine pure_of_code' (S := sp [(71, pointSp), (72, fcmpSp), (53, orSp), (73, int2n cmpI), (74, int2n cmpI)] []) hm hG (sp_holds (.cons told_point (.cons told_fcmp (.cons told_or (.cons (told_int2n p73') (.cons (told_int2n p74') .nil))))) .nil) fn55 (St 11 47 [dotV r q, dotV r' q', .junk, .junk, .junk, .junk, .junk, .junk, .junk, .junk, .junk] []) (by kernel_rfl) (by simp [lows, AV.low]) (by simp [AV.low]) ?_
  by_cases hf : fits r q = true ∧ fits r' q' = true
  · obtain ⟨f1, f2⟩ := hf
    have b1 : (r - r').natAbs < 2 ^ 53 := by simp [fits] at f1 f2; omega
    have b2 : (q - q').natAbs < 2 ^ 53 := by simp [fits] at f1 f2; omega
    have n1 : r.natAbs < 2 ^ 53 ∧ q.natAbs < 2 ^ 53 ∧ r'.natAbs < 2 ^ 53 ∧ q'.natAbs < 2 ^ 53 := by simp [fits] at f1 f2; omega
    obtain ⟨re, e1, e2⟩ := reads_sub (reads_nearest r n1.1) (reads_nearest r' n1.2.2.1) b1
    obtain ⟨im, e3, e4⟩ := reads_sub (reads_nearest q n1.2.1) (reads_nearest q' n1.2.2.2) b2
    have hz : Reads 0 0 := reads_zero false
    have hc : cSumBits .sub .f64 (fl r) (fl q) (fl r') (fl q') = some (re, im) := by
      have k1 : floatBits .sub .f64 (fl r) (fl r') = some re := e1
      have k2 : floatBits .sub .f64 (fl q) (fl q') = some im := e3
      simp [cSumBits, k1, k2]
    have c1 : ∀ t K, qB (.bin .sub t) [cxV (fl r) (fl q), cxV (fl r') (fl q')] K = K (cxV re im) := fun t K => qB_csub hc
    have c2 : ∀ K, ask fcmpSp [flV re, flV 0] K = K (i64 (ordI (compare (r - r') 0))) := fun K => ask_fcmp e2 hz
    have c3 : ∀ K, ask fcmpSp [flV im, flV 0] K = K (i64 (ordI (compare (q - q') 0))) := fun K => ask_fcmp e4 hz
    simp (maxSteps := 2000000) -implicitDefEqProofs only [c55, RS, RX, Nat.reduceLT, ↓RP0, ↓RP1, ↓RP2, ↓RP3, RV, RW, ↓reduceIte, Nat.reduceAdd, Nat.reduceSub, Nat.reduceMul, Nat.reduceLeDiff, Nat.reduceEqDiff, Int.reduceLT, Int.reduceLE, Int.reduceEq, Int.reduceNe, Int.reduceAdd, Int.reduceSub, Int.reduceMul, Int.reduceNeg, Int.reduceToNat, reduceCtorEq, ↓ask_point, ↓c1, ↓c2, ↓c3, ↓qB_cpart, ↓ask_or, f1, f2]
    rw [cmpDot_ord]
    exact ⟨fun x hx => by
      simp only [List.mem_cons, List.not_mem_nil, or_false] at hx
      rcases hx with rfl | rfl <;> exact ⟨rfl, rfl⟩, rfl⟩
  · cases f1 : fits r q with
    | true =>
      have f2 : fits r' q' = false := by cases h : fits r' q'; rfl; exact absurd ⟨f1, h⟩ hf
      simp (maxSteps := 2000000) -implicitDefEqProofs only [c55, RS, RX, Nat.reduceLT, ↓RP0, ↓RP1, ↓RP2, ↓RP3, RV, RW, ↓reduceIte, Nat.reduceAdd, Nat.reduceSub, Nat.reduceMul, Nat.reduceLeDiff, Nat.reduceEqDiff, Int.reduceLT, Int.reduceLE, Int.reduceEq, Int.reduceNe, Int.reduceAdd, Int.reduceSub, Int.reduceMul, Int.reduceNeg, Int.reduceToNat, reduceCtorEq, ↓ask_point, ↓ask_int2n, ↓ask_or, f1, f2]
      rw [cmpDot_int]
      exact ⟨fun x hx => by
        simp only [List.mem_cons, List.not_mem_nil, or_false] at hx
        rcases hx with rfl | rfl <;> exact ⟨rfl, rfl⟩, rfl⟩
    | false =>
      simp (maxSteps := 2000000) -implicitDefEqProofs only [c55, RS, RX, Nat.reduceLT, ↓RP0, ↓RP1, ↓RP2, ↓RP3, RV, RW, ↓reduceIte, Nat.reduceAdd, Nat.reduceSub, Nat.reduceMul, Nat.reduceLeDiff, Nat.reduceEqDiff, Int.reduceLT, Int.reduceLE, Int.reduceEq, Int.reduceNe, Int.reduceAdd, Int.reduceSub, Int.reduceMul, Int.reduceNeg, Int.reduceToNat, reduceCtorEq, ↓ask_point, ↓ask_int2n, ↓ask_or, f1]
      rw [cmpDot_int]
      exact ⟨fun x hx => by
        simp only [List.mem_cons, List.not_mem_nil, or_false] at hx
        rcases hx with rfl | rfl <;> exact ⟨rfl, rfl⟩, rfl⟩

def cmpEv2 (e f : Ev) : Int := if cmpTxt e.path f.path = 0 then cmpDot e.r e.q f.r f.q else cmpTxt e.path f.path
def txt2n (f : List UInt8 → List UInt8 → Int) : PSp := fun args K => match args with
  | [.imm (.string a), .imm (.string b)] => K (i64 (f a.data.toList b.data.toList)) | _ => False
theorem ask_txt2n {f} {l m : List UInt8} {K} : ask (txt2n f) [T l, T m] K = K (i64 (f l m)) := rfl
theorem told_txt2n {F f} (h : ∀ l m, Pure Tryz.prog G F [T l, T m] (i64 (f l m))) : Told Tryz.prog G F (txt2n f) := by
  intro args K hk
  unfold txt2n at hk
  split at hk
  · exact ⟨_, h _ _, hk⟩
  · exact hk.elim
def c29 : ACode := (.seq (.reg false 2 [⟨(.some 2), none, (.m .box 0), [(.t 0)]⟩, ⟨(.some 3), none, (.m .box 1), [(.t 1)]⟩, ⟨(.some 4), none, (.q .mv), [(.c (.imm (.int .i64 0)))]⟩]) (.seq (.reg true 0 [⟨(.some 5), none, (.q (.faddr 4)), [(.t 2)]⟩, ⟨(.some 6), none, (.l .load1), [(.t 5)]⟩, ⟨(.some 7), none, (.q (.faddr 4)), [(.t 3)]⟩, ⟨(.some 8), none, (.l .load1), [(.t 7)]⟩, ⟨(.some 9), none, (.call false), [(.c (.fn (.func 54) [] [])), (.t 6), (.t 8)]⟩, ⟨(.some 10), none, (.q (.faddr 0)), [(.t 2)]⟩, ⟨(.some 11), none, (.l (.loadA 2)), [(.t 10)]⟩, ⟨(.some 12), none, (.q (.faddr 0)), [(.t 3)]⟩, ⟨(.some 13), none, (.l (.loadA 2)), [(.t 12)]⟩, ⟨(.some 14), none, (.call true), [(.c (.fn (.func 55) [] [])), (.t 11), (.t 13)]⟩, ⟨(.some 15), none, (.q (.bslice 1)), [(.t 9), (.t 14)]⟩, ⟨(.some 16), none, (.call true), [(.c (.fn (.func 53) [] [])), (.t 15)]⟩, ⟨(.some 4), none, (.q .mv), [(.t 16)]⟩]) .ret))
theorem fn29 : IsFn Tryz.prog 29 [] c29 [4] 17 := ⟨_, _, Tryz.func29, rfl, by decide +kernel, by kernel_rfl, rfl, rfl⟩
set_option maxHeartbeats 2000000 in
theorem p29c (e f : Ev) (he : EvOk e) (hf : EvOk f) : Pure Tryz.prog G 29 [evV e, evV f] (i64 (cmpEv e f)) := by
  have hce : cmpEv e f = if cmpTxt e.path f.path = 0 then cmpDot e.r e.q f.r f.q else cmpTxt e.path f.path := by
    unfold cmpEv cmpTxt
    repeat' split
    all_goals first | rfl | omega | simp_all
  rw [hce]
  refine pure_of_code' (S := sp [(54, txt2n cmpTxt), (55, dot2n cmpDot), (53, orSp)] []) hm hG (sp_holds (.cons (told_txt2n p54') (.cons (told_dot2n p55') (.cons told_or .nil))) .nil) fn29 (St 5 17 [evV e, evV f, .junk, .junk, .junk] []) (by kernel_rfl) (by simp [lows, AV.low, lows_ev]) (by simp [AV.low]) ?_
  have hl := ev_len hf.len
  have hl' := ev_len he.len
  simp (maxSteps := 2000000) -implicitDefEqProofs only [c29, RS, RX, Nat.reduceLT, ↓RP0, ↓RP1, ↓RP2, ↓RP3, RV, RW, ↓reduceIte, Nat.reduceAdd, Nat.reduceSub, Nat.reduceMul, Nat.reduceLeDiff, Nat.reduceEqDiff, Int.reduceLT, Int.reduceLE, Int.reduceEq, Int.reduceNe, Int.reduceAdd, Int.reduceSub, Int.reduceMul, Int.reduceNeg, Int.reduceToNat, reduceCtorEq, ↓ask_txt2n, ask_txt2n, ↓ask_dot2n, ask_dot2n, ↓ask_or, ask_or, ev4, ev_take, hl, hl', AV.strip1]
  intro x hx
  simp only [List.mem_cons, List.not_mem_nil, or_false] at hx
  rcases hx with rfl | rfl <;> exact ⟨rfl, rfl⟩
end Go.AL.Path

/- Closures of heads; slices.IndexFunc, ContainsFunc at events. -/
set_option linter.unusedSimpArgs false
set_option linter.unusedVariables false
set_option maxRecDepth 100000
namespace Go.AL.Path
open Go Go.RowKit Go.Proofs Go.AL

/-- A question about an event, asked of a closure that captured these. -/
def ev1c (caps : List AV) (p : Ev → Bool) : PSp := fun args K => ∃ e, args = evV e :: caps ∧ EvOk e ∧ splitB (p e) K
theorem ask_ev1c {caps : List AV} {p : Ev → Bool} {e : Ev} {K} (he : EvOk e) : ask (ev1c caps p) (evV e :: caps) K = splitB (p e) K := by
  show (∃ e', evV e :: caps = evV e' :: caps ∧ EvOk e' ∧ splitB (p e') K) = _
  simp only [eq_iff_iff]
  constructor
  · rintro ⟨e', h1, h2, h3⟩
    have h4 : evCells e = evCells e' := by injection h1 with h1 _; injection h1
    have h5 := evOf_cells he.len
    rw [h4, evOf_cells h2.len] at h5
    cases h5
    exact h3
  · exact fun h => ⟨e, rfl, he, h⟩
theorem told_ev1c {F} {caps : List AV} {p : Ev → Bool} (h : ∀ e, EvOk e → Pure Tryz.prog G F (evV e :: caps) (bool (p e))) : Told Tryz.prog G F (ev1c caps p) := by
  rintro args K ⟨e, rfl, h1, h2⟩
  exact ⟨_, h _ h1, splitB_of h2⟩

def c30 : ACode := (.seq (.reg false 1 [⟨(.some 2), none, (.m .box 0), [(.t 0)]⟩, ⟨(.some 3), none, (.q .mv), [(.c (.imm (.bool false)))]⟩]) (.seq (.reg false 0 [⟨(.some 4), none, (.q (.faddr 4)), [(.t 2)]⟩, ⟨(.some 5), none, (.l .load1), [(.t 4)]⟩, ⟨(.some 6), none, (.q (.faddr 4)), [(.t 1)]⟩, ⟨(.some 7), none, (.l .load1), [(.t 6)]⟩, ⟨(.some 8), none, (.q (.bin .eql 9)), [(.t 5), (.t 7)]⟩, ⟨(.some 9), none, (.q .mv), [(.t 8)]⟩, ⟨(.some 10), (.some (9, true)), (.q (.faddr 0)), [(.t 2)]⟩, ⟨(.some 11), (.some (9, true)), (.l (.loadA 2)), [(.t 10)]⟩, ⟨(.some 12), (.some (9, true)), (.q (.faddr 0)), [(.t 1)]⟩, ⟨(.some 13), (.some (9, true)), (.l (.loadA 2)), [(.t 12)]⟩, ⟨(.some 14), (.some (9, true)), (.q (.eqA false 2)), [(.t 11), (.t 13)]⟩, ⟨(.some 15), (.some (9, true)), (.q .mv), [(.t 14)]⟩, ⟨(.some 16), (.some (15, false)), (.l (.loadA 38)), [(.t 2)]⟩, ⟨(.some 17), (.some (15, false)), (.l (.loadA 38)), [(.t 1)]⟩, ⟨(.some 18), (.some (15, false)), (.call true), [(.c (.fn (.func 27) [] [])), (.t 16), (.t 17)]⟩, ⟨(.some 19), (.some (9, true)), (.q .pick), [(.t 15), (.c (.imm (.bool true))), (.t 18)]⟩, ⟨(.some 20), none, (.q .pick), [(.t 9), (.t 19), (.c (.imm (.bool false)))]⟩, ⟨(.some 3), none, (.q .mv), [(.t 20)]⟩]) .ret))
theorem fn30 : IsFn Tryz.prog 30 [] c30 [3] 21 := ⟨_, _, Tryz.func30, rfl, by decide +kernel, by kernel_rfl, rfl, rfl⟩
theorem p30c (e f : Ev) (he : EvOk e) (hf : EvOk f) : Pure Tryz.prog G 30 [evV f, .rptr (evCells e) 0] (bool (covers e f)) := by
  refine pure_of_code' (S := sp [(27, ev2b knows)] []) hm hG (sp_holds (.cons (told_ev2b p27') .nil) .nil) fn30 (St 4 21 [evV f, .rptr (evCells e) 0, .junk, .junk] []) (by kernel_rfl) (by simp [lows, AV.low, lows_ev]) (by simp [AV.low]) ?_
  have hl := ev_len hf.len
  have hl' := ev_len he.len
  have t1 := take38 he
  have t2 := take38 hf
  have q : ∀ K, ask (ev2b knows) [.agg (evCells f), .agg (evCells e)] K = splitB (knows f e) K := fun K => ask_ev2b hf he
  simp (maxSteps := 2000000) -implicitDefEqProofs only [c30, RS, RX, Nat.reduceLT, ↓RP0, ↓RP1, ↓RP2, ↓RP3, RV, RW, ↓reduceIte, Nat.reduceAdd, Nat.reduceSub, Nat.reduceMul, Nat.reduceLeDiff, Nat.reduceEqDiff, Int.reduceLT, Int.reduceLE, Int.reduceEq, Int.reduceNe, Int.reduceAdd, Int.reduceSub, Int.reduceMul, Int.reduceNeg, Int.reduceToNat, reduceCtorEq, ↓q, q, ↓qB_eqA2, qB_eqA2, ev4, ev_take, hl, hl', t1, t2, ev_strip, AV.strip1]
  refine ⟨fun h1 => ⟨fun h2 => ?_, fun h2 => ⟨fun h3 => ?_, fun h3 => ?_⟩⟩, fun h1 => ?_⟩
  all_goals simp only [covers, *]
  all_goals simp_all

def c33 : ACode := (.seq (.reg false 1 [⟨(.some 2), none, (.m .box 0), [(.t 0)]⟩, ⟨(.some 3), none, (.q .mv), [(.c (.imm (.bool false)))]⟩]) (.seq (.reg false 0 [⟨(.some 4), none, (.q (.faddr 4)), [(.t 2)]⟩, ⟨(.some 5), none, (.l .load1), [(.t 4)]⟩, ⟨(.some 6), none, (.q (.faddr 4)), [(.t 1)]⟩, ⟨(.some 7), none, (.l .load1), [(.t 6)]⟩, ⟨(.some 8), none, (.q (.bin .eql 9)), [(.t 5), (.t 7)]⟩, ⟨(.some 9), none, (.q .mv), [(.t 8)]⟩, ⟨(.some 10), (.some (9, true)), (.l (.loadA 38)), [(.t 1)]⟩, ⟨(.some 11), (.some (9, true)), (.l (.loadA 38)), [(.t 2)]⟩, ⟨(.some 12), (.some (9, true)), (.call true), [(.c (.fn (.func 27) [] [])), (.t 10), (.t 11)]⟩, ⟨(.some 13), none, (.q .pick), [(.t 9), (.t 12), (.c (.imm (.bool false)))]⟩, ⟨(.some 3), none, (.q .mv), [(.t 13)]⟩]) .ret))
theorem fn33 : IsFn Tryz.prog 33 [] c33 [3] 14 := ⟨_, _, Tryz.func33, rfl, by decide +kernel, by kernel_rfl, rfl, rfl⟩
theorem p33c (e f : Ev) (he : EvOk e) (hf : EvOk f) : Pure Tryz.prog G 33 [evV f, .rptr (evCells e) 0] (bool (gone e f)) := by
  refine pure_of_code' (S := sp [(27, ev2b knows)] []) hm hG (sp_holds (.cons (told_ev2b p27') .nil) .nil) fn33 (St 4 14 [evV f, .rptr (evCells e) 0, .junk, .junk] []) (by kernel_rfl) (by simp [lows, AV.low, lows_ev]) (by simp [AV.low]) ?_
  have hl := ev_len hf.len
  have hl' := ev_len he.len
  have t1 := take38 he
  have t2 := take38 hf
  have q : ∀ K, ask (ev2b knows) [.agg (evCells e), .agg (evCells f)] K = splitB (knows e f) K := fun K => ask_ev2b he hf
  simp (maxSteps := 2000000) -implicitDefEqProofs only [c33, RS, RX, Nat.reduceLT, ↓RP0, ↓RP1, ↓RP2, ↓RP3, RV, RW, ↓reduceIte, Nat.reduceAdd, Nat.reduceSub, Nat.reduceMul, Nat.reduceLeDiff, Nat.reduceEqDiff, Int.reduceLT, Int.reduceLE, Int.reduceEq, Int.reduceNe, Int.reduceAdd, Int.reduceSub, Int.reduceMul, Int.reduceNeg, Int.reduceToNat, reduceCtorEq, ↓q, q, ↓qB_eqA2, qB_eqA2, ev4, ev_take, hl, hl', t1, t2, ev_strip, AV.strip1]
  refine ⟨fun h1 => ⟨fun h3 => ?_, fun h3 => ?_⟩, fun h1 => ?_⟩
  all_goals simp only [gone, *]
  all_goals simp_all

def c35 : ACode := (.seq (.reg false 1 [⟨(.some 2), none, (.m .box 0), [(.t 0)]⟩, ⟨(.some 3), none, (.q .mv), [(.c (.imm (.bool false)))]⟩]) (.seq (.reg false 0 [⟨(.some 4), none, (.l (.loadA 38)), [(.t 2)]⟩, ⟨(.some 5), none, (.l (.loadA 38)), [(.t 1)]⟩, ⟨(.some 6), none, (.call true), [(.c (.fn (.func 29) [] [])), (.t 4), (.t 5)]⟩, ⟨(.some 7), none, (.q (.bin .gtr 3)), [(.t 6), (.c (.imm (.int .i64 0)))]⟩, ⟨(.some 3), none, (.q .mv), [(.t 7)]⟩]) .ret))
theorem fn35 : IsFn Tryz.prog 35 [] c35 [3] 8 := ⟨_, _, Tryz.func35, rfl, by decide +kernel, by kernel_rfl, rfl, rfl⟩
theorem p35c (e f : Ev) (he : EvOk e) (hf : EvOk f) : Pure Tryz.prog G 35 [evV f, .rptr (evCells e) 0] (bool (decide (0 < cmpEv f e))) := by
  refine pure_of_code' (S := sp [(29, ev2n cmpEv)] []) hm hG (sp_holds (.cons (told_ev2n p29c) .nil) .nil) fn35 (St 4 8 [evV f, .rptr (evCells e) 0, .junk, .junk] []) (by kernel_rfl) (by simp [lows, AV.low, lows_ev]) (by simp [AV.low]) ?_
  have hl := ev_len hf.len
  have hl' := ev_len he.len
  have t1 := take38 he
  have t2 := take38 hf
  have q : ∀ K, ask (ev2n cmpEv) [.agg (evCells f), .agg (evCells e)] K = K (i64 (cmpEv f e)) := fun K => ask_ev2n hf he
  simp (maxSteps := 2000000) -implicitDefEqProofs only [c35, RS, RX, Nat.reduceLT, ↓RP0, ↓RP1, ↓RP2, ↓RP3, RV, RW, ↓reduceIte, Nat.reduceAdd, Nat.reduceSub, Nat.reduceMul, Nat.reduceLeDiff, Nat.reduceEqDiff, Int.reduceLT, Int.reduceLE, Int.reduceEq, Int.reduceNe, Int.reduceAdd, Int.reduceSub, Int.reduceMul, Int.reduceNeg, Int.reduceToNat, reduceCtorEq, ↓q, q, ev4, ev_take, hl, hl', t1, t2, ev_strip, AV.strip1]
  refine ⟨fun h => ?_, fun h => ?_⟩ <;> simp [h]

def c39 : ACode := (.seq (.reg false 1 [⟨(.some 2), none, (.m .box 0), [(.t 0)]⟩, ⟨(.some 3), none, (.q .mv), [(.c (.imm (.bool false)))]⟩]) (.seq (.reg false 0 [⟨(.some 4), none, (.q (.faddr 4)), [(.t 2)]⟩, ⟨(.some 5), none, (.l .load1), [(.t 4)]⟩, ⟨(.some 6), none, (.l .load1), [(.t 1)]⟩, ⟨(.some 7), none, (.q (.bin .neq 9)), [(.t 5), (.t 6)]⟩, ⟨(.some 3), none, (.q .mv), [(.t 7)]⟩]) .ret))
theorem fn39 : IsFn Tryz.prog 39 [] c39 [3] 8 := ⟨_, _, Tryz.func39, rfl, by decide +kernel, by kernel_rfl, rfl, rfl⟩
theorem p39c (d : List UInt8) (e : Ev) (he : EvOk e) : Pure Tryz.prog G 39 [evV e, .rptr [T d] 0] (bool (decide (¬ e.path = d))) := by
  refine pure_of_code' (S := sp [] []) hm hG (sp_holds .nil .nil) fn39 (St 4 8 [evV e, .rptr [T d] 0, .junk, .junk] []) (by kernel_rfl) (by simp [lows, AV.low, lows_ev]) (by simp [AV.low]) ?_
  have hl := ev_len he.len
  simp (maxSteps := 2000000) -implicitDefEqProofs only [c39, RS, RX, Nat.reduceLT, ↓RP0, ↓RP1, ↓RP2, ↓RP3, RV, RW, ↓reduceIte, Nat.reduceAdd, Nat.reduceSub, Nat.reduceMul, Nat.reduceLeDiff, Nat.reduceEqDiff, Int.reduceLT, Int.reduceLE, Int.reduceEq, Int.reduceNe, Int.reduceAdd, Int.reduceSub, Int.reduceMul, Int.reduceNeg, Int.reduceToNat, reduceCtorEq, ev4, hl]
  refine ⟨fun h => ?_, fun h => ?_⟩ <;> simp [h]

def c46 : ACode := (.seq (.reg false 1 [⟨(.some 2), none, (.m .box 0), [(.t 0)]⟩, ⟨(.some 3), none, (.q .mv), [(.c (.imm (.bool false)))]⟩]) (.seq (.reg false 0 [⟨(.some 4), none, (.q (.faddr 3)), [(.t 2)]⟩, ⟨(.some 5), none, (.l .load1), [(.t 4)]⟩, ⟨(.some 6), none, (.q (.bin .eql 3)), [(.t 5), (.c (.imm (.int .i64 2)))]⟩, ⟨(.some 7), none, (.q .mv), [(.t 6)]⟩, ⟨(.some 8), (.some (7, true)), (.l .load1), [(.t 1)]⟩, ⟨(.some 9), (.some (7, true)), (.q (.faddr 0)), [(.t 2)]⟩, ⟨(.some 10), (.some (7, true)), (.l (.loadA 2)), [(.t 9)]⟩, ⟨(.some 11), (.some (7, true)), (.call true), [(.c (.fn (.func 47) [] [])), (.t 8), (.t 10)]⟩, ⟨(.some 12), none, (.q .pick), [(.t 7), (.t 11), (.c (.imm (.bool false)))]⟩, ⟨(.some 3), none, (.q .mv), [(.t 12)]⟩]) .ret))
theorem fn46 : IsFn Tryz.prog 46 [] c46 [3] 13 := ⟨_, _, Tryz.func46, rfl, by decide +kernel, by kernel_rfl, rfl, rfl⟩
theorem p46c (v : Vec) (hv : Small v) (e : Ev) (he : EvOk e) : Pure Tryz.prog G 46 [evV e, .rptr [vecV v] 0] (bool (decide (e.kind = 2) && hasP v e.r e.q)) := by
  refine pure_of_code' (S := sp [(47, vecDotb hasP)] []) hm hG (sp_holds (.cons (told_vecDotb fun v r q h => p47' v r q h) .nil) .nil) fn46 (St 4 13 [evV e, .rptr [vecV v] 0, .junk, .junk] []) (by kernel_rfl) (by simp [lows, AV.low, lows_ev, lows_vdots]) (by simp [AV.low]) ?_
  have hl := ev_len he.len
  simp (maxSteps := 2000000) -implicitDefEqProofs only [c46, RS, RX, Nat.reduceLT, ↓RP0, ↓RP1, ↓RP2, ↓RP3, RV, RW, ↓reduceIte, Nat.reduceAdd, Nat.reduceSub, Nat.reduceMul, Nat.reduceLeDiff, Nat.reduceEqDiff, Int.reduceLT, Int.reduceLE, Int.reduceEq, Int.reduceNe, Int.reduceAdd, Int.reduceSub, Int.reduceMul, Int.reduceNeg, Int.reduceToNat, reduceCtorEq, ↓ask_vecDotb, ask_vecDotb, ev3, ev_take, hl, AV.strip1]
  refine ⟨fun h => ⟨hv, ⟨fun h1 => ?_, fun h1 => ?_⟩⟩, fun h => ?_⟩ <;> simp [*]

/-- f, at e's path, is another one, and knows it. -/
def beaten (e f : Ev) : Bool := decide (f.path = e.path) && !decide (f.r = e.r ∧ f.q = e.q) && knows f e
def c26 : ACode := (.seq (.reg false 1 [⟨(.some 2), none, (.m .box 0), [(.t 0)]⟩, ⟨(.some 3), none, (.q .mv), [(.c (.imm (.bool false)))]⟩]) (.seq (.reg false 0 [⟨(.some 4), none, (.q (.faddr 4)), [(.t 2)]⟩, ⟨(.some 5), none, (.l .load1), [(.t 4)]⟩, ⟨(.some 6), none, (.q (.faddr 4)), [(.t 1)]⟩, ⟨(.some 7), none, (.l .load1), [(.t 6)]⟩, ⟨(.some 8), none, (.q (.bin .eql 9)), [(.t 5), (.t 7)]⟩, ⟨(.some 9), none, (.q .mv), [(.t 8)]⟩, ⟨(.some 10), (.some (9, true)), (.q (.faddr 0)), [(.t 2)]⟩, ⟨(.some 11), (.some (9, true)), (.l (.loadA 2)), [(.t 10)]⟩, ⟨(.some 12), (.some (9, true)), (.q (.faddr 0)), [(.t 1)]⟩, ⟨(.some 13), (.some (9, true)), (.l (.loadA 2)), [(.t 12)]⟩, ⟨(.some 14), (.some (9, true)), (.q (.eqA true 2)), [(.t 11), (.t 13)]⟩, ⟨(.some 15), none, (.q .pick), [(.t 9), (.t 14), (.c (.imm (.bool false)))]⟩, ⟨(.some 16), none, (.q .mv), [(.t 15)]⟩, ⟨(.some 17), (.some (16, true)), (.l (.loadA 38)), [(.t 2)]⟩, ⟨(.some 18), (.some (16, true)), (.l (.loadA 38)), [(.t 1)]⟩, ⟨(.some 19), (.some (16, true)), (.call true), [(.c (.fn (.func 27) [] [])), (.t 17), (.t 18)]⟩, ⟨(.some 20), none, (.q .pick), [(.t 16), (.t 19), (.c (.imm (.bool false)))]⟩, ⟨(.some 3), none, (.q .mv), [(.t 20)]⟩]) .ret))
theorem fn26 : IsFn Tryz.prog 26 [] c26 [3] 21 := ⟨_, _, Tryz.func26, rfl, by decide +kernel, by kernel_rfl, rfl, rfl⟩
theorem p26c (e f : Ev) (he : EvOk e) (hf : EvOk f) : Pure Tryz.prog G 26 [evV f, .rptr (evCells e) 0] (bool (beaten e f)) := by
  refine pure_of_code' (S := sp [(27, ev2b knows)] []) hm hG (sp_holds (.cons (told_ev2b p27') .nil) .nil) fn26 (St 4 21 [evV f, .rptr (evCells e) 0, .junk, .junk] []) (by kernel_rfl) (by simp [lows, AV.low, lows_ev]) (by simp [AV.low]) ?_
  have hl := ev_len hf.len
  have hl' := ev_len he.len
  have t1 := take38 he
  have t2 := take38 hf
  have q : ∀ K, ask (ev2b knows) [.agg (evCells f), .agg (evCells e)] K = splitB (knows f e) K := fun K => ask_ev2b hf he
  simp (maxSteps := 2000000) -implicitDefEqProofs only [c26, RS, RX, Nat.reduceLT, ↓RP0, ↓RP1, ↓RP2, ↓RP3, RV, RW, ↓reduceIte, Nat.reduceAdd, Nat.reduceSub, Nat.reduceMul, Nat.reduceLeDiff, Nat.reduceEqDiff, Int.reduceLT, Int.reduceLE, Int.reduceEq, Int.reduceNe, Int.reduceAdd, Int.reduceSub, Int.reduceMul, Int.reduceNeg, Int.reduceToNat, reduceCtorEq, ↓q, q, ↓qB_neA2, qB_neA2, ev4, ev_take, hl, hl', t1, t2, ev_strip, AV.strip1]
  refine ⟨fun h1 => ⟨fun h2 => ?_, fun h2 => ⟨fun h3 => ?_, fun h3 => ?_⟩⟩, fun h1 => ?_⟩
  all_goals simp only [beaten, *]
  all_goals simp_all

/-- Where the first one stands of which something holds; -1: nowhere. -/
def idxOf {α : Type} (p : α → Bool) (l : List α) : Int := if l.any p = true then (l.findIdx p : Int) else -1
theorem idxOf_hit {α : Type} {p : α → Bool} {l : List α} {i : Nat} (h : i < l.length) (hp : p l[i] = true) (hn : (l.take i).any p = false) : idxOf p l = i := by
  have h1 : l.any p = true := List.any_eq_true.2 ⟨_, List.getElem_mem h, hp⟩
  unfold idxOf
  rw [if_pos h1, (List.findIdx_eq h).2 ⟨hp, fun j hj => ?_⟩]
  rw [List.any_eq_false] at hn
  have := hn l[j] (by rw [List.mem_take_iff_getElem]; exact ⟨j, by omega, rfl⟩)
  simpa using this
theorem idxOf_none {α : Type} {p : α → Bool} {l : List α} (h : l.any p = false) : idxOf p l = -1 := by
  unfold idxOf; rw [h]; rfl

def c34 : ACode := (.seq (.reg false 0 [⟨(.some 4), none, (.q .mv), [(.c (.imm (.int .i64 0)))]⟩]) (.seq (.seq (.reg false 0 [⟨(.some 6), none, (.q .mv), [(.t 0)]⟩, ⟨(.some 7), none, (.q .lenL), [(.t 6)]⟩, ⟨(.some 8), none, (.q .mv), [(.c (.imm (.int .i64 0)))]⟩]) (.block 0 (.loop (.seq (.reg false 0 [⟨(.some 9), none, (.q (.bin .lss 3)), [(.t 8), (.t 7)]⟩]) (.seq (.cond (.t 9) .skip (.exit 0)) (.seq (.block 1 (.seq (.reg false 0 [⟨(.some 10), none, (.q .mv), [(.t 8)]⟩, ⟨(.some 5), none, (.q .mv), [(.t 10)]⟩]) (.seq (.reg false 0 [⟨(.some 11), none, (.q .mv), [(.t 1)]⟩, ⟨(.some 12), none, (.q .mv), [(.t 0)]⟩, ⟨(.some 13), none, (.q .mv), [(.t 5)]⟩, ⟨(.some 14), none, (.q (.iaddrS 38)), [(.t 12), (.t 13)]⟩, ⟨(.some 15), none, (.l (.loadA 38)), [(.t 14)]⟩, ⟨(.some 16), none, (.call true), [(.t 11), (.t 15)]⟩]) (.cond (.t 16) (.seq (.reg false 0 [⟨(.some 17), none, (.q .mv), [(.t 5)]⟩, ⟨(.some 4), none, (.q .mv), [(.t 17)]⟩]) .ret) .skip)))) (.reg false 0 [⟨(.some 18), none, (.q (.bin .add 3)), [(.t 8), (.c (.imm (.int .i64 1)))]⟩, ⟨(.some 8), none, (.q .mv), [(.t 18)]⟩]))))))) (.seq (.reg false 0 [⟨(.some 4), none, (.q .mv), [(.c (.imm (.int .i64 (-1))))]⟩]) .ret)))
theorem fn34 : IsFn Tryz.prog 34 [] c34 [4] 19 := ⟨_, _, Tryz.func34, rfl, by decide +kernel, by kernel_rfl, rfl, rfl⟩
set_option maxHeartbeats 2000000 in
theorem p34c {g : Nat} {caps : List AV} {p : Ev → Bool} (hc : lows 0 caps) (hst : caps.map AV.strip = caps) (hg : ∀ e, EvOk e → Pure Tryz.prog G g (evV e :: caps) (bool (p e))) (l : List Ev) (ho : AllOk l) (hs : l.length ≤ 1099511627776) :
    Pure Tryz.prog G 34 [evsV l, .fn (.func g) [] caps] (i64 (idxOf p l)) := by
  refine pure_of_code' (S := sp [(g, ev1c caps p)] []) hm hG (sp_holds (.cons (told_ev1c hg) .nil) .nil) fn34 (St 9 19 [evsV l, .fn (.func g) [] caps, .junk, .junk, .junk, .junk, .junk, .junk, .junk] []) (by kernel_rfl) (by simp [lows, AV.low, lows_evs, hc]) (by simp [AV.low]) ?_
  simp (maxSteps := 2000000) -implicitDefEqProofs only [c34, RS, RX, Nat.reduceLT, ↓RP0, ↓RP1, ↓RP2, ↓RP3, RV, RW, ↓reduceIte, Nat.reduceAdd, Nat.reduceSub, Nat.reduceMul, Nat.reduceLeDiff, Nat.reduceEqDiff, Int.reduceLT, Int.reduceLE, Int.reduceEq, Int.reduceNe, Int.reduceAdd, Int.reduceSub, Int.reduceMul, Int.reduceNeg, Int.reduceToNat, reduceCtorEq, evs_len]
  refine loopB (st := fun (i : Nat) => (St 9 19 [evsV l, .fn (.func g) [] caps, .junk, .junk, i64 0, .junk, evsV l, i64 l.length, i64 i] [])) (hp := fun _ => []) (I := fun i => i ≤ l.length ∧ (l.take i).any p = false) (m := fun i => l.length - i) (0 : Nat) ⟨Nat.zero_le _, rfl⟩ ?_ ?_
  · refine weak_nilS ?_; simp [WeakL, AV.low, lows, lows_evs, hc]
  · rintro i ⟨hi, hn⟩
    by_cases hlt : i < l.length
    · have e1 := evs_get hlt
      have e3 : (i : Int) < (l.length : Int) := by omega
      have t1 := evs_take hlt
      have o1 := evs_ok ho i
      have hany : (l.take (i + 1)).any p = ((l.take i).any p || p (l.getD i ev0d)) := by rw [t1]; simp
      have hhit : p (l.getD i ev0d) = true → idxOf p l = i := fun h => idxOf_hit hlt (by rwa [List.getD_eq_getElem?_getD, List.getElem?_eq_getElem hlt] at h) hn
      generalize l.getD i ev0d = x at *
      have l1 := ev_len o1.len
      have k1 := take38 o1
      have q : ∀ K, ask (ev1c caps p) (.agg (evCells x) :: caps) K = splitB (p x) K := fun K => ask_ev1c o1
      simp (maxSteps := 2000000) -implicitDefEqProofs only [RS, RX, Nat.reduceLT, ↓RP0, ↓RP1, ↓RP2, ↓RP3, RV, RW, ↓reduceIte, Nat.reduceAdd, Nat.reduceSub, Nat.reduceMul, Nat.reduceLeDiff, Nat.reduceEqDiff, Int.reduceLT, Int.reduceLE, Int.reduceEq, Int.reduceNe, Int.reduceAdd, Int.reduceSub, Int.reduceMul, Int.reduceNeg, Int.reduceToNat, reduceCtorEq, ↓q, q, e1, e3, evs_len, l1, k1, ev_strip, hst, AV.cells]
      refine ⟨fun h => ?_, fun h => ⟨⟨by omega, by omega⟩, i + 1, by dsimp only; omega, ⟨by omega, by rw [hany, hn, h]; rfl⟩, ?_⟩⟩
      · rw [hhit h]
      · refine weak_nilS ?_; simp [WeakL, AV.low, lows, lows_evs, hc]
    · obtain rfl : i = l.length := by omega
      rw [List.take_length] at hn
      simp (maxSteps := 2000000) -implicitDefEqProofs only [RS, RX, Nat.reduceLT, ↓RP0, ↓RP1, ↓RP2, ↓RP3, RV, RW, ↓reduceIte, Nat.reduceAdd, Nat.reduceSub, Nat.reduceMul, Nat.reduceLeDiff, Nat.reduceEqDiff, Int.reduceLT, Int.reduceLE, Int.reduceEq, Int.reduceNe, Int.reduceAdd, Int.reduceSub, Int.reduceMul, Int.reduceNeg, Int.reduceToNat, reduceCtorEq, evs_len, Int.lt_irrefl]
      rw [idxOf_none hn]

def evsFn (g : Nat) (caps : List AV) (f : List Ev → AV) : PSp := fun args K => ∃ l, args = [evsV l, .fn (.func g) [] caps] ∧ AllOk l ∧ l.length ≤ 1099511627776 ∧ K (f l)
theorem ask_evsFn {g caps f} {l : List Ev} {K} (ho : AllOk l) : ask (evsFn g caps f) [evsV l, .fn (.func g) [] caps] K = (l.length ≤ 1099511627776 ∧ K (f l)) := by
  show (∃ l', [evsV l, .fn (.func g) [] caps] = [evsV l', .fn (.func g) [] caps] ∧ AllOk l' ∧ l'.length ≤ 1099511627776 ∧ K (f l')) = _
  simp only [eq_iff_iff]
  constructor
  · rintro ⟨l', h1, h2, h3, h4⟩
    have h5 : l.map evV = l'.map evV := by injection h1 with h1 _; injection h1
    obtain rfl := evs_inj ho h2 h5
    exact ⟨h3, h4⟩
  · exact fun h => ⟨l, rfl, ho, h⟩
theorem told_evsFn {F g caps f} (h : ∀ l, AllOk l → l.length ≤ 1099511627776 → Pure Tryz.prog G F [evsV l, .fn (.func g) [] caps] (f l)) : Told Tryz.prog G F (evsFn g caps f) := by
  rintro args K ⟨l, rfl, h1, h2, h3⟩
  exact ⟨_, h _ h1 h2, h3⟩

theorem idxOf_ge {α : Type} {p : α → Bool} {l : List α} : 0 ≤ idxOf p l ↔ l.any p = true := by
  unfold idxOf
  split <;> simp_all

def c25 : ACode := (.seq (.reg false 0 [⟨(.some 4), none, (.q .mv), [(.c (.imm (.bool false)))]⟩]) (.seq (.reg false 0 [⟨(.some 5), none, (.q .mv), [(.t 0)]⟩, ⟨(.some 6), none, (.q .mv), [(.t 1)]⟩, ⟨(.some 7), none, (.call true), [(.c (.fn (.func 34) [] [])), (.t 5), (.t 6)]⟩, ⟨(.some 8), none, (.q (.bin .geq 3)), [(.t 7), (.c (.imm (.int .i64 0)))]⟩, ⟨(.some 4), none, (.q .mv), [(.t 8)]⟩]) .ret))
theorem fn25 : IsFn Tryz.prog 25 [] c25 [4] 9 := ⟨_, _, Tryz.func25, rfl, by decide +kernel, by kernel_rfl, rfl, rfl⟩
theorem p25c {g : Nat} {caps : List AV} {p : Ev → Bool} (hc : lows 0 caps) (hst : caps.map AV.strip = caps) (hg : ∀ e, EvOk e → Pure Tryz.prog G g (evV e :: caps) (bool (p e))) (l : List Ev) (ho : AllOk l) (hs : l.length ≤ 1099511627776) :
    Pure Tryz.prog G 25 [evsV l, .fn (.func g) [] caps] (bool (l.any p)) := by
  refine pure_of_code' (S := sp [(34, evsFn g caps fun l => i64 (idxOf p l))] []) hm hG (sp_holds (.cons (told_evsFn fun l h1 h2 => p34c hc hst hg l h1 h2) .nil) .nil) fn25 (St 5 9 [evsV l, .fn (.func g) [] caps, .junk, .junk, .junk] []) (by kernel_rfl) (by simp [lows, AV.low, lows_evs, hc]) (by simp [AV.low]) ?_
  have q : ∀ K, ask (evsFn g caps fun l => i64 (idxOf p l)) [.sl 38 (l.map evV) none, .fn (.func g) [] caps] K = (l.length ≤ 1099511627776 ∧ K (i64 (idxOf p l))) := fun K => ask_evsFn ho
  simp (maxSteps := 2000000) -implicitDefEqProofs only [c25, RS, RX, Nat.reduceLT, ↓RP0, ↓RP1, ↓RP2, ↓RP3, RV, RW, ↓reduceIte, Nat.reduceAdd, Nat.reduceSub, Nat.reduceMul, Nat.reduceLeDiff, Nat.reduceEqDiff, Int.reduceLT, Int.reduceLE, Int.reduceEq, Int.reduceNe, Int.reduceAdd, Int.reduceSub, Int.reduceMul, Int.reduceNeg, Int.reduceToNat, reduceCtorEq, ↓q, q]
  refine ⟨hs, fun h => ?_, fun h => ?_⟩
  · rw [idxOf_ge.1 h]
  · rw [show l.any p = false by cases h1 : l.any p; rfl; exact absurd (idxOf_ge.2 h1) h]
end Go.AL.Path
