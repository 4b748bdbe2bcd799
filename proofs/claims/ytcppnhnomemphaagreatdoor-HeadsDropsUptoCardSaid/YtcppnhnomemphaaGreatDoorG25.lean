/- Vectors, on: joined. -/
import Derived.Test.YtcppnhnomemphaaGreatDoorG24
set_option linter.unusedSimpArgs false
set_option linter.unusedVariables false
set_option maxRecDepth 100000
namespace Go.AL.Path
open Go Go.RowKit Go.Proofs Go.AL

theorem step_max {a : Nat → Int} {k : Nat} {q : Int} (h : dotOk k q = true) : step a ((k : Int), q) = fun i => if i = k then max (a k) q else a i := by
  funext j
  by_cases hj : j = k
  · subst hj
    simp only [step, h, true_and, if_true]
    split <;> omega
  · have : ¬ (k : Int) = (j : Int) := by omega
    simp [step, this, hj]
def joinV2 (a b : Vec) : Vec := ofP fun i => max (cnt a i) (cnt b i)

def c41 : ACode := (.seq (.reg false 0 [⟨(.some 4), none, (.q .mv), [(.c (.sl 0 [] none))]⟩]) (.seq (.reg false 1 [⟨(.some 8), none, (.q .mv), [(.t 0)]⟩, ⟨(.some 9), none, (.call true), [(.c (.fn (.func 59) [] [])), (.t 8)]⟩, ⟨(.some 5), none, (.m (.alloc [(.imm (.int .i64 0)), (.imm (.int .i64 0)), (.imm (.int .i64 0)), (.imm (.int .i64 0)), (.imm (.int .i64 0)), (.imm (.int .i64 0)), (.imm (.int .i64 0)), (.imm (.int .i64 0)), (.imm (.int .i64 0)), (.imm (.int .i64 0)), (.imm (.int .i64 0)), (.imm (.int .i64 0)), (.imm (.int .i64 0)), (.imm (.int .i64 0)), (.imm (.int .i64 0)), (.imm (.int .i64 0)), (.imm (.int .i64 0)), (.imm (.int .i64 0)), (.imm (.int .i64 0)), (.imm (.int .i64 0)), (.imm (.int .i64 0)), (.imm (.int .i64 0)), (.imm (.int .i64 0)), (.imm (.int .i64 0)), (.imm (.int .i64 0)), (.imm (.int .i64 0)), (.imm (.int .i64 0)), (.imm (.int .i64 0)), (.imm (.int .i64 0)), (.imm (.int .i64 0)), (.imm (.int .i64 0)), (.imm (.int .i64 0))] false) 0), []⟩, ⟨none, none, (.e (.store 32)), [(.t 5), (.t 9)]⟩]) (.seq (.reg false 1 [⟨(.some 10), none, (.q .mv), [(.t 1)]⟩, ⟨(.some 11), none, (.call true), [(.c (.fn (.func 59) [] [])), (.t 10)]⟩, ⟨(.some 6), none, (.m (.alloc [(.imm (.int .i64 0)), (.imm (.int .i64 0)), (.imm (.int .i64 0)), (.imm (.int .i64 0)), (.imm (.int .i64 0)), (.imm (.int .i64 0)), (.imm (.int .i64 0)), (.imm (.int .i64 0)), (.imm (.int .i64 0)), (.imm (.int .i64 0)), (.imm (.int .i64 0)), (.imm (.int .i64 0)), (.imm (.int .i64 0)), (.imm (.int .i64 0)), (.imm (.int .i64 0)), (.imm (.int .i64 0)), (.imm (.int .i64 0)), (.imm (.int .i64 0)), (.imm (.int .i64 0)), (.imm (.int .i64 0)), (.imm (.int .i64 0)), (.imm (.int .i64 0)), (.imm (.int .i64 0)), (.imm (.int .i64 0)), (.imm (.int .i64 0)), (.imm (.int .i64 0)), (.imm (.int .i64 0)), (.imm (.int .i64 0)), (.imm (.int .i64 0)), (.imm (.int .i64 0)), (.imm (.int .i64 0)), (.imm (.int .i64 0))] false) 0), []⟩, ⟨none, none, (.e (.store 32)), [(.t 6), (.t 11)]⟩]) (.seq (.seq (.reg false 0 [⟨(.some 7), none, (.q .mv), [(.c (.imm (.int .i64 0)))]⟩]) (.block 0 (.loop (.seq (.seq (.reg false 0 [⟨(.some 12), none, (.q .mv), [(.t 7)]⟩, ⟨(.some 13), none, (.q (.bin .lss 3)), [(.t 12), (.c (.imm (.int .i64 32)))]⟩]) (.cond (.t 13) .skip (.exit 0))) (.seq (.block 1 (.reg true 0 [⟨(.some 16), none, (.q .mv), [(.t 7)]⟩, ⟨(.some 17), none, (.q .mv), [(.t 7)]⟩, ⟨(.some 18), none, (.q (.iaddrA 32 1)), [(.t 5), (.t 17)]⟩, ⟨(.some 19), none, (.l .load1), [(.t 18)]⟩, ⟨(.some 20), none, (.q .mv), [(.t 7)]⟩, ⟨(.some 21), none, (.q (.iaddrA 32 1)), [(.t 6), (.t 20)]⟩, ⟨(.some 22), none, (.l .load1), [(.t 21)]⟩, ⟨(.some 23), none, (.q .max2), [(.t 19), (.t 22)]⟩, ⟨(.some 24), none, (.q (.iaddrA 32 1)), [(.t 5), (.t 16)]⟩, ⟨none, none, (.e (.store 1)), [(.t 24), (.t 23)]⟩])) (.reg false 0 [⟨(.some 14), none, (.q .mv), [(.t 7)]⟩, ⟨(.some 15), none, (.q (.bin .add 3)), [(.t 14), (.c (.imm (.int .i64 1)))]⟩, ⟨(.some 7), none, (.q .mv), [(.t 15)]⟩])))))) (.seq (.reg false 0 [⟨(.some 25), none, (.l (.loadA 32)), [(.t 5)]⟩, ⟨(.some 26), none, (.call true), [(.c (.fn (.func 60) [] [])), (.t 25)]⟩, ⟨(.some 4), none, (.q .mv), [(.t 26)]⟩]) .ret)))))
theorem fn41 : IsFn Tryz.prog 41 [] c41 [4] 27 := ⟨_, _, Tryz.func41, rfl, by decide +kernel, by kernel_rfl, rfl, rfl⟩
set_option maxHeartbeats 2000000 in
theorem p41' (a b : Vec) (ha : Small a) (hb : Small b) : Pure Tryz.prog G 41 [vecV a, vecV b] (vecV (joinV2 a b)) := by
  refine pure_of_code' (S := sp [(59, vec1 (fun v => v.length ≤ 1099511627776) fun v => .agg (arr (cnt v))), (60, arr1 fun f => vecV (ofP f))] []) hm hG (sp_holds (.cons (told_vec1 p59) (.cons (told_arr1 p60) .nil)) .nil) fn41 (St 8 27 [vecV a, vecV b, .junk, .junk, .junk, .junk, .junk, .junk] []) (by kernel_rfl) (by simp [lows, AV.low, lows_vdots]) (by simp [AV.low, lows_vdots]) ?_
  simp (maxSteps := 2000000) -implicitDefEqProofs only [c41, RS, RX, Nat.reduceLT, ↓RP0, ↓RP1, ↓RP2, ↓RP3, RV, RW, ↓reduceIte, Nat.reduceAdd, Nat.reduceSub, Nat.reduceMul, Nat.reduceLeDiff, Nat.reduceEqDiff, Int.reduceLT, Int.reduceLE, Int.reduceEq, Int.reduceNe, Int.reduceAdd, Int.reduceSub, Int.reduceMul, Int.reduceNeg, Int.reduceToNat, reduceCtorEq, ↓ask_vec1, ↓ask_arr1, ask_arr1, arr_strip, arr_take, ha, hb]
  refine ⟨arr_len _, arr_len _, ?_⟩
  refine loopB (st := fun (i : Nat) => (St 8 27 [vecV a, vecV b, .junk, .junk, .sl 0 [] none, .ptr 0 0, .ptr 1 0, i64 i] [])) (hp := fun i => [.box (arr fun j => if j < i then max (cnt a j) (cnt b j) else cnt a j), .box (arr (cnt b))]) (I := fun i => i ≤ 32) (m := fun i => 32 - i) (0 : Nat) (by decide) ?_ ?_
  · refine weak_sameS (by simp) ?_ ?_
    · simp [AObj.low, lows, AV.low, lows_arr]
    · simp [WeakL, AV.low, lows, lows_vdots]
  · intro i hi
    by_cases hlt : i < 32
    · have e3 : (i : Int) < 32 := by omega
      have e4 := arr_get (fun j => if j < i then max (cnt a j) (cnt b j) else cnt a j) hlt
      have e4b := arr_get (cnt b) hlt
      have e5 : (0 : Int) ≤ (i : Int) := by omega
      have e7 := arr_set (fun j => if j < i then max (cnt a j) (cnt b j) else cnt a j) hlt (max (cnt a i) (cnt b i))
      rw [if_neg (Nat.lt_irrefl i)] at e4
      simp (maxSteps := 2000000) -implicitDefEqProofs only [RS, RX, Nat.reduceLT, ↓RP0, ↓RP1, ↓RP2, ↓RP3, RV, RW, ↓reduceIte, Nat.reduceAdd, Nat.reduceSub, Nat.reduceMul, Nat.reduceLeDiff, Nat.reduceEqDiff, Int.reduceLT, Int.reduceLE, Int.reduceEq, Int.reduceNe, Int.reduceAdd, Int.reduceSub, Int.reduceMul, Int.reduceNeg, Int.reduceToNat, reduceCtorEq, e3, e4, e4b, e5, e7, arr_len, Nat.mul_one]
      refine ⟨by omega, by omega, by omega, by omega, ⟨by omega, by omega⟩, i + 1, by dsimp only; omega, by omega, ?_⟩
      have h9 : (fun j => if j = i then max (cnt a i) (cnt b i) else if j < i then max (cnt a j) (cnt b j) else cnt a j) = fun j => if j < i + 1 then max (cnt a j) (cnt b j) else cnt a j := by
        funext j
        by_cases h1 : j = i
        · subst h1; simp
        · by_cases h2 : j < i
          · simp [h1, h2, show j < i + 1 by omega]
          · simp [h1, h2, show ¬ j < i + 1 by omega]
      rw [h9]
      refine weak_sameS (by simp) ?_ ?_
      · simp [AObj.low, lows, AV.low, lows_arr]
      · simp [WeakL, AV.low, lows, lows_vdots]
    · obtain rfl : i = 32 := by omega
      simp (maxSteps := 2000000) -implicitDefEqProofs only [RS, RX, Nat.reduceLT, ↓RP0, ↓RP1, ↓RP2, ↓RP3, RV, RW, ↓reduceIte, Nat.reduceAdd, Nat.reduceSub, Nat.reduceMul, Nat.reduceLeDiff, Nat.reduceEqDiff, Int.reduceLT, Int.reduceLE, Int.reduceEq, Int.reduceNe, Int.reduceAdd, Int.reduceSub, Int.reduceMul, Int.reduceNeg, Int.reduceToNat, reduceCtorEq, Int.lt_irrefl, ↓ask_arr1, ask_arr1, arr_strip, arr_take, arr_len]
      refine ⟨fun h => absurd h (by omega), fun _ => ?_⟩
      have : (ofP fun j => if j < 32 then max (cnt a j) (cnt b j) else cnt a j) = joinV2 a b := by
        unfold joinV2 ofP
        exact ofTo_congr (fun i hi => by simp only [hi, if_true]) 32 (Nat.le_refl _)
      rw [this]

def c65 : ACode := (.seq (.reg false 1 [⟨(.some 2), none, (.m (.alloc [(.imm (.int .i64 0)), (.imm (.int .i64 0)), (.imm (.int .i64 0)), (.imm (.int .i64 0)), (.imm (.int .i64 0)), (.imm (.int .i64 0)), (.imm (.int .i64 0)), (.imm (.int .i64 0)), (.imm (.int .i64 0)), (.imm (.int .i64 0)), (.imm (.int .i64 0)), (.imm (.int .i64 0)), (.imm (.int .i64 0)), (.imm (.int .i64 0)), (.imm (.int .i64 0)), (.imm (.int .i64 0)), (.imm (.int .i64 0)), (.imm (.int .i64 0)), (.imm (.int .i64 0)), (.imm (.int .i64 0)), (.imm (.int .i64 0)), (.imm (.int .i64 0)), (.imm (.int .i64 0)), (.imm (.int .i64 0)), (.imm (.int .i64 0)), (.imm (.int .i64 0)), (.imm (.int .i64 0)), (.imm (.int .i64 0)), (.imm (.int .i64 0)), (.imm (.int .i64 0)), (.imm (.int .i64 0)), (.imm (.int .i64 0))] false) 0), []⟩]) (.seq (.reg false 1 [⟨(.some 3), none, (.m (.alloc [(.imm (.int .i64 0)), (.imm (.int .i64 0)), (.imm (.int .i64 0)), (.imm (.int .i64 0)), (.imm (.int .i64 0)), (.imm (.int .i64 0)), (.imm (.int .i64 0)), (.imm (.int .i64 0)), (.imm (.int .i64 0)), (.imm (.int .i64 0)), (.imm (.int .i64 0)), (.imm (.int .i64 0)), (.imm (.int .i64 0)), (.imm (.int .i64 0)), (.imm (.int .i64 0)), (.imm (.int .i64 0)), (.imm (.int .i64 0)), (.imm (.int .i64 0)), (.imm (.int .i64 0)), (.imm (.int .i64 0)), (.imm (.int .i64 0)), (.imm (.int .i64 0)), (.imm (.int .i64 0)), (.imm (.int .i64 0)), (.imm (.int .i64 0)), (.imm (.int .i64 0)), (.imm (.int .i64 0)), (.imm (.int .i64 0)), (.imm (.int .i64 0)), (.imm (.int .i64 0)), (.imm (.int .i64 0)), (.imm (.int .i64 0))] false) 0), []⟩]) (.seq (.seq (.reg false 0 [⟨(.some 6), none, (.q .mv), [(.t 0)]⟩, ⟨(.some 7), none, (.q .lenL), [(.t 6)]⟩, ⟨(.some 8), none, (.q .mv), [(.c (.imm (.int .i64 0)))]⟩]) (.block 0 (.loop (.seq (.reg false 0 [⟨(.some 9), none, (.q (.bin .lss 3)), [(.t 8), (.t 7)]⟩]) (.seq (.cond (.t 9) .skip (.exit 0)) (.seq (.block 1 (.seq (.reg false 1 [⟨(.some 10), none, (.q (.iaddrS 2)), [(.t 6), (.t 8)]⟩, ⟨(.some 11), none, (.l (.loadA 2)), [(.t 10)]⟩, ⟨(.some 5), none, (.m (.alloc [(.imm (.int .i64 0)), (.imm (.int .i64 0))] false) 0), []⟩, ⟨none, none, (.e (.store 2)), [(.t 5), (.t 11)]⟩]) (.seq (.reg false 0 [⟨(.some 12), none, (.l (.loadA 2)), [(.t 5)]⟩, ⟨(.some 13), none, (.call true), [(.c (.fn (.func 49) [] [])), (.t 12)]⟩]) (.cond (.t 13) (.reg true 0 [⟨(.some 14), none, (.q (.faddr 0)), [(.t 5)]⟩, ⟨(.some 15), none, (.l .load1), [(.t 14)]⟩, ⟨(.some 16), none, (.q (.faddr 0)), [(.t 5)]⟩, ⟨(.some 17), none, (.l .load1), [(.t 16)]⟩, ⟨(.some 18), none, (.q (.iaddrA 32 1)), [(.t 3), (.t 17)]⟩, ⟨(.some 19), none, (.l .load1), [(.t 18)]⟩, ⟨(.some 20), none, (.q (.faddr 1)), [(.t 5)]⟩, ⟨(.some 21), none, (.l .load1), [(.t 20)]⟩, ⟨(.some 22), none, (.q .max2), [(.t 19), (.t 21)]⟩, ⟨(.some 23), none, (.q (.iaddrA 32 1)), [(.t 3), (.t 15)]⟩, ⟨none, none, (.e (.store 1)), [(.t 23), (.t 22)]⟩]) .skip)))) (.reg false 0 [⟨(.some 24), none, (.q (.bin .add 3)), [(.t 8), (.c (.imm (.int .i64 1)))]⟩, ⟨(.some 8), none, (.q .mv), [(.t 24)]⟩]))))))) (.seq (.reg false 0 [⟨(.some 25), none, (.l (.loadA 32)), [(.t 3)]⟩, ⟨none, none, (.e (.store 32)), [(.t 2), (.t 25)]⟩]) .ret))))
theorem fn65 : IsFnC Tryz.prog 65 [] c65 [(2, some (76, .loadA 32))] 26 := ⟨⟨_, _, Tryz.func65, rfl, by decide +kernel, by kernel_rfl, rfl, rfl⟩, by intro r hr; simp only [List.mem_cons, List.not_mem_nil, or_false] at hr; first | (subst hr; kernel_rfl) | (rcases hr with rfl | rfl <;> kernel_rfl)⟩
set_option maxHeartbeats 2000000 in
theorem p65 (v : Vec) (hv : v.length ≤ 1099511627776) : Pure Tryz.prog G 65 [vecV v] (.agg (arr (cnt v))) := by
  refine pure_of_codeC (S := sp [(49, dot1b dotOk)] []) hm hG (sp_holds (.cons (told_dot1b p49) .nil) .nil) fn65 (St 9 26 [vecV v, .junk, .junk, .junk, .junk, .junk, .junk, .junk, .junk] []) (by kernel_rfl) (by simp [lows, AV.low, lows_vdots]) (by simp [AV.low, lows_arr]) ?_
  simp (maxSteps := 2000000) -implicitDefEqProofs only [c65, RS, RX, Nat.reduceLT, ↓RP0, ↓RP1, ↓RP2, ↓RP3, RV, RW, ↓reduceIte, Nat.reduceAdd, Nat.reduceSub, Nat.reduceMul, Nat.reduceLeDiff, Nat.reduceEqDiff, Int.reduceLT, Int.reduceLE, Int.reduceEq, Int.reduceNe, Int.reduceAdd, Int.reduceSub, Int.reduceMul, Int.reduceNeg, Int.reduceToNat, reduceCtorEq]
  refine loopB (st := fun (i : Nat) => (St 9 26 [vecV v, .junk, .ptr 0 0, .ptr 1 0, .junk, .junk, vecV v, i64 v.length, i64 i] [])) (hp := fun i => [.box (List.replicate 32 (i64 0)), .box (arr (cnt (v.take i)))]) (I := fun i => i ≤ v.length) (m := fun i => v.length - i) (0 : Nat) (Nat.zero_le _) ?_ ?_
  · refine weak_sameS (by simp) ?_ ?_
    · simp [AObj.low, lows, AV.low]
    · simp [WeakL, AV.low, lows, lows_vdots, vdots_len]
  · intro i hi
    by_cases hlt : i < v.length
    · have e1 := vdots_get hlt
      have e2 : (i : Int) < (v.length : Int) := by omega
      have hc := cnt_take hlt
      generalize v.getD i (0, 0) = d at *
      obtain ⟨r, q⟩ := d
      cases hd : dotOk r q with
      | true =>
        obtain ⟨k, rfl⟩ : ∃ k : Nat, r = (k : Int) := ⟨r.toNat, by simp [dotOk] at hd; omega⟩
        have hk : k < 32 := by simp [dotOk] at hd; omega
        have e3 : (k : Int) < 32 := by omega
        have e4 := arr_get (cnt (v.take i)) hk
        have e5 : (0 : Int) ≤ (k : Int) := by omega
        have e7 := arr_set (cnt (v.take i)) hk (max (cnt (v.take i) k) q)
        simp (maxSteps := 2000000) -implicitDefEqProofs only [RS, RX, Nat.reduceLT, ↓RP0, ↓RP1, ↓RP2, ↓RP3, RV, RW, ↓reduceIte, Nat.reduceAdd, Nat.reduceSub, Nat.reduceMul, Nat.reduceLeDiff, Nat.reduceEqDiff, Int.reduceLT, Int.reduceLE, Int.reduceEq, Int.reduceNe, Int.reduceAdd, Int.reduceSub, Int.reduceMul, Int.reduceNeg, Int.reduceToNat, reduceCtorEq, ↓ask_dot1b, e1, e2, e3, e4, e5, e7, hd, vdots_len, AV.cells, Nat.mul_one, arr_len]
        refine ⟨by omega, by omega, by omega, ⟨by omega, by omega⟩, i + 1, by dsimp only; omega, by omega, ?_⟩
        rw [← step_max hd, ← hc]
        refine weak_cutS 2 (by decide) (by simp) ?_ ?_
        · simp [AObj.low, lows, AV.low, lows_arr]
        · simp [WeakL, AV.low, lows, lows_vdots]
      | false =>
        simp (maxSteps := 2000000) -implicitDefEqProofs only [RS, RX, Nat.reduceLT, ↓RP0, ↓RP1, ↓RP2, ↓RP3, RV, RW, ↓reduceIte, Nat.reduceAdd, Nat.reduceSub, Nat.reduceMul, Nat.reduceLeDiff, Nat.reduceEqDiff, Int.reduceLT, Int.reduceLE, Int.reduceEq, Int.reduceNe, Int.reduceAdd, Int.reduceSub, Int.reduceMul, Int.reduceNeg, Int.reduceToNat, reduceCtorEq, ↓ask_dot1b, e1, e2, hd, vdots_len, AV.cells]
        refine ⟨⟨by omega, by omega⟩, i + 1, by dsimp only; omega, by omega, ?_⟩
        have hc' : cnt (v.take (i + 1)) = cnt (v.take i) := by rw [hc, step_bad hd]
        rw [← hc']
        refine weak_cutS 2 (by decide) (by simp) ?_ ?_
        · simp [AObj.low, lows, AV.low, lows_arr]
        · simp [WeakL, AV.low, lows, lows_vdots]
    · obtain rfl : i = v.length := by omega
      simp (maxSteps := 2000000) -implicitDefEqProofs only [RS, RX, Nat.reduceLT, ↓RP0, ↓RP1, ↓RP2, ↓RP3, RV, RW, ↓reduceIte, Nat.reduceAdd, Nat.reduceSub, Nat.reduceMul, Nat.reduceLeDiff, Nat.reduceEqDiff, Int.reduceLT, Int.reduceLE, Int.reduceEq, Int.reduceNe, Int.reduceAdd, Int.reduceSub, Int.reduceMul, Int.reduceNeg, Int.reduceToNat, reduceCtorEq, vdots_len, Int.lt_irrefl]
      rw [List.take_length]
      refine ⟨by simp [arr], by simp [arr], by simp [arr], ?_⟩
      have h32 : (arr (cnt v)).take 32 = arr (cnt v) := List.take_of_length_le (by simp [arr])
      rw [h32, h32, arr_strip]

def c66 : ACode := (.seq (.reg false 2 [⟨(.some 1), none, (.m .box 0), [(.t 0)]⟩, ⟨(.some 2), none, (.m (.nilT 24 2) 1), []⟩]) (.seq (.reg false 1 [⟨(.some 3), none, (.m (.nilT 24 2) 0), []⟩]) (.seq (.seq (.reg false 0 [⟨(.some 6), none, (.l (.loadA 32)), [(.t 1)]⟩, ⟨(.some 7), none, (.q .mv), [(.c (.imm (.int .i64 0)))]⟩]) (.block 0 (.loop (.seq (.reg false 0 [⟨(.some 8), none, (.q (.bin .lss 3)), [(.t 7), (.c (.imm (.int .i64 32)))]⟩]) (.seq (.cond (.t 8) .skip (.exit 0)) (.seq (.block 1 (.seq (.reg false 0 [⟨(.some 9), none, (.q .mv), [(.t 7)]⟩, ⟨(.some 10), none, (.q (.idx1 32)), [(.t 6), (.t 7)]⟩, ⟨(.some 4), none, (.q .mv), [(.t 9)]⟩, ⟨(.some 5), none, (.q .mv), [(.t 10)]⟩]) (.seq (.reg false 0 [⟨(.some 11), none, (.q .mv), [(.t 5)]⟩, ⟨(.some 12), none, (.q (.bin .gtr 2)), [(.t 11), (.c (.imm (.int .i64 0)))]⟩]) (.cond (.t 12) (.reg false 1 [⟨(.some 13), none, (.q .mv), [(.t 3)]⟩, ⟨(.some 14), none, (.q .mv), [(.t 4)]⟩, ⟨(.some 15), none, (.q .mv), [(.t 5)]⟩, ⟨(.some 16), none, (.q (.build [(.imm (.int .i64 0)), (.imm (.int .i64 0))] [(0, 1), (1, 1)])), [(.t 14), (.t 15)]⟩, ⟨(.some 17), none, (.m (.bsliceO 24 2) 0), [(.t 16)]⟩, ⟨(.some 18), none, (.e (.append 24 2 16)), [(.t 13), (.t 17)]⟩, ⟨(.some 3), none, (.q .mv), [(.t 18)]⟩]) .skip)))) (.reg false 0 [⟨(.some 19), none, (.q (.bin .add 3)), [(.t 7), (.c (.imm (.int .i64 1)))]⟩, ⟨(.some 7), none, (.q .mv), [(.t 19)]⟩]))))))) (.seq (.reg false 0 [⟨(.some 20), none, (.q .mv), [(.t 3)]⟩, ⟨(.some 2), none, (.q .mv), [(.t 20)]⟩]) .ret))))
theorem fn66 : IsFn Tryz.prog 66 (List.range 200) c66 [2] 21 := ⟨_, _, Tryz.func66, rfl, by decide +kernel, by kernel_rfl, rfl, rfl⟩
set_option maxHeartbeats 2000000 in
theorem p66 (f : Nat → Int) : Pure Tryz.prog G 66 [.agg (arr f)] (vecV (ofP f)) := by
  refine pure_of_code' (S := sp [] []) hm hG (sp_holds .nil .nil) fn66 (St 8 21 [.agg (arr f), .junk, .junk, .junk, .junk, .junk, .junk, .junk] []) (by kernel_rfl) (by simp [lows, AV.low, lows_arr]) (by simp [AV.low, lows_vdots]) ?_
  simp (maxSteps := 2000000) -implicitDefEqProofs only [c66, RS, RX, Nat.reduceLT, ↓RP0, ↓RP1, ↓RP2, ↓RP3, RV, RW, ↓reduceIte, Nat.reduceAdd, Nat.reduceSub, Nat.reduceMul, Nat.reduceLeDiff, Nat.reduceEqDiff, Int.reduceLT, Int.reduceLE, Int.reduceEq, Int.reduceNe, Int.reduceAdd, Int.reduceSub, Int.reduceMul, Int.reduceNeg, Int.reduceToNat, reduceCtorEq, arr_len, arr_take]
  refine loopB (st := fun (i : Nat) => (St 8 21 [.agg (arr f), .ptr 0 0, .sl 2 [] (some 1), .sl 2 (vdots (ofTo f i)) (some 2), .junk, .junk, .agg (arr f), i64 i] [])) (hp := fun i => [.box (arr f), .tok 24 2 0, .tok 24 2 (ofTo f i).length]) (I := fun i => i ≤ 32) (m := fun i => 32 - i) (0 : Nat) (by decide) ?_ ?_
  · refine weak_sameS (by simp) ?_ ?_
    · simp [AObj.low, lows, AV.low, lows_arr]
    · simp [WeakL, AV.low, lows, lows_arr, vdots, ofTo]
  · intro i hi
    have hlen := ofTo_len f i
    by_cases hlt : i < 32
    · have e3 : (i : Int) < 32 := by omega
      have e4 := arr_get f hlt
      have e5 : (0 : Int) ≤ (i : Int) := by omega
      by_cases hp : 0 < f i
      · have e6 : (0 < f i) = True := eq_true hp
        simp (maxSteps := 2000000) -implicitDefEqProofs only [RS, RX, Nat.reduceLT, ↓RP0, ↓RP1, ↓RP2, ↓RP3, RV, RW, ↓reduceIte, Nat.reduceAdd, Nat.reduceSub, Nat.reduceMul, Nat.reduceLeDiff, Nat.reduceEqDiff, Int.reduceLT, Int.reduceLE, Int.reduceEq, Int.reduceNe, Int.reduceAdd, Int.reduceSub, Int.reduceMul, Int.reduceNeg, Int.reduceToNat, reduceCtorEq, e3, e4, e5, e6, arr_len, Nat.mul_one, AV.cells, vdots_len]
        refine ⟨by omega, by simp [AV.isVal], .inl trivial, .inl trivial, by omega, by omega, ⟨by omega, by omega⟩, i + 1, by dsimp only; omega, by omega, ?_⟩
        have h9 : ofTo f (i + 1) = ofTo f i ++ [((i : Int), f i)] := by rw [ofTo, if_pos hp]
        have h10 : vdots (ofTo f i) ++ [dotV i (f i)] = vdots (ofTo f (i + 1)) := by rw [h9]; simp [vdots]
        have h11 : (ofTo f (i + 1)).length = (ofTo f i).length + 1 := by rw [h9]; simp
        rw [h10, ← h11]
        refine weak_cutS 3 (by decide) (by simp) ?_ ?_
        · simp [AObj.low, lows, AV.low, lows_arr]
        · simp [WeakL, AV.low, lows, lows_arr, lows_vdots]
      · have e6 : (0 < f i) = False := eq_false hp
        simp (maxSteps := 2000000) -implicitDefEqProofs only [RS, RX, Nat.reduceLT, ↓RP0, ↓RP1, ↓RP2, ↓RP3, RV, RW, ↓reduceIte, Nat.reduceAdd, Nat.reduceSub, Nat.reduceMul, Nat.reduceLeDiff, Nat.reduceEqDiff, Int.reduceLT, Int.reduceLE, Int.reduceEq, Int.reduceNe, Int.reduceAdd, Int.reduceSub, Int.reduceMul, Int.reduceNeg, Int.reduceToNat, reduceCtorEq, e3, e4, e5, e6, arr_len, Nat.mul_one, AV.cells, vdots_len]
        refine ⟨by omega, ⟨by omega, by omega⟩, i + 1, by dsimp only; omega, by omega, ?_⟩
        have h9 : ofTo f (i + 1) = ofTo f i := by rw [ofTo, if_neg hp]
        rw [← h9]
        refine weak_sameS (by simp) ?_ ?_
        · simp [AObj.low, lows, AV.low, lows_arr]
        · simp [WeakL, AV.low, lows, lows_arr, lows_vdots]
    · obtain rfl : i = 32 := by omega
      simp (maxSteps := 2000000) -implicitDefEqProofs only [RS, RX, Nat.reduceLT, ↓RP0, ↓RP1, ↓RP2, ↓RP3, RV, RW, ↓reduceIte, Nat.reduceAdd, Nat.reduceSub, Nat.reduceMul, Nat.reduceLeDiff, Nat.reduceEqDiff, Int.reduceLT, Int.reduceLE, Int.reduceEq, Int.reduceNe, Int.reduceAdd, Int.reduceSub, Int.reduceMul, Int.reduceNeg, Int.reduceToNat, reduceCtorEq, Int.lt_irrefl, vdots_len]
      exact ⟨fun h => absurd h (by omega), fun _ => rfl⟩

def c64 : ACode := (.seq (.reg false 0 [⟨(.some 4), none, (.q .mv), [(.c (.imm (.bool false)))]⟩]) (.seq (.seq (.reg false 0 [⟨(.some 6), none, (.q .mv), [(.t 0)]⟩, ⟨(.some 7), none, (.q .lenL), [(.t 6)]⟩, ⟨(.some 8), none, (.q .mv), [(.t 1)]⟩, ⟨(.some 9), none, (.q .lenL), [(.t 8)]⟩, ⟨(.some 10), none, (.q (.bin .neq 3)), [(.t 7), (.t 9)]⟩]) (.cond (.t 10) (.seq (.reg false 0 [⟨(.some 4), none, (.q .mv), [(.c (.imm (.bool false)))]⟩]) .ret) .skip)) (.seq (.seq (.reg false 0 [⟨(.some 11), none, (.q .mv), [(.t 0)]⟩, ⟨(.some 12), none, (.q .lenL), [(.t 11)]⟩, ⟨(.some 13), none, (.q .mv), [(.c (.imm (.int .i64 0)))]⟩]) (.block 0 (.loop (.seq (.reg false 0 [⟨(.some 14), none, (.q (.bin .lss 3)), [(.t 13), (.t 12)]⟩]) (.seq (.cond (.t 14) .skip (.exit 0)) (.seq (.block 1 (.seq (.reg false 0 [⟨(.some 15), none, (.q .mv), [(.t 13)]⟩, ⟨(.some 5), none, (.q .mv), [(.t 15)]⟩]) (.seq (.reg true 0 [⟨(.some 16), none, (.q .mv), [(.t 0)]⟩, ⟨(.some 17), none, (.q .mv), [(.t 5)]⟩, ⟨(.some 18), none, (.q (.iaddrS 2)), [(.t 16), (.t 17)]⟩, ⟨(.some 19), none, (.l (.loadA 2)), [(.t 18)]⟩, ⟨(.some 20), none, (.q .mv), [(.t 1)]⟩, ⟨(.some 21), none, (.q .mv), [(.t 5)]⟩, ⟨(.some 22), none, (.q (.iaddrS 2)), [(.t 20), (.t 21)]⟩, ⟨(.some 23), none, (.l (.loadA 2)), [(.t 22)]⟩, ⟨(.some 24), none, (.q (.eqA true 2)), [(.t 19), (.t 23)]⟩]) (.cond (.t 24) (.seq (.reg false 0 [⟨(.some 4), none, (.q .mv), [(.c (.imm (.bool false)))]⟩]) .ret) .skip)))) (.reg false 0 [⟨(.some 25), none, (.q (.bin .add 3)), [(.t 13), (.c (.imm (.int .i64 1)))]⟩, ⟨(.some 13), none, (.q .mv), [(.t 25)]⟩]))))))) (.seq (.reg false 0 [⟨(.some 4), none, (.q .mv), [(.c (.imm (.bool true)))]⟩]) .ret))))
theorem fn64 : IsFn Tryz.prog 64 [] c64 [4] 26 := ⟨_, _, Tryz.func64, rfl, by decide +kernel, by kernel_rfl, rfl, rfl⟩
set_option maxHeartbeats 2000000 in
theorem p64' (a b : Vec) (ha : a.length ≤ 1099511627776) : Pure Tryz.prog G 64 [vecV a, vecV b] (bool (decide (a = b))) := by
  refine pure_of_code' (S := sp [] []) hm hG (sp_holds .nil .nil) fn64 (St 14 26 [vecV a, vecV b, .junk, .junk, .junk, .junk, .junk, .junk, .junk, .junk, .junk, .junk, .junk, .junk] []) (by kernel_rfl) (by simp [lows, AV.low, lows_vdots]) (by simp [AV.low]) ?_
  simp (maxSteps := 2000000) -implicitDefEqProofs only [c64, RS, RX, Nat.reduceLT, ↓RP0, ↓RP1, ↓RP2, ↓RP3, RV, RW, ↓reduceIte, Nat.reduceAdd, Nat.reduceSub, Nat.reduceMul, Nat.reduceLeDiff, Nat.reduceEqDiff, Int.reduceLT, Int.reduceLE, Int.reduceEq, Int.reduceNe, Int.reduceAdd, Int.reduceSub, Int.reduceMul, Int.reduceNeg, Int.reduceToNat, reduceCtorEq, vdots_len]
  refine ⟨fun h => ?_, fun h => ?_⟩
  · refine loopB (st := fun (i : Nat) => (St 14 26 [vecV a, vecV b, .junk, .junk, .imm (.bool false), .junk, .junk, .junk, .junk, .junk, .junk, .junk, i64 a.length, i64 i] [])) (hp := fun _ => []) (I := fun i => i ≤ a.length ∧ a.take i = b.take i) (m := fun i => a.length - i) (0 : Nat) ⟨Nat.zero_le _, rfl⟩ ?_ ?_
    · refine weak_nilS ?_; simp [WeakL, AV.low, lows, lows_vdots]
    · rintro i ⟨hi, he⟩
      by_cases hlt : i < a.length
      · have e1 := vdots_get hlt
        have e2 := vdots_get (v := b) (i := i) (by omega)
        have e3 : (i : Int) < (a.length : Int) := by omega
        have e4 : (i : Int) < (b.length : Int) := by omega
        have t1 := getD_take (v := a) hlt
        have t2 := getD_take (v := b) (i := i) (by omega)
        generalize a.getD i (0, 0) = x at *
        generalize b.getD i (0, 0) = y at *
        simp (maxSteps := 2000000) -implicitDefEqProofs only [RS, RX, Nat.reduceLT, ↓RP0, ↓RP1, ↓RP2, ↓RP3, RV, RW, ↓reduceIte, Nat.reduceAdd, Nat.reduceSub, Nat.reduceMul, Nat.reduceLeDiff, Nat.reduceEqDiff, Int.reduceLT, Int.reduceLE, Int.reduceEq, Int.reduceNe, Int.reduceAdd, Int.reduceSub, Int.reduceMul, Int.reduceNeg, Int.reduceToNat, reduceCtorEq, ↓qB_neA2, e1, e2, e3, e4, vdots_len, AV.cells]
        refine ⟨fun hxy => ⟨⟨by omega, by omega⟩, i + 1, by dsimp only; omega, ⟨by omega, ?_⟩, ?_⟩, fun hxy => ?_⟩
        · rw [t1, t2, he]; congr 2; exact Prod.ext hxy.1 hxy.2
        · refine weak_nilS ?_; simp [WeakL, AV.low, lows, lows_vdots]
        · have : ¬ a = b := by
            intro e
            subst e
            rw [t1] at t2
            have := List.append_cancel_left t2
            simp at this
            exact hxy ⟨by rw [this], by rw [this]⟩
          simp [this]
      · obtain rfl : i = a.length := by omega
        simp (maxSteps := 2000000) -implicitDefEqProofs only [RS, RX, Nat.reduceLT, ↓RP0, ↓RP1, ↓RP2, ↓RP3, RV, RW, ↓reduceIte, Nat.reduceAdd, Nat.reduceSub, Nat.reduceMul, Nat.reduceLeDiff, Nat.reduceEqDiff, Int.reduceLT, Int.reduceLE, Int.reduceEq, Int.reduceNe, Int.reduceAdd, Int.reduceSub, Int.reduceMul, Int.reduceNeg, Int.reduceToNat, reduceCtorEq, vdots_len, Int.lt_irrefl]
        have : a = b := by
          have h2 : b.length = a.length := by omega
          rw [List.take_length, ← h2, List.take_length] at he
          exact he
        simp [this]
  · have : ¬ a = b := fun e => h (by rw [e])
    simp [this]
end Go.AL.Path

/- Vectors of the program; events. -/
set_option linter.unusedSimpArgs false
set_option linter.unusedVariables false
set_option maxRecDepth 100000
namespace Go.AL.Path
open Go Go.RowKit Go.Proofs Go.AL

def c51 : ACode := (.seq (.reg false 0 [⟨(.some 4), none, (.q .mv), [(.c (.imm (.int .i64 0)))]⟩]) (.seq (.seq (.reg false 0 [⟨(.some 5), none, (.q .mv), [(.t 1)]⟩, ⟨(.some 6), none, (.q (.bin .lss 3)), [(.t 5), (.c (.imm (.int .i64 0)))]⟩, ⟨(.some 7), none, (.q .mv), [(.t 6)]⟩, ⟨(.some 8), (.some (7, false)), (.q .mv), [(.t 1)]⟩, ⟨(.some 9), (.some (7, false)), (.q (.bin .geq 3)), [(.t 8), (.c (.imm (.int .i64 32)))]⟩, ⟨(.some 10), none, (.q .pick), [(.t 7), (.c (.imm (.bool true))), (.t 9)]⟩]) (.cond (.t 10) (.seq (.reg false 0 [⟨(.some 4), none, (.q .mv), [(.c (.imm (.int .i64 0)))]⟩]) .ret) .skip)) (.seq (.reg false 0 [⟨(.some 11), none, (.q .mv), [(.t 0)]⟩, ⟨(.some 12), none, (.call true), [(.c (.fn (.func 65) [] [])), (.t 11)]⟩, ⟨(.some 13), none, (.q .mv), [(.t 1)]⟩, ⟨(.some 14), none, (.q (.idx1 32)), [(.t 12), (.t 13)]⟩, ⟨(.some 4), none, (.q .mv), [(.t 14)]⟩]) .ret)))
theorem fn51 : IsFn Tryz.prog 51 [] c51 [4] 15 := ⟨_, _, Tryz.func51, rfl, by decide +kernel, by kernel_rfl, rfl, rfl⟩
set_option maxHeartbeats 2000000 in
theorem p51' (v : Vec) (r : Int) (hv : Small v) : Pure Tryz.prog G 51 [vecV v, i64 r] (i64 (getV v r)) := by
  refine pure_of_code' (S := sp [(65, vec1 (fun v => v.length ≤ 1099511627776) fun v => .agg (arr (cnt v)))] []) hm hG (sp_holds (.cons (told_vec1 p65) .nil) .nil) fn51 (St 6 15 [vecV v, i64 r, .junk, .junk, .junk, .junk] []) (by kernel_rfl) (by simp [lows, AV.low, lows_vdots]) (by simp [AV.low]) ?_
  simp (maxSteps := 2000000) -implicitDefEqProofs only [c51, RS, RX, Nat.reduceLT, ↓RP0, ↓RP1, ↓RP2, ↓RP3, RV, RW, ↓reduceIte, Nat.reduceAdd, Nat.reduceSub, Nat.reduceMul, Nat.reduceLeDiff, Nat.reduceEqDiff, Int.reduceLT, Int.reduceLE, Int.reduceEq, Int.reduceNe, Int.reduceAdd, Int.reduceSub, Int.reduceMul, Int.reduceNeg, Int.reduceToNat, reduceCtorEq, ↓ask_vec1, hv]
  refine ⟨fun h => ?_, fun h => ⟨fun h1 => ?_, fun h1 => ⟨by omega, by omega, ?_⟩⟩⟩
  · unfold getV; rw [if_neg (by omega)]
  · unfold getV; rw [if_neg (by omega)]
  · unfold getV; rw [if_pos (by omega), arr_get _ (show r.toNat < 32 by omega)]; rfl

def c47 : ACode := (.seq (.reg false 1 [⟨(.some 3), none, (.m .box 0), [(.t 1)]⟩, ⟨(.some 4), none, (.q .mv), [(.c (.imm (.bool false)))]⟩]) (.seq (.reg true 0 [⟨(.some 5), none, (.l (.loadA 2)), [(.t 3)]⟩, ⟨(.some 6), none, (.call true), [(.c (.fn (.func 49) [] [])), (.t 5)]⟩, ⟨(.some 7), none, (.q .mv), [(.t 6)]⟩, ⟨(.some 8), (.some (7, true)), (.q (.faddr 1)), [(.t 3)]⟩, ⟨(.some 9), (.some (7, true)), (.l .load1), [(.t 8)]⟩, ⟨(.some 10), (.some (7, true)), (.q .mv), [(.t 0)]⟩, ⟨(.some 11), (.some (7, true)), (.q (.faddr 0)), [(.t 3)]⟩, ⟨(.some 12), (.some (7, true)), (.l .load1), [(.t 11)]⟩, ⟨(.some 13), (.some (7, true)), (.call false), [(.c (.fn (.func 51) [] [])), (.t 10), (.t 12)]⟩, ⟨(.some 14), (.some (7, true)), (.q (.bin .leq 2)), [(.t 9), (.t 13)]⟩, ⟨(.some 15), none, (.q .pick), [(.t 7), (.t 14), (.c (.imm (.bool false)))]⟩, ⟨(.some 4), none, (.q .mv), [(.t 15)]⟩]) .ret))
theorem fn47 : IsFn Tryz.prog 47 [] c47 [4] 16 := ⟨_, _, Tryz.func47, rfl, by decide +kernel, by kernel_rfl, rfl, rfl⟩
set_option maxHeartbeats 2000000 in
theorem p47' (v : Vec) (r q : Int) (hv : Small v) : Pure Tryz.prog G 47 [vecV v, dotV r q] (bool (hasP v r q)) := by
  refine pure_of_code' (S := sp [(49, dot1b dotOk), (51, vecInt fun v r => i64 (getV v r))] []) hm hG (sp_holds (.cons (told_dot1b p49) (.cons (told_vecInt fun v r h => p51' v r h) .nil)) .nil) fn47 (St 6 16 [vecV v, dotV r q, .junk, .junk, .junk, .junk] []) (by kernel_rfl) (by simp [lows, AV.low, lows_vdots]) (by simp [AV.low]) ?_
  cases hd : dotOk r q with
  | true =>
    simp (maxSteps := 2000000) -implicitDefEqProofs only [c47, RS, RX, Nat.reduceLT, ↓RP0, ↓RP1, ↓RP2, ↓RP3, RV, RW, ↓reduceIte, Nat.reduceAdd, Nat.reduceSub, Nat.reduceMul, Nat.reduceLeDiff, Nat.reduceEqDiff, Int.reduceLT, Int.reduceLE, Int.reduceEq, Int.reduceNe, Int.reduceAdd, Int.reduceSub, Int.reduceMul, Int.reduceNeg, Int.reduceToNat, reduceCtorEq, ↓ask_dot1b, ↓ask_vecInt, hd]
    refine ⟨hv, fun h => ?_, fun h => ?_⟩ <;> simp [hasP, hd, h]
  | false =>
    simp (maxSteps := 2000000) -implicitDefEqProofs only [c47, RS, RX, Nat.reduceLT, ↓RP0, ↓RP1, ↓RP2, ↓RP3, RV, RW, ↓reduceIte, Nat.reduceAdd, Nat.reduceSub, Nat.reduceMul, Nat.reduceLeDiff, Nat.reduceEqDiff, Int.reduceLT, Int.reduceLE, Int.reduceEq, Int.reduceNe, Int.reduceAdd, Int.reduceSub, Int.reduceMul, Int.reduceNeg, Int.reduceToNat, reduceCtorEq, ↓ask_dot1b, ↓ask_vecInt, hd]
    simp [hasP, hd]

def c50 : ACode := (.seq (.reg false 0 [⟨(.some 2), none, (.q .mv), [(.c (.imm (.bool false)))]⟩]) (.seq (.reg false 0 [⟨(.some 3), none, (.q .mv), [(.t 0)]⟩, ⟨(.some 4), none, (.q .mv), [(.t 0)]⟩, ⟨(.some 5), none, (.call true), [(.c (.fn (.func 65) [] [])), (.t 4)]⟩, ⟨(.some 6), none, (.call true), [(.c (.fn (.func 66) [] [])), (.t 5)]⟩, ⟨(.some 7), none, (.call true), [(.c (.fn (.func 64) [] [])), (.t 3), (.t 6)]⟩, ⟨(.some 2), none, (.q .mv), [(.t 7)]⟩]) .ret))
theorem fn50 : IsFn Tryz.prog 50 [] c50 [2] 8 := ⟨_, _, Tryz.func50, rfl, by decide +kernel, by kernel_rfl, rfl, rfl⟩
theorem p50 (v : Vec) (hv : Small v) : Pure Tryz.prog G 50 [vecV v] (bool (decide (v = ofP (cnt v)))) := by
  refine pure_of_code' (S := sp [(65, vec1 (fun v => v.length ≤ 1099511627776) fun v => .agg (arr (cnt v))), (66, arr1 fun f => vecV (ofP f)), (64, vec2b fun a b => decide (a = b))] []) hm hG (sp_holds (.cons (told_vec1 p65) (.cons (told_arr1 p66) (.cons (told_vec2b fun a b h => p64' a b h) .nil))) .nil) fn50 (St 4 8 [vecV v, .junk, .junk, .junk] []) (by kernel_rfl) (by simp [lows, AV.low, lows_vdots]) (by simp [AV.low]) ?_
  simp (maxSteps := 2000000) -implicitDefEqProofs only [c50, RS, RX, Nat.reduceLT, ↓RP0, ↓RP1, ↓RP2, ↓RP3, RV, RW, ↓reduceIte, Nat.reduceAdd, Nat.reduceSub, Nat.reduceMul, Nat.reduceLeDiff, Nat.reduceEqDiff, Int.reduceLT, Int.reduceLE, Int.reduceEq, Int.reduceNe, Int.reduceAdd, Int.reduceSub, Int.reduceMul, Int.reduceNeg, Int.reduceToNat, reduceCtorEq, ↓ask_vec1, ↓ask_arr1, ask_arr1, arr_strip, arr_take, ↓ask_vec2b, hv]
  refine ⟨fun h => ?_, fun h => ?_⟩ <;> rw [h]

/-! Events: a dot, what was known, a kind, a path, a digest, a size. -/
structure Ev where
  r : Int
  q : Int
  deps : Vec
  kind : Int
  path : List UInt8
  sum : List Int
  size : Int
  deriving DecidableEq
def u8 (n : Int) : AV := .imm (.int .u8 n)
def evCells (e : Ev) : List AV := [i64 e.r, i64 e.q, vecV e.deps, i64 e.kind, T e.path] ++ e.sum.map u8 ++ [i64 e.size]
abbrev evV (e : Ev) : AV := .agg (evCells e)

theorem ev0 {e : Ev} : (evCells e)[0]? = some (i64 e.r) := rfl
theorem ev1 {e : Ev} : (evCells e)[1]? = some (i64 e.q) := rfl
theorem ev2 {e : Ev} : (evCells e)[2]? = some (vecV e.deps) := rfl
theorem ev3 {e : Ev} : (evCells e)[3]? = some (i64 e.kind) := rfl
theorem ev4 {e : Ev} : (evCells e)[4]? = some (T e.path) := rfl
theorem ev_take {e : Ev} : (evCells e).take 2 = [i64 e.r, i64 e.q] := rfl
theorem ev_len {e : Ev} (h : e.sum.length = 32) : (evCells e).length = 38 := by simp [evCells, h]
theorem ev_size {e : Ev} (h : e.sum.length = 32) : (evCells e)[37]? = some (i64 e.size) := by
  unfold evCells
  rw [List.getElem?_append_right (by simp [h])]
  simp [h]
theorem ev_sum {e : Ev} (h : e.sum.length = 32) : ((evCells e).drop 5).take 32 = e.sum.map u8 := by
  show ((e.sum.map u8) ++ [i64 e.size]).take 32 = _
  rw [List.take_append_of_le_length (by simp [h]), List.take_of_length_le (by simp [h])]
theorem u8_strip (l : List Int) : (l.map u8).map AV.strip1 = l.map u8 := by simp [u8, AV.strip1]
theorem ev_strip {e : Ev} : (evCells e).map AV.strip1 = evCells e := by
  unfold evCells
  simp [AV.strip1, u8]
theorem lows_u8 (n : Nat) (l : List Int) : lows n (l.map u8) := by
  induction l with
  | nil => trivial
  | cons a l ih => exact ⟨trivial, ih⟩
theorem lows_ev (n : Nat) (e : Ev) : lows n (evCells e) := by
  unfold evCells
  simp [lows, AV.low, lows_vdots, lows_u8]

/-- An event that may be handed on. -/
structure EvOk (e : Ev) : Prop where
  small : Small e.deps
  len : e.sum.length = 32
  path : e.path.length ≤ 1099511627

def evOf : List AV → Option Ev
  | .imm (.int .i64 r) :: .imm (.int .i64 q) :: .sl 2 xs none :: .imm (.int .i64 k) :: .imm (.string p) :: rest =>
    match dotsOf xs, (rest.take 32).mapM (fun x => match x with | .imm (.int .u8 n) => some n | _ => none), rest[32]? with
    | some v, some su, some (.imm (.int .i64 z)) => some ⟨r, q, v, k, p.data.toList, su, z⟩
    | _, _, _ => none
  | _ => none
theorem u8_mapM : ∀ l : List Int, (l.map u8).mapM (fun x => match x with | .imm (.int .u8 n) => some n | _ => none) = some l
  | [] => rfl
  | a :: l => by
    rw [List.map_cons, List.mapM_cons, u8_mapM l]; rfl
theorem evOf_cells {e : Ev} (h : e.sum.length = 32) : evOf (evCells e) = some e := by
  show (match dotsOf (vdots e.deps), ((e.sum.map u8 ++ [i64 e.size]).take 32).mapM _, (e.sum.map u8 ++ [i64 e.size])[32]? with
    | some v, some su, some (.imm (.int .i64 z)) => some (⟨e.r, e.q, v, e.kind, (B e.path).data.toList, su, z⟩ : Ev)
    | _, _, _ => none) = _
  rw [dotsOf_vdots, List.take_append_of_le_length (by simp [h]), List.take_of_length_le (by simp [h]), u8_mapM, List.getElem?_append_right (by simp [h])]
  simp [h, B_data]

def ev2b (f : Ev → Ev → Bool) : PSp := fun args K => match args with
  | [.agg xs, .agg ys] => (match evOf xs, evOf ys with | some e, some g => xs = evCells e ∧ ys = evCells g ∧ EvOk e ∧ EvOk g ∧ splitB (f e g) K | _, _ => False) | _ => False
theorem ask_ev2b {f} {e g : Ev} {K} (he : EvOk e) (hg : EvOk g) : ask (ev2b f) [evV e, evV g] K = splitB (f e g) K := by
  show (match evOf (evCells e), evOf (evCells g) with | some e', some g' => evCells e = evCells e' ∧ evCells g = evCells g' ∧ EvOk e' ∧ EvOk g' ∧ splitB (f e' g') K | _, _ => False) = _
  rw [evOf_cells he.len, evOf_cells hg.len]
  simp [he, hg]
theorem told_ev2b {F f} (h : ∀ e g, EvOk e → EvOk g → Pure Tryz.prog G F [evV e, evV g] (bool (f e g))) : Told Tryz.prog G F (ev2b f) := by
  intro args K hk
  unfold ev2b at hk
  split at hk
  · split at hk
    · obtain ⟨rfl, rfl, h1, h2, h3⟩ := hk
      exact ⟨_, h _ _ h1 h2, splitB_of h3⟩
    · exact hk.elim
  · exact hk.elim

def knows (e f : Ev) : Bool := hasP e.deps f.r f.q

def c12 : ACode := (.seq (.reg false 2 [⟨(.some 2), none, (.m .box 0), [(.t 0)]⟩, ⟨(.some 3), none, (.m .box 1), [(.t 1)]⟩, ⟨(.some 4), none, (.q .mv), [(.c (.imm (.bool false)))]⟩]) (.seq (.reg false 0 [⟨(.some 5), none, (.q (.faddr 2)), [(.t 2)]⟩, ⟨(.some 6), none, (.l .load1), [(.t 5)]⟩, ⟨(.some 7), none, (.q (.faddr 0)), [(.t 3)]⟩, ⟨(.some 8), none, (.l (.loadA 2)), [(.t 7)]⟩, ⟨(.some 9), none, (.call true), [(.c (.fn (.func 37) [] [])), (.t 6), (.t 8)]⟩, ⟨(.some 4), none, (.q .mv), [(.t 9)]⟩]) .ret))
theorem fn12 : IsFn Tryz.prog 12 [] c12 [4] 10 := ⟨_, _, Tryz.func12, rfl, by decide +kernel, by kernel_rfl, rfl, rfl⟩
set_option maxHeartbeats 2000000 in
theorem p12' (e f : Ev) (he : EvOk e) (hf : EvOk f) : Pure Tryz.prog G 12 [evV e, evV f] (bool (knows e f)) := by
  refine pure_of_code' (S := sp [(37, vecDotb hasP)] []) hm hG (sp_holds (.cons (told_vecDotb fun v r q h => p37' v r q h) .nil) .nil) fn12 (St 5 10 [evV e, evV f, .junk, .junk, .junk] []) (by kernel_rfl) (by simp [lows, AV.low, lows_ev]) (by simp [AV.low]) ?_
  have hl := ev_len hf.len
  have hs := he.small
  simp (maxSteps := 2000000) -implicitDefEqProofs only [c12, RS, RX, Nat.reduceLT, ↓RP0, ↓RP1, ↓RP2, ↓RP3, RV, RW, ↓reduceIte, Nat.reduceAdd, Nat.reduceSub, Nat.reduceMul, Nat.reduceLeDiff, Nat.reduceEqDiff, Int.reduceLT, Int.reduceLE, Int.reduceEq, Int.reduceNe, Int.reduceAdd, Int.reduceSub, Int.reduceMul, Int.reduceNeg, Int.reduceToNat, reduceCtorEq, ↓ask_vecDotb, ask_vecDotb, ev2, ev_take, hl, hs, AV.strip1]
  refine ⟨fun h => ?_, fun h => ?_⟩ <;> rw [knows, h]

def c27 : ACode := (.seq (.reg false 2 [⟨(.some 2), none, (.m .box 0), [(.t 0)]⟩, ⟨(.some 3), none, (.m .box 1), [(.t 1)]⟩, ⟨(.some 4), none, (.q .mv), [(.c (.imm (.bool false)))]⟩]) (.seq (.reg false 0 [⟨(.some 5), none, (.q (.faddr 2)), [(.t 2)]⟩, ⟨(.some 6), none, (.l .load1), [(.t 5)]⟩, ⟨(.some 7), none, (.q (.faddr 0)), [(.t 3)]⟩, ⟨(.some 8), none, (.l (.loadA 2)), [(.t 7)]⟩, ⟨(.some 9), none, (.call true), [(.c (.fn (.func 47) [] [])), (.t 6), (.t 8)]⟩, ⟨(.some 4), none, (.q .mv), [(.t 9)]⟩]) .ret))
theorem fn27 : IsFn Tryz.prog 27 [] c27 [4] 10 := ⟨_, _, Tryz.func27, rfl, by decide +kernel, by kernel_rfl, rfl, rfl⟩
set_option maxHeartbeats 2000000 in
theorem p27' (e f : Ev) (he : EvOk e) (hf : EvOk f) : Pure Tryz.prog G 27 [evV e, evV f] (bool (knows e f)) := by
  refine pure_of_code' (S := sp [(47, vecDotb hasP)] []) hm hG (sp_holds (.cons (told_vecDotb fun v r q h => p47' v r q h) .nil) .nil) fn27 (St 5 10 [evV e, evV f, .junk, .junk, .junk] []) (by kernel_rfl) (by simp [lows, AV.low, lows_ev]) (by simp [AV.low]) ?_
  have hl := ev_len hf.len
  have hs := he.small
  simp (maxSteps := 2000000) -implicitDefEqProofs only [c27, RS, RX, Nat.reduceLT, ↓RP0, ↓RP1, ↓RP2, ↓RP3, RV, RW, ↓reduceIte, Nat.reduceAdd, Nat.reduceSub, Nat.reduceMul, Nat.reduceLeDiff, Nat.reduceEqDiff, Int.reduceLT, Int.reduceLE, Int.reduceEq, Int.reduceNe, Int.reduceAdd, Int.reduceSub, Int.reduceMul, Int.reduceNeg, Int.reduceToNat, reduceCtorEq, ↓ask_vecDotb, ask_vecDotb, ev2, ev_take, hl, hs, AV.strip1]
  refine ⟨fun h => ?_, fun h => ?_⟩ <;> rw [knows, h]
end Go.AL.Path

/- Events: the same, compared, what may be. -/
set_option linter.unusedSimpArgs false
set_option linter.unusedVariables false
set_option maxRecDepth 100000
namespace Go.AL.Path
open Go Go.RowKit Go.Proofs Go.AL

theorem eqCells_u8 : ∀ (l m : List Int), l.length = m.length → eqCells (l.map u8) (m.map u8) = some (decide (l = m))
  | [], [], _ => rfl
  | a :: l, b :: m, h => by
    have ih := eqCells_u8 l m (by simpa using h)
    show (match eqCell (u8 a) (u8 b), eqCells (l.map u8) (m.map u8) with | some x, some y => some (x && y) | _, _ => none) = _
    rw [ih]
    show some ((a == b) && decide (l = m)) = _
    congr 1
    have e1 : (a == b) = decide (a = b) := rfl
    rw [e1]
    by_cases h1 : a = b <;> by_cases h2 : l = m <;> simp [h1, h2]
theorem qB_eqSum {l m : List Int} {K : AV → Prop} (hl : l.length = 32) (hm' : m.length = 32) : qB (.eqA false 32) [.agg (l.map u8), .agg (m.map u8)] K = SplitP (l = m) (K (bool true)) (K (bool false)) := by
  show ((l.map u8).length = 32 ∧ onSome (eqCells (l.map u8) (m.map u8)) fun b => K (bool (if false then !b else b))) = _
  rw [eqCells_u8 l m (by omega)]
  by_cases h : l = m
  · subst h; simp [SplitP, hl, onSome]
  · simp [SplitP, hl, h, onSome]

def sameP (e f : Ev) : Bool := decide (e = f)

def c14 : ACode := (.seq (.reg false 2 [⟨(.some 2), none, (.m .box 0), [(.t 0)]⟩, ⟨(.some 3), none, (.m .box 1), [(.t 1)]⟩, ⟨(.some 4), none, (.q .mv), [(.c (.imm (.bool false)))]⟩]) (.seq (.reg false 0 [⟨(.some 5), none, (.q (.faddr 0)), [(.t 2)]⟩, ⟨(.some 6), none, (.l (.loadA 2)), [(.t 5)]⟩, ⟨(.some 7), none, (.q (.faddr 0)), [(.t 3)]⟩, ⟨(.some 8), none, (.l (.loadA 2)), [(.t 7)]⟩, ⟨(.some 9), none, (.q (.eqA false 2)), [(.t 6), (.t 8)]⟩, ⟨(.some 10), none, (.q .mv), [(.t 9)]⟩, ⟨(.some 11), (.some (10, true)), (.q (.faddr 2)), [(.t 2)]⟩, ⟨(.some 12), (.some (10, true)), (.l .load1), [(.t 11)]⟩, ⟨(.some 13), (.some (10, true)), (.q (.faddr 2)), [(.t 3)]⟩, ⟨(.some 14), (.some (10, true)), (.l .load1), [(.t 13)]⟩, ⟨(.some 15), (.some (10, true)), (.call true), [(.c (.fn (.func 40) [] [])), (.t 12), (.t 14)]⟩, ⟨(.some 16), none, (.q .pick), [(.t 10), (.t 15), (.c (.imm (.bool false)))]⟩, ⟨(.some 17), none, (.q .mv), [(.t 16)]⟩, ⟨(.some 18), (.some (17, true)), (.q (.faddr 3)), [(.t 2)]⟩, ⟨(.some 19), (.some (17, true)), (.l .load1), [(.t 18)]⟩, ⟨(.some 20), (.some (17, true)), (.q (.faddr 3)), [(.t 3)]⟩, ⟨(.some 21), (.some (17, true)), (.l .load1), [(.t 20)]⟩, ⟨(.some 22), (.some (17, true)), (.q (.bin .eql 3)), [(.t 19), (.t 21)]⟩, ⟨(.some 23), none, (.q .pick), [(.t 17), (.t 22), (.c (.imm (.bool false)))]⟩, ⟨(.some 24), none, (.q .mv), [(.t 23)]⟩, ⟨(.some 25), (.some (24, true)), (.q (.faddr 4)), [(.t 2)]⟩, ⟨(.some 26), (.some (24, true)), (.l .load1), [(.t 25)]⟩, ⟨(.some 27), (.some (24, true)), (.q (.faddr 4)), [(.t 3)]⟩, ⟨(.some 28), (.some (24, true)), (.l .load1), [(.t 27)]⟩, ⟨(.some 29), (.some (24, true)), (.q (.bin .eql 9)), [(.t 26), (.t 28)]⟩, ⟨(.some 30), none, (.q .pick), [(.t 24), (.t 29), (.c (.imm (.bool false)))]⟩, ⟨(.some 31), none, (.q .mv), [(.t 30)]⟩, ⟨(.some 32), (.some (31, true)), (.q (.faddr 5)), [(.t 2)]⟩, ⟨(.some 33), (.some (31, true)), (.l (.loadA 32)), [(.t 32)]⟩, ⟨(.some 34), (.some (31, true)), (.q (.faddr 5)), [(.t 3)]⟩, ⟨(.some 35), (.some (31, true)), (.l (.loadA 32)), [(.t 34)]⟩, ⟨(.some 36), (.some (31, true)), (.q (.eqA false 32)), [(.t 33), (.t 35)]⟩, ⟨(.some 37), none, (.q .pick), [(.t 31), (.t 36), (.c (.imm (.bool false)))]⟩, ⟨(.some 38), none, (.q .mv), [(.t 37)]⟩, ⟨(.some 39), (.some (38, true)), (.q (.faddr 37)), [(.t 2)]⟩, ⟨(.some 40), (.some (38, true)), (.l .load1), [(.t 39)]⟩, ⟨(.some 41), (.some (38, true)), (.q (.faddr 37)), [(.t 3)]⟩, ⟨(.some 42), (.some (38, true)), (.l .load1), [(.t 41)]⟩, ⟨(.some 43), (.some (38, true)), (.q (.bin .eql 3)), [(.t 40), (.t 42)]⟩, ⟨(.some 44), none, (.q .pick), [(.t 38), (.t 43), (.c (.imm (.bool false)))]⟩, ⟨(.some 4), none, (.q .mv), [(.t 44)]⟩]) .ret))
theorem fn14 : IsFn Tryz.prog 14 [] c14 [4] 45 := ⟨_, _, Tryz.func14, rfl, by decide +kernel, by kernel_rfl, rfl, rfl⟩
set_option maxHeartbeats 4000000 in
theorem p14' (e f : Ev) (he : EvOk e) (hf : EvOk f) : Pure Tryz.prog G 14 [evV e, evV f] (bool (sameP e f)) := by
  refine pure_of_code' (S := sp [(40, vec2b fun a b => decide (a = b))] []) hm hG (sp_holds (.cons (told_vec2b fun a b h => p40 a b h) .nil) .nil) fn14 (St 5 45 [evV e, evV f, .junk, .junk, .junk] []) (by kernel_rfl) (by simp [lows, AV.low, lows_ev]) (by simp [AV.low]) ?_
  have hl := ev_len hf.len
  have hl' := ev_len he.len
  have hs := he.small
  have z1 := ev_size he.len
  have z2 := ev_size hf.len
  have s1 := ev_sum he.len
  have s2 := ev_sum hf.len
  have q1 : ∀ K, qB (.eqA false 32) [.agg (e.sum.map u8), .agg (f.sum.map u8)] K = SplitP (e.sum = f.sum) (K (bool true)) (K (bool false)) := fun K => qB_eqSum he.len hf.len
  by_cases h : e = f
  · subst h
    simp (maxSteps := 2000000) -implicitDefEqProofs only [c14, RS, RX, Nat.reduceLT, ↓RP0, ↓RP1, ↓RP2, ↓RP3, RV, RW, ↓reduceIte, Nat.reduceAdd, Nat.reduceSub, Nat.reduceMul, Nat.reduceLeDiff, Nat.reduceEqDiff, Int.reduceLT, Int.reduceLE, Int.reduceEq, Int.reduceNe, Int.reduceAdd, Int.reduceSub, Int.reduceMul, Int.reduceNeg, Int.reduceToNat, reduceCtorEq, ↓ask_vec2b, ask_vec2b, ↓qB_eqA2, qB_eqA2, q1, ev2, ev3, ev4, ev_take, z1, s1, hl, hs, AV.strip1]
    simp [sameP]
  · have : sameP e f = false := decide_eq_false h
    simp (maxSteps := 2000000) -implicitDefEqProofs only [c14, RS, RX, Nat.reduceLT, ↓RP0, ↓RP1, ↓RP2, ↓RP3, RV, RW, ↓reduceIte, Nat.reduceAdd, Nat.reduceSub, Nat.reduceMul, Nat.reduceLeDiff, Nat.reduceEqDiff, Int.reduceLT, Int.reduceLE, Int.reduceEq, Int.reduceNe, Int.reduceAdd, Int.reduceSub, Int.reduceMul, Int.reduceNeg, Int.reduceToNat, reduceCtorEq, ↓ask_vec2b, ask_vec2b, ↓qB_eqA2, qB_eqA2, q1, ev2, ev3, ev4, ev_take, z1, z2, s1, s2, hl, hl', hs, this, AV.strip1]
    intro h1 h2 h3 h4 h5 h6
    exact absurd (by cases e; cases f; simp_all) h

theorem binB_slss {l m : List UInt8} {K : AV → Prop} {t : TypeId} : binB .lss t (T l) (T m) K = SplitP (Op.bytesLess l m = true) (K (bool true)) (K (bool false)) := by
  have : binB .lss t (T l) (T m) K = K (bool (Op.bytesLess l m)) := by simp [binB, binsem, binStr, toList_B]
  rw [this]
  cases Op.bytesLess l m <;> simp [SplitP]
theorem binB_sgtr {l m : List UInt8} {K : AV → Prop} {t : TypeId} : binB .gtr t (T l) (T m) K = SplitP ((Op.bytesLess l m || l == m) = true) (K (bool false)) (K (bool true)) := by
  have : binB .gtr t (T l) (T m) K = K (bool !(Op.bytesLess l m || l == m)) := by simp [binB, binsem, binStr, toList_B]
  rw [this]
  cases (Op.bytesLess l m || l == m) <;> simp [SplitP]
def cmpEv (e f : Ev) : Int := if Op.bytesLess e.path f.path = true then -1 else if e.path = f.path then cmpDot e.r e.q f.r f.q else 1

def c45 : ACode := (.seq (.reg false 2 [⟨(.some 2), none, (.m .box 0), [(.t 0)]⟩, ⟨(.some 3), none, (.m .box 1), [(.t 1)]⟩, ⟨(.some 4), none, (.q .mv), [(.c (.imm (.int .i64 0)))]⟩]) (.seq (.seq (.reg false 0 [⟨(.some 5), none, (.q (.faddr 4)), [(.t 2)]⟩, ⟨(.some 6), none, (.l .load1), [(.t 5)]⟩, ⟨(.some 7), none, (.q (.faddr 4)), [(.t 3)]⟩, ⟨(.some 8), none, (.l .load1), [(.t 7)]⟩, ⟨(.some 9), none, (.q (.bin .lss 9)), [(.t 6), (.t 8)]⟩]) (.cond (.t 9) (.seq (.reg false 0 [⟨(.some 4), none, (.q .mv), [(.c (.imm (.int .i64 (-1))))]⟩]) .ret) .skip)) (.seq (.seq (.reg false 0 [⟨(.some 10), none, (.q (.faddr 4)), [(.t 2)]⟩, ⟨(.some 11), none, (.l .load1), [(.t 10)]⟩, ⟨(.some 12), none, (.q (.faddr 4)), [(.t 3)]⟩, ⟨(.some 13), none, (.l .load1), [(.t 12)]⟩, ⟨(.some 14), none, (.q (.bin .gtr 9)), [(.t 11), (.t 13)]⟩]) (.cond (.t 14) (.seq (.reg false 0 [⟨(.some 4), none, (.q .mv), [(.c (.imm (.int .i64 1)))]⟩]) .ret) .skip)) (.seq (.reg false 0 [⟨(.some 15), none, (.q (.faddr 0)), [(.t 2)]⟩, ⟨(.some 16), none, (.l (.loadA 2)), [(.t 15)]⟩, ⟨(.some 17), none, (.q (.faddr 0)), [(.t 3)]⟩, ⟨(.some 18), none, (.l (.loadA 2)), [(.t 17)]⟩, ⟨(.some 19), none, (.call true), [(.c (.fn (.func 44) [] [])), (.t 16), (.t 18)]⟩, ⟨(.some 4), none, (.q .mv), [(.t 19)]⟩]) .ret))))
theorem fn45 : IsFn Tryz.prog 45 [] c45 [4] 20 := ⟨_, _, Tryz.func45, rfl, by decide +kernel, by kernel_rfl, rfl, rfl⟩
set_option maxHeartbeats 2000000 in
theorem p45' (e f : Ev) (he : EvOk e) (hf : EvOk f) : Pure Tryz.prog G 45 [evV e, evV f] (i64 (cmpEv e f)) := by
  refine pure_of_code' (S := sp [(44, dot2n cmpDot)] []) hm hG (sp_holds (.cons (told_dot2n p44') .nil) .nil) fn45 (St 5 20 [evV e, evV f, .junk, .junk, .junk] []) (by kernel_rfl) (by simp [lows, AV.low, lows_ev]) (by simp [AV.low]) ?_
  have hl := ev_len hf.len
  have hl' := ev_len he.len
  simp (maxSteps := 2000000) -implicitDefEqProofs only [c45, RS, RX, Nat.reduceLT, ↓RP0, ↓RP1, ↓RP2, ↓RP3, RV, RW, ↓reduceIte, Nat.reduceAdd, Nat.reduceSub, Nat.reduceMul, Nat.reduceLeDiff, Nat.reduceEqDiff, Int.reduceLT, Int.reduceLE, Int.reduceEq, Int.reduceNe, Int.reduceAdd, Int.reduceSub, Int.reduceMul, Int.reduceNeg, Int.reduceToNat, reduceCtorEq, ↓ask_dot2n, ask_dot2n, ↓binB_slss, binB_slss, ↓binB_sgtr, binB_sgtr, ev4, ev_take, hl, hl', AV.strip1]
  refine ⟨fun h => ?_, fun h => ⟨fun h1 => ?_, fun h1 => ?_⟩⟩
  · simp [cmpEv, h]
  · have : e.path = f.path := by simpa [h] using h1
    simp [cmpEv, h, this] at h ⊢
    simp [h]
  · have : ¬ e.path = f.path := by simpa [h] using h1
    simp [cmpEv, h, this]
end Go.AL.Path
