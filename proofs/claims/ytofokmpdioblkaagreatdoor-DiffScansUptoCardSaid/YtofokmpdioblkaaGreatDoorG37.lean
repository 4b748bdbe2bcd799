/- DiffScans. -/
import Derived.Test.YtofokmpdioblkaaGreatDoorG36
set_option linter.unusedSimpArgs false
set_option linter.unusedVariables false
set_option maxRecDepth 100000
namespace Go.AL.Path
open Go Go.RowKit Go.Proofs Go.AL
abbrev Both (x : List Shw × List Fil) : Prop := shwE.all x.1 ∧ filE.all x.2 ∧ x.1.length + x.2.length ≤ 1099511627
theorem both_inj (x y : List Shw × List Fil) (hx : Both x) (hy : Both y) (h : [shwsV x.1, filsV x.2] = [shwsV y.1, filsV y.2]) : x = y := by
  injection h with h1 h2
  injection h2 with h2 _
  exact Prod.ext (shwsV_inj hx.1 hy.1 h1) (fils_inj1 hx.2.1 hy.2.1 h2)
abbrev scSp (f : List Shw → List Fil → AV) : PSp := spOn (fun x : List Shw × List Fil => [shwsV x.1, filsV x.2]) Both (fun x => f x.1 x.2)
theorem told_sc10 : Told Tryz.prog G 10 (scSp scanPV) := told_spOn fun x h => p10 x.1 x.2 h.1 h.2.1 h.2.2
theorem told_sc13 : Told Tryz.prog G 13 (scSp scanV) := told_spOn fun x h => p13 x.1 x.2 h.1 h.2.1 h.2.2
theorem ask_scSp {f} {l : List Shw} {t : List Fil} (hl : shwE.all l) (ho : filE.all t) (hs : l.length + t.length ≤ 1099511627) {K} : ask (scSp f) [shwsV l, filsV t] K = K (f l t) :=
  ask_spOn (x := (l, t)) both_inj ⟨hl, ho, hs⟩ rfl
abbrev shsSp : PSp := spOn (fun l : List Shw => [shwsV l]) (fun l => shwE.all l ∧ l.length ≤ 1099511627) (fun l => shwsV l)
theorem told_real14 : Told Tryz.prog G 14 shsSp := told_spOn fun l h => p14 l h.1 h.2
theorem ask_shsSp {l : List Shw} (hl : shwE.all l) (hs : l.length ≤ 1099511627) {K} : ask shsSp [shwsV l] K = K (shwsV l) :=
  ask_spOn (fun x y hx hy h => shwsV_inj hx.1 hy.1 (by injection h)) ⟨hl, hs⟩ rfl
abbrev edsSp : PSp := spOn (fun l : List Edt => [edsV l]) (fun l => edE.all l ∧ l.length ≤ 1099511627) (fun l => edsV l)
theorem told_edits18 : Told Tryz.prog G 18 edsSp := told_spOn fun l h => p18 l h.1 h.2
theorem ask_edsSp {l : List Edt} (hl : edE.all l) (hs : l.length ≤ 1099511627) {K} : ask edsSp [edsV l] K = K (edsV l) :=
  ask_spOn (fun x y hx hy h => edsV_inj hx.1 hy.1 (by injection h)) ⟨hl, hs⟩ rfl
abbrev sameSp : PSp := nilS 3 (spOn (fun l : List Edt => [edsV l, edsV l]) (fun l => edE.all l ∧ l.length ≤ 1099511627) (fun _ => bool true))
theorem told_same17 : Told Tryz.prog G 17 sameSp := told_nilS (told_spOn fun l h => p17 l h.1 h.2)
theorem ask_sameSp {l : List Edt} (hl : edE.all l) (hs : l.length ≤ 1099511627) {K} : ask sameSp [edsV l, outE l] K = K (bool true) := by
  show ask (spOn _ _ _) [fixNil 3 (edsV l), fixNil 3 (outE l)] K = _
  have h1 : fixNil 3 (edsV l) = edsV l := by cases l <;> rfl
  rw [outE_fix, h1]
  exact ask_spOn (x := l) (fun x y hx hy h => edsV_inj hx.1 hy.1 (by injection h)) ⟨hl, hs⟩ rfl
theorem told_find15 : Told Tryz.prog G 15 findSp := told_spOn fun x h => p15c x.1 x.2 h.1 h.2.1
theorem scanR_all {l : List Shw} {t : List Fil} (hl : shwE.all l) (ho : filE.all t) : edE.all (scanR l t) := by rw [← scan2_fin]; exact scan2_all hl ho _
theorem scanR_len (l : List Shw) (t : List Fil) : (scanR l t).length ≤ l.length + t.length := by rw [← scan2_fin]; exact scan2_len _ _ _
theorem scanPV_eq (l : List Shw) (t : List Fil) : scanPV l t = if mayR t = true then .tup [edsV (scanR l t), i64 0] else .tup [.sl 3 [] none, i64 9] := by
  unfold scanPV
  rw [may_eq]
  split
  · rename_i h; rw [scan_eq l (ris_of_may h)]
  · rfl
def c4 : ACode := (.seq (.reg false 0 [⟨(.some 6), none, (.q .mv), [(.c (.imm (.bool false)))]⟩]) (.seq (.reg false 0 [⟨(.some 16), none, (.call true), [(.c (.fn (.func 7) [] []))]⟩, ⟨(.some 7), none, (.q .mv), [(.t 16)]⟩]) (.seq (.seq (.reg false 0 [⟨(.some 17), none, (.q .mv), [(.t 0)]⟩, ⟨(.some 18), none, (.q .lenL), [(.t 17)]⟩, ⟨(.some 19), none, (.q (.bin .gtr 3)), [(.t 18), (.c (.imm (.int .i64 40)))]⟩, ⟨(.some 20), none, (.q .mv), [(.t 19)]⟩, ⟨(.some 21), (.some (20, false)), (.q .mv), [(.t 1)]⟩, ⟨(.some 22), (.some (20, false)), (.call true), [(.c (.fn (.func 8) [] [])), (.t 21)]⟩, ⟨(.some 23), (.some (20, false)), (.q (.un .not)), [(.t 22)]⟩, ⟨(.some 24), none, (.q .pick), [(.t 20), (.c (.imm (.bool true))), (.t 23)]⟩]) (.cond (.t 24) (.seq (.reg false 0 [⟨(.some 25), none, (.q .mv), [(.t 7)]⟩, ⟨(.some 6), none, (.q .mv), [(.t 25)]⟩]) .ret) .skip)) (.seq (.reg false 0 [⟨(.some 27), none, (.q .mv), [(.t 0)]⟩, ⟨(.some 28), none, (.q .mv), [(.t 1)]⟩, ⟨(.some 29), none, (.call true), [(.c (.fn (.func 10) [] [])), (.t 27), (.t 28)]⟩, ⟨(.some 26), none, (.q .mv), [(.t 29)]⟩, ⟨(.some 30), none, (.q (.ext 0)), [(.t 26)]⟩, ⟨(.some 31), none, (.q (.ext 1)), [(.t 26)]⟩, ⟨(.some 8), none, (.q .mv), [(.t 30)]⟩, ⟨(.some 9), none, (.q .mv), [(.t 31)]⟩]) (.seq (.reg false 0 [⟨(.some 33), none, (.q .mv), [(.t 0)]⟩, ⟨(.some 34), none, (.call true), [(.c (.fn (.func 14) [] [])), (.t 33)]⟩, ⟨(.some 35), none, (.q .mv), [(.t 1)]⟩, ⟨(.some 36), none, (.call true), [(.c (.fn (.func 13) [] [])), (.t 34), (.t 35)]⟩, ⟨(.some 32), none, (.q .mv), [(.t 36)]⟩, ⟨(.some 37), none, (.q (.ext 0)), [(.t 32)]⟩, ⟨(.some 38), none, (.q (.ext 1)), [(.t 32)]⟩, ⟨(.some 10), none, (.q .mv), [(.t 37)]⟩, ⟨(.some 11), none, (.q .mv), [(.t 38)]⟩]) (.seq (.reg false 0 [⟨(.some 40), none, (.q .mv), [(.t 1)]⟩, ⟨(.some 41), none, (.q .mv), [(.t 2)]⟩, ⟨(.some 42), none, (.call true), [(.c (.fn (.func 15) [] [])), (.t 40), (.t 41)]⟩, ⟨(.some 39), none, (.q .mv), [(.t 42)]⟩, ⟨(.some 43), none, (.q (.ext 0)), [(.t 39)]⟩, ⟨(.some 44), none, (.q (.ext 1)), [(.t 39)]⟩, ⟨(.some 12), none, (.q .mv), [(.t 43)]⟩, ⟨(.some 13), none, (.q .mv), [(.t 44)]⟩]) (.seq (.reg false 0 [⟨(.some 46), none, (.q .mv), [(.t 1)]⟩, ⟨(.some 47), none, (.q .mv), [(.t 2)]⟩, ⟨(.some 48), none, (.call true), [(.c (.fn (.func 16) [] [])), (.t 46), (.t 47)]⟩, ⟨(.some 45), none, (.q .mv), [(.t 48)]⟩, ⟨(.some 49), none, (.q (.ext 0)), [(.t 45)]⟩, ⟨(.some 50), none, (.q (.ext 1)), [(.t 45)]⟩, ⟨(.some 14), none, (.q .mv), [(.t 49)]⟩, ⟨(.some 15), none, (.q .mv), [(.t 50)]⟩]) (.seq (.reg false 0 [⟨(.some 51), none, (.q .mv), [(.t 7)]⟩, ⟨(.some 52), none, (.q .mv), [(.t 51)]⟩, ⟨(.some 53), (.some (52, true)), (.q .mv), [(.t 8)]⟩, ⟨(.some 54), (.some (52, true)), (.call true), [(.c (.fn (.func 18) [] [])), (.t 53)]⟩, ⟨(.some 55), (.some (52, true)), (.q .mv), [(.t 10)]⟩, ⟨(.some 56), (.some (52, true)), (.call true), [(.c (.fn (.func 17) [] [])), (.t 54), (.t 55)]⟩, ⟨(.some 57), none, (.q .pick), [(.t 52), (.t 56), (.c (.imm (.bool false)))]⟩, ⟨(.some 58), none, (.q .mv), [(.t 57)]⟩, ⟨(.some 59), (.some (58, true)), (.q .mv), [(.t 9)]⟩, ⟨(.some 60), (.some (58, true)), (.q .mv), [(.t 11)]⟩, ⟨(.some 61), (.some (58, true)), (.q (.bin .eql 3)), [(.t 59), (.t 60)]⟩, ⟨(.some 62), none, (.q .pick), [(.t 58), (.t 61), (.c (.imm (.bool false)))]⟩, ⟨(.some 63), none, (.q .mv), [(.t 62)]⟩, ⟨(.some 64), (.some (63, true)), (.q .mv), [(.t 1)]⟩, ⟨(.some 65), (.some (63, true)), (.call true), [(.c (.fn (.func 19) [] [])), (.t 64)]⟩, ⟨(.some 66), (.some (63, true)), (.q .mv), [(.t 1)]⟩, ⟨(.some 67), (.some (63, true)), (.call true), [(.c (.fn (.func 20) [] [])), (.t 66)]⟩, ⟨(.some 68), (.some (63, true)), (.q (.eqBoo false)), [(.t 65), (.t 67)]⟩, ⟨(.some 69), none, (.q .pick), [(.t 63), (.t 68), (.c (.imm (.bool false)))]⟩, ⟨(.some 70), none, (.q .mv), [(.t 69)]⟩, ⟨(.some 71), (.some (70, true)), (.q .mv), [(.t 12)]⟩, ⟨(.some 72), (.some (70, true)), (.q .toStr), [(.t 71)]⟩, ⟨(.some 73), (.some (70, true)), (.q .mv), [(.t 14)]⟩, ⟨(.some 74), (.some (70, true)), (.q .toStr), [(.t 73)]⟩, ⟨(.some 75), (.some (70, true)), (.q (.bin .eql 9)), [(.t 72), (.t 74)]⟩, ⟨(.some 76), none, (.q .pick), [(.t 70), (.t 75), (.c (.imm (.bool false)))]⟩, ⟨(.some 77), none, (.q .mv), [(.t 76)]⟩, ⟨(.some 78), (.some (77, true)), (.q .mv), [(.t 13)]⟩, ⟨(.some 79), (.some (77, true)), (.q .mv), [(.t 15)]⟩, ⟨(.some 80), (.some (77, true)), (.q (.eqBoo false)), [(.t 78), (.t 79)]⟩, ⟨(.some 81), none, (.q .pick), [(.t 77), (.t 80), (.c (.imm (.bool false)))]⟩, ⟨(.some 6), none, (.q .mv), [(.t 81)]⟩]) .ret))))))))
theorem fn4 : IsFn Tryz.prog 4 [] c4 [6] 82 := ⟨_, _, Tryz.func4, rfl, by decide +kernel, by kernel_rfl, rfl, rfl⟩
set_option maxHeartbeats 8000000 in
theorem p4 (l : List Shw) (t : List Fil) (p : List UInt8) (hl : shwE.all l) (ho : filE.all t) (hs : l.length + t.length ≤ 1099511627) (hp : p.length ≤ 1099511627) : Pure Tryz.prog G 4 [shwsV l, filsV t, T p] (bool true) := by
  refine pure_of_code' (S := sp [(7, none0 (bool true)), (8, fil1b smallF), (10, scSp scanPV), (14, shsSp), (13, scSp scanV), (15, findSp), (16, findSp), (18, edsSp), (17, sameSp), (19, fil1b mayP2), (20, fil1b mayR)] []) hm hG
    (sp_holds (.cons (told_none0 p7s) (.cons told_small (.cons told_sc10 (.cons told_real14 (.cons told_sc13 (.cons told_find15 (.cons told_find16 (.cons told_edits18 (.cons told_same17 (.cons (told_spOnB fun l h => p19c l h.1 h.2) (.cons (told_spOnB fun l h => p20c l h.1 h.2) .nil))))))))))) .nil) fn4 (St 16 82 [shwsV l, filsV t, T p, .junk, .junk, .junk, .junk, .junk, .junk, .junk, .junk, .junk, .junk, .junk, .junk, .junk] []) (by kernel_rfl) ⟨⟨lows_shws 0 l, fun k hk => by cases hk⟩, ⟨lows_fils 0 t, fun k hk => by cases hk⟩, trivial, trivial⟩ (by simp [AV.low]) ?_
  have fo : Fils 1099511627 t := ⟨ho, by omega⟩
  have q8 : ∀ K, ask (fil1b smallF) [filsV t] K = splitB (smallF t) K := fun K => ask_fil1b fo
  by_cases h40 : 40 < l.length
  · have c1 : ((40 : Int) < (l.length : Int)) = True := eq_true (by omega)
    simp (maxSteps := 2000000) -implicitDefEqProofs only [c4, RS, RX, Nat.reduceLT, ↓RP0, ↓RP1, ↓RP2, ↓RP3, RV, RW, ↓reduceIte, Nat.reduceAdd, Nat.reduceSub, Nat.reduceMul, Nat.reduceLeDiff, Nat.reduceEqDiff, Int.reduceLT, Int.reduceLE, Int.reduceEq, Int.reduceNe, Int.reduceAdd, Int.reduceSub, Int.reduceMul, Int.reduceNeg, Int.reduceToNat, reduceCtorEq, c1, shws_len]
  have c1 : ((40 : Int) < (l.length : Int)) = False := eq_false (by omega)
  cases hb : smallF t with
  | false => simp (maxSteps := 2000000) -implicitDefEqProofs only [c4, RS, RX, Nat.reduceLT, ↓RP0, ↓RP1, ↓RP2, ↓RP3, RV, RW, ↓reduceIte, Nat.reduceAdd, Nat.reduceSub, Nat.reduceMul, Nat.reduceLeDiff, Nat.reduceEqDiff, Int.reduceLT, Int.reduceLE, Int.reduceEq, Int.reduceNe, Int.reduceAdd, Int.reduceSub, Int.reduceMul, Int.reduceNeg, Int.reduceToNat, reduceCtorEq, c1, ↓q8, q8, hb, shws_len]
  | true =>
    have q10 : ∀ K, ask (scSp scanPV) [shwsV l, filsV t] K = K (scanPV l t) := fun K => ask_scSp hl ho hs
    have q13 : ∀ K, ask (scSp scanV) [shwsV l, filsV t] K = K (scanV l t) := fun K => ask_scSp hl ho hs
    have q14 : ∀ K, ask shsSp [shwsV l] K = K (shwsV l) := fun K => ask_shsSp hl (by omega)
    have q15 : ∀ K, ask findSp [filsV t, T p] K = K (foundV t p) := fun K => ask_findSp ho (by omega) hp
    have ra := scanR_all hl ho
    have rl := scanR_len l t
    rw [scanPV_eq] at q10
    have v13 : scanV l t = if mayR t = true then .tup [outE (scanR l t), i64 0] else .tup [.sl 0 [] none, i64 9] := rfl
    rw [v13] at q13
    cases hmay : mayR t with
    | true =>
      have q19 : ∀ K, ask (fil1b mayP2) [filsV t] K = K (bool true) := fun K => (ask_fil1b (f := mayP2) (K := K) fo).trans (by rw [may_eq, hmay]; simp [splitB_eq, SplitP])
      have q20 : ∀ K, ask (fil1b mayR) [filsV t] K = K (bool true) := fun K => (ask_fil1b (f := mayR) (K := K) fo).trans (by rw [hmay]; simp [splitB_eq, SplitP])
      rw [if_pos hmay] at q10 q13
      generalize scanR l t = R at *
      have q18 : ∀ K, ask edsSp [edsV R] K = K (edsV R) := fun K => ask_edsSp ra (by omega)
      have q17 : ∀ K, ask sameSp [edsV R, outE R] K = K (bool true) := fun K => ask_sameSp ra (by omega)
      cases hf : findF t p with
      | none =>
        have hv : foundV t p = .tup [.sl 0 [] none, bool false] := by unfold foundV; rw [hf]
        rw [hv] at q15
        simp (maxSteps := 2000000) -implicitDefEqProofs only [c4, RS, RX, Nat.reduceLT, ↓RP0, ↓RP1, ↓RP2, ↓RP3, RV, RW, ↓reduceIte, Nat.reduceAdd, Nat.reduceSub, Nat.reduceMul, Nat.reduceLeDiff, Nat.reduceEqDiff, Int.reduceLT, Int.reduceLE, Int.reduceEq, Int.reduceNe, Int.reduceAdd, Int.reduceSub, Int.reduceMul, Int.reduceNeg, Int.reduceToNat, reduceCtorEq, c1, ↓q8, q8, hb, shws_len, ↓q10, q10, ↓q13, q13, ↓q14, q14, ↓q15, q15, ↓q18, q18, ↓q17, q17, ↓q19, q19, ↓q20, q20, outE_strip, bytesOf_map, bytesOf_nil]
      | some f =>
        have hv : foundV t p = .tup [bytesV f.data, bool true] := by unfold foundV; rw [hf]
        rw [hv] at q15
        simp (maxSteps := 2000000) -implicitDefEqProofs only [c4, RS, RX, Nat.reduceLT, ↓RP0, ↓RP1, ↓RP2, ↓RP3, RV, RW, ↓reduceIte, Nat.reduceAdd, Nat.reduceSub, Nat.reduceMul, Nat.reduceLeDiff, Nat.reduceEqDiff, Int.reduceLT, Int.reduceLE, Int.reduceEq, Int.reduceNe, Int.reduceAdd, Int.reduceSub, Int.reduceMul, Int.reduceNeg, Int.reduceToNat, reduceCtorEq, c1, ↓q8, q8, hb, shws_len, ↓q10, q10, ↓q13, q13, ↓q14, q14, ↓q15, q15, ↓q18, q18, ↓q17, q17, ↓q19, q19, ↓q20, q20, outE_strip, bytesOf_map, bytesOf_nil]
    | false =>
      have q19 : ∀ K, ask (fil1b mayP2) [filsV t] K = K (bool false) := fun K => (ask_fil1b (f := mayP2) (K := K) fo).trans (by rw [may_eq, hmay]; simp [splitB_eq, SplitP])
      have q20 : ∀ K, ask (fil1b mayR) [filsV t] K = K (bool false) := fun K => (ask_fil1b (f := mayR) (K := K) fo).trans (by rw [hmay]; simp [splitB_eq, SplitP])
      rw [if_neg (by rw [hmay]; decide)] at q10 q13
      have q18 : ∀ K, ask edsSp [.sl 3 [] none] K = K (.sl 3 [] none) := fun K => ask_edsSp (l := []) (fun x hx => by cases hx) (by decide)
      have q17 : ∀ K, ask sameSp [.sl 3 [] none, .sl 0 [] none] K = K (bool true) := fun K => ask_sameSp (l := []) (fun x hx => by cases hx) (by decide)
      cases hf : findF t p with
      | none =>
        have hv : foundV t p = .tup [.sl 0 [] none, bool false] := by unfold foundV; rw [hf]
        rw [hv] at q15
        simp (maxSteps := 2000000) -implicitDefEqProofs only [c4, RS, RX, Nat.reduceLT, ↓RP0, ↓RP1, ↓RP2, ↓RP3, RV, RW, ↓reduceIte, Nat.reduceAdd, Nat.reduceSub, Nat.reduceMul, Nat.reduceLeDiff, Nat.reduceEqDiff, Int.reduceLT, Int.reduceLE, Int.reduceEq, Int.reduceNe, Int.reduceAdd, Int.reduceSub, Int.reduceMul, Int.reduceNeg, Int.reduceToNat, reduceCtorEq, c1, ↓q8, q8, hb, shws_len, ↓q10, q10, ↓q13, q13, ↓q14, q14, ↓q15, q15, ↓q18, q18, ↓q17, q17, ↓q19, q19, ↓q20, q20, outE_strip, bytesOf_map, bytesOf_nil]
      | some f =>
        have hv : foundV t p = .tup [bytesV f.data, bool true] := by unfold foundV; rw [hf]
        rw [hv] at q15
        simp (maxSteps := 2000000) -implicitDefEqProofs only [c4, RS, RX, Nat.reduceLT, ↓RP0, ↓RP1, ↓RP2, ↓RP3, RV, RW, ↓reduceIte, Nat.reduceAdd, Nat.reduceSub, Nat.reduceMul, Nat.reduceLeDiff, Nat.reduceEqDiff, Int.reduceLT, Int.reduceLE, Int.reduceEq, Int.reduceNe, Int.reduceAdd, Int.reduceSub, Int.reduceMul, Int.reduceNeg, Int.reduceToNat, reduceCtorEq, c1, ↓q8, q8, hb, shws_len, ↓q10, q10, ↓q13, q13, ↓q14, q14, ↓q15, q15, ↓q18, q18, ↓q17, q17, ↓q19, q19, ↓q20, q20, outE_strip, bytesOf_map, bytesOf_nil]
end Go.AL.Path
