/- small; seq; shuffled. -/
import Derived.Test.YtcppnhnomemphaaGreatDoorG32
set_option linter.unusedSimpArgs false
set_option linter.unusedVariables false
set_option maxRecDepth 100000
namespace Go.AL.Path
open Go Go.RowKit Go.Proofs Go.AL

def smallB (h : List Ev) : Bool := h.all (fun e => decide (e.deps.length ≤ 60)) && decide (h.length ≤ 60)
theorem smallB_no {h : List Ev} {i : Nat} (hi : i < h.length) (hb : 60 < (h.getD i ev0d).deps.length) : smallB h = false := by
  unfold smallB
  have : (h.all fun e => decide (e.deps.length ≤ 60)) = false := by
    rw [List.all_eq_false]
    refine ⟨h.getD i ev0d, ?_, by simpa using hb⟩
    rw [List.getD_eq_getElem?_getD, List.getElem?_eq_getElem hi]; exact List.getElem_mem hi
  rw [this]; rfl

def c9 : ACode := (.seq (.reg false 0 [⟨(.some 2), none, (.q .mv), [(.c (.imm (.bool false)))]⟩]) (.seq (.seq (.reg false 0 [⟨(.some 3), none, (.q .mv), [(.c (.imm (.int .i64 0)))]⟩]) (.block 0 (.loop (.seq (.seq (.reg false 0 [⟨(.some 4), none, (.q .mv), [(.t 3)]⟩, ⟨(.some 5), none, (.q .mv), [(.t 0)]⟩, ⟨(.some 6), none, (.q .lenL), [(.t 5)]⟩, ⟨(.some 7), none, (.q (.bin .lss 3)), [(.t 4), (.t 6)]⟩, ⟨(.some 8), none, (.q .mv), [(.t 7)]⟩, ⟨(.some 9), (.some (8, true)), (.q .mv), [(.t 3)]⟩, ⟨(.some 10), (.some (8, true)), (.q (.bin .lss 3)), [(.t 9), (.c (.imm (.int .i64 61)))]⟩, ⟨(.some 11), none, (.q .pick), [(.t 8), (.t 10), (.c (.imm (.bool false)))]⟩]) (.cond (.t 11) .skip (.exit 0))) (.seq (.block 1 (.seq (.reg false 0 [⟨(.some 14), none, (.q .mv), [(.t 0)]⟩, ⟨(.some 15), none, (.q .mv), [(.t 3)]⟩, ⟨(.some 16), none, (.q (.iaddrS 38)), [(.t 14), (.t 15)]⟩, ⟨(.some 17), none, (.q (.faddr 2)), [(.t 16)]⟩, ⟨(.some 18), none, (.l .load1), [(.t 17)]⟩, ⟨(.some 19), none, (.q .lenL), [(.t 18)]⟩, ⟨(.some 20), none, (.q (.bin .gtr 3)), [(.t 19), (.c (.imm (.int .i64 60)))]⟩]) (.cond (.t 20) (.seq (.reg false 0 [⟨(.some 2), none, (.q .mv), [(.c (.imm (.bool false)))]⟩]) .ret) .skip))) (.reg false 0 [⟨(.some 12), none, (.q .mv), [(.t 3)]⟩, ⟨(.some 13), none, (.q (.bin .add 3)), [(.t 12), (.c (.imm (.int .i64 1)))]⟩, ⟨(.some 3), none, (.q .mv), [(.t 13)]⟩])))))) (.seq (.reg false 0 [⟨(.some 21), none, (.q .mv), [(.t 0)]⟩, ⟨(.some 22), none, (.q .lenL), [(.t 21)]⟩, ⟨(.some 23), none, (.q (.bin .leq 3)), [(.t 22), (.c (.imm (.int .i64 60)))]⟩, ⟨(.some 2), none, (.q .mv), [(.t 23)]⟩]) .ret)))
theorem fn9 : IsFn Tryz.prog 9 [] c9 [2] 24 := ⟨_, _, Tryz.func9, rfl, by decide +kernel, by kernel_rfl, rfl, rfl⟩
set_option maxHeartbeats 4000000 in
theorem p9s (h : List Ev) (ho : AllOk h) (hs : h.length ≤ 1099511627) : Pure Tryz.prog G 9 [evsV h] (bool (smallB h)) := by
  refine pure_of_code' (S := sp [] []) hm hG (sp_holds .nil .nil) fn9 (St 4 24 [evsV h, .junk, .junk, .junk] []) (by kernel_rfl) (by simp [lows, AV.low, lows_evs]) (by simp [AV.low]) ?_
  simp (maxSteps := 2000000) -implicitDefEqProofs only [c9, RS, RX, Nat.reduceLT, ↓RP0, ↓RP1, ↓RP2, ↓RP3, RV, RW, ↓reduceIte, Nat.reduceAdd, Nat.reduceSub, Nat.reduceMul, Nat.reduceLeDiff, Nat.reduceEqDiff, Int.reduceLT, Int.reduceLE, Int.reduceEq, Int.reduceNe, Int.reduceAdd, Int.reduceSub, Int.reduceMul, Int.reduceNeg, Int.reduceToNat, reduceCtorEq, evs_len]
  refine loopB (st := fun (i : Nat) => (St 4 24 [evsV h, .junk, .imm (.bool false), i64 i] [])) (hp := fun i => []) (I := fun i => i ≤ h.length ∧ i ≤ 61 ∧ ((h.take i).all fun e => decide (e.deps.length ≤ 60)) = true) (m := fun i => h.length - i) (0 : Nat) ⟨Nat.zero_le _, by decide, rfl⟩ ?_ ?_
  · refine weak_nilS ?_; simp [WeakL, AV.low, lows, lows_evs]
  · rintro i ⟨hi, h61, hn⟩
    by_cases hlt : i < h.length
    · have e3 : ((i : Int) < (h.length : Int)) = True := eq_true (by omega)
      by_cases h6 : i < 61
      · have e1 := evs_get hlt
        have e4 : ((i : Int) < 61) = True := eq_true (by omega)
        have o1 := evs_ok ho i
        have hno := smallB_no hlt
        have t1 := evs_take hlt
        have hgo : (h.getD i ev0d).deps.length ≤ 60 → ((h.take (i + 1)).all fun e => decide (e.deps.length ≤ 60)) = true := fun hd => by rw [t1, List.all_append, hn]; simpa using hd
        generalize h.getD i ev0d = x at *
        have l1 := ev_len o1.len
        by_cases hd : 60 < x.deps.length
        · have hd' : ((60 : Int) < (x.deps.length : Int)) = True := eq_true (by omega)
          have hf := hno hd
          simp (maxSteps := 2000000) -implicitDefEqProofs only [RS, RX, Nat.reduceLT, ↓RP0, ↓RP1, ↓RP2, ↓RP3, RV, RW, ↓reduceIte, Nat.reduceAdd, Nat.reduceSub, Nat.reduceMul, Nat.reduceLeDiff, Nat.reduceEqDiff, Int.reduceLT, Int.reduceLE, Int.reduceEq, Int.reduceNe, Int.reduceAdd, Int.reduceSub, Int.reduceMul, Int.reduceNeg, Int.reduceToNat, reduceCtorEq, e1, e3, e4, hd', evs_len, l1, ev2, vdots_len, AV.cells]
          exact by rw [hf]
        · have hd' : ((60 : Int) < (x.deps.length : Int)) = False := eq_false (by omega)
          simp (maxSteps := 2000000) -implicitDefEqProofs only [RS, RX, Nat.reduceLT, ↓RP0, ↓RP1, ↓RP2, ↓RP3, RV, RW, ↓reduceIte, Nat.reduceAdd, Nat.reduceSub, Nat.reduceMul, Nat.reduceLeDiff, Nat.reduceEqDiff, Int.reduceLT, Int.reduceLE, Int.reduceEq, Int.reduceNe, Int.reduceAdd, Int.reduceSub, Int.reduceMul, Int.reduceNeg, Int.reduceToNat, reduceCtorEq, e1, e3, e4, hd', evs_len, l1, ev2, vdots_len, AV.cells]
          refine ⟨⟨by omega, by omega⟩, i + 1, by dsimp only; omega, ⟨by omega, by omega, hgo (by omega)⟩, ?_⟩
          refine weak_nilS ?_; simp [WeakL, AV.low, lows, lows_evs]
      · have e4 : ((i : Int) < 61) = False := eq_false (by omega)
        have e5 : ((h.length : Int) ≤ 60) = False := eq_false (by omega)
        simp (maxSteps := 2000000) -implicitDefEqProofs only [RS, RX, Nat.reduceLT, ↓RP0, ↓RP1, ↓RP2, ↓RP3, RV, RW, ↓reduceIte, Nat.reduceAdd, Nat.reduceSub, Nat.reduceMul, Nat.reduceLeDiff, Nat.reduceEqDiff, Int.reduceLT, Int.reduceLE, Int.reduceEq, Int.reduceNe, Int.reduceAdd, Int.reduceSub, Int.reduceMul, Int.reduceNeg, Int.reduceToNat, reduceCtorEq, e3, e4, e5, evs_len]
        have : ¬ h.length ≤ 60 := by omega
        simp [smallB, this]
    · obtain rfl : i = h.length := by omega
      rw [List.take_length] at hn
      simp (maxSteps := 2000000) -implicitDefEqProofs only [RS, RX, Nat.reduceLT, ↓RP0, ↓RP1, ↓RP2, ↓RP3, RV, RW, ↓reduceIte, Nat.reduceAdd, Nat.reduceSub, Nat.reduceMul, Nat.reduceLeDiff, Nat.reduceEqDiff, Int.reduceLT, Int.reduceLE, Int.reduceEq, Int.reduceNe, Int.reduceAdd, Int.reduceSub, Int.reduceMul, Int.reduceNeg, Int.reduceToNat, reduceCtorEq, evs_len, Int.lt_irrefl]
      refine ⟨fun h1 => ?_, fun h1 => ?_⟩
      · have : h.length ≤ 60 := by omega
        simp [smallB, hn, this]
      · have : ¬ h.length ≤ 60 := by omega
        simp [smallB, this]

/-- How many events of a replica a vector has: the first entry's word. -/
def seqV : Vec → Int → Int
  | [], _ => 0
  | d :: v, r => if d.1 = r then d.2 else seqV v r
theorem seqV_drop {v : Vec} {r : Int} {i : Nat} (hi : i < v.length) : seqV (v.drop i) r = if (v.getD i (0, 0)).1 = r then (v.getD i (0, 0)).2 else seqV (v.drop (i + 1)) r := by
  rw [List.drop_eq_getElem_cons hi, List.getD_eq_getElem?_getD, List.getElem?_eq_getElem hi]
  rfl

def c18 : ACode := (.seq (.reg false 0 [⟨(.some 4), none, (.q .mv), [(.c (.imm (.int .i64 0)))]⟩]) (.seq (.seq (.reg false 0 [⟨(.some 5), none, (.q .mv), [(.c (.imm (.int .i64 0)))]⟩]) (.block 0 (.loop (.seq (.seq (.reg false 0 [⟨(.some 6), none, (.q .mv), [(.t 5)]⟩, ⟨(.some 7), none, (.q .mv), [(.t 0)]⟩, ⟨(.some 8), none, (.q .lenL), [(.t 7)]⟩, ⟨(.some 9), none, (.q (.bin .lss 3)), [(.t 6), (.t 8)]⟩]) (.cond (.t 9) .skip (.exit 0))) (.seq (.block 1 (.seq (.reg false 0 [⟨(.some 12), none, (.q .mv), [(.t 0)]⟩, ⟨(.some 13), none, (.q .mv), [(.t 5)]⟩, ⟨(.some 14), none, (.q (.iaddrS 2)), [(.t 12), (.t 13)]⟩, ⟨(.some 15), none, (.q (.faddr 0)), [(.t 14)]⟩, ⟨(.some 16), none, (.l .load1), [(.t 15)]⟩, ⟨(.some 17), none, (.q .mv), [(.t 1)]⟩, ⟨(.some 18), none, (.q (.bin .eql 3)), [(.t 16), (.t 17)]⟩]) (.cond (.t 18) (.seq (.reg false 0 [⟨(.some 19), none, (.q .mv), [(.t 0)]⟩, ⟨(.some 20), none, (.q .mv), [(.t 5)]⟩, ⟨(.some 21), none, (.q (.iaddrS 2)), [(.t 19), (.t 20)]⟩, ⟨(.some 22), none, (.q (.faddr 1)), [(.t 21)]⟩, ⟨(.some 23), none, (.l .load1), [(.t 22)]⟩, ⟨(.some 4), none, (.q .mv), [(.t 23)]⟩]) .ret) .skip))) (.reg false 0 [⟨(.some 10), none, (.q .mv), [(.t 5)]⟩, ⟨(.some 11), none, (.q (.bin .add 3)), [(.t 10), (.c (.imm (.int .i64 1)))]⟩, ⟨(.some 5), none, (.q .mv), [(.t 11)]⟩])))))) (.seq (.reg false 0 [⟨(.some 4), none, (.q .mv), [(.c (.imm (.int .i64 0)))]⟩]) .ret)))
theorem fn18 : IsFn Tryz.prog 18 [] c18 [4] 24 := ⟨_, _, Tryz.func18, rfl, by decide +kernel, by kernel_rfl, rfl, rfl⟩
theorem p18s (v : Vec) (r : Int) (hv : Small v) : Pure Tryz.prog G 18 [vecV v, i64 r] (i64 (seqV v r)) := by
  refine pure_of_code' (S := sp [] []) hm hG (sp_holds .nil .nil) fn18 (St 6 24 [vecV v, i64 r, .junk, .junk, .junk, .junk] []) (by kernel_rfl) (by simp [lows, AV.low, lows_vdots]) (by simp [AV.low]) ?_
  simp (maxSteps := 2000000) -implicitDefEqProofs only [c18, RS, RX, Nat.reduceLT, ↓RP0, ↓RP1, ↓RP2, ↓RP3, RV, RW, ↓reduceIte, Nat.reduceAdd, Nat.reduceSub, Nat.reduceMul, Nat.reduceLeDiff, Nat.reduceEqDiff, Int.reduceLT, Int.reduceLE, Int.reduceEq, Int.reduceNe, Int.reduceAdd, Int.reduceSub, Int.reduceMul, Int.reduceNeg, Int.reduceToNat, reduceCtorEq, vdots_len]
  refine loopB (st := fun (i : Nat) => (St 6 24 [vecV v, i64 r, .junk, .junk, i64 0, i64 i] [])) (hp := fun i => []) (I := fun i => i ≤ v.length ∧ seqV v r = seqV (v.drop i) r) (m := fun i => v.length - i) (0 : Nat) ⟨Nat.zero_le _, rfl⟩ ?_ ?_
  · refine weak_nilS ?_; simp [WeakL, AV.low, lows, lows_vdots]
  · rintro i ⟨hi, hn⟩
    by_cases hlt : i < v.length
    · have e1 := vdots_get hlt
      have e3 : ((i : Int) < (v.length : Int)) = True := eq_true (by omega)
      have hd := seqV_drop (r := r) hlt
      have hv' : v.length ≤ 1099511627776 := hv
      generalize v.getD i (0, 0) = d at *
      simp (maxSteps := 2000000) -implicitDefEqProofs only [RS, RX, Nat.reduceLT, ↓RP0, ↓RP1, ↓RP2, ↓RP3, RV, RW, ↓reduceIte, Nat.reduceAdd, Nat.reduceSub, Nat.reduceMul, Nat.reduceLeDiff, Nat.reduceEqDiff, Int.reduceLT, Int.reduceLE, Int.reduceEq, Int.reduceNe, Int.reduceAdd, Int.reduceSub, Int.reduceMul, Int.reduceNeg, Int.reduceToNat, reduceCtorEq, e1, e3, vdots_len, AV.cells]
      refine ⟨fun h1 => ?_, fun h1 => ⟨⟨by omega, by omega⟩, i + 1, by dsimp only; omega, ⟨by omega, ?_⟩, ?_⟩⟩
      · rw [hn, hd, if_pos h1]
      · rw [hn, hd, if_neg h1]
      · refine weak_nilS ?_; simp [WeakL, AV.low, lows, lows_vdots]
    · obtain rfl : i = v.length := by omega
      simp (maxSteps := 2000000) -implicitDefEqProofs only [RS, RX, Nat.reduceLT, ↓RP0, ↓RP1, ↓RP2, ↓RP3, RV, RW, ↓reduceIte, Nat.reduceAdd, Nat.reduceSub, Nat.reduceMul, Nat.reduceLeDiff, Nat.reduceEqDiff, Int.reduceLT, Int.reduceLE, Int.reduceEq, Int.reduceNe, Int.reduceAdd, Int.reduceSub, Int.reduceMul, Int.reduceNeg, Int.reduceToNat, reduceCtorEq, vdots_len, Int.lt_irrefl]
      rw [hn, List.drop_length]; rfl
end Go.AL.Path

/- shuffled: events in some order, by numbers. -/
set_option linter.unusedSimpArgs false
set_option linter.unusedVariables false
set_option maxRecDepth 100000
namespace Go.AL.Path
open Go Go.RowKit Go.Proofs Go.AL

def pickAt (o : List Int) (i n : Nat) : Nat := if i < o.length then (o.getD i 0).toNat % n else 0
def shuf (o : List Int) : Nat → Nat → List Ev → List Ev
  | 0, _, _ => []
  | k + 1, i, l => l.getD (pickAt o i l.length) ev0d :: shuf o k (i + 1) (l.take (pickAt o i l.length) ++ l.drop (pickAt o i l.length + 1))
abbrev u8sV (o : List Int) : AV := .sl 1 (o.map u8) none
def AllU8 (o : List Int) : Prop := ∀ x ∈ o, 0 ≤ x ∧ x ≤ 255
theorem lows_u8s (n : Nat) (o : List Int) : lows n (o.map u8) := lows_u8 n o
theorem pickAt_lt {o : List Int} {i n : Nat} (hn : 0 < n) : pickAt o i n < n := by
  unfold pickAt
  split
  · exact Nat.mod_lt _ hn
  · exact hn

def c24 : ACode := (.seq (.reg false 1 [⟨(.some 4), none, (.m (.nilT 30 38) 0), []⟩]) (.seq (.reg false 1 [⟨(.some 10), none, (.m (.bsliceO 30 38) 0), []⟩, ⟨(.some 11), none, (.q .mv), [(.t 0)]⟩, ⟨(.some 12), none, (.e (.append 30 38 104)), [(.t 10), (.t 11)]⟩, ⟨(.some 5), none, (.q .mv), [(.t 12)]⟩]) (.seq (.reg false 1 [⟨(.some 6), none, (.m (.nilT 30 38) 0), []⟩]) (.seq (.seq (.reg false 0 [⟨(.some 7), none, (.q .mv), [(.c (.imm (.int .i64 0)))]⟩]) (.block 0 (.loop (.seq (.seq (.reg false 0 [⟨(.some 13), none, (.q .mv), [(.t 5)]⟩, ⟨(.some 14), none, (.q .lenL), [(.t 13)]⟩, ⟨(.some 15), none, (.q (.bin .gtr 3)), [(.t 14), (.c (.imm (.int .i64 0)))]⟩]) (.cond (.t 15) .skip (.exit 0))) (.seq (.block 1 (.seq (.reg false 0 [⟨(.some 8), none, (.q .mv), [(.c (.imm (.int .i64 0)))]⟩]) (.seq (.seq (.reg false 0 [⟨(.some 18), none, (.q .mv), [(.t 7)]⟩, ⟨(.some 19), none, (.q .mv), [(.t 1)]⟩, ⟨(.some 20), none, (.q .lenL), [(.t 19)]⟩, ⟨(.some 21), none, (.q (.bin .lss 3)), [(.t 18), (.t 20)]⟩]) (.cond (.t 21) (.reg false 0 [⟨(.some 22), none, (.q .mv), [(.t 1)]⟩, ⟨(.some 23), none, (.q .mv), [(.t 7)]⟩, ⟨(.some 24), none, (.q (.iaddrS 1)), [(.t 22), (.t 23)]⟩, ⟨(.some 25), none, (.l .load1), [(.t 24)]⟩, ⟨(.some 26), none, (.q (.convI .i64)), [(.t 25)]⟩, ⟨(.some 27), none, (.q .mv), [(.t 5)]⟩, ⟨(.some 28), none, (.q .lenL), [(.t 27)]⟩, ⟨(.some 29), none, (.q (.bin .rem 3)), [(.t 26), (.t 28)]⟩, ⟨(.some 8), none, (.q .mv), [(.t 29)]⟩]) .skip)) (.seq (.reg false 1 [⟨(.some 30), none, (.q .mv), [(.t 6)]⟩, ⟨(.some 31), none, (.q .mv), [(.t 5)]⟩, ⟨(.some 32), none, (.q .mv), [(.t 8)]⟩, ⟨(.some 33), none, (.q (.iaddrS 38)), [(.t 31), (.t 32)]⟩, ⟨(.some 34), none, (.l (.loadA 38)), [(.t 33)]⟩, ⟨(.some 35), none, (.m (.bsliceO 30 38) 0), [(.t 34)]⟩, ⟨(.some 36), none, (.e (.append 30 38 104)), [(.t 30), (.t 35)]⟩, ⟨(.some 6), none, (.q .mv), [(.t 36)]⟩]) (.seq (.reg false 1 [⟨(.some 37), none, (.m (.bsliceO 30 38) 0), []⟩, ⟨(.some 38), none, (.q .mv), [(.t 5)]⟩, ⟨(.some 39), none, (.q .mv), [(.t 8)]⟩, ⟨(.some 40), none, (.q (.sliceL 38 false true false)), [(.t 38), (.t 39)]⟩, ⟨(.some 41), none, (.e (.append 30 38 104)), [(.t 37), (.t 40)]⟩, ⟨(.some 9), none, (.q .mv), [(.t 41)]⟩]) (.seq (.reg false 0 [⟨(.some 42), none, (.q .mv), [(.t 9)]⟩, ⟨(.some 43), none, (.q .mv), [(.t 5)]⟩, ⟨(.some 44), none, (.q .mv), [(.t 8)]⟩, ⟨(.some 45), none, (.q (.bin .add 3)), [(.t 44), (.c (.imm (.int .i64 1)))]⟩, ⟨(.some 46), none, (.q (.sliceL 38 true false false)), [(.t 43), (.t 45)]⟩, ⟨(.some 47), none, (.e (.append 30 38 104)), [(.t 42), (.t 46)]⟩, ⟨(.some 9), none, (.q .mv), [(.t 47)]⟩]) (.reg false 0 [⟨(.some 48), none, (.q .mv), [(.t 9)]⟩, ⟨(.some 5), none, (.q .mv), [(.t 48)]⟩]))))))) (.reg false 0 [⟨(.some 16), none, (.q .mv), [(.t 7)]⟩, ⟨(.some 17), none, (.q (.bin .add 3)), [(.t 16), (.c (.imm (.int .i64 1)))]⟩, ⟨(.some 7), none, (.q .mv), [(.t 17)]⟩])))))) (.seq (.reg false 0 [⟨(.some 49), none, (.q .mv), [(.t 6)]⟩, ⟨(.some 4), none, (.q .mv), [(.t 49)]⟩]) .ret)))))
theorem fn24 : IsFn Tryz.prog 24 (List.range 200) c24 [4] 50 := ⟨_, _, Tryz.func24, rfl, by decide +kernel, by kernel_rfl, rfl, rfl⟩
set_option maxHeartbeats 4000000 in
theorem p24s (l : List Ev) (o : List Int) (ho : AllOk l) (hu : AllU8 o) (hs : l.length ≤ 1099511627) : Pure Tryz.prog G 24 [evsV l, u8sV o] (evsV (shuf o l.length 0 l)) := by
  refine pure_of_code' (S := sp [] []) hm hG (sp_holds .nil .nil) fn24 (St 10 50 [evsV l, u8sV o, .junk, .junk, .junk, .junk, .junk, .junk, .junk, .junk] []) (by kernel_rfl) (by simp [lows, AV.low, lows_evs, lows_u8]) (by simp [AV.low, lows_evs]) ?_
  have hal : ∀ x ∈ l.map evV, x.isVal = true ∧ x.cells.length = 38 := fun x hx => by
    obtain ⟨e, he, rfl⟩ := List.mem_map.1 hx
    exact ⟨rfl, ev_len (ho e he).len⟩
  simp (maxSteps := 2000000) -implicitDefEqProofs only [c24, RS, RX, Nat.reduceLT, ↓RP0, ↓RP1, ↓RP2, ↓RP3, RV, RW, ↓reduceIte, Nat.reduceAdd, Nat.reduceSub, Nat.reduceMul, Nat.reduceLeDiff, Nat.reduceEqDiff, Int.reduceLT, Int.reduceLE, Int.reduceEq, Int.reduceNe, Int.reduceAdd, Int.reduceSub, Int.reduceMul, Int.reduceNeg, Int.reduceToNat, reduceCtorEq, evs_len]
  refine ⟨(fun x hx => by cases hx), .inl trivial, .inl trivial, by omega, by omega, ?_⟩
  refine loopB (st := fun (x : Nat × List Ev × List Ev) => (St 10 50 [evsV l, u8sV o, .junk, .junk, .junk, evsV x.2.1, .sl 38 (x.2.2.map evV) (some 2), i64 x.1, .junk, .junk] [])) (hp := fun x => [.tok 30 38 0, .tok 30 38 l.length, .tok 30 38 x.2.2.length]) (I := fun x => x.2.2 ++ shuf o x.2.1.length x.1 x.2.1 = shuf o l.length 0 l ∧ AllOk x.2.1 ∧ x.2.1.length + x.2.2.length = l.length ∧ x.1 = x.2.2.length) (m := fun x => x.2.1.length) (0, l, []) ⟨rfl, ho, rfl, rfl⟩ ?_ ?_
  · refine weak_cutS 3 (by decide) (by simp) ?_ ?_
    · simp [AObj.low, lows, AV.low, lows_ev]
    · simp [WeakL, AV.low, lows, lows_evs, lows_ev, lows_u8, AV.strip, AV.strip1]
  · rintro ⟨i, left, out⟩ ⟨h1, h2, h3, h4⟩
    dsimp only at h1 h2 h3 h4 ⊢
    by_cases hlt : 0 < left.length
    · have e3 : ((0 : Int) < (left.length : Int)) = True := eq_true (by omega)
      have hp := pickAt_lt (o := o) (i := i) hlt
      have hsh : shuf o left.length i left = left.getD (pickAt o i left.length) ev0d :: shuf o (left.length - 1) (i + 1) (left.take (pickAt o i left.length) ++ left.drop (pickAt o i left.length + 1)) := by
        obtain ⟨n, hn⟩ : ∃ n, left.length = n + 1 := ⟨left.length - 1, by omega⟩
        rw [hn]; simp only [shuf, hn, Nat.add_sub_cancel]
      have ul : (o.map u8).length = o.length := List.length_map ..
      have e1 := evs_get hp
      have o1 := evs_ok h2 (pickAt o i left.length)
      have ad : ((pickAt o i left.length : Nat) : Int) + 1 = ((pickAt o i left.length + 1 : Nat) : Int) := by omega
      have adt : (((pickAt o i left.length : Nat) : Int) + 1).toNat = pickAt o i left.length + 1 := by omega
      have mt : List.take left.length (left.map evV) = left.map evV := List.take_of_length_le (by simp)
      have mt1 : List.take (pickAt o i left.length) (left.map evV) = (left.take (pickAt o i left.length)).map evV := List.map_take.symm
      have mt2 : List.drop (pickAt o i left.length + 1) (left.map evV) = (left.drop (pickAt o i left.length + 1)).map evV := List.map_drop.symm
      have lt1 : ((left.take (pickAt o i left.length)).map evV).length = pickAt o i left.length := by simp; omega
      have lt2 : ((left.drop (pickAt o i left.length + 1)).map evV).length = left.length - (pickAt o i left.length + 1) := by simp
      have goOn : ∀ (ov : List (Nat × AV)) (a : Nat) (x : Ev) (X : List AObj), a < left.length → shuf o left.length i left = x :: shuf o (left.length - 1) (i + 1) (left.take a ++ left.drop (a + 1)) →
          Again 0 (fun (x : Nat × List Ev × List Ev) => (St 10 50 [evsV l, u8sV o, .junk, .junk, .junk, evsV x.2.1, .sl 38 (x.2.2.map evV) (some 2), i64 x.1, .junk, .junk] [])) (fun x => [.tok 30 38 0, .tok 30 38 l.length, .tok 30 38 x.2.2.length]) (fun x => x.2.2 ++ shuf o x.2.1.length x.1 x.2.1 = shuf o l.length 0 l ∧ AllOk x.2.1 ∧ x.2.1.length + x.2.2.length = l.length ∧ x.1 = x.2.2.length) (fun x => x.2.1.length) (i, left, out)
            (St 10 50 [evsV l, u8sV o, .junk, .junk, .junk, .sl 38 ((left.take a).map evV ++ (left.drop (a + 1)).map evV) (some 4), .sl 38 (out.map evV ++ [.agg (evCells x)]) (some 2), i64 ((i : Int) + 1), i64 (a : Int), .sl 38 ((left.take a).map evV ++ (left.drop (a + 1)).map evV) (some 4)] ov)
            (.tok 30 38 0 :: .tok 30 38 l.length :: .tok 30 38 (out.length + 1) :: X) := by
        intro ov a x X ha hsh
        have hlen : (left.take a ++ left.drop (a + 1)).length = left.length - 1 := by simp; omega
        refine ⟨(i + 1, left.take a ++ left.drop (a + 1), out ++ [x]), by dsimp only; omega, ⟨?_, ?_, ?_, ?_⟩, ?_⟩
        · dsimp only; rw [hlen, ← h1, hsh]; simp
        · intro y hy
          rcases List.mem_append.1 hy with hy | hy
          · exact h2 y (List.mem_of_mem_take hy)
          · exact h2 y (List.mem_of_mem_drop hy)
        · dsimp only; rw [hlen]; simp; omega
        · dsimp only; simp; omega
        · refine weak_cutS 3 (by decide) (by simp) ?_ ?_
          · simp [AObj.low, lows, AV.low, lows_ev]
          · simp [WeakL, AV.low, lows, lows_evs, lows_ev, lows_u8, AV.strip, AV.strip1, ← List.map_take, ← List.map_drop]
      by_cases hio : i < o.length
      · have e4 : ((i : Int) < (o.length : Int)) = True := eq_true (by omega)
        have e5 : (o.map u8).getD i .junk = .imm (.int .u8 (o.getD i 0)) := by rw [List.getD_eq_getElem?_getD, List.getElem?_map, List.getD_eq_getElem?_getD, List.getElem?_eq_getElem hio]; rfl
        have hx : 0 ≤ o.getD i 0 ∧ o.getD i 0 ≤ 255 := hu _ (by rw [List.getD_eq_getElem?_getD, List.getElem?_eq_getElem hio]; exact List.getElem_mem hio)
        have e6 : IntKind.i64.wrap (o.getD i 0) = o.getD i 0 := In64.wrap ⟨by omega, by omega⟩
        have e7 : (o.getD i 0).tmod (left.length : Int) = ((pickAt o i left.length : Nat) : Int) := by
          unfold pickAt
          rw [if_pos hio]
          rw [Int.tmod_eq_emod_of_nonneg hx.1, Int.natCast_emod, Int.toNat_of_nonneg hx.1]
        generalize pickAt o i left.length = a at *
        generalize left.getD a ev0d = x at *
        have l1 := ev_len o1.len
        have k1 := take38 o1
        simp (maxSteps := 2000000) -implicitDefEqProofs only [RS, RX, Nat.reduceLT, ↓RP0, ↓RP1, ↓RP2, ↓RP3, RV, RW, ↓reduceIte, Nat.reduceAdd, Nat.reduceSub, Nat.reduceMul, Nat.reduceLeDiff, Nat.reduceEqDiff, Int.reduceLT, Int.reduceLE, Int.reduceEq, Int.reduceNe, Int.reduceAdd, Int.reduceSub, Int.reduceMul, Int.reduceNeg, Int.reduceToNat, reduceCtorEq, e1, e3, e4, e5, e6, e7, adt, mt, mt1, mt2, lt1, lt2, ul, evs_len, l1, k1, ev_strip, AV.cells]
        refine ⟨by omega, by omega, (fun y hy => by rw [List.mem_singleton.1 hy]; exact ⟨rfl, l1⟩), .inl trivial, .inl trivial, by omega, by omega, (fun y hy => by cases hy), .inl trivial, by omega, .inl trivial, .inl trivial, by omega, by omega, ⟨by omega, by omega⟩, .inl trivial, by omega, by omega, .inl trivial, .inl trivial, by omega, by omega, ⟨by omega, by omega⟩, ?_⟩
        exact goOn _ a x _ hp hsh
      · have e4 : ((i : Int) < (o.length : Int)) = False := eq_false (by omega)
        have e7 : pickAt o i left.length = 0 := by unfold pickAt; rw [if_neg hio]
        generalize pickAt o i left.length = a at *
        subst e7
        generalize left.getD 0 ev0d = x at *
        have l1 := ev_len o1.len
        have k1 := take38 o1
        simp (maxSteps := 2000000) -implicitDefEqProofs only [RS, RX, Nat.reduceLT, ↓RP0, ↓RP1, ↓RP2, ↓RP3, RV, RW, ↓reduceIte, Nat.reduceAdd, Nat.reduceSub, Nat.reduceMul, Nat.reduceLeDiff, Nat.reduceEqDiff, Int.reduceLT, Int.reduceLE, Int.reduceEq, Int.reduceNe, Int.reduceAdd, Int.reduceSub, Int.reduceMul, Int.reduceNeg, Int.reduceToNat, reduceCtorEq, e1, e3, e4, adt, mt, mt1, mt2, lt1, lt2, ul, evs_len, l1, k1, ev_strip, AV.cells]
        refine ⟨(fun y hy => by rw [List.mem_singleton.1 hy]; exact ⟨rfl, l1⟩), .inl trivial, .inl trivial, by omega, by omega, (fun y hy => by cases hy), .inl trivial, .inl trivial, .inl trivial, ⟨by omega, by omega⟩, .inl trivial, by omega, .inl trivial, .inl trivial, by omega, by omega, ⟨by omega, by omega⟩, ?_⟩
        exact goOn _ 0 x _ hp hsh
    · have h0 : left = [] := List.length_eq_zero_iff.1 (by omega)
      subst h0
      simp (maxSteps := 2000000) -implicitDefEqProofs only [RS, RX, Nat.reduceLT, ↓RP0, ↓RP1, ↓RP2, ↓RP3, RV, RW, ↓reduceIte, Nat.reduceAdd, Nat.reduceSub, Nat.reduceMul, Nat.reduceLeDiff, Nat.reduceEqDiff, Int.reduceLT, Int.reduceLE, Int.reduceEq, Int.reduceNe, Int.reduceAdd, Int.reduceSub, Int.reduceMul, Int.reduceNeg, Int.reduceToNat, reduceCtorEq, evs_len, Int.lt_irrefl]
      have h5 : out = shuf o l.length 0 l := by rw [← h1]; simp [shuf]
      rw [h5]
end Go.AL.Path

/- The reference's Last: those of some events that none of these at its path knows, rising. -/
set_option linter.unusedSimpArgs false
set_option linter.unusedVariables false
set_option maxRecDepth 100000
namespace Go.AL.Path
open Go Go.RowKit Go.Proofs Go.AL

/-- The k-th lets the i-th be a last one. -/
def lets (l : List Ev) (i k : Nat) : Bool :=
  (!decide ((l.getD k ev0d).path = (l.getD i ev0d).path) || !knows (l.getD k ev0d) (l.getD i ev0d)) && (decide (i ≤ k) || !decide (cmpDot (l.getD k ev0d).r (l.getD k ev0d).q (l.getD i ev0d).r (l.getD i ev0d).q = 0))
def isLast (l : List Ev) (i : Nat) : Bool := (List.range l.length).all (lets l i)
def posIn (x : Ev) : List Ev → Nat
  | [] => 0
  | y :: ys => if cmpEv y x < 0 then posIn x ys + 1 else 0
def insLast (out : List Ev) (x : Ev) : List Ev := out.take (posIn x out) ++ [x] ++ out.drop (posIn x out)
def lastStep (l : List Ev) (out : List Ev) (i : Nat) : List Ev := if isLast l i = true then insLast out (l.getD i ev0d) else out
def lastTo (l : List Ev) (i : Nat) : List Ev := (List.range i).foldl (lastStep l) []
def lastL (l : List Ev) : List Ev := lastTo l l.length
theorem lastTo_succ (l : List Ev) (i : Nat) : lastTo l (i + 1) = lastStep l (lastTo l i) i := by
  unfold lastTo; rw [List.range_succ, List.foldl_append]; rfl
theorem insLast_len (out : List Ev) (x : Ev) : (insLast out x).length = out.length + 1 := by
  unfold insLast; simp; omega
theorem insLast_ok {out : List Ev} {x : Ev} (ho : AllOk out) (hx : EvOk x) : AllOk (insLast out x) := by
  intro y hy
  unfold insLast at hy
  simp only [List.mem_append, List.mem_singleton] at hy
  rcases hy with (hy | rfl) | hy
  · exact ho y (List.mem_of_mem_take hy)
  · exact hx
  · exact ho y (List.mem_of_mem_drop hy)
theorem lastTo_len (l : List Ev) : ∀ i, (lastTo l i).length ≤ i
  | 0 => Nat.le_refl _
  | i + 1 => by
    have := lastTo_len l i
    rw [lastTo_succ]; unfold lastStep
    split
    · rw [insLast_len]; omega
    · omega
theorem lastTo_ok {l : List Ev} (ho : AllOk l) : ∀ i, AllOk (lastTo l i)
  | 0 => fun x hx => by cases hx
  | i + 1 => by
    rw [lastTo_succ]; unfold lastStep
    split
    · exact insLast_ok (lastTo_ok ho i) (evs_ok ho i)
    · exact lastTo_ok ho i
theorem posIn_le (x : Ev) : ∀ l : List Ev, posIn x l ≤ l.length
  | [] => Nat.le_refl _
  | y :: ys => by
    have := posIn_le x ys
    unfold posIn
    split
    · simp; omega
    · simp
theorem posIn_at {x : Ev} : ∀ {l : List Ev} {n : Nat}, n < l.length → n ≤ posIn x l → (cmpEv (l.getD n ev0d) x < 0 → n + 1 ≤ posIn x l) ∧ (¬ cmpEv (l.getD n ev0d) x < 0 → posIn x l = n)
  | y :: ys, 0, _, _ => by
    constructor
    · intro h; unfold posIn; rw [if_pos (by simpa using h)]; omega
    · intro h; unfold posIn; rw [if_neg (by simpa using h)]
  | y :: ys, n + 1, h1, h2 => by
    have hc : cmpEv y x < 0 := by
      unfold posIn at h2
      by_cases hc : cmpEv y x < 0
      · exact hc
      · rw [if_neg hc] at h2; omega
    have he : posIn x (y :: ys) = posIn x ys + 1 := by rw [posIn, if_pos hc]
    have := posIn_at (x := x) (l := ys) (n := n) (by simpa using h1) (by omega)
    rw [he]
    simp only [List.getD_cons_succ]
    exact ⟨fun h => by have := this.1 h; omega, fun h => by rw [this.2 h]⟩

def c16 : ACode := (.seq (.reg false 1 [⟨(.some 2), none, (.m (.nilT 30 38) 0), []⟩]) (.seq (.reg false 1 [⟨(.some 3), none, (.m (.nilT 30 38) 0), []⟩]) (.seq (.seq (.reg false 0 [⟨(.some 4), none, (.q .mv), [(.c (.imm (.int .i64 0)))]⟩]) (.block 0 (.loop (.seq (.seq (.reg false 0 [⟨(.some 9), none, (.q .mv), [(.t 4)]⟩, ⟨(.some 10), none, (.q .mv), [(.t 0)]⟩, ⟨(.some 11), none, (.q .lenL), [(.t 10)]⟩, ⟨(.some 12), none, (.q (.bin .lss 3)), [(.t 9), (.t 11)]⟩]) (.cond (.t 12) .skip (.exit 0))) (.seq (.block 1 (.seq (.reg false 0 [⟨(.some 5), none, (.q .mv), [(.c (.imm (.bool true)))]⟩]) (.seq (.seq (.reg false 0 [⟨(.some 6), none, (.q .mv), [(.c (.imm (.int .i64 0)))]⟩]) (.block 2 (.loop (.seq (.seq (.reg false 0 [⟨(.some 15), none, (.q .mv), [(.t 6)]⟩, ⟨(.some 16), none, (.q .mv), [(.t 0)]⟩, ⟨(.some 17), none, (.q .lenL), [(.t 16)]⟩, ⟨(.some 18), none, (.q (.bin .lss 3)), [(.t 15), (.t 17)]⟩]) (.cond (.t 18) .skip (.exit 2))) (.seq (.block 3 (.reg true 0 [⟨(.some 21), none, (.q .mv), [(.t 5)]⟩, ⟨(.some 22), none, (.q .mv), [(.t 21)]⟩, ⟨(.some 23), (.some (22, true)), (.q .mv), [(.t 0)]⟩, ⟨(.some 24), (.some (22, true)), (.q .mv), [(.t 6)]⟩, ⟨(.some 25), (.some (22, true)), (.q (.iaddrS 38)), [(.t 23), (.t 24)]⟩, ⟨(.some 26), (.some (22, true)), (.q (.faddr 4)), [(.t 25)]⟩, ⟨(.some 27), (.some (22, true)), (.l .load1), [(.t 26)]⟩, ⟨(.some 28), (.some (22, true)), (.q .mv), [(.t 0)]⟩, ⟨(.some 29), (.some (22, true)), (.q .mv), [(.t 4)]⟩, ⟨(.some 30), (.some (22, true)), (.q (.iaddrS 38)), [(.t 28), (.t 29)]⟩, ⟨(.some 31), (.some (22, true)), (.q (.faddr 4)), [(.t 30)]⟩, ⟨(.some 32), (.some (22, true)), (.l .load1), [(.t 31)]⟩, ⟨(.some 33), (.some (22, true)), (.q (.bin .neq 9)), [(.t 27), (.t 32)]⟩, ⟨(.some 34), (.some (22, true)), (.q .mv), [(.t 33)]⟩, ⟨(.some 35), (.some (34, false)), (.q .mv), [(.t 0)]⟩, ⟨(.some 36), (.some (34, false)), (.q .mv), [(.t 6)]⟩, ⟨(.some 37), (.some (34, false)), (.q (.iaddrS 38)), [(.t 35), (.t 36)]⟩, ⟨(.some 38), (.some (34, false)), (.l (.loadA 38)), [(.t 37)]⟩, ⟨(.some 39), (.some (34, false)), (.q .mv), [(.t 0)]⟩, ⟨(.some 40), (.some (34, false)), (.q .mv), [(.t 4)]⟩, ⟨(.some 41), (.some (34, false)), (.q (.iaddrS 38)), [(.t 39), (.t 40)]⟩, ⟨(.some 42), (.some (34, false)), (.l (.loadA 38)), [(.t 41)]⟩, ⟨(.some 43), (.some (34, false)), (.call true), [(.c (.fn (.func 12) [] [])), (.t 38), (.t 42)]⟩, ⟨(.some 44), (.some (34, false)), (.q (.un .not)), [(.t 43)]⟩, ⟨(.some 45), (.some (22, true)), (.q .pick), [(.t 34), (.c (.imm (.bool true))), (.t 44)]⟩, ⟨(.some 46), none, (.q .pick), [(.t 22), (.t 45), (.c (.imm (.bool false)))]⟩, ⟨(.some 47), none, (.q .mv), [(.t 46)]⟩, ⟨(.some 48), (.some (47, true)), (.q .mv), [(.t 6)]⟩, ⟨(.some 49), (.some (47, true)), (.q .mv), [(.t 4)]⟩, ⟨(.some 50), (.some (47, true)), (.q (.bin .geq 3)), [(.t 48), (.t 49)]⟩, ⟨(.some 51), (.some (47, true)), (.q .mv), [(.t 50)]⟩, ⟨(.some 52), (.some (51, false)), (.q .mv), [(.t 0)]⟩, ⟨(.some 53), (.some (51, false)), (.q .mv), [(.t 6)]⟩, ⟨(.some 54), (.some (51, false)), (.q (.iaddrS 38)), [(.t 52), (.t 53)]⟩, ⟨(.some 55), (.some (51, false)), (.q (.faddr 0)), [(.t 54)]⟩, ⟨(.some 56), (.some (51, false)), (.l (.loadA 2)), [(.t 55)]⟩, ⟨(.some 57), (.some (51, false)), (.q .mv), [(.t 0)]⟩, ⟨(.some 58), (.some (51, false)), (.q .mv), [(.t 4)]⟩, ⟨(.some 59), (.some (51, false)), (.q (.iaddrS 38)), [(.t 57), (.t 58)]⟩, ⟨(.some 60), (.some (51, false)), (.q (.faddr 0)), [(.t 59)]⟩, ⟨(.some 61), (.some (51, false)), (.l (.loadA 2)), [(.t 60)]⟩, ⟨(.some 62), (.some (51, false)), (.call true), [(.c (.fn (.func 44) [] [])), (.t 56), (.t 61)]⟩, ⟨(.some 63), (.some (51, false)), (.q (.bin .neq 3)), [(.t 62), (.c (.imm (.int .i64 0)))]⟩, ⟨(.some 64), (.some (47, true)), (.q .pick), [(.t 51), (.c (.imm (.bool true))), (.t 63)]⟩, ⟨(.some 65), none, (.q .pick), [(.t 47), (.t 64), (.c (.imm (.bool false)))]⟩, ⟨(.some 5), none, (.q .mv), [(.t 65)]⟩])) (.reg false 0 [⟨(.some 19), none, (.q .mv), [(.t 6)]⟩, ⟨(.some 20), none, (.q (.bin .add 3)), [(.t 19), (.c (.imm (.int .i64 1)))]⟩, ⟨(.some 6), none, (.q .mv), [(.t 20)]⟩])))))) (.seq (.seq (.reg false 0 [⟨(.some 66), none, (.q .mv), [(.t 5)]⟩, ⟨(.some 67), none, (.q (.un .not)), [(.t 66)]⟩]) (.cond (.t 67) (.exit 1) .skip)) (.seq (.reg false 0 [⟨(.some 7), none, (.q .mv), [(.c (.imm (.int .i64 0)))]⟩]) (.seq (.block 4 (.loop (.seq (.seq (.reg true 0 [⟨(.some 68), none, (.q .mv), [(.t 7)]⟩, ⟨(.some 69), none, (.q .mv), [(.t 3)]⟩, ⟨(.some 70), none, (.q .lenL), [(.t 69)]⟩, ⟨(.some 71), none, (.q (.bin .lss 3)), [(.t 68), (.t 70)]⟩, ⟨(.some 72), none, (.q .mv), [(.t 71)]⟩, ⟨(.some 73), (.some (72, true)), (.q .mv), [(.t 3)]⟩, ⟨(.some 74), (.some (72, true)), (.q .mv), [(.t 7)]⟩, ⟨(.some 75), (.some (72, true)), (.q (.iaddrS 38)), [(.t 73), (.t 74)]⟩, ⟨(.some 76), (.some (72, true)), (.l (.loadA 38)), [(.t 75)]⟩, ⟨(.some 77), (.some (72, true)), (.q .mv), [(.t 0)]⟩, ⟨(.some 78), (.some (72, true)), (.q .mv), [(.t 4)]⟩, ⟨(.some 79), (.some (72, true)), (.q (.iaddrS 38)), [(.t 77), (.t 78)]⟩, ⟨(.some 80), (.some (72, true)), (.l (.loadA 38)), [(.t 79)]⟩, ⟨(.some 81), (.some (72, true)), (.call true), [(.c (.fn (.func 45) [] [])), (.t 76), (.t 80)]⟩, ⟨(.some 82), (.some (72, true)), (.q (.bin .lss 3)), [(.t 81), (.c (.imm (.int .i64 0)))]⟩, ⟨(.some 83), none, (.q .pick), [(.t 72), (.t 82), (.c (.imm (.bool false)))]⟩]) (.cond (.t 83) .skip (.exit 4))) (.block 5 (.reg false 0 [⟨(.some 84), none, (.q .mv), [(.t 7)]⟩, ⟨(.some 85), none, (.q (.bin .add 3)), [(.t 84), (.c (.imm (.int .i64 1)))]⟩, ⟨(.some 7), none, (.q .mv), [(.t 85)]⟩]))))) (.seq (.reg false 1 [⟨(.some 86), none, (.m (.bsliceO 30 38) 0), []⟩, ⟨(.some 87), none, (.q .mv), [(.t 3)]⟩, ⟨(.some 88), none, (.q .mv), [(.t 7)]⟩, ⟨(.some 89), none, (.q (.sliceL 38 false true false)), [(.t 87), (.t 88)]⟩, ⟨(.some 90), none, (.e (.append 30 38 104)), [(.t 86), (.t 89)]⟩, ⟨(.some 8), none, (.q .mv), [(.t 90)]⟩]) (.seq (.reg false 1 [⟨(.some 91), none, (.q .mv), [(.t 8)]⟩, ⟨(.some 92), none, (.q .mv), [(.t 0)]⟩, ⟨(.some 93), none, (.q .mv), [(.t 4)]⟩, ⟨(.some 94), none, (.q (.iaddrS 38)), [(.t 92), (.t 93)]⟩, ⟨(.some 95), none, (.l (.loadA 38)), [(.t 94)]⟩, ⟨(.some 96), none, (.m (.bsliceO 30 38) 0), [(.t 95)]⟩, ⟨(.some 97), none, (.e (.append 30 38 104)), [(.t 91), (.t 96)]⟩, ⟨(.some 8), none, (.q .mv), [(.t 97)]⟩]) (.seq (.reg false 0 [⟨(.some 98), none, (.q .mv), [(.t 8)]⟩, ⟨(.some 99), none, (.q .mv), [(.t 3)]⟩, ⟨(.some 100), none, (.q .mv), [(.t 7)]⟩, ⟨(.some 101), none, (.q (.sliceL 38 true false false)), [(.t 99), (.t 100)]⟩, ⟨(.some 102), none, (.e (.append 30 38 104)), [(.t 98), (.t 101)]⟩, ⟨(.some 8), none, (.q .mv), [(.t 102)]⟩]) (.reg false 0 [⟨(.some 103), none, (.q .mv), [(.t 8)]⟩, ⟨(.some 3), none, (.q .mv), [(.t 103)]⟩])))))))))) (.reg false 0 [⟨(.some 13), none, (.q .mv), [(.t 4)]⟩, ⟨(.some 14), none, (.q (.bin .add 3)), [(.t 13), (.c (.imm (.int .i64 1)))]⟩, ⟨(.some 4), none, (.q .mv), [(.t 14)]⟩])))))) (.seq (.reg false 0 [⟨(.some 104), none, (.q .mv), [(.t 3)]⟩, ⟨(.some 2), none, (.q .mv), [(.t 104)]⟩]) .ret))))
theorem fn16 : IsFn Tryz.prog 16 (List.range 200) c16 [2] 105 := ⟨_, _, Tryz.func16, rfl, by decide +kernel, by kernel_rfl, rfl, rfl⟩
set_option maxHeartbeats 8000000 in
theorem p16s (l : List Ev) (ho : AllOk l) (hs : l.length ≤ 1099511627) : Pure Tryz.prog G 16 [evsV l] (evsV (lastL l)) := by
  refine pure_of_code' (S := sp [(12, ev2b knows), (44, dot2n cmpDot), (45, ev2n cmpEv)] []) hm hG (sp_holds (.cons (told_ev2b p12') (.cons (told_dot2n p44') (.cons (told_ev2n p45') .nil))) .nil) fn16 (St 9 105 [evsV l, .junk, .junk, .junk, .junk, .junk, .junk, .junk, .junk] []) (by kernel_rfl) (by simp [lows, AV.low, lows_evs]) (by simp [AV.low, lows_evs]) ?_
  simp (maxSteps := 2000000) -implicitDefEqProofs only [c16, RS, RX, Nat.reduceLT, ↓RP0, ↓RP1, ↓RP2, ↓RP3, RV, RW, ↓reduceIte, Nat.reduceAdd, Nat.reduceSub, Nat.reduceMul, Nat.reduceLeDiff, Nat.reduceEqDiff, Int.reduceLT, Int.reduceLE, Int.reduceEq, Int.reduceNe, Int.reduceAdd, Int.reduceSub, Int.reduceMul, Int.reduceNeg, Int.reduceToNat, reduceCtorEq, evs_len]
  refine loopB (st := fun (i : Nat) => (St 9 105 [evsV l, .junk, .junk, evsV (lastTo l i), i64 i, .junk, .junk, .junk, .junk] [])) (hp := fun i => [.tok 30 38 0, .tok 30 38 0]) (I := fun i => i ≤ l.length) (m := fun i => l.length - i) (0 : Nat) (Nat.zero_le _) ?_ ?_
  · refine weak_cutS 2 (by decide) (by simp) ?_ ?_
    · simp [AObj.low, lows, AV.low, lows_ev]
    · simp [WeakL, AV.low, lows, lows_evs, lows_ev, lows_u8, AV.strip, AV.strip1, lastTo]
  · intro i hi
    by_cases hlt : i < l.length
    · have e1 := evs_get hlt
      have e3 : ((i : Int) < (l.length : Int)) = True := eq_true (by omega)
      have o1 := evs_ok ho i
      have hst := lastTo_succ l i
      have hol := lastTo_len l i
      have hoo := lastTo_ok ho i
      generalize hout : lastTo l i = out at *
      have hxx : l.getD i ev0d = l.getD i ev0d := rfl
      generalize hx : l.getD i ev0d = x at *
      have l1 := ev_len o1.len
      have k1 := take38 o1
      simp (maxSteps := 2000000) -implicitDefEqProofs only [RS, RX, Nat.reduceLT, ↓RP0, ↓RP1, ↓RP2, ↓RP3, RV, RW, ↓reduceIte, Nat.reduceAdd, Nat.reduceSub, Nat.reduceMul, Nat.reduceLeDiff, Nat.reduceEqDiff, Int.reduceLT, Int.reduceLE, Int.reduceEq, Int.reduceNe, Int.reduceAdd, Int.reduceSub, Int.reduceMul, Int.reduceNeg, Int.reduceToNat, reduceCtorEq, e3, evs_len, AV.cells]
      refine loopB (st := fun (k : Nat) => (St 9 105 [evsV l, .junk, .junk, evsV out, i64 i, bool ((List.range k).all (lets l i)), i64 k, .junk, .junk] [])) (hp := fun i => [.tok 30 38 0, .tok 30 38 0]) (I := fun k => k ≤ l.length) (m := fun k => l.length - k) (0 : Nat) (Nat.zero_le _) ?_ ?_
      · refine weak_cutS 2 (by decide) (by simp) ?_ ?_
        · simp [AObj.low, lows, AV.low, lows_ev]
        · simp [WeakL, AV.low, lows, lows_evs, lows_ev, lows_u8, AV.strip, AV.strip1]
      · intro k hk
        by_cases hkl : k < l.length
        · have e1k := evs_get hkl
          have e3k : ((k : Int) < (l.length : Int)) = True := eq_true (by omega)
          have ok := evs_ok ho k
          have hle : lets l i k = ((!decide ((l.getD k ev0d).path = x.path) || !knows (l.getD k ev0d) x) && (decide (i ≤ k) || !decide (cmpDot (l.getD k ev0d).r (l.getD k ev0d).q x.r x.q = 0))) := by unfold lets; rw [hx]
          have hsucc : (List.range (k + 1)).all (lets l i) = ((List.range k).all (lets l i) && lets l i k) := by rw [List.range_succ, List.all_append]; simp
          generalize (List.range k).all (lets l i) = b at *
          generalize l.getD k ev0d = z at *
          have l2 := ev_len ok.len
          have k2 := take38 ok
          have q : ∀ K, ask (ev2b knows) [.agg (evCells z), .agg (evCells x)] K = splitB (knows z x) K := fun K => ask_ev2b ok o1
          have goOn : ∀ (ov : List (Nat × AV)) (b' : Bool), (b && lets l i k) = b' → Again 0 (fun (k : Nat) => (St 9 105 [evsV l, .junk, .junk, evsV out, i64 i, bool ((List.range k).all (lets l i)), i64 k, .junk, .junk] [])) (fun i => [.tok 30 38 0, .tok 30 38 0]) (fun k => k ≤ l.length) (fun k => l.length - k) k
              (St 9 105 [evsV l, .junk, .junk, evsV out, i64 i, bool b', i64 ((k : Int) + 1), .junk, .junk] ov) [.tok 30 38 0, .tok 30 38 0] := by
            intro ov b' hb
            refine ⟨k + 1, by dsimp only; omega, by omega, ?_⟩
            dsimp only
            rw [hsucc, hb]
            refine weak_cutS 2 (by decide) (by simp) ?_ ?_
            · simp [AObj.low, lows, AV.low, lows_ev]
            · simp [WeakL, AV.low, lows, lows_evs, lows_ev, lows_u8, AV.strip, AV.strip1]
          cases b with
          | false =>
            simp (maxSteps := 2000000) -implicitDefEqProofs only [RS, RX, Nat.reduceLT, ↓RP0, ↓RP1, ↓RP2, ↓RP3, RV, RW, ↓reduceIte, Nat.reduceAdd, Nat.reduceSub, Nat.reduceMul, Nat.reduceLeDiff, Nat.reduceEqDiff, Int.reduceLT, Int.reduceLE, Int.reduceEq, Int.reduceNe, Int.reduceAdd, Int.reduceSub, Int.reduceMul, Int.reduceNeg, Int.reduceToNat, reduceCtorEq, e3k, evs_len, AV.cells]
            exact ⟨⟨by omega, by omega⟩, goOn _ false rfl⟩
          | true =>
            by_cases hik : i ≤ k
            · have e5 : ((i : Int) ≤ (k : Int)) = True := eq_true (by omega)
              simp (maxSteps := 2000000) -implicitDefEqProofs only [RS, RX, Nat.reduceLT, ↓RP0, ↓RP1, ↓RP2, ↓RP3, RV, RW, ↓reduceIte, Nat.reduceAdd, Nat.reduceSub, Nat.reduceMul, Nat.reduceLeDiff, Nat.reduceEqDiff, Int.reduceLT, Int.reduceLE, Int.reduceEq, Int.reduceNe, Int.reduceAdd, Int.reduceSub, Int.reduceMul, Int.reduceNeg, Int.reduceToNat, reduceCtorEq, ↓q, q, e1, e1k, e3, e3k, e5, evs_len, l1, l2, k1, k2, ev4, ev_take, ev_strip, AV.cells]
              refine ⟨fun h1 => ⟨fun h2 => ⟨⟨by omega, by omega⟩, goOn _ false (by simp [hle, h1, h2])⟩, fun h2 => ⟨⟨by omega, by omega⟩, goOn _ true (by simp [hle, h1, h2, hik])⟩⟩, fun h1 => ⟨⟨by omega, by omega⟩, goOn _ true (by simp [hle, h1, hik])⟩⟩
            · have e5 : ((i : Int) ≤ (k : Int)) = False := eq_false (by omega)
              simp (maxSteps := 2000000) -implicitDefEqProofs only [RS, RX, Nat.reduceLT, ↓RP0, ↓RP1, ↓RP2, ↓RP3, RV, RW, ↓reduceIte, Nat.reduceAdd, Nat.reduceSub, Nat.reduceMul, Nat.reduceLeDiff, Nat.reduceEqDiff, Int.reduceLT, Int.reduceLE, Int.reduceEq, Int.reduceNe, Int.reduceAdd, Int.reduceSub, Int.reduceMul, Int.reduceNeg, Int.reduceToNat, reduceCtorEq, ↓q, q, ↓ask_dot2n, ask_dot2n, e1, e1k, e3, e3k, e5, evs_len, l1, l2, k1, k2, ev4, ev_take, ev_strip, AV.cells, AV.strip1]
              refine ⟨fun h1 => ⟨fun h2 => ⟨⟨by omega, by omega⟩, goOn _ false (by simp [hle, h1, h2])⟩, fun h2 => ⟨fun h3 => ⟨⟨by omega, by omega⟩, goOn _ false (by simp [hle, h1, h2, hik, h3])⟩, fun h3 => ⟨⟨by omega, by omega⟩, goOn _ true (by simp [hle, h1, h2, hik, h3])⟩⟩⟩, fun h1 => ⟨fun h3 => ⟨⟨by omega, by omega⟩, goOn _ false (by simp [hle, h1, hik, h3])⟩, fun h3 => ⟨⟨by omega, by omega⟩, goOn _ true (by simp [hle, h1, hik, h3])⟩⟩⟩
        · obtain rfl : k = l.length := by omega
          cases hb : (List.range l.length).all (lets l i) with
          | false =>
            simp (maxSteps := 2000000) -implicitDefEqProofs only [RS, RX, Nat.reduceLT, ↓RP0, ↓RP1, ↓RP2, ↓RP3, RV, RW, ↓reduceIte, Nat.reduceAdd, Nat.reduceSub, Nat.reduceMul, Nat.reduceLeDiff, Nat.reduceEqDiff, Int.reduceLT, Int.reduceLE, Int.reduceEq, Int.reduceNe, Int.reduceAdd, Int.reduceSub, Int.reduceMul, Int.reduceNeg, Int.reduceToNat, reduceCtorEq, evs_len, Int.lt_irrefl]
            have hil : isLast l i = false := hb
            refine ⟨⟨by omega, by omega⟩, i + 1, by dsimp only; omega, by omega, ?_⟩
            dsimp only
            rw [hst]; unfold lastStep; rw [if_neg (by rw [hil]; decide)]
            refine weak_cutS 2 (by decide) (by simp) ?_ ?_
            · simp [AObj.low, lows, AV.low, lows_ev]
            · simp [WeakL, AV.low, lows, lows_evs, lows_ev, lows_u8, AV.strip, AV.strip1]
          | true =>
            simp (maxSteps := 2000000) -implicitDefEqProofs only [RS, RX, Nat.reduceLT, ↓RP0, ↓RP1, ↓RP2, ↓RP3, RV, RW, ↓reduceIte, Nat.reduceAdd, Nat.reduceSub, Nat.reduceMul, Nat.reduceLeDiff, Nat.reduceEqDiff, Int.reduceLT, Int.reduceLE, Int.reduceEq, Int.reduceNe, Int.reduceAdd, Int.reduceSub, Int.reduceMul, Int.reduceNeg, Int.reduceToNat, reduceCtorEq, evs_len, Int.lt_irrefl]
            have hil : isLast l i = true := hb
            have hpl := posIn_le x out
            refine loopB (st := fun (n : Nat) => (St 9 105 [evsV l, .junk, .junk, evsV out, i64 i, .junk, .junk, i64 n, .junk] [])) (hp := fun i => [.tok 30 38 0, .tok 30 38 0]) (I := fun n => n ≤ posIn x out) (m := fun n => out.length - n) (0 : Nat) (Nat.zero_le _) ?_ ?_
            · refine weak_cutS 2 (by decide) (by simp) ?_ ?_
              · simp [AObj.low, lows, AV.low, lows_ev]
              · simp [WeakL, AV.low, lows, lows_evs, lows_ev, lows_u8, AV.strip, AV.strip1]
            · intro n hn
              have hno : n ≤ out.length := by omega
              have ltn : ((out.map evV).take n).length = n := by simp; omega
              have lapp : ((out.map evV).take n ++ [AV.agg (evCells x)]).length = n + 1 := by simp; omega
              have ldn : (((out.map evV).take out.length).drop n).length = out.length - n := by simp
              have sing : ∀ y : AV, y ∈ [AV.agg (evCells x)] → y.isVal = true ∧ y.cells.length = 38 := fun y hy => by rw [List.mem_singleton.1 hy]; exact ⟨rfl, l1⟩
              have hmap : n = posIn x out → (out.map evV).take n ++ [AV.agg (evCells x)] ++ ((out.map evV).take out.length).drop n = (insLast out x).map evV := fun h => by
                unfold insLast
                rw [← h, List.take_of_length_le (by simp : (out.map evV).length ≤ out.length)]
                simp [List.map_take, List.map_drop]
              have fin : n = posIn x out → ∀ (ov : List (Nat × AV)) (X : List AObj), Again 0 (fun (i : Nat) => (St 9 105 [evsV l, .junk, .junk, evsV (lastTo l i), i64 i, .junk, .junk, .junk, .junk] [])) (fun i => [.tok 30 38 0, .tok 30 38 0]) (fun i => i ≤ l.length) (fun i => l.length - i) i
                  (St 9 105 [evsV l, .junk, .junk, .sl 38 ((out.map evV).take n ++ [AV.agg (evCells x)] ++ ((out.map evV).take out.length).drop n) (some 2), i64 ((i : Int) + 1), .junk, .junk, i64 (n : Int), .sl 38 ((out.map evV).take n ++ [AV.agg (evCells x)] ++ ((out.map evV).take out.length).drop n) (some 2)] ov)
                  (.tok 30 38 0 :: .tok 30 38 0 :: X) := by
                intro h ov X
                refine ⟨i + 1, by dsimp only; omega, by omega, ?_⟩
                dsimp only
                rw [hst]; unfold lastStep; rw [if_pos hil, hx, hmap h]
                refine weak_cutS 2 (by decide) (by simp) ?_ ?_
                · simp [AObj.low, lows, AV.low, lows_ev]
                · simp [WeakL, AV.low, lows, lows_evs, lows_ev, lows_u8, AV.strip, AV.strip1]
              by_cases hnl : n < out.length
              · have e1n := evs_get hnl
                have e3n : ((n : Int) < (out.length : Int)) = True := eq_true (by omega)
                have on := evs_ok hoo n
                have hpos := posIn_at (x := x) hnl hn
                generalize out.getD n ev0d = y at *
                have l3 := ev_len on.len
                have k3 := take38 on
                have qc : ∀ K, ask (ev2n cmpEv) [.agg (evCells y), .agg (evCells x)] K = K (i64 (cmpEv y x)) := fun K => ask_ev2n on o1
                by_cases hc : cmpEv y x < 0
                · have hc' : (cmpEv y x < 0) = True := eq_true hc
                  simp (maxSteps := 2000000) -implicitDefEqProofs only [RS, RX, Nat.reduceLT, ↓RP0, ↓RP1, ↓RP2, ↓RP3, RV, RW, ↓reduceIte, Nat.reduceAdd, Nat.reduceSub, Nat.reduceMul, Nat.reduceLeDiff, Nat.reduceEqDiff, Int.reduceLT, Int.reduceLE, Int.reduceEq, Int.reduceNe, Int.reduceAdd, Int.reduceSub, Int.reduceMul, Int.reduceNeg, Int.reduceToNat, reduceCtorEq, ↓qc, qc, e1, e1n, e3, e3n, hc', evs_len, l1, l3, k1, k3, ev_strip, AV.cells]
                  refine ⟨⟨by omega, by omega⟩, n + 1, by dsimp only; omega, hpos.1 hc, ?_⟩
                  refine weak_cutS 2 (by decide) (by simp) ?_ ?_
                  · simp [AObj.low, lows, AV.low, lows_ev]
                  · simp [WeakL, AV.low, lows, lows_evs, lows_ev, lows_u8, AV.strip, AV.strip1]
                · have hc' : (cmpEv y x < 0) = False := eq_false hc
                  simp (maxSteps := 2000000) -implicitDefEqProofs only [RS, RX, Nat.reduceLT, ↓RP0, ↓RP1, ↓RP2, ↓RP3, RV, RW, ↓reduceIte, Nat.reduceAdd, Nat.reduceSub, Nat.reduceMul, Nat.reduceLeDiff, Nat.reduceEqDiff, Int.reduceLT, Int.reduceLE, Int.reduceEq, Int.reduceNe, Int.reduceAdd, Int.reduceSub, Int.reduceMul, Int.reduceNeg, Int.reduceToNat, reduceCtorEq, ↓qc, qc, e1, e1n, e3, e3n, hc', evs_len, l1, l3, k1, k3, ev_strip, AV.cells]
                  refine ⟨(fun y hy => by cases hy), .inl trivial, by omega, .inl trivial, .inl trivial, by omega, by omega, sing, .inl trivial, .inl trivial, by omega, by omega, .inl trivial, by omega, by omega, .inl trivial, .inl trivial, by omega, by omega, ⟨by omega, by omega⟩, ?_⟩
                  exact fin (hpos.2 hc).symm _ _
              · have hnl' : n = out.length := by omega
                have e3n : ((n : Int) < (out.length : Int)) = False := eq_false (by omega)
                simp (maxSteps := 2000000) -implicitDefEqProofs only [RS, RX, Nat.reduceLT, ↓RP0, ↓RP1, ↓RP2, ↓RP3, RV, RW, ↓reduceIte, Nat.reduceAdd, Nat.reduceSub, Nat.reduceMul, Nat.reduceLeDiff, Nat.reduceEqDiff, Int.reduceLT, Int.reduceLE, Int.reduceEq, Int.reduceNe, Int.reduceAdd, Int.reduceSub, Int.reduceMul, Int.reduceNeg, Int.reduceToNat, reduceCtorEq, e1, e3, e3n, evs_len, l1, k1, ev_strip, AV.cells]
                refine ⟨(fun y hy => by cases hy), .inl trivial, by omega, .inl trivial, .inl trivial, by omega, by omega, sing, .inl trivial, .inl trivial, by omega, by omega, .inl trivial, by omega, by omega, .inl trivial, .inl trivial, by omega, by omega, ⟨by omega, by omega⟩, ?_⟩
                exact fin (by omega) _ _
    · obtain rfl : i = l.length := by omega
      simp (maxSteps := 2000000) -implicitDefEqProofs only [RS, RX, Nat.reduceLT, ↓RP0, ↓RP1, ↓RP2, ↓RP3, RV, RW, ↓reduceIte, Nat.reduceAdd, Nat.reduceSub, Nat.reduceMul, Nat.reduceLeDiff, Nat.reduceEqDiff, Int.reduceLT, Int.reduceLE, Int.reduceEq, Int.reduceNe, Int.reduceAdd, Int.reduceSub, Int.reduceMul, Int.reduceNeg, Int.reduceToNat, reduceCtorEq, evs_len, Int.lt_irrefl]
      rfl
end Go.AL.Path
