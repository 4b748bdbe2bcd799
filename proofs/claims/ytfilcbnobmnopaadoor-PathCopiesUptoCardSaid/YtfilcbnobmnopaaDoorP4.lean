/- Path: the document's numbers and parts. -/
import Derived.Test.YtfilcbnobmnopaaDoorP3
set_option linter.unusedSimpArgs false
set_option linter.unusedVariables false
set_option maxRecDepth 100000
namespace Go.AL.Path
open Go Go.RowKit Go.Proofs Go.AL

theorem itoa_small {n : Int} (h0 : 0 ≤ n) (h1 : n < 10) : Lib.itoa n = [UInt8.ofNat (48 + n).toNat] := by
  unfold Lib.itoa
  rw [if_neg (by omega), Lib.decDigits_one (by omega)]
  congr 2
  omega
theorem itoa_neg1 {n : Int} (h0 : n < 0) (h1 : -10 < n) : Lib.itoa n = [45] ++ [UInt8.ofNat (48 - n).toNat] := by
  unfold Lib.itoa
  rw [if_pos (by omega), Lib.decDigits_one (by omega)]
  simp only [List.cons_append, List.nil_append, List.cons.injEq, and_true, true_and]
  congr 1
  omega
theorem itoa_pos {n : Int} (h : 10 ≤ n) : Lib.itoa n = Lib.itoa (n.tdiv 10) ++ [UInt8.ofNat (48 + n.tmod 10).toNat] := by
  have e1 : n.tdiv 10 = ((n.toNat / 10 : Nat) : Int) := by rw [Int.tdiv_eq_ediv_of_nonneg (by omega)]; omega
  have e2 : n.tmod 10 = ((n.toNat % 10 : Nat) : Int) := by rw [Int.tmod_eq_emod_of_nonneg (by omega)]; omega
  rw [e1, e2]
  unfold Lib.itoa
  rw [if_neg (by omega), if_neg (by omega)]
  conv => lhs; rw [Lib.decDigits, dif_neg (by omega)]
  congr 3
theorem tdm_pos {n : Int} (h : 0 ≤ n) : n.tdiv 10 = ((n.natAbs / 10 : Nat) : Int) ∧ n.tmod 10 = ((n.natAbs % 10 : Nat) : Int) := by
  constructor
  · rw [Int.tdiv_eq_ediv_of_nonneg (by omega)]; omega
  · rw [Int.tmod_eq_emod_of_nonneg (by omega)]; omega
theorem tdm_neg {n : Int} (h : n ≤ 0) : n.tdiv 10 = -((n.natAbs / 10 : Nat) : Int) ∧ n.tmod 10 = -((n.natAbs % 10 : Nat) : Int) := by
  obtain ⟨m, rfl⟩ : ∃ m : Nat, n = -(m : Int) := ⟨n.natAbs, by omega⟩
  constructor
  · rw [Int.neg_tdiv, Int.tdiv_eq_ediv_of_nonneg (by omega)]; omega
  · rw [Int.neg_tmod, Int.tmod_eq_emod_of_nonneg (by omega)]; omega
theorem itoa_negs {n : Int} (h : n ≤ -10) : Lib.itoa n = Lib.itoa (n.tdiv 10) ++ [UInt8.ofNat (48 - n.tmod 10).toNat] := by
  obtain ⟨m, rfl⟩ : ∃ m : Nat, n = -(m : Int) := ⟨n.natAbs, by omega⟩
  have e1 : (-(m : Int)).tdiv 10 = -((m / 10 : Nat) : Int) := by rw [Int.neg_tdiv, Int.tdiv_eq_ediv_of_nonneg (by omega)]; omega
  have e2 : (-(m : Int)).tmod 10 = -((m % 10 : Nat) : Int) := by rw [Int.neg_tmod, Int.tmod_eq_emod_of_nonneg (by omega)]; omega
  rw [e1, e2, Lib.itoa_neg m (by omega), Lib.itoa_neg (m / 10) (by omega), Lib.decDigits, dif_neg (by omega)]
  simp only [List.cons_append, List.cons.injEq, true_and, List.append_cancel_left_eq, and_true]
  congr 1
  omega
theorem itoa_length (n : Int) (h : In64 n) : (Lib.itoa n).length ≤ 100 := by
  have hd : ∀ k u : Nat, u < 10 ^ (k + 1) → (Lib.decDigits u).length ≤ k + 1 := by
    intro k
    induction k with
    | zero => intro u hu; rw [Lib.decDigits_one (by simpa using hu)]; simp
    | succ k ih =>
      intro u hu
      rw [Lib.decDigits]
      split
      · simp
      · have := ih (u / 10) (by rw [Nat.div_lt_iff_lt_mul (by decide)]; rw [← Nat.pow_succ]; exact hu)
        simp; omega
  obtain ⟨h1, h2⟩ := h
  unfold Lib.itoa
  split
  · have := hd 19 n.natAbs (by have : (10:Nat)^(19+1) = 100000000000000000000 := by decide
                               omega)
    simp; omega
  · have := hd 19 n.toNat (by have : (10:Nat)^(19+1) = 100000000000000000000 := by decide
                              omega)
    omega

def c30 : ACode := (.seq (.reg false 0 [⟨(.some 2), none, (.q .mv), [(.c (.imm (.string (B []))))]⟩]) (.seq (.seq (.reg false 0 [⟨(.some 3), none, (.q .mv), [(.t 0)]⟩, ⟨(.some 4), none, (.q (.bin .lss 2)), [(.t 3), (.c (.imm (.int .i64 0)))]⟩, ⟨(.some 5), none, (.q .mv), [(.t 4)]⟩, ⟨(.some 6), (.some (5, true)), (.q .mv), [(.t 0)]⟩, ⟨(.some 7), (.some (5, true)), (.q (.bin .gtr 2)), [(.t 6), (.c (.imm (.int .i64 (-10))))]⟩, ⟨(.some 8), none, (.q .pick), [(.t 5), (.t 7), (.c (.imm (.bool false)))]⟩]) (.cond (.t 8) (.seq (.reg false 0 [⟨(.some 9), none, (.q .mv), [(.t 0)]⟩, ⟨(.some 10), none, (.q (.bin .sub 2)), [(.c (.imm (.int .i64 48))), (.t 9)]⟩, ⟨(.some 11), none, (.q (.convI .u8)), [(.t 10)]⟩, ⟨(.some 12), none, (.q (.bslice 1)), [(.t 11)]⟩, ⟨(.some 13), none, (.q .toStr), [(.t 12)]⟩, ⟨(.some 14), none, (.q (.bin .add 9)), [(.c (.imm (.string (B [45])))), (.t 13)]⟩, ⟨(.some 2), none, (.q .mv), [(.t 14)]⟩]) .ret) .skip)) (.seq (.seq (.reg false 0 [⟨(.some 15), none, (.q .mv), [(.t 0)]⟩, ⟨(.some 16), none, (.q (.bin .lss 2)), [(.t 15), (.c (.imm (.int .i64 0)))]⟩]) (.cond (.t 16) (.seq (.reg true 0 [⟨(.some 17), none, (.q .mv), [(.t 0)]⟩, ⟨(.some 18), none, (.q (.bin .quo 2)), [(.t 17), (.c (.imm (.int .i64 10)))]⟩, ⟨(.some 19), none, (.call true), [(.c (.fn (.func 30) [] [])), (.t 18)]⟩, ⟨(.some 20), none, (.q .mv), [(.t 0)]⟩, ⟨(.some 21), none, (.q (.bin .rem 2)), [(.t 20), (.c (.imm (.int .i64 10)))]⟩, ⟨(.some 22), none, (.q (.bin .sub 2)), [(.c (.imm (.int .i64 48))), (.t 21)]⟩, ⟨(.some 23), none, (.q (.convI .u8)), [(.t 22)]⟩, ⟨(.some 24), none, (.q (.bslice 1)), [(.t 23)]⟩, ⟨(.some 25), none, (.q .toStr), [(.t 24)]⟩, ⟨(.some 26), none, (.q (.bin .add 9)), [(.t 19), (.t 25)]⟩, ⟨(.some 2), none, (.q .mv), [(.t 26)]⟩]) .ret) .skip)) (.seq (.seq (.reg false 0 [⟨(.some 27), none, (.q .mv), [(.t 0)]⟩, ⟨(.some 28), none, (.q (.bin .lss 2)), [(.t 27), (.c (.imm (.int .i64 10)))]⟩]) (.cond (.t 28) (.seq (.reg false 0 [⟨(.some 29), none, (.q .mv), [(.t 0)]⟩, ⟨(.some 30), none, (.q (.bin .add 2)), [(.c (.imm (.int .i64 48))), (.t 29)]⟩, ⟨(.some 31), none, (.q (.convI .u8)), [(.t 30)]⟩, ⟨(.some 32), none, (.q (.bslice 1)), [(.t 31)]⟩, ⟨(.some 33), none, (.q .toStr), [(.t 32)]⟩, ⟨(.some 2), none, (.q .mv), [(.t 33)]⟩]) .ret) .skip)) (.seq (.reg true 0 [⟨(.some 34), none, (.q .mv), [(.t 0)]⟩, ⟨(.some 35), none, (.q (.bin .quo 2)), [(.t 34), (.c (.imm (.int .i64 10)))]⟩, ⟨(.some 36), none, (.call true), [(.c (.fn (.func 30) [] [])), (.t 35)]⟩, ⟨(.some 37), none, (.q .mv), [(.t 0)]⟩, ⟨(.some 38), none, (.q (.bin .rem 2)), [(.t 37), (.c (.imm (.int .i64 10)))]⟩, ⟨(.some 39), none, (.q (.bin .add 2)), [(.c (.imm (.int .i64 48))), (.t 38)]⟩, ⟨(.some 40), none, (.q (.convI .u8)), [(.t 39)]⟩, ⟨(.some 41), none, (.q (.bslice 1)), [(.t 40)]⟩, ⟨(.some 42), none, (.q .toStr), [(.t 41)]⟩, ⟨(.some 43), none, (.q (.bin .add 9)), [(.t 36), (.t 42)]⟩, ⟨(.some 2), none, (.q .mv), [(.t 43)]⟩]) .ret)))))
theorem fn30 : IsFn Tryd.prog 30 [] c30 [2] 44 := ⟨_, _, Tryd.func30, rfl, by decide +kernel, by kernel_rfl, rfl, rfl⟩
theorem p30 : ∀ (k : Nat) (n : Int), n.natAbs ≤ k → In64 n → Pure Tryd.prog G 30 [i64 n] (T (Lib.itoa n)) := by
  intro k
  induction k with
  | zero =>
    intro n hk h
    obtain rfl : n = 0 := by omega
    refine pure_of_code' (S := sp [] []) hm hG (sp_holds .nil .nil) fn30 ([i64 0, .junk, .junk, .junk, .junk, .junk, .junk, .junk, .junk, .junk, .junk, .junk, .junk, .junk, .junk, .junk, .junk, .junk, .junk, .junk, .junk, .junk, .junk, .junk, .junk, .junk, .junk, .junk, .junk, .junk, .junk, .junk, .junk, .junk, .junk, .junk, .junk, .junk, .junk, .junk, .junk, .junk, .junk, .junk]) rfl (by simp [lows, AV.low]) (by simp [AV.low]) ?_
    simp (maxSteps := 2000000) -implicitDefEqProofs only [c30, ↓RP0, ↓RP1, ↓RP2, ↓RP3, RV, List.map_cons, List.map_nil, List.cons_append, List.nil_append, List.append_nil, List.length_cons, List.length_nil, List.getElem?_cons_zero, List.getElem?_cons_succ, List.set_cons_zero, List.set_cons_succ, true_imp_iff, false_imp_iff, not_true_eq_false, not_false_eq_true, and_true, true_and, and_false, false_and, implies_true, ↓reduceIte, Bool.false_eq_true, Bool.true_eq_false, Bool.not_eq_true, Bool.not_true, Bool.not_false, beq_self_eq_true, Bool.true_beq, Bool.false_beq, List.take_zero, List.drop_zero, List.take_succ_cons, List.drop_succ_cons, List.take_nil, List.drop_nil, List.replicate_zero, List.replicate_succ, Nat.reduceAdd, Nat.reduceSub, Nat.reduceMul, Nat.reduceLeDiff, Nat.reduceEqDiff, Nat.zero_add, Nat.add_zero, Int.reduceLT, Int.reduceLE, Int.reduceEq, Int.reduceNe, Int.reduceAdd, Int.reduceSub, Int.reduceMul, Int.reduceNeg, Int.reduceToNat, Int.toNat_natCast, Int.natCast_nonneg, Int.natCast_zero, Nat.lt_irrefl, Option.some.injEq, reduceCtorEq, Option.map_some, ne_eq]
    rw [wrap_u8 (n := 48) (by decide) (by decide)]
    refine ⟨⟨by decide, by decide⟩, by simp [AV.isVal, AV.cells], ?_⟩
    rw [itoa_small (by decide) (by decide)]; rfl
  | succ k ih =>
    intro n hk h
    refine pure_of_code' (S := sp [(30, num1 (fun m => m.natAbs ≤ k ∧ In64 m) fun m => T (Lib.itoa m))] []) hm hG (sp_holds (.cons (told_num1 fun m hm => ih m hm.1 hm.2) .nil) .nil) fn30 ([i64 n, .junk, .junk, .junk, .junk, .junk, .junk, .junk, .junk, .junk, .junk, .junk, .junk, .junk, .junk, .junk, .junk, .junk, .junk, .junk, .junk, .junk, .junk, .junk, .junk, .junk, .junk, .junk, .junk, .junk, .junk, .junk, .junk, .junk, .junk, .junk, .junk, .junk, .junk, .junk, .junk, .junk, .junk, .junk]) rfl (by simp [lows, AV.low]) (by simp [AV.low]) ?_
    obtain ⟨hl, hu⟩ := h
    simp (maxSteps := 2000000) -implicitDefEqProofs only [c30, ↓RP0, ↓RP1, ↓RP2, ↓RP3, RV, List.map_cons, List.map_nil, List.cons_append, List.nil_append, List.append_nil, List.length_cons, List.length_nil, List.getElem?_cons_zero, List.getElem?_cons_succ, List.set_cons_zero, List.set_cons_succ, true_imp_iff, false_imp_iff, not_true_eq_false, not_false_eq_true, and_true, true_and, and_false, false_and, implies_true, ↓reduceIte, Bool.false_eq_true, Bool.true_eq_false, Bool.not_eq_true, Bool.not_true, Bool.not_false, beq_self_eq_true, Bool.true_beq, Bool.false_beq, List.take_zero, List.drop_zero, List.take_succ_cons, List.drop_succ_cons, List.take_nil, List.drop_nil, List.replicate_zero, List.replicate_succ, Nat.reduceAdd, Nat.reduceSub, Nat.reduceMul, Nat.reduceLeDiff, Nat.reduceEqDiff, Nat.zero_add, Nat.add_zero, Int.reduceLT, Int.reduceLE, Int.reduceEq, Int.reduceNe, Int.reduceAdd, Int.reduceSub, Int.reduceMul, Int.reduceNeg, Int.reduceToNat, Int.toNat_natCast, Int.natCast_nonneg, Int.natCast_zero, Nat.lt_irrefl, Option.some.injEq, reduceCtorEq, Option.map_some, ne_eq]
    have hv : ∀ (x : Int) y, y ∈ [AV.imm (Value.int .u8 x)] → y.isVal = true ∧ y.cells.length = 1 := by simp [AV.isVal, AV.cells]
    have hL : ∀ m : Int, In64 m → (((Lib.itoa m).length + 1 : Nat) : Int) ≤ 9223372036854775807 := fun m hm => by have := itoa_length m hm; omega
    rcases (by omega : n < 0 ∨ n ≥ 0) with hn | hn
    · obtain ⟨t1, t2⟩ := tdm_neg (n := n) (by omega)
      have hd : In64 (n.tdiv 10) := ⟨by omega, by omega⟩
      refine ⟨fun _ => ⟨fun h => ?_, fun h => ⟨fun _ => ?_, fun h => absurd hn h⟩⟩, fun h => absurd hn h⟩
      · refine ⟨⟨by omega, by omega⟩, hv _, by decide, ?_⟩
        rw [wrap_u8 (by omega) (by omega), itoa_neg1 hn h]; rfl
      · refine ⟨hd, ⟨by omega, hd⟩, ⟨by omega, by omega⟩, hv _, hL _ hd, ?_⟩
        rw [wrap_u8 (by omega) (by omega), itoa_negs (n := n) (by omega)]
    · obtain ⟨t1, t2⟩ := tdm_pos (n := n) (by omega)
      have hd : In64 (n.tdiv 10) := ⟨by omega, by omega⟩
      refine ⟨fun h => absurd h (by omega), fun _ => ⟨fun h => absurd h (by omega), fun _ => ⟨fun h => ?_, fun h => ?_⟩⟩⟩
      · refine ⟨⟨by omega, by omega⟩, hv _, ?_⟩
        rw [wrap_u8 (by omega) (by omega), itoa_small (by omega) h]
      · refine ⟨hd, ⟨by omega, hd⟩, ⟨by omega, by omega⟩, hv _, hL _ hd, ?_⟩
        rw [wrap_u8 (by omega) (by omega), itoa_pos (n := n) (by omega)]

/-- The text of parts, of which a beginning has been read. -/
def goParts : List UInt8 → List UInt8 → Bool
  | cur, [] => partOk cur
  | cur, c :: r => if c = 47 then partOk cur && goParts [] r else goParts (cur ++ [c]) r
def partsOk (s : List UInt8) : Bool := goParts [] s

theorem goParts_sep {s : List UInt8} {f i : Nat} (hi : i < s.length) (h : s[i]? = some 47) : goParts ((s.take i).drop f) (s.drop i) = (partOk ((s.take i).drop f) && goParts ((s.take (i + 1)).drop (i + 1)) (s.drop (i + 1))) := by
  rw [List.getElem?_eq_getElem hi] at h
  rw [List.drop_eq_getElem_cons hi, goParts, if_pos (Option.some.inj h), show (s.take (i + 1)).drop (i + 1) = [] from List.drop_eq_nil_of_le (by simp; omega)]
theorem goParts_go {s : List UInt8} {f i : Nat} (hf : f ≤ i) (hi : i < s.length) (h : ¬ s[i]? = some 47) : goParts ((s.take i).drop f) (s.drop i) = goParts ((s.take (i + 1)).drop f) (s.drop (i + 1)) := by
  rw [List.getElem?_eq_getElem hi] at h
  rw [List.drop_eq_getElem_cons hi, goParts, if_neg (fun e => h (by rw [e]))]
  rw [List.take_add_one, List.getElem?_eq_getElem hi, Option.toList_some, List.drop_append_of_le_length (by simp; omega)]
theorem goParts_end {s : List UInt8} {f : Nat} : goParts ((s.take s.length).drop f) (s.drop s.length) = partOk ((s.take s.length).drop f) := by
  rw [List.drop_length, goParts]

def c31 : ACode := (.seq (.reg false 0 [⟨(.some 2), none, (.q .mv), [(.c (.imm (.bool false)))]⟩]) (.seq (.reg false 0 [⟨(.some 3), none, (.q .mv), [(.c (.imm (.int .i64 0)))]⟩]) (.seq (.seq (.reg false 0 [⟨(.some 4), none, (.q .mv), [(.c (.imm (.int .i64 0)))]⟩]) (.block 0 (.loop (.seq (.seq (.reg false 0 [⟨(.some 5), none, (.q .mv), [(.t 4)]⟩, ⟨(.some 6), none, (.q .mv), [(.t 0)]⟩, ⟨(.some 7), none, (.q .lenS), [(.t 6)]⟩, ⟨(.some 8), none, (.q (.bin .leq 3)), [(.t 5), (.t 7)]⟩]) (.cond (.t 8) .skip (.exit 0))) (.seq (.block 1 (.seq (.reg false 0 [⟨(.some 11), none, (.q .mv), [(.t 4)]⟩, ⟨(.some 12), none, (.q .mv), [(.t 0)]⟩, ⟨(.some 13), none, (.q .lenS), [(.t 12)]⟩, ⟨(.some 14), none, (.q (.bin .eql 3)), [(.t 11), (.t 13)]⟩, ⟨(.some 15), none, (.q .mv), [(.t 14)]⟩, ⟨(.some 16), (.some (15, false)), (.q .mv), [(.t 0)]⟩, ⟨(.some 17), (.some (15, false)), (.q .mv), [(.t 4)]⟩, ⟨(.some 18), (.some (15, false)), (.q .idxS), [(.t 16), (.t 17)]⟩, ⟨(.some 19), (.some (15, false)), (.q (.bin .eql 5)), [(.t 18), (.c (.imm (.int .u8 47)))]⟩, ⟨(.some 20), none, (.q .pick), [(.t 15), (.c (.imm (.bool true))), (.t 19)]⟩]) (.cond (.t 20) (.seq (.seq (.reg false 0 [⟨(.some 21), none, (.q .mv), [(.t 0)]⟩, ⟨(.some 22), none, (.q .mv), [(.t 3)]⟩, ⟨(.some 23), none, (.q .mv), [(.t 4)]⟩, ⟨(.some 24), none, (.q (.sliceS true true)), [(.t 21), (.t 22), (.t 23)]⟩, ⟨(.some 25), none, (.call true), [(.c (.fn (.func 37) [] [])), (.t 24)]⟩, ⟨(.some 26), none, (.q (.un .not)), [(.t 25)]⟩]) (.cond (.t 26) (.seq (.reg false 0 [⟨(.some 2), none, (.q .mv), [(.c (.imm (.bool false)))]⟩]) .ret) .skip)) (.reg false 0 [⟨(.some 27), none, (.q .mv), [(.t 4)]⟩, ⟨(.some 28), none, (.q (.bin .add 3)), [(.t 27), (.c (.imm (.int .i64 1)))]⟩, ⟨(.some 3), none, (.q .mv), [(.t 28)]⟩])) .skip))) (.reg false 0 [⟨(.some 9), none, (.q .mv), [(.t 4)]⟩, ⟨(.some 10), none, (.q (.bin .add 3)), [(.t 9), (.c (.imm (.int .i64 1)))]⟩, ⟨(.some 4), none, (.q .mv), [(.t 10)]⟩])))))) (.seq (.reg false 0 [⟨(.some 2), none, (.q .mv), [(.c (.imm (.bool true)))]⟩]) .ret))))
theorem fn31 : IsFn Tryd.prog 31 [] c31 [2] 29 := ⟨_, _, Tryd.func31, rfl, by decide +kernel, by kernel_rfl, rfl, rfl⟩
theorem p31 (s : List UInt8) (hs : s.length ≤ 1099511627776) : Pure Tryd.prog G 31 [T s] (bool (partsOk s)) := by
  refine pure_of_code' (S := sp [(37, txt1b (fun l => l.length ≤ 1099511627776) partOk)] []) hm hG (sp_holds (.cons (told_txt1b p37) .nil) .nil) fn31 ([T s, .junk, .junk, .junk, .junk, .junk, .junk, .junk, .junk, .junk, .junk, .junk, .junk, .junk, .junk, .junk, .junk, .junk, .junk, .junk, .junk, .junk, .junk, .junk, .junk, .junk, .junk, .junk, .junk]) rfl (by simp [lows, AV.low]) (by simp [AV.low]) ?_
  simp (maxSteps := 2000000) -implicitDefEqProofs only [c31, ↓RP0, ↓RP1, ↓RP2, ↓RP3, RV, List.map_cons, List.map_nil, List.cons_append, List.nil_append, List.append_nil, List.length_cons, List.length_nil, List.getElem?_cons_zero, List.getElem?_cons_succ, List.set_cons_zero, List.set_cons_succ, true_imp_iff, false_imp_iff, not_true_eq_false, not_false_eq_true, and_true, true_and, and_false, false_and, implies_true, ↓reduceIte, Bool.false_eq_true, Bool.true_eq_false, Bool.not_eq_true, Bool.not_true, Bool.not_false, beq_self_eq_true, Bool.true_beq, Bool.false_beq, List.take_zero, List.drop_zero, List.take_succ_cons, List.drop_succ_cons, List.take_nil, List.drop_nil, List.replicate_zero, List.replicate_succ, Nat.reduceAdd, Nat.reduceSub, Nat.reduceMul, Nat.reduceLeDiff, Nat.reduceEqDiff, Nat.zero_add, Nat.add_zero, Int.reduceLT, Int.reduceLE, Int.reduceEq, Int.reduceNe, Int.reduceAdd, Int.reduceSub, Int.reduceMul, Int.reduceNeg, Int.reduceToNat, Int.toNat_natCast, Int.natCast_nonneg, Int.natCast_zero, Nat.lt_irrefl, Option.some.injEq, reduceCtorEq, Option.map_some, ne_eq]
  refine loopB (X := Nat × Nat) (st := fun x => [T s, .junk, .junk, i64 x.1, i64 x.2, .junk, .junk, .junk, .junk, .junk, .junk, .junk, .junk, .junk, .junk, .junk, .junk, .junk, .junk, .junk, .junk, .junk, .junk, .junk, .junk, .junk, .junk, .junk, .junk])
    (hp := fun _ => []) (I := fun x => x.2 ≤ s.length + 1 ∧ (x.2 ≤ s.length → x.1 ≤ x.2 ∧ partsOk s = goParts ((s.take x.2).drop x.1) (s.drop x.2)) ∧ (x.2 = s.length + 1 → partsOk s = true)) (m := fun x => s.length + 1 - x.2) (0, 0) ⟨Nat.zero_le _, fun _ => ⟨Nat.le_refl _, rfl⟩, fun h => by dsimp only at h; omega⟩ ?_ ?_
  · refine weak_nil ?_; simp [WeakL, AV.low, lows]
  · rintro ⟨f, i⟩ ⟨hi, h1, h2⟩
    dsimp only at hi h1 h2
    simp (maxSteps := 2000000) -implicitDefEqProofs only [↓RP0, ↓RP1, ↓RP2, ↓RP3, RV, List.map_cons, List.map_nil, List.cons_append, List.nil_append, List.append_nil, List.length_cons, List.length_nil, List.getElem?_cons_zero, List.getElem?_cons_succ, List.set_cons_zero, List.set_cons_succ, true_imp_iff, false_imp_iff, not_true_eq_false, not_false_eq_true, and_true, true_and, and_false, false_and, implies_true, ↓reduceIte, Bool.false_eq_true, Bool.true_eq_false, Bool.not_eq_true, Bool.not_true, Bool.not_false, beq_self_eq_true, Bool.true_beq, Bool.false_beq, List.take_zero, List.drop_zero, List.take_succ_cons, List.drop_succ_cons, List.take_nil, List.drop_nil, List.replicate_zero, List.replicate_succ, Nat.reduceAdd, Nat.reduceSub, Nat.reduceMul, Nat.reduceLeDiff, Nat.reduceEqDiff, Nat.zero_add, Nat.add_zero, Int.reduceLT, Int.reduceLE, Int.reduceEq, Int.reduceNe, Int.reduceAdd, Int.reduceSub, Int.reduceMul, Int.reduceNeg, Int.reduceToNat, Int.toNat_natCast, Int.natCast_nonneg, Int.natCast_zero, Nat.lt_irrefl, Option.some.injEq, reduceCtorEq, Option.map_some, ne_eq]
    have hp : ((s.take i).drop f).length ≤ 1099511627776 := by simp; omega
    refine ⟨fun h => ⟨fun he => ?_, fun he => ⟨by omega, fun hb => ?_, fun hb => ?_⟩⟩, fun h => ?_⟩
    · obtain rfl : i = s.length := by omega
      obtain ⟨hf, hg⟩ := h1 (Nat.le_refl _)
      rw [goParts_end] at hg
      refine ⟨by omega, by omega, hp, fun ho => ⟨⟨by omega, by omega⟩, ⟨by omega, by omega⟩, (s.length + 1, s.length + 1), by dsimp only; omega, ⟨by dsimp only; omega, fun h => by dsimp only at h; omega, fun _ => hg.trans ho⟩, ?_⟩, fun ho => by rw [hg, ho]⟩
      refine weak_nil ?_; simp [WeakL, AV.low, lows]
    · obtain ⟨hf, hg⟩ := h1 (by omega)
      rw [goParts_sep (by omega) ((at'_eq (by omega) 47).1 hb)] at hg
      refine ⟨by omega, by omega, hp, fun ho => ⟨⟨by omega, by omega⟩, ⟨by omega, by omega⟩, (i + 1, i + 1), by dsimp only; omega, ⟨by dsimp only; omega, fun _ => ⟨Nat.le_refl _, by rw [hg, ho]; rfl⟩, fun h => by dsimp only at h; omega⟩, ?_⟩, fun ho => by rw [hg, ho]; rfl⟩
      refine weak_nil ?_; simp [WeakL, AV.low, lows]
    · obtain ⟨hf, hg⟩ := h1 (by omega)
      rw [goParts_go hf (by omega) fun e => hb (((at'_eq (by omega) 47).2 e).trans rfl)] at hg
      refine ⟨⟨by omega, by omega⟩, (f, i + 1), by dsimp only; omega, ⟨by dsimp only; omega, fun _ => ⟨by dsimp only; omega, hg⟩, fun h => by dsimp only at h; omega⟩, ?_⟩
      refine weak_nil ?_; simp [WeakL, AV.low, lows]
    · rw [h2 (by omega)]

/-- A path's two fields. -/
def splitP (s : List UInt8) : Option (List UInt8 × List UInt8) :=
  if partsOk s = false ∨ 254 < s.length then none
  else if s.length ≤ 100 then some ([], s)
  else
    let n := Lib.indexByte (s.drop (s.length - 101)) 47
    if n < 0 ∨ ((s.length - 101 : Nat) : Int) + n > 155 then none
    else some (s.take (s.length - 101 + n.toNat), s.drop (s.length - 101 + n.toNat + 1))

def splitV (s : List UInt8) : AV :=
  match splitP s with
  | some (a, b) => .tup [T a, T b, i64 0]
  | none => .tup [T [], T [], i64 9]

def joinP (p n : List UInt8) : Option (List UInt8) :=
  let s := if p = [] then n else p ++ [47] ++ n
  if splitP s = some (p, n) then some s else none
def joinV (p n : List UInt8) : AV :=
  match joinP p n with
  | some s => .tup [T s, i64 0]
  | none => .tup [T [], i64 9]
def mayP (s : List UInt8) : Bool := (splitP s).isSome
def longest : List UInt8 := [126] ++ Lib.itoa 31 ++ [45] ++ Lib.itoa 1099511627776
def ownP (s : List UInt8) : Bool := !s.contains 126 && mayP s && decide (s.length ≤ 200) && mayP (s ++ longest)
def copyP (s : List UInt8) (r q : Int) : List UInt8 := s ++ [126] ++ Lib.itoa r ++ [45] ++ Lib.itoa q
end Go.AL.Path
