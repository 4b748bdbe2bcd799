/- slices.Clone at shown. -/
import Derived.Test.YtofokmpdioblkaaGreatDoorG26
import Derived.Test.YtofokmpdioblkaaGreatDoorG27
import Derived.WalkKit
import Derived.WalkSpells
import Derived.WalkLawsBesides
import Derived.Lib.SliceRun
import Derived.Lib.Walk
import Derived.Deep.LoopGhost
import Derived.Shelf.RegionOpenPlain
set_option linter.unusedSimpArgs false
set_option linter.unusedVariables false
set_option maxRecDepth 100000
namespace Go.AL.Path
open Go Go.RowKit Go.Proofs Go.AL
theorem info60 : ∃ i z, Tryz.prog.info? 60 = some i ∧ i.zero = some z ∧ i.size = 36 ∧ i.bytes = 72 ∧ z.cells.size = 36 := ⟨_, _, rfl, rfl, rfl, rfl, rfl⟩
set_option maxHeartbeats 2000000 in
theorem c24 (a : Addr) (n c : Nat) (news : List Value) (w : World) (hl : news.length = n * 36) (hn : n ≤ maxLen) (hbig : n * 72 ≤ 140737488355328)
    (hc : ∀ j u, news[j]? = some u → w.cell? (a.add j) = some u) (h1 : ∀ u ∈ news, u.oneCell' = true) :
    Calls Tryz.prog 24 #[.slice (some a) n c] w fun e w' => ∃ v', e = .returned v' ∧ w'.ownsRow w.heap.size 60 36 v' n news ∧ Below w.heap.size w w' := by
  obtain ⟨i0, z, hi, hz0, hz1, hz2, hzs⟩ := info60
  have q22 : ∀ (w : World) (a : Option Addr) (n c n' c' : Nat), (binOp .eql 30 (.slice a n c) (.slice none n' c')).run Tryz.prog w = .ok (.bool a.isNone) w := fun w a n c n' c' => Lib.run_eql_slice_nil w _ _ a n c n' c' Tryz.underlying30
  have A : Aside (∀ j u, news[j]? = some u → w.cell? (a.add j) = some u) := hc
  clear hc
  go_enter Tryz.func24, Tryz.ntmps24
  go_wp2_with (at_builtin; refine wpList_append_own _ rfl _ _ 30 rfl w.heap.size 60 i0 z 36 72 Tryz.underlying30 hi hz0 hz1 hz2 hzs (by decide) _ _ _ rfl (World.ownsRow_made w #[] 0 (Nat.le_refl _) (Nat.zero_le _) (by simp)) a n c news rfl ?qc1 ?qc2 ?qc3 ?qc4 ?qc5 ?qc6 ?_)
  case qc1 => exact hl
  case qc2 =>
    intro j u hj
    exact Lib.cell?_alloc_some _ (A.out j u hj)
  case qc3 => exact h1
  case qc4 => rw [Nat.zero_add]; exact hn
  case qc5 => rw [Nat.zero_add]; exact hbig
  case qc6 => simp
  intro v' w1 hown hgrow hnil
  go_wp2
  go_ret
  refine ⟨v', rfl, by simpa using hown, ?_⟩
  exact ((Below.refl _ w).alloc (Nat.le_refl _) _).grown hgrow (by simp) (by intro k hk; simp [Value.ownBlock] at hk; omega)
set_option maxHeartbeats 1000000 in
theorem c24n (n c : Nat) (w : World) : Calls Tryz.prog 24 #[.slice none n c] w fun e w' => e = .returned (.slice none 0 0) ∧ w' = w := by
  have q22 : ∀ (w : World) (a : Option Addr) (n c n' c' : Nat), (binOp .eql 30 (.slice a n c) (.slice none n' c')).run Tryz.prog w = .ok (.bool a.isNone) w := fun w a n c n' c' => Lib.run_eql_slice_nil w _ _ a n c n' c' Tryz.underlying30
  go_enter Tryz.func24, Tryz.ntmps24
  go_wp2
  go_ret
  exact ⟨rfl, rfl⟩
end Go.AL.Path

/- Sorting one, or none. -/
set_option linter.unusedSimpArgs false
set_option linter.unusedVariables false
set_option maxRecDepth 100000
namespace Go.AL.Path
open Go Go.RowKit Go.Proofs Go.AL
def c57 : ACode := (.seq (.reg false 0 [⟨(.some 10), none, (.q .mv), [(.t 1)]⟩, ⟨(.some 11), none, (.q (.bin .add 3)), [(.t 10), (.c (.imm (.int .i64 1)))]⟩, ⟨(.some 8), none, (.q .mv), [(.t 11)]⟩]) (.block 0 (.loop (.seq (.seq (.reg false 0 [⟨(.some 12), none, (.q .mv), [(.t 8)]⟩, ⟨(.some 13), none, (.q .mv), [(.t 2)]⟩, ⟨(.some 14), none, (.q (.bin .lss 3)), [(.t 12), (.t 13)]⟩]) (.cond (.t 14) .skip (.exit 0))) (.seq (.block 1 (.seq (.reg false 0 [⟨(.some 17), none, (.q .mv), [(.t 8)]⟩, ⟨(.some 9), none, (.q .mv), [(.t 17)]⟩]) (.block 2 (.loop (.seq (.seq (.reg true 0 [⟨(.some 18), none, (.q .mv), [(.t 9)]⟩, ⟨(.some 19), none, (.q .mv), [(.t 1)]⟩, ⟨(.some 20), none, (.q (.bin .gtr 3)), [(.t 18), (.t 19)]⟩, ⟨(.some 21), none, (.q .mv), [(.t 20)]⟩, ⟨(.some 22), (.some (21, true)), (.q .mv), [(.t 3)]⟩, ⟨(.some 23), (.some (21, true)), (.q .mv), [(.t 0)]⟩, ⟨(.some 24), (.some (21, true)), (.q .mv), [(.t 9)]⟩, ⟨(.some 25), (.some (21, true)), (.q (.iaddrS 36)), [(.t 23), (.t 24)]⟩, ⟨(.some 26), (.some (21, true)), (.l (.loadA 36)), [(.t 25)]⟩, ⟨(.some 27), (.some (21, true)), (.q .mv), [(.t 0)]⟩, ⟨(.some 28), (.some (21, true)), (.q .mv), [(.t 9)]⟩, ⟨(.some 29), (.some (21, true)), (.q (.bin .sub 3)), [(.t 28), (.c (.imm (.int .i64 1)))]⟩, ⟨(.some 30), (.some (21, true)), (.q (.iaddrS 36)), [(.t 27), (.t 29)]⟩, ⟨(.some 31), (.some (21, true)), (.l (.loadA 36)), [(.t 30)]⟩, ⟨(.some 32), (.some (21, true)), (.call true), [(.t 22), (.t 26), (.t 31)]⟩, ⟨(.some 33), (.some (21, true)), (.q (.bin .lss 3)), [(.t 32), (.c (.imm (.int .i64 0)))]⟩, ⟨(.some 34), none, (.q .pick), [(.t 21), (.t 33), (.c (.imm (.bool false)))]⟩]) (.cond (.t 34) .skip (.exit 2))) (.seq (.block 3 (.reg true 0 [⟨(.some 37), none, (.q .mv), [(.t 0)]⟩, ⟨(.some 38), none, (.q .mv), [(.t 9)]⟩, ⟨(.some 39), none, (.q .mv), [(.t 0)]⟩, ⟨(.some 40), none, (.q .mv), [(.t 9)]⟩, ⟨(.some 41), none, (.q (.bin .sub 3)), [(.t 40), (.c (.imm (.int .i64 1)))]⟩, ⟨(.some 42), none, (.q .mv), [(.t 0)]⟩, ⟨(.some 43), none, (.q .mv), [(.t 9)]⟩, ⟨(.some 44), none, (.q (.bin .sub 3)), [(.t 43), (.c (.imm (.int .i64 1)))]⟩, ⟨(.some 45), none, (.q (.iaddrS 36)), [(.t 42), (.t 44)]⟩, ⟨(.some 46), none, (.l (.loadA 36)), [(.t 45)]⟩, ⟨(.some 47), none, (.q .mv), [(.t 0)]⟩, ⟨(.some 48), none, (.q .mv), [(.t 9)]⟩, ⟨(.some 49), none, (.q (.iaddrS 36)), [(.t 47), (.t 48)]⟩, ⟨(.some 50), none, (.l (.loadA 36)), [(.t 49)]⟩, ⟨(.some 51), none, (.q (.iaddrS 36)), [(.t 37), (.t 38)]⟩, ⟨none, none, (.e (.store 36)), [(.t 51), (.t 46)]⟩, ⟨(.some 52), none, (.q (.iaddrS 36)), [(.t 39), (.t 41)]⟩, ⟨none, none, (.e (.store 36)), [(.t 52), (.t 50)]⟩])) (.reg false 0 [⟨(.some 35), none, (.q .mv), [(.t 9)]⟩, ⟨(.some 36), none, (.q (.bin .sub 3)), [(.t 35), (.c (.imm (.int .i64 1)))]⟩, ⟨(.some 9), none, (.q .mv), [(.t 36)]⟩]))))))) (.reg false 0 [⟨(.some 15), none, (.q .mv), [(.t 8)]⟩, ⟨(.some 16), none, (.q (.bin .add 3)), [(.t 15), (.c (.imm (.int .i64 1)))]⟩, ⟨(.some 8), none, (.q .mv), [(.t 16)]⟩]))))))
theorem fn57 : IsFn Tryz.prog 57 [] c57 [] 53 := ⟨_, _, Tryz.func57, rfl, by decide +kernel, by kernel_rfl, rfl, rfl⟩
theorem o57s {H : List AObj} {id ver n : Nat} {a b : Int} {f : AV} (hl : ∀ o ∈ H, o.low H.length) (hid : id < H.length) (ha : In64 (a + 1)) (hb : b ≤ a + 1) (hf : f.low H.length) (hfs : f.strip = f) :
    Ok Tryz.prog G 57 [.rs id ver 36 0 n, i64 a, i64 b, f] H (.tup []) H := by
  refine ok_of_code (S := sp [] []) hm hG (sp_holds .nil .nil) fn57 (St 10 53 [.rs id ver 36 0 n, i64 a, i64 b, f, .junk, .junk, .junk, .junk, .junk, .junk] []) (by kernel_rfl) (by simp [AV.low, lows]) (Nat.le_refl _) hl ?_
  have hc : ((a + 1 : Int) < b) = False := eq_false (by omega)
  simp (maxSteps := 2000000) -implicitDefEqProofs only [c57, RS, RX, Nat.reduceLT, ↓RP0, ↓RP1, ↓RP2, ↓RP3, RV, RW, ↓reduceIte, Nat.reduceAdd, Nat.reduceSub, Nat.reduceMul, Nat.reduceLeDiff, Nat.reduceEqDiff, Int.reduceLT, Int.reduceLE, Int.reduceEq, Int.reduceNe, Int.reduceAdd, Int.reduceSub, Int.reduceMul, Int.reduceNeg, Int.reduceToNat, reduceCtorEq]
  refine ⟨ha, ?_⟩
  refine loopB (st := fun (_ : Unit) => (St 10 53 [.rs id ver 36 0 n, i64 a, i64 b, f, .junk, .junk, .junk, .junk, i64 (a + 1), .junk] [])) (hp := fun _ => H) (I := fun _ => True) (m := fun _ => 0) () trivial ?_ ?_
  · refine weak_cutS H.length (Nat.le_refl _) (by simp) hl ?_
    simp [WeakL, AV.low, hid, hf]
  · rintro - -
    simp (maxSteps := 2000000) -implicitDefEqProofs only [RS, RX, Nat.reduceLT, ↓RP0, ↓RP1, ↓RP2, ↓RP3, RV, RW, ↓reduceIte, Nat.reduceAdd, Nat.reduceSub, Nat.reduceMul, Nat.reduceLeDiff, Nat.reduceEqDiff, Int.reduceLT, Int.reduceLE, Int.reduceEq, Int.reduceNe, Int.reduceAdd, Int.reduceSub, Int.reduceMul, Int.reduceNeg, Int.reduceToNat, reduceCtorEq, hc, retO_normal, retO_ret]
    exact List.take_length
def cmpF : AV := .fn (.func 26) [] []
def sort57 : TSp := fun args H K => ∃ (id ver n : Nat) (a b : Int), args = [.rs id ver 36 0 n, i64 a, i64 b, cmpF] ∧ In64 (a + 1) ∧ b ≤ a + 1 ∧ id < H.length ∧ (∀ o ∈ H, o.low H.length) ∧ K (.tup []) H
theorem told_sort57 : ToldT Tryz.prog G 57 sort57 := by
  rintro args H K ⟨id, ver, n, a, b, rfl, h1, h2, h3, h4, h5⟩
  exact ⟨_, _, o57s h4 h3 h1 h2 ⟨trivial, trivial⟩ rfl, h5⟩
theorem askT_sort57 {H : List AObj} {id ver n : Nat} {a b : Int} {K : AV → List AObj → Prop} : (In64 (a + 1) ∧ b ≤ a + 1 ∧ id < H.length ∧ (∀ o ∈ H, o.low H.length) ∧ K (.tup []) H) → askT sort57 [.rs id ver 36 0 n, i64 a, i64 b, .fn (.func 26) [] []] H K := fun h => ⟨id, ver, n, a, b, rfl, h⟩
def c45 : ACode := (.seq (.reg false 0 [⟨(.some 6), none, (.q .mv), [(.c (.imm (.int .i64 20)))]⟩]) (.seq (.reg false 0 [⟨(.some 10), none, (.q .mv), [(.t 6)]⟩, ⟨(.some 7), none, (.q .mv), [(.c (.imm (.int .i64 0)))]⟩, ⟨(.some 8), none, (.q .mv), [(.t 10)]⟩]) (.seq (.block 0 (.loop (.seq (.seq (.reg false 0 [⟨(.some 11), none, (.q .mv), [(.t 8)]⟩, ⟨(.some 12), none, (.q .mv), [(.t 1)]⟩, ⟨(.some 13), none, (.q (.bin .leq 3)), [(.t 11), (.t 12)]⟩]) (.cond (.t 13) .skip (.exit 0))) (.block 1 (.seq (.reg false 0 [⟨(.some 14), none, (.q .mv), [(.t 0)]⟩, ⟨(.some 15), none, (.q .mv), [(.t 7)]⟩, ⟨(.some 16), none, (.q .mv), [(.t 8)]⟩, ⟨(.some 17), none, (.q .mv), [(.t 2)]⟩, ⟨(.some 18), none, (.call true), [(.c (.fn (.func 57) [] [])), (.t 14), (.t 15), (.t 16), (.t 17)]⟩]) (.seq (.reg false 0 [⟨(.some 19), none, (.q .mv), [(.t 8)]⟩, ⟨(.some 7), none, (.q .mv), [(.t 19)]⟩]) (.reg false 0 [⟨(.some 20), none, (.q .mv), [(.t 8)]⟩, ⟨(.some 21), none, (.q .mv), [(.t 6)]⟩, ⟨(.some 22), none, (.q (.bin .add 3)), [(.t 20), (.t 21)]⟩, ⟨(.some 8), none, (.q .mv), [(.t 22)]⟩]))))))) (.seq (.reg false 0 [⟨(.some 23), none, (.q .mv), [(.t 0)]⟩, ⟨(.some 24), none, (.q .mv), [(.t 7)]⟩, ⟨(.some 25), none, (.q .mv), [(.t 1)]⟩, ⟨(.some 26), none, (.q .mv), [(.t 2)]⟩, ⟨(.some 27), none, (.call true), [(.c (.fn (.func 57) [] [])), (.t 23), (.t 24), (.t 25), (.t 26)]⟩]) (.block 2 (.loop (.seq (.seq (.reg false 0 [⟨(.some 28), none, (.q .mv), [(.t 6)]⟩, ⟨(.some 29), none, (.q .mv), [(.t 1)]⟩, ⟨(.some 30), none, (.q (.bin .lss 3)), [(.t 28), (.t 29)]⟩]) (.cond (.t 30) .skip (.exit 2))) (.block 3 (.seq (.reg false 0 [⟨(.some 31), none, (.q .mv), [(.t 6)]⟩, ⟨(.some 32), none, (.q (.bin .mul 3)), [(.c (.imm (.int .i64 2))), (.t 31)]⟩, ⟨(.some 7), none, (.q .mv), [(.c (.imm (.int .i64 0)))]⟩, ⟨(.some 8), none, (.q .mv), [(.t 32)]⟩]) (.seq (.block 4 (.loop (.seq (.seq (.reg false 0 [⟨(.some 33), none, (.q .mv), [(.t 8)]⟩, ⟨(.some 34), none, (.q .mv), [(.t 1)]⟩, ⟨(.some 35), none, (.q (.bin .leq 3)), [(.t 33), (.t 34)]⟩]) (.cond (.t 35) .skip (.exit 4))) (.block 5 (.seq (.reg false 0 [⟨(.some 36), none, (.q .mv), [(.t 0)]⟩, ⟨(.some 37), none, (.q .mv), [(.t 7)]⟩, ⟨(.some 38), none, (.q .mv), [(.t 7)]⟩, ⟨(.some 39), none, (.q .mv), [(.t 6)]⟩, ⟨(.some 40), none, (.q (.bin .add 3)), [(.t 38), (.t 39)]⟩, ⟨(.some 41), none, (.q .mv), [(.t 8)]⟩, ⟨(.some 42), none, (.q .mv), [(.t 2)]⟩, ⟨(.some 43), none, (.call true), [(.c (.fn (.func 58) [] [])), (.t 36), (.t 37), (.t 40), (.t 41), (.t 42)]⟩]) (.seq (.reg false 0 [⟨(.some 44), none, (.q .mv), [(.t 8)]⟩, ⟨(.some 7), none, (.q .mv), [(.t 44)]⟩]) (.reg false 0 [⟨(.some 45), none, (.q .mv), [(.t 8)]⟩, ⟨(.some 46), none, (.q .mv), [(.t 6)]⟩, ⟨(.some 47), none, (.q (.bin .mul 3)), [(.c (.imm (.int .i64 2))), (.t 46)]⟩, ⟨(.some 48), none, (.q (.bin .add 3)), [(.t 45), (.t 47)]⟩, ⟨(.some 8), none, (.q .mv), [(.t 48)]⟩]))))))) (.seq (.seq (.reg false 0 [⟨(.some 49), none, (.q .mv), [(.t 7)]⟩, ⟨(.some 50), none, (.q .mv), [(.t 6)]⟩, ⟨(.some 51), none, (.q (.bin .add 3)), [(.t 49), (.t 50)]⟩, ⟨(.some 9), none, (.q .mv), [(.t 51)]⟩]) (.seq (.reg false 0 [⟨(.some 52), none, (.q .mv), [(.t 9)]⟩, ⟨(.some 53), none, (.q .mv), [(.t 1)]⟩, ⟨(.some 54), none, (.q (.bin .lss 3)), [(.t 52), (.t 53)]⟩]) (.cond (.t 54) (.reg false 0 [⟨(.some 55), none, (.q .mv), [(.t 0)]⟩, ⟨(.some 56), none, (.q .mv), [(.t 7)]⟩, ⟨(.some 57), none, (.q .mv), [(.t 9)]⟩, ⟨(.some 58), none, (.q .mv), [(.t 1)]⟩, ⟨(.some 59), none, (.q .mv), [(.t 2)]⟩, ⟨(.some 60), none, (.call true), [(.c (.fn (.func 58) [] [])), (.t 55), (.t 56), (.t 57), (.t 58), (.t 59)]⟩]) .skip))) (.reg false 0 [⟨(.some 61), none, (.q .mv), [(.t 6)]⟩, ⟨(.some 62), none, (.q (.bin .mul 3)), [(.t 61), (.c (.imm (.int .i64 2)))]⟩, ⟨(.some 6), none, (.q .mv), [(.t 62)]⟩]))))))))))))
theorem fn45 : IsFn Tryz.prog 45 [] c45 [] 63 := ⟨_, _, Tryz.func45, rfl, by decide +kernel, by kernel_rfl, rfl, rfl⟩
theorem o45s {H : List AObj} {id ver n : Nat} (hl : ∀ o ∈ H, o.low H.length) (hid : id < H.length) (hn : n ≤ 1) :
    Ok Tryz.prog G 45 [.rs id ver 36 0 n, i64 n, .fn (.func 26) [] []] H (.tup []) H := by
  refine ok_of_code (S := sp [] [(57, sort57)]) hm hG (sp_holds .nil (.cons told_sort57 .nil)) fn45 (St 10 63 [.rs id ver 36 0 n, i64 n, .fn (.func 26) [] [], .junk, .junk, .junk, .junk, .junk, .junk, .junk] []) (by kernel_rfl) (by simp [AV.low, lows]) (Nat.le_refl _) hl ?_
  have hc : ((20 : Int) ≤ (n : Int)) = False := eq_false (by omega)
  have hc2 : ((20 : Int) < (n : Int)) = False := eq_false (by omega)
  have q : ∀ (K : AV → List AObj → Prop), askT sort57 [.rs id ver 36 0 n, i64 0, i64 n, .fn (.func 26) [] []] H K = K (.tup []) H := fun K => eq_iff_iff.2 ⟨fun ⟨id', ver', n', a, b, h, h1, h2, h3, h4, h5⟩ => h5, fun h => askT_sort57 ⟨⟨by omega, by omega⟩, by omega, hid, hl, h⟩⟩
  simp (maxSteps := 2000000) -implicitDefEqProofs only [c45, RS, RX, Nat.reduceLT, ↓RP0, ↓RP1, ↓RP2, ↓RP3, RV, RW, ↓reduceIte, Nat.reduceAdd, Nat.reduceSub, Nat.reduceMul, Nat.reduceLeDiff, Nat.reduceEqDiff, Int.reduceLT, Int.reduceLE, Int.reduceEq, Int.reduceNe, Int.reduceAdd, Int.reduceSub, Int.reduceMul, Int.reduceNeg, Int.reduceToNat, reduceCtorEq]
  refine loopB (st := fun (_ : Unit) => (St 10 63 [.rs id ver 36 0 n, i64 n, .fn (.func 26) [] [], .junk, .junk, .junk, i64 20, i64 0, i64 20, .junk] [])) (hp := fun _ => H) (I := fun _ => True) (m := fun _ => 0) () trivial ?_ ?_
  · refine weak_cutS H.length (Nat.le_refl _) (by simp) hl ?_
    simp [WeakL, AV.low, lows, hid]
  · rintro - -
    simp (maxSteps := 2000000) -implicitDefEqProofs only [RS, RX, Nat.reduceLT, ↓RP0, ↓RP1, ↓RP2, ↓RP3, RV, RW, ↓reduceIte, Nat.reduceAdd, Nat.reduceSub, Nat.reduceMul, Nat.reduceLeDiff, Nat.reduceEqDiff, Int.reduceLT, Int.reduceLE, Int.reduceEq, Int.reduceNe, Int.reduceAdd, Int.reduceSub, Int.reduceMul, Int.reduceNeg, Int.reduceToNat, reduceCtorEq, hc, ↓q, q]
    refine loopB (st := fun (_ : Unit) => (St 10 63 [.rs id ver 36 0 n, i64 n, .fn (.func 26) [] [], .junk, .junk, .junk, i64 20, i64 0, i64 20, .junk] [])) (hp := fun _ => H) (I := fun _ => True) (m := fun _ => 0) () trivial ?_ ?_
    · refine weak_cutS H.length (Nat.le_refl _) (by simp) hl ?_
      simp [WeakL, AV.low, lows, hid]
    · rintro - -
      simp (maxSteps := 2000000) -implicitDefEqProofs only [RS, RX, Nat.reduceLT, ↓RP0, ↓RP1, ↓RP2, ↓RP3, RV, RW, ↓reduceIte, Nat.reduceAdd, Nat.reduceSub, Nat.reduceMul, Nat.reduceLeDiff, Nat.reduceEqDiff, Int.reduceLT, Int.reduceLE, Int.reduceEq, Int.reduceNe, Int.reduceAdd, Int.reduceSub, Int.reduceMul, Int.reduceNeg, Int.reduceToNat, reduceCtorEq, hc2, retO_normal, retO_ret]
      exact List.take_length
def sort45 : TSp := fun args H K => ∃ (id ver n : Nat), args = [.rs id ver 36 0 n, i64 n, .fn (.func 26) [] []] ∧ n ≤ 1 ∧ id < H.length ∧ (∀ o ∈ H, o.low H.length) ∧ K (.tup []) H
theorem told_sort45 : ToldT Tryz.prog G 45 sort45 := by
  rintro args H K ⟨id, ver, n, rfl, h1, h3, h4, h5⟩
  exact ⟨_, _, o45s h4 h3 h1, h5⟩
def c25 : ACode := (.reg false 0 [⟨(.some 4), none, (.q .mv), [(.t 0)]⟩, ⟨(.some 5), none, (.q .mv), [(.t 0)]⟩, ⟨(.some 6), none, (.q .lenL), [(.t 5)]⟩, ⟨(.some 7), none, (.q .mv), [(.t 1)]⟩, ⟨(.some 8), none, (.call true), [(.c (.fn (.func 45) [] [])), (.t 4), (.t 6), (.t 7)]⟩])
theorem fn25 : IsFn Tryz.prog 25 [] c25 [] 9 := ⟨_, _, Tryz.func25, rfl, by decide +kernel, by kernel_rfl, rfl, rfl⟩
theorem o25s {H : List AObj} {id ver n : Nat} (hl : ∀ o ∈ H, o.low H.length) (hid : id < H.length) (hn : n ≤ 1) :
    Ok Tryz.prog G 25 [.rs id ver 36 0 n, .fn (.func 26) [] []] H (.tup []) H := by
  refine ok_of_code (S := sp [] [(45, sort45)]) hm hG (sp_holds .nil (.cons told_sort45 .nil)) fn25 (St 2 9 [.rs id ver 36 0 n, .fn (.func 26) [] []] []) (by kernel_rfl) (by simp [AV.low, lows]) (Nat.le_refl _) hl ?_
  have q : ∀ (K : AV → List AObj → Prop), askT sort45 [.rs id ver 36 0 n, i64 n, .fn (.func 26) [] []] H K = K (.tup []) H := fun K => eq_iff_iff.2 ⟨fun ⟨id', ver', n', h, h1, h3, h4, h5⟩ => h5, fun h => ⟨id, ver, n, rfl, hn, hid, hl, h⟩⟩
  simp (maxSteps := 2000000) -implicitDefEqProofs only [c25, RS, RX, Nat.reduceLT, ↓RP0, ↓RP1, ↓RP2, ↓RP3, RV, RW, ↓reduceIte, Nat.reduceAdd, Nat.reduceSub, Nat.reduceMul, Nat.reduceLeDiff, Nat.reduceEqDiff, Int.reduceLT, Int.reduceLE, Int.reduceEq, Int.reduceNe, Int.reduceAdd, Int.reduceSub, Int.reduceMul, Int.reduceNeg, Int.reduceToNat, reduceCtorEq, ↓q, q, retO_normal, retO_ret]
  exact List.take_length
def sort25 : TSp := fun args H K => ∃ (id ver n : Nat), args = [.rs id ver 36 0 n, .fn (.func 26) [] []] ∧ n ≤ 1 ∧ id < H.length ∧ (∀ o ∈ H, o.low H.length) ∧ K (.tup []) H
theorem told_sort25 : ToldT Tryz.prog G 25 sort25 := by
  rintro args H K ⟨id, ver, n, rfl, h1, h3, h4, h5⟩
  exact ⟨_, _, o25s h4 h3 h1, h5⟩
structure Shw where
  path : List UInt8
  r : Int
  q : Int
  sum : List Int
  size : Int
  deriving DecidableEq
def u8 (n : Int) : AV := .imm (.int .u8 n)
def shwC (s : Shw) : List AV := [T s.path, i64 s.r, i64 s.q] ++ s.sum.map u8 ++ [i64 s.size]
structure ShwOk (s : Shw) : Prop where
  path : s.path.length ≤ 1099511627
  len : s.sum.length = 32
theorem u8_inj : ∀ {a b : List Int}, a.map u8 = b.map u8 → a = b
  | [], [], _ => rfl
  | [], _ :: _, h => by cases h
  | _ :: _, [], h => by cases h
  | x :: a, y :: b, h => by
    injection h with h1 h2
    injection h1 with h1
    injection h1 with _ h1
    rw [h1, u8_inj h2]
theorem lows_u8 (n : Nat) : ∀ l : List Int, lows n (l.map u8)
  | [] => trivial
  | _ :: l => ⟨trivial, lows_u8 n l⟩
abbrev shwE : Elem Shw where
  sz := 36
  cells := shwC
  ok := ShwOk
  d0 := ⟨[], 0, 0, List.replicate 32 0, 0⟩
  len := fun {x} h => by simp [shwC, h.len]
  inj := fun {x y} hx hy h => by
    unfold shwC at h
    simp only [List.cons_append, List.nil_append, List.cons.injEq] at h
    obtain ⟨h1, h2, h3, h4⟩ := h
    have h5 := List.append_inj h4 (by simp [hx.len, hy.len])
    have h6 := u8_inj h5.1
    have h7 := h5.2
    injection h2 with h2; injection h2 with _ h2
    injection h3 with h3; injection h3 with _ h3
    injection h7 with h7 _; injection h7 with h7; injection h7 with _ h7
    cases x; cases y
    rw [Shw.mk.injEq]; exact ⟨T_inj.1 h1, h2, h3, h6, h7⟩
  low := fun n x => by
    show lows n ([T x.path, i64 x.r, i64 x.q] ++ x.sum.map u8 ++ [i64 x.size])
    rw [lows_append', lows_append']
    exact ⟨⟨⟨trivial, trivial, trivial, trivial⟩, lows_u8 n _⟩, trivial, trivial⟩
  strip := fun {x} => by simp [shwC, AV.strip1, u8]
abbrev shwV (s : Shw) : AV := .agg (shwC s)
abbrev shwsV (l : List Shw) : AV := .sl 36 (l.map shwE.v) none
theorem clones24 : ClonesAt Tryz.prog 24 60 36 72 := ⟨c24n, c24⟩
abbrev clnS : TSp := cloneT shwE 60
theorem told_clnS : ToldT Tryz.prog G 24 clnS := toldT_clone Tryz.func24 rfl (by decide +kernel) (by decide) (by decide) clones24
theorem shw0 {s : Shw} : (shwC s)[0]? = some (T s.path) := rfl
theorem shw_strip {s : Shw} : (shwC s).map AV.strip1 = shwC s := shwE.strip
theorem lows_shws (n : Nat) (l : List Shw) : lows n (l.map shwE.v) := shwE.low_vs n l
def wakeS : Shw := ⟨[97], 0, 0, List.replicate 32 0, 0⟩
def wakeF : Fil := ⟨[98], [120]⟩
theorem wake_may : mayP2 [wakeF] = true := by decide +kernel
theorem wake_own1 : ownP [97] = true := by decide +kernel
theorem wake_own2 : ownP [98] = true := by decide +kernel
theorem wake_lt : Op.bytesLess [97] [98] = true := by decide +kernel
theorem wakeS_ok : ShwOk wakeS := ⟨by decide, by decide⟩
theorem wakeF_ok : FilOk wakeF := ⟨by decide, by decide⟩
def ownS : PSp := txt1b (fun l => l.length ≤ 1099511627) ownP
def c10 : ACode := (.seq (.reg false 1 [⟨(.some 4), none, (.m (.nilT 37 3) 0), []⟩, ⟨(.some 5), none, (.q .mv), [(.c (.imm (.int .i64 0)))]⟩]) (.scope (.seq (.seq (.reg false 0 [⟨(.some 8), none, (.q .mv), [(.t 1)]⟩, ⟨(.some 9), none, (.call true), [(.c (.fn (.func 19) [] [])), (.t 8)]⟩, ⟨(.some 10), none, (.q (.un .not)), [(.t 9)]⟩]) (.cond (.t 10) (.seq (.reg false 1 [⟨(.some 4), none, (.m (.nilT 37 3) 0), []⟩, ⟨(.some 5), none, (.q .mv), [(.c (.imm (.int .i64 9)))]⟩]) .ret) .skip)) (.seq (.reg false 1 [⟨(.some 6), none, (.m (.nilT 37 3) 0), []⟩]) (.seq (.reg false 0 [⟨(.some 11), none, (.q .mv), [(.t 0)]⟩, ⟨(.some 12), none, (.call true), [(.c (.fn (.func 24) [] [])), (.t 11)]⟩, ⟨(.some 7), none, (.q .mv), [(.t 12)]⟩]) (.seq (.reg false 0 [⟨(.some 13), none, (.q .mv), [(.t 7)]⟩, ⟨(.some 14), none, (.call true), [(.c (.fn (.func 25) [] [])), (.t 13), (.c (.fn (.func 26) [] []))]⟩]) (.seq .skip (.seq (.block 0 (.loop (.seq (.seq (.reg false 0 [⟨(.some 15), none, (.q .mv), [(.t 7)]⟩, ⟨(.some 16), none, (.q .lenL), [(.t 15)]⟩, ⟨(.some 17), none, (.q (.bin .gtr 3)), [(.t 16), (.c (.imm (.int .i64 0)))]⟩, ⟨(.some 18), none, (.q .mv), [(.t 17)]⟩, ⟨(.some 19), (.some (18, false)), (.q .mv), [(.t 1)]⟩, ⟨(.some 20), (.some (18, false)), (.q .lenL), [(.t 19)]⟩, ⟨(.some 21), (.some (18, false)), (.q (.bin .gtr 3)), [(.t 20), (.c (.imm (.int .i64 0)))]⟩, ⟨(.some 22), none, (.q .pick), [(.t 18), (.c (.imm (.bool true))), (.t 21)]⟩]) (.cond (.t 22) .skip (.exit 0))) (.block 1 (.seq (.block 2 (.seq (.reg true 0 [⟨(.some 24), none, (.q .mv), [(.t 1)]⟩, ⟨(.some 25), none, (.q .lenL), [(.t 24)]⟩, ⟨(.some 26), none, (.q (.bin .eql 3)), [(.t 25), (.c (.imm (.int .i64 0)))]⟩, ⟨(.some 27), none, (.q .mv), [(.t 26)]⟩, ⟨(.some 28), (.some (27, false)), (.q .mv), [(.t 7)]⟩, ⟨(.some 29), (.some (27, false)), (.q .lenL), [(.t 28)]⟩, ⟨(.some 30), (.some (27, false)), (.q (.bin .gtr 3)), [(.t 29), (.c (.imm (.int .i64 0)))]⟩, ⟨(.some 31), (.some (27, false)), (.q .mv), [(.t 30)]⟩, ⟨(.some 32), (.some (31, true)), (.q .mv), [(.t 7)]⟩, ⟨(.some 33), (.some (31, true)), (.q (.iaddrS 36)), [(.t 32), (.c (.imm (.int .i64 0)))]⟩, ⟨(.some 34), (.some (31, true)), (.q (.faddr 0)), [(.t 33)]⟩, ⟨(.some 35), (.some (31, true)), (.l .load1), [(.t 34)]⟩, ⟨(.some 36), (.some (31, true)), (.q .mv), [(.t 1)]⟩, ⟨(.some 37), (.some (31, true)), (.q (.iaddrS 2)), [(.t 36), (.c (.imm (.int .i64 0)))]⟩, ⟨(.some 38), (.some (31, true)), (.q (.faddr 0)), [(.t 37)]⟩, ⟨(.some 39), (.some (31, true)), (.l .load1), [(.t 38)]⟩, ⟨(.some 40), (.some (31, true)), (.q (.bin .lss 9)), [(.t 35), (.t 39)]⟩, ⟨(.some 41), (.some (27, false)), (.q .pick), [(.t 31), (.t 40), (.c (.imm (.bool false)))]⟩, ⟨(.some 42), none, (.q .pick), [(.t 27), (.c (.imm (.bool true))), (.t 41)]⟩, ⟨(.some 23), none, (.q .mv), [(.t 42)]⟩]) (.cond (.t 23) (.seq (.seq (.reg false 0 [⟨(.some 43), none, (.q .mv), [(.t 7)]⟩, ⟨(.some 44), none, (.q (.iaddrS 36)), [(.t 43), (.c (.imm (.int .i64 0)))]⟩, ⟨(.some 45), none, (.q (.faddr 0)), [(.t 44)]⟩, ⟨(.some 46), none, (.l .load1), [(.t 45)]⟩, ⟨(.some 47), none, (.call true), [(.c (.fn (.func 28) [] [])), (.t 46)]⟩]) (.cond (.t 47) (.reg false 1 [⟨(.some 48), none, (.q .mv), [(.t 6)]⟩, ⟨(.some 49), none, (.q .mv), [(.t 7)]⟩, ⟨(.some 50), none, (.q (.iaddrS 36)), [(.t 49), (.c (.imm (.int .i64 0)))]⟩, ⟨(.some 51), none, (.q (.faddr 0)), [(.t 50)]⟩, ⟨(.some 52), none, (.l .load1), [(.t 51)]⟩, ⟨(.some 53), none, (.q (.build [(.imm (.int .i64 0)), (.imm (.string (B []))), (.sl 0 [] none)] [(0, 1), (1, 1)])), [(.c (.imm (.int .i64 2))), (.t 52)]⟩, ⟨(.some 54), none, (.m (.bsliceO 37 3) 0), [(.t 53)]⟩, ⟨(.some 55), none, (.e (.append 37 3 48)), [(.t 48), (.t 54)]⟩, ⟨(.some 6), none, (.q .mv), [(.t 55)]⟩]) .skip)) (.seq (.reg false 0 [⟨(.some 56), none, (.q .mv), [(.t 7)]⟩, ⟨(.some 57), none, (.q (.sliceL 36 true false false)), [(.t 56), (.c (.imm (.int .i64 1)))]⟩, ⟨(.some 7), none, (.q .mv), [(.t 57)]⟩]) (.exit 1))) (.seq (.reg true 0 [⟨(.some 59), none, (.q .mv), [(.t 7)]⟩, ⟨(.some 60), none, (.q .lenL), [(.t 59)]⟩, ⟨(.some 61), none, (.q (.bin .eql 3)), [(.t 60), (.c (.imm (.int .i64 0)))]⟩, ⟨(.some 62), none, (.q .mv), [(.t 61)]⟩, ⟨(.some 63), (.some (62, false)), (.q .mv), [(.t 1)]⟩, ⟨(.some 64), (.some (62, false)), (.q (.iaddrS 2)), [(.t 63), (.c (.imm (.int .i64 0)))]⟩, ⟨(.some 65), (.some (62, false)), (.q (.faddr 0)), [(.t 64)]⟩, ⟨(.some 66), (.some (62, false)), (.l .load1), [(.t 65)]⟩, ⟨(.some 67), (.some (62, false)), (.q .mv), [(.t 7)]⟩, ⟨(.some 68), (.some (62, false)), (.q (.iaddrS 36)), [(.t 67), (.c (.imm (.int .i64 0)))]⟩, ⟨(.some 69), (.some (62, false)), (.q (.faddr 0)), [(.t 68)]⟩, ⟨(.some 70), (.some (62, false)), (.l .load1), [(.t 69)]⟩, ⟨(.some 71), (.some (62, false)), (.q (.bin .lss 9)), [(.t 66), (.t 70)]⟩, ⟨(.some 72), none, (.q .pick), [(.t 62), (.c (.imm (.bool true))), (.t 71)]⟩, ⟨(.some 73), none, (.q .mv), [(.t 72)]⟩, ⟨(.some 74), (.some (73, false)), (.q .mv), [(.t 7)]⟩, ⟨(.some 75), (.some (73, false)), (.q (.iaddrS 36)), [(.t 74), (.c (.imm (.int .i64 0)))]⟩, ⟨(.some 76), (.some (73, false)), (.l (.loadA 36)), [(.t 75)]⟩, ⟨(.some 77), (.some (73, false)), (.q .mv), [(.t 1)]⟩, ⟨(.some 78), (.some (73, false)), (.q (.iaddrS 2)), [(.t 77), (.c (.imm (.int .i64 0)))]⟩, ⟨(.some 79), (.some (73, false)), (.q (.faddr 1)), [(.t 78)]⟩, ⟨(.some 80), (.some (73, false)), (.l .load1), [(.t 79)]⟩, ⟨(.some 81), (.some (73, false)), (.call true), [(.c (.fn (.func 29) [] [])), (.t 76), (.t 80)]⟩, ⟨(.some 82), (.some (73, false)), (.q (.un .not)), [(.t 81)]⟩, ⟨(.some 83), none, (.q .pick), [(.t 73), (.c (.imm (.bool true))), (.t 82)]⟩, ⟨(.some 58), none, (.q .mv), [(.t 83)]⟩]) (.cond (.t 58) (.seq (.reg false 0 [⟨(.some 84), none, (.q .mv), [(.t 1)]⟩, ⟨(.some 85), none, (.q (.iaddrS 2)), [(.t 84), (.c (.imm (.int .i64 0)))]⟩, ⟨(.some 86), none, (.q (.faddr 0)), [(.t 85)]⟩, ⟨(.some 87), none, (.l .load1), [(.t 86)]⟩, ⟨(.some 88), none, (.call true), [(.c (.fn (.func 28) [] [])), (.t 87)]⟩]) (.cond (.t 88) (.reg true 1 [⟨(.some 89), none, (.q .mv), [(.t 6)]⟩, ⟨(.some 90), none, (.q .mv), [(.t 1)]⟩, ⟨(.some 91), none, (.q (.iaddrS 2)), [(.t 90), (.c (.imm (.int .i64 0)))]⟩, ⟨(.some 92), none, (.q (.faddr 0)), [(.t 91)]⟩, ⟨(.some 93), none, (.l .load1), [(.t 92)]⟩, ⟨(.some 94), none, (.q .mv), [(.t 1)]⟩, ⟨(.some 95), none, (.q (.iaddrS 2)), [(.t 94), (.c (.imm (.int .i64 0)))]⟩, ⟨(.some 96), none, (.q (.faddr 1)), [(.t 95)]⟩, ⟨(.some 97), none, (.l .load1), [(.t 96)]⟩, ⟨(.some 98), none, (.call false), [(.c (.fn (.func 30) [] [])), (.t 97)]⟩, ⟨(.some 99), none, (.q (.build [(.imm (.int .i64 0)), (.imm (.string (B []))), (.sl 0 [] none)] [(0, 1), (1, 1), (2, 1)])), [(.c (.imm (.int .i64 1))), (.t 93), (.t 98)]⟩, ⟨(.some 100), none, (.m (.bsliceO 37 3) 0), [(.t 99)]⟩, ⟨(.some 101), none, (.e (.append 37 3 48)), [(.t 89), (.t 100)]⟩, ⟨(.some 6), none, (.q .mv), [(.t 101)]⟩]) .skip)) .skip))))) (.seq (.block 3 (.loop (.seq (.seq (.reg true 0 [⟨(.some 102), none, (.q .mv), [(.t 7)]⟩, ⟨(.some 103), none, (.q .lenL), [(.t 102)]⟩, ⟨(.some 104), none, (.q (.bin .gtr 3)), [(.t 103), (.c (.imm (.int .i64 0)))]⟩, ⟨(.some 105), none, (.q .mv), [(.t 104)]⟩, ⟨(.some 106), (.some (105, true)), (.q .mv), [(.t 7)]⟩, ⟨(.some 107), (.some (105, true)), (.q (.iaddrS 36)), [(.t 106), (.c (.imm (.int .i64 0)))]⟩, ⟨(.some 108), (.some (105, true)), (.q (.faddr 0)), [(.t 107)]⟩, ⟨(.some 109), (.some (105, true)), (.l .load1), [(.t 108)]⟩, ⟨(.some 110), (.some (105, true)), (.q .mv), [(.t 1)]⟩, ⟨(.some 111), (.some (105, true)), (.q (.iaddrS 2)), [(.t 110), (.c (.imm (.int .i64 0)))]⟩, ⟨(.some 112), (.some (105, true)), (.q (.faddr 0)), [(.t 111)]⟩, ⟨(.some 113), (.some (105, true)), (.l .load1), [(.t 112)]⟩, ⟨(.some 114), (.some (105, true)), (.q (.bin .eql 9)), [(.t 109), (.t 113)]⟩, ⟨(.some 115), none, (.q .pick), [(.t 105), (.t 114), (.c (.imm (.bool false)))]⟩]) (.cond (.t 115) .skip (.exit 3))) (.block 4 (.reg false 0 [⟨(.some 116), none, (.q .mv), [(.t 7)]⟩, ⟨(.some 117), none, (.q (.sliceL 36 true false false)), [(.t 116), (.c (.imm (.int .i64 1)))]⟩, ⟨(.some 7), none, (.q .mv), [(.t 117)]⟩]))))) (.reg false 0 [⟨(.some 118), none, (.q .mv), [(.t 1)]⟩, ⟨(.some 119), none, (.q (.sliceL 2 true false false)), [(.t 118), (.c (.imm (.int .i64 1)))]⟩, ⟨(.some 1), none, (.q .mv), [(.t 119)]⟩]))))))) (.seq (.reg false 0 [⟨(.some 120), none, (.q .mv), [(.t 6)]⟩, ⟨(.some 4), none, (.q .mv), [(.t 120)]⟩, ⟨(.some 5), none, (.q .mv), [(.c (.imm (.int .i64 0)))]⟩]) .ret)))))))))
theorem fn10 : IsFn Tryz.prog 10 (List.range 200) c10 [4, 5] 121 := ⟨_, _, Tryz.func10, rfl, by decide +kernel, by kernel_rfl, rfl, rfl⟩
set_option maxHeartbeats 8000000 in
theorem p10w : Pure Tryz.prog G 10 [shwsV [wakeS], filsV [wakeF]] (.tup [.sl 3 [.agg [i64 2, T [97], .sl 0 [] none], .agg [i64 1, T [98], bytesV [120]]] none, i64 0]) := by
  refine pure_of_code' (S := sp [(19, fil1b mayP2), (28, ownS), (30, byId)] [(24, clnS), (25, sort25)]) hm hG
    (sp_holds (.cons (told_spOnB fun l h => p19c l h.1 h.2) (.cons (told_txt1b p28) (.cons told_byId .nil))) (.cons told_clnS (.cons told_sort25 .nil))) fn10 (St 8 121 [.sl 36 [.agg (shwC wakeS)] none, .sl 2 [.agg [T [98], bytesV [120]]] none, .junk, .junk, .junk, .junk, .junk, .junk] []) (by kernel_rfl) ⟨⟨lows_shws 0 _, fun k hk => by cases hk⟩, ⟨lows_fils 0 _, fun k hk => by cases hk⟩, trivial⟩ (by simp [AV.low, lows, byteAV]) ?_
  have fo : Fils 1099511627 [wakeF] := ⟨fun x hx => by rw [List.mem_singleton.1 hx]; exact wakeF_ok, by decide⟩
  have so : shwE.all [wakeS] := fun x hx => by rw [List.mem_singleton.1 hx]; exact wakeS_ok
  have q19 : ∀ K, ask (fil1b mayP2) [.sl 2 [.agg [T [98], bytesV [120]]] none] K = K (bool true) := fun K => (show _ from (ask_fil1b (f := mayP2) (K := K) fo)).trans (by rw [wake_may]; simp [splitB_eq, SplitP])
  have q24 : ∀ H (K : AV → List AObj → Prop), askT clnS [.sl 36 [.agg (shwC wakeS)] none] H K = K (.rs H.length 0 36 0 1) (H ++ [.row 60 36 0 [.agg (shwC wakeS)]]) := fun H K => (show _ from askT_clone (T := shwE) (te := 60) (H := H) (K := K) so).trans (by simp)
  have hlS : ∀ o ∈ [AObj.tok 37 3 0, AObj.tok 37 3 0, AObj.row 60 36 0 [AV.agg (shwC wakeS)]], o.low ([AObj.tok 37 3 0, AObj.tok 37 3 0, AObj.row 60 36 0 [AV.agg (shwC wakeS)]] : List AObj).length := by
    intro o ho
    simp only [List.mem_cons, List.not_mem_nil, or_false] at ho
    rcases ho with rfl | rfl | rfl
    · trivial
    · trivial
    · exact ⟨shwE.low 3 wakeS, trivial⟩
  have q25 : ∀ (K : AV → List AObj → Prop), askT sort25 [.rs 2 0 36 0 1, .fn (.func 26) [] []] [.tok 37 3 0, .tok 37 3 0, .row 60 36 0 [.agg (shwC wakeS)]] K = K (.tup []) [.tok 37 3 0, .tok 37 3 0, .row 60 36 0 [.agg (shwC wakeS)]] := fun K => eq_iff_iff.2 ⟨fun ⟨id', ver', n', h, h1, h3, h4, h5⟩ => h5, fun h => ⟨2, 0, 1, rfl, by decide, by decide, hlS, h⟩⟩
  have q28a : ∀ K, ask ownS [T [97]] K = K (bool true) := fun K => by rw [ownS, ask_txt1b, wake_own1]; simp [splitB_eq, SplitP]
  have q28b : ∀ K, ask ownS [T [98]] K = K (bool true) := fun K => by rw [ownS, ask_txt1b, wake_own2]; simp [splitB_eq, SplitP]
  have q30 : ∀ K, ask byId [.sl 1 [byteAV 120] none] K = K (.sl 1 [byteAV 120] none) := fun K => (show _ from ask_byId (l := [120]) (K := K)).trans (eq_iff_iff.2 ⟨fun h => h.2, fun h => ⟨by decide, h⟩⟩)
  have sw : shwE.v wakeS = .agg (shwC wakeS) := rfl
  have fw : filE.v wakeF = .agg [T [98], bytesV [120]] := rfl
  have s0 : (shwC wakeS)[0]? = some (T [97]) := rfl
  have n1 : ((1 : Nat) : Int) = 1 := rfl
  simp (maxSteps := 2000000) -implicitDefEqProofs only [c10, RS, RX, Nat.reduceLT, ↓RP0, ↓RP1, ↓RP2, ↓RP3, RV, RW, ↓reduceIte, Nat.reduceAdd, Nat.reduceSub, Nat.reduceMul, Nat.reduceLeDiff, Nat.reduceEqDiff, Int.reduceLT, Int.reduceLE, Int.reduceEq, Int.reduceNe, Int.reduceAdd, Int.reduceSub, Int.reduceMul, Int.reduceNeg, Int.reduceToNat, reduceCtorEq, sw, fw, ↓q19, q19, ↓q24, q24, ↓q25, q25]
  refine loopB (st := fun (k : Nat) => (St 8 121 [.sl 36 [.agg (shwC wakeS)] none, .sl 2 (List.drop (k - 1) [.agg [T [98], bytesV [120]]]) none, .junk, .junk, .sl 3 [] (some 0), i64 0, .sl 3 (List.take k [.agg [i64 2, T [97], .sl 0 [] none], .agg [i64 1, T [98], bytesV [120]]]) (some 1), .sl 36 (List.drop k [.agg (shwC wakeS)]) none] [])) (hp := fun k => [.tok 37 3 0, .tok 37 3 k, .dead]) (I := fun k => k ≤ 2) (m := fun k => 2 - k) (0 : Nat) (Nat.zero_le _) ?_ ?_
  · refine weak_frzS 2 rfl (by decide) 3 (by decide) (by simp) ?_ ?_
    · simp [AObj.low]
    · simp [WeakL, AV.low, lows, frzV, shwE.low 3 wakeS, byteAV]
  · intro k hk
    obtain rfl | rfl | rfl : k = 0 ∨ k = 1 ∨ k = 2 := by omega
    · simp (maxSteps := 2000000) -implicitDefEqProofs only [RS, RX, Nat.reduceLT, ↓RP0, ↓RP1, ↓RP2, ↓RP3, RV, RW, ↓reduceIte, Nat.reduceAdd, Nat.reduceSub, Nat.reduceMul, Nat.reduceLeDiff, Nat.reduceEqDiff, Int.reduceLT, Int.reduceLE, Int.reduceEq, Int.reduceNe, Int.reduceAdd, Int.reduceSub, Int.reduceMul, Int.reduceNeg, Int.reduceToNat, reduceCtorEq, n1, List.getD_cons_zero, ↓binB_slss, binB_slss, wake_lt, s0, ↓q28a, q28a, Nat.zero_sub]
      refine ⟨(fun x hx => by rw [List.mem_singleton.1 hx]; exact ⟨rfl, rfl⟩), .inl trivial, .inl trivial, .inl trivial, 1, by decide, by decide, ?_⟩
      refine weak_cutS 3 (by decide) (by simp) ?_ ?_
      · simp [AObj.low]
      · simp [WeakL, AV.low, lows, shwE.low 3 wakeS, byteAV, AV.strip, AV.strip1]
    · simp (maxSteps := 2000000) -implicitDefEqProofs only [RS, RX, Nat.reduceLT, ↓RP0, ↓RP1, ↓RP2, ↓RP3, RV, RW, ↓reduceIte, Nat.reduceAdd, Nat.reduceSub, Nat.reduceMul, Nat.reduceLeDiff, Nat.reduceEqDiff, Int.reduceLT, Int.reduceLE, Int.reduceEq, Int.reduceNe, Int.reduceAdd, Int.reduceSub, Int.reduceMul, Int.reduceNeg, Int.reduceToNat, reduceCtorEq, n1, List.getD_cons_zero, ↓binB_slss, binB_slss, wake_lt, s0, ↓q28b, q28b, ↓q30, q30, Nat.sub_self]
      refine ⟨(fun x hx => by rw [List.mem_singleton.1 hx]; exact ⟨rfl, rfl⟩), .inl trivial, .inl trivial, ?_⟩
      refine loopB (st := fun (_ : Unit) => (St 8 121 [.sl 36 [.agg (shwC wakeS)] none, .sl 2 [.agg [T [98], bytesV [120]]] none, .junk, .junk, .sl 3 [] (some 0), i64 0, .sl 3 [.agg [i64 2, T [97], .sl 0 [] none], .agg [i64 1, T [98], bytesV [120]]] (some 1), .sl 36 [] none] [])) (hp := fun _ => [.tok 37 3 0, .tok 37 3 2, .dead]) (I := fun _ => True) (m := fun _ => 0) () trivial ?_ ?_
      · refine weak_cutS 3 (by decide) (by simp) ?_ ?_
        · simp [AObj.low]
        · simp [WeakL, AV.low, lows, shwE.low 3 wakeS, byteAV, AV.strip, AV.strip1]
      · rintro - -
        simp (maxSteps := 2000000) -implicitDefEqProofs only [RS, RX, Nat.reduceLT, ↓RP0, ↓RP1, ↓RP2, ↓RP3, RV, RW, ↓reduceIte, Nat.reduceAdd, Nat.reduceSub, Nat.reduceMul, Nat.reduceLeDiff, Nat.reduceEqDiff, Int.reduceLT, Int.reduceLE, Int.reduceEq, Int.reduceNe, Int.reduceAdd, Int.reduceSub, Int.reduceMul, Int.reduceNeg, Int.reduceToNat, reduceCtorEq, n1, List.getD_cons_zero]
        refine ⟨.inl trivial, 2, by decide, by decide, ?_⟩
        refine weak_cutS 3 (by decide) (by simp) ?_ ?_
        · simp [AObj.low]
        · simp [WeakL, AV.low, lows, shwE.low 3 wakeS, byteAV, AV.strip, AV.strip1]
    · simp (maxSteps := 2000000) -implicitDefEqProofs only [RS, RX, Nat.reduceLT, ↓RP0, ↓RP1, ↓RP2, ↓RP3, RV, RW, ↓reduceIte, Nat.reduceAdd, Nat.reduceSub, Nat.reduceMul, Nat.reduceLeDiff, Nat.reduceEqDiff, Int.reduceLT, Int.reduceLE, Int.reduceEq, Int.reduceNe, Int.reduceAdd, Int.reduceSub, Int.reduceMul, Int.reduceNeg, Int.reduceToNat, reduceCtorEq, Nat.reduceSub]
end Go.AL.Path

/- awake; the file at a path. -/
set_option linter.unusedSimpArgs false
set_option linter.unusedVariables false
set_option maxRecDepth 100000
namespace Go.AL.Path
open Go Go.RowKit Go.Proofs Go.AL
def wakeR : AV := .tup [.sl 3 [.agg [i64 2, T [97], .sl 0 [] none], .agg [i64 1, T [98], bytesV [120]]] none, i64 0]
def wake10 : PSp := fun args K => args = [shwsV [wakeS], filsV [wakeF]] ∧ K wakeR
theorem told_wake10 : Told Tryz.prog G 10 wake10 := by
  rintro args K ⟨rfl, h⟩
  exact ⟨_, p10w, h⟩
def c7 : ACode := (.seq (.reg false 0 [⟨(.some 0), none, (.q .mv), [(.c (.imm (.bool false)))]⟩]) (.seq (.reg false 3 [⟨(.some 4), none, (.q (.build [(.imm (.string (B []))), (.imm (.int .i64 0)), (.imm (.int .i64 0)), (.imm (.int .u8 0)), (.imm (.int .u8 0)), (.imm (.int .u8 0)), (.imm (.int .u8 0)), (.imm (.int .u8 0)), (.imm (.int .u8 0)), (.imm (.int .u8 0)), (.imm (.int .u8 0)), (.imm (.int .u8 0)), (.imm (.int .u8 0)), (.imm (.int .u8 0)), (.imm (.int .u8 0)), (.imm (.int .u8 0)), (.imm (.int .u8 0)), (.imm (.int .u8 0)), (.imm (.int .u8 0)), (.imm (.int .u8 0)), (.imm (.int .u8 0)), (.imm (.int .u8 0)), (.imm (.int .u8 0)), (.imm (.int .u8 0)), (.imm (.int .u8 0)), (.imm (.int .u8 0)), (.imm (.int .u8 0)), (.imm (.int .u8 0)), (.imm (.int .u8 0)), (.imm (.int .u8 0)), (.imm (.int .u8 0)), (.imm (.int .u8 0)), (.imm (.int .u8 0)), (.imm (.int .u8 0)), (.imm (.int .u8 0)), (.imm (.int .i64 0))] [(0, 1)])), [(.c (.imm (.string (B [97]))))]⟩, ⟨(.some 5), none, (.m (.bsliceO 60 36) 0), [(.t 4)]⟩, ⟨(.some 6), none, (.m (.bsliceO 5 1) 1), [(.c (.imm (.int .u8 120)))]⟩, ⟨(.some 7), none, (.e .mark), [(.t 6)]⟩, ⟨(.some 8), none, (.q (.build [(.imm (.string (B []))), (.sl 0 [] none)] [(0, 1), (1, 1)])), [(.c (.imm (.string (B [98])))), (.t 7)]⟩, ⟨(.some 9), none, (.m (.bsliceO 35 2) 2), [(.t 8)]⟩, ⟨(.some 10), none, (.call true), [(.c (.fn (.func 10) [] [])), (.t 5), (.t 9)]⟩, ⟨(.some 3), none, (.q .mv), [(.t 10)]⟩, ⟨(.some 11), none, (.q (.ext 0)), [(.t 3)]⟩, ⟨(.some 12), none, (.q (.ext 1)), [(.t 3)]⟩, ⟨(.some 1), none, (.q .mv), [(.t 11)]⟩, ⟨(.some 2), none, (.q .mv), [(.t 12)]⟩]) (.seq (.reg false 0 [⟨(.some 13), none, (.q .mv), [(.t 2)]⟩, ⟨(.some 14), none, (.q (.bin .eql 27)), [(.t 13), (.c (.imm (.int .i64 0)))]⟩, ⟨(.some 15), none, (.q .mv), [(.t 14)]⟩, ⟨(.some 16), (.some (15, true)), (.q .mv), [(.t 1)]⟩, ⟨(.some 17), (.some (15, true)), (.q .lenL), [(.t 16)]⟩, ⟨(.some 18), (.some (15, true)), (.q (.bin .eql 3)), [(.t 17), (.c (.imm (.int .i64 2)))]⟩, ⟨(.some 19), none, (.q .pick), [(.t 15), (.t 18), (.c (.imm (.bool false)))]⟩, ⟨(.some 20), none, (.q .mv), [(.t 19)]⟩, ⟨(.some 21), (.some (20, true)), (.q .mv), [(.t 1)]⟩, ⟨(.some 22), (.some (20, true)), (.q (.iaddrS 3)), [(.t 21), (.c (.imm (.int .i64 0)))]⟩, ⟨(.some 23), (.some (20, true)), (.q (.faddr 0)), [(.t 22)]⟩, ⟨(.some 24), (.some (20, true)), (.l .load1), [(.t 23)]⟩, ⟨(.some 25), (.some (20, true)), (.q (.bin .eql 3)), [(.t 24), (.c (.imm (.int .i64 2)))]⟩, ⟨(.some 26), none, (.q .pick), [(.t 20), (.t 25), (.c (.imm (.bool false)))]⟩, ⟨(.some 27), none, (.q .mv), [(.t 26)]⟩, ⟨(.some 28), (.some (27, true)), (.q .mv), [(.t 1)]⟩, ⟨(.some 29), (.some (27, true)), (.q (.iaddrS 3)), [(.t 28), (.c (.imm (.int .i64 0)))]⟩, ⟨(.some 30), (.some (27, true)), (.q (.faddr 1)), [(.t 29)]⟩, ⟨(.some 31), (.some (27, true)), (.l .load1), [(.t 30)]⟩, ⟨(.some 32), (.some (27, true)), (.q (.bin .eql 9)), [(.t 31), (.c (.imm (.string (B [97]))))]⟩, ⟨(.some 33), none, (.q .pick), [(.t 27), (.t 32), (.c (.imm (.bool false)))]⟩, ⟨(.some 34), none, (.q .mv), [(.t 33)]⟩, ⟨(.some 35), (.some (34, true)), (.q .mv), [(.t 1)]⟩, ⟨(.some 36), (.some (34, true)), (.q (.iaddrS 3)), [(.t 35), (.c (.imm (.int .i64 1)))]⟩, ⟨(.some 37), (.some (34, true)), (.q (.faddr 0)), [(.t 36)]⟩, ⟨(.some 38), (.some (34, true)), (.l .load1), [(.t 37)]⟩, ⟨(.some 39), (.some (34, true)), (.q (.bin .eql 3)), [(.t 38), (.c (.imm (.int .i64 1)))]⟩, ⟨(.some 40), none, (.q .pick), [(.t 34), (.t 39), (.c (.imm (.bool false)))]⟩, ⟨(.some 41), none, (.q .mv), [(.t 40)]⟩, ⟨(.some 42), (.some (41, true)), (.q .mv), [(.t 1)]⟩, ⟨(.some 43), (.some (41, true)), (.q (.iaddrS 3)), [(.t 42), (.c (.imm (.int .i64 1)))]⟩, ⟨(.some 44), (.some (41, true)), (.q (.faddr 2)), [(.t 43)]⟩, ⟨(.some 45), (.some (41, true)), (.l .load1), [(.t 44)]⟩, ⟨(.some 46), (.some (41, true)), (.q .toStr), [(.t 45)]⟩, ⟨(.some 47), (.some (41, true)), (.q (.bin .eql 9)), [(.t 46), (.c (.imm (.string (B [120]))))]⟩, ⟨(.some 48), none, (.q .pick), [(.t 41), (.t 47), (.c (.imm (.bool false)))]⟩, ⟨(.some 0), none, (.q .mv), [(.t 48)]⟩]) .ret)))
theorem fn7 : IsFn Tryz.prog 7 (List.range 200) c7 [0] 49 := ⟨_, _, Tryz.func7, rfl, by decide +kernel, by kernel_rfl, rfl, rfl⟩
set_option maxHeartbeats 4000000 in
theorem p7s : Pure Tryz.prog G 7 [] (bool true) := by
  refine pure_of_code' (S := sp [(10, wake10)] []) hm hG (sp_holds (.cons told_wake10 .nil) .nil) fn7 (St 3 49 [.junk, .junk, .junk] []) (by kernel_rfl) trivial (by simp [AV.low]) ?_
  have q10 : ∀ K, ask wake10 [.sl 36 [.agg [T [97], i64 0, i64 0, .imm (.int .u8 0), .imm (.int .u8 0), .imm (.int .u8 0), .imm (.int .u8 0), .imm (.int .u8 0), .imm (.int .u8 0), .imm (.int .u8 0), .imm (.int .u8 0), .imm (.int .u8 0), .imm (.int .u8 0), .imm (.int .u8 0), .imm (.int .u8 0), .imm (.int .u8 0), .imm (.int .u8 0), .imm (.int .u8 0), .imm (.int .u8 0), .imm (.int .u8 0), .imm (.int .u8 0), .imm (.int .u8 0), .imm (.int .u8 0), .imm (.int .u8 0), .imm (.int .u8 0), .imm (.int .u8 0), .imm (.int .u8 0), .imm (.int .u8 0), .imm (.int .u8 0), .imm (.int .u8 0), .imm (.int .u8 0), .imm (.int .u8 0), .imm (.int .u8 0), .imm (.int .u8 0), .imm (.int .u8 0), i64 0]] none, .sl 2 [.agg [T [98], .sl 1 [.imm (.int .u8 120)] none]] none] K = K (.tup [.sl 3 [.agg [i64 2, T [97], .sl 0 [] none], .agg [i64 1, T [98], .sl 1 [.imm (.int .u8 120)] none]] none, i64 0]) := fun K => eq_iff_iff.2 ⟨fun h => h.2, fun h => ⟨rfl, h⟩⟩
  simp (maxSteps := 2000000) -implicitDefEqProofs only [c7, RS, RX, Nat.reduceLT, ↓RP0, ↓RP1, ↓RP2, ↓RP3, RV, RW, ↓reduceIte, Nat.reduceAdd, Nat.reduceSub, Nat.reduceMul, Nat.reduceLeDiff, Nat.reduceEqDiff, Int.reduceLT, Int.reduceLE, Int.reduceEq, Int.reduceNe, Int.reduceAdd, Int.reduceSub, Int.reduceMul, Int.reduceNeg, Int.reduceToNat, reduceCtorEq, ↓q10, q10, List.getD_cons_zero, List.getD_cons_succ]
  have n2 : ((2 : Nat) : Int) = 2 := rfl
  rw [n2]
  exact ⟨(fun x hx => by rw [List.mem_singleton.1 hx]; exact ⟨rfl, rfl⟩), (fun x hx => by rw [List.mem_singleton.1 hx]; exact ⟨rfl, rfl⟩), (fun x hx => by rw [List.mem_singleton.1 hx]; exact ⟨rfl, rfl⟩), fun _ => ⟨by decide, by decide, by decide, by decide, fun h => absurd rfl h⟩, fun h => absurd rfl h⟩
def fixNil (n : Nat) : AV → AV
  | .sl 0 [] none => .sl n [] none
  | a => a
theorem fixNil_rep {n : Nat} {E : Env} {w : World} {a : AV} {v : Value} (h : Rep E w a v) : Rep E w (fixNil n a) v := by
  unfold fixNil
  split
  · cases h with
    | sl size xs tok A cap us h1 h2 h3 h4 h5 h6 h7 =>
      exact .sl n [] none A cap us h1 h2 (fun x hx => by cases hx) h4 h5 h6 trivial
  · exact h
theorem fixNil_reps {n : Nat} {E : Env} {w : World} : ∀ {us : List AV} {vs : List Value}, Reps E w us vs → Reps E w (us.map (fixNil n)) vs
  | _, _, .nil => .nil
  | _, _, .cons a v us vs h h1 => .cons _ _ _ _ (fixNil_rep h) (fixNil_reps h1)
def nilS (n : Nat) (p : PSp) : PSp := fun args K => p (args.map (fixNil n)) K
theorem told_nilS {P : Program} {G : Nat → Option (List AV)} {F : FuncId} {n : Nat} {p : PSp} (h : Told P G F p) : Told P G F (nilS n p) := by
  intro args K hk
  obtain ⟨r, h1, h2⟩ := h _ _ hk
  exact ⟨r, fun H lo E w cargs hs ha => h1 H lo E w cargs hs (fixNil_reps ha), h2⟩
def findF (t : List Fil) (d : List UInt8) : Option Fil := t.find? fun f => decide (f.path = d)
def mayR (t : List Fil) : Bool := decide (t.length ≤ 200) && (List.range t.length).all fun i => !badAt t i && t.all fun g => !under (t.getD i filE.d0).path g.path
def treeStep (out : List Fil) (f : Fil) : List Fil := if mayR (applyRef out ⟨1, f.path, f.data⟩) = true then applyRef out ⟨1, f.path, f.data⟩ else out
def treeTo (l : List Fil) (i : Nat) : List Fil := (l.take i).foldl treeStep []
def treeF (l : List Fil) : List Fil := treeTo l 30
theorem treeTo_succ {l : List Fil} {i : Nat} (h : i < l.length) : treeTo l (i + 1) = treeStep (treeTo l i) (l.getD i filE.d0) := by
  unfold treeTo
  rw [take_get (d := filE.d0) h, List.foldl_append]; rfl
theorem treeStep_ok {out : List Fil} {f : Fil} (h : filE.all out) (hf : FilOk f) : filE.all (treeStep out f) := by
  unfold treeStep
  split
  · exact applyRef_ok h ⟨hf.path, hf.data⟩
  · exact h
theorem treeStep_len (out : List Fil) (f : Fil) : (treeStep out f).length ≤ out.length + 1 := by
  unfold treeStep
  split
  · exact applyRef_len _ _
  · omega
theorem treeTo_ok {l : List Fil} (ho : filE.all l) : ∀ i, filE.all (treeTo l i) ∧ (treeTo l i).length ≤ i
  | 0 => ⟨(fun x hx => by cases hx), by simp [treeTo]⟩
  | i + 1 => by
    obtain ⟨h1, h2⟩ := treeTo_ok ho i
    rcases Nat.lt_or_ge i l.length with h | h
    · rw [treeTo_succ h]
      have := treeStep_len (treeTo l i) (l.getD i filE.d0)
      exact ⟨treeStep_ok h1 (filE.all_getD ho h), by omega⟩
    · have : treeTo l (i + 1) = treeTo l i := by unfold treeTo; rw [List.take_of_length_le (by omega), List.take_of_length_le h]
      rw [this]; exact ⟨h1, by omega⟩
def mayB : PSp := fil1b mayR
theorem told_mayB : Told Tryz.prog G 20 mayB := told_spOnB fun l h => p20c l h.1 h.2
theorem told_applyR : Told Tryz.prog G 23 (filEd applyRef) := told_spOn fun x h => p23c x.1 x.2 h.1.1 h.2 h.1.2
theorem told_applyN : Told Tryz.prog G 23 (nilS 2 (filEd applyRef)) := told_nilS told_applyR
theorem pure_fix {F : FuncId} {args : List AV} {r : AV} (n : Nat) (h : Pure Tryz.prog G F args r) : Pure Tryz.prog G F args (fixNil n r) := fun H lo E w cargs hs ha =>
  (h H lo E w cargs hs ha).mono fun v w' ⟨E', h1, h2, h3⟩ => ⟨E', fixNil_rep h1, h2, h3⟩
/-- Files, none of them told as a nil slice. -/
def outV (t : List Fil) : AV := if t = [] then .sl 0 [] none else filsV t
theorem outV_fix (t : List Fil) : fixNil 2 (outV t) = filsV t := by
  unfold outV
  split
  · rename_i h; subst h; rfl
  · rfl
theorem outV_low (n : Nat) (t : List Fil) : (outV t).low n := by
  unfold outV
  split
  · exact ⟨trivial, fun k hk => by cases hk⟩
  · exact ⟨lows_fils n t, fun k hk => by cases hk⟩
theorem outV_strip (t : List Fil) : (outV t).strip = outV t := by unfold outV; split <;> rfl
theorem applyRef_ne {t : List Fil} {e : Edt} (h : e.kind = 1) : applyRef t e ≠ [] := by
  rw [← applyP_eq]
  unfold applyP
  rw [if_neg (by simp [h])]
  simp
theorem outV_put {t : List Fil} {e : Edt} (h : e.kind = 1) : outV (applyRef t e) = filsV (applyRef t e) := by unfold outV; rw [if_neg (applyRef_ne h)]
theorem outV_sl (t : List Fil) : ∃ n xs, outV t = .sl n xs none := by
  unfold outV
  split
  · exact ⟨_, _, rfl⟩
  · exact ⟨_, _, rfl⟩
def c9 : ACode := (.seq (.reg false 0 [⟨(.some 2), none, (.q .mv), [(.c (.sl 0 [] none))]⟩]) (.seq (.reg false 0 [⟨(.some 3), none, (.q .mv), [(.c (.sl 0 [] none))]⟩]) (.seq (.seq (.reg false 0 [⟨(.some 4), none, (.q .mv), [(.c (.imm (.int .i64 0)))]⟩]) (.block 0 (.loop (.seq (.seq (.reg false 0 [⟨(.some 6), none, (.q .mv), [(.t 4)]⟩, ⟨(.some 7), none, (.q .mv), [(.t 0)]⟩, ⟨(.some 8), none, (.q .lenL), [(.t 7)]⟩, ⟨(.some 9), none, (.q (.bin .lss 3)), [(.t 6), (.t 8)]⟩, ⟨(.some 10), none, (.q .mv), [(.t 9)]⟩, ⟨(.some 11), (.some (10, true)), (.q .mv), [(.t 4)]⟩, ⟨(.some 12), (.some (10, true)), (.q (.bin .lss 3)), [(.t 11), (.c (.imm (.int .i64 30)))]⟩, ⟨(.some 13), none, (.q .pick), [(.t 10), (.t 12), (.c (.imm (.bool false)))]⟩]) (.cond (.t 13) .skip (.exit 0))) (.seq (.block 1 (.seq (.reg true 0 [⟨(.some 16), none, (.q .mv), [(.t 3)]⟩, ⟨(.some 17), none, (.q .mv), [(.t 0)]⟩, ⟨(.some 18), none, (.q .mv), [(.t 4)]⟩, ⟨(.some 19), none, (.q (.iaddrS 2)), [(.t 17), (.t 18)]⟩, ⟨(.some 20), none, (.q (.faddr 0)), [(.t 19)]⟩, ⟨(.some 21), none, (.l .load1), [(.t 20)]⟩, ⟨(.some 22), none, (.q .mv), [(.t 0)]⟩, ⟨(.some 23), none, (.q .mv), [(.t 4)]⟩, ⟨(.some 24), none, (.q (.iaddrS 2)), [(.t 22), (.t 23)]⟩, ⟨(.some 25), none, (.q (.faddr 1)), [(.t 24)]⟩, ⟨(.some 26), none, (.l .load1), [(.t 25)]⟩, ⟨(.some 27), none, (.q (.build [(.imm (.int .i64 0)), (.imm (.string (B []))), (.sl 0 [] none)] [(0, 1), (1, 1), (2, 1)])), [(.c (.imm (.int .i64 1))), (.t 21), (.t 26)]⟩, ⟨(.some 28), none, (.call true), [(.c (.fn (.func 23) [] [])), (.t 16), (.t 27)]⟩, ⟨(.some 5), none, (.q .mv), [(.t 28)]⟩]) (.seq (.reg false 0 [⟨(.some 29), none, (.q .mv), [(.t 5)]⟩, ⟨(.some 30), none, (.call true), [(.c (.fn (.func 20) [] [])), (.t 29)]⟩]) (.cond (.t 30) (.reg false 0 [⟨(.some 31), none, (.q .mv), [(.t 5)]⟩, ⟨(.some 3), none, (.q .mv), [(.t 31)]⟩]) .skip)))) (.reg false 0 [⟨(.some 14), none, (.q .mv), [(.t 4)]⟩, ⟨(.some 15), none, (.q (.bin .add 3)), [(.t 14), (.c (.imm (.int .i64 1)))]⟩, ⟨(.some 4), none, (.q .mv), [(.t 15)]⟩])))))) (.seq (.reg false 0 [⟨(.some 32), none, (.q .mv), [(.t 3)]⟩, ⟨(.some 2), none, (.q .mv), [(.t 32)]⟩]) .ret))))
theorem fn9 : IsFn Tryz.prog 9 [] c9 [2] 33 := ⟨_, _, Tryz.func9, rfl, by decide +kernel, by kernel_rfl, rfl, rfl⟩
set_option maxHeartbeats 4000000 in
theorem p9o (l : List Fil) (ho : filE.all l) (hs : l.length ≤ 1099511627) : Pure Tryz.prog G 9 [filsV l] (outV (treeF l)) := by
  refine pure_of_code' (S := sp [(23, nilS 2 (filEd applyRef)), (20, mayB)] []) hm hG (sp_holds (.cons told_applyN (.cons told_mayB .nil)) .nil) fn9 (St 6 33 [filsV l, .junk, .junk, .junk, .junk, .junk] []) (by kernel_rfl) ⟨⟨lows_fils 0 l, fun k hk => by cases hk⟩, trivial⟩ (outV_low 0 _) ?_
  simp (maxSteps := 2000000) -implicitDefEqProofs only [c9, RS, RX, Nat.reduceLT, ↓RP0, ↓RP1, ↓RP2, ↓RP3, RV, RW, ↓reduceIte, Nat.reduceAdd, Nat.reduceSub, Nat.reduceMul, Nat.reduceLeDiff, Nat.reduceEqDiff, Int.reduceLT, Int.reduceLE, Int.reduceEq, Int.reduceNe, Int.reduceAdd, Int.reduceSub, Int.reduceMul, Int.reduceNeg, Int.reduceToNat, reduceCtorEq, fils_len]
  have hend : ∀ i, i ≤ l.length → ¬ (i < l.length ∧ i < 30) → i ≤ 30 → treeTo l i = treeF l := fun i h1 h2 h3 => by
    unfold treeF treeTo
    rcases Nat.lt_or_ge i l.length with h | h
    · rw [show i = 30 by omega]
    · rw [List.take_of_length_le (by omega), List.take_of_length_le (by omega)]
  refine loopB (st := fun (i : Nat) => (St 6 33 [filsV l, .junk, .sl 0 [] none, outV (treeTo l i), i64 i, .junk] [])) (hp := fun _ => []) (I := fun i => i ≤ l.length ∧ i ≤ 30) (m := fun i => l.length - i) (0 : Nat) ⟨Nat.zero_le _, by decide⟩ ?_ ?_
  · refine weak_nilS ?_; simp [WeakL, AV.low, lows, lows_fils, treeTo, outV]
  · rintro i ⟨hi, hi30⟩
    have hlow := outV_low 0 (treeTo l i)
    obtain ⟨to, tl⟩ := treeTo_ok ho i
    have hen := hend i hi
    have hsl := outV_strip (treeTo l i)
    have hsl2 := outV_sl (treeTo l i)
    by_cases hlt : i < l.length
    · have e3 : ((i : Int) < (l.length : Int)) = True := eq_true (by omega)
      by_cases h30 : i < 30
      · have e4 : ((i : Int) < 30) = True := eq_true (by omega)
        have e1 := filE.vs_get hlt
        have ts := treeTo_succ hlt
        have o1 : FilOk (l.getD i filE.d0) := filE.all_getD ho hlt
        generalize l.getD i filE.d0 = x at *
        change _ = AV.agg (filC x) at e1
        have eo : EdtOk ⟨1, x.path, x.data⟩ := ⟨o1.path, o1.data⟩
        have q23 : ∀ K, ask (nilS 2 (filEd applyRef)) [outV (treeTo l i), .agg [i64 1, T x.path, bytesV x.data]] K = K (filsV (applyRef (treeTo l i) ⟨1, x.path, x.data⟩)) := fun K => by
          have : ask (nilS 2 (filEd applyRef)) [outV (treeTo l i), .agg [i64 1, T x.path, bytesV x.data]] K = ask (filEd applyRef) [fixNil 2 (outV (treeTo l i)), edtV ⟨1, x.path, x.data⟩] K := rfl
          rw [this, outV_fix]
          exact ask_filEd ⟨to, by omega⟩ eo
        have ao := applyRef_ok to eo
        have al := applyRef_len (treeTo l i) ⟨1, x.path, x.data⟩
        have q20 : ∀ K, ask mayB [filsV (applyRef (treeTo l i) ⟨1, x.path, x.data⟩)] K = splitB (mayR (applyRef (treeTo l i) ⟨1, x.path, x.data⟩)) K := fun K => ask_fil1b ⟨ao, by omega⟩
        have op := outV_put (t := treeTo l i) (e := ⟨1, x.path, x.data⟩) rfl
        have tstep : treeStep (treeTo l i) x = if mayR (applyRef (treeTo l i) ⟨1, x.path, x.data⟩) = true then applyRef (treeTo l i) ⟨1, x.path, x.data⟩ else treeTo l i := rfl
        rw [tstep] at ts
        have ib : In64 ((i : Int) + 1) := ⟨by omega, by omega⟩
        have hlow2 : ∀ n, lows n ((applyRef (treeTo l i) ⟨1, x.path, x.data⟩).map filE.v) := fun n => lows_fils n _
        have hO1 : treeTo l (i + 1) = treeTo l i → outV (treeTo l (i + 1)) = outV (treeTo l i) := fun h => by rw [h]
        clear tstep hen to tl
        generalize applyRef (treeTo l i) ⟨1, x.path, x.data⟩ = R at *
        generalize outV (treeTo l i) = O at *
        have hO : O.strip = O := hsl
        obtain ⟨on, oxs, rfl⟩ := hsl2
        cases hmr : mayR R with
        | true =>
          rw [hmr, if_pos rfl] at ts
          simp (maxSteps := 2000000) -implicitDefEqProofs only [RS, RX, Nat.reduceLT, ↓RP0, ↓RP1, ↓RP2, ↓RP3, RV, RW, ↓reduceIte, Nat.reduceAdd, Nat.reduceSub, Nat.reduceMul, Nat.reduceLeDiff, Nat.reduceEqDiff, Int.reduceLT, Int.reduceLE, Int.reduceEq, Int.reduceNe, Int.reduceAdd, Int.reduceSub, Int.reduceMul, Int.reduceNeg, Int.reduceToNat, reduceCtorEq, ↓q23, q23, ↓q20, q20, hmr, e1, e3, e4, fil_len, fil0, fil1', fil_take, fil_strip, bytes_len, fils_len, AV.cells]
          refine ⟨ib, i + 1, by dsimp only; omega, ⟨by omega, by omega⟩, ?_⟩
          dsimp only
          rw [ts, op]
          refine weak_nilS ?_; simp [WeakL, AV.low, lows, lows_fils]
        | false =>
          rw [hmr, if_neg (by decide)] at ts
          simp (maxSteps := 2000000) -implicitDefEqProofs only [RS, RX, Nat.reduceLT, ↓RP0, ↓RP1, ↓RP2, ↓RP3, RV, RW, ↓reduceIte, Nat.reduceAdd, Nat.reduceSub, Nat.reduceMul, Nat.reduceLeDiff, Nat.reduceEqDiff, Int.reduceLT, Int.reduceLE, Int.reduceEq, Int.reduceNe, Int.reduceAdd, Int.reduceSub, Int.reduceMul, Int.reduceNeg, Int.reduceToNat, reduceCtorEq, ↓q23, q23, ↓q20, q20, hmr, e1, e3, e4, fil_len, fil0, fil1', fil_take, fil_strip, bytes_len, fils_len, AV.cells]
          refine ⟨ib, i + 1, by dsimp only; omega, ⟨by omega, by omega⟩, ?_⟩
          dsimp only
          rw [hO1 ts]
          refine weak_nilS ?_; simp [WeakL, AV.low, lows, lows_fils]; exact .inl hlow.1
      · have e4 : ((i : Int) < 30) = False := eq_false (by omega)
        rw [← hen (by omega) hi30]
        generalize outV (treeTo l i) = O at *
        obtain ⟨on, oxs, rfl⟩ := hsl2
        simp (maxSteps := 2000000) -implicitDefEqProofs only [RS, RX, Nat.reduceLT, ↓RP0, ↓RP1, ↓RP2, ↓RP3, RV, RW, ↓reduceIte, Nat.reduceAdd, Nat.reduceSub, Nat.reduceMul, Nat.reduceLeDiff, Nat.reduceEqDiff, Int.reduceLT, Int.reduceLE, Int.reduceEq, Int.reduceNe, Int.reduceAdd, Int.reduceSub, Int.reduceMul, Int.reduceNeg, Int.reduceToNat, reduceCtorEq, e3, e4, fils_len]
    · obtain rfl : i = l.length := by omega
      rw [← hen (by omega) hi30]
      generalize outV (treeTo l l.length) = O at *
      obtain ⟨on, oxs, rfl⟩ := hsl2
      simp (maxSteps := 2000000) -implicitDefEqProofs only [RS, RX, Nat.reduceLT, ↓RP0, ↓RP1, ↓RP2, ↓RP3, RV, RW, ↓reduceIte, Nat.reduceAdd, Nat.reduceSub, Nat.reduceMul, Nat.reduceLeDiff, Nat.reduceEqDiff, Int.reduceLT, Int.reduceLE, Int.reduceEq, Int.reduceNe, Int.reduceAdd, Int.reduceSub, Int.reduceMul, Int.reduceNeg, Int.reduceToNat, reduceCtorEq, fils_len, Int.lt_irrefl]
theorem p9c (l : List Fil) (ho : filE.all l) (hs : l.length ≤ 1099511627) : Pure Tryz.prog G 9 [filsV l] (filsV (treeF l)) := by
  have := pure_fix 2 (p9o l ho hs)
  rwa [outV_fix] at this
end Go.AL.Path
