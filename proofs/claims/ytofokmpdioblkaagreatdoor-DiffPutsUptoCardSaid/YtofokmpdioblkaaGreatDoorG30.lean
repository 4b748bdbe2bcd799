/- awake; the file at a path. -/
import Derived.Test.YtofokmpdioblkaaGreatDoorG29
set_option linter.unusedSimpArgs false
set_option linter.unusedVariables false
set_option maxRecDepth 100000
namespace Go.AL.Path
open Go Go.RowKit Go.Proofs Go.AL

def wakeR : AV := .tup [.sl 3 [.agg [i64 2, T [97], .sl 0 [] none], .agg [i64 1, T [98], bytesV [120]]] none, i64 0]
def wake10 : PSp := fun args K => args = [shwsV [wakeS], filsV [wakeF]] ∧ K wakeR
theorem told_wake10 : Told Tryz.prog G 10 wake10 := by
  rintro args K ⟨rfl, h⟩
  exact ⟨_, p10w, h⟩
def c7 : ACode := (.seq (.reg false 0 [⟨(.some 0), none, (.q .mv), [(.c (.imm (.bool false)))]⟩]) (.seq (.reg false 3 [⟨(.some 4), none, (.q (.build [(.imm (.string (B []))), (.imm (.int .i64 0)), (.imm (.int .i64 0)), (.imm (.int .u8 0)), (.imm (.int .u8 0)), (.imm (.int .u8 0)), (.imm (.int .u8 0)), (.imm (.int .u8 0)), (.imm (.int .u8 0)), (.imm (.int .u8 0)), (.imm (.int .u8 0)), (.imm (.int .u8 0)), (.imm (.int .u8 0)), (.imm (.int .u8 0)), (.imm (.int .u8 0)), (.imm (.int .u8 0)), (.imm (.int .u8 0)), (.imm (.int .u8 0)), (.imm (.int .u8 0)), (.imm (.int .u8 0)), (.imm (.int .u8 0)), (.imm (.int .u8 0)), (.imm (.int .u8 0)), (.imm (.int .u8 0)), (.imm (.int .u8 0)), (.imm (.int .u8 0)), (.imm (.int .u8 0)), (.imm (.int .u8 0)), (.imm (.int .u8 0)), (.imm (.int .u8 0)), (.imm (.int .u8 0)), (.imm (.int .u8 0)), (.imm (.int .u8 0)), (.imm (.int .u8 0)), (.imm (.int .u8 0)), (.imm (.int .i64 0))] [(0, 1)])), [(.c (.imm (.string (B [97]))))]⟩, ⟨(.some 5), none, (.m (.bsliceO 60 36) 0), [(.t 4)]⟩, ⟨(.some 6), none, (.m (.bsliceO 5 1) 1), [(.c (.imm (.int .u8 120)))]⟩, ⟨(.some 7), none, (.e .mark), [(.t 6)]⟩, ⟨(.some 8), none, (.q (.build [(.imm (.string (B []))), (.sl 0 [] none)] [(0, 1), (1, 1)])), [(.c (.imm (.string (B [98])))), (.t 7)]⟩, ⟨(.some 9), none, (.m (.bsliceO 35 2) 2), [(.t 8)]⟩, ⟨(.some 10), none, (.call true), [(.c (.fn (.func 10) [] [])), (.t 5), (.t 9)]⟩, ⟨(.some 3), none, (.q .mv), [(.t 10)]⟩, ⟨(.some 11), none, (.q (.ext 0)), [(.t 3)]⟩, ⟨(.some 12), none, (.q (.ext 1)), [(.t 3)]⟩, ⟨(.some 1), none, (.q .mv), [(.t 11)]⟩, ⟨(.some 2), none, (.q .mv), [(.t 12)]⟩]) (.seq (.reg false 0 [⟨(.some 13), none, (.q .mv), [(.t 2)]⟩, ⟨(.some 14), none, (.q (.bin .eql 27)), [(.t 13), (.c (.imm (.int .i64 0)))]⟩, ⟨(.some 15), none, (.q .mv), [(.t 14)]⟩, ⟨(.some 16), (.some (15, true)), (.q .mv), [(.t 1)]⟩, ⟨(.some 17), (.some (15, true)), (.q .lenL), [(.t 16)]⟩, ⟨(.some 18), (.some (15, true)), (.q (.bin .eql 3)), [(.t 17), (.c (.imm (.int .i64 2)))]⟩, ⟨(.some 19), none, (.q .pick), [(.t 15), (.t 18), (.c (.imm (.bool false)))]⟩, ⟨(.some 20), none, (.q .mv), [(.t 19)]⟩, ⟨(.some 21), (.some (20, true)), (.q .mv), [(.t 1)]⟩, ⟨(.some 22), (.some (20, true)), (.q (.iaddrS 3)), [(.t 21), (.c (.imm (.int .i64 0)))]⟩, ⟨(.some 23), (.some (20, true)), (.q (.faddr 0)), [(.t 22)]⟩, ⟨(.some 24), (.some (20, true)), (.l .load1), [(.t 23)]⟩, ⟨(.some 25), (.some (20, true)), (.q (.bin .eql 3)), [(.t 24), (.c (.imm (.int .i64 2)))]⟩, ⟨(.some 26), none, (.q .pick), [(.t 20), (.t 25), (.c (.imm (.bool false)))]⟩, ⟨(.some 27), none, (.q .mv), [(.t 26)]⟩, ⟨(.some 28), (.some (27, true)), (.q .mv), [(.t 1)]⟩, ⟨(.some 29), (.some (27, true)), (.q (.iaddrS 3)), [(.t 28), (.c (.imm (.int .i64 0)))]⟩, ⟨(.some 30), (.some (27, true)), (.q (.faddr 1)), [(.t 29)]⟩, ⟨(.some 31), (.some (27, true)), (.l .load1), [(.t 30)]⟩, ⟨(.some 32), (.some (27, true)), (.q (.bin .eql 9)), [(.t 31), (.c (.imm (.string (B [97]))))]⟩, ⟨(.some 33), none, (.q .pick), [(.t 27), (.t 32), (.c (.imm (.bool false)))]⟩, ⟨(.some 34), none, (.q .mv), [(.t 33)]⟩, ⟨(.some 35), (.some (34, true)), (.q .mv), [(.t 1)]⟩, ⟨(.some 36), (.some (34, true)), (.q (.iaddrS 3)), [(.t 35), (.c (.imm (.int .i64 1)))]⟩, ⟨(.some 37), (.some (34, true)), (.q (.faddr 0)), [(.t 36)]⟩, ⟨(.some 38), (.some (34, true)), (.l .load1), [(.t 37)]⟩, ⟨(.some 39), (.some (34, true)), (.q (.bin .eql 3)), [(.t 38), (.c (.imm (.int .i64 1)))]⟩, ⟨(.some 40), none, (.q .pick), [(.t 34), (.t 39), (.c (.imm (.bool false)))]⟩, ⟨(.some 41), none, (.q .mv), [(.t 40)]⟩, ⟨(.some 42), (.some (41, true)), (.q .mv), [(.t 1)]⟩, ⟨(.some 43), (.some (41, true)), (.q (.iaddrS 3)), [(.t 42), (.c (.imm (.int .i64 1)))]⟩, ⟨(.some 44), (.some (41, true)), (.q (.faddr 2)), [(.t 43)]⟩, ⟨(.some 45), (.some (41, true)), (.l .load1), [(.t 44)]⟩, ⟨(.some 46), (.some (41, true)), (.q .toStr), [(.t 45)]⟩, ⟨(.some 47), (.some (41, true)), (.q (.bin .eql 9)), [(.t 46), (.c (.imm (.string (B [120]))))]⟩, ⟨(.some 48), none, (.q .pick), [(.t 41), (.t 47), (.c (.imm (.bool false)))]⟩, ⟨(.some 0), none, (.q .mv), [(.t 48)]⟩]) .ret)))
theorem fn7 : IsFn Tryz.prog 7 (List.range 200) c7 [0] 49 := ⟨_, _, Tryz.func7, rfl, by decide +kernel, by kernel_rfl, rfl, rfl⟩
set_option maxHeartbeats 4000000 in
theorem p7s : Pure Tryz.prog G 7 [] (bool true) := by
  refine pure_of_code' (S := sp [(10, wake10)] []) hm hG (sp_holds (.cons told_wake10 .nil) .nil) fn7 (St 3 49 [.junk, .junk, .junk] []) (by kernel_rfl) trivial (by simp [AV.low]) ?_
  have q10 : ∀ K, ask wake10 [.sl 36 [.agg [T [97], i64 0, i64 0, .imm (.int .u8 0), .imm (.int .u8 0), .imm (.int .u8 0), .imm (.int .u8 0), .imm (.int .u8 0), .imm (.int .u8 0), .imm (.int .u8 0), .imm (.int .u8 0), .imm (.int .u8 0), .imm (.int .u8 0), .imm (.int .u8 0), .imm (.int .u8 0), .imm (.int .u8 0), .imm (.int .u8 0), .imm (.int .u8 0), .imm (.int .u8 0), .imm (.int .u8 0), .imm (.int .u8 0), .imm (.int .u8 0), .imm (.int .u8 0), .imm (.int .u8 0), .imm (.int .u8 0), .imm (.int .u8 0), .imm (.int .u8 0), .imm (.int .u8 0), .imm (.int .u8 0), .imm (.int .u8 0), .imm (.int .u8 0), .imm (.int .u8 0), .imm (.int .u8 0), .imm (.int .u8 0), .imm (.int .u8 0), i64 0]] none, .sl 2 [.agg [T [98], .sl 1 [.imm (.int .u8 120)] none]] none] K = K (.tup [.sl 3 [.agg [i64 2, T [97], .sl 0 [] none], .agg [i64 1, T [98], .sl 1 [.imm (.int .u8 120)] none]] none, i64 0]) := fun K => eq_iff_iff.2 ⟨fun h => h.2, fun h => ⟨rfl, h⟩⟩
  simp (maxSteps := 2000000) -implicitDefEqProofs only [c7, RS, Nat.reduceLT, ↓RP0, ↓RP1, ↓RP2, ↓RP3, RV, RW, ↓reduceIte, Nat.reduceAdd, Nat.reduceSub, Nat.reduceMul, Nat.reduceLeDiff, Nat.reduceEqDiff, Int.reduceLT, Int.reduceLE, Int.reduceEq, Int.reduceNe, Int.reduceAdd, Int.reduceSub, Int.reduceMul, Int.reduceNeg, Int.reduceToNat, reduceCtorEq, ↓q10, q10, List.getD_cons_zero, List.getD_cons_succ]
  have n2 : ((2 : Nat) : Int) = 2 := rfl
  rw [n2]
  exact ⟨(fun x hx => by rw [List.mem_singleton.1 hx]; exact ⟨rfl, rfl⟩), (fun x hx => by rw [List.mem_singleton.1 hx]; exact ⟨rfl, rfl⟩), (fun x hx => by rw [List.mem_singleton.1 hx]; exact ⟨rfl, rfl⟩), fun _ => ⟨by decide, by decide, by decide, by decide, fun h => absurd rfl h⟩, fun h => absurd rfl h⟩

/-! An empty slice is one of any size. -/
def fixNil (n : Nat) : AV → AV
  | .sl 0 [] none => .sl n [] none
  | a => a
theorem fixNil_rep {n : Nat} {E : Env} {w : World} {a : AV} {v : Value} (h : Rep E w a v) : Rep E w (fixNil n a) v := by
  unfold fixNil
  split
  · cases h with
    | sl size xs tok A cap us h1 h2 h3 h4 h5 h6 h7 =>
      exact .sl n [] none A cap us h1 h2 (fun x hx => by cases hx) h4 h5 h6 trivial
  · exact h
theorem fixNil_reps {n : Nat} {E : Env} {w : World} : ∀ {us : List AV} {vs : List Value}, Reps E w us vs → Reps E w (us.map (fixNil n)) vs
  | _, _, .nil => .nil
  | _, _, .cons a v us vs h h1 => .cons _ _ _ _ (fixNil_rep h) (fixNil_reps h1)
def nilS (n : Nat) (p : PSp) : PSp := fun args K => p (args.map (fixNil n)) K
theorem told_nilS {P : Program} {G : Nat → Option (List AV)} {F : FuncId} {n : Nat} {p : PSp} (h : Told P G F p) : Told P G F (nilS n p) := by
  intro args K hk
  obtain ⟨r, h1, h2⟩ := h _ _ hk
  exact ⟨r, fun H lo E w cargs hs ha => h1 H lo E w cargs hs (fixNil_reps ha), h2⟩

/-! The file at a path. -/
def findF (t : List Fil) (d : List UInt8) : Option Fil := t.find? fun f => decide (f.path = d)
def dataOf (t : List Fil) (d : List UInt8) : List UInt8 := ((findF t d).map Fil.data).getD []
def foundV (t : List Fil) (d : List UInt8) : AV := match findF t d with
  | some f => .tup [bytesV f.data, bool true]
  | none => .tup [.sl 0 [] none, bool false]
theorem find_hit {t : List Fil} {d : List UInt8} {i : Nat} (h : i < t.length) (hp : (t.getD i filE.d0).path = d) (hn : ∀ j, j < i → ¬ (t.getD j filE.d0).path = d) : findF t d = some (t.getD i filE.d0) := by
  have hg : ∀ j (hj : j < t.length), t.getD j filE.d0 = t[j] := fun j hj => by rw [List.getD_eq_getElem?_getD, List.getElem?_eq_getElem hj]; rfl
  unfold findF
  rw [List.find?_eq_some_iff_getElem]
  refine ⟨by simpa using hp, i, h, (hg i h).symm, fun j hj => ?_⟩
  have := hn j hj
  rw [hg j (by omega)] at this
  simpa using this
theorem find_none {t : List Fil} {d : List UInt8} (hn : ∀ j, j < t.length → ¬ (t.getD j filE.d0).path = d) : findF t d = none := by
  have hg : ∀ j (hj : j < t.length), t.getD j filE.d0 = t[j] := fun j hj => by rw [List.getD_eq_getElem?_getD, List.getElem?_eq_getElem hj]; rfl
  unfold findF
  rw [List.find?_eq_none]
  intro f hf
  obtain ⟨j, hj, rfl⟩ := List.getElem_of_mem hf
  have := hn j hj
  rw [hg j hj] at this
  simpa using this
def c15 : ACode := (.seq (.reg false 0 [⟨(.some 4), none, (.q .mv), [(.c (.sl 0 [] none))]⟩, ⟨(.some 5), none, (.q .mv), [(.c (.imm (.bool false)))]⟩]) (.seq (.seq (.reg false 0 [⟨(.some 8), none, (.q .mv), [(.t 0)]⟩, ⟨(.some 9), none, (.q .lenL), [(.t 8)]⟩, ⟨(.some 10), none, (.q .mv), [(.c (.imm (.int .i64 0)))]⟩]) (.block 0 (.loop (.seq (.reg false 0 [⟨(.some 11), none, (.q (.bin .lss 3)), [(.t 10), (.t 9)]⟩]) (.seq (.cond (.t 11) .skip (.exit 0)) (.seq (.block 1 (.seq (.reg false 1 [⟨(.some 12), none, (.q (.iaddrS 2)), [(.t 8), (.t 10)]⟩, ⟨(.some 13), none, (.l (.loadA 2)), [(.t 12)]⟩, ⟨(.some 7), none, (.m (.alloc [(.imm (.string (B []))), (.sl 0 [] none)] false) 0), []⟩, ⟨none, none, (.e (.store 2)), [(.t 7), (.t 13)]⟩]) (.seq (.reg false 0 [⟨(.some 14), none, (.q (.faddr 0)), [(.t 7)]⟩, ⟨(.some 15), none, (.l .load1), [(.t 14)]⟩, ⟨(.some 16), none, (.q .mv), [(.t 1)]⟩, ⟨(.some 17), none, (.q (.bin .eql 9)), [(.t 15), (.t 16)]⟩]) (.cond (.t 17) (.seq (.reg false 0 [⟨(.some 18), none, (.q (.faddr 1)), [(.t 7)]⟩, ⟨(.some 19), none, (.l .load1), [(.t 18)]⟩, ⟨(.some 20), none, (.call true), [(.c (.fn (.func 30) [] [])), (.t 19)]⟩, ⟨(.some 4), none, (.q .mv), [(.t 20)]⟩, ⟨(.some 5), none, (.q .mv), [(.c (.imm (.bool true)))]⟩]) .ret) .skip)))) (.reg false 0 [⟨(.some 21), none, (.q (.bin .add 3)), [(.t 10), (.c (.imm (.int .i64 1)))]⟩, ⟨(.some 10), none, (.q .mv), [(.t 21)]⟩]))))))) (.seq (.reg false 0 [⟨(.some 4), none, (.q .mv), [(.c (.sl 0 [] none))]⟩, ⟨(.some 5), none, (.q .mv), [(.c (.imm (.bool false)))]⟩]) .ret)))
theorem fn15 : IsFn Tryz.prog 15 [] c15 [4, 5] 22 := ⟨_, _, Tryz.func15, rfl, by decide +kernel, by kernel_rfl, rfl, rfl⟩
set_option maxHeartbeats 4000000 in
theorem p15c (t : List Fil) (d : List UInt8) (ho : filE.all t) (hs : t.length ≤ 1099511627) : Pure Tryz.prog G 15 [filsV t, T d] (foundV t d) := by
  refine pure_of_code' (S := sp [(30, byId)] []) hm hG (sp_holds (.cons told_byId .nil) .nil) fn15 (St 11 22 [filsV t, T d, .junk, .junk, .junk, .junk, .junk, .junk, .junk, .junk, .junk] []) (by kernel_rfl) ⟨⟨lows_fils 0 t, fun k hk => by cases hk⟩, trivial, trivial⟩ (by unfold foundV; split <;> simp [AV.low, lows]) ?_
  simp (maxSteps := 2000000) -implicitDefEqProofs only [c15, RS, Nat.reduceLT, ↓RP0, ↓RP1, ↓RP2, ↓RP3, RV, RW, ↓reduceIte, Nat.reduceAdd, Nat.reduceSub, Nat.reduceMul, Nat.reduceLeDiff, Nat.reduceEqDiff, Int.reduceLT, Int.reduceLE, Int.reduceEq, Int.reduceNe, Int.reduceAdd, Int.reduceSub, Int.reduceMul, Int.reduceNeg, Int.reduceToNat, reduceCtorEq, fils_len]
  refine loopB (st := fun (i : Nat) => (St 11 22 [filsV t, T d, .junk, .junk, .sl 0 [] none, bool false, .junk, .junk, filsV t, i64 t.length, i64 i] [])) (hp := fun _ => []) (I := fun i => i ≤ t.length ∧ ∀ j, j < i → ¬ (t.getD j filE.d0).path = d) (m := fun i => t.length - i) (0 : Nat) ⟨Nat.zero_le _, fun j hj => by omega⟩ ?_ ?_
  · refine weak_nilS ?_; simp [WeakL, AV.low, lows, lows_fils]
  · rintro i ⟨hi, hn⟩
    by_cases hlt : i < t.length
    · have e1 := filE.vs_get hlt
      have e3 : ((i : Int) < (t.length : Int)) = True := eq_true (by omega)
      have o1 : FilOk (t.getD i filE.d0) := filE.all_getD ho hlt
      have hit := fun h => find_hit hlt h hn
      have hn' : ¬ (t.getD i filE.d0).path = d → ∀ j, j < i + 1 → ¬ (t.getD j filE.d0).path = d := fun h j hj => by
        rcases Nat.lt_or_ge j i with h1 | h1
        · exact hn j h1
        · obtain rfl : j = i := by omega
          exact h
      obtain ⟨x, hx⟩ : ∃ x, t.getD i filE.d0 = x := ⟨_, rfl⟩
      rw [hx] at e1 o1 hit hn'
      change _ = AV.agg (filC x) at e1
      have xd := o1.data
      simp (maxSteps := 2000000) -implicitDefEqProofs only [RS, Nat.reduceLT, ↓RP0, ↓RP1, ↓RP2, ↓RP3, RV, RW, ↓reduceIte, Nat.reduceAdd, Nat.reduceSub, Nat.reduceMul, Nat.reduceLeDiff, Nat.reduceEqDiff, Int.reduceLT, Int.reduceLE, Int.reduceEq, Int.reduceNe, Int.reduceAdd, Int.reduceSub, Int.reduceMul, Int.reduceNeg, Int.reduceToNat, reduceCtorEq, ↓ask_byId, ask_byId, e1, e3, fil_len, fil0, fil1', fil_take, fil_strip, bytes_len, fils_len, AV.cells]
      refine ⟨fun h => ⟨by omega, ?_⟩, fun h => ⟨⟨by omega, by omega⟩, i + 1, by dsimp only; omega, ⟨by omega, hn' h⟩, ?_⟩⟩
      · unfold foundV; rw [hit h]
      · refine weak_cutS 0 (by decide) (by simp) (by simp) ?_; simp [WeakL, AV.low, lows, lows_fils]
    · obtain rfl : i = t.length := by omega
      simp (maxSteps := 2000000) -implicitDefEqProofs only [RS, Nat.reduceLT, ↓RP0, ↓RP1, ↓RP2, ↓RP3, RV, RW, ↓reduceIte, Nat.reduceAdd, Nat.reduceSub, Nat.reduceMul, Nat.reduceLeDiff, Nat.reduceEqDiff, Int.reduceLT, Int.reduceLE, Int.reduceEq, Int.reduceNe, Int.reduceAdd, Int.reduceSub, Int.reduceMul, Int.reduceNeg, Int.reduceToNat, reduceCtorEq, fils_len, Int.lt_irrefl]
      unfold foundV; rw [find_none hn]

/-! A tree of some files. -/
def mayR (t : List Fil) : Bool := decide (t.length ≤ 200) && (List.range t.length).all fun i => !badAt t i && t.all fun g => !under (t.getD i filE.d0).path g.path
def treeStep (out : List Fil) (f : Fil) : List Fil := if mayR (applyRef out ⟨1, f.path, f.data⟩) = true then applyRef out ⟨1, f.path, f.data⟩ else out
def treeTo (l : List Fil) (i : Nat) : List Fil := (l.take i).foldl treeStep []
def treeF (l : List Fil) : List Fil := treeTo l 30
theorem treeTo_succ {l : List Fil} {i : Nat} (h : i < l.length) : treeTo l (i + 1) = treeStep (treeTo l i) (l.getD i filE.d0) := by
  unfold treeTo
  rw [take_get (d := filE.d0) h, List.foldl_append]; rfl
theorem treeStep_ok {out : List Fil} {f : Fil} (h : filE.all out) (hf : FilOk f) : filE.all (treeStep out f) := by
  unfold treeStep
  split
  · exact applyRef_ok h ⟨hf.path, hf.data⟩
  · exact h
theorem treeStep_len (out : List Fil) (f : Fil) : (treeStep out f).length ≤ out.length + 1 := by
  unfold treeStep
  split
  · exact applyRef_len _ _
  · omega
theorem treeTo_ok {l : List Fil} (ho : filE.all l) : ∀ i, filE.all (treeTo l i) ∧ (treeTo l i).length ≤ i
  | 0 => ⟨(fun x hx => by cases hx), by simp [treeTo]⟩
  | i + 1 => by
    obtain ⟨h1, h2⟩ := treeTo_ok ho i
    rcases Nat.lt_or_ge i l.length with h | h
    · rw [treeTo_succ h]
      have := treeStep_len (treeTo l i) (l.getD i filE.d0)
      exact ⟨treeStep_ok h1 (filE.all_getD ho h), by omega⟩
    · have : treeTo l (i + 1) = treeTo l i := by unfold treeTo; rw [List.take_of_length_le (by omega), List.take_of_length_le h]
      rw [this]; exact ⟨h1, by omega⟩
def mayB : PSp := fil1b mayR
theorem told_mayB : Told Tryz.prog G 20 mayB := told_spOnB fun l h => p20c l h.1 h.2
theorem told_applyR : Told Tryz.prog G 23 (filEd applyRef) := told_spOn fun x h => p23c x.1 x.2 h.1.1 h.2 h.1.2
theorem told_applyN : Told Tryz.prog G 23 (nilS 2 (filEd applyRef)) := told_nilS told_applyR

theorem pure_fix {F : FuncId} {args : List AV} {r : AV} (n : Nat) (h : Pure Tryz.prog G F args r) : Pure Tryz.prog G F args (fixNil n r) := fun H lo E w cargs hs ha =>
  (h H lo E w cargs hs ha).mono fun v w' ⟨E', h1, h2, h3⟩ => ⟨E', fixNil_rep h1, h2, h3⟩
/-- Files, none of them told as a nil slice. -/
def outV (t : List Fil) : AV := if t = [] then .sl 0 [] none else filsV t
theorem outV_fix (t : List Fil) : fixNil 2 (outV t) = filsV t := by
  unfold outV
  split
  · rename_i h; subst h; rfl
  · rfl
theorem outV_low (n : Nat) (t : List Fil) : (outV t).low n := by
  unfold outV
  split
  · exact ⟨trivial, fun k hk => by cases hk⟩
  · exact ⟨lows_fils n t, fun k hk => by cases hk⟩
theorem outV_strip (t : List Fil) : (outV t).strip = outV t := by unfold outV; split <;> rfl
theorem applyRef_ne {t : List Fil} {e : Edt} (h : e.kind = 1) : applyRef t e ≠ [] := by
  rw [← applyP_eq]
  unfold applyP
  rw [if_neg (by simp [h])]
  simp
theorem outV_put {t : List Fil} {e : Edt} (h : e.kind = 1) : outV (applyRef t e) = filsV (applyRef t e) := by unfold outV; rw [if_neg (applyRef_ne h)]
theorem outV_sl (t : List Fil) : ∃ n xs, outV t = .sl n xs none := by
  unfold outV
  split
  · exact ⟨_, _, rfl⟩
  · exact ⟨_, _, rfl⟩
def c9 : ACode := (.seq (.reg false 0 [⟨(.some 2), none, (.q .mv), [(.c (.sl 0 [] none))]⟩]) (.seq (.reg false 0 [⟨(.some 3), none, (.q .mv), [(.c (.sl 0 [] none))]⟩]) (.seq (.seq (.reg false 0 [⟨(.some 4), none, (.q .mv), [(.c (.imm (.int .i64 0)))]⟩]) (.block 0 (.loop (.seq (.seq (.reg false 0 [⟨(.some 6), none, (.q .mv), [(.t 4)]⟩, ⟨(.some 7), none, (.q .mv), [(.t 0)]⟩, ⟨(.some 8), none, (.q .lenL), [(.t 7)]⟩, ⟨(.some 9), none, (.q (.bin .lss 3)), [(.t 6), (.t 8)]⟩, ⟨(.some 10), none, (.q .mv), [(.t 9)]⟩, ⟨(.some 11), (.some (10, true)), (.q .mv), [(.t 4)]⟩, ⟨(.some 12), (.some (10, true)), (.q (.bin .lss 3)), [(.t 11), (.c (.imm (.int .i64 30)))]⟩, ⟨(.some 13), none, (.q .pick), [(.t 10), (.t 12), (.c (.imm (.bool false)))]⟩]) (.cond (.t 13) .skip (.exit 0))) (.seq (.block 1 (.seq (.reg true 0 [⟨(.some 16), none, (.q .mv), [(.t 3)]⟩, ⟨(.some 17), none, (.q .mv), [(.t 0)]⟩, ⟨(.some 18), none, (.q .mv), [(.t 4)]⟩, ⟨(.some 19), none, (.q (.iaddrS 2)), [(.t 17), (.t 18)]⟩, ⟨(.some 20), none, (.q (.faddr 0)), [(.t 19)]⟩, ⟨(.some 21), none, (.l .load1), [(.t 20)]⟩, ⟨(.some 22), none, (.q .mv), [(.t 0)]⟩, ⟨(.some 23), none, (.q .mv), [(.t 4)]⟩, ⟨(.some 24), none, (.q (.iaddrS 2)), [(.t 22), (.t 23)]⟩, ⟨(.some 25), none, (.q (.faddr 1)), [(.t 24)]⟩, ⟨(.some 26), none, (.l .load1), [(.t 25)]⟩, ⟨(.some 27), none, (.q (.build [(.imm (.int .i64 0)), (.imm (.string (B []))), (.sl 0 [] none)] [(0, 1), (1, 1), (2, 1)])), [(.c (.imm (.int .i64 1))), (.t 21), (.t 26)]⟩, ⟨(.some 28), none, (.call true), [(.c (.fn (.func 23) [] [])), (.t 16), (.t 27)]⟩, ⟨(.some 5), none, (.q .mv), [(.t 28)]⟩]) (.seq (.reg false 0 [⟨(.some 29), none, (.q .mv), [(.t 5)]⟩, ⟨(.some 30), none, (.call true), [(.c (.fn (.func 20) [] [])), (.t 29)]⟩]) (.cond (.t 30) (.reg false 0 [⟨(.some 31), none, (.q .mv), [(.t 5)]⟩, ⟨(.some 3), none, (.q .mv), [(.t 31)]⟩]) .skip)))) (.reg false 0 [⟨(.some 14), none, (.q .mv), [(.t 4)]⟩, ⟨(.some 15), none, (.q (.bin .add 3)), [(.t 14), (.c (.imm (.int .i64 1)))]⟩, ⟨(.some 4), none, (.q .mv), [(.t 15)]⟩])))))) (.seq (.reg false 0 [⟨(.some 32), none, (.q .mv), [(.t 3)]⟩, ⟨(.some 2), none, (.q .mv), [(.t 32)]⟩]) .ret))))
theorem fn9 : IsFn Tryz.prog 9 [] c9 [2] 33 := ⟨_, _, Tryz.func9, rfl, by decide +kernel, by kernel_rfl, rfl, rfl⟩
set_option maxHeartbeats 4000000 in
theorem p9o (l : List Fil) (ho : filE.all l) (hs : l.length ≤ 1099511627) : Pure Tryz.prog G 9 [filsV l] (outV (treeF l)) := by
  refine pure_of_code' (S := sp [(23, nilS 2 (filEd applyRef)), (20, mayB)] []) hm hG (sp_holds (.cons told_applyN (.cons told_mayB .nil)) .nil) fn9 (St 6 33 [filsV l, .junk, .junk, .junk, .junk, .junk] []) (by kernel_rfl) ⟨⟨lows_fils 0 l, fun k hk => by cases hk⟩, trivial⟩ (outV_low 0 _) ?_
  simp (maxSteps := 2000000) -implicitDefEqProofs only [c9, RS, Nat.reduceLT, ↓RP0, ↓RP1, ↓RP2, ↓RP3, RV, RW, ↓reduceIte, Nat.reduceAdd, Nat.reduceSub, Nat.reduceMul, Nat.reduceLeDiff, Nat.reduceEqDiff, Int.reduceLT, Int.reduceLE, Int.reduceEq, Int.reduceNe, Int.reduceAdd, Int.reduceSub, Int.reduceMul, Int.reduceNeg, Int.reduceToNat, reduceCtorEq, fils_len]
  have hend : ∀ i, i ≤ l.length → ¬ (i < l.length ∧ i < 30) → i ≤ 30 → treeTo l i = treeF l := fun i h1 h2 h3 => by
    unfold treeF treeTo
    rcases Nat.lt_or_ge i l.length with h | h
    · rw [show i = 30 by omega]
    · rw [List.take_of_length_le (by omega), List.take_of_length_le (by omega)]
  refine loopB (st := fun (i : Nat) => (St 6 33 [filsV l, .junk, .sl 0 [] none, outV (treeTo l i), i64 i, .junk] [])) (hp := fun _ => []) (I := fun i => i ≤ l.length ∧ i ≤ 30) (m := fun i => l.length - i) (0 : Nat) ⟨Nat.zero_le _, by decide⟩ ?_ ?_
  · refine weak_nilS ?_; simp [WeakL, AV.low, lows, lows_fils, treeTo, outV]
  · rintro i ⟨hi, hi30⟩
    have hlow := outV_low 0 (treeTo l i)
    obtain ⟨to, tl⟩ := treeTo_ok ho i
    have hen := hend i hi
    have hsl := outV_strip (treeTo l i)
    have hsl2 := outV_sl (treeTo l i)
    by_cases hlt : i < l.length
    · have e3 : ((i : Int) < (l.length : Int)) = True := eq_true (by omega)
      by_cases h30 : i < 30
      · have e4 : ((i : Int) < 30) = True := eq_true (by omega)
        have e1 := filE.vs_get hlt
        have ts := treeTo_succ hlt
        have o1 : FilOk (l.getD i filE.d0) := filE.all_getD ho hlt
        generalize l.getD i filE.d0 = x at *
        change _ = AV.agg (filC x) at e1
        have eo : EdtOk ⟨1, x.path, x.data⟩ := ⟨o1.path, o1.data⟩
        have q23 : ∀ K, ask (nilS 2 (filEd applyRef)) [outV (treeTo l i), .agg [i64 1, T x.path, bytesV x.data]] K = K (filsV (applyRef (treeTo l i) ⟨1, x.path, x.data⟩)) := fun K => by
          have : ask (nilS 2 (filEd applyRef)) [outV (treeTo l i), .agg [i64 1, T x.path, bytesV x.data]] K = ask (filEd applyRef) [fixNil 2 (outV (treeTo l i)), edtV ⟨1, x.path, x.data⟩] K := rfl
          rw [this, outV_fix]
          exact ask_filEd ⟨to, by omega⟩ eo
        have ao := applyRef_ok to eo
        have al := applyRef_len (treeTo l i) ⟨1, x.path, x.data⟩
        have q20 : ∀ K, ask mayB [filsV (applyRef (treeTo l i) ⟨1, x.path, x.data⟩)] K = splitB (mayR (applyRef (treeTo l i) ⟨1, x.path, x.data⟩)) K := fun K => ask_fil1b ⟨ao, by omega⟩
        have op := outV_put (t := treeTo l i) (e := ⟨1, x.path, x.data⟩) rfl
        have tstep : treeStep (treeTo l i) x = if mayR (applyRef (treeTo l i) ⟨1, x.path, x.data⟩) = true then applyRef (treeTo l i) ⟨1, x.path, x.data⟩ else treeTo l i := rfl
        rw [tstep] at ts
        have ib : In64 ((i : Int) + 1) := ⟨by omega, by omega⟩
        have hlow2 : ∀ n, lows n ((applyRef (treeTo l i) ⟨1, x.path, x.data⟩).map filE.v) := fun n => lows_fils n _
        have hO1 : treeTo l (i + 1) = treeTo l i → outV (treeTo l (i + 1)) = outV (treeTo l i) := fun h => by rw [h]
        clear tstep hen to tl
        generalize applyRef (treeTo l i) ⟨1, x.path, x.data⟩ = R at *
        generalize outV (treeTo l i) = O at *
        have hO : O.strip = O := hsl
        obtain ⟨on, oxs, rfl⟩ := hsl2
        cases hmr : mayR R with
        | true =>
          rw [hmr, if_pos rfl] at ts
          simp (maxSteps := 2000000) -implicitDefEqProofs only [RS, Nat.reduceLT, ↓RP0, ↓RP1, ↓RP2, ↓RP3, RV, RW, ↓reduceIte, Nat.reduceAdd, Nat.reduceSub, Nat.reduceMul, Nat.reduceLeDiff, Nat.reduceEqDiff, Int.reduceLT, Int.reduceLE, Int.reduceEq, Int.reduceNe, Int.reduceAdd, Int.reduceSub, Int.reduceMul, Int.reduceNeg, Int.reduceToNat, reduceCtorEq, ↓q23, q23, ↓q20, q20, hmr, e1, e3, e4, fil_len, fil0, fil1', fil_take, fil_strip, bytes_len, fils_len, AV.cells]
          refine ⟨ib, i + 1, by dsimp only; omega, ⟨by omega, by omega⟩, ?_⟩
          dsimp only
          rw [ts, op]
          refine weak_nilS ?_; simp [WeakL, AV.low, lows, lows_fils]
        | false =>
          rw [hmr, if_neg (by decide)] at ts
          simp (maxSteps := 2000000) -implicitDefEqProofs only [RS, Nat.reduceLT, ↓RP0, ↓RP1, ↓RP2, ↓RP3, RV, RW, ↓reduceIte, Nat.reduceAdd, Nat.reduceSub, Nat.reduceMul, Nat.reduceLeDiff, Nat.reduceEqDiff, Int.reduceLT, Int.reduceLE, Int.reduceEq, Int.reduceNe, Int.reduceAdd, Int.reduceSub, Int.reduceMul, Int.reduceNeg, Int.reduceToNat, reduceCtorEq, ↓q23, q23, ↓q20, q20, hmr, e1, e3, e4, fil_len, fil0, fil1', fil_take, fil_strip, bytes_len, fils_len, AV.cells]
          refine ⟨ib, i + 1, by dsimp only; omega, ⟨by omega, by omega⟩, ?_⟩
          dsimp only
          rw [hO1 ts]
          refine weak_nilS ?_; simp [WeakL, AV.low, lows, lows_fils]; exact .inl hlow.1
      · have e4 : ((i : Int) < 30) = False := eq_false (by omega)
        rw [← hen (by omega) hi30]
        generalize outV (treeTo l i) = O at *
        obtain ⟨on, oxs, rfl⟩ := hsl2
        simp (maxSteps := 2000000) -implicitDefEqProofs only [RS, Nat.reduceLT, ↓RP0, ↓RP1, ↓RP2, ↓RP3, RV, RW, ↓reduceIte, Nat.reduceAdd, Nat.reduceSub, Nat.reduceMul, Nat.reduceLeDiff, Nat.reduceEqDiff, Int.reduceLT, Int.reduceLE, Int.reduceEq, Int.reduceNe, Int.reduceAdd, Int.reduceSub, Int.reduceMul, Int.reduceNeg, Int.reduceToNat, reduceCtorEq, e3, e4, fils_len]
    · obtain rfl : i = l.length := by omega
      rw [← hen (by omega) hi30]
      generalize outV (treeTo l l.length) = O at *
      obtain ⟨on, oxs, rfl⟩ := hsl2
      simp (maxSteps := 2000000) -implicitDefEqProofs only [RS, Nat.reduceLT, ↓RP0, ↓RP1, ↓RP2, ↓RP3, RV, RW, ↓reduceIte, Nat.reduceAdd, Nat.reduceSub, Nat.reduceMul, Nat.reduceLeDiff, Nat.reduceEqDiff, Int.reduceLT, Int.reduceLE, Int.reduceEq, Int.reduceNe, Int.reduceAdd, Int.reduceSub, Int.reduceMul, Int.reduceNeg, Int.reduceToNat, reduceCtorEq, fils_len, Int.lt_irrefl]
theorem p9c (l : List Fil) (ho : filE.all l) (hs : l.length ≤ 1099511627) : Pure Tryz.prog G 9 [filsV l] (filsV (treeF l)) := by
  have := pure_fix 2 (p9o l ho hs)
  rwa [outV_fix] at this
end Go.AL.Path
