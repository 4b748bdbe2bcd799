/- diff.Apply, and the document's. -/
import Derived.Test.YtofokmpdioblkaaGreatDoorG26
import Derived.Sort.Walk0
set_option linter.unusedSimpArgs false
set_option linter.unusedVariables false
set_option maxRecDepth 100000
namespace Go.AL.Path
open Go Go.RowKit Go.Proofs Go.AL

theorem fil_len (f : Fil) : (filC f).length = 2 := rfl
theorem fil0 {f : Fil} : (filC f)[0]? = some (T f.path) := rfl
theorem fil1' {f : Fil} : (filC f)[1]? = some (bytesV f.data) := rfl
theorem fil_take {f : Fil} : (filC f).take 2 = filC f := rfl
theorem fil_strip {f : Fil} : (filC f).map AV.strip1 = filC f := rfl
theorem edt_len (e : Edt) : (edtC e).length = 3 := rfl
theorem edt0 {e : Edt} : (edtC e)[0]? = some (i64 e.kind) := rfl
theorem edt1 {e : Edt} : (edtC e)[1]? = some (T e.path) := rfl
theorem edt2 {e : Edt} : (edtC e)[2]? = some (bytesV e.data) := rfl
theorem edt_take {e : Edt} : (edtC e).take 3 = edtC e := rfl
theorem edt_strip {e : Edt} : (edtC e).map AV.strip1 = edtC e := rfl

theorem bl_lt (a b : List UInt8) : Op.bytesLess a b = true ↔ a < b := by rw [Go.Proofs.bytesLess_eq]; simp
theorem bl_gt (a b : List UInt8) : (!(Op.bytesLess a b || a == b)) = Op.bytesLess b a := by
  rw [Bool.eq_iff_iff, bl_lt]
  simp only [Bool.not_eq_true', Bool.or_eq_false_iff, beq_eq_false_iff_ne, ne_eq]
  rw [← Bool.not_eq_true, bl_lt]
  constructor
  · rintro ⟨h1, h2⟩
    rcases Classical.em (b < a) with h3 | h3
    · exact h3
    · exact absurd (List.le_antisymm (List.not_lt.1 h3) (List.not_lt.1 h1)) h2
  · exact fun h => ⟨List.lt_asymm h, fun e => by subst e; exact List.lt_irrefl _ h⟩
theorem binB_slss {l m : List UInt8} {K : AV → Prop} {t : TypeId} : binB .lss t (T l) (T m) K = SplitP (Op.bytesLess l m = true) (K (bool true)) (K (bool false)) := by
  have : binB .lss t (T l) (T m) K = K (bool (Op.bytesLess l m)) := by simp [binB, binsem, binStr, toList_B]
  rw [this]
  cases Op.bytesLess l m <;> simp [SplitP]
theorem binB_sgtr {l m : List UInt8} {K : AV → Prop} {t : TypeId} : binB .gtr t (T l) (T m) K = SplitP (Op.bytesLess m l = true) (K (bool true)) (K (bool false)) := by
  have : binB .gtr t (T l) (T m) K = K (bool (!(Op.bytesLess l m || l == m))) := by simp [binB, binsem, binStr, toList_B]
  rw [this]
  rw [bl_gt]
  cases Op.bytesLess m l <;> simp [SplitP]
theorem binB_sgeq {l m : List UInt8} {K : AV → Prop} {t : TypeId} : binB .geq t (T l) (T m) K = SplitP (Op.bytesLess l m = true) (K (bool false)) (K (bool true)) := by
  have : binB .geq t (T l) (T m) K = K (bool (!Op.bytesLess l m)) := by simp [binB, binsem, binStr, toList_B]
  rw [this]
  cases Op.bytesLess l m <;> simp [SplitP]
theorem binB_sleq {l m : List UInt8} {K : AV → Prop} {t : TypeId} : binB .leq t (T l) (T m) K = SplitP (Op.bytesLess m l = true) (K (bool false)) (K (bool true)) := by
  have : binB .leq t (T l) (T m) K = K (bool (Op.bytesLess l m || l == m)) := by simp [binB, binsem, binStr, toList_B]
  rw [this]
  rw [← Bool.not_not (Op.bytesLess l m || l == m), bl_gt]
  cases Op.bytesLess m l <;> simp [SplitP]

def here (e : Edt) (f : Fil) : Bool := decide (f.path = e.path)
def after (e : Edt) (f : Fil) : Bool := Op.bytesLess e.path f.path
def c39 : ACode := (.seq (.reg false 1 [⟨(.some 2), none, (.m .box 0), [(.t 0)]⟩, ⟨(.some 3), none, (.q .mv), [(.c (.imm (.bool false)))]⟩]) (.seq (.reg false 0 [⟨(.some 4), none, (.q (.faddr 0)), [(.t 2)]⟩, ⟨(.some 5), none, (.l .load1), [(.t 4)]⟩, ⟨(.some 6), none, (.q (.faddr 1)), [(.t 1)]⟩, ⟨(.some 7), none, (.l .load1), [(.t 6)]⟩, ⟨(.some 8), none, (.q (.bin .eql 9)), [(.t 5), (.t 7)]⟩, ⟨(.some 3), none, (.q .mv), [(.t 8)]⟩]) .ret))
theorem fn39 : IsFn Tryz.prog 39 [] c39 [3] 9 := ⟨_, _, Tryz.func39, rfl, by decide +kernel, by kernel_rfl, rfl, rfl⟩
theorem p39c (e : Edt) (f : Fil) (hf : FilOk f) : Pure Tryz.prog G 39 [filV f, .rptr (edtC e) 0] (bool (here e f)) := by
  refine pure_of_code' (S := sp [] []) hm hG (sp_holds .nil .nil) fn39 (St 4 9 [filV f, .rptr (edtC e) 0, .junk, .junk] []) (by kernel_rfl) ⟨filE.low 0 f, lows_edt 0 e, trivial⟩ (by simp [AV.low]) ?_
  simp (maxSteps := 2000000) -implicitDefEqProofs only [c39, RS, Nat.reduceLT, ↓RP0, ↓RP1, ↓RP2, ↓RP3, RV, RW, ↓reduceIte, Nat.reduceAdd, Nat.reduceSub, Nat.reduceMul, Nat.reduceLeDiff, Nat.reduceEqDiff, Int.reduceLT, Int.reduceLE, Int.reduceEq, Int.reduceNe, Int.reduceAdd, Int.reduceSub, Int.reduceMul, Int.reduceNeg, Int.reduceToNat, reduceCtorEq, fil_len, fil0, edt1, fil_strip, AV.cells]
  exact ⟨fun h => by simp [here, h], fun h => by simp [here, h]⟩
def c43 : ACode := (.seq (.reg false 1 [⟨(.some 2), none, (.m .box 0), [(.t 0)]⟩, ⟨(.some 3), none, (.q .mv), [(.c (.imm (.bool false)))]⟩]) (.seq (.reg false 0 [⟨(.some 4), none, (.q (.faddr 0)), [(.t 2)]⟩, ⟨(.some 5), none, (.l .load1), [(.t 4)]⟩, ⟨(.some 6), none, (.q (.faddr 1)), [(.t 1)]⟩, ⟨(.some 7), none, (.l .load1), [(.t 6)]⟩, ⟨(.some 8), none, (.q (.bin .gtr 9)), [(.t 5), (.t 7)]⟩, ⟨(.some 3), none, (.q .mv), [(.t 8)]⟩]) .ret))
theorem fn43 : IsFn Tryz.prog 43 [] c43 [3] 9 := ⟨_, _, Tryz.func43, rfl, by decide +kernel, by kernel_rfl, rfl, rfl⟩
theorem p43c (e : Edt) (f : Fil) (hf : FilOk f) : Pure Tryz.prog G 43 [filV f, .rptr (edtC e) 0] (bool (after e f)) := by
  refine pure_of_code' (S := sp [] []) hm hG (sp_holds .nil .nil) fn43 (St 4 9 [filV f, .rptr (edtC e) 0, .junk, .junk] []) (by kernel_rfl) ⟨filE.low 0 f, lows_edt 0 e, trivial⟩ (by simp [AV.low]) ?_
  simp (maxSteps := 2000000) -implicitDefEqProofs only [c43, RS, Nat.reduceLT, ↓RP0, ↓RP1, ↓RP2, ↓RP3, RV, RW, ↓reduceIte, Nat.reduceAdd, Nat.reduceSub, Nat.reduceMul, Nat.reduceLeDiff, Nat.reduceEqDiff, Int.reduceLT, Int.reduceLE, Int.reduceEq, Int.reduceNe, Int.reduceAdd, Int.reduceSub, Int.reduceMul, Int.reduceNeg, Int.reduceToNat, reduceCtorEq, ↓binB_sgtr, binB_sgtr, fil_len, fil0, edt1, fil_strip, AV.cells]
  exact ⟨fun h => by rw [after, h], fun h => by rw [after, h]⟩

/-- What the program's Apply does. -/
def applyP (t : List Fil) (e : Edt) : List Fil :=
  if ¬ e.kind = 1 then t.filter fun f => !here e f else
    let out := t.filter fun f => !here e f
    let i := if idxOf (after e) out < 0 then out.length else (idxOf (after e) out).toNat
    out.take i ++ [⟨e.path, e.data⟩] ++ out.drop i

theorem info35' : ∃ ti z, Tryz.prog.info? 35 = some ti ∧ ti.zero = some z ∧ ti.size = 2 ∧ ti.bytes = 40 ∧ z.cells.size = 2 := info35
abbrev clnF : TSp := cloneT filE 35
abbrev insF (e : Edt) : TSp := insT filE 35 (.box (edtC e))
abbrev delF (b : Bool) (e : Edt) : TSp := delT filE 35 b 39 (.ptr 0 0) (.rptr (edtC e) 0) (.box (edtC e)) (here e)
theorem told_clnF : ToldT Tryz.prog G 41 clnF := toldT_clone Tryz.func41 rfl (by decide +kernel) (by decide) (by decide) clones41
theorem zlow (n : Nat) : lows n [T [], .sl 0 [] none] := by simp [lows, AV.low]
theorem told_delF (b : Bool) (e : Edt) : ToldT Tryz.prog G 40 (delF b e) :=
  toldT_del hm hG zlow rfl (by decide) fn40 fn42 (lows_edt 0 e) (by decide) fun f hf => p39c e f hf
theorem told_insF (e : Edt) : ToldT Tryz.prog G 44 (insF e) := by
  obtain ⟨ti, z, h1, h2, h3, h4, h5⟩ := info35'
  exact toldT_ins Tryz.func44 rfl (by decide +kernel) (by decide) (by decide) (by decide) inserts44 Tryz.underlying22 h1 h2 h3 h4 h5
theorem fils_len (l : List Fil) : (l.map filE.v).length = l.length := List.length_map ..

def c22 : ACode := (.seq (.reg false 1 [⟨(.some 3), none, (.m .box 0), [(.t 1)]⟩, ⟨(.some 4), none, (.q .mv), [(.c (.sl 0 [] none))]⟩]) (.seq (.reg false 0 [⟨(.some 8), none, (.q (.mkfn (.func 39) 0)), [(.t 3)]⟩, ⟨(.some 5), none, (.q .mv), [(.t 8)]⟩]) (.seq (.reg false 0 [⟨(.some 9), none, (.q .mv), [(.t 0)]⟩, ⟨(.some 10), none, (.call true), [(.c (.fn (.func 41) [] [])), (.t 9)]⟩, ⟨(.some 11), none, (.q .mv), [(.t 5)]⟩, ⟨(.some 12), none, (.call true), [(.c (.fn (.func 40) [] [])), (.t 10), (.t 11)]⟩, ⟨(.some 6), none, (.q .mv), [(.t 12)]⟩]) (.seq (.seq (.reg false 0 [⟨(.some 13), none, (.q (.faddr 0)), [(.t 3)]⟩, ⟨(.some 14), none, (.l .load1), [(.t 13)]⟩, ⟨(.some 15), none, (.q (.bin .neq 3)), [(.t 14), (.c (.imm (.int .i64 1)))]⟩]) (.cond (.t 15) (.seq (.reg false 0 [⟨(.some 16), none, (.q .mv), [(.t 6)]⟩, ⟨(.some 4), none, (.q .mv), [(.t 16)]⟩]) .ret) .skip)) (.seq (.reg false 0 [⟨(.some 17), none, (.q .mv), [(.t 6)]⟩, ⟨(.some 18), none, (.q (.mkfn (.func 43) 0)), [(.t 3)]⟩, ⟨(.some 19), none, (.call true), [(.c (.fn (.func 42) [] [])), (.t 17), (.t 18)]⟩, ⟨(.some 7), none, (.q .mv), [(.t 19)]⟩]) (.seq (.seq (.reg false 0 [⟨(.some 20), none, (.q .mv), [(.t 7)]⟩, ⟨(.some 21), none, (.q (.bin .lss 3)), [(.t 20), (.c (.imm (.int .i64 0)))]⟩]) (.cond (.t 21) (.reg false 0 [⟨(.some 22), none, (.q .mv), [(.t 6)]⟩, ⟨(.some 23), none, (.q .lenL), [(.t 22)]⟩, ⟨(.some 7), none, (.q .mv), [(.t 23)]⟩]) .skip)) (.seq (.reg true 1 [⟨(.some 24), none, (.q .mv), [(.t 6)]⟩, ⟨(.some 25), none, (.q .mv), [(.t 7)]⟩, ⟨(.some 26), none, (.q (.faddr 1)), [(.t 3)]⟩, ⟨(.some 27), none, (.l .load1), [(.t 26)]⟩, ⟨(.some 28), none, (.q (.faddr 2)), [(.t 3)]⟩, ⟨(.some 29), none, (.l .load1), [(.t 28)]⟩, ⟨(.some 30), none, (.call false), [(.c (.fn (.func 30) [] [])), (.t 29)]⟩, ⟨(.some 31), none, (.q (.build [(.imm (.string (B []))), (.sl 0 [] none)] [(0, 1), (1, 1)])), [(.t 27), (.t 30)]⟩, ⟨(.some 32), none, (.m (.bsliceO 35 2) 0), [(.t 31)]⟩, ⟨(.some 33), none, (.call true), [(.c (.fn (.func 44) [] [])), (.t 24), (.t 25), (.t 32)]⟩, ⟨(.some 4), none, (.q .mv), [(.t 33)]⟩]) .ret)))))))
theorem fn22 : IsFn Tryz.prog 22 [8] c22 [4] 34 := ⟨_, _, Tryz.func22, rfl, by decide +kernel, by kernel_rfl, rfl, rfl⟩
set_option maxHeartbeats 4000000 in
theorem p22c (t : List Fil) (e : Edt) (ho : filE.all t) (he : EdtOk e) (hs : t.length ≤ 1099511627) : Pure Tryz.prog G 22 [filsV t, edtV e] (filsV (applyP t e)) := by
  have lowC : lows 0 [AV.rptr (edtC e) 0] := ⟨lows_edt 0 e, trivial⟩
  have q1 : ∀ H (K : AV → List AObj → Prop), askT clnF [filsV t] H K = (t.length ≤ 1099511627 ∧ K (.rs H.length 0 2 0 t.length) (H ++ [.row 35 2 0 (t.map filE.v)])) := fun H K => askT_clone ho
  have ho2 : filE.all (t.filter fun f => !here e f) := filter_ok ho
  have hlen : (t.filter fun f => !here e f).length ≤ t.length := List.length_filter_le _ _
  by_cases hk : e.kind = 1
  · have q3 : ∀ (K : AV → List AObj → Prop), askT (delF false e) [.rs 1 0 2 0 t.length, .fn (.func 39) [] [.ptr 0 0]] [.box (edtC e), .row 35 2 0 (t.map filE.v)] K = (t.length ≤ 1099511627 ∧ K (.rs 1 0 2 0 (t.filter fun f => !here e f).length) [.box (edtC e), .row 35 2 0 ((t.filter fun f => !here e f).map filE.v)]) := fun K => askT_delR ho rfl
    refine pure_of_code' (S := sp [(30, byId)] [(41, clnF), (40, delF false e), (42, lendT (elFn filE 43 [.rptr (edtC e) 0] fun l => i64 (idxOf (after e) l))), (44, insF e)]) hm hG
      (sp_holds (.cons told_byId .nil) (.cons told_clnF (.cons (told_delF false e) (.cons (toldT_lend hG (told_elFn fun l h1 h2 => p_idx hm hG fn42 lowC rfl (fun f hf => p43c e f hf) l h1 h2)) (.cons (told_insF e) .nil))))) fn22 (St 8 34 [filsV t, edtV e, .junk, .junk, .junk, .junk, .junk, .junk] []) (by kernel_rfl) ⟨⟨lows_fils 0 t, fun k hk => by cases hk⟩, lows_edt 0 e, trivial⟩ (by simp [AV.low, lows_fils]) ?_
    have hadd : applyP t e = (let out := t.filter fun f => !here e f
      let i := if idxOf (after e) out < 0 then out.length else (idxOf (after e) out).toNat
      out.take i ++ [⟨e.path, e.data⟩] ++ out.drop i) := by unfold applyP; rw [if_neg (by simp [hk])]
    rw [hadd]
    generalize (t.filter fun f => !here e f) = F at *
    have lw1 : lows 0 [AV.sl 2 (F.map filE.v) none, AV.fn (.func 43) [] [.rptr (edtC e) 0]] = True := eq_true ⟨⟨lows_fils 0 F, fun k hk => by cases hk⟩, ⟨trivial, lows_edt 0 e, trivial⟩, trivial⟩
    have q4 : ∀ K, ask (elFn filE 43 [.rptr (edtC e) 0] fun l => i64 (idxOf (after e) l)) [.sl 2 (F.map filE.v) none, .fn (.func 43) [] [.rptr (edtC e) 0]] K = (F.length ≤ 1099511627776 ∧ K (i64 (idxOf (after e) F))) := fun K => ask_elFn ho2
    have fo : FilOk ⟨e.path, e.data⟩ := ⟨he.path, he.data⟩
    have q5 : ∀ (i : Nat) (K : AV → List AObj → Prop), askT (insF e) [.rs 1 0 2 0 F.length, i64 i, .sl 2 [.agg [T e.path, bytesV e.data]] (some 2)] [.box (edtC e), .row 35 2 0 (F.map filE.v), .tok 35 2 1] K = (i ≤ F.length ∧ F.length ≤ 1099511627 ∧ K (filsV (F.take i ++ [⟨e.path, e.data⟩] ++ F.drop i)) [.box (edtC e), .dead, .tok 35 2 1]) := fun i K => askT_ins (T := filE) (e := ⟨e.path, e.data⟩) ho2 fo rfl
    have lr := lendR_all (e := 35) (ver := 0) (sz := 2) (fils_len F)
    have hd := he.data
    cases ha : F.any (after e) with
    | true =>
      obtain ⟨k, hk', hidx, _, _⟩ := idxOf_some filE.d0 ha
      have hd1 : ((k : Int) < 0) = False := eq_false (by omega)
      simp (maxSteps := 2000000) -implicitDefEqProofs only [c22, RS, Nat.reduceLT, ↓RP0, ↓RP1, ↓RP2, ↓RP3, RV, RW, ↓reduceIte, Nat.reduceAdd, Nat.reduceSub, Nat.reduceMul, Nat.reduceLeDiff, Nat.reduceEqDiff, Int.reduceLT, Int.reduceLE, Int.reduceEq, Int.reduceNe, Int.reduceAdd, Int.reduceSub, Int.reduceMul, Int.reduceNeg, Int.reduceToNat, reduceCtorEq, ↓q1, q1, ↓q3, q3, ↓q4, q4, ↓q5, q5, ↓ask_byId, ask_byId, hk, hidx, hd1, edt_len, edt0, edt1, edt2, edt_strip, fils_len, ↓askT_lend, askT_lend, lendV_rs, lendV_fn, lendV_sl, lend1_ptr, lendP_box, lw1, lr, AV.cells]
      refine ⟨hs, hs, by omega, by omega, (fun x hx => by rw [List.mem_singleton.1 hx]; exact ⟨rfl, rfl⟩), by omega, by omega⟩
    | false =>
      have hidx := idxOf_none ha
      have hd1 : ((-1 : Int) < 0) = True := eq_true (by omega)
      simp (maxSteps := 2000000) -implicitDefEqProofs only [c22, RS, Nat.reduceLT, ↓RP0, ↓RP1, ↓RP2, ↓RP3, RV, RW, ↓reduceIte, Nat.reduceAdd, Nat.reduceSub, Nat.reduceMul, Nat.reduceLeDiff, Nat.reduceEqDiff, Int.reduceLT, Int.reduceLE, Int.reduceEq, Int.reduceNe, Int.reduceAdd, Int.reduceSub, Int.reduceMul, Int.reduceNeg, Int.reduceToNat, reduceCtorEq, ↓q1, q1, ↓q3, q3, ↓q4, q4, ↓q5, q5, ↓ask_byId, ask_byId, hk, hidx, hd1, edt_len, edt0, edt1, edt2, edt_strip, fils_len, ↓askT_lend, askT_lend, lendV_rs, lendV_fn, lendV_sl, lend1_ptr, lendP_box, lw1, lr, AV.cells]
      refine ⟨hs, hs, by omega, by omega, (fun x hx => by rw [List.mem_singleton.1 hx]; exact ⟨rfl, rfl⟩), Nat.le_refl _, by omega⟩
  · have hk' : ¬ e.kind = 1 := hk
    have q3 : ∀ (K : AV → List AObj → Prop), askT (delF true e) [.rs 1 0 2 0 t.length, .fn (.func 39) [] [.ptr 0 0]] [.box (edtC e), .row 35 2 0 (t.map filE.v)] K = (t.length ≤ 1099511627 ∧ K (filsV (t.filter fun f => !here e f)) [.box (edtC e), .dead]) := fun K => askT_delF ho rfl
    refine pure_of_code' (S := sp [] [(41, clnF), (40, delF true e)]) hm hG
      (sp_holds .nil (.cons told_clnF (.cons (told_delF true e) .nil))) fn22 (St 8 34 [filsV t, edtV e, .junk, .junk, .junk, .junk, .junk, .junk] []) (by kernel_rfl) ⟨⟨lows_fils 0 t, fun k hk => by cases hk⟩, lows_edt 0 e, trivial⟩ (by simp [AV.low, lows_fils]) ?_
    have hadd : applyP t e = t.filter fun f => !here e f := by unfold applyP; rw [if_pos hk']
    rw [hadd]
    generalize (t.filter fun f => !here e f) = F at *
    simp (maxSteps := 2000000) -implicitDefEqProofs only [c22, RS, Nat.reduceLT, ↓RP0, ↓RP1, ↓RP2, ↓RP3, RV, RW, ↓reduceIte, Nat.reduceAdd, Nat.reduceSub, Nat.reduceMul, Nat.reduceLeDiff, Nat.reduceEqDiff, Int.reduceLT, Int.reduceLE, Int.reduceEq, Int.reduceNe, Int.reduceAdd, Int.reduceSub, Int.reduceMul, Int.reduceNeg, Int.reduceToNat, reduceCtorEq, ↓q1, q1, ↓q3, q3, hk', edt_len, edt0, edt1, edt2, edt_strip, fils_len, AV.cells]
    exact ⟨hs, hs⟩
end Go.AL.Path

/- The document's Apply; whether two lists are the same; those that are small. -/
set_option linter.unusedSimpArgs false
set_option linter.unusedVariables false
set_option maxRecDepth 100000
namespace Go.AL.Path
open Go Go.RowKit Go.Proofs Go.AL

/-! One more, put where it belongs, those that go left out. -/
section
variable {α : Type} (gone aft : α → Bool) (e : α)
def putStep (s : List α × Bool) (f : α) : List α × Bool :=
  if gone f = true then s else if s.2 = false ∧ aft f = true then (s.1 ++ [e] ++ [f], true) else (s.1 ++ [f], s.2)
def putFin (s : List α × Bool) : List α := if s.2 = true then s.1 else s.1 ++ [e]
variable {gone aft e}
theorem putStep_len (s : List α × Bool) (f : α) : (putStep gone aft e s f).1.length ≤ s.1.length + 2 := by
  unfold putStep
  split
  · simp
  · split <;> simp
theorem putAll_len : ∀ (h : List α) (s : List α × Bool), (h.foldl (putStep gone aft e) s).1.length ≤ s.1.length + 2 * h.length
  | [], s => by simp
  | f :: h, s => by
    have := putAll_len h (putStep gone aft e s f)
    have := putStep_len (gone := gone) (aft := aft) (e := e) s f
    simp only [List.foldl_cons, List.length_cons]; omega
theorem putAll_mem {P : α → Prop} (he : P e) : ∀ (h : List α) (s : List α × Bool), (∀ x ∈ h, P x) → (∀ x ∈ s.1, P x) → ∀ x ∈ (h.foldl (putStep gone aft e) s).1, P x
  | [], s, _, hs => hs
  | f :: h, s, hh, hs => by
    refine putAll_mem he h _ (fun x hx => hh x (List.mem_cons_of_mem _ hx)) ?_
    have hf := hh f List.mem_cons_self
    intro x hx
    unfold putStep at hx
    split at hx
    · exact hs x hx
    · split at hx <;> simp only [List.mem_append, List.mem_singleton] at hx
      · rcases hx with (hx | rfl) | rfl
        · exact hs x hx
        · exact he
        · exact hf
      · rcases hx with hx | rfl
        · exact hs x hx
        · exact hf
theorem put_done : ∀ (h acc : List α), h.foldl (putStep gone aft e) (acc, true) = (acc ++ h.filter (fun f => !gone f), true)
  | [], acc => by simp
  | f :: h, acc => by
    rw [List.foldl_cons]
    by_cases hg : gone f = true
    · rw [show putStep gone aft e (acc, true) f = (acc, true) by unfold putStep; rw [if_pos hg], put_done h acc]; simp [hg]
    · rw [show putStep gone aft e (acc, true) f = (acc ++ [f], true) by unfold putStep; rw [if_neg hg, if_neg (by simp)], put_done h]
      simp [hg]
theorem put_find : ∀ (h acc : List α), h.foldl (putStep gone aft e) (acc, false) =
    if (h.filter (fun f => !gone f)).any aft = true
    then (acc ++ ((h.filter (fun f => !gone f)).take ((h.filter (fun f => !gone f)).findIdx aft) ++ [e] ++ (h.filter (fun f => !gone f)).drop ((h.filter (fun f => !gone f)).findIdx aft)), true)
    else (acc ++ h.filter (fun f => !gone f), false)
  | [], acc => by simp
  | f :: h, acc => by
    rw [List.foldl_cons]
    by_cases hg : gone f = true
    · rw [show putStep gone aft e (acc, false) f = (acc, false) by unfold putStep; rw [if_pos hg], put_find h acc]
      have : (f :: h).filter (fun f => !gone f) = h.filter (fun f => !gone f) := by simp [hg]
      rw [this]
    · have hf : (f :: h).filter (fun f => !gone f) = f :: h.filter (fun f => !gone f) := by simp [hg]
      rw [hf]
      by_cases hc : aft f = true
      · rw [show putStep gone aft e (acc, false) f = (acc ++ [e] ++ [f], true) by unfold putStep; rw [if_neg hg, if_pos ⟨rfl, hc⟩], put_done]
        simp [hc, List.findIdx_cons]
      · rw [show putStep gone aft e (acc, false) f = (acc ++ [f], false) by unfold putStep; rw [if_neg hg, if_neg (by simp [hc])], put_find h]
        simp only [List.any_cons, hc, Bool.false_or, List.findIdx_cons, cond_false, Bool.not_eq_true]
        split <;> simp
end
theorem getD_mem2 {α : Type} {l : List α} {i : Nat} {d : α} (h : i < l.length) : l.getD i d ∈ l := by rw [List.getD_eq_getElem?_getD, List.getElem?_eq_getElem h]; exact List.getElem_mem h

def newF (e : Edt) : Fil := ⟨e.path, e.data⟩
def notPut (e : Edt) : Bool := !decide (e.kind = 1)
def applyAll (e : Edt) (t : List Fil) : List Fil × Bool := t.foldl (putStep (here e) (after e) (newF e)) ([], notPut e)
def applyRef (t : List Fil) (e : Edt) : List Fil := putFin (newF e) (applyAll e t)
theorem applyAll_take {e : Edt} {t : List Fil} {i : Nat} (hi : i < t.length) : applyAll e (t.take (i + 1)) = putStep (here e) (after e) (newF e) (applyAll e (t.take i)) (t.getD i filE.d0) := by
  unfold applyAll
  rw [take_get (d := filE.d0) hi, List.foldl_append]; rfl
theorem applyP_eq (t : List Fil) (e : Edt) : applyP t e = applyRef t e := by
  unfold applyP applyRef applyAll notPut
  by_cases hk : e.kind = 1
  · rw [if_neg (by simp [hk])]
    have : (!decide (e.kind = 1)) = false := by simp [hk]
    rw [this, put_find]
    unfold idxOf putFin newF
    generalize t.filter (fun f => !here e f) = out
    dsimp only
    by_cases ha : out.any (after e) = true
    · rw [if_pos ha, if_pos ha]
      have h0 : ¬ ((out.findIdx (after e) : Nat) : Int) < 0 := by omega
      rw [if_neg h0]
      simp
    · rw [if_neg ha, if_neg ha]
      simp
  · rw [if_pos hk]
    have : (!decide (e.kind = 1)) = true := by simp [hk]
    rw [this, put_done]
    simp [putFin]
theorem applyRef_ok {t : List Fil} {e : Edt} (ho : filE.all t) (he : EdtOk e) : filE.all (applyRef t e) := by
  have h1 := putAll_mem (gone := here e) (aft := after e) (P := FilOk) (e := newF e) ⟨he.path, he.data⟩ t ([], notPut e) ho (fun x hx => by cases hx)
  unfold applyRef putFin applyAll
  split
  · exact h1
  · intro x hx
    simp only [List.mem_append, List.mem_singleton] at hx
    rcases hx with hx | rfl
    · exact h1 x hx
    · exact ⟨he.path, he.data⟩
theorem applyRef_len (t : List Fil) (e : Edt) : (applyRef t e).length ≤ t.length + 1 := by
  rw [← applyP_eq]
  unfold applyP
  have := List.length_filter_le (fun f => !here e f) t
  split
  · omega
  · simp only [List.length_append, List.length_take, List.length_drop, List.length_singleton]; omega

def c23 : ACode := (.seq (.reg false 2 [⟨(.some 3), none, (.m .box 0), [(.t 1)]⟩, ⟨(.some 4), none, (.m (.nilT 35 2) 1), []⟩]) (.seq (.reg false 1 [⟨(.some 5), none, (.m (.nilT 35 2) 0), []⟩]) (.seq (.reg false 0 [⟨(.some 8), none, (.q (.faddr 0)), [(.t 3)]⟩, ⟨(.some 9), none, (.l .load1), [(.t 8)]⟩, ⟨(.some 10), none, (.q (.bin .neq 3)), [(.t 9), (.c (.imm (.int .i64 1)))]⟩, ⟨(.some 6), none, (.q .mv), [(.t 10)]⟩]) (.seq (.seq (.reg false 0 [⟨(.some 7), none, (.q .mv), [(.c (.imm (.int .i64 0)))]⟩]) (.block 0 (.loop (.seq (.seq (.reg false 0 [⟨(.some 11), none, (.q .mv), [(.t 7)]⟩, ⟨(.some 12), none, (.q .mv), [(.t 0)]⟩, ⟨(.some 13), none, (.q .lenL), [(.t 12)]⟩, ⟨(.some 14), none, (.q (.bin .lss 3)), [(.t 11), (.t 13)]⟩]) (.cond (.t 14) .skip (.exit 0))) (.seq (.block 1 (.seq (.seq (.reg true 0 [⟨(.some 17), none, (.q .mv), [(.t 0)]⟩, ⟨(.some 18), none, (.q .mv), [(.t 7)]⟩, ⟨(.some 19), none, (.q (.iaddrS 2)), [(.t 17), (.t 18)]⟩, ⟨(.some 20), none, (.q (.faddr 0)), [(.t 19)]⟩, ⟨(.some 21), none, (.l .load1), [(.t 20)]⟩, ⟨(.some 22), none, (.q (.faddr 1)), [(.t 3)]⟩, ⟨(.some 23), none, (.l .load1), [(.t 22)]⟩, ⟨(.some 24), none, (.q (.bin .eql 9)), [(.t 21), (.t 23)]⟩]) (.cond (.t 24) (.exit 1) .skip)) (.seq (.seq (.reg true 0 [⟨(.some 25), none, (.q .mv), [(.t 6)]⟩, ⟨(.some 26), none, (.q (.un .not)), [(.t 25)]⟩, ⟨(.some 27), none, (.q .mv), [(.t 26)]⟩, ⟨(.some 28), (.some (27, true)), (.q .mv), [(.t 0)]⟩, ⟨(.some 29), (.some (27, true)), (.q .mv), [(.t 7)]⟩, ⟨(.some 30), (.some (27, true)), (.q (.iaddrS 2)), [(.t 28), (.t 29)]⟩, ⟨(.some 31), (.some (27, true)), (.q (.faddr 0)), [(.t 30)]⟩, ⟨(.some 32), (.some (27, true)), (.l .load1), [(.t 31)]⟩, ⟨(.some 33), (.some (27, true)), (.q (.faddr 1)), [(.t 3)]⟩, ⟨(.some 34), (.some (27, true)), (.l .load1), [(.t 33)]⟩, ⟨(.some 35), (.some (27, true)), (.q (.bin .gtr 9)), [(.t 32), (.t 34)]⟩, ⟨(.some 36), none, (.q .pick), [(.t 27), (.t 35), (.c (.imm (.bool false)))]⟩]) (.cond (.t 36) (.seq (.reg false 1 [⟨(.some 37), none, (.q .mv), [(.t 5)]⟩, ⟨(.some 38), none, (.q (.faddr 1)), [(.t 3)]⟩, ⟨(.some 39), none, (.l .load1), [(.t 38)]⟩, ⟨(.some 40), none, (.q (.faddr 2)), [(.t 3)]⟩, ⟨(.some 41), none, (.l .load1), [(.t 40)]⟩, ⟨(.some 42), none, (.q (.build [(.imm (.string (B []))), (.sl 0 [] none)] [(0, 1), (1, 1)])), [(.t 39), (.t 41)]⟩, ⟨(.some 43), none, (.m (.bsliceO 35 2) 0), [(.t 42)]⟩, ⟨(.some 44), none, (.e (.append 35 2 40)), [(.t 37), (.t 43)]⟩, ⟨(.some 5), none, (.q .mv), [(.t 44)]⟩]) (.reg false 0 [⟨(.some 6), none, (.q .mv), [(.c (.imm (.bool true)))]⟩])) .skip)) (.reg false 1 [⟨(.some 45), none, (.q .mv), [(.t 5)]⟩, ⟨(.some 46), none, (.q .mv), [(.t 0)]⟩, ⟨(.some 47), none, (.q .mv), [(.t 7)]⟩, ⟨(.some 48), none, (.q (.iaddrS 2)), [(.t 46), (.t 47)]⟩, ⟨(.some 49), none, (.l (.loadA 2)), [(.t 48)]⟩, ⟨(.some 50), none, (.m (.bsliceO 35 2) 0), [(.t 49)]⟩, ⟨(.some 51), none, (.e (.append 35 2 40)), [(.t 45), (.t 50)]⟩, ⟨(.some 5), none, (.q .mv), [(.t 51)]⟩])))) (.reg false 0 [⟨(.some 15), none, (.q .mv), [(.t 7)]⟩, ⟨(.some 16), none, (.q (.bin .add 3)), [(.t 15), (.c (.imm (.int .i64 1)))]⟩, ⟨(.some 7), none, (.q .mv), [(.t 16)]⟩])))))) (.seq (.seq (.reg false 0 [⟨(.some 52), none, (.q .mv), [(.t 6)]⟩, ⟨(.some 53), none, (.q (.un .not)), [(.t 52)]⟩]) (.cond (.t 53) (.reg false 1 [⟨(.some 54), none, (.q .mv), [(.t 5)]⟩, ⟨(.some 55), none, (.q (.faddr 1)), [(.t 3)]⟩, ⟨(.some 56), none, (.l .load1), [(.t 55)]⟩, ⟨(.some 57), none, (.q (.faddr 2)), [(.t 3)]⟩, ⟨(.some 58), none, (.l .load1), [(.t 57)]⟩, ⟨(.some 59), none, (.q (.build [(.imm (.string (B []))), (.sl 0 [] none)] [(0, 1), (1, 1)])), [(.t 56), (.t 58)]⟩, ⟨(.some 60), none, (.m (.bsliceO 35 2) 0), [(.t 59)]⟩, ⟨(.some 61), none, (.e (.append 35 2 40)), [(.t 54), (.t 60)]⟩, ⟨(.some 5), none, (.q .mv), [(.t 61)]⟩]) .skip)) (.seq (.reg false 0 [⟨(.some 62), none, (.q .mv), [(.t 5)]⟩, ⟨(.some 4), none, (.q .mv), [(.t 62)]⟩]) .ret))))))
theorem fn23 : IsFn Tryz.prog 23 (List.range 200) c23 [4] 63 := ⟨_, _, Tryz.func23, rfl, by decide +kernel, by kernel_rfl, rfl, rfl⟩
set_option maxHeartbeats 4000000 in
theorem p23c (t : List Fil) (e : Edt) (ho : filE.all t) (he : EdtOk e) (hs : t.length ≤ 1099511627) : Pure Tryz.prog G 23 [filsV t, edtV e] (filsV (applyRef t e)) := by
  refine pure_of_code' (S := sp [] []) hm hG (sp_holds .nil .nil) fn23 (St 8 63 [filsV t, edtV e, .junk, .junk, .junk, .junk, .junk, .junk] []) (by kernel_rfl) ⟨⟨lows_fils 0 t, fun k hk => by cases hk⟩, lows_edt 0 e, trivial⟩ (by simp [AV.low, lows_fils]) ?_
  have hnew : [T e.path, bytesV e.data] = filC (newF e) := rfl
  have qN : ∀ (K : AV → Prop), binB .neq 3 (i64 e.kind) (i64 1) K = K (bool (notPut e)) := fun K => by
    rw [binB_neq]
    unfold notPut
    by_cases hk : e.kind = 1 <;> simp [hk, SplitP]
  have hfin : applyRef t e = putFin (newF e) (applyAll e (t.take t.length)) := by rw [List.take_length]; rfl
  rw [hfin]
  simp (maxSteps := 2000000) -implicitDefEqProofs only [c23, RS, Nat.reduceLT, ↓RP0, ↓RP1, ↓RP2, ↓RP3, RV, RW, ↓reduceIte, Nat.reduceAdd, Nat.reduceSub, Nat.reduceMul, Nat.reduceLeDiff, Nat.reduceEqDiff, Int.reduceLT, Int.reduceLE, Int.reduceEq, Int.reduceNe, Int.reduceAdd, Int.reduceSub, Int.reduceMul, Int.reduceNeg, Int.reduceToNat, reduceCtorEq, ↓qN, qN, edt_len, edt0, edt1, edt2, edt_strip, fils_len, AV.cells]
  refine loopB (st := fun (i : Nat) => (St 8 63 [filsV t, edtV e, .junk, .ptr 0 0, .sl 2 [] (some 1), .sl 2 ((applyAll e (t.take i)).1.map filE.v) (some 2), bool (applyAll e (t.take i)).2, i64 i] [])) (hp := fun i => [.box (edtC e), .tok 35 2 0, .tok 35 2 (applyAll e (t.take i)).1.length]) (I := fun i => i ≤ t.length) (m := fun i => t.length - i) (0 : Nat) (Nat.zero_le _) ?_ ?_
  · refine weak_sameS (by simp [applyAll]) ?_ ?_
    · simp [AObj.low, lows, AV.low, lows_edt]
    · simp [WeakL, AV.low, lows, lows_fils, lows_edt, applyAll]
  · intro i hi
    have olen := putAll_len (gone := here e) (aft := after e) (e := newF e) (t.take i) ([], notPut e)
    have oo := putAll_mem (gone := here e) (aft := after e) (P := FilOk) (e := newF e) ⟨he.path, he.data⟩ (t.take i) ([], notPut e) (fun x hx => ho x (List.mem_of_mem_take hx)) (fun x hx => by cases hx)
    have oa := fun (h : i < t.length) => applyAll_take (e := e) h
    change (applyAll e (t.take i)).1.length ≤ _ at olen
    have ol2 : (applyAll e (t.take i)).1.length ≤ 2 * t.length := by
      have : (t.take i).length ≤ t.length := by rw [List.length_take]; omega
      simp only [List.length_nil, Nat.zero_add] at olen; omega
    by_cases hlt : i < t.length
    · have e1 := filE.vs_get hlt
      have e3 : ((i : Int) < (t.length : Int)) = True := eq_true (by omega)
      have hst := oa hlt
      have o1 : FilOk (t.getD i filE.d0) := filE.all_getD ho hlt
      generalize t.getD i filE.d0 = x at *
      change _ = AV.agg (filC x) at e1
      have goOn : ∀ (ov : List (Nat × AV)) (out : List Fil) (d : Bool) (X : List AObj), applyAll e (t.take (i + 1)) = (out, d) → Again 0 (fun (i : Nat) => (St 8 63 [filsV t, edtV e, .junk, .ptr 0 0, .sl 2 [] (some 1), .sl 2 ((applyAll e (t.take i)).1.map filE.v) (some 2), bool (applyAll e (t.take i)).2, i64 i] [])) (fun i => [.box (edtC e), .tok 35 2 0, .tok 35 2 (applyAll e (t.take i)).1.length]) (fun i => i ≤ t.length) (fun i => t.length - i) i
          (St 8 63 [filsV t, edtV e, .junk, .ptr 0 0, .sl 2 [] (some 1), .sl 2 (out.map filE.v) (some 2), bool d, i64 ((i : Int) + 1)] ov) (.box (edtC e) :: .tok 35 2 0 :: .tok 35 2 out.length :: X) := by
        intro ov out d X hX
        refine ⟨i + 1, by dsimp only; omega, by omega, ?_⟩
        dsimp only
        rw [hX]
        refine weak_cutS 3 (by decide) (by simp) ?_ ?_
        · simp [AObj.low, lows, AV.low, lows_edt]
        · simp [WeakL, AV.low, lows, lows_fils, lows_edt]
      rw [hst] at goOn
      clear hst oa oo olen
      generalize applyAll e (t.take i) = s at *
      obtain ⟨out, done⟩ := s
      have m1 : List.map filE.v out ++ [AV.agg (filC x)] = (out ++ [x]).map filE.v := by simp
      have m2 : out.length + 1 = (out ++ [x]).length := by simp
      have m3 : List.map filE.v out ++ [AV.agg [T e.path, bytesV e.data]] = (out ++ [newF e]).map filE.v := by simp [newF, filC]
      have m4 : List.map filE.v (out ++ [newF e]) ++ [AV.agg (filC x)] = (out ++ [newF e] ++ [x]).map filE.v := by simp
      have m5 : (List.map filE.v (out ++ [newF e])).length + 1 = (out ++ [newF e] ++ [x]).length := by simp
      have ib : In64 ((i : Int) + 1) := ⟨by omega, by omega⟩
      have ob : out.length ≤ 2 * t.length := ol2
      by_cases h1 : x.path = e.path
      · simp (maxSteps := 2000000) -implicitDefEqProofs only [RS, Nat.reduceLT, ↓RP0, ↓RP1, ↓RP2, ↓RP3, RV, RW, ↓reduceIte, Nat.reduceAdd, Nat.reduceSub, Nat.reduceMul, Nat.reduceLeDiff, Nat.reduceEqDiff, Int.reduceLT, Int.reduceLE, Int.reduceEq, Int.reduceNe, Int.reduceAdd, Int.reduceSub, Int.reduceMul, Int.reduceNeg, Int.reduceToNat, reduceCtorEq, e1, e3, h1, edt_len, edt0, edt1, edt2, fil_len, fil0, fil1', fil_take, fil_strip, edt_strip, fils_len, AV.cells]
        exact ⟨ib, goOn _ out done [] (by simp [putStep, here, h1])⟩
      · have hh : here e x = false := by simp [here, h1]
        cases done with
        | true =>
          simp (maxSteps := 2000000) -implicitDefEqProofs only [RS, Nat.reduceLT, ↓RP0, ↓RP1, ↓RP2, ↓RP3, RV, RW, ↓reduceIte, Nat.reduceAdd, Nat.reduceSub, Nat.reduceMul, Nat.reduceLeDiff, Nat.reduceEqDiff, Int.reduceLT, Int.reduceLE, Int.reduceEq, Int.reduceNe, Int.reduceAdd, Int.reduceSub, Int.reduceMul, Int.reduceNeg, Int.reduceToNat, reduceCtorEq, e1, e3, h1, edt_len, edt0, edt1, edt2, fil_len, fil0, fil1', fil_take, fil_strip, edt_strip, fils_len, AV.cells]
          refine ⟨(fun y hy => by rw [List.mem_singleton.1 hy]; exact ⟨rfl, rfl⟩), .inl trivial, .inl trivial, by omega, by omega, ib, ?_⟩
          rw [m1, m2]; exact goOn _ (out ++ [x]) true _ (by simp [putStep, hh])
        | false =>
          cases h2 : Op.bytesLess e.path x.path with
          | true =>
            have ha : after e x = true := h2
            simp (maxSteps := 2000000) -implicitDefEqProofs only [RS, Nat.reduceLT, ↓RP0, ↓RP1, ↓RP2, ↓RP3, RV, RW, ↓reduceIte, Nat.reduceAdd, Nat.reduceSub, Nat.reduceMul, Nat.reduceLeDiff, Nat.reduceEqDiff, Int.reduceLT, Int.reduceLE, Int.reduceEq, Int.reduceNe, Int.reduceAdd, Int.reduceSub, Int.reduceMul, Int.reduceNeg, Int.reduceToNat, reduceCtorEq, ↓binB_sgtr, binB_sgtr, e1, e3, h1, h2, edt_len, edt0, edt1, edt2, fil_len, fil0, fil1', fil_take, fil_strip, edt_strip, fils_len, AV.cells]
            refine ⟨(fun y hy => by rw [List.mem_singleton.1 hy]; exact ⟨rfl, rfl⟩), .inl trivial, .inl trivial, by omega, by omega, (fun y hy => by rw [List.mem_singleton.1 hy]; exact ⟨rfl, rfl⟩), by simp, .inl trivial, .inl trivial, by simp; omega, by simp; omega, ib, ?_⟩
            rw [m3, m4, m5]; exact goOn _ (out ++ [newF e] ++ [x]) true _ (by simp [putStep, hh, ha])
          | false =>
            have ha : after e x = false := h2
            simp (maxSteps := 2000000) -implicitDefEqProofs only [RS, Nat.reduceLT, ↓RP0, ↓RP1, ↓RP2, ↓RP3, RV, RW, ↓reduceIte, Nat.reduceAdd, Nat.reduceSub, Nat.reduceMul, Nat.reduceLeDiff, Nat.reduceEqDiff, Int.reduceLT, Int.reduceLE, Int.reduceEq, Int.reduceNe, Int.reduceAdd, Int.reduceSub, Int.reduceMul, Int.reduceNeg, Int.reduceToNat, reduceCtorEq, ↓binB_sgtr, binB_sgtr, e1, e3, h1, h2, edt_len, edt0, edt1, edt2, fil_len, fil0, fil1', fil_take, fil_strip, edt_strip, fils_len, AV.cells]
            refine ⟨(fun y hy => by rw [List.mem_singleton.1 hy]; exact ⟨rfl, rfl⟩), .inl trivial, .inl trivial, by omega, by omega, ib, ?_⟩
            rw [m1, m2]; exact goOn _ (out ++ [x]) false _ (by simp [putStep, hh, ha])
    · obtain rfl : i = t.length := by omega
      generalize applyAll e (t.take t.length) = s at *
      obtain ⟨out, done⟩ := s
      have ob : out.length ≤ 2 * t.length := ol2
      cases done with
      | true =>
        simp (maxSteps := 2000000) -implicitDefEqProofs only [RS, Nat.reduceLT, ↓RP0, ↓RP1, ↓RP2, ↓RP3, RV, RW, ↓reduceIte, Nat.reduceAdd, Nat.reduceSub, Nat.reduceMul, Nat.reduceLeDiff, Nat.reduceEqDiff, Int.reduceLT, Int.reduceLE, Int.reduceEq, Int.reduceNe, Int.reduceAdd, Int.reduceSub, Int.reduceMul, Int.reduceNeg, Int.reduceToNat, reduceCtorEq, fils_len, Int.lt_irrefl, edt_len, edt0, edt1, edt2, edt_strip, AV.cells]
        simp [putFin]
      | false =>
        simp (maxSteps := 2000000) -implicitDefEqProofs only [RS, Nat.reduceLT, ↓RP0, ↓RP1, ↓RP2, ↓RP3, RV, RW, ↓reduceIte, Nat.reduceAdd, Nat.reduceSub, Nat.reduceMul, Nat.reduceLeDiff, Nat.reduceEqDiff, Int.reduceLT, Int.reduceLE, Int.reduceEq, Int.reduceNe, Int.reduceAdd, Int.reduceSub, Int.reduceMul, Int.reduceNeg, Int.reduceToNat, reduceCtorEq, fils_len, Int.lt_irrefl, edt_len, edt0, edt1, edt2, edt_strip, AV.cells]
        refine ⟨(fun y hy => by rw [List.mem_singleton.1 hy]; exact ⟨rfl, rfl⟩), .inl trivial, .inl trivial, by omega, by omega, ?_⟩
        simp [putFin, newF, filC]

/-! Whether two lists are the same; those that are small. -/
def sumD (t : List Fil) : Nat := t.foldl (fun n f => n + f.data.length) 0
theorem sumD_snoc (t : List Fil) (f : Fil) : sumD (t ++ [f]) = sumD t + f.data.length := by unfold sumD; rw [List.foldl_append]; rfl
theorem sumD_le : ∀ (t : List Fil) (n : Nat), filE.all t → t.foldl (fun n f => n + f.data.length) n ≤ n + t.length * 1099511627
  | [], n, _ => by simp
  | f :: t, n, h => by
    have h1 := (h f List.mem_cons_self).data
    have := sumD_le t (n + f.data.length) fun x hx => h x (List.mem_cons_of_mem _ hx)
    simp only [List.foldl_cons, List.length_cons, Nat.succ_mul]; omega
def smallF (t : List Fil) : Bool := decide (t.length ≤ 30) && decide (sumD t ≤ 3000)
def c21 : ACode := (.seq (.reg false 0 [⟨(.some 4), none, (.q .mv), [(.c (.imm (.bool false)))]⟩]) (.seq (.seq (.reg false 0 [⟨(.some 6), none, (.q .mv), [(.t 0)]⟩, ⟨(.some 7), none, (.q .lenL), [(.t 6)]⟩, ⟨(.some 8), none, (.q .mv), [(.t 1)]⟩, ⟨(.some 9), none, (.q .lenL), [(.t 8)]⟩, ⟨(.some 10), none, (.q (.bin .neq 3)), [(.t 7), (.t 9)]⟩]) (.cond (.t 10) (.seq (.reg false 0 [⟨(.some 4), none, (.q .mv), [(.c (.imm (.bool false)))]⟩]) .ret) .skip)) (.seq (.seq (.reg false 0 [⟨(.some 5), none, (.q .mv), [(.c (.imm (.int .i64 0)))]⟩]) (.block 0 (.loop (.seq (.seq (.reg false 0 [⟨(.some 11), none, (.q .mv), [(.t 5)]⟩, ⟨(.some 12), none, (.q .mv), [(.t 0)]⟩, ⟨(.some 13), none, (.q .lenL), [(.t 12)]⟩, ⟨(.some 14), none, (.q (.bin .lss 3)), [(.t 11), (.t 13)]⟩]) (.cond (.t 14) .skip (.exit 0))) (.seq (.block 1 (.seq (.reg true 0 [⟨(.some 17), none, (.q .mv), [(.t 0)]⟩, ⟨(.some 18), none, (.q .mv), [(.t 5)]⟩, ⟨(.some 19), none, (.q (.iaddrS 2)), [(.t 17), (.t 18)]⟩, ⟨(.some 20), none, (.q (.faddr 0)), [(.t 19)]⟩, ⟨(.some 21), none, (.l .load1), [(.t 20)]⟩, ⟨(.some 22), none, (.q .mv), [(.t 1)]⟩, ⟨(.some 23), none, (.q .mv), [(.t 5)]⟩, ⟨(.some 24), none, (.q (.iaddrS 2)), [(.t 22), (.t 23)]⟩, ⟨(.some 25), none, (.q (.faddr 0)), [(.t 24)]⟩, ⟨(.some 26), none, (.l .load1), [(.t 25)]⟩, ⟨(.some 27), none, (.q (.bin .neq 9)), [(.t 21), (.t 26)]⟩, ⟨(.some 28), none, (.q .mv), [(.t 27)]⟩, ⟨(.some 29), (.some (28, false)), (.q .mv), [(.t 0)]⟩, ⟨(.some 30), (.some (28, false)), (.q .mv), [(.t 5)]⟩, ⟨(.some 31), (.some (28, false)), (.q (.iaddrS 2)), [(.t 29), (.t 30)]⟩, ⟨(.some 32), (.some (28, false)), (.q (.faddr 1)), [(.t 31)]⟩, ⟨(.some 33), (.some (28, false)), (.l .load1), [(.t 32)]⟩, ⟨(.some 34), (.some (28, false)), (.q .toStr), [(.t 33)]⟩, ⟨(.some 35), (.some (28, false)), (.q .mv), [(.t 1)]⟩, ⟨(.some 36), (.some (28, false)), (.q .mv), [(.t 5)]⟩, ⟨(.some 37), (.some (28, false)), (.q (.iaddrS 2)), [(.t 35), (.t 36)]⟩, ⟨(.some 38), (.some (28, false)), (.q (.faddr 1)), [(.t 37)]⟩, ⟨(.some 39), (.some (28, false)), (.l .load1), [(.t 38)]⟩, ⟨(.some 40), (.some (28, false)), (.q .toStr), [(.t 39)]⟩, ⟨(.some 41), (.some (28, false)), (.q (.bin .neq 9)), [(.t 34), (.t 40)]⟩, ⟨(.some 42), none, (.q .pick), [(.t 28), (.c (.imm (.bool true))), (.t 41)]⟩]) (.cond (.t 42) (.seq (.reg false 0 [⟨(.some 4), none, (.q .mv), [(.c (.imm (.bool false)))]⟩]) .ret) .skip))) (.reg false 0 [⟨(.some 15), none, (.q .mv), [(.t 5)]⟩, ⟨(.some 16), none, (.q (.bin .add 3)), [(.t 15), (.c (.imm (.int .i64 1)))]⟩, ⟨(.some 5), none, (.q .mv), [(.t 16)]⟩])))))) (.seq (.reg false 0 [⟨(.some 4), none, (.q .mv), [(.c (.imm (.bool true)))]⟩]) .ret))))
theorem fn21 : IsFn Tryz.prog 21 [] c21 [4] 43 := ⟨_, _, Tryz.func21, rfl, by decide +kernel, by kernel_rfl, rfl, rfl⟩
set_option maxHeartbeats 4000000 in
theorem p21c (a b : List Fil) (ha : filE.all a) (hb : filE.all b) (hs : a.length ≤ 1099511627) : Pure Tryz.prog G 21 [filsV a, filsV b] (bool (decide (a = b))) := by
  refine pure_of_code' (S := sp [] []) hm hG (sp_holds .nil .nil) fn21 (St 6 43 [filsV a, filsV b, .junk, .junk, .junk, .junk] []) (by kernel_rfl) ⟨⟨lows_fils 0 a, fun k hk => by cases hk⟩, ⟨lows_fils 0 b, fun k hk => by cases hk⟩, trivial⟩ (by simp [AV.low]) ?_
  by_cases hl : a.length = b.length
  · have hl' : ((a.length : Int) = (b.length : Int)) = True := eq_true (by omega)
    simp (maxSteps := 2000000) -implicitDefEqProofs only [c21, RS, Nat.reduceLT, ↓RP0, ↓RP1, ↓RP2, ↓RP3, RV, RW, ↓reduceIte, Nat.reduceAdd, Nat.reduceSub, Nat.reduceMul, Nat.reduceLeDiff, Nat.reduceEqDiff, Int.reduceLT, Int.reduceLE, Int.reduceEq, Int.reduceNe, Int.reduceAdd, Int.reduceSub, Int.reduceMul, Int.reduceNeg, Int.reduceToNat, reduceCtorEq, hl', fils_len]
    refine loopB (st := fun (i : Nat) => (St 6 43 [filsV a, filsV b, .junk, .junk, bool false, i64 i] [])) (hp := fun _ => []) (I := fun i => i ≤ a.length ∧ a.take i = b.take i) (m := fun i => a.length - i) (0 : Nat) ⟨Nat.zero_le _, rfl⟩ ?_ ?_
    · refine weak_nilS ?_; simp [WeakL, AV.low, lows, lows_fils]
    · rintro i ⟨hi, he⟩
      by_cases hlt : i < a.length
      · have e1 := filE.vs_get hlt
        have e2 := filE.vs_get (l := b) (i := i) (by omega)
        have e3 : ((i : Int) < (a.length : Int)) = True := eq_true (by omega)
        have e4 : ((i : Int) < (b.length : Int)) = True := eq_true (by omega)
        have t1 : a.take (i + 1) = a.take i ++ [a.getD i filE.d0] := take_get hlt
        have t2 : b.take (i + 1) = b.take i ++ [b.getD i filE.d0] := take_get (by omega)
        have hne : ¬ a.getD i filE.d0 = b.getD i filE.d0 → ¬ a = b := fun h e => h (by rw [e])
        generalize a.getD i filE.d0 = x at *
        generalize b.getD i filE.d0 = y at *
        change _ = AV.agg (filC x) at e1
        change _ = AV.agg (filC y) at e2
        simp (maxSteps := 2000000) -implicitDefEqProofs only [RS, Nat.reduceLT, ↓RP0, ↓RP1, ↓RP2, ↓RP3, RV, RW, ↓reduceIte, Nat.reduceAdd, Nat.reduceSub, Nat.reduceMul, Nat.reduceLeDiff, Nat.reduceEqDiff, Int.reduceLT, Int.reduceLE, Int.reduceEq, Int.reduceNe, Int.reduceAdd, Int.reduceSub, Int.reduceMul, Int.reduceNeg, Int.reduceToNat, reduceCtorEq, e1, e2, e3, e4, fil_len, fil0, fil1', fil_take, fil_strip, fils_len, bytesOf_map, onSome_some, AV.cells]
        refine ⟨fun h1 => ⟨fun h2 => ⟨⟨by omega, by omega⟩, i + 1, by dsimp only; omega, ⟨by omega, ?_⟩, ?_⟩, fun h2 => ?_⟩, fun h1 => ?_⟩
        · rw [t1, t2, he]
          have : x = y := by cases x; cases y; simp only at h1 h2; rw [h1, h2]
          rw [this]
        · refine weak_nilS ?_; simp [WeakL, AV.low, lows, lows_fils]
        · rw [decide_eq_false (hne fun e => h2 (by rw [e]))]
        · rw [decide_eq_false (hne fun e => h1 (by rw [e]))]
      · obtain rfl : i = a.length := by omega
        rw [List.take_length, List.take_of_length_le (by omega)] at he
        simp (maxSteps := 2000000) -implicitDefEqProofs only [RS, Nat.reduceLT, ↓RP0, ↓RP1, ↓RP2, ↓RP3, RV, RW, ↓reduceIte, Nat.reduceAdd, Nat.reduceSub, Nat.reduceMul, Nat.reduceLeDiff, Nat.reduceEqDiff, Int.reduceLT, Int.reduceLE, Int.reduceEq, Int.reduceNe, Int.reduceAdd, Int.reduceSub, Int.reduceMul, Int.reduceNeg, Int.reduceToNat, reduceCtorEq, fils_len, Int.lt_irrefl, he]
        simp
  · have hl' : ((a.length : Int) = (b.length : Int)) = False := eq_false (by omega)
    have hne : ¬ a = b := fun e => hl (by rw [e])
    simp (maxSteps := 2000000) -implicitDefEqProofs only [c21, RS, Nat.reduceLT, ↓RP0, ↓RP1, ↓RP2, ↓RP3, RV, RW, ↓reduceIte, Nat.reduceAdd, Nat.reduceSub, Nat.reduceMul, Nat.reduceLeDiff, Nat.reduceEqDiff, Int.reduceLT, Int.reduceLE, Int.reduceEq, Int.reduceNe, Int.reduceAdd, Int.reduceSub, Int.reduceMul, Int.reduceNeg, Int.reduceToNat, reduceCtorEq, hl', fils_len, hne]
    simp
def c8 : ACode := (.seq (.reg false 0 [⟨(.some 2), none, (.q .mv), [(.c (.imm (.bool false)))]⟩]) (.seq (.reg false 0 [⟨(.some 3), none, (.q .mv), [(.c (.imm (.int .i64 0)))]⟩]) (.seq (.seq (.reg false 0 [⟨(.some 4), none, (.q .mv), [(.c (.imm (.int .i64 0)))]⟩]) (.block 0 (.loop (.seq (.seq (.reg false 0 [⟨(.some 5), none, (.q .mv), [(.t 4)]⟩, ⟨(.some 6), none, (.q .mv), [(.t 0)]⟩, ⟨(.some 7), none, (.q .lenL), [(.t 6)]⟩, ⟨(.some 8), none, (.q (.bin .lss 3)), [(.t 5), (.t 7)]⟩, ⟨(.some 9), none, (.q .mv), [(.t 8)]⟩, ⟨(.some 10), (.some (9, true)), (.q .mv), [(.t 4)]⟩, ⟨(.some 11), (.some (9, true)), (.q (.bin .lss 3)), [(.t 10), (.c (.imm (.int .i64 31)))]⟩, ⟨(.some 12), none, (.q .pick), [(.t 9), (.t 11), (.c (.imm (.bool false)))]⟩]) (.cond (.t 12) .skip (.exit 0))) (.seq (.block 1 (.reg false 0 [⟨(.some 15), none, (.q .mv), [(.t 3)]⟩, ⟨(.some 16), none, (.q .mv), [(.t 0)]⟩, ⟨(.some 17), none, (.q .mv), [(.t 4)]⟩, ⟨(.some 18), none, (.q (.iaddrS 2)), [(.t 16), (.t 17)]⟩, ⟨(.some 19), none, (.q (.faddr 1)), [(.t 18)]⟩, ⟨(.some 20), none, (.l .load1), [(.t 19)]⟩, ⟨(.some 21), none, (.q .lenL), [(.t 20)]⟩, ⟨(.some 22), none, (.q (.bin .add 3)), [(.t 15), (.t 21)]⟩, ⟨(.some 3), none, (.q .mv), [(.t 22)]⟩])) (.reg false 0 [⟨(.some 13), none, (.q .mv), [(.t 4)]⟩, ⟨(.some 14), none, (.q (.bin .add 3)), [(.t 13), (.c (.imm (.int .i64 1)))]⟩, ⟨(.some 4), none, (.q .mv), [(.t 14)]⟩])))))) (.seq (.reg false 0 [⟨(.some 23), none, (.q .mv), [(.t 0)]⟩, ⟨(.some 24), none, (.q .lenL), [(.t 23)]⟩, ⟨(.some 25), none, (.q (.bin .leq 3)), [(.t 24), (.c (.imm (.int .i64 30)))]⟩, ⟨(.some 26), none, (.q .mv), [(.t 25)]⟩, ⟨(.some 27), (.some (26, true)), (.q .mv), [(.t 3)]⟩, ⟨(.some 28), (.some (26, true)), (.q (.bin .leq 3)), [(.t 27), (.c (.imm (.int .i64 3000)))]⟩, ⟨(.some 29), none, (.q .pick), [(.t 26), (.t 28), (.c (.imm (.bool false)))]⟩, ⟨(.some 2), none, (.q .mv), [(.t 29)]⟩]) .ret))))
theorem fn8 : IsFn Tryz.prog 8 [] c8 [2] 30 := ⟨_, _, Tryz.func8, rfl, by decide +kernel, by kernel_rfl, rfl, rfl⟩
set_option maxHeartbeats 4000000 in
theorem p8c (t : List Fil) (ho : filE.all t) (hs : t.length ≤ 1099511627) : Pure Tryz.prog G 8 [filsV t] (bool (smallF t)) := by
  refine pure_of_code' (S := sp [] []) hm hG (sp_holds .nil .nil) fn8 (St 5 30 [filsV t, .junk, .junk, .junk, .junk] []) (by kernel_rfl) ⟨⟨lows_fils 0 t, fun k hk => by cases hk⟩, trivial⟩ (by simp [AV.low]) ?_
  simp (maxSteps := 2000000) -implicitDefEqProofs only [c8, RS, Nat.reduceLT, ↓RP0, ↓RP1, ↓RP2, ↓RP3, RV, RW, ↓reduceIte, Nat.reduceAdd, Nat.reduceSub, Nat.reduceMul, Nat.reduceLeDiff, Nat.reduceEqDiff, Int.reduceLT, Int.reduceLE, Int.reduceEq, Int.reduceNe, Int.reduceAdd, Int.reduceSub, Int.reduceMul, Int.reduceNeg, Int.reduceToNat, reduceCtorEq, fils_len]
  refine loopB (st := fun (i : Nat) => (St 5 30 [filsV t, .junk, bool false, i64 (sumD (t.take i) : Nat), i64 i] [])) (hp := fun _ => []) (I := fun i => i ≤ t.length ∧ i ≤ 31) (m := fun i => t.length - i) (0 : Nat) ⟨Nat.zero_le _, by decide⟩ ?_ ?_
  · refine weak_nilS ?_; simp [WeakL, AV.low, lows, lows_fils, sumD]
  · rintro i ⟨hi, hi2⟩
    have sl := sumD_le (t.take i) 0 fun x hx => ho x (List.mem_of_mem_take hx)
    change sumD (t.take i) ≤ _ at sl
    rw [List.length_take, Nat.min_eq_left hi] at sl
    have fin : ∀ b : Bool, ¬ t.length ≤ 30 → smallF t = false := fun b h => by simp [smallF, h]
    by_cases hlt : i < t.length
    · have e3 : ((i : Int) < (t.length : Int)) = True := eq_true (by omega)
      by_cases h31 : i < 31
      · have e4 : ((i : Int) < 31) = True := eq_true (by omega)
        have e1 := filE.vs_get hlt
        have t1 : t.take (i + 1) = t.take i ++ [t.getD i filE.d0] := take_get hlt
        have o1 : FilOk (t.getD i filE.d0) := filE.all_getD ho hlt
        have od := o1.data
        have ts := congrArg sumD t1
        rw [sumD_snoc] at ts
        generalize t.getD i filE.d0 = x at *
        change _ = AV.agg (filC x) at e1
        generalize sumD (t.take i) = n at *
        simp (maxSteps := 2000000) -implicitDefEqProofs only [RS, Nat.reduceLT, ↓RP0, ↓RP1, ↓RP2, ↓RP3, RV, RW, ↓reduceIte, Nat.reduceAdd, Nat.reduceSub, Nat.reduceMul, Nat.reduceLeDiff, Nat.reduceEqDiff, Int.reduceLT, Int.reduceLE, Int.reduceEq, Int.reduceNe, Int.reduceAdd, Int.reduceSub, Int.reduceMul, Int.reduceNeg, Int.reduceToNat, reduceCtorEq, e1, e3, e4, fil_len, fil0, fil1', fil_take, fil_strip, bytes_len, fils_len, AV.cells]
        refine ⟨⟨by omega, by omega⟩, ⟨by omega, by omega⟩, i + 1, by dsimp only; omega, ⟨by omega, by omega⟩, ?_⟩
        dsimp only
        rw [ts]
        refine weak_nilS ?_; simp [WeakL, AV.low, lows, lows_fils]
      · have e4 : ((i : Int) < 31) = False := eq_false (by omega)
        have e5 : ((t.length : Int) ≤ 30) = False := eq_false (by omega)
        simp (maxSteps := 2000000) -implicitDefEqProofs only [RS, Nat.reduceLT, ↓RP0, ↓RP1, ↓RP2, ↓RP3, RV, RW, ↓reduceIte, Nat.reduceAdd, Nat.reduceSub, Nat.reduceMul, Nat.reduceLeDiff, Nat.reduceEqDiff, Int.reduceLT, Int.reduceLE, Int.reduceEq, Int.reduceNe, Int.reduceAdd, Int.reduceSub, Int.reduceMul, Int.reduceNeg, Int.reduceToNat, reduceCtorEq, e3, e4, e5, fils_len]
        rw [fin true (by omega)]
    · obtain rfl : i = t.length := by omega
      rw [List.take_length] at *
      by_cases h30 : t.length ≤ 30
      · have e5 : ((t.length : Int) ≤ 30) = True := eq_true (by omega)
        simp (maxSteps := 2000000) -implicitDefEqProofs only [RS, Nat.reduceLT, ↓RP0, ↓RP1, ↓RP2, ↓RP3, RV, RW, ↓reduceIte, Nat.reduceAdd, Nat.reduceSub, Nat.reduceMul, Nat.reduceLeDiff, Nat.reduceEqDiff, Int.reduceLT, Int.reduceLE, Int.reduceEq, Int.reduceNe, Int.reduceAdd, Int.reduceSub, Int.reduceMul, Int.reduceNeg, Int.reduceToNat, reduceCtorEq, fils_len, Int.lt_irrefl, e5]
        refine ⟨fun h => ?_, fun h => ?_⟩
        · rw [show smallF t = true by simp [smallF, h30]; omega]
        · rw [show smallF t = false by simp [smallF, h30]; omega]
      · have e5 : ((t.length : Int) ≤ 30) = False := eq_false (by omega)
        simp (maxSteps := 2000000) -implicitDefEqProofs only [RS, Nat.reduceLT, ↓RP0, ↓RP1, ↓RP2, ↓RP3, RV, RW, ↓reduceIte, Nat.reduceAdd, Nat.reduceSub, Nat.reduceMul, Nat.reduceLeDiff, Nat.reduceEqDiff, Int.reduceLT, Int.reduceLE, Int.reduceEq, Int.reduceNe, Int.reduceAdd, Int.reduceSub, Int.reduceMul, Int.reduceNeg, Int.reduceToNat, reduceCtorEq, fils_len, Int.lt_irrefl, e5]
        rw [fin true (by omega)]
end Go.AL.Path
