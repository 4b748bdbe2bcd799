/- diff.Apply, and the document's. -/
import Derived.Test.YtofokmpdioblkaaGreatDoorG17
import Derived.Test.YtofokmpdioblkaaGreatDoorG26
import Derived.Sort.Walk0
set_option linter.unusedSimpArgs false
set_option linter.unusedVariables false
set_option maxRecDepth 100000
namespace Go.AL.Path
open Go Go.RowKit Go.Proofs Go.AL
theorem fil_len (f : Fil) : (filC f).length = 2 := rfl
theorem fil0 {f : Fil} : (filC f)[0]? = some (T f.path) := rfl
theorem fil1' {f : Fil} : (filC f)[1]? = some (bytesV f.data) := rfl
theorem fil_take {f : Fil} : (filC f).take 2 = filC f := rfl
theorem fil_strip {f : Fil} : (filC f).map AV.strip1 = filC f := rfl
theorem edt_len (e : Edt) : (edtC e).length = 3 := rfl
theorem edt0 {e : Edt} : (edtC e)[0]? = some (i64 e.kind) := rfl
theorem edt1 {e : Edt} : (edtC e)[1]? = some (T e.path) := rfl
theorem edt2 {e : Edt} : (edtC e)[2]? = some (bytesV e.data) := rfl
theorem edt_strip {e : Edt} : (edtC e).map AV.strip1 = edtC e := rfl
theorem bl_lt (a b : List UInt8) : Op.bytesLess a b = true ↔ a < b := by rw [Go.Proofs.bytesLess_eq]; simp
theorem bl_gt (a b : List UInt8) : (!(Op.bytesLess a b || a == b)) = Op.bytesLess b a := by
  rw [Bool.eq_iff_iff, bl_lt]
  simp only [Bool.not_eq_true', Bool.or_eq_false_iff, beq_eq_false_iff_ne, ne_eq]
  rw [← Bool.not_eq_true, bl_lt]
  constructor
  · rintro ⟨h1, h2⟩
    rcases Classical.em (b < a) with h3 | h3
    · exact h3
    · exact absurd (List.le_antisymm (List.not_lt.1 h3) (List.not_lt.1 h1)) h2
  · exact fun h => ⟨List.lt_asymm h, fun e => by subst e; exact List.lt_irrefl _ h⟩
theorem binB_slss {l m : List UInt8} {K : AV → Prop} {t : TypeId} : binB .lss t (T l) (T m) K = SplitP (Op.bytesLess l m = true) (K (bool true)) (K (bool false)) := by
  have : binB .lss t (T l) (T m) K = K (bool (Op.bytesLess l m)) := by simp [binB, binsem, binStr, toList_B]
  rw [this]
  cases Op.bytesLess l m <;> simp [SplitP]
theorem binB_sgtr {l m : List UInt8} {K : AV → Prop} {t : TypeId} : binB .gtr t (T l) (T m) K = SplitP (Op.bytesLess m l = true) (K (bool true)) (K (bool false)) := by
  have : binB .gtr t (T l) (T m) K = K (bool (!(Op.bytesLess l m || l == m))) := by simp [binB, binsem, binStr, toList_B]
  rw [this]
  rw [bl_gt]
  cases Op.bytesLess m l <;> simp [SplitP]
theorem binB_sgeq {l m : List UInt8} {K : AV → Prop} {t : TypeId} : binB .geq t (T l) (T m) K = SplitP (Op.bytesLess l m = true) (K (bool false)) (K (bool true)) := by
  have : binB .geq t (T l) (T m) K = K (bool (!Op.bytesLess l m)) := by simp [binB, binsem, binStr, toList_B]
  rw [this]
  cases Op.bytesLess l m <;> simp [SplitP]
def here (e : Edt) (f : Fil) : Bool := decide (f.path = e.path)
def after (e : Edt) (f : Fil) : Bool := Op.bytesLess e.path f.path
/-- What the program's Apply does. -/
def applyP (t : List Fil) (e : Edt) : List Fil :=
  if ¬ e.kind = 1 then t.filter fun f => !here e f else
    let out := t.filter fun f => !here e f
    let i := if idxOf (after e) out < 0 then out.length else (idxOf (after e) out).toNat
    out.take i ++ [⟨e.path, e.data⟩] ++ out.drop i
theorem fils_len (l : List Fil) : (l.map filE.v).length = l.length := List.length_map ..
end Go.AL.Path

/- The document's Apply; whether two lists are the same; those that are small. -/
set_option linter.unusedSimpArgs false
set_option linter.unusedVariables false
set_option maxRecDepth 100000
namespace Go.AL.Path
open Go Go.RowKit Go.Proofs Go.AL
section
variable {α : Type} (gone aft : α → Bool) (e : α)
def putStep (s : List α × Bool) (f : α) : List α × Bool :=
  if gone f = true then s else if s.2 = false ∧ aft f = true then (s.1 ++ [e] ++ [f], true) else (s.1 ++ [f], s.2)
def putFin (s : List α × Bool) : List α := if s.2 = true then s.1 else s.1 ++ [e]
variable {gone aft e}
theorem putStep_len (s : List α × Bool) (f : α) : (putStep gone aft e s f).1.length ≤ s.1.length + 2 := by
  unfold putStep
  split
  · simp
  · split <;> simp
theorem putAll_len : ∀ (h : List α) (s : List α × Bool), (h.foldl (putStep gone aft e) s).1.length ≤ s.1.length + 2 * h.length
  | [], s => by simp
  | f :: h, s => by
    have := putAll_len h (putStep gone aft e s f)
    have := putStep_len (gone := gone) (aft := aft) (e := e) s f
    simp only [List.foldl_cons, List.length_cons]; omega
theorem putAll_mem {P : α → Prop} (he : P e) : ∀ (h : List α) (s : List α × Bool), (∀ x ∈ h, P x) → (∀ x ∈ s.1, P x) → ∀ x ∈ (h.foldl (putStep gone aft e) s).1, P x
  | [], s, _, hs => hs
  | f :: h, s, hh, hs => by
    refine putAll_mem he h _ (fun x hx => hh x (List.mem_cons_of_mem _ hx)) ?_
    have hf := hh f List.mem_cons_self
    intro x hx
    unfold putStep at hx
    split at hx
    · exact hs x hx
    · split at hx <;> simp only [List.mem_append, List.mem_singleton] at hx
      · rcases hx with (hx | rfl) | rfl
        · exact hs x hx
        · exact he
        · exact hf
      · rcases hx with hx | rfl
        · exact hs x hx
        · exact hf
theorem put_done : ∀ (h acc : List α), h.foldl (putStep gone aft e) (acc, true) = (acc ++ h.filter (fun f => !gone f), true)
  | [], acc => by simp
  | f :: h, acc => by
    rw [List.foldl_cons]
    by_cases hg : gone f = true
    · rw [show putStep gone aft e (acc, true) f = (acc, true) by unfold putStep; rw [if_pos hg], put_done h acc]; simp [hg]
    · rw [show putStep gone aft e (acc, true) f = (acc ++ [f], true) by unfold putStep; rw [if_neg hg, if_neg (by simp)], put_done h]
      simp [hg]
theorem put_find : ∀ (h acc : List α), h.foldl (putStep gone aft e) (acc, false) =
    if (h.filter (fun f => !gone f)).any aft = true
    then (acc ++ ((h.filter (fun f => !gone f)).take ((h.filter (fun f => !gone f)).findIdx aft) ++ [e] ++ (h.filter (fun f => !gone f)).drop ((h.filter (fun f => !gone f)).findIdx aft)), true)
    else (acc ++ h.filter (fun f => !gone f), false)
  | [], acc => by simp
  | f :: h, acc => by
    rw [List.foldl_cons]
    by_cases hg : gone f = true
    · rw [show putStep gone aft e (acc, false) f = (acc, false) by unfold putStep; rw [if_pos hg], put_find h acc]
      have : (f :: h).filter (fun f => !gone f) = h.filter (fun f => !gone f) := by simp [hg]
      rw [this]
    · have hf : (f :: h).filter (fun f => !gone f) = f :: h.filter (fun f => !gone f) := by simp [hg]
      rw [hf]
      by_cases hc : aft f = true
      · rw [show putStep gone aft e (acc, false) f = (acc ++ [e] ++ [f], true) by unfold putStep; rw [if_neg hg, if_pos ⟨rfl, hc⟩], put_done]
        simp [hc, List.findIdx_cons]
      · rw [show putStep gone aft e (acc, false) f = (acc ++ [f], false) by unfold putStep; rw [if_neg hg, if_neg (by simp [hc])], put_find h]
        simp only [List.any_cons, hc, Bool.false_or, List.findIdx_cons, cond_false, Bool.not_eq_true]
        split <;> simp
end
theorem getD_mem2 {α : Type} {l : List α} {i : Nat} {d : α} (h : i < l.length) : l.getD i d ∈ l := by rw [List.getD_eq_getElem?_getD, List.getElem?_eq_getElem h]; exact List.getElem_mem h
def newF (e : Edt) : Fil := ⟨e.path, e.data⟩
def notPut (e : Edt) : Bool := !decide (e.kind = 1)
def applyAll (e : Edt) (t : List Fil) : List Fil × Bool := t.foldl (putStep (here e) (after e) (newF e)) ([], notPut e)
def applyRef (t : List Fil) (e : Edt) : List Fil := putFin (newF e) (applyAll e t)
theorem applyAll_take {e : Edt} {t : List Fil} {i : Nat} (hi : i < t.length) : applyAll e (t.take (i + 1)) = putStep (here e) (after e) (newF e) (applyAll e (t.take i)) (t.getD i filE.d0) := by
  unfold applyAll
  rw [take_get (d := filE.d0) hi, List.foldl_append]; rfl
theorem applyP_eq (t : List Fil) (e : Edt) : applyP t e = applyRef t e := by
  unfold applyP applyRef applyAll notPut
  by_cases hk : e.kind = 1
  · rw [if_neg (by simp [hk])]
    have : (!decide (e.kind = 1)) = false := by simp [hk]
    rw [this, put_find]
    unfold idxOf putFin newF
    generalize t.filter (fun f => !here e f) = out
    dsimp only
    by_cases ha : out.any (after e) = true
    · rw [if_pos ha, if_pos ha]
      have h0 : ¬ ((out.findIdx (after e) : Nat) : Int) < 0 := by omega
      rw [if_neg h0]
      simp
    · rw [if_neg ha, if_neg ha]
      simp
  · rw [if_pos hk]
    have : (!decide (e.kind = 1)) = true := by simp [hk]
    rw [this, put_done]
    simp [putFin]
theorem applyRef_ok {t : List Fil} {e : Edt} (ho : filE.all t) (he : EdtOk e) : filE.all (applyRef t e) := by
  have h1 := putAll_mem (gone := here e) (aft := after e) (P := FilOk) (e := newF e) ⟨he.path, he.data⟩ t ([], notPut e) ho (fun x hx => by cases hx)
  unfold applyRef putFin applyAll
  split
  · exact h1
  · intro x hx
    simp only [List.mem_append, List.mem_singleton] at hx
    rcases hx with hx | rfl
    · exact h1 x hx
    · exact ⟨he.path, he.data⟩
theorem applyRef_len (t : List Fil) (e : Edt) : (applyRef t e).length ≤ t.length + 1 := by
  rw [← applyP_eq]
  unfold applyP
  have := List.length_filter_le (fun f => !here e f) t
  split
  · omega
  · simp only [List.length_append, List.length_take, List.length_drop, List.length_singleton]; omega
def c23 : ACode := (.seq (.reg false 2 [⟨(.some 3), none, (.m .box 0), [(.t 1)]⟩, ⟨(.some 4), none, (.m (.nilT 35 2) 1), []⟩]) (.seq (.reg false 1 [⟨(.some 5), none, (.m (.nilT 35 2) 0), []⟩]) (.seq (.reg false 0 [⟨(.some 8), none, (.q (.faddr 0)), [(.t 3)]⟩, ⟨(.some 9), none, (.l .load1), [(.t 8)]⟩, ⟨(.some 10), none, (.q (.bin .neq 3)), [(.t 9), (.c (.imm (.int .i64 1)))]⟩, ⟨(.some 6), none, (.q .mv), [(.t 10)]⟩]) (.seq (.seq (.reg false 0 [⟨(.some 7), none, (.q .mv), [(.c (.imm (.int .i64 0)))]⟩]) (.block 0 (.loop (.seq (.seq (.reg false 0 [⟨(.some 11), none, (.q .mv), [(.t 7)]⟩, ⟨(.some 12), none, (.q .mv), [(.t 0)]⟩, ⟨(.some 13), none, (.q .lenL), [(.t 12)]⟩, ⟨(.some 14), none, (.q (.bin .lss 3)), [(.t 11), (.t 13)]⟩]) (.cond (.t 14) .skip (.exit 0))) (.seq (.block 1 (.seq (.seq (.reg true 0 [⟨(.some 17), none, (.q .mv), [(.t 0)]⟩, ⟨(.some 18), none, (.q .mv), [(.t 7)]⟩, ⟨(.some 19), none, (.q (.iaddrS 2)), [(.t 17), (.t 18)]⟩, ⟨(.some 20), none, (.q (.faddr 0)), [(.t 19)]⟩, ⟨(.some 21), none, (.l .load1), [(.t 20)]⟩, ⟨(.some 22), none, (.q (.faddr 1)), [(.t 3)]⟩, ⟨(.some 23), none, (.l .load1), [(.t 22)]⟩, ⟨(.some 24), none, (.q (.bin .eql 9)), [(.t 21), (.t 23)]⟩]) (.cond (.t 24) (.exit 1) .skip)) (.seq (.seq (.reg true 0 [⟨(.some 25), none, (.q .mv), [(.t 6)]⟩, ⟨(.some 26), none, (.q (.un .not)), [(.t 25)]⟩, ⟨(.some 27), none, (.q .mv), [(.t 26)]⟩, ⟨(.some 28), (.some (27, true)), (.q .mv), [(.t 0)]⟩, ⟨(.some 29), (.some (27, true)), (.q .mv), [(.t 7)]⟩, ⟨(.some 30), (.some (27, true)), (.q (.iaddrS 2)), [(.t 28), (.t 29)]⟩, ⟨(.some 31), (.some (27, true)), (.q (.faddr 0)), [(.t 30)]⟩, ⟨(.some 32), (.some (27, true)), (.l .load1), [(.t 31)]⟩, ⟨(.some 33), (.some (27, true)), (.q (.faddr 1)), [(.t 3)]⟩, ⟨(.some 34), (.some (27, true)), (.l .load1), [(.t 33)]⟩, ⟨(.some 35), (.some (27, true)), (.q (.bin .gtr 9)), [(.t 32), (.t 34)]⟩, ⟨(.some 36), none, (.q .pick), [(.t 27), (.t 35), (.c (.imm (.bool false)))]⟩]) (.cond (.t 36) (.seq (.reg false 1 [⟨(.some 37), none, (.q .mv), [(.t 5)]⟩, ⟨(.some 38), none, (.q (.faddr 1)), [(.t 3)]⟩, ⟨(.some 39), none, (.l .load1), [(.t 38)]⟩, ⟨(.some 40), none, (.q (.faddr 2)), [(.t 3)]⟩, ⟨(.some 41), none, (.l .load1), [(.t 40)]⟩, ⟨(.some 42), none, (.q (.build [(.imm (.string (B []))), (.sl 0 [] none)] [(0, 1), (1, 1)])), [(.t 39), (.t 41)]⟩, ⟨(.some 43), none, (.m (.bsliceO 35 2) 0), [(.t 42)]⟩, ⟨(.some 44), none, (.e (.append 35 2 40)), [(.t 37), (.t 43)]⟩, ⟨(.some 5), none, (.q .mv), [(.t 44)]⟩]) (.reg false 0 [⟨(.some 6), none, (.q .mv), [(.c (.imm (.bool true)))]⟩])) .skip)) (.reg false 1 [⟨(.some 45), none, (.q .mv), [(.t 5)]⟩, ⟨(.some 46), none, (.q .mv), [(.t 0)]⟩, ⟨(.some 47), none, (.q .mv), [(.t 7)]⟩, ⟨(.some 48), none, (.q (.iaddrS 2)), [(.t 46), (.t 47)]⟩, ⟨(.some 49), none, (.l (.loadA 2)), [(.t 48)]⟩, ⟨(.some 50), none, (.m (.bsliceO 35 2) 0), [(.t 49)]⟩, ⟨(.some 51), none, (.e (.append 35 2 40)), [(.t 45), (.t 50)]⟩, ⟨(.some 5), none, (.q .mv), [(.t 51)]⟩])))) (.reg false 0 [⟨(.some 15), none, (.q .mv), [(.t 7)]⟩, ⟨(.some 16), none, (.q (.bin .add 3)), [(.t 15), (.c (.imm (.int .i64 1)))]⟩, ⟨(.some 7), none, (.q .mv), [(.t 16)]⟩])))))) (.seq (.seq (.reg false 0 [⟨(.some 52), none, (.q .mv), [(.t 6)]⟩, ⟨(.some 53), none, (.q (.un .not)), [(.t 52)]⟩]) (.cond (.t 53) (.reg false 1 [⟨(.some 54), none, (.q .mv), [(.t 5)]⟩, ⟨(.some 55), none, (.q (.faddr 1)), [(.t 3)]⟩, ⟨(.some 56), none, (.l .load1), [(.t 55)]⟩, ⟨(.some 57), none, (.q (.faddr 2)), [(.t 3)]⟩, ⟨(.some 58), none, (.l .load1), [(.t 57)]⟩, ⟨(.some 59), none, (.q (.build [(.imm (.string (B []))), (.sl 0 [] none)] [(0, 1), (1, 1)])), [(.t 56), (.t 58)]⟩, ⟨(.some 60), none, (.m (.bsliceO 35 2) 0), [(.t 59)]⟩, ⟨(.some 61), none, (.e (.append 35 2 40)), [(.t 54), (.t 60)]⟩, ⟨(.some 5), none, (.q .mv), [(.t 61)]⟩]) .skip)) (.seq (.reg false 0 [⟨(.some 62), none, (.q .mv), [(.t 5)]⟩, ⟨(.some 4), none, (.q .mv), [(.t 62)]⟩]) .ret))))))
theorem fn23 : IsFn Tryz.prog 23 (List.range 200) c23 [4] 63 := ⟨_, _, Tryz.func23, rfl, by decide +kernel, by kernel_rfl, rfl, rfl⟩
set_option maxHeartbeats 4000000 in
theorem p23c (t : List Fil) (e : Edt) (ho : filE.all t) (he : EdtOk e) (hs : t.length ≤ 1099511627) : Pure Tryz.prog G 23 [filsV t, edtV e] (filsV (applyRef t e)) := by
  refine pure_of_code' (S := sp [] []) hm hG (sp_holds .nil .nil) fn23 (St 8 63 [filsV t, edtV e, .junk, .junk, .junk, .junk, .junk, .junk] []) (by kernel_rfl) ⟨⟨lows_fils 0 t, fun k hk => by cases hk⟩, lows_edt 0 e, trivial⟩ (by simp [AV.low, lows_fils]) ?_
  have hnew : [T e.path, bytesV e.data] = filC (newF e) := rfl
  have qN : ∀ (K : AV → Prop), binB .neq 3 (i64 e.kind) (i64 1) K = K (bool (notPut e)) := fun K => by
    rw [binB_neq]
    unfold notPut
    by_cases hk : e.kind = 1 <;> simp [hk, SplitP]
  have hfin : applyRef t e = putFin (newF e) (applyAll e (t.take t.length)) := by rw [List.take_length]; rfl
  rw [hfin]
  simp (maxSteps := 2000000) -implicitDefEqProofs only [c23, RS, RX, Nat.reduceLT, ↓RP0, ↓RP1, ↓RP2, ↓RP3, RV, RW, ↓reduceIte, Nat.reduceAdd, Nat.reduceSub, Nat.reduceMul, Nat.reduceLeDiff, Nat.reduceEqDiff, Int.reduceLT, Int.reduceLE, Int.reduceEq, Int.reduceNe, Int.reduceAdd, Int.reduceSub, Int.reduceMul, Int.reduceNeg, Int.reduceToNat, reduceCtorEq, ↓qN, qN, edt_len, edt0, edt1, edt2, edt_strip, fils_len, AV.cells]
  refine loopB (st := fun (i : Nat) => (St 8 63 [filsV t, edtV e, .junk, .ptr 0 0, .sl 2 [] (some 1), .sl 2 ((applyAll e (t.take i)).1.map filE.v) (some 2), bool (applyAll e (t.take i)).2, i64 i] [])) (hp := fun i => [.box (edtC e), .tok 35 2 0, .tok 35 2 (applyAll e (t.take i)).1.length]) (I := fun i => i ≤ t.length) (m := fun i => t.length - i) (0 : Nat) (Nat.zero_le _) ?_ ?_
  · refine weak_sameS (by simp [applyAll]) ?_ ?_
    · simp [AObj.low, lows, AV.low, lows_edt]
    · simp [WeakL, AV.low, lows, lows_fils, lows_edt, applyAll]
  · intro i hi
    have olen := putAll_len (gone := here e) (aft := after e) (e := newF e) (t.take i) ([], notPut e)
    have oo := putAll_mem (gone := here e) (aft := after e) (P := FilOk) (e := newF e) ⟨he.path, he.data⟩ (t.take i) ([], notPut e) (fun x hx => ho x (List.mem_of_mem_take hx)) (fun x hx => by cases hx)
    have oa := fun (h : i < t.length) => applyAll_take (e := e) h
    change (applyAll e (t.take i)).1.length ≤ _ at olen
    have ol2 : (applyAll e (t.take i)).1.length ≤ 2 * t.length := by
      have : (t.take i).length ≤ t.length := by rw [List.length_take]; omega
      simp only [List.length_nil, Nat.zero_add] at olen; omega
    by_cases hlt : i < t.length
    · have e1 := filE.vs_get hlt
      have e3 : ((i : Int) < (t.length : Int)) = True := eq_true (by omega)
      have hst := oa hlt
      have o1 : FilOk (t.getD i filE.d0) := filE.all_getD ho hlt
      generalize t.getD i filE.d0 = x at *
      change _ = AV.agg (filC x) at e1
      have goOn : ∀ (ov : List (Nat × AV)) (out : List Fil) (d : Bool) (X : List AObj), applyAll e (t.take (i + 1)) = (out, d) → Again 0 (fun (i : Nat) => (St 8 63 [filsV t, edtV e, .junk, .ptr 0 0, .sl 2 [] (some 1), .sl 2 ((applyAll e (t.take i)).1.map filE.v) (some 2), bool (applyAll e (t.take i)).2, i64 i] [])) (fun i => [.box (edtC e), .tok 35 2 0, .tok 35 2 (applyAll e (t.take i)).1.length]) (fun i => i ≤ t.length) (fun i => t.length - i) i
          (St 8 63 [filsV t, edtV e, .junk, .ptr 0 0, .sl 2 [] (some 1), .sl 2 (out.map filE.v) (some 2), bool d, i64 ((i : Int) + 1)] ov) (.box (edtC e) :: .tok 35 2 0 :: .tok 35 2 out.length :: X) := by
        intro ov out d X hX
        refine ⟨i + 1, by dsimp only; omega, by omega, ?_⟩
        dsimp only
        rw [hX]
        refine weak_cutS 3 (by decide) (by simp) ?_ ?_
        · simp [AObj.low, lows, AV.low, lows_edt]
        · simp [WeakL, AV.low, lows, lows_fils, lows_edt]
      rw [hst] at goOn
      clear hst oa oo olen
      generalize applyAll e (t.take i) = s at *
      obtain ⟨out, done⟩ := s
      have m1 : List.map filE.v out ++ [AV.agg (filC x)] = (out ++ [x]).map filE.v := by simp
      have m2 : out.length + 1 = (out ++ [x]).length := by simp
      have m3 : List.map filE.v out ++ [AV.agg [T e.path, bytesV e.data]] = (out ++ [newF e]).map filE.v := by simp [newF, filC]
      have m4 : List.map filE.v (out ++ [newF e]) ++ [AV.agg (filC x)] = (out ++ [newF e] ++ [x]).map filE.v := by simp
      have m5 : (List.map filE.v (out ++ [newF e])).length + 1 = (out ++ [newF e] ++ [x]).length := by simp
      have ib : In64 ((i : Int) + 1) := ⟨by omega, by omega⟩
      have ob : out.length ≤ 2 * t.length := ol2
      by_cases h1 : x.path = e.path
      · simp (maxSteps := 2000000) -implicitDefEqProofs only [RS, RX, Nat.reduceLT, ↓RP0, ↓RP1, ↓RP2, ↓RP3, RV, RW, ↓reduceIte, Nat.reduceAdd, Nat.reduceSub, Nat.reduceMul, Nat.reduceLeDiff, Nat.reduceEqDiff, Int.reduceLT, Int.reduceLE, Int.reduceEq, Int.reduceNe, Int.reduceAdd, Int.reduceSub, Int.reduceMul, Int.reduceNeg, Int.reduceToNat, reduceCtorEq, e1, e3, h1, edt_len, edt0, edt1, edt2, fil_len, fil0, fil1', fil_take, fil_strip, edt_strip, fils_len, AV.cells]
        exact ⟨ib, goOn _ out done [] (by simp [putStep, here, h1])⟩
      · have hh : here e x = false := by simp [here, h1]
        cases done with
        | true =>
          simp (maxSteps := 2000000) -implicitDefEqProofs only [RS, RX, Nat.reduceLT, ↓RP0, ↓RP1, ↓RP2, ↓RP3, RV, RW, ↓reduceIte, Nat.reduceAdd, Nat.reduceSub, Nat.reduceMul, Nat.reduceLeDiff, Nat.reduceEqDiff, Int.reduceLT, Int.reduceLE, Int.reduceEq, Int.reduceNe, Int.reduceAdd, Int.reduceSub, Int.reduceMul, Int.reduceNeg, Int.reduceToNat, reduceCtorEq, e1, e3, h1, edt_len, edt0, edt1, edt2, fil_len, fil0, fil1', fil_take, fil_strip, edt_strip, fils_len, AV.cells]
          refine ⟨(fun y hy => by rw [List.mem_singleton.1 hy]; exact ⟨rfl, rfl⟩), .inl trivial, .inl trivial, by omega, by omega, ib, ?_⟩
          rw [m1, m2]; exact goOn _ (out ++ [x]) true _ (by simp [putStep, hh])
        | false =>
          cases h2 : Op.bytesLess e.path x.path with
          | true =>
            have ha : after e x = true := h2
            simp (maxSteps := 2000000) -implicitDefEqProofs only [RS, RX, Nat.reduceLT, ↓RP0, ↓RP1, ↓RP2, ↓RP3, RV, RW, ↓reduceIte, Nat.reduceAdd, Nat.reduceSub, Nat.reduceMul, Nat.reduceLeDiff, Nat.reduceEqDiff, Int.reduceLT, Int.reduceLE, Int.reduceEq, Int.reduceNe, Int.reduceAdd, Int.reduceSub, Int.reduceMul, Int.reduceNeg, Int.reduceToNat, reduceCtorEq, ↓binB_sgtr, binB_sgtr, e1, e3, h1, h2, edt_len, edt0, edt1, edt2, fil_len, fil0, fil1', fil_take, fil_strip, edt_strip, fils_len, AV.cells]
            refine ⟨(fun y hy => by rw [List.mem_singleton.1 hy]; exact ⟨rfl, rfl⟩), .inl trivial, .inl trivial, by omega, by omega, (fun y hy => by rw [List.mem_singleton.1 hy]; exact ⟨rfl, rfl⟩), by simp, .inl trivial, .inl trivial, by simp; omega, by simp; omega, ib, ?_⟩
            rw [m3, m4, m5]; exact goOn _ (out ++ [newF e] ++ [x]) true _ (by simp [putStep, hh, ha])
          | false =>
            have ha : after e x = false := h2
            simp (maxSteps := 2000000) -implicitDefEqProofs only [RS, RX, Nat.reduceLT, ↓RP0, ↓RP1, ↓RP2, ↓RP3, RV, RW, ↓reduceIte, Nat.reduceAdd, Nat.reduceSub, Nat.reduceMul, Nat.reduceLeDiff, Nat.reduceEqDiff, Int.reduceLT, Int.reduceLE, Int.reduceEq, Int.reduceNe, Int.reduceAdd, Int.reduceSub, Int.reduceMul, Int.reduceNeg, Int.reduceToNat, reduceCtorEq, ↓binB_sgtr, binB_sgtr, e1, e3, h1, h2, edt_len, edt0, edt1, edt2, fil_len, fil0, fil1', fil_take, fil_strip, edt_strip, fils_len, AV.cells]
            refine ⟨(fun y hy => by rw [List.mem_singleton.1 hy]; exact ⟨rfl, rfl⟩), .inl trivial, .inl trivial, by omega, by omega, ib, ?_⟩
            rw [m1, m2]; exact goOn _ (out ++ [x]) false _ (by simp [putStep, hh, ha])
    · obtain rfl : i = t.length := by omega
      generalize applyAll e (t.take t.length) = s at *
      obtain ⟨out, done⟩ := s
      have ob : out.length ≤ 2 * t.length := ol2
      cases done with
      | true =>
        simp (maxSteps := 2000000) -implicitDefEqProofs only [RS, RX, Nat.reduceLT, ↓RP0, ↓RP1, ↓RP2, ↓RP3, RV, RW, ↓reduceIte, Nat.reduceAdd, Nat.reduceSub, Nat.reduceMul, Nat.reduceLeDiff, Nat.reduceEqDiff, Int.reduceLT, Int.reduceLE, Int.reduceEq, Int.reduceNe, Int.reduceAdd, Int.reduceSub, Int.reduceMul, Int.reduceNeg, Int.reduceToNat, reduceCtorEq, fils_len, Int.lt_irrefl, edt_len, edt0, edt1, edt2, edt_strip, AV.cells]
        simp [putFin]
      | false =>
        simp (maxSteps := 2000000) -implicitDefEqProofs only [RS, RX, Nat.reduceLT, ↓RP0, ↓RP1, ↓RP2, ↓RP3, RV, RW, ↓reduceIte, Nat.reduceAdd, Nat.reduceSub, Nat.reduceMul, Nat.reduceLeDiff, Nat.reduceEqDiff, Int.reduceLT, Int.reduceLE, Int.reduceEq, Int.reduceNe, Int.reduceAdd, Int.reduceSub, Int.reduceMul, Int.reduceNeg, Int.reduceToNat, reduceCtorEq, fils_len, Int.lt_irrefl, edt_len, edt0, edt1, edt2, edt_strip, AV.cells]
        refine ⟨(fun y hy => by rw [List.mem_singleton.1 hy]; exact ⟨rfl, rfl⟩), .inl trivial, .inl trivial, by omega, by omega, ?_⟩
        simp [putFin, newF, filC]
def sumD (t : List Fil) : Nat := t.foldl (fun n f => n + f.data.length) 0
theorem sumD_snoc (t : List Fil) (f : Fil) : sumD (t ++ [f]) = sumD t + f.data.length := by unfold sumD; rw [List.foldl_append]; rfl
theorem sumD_le : ∀ (t : List Fil) (n : Nat), filE.all t → t.foldl (fun n f => n + f.data.length) n ≤ n + t.length * 1099511627
  | [], n, _ => by simp
  | f :: t, n, h => by
    have h1 := (h f List.mem_cons_self).data
    have := sumD_le t (n + f.data.length) fun x hx => h x (List.mem_cons_of_mem _ hx)
    simp only [List.foldl_cons, List.length_cons, Nat.succ_mul]; omega
def smallF (t : List Fil) : Bool := decide (t.length ≤ 30) && decide (sumD t ≤ 3000)
def c8 : ACode := (.seq (.reg false 0 [⟨(.some 2), none, (.q .mv), [(.c (.imm (.bool false)))]⟩]) (.seq (.reg false 0 [⟨(.some 3), none, (.q .mv), [(.c (.imm (.int .i64 0)))]⟩]) (.seq (.seq (.reg false 0 [⟨(.some 4), none, (.q .mv), [(.c (.imm (.int .i64 0)))]⟩]) (.block 0 (.loop (.seq (.seq (.reg false 0 [⟨(.some 5), none, (.q .mv), [(.t 4)]⟩, ⟨(.some 6), none, (.q .mv), [(.t 0)]⟩, ⟨(.some 7), none, (.q .lenL), [(.t 6)]⟩, ⟨(.some 8), none, (.q (.bin .lss 3)), [(.t 5), (.t 7)]⟩, ⟨(.some 9), none, (.q .mv), [(.t 8)]⟩, ⟨(.some 10), (.some (9, true)), (.q .mv), [(.t 4)]⟩, ⟨(.some 11), (.some (9, true)), (.q (.bin .lss 3)), [(.t 10), (.c (.imm (.int .i64 31)))]⟩, ⟨(.some 12), none, (.q .pick), [(.t 9), (.t 11), (.c (.imm (.bool false)))]⟩]) (.cond (.t 12) .skip (.exit 0))) (.seq (.block 1 (.reg false 0 [⟨(.some 15), none, (.q .mv), [(.t 3)]⟩, ⟨(.some 16), none, (.q .mv), [(.t 0)]⟩, ⟨(.some 17), none, (.q .mv), [(.t 4)]⟩, ⟨(.some 18), none, (.q (.iaddrS 2)), [(.t 16), (.t 17)]⟩, ⟨(.some 19), none, (.q (.faddr 1)), [(.t 18)]⟩, ⟨(.some 20), none, (.l .load1), [(.t 19)]⟩, ⟨(.some 21), none, (.q .lenL), [(.t 20)]⟩, ⟨(.some 22), none, (.q (.bin .add 3)), [(.t 15), (.t 21)]⟩, ⟨(.some 3), none, (.q .mv), [(.t 22)]⟩])) (.reg false 0 [⟨(.some 13), none, (.q .mv), [(.t 4)]⟩, ⟨(.some 14), none, (.q (.bin .add 3)), [(.t 13), (.c (.imm (.int .i64 1)))]⟩, ⟨(.some 4), none, (.q .mv), [(.t 14)]⟩])))))) (.seq (.reg false 0 [⟨(.some 23), none, (.q .mv), [(.t 0)]⟩, ⟨(.some 24), none, (.q .lenL), [(.t 23)]⟩, ⟨(.some 25), none, (.q (.bin .leq 3)), [(.t 24), (.c (.imm (.int .i64 30)))]⟩, ⟨(.some 26), none, (.q .mv), [(.t 25)]⟩, ⟨(.some 27), (.some (26, true)), (.q .mv), [(.t 3)]⟩, ⟨(.some 28), (.some (26, true)), (.q (.bin .leq 3)), [(.t 27), (.c (.imm (.int .i64 3000)))]⟩, ⟨(.some 29), none, (.q .pick), [(.t 26), (.t 28), (.c (.imm (.bool false)))]⟩, ⟨(.some 2), none, (.q .mv), [(.t 29)]⟩]) .ret))))
theorem fn8 : IsFn Tryz.prog 8 [] c8 [2] 30 := ⟨_, _, Tryz.func8, rfl, by decide +kernel, by kernel_rfl, rfl, rfl⟩
set_option maxHeartbeats 4000000 in
theorem p8c (t : List Fil) (ho : filE.all t) (hs : t.length ≤ 1099511627) : Pure Tryz.prog G 8 [filsV t] (bool (smallF t)) := by
  refine pure_of_code' (S := sp [] []) hm hG (sp_holds .nil .nil) fn8 (St 5 30 [filsV t, .junk, .junk, .junk, .junk] []) (by kernel_rfl) ⟨⟨lows_fils 0 t, fun k hk => by cases hk⟩, trivial⟩ (by simp [AV.low]) ?_
  simp (maxSteps := 2000000) -implicitDefEqProofs only [c8, RS, RX, Nat.reduceLT, ↓RP0, ↓RP1, ↓RP2, ↓RP3, RV, RW, ↓reduceIte, Nat.reduceAdd, Nat.reduceSub, Nat.reduceMul, Nat.reduceLeDiff, Nat.reduceEqDiff, Int.reduceLT, Int.reduceLE, Int.reduceEq, Int.reduceNe, Int.reduceAdd, Int.reduceSub, Int.reduceMul, Int.reduceNeg, Int.reduceToNat, reduceCtorEq, fils_len]
  refine loopB (st := fun (i : Nat) => (St 5 30 [filsV t, .junk, bool false, i64 (sumD (t.take i) : Nat), i64 i] [])) (hp := fun _ => []) (I := fun i => i ≤ t.length ∧ i ≤ 31) (m := fun i => t.length - i) (0 : Nat) ⟨Nat.zero_le _, by decide⟩ ?_ ?_
  · refine weak_nilS ?_; simp [WeakL, AV.low, lows, lows_fils, sumD]
  · rintro i ⟨hi, hi2⟩
    have sl := sumD_le (t.take i) 0 fun x hx => ho x (List.mem_of_mem_take hx)
    change sumD (t.take i) ≤ _ at sl
    rw [List.length_take, Nat.min_eq_left hi] at sl
    have fin : ∀ b : Bool, ¬ t.length ≤ 30 → smallF t = false := fun b h => by simp [smallF, h]
    by_cases hlt : i < t.length
    · have e3 : ((i : Int) < (t.length : Int)) = True := eq_true (by omega)
      by_cases h31 : i < 31
      · have e4 : ((i : Int) < 31) = True := eq_true (by omega)
        have e1 := filE.vs_get hlt
        have t1 : t.take (i + 1) = t.take i ++ [t.getD i filE.d0] := take_get hlt
        have o1 : FilOk (t.getD i filE.d0) := filE.all_getD ho hlt
        have od := o1.data
        have ts := congrArg sumD t1
        rw [sumD_snoc] at ts
        generalize t.getD i filE.d0 = x at *
        change _ = AV.agg (filC x) at e1
        generalize sumD (t.take i) = n at *
        simp (maxSteps := 2000000) -implicitDefEqProofs only [RS, RX, Nat.reduceLT, ↓RP0, ↓RP1, ↓RP2, ↓RP3, RV, RW, ↓reduceIte, Nat.reduceAdd, Nat.reduceSub, Nat.reduceMul, Nat.reduceLeDiff, Nat.reduceEqDiff, Int.reduceLT, Int.reduceLE, Int.reduceEq, Int.reduceNe, Int.reduceAdd, Int.reduceSub, Int.reduceMul, Int.reduceNeg, Int.reduceToNat, reduceCtorEq, e1, e3, e4, fil_len, fil0, fil1', fil_take, fil_strip, bytes_len, fils_len, AV.cells]
        refine ⟨⟨by omega, by omega⟩, ⟨by omega, by omega⟩, i + 1, by dsimp only; omega, ⟨by omega, by omega⟩, ?_⟩
        dsimp only
        rw [ts]
        refine weak_nilS ?_; simp [WeakL, AV.low, lows, lows_fils]
      · have e4 : ((i : Int) < 31) = False := eq_false (by omega)
        have e5 : ((t.length : Int) ≤ 30) = False := eq_false (by omega)
        simp (maxSteps := 2000000) -implicitDefEqProofs only [RS, RX, Nat.reduceLT, ↓RP0, ↓RP1, ↓RP2, ↓RP3, RV, RW, ↓reduceIte, Nat.reduceAdd, Nat.reduceSub, Nat.reduceMul, Nat.reduceLeDiff, Nat.reduceEqDiff, Int.reduceLT, Int.reduceLE, Int.reduceEq, Int.reduceNe, Int.reduceAdd, Int.reduceSub, Int.reduceMul, Int.reduceNeg, Int.reduceToNat, reduceCtorEq, e3, e4, e5, fils_len]
        rw [fin true (by omega)]
    · obtain rfl : i = t.length := by omega
      rw [List.take_length] at *
      by_cases h30 : t.length ≤ 30
      · have e5 : ((t.length : Int) ≤ 30) = True := eq_true (by omega)
        simp (maxSteps := 2000000) -implicitDefEqProofs only [RS, RX, Nat.reduceLT, ↓RP0, ↓RP1, ↓RP2, ↓RP3, RV, RW, ↓reduceIte, Nat.reduceAdd, Nat.reduceSub, Nat.reduceMul, Nat.reduceLeDiff, Nat.reduceEqDiff, Int.reduceLT, Int.reduceLE, Int.reduceEq, Int.reduceNe, Int.reduceAdd, Int.reduceSub, Int.reduceMul, Int.reduceNeg, Int.reduceToNat, reduceCtorEq, fils_len, Int.lt_irrefl, e5]
        refine ⟨fun h => ?_, fun h => ?_⟩
        · rw [show smallF t = true by simp [smallF, h30]; omega]
        · rw [show smallF t = false by simp [smallF, h30]; omega]
      · have e5 : ((t.length : Int) ≤ 30) = False := eq_false (by omega)
        simp (maxSteps := 2000000) -implicitDefEqProofs only [RS, RX, Nat.reduceLT, ↓RP0, ↓RP1, ↓RP2, ↓RP3, RV, RW, ↓reduceIte, Nat.reduceAdd, Nat.reduceSub, Nat.reduceMul, Nat.reduceLeDiff, Nat.reduceEqDiff, Int.reduceLT, Int.reduceLE, Int.reduceEq, Int.reduceNe, Int.reduceAdd, Int.reduceSub, Int.reduceMul, Int.reduceNeg, Int.reduceToNat, reduceCtorEq, fils_len, Int.lt_irrefl, e5]
        rw [fin true (by omega)]
end Go.AL.Path

/- Whether files are a tree: the program's answer, and the document's. -/
set_option linter.unusedSimpArgs false
set_option linter.unusedVariables false
set_option maxRecDepth 100000
namespace Go.AL.Path
open Go Go.RowKit Go.Proofs Go.AL
/-- File i is too great, or not behind the one ahead of it. -/
def badAt (t : List Fil) (i : Nat) : Bool := decide (65536 < (t.getD i filE.d0).data.length) || (decide (0 < i) && !Op.bytesLess (t.getD (i - 1) filE.d0).path (t.getD i filE.d0).path)
def cntP (t : List Fil) (k : List UInt8) : Int := ((t.filter fun f => decide (f.path = k)).length : Nat)
theorem cntP_snoc (t : List Fil) (f : Fil) (k : List UInt8) : cntP (t ++ [f]) k = if f.path = k then cntP t f.path + 1 else cntP t k := by
  unfold cntP
  rw [List.filter_append, List.length_append]
  by_cases h : f.path = k
  · rw [if_pos h, h]; simp [h]
  · rw [if_neg h]; simp [h]
def upP (t : List Fil) (f : Fil) : Bool := (parents f.path).any fun p => decide (0 < cntP t p) && under f.path p
def mayP2 (t : List Fil) : Bool := decide (t.length ≤ 200) && (List.range t.length).all (fun i => !badAt t i) && t.all fun f => !upP t f
def txt1l (f : List UInt8 → List (List UInt8)) : PSp := fun args K => match args with
  | [.imm (.string s)] => s.data.toList.length ≤ 1099511627776 ∧ K (sts (f s.data.toList)) | _ => False
theorem ask_txt1l {f} {s : List UInt8} {K} : ask (txt1l f) [T s] K = (s.length ≤ 1099511627776 ∧ K (sts (f s))) := by
  show (_ ∧ K (sts (f (B s).data.toList))) = _
  rw [B_data]
theorem told_txt1l {F f} (h : ∀ s, s.length ≤ 1099511627776 → Pure Tryz.prog G F [T s] (sts (f s))) : Told Tryz.prog G F (txt1l f) := by
  intro args K hk
  unfold txt1l at hk
  split at hk
  · rename_i s
    have := h s.data.toList hk.1
    have e : T s.data.toList = .imm (.string s) := by simp [T, B]
    rw [e] at this
    exact ⟨_, this, hk.2⟩
  · exact hk.elim
def txt2w (f : List UInt8 → List UInt8 → Bool) : PSp := fun args K => match args with
  | [.imm (.string s), .imm (.string d)] => s.data.toList.length ≤ 1099511627776 ∧ d.data.toList.length ≤ 1099511627776 ∧ splitB (f s.data.toList d.data.toList) K | _ => False
theorem ask_txt2w {f} {s d : List UInt8} {K} : ask (txt2w f) [T s, T d] K = (s.length ≤ 1099511627776 ∧ d.length ≤ 1099511627776 ∧ splitB (f s d) K) := by
  show (_ ∧ _ ∧ splitB (f (B s).data.toList (B d).data.toList) K) = _
  rw [B_data, B_data]
theorem told_txt2w {F f} (h : ∀ s d, s.length ≤ 1099511627776 → d.length ≤ 1099511627776 → Pure Tryz.prog G F [T s, T d] (bool (f s d))) : Told Tryz.prog G F (txt2w f) := by
  intro args K hk
  unfold txt2w at hk
  split at hk
  · rename_i s d
    have := h s.data.toList d.data.toList hk.1 hk.2.1
    have e : ∀ s : ByteArray, T s.data.toList = .imm (.string s) := fun s => by simp [T, B]
    rw [e, e] at this
    exact ⟨_, this, splitB_of hk.2.2⟩
  · exact hk.elim
def c20 : ACode := (.seq (.reg false 0 [⟨(.some 2), none, (.q .mv), [(.c (.imm (.bool false)))]⟩]) (.seq (.seq (.reg false 0 [⟨(.some 3), none, (.q .mv), [(.c (.imm (.int .i64 0)))]⟩]) (.block 0 (.loop (.seq (.seq (.reg false 0 [⟨(.some 5), none, (.q .mv), [(.t 3)]⟩, ⟨(.some 6), none, (.q .mv), [(.t 0)]⟩, ⟨(.some 7), none, (.q .lenL), [(.t 6)]⟩, ⟨(.some 8), none, (.q (.bin .lss 3)), [(.t 5), (.t 7)]⟩]) (.cond (.t 8) .skip (.exit 0))) (.seq (.block 1 (.seq (.seq (.reg true 0 [⟨(.some 11), none, (.q .mv), [(.t 0)]⟩, ⟨(.some 12), none, (.q .mv), [(.t 3)]⟩, ⟨(.some 13), none, (.q (.iaddrS 2)), [(.t 11), (.t 12)]⟩, ⟨(.some 14), none, (.q (.faddr 1)), [(.t 13)]⟩, ⟨(.some 15), none, (.l .load1), [(.t 14)]⟩, ⟨(.some 16), none, (.q .lenL), [(.t 15)]⟩, ⟨(.some 17), none, (.q (.bin .gtr 3)), [(.t 16), (.c (.imm (.int .i64 65536)))]⟩, ⟨(.some 18), none, (.q .mv), [(.t 17)]⟩, ⟨(.some 19), (.some (18, false)), (.q .mv), [(.t 3)]⟩, ⟨(.some 20), (.some (18, false)), (.q (.bin .gtr 3)), [(.t 19), (.c (.imm (.int .i64 0)))]⟩, ⟨(.some 21), (.some (18, false)), (.q .mv), [(.t 20)]⟩, ⟨(.some 22), (.some (21, true)), (.q .mv), [(.t 0)]⟩, ⟨(.some 23), (.some (21, true)), (.q .mv), [(.t 3)]⟩, ⟨(.some 24), (.some (21, true)), (.q (.bin .sub 3)), [(.t 23), (.c (.imm (.int .i64 1)))]⟩, ⟨(.some 25), (.some (21, true)), (.q (.iaddrS 2)), [(.t 22), (.t 24)]⟩, ⟨(.some 26), (.some (21, true)), (.q (.faddr 0)), [(.t 25)]⟩, ⟨(.some 27), (.some (21, true)), (.l .load1), [(.t 26)]⟩, ⟨(.some 28), (.some (21, true)), (.q .mv), [(.t 0)]⟩, ⟨(.some 29), (.some (21, true)), (.q .mv), [(.t 3)]⟩, ⟨(.some 30), (.some (21, true)), (.q (.iaddrS 2)), [(.t 28), (.t 29)]⟩, ⟨(.some 31), (.some (21, true)), (.q (.faddr 0)), [(.t 30)]⟩, ⟨(.some 32), (.some (21, true)), (.l .load1), [(.t 31)]⟩, ⟨(.some 33), (.some (21, true)), (.q (.bin .geq 9)), [(.t 27), (.t 32)]⟩, ⟨(.some 34), (.some (18, false)), (.q .pick), [(.t 21), (.t 33), (.c (.imm (.bool false)))]⟩, ⟨(.some 35), none, (.q .pick), [(.t 18), (.c (.imm (.bool true))), (.t 34)]⟩]) (.cond (.t 35) (.seq (.reg false 0 [⟨(.some 2), none, (.q .mv), [(.c (.imm (.bool false)))]⟩]) .ret) .skip)) (.seq (.reg false 0 [⟨(.some 4), none, (.q .mv), [(.c (.imm (.int .i64 0)))]⟩]) (.block 2 (.loop (.seq (.seq (.reg false 0 [⟨(.some 36), none, (.q .mv), [(.t 4)]⟩, ⟨(.some 37), none, (.q .mv), [(.t 0)]⟩, ⟨(.some 38), none, (.q .lenL), [(.t 37)]⟩, ⟨(.some 39), none, (.q (.bin .lss 3)), [(.t 36), (.t 38)]⟩]) (.cond (.t 39) .skip (.exit 2))) (.seq (.block 3 (.seq (.reg true 0 [⟨(.some 42), none, (.q .mv), [(.t 0)]⟩, ⟨(.some 43), none, (.q .mv), [(.t 3)]⟩, ⟨(.some 44), none, (.q (.iaddrS 2)), [(.t 42), (.t 43)]⟩, ⟨(.some 45), none, (.q (.faddr 0)), [(.t 44)]⟩, ⟨(.some 46), none, (.l .load1), [(.t 45)]⟩, ⟨(.some 47), none, (.q .mv), [(.t 0)]⟩, ⟨(.some 48), none, (.q .mv), [(.t 4)]⟩, ⟨(.some 49), none, (.q (.iaddrS 2)), [(.t 47), (.t 48)]⟩, ⟨(.some 50), none, (.q (.faddr 0)), [(.t 49)]⟩, ⟨(.some 51), none, (.l .load1), [(.t 50)]⟩, ⟨(.some 52), none, (.call true), [(.c (.fn (.func 38) [] [])), (.t 46), (.t 51)]⟩]) (.cond (.t 52) (.seq (.reg false 0 [⟨(.some 2), none, (.q .mv), [(.c (.imm (.bool false)))]⟩]) .ret) .skip))) (.reg false 0 [⟨(.some 40), none, (.q .mv), [(.t 4)]⟩, ⟨(.some 41), none, (.q (.bin .add 3)), [(.t 40), (.c (.imm (.int .i64 1)))]⟩, ⟨(.some 4), none, (.q .mv), [(.t 41)]⟩])))))))) (.reg false 0 [⟨(.some 9), none, (.q .mv), [(.t 3)]⟩, ⟨(.some 10), none, (.q (.bin .add 3)), [(.t 9), (.c (.imm (.int .i64 1)))]⟩, ⟨(.some 3), none, (.q .mv), [(.t 10)]⟩])))))) (.seq (.reg false 0 [⟨(.some 53), none, (.q .mv), [(.t 0)]⟩, ⟨(.some 54), none, (.q .lenL), [(.t 53)]⟩, ⟨(.some 55), none, (.q (.bin .leq 3)), [(.t 54), (.c (.imm (.int .i64 200)))]⟩, ⟨(.some 2), none, (.q .mv), [(.t 55)]⟩]) .ret)))
theorem fn20 : IsFn Tryz.prog 20 [] c20 [2] 56 := ⟨_, _, Tryz.func20, rfl, by decide +kernel, by kernel_rfl, rfl, rfl⟩
set_option maxHeartbeats 4000000 in
theorem p20c (t : List Fil) (ho : filE.all t) (hs : t.length ≤ 1099511627) : Pure Tryz.prog G 20 [filsV t] (bool (decide (t.length ≤ 200) && (List.range t.length).all fun i => !badAt t i && t.all fun g => !under (t.getD i filE.d0).path g.path)) := by
  refine pure_of_code' (S := sp [(38, txt2w under)] []) hm hG (sp_holds (.cons (told_txt2w fun s d h1 h2 => p38 s d h2 h1) .nil) .nil) fn20 (St 5 56 [filsV t, .junk, .junk, .junk, .junk] []) (by kernel_rfl) ⟨⟨lows_fils 0 t, fun k hk => by cases hk⟩, trivial⟩ (by simp [AV.low]) ?_
  simp (maxSteps := 2000000) -implicitDefEqProofs only [c20, RS, RX, Nat.reduceLT, ↓RP0, ↓RP1, ↓RP2, ↓RP3, RV, RW, ↓reduceIte, Nat.reduceAdd, Nat.reduceSub, Nat.reduceMul, Nat.reduceLeDiff, Nat.reduceEqDiff, Int.reduceLT, Int.reduceLE, Int.reduceEq, Int.reduceNe, Int.reduceAdd, Int.reduceSub, Int.reduceMul, Int.reduceNeg, Int.reduceToNat, reduceCtorEq, fils_len]
  have hbad : ∀ (i : Nat), i < t.length → (!badAt t i && t.all fun g => !under (t.getD i filE.d0).path g.path) = false → (decide (t.length ≤ 200) && (List.range t.length).all fun i => !badAt t i && t.all fun g => !under (t.getD i filE.d0).path g.path) = false := fun i hi h => by
    rw [Bool.and_eq_false_iff]; right
    rw [List.all_eq_false]
    exact ⟨i, List.mem_range.2 hi, by rw [h]; decide⟩
  refine loopB (st := fun (i : Nat) => (St 5 56 [filsV t, .junk, bool false, i64 i, .junk] [])) (hp := fun _ => []) (I := fun i => i ≤ t.length ∧ ∀ j, j < i → (!badAt t j && t.all fun g => !under (t.getD j filE.d0).path g.path) = true) (m := fun i => t.length - i) (0 : Nat) ⟨Nat.zero_le _, fun j hj => by omega⟩ ?_ ?_
  · refine weak_nilS ?_; simp [WeakL, AV.low, lows, lows_fils]
  · rintro i ⟨hi, hok⟩
    by_cases hlt : i < t.length
    · have e1 := filE.vs_get hlt
      have e3 : ((i : Int) < (t.length : Int)) = True := eq_true (by omega)
      have o1 : FilOk (t.getD i filE.d0) := filE.all_getD ho hlt
      have hb := hbad i hlt
      have hbA : badAt t i = (decide (65536 < (t.getD i filE.d0).data.length) || (decide (0 < i) && !Op.bytesLess (t.getD (i - 1) filE.d0).path (t.getD i filE.d0).path)) := rfl
      have e0 : 0 < i → (t.map filE.v).getD (i - 1) .junk = .agg (filC (t.getD (i - 1) filE.d0)) := fun h => filE.vs_get (by omega)
      have i1 : ((i : Int) - 1).toNat = i - 1 := by omega
      obtain ⟨x, hx⟩ : ∃ x, t.getD i filE.d0 = x := ⟨_, rfl⟩
      obtain ⟨y, hy⟩ : ∃ y, t.getD (i - 1) filE.d0 = y := ⟨_, rfl⟩
      simp only [hx] at e1 o1 hb hbA
      simp only [hy] at e0 hbA
      change _ = AV.agg (filC x) at e1
      change _ → _ = AV.agg (filC y) at e0
      by_cases hbd : badAt t i = true
      · have hb' := hb (by rw [hbd]; rfl)
        rw [hb']
        by_cases c1 : 65536 < x.data.length
        · have c1' : ((65536 : Int) < (x.data.length : Int)) = True := eq_true (by omega)
          simp (maxSteps := 2000000) -implicitDefEqProofs only [RS, RX, Nat.reduceLT, ↓RP0, ↓RP1, ↓RP2, ↓RP3, RV, RW, ↓reduceIte, Nat.reduceAdd, Nat.reduceSub, Nat.reduceMul, Nat.reduceLeDiff, Nat.reduceEqDiff, Int.reduceLT, Int.reduceLE, Int.reduceEq, Int.reduceNe, Int.reduceAdd, Int.reduceSub, Int.reduceMul, Int.reduceNeg, Int.reduceToNat, reduceCtorEq, e1, e3, c1', fil_len, fil0, fil1', fil_take, fil_strip, bytes_len, fils_len, AV.cells]
        · have c1' : ((65536 : Int) < (x.data.length : Int)) = False := eq_false (by omega)
          rw [hbA] at hbd
          simp only [c1, decide_false, Bool.false_or, Bool.and_eq_true, decide_eq_true_eq, Bool.not_eq_true'] at hbd
          obtain ⟨c2, c3⟩ := hbd
          have e0' := e0 c2
          have c2' : ((0 : Int) < (i : Int)) = True := eq_true (by omega)
          have c4 : ((i : Int) - 1 < (t.length : Int)) = True := eq_true (by omega)
          have c5 : ((0 : Int) ≤ (i : Int) - 1) = True := eq_true (by omega)
          simp (maxSteps := 2000000) -implicitDefEqProofs only [RS, RX, Nat.reduceLT, ↓RP0, ↓RP1, ↓RP2, ↓RP3, RV, RW, ↓reduceIte, Nat.reduceAdd, Nat.reduceSub, Nat.reduceMul, Nat.reduceLeDiff, Nat.reduceEqDiff, Int.reduceLT, Int.reduceLE, Int.reduceEq, Int.reduceNe, Int.reduceAdd, Int.reduceSub, Int.reduceMul, Int.reduceNeg, Int.reduceToNat, reduceCtorEq, ↓binB_sgeq, binB_sgeq, e0', e1, e3, c1', c2', c3, c4, c5, i1, fil_len, fil0, fil1', fil_take, fil_strip, bytes_len, fils_len, AV.cells]
          exact ⟨by omega, by omega⟩
      · have hbd' : badAt t i = false := by simpa using hbd
        rw [hbA] at hbd'
        rw [Bool.or_eq_false_iff] at hbd'
        have c1 : ¬ 65536 < x.data.length := by simpa using hbd'.1
        have c1' : ((65536 : Int) < (x.data.length : Int)) = False := eq_false (by omega)
        have hbt : badAt t i = false := by simpa using hbd
        have ib : In64 ((i : Int) + 1) := ⟨by omega, by omega⟩
        have xp := o1.path
        have hc : ((0 : Int) < (i : Int)) = False ∨ (((0 : Int) < (i : Int)) = True ∧ Op.bytesLess y.path x.path = true) := by
          by_cases c2 : 0 < i
          · refine .inr ⟨eq_true (by omega), ?_⟩
            have := hbd'.2
            simpa [c2] using this
          · exact .inl (eq_false (by omega))
        rcases hc with c2' | ⟨c2', c3⟩
        simp (maxSteps := 2000000) -implicitDefEqProofs only [RS, RX, Nat.reduceLT, ↓RP0, ↓RP1, ↓RP2, ↓RP3, RV, RW, ↓reduceIte, Nat.reduceAdd, Nat.reduceSub, Nat.reduceMul, Nat.reduceLeDiff, Nat.reduceEqDiff, Int.reduceLT, Int.reduceLE, Int.reduceEq, Int.reduceNe, Int.reduceAdd, Int.reduceSub, Int.reduceMul, Int.reduceNeg, Int.reduceToNat, reduceCtorEq, e1, e3, c1', c2', fil_len, fil0, fil1', fil_take, fil_strip, bytes_len, fils_len, AV.cells]
        rotate_left
        have e0' := e0 (by have := of_eq_true c2'; omega)
        have c4 : ((i : Int) - 1 < (t.length : Int)) = True := eq_true (by omega)
        have c5 : ((0 : Int) ≤ (i : Int) - 1) = True := eq_true (by have := of_eq_true c2'; omega)
        simp (maxSteps := 2000000) -implicitDefEqProofs only [RS, RX, Nat.reduceLT, ↓RP0, ↓RP1, ↓RP2, ↓RP3, RV, RW, ↓reduceIte, Nat.reduceAdd, Nat.reduceSub, Nat.reduceMul, Nat.reduceLeDiff, Nat.reduceEqDiff, Int.reduceLT, Int.reduceLE, Int.reduceEq, Int.reduceNe, Int.reduceAdd, Int.reduceSub, Int.reduceMul, Int.reduceNeg, Int.reduceToNat, reduceCtorEq, ↓binB_sgeq, binB_sgeq, e0', e1, e3, c1', c2', c3, c4, c5, i1, fil_len, fil0, fil1', fil_take, fil_strip, bytes_len, fils_len, AV.cells]
        refine ⟨⟨by omega, by omega⟩, ?_⟩
        all_goals
          refine loopB (st := fun (k : Nat) => (St 5 56 [filsV t, .junk, bool false, i64 i, i64 k] [])) (hp := fun _ => []) (I := fun k => k ≤ t.length ∧ ((t.take k).all fun g => !under x.path g.path) = true) (m := fun k => t.length - k) (0 : Nat) ⟨Nat.zero_le _, rfl⟩ ?_ ?_
          · refine weak_nilS ?_; simp [WeakL, AV.low, lows, lows_fils]
          · rintro k ⟨hk, hku⟩
            by_cases hkl : k < t.length
            · have f1 := filE.vs_get hkl
              have f3 : ((k : Int) < (t.length : Int)) = True := eq_true (by omega)
              have ok : FilOk (t.getD k filE.d0) := filE.all_getD ho hkl
              have hm := getD_mem2 (d := filE.d0) hkl
              have tk : t.take (k + 1) = t.take k ++ [t.getD k filE.d0] := take_get hkl
              generalize t.getD k filE.d0 = z at *
              change _ = AV.agg (filC z) at f1
              have zp := ok.path
              have kb : In64 ((k : Int) + 1) := ⟨by omega, by omega⟩
              simp (maxSteps := 2000000) -implicitDefEqProofs only [RS, RX, Nat.reduceLT, ↓RP0, ↓RP1, ↓RP2, ↓RP3, RV, RW, ↓reduceIte, Nat.reduceAdd, Nat.reduceSub, Nat.reduceMul, Nat.reduceLeDiff, Nat.reduceEqDiff, Int.reduceLT, Int.reduceLE, Int.reduceEq, Int.reduceNe, Int.reduceAdd, Int.reduceSub, Int.reduceMul, Int.reduceNeg, Int.reduceToNat, reduceCtorEq, ↓ask_txt2w, ask_txt2w, e1, e3, f1, f3, fil_len, fil0, fil1', fil_take, fil_strip, bytes_len, fils_len, AV.cells]
              refine ⟨by omega, by omega, fun h => ?_, fun h => ⟨kb, k + 1, by dsimp only; omega, ⟨by omega, ?_⟩, ?_⟩⟩
              · rw [hb]
                rw [Bool.and_eq_false_iff]; right
                rw [List.all_eq_false]
                exact ⟨z, hm, by rw [h]; decide⟩
              · rw [tk, List.all_append, hku]; simp [h]
              · refine weak_nilS ?_; simp [WeakL, AV.low, lows, lows_fils]
            · obtain rfl : k = t.length := by omega
              rw [List.take_length] at hku
              simp (maxSteps := 2000000) -implicitDefEqProofs only [RS, RX, Nat.reduceLT, ↓RP0, ↓RP1, ↓RP2, ↓RP3, RV, RW, ↓reduceIte, Nat.reduceAdd, Nat.reduceSub, Nat.reduceMul, Nat.reduceLeDiff, Nat.reduceEqDiff, Int.reduceLT, Int.reduceLE, Int.reduceEq, Int.reduceNe, Int.reduceAdd, Int.reduceSub, Int.reduceMul, Int.reduceNeg, Int.reduceToNat, reduceCtorEq, fils_len, Int.lt_irrefl]
              refine ⟨ib, i + 1, by dsimp only; omega, ⟨by omega, fun j hj => ?_⟩, ?_⟩
              · rcases Nat.lt_or_ge j i with h | h
                · exact hok j h
                · obtain rfl : j = i := by omega
                  rw [hbt, hx, hku]; rfl
              · refine weak_nilS ?_; simp [WeakL, AV.low, lows, lows_fils]
    · obtain rfl : i = t.length := by omega
      have hall : ((List.range t.length).all fun i => !badAt t i && t.all fun g => !under (t.getD i filE.d0).path g.path) = true := by
        rw [List.all_eq_true]; exact fun j hj => hok j (List.mem_range.1 hj)
      rw [hall]
      simp (maxSteps := 2000000) -implicitDefEqProofs only [RS, RX, Nat.reduceLT, ↓RP0, ↓RP1, ↓RP2, ↓RP3, RV, RW, ↓reduceIte, Nat.reduceAdd, Nat.reduceSub, Nat.reduceMul, Nat.reduceLeDiff, Nat.reduceEqDiff, Int.reduceLT, Int.reduceLE, Int.reduceEq, Int.reduceNe, Int.reduceAdd, Int.reduceSub, Int.reduceMul, Int.reduceNeg, Int.reduceToNat, reduceCtorEq, fils_len, Int.lt_irrefl]
      refine ⟨fun h => ?_, fun h => ?_⟩
      · rw [decide_eq_true (by omega : t.length ≤ 200)]; rfl
      · rw [decide_eq_false (by omega : ¬ t.length ≤ 200)]; rfl
end Go.AL.Path

/- Whether files are a tree: the program's. -/
set_option linter.unusedSimpArgs false
set_option linter.unusedVariables false
set_option maxRecDepth 100000
namespace Go.AL.Path
open Go Go.RowKit Go.Proofs Go.AL
theorem parentsTo_mem (s : List UInt8) : ∀ (i : Nat) (p : List UInt8), p ∈ parentsTo s i → p.length ≤ s.length
  | 0, p, h => by cases h
  | i + 1, p, h => by
    unfold parentsTo at h
    split at h
    · rcases List.mem_append.1 h with h | h
      · exact parentsTo_mem s i p h
      · rw [List.mem_singleton.1 h, List.length_take]; omega
    · exact parentsTo_mem s i p h
theorem T_getD {l : List (List UInt8)} {k : Nat} (h : k < l.length) : (l.map T).getD k .junk = T (l.getD k []) := by
  rw [List.getD_eq_getElem?_getD, List.getElem?_map, List.getD_eq_getElem?_getD, List.getElem?_eq_getElem h]; rfl
theorem cntP_le (t : List Fil) (k : List UInt8) : 0 ≤ cntP t k ∧ cntP t k ≤ t.length := by
  unfold cntP
  have := List.length_filter_le (fun f : Fil => decide (f.path = k)) t
  omega
theorem kv_str {p : List UInt8} : keyVal .str (T p) = some (.string (B p)) := rfl
def c19 : ACode := (.seq (.reg false 0 [⟨(.some 2), none, (.q .mv), [(.c (.imm (.bool false)))]⟩]) (.seq (.seq (.reg false 0 [⟨(.some 10), none, (.q .mv), [(.t 0)]⟩, ⟨(.some 11), none, (.q .lenL), [(.t 10)]⟩, ⟨(.some 12), none, (.q (.bin .gtr 3)), [(.t 11), (.c (.imm (.int .i64 200)))]⟩]) (.cond (.t 12) (.seq (.reg false 0 [⟨(.some 2), none, (.q .mv), [(.c (.imm (.bool false)))]⟩]) .ret) .skip)) (.seq (.reg false 1 [⟨(.some 13), none, (.m (.mkmap .str (.int .i64 0)) 0), []⟩, ⟨(.some 3), none, (.q .mv), [(.t 13)]⟩]) (.seq (.seq (.reg false 0 [⟨(.some 14), none, (.q .mv), [(.t 0)]⟩, ⟨(.some 15), none, (.q .lenL), [(.t 14)]⟩, ⟨(.some 16), none, (.q .mv), [(.c (.imm (.int .i64 0)))]⟩]) (.block 0 (.loop (.seq (.reg false 0 [⟨(.some 17), none, (.q (.bin .lss 3)), [(.t 16), (.t 15)]⟩]) (.seq (.cond (.t 17) .skip (.exit 0)) (.seq (.block 1 (.seq (.reg false 1 [⟨(.some 18), none, (.q .mv), [(.t 16)]⟩, ⟨(.some 19), none, (.q (.iaddrS 2)), [(.t 14), (.t 16)]⟩, ⟨(.some 20), none, (.l (.loadA 2)), [(.t 19)]⟩, ⟨(.some 5), none, (.m (.alloc [(.imm (.string (B []))), (.sl 0 [] none)] false) 0), []⟩, ⟨(.some 4), none, (.q .mv), [(.t 18)]⟩, ⟨none, none, (.e (.store 2)), [(.t 5), (.t 20)]⟩]) (.seq (.seq (.reg true 0 [⟨(.some 21), none, (.q (.faddr 1)), [(.t 5)]⟩, ⟨(.some 22), none, (.l .load1), [(.t 21)]⟩, ⟨(.some 23), none, (.q .lenL), [(.t 22)]⟩, ⟨(.some 24), none, (.q (.bin .gtr 3)), [(.t 23), (.c (.imm (.int .i64 65536)))]⟩, ⟨(.some 25), none, (.q .mv), [(.t 24)]⟩, ⟨(.some 26), (.some (25, false)), (.q .mv), [(.t 4)]⟩, ⟨(.some 27), (.some (25, false)), (.q (.bin .gtr 3)), [(.t 26), (.c (.imm (.int .i64 0)))]⟩, ⟨(.some 28), (.some (25, false)), (.q .mv), [(.t 27)]⟩, ⟨(.some 29), (.some (28, true)), (.q .mv), [(.t 0)]⟩, ⟨(.some 30), (.some (28, true)), (.q .mv), [(.t 4)]⟩, ⟨(.some 31), (.some (28, true)), (.q (.bin .sub 3)), [(.t 30), (.c (.imm (.int .i64 1)))]⟩, ⟨(.some 32), (.some (28, true)), (.q (.iaddrS 2)), [(.t 29), (.t 31)]⟩, ⟨(.some 33), (.some (28, true)), (.q (.faddr 0)), [(.t 32)]⟩, ⟨(.some 34), (.some (28, true)), (.l .load1), [(.t 33)]⟩, ⟨(.some 35), (.some (28, true)), (.q (.faddr 0)), [(.t 5)]⟩, ⟨(.some 36), (.some (28, true)), (.l .load1), [(.t 35)]⟩, ⟨(.some 37), (.some (28, true)), (.q (.bin .geq 9)), [(.t 34), (.t 36)]⟩, ⟨(.some 38), (.some (25, false)), (.q .pick), [(.t 28), (.t 37), (.c (.imm (.bool false)))]⟩, ⟨(.some 39), none, (.q .pick), [(.t 25), (.c (.imm (.bool true))), (.t 38)]⟩]) (.cond (.t 39) (.seq (.reg false 0 [⟨(.some 2), none, (.q .mv), [(.c (.imm (.bool false)))]⟩]) .ret) .skip)) (.reg false 0 [⟨(.some 40), none, (.q .mv), [(.t 3)]⟩, ⟨(.some 41), none, (.q (.faddr 0)), [(.t 5)]⟩, ⟨(.some 42), none, (.l .load1), [(.t 41)]⟩, ⟨(.some 43), none, (.l (.mlook .str (.int .i64 0) false)), [(.t 40), (.t 42)]⟩, ⟨(.some 44), none, (.q (.bin .add 3)), [(.t 43), (.c (.imm (.int .i64 1)))]⟩, ⟨none, none, (.e (.mupd .str (.int .i64 0))), [(.t 40), (.t 42), (.t 44)]⟩])))) (.reg false 0 [⟨(.some 45), none, (.q (.bin .add 3)), [(.t 16), (.c (.imm (.int .i64 1)))]⟩, ⟨(.some 16), none, (.q .mv), [(.t 45)]⟩]))))))) (.seq (.seq (.reg false 0 [⟨(.some 46), none, (.q .mv), [(.t 0)]⟩, ⟨(.some 47), none, (.q .lenL), [(.t 46)]⟩, ⟨(.some 48), none, (.q .mv), [(.c (.imm (.int .i64 0)))]⟩]) (.block 2 (.loop (.seq (.reg false 0 [⟨(.some 49), none, (.q (.bin .lss 3)), [(.t 48), (.t 47)]⟩]) (.seq (.cond (.t 49) .skip (.exit 2)) (.seq (.block 3 (.seq (.reg false 1 [⟨(.some 50), none, (.q (.iaddrS 2)), [(.t 46), (.t 48)]⟩, ⟨(.some 51), none, (.l (.loadA 2)), [(.t 50)]⟩, ⟨(.some 7), none, (.m (.alloc [(.imm (.string (B []))), (.sl 0 [] none)] false) 0), []⟩, ⟨none, none, (.e (.store 2)), [(.t 7), (.t 51)]⟩]) (.seq (.reg false 0 [⟨(.some 52), none, (.q (.faddr 0)), [(.t 7)]⟩, ⟨(.some 53), none, (.l .load1), [(.t 52)]⟩, ⟨(.some 54), none, (.call true), [(.c (.fn (.func 36) [] [])), (.t 53)]⟩, ⟨(.some 55), none, (.q .lenL), [(.t 54)]⟩, ⟨(.some 56), none, (.q .mv), [(.c (.imm (.int .i64 0)))]⟩]) (.block 4 (.loop (.seq (.reg false 0 [⟨(.some 57), none, (.q (.bin .lss 3)), [(.t 56), (.t 55)]⟩]) (.seq (.cond (.t 57) .skip (.exit 4)) (.seq (.block 5 (.seq (.reg false 0 [⟨(.some 58), none, (.q (.iaddrS 1)), [(.t 54), (.t 56)]⟩, ⟨(.some 59), none, (.l .load1), [(.t 58)]⟩, ⟨(.some 9), none, (.q .mv), [(.t 59)]⟩]) (.seq (.reg false 0 [⟨(.some 60), none, (.q .mv), [(.t 3)]⟩, ⟨(.some 61), none, (.q .mv), [(.t 9)]⟩, ⟨(.some 62), none, (.l (.mlook .str (.int .i64 0) false)), [(.t 60), (.t 61)]⟩, ⟨(.some 63), none, (.q (.bin .gtr 3)), [(.t 62), (.c (.imm (.int .i64 0)))]⟩, ⟨(.some 64), none, (.q .mv), [(.t 63)]⟩, ⟨(.some 65), (.some (64, true)), (.q (.faddr 0)), [(.t 7)]⟩, ⟨(.some 66), (.some (64, true)), (.l .load1), [(.t 65)]⟩, ⟨(.some 67), (.some (64, true)), (.q .mv), [(.t 9)]⟩, ⟨(.some 68), (.some (64, true)), (.call true), [(.c (.fn (.func 37) [] [])), (.t 66), (.t 67)]⟩, ⟨(.some 69), none, (.q .pick), [(.t 64), (.t 68), (.c (.imm (.bool false)))]⟩]) (.cond (.t 69) (.seq (.reg false 0 [⟨(.some 2), none, (.q .mv), [(.c (.imm (.bool false)))]⟩]) .ret) .skip)))) (.reg false 0 [⟨(.some 70), none, (.q (.bin .add 3)), [(.t 56), (.c (.imm (.int .i64 1)))]⟩, ⟨(.some 56), none, (.q .mv), [(.t 70)]⟩]))))))))) (.reg false 0 [⟨(.some 71), none, (.q (.bin .add 3)), [(.t 48), (.c (.imm (.int .i64 1)))]⟩, ⟨(.some 48), none, (.q .mv), [(.t 71)]⟩]))))))) (.seq (.reg false 0 [⟨(.some 2), none, (.q .mv), [(.c (.imm (.bool true)))]⟩]) .ret))))))
theorem fn19 : IsFn Tryz.prog 19 [] c19 [2] 72 := ⟨_, _, Tryz.func19, rfl, by decide +kernel, by kernel_rfl, rfl, rfl⟩
set_option maxHeartbeats 8000000 in
theorem p19c (t : List Fil) (ho : filE.all t) (hs : t.length ≤ 1099511627) : Pure Tryz.prog G 19 [filsV t] (bool (mayP2 t)) := by
  refine pure_of_code' (S := sp [(36, txt1l parents), (37, txt2w under)] []) hm hG (sp_holds (.cons (told_txt1l fun s h => p36 s h) (.cons (told_txt2w fun s d h1 h2 => p37 s d h2) .nil)) .nil) fn19 (St 57 72 [filsV t, .junk, .junk, .junk, .junk, .junk, .junk, .junk, .junk, .junk, .junk, .junk, .junk, .junk, .junk, .junk, .junk, .junk, .junk, .junk, .junk, .junk, .junk, .junk, .junk, .junk, .junk, .junk, .junk, .junk, .junk, .junk, .junk, .junk, .junk, .junk, .junk, .junk, .junk, .junk, .junk, .junk, .junk, .junk, .junk, .junk, .junk, .junk, .junk, .junk, .junk, .junk, .junk, .junk, .junk, .junk, .junk] []) (by kernel_rfl) ⟨⟨lows_fils 0 t, fun k hk => by cases hk⟩, trivial⟩ (by simp [AV.low]) ?_
  by_cases h200 : 200 < t.length
  · have c0 : ((200 : Int) < (t.length : Int)) = True := eq_true (by omega)
    have : mayP2 t = false := by unfold mayP2; rw [decide_eq_false (by omega)]; rfl
    rw [this]
    simp (maxSteps := 2000000) -implicitDefEqProofs only [c19, RS, RX, Nat.reduceLT, ↓RP0, ↓RP1, ↓RP2, ↓RP3, RV, RW, ↓reduceIte, Nat.reduceAdd, Nat.reduceSub, Nat.reduceMul, Nat.reduceLeDiff, Nat.reduceEqDiff, Int.reduceLT, Int.reduceLE, Int.reduceEq, Int.reduceNe, Int.reduceAdd, Int.reduceSub, Int.reduceMul, Int.reduceNeg, Int.reduceToNat, reduceCtorEq, fils_len, c0]
  have c0 : ((200 : Int) < (t.length : Int)) = False := eq_false (by omega)
  simp (maxSteps := 2000000) -implicitDefEqProofs only [c19, RS, RX, Nat.reduceLT, ↓RP0, ↓RP1, ↓RP2, ↓RP3, RV, RW, ↓reduceIte, Nat.reduceAdd, Nat.reduceSub, Nat.reduceMul, Nat.reduceLeDiff, Nat.reduceEqDiff, Int.reduceLT, Int.reduceLE, Int.reduceEq, Int.reduceNe, Int.reduceAdd, Int.reduceSub, Int.reduceMul, Int.reduceNeg, Int.reduceToNat, reduceCtorEq, fils_len, c0]
  refine loopB (st := fun (x : Nat × List (Value × Option AV)) => (St 57 72 [filsV t, .junk, bool false, .mp 0, .junk, .junk, .junk, .junk, .junk, .junk, .junk, .junk, .junk, .junk, filsV t, i64 t.length, i64 x.1, .junk, .junk, .junk, .junk, .junk, .junk, .junk, .junk, .junk, .junk, .junk, .junk, .junk, .junk, .junk, .junk, .junk, .junk, .junk, .junk, .junk, .junk, .junk, .junk, .junk, .junk, .junk, .junk, .junk, .junk, .junk, .junk, .junk, .junk, .junk, .junk, .junk, .junk, .junk, .junk] [])) (hp := fun x => [.map .str (.int .i64 0) x.2]) (I := fun x => x.1 ≤ t.length ∧ (∀ j, j < x.1 → badAt t j = false) ∧ Counts x.2 (cntP (t.take x.1))) (m := fun x => t.length - x.1) (0, []) ⟨Nat.zero_le _, fun j hj => by omega, counts_nil⟩ ?_ ?_
  · refine weak_cutS 1 (by decide) (by simp) ?_ ?_
    · simp [AObj.low]
    · simp [WeakL, AV.low, lows, lows_fils]
  · rintro ⟨i, es⟩ ⟨hi, hok, hC⟩
    dsimp only at hi hok hC ⊢
    by_cases hlt : i < t.length
    · have e1 := filE.vs_get hlt
      have e3 : ((i : Int) < (t.length : Int)) = True := eq_true (by omega)
      have o1 : FilOk (t.getD i filE.d0) := filE.all_getD ho hlt
      have tk : t.take (i + 1) = t.take i ++ [t.getD i filE.d0] := take_get hlt
      have hbA : badAt t i = (decide (65536 < (t.getD i filE.d0).data.length) || (decide (0 < i) && !Op.bytesLess (t.getD (i - 1) filE.d0).path (t.getD i filE.d0).path)) := rfl
      have e0 : 0 < i → (t.map filE.v).getD (i - 1) .junk = .agg (filC (t.getD (i - 1) filE.d0)) := fun h => filE.vs_get (by omega)
      have i1 : ((i : Int) - 1).toNat = i - 1 := by omega
      have hbad : badAt t i = true → mayP2 t = false := fun h => by
        unfold mayP2
        have : (List.range t.length).all (fun i => !badAt t i) = false := by
          rw [List.all_eq_false]; exact ⟨i, List.mem_range.2 hlt, by rw [h]; decide⟩
        rw [this]; simp
      obtain ⟨x, hx⟩ : ∃ x, t.getD i filE.d0 = x := ⟨_, rfl⟩
      obtain ⟨y, hy⟩ : ∃ y, t.getD (i - 1) filE.d0 = y := ⟨_, rfl⟩
      simp only [hx] at e1 o1 hbA tk
      simp only [hy] at e0 hbA
      change _ = AV.agg (filC x) at e1
      change _ → _ = AV.agg (filC y) at e0
      by_cases hbd : badAt t i = true
      · rw [hbad hbd]
        by_cases c1 : 65536 < x.data.length
        · have c1' : ((65536 : Int) < (x.data.length : Int)) = True := eq_true (by omega)
          simp (maxSteps := 2000000) -implicitDefEqProofs only [RS, RX, Nat.reduceLT, ↓RP0, ↓RP1, ↓RP2, ↓RP3, RV, RW, ↓reduceIte, Nat.reduceAdd, Nat.reduceSub, Nat.reduceMul, Nat.reduceLeDiff, Nat.reduceEqDiff, Int.reduceLT, Int.reduceLE, Int.reduceEq, Int.reduceNe, Int.reduceAdd, Int.reduceSub, Int.reduceMul, Int.reduceNeg, Int.reduceToNat, reduceCtorEq, e1, e3, c1', fil_len, fil0, fil1', fil_take, fil_strip, bytes_len, fils_len, AV.cells]
        · have c1' : ((65536 : Int) < (x.data.length : Int)) = False := eq_false (by omega)
          rw [hbA] at hbd
          simp only [c1, decide_false, Bool.false_or, Bool.and_eq_true, decide_eq_true_eq, Bool.not_eq_true'] at hbd
          obtain ⟨c2, c3⟩ := hbd
          have e0' := e0 c2
          have c2' : ((0 : Int) < (i : Int)) = True := eq_true (by omega)
          have c4 : ((i : Int) - 1 < (t.length : Int)) = True := eq_true (by omega)
          have c5 : ((0 : Int) ≤ (i : Int) - 1) = True := eq_true (by omega)
          simp (maxSteps := 2000000) -implicitDefEqProofs only [RS, RX, Nat.reduceLT, ↓RP0, ↓RP1, ↓RP2, ↓RP3, RV, RW, ↓reduceIte, Nat.reduceAdd, Nat.reduceSub, Nat.reduceMul, Nat.reduceLeDiff, Nat.reduceEqDiff, Int.reduceLT, Int.reduceLE, Int.reduceEq, Int.reduceNe, Int.reduceAdd, Int.reduceSub, Int.reduceMul, Int.reduceNeg, Int.reduceToNat, reduceCtorEq, ↓binB_sgeq, binB_sgeq, e0', e1, e3, c1', c2', c3, c4, c5, i1, fil_len, fil0, fil1', fil_take, fil_strip, bytes_len, fils_len, AV.cells]
          exact ⟨by omega, by omega⟩
      · have hbt : badAt t i = false := by simpa using hbd
        have hbd' := hbt
        rw [hbA, Bool.or_eq_false_iff] at hbd'
        have c1 : ¬ 65536 < x.data.length := by simpa using hbd'.1
        have c1' : ((65536 : Int) < (x.data.length : Int)) = False := eq_false (by omega)
        have ib : In64 ((i : Int) + 1) := ⟨by omega, by omega⟩
        have hc : ((0 : Int) < (i : Int)) = False ∨ (((0 : Int) < (i : Int)) = True ∧ Op.bytesLess y.path x.path = true) := by
          by_cases c2 : 0 < i
          · refine .inr ⟨eq_true (by omega), ?_⟩
            have := hbd'.2
            simpa [c2] using this
          · exact .inl (eq_false (by omega))
        have mv := hC.1 x.path
        have cl := cntP_le (t.take i) x.path
        have tl : (t.take i).length ≤ t.length := by rw [List.length_take]; omega
        have cb : In64 (cntP (t.take i) x.path + 1) := ⟨by omega, by omega⟩
        have fin : Counts (mput es (.string (B x.path)) (some (.imm (.int .i64 (cntP (t.take i) x.path + 1))))) (cntP (t.take (i + 1))) := by
          have := counts_put hC x.path (cntP (t.take i) x.path + 1)
          rw [tk]
          have he : (fun k' => if x.path = k' then cntP (t.take i) x.path + 1 else cntP (t.take i) k') = cntP (t.take i ++ [x]) := by
            funext k; rw [cntP_snoc]
          rw [he] at this; exact this
        have hok' : ∀ j, j < i + 1 → badAt t j = false := fun j hj => by
          rcases Nat.lt_or_ge j i with h | h
          · exact hok j h
          · obtain rfl : j = i := by omega
            exact hbt
        generalize cntP (t.take i) x.path = n at *
        rcases hc with c2' | ⟨c2', c3⟩
        simp (maxSteps := 2000000) -implicitDefEqProofs only [RS, RX, Nat.reduceLT, ↓RP0, ↓RP1, ↓RP2, ↓RP3, RV, RW, ↓reduceIte, Nat.reduceAdd, Nat.reduceSub, Nat.reduceMul, Nat.reduceLeDiff, Nat.reduceEqDiff, Int.reduceLT, Int.reduceLE, Int.reduceEq, Int.reduceNe, Int.reduceAdd, Int.reduceSub, Int.reduceMul, Int.reduceNeg, Int.reduceToNat, reduceCtorEq, kv_str, mv, e1, e3, c1', c2', fil_len, fil0, fil1', fil_take, fil_strip, bytes_len, fils_len, AV.cells]
        rotate_left
        have e0' := e0 (by have := of_eq_true c2'; omega)
        have c4 : ((i : Int) - 1 < (t.length : Int)) = True := eq_true (by omega)
        have c5 : ((0 : Int) ≤ (i : Int) - 1) = True := eq_true (by have := of_eq_true c2'; omega)
        simp (maxSteps := 2000000) -implicitDefEqProofs only [RS, RX, Nat.reduceLT, ↓RP0, ↓RP1, ↓RP2, ↓RP3, RV, RW, ↓reduceIte, Nat.reduceAdd, Nat.reduceSub, Nat.reduceMul, Nat.reduceLeDiff, Nat.reduceEqDiff, Int.reduceLT, Int.reduceLE, Int.reduceEq, Int.reduceNe, Int.reduceAdd, Int.reduceSub, Int.reduceMul, Int.reduceNeg, Int.reduceToNat, reduceCtorEq, ↓binB_sgeq, binB_sgeq, kv_str, mv, e0', e1, e3, c1', c2', c3, c4, c5, i1, fil_len, fil0, fil1', fil_take, fil_strip, bytes_len, fils_len, AV.cells]
        refine ⟨⟨by omega, by omega⟩, ?_⟩
        all_goals
          refine ⟨cb, ib, (i + 1, mput es (.string (B x.path)) (some (.imm (.int .i64 (n + 1))))), by dsimp only; omega, ⟨by dsimp only; omega, hok', fin⟩, ?_⟩
          refine weak_cutS 1 (by decide) (by simp) ?_ ?_
          · simp only [List.mem_singleton]; rintro o rfl; exact fin.2 1
          · simp [WeakL, AV.low, lows, lows_fils]
    · obtain rfl : i = t.length := by omega
      rw [List.take_length] at hC
      simp (maxSteps := 2000000) -implicitDefEqProofs only [RS, RX, Nat.reduceLT, ↓RP0, ↓RP1, ↓RP2, ↓RP3, RV, RW, ↓reduceIte, Nat.reduceAdd, Nat.reduceSub, Nat.reduceMul, Nat.reduceLeDiff, Nat.reduceEqDiff, Int.reduceLT, Int.reduceLE, Int.reduceEq, Int.reduceNe, Int.reduceAdd, Int.reduceSub, Int.reduceMul, Int.reduceNeg, Int.reduceToNat, reduceCtorEq, fils_len, Int.lt_irrefl]
      have hr : (List.range t.length).all (fun i => !badAt t i) = true := by
        rw [List.all_eq_true]; intro j hj; rw [hok j (List.mem_range.1 hj)]; rfl
      have h2 : mayP2 t = t.all fun f => !upP t f := by
        unfold mayP2; rw [hr, decide_eq_true (by omega : t.length ≤ 200)]; simp
      refine loopB (st := fun (i : Nat) => (St 57 72 [filsV t, .junk, bool false, .mp 0, .junk, .junk, .junk, .junk, .junk, .junk, .junk, .junk, .junk, .junk, .junk, .junk, .junk, .junk, .junk, .junk, .junk, .junk, .junk, .junk, .junk, .junk, .junk, .junk, .junk, .junk, .junk, .junk, .junk, .junk, .junk, .junk, .junk, .junk, .junk, .junk, .junk, .junk, .junk, .junk, .junk, .junk, filsV t, i64 t.length, i64 i, .junk, .junk, .junk, .junk, .junk, .junk, .junk, .junk] [])) (hp := fun _ => [.map .str (.int .i64 0) es]) (I := fun i => i ≤ t.length ∧ ((t.take i).all fun f => !upP t f) = true) (m := fun i => t.length - i) (0 : Nat) ⟨Nat.zero_le _, rfl⟩ ?_ ?_
      · refine weak_cutS 1 (by decide) (by simp) ?_ ?_
        · simp only [List.mem_singleton]; rintro o rfl; exact hC.2 1
        · simp [WeakL, AV.low, lows, lows_fils]
      · rintro i ⟨hi, hu⟩
        by_cases hlt : i < t.length
        · have e1 := filE.vs_get hlt
          have e3 : ((i : Int) < (t.length : Int)) = True := eq_true (by omega)
          have o1 : FilOk (t.getD i filE.d0) := filE.all_getD ho hlt
          have hm := getD_mem2 (d := filE.d0) hlt
          have tk : t.take (i + 1) = t.take i ++ [t.getD i filE.d0] := take_get hlt
          generalize t.getD i filE.d0 = x at *
          change _ = AV.agg (filC x) at e1
          have xp := o1.path
          have q36 : ∀ K, ask (txt1l parents) [T x.path] K = (x.path.length ≤ 1099511627776 ∧ K (.sl 1 ((parents x.path).map T) none)) := fun K => ask_txt1l
          have pl : (parents x.path).length ≤ x.path.length := parentsTo_length x.path _
          have pm := fun p => parentsTo_mem x.path x.path.length p
          change ∀ p, p ∈ parents x.path → _ at pm
          have hup : upP t x = (parents x.path).any fun p => decide (0 < cntP t p) && under x.path p := rfl
          have ib : In64 ((i : Int) + 1) := ⟨by omega, by omega⟩
          simp (maxSteps := 2000000) -implicitDefEqProofs only [RS, RX, Nat.reduceLT, ↓RP0, ↓RP1, ↓RP2, ↓RP3, RV, RW, ↓reduceIte, Nat.reduceAdd, Nat.reduceSub, Nat.reduceMul, Nat.reduceLeDiff, Nat.reduceEqDiff, Int.reduceLT, Int.reduceLE, Int.reduceEq, Int.reduceNe, Int.reduceAdd, Int.reduceSub, Int.reduceMul, Int.reduceNeg, Int.reduceToNat, reduceCtorEq, ↓q36, q36, e1, e3, fil_len, fil0, fil1', fil_take, fil_strip, bytes_len, fils_len, AV.cells]
          refine ⟨by omega, ?_⟩
          generalize parents x.path = ps at *
          have psl : (ps.map T).length = ps.length := List.length_map ..
          refine loopB (st := fun (k : Nat) => (St 57 72 [filsV t, .junk, bool false, .mp 0, .junk, .junk, .junk, .ptr 1 0, .junk, .junk, .junk, .junk, .junk, .junk, .junk, .junk, .junk, .junk, .junk, .junk, .junk, .junk, .junk, .junk, .junk, .junk, .junk, .junk, .junk, .junk, .junk, .junk, .junk, .junk, .junk, .junk, .junk, .junk, .junk, .junk, .junk, .junk, .junk, .junk, .junk, .junk, filsV t, i64 t.length, i64 i, .junk, .junk, .junk, .junk, .junk, .sl 1 (ps.map T) none, i64 ps.length, i64 k] [])) (hp := fun _ => [.map .str (.int .i64 0) es, .box (filC x)]) (I := fun k => k ≤ ps.length ∧ ((ps.take k).any fun p => decide (0 < cntP t p) && under x.path p) = false) (m := fun k => ps.length - k) (0 : Nat) ⟨Nat.zero_le _, rfl⟩ ?_ ?_
          · refine weak_cutS 2 (by decide) (by simp) ?_ ?_
            · simp only [List.mem_cons, List.not_mem_nil, or_false]; rintro o (rfl | rfl)
              · exact hC.2 2
              · exact filE.low 2 x
            · simp [WeakL, AV.low, lows, lows_fils]
          · rintro k ⟨hk, hn⟩
            by_cases hkl : k < ps.length
            · have f1 := T_getD hkl
              have f3 : ((k : Int) < (ps.length : Int)) = True := eq_true (by omega)
              have hp := getD_mem2 (d := []) hkl
              have tk' : ps.take (k + 1) = ps.take k ++ [ps.getD k []] := take_get hkl
              have ppl := pm _ hp
              generalize ps.getD k [] = p at *
              have mv := hC.1 p
              have kb : In64 ((k : Int) + 1) := ⟨by omega, by omega⟩
              by_cases hc0 : 0 < cntP t p
              · simp (maxSteps := 2000000) -implicitDefEqProofs only [RS, RX, Nat.reduceLT, ↓RP0, ↓RP1, ↓RP2, ↓RP3, RV, RW, ↓reduceIte, Nat.reduceAdd, Nat.reduceSub, Nat.reduceMul, Nat.reduceLeDiff, Nat.reduceEqDiff, Int.reduceLT, Int.reduceLE, Int.reduceEq, Int.reduceNe, Int.reduceAdd, Int.reduceSub, Int.reduceMul, Int.reduceNeg, Int.reduceToNat, reduceCtorEq, ↓ask_txt2w, ask_txt2w, kv_str, mv, f1, f3, hc0, psl, fil_len, fil0, fil1', fil_take, fil_strip, bytes_len, fils_len, AV.cells]
                refine ⟨by omega, by omega, fun h => ?_, fun h => ⟨kb, k + 1, by dsimp only; omega, ⟨by omega, ?_⟩, ?_⟩⟩
                · have hu1 : upP t x = true := by rw [hup, List.any_eq_true]; exact ⟨p, hp, by simp [hc0, h]⟩
                  have : (t.all fun f => !upP t f) = false := by rw [List.all_eq_false]; exact ⟨x, hm, by rw [hu1]; decide⟩
                  rw [h2, this]
                · rw [tk', List.any_append, hn]; simp [h]
                · refine weak_cutS 2 (by decide) (by simp) ?_ ?_
                  · simp only [List.mem_cons, List.not_mem_nil, or_false]; rintro o (rfl | rfl)
                    · exact hC.2 2
                    · exact filE.low 2 x
                  · simp [WeakL, AV.low, lows, lows_fils]
              · simp (maxSteps := 2000000) -implicitDefEqProofs only [RS, RX, Nat.reduceLT, ↓RP0, ↓RP1, ↓RP2, ↓RP3, RV, RW, ↓reduceIte, Nat.reduceAdd, Nat.reduceSub, Nat.reduceMul, Nat.reduceLeDiff, Nat.reduceEqDiff, Int.reduceLT, Int.reduceLE, Int.reduceEq, Int.reduceNe, Int.reduceAdd, Int.reduceSub, Int.reduceMul, Int.reduceNeg, Int.reduceToNat, reduceCtorEq, kv_str, mv, f1, f3, hc0, psl, fil_len, fil0, fil1', fil_take, fil_strip, bytes_len, fils_len, AV.cells]
                refine ⟨kb, k + 1, by dsimp only; omega, ⟨by omega, ?_⟩, ?_⟩
                · rw [tk', List.any_append, hn]; simp [hc0]
                · refine weak_cutS 2 (by decide) (by simp) ?_ ?_
                  · simp only [List.mem_cons, List.not_mem_nil, or_false]; rintro o (rfl | rfl)
                    · exact hC.2 2
                    · exact filE.low 2 x
                  · simp [WeakL, AV.low, lows, lows_fils]
            · obtain rfl : k = ps.length := by omega
              rw [List.take_length] at hn
              simp (maxSteps := 2000000) -implicitDefEqProofs only [RS, RX, Nat.reduceLT, ↓RP0, ↓RP1, ↓RP2, ↓RP3, RV, RW, ↓reduceIte, Nat.reduceAdd, Nat.reduceSub, Nat.reduceMul, Nat.reduceLeDiff, Nat.reduceEqDiff, Int.reduceLT, Int.reduceLE, Int.reduceEq, Int.reduceNe, Int.reduceAdd, Int.reduceSub, Int.reduceMul, Int.reduceNeg, Int.reduceToNat, reduceCtorEq, psl, Int.lt_irrefl]
              refine ⟨ib, i + 1, by dsimp only; omega, ⟨by omega, ?_⟩, ?_⟩
              · rw [tk, List.all_append, hu]; simp [hup, hn]
              · refine weak_cutS 1 (by decide) (by simp) ?_ ?_
                · simp only [List.mem_singleton]; rintro o rfl; exact hC.2 1
                · simp [WeakL, AV.low, lows, lows_fils]
        · obtain rfl : i = t.length := by omega
          rw [List.take_length] at hu
          rw [h2, hu]
          simp (maxSteps := 2000000) -implicitDefEqProofs only [RS, RX, Nat.reduceLT, ↓RP0, ↓RP1, ↓RP2, ↓RP3, RV, RW, ↓reduceIte, Nat.reduceAdd, Nat.reduceSub, Nat.reduceMul, Nat.reduceLeDiff, Nat.reduceEqDiff, Int.reduceLT, Int.reduceLE, Int.reduceEq, Int.reduceNe, Int.reduceAdd, Int.reduceSub, Int.reduceMul, Int.reduceNeg, Int.reduceToNat, reduceCtorEq, fils_len, Int.lt_irrefl]
end Go.AL.Path
