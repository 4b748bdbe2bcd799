/- Edits as they are told: a Delete's contents are nil. -/
import Derived.Test.YtofokmpdioblkaaGreatDoorG33
set_option linter.unusedSimpArgs false
set_option linter.unusedVariables false
set_option maxRecDepth 100000
namespace Go.AL.Path
open Go Go.RowKit Go.Proofs Go.AL
def dataV (e : Edt) : AV := if e.kind = 1 then bytesV e.data else .sl 0 [] none
def edC (e : Edt) : List AV := [i64 e.kind, T e.path, dataV e]
structure EdOk (e : Edt) : Prop where
  path : e.path.length ≤ 1099511627
  data : e.data.length ≤ 1099511627
  del : e.kind ≠ 1 → e.data = []
theorem dataV_low (n : Nat) (e : Edt) : (dataV e).low n := by unfold dataV; split <;> simp [AV.low, lows, lows_bytes]
abbrev edE : Elem Edt where
  sz := 3
  cells := edC
  ok := EdOk
  d0 := ⟨0, [], []⟩
  len := fun _ => rfl
  inj := fun {x y} hx hy h => by
    unfold edC at h
    injection h with h0 h
    injection h0 with h0
    injection h0 with _ h0
    injection h with h1 h2
    injection h2 with h2 _
    have hd : x.data = y.data := by
      unfold dataV at h2
      rw [h0] at h2
      by_cases hk : y.kind = 1
      · rw [if_pos hk, if_pos hk] at h2
        injection h2 with _ h2 _
        exact bytes_inj h2
      · rw [hx.del (by rw [h0]; exact hk), hy.del hk]
    cases x; cases y
    rw [Edt.mk.injEq]; exact ⟨h0, T_inj.1 h1, hd⟩
  low := fun n x => ⟨trivial, trivial, dataV_low n x, trivial⟩
  strip := by
    intro x
    show [i64 x.kind, T x.path, (dataV x).strip1] = edC x
    unfold edC
    congr 2
    unfold dataV; split <;> rfl
abbrev edV (e : Edt) : AV := .agg (edC e)
abbrev edsV (l : List Edt) : AV := .sl 3 (l.map edE.v) none
theorem lows_ed (n : Nat) (e : Edt) : lows n (edC e) := edE.low n e
theorem lows_eds (n : Nat) (l : List Edt) : lows n (l.map edE.v) := edE.low_vs n l
theorem ed_len (e : Edt) : (edC e).length = 3 := rfl
theorem ed0 {e : Edt} : (edC e)[0]? = some (i64 e.kind) := rfl
theorem ed1 {e : Edt} : (edC e)[1]? = some (T e.path) := rfl
theorem ed2 {e : Edt} : (edC e)[2]? = some (dataV e) := rfl
theorem ed_take {e : Edt} : (edC e).take 3 = edC e := rfl
theorem ed_strip {e : Edt} : (edC e).map AV.strip1 = edC e := edE.strip
theorem eds_len (l : List Edt) : (l.map edE.v).length = l.length := List.length_map ..
theorem eds_get {l : List Edt} {i : Nat} (h : i < l.length) : (l.map edE.v).getD i .junk = .agg (edC (l.getD i edE.d0)) := edE.vs_get h
theorem insR_split {x : Edt} : ∀ {A B : List Edt}, (∀ a ∈ A, ¬ x.path < a.path) → (∀ b ∈ B, x.path < b.path) → insR Edt.path x (A ++ B) = A ++ x :: B
  | [], [], _, _ => rfl
  | [], b :: B, _, h => by
    show (if x.path < b.path then x :: b :: B else b :: insR Edt.path x B) = _
    rw [if_pos (h b (List.mem_cons_self ..))]; rfl
  | a :: A, B, h1, h2 => by
    rw [List.cons_append, List.cons_append]
    show (if x.path < a.path then x :: a :: (A ++ B) else a :: insR Edt.path x (A ++ B)) = _
    rw [if_neg (h1 a (List.mem_cons_self ..)), insR_split (fun y hy => h1 y (List.mem_cons_of_mem _ hy)) h2]
theorem insR_len (x : Edt) : ∀ l : List Edt, (insR Edt.path x l).length = l.length + 1
  | [] => rfl
  | y :: l => by
    unfold insR
    split
    · rfl
    · rw [List.length_cons, insR_len x l, List.length_cons]
def c35 : ACode := (.seq (.reg false 2 [⟨(.some 3), none, (.m .box 0), [(.t 1)]⟩, ⟨(.some 4), none, (.m (.nilT 52 3) 1), []⟩]) (.seq (.reg false 0 [⟨(.some 7), none, (.q .mv), [(.t 0)]⟩, ⟨(.some 8), none, (.q .lenL), [(.t 7)]⟩, ⟨(.some 5), none, (.q .mv), [(.t 8)]⟩]) (.seq (.block 0 (.loop (.seq (.seq (.reg true 0 [⟨(.some 9), none, (.q .mv), [(.t 5)]⟩, ⟨(.some 10), none, (.q (.bin .gtr 3)), [(.t 9), (.c (.imm (.int .i64 0)))]⟩, ⟨(.some 11), none, (.q .mv), [(.t 10)]⟩, ⟨(.some 12), (.some (11, true)), (.q .mv), [(.t 0)]⟩, ⟨(.some 13), (.some (11, true)), (.q .mv), [(.t 5)]⟩, ⟨(.some 14), (.some (11, true)), (.q (.bin .sub 3)), [(.t 13), (.c (.imm (.int .i64 1)))]⟩, ⟨(.some 15), (.some (11, true)), (.q (.iaddrS 3)), [(.t 12), (.t 14)]⟩, ⟨(.some 16), (.some (11, true)), (.q (.faddr 1)), [(.t 15)]⟩, ⟨(.some 17), (.some (11, true)), (.l .load1), [(.t 16)]⟩, ⟨(.some 18), (.some (11, true)), (.q (.faddr 1)), [(.t 3)]⟩, ⟨(.some 19), (.some (11, true)), (.l .load1), [(.t 18)]⟩, ⟨(.some 20), (.some (11, true)), (.q (.bin .gtr 9)), [(.t 17), (.t 19)]⟩, ⟨(.some 21), none, (.q .pick), [(.t 11), (.t 20), (.c (.imm (.bool false)))]⟩]) (.cond (.t 21) .skip (.exit 0))) (.block 1 (.reg false 0 [⟨(.some 22), none, (.q .mv), [(.t 5)]⟩, ⟨(.some 23), none, (.q (.bin .sub 3)), [(.t 22), (.c (.imm (.int .i64 1)))]⟩, ⟨(.some 5), none, (.q .mv), [(.t 23)]⟩]))))) (.seq (.reg false 1 [⟨(.some 24), none, (.m (.bsliceO 52 3) 0), []⟩, ⟨(.some 25), none, (.q .mv), [(.t 0)]⟩, ⟨(.some 26), none, (.q .mv), [(.t 5)]⟩, ⟨(.some 27), none, (.q (.sliceL 3 false true false)), [(.t 25), (.t 26)]⟩, ⟨(.some 28), none, (.e (.append 52 3 48)), [(.t 24), (.t 27)]⟩, ⟨(.some 6), none, (.q .mv), [(.t 28)]⟩]) (.seq (.reg false 1 [⟨(.some 29), none, (.q .mv), [(.t 6)]⟩, ⟨(.some 30), none, (.l (.loadA 3)), [(.t 3)]⟩, ⟨(.some 31), none, (.m (.bsliceO 52 3) 0), [(.t 30)]⟩, ⟨(.some 32), none, (.e (.append 52 3 48)), [(.t 29), (.t 31)]⟩, ⟨(.some 6), none, (.q .mv), [(.t 32)]⟩]) (.seq (.reg false 0 [⟨(.some 33), none, (.q .mv), [(.t 6)]⟩, ⟨(.some 34), none, (.q .mv), [(.t 0)]⟩, ⟨(.some 35), none, (.q .mv), [(.t 5)]⟩, ⟨(.some 36), none, (.q (.sliceL 3 true false false)), [(.t 34), (.t 35)]⟩, ⟨(.some 37), none, (.e (.append 52 3 48)), [(.t 33), (.t 36)]⟩, ⟨(.some 4), none, (.q .mv), [(.t 37)]⟩]) .ret))))))
theorem fn35 : IsFn Tryz.prog 35 (List.range 200) c35 [4] 38 := ⟨_, _, Tryz.func35, rfl, by decide +kernel, by kernel_rfl, rfl, rfl⟩
set_option maxHeartbeats 4000000 in
theorem p35 (l : List Edt) (e : Edt) (ho : edE.all l) (he : EdOk e) (hl : Srt Edt.path l) (hs : l.length ≤ 1099511627) : Pure Tryz.prog G 35 [edsV l, edV e] (edsV (insR Edt.path e l)) := by
  refine pure_of_code' (S := sp [] []) hm hG (sp_holds .nil .nil) fn35 (St 7 38 [edsV l, edV e, .junk, .junk, .junk, .junk, .junk] []) (by kernel_rfl) ⟨⟨lows_eds 0 l, fun k hk => by cases hk⟩, lows_ed 0 e, trivial⟩ (by simp [AV.low, lows_eds]) ?_
  simp (maxSteps := 2000000) -implicitDefEqProofs only [c35, RS, RX, Nat.reduceLT, ↓RP0, ↓RP1, ↓RP2, ↓RP3, RV, RW, ↓reduceIte, Nat.reduceAdd, Nat.reduceSub, Nat.reduceMul, Nat.reduceLeDiff, Nat.reduceEqDiff, Int.reduceLT, Int.reduceLE, Int.reduceEq, Int.reduceNe, Int.reduceAdd, Int.reduceSub, Int.reduceMul, Int.reduceNeg, Int.reduceToNat, reduceCtorEq, eds_len]
  refine loopB (st := fun (i : Nat) => (St 7 38 [edsV l, edV e, .junk, .ptr 0 0, .sl 3 [] (some 1), i64 i, .junk] [])) (hp := fun _ => [.box (edC e), .tok 52 3 0]) (I := fun i => i ≤ l.length ∧ ∀ x ∈ l.drop i, e.path < x.path) (m := fun i => i) l.length ⟨Nat.le_refl _, fun x hx => by rw [List.drop_length] at hx; cases hx⟩ ?_ ?_
  · refine weak_cutS 2 (by decide) rfl ?_ ?_
    · simp [AObj.low, lows, AV.low, lows_ed]
    · simp [WeakL, AV.low, lows, lows_ed, lows_eds]
  · rintro i ⟨hi, hd⟩
    have fin : (∀ x ∈ l.take i, ¬ e.path < x.path) → l.take i ++ [e] ++ l.drop i = insR Edt.path e l := fun h => by
      have := insR_split (x := e) (A := l.take i) (B := l.drop i) h hd
      rw [List.take_append_drop] at this
      rw [this]; simp
    have t1 : (l.take i).map edE.v = (l.map edE.v).take i := List.map_take
    have lt : ((l.map edE.v).take i).length = i := by simp; omega
    cases i with
    | zero =>
      simp (maxSteps := 2000000) -implicitDefEqProofs only [RS, RX, Nat.reduceLT, ↓RP0, ↓RP1, ↓RP2, ↓RP3, RV, RW, ↓reduceIte, Nat.reduceAdd, Nat.reduceSub, Nat.reduceMul, Nat.reduceLeDiff, Nat.reduceEqDiff, Int.reduceLT, Int.reduceLE, Int.reduceEq, Int.reduceNe, Int.reduceAdd, Int.reduceSub, Int.reduceMul, Int.reduceNeg, Int.reduceToNat, reduceCtorEq, Int.lt_irrefl, eds_len, ed_len, ed_take, ed_strip, AV.cells]
      refine ⟨(fun y hy => by cases hy), .inl trivial, .inl trivial, .inl trivial, (fun y hy => by rw [List.mem_singleton.1 hy]; exact ⟨rfl, rfl⟩), .inl trivial, .inl trivial, .inl trivial, .inl trivial, .inl trivial, by rw [List.length_take, eds_len]; omega, by rw [List.length_take, eds_len]; omega, ?_⟩
      have h := fin (fun x hx => by simp at hx)
      rw [← h, List.take_of_length_le (by rw [eds_len]; exact Nat.le_refl _)]
      simp
    | succ i =>
      have e1 := eds_get (l := l) (i := i) (by omega)
      have e2 : ((0 : Int) < ((i + 1 : Nat) : Int)) = True := eq_true (by omega)
      have e3 : (((i + 1 : Nat) : Int) - 1 < (l.length : Int)) = True := eq_true (by omega)
      have e4 : ((0 : Int) ≤ ((i + 1 : Nat) : Int) - 1) = True := eq_true (by omega)
      have i1 : (((i + 1 : Nat) : Int) - 1).toNat = i := by omega
      obtain ⟨x, hx⟩ : ∃ x, l.getD i edE.d0 = x := ⟨_, rfl⟩
      rw [hx] at e1
      cases h2 : Op.bytesLess e.path x.path with
      | true =>
        simp (maxSteps := 2000000) -implicitDefEqProofs only [RS, RX, Nat.reduceLT, ↓RP0, ↓RP1, ↓RP2, ↓RP3, RV, RW, ↓reduceIte, Nat.reduceAdd, Nat.reduceSub, Nat.reduceMul, Nat.reduceLeDiff, Nat.reduceEqDiff, Int.reduceLT, Int.reduceLE, Int.reduceEq, Int.reduceNe, Int.reduceAdd, Int.reduceSub, Int.reduceMul, Int.reduceNeg, Int.reduceToNat, reduceCtorEq, ↓binB_sgtr, binB_sgtr, e1, e2, e3, e4, i1, h2, eds_len, ed_len, ed_take, ed_strip, ed1, AV.cells]
        rw [show (((i + 1 : Nat) : Int) - 1) = (i : Int) by omega]
        refine ⟨⟨by omega, by omega⟩, ⟨by omega, by omega⟩, i, by dsimp only; omega, ⟨by omega, fun y hy => ?_⟩, ?_⟩
        · have hd2 : l.drop i = x :: l.drop (i + 1) := by
            rw [← hx, List.getD_eq_getElem?_getD, List.getElem?_eq_getElem (by omega)]
            exact List.drop_eq_getElem_cons (by omega)
          rw [hd2] at hy
          rcases List.mem_cons.1 hy with rfl | hy
          · exact (bl_lt _ _).1 h2
          · exact hd y hy
        refine weak_cutS 2 (by decide) rfl ?_ ?_
        · simp [AObj.low, lows, AV.low, lows_ed]
        · simp [WeakL, AV.low, lows, lows_ed, lows_eds]
      | false =>
        simp (maxSteps := 2000000) -implicitDefEqProofs only [RS, RX, Nat.reduceLT, ↓RP0, ↓RP1, ↓RP2, ↓RP3, RV, RW, ↓reduceIte, Nat.reduceAdd, Nat.reduceSub, Nat.reduceMul, Nat.reduceLeDiff, Nat.reduceEqDiff, Int.reduceLT, Int.reduceLE, Int.reduceEq, Int.reduceNe, Int.reduceAdd, Int.reduceSub, Int.reduceMul, Int.reduceNeg, Int.reduceToNat, reduceCtorEq, ↓binB_sgtr, binB_sgtr, e1, e2, e3, e4, i1, h2, eds_len, ed_len, ed_take, ed_strip, ed1, AV.cells]
        have h := fin (fun y hy => by
          have ht : l.take (i + 1) = l.take i ++ [x] := by rw [← hx]; exact take_get (by omega)
          have hle : ¬ e.path < x.path := fun h => by rw [(bl_lt _ _).2 h] at h2; cases h2
          rw [ht] at hy
          rcases List.mem_append.1 hy with hy | hy
          · have hs' := hl
            rw [← List.take_append_drop (i + 1) l, ht] at hs'
            have := (Srt.app.1 (Srt.app.1 hs').1).2.2 y hy x (List.mem_singleton.2 rfl)
            exact fun h => hle (lt_le h this)
          · rw [List.mem_singleton.1 hy]; exact hle)
        have l1 : (List.take (i + 1) (List.map edE.v l)).length = i + 1 := lt
        have l2 : (List.drop (i + 1) (List.take l.length (List.map edE.v l))).length = l.length - (i + 1) := by simp
        have l3 : (List.take (i + 1) (List.map edE.v l) ++ [AV.agg (edC e)]).length = i + 2 := by rw [List.length_append, l1]; rfl
        refine ⟨⟨by omega, by omega⟩, (fun y hy => by cases hy), .inl trivial, by omega, .inl trivial, .inl trivial, by omega, by omega, (fun y hy => by rw [List.mem_singleton.1 hy]; exact ⟨rfl, rfl⟩), .inl trivial, .inl trivial, by omega, by omega, .inl trivial, by omega, by omega, .inl trivial, .inl trivial, by omega, by omega, ?_⟩
        have l4 : List.take l.length (List.map edE.v l) = List.map edE.v l := List.take_of_length_le (by rw [eds_len]; exact Nat.le_refl _)
        rw [← h, l4]
        simp [List.map_take, List.map_drop]
/-- A list that is told: nil, where there is nothing. -/
def outE (l : List Edt) : AV := if l = [] then .sl 0 [] none else edsV l
theorem outE_fix (l : List Edt) : fixNil 3 (outE l) = edsV l := by
  unfold outE
  split
  · rename_i h; subst h; rfl
  · rename_i h
    cases l with
    | nil => exact absurd rfl h
    | cons x l => rfl
theorem outE_low (n : Nat) (l : List Edt) : (outE l).low n := by
  unfold outE; split
  · exact ⟨trivial, fun k hk => by cases hk⟩
  · exact ⟨lows_eds n l, fun k hk => by cases hk⟩
theorem outE_strip (l : List Edt) : (outE l).strip = outE l := by unfold outE; split <;> rfl
theorem outE_ne {l : List Edt} (h : l ≠ []) : outE l = edsV l := by unfold outE; rw [if_neg h]
theorem eds_inj {l m : List Edt} (hl : edE.all l) (hm' : edE.all m) (h : l.map edE.v = m.map edE.v) : l = m := by
  induction l generalizing m with
  | nil => cases m with
    | nil => rfl
    | cons y m => simp at h
  | cons x l ih => cases m with
    | nil => simp at h
    | cons y m =>
      simp only [List.map_cons, List.cons.injEq] at h
      have h1 : edC x = edC y := by have := h.1; injection this
      rw [edE.inj (hl x (List.mem_cons_self ..)) (hm' y (List.mem_cons_self ..)) h1, ih (fun z hz => hl z (List.mem_cons_of_mem _ hz)) (fun z hz => hm' z (List.mem_cons_of_mem _ hz)) h.2]
theorem edsV_inj {l m : List Edt} (hl : edE.all l) (hm' : edE.all m) (h : edsV l = edsV m) : l = m := eds_inj hl hm' (by injection h)
abbrev putSp : PSp := nilS 3 (spOn (fun x : List Edt × Edt => [edsV x.1, edV x.2]) (fun x => edE.all x.1 ∧ EdOk x.2 ∧ Srt Edt.path x.1 ∧ x.1.length ≤ 1099511627) (fun x => edsV (insR Edt.path x.2 x.1)))
theorem told_put35 : Told Tryz.prog G 35 putSp := told_nilS (told_spOn fun x h => p35 x.1 x.2 h.1 h.2.1 h.2.2.1 h.2.2.2)
theorem ask_putSp {l : List Edt} {e : Edt} (ho : edE.all l) (he : EdOk e) (hl : Srt Edt.path l) (hs : l.length ≤ 1099511627) {K} : ask putSp [outE l, edV e] K = K (edsV (insR Edt.path e l)) := by
  show ask (spOn _ _ _) [fixNil 3 (outE l), edV e] K = _
  rw [outE_fix]
  refine ask_spOn (x := (l, e)) (fun x y hx hy h => ?_) ⟨ho, he, hl, hs⟩ rfl
  injection h with h1 h2
  injection h2 with h2 _
  injection h2 with h2
  exact Prod.ext (edsV_inj hx.1 hy.1 h1) (edE.inj hx.2.1 hy.2.1 h2)
theorem edC_put (f : Fil) : edC (putE f) = [i64 1, T f.path, bytesV f.data] := rfl
theorem edC_del (s : Shw) : edC (delE s) = [i64 2, T s.path, .sl 0 [] none] := rfl
theorem putE_ok {f : Fil} (h : FilOk f) : EdOk (putE f) := ⟨h.path, h.data, fun h => absurd rfl h⟩
theorem delE_ok {s : Shw} (h : ShwOk s) : EdOk (delE s) := ⟨h.path, Nat.zero_le _, fun _ => rfl⟩
end Go.AL.Path

/- Lists turned, and compared. -/
set_option linter.unusedSimpArgs false
set_option linter.unusedVariables false
set_option maxRecDepth 100000
namespace Go.AL.Path
open Go Go.RowKit Go.Proofs Go.AL
def c18 : ACode := (.seq (.reg false 1 [⟨(.some 2), none, (.m (.nilT 52 3) 0), []⟩]) (.seq (.reg false 1 [⟨(.some 3), none, (.m (.nilT 52 3) 0), []⟩]) (.seq (.seq (.reg false 0 [⟨(.some 4), none, (.q .mv), [(.c (.imm (.int .i64 0)))]⟩]) (.block 0 (.loop (.seq (.seq (.reg false 0 [⟨(.some 5), none, (.q .mv), [(.t 4)]⟩, ⟨(.some 6), none, (.q .mv), [(.t 0)]⟩, ⟨(.some 7), none, (.q .lenL), [(.t 6)]⟩, ⟨(.some 8), none, (.q (.bin .lss 3)), [(.t 5), (.t 7)]⟩]) (.cond (.t 8) .skip (.exit 0))) (.seq (.block 1 (.reg false 1 [⟨(.some 11), none, (.q .mv), [(.t 3)]⟩, ⟨(.some 12), none, (.q .mv), [(.t 0)]⟩, ⟨(.some 13), none, (.q .mv), [(.t 4)]⟩, ⟨(.some 14), none, (.q (.iaddrS 3)), [(.t 12), (.t 13)]⟩, ⟨(.some 15), none, (.l (.loadA 3)), [(.t 14)]⟩, ⟨(.some 16), none, (.m (.bsliceO 52 3) 0), [(.t 15)]⟩, ⟨(.some 17), none, (.e (.append 52 3 48)), [(.t 11), (.t 16)]⟩, ⟨(.some 3), none, (.q .mv), [(.t 17)]⟩])) (.reg false 0 [⟨(.some 9), none, (.q .mv), [(.t 4)]⟩, ⟨(.some 10), none, (.q (.bin .add 3)), [(.t 9), (.c (.imm (.int .i64 1)))]⟩, ⟨(.some 4), none, (.q .mv), [(.t 10)]⟩])))))) (.seq (.reg false 0 [⟨(.some 18), none, (.q .mv), [(.t 3)]⟩, ⟨(.some 2), none, (.q .mv), [(.t 18)]⟩]) .ret))))
theorem fn18 : IsFn Tryz.prog 18 (List.range 200) c18 [2] 19 := ⟨_, _, Tryz.func18, rfl, by decide +kernel, by kernel_rfl, rfl, rfl⟩
set_option maxHeartbeats 4000000 in
theorem p18 (l : List Edt) (ho : edE.all l) (hs : l.length ≤ 1099511627) : Pure Tryz.prog G 18 [edsV l] (edsV l) := by
  refine pure_of_code' (S := sp [] []) hm hG (sp_holds .nil .nil) fn18 (St 5 19 [edsV l, .junk, .junk, .junk, .junk] []) (by kernel_rfl) ⟨⟨lows_eds 0 l, fun k hk => by cases hk⟩, trivial⟩ (by simp [AV.low, lows_eds]) ?_
  simp (maxSteps := 2000000) -implicitDefEqProofs only [c18, RS, RX, Nat.reduceLT, ↓RP0, ↓RP1, ↓RP2, ↓RP3, RV, RW, ↓reduceIte, Nat.reduceAdd, Nat.reduceSub, Nat.reduceMul, Nat.reduceLeDiff, Nat.reduceEqDiff, Int.reduceLT, Int.reduceLE, Int.reduceEq, Int.reduceNe, Int.reduceAdd, Int.reduceSub, Int.reduceMul, Int.reduceNeg, Int.reduceToNat, reduceCtorEq, eds_len]
  refine loopB (st := fun (i : Nat) => (St 5 19 [edsV l, .junk, .sl 3 [] (some 0), .sl 3 ((l.take i).map edE.v) (some 1), i64 i] [])) (hp := fun i => [.tok 52 3 0, .tok 52 3 i]) (I := fun i => i ≤ l.length) (m := fun i => l.length - i) (0 : Nat) (Nat.zero_le _) ?_ ?_
  · refine weak_cutS 2 (by decide) rfl ?_ ?_
    · simp [AObj.low]
    · simp [WeakL, AV.low, lows, lows_eds]
  · intro i hi
    have tl : ((l.take i).map edE.v).length = i := by rw [eds_len, List.length_take]; omega
    by_cases hlt : i < l.length
    · have e1 := eds_get hlt
      have e3 : ((i : Int) < (l.length : Int)) = True := eq_true (by omega)
      have tk : l.take (i + 1) = l.take i ++ [l.getD i edE.d0] := take_get hlt
      generalize l.getD i edE.d0 = x at *
      simp (maxSteps := 2000000) -implicitDefEqProofs only [RS, RX, Nat.reduceLT, ↓RP0, ↓RP1, ↓RP2, ↓RP3, RV, RW, ↓reduceIte, Nat.reduceAdd, Nat.reduceSub, Nat.reduceMul, Nat.reduceLeDiff, Nat.reduceEqDiff, Int.reduceLT, Int.reduceLE, Int.reduceEq, Int.reduceNe, Int.reduceAdd, Int.reduceSub, Int.reduceMul, Int.reduceNeg, Int.reduceToNat, reduceCtorEq, e1, e3, tl, eds_len, ed_len, ed_take, ed_strip, AV.cells]
      rw [show List.map edE.v (l.take i) ++ [AV.agg (edC x)] = List.map edE.v (l.take (i + 1)) by rw [tk]; simp]
      refine ⟨(fun y hy => by rw [List.mem_singleton.1 hy]; exact ⟨rfl, rfl⟩), .inl trivial, .inl trivial, by omega, by omega, ⟨by omega, by omega⟩, i + 1, by dsimp only; omega, by dsimp only; omega, ?_⟩
      refine weak_cutS 2 (by decide) rfl ?_ ?_
      · simp [AObj.low]
      · simp [WeakL, AV.low, lows, lows_eds, -List.map_take]
    · obtain rfl : i = l.length := by omega
      simp (maxSteps := 2000000) -implicitDefEqProofs only [RS, RX, Nat.reduceLT, ↓RP0, ↓RP1, ↓RP2, ↓RP3, RV, RW, ↓reduceIte, Nat.reduceAdd, Nat.reduceSub, Nat.reduceMul, Nat.reduceLeDiff, Nat.reduceEqDiff, Int.reduceLT, Int.reduceLE, Int.reduceEq, Int.reduceNe, Int.reduceAdd, Int.reduceSub, Int.reduceMul, Int.reduceNeg, Int.reduceToNat, reduceCtorEq, Int.lt_irrefl, tl, eds_len]
      rw [List.take_length]
def c14 : ACode := (.seq (.reg false 1 [⟨(.some 2), none, (.m (.nilT 68 36) 0), []⟩]) (.seq (.reg false 1 [⟨(.some 3), none, (.m (.nilT 68 36) 0), []⟩]) (.seq (.seq (.reg false 0 [⟨(.some 4), none, (.q .mv), [(.c (.imm (.int .i64 0)))]⟩]) (.block 0 (.loop (.seq (.seq (.reg false 0 [⟨(.some 5), none, (.q .mv), [(.t 4)]⟩, ⟨(.some 6), none, (.q .mv), [(.t 0)]⟩, ⟨(.some 7), none, (.q .lenL), [(.t 6)]⟩, ⟨(.some 8), none, (.q (.bin .lss 3)), [(.t 5), (.t 7)]⟩]) (.cond (.t 8) .skip (.exit 0))) (.seq (.block 1 (.reg false 1 [⟨(.some 11), none, (.q .mv), [(.t 3)]⟩, ⟨(.some 12), none, (.q .mv), [(.t 0)]⟩, ⟨(.some 13), none, (.q .mv), [(.t 4)]⟩, ⟨(.some 14), none, (.q (.iaddrS 36)), [(.t 12), (.t 13)]⟩, ⟨(.some 15), none, (.l (.loadA 36)), [(.t 14)]⟩, ⟨(.some 16), none, (.m (.bsliceO 68 36) 0), [(.t 15)]⟩, ⟨(.some 17), none, (.e (.append 68 36 72)), [(.t 11), (.t 16)]⟩, ⟨(.some 3), none, (.q .mv), [(.t 17)]⟩])) (.reg false 0 [⟨(.some 9), none, (.q .mv), [(.t 4)]⟩, ⟨(.some 10), none, (.q (.bin .add 3)), [(.t 9), (.c (.imm (.int .i64 1)))]⟩, ⟨(.some 4), none, (.q .mv), [(.t 10)]⟩])))))) (.seq (.reg false 0 [⟨(.some 18), none, (.q .mv), [(.t 3)]⟩, ⟨(.some 2), none, (.q .mv), [(.t 18)]⟩]) .ret))))
theorem fn14 : IsFn Tryz.prog 14 (List.range 200) c14 [2] 19 := ⟨_, _, Tryz.func14, rfl, by decide +kernel, by kernel_rfl, rfl, rfl⟩
set_option maxHeartbeats 4000000 in
theorem p14 (l : List Shw) (ho : shwE.all l) (hs : l.length ≤ 1099511627) : Pure Tryz.prog G 14 [shwsV l] (shwsV l) := by
  refine pure_of_code' (S := sp [] []) hm hG (sp_holds .nil .nil) fn14 (St 5 19 [shwsV l, .junk, .junk, .junk, .junk] []) (by kernel_rfl) ⟨⟨lows_shws 0 l, fun k hk => by cases hk⟩, trivial⟩ (by simp [AV.low, lows_shws]) ?_
  simp (maxSteps := 2000000) -implicitDefEqProofs only [c14, RS, RX, Nat.reduceLT, ↓RP0, ↓RP1, ↓RP2, ↓RP3, RV, RW, ↓reduceIte, Nat.reduceAdd, Nat.reduceSub, Nat.reduceMul, Nat.reduceLeDiff, Nat.reduceEqDiff, Int.reduceLT, Int.reduceLE, Int.reduceEq, Int.reduceNe, Int.reduceAdd, Int.reduceSub, Int.reduceMul, Int.reduceNeg, Int.reduceToNat, reduceCtorEq, shws_len]
  refine loopB (st := fun (i : Nat) => (St 5 19 [shwsV l, .junk, .sl 36 [] (some 0), .sl 36 ((l.take i).map shwE.v) (some 1), i64 i] [])) (hp := fun i => [.tok 68 36 0, .tok 68 36 i]) (I := fun i => i ≤ l.length) (m := fun i => l.length - i) (0 : Nat) (Nat.zero_le _) ?_ ?_
  · refine weak_cutS 2 (by decide) rfl ?_ ?_
    · simp [AObj.low]
    · simp [WeakL, AV.low, lows, lows_shws]
  · intro i hi
    have tl : ((l.take i).map shwE.v).length = i := by rw [shws_len, List.length_take]; omega
    by_cases hlt : i < l.length
    · have e1 := shws_getD hlt
      have e3 : ((i : Int) < (l.length : Int)) = True := eq_true (by omega)
      have tk : l.take (i + 1) = l.take i ++ [l.getD i d36] := take_get hlt
      have ox := shw_getD ho i
      generalize l.getD i d36 = x at *
      have l1 := shw_len ox
      simp (maxSteps := 2000000) -implicitDefEqProofs only [RS, RX, Nat.reduceLT, ↓RP0, ↓RP1, ↓RP2, ↓RP3, RV, RW, ↓reduceIte, Nat.reduceAdd, Nat.reduceSub, Nat.reduceMul, Nat.reduceLeDiff, Nat.reduceEqDiff, Int.reduceLT, Int.reduceLE, Int.reduceEq, Int.reduceNe, Int.reduceAdd, Int.reduceSub, Int.reduceMul, Int.reduceNeg, Int.reduceToNat, reduceCtorEq, e1, e3, tl, shws_len, shw_len ox, shw_take ox, shw_strip, AV.cells]
      rw [show List.map shwE.v (l.take i) ++ [AV.agg (shwC x)] = List.map shwE.v (l.take (i + 1)) by rw [tk]; simp]
      refine ⟨(fun y hy => by rw [List.mem_singleton.1 hy]; exact ⟨rfl, l1⟩), .inl trivial, .inl trivial, by omega, by omega, ⟨by omega, by omega⟩, i + 1, by dsimp only; omega, by dsimp only; omega, ?_⟩
      refine weak_cutS 2 (by decide) rfl ?_ ?_
      · simp [AObj.low]
      · simp [WeakL, AV.low, lows, lows_shws, -List.map_take]
    · obtain rfl : i = l.length := by omega
      simp (maxSteps := 2000000) -implicitDefEqProofs only [RS, RX, Nat.reduceLT, ↓RP0, ↓RP1, ↓RP2, ↓RP3, RV, RW, ↓reduceIte, Nat.reduceAdd, Nat.reduceSub, Nat.reduceMul, Nat.reduceLeDiff, Nat.reduceEqDiff, Int.reduceLT, Int.reduceLE, Int.reduceEq, Int.reduceNe, Int.reduceAdd, Int.reduceSub, Int.reduceMul, Int.reduceNeg, Int.reduceToNat, reduceCtorEq, Int.lt_irrefl, tl, shws_len]
      rw [List.take_length]
theorem qStr {e : Edt} (h : EdOk e) {K : AV → Prop} : qB .toStr [dataV e] K = K (T e.data) := by
  unfold dataV
  split
  · rw [bytesV, qB_toStr, bytesOf_map]; rfl
  · rename_i hk
    rw [h.del hk, qB_toStr]; rfl
def c17 : ACode := (.seq (.reg false 0 [⟨(.some 4), none, (.q .mv), [(.c (.imm (.bool false)))]⟩]) (.seq (.seq (.reg false 0 [⟨(.some 6), none, (.q .mv), [(.t 0)]⟩, ⟨(.some 7), none, (.q .lenL), [(.t 6)]⟩, ⟨(.some 8), none, (.q .mv), [(.t 1)]⟩, ⟨(.some 9), none, (.q .lenL), [(.t 8)]⟩, ⟨(.some 10), none, (.q (.bin .neq 3)), [(.t 7), (.t 9)]⟩]) (.cond (.t 10) (.seq (.reg false 0 [⟨(.some 4), none, (.q .mv), [(.c (.imm (.bool false)))]⟩]) .ret) .skip)) (.seq (.seq (.reg false 0 [⟨(.some 5), none, (.q .mv), [(.c (.imm (.int .i64 0)))]⟩]) (.block 0 (.loop (.seq (.seq (.reg false 0 [⟨(.some 11), none, (.q .mv), [(.t 5)]⟩, ⟨(.some 12), none, (.q .mv), [(.t 0)]⟩, ⟨(.some 13), none, (.q .lenL), [(.t 12)]⟩, ⟨(.some 14), none, (.q (.bin .lss 3)), [(.t 11), (.t 13)]⟩]) (.cond (.t 14) .skip (.exit 0))) (.seq (.block 1 (.seq (.reg true 0 [⟨(.some 17), none, (.q .mv), [(.t 0)]⟩, ⟨(.some 18), none, (.q .mv), [(.t 5)]⟩, ⟨(.some 19), none, (.q (.iaddrS 3)), [(.t 17), (.t 18)]⟩, ⟨(.some 20), none, (.q (.faddr 0)), [(.t 19)]⟩, ⟨(.some 21), none, (.l .load1), [(.t 20)]⟩, ⟨(.some 22), none, (.q .mv), [(.t 1)]⟩, ⟨(.some 23), none, (.q .mv), [(.t 5)]⟩, ⟨(.some 24), none, (.q (.iaddrS 3)), [(.t 22), (.t 23)]⟩, ⟨(.some 25), none, (.q (.faddr 0)), [(.t 24)]⟩, ⟨(.some 26), none, (.l .load1), [(.t 25)]⟩, ⟨(.some 27), none, (.q (.bin .neq 3)), [(.t 21), (.t 26)]⟩, ⟨(.some 28), none, (.q .mv), [(.t 27)]⟩, ⟨(.some 29), (.some (28, false)), (.q .mv), [(.t 0)]⟩, ⟨(.some 30), (.some (28, false)), (.q .mv), [(.t 5)]⟩, ⟨(.some 31), (.some (28, false)), (.q (.iaddrS 3)), [(.t 29), (.t 30)]⟩, ⟨(.some 32), (.some (28, false)), (.q (.faddr 1)), [(.t 31)]⟩, ⟨(.some 33), (.some (28, false)), (.l .load1), [(.t 32)]⟩, ⟨(.some 34), (.some (28, false)), (.q .mv), [(.t 1)]⟩, ⟨(.some 35), (.some (28, false)), (.q .mv), [(.t 5)]⟩, ⟨(.some 36), (.some (28, false)), (.q (.iaddrS 3)), [(.t 34), (.t 35)]⟩, ⟨(.some 37), (.some (28, false)), (.q (.faddr 1)), [(.t 36)]⟩, ⟨(.some 38), (.some (28, false)), (.l .load1), [(.t 37)]⟩, ⟨(.some 39), (.some (28, false)), (.q (.bin .neq 9)), [(.t 33), (.t 38)]⟩, ⟨(.some 40), none, (.q .pick), [(.t 28), (.c (.imm (.bool true))), (.t 39)]⟩, ⟨(.some 41), none, (.q .mv), [(.t 40)]⟩, ⟨(.some 42), (.some (41, false)), (.q .mv), [(.t 0)]⟩, ⟨(.some 43), (.some (41, false)), (.q .mv), [(.t 5)]⟩, ⟨(.some 44), (.some (41, false)), (.q (.iaddrS 3)), [(.t 42), (.t 43)]⟩, ⟨(.some 45), (.some (41, false)), (.q (.faddr 2)), [(.t 44)]⟩, ⟨(.some 46), (.some (41, false)), (.l .load1), [(.t 45)]⟩, ⟨(.some 47), (.some (41, false)), (.q .toStr), [(.t 46)]⟩, ⟨(.some 48), (.some (41, false)), (.q .mv), [(.t 1)]⟩, ⟨(.some 49), (.some (41, false)), (.q .mv), [(.t 5)]⟩, ⟨(.some 50), (.some (41, false)), (.q (.iaddrS 3)), [(.t 48), (.t 49)]⟩, ⟨(.some 51), (.some (41, false)), (.q (.faddr 2)), [(.t 50)]⟩, ⟨(.some 52), (.some (41, false)), (.l .load1), [(.t 51)]⟩, ⟨(.some 53), (.some (41, false)), (.q .toStr), [(.t 52)]⟩, ⟨(.some 54), (.some (41, false)), (.q (.bin .neq 9)), [(.t 47), (.t 53)]⟩, ⟨(.some 55), none, (.q .pick), [(.t 41), (.c (.imm (.bool true))), (.t 54)]⟩]) (.cond (.t 55) (.seq (.reg false 0 [⟨(.some 4), none, (.q .mv), [(.c (.imm (.bool false)))]⟩]) .ret) .skip))) (.reg false 0 [⟨(.some 15), none, (.q .mv), [(.t 5)]⟩, ⟨(.some 16), none, (.q (.bin .add 3)), [(.t 15), (.c (.imm (.int .i64 1)))]⟩, ⟨(.some 5), none, (.q .mv), [(.t 16)]⟩])))))) (.seq (.reg false 0 [⟨(.some 4), none, (.q .mv), [(.c (.imm (.bool true)))]⟩]) .ret))))
theorem fn17 : IsFn Tryz.prog 17 [] c17 [4] 56 := ⟨_, _, Tryz.func17, rfl, by decide +kernel, by kernel_rfl, rfl, rfl⟩
set_option maxHeartbeats 4000000 in
theorem p17 (l : List Edt) (ho : edE.all l) (hs : l.length ≤ 1099511627) : Pure Tryz.prog G 17 [edsV l, edsV l] (bool true) := by
  refine pure_of_code' (S := sp [] []) hm hG (sp_holds .nil .nil) fn17 (St 6 56 [edsV l, edsV l, .junk, .junk, .junk, .junk] []) (by kernel_rfl) ⟨⟨lows_eds 0 l, fun k hk => by cases hk⟩, ⟨lows_eds 0 l, fun k hk => by cases hk⟩, trivial⟩ (by simp [AV.low]) ?_
  simp (maxSteps := 2000000) -implicitDefEqProofs only [c17, RS, RX, Nat.reduceLT, ↓RP0, ↓RP1, ↓RP2, ↓RP3, RV, RW, ↓reduceIte, Nat.reduceAdd, Nat.reduceSub, Nat.reduceMul, Nat.reduceLeDiff, Nat.reduceEqDiff, Int.reduceLT, Int.reduceLE, Int.reduceEq, Int.reduceNe, Int.reduceAdd, Int.reduceSub, Int.reduceMul, Int.reduceNeg, Int.reduceToNat, reduceCtorEq, eds_len]
  refine loopB (st := fun (i : Nat) => (St 6 56 [edsV l, edsV l, .junk, .junk, bool false, i64 i] [])) (hp := fun _ => []) (I := fun i => i ≤ l.length) (m := fun i => l.length - i) (0 : Nat) (Nat.zero_le _) ?_ ?_
  · refine weak_nilS ?_
    simp [WeakL, AV.low, lows, lows_eds]
  · intro i hi
    by_cases hlt : i < l.length
    · have e1 := eds_get hlt
      have e3 : ((i : Int) < (l.length : Int)) = True := eq_true (by omega)
      have ox : EdOk (l.getD i edE.d0) := edE.all_getD ho hlt
      generalize l.getD i edE.d0 = x at *
      have q : ∀ K, qB .toStr [dataV x] K = K (T x.data) := fun K => qStr ox
      simp (maxSteps := 2000000) -implicitDefEqProofs only [RS, RX, Nat.reduceLT, ↓RP0, ↓RP1, ↓RP2, ↓RP3, RV, RW, ↓reduceIte, Nat.reduceAdd, Nat.reduceSub, Nat.reduceMul, Nat.reduceLeDiff, Nat.reduceEqDiff, Int.reduceLT, Int.reduceLE, Int.reduceEq, Int.reduceNe, Int.reduceAdd, Int.reduceSub, Int.reduceMul, Int.reduceNeg, Int.reduceToNat, reduceCtorEq, e1, e3, ↓q, q, eds_len, ed_len, ed0, ed1, ed2, ed_take, ed_strip, AV.cells]
      refine ⟨⟨by omega, by omega⟩, i + 1, by dsimp only; omega, by dsimp only; omega, ?_⟩
      refine weak_nilS ?_
      simp [WeakL, AV.low, lows, lows_eds]
    · obtain rfl : i = l.length := by omega
      simp (maxSteps := 2000000) -implicitDefEqProofs only [RS, RX, Nat.reduceLT, ↓RP0, ↓RP1, ↓RP2, ↓RP3, RV, RW, ↓reduceIte, Nat.reduceAdd, Nat.reduceSub, Nat.reduceMul, Nat.reduceLeDiff, Nat.reduceEqDiff, Int.reduceLT, Int.reduceLE, Int.reduceEq, Int.reduceNe, Int.reduceAdd, Int.reduceSub, Int.reduceMul, Int.reduceNeg, Int.reduceToNat, reduceCtorEq, Int.lt_irrefl, eds_len]
end Go.AL.Path

/- What a user did: the reference's. -/
set_option linter.unusedSimpArgs false
set_option linter.unusedVariables false
set_option maxRecDepth 100000
namespace Go.AL.Path
open Go Go.RowKit Go.Proofs Go.AL
abbrev findSp : PSp := spOn (fun x : List Fil × List UInt8 => [filsV x.1, T x.2]) (fun x => filE.all x.1 ∧ x.1.length ≤ 1099511627 ∧ x.2.length ≤ 1099511627) (fun x => foundV x.1 x.2)
theorem told_find16 : Told Tryz.prog G 16 findSp := told_spOn fun x h => p16 x.1 x.2 h.1 h.2.1 h.2.2
theorem ask_findSp {t : List Fil} {p : List UInt8} (ho : filE.all t) (hs : t.length ≤ 1099511627) (hp : p.length ≤ 1099511627) {K} : ask findSp [filsV t, T p] K = K (foundV t p) :=
  ask_spOn (x := (t, p)) (fun x y hx hy he => by
    injection he with h1 h2
    injection h2 with h2 _
    exact Prod.ext (fils_inj1 hx.1 hy.1 h1) (T_inj.1 h2)) ⟨ho, hs, hp⟩ rfl
def scanV (l : List Shw) (t : List Fil) : AV := if mayR t = true then .tup [outE (scanR l t), i64 0] else .tup [.sl 0 [] none, i64 9]
theorem putsOf_snoc {l : List Shw} {t : List Fil} {x : Fil} : putsOf l (t ++ [x]) = putsOf l t ++ pick (wants l x) (putE x) := by
  unfold putsOf pick
  rw [List.filter_append]
  by_cases h : wants l x = true
  · rw [if_pos h]; simp [h]
  · rw [if_neg h]; simp [h]
theorem delsOf_snoc {l : List Shw} {t : List Fil} {x : Shw} : delsOf (l ++ [x]) t = delsOf l t ++ pick (lost t x) (delE x) := by
  unfold delsOf pick
  rw [List.filter_append]
  by_cases h : lost t x = true
  · rw [if_pos h]; simp [h]
  · rw [if_neg h]; simp [h]
theorem puts_all {l : List Shw} {t : List Fil} (h : filE.all t) : edE.all (putsOf l t) := fun e he => by
  obtain ⟨f, hf, rfl⟩ := List.mem_map.1 he
  exact putE_ok (h f (List.mem_filter.1 hf).1)
theorem dels_all {l : List Shw} {t : List Fil} (h : shwE.all l) : edE.all (delsOf l t) := fun e he => by
  obtain ⟨f, hf, rfl⟩ := List.mem_map.1 he
  exact delE_ok (h f (List.mem_filter.1 hf).1)
theorem puts_len (l : List Shw) (t : List Fil) : (putsOf l t).length ≤ t.length := by unfold putsOf; rw [List.length_map]; exact List.length_filter_le _ _
theorem dels_len (l : List Shw) (t : List Fil) : (delsOf l t).length ≤ l.length := by unfold delsOf; rw [List.length_map]; exact List.length_filter_le _ _
theorem sortE_all {l : List Edt} (h : edE.all l) : edE.all (sortS Edt.path l) := fun x hx => h x (sortS_mem.1 hx)
theorem insR_ne (x : Edt) (l : List Edt) : insR Edt.path x l ≠ [] := fun h => by have := insR_len x l; rw [h] at this; simp at this
def scan1 (l : List Shw) (t : List Fil) (i : Nat) : List Edt := sortS Edt.path (putsOf l (t.take i))
def scan2 (l : List Shw) (t : List Fil) (i : Nat) : List Edt := sortS Edt.path (putsOf l t ++ delsOf (l.take i) t)
theorem scan1_step {l : List Shw} {t : List Fil} {i : Nat} (h : i < t.length) : scan1 l t (i + 1) = if wants l (t.getD i filE.d0) = true then insR Edt.path (putE (t.getD i filE.d0)) (scan1 l t i) else scan1 l t i := by
  unfold scan1
  rw [take_get (d := filE.d0) h, putsOf_snoc]
  unfold pick
  split
  · rw [sortS_snoc]
  · rw [List.append_nil]
theorem scan2_step {l : List Shw} {t : List Fil} {i : Nat} (h : i < l.length) : scan2 l t (i + 1) = if lost t (l.getD i d36) = true then insR Edt.path (delE (l.getD i d36)) (scan2 l t i) else scan2 l t i := by
  unfold scan2
  rw [take_get (d := d36) h, delsOf_snoc]
  unfold pick
  split
  · rw [← List.append_assoc, sortS_snoc]
  · rw [List.append_nil]
theorem scan12 (l : List Shw) (t : List Fil) : scan1 l t t.length = scan2 l t 0 := by unfold scan1 scan2; rw [List.take_length]; simp [delsOf]
theorem scan2_fin (l : List Shw) (t : List Fil) : scan2 l t l.length = scanR l t := by unfold scan2 scanR; rw [List.take_length]
theorem scan1_len (l : List Shw) (t : List Fil) (i : Nat) : (scan1 l t i).length ≤ t.length := by
  unfold scan1; rw [sortS_length]
  have h1 := puts_len l (t.take i)
  have h2 : (t.take i).length ≤ t.length := by rw [List.length_take]; omega
  omega
theorem scan2_len (l : List Shw) (t : List Fil) (i : Nat) : (scan2 l t i).length ≤ l.length + t.length := by
  unfold scan2; rw [sortS_length, List.length_append]
  have h1 := puts_len l t
  have h2 := dels_len (l.take i) t
  have h3 : (l.take i).length ≤ l.length := by rw [List.length_take]; omega
  omega
theorem scan1_all {l : List Shw} {t : List Fil} (h : filE.all t) (i : Nat) : edE.all (scan1 l t i) := sortE_all (puts_all fun x hx => h x (List.mem_of_mem_take hx))
theorem scan2_all {l : List Shw} {t : List Fil} (hl : shwE.all l) (h : filE.all t) (i : Nat) : edE.all (scan2 l t i) := sortE_all fun x hx => (List.mem_append.1 hx).elim (puts_all h x) (dels_all (fun y hy => hl y (List.mem_of_mem_take hy)) x)
theorem scan1_srt (l : List Shw) (t : List Fil) (i : Nat) : Srt Edt.path (scan1 l t i) := sortS_srt _
theorem scan2_srt (l : List Shw) (t : List Fil) (i : Nat) : Srt Edt.path (scan2 l t i) := sortS_srt _
def c13 : ACode := (.seq (.reg false 0 [⟨(.some 4), none, (.q .mv), [(.c (.sl 0 [] none))]⟩, ⟨(.some 5), none, (.q .mv), [(.c (.imm (.int .i64 0)))]⟩]) (.seq (.seq (.reg false 0 [⟨(.some 13), none, (.q .mv), [(.t 1)]⟩, ⟨(.some 14), none, (.call true), [(.c (.fn (.func 20) [] [])), (.t 13)]⟩, ⟨(.some 15), none, (.q (.un .not)), [(.t 14)]⟩]) (.cond (.t 15) (.seq (.reg false 0 [⟨(.some 4), none, (.q .mv), [(.c (.sl 0 [] none))]⟩, ⟨(.some 5), none, (.q .mv), [(.c (.imm (.int .i64 9)))]⟩]) .ret) .skip)) (.seq (.reg false 0 [⟨(.some 6), none, (.q .mv), [(.c (.sl 0 [] none))]⟩]) (.seq (.seq (.reg false 0 [⟨(.some 7), none, (.q .mv), [(.c (.imm (.int .i64 0)))]⟩]) (.block 0 (.loop (.seq (.seq (.reg false 0 [⟨(.some 16), none, (.q .mv), [(.t 7)]⟩, ⟨(.some 17), none, (.q .mv), [(.t 1)]⟩, ⟨(.some 18), none, (.q .lenL), [(.t 17)]⟩, ⟨(.some 19), none, (.q (.bin .lss 3)), [(.t 16), (.t 18)]⟩]) (.cond (.t 19) .skip (.exit 0))) (.seq (.block 1 (.seq (.reg false 1 [⟨(.some 23), none, (.q .mv), [(.t 0)]⟩, ⟨(.some 24), none, (.q .mv), [(.t 1)]⟩, ⟨(.some 25), none, (.q .mv), [(.t 7)]⟩, ⟨(.some 26), none, (.q (.iaddrS 2)), [(.t 24), (.t 25)]⟩, ⟨(.some 27), none, (.q (.faddr 0)), [(.t 26)]⟩, ⟨(.some 28), none, (.l .load1), [(.t 27)]⟩, ⟨(.some 29), none, (.call true), [(.c (.fn (.func 33) [] [])), (.t 23), (.t 28)]⟩, ⟨(.some 22), none, (.q .mv), [(.t 29)]⟩, ⟨(.some 30), none, (.q (.ext 0)), [(.t 22)]⟩, ⟨(.some 31), none, (.q (.ext 1)), [(.t 22)]⟩, ⟨(.some 8), none, (.m (.alloc [(.imm (.string (B []))), (.imm (.int .i64 0)), (.imm (.int .i64 0)), (.imm (.int .u8 0)), (.imm (.int .u8 0)), (.imm (.int .u8 0)), (.imm (.int .u8 0)), (.imm (.int .u8 0)), (.imm (.int .u8 0)), (.imm (.int .u8 0)), (.imm (.int .u8 0)), (.imm (.int .u8 0)), (.imm (.int .u8 0)), (.imm (.int .u8 0)), (.imm (.int .u8 0)), (.imm (.int .u8 0)), (.imm (.int .u8 0)), (.imm (.int .u8 0)), (.imm (.int .u8 0)), (.imm (.int .u8 0)), (.imm (.int .u8 0)), (.imm (.int .u8 0)), (.imm (.int .u8 0)), (.imm (.int .u8 0)), (.imm (.int .u8 0)), (.imm (.int .u8 0)), (.imm (.int .u8 0)), (.imm (.int .u8 0)), (.imm (.int .u8 0)), (.imm (.int .u8 0)), (.imm (.int .u8 0)), (.imm (.int .u8 0)), (.imm (.int .u8 0)), (.imm (.int .u8 0)), (.imm (.int .u8 0)), (.imm (.int .i64 0))] false) 0), []⟩, ⟨none, none, (.e (.store 36)), [(.t 8), (.t 30)]⟩, ⟨(.some 9), none, (.q .mv), [(.t 31)]⟩]) (.seq (.reg true 0 [⟨(.some 32), none, (.q .mv), [(.t 1)]⟩, ⟨(.some 33), none, (.q .mv), [(.t 7)]⟩, ⟨(.some 34), none, (.q (.iaddrS 2)), [(.t 32), (.t 33)]⟩, ⟨(.some 35), none, (.q (.faddr 0)), [(.t 34)]⟩, ⟨(.some 36), none, (.l .load1), [(.t 35)]⟩, ⟨(.some 37), none, (.call true), [(.c (.fn (.func 12) [] [])), (.t 36)]⟩, ⟨(.some 38), none, (.q .mv), [(.t 37)]⟩, ⟨(.some 39), (.some (38, true)), (.q .mv), [(.t 9)]⟩, ⟨(.some 40), (.some (38, true)), (.q (.un .not)), [(.t 39)]⟩, ⟨(.some 41), (.some (38, true)), (.q .mv), [(.t 40)]⟩, ⟨(.some 42), (.some (41, false)), (.l (.loadA 36)), [(.t 8)]⟩, ⟨(.some 43), (.some (41, false)), (.q .mv), [(.t 1)]⟩, ⟨(.some 44), (.some (41, false)), (.q .mv), [(.t 7)]⟩, ⟨(.some 45), (.some (41, false)), (.q (.iaddrS 2)), [(.t 43), (.t 44)]⟩, ⟨(.some 46), (.some (41, false)), (.q (.faddr 1)), [(.t 45)]⟩, ⟨(.some 47), (.some (41, false)), (.l .load1), [(.t 46)]⟩, ⟨(.some 48), (.some (41, false)), (.call true), [(.c (.fn (.func 34) [] [])), (.t 42), (.t 47)]⟩, ⟨(.some 49), (.some (41, false)), (.q (.un .not)), [(.t 48)]⟩, ⟨(.some 50), (.some (38, true)), (.q .pick), [(.t 41), (.c (.imm (.bool true))), (.t 49)]⟩, ⟨(.some 51), none, (.q .pick), [(.t 38), (.t 50), (.c (.imm (.bool false)))]⟩]) (.cond (.t 51) (.reg true 0 [⟨(.some 52), none, (.q .mv), [(.t 6)]⟩, ⟨(.some 53), none, (.q .mv), [(.t 1)]⟩, ⟨(.some 54), none, (.q .mv), [(.t 7)]⟩, ⟨(.some 55), none, (.q (.iaddrS 2)), [(.t 53), (.t 54)]⟩, ⟨(.some 56), none, (.q (.faddr 0)), [(.t 55)]⟩, ⟨(.some 57), none, (.l .load1), [(.t 56)]⟩, ⟨(.some 58), none, (.q .mv), [(.t 1)]⟩, ⟨(.some 59), none, (.q .mv), [(.t 7)]⟩, ⟨(.some 60), none, (.q (.iaddrS 2)), [(.t 58), (.t 59)]⟩, ⟨(.some 61), none, (.q (.faddr 1)), [(.t 60)]⟩, ⟨(.some 62), none, (.l .load1), [(.t 61)]⟩, ⟨(.some 63), none, (.q (.build [(.imm (.int .i64 0)), (.imm (.string (B []))), (.sl 0 [] none)] [(0, 1), (1, 1), (2, 1)])), [(.c (.imm (.int .i64 1))), (.t 57), (.t 62)]⟩, ⟨(.some 64), none, (.call true), [(.c (.fn (.func 35) [] [])), (.t 52), (.t 63)]⟩, ⟨(.some 6), none, (.q .mv), [(.t 64)]⟩]) .skip)))) (.reg false 0 [⟨(.some 20), none, (.q .mv), [(.t 7)]⟩, ⟨(.some 21), none, (.q (.bin .add 3)), [(.t 20), (.c (.imm (.int .i64 1)))]⟩, ⟨(.some 7), none, (.q .mv), [(.t 21)]⟩])))))) (.seq (.seq (.reg false 0 [⟨(.some 10), none, (.q .mv), [(.c (.imm (.int .i64 0)))]⟩]) (.block 2 (.loop (.seq (.seq (.reg false 0 [⟨(.some 65), none, (.q .mv), [(.t 10)]⟩, ⟨(.some 66), none, (.q .mv), [(.t 0)]⟩, ⟨(.some 67), none, (.q .lenL), [(.t 66)]⟩, ⟨(.some 68), none, (.q (.bin .lss 3)), [(.t 65), (.t 67)]⟩]) (.cond (.t 68) .skip (.exit 2))) (.seq (.block 3 (.seq (.reg false 0 [⟨(.some 72), none, (.q .mv), [(.t 1)]⟩, ⟨(.some 73), none, (.q .mv), [(.t 0)]⟩, ⟨(.some 74), none, (.q .mv), [(.t 10)]⟩, ⟨(.some 75), none, (.q (.iaddrS 36)), [(.t 73), (.t 74)]⟩, ⟨(.some 76), none, (.q (.faddr 0)), [(.t 75)]⟩, ⟨(.some 77), none, (.l .load1), [(.t 76)]⟩, ⟨(.some 78), none, (.call true), [(.c (.fn (.func 16) [] [])), (.t 72), (.t 77)]⟩, ⟨(.some 71), none, (.q .mv), [(.t 78)]⟩, ⟨(.some 79), none, (.q (.ext 0)), [(.t 71)]⟩, ⟨(.some 80), none, (.q (.ext 1)), [(.t 71)]⟩, ⟨(.some 11), none, (.q .mv), [(.t 79)]⟩, ⟨(.some 12), none, (.q .mv), [(.t 80)]⟩]) (.seq (.reg false 0 [⟨(.some 81), none, (.q .mv), [(.t 0)]⟩, ⟨(.some 82), none, (.q .mv), [(.t 10)]⟩, ⟨(.some 83), none, (.q (.iaddrS 36)), [(.t 81), (.t 82)]⟩, ⟨(.some 84), none, (.q (.faddr 0)), [(.t 83)]⟩, ⟨(.some 85), none, (.l .load1), [(.t 84)]⟩, ⟨(.some 86), none, (.call true), [(.c (.fn (.func 12) [] [])), (.t 85)]⟩, ⟨(.some 87), none, (.q .mv), [(.t 86)]⟩, ⟨(.some 88), (.some (87, true)), (.q .mv), [(.t 12)]⟩, ⟨(.some 89), (.some (87, true)), (.q (.un .not)), [(.t 88)]⟩, ⟨(.some 90), none, (.q .pick), [(.t 87), (.t 89), (.c (.imm (.bool false)))]⟩]) (.cond (.t 90) (.reg false 0 [⟨(.some 91), none, (.q .mv), [(.t 6)]⟩, ⟨(.some 92), none, (.q .mv), [(.t 0)]⟩, ⟨(.some 93), none, (.q .mv), [(.t 10)]⟩, ⟨(.some 94), none, (.q (.iaddrS 36)), [(.t 92), (.t 93)]⟩, ⟨(.some 95), none, (.q (.faddr 0)), [(.t 94)]⟩, ⟨(.some 96), none, (.l .load1), [(.t 95)]⟩, ⟨(.some 97), none, (.q (.build [(.imm (.int .i64 0)), (.imm (.string (B []))), (.sl 0 [] none)] [(0, 1), (1, 1)])), [(.c (.imm (.int .i64 2))), (.t 96)]⟩, ⟨(.some 98), none, (.call true), [(.c (.fn (.func 35) [] [])), (.t 91), (.t 97)]⟩, ⟨(.some 6), none, (.q .mv), [(.t 98)]⟩]) .skip)))) (.reg false 0 [⟨(.some 69), none, (.q .mv), [(.t 10)]⟩, ⟨(.some 70), none, (.q (.bin .add 3)), [(.t 69), (.c (.imm (.int .i64 1)))]⟩, ⟨(.some 10), none, (.q .mv), [(.t 70)]⟩])))))) (.seq (.reg false 0 [⟨(.some 99), none, (.q .mv), [(.t 6)]⟩, ⟨(.some 4), none, (.q .mv), [(.t 99)]⟩, ⟨(.some 5), none, (.q .mv), [(.c (.imm (.int .i64 0)))]⟩]) .ret))))))
theorem fn13 : IsFn Tryz.prog 13 [] c13 [4, 5] 100 := ⟨_, _, Tryz.func13, rfl, by decide +kernel, by kernel_rfl, rfl, rfl⟩
set_option maxHeartbeats 8000000 in
theorem p13 (l : List Shw) (t : List Fil) (hl : shwE.all l) (ho : filE.all t) (hs : l.length + t.length ≤ 1099511627) : Pure Tryz.prog G 13 [shwsV l, filsV t] (scanV l t) := by
  refine pure_of_code' (S := sp [(20, fil1b mayR), (33, mainSp), (12, ownS), (34, fitSp), (35, putSp), (16, findSp)] []) hm hG
    (sp_holds (.cons (told_spOnB fun l h => p20c l h.1 h.2) (.cons told_main33 (.cons (told_txt1b p12) (.cons told_fit34 (.cons told_put35 (.cons told_find16 .nil)))))) .nil) fn13
    (St 13 100 [shwsV l, filsV t, .junk, .junk, .junk, .junk, .junk, .junk, .junk, .junk, .junk, .junk, .junk] []) (by kernel_rfl) ⟨⟨lows_shws 0 l, fun k hk => by cases hk⟩, ⟨lows_fils 0 t, fun k hk => by cases hk⟩, trivial⟩ (by unfold scanV; split <;> simp [AV.low, lows, outE_low]) ?_
  have fo : Fils 1099511627 t := ⟨ho, by omega⟩
  cases hmay : mayR t with
  | false =>
    have q20 : ∀ K, ask (fil1b mayR) [filsV t] K = K (bool false) := fun K => (ask_fil1b (f := mayR) (K := K) fo).trans (by rw [hmay]; simp [splitB_eq, SplitP])
    have hv : scanV l t = .tup [.sl 0 [] none, i64 9] := by unfold scanV; rw [if_neg (by rw [hmay]; decide)]
    rw [hv]
    simp (maxSteps := 2000000) -implicitDefEqProofs only [c13, RS, RX, Nat.reduceLT, ↓RP0, ↓RP1, ↓RP2, ↓RP3, RV, RW, ↓reduceIte, Nat.reduceAdd, Nat.reduceSub, Nat.reduceMul, Nat.reduceLeDiff, Nat.reduceEqDiff, Int.reduceLT, Int.reduceLE, Int.reduceEq, Int.reduceNe, Int.reduceAdd, Int.reduceSub, Int.reduceMul, Int.reduceNeg, Int.reduceToNat, reduceCtorEq, ↓q20, q20]
  | true =>
    have q20 : ∀ K, ask (fil1b mayR) [filsV t] K = K (bool true) := fun K => (ask_fil1b (f := mayR) (K := K) fo).trans (by rw [hmay]; simp [splitB_eq, SplitP])
    have hv : scanV l t = .tup [outE (scanR l t), i64 0] := by unfold scanV; rw [if_pos hmay]
    rw [hv]
    simp (maxSteps := 2000000) -implicitDefEqProofs only [c13, RS, RX, Nat.reduceLT, ↓RP0, ↓RP1, ↓RP2, ↓RP3, RV, RW, ↓reduceIte, Nat.reduceAdd, Nat.reduceSub, Nat.reduceMul, Nat.reduceLeDiff, Nat.reduceEqDiff, Int.reduceLT, Int.reduceLE, Int.reduceEq, Int.reduceNe, Int.reduceAdd, Int.reduceSub, Int.reduceMul, Int.reduceNeg, Int.reduceToNat, reduceCtorEq, ↓q20, q20]
    refine loopB (st := fun (i : Nat) => (St 13 100 [shwsV l, filsV t, .junk, .junk, .sl 0 [] none, i64 0, outE (scan1 l t i), i64 i, .junk, .junk, .junk, .junk, .junk] [])) (hp := fun _ => []) (I := fun i => i ≤ t.length) (m := fun i => t.length - i) (0 : Nat) (Nat.zero_le _) ?_ ?_
    · refine weak_nilS ?_
      have h0 : outE (scan1 l t 0) = .sl 0 [] none := by simp [scan1, putsOf, sortS, outE]
      rw [h0]
      simp [WeakL, AV.low, lows, lows_fils, lows_shws]
    · intro i hi
      have sl1 := scan1_len l t i
      have sa1 := scan1_all (l := l) ho i
      have ss1 := scan1_srt l t i
      by_cases hlt : i < t.length
      · have e1 := filE.vs_get hlt
        have e3 : ((i : Int) < (t.length : Int)) = True := eq_true (by omega)
        have ox : FilOk (t.getD i filE.d0) := filE.all_getD ho hlt
        have hstep := scan1_step (l := l) hlt
        generalize t.getD i filE.d0 = x at *
        change _ = AV.agg (filC x) at e1
        have q33 : ∀ K, ask mainSp [shwsV l, T x.path] K = K (mainV l x.path) := fun K => ask_mainSp hl (by omega) ox.path
        have goOn : ∀ (ov : List (Nat × AV)) (a b : AV) (H : List AObj) (o : AV), o = outE (scan1 l t (i + 1)) → Again 0 (fun (i : Nat) => (St 13 100 [shwsV l, filsV t, .junk, .junk, .sl 0 [] none, i64 0, outE (scan1 l t i), i64 i, .junk, .junk, .junk, .junk, .junk] [])) (fun _ => []) (fun i => i ≤ t.length) (fun i => t.length - i) i
            (St 13 100 [shwsV l, filsV t, .junk, .junk, .sl 0 [] none, i64 0, o, i64 ((i : Int) + 1), a, b, .junk, .junk, .junk] ov) H := by
          intro ov a b H o hX
          refine ⟨i + 1, by dsimp only; omega, by omega, ?_⟩
          dsimp only
          rw [hX]
          refine weak_cutS 0 (Nat.zero_le _) (by simp) (fun o ho => by cases ho) ?_
          simp [WeakL, AV.low, lows, lows_fils, lows_shws, outE_low]
        have ld : (shwC d36).length = 36 := shw_len d36_ok
        cases hm0 : mainS l x.path with
        | none =>
          have hm : mainV l x.path = .tup [.agg (shwC d36), bool false] := by unfold mainV; rw [hm0]
          rw [hm] at q33
          cases hown : ownP x.path with
          | true =>
            have hw : wants l x = true := by unfold wants; rw [hown, hm0]; rfl
            rw [if_pos hw] at hstep
            have q12 : ∀ K, ask ownS [T x.path] K = K (bool true) := fun K => by rw [ownS, ask_txt1b, hown]; simp [splitB_eq, SplitP, ox.path]
            have q35 : ∀ K, ask putSp [outE (scan1 l t i), .agg [i64 1, T x.path, bytesV x.data]] K = K (edsV (insR Edt.path (putE x) (scan1 l t i))) := fun K => ask_putSp (e := putE x) sa1 (putE_ok ox) ss1 (by omega)
            simp (maxSteps := 2000000) -implicitDefEqProofs only [RS, RX, Nat.reduceLT, ↓RP0, ↓RP1, ↓RP2, ↓RP3, RV, RW, ↓reduceIte, Nat.reduceAdd, Nat.reduceSub, Nat.reduceMul, Nat.reduceLeDiff, Nat.reduceEqDiff, Int.reduceLT, Int.reduceLE, Int.reduceEq, Int.reduceNe, Int.reduceAdd, Int.reduceSub, Int.reduceMul, Int.reduceNeg, Int.reduceToNat, reduceCtorEq, e1, e3, ↓q33, q33, ↓q12, q12, ↓q35, q35, fil_len, fil0, fil1', fil_take, fil_strip, fils_len, bytes_len, ld, outE_strip, AV.cells]
            exact ⟨⟨by omega, by omega⟩, goOn _ _ _ _ _ (by rw [hstep, outE_ne (insR_ne _ _)])⟩
          | false =>
            have hw : wants l x = false := by unfold wants; rw [hown]; rfl
            rw [if_neg (by rw [hw]; decide)] at hstep
            have q12 : ∀ K, ask ownS [T x.path] K = K (bool false) := fun K => by rw [ownS, ask_txt1b, hown]; simp [splitB_eq, SplitP, ox.path]
            simp (maxSteps := 2000000) -implicitDefEqProofs only [RS, RX, Nat.reduceLT, ↓RP0, ↓RP1, ↓RP2, ↓RP3, RV, RW, ↓reduceIte, Nat.reduceAdd, Nat.reduceSub, Nat.reduceMul, Nat.reduceLeDiff, Nat.reduceEqDiff, Int.reduceLT, Int.reduceLE, Int.reduceEq, Int.reduceNe, Int.reduceAdd, Int.reduceSub, Int.reduceMul, Int.reduceNeg, Int.reduceToNat, reduceCtorEq, e1, e3, ↓q33, q33, ↓q12, q12, fil_len, fil0, fil1', fil_take, fil_strip, fils_len, bytes_len, ld, outE_strip, AV.cells]
            exact ⟨⟨by omega, by omega⟩, goOn _ _ _ _ _ (by rw [hstep])⟩
        | some s =>
          have hm : mainV l x.path = .tup [.agg (shwC s), bool true] := by unfold mainV; rw [hm0]
          rw [hm] at q33
          have os : ShwOk s := hl s (List.mem_of_find?_eq_some hm0)
          have ls := shw_len os
          have ts := shw_take os
          cases hown : ownP x.path with
          | true =>
            cases hfit : fitS s x.data with
            | true =>
              have hw : wants l x = false := by unfold wants; rw [hown, hm0]; simp [hfit]
              rw [if_neg (by rw [hw]; decide)] at hstep
              have q12 : ∀ K, ask ownS [T x.path] K = K (bool true) := fun K => by rw [ownS, ask_txt1b, hown]; simp [splitB_eq, SplitP, ox.path]
              have q34 : ∀ K, ask fitSp [.agg (shwC s), bytesV x.data] K = K (bool true) := fun K => by rw [ask_fitSp os ox.data, hfit]; simp [splitB_eq, SplitP]
              simp (maxSteps := 2000000) -implicitDefEqProofs only [RS, RX, Nat.reduceLT, ↓RP0, ↓RP1, ↓RP2, ↓RP3, RV, RW, ↓reduceIte, Nat.reduceAdd, Nat.reduceSub, Nat.reduceMul, Nat.reduceLeDiff, Nat.reduceEqDiff, Int.reduceLT, Int.reduceLE, Int.reduceEq, Int.reduceNe, Int.reduceAdd, Int.reduceSub, Int.reduceMul, Int.reduceNeg, Int.reduceToNat, reduceCtorEq, e1, e3, ↓q33, q33, ↓q12, q12, ↓q34, q34, fil_len, fil0, fil1', fil_take, fil_strip, fils_len, bytes_len, ld, outE_strip, AV.cells, ls, ts, shw_strip]
              exact ⟨⟨by omega, by omega⟩, goOn _ _ _ _ _ (by rw [hstep])⟩
            | false =>
              have hw : wants l x = true := by unfold wants; rw [hown, hm0]; simp [hfit]
              rw [if_pos hw] at hstep
              have q12 : ∀ K, ask ownS [T x.path] K = K (bool true) := fun K => by rw [ownS, ask_txt1b, hown]; simp [splitB_eq, SplitP, ox.path]
              have q34 : ∀ K, ask fitSp [.agg (shwC s), bytesV x.data] K = K (bool false) := fun K => by rw [ask_fitSp os ox.data, hfit]; simp [splitB_eq, SplitP]
              have q35 : ∀ K, ask putSp [outE (scan1 l t i), .agg [i64 1, T x.path, bytesV x.data]] K = K (edsV (insR Edt.path (putE x) (scan1 l t i))) := fun K => ask_putSp (e := putE x) sa1 (putE_ok ox) ss1 (by omega)
              simp (maxSteps := 2000000) -implicitDefEqProofs only [RS, RX, Nat.reduceLT, ↓RP0, ↓RP1, ↓RP2, ↓RP3, RV, RW, ↓reduceIte, Nat.reduceAdd, Nat.reduceSub, Nat.reduceMul, Nat.reduceLeDiff, Nat.reduceEqDiff, Int.reduceLT, Int.reduceLE, Int.reduceEq, Int.reduceNe, Int.reduceAdd, Int.reduceSub, Int.reduceMul, Int.reduceNeg, Int.reduceToNat, reduceCtorEq, e1, e3, ↓q33, q33, ↓q12, q12, ↓q34, q34, ↓q35, q35, fil_len, fil0, fil1', fil_take, fil_strip, fils_len, bytes_len, ld, outE_strip, AV.cells, ls, ts, shw_strip]
              exact ⟨⟨by omega, by omega⟩, goOn _ _ _ _ _ (by rw [hstep, outE_ne (insR_ne _ _)])⟩
          | false =>
            have hw : wants l x = false := by unfold wants; rw [hown]; rfl
            rw [if_neg (by rw [hw]; decide)] at hstep
            have q12 : ∀ K, ask ownS [T x.path] K = K (bool false) := fun K => by rw [ownS, ask_txt1b, hown]; simp [splitB_eq, SplitP, ox.path]
            simp (maxSteps := 2000000) -implicitDefEqProofs only [RS, RX, Nat.reduceLT, ↓RP0, ↓RP1, ↓RP2, ↓RP3, RV, RW, ↓reduceIte, Nat.reduceAdd, Nat.reduceSub, Nat.reduceMul, Nat.reduceLeDiff, Nat.reduceEqDiff, Int.reduceLT, Int.reduceLE, Int.reduceEq, Int.reduceNe, Int.reduceAdd, Int.reduceSub, Int.reduceMul, Int.reduceNeg, Int.reduceToNat, reduceCtorEq, e1, e3, ↓q33, q33, ↓q12, q12, fil_len, fil0, fil1', fil_take, fil_strip, fils_len, bytes_len, ld, outE_strip, AV.cells, ls, ts, shw_strip]
            exact ⟨⟨by omega, by omega⟩, goOn _ _ _ _ _ (by rw [hstep])⟩
      · obtain rfl : i = t.length := by omega
        rw [scan12 l t]
        simp (maxSteps := 2000000) -implicitDefEqProofs only [RS, RX, Nat.reduceLT, ↓RP0, ↓RP1, ↓RP2, ↓RP3, RV, RW, ↓reduceIte, Nat.reduceAdd, Nat.reduceSub, Nat.reduceMul, Nat.reduceLeDiff, Nat.reduceEqDiff, Int.reduceLT, Int.reduceLE, Int.reduceEq, Int.reduceNe, Int.reduceAdd, Int.reduceSub, Int.reduceMul, Int.reduceNeg, Int.reduceToNat, reduceCtorEq, Int.lt_irrefl, fils_len]
        refine loopB (st := fun (i : Nat) => (St 13 100 [shwsV l, filsV t, .junk, .junk, .sl 0 [] none, i64 0, outE (scan2 l t i), .junk, .junk, .junk, i64 i, .junk, .junk] [])) (hp := fun _ => []) (I := fun i => i ≤ l.length) (m := fun i => l.length - i) (0 : Nat) (Nat.zero_le _) ?_ ?_
        · refine weak_nilS ?_
          simp [WeakL, AV.low, lows, lows_fils, lows_shws, outE_low]
        · clear sl1 sa1 ss1 hlt hi
          intro i hi
          have sl1 := scan2_len l t i
          have sa1 := scan2_all hl ho i
          have ss1 := scan2_srt l t i
          by_cases hlt : i < l.length
          · have e1 := shws_getD hlt
            have e3 : ((i : Int) < (l.length : Int)) = True := eq_true (by omega)
            have ox := shw_getD hl i
            have hstep := scan2_step (t := t) hlt
            generalize l.getD i d36 = x at *
            have lx := shw_len ox
            have q16 : ∀ K, ask findSp [filsV t, T x.path] K = K (foundV t x.path) := fun K => ask_findSp ho (by omega) ox.path
            have goOn : ∀ (ov : List (Nat × AV)) (a b c : AV) (H : List AObj) (o : AV), o = outE (scan2 l t (i + 1)) → Again 0 (fun (i : Nat) => (St 13 100 [shwsV l, filsV t, .junk, .junk, .sl 0 [] none, i64 0, outE (scan2 l t i), .junk, .junk, .junk, i64 i, .junk, .junk] [])) (fun _ => []) (fun i => i ≤ l.length) (fun i => l.length - i) i
                (St 13 100 [shwsV l, filsV t, .junk, .junk, .sl 0 [] none, i64 0, o, c, .junk, .junk, i64 ((i : Int) + 1), a, b] ov) H := by
              intro ov a b c H o hX
              refine ⟨i + 1, by dsimp only; omega, by omega, ?_⟩
              dsimp only
              rw [hX]
              refine weak_cutS 0 (Nat.zero_le _) (by simp) (fun o ho => by cases ho) ?_
              simp [WeakL, AV.low, lows, lows_fils, lows_shws, outE_low]
            cases hf : findF t x.path with
            | none =>
              have hv1 : foundV t x.path = .tup [.sl 0 [] none, bool false] := by unfold foundV; rw [hf]
              rw [hv1] at q16
              cases hown : ownP x.path with
              | true =>
                have hw : lost t x = true := by unfold lost; rw [hown, hf]; rfl
                rw [if_pos hw] at hstep
                have q12 : ∀ K, ask ownS [T x.path] K = K (bool true) := fun K => by rw [ownS, ask_txt1b, hown]; simp [splitB_eq, SplitP, ox.path]
                have q35 : ∀ K, ask putSp [outE (scan2 l t i), .agg [i64 2, T x.path, .sl 0 [] none]] K = K (edsV (insR Edt.path (delE x) (scan2 l t i))) := fun K => ask_putSp (e := delE x) sa1 (delE_ok ox) ss1 (by omega)
                simp (maxSteps := 2000000) -implicitDefEqProofs only [RS, RX, Nat.reduceLT, ↓RP0, ↓RP1, ↓RP2, ↓RP3, RV, RW, ↓reduceIte, Nat.reduceAdd, Nat.reduceSub, Nat.reduceMul, Nat.reduceLeDiff, Nat.reduceEqDiff, Int.reduceLT, Int.reduceLE, Int.reduceEq, Int.reduceNe, Int.reduceAdd, Int.reduceSub, Int.reduceMul, Int.reduceNeg, Int.reduceToNat, reduceCtorEq, e1, e3, ↓q16, q16, ↓q12, q12, ↓q35, q35, shws_len, lx, shw0, fils_len, bytes_len, outE_strip, AV.cells]
                exact ⟨⟨by omega, by omega⟩, goOn _ _ _ _ _ _ (by rw [hstep, outE_ne (insR_ne _ _)])⟩
              | false =>
                have hw : lost t x = false := by unfold lost; rw [hown]; rfl
                rw [if_neg (by rw [hw]; decide)] at hstep
                have q12 : ∀ K, ask ownS [T x.path] K = K (bool false) := fun K => by rw [ownS, ask_txt1b, hown]; simp [splitB_eq, SplitP, ox.path]
                simp (maxSteps := 2000000) -implicitDefEqProofs only [RS, RX, Nat.reduceLT, ↓RP0, ↓RP1, ↓RP2, ↓RP3, RV, RW, ↓reduceIte, Nat.reduceAdd, Nat.reduceSub, Nat.reduceMul, Nat.reduceLeDiff, Nat.reduceEqDiff, Int.reduceLT, Int.reduceLE, Int.reduceEq, Int.reduceNe, Int.reduceAdd, Int.reduceSub, Int.reduceMul, Int.reduceNeg, Int.reduceToNat, reduceCtorEq, e1, e3, ↓q16, q16, ↓q12, q12, shws_len, lx, shw0, fils_len, bytes_len, outE_strip, AV.cells]
                exact ⟨⟨by omega, by omega⟩, goOn _ _ _ _ _ _ (by rw [hstep])⟩
            | some f =>
              have hv1 : foundV t x.path = .tup [bytesV f.data, bool true] := by unfold foundV; rw [hf]
              rw [hv1] at q16
              cases hown : ownP x.path with
              | true =>
                have hw : lost t x = false := by unfold lost; rw [hown, hf]; rfl
                rw [if_neg (by rw [hw]; decide)] at hstep
                have q12 : ∀ K, ask ownS [T x.path] K = K (bool true) := fun K => by rw [ownS, ask_txt1b, hown]; simp [splitB_eq, SplitP, ox.path]
                simp (maxSteps := 2000000) -implicitDefEqProofs only [RS, RX, Nat.reduceLT, ↓RP0, ↓RP1, ↓RP2, ↓RP3, RV, RW, ↓reduceIte, Nat.reduceAdd, Nat.reduceSub, Nat.reduceMul, Nat.reduceLeDiff, Nat.reduceEqDiff, Int.reduceLT, Int.reduceLE, Int.reduceEq, Int.reduceNe, Int.reduceAdd, Int.reduceSub, Int.reduceMul, Int.reduceNeg, Int.reduceToNat, reduceCtorEq, e1, e3, ↓q16, q16, ↓q12, q12, shws_len, lx, shw0, fils_len, bytes_len, outE_strip, AV.cells]
                exact ⟨⟨by omega, by omega⟩, goOn _ _ _ _ _ _ (by rw [hstep])⟩
              | false =>
                have hw : lost t x = false := by unfold lost; rw [hown]; rfl
                rw [if_neg (by rw [hw]; decide)] at hstep
                have q12 : ∀ K, ask ownS [T x.path] K = K (bool false) := fun K => by rw [ownS, ask_txt1b, hown]; simp [splitB_eq, SplitP, ox.path]
                simp (maxSteps := 2000000) -implicitDefEqProofs only [RS, RX, Nat.reduceLT, ↓RP0, ↓RP1, ↓RP2, ↓RP3, RV, RW, ↓reduceIte, Nat.reduceAdd, Nat.reduceSub, Nat.reduceMul, Nat.reduceLeDiff, Nat.reduceEqDiff, Int.reduceLT, Int.reduceLE, Int.reduceEq, Int.reduceNe, Int.reduceAdd, Int.reduceSub, Int.reduceMul, Int.reduceNeg, Int.reduceToNat, reduceCtorEq, e1, e3, ↓q16, q16, ↓q12, q12, shws_len, lx, shw0, fils_len, bytes_len, outE_strip, AV.cells]
                exact ⟨⟨by omega, by omega⟩, goOn _ _ _ _ _ _ (by rw [hstep])⟩
          · obtain rfl : i = l.length := by omega
            simp (maxSteps := 2000000) -implicitDefEqProofs only [RS, RX, Nat.reduceLT, ↓RP0, ↓RP1, ↓RP2, ↓RP3, RV, RW, ↓reduceIte, Nat.reduceAdd, Nat.reduceSub, Nat.reduceMul, Nat.reduceLeDiff, Nat.reduceEqDiff, Int.reduceLT, Int.reduceLE, Int.reduceEq, Int.reduceNe, Int.reduceAdd, Int.reduceSub, Int.reduceMul, Int.reduceNeg, Int.reduceToNat, reduceCtorEq, Int.lt_irrefl, shws_len, outE_strip]
            rw [scan2_fin]
end Go.AL.Path
