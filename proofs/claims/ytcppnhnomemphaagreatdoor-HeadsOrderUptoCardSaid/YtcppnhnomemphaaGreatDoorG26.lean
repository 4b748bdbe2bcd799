/- Lists of events. -/
import Derived.Test.YtcppnhnomemphaaGreatDoorG25
set_option linter.unusedSimpArgs false
set_option linter.unusedVariables false
set_option maxRecDepth 100000
namespace Go.AL.Path
open Go Go.RowKit Go.Proofs Go.AL

abbrev evsV (l : List Ev) : AV := .sl 38 (l.map evV) none
abbrev AllOk (l : List Ev) : Prop := ∀ e ∈ l, EvOk e
def ev0d : Ev := ⟨0, 0, [], 0, [], List.replicate 32 0, 0⟩
theorem ev0d_ok : EvOk ev0d := ⟨by simp [Small, ev0d], by simp [ev0d], by simp [ev0d]⟩
theorem evs_len (l : List Ev) : (l.map evV).length = l.length := List.length_map _
theorem evs_get {l : List Ev} {i : Nat} (h : i < l.length) : (l.map evV).getD i .junk = evV (l.getD i ev0d) := by
  rw [List.getD_eq_getElem?_getD, List.getElem?_map, List.getD_eq_getElem?_getD, List.getElem?_eq_getElem h]; rfl
theorem evs_ok {l : List Ev} (ho : AllOk l) (i : Nat) : EvOk (l.getD i ev0d) := by
  rw [List.getD_eq_getElem?_getD]
  rcases Nat.lt_or_ge i l.length with h | h
  · rw [List.getElem?_eq_getElem h]; exact ho _ (List.getElem_mem h)
  · rw [List.getElem?_eq_none h]; exact ev0d_ok
theorem evs_take {l : List Ev} {i : Nat} (h : i < l.length) : l.take (i + 1) = l.take i ++ [l.getD i ev0d] := by
  rw [List.take_add_one, List.getD_eq_getElem?_getD, List.getElem?_eq_getElem h]; rfl
theorem lows_evs (n : Nat) (l : List Ev) : lows n (l.map evV) := by
  induction l with
  | nil => trivial
  | cons a l ih => exact ⟨lows_ev n a, ih⟩
theorem take38 {e : Ev} (h : EvOk e) : (evCells e).take 38 = evCells e := List.take_of_length_le (by rw [ev_len h.len]; exact Nat.le_refl _)

theorem ev_inj {e f : Ev} (he : EvOk e) (hf : EvOk f) (h : evV e = evV f) : e = f := by
  have h1 : evCells e = evCells f := by injection h
  have h2 := evOf_cells he.len
  rw [h1, evOf_cells hf.len] at h2
  exact (Option.some.inj h2).symm
theorem evs_inj : ∀ {a b : List Ev}, AllOk a → AllOk b → a.map evV = b.map evV → a = b
  | [], [], _, _, _ => rfl
  | [], _ :: _, _, _, h => by simp at h
  | _ :: _, [], _, _, h => by simp at h
  | e :: a, f :: b, ha, hb, h => by
    rw [List.map_cons, List.map_cons] at h
    obtain ⟨h1, h2⟩ := List.cons.inj h
    rw [ev_inj (ha e List.mem_cons_self) (hb f List.mem_cons_self) h1, evs_inj (fun x hx => ha x (List.mem_cons_of_mem _ hx)) (fun x hx => hb x (List.mem_cons_of_mem _ hx)) h2]

def evs2b (f : List Ev → List Ev → Bool) : PSp := fun args K => match args with
  | [.sl 38 xs none, .sl 38 ys none] => ∃ a b, xs = a.map evV ∧ ys = b.map evV ∧ AllOk a ∧ AllOk b ∧ a.length ≤ 1099511627776 ∧ splitB (f a b) K | _ => False
theorem ask_evs2b {f} {a b : List Ev} {K} (ha : AllOk a) (hb : AllOk b) : ask (evs2b f) [evsV a, evsV b] K = (a.length ≤ 1099511627776 ∧ splitB (f a b) K) := by
  show (∃ a' b', a.map evV = a'.map evV ∧ b.map evV = b'.map evV ∧ AllOk a' ∧ AllOk b' ∧ a'.length ≤ 1099511627776 ∧ splitB (f a' b') K) = _
  simp only [eq_iff_iff]
  constructor
  · rintro ⟨a', b', h1, h2, h3, h4, h5, h6⟩
    rw [evs_inj ha h3 h1, evs_inj hb h4 h2]
    exact ⟨h5, h6⟩
  · rintro ⟨h1, h2⟩
    exact ⟨a, b, rfl, rfl, ha, hb, h1, h2⟩
theorem told_evs2b {F f} (h : ∀ a b, AllOk a → AllOk b → a.length ≤ 1099511627776 → Pure Tryz.prog G F [evsV a, evsV b] (bool (f a b))) : Told Tryz.prog G F (evs2b f) := by
  intro args K hk
  unfold evs2b at hk
  split at hk
  · obtain ⟨a, b, rfl, rfl, h1, h2, h3, h4⟩ := hk
    exact ⟨_, h _ _ h1 h2 h3, splitB_of h4⟩
  · exact hk.elim
/-- A list of events, of a list and one more. -/
def evs1e (g : List Ev → Ev → List Ev) : PSp := fun args K => match args with
  | [.sl 38 xs none, y] => ∃ a e, xs = a.map evV ∧ y = evV e ∧ AllOk a ∧ EvOk e ∧ a.length ≤ 1099511627 ∧ K (evsV (g a e)) | _ => False
theorem ask_evs1e {g} {a : List Ev} {e : Ev} {K} (ha : AllOk a) (he : EvOk e) : ask (evs1e g) [evsV a, evV e] K = (a.length ≤ 1099511627 ∧ K (evsV (g a e))) := by
  show (∃ a' e', a.map evV = a'.map evV ∧ evV e = evV e' ∧ AllOk a' ∧ EvOk e' ∧ a'.length ≤ 1099511627 ∧ K (evsV (g a' e'))) = _
  simp only [eq_iff_iff]
  constructor
  · rintro ⟨a', e', h1, h2, h3, h4, h5, h6⟩
    rw [evs_inj ha h3 h1, ev_inj he h4 h2]
    exact ⟨h5, h6⟩
  · rintro ⟨h1, h2⟩
    exact ⟨a, e, rfl, rfl, ha, he, h1, h2⟩
theorem told_evs1e {F g} (h : ∀ a e, AllOk a → EvOk e → a.length ≤ 1099511627 → Pure Tryz.prog G F [evsV a, evV e] (evsV (g a e))) : Told Tryz.prog G F (evs1e g) := by
  intro args K hk
  unfold evs1e at hk
  split at hk
  · obtain ⟨a, e, rfl, rfl, h1, h2, h3, h4⟩ := hk
    exact ⟨_, h _ _ h1 h2 h3, h4⟩
  · exact hk.elim

def ev2n (f : Ev → Ev → Int) : PSp := fun args K => match args with
  | [x, y] => ∃ e g, x = evV e ∧ y = evV g ∧ EvOk e ∧ EvOk g ∧ K (i64 (f e g)) | _ => False
theorem ask_ev2n {f} {e g : Ev} {K} (he : EvOk e) (hg : EvOk g) : ask (ev2n f) [evV e, evV g] K = K (i64 (f e g)) := by
  show (∃ e' g', evV e = evV e' ∧ evV g = evV g' ∧ EvOk e' ∧ EvOk g' ∧ K (i64 (f e' g'))) = _
  simp only [eq_iff_iff]
  constructor
  · rintro ⟨e', g', h1, h2, h3, h4, h5⟩
    rw [ev_inj he h3 h1, ev_inj hg h4 h2]; exact h5
  · exact fun h => ⟨e, g, rfl, rfl, he, hg, h⟩
theorem told_ev2n {F f} (h : ∀ e g, EvOk e → EvOk g → Pure Tryz.prog G F [evV e, evV g] (i64 (f e g))) : Told Tryz.prog G F (ev2n f) := by
  intro args K hk
  unfold ev2n at hk
  split at hk
  · obtain ⟨e, g, rfl, rfl, h1, h2, h3⟩ := hk
    exact ⟨_, h _ _ h1 h2, h3⟩
  · exact hk.elim

def c19 : ACode := (.seq (.reg false 0 [⟨(.some 4), none, (.q .mv), [(.c (.imm (.bool false)))]⟩]) (.seq (.seq (.reg false 0 [⟨(.some 6), none, (.q .mv), [(.t 0)]⟩, ⟨(.some 7), none, (.q .lenL), [(.t 6)]⟩, ⟨(.some 8), none, (.q .mv), [(.t 1)]⟩, ⟨(.some 9), none, (.q .lenL), [(.t 8)]⟩, ⟨(.some 10), none, (.q (.bin .neq 3)), [(.t 7), (.t 9)]⟩]) (.cond (.t 10) (.seq (.reg false 0 [⟨(.some 4), none, (.q .mv), [(.c (.imm (.bool false)))]⟩]) .ret) .skip)) (.seq (.seq (.reg false 0 [⟨(.some 5), none, (.q .mv), [(.c (.imm (.int .i64 0)))]⟩]) (.block 0 (.loop (.seq (.seq (.reg false 0 [⟨(.some 11), none, (.q .mv), [(.t 5)]⟩, ⟨(.some 12), none, (.q .mv), [(.t 0)]⟩, ⟨(.some 13), none, (.q .lenL), [(.t 12)]⟩, ⟨(.some 14), none, (.q (.bin .lss 3)), [(.t 11), (.t 13)]⟩]) (.cond (.t 14) .skip (.exit 0))) (.seq (.block 1 (.seq (.reg true 0 [⟨(.some 17), none, (.q .mv), [(.t 0)]⟩, ⟨(.some 18), none, (.q .mv), [(.t 5)]⟩, ⟨(.some 19), none, (.q (.iaddrS 38)), [(.t 17), (.t 18)]⟩, ⟨(.some 20), none, (.l (.loadA 38)), [(.t 19)]⟩, ⟨(.some 21), none, (.q .mv), [(.t 1)]⟩, ⟨(.some 22), none, (.q .mv), [(.t 5)]⟩, ⟨(.some 23), none, (.q (.iaddrS 38)), [(.t 21), (.t 22)]⟩, ⟨(.some 24), none, (.l (.loadA 38)), [(.t 23)]⟩, ⟨(.some 25), none, (.call true), [(.c (.fn (.func 14) [] [])), (.t 20), (.t 24)]⟩, ⟨(.some 26), none, (.q (.un .not)), [(.t 25)]⟩]) (.cond (.t 26) (.seq (.reg false 0 [⟨(.some 4), none, (.q .mv), [(.c (.imm (.bool false)))]⟩]) .ret) .skip))) (.reg false 0 [⟨(.some 15), none, (.q .mv), [(.t 5)]⟩, ⟨(.some 16), none, (.q (.bin .add 3)), [(.t 15), (.c (.imm (.int .i64 1)))]⟩, ⟨(.some 5), none, (.q .mv), [(.t 16)]⟩])))))) (.seq (.reg false 0 [⟨(.some 4), none, (.q .mv), [(.c (.imm (.bool true)))]⟩]) .ret))))
theorem fn19 : IsFn Tryz.prog 19 [] c19 [4] 27 := ⟨_, _, Tryz.func19, rfl, by decide +kernel, by kernel_rfl, rfl, rfl⟩
set_option maxHeartbeats 4000000 in
theorem p19' (a b : List Ev) (ha : AllOk a) (hb : AllOk b) (hs : a.length ≤ 1099511627776) : Pure Tryz.prog G 19 [evsV a, evsV b] (bool (decide (a = b))) := by
  refine pure_of_code' (S := sp [(14, ev2b sameP)] []) hm hG (sp_holds (.cons (told_ev2b p14') .nil) .nil) fn19 (St 6 27 [evsV a, evsV b, .junk, .junk, .junk, .junk] []) (by kernel_rfl) (by simp [lows, AV.low, lows_evs]) (by simp [AV.low]) ?_
  simp (maxSteps := 2000000) -implicitDefEqProofs only [c19, RS, RX, Nat.reduceLT, ↓RP0, ↓RP1, ↓RP2, ↓RP3, RV, RW, ↓reduceIte, Nat.reduceAdd, Nat.reduceSub, Nat.reduceMul, Nat.reduceLeDiff, Nat.reduceEqDiff, Int.reduceLT, Int.reduceLE, Int.reduceEq, Int.reduceNe, Int.reduceAdd, Int.reduceSub, Int.reduceMul, Int.reduceNeg, Int.reduceToNat, reduceCtorEq, evs_len]
  refine ⟨fun h => ?_, fun h => ?_⟩
  · refine loopB (st := fun (i : Nat) => (St 6 27 [evsV a, evsV b, .junk, .junk, .imm (.bool false), i64 i] [])) (hp := fun _ => []) (I := fun i => i ≤ a.length ∧ a.take i = b.take i) (m := fun i => a.length - i) (0 : Nat) ⟨Nat.zero_le _, rfl⟩ ?_ ?_
    · refine weak_nilS ?_; simp [WeakL, AV.low, lows, lows_evs]
    · rintro i ⟨hi, he⟩
      by_cases hlt : i < a.length
      · have e1 := evs_get hlt
        have e2 := evs_get (l := b) (i := i) (by omega)
        have e3 : (i : Int) < (a.length : Int) := by omega
        have e4 : (i : Int) < (b.length : Int) := by omega
        have t1 := evs_take (l := a) hlt
        have t2 := evs_take (l := b) (i := i) (by omega)
        have o1 := evs_ok ha i
        have o2 := evs_ok hb i
        generalize a.getD i ev0d = x at *
        generalize b.getD i ev0d = y at *
        have l1 := ev_len o1.len
        have l2 := ev_len o2.len
        have k1 := take38 o1
        have k2 := take38 o2
        have q : ∀ K, ask (ev2b sameP) [.agg (evCells x), .agg (evCells y)] K = splitB (sameP x y) K := fun K => ask_ev2b o1 o2
        simp (maxSteps := 2000000) -implicitDefEqProofs only [RS, RX, Nat.reduceLT, ↓RP0, ↓RP1, ↓RP2, ↓RP3, RV, RW, ↓reduceIte, Nat.reduceAdd, Nat.reduceSub, Nat.reduceMul, Nat.reduceLeDiff, Nat.reduceEqDiff, Int.reduceLT, Int.reduceLE, Int.reduceEq, Int.reduceNe, Int.reduceAdd, Int.reduceSub, Int.reduceMul, Int.reduceNeg, Int.reduceToNat, reduceCtorEq, ↓q, q, e1, e2, e3, e4, evs_len, l1, l2, k1, k2, ev_strip, AV.cells]
        refine ⟨fun hxy => ⟨⟨by omega, by omega⟩, i + 1, by dsimp only; omega, ⟨by omega, ?_⟩, ?_⟩, fun hxy => ?_⟩
        · rw [t1, t2, he, show x = y from of_decide_eq_true hxy]
        · refine weak_nilS ?_; simp [WeakL, AV.low, lows, lows_evs]
        · have : ¬ a = b := by
            intro e
            subst e
            rw [t1] at t2
            have := List.append_cancel_left t2
            simp at this
            exact of_decide_eq_false hxy this
          simp [this]
      · obtain rfl : i = a.length := by omega
        simp (maxSteps := 2000000) -implicitDefEqProofs only [RS, RX, Nat.reduceLT, ↓RP0, ↓RP1, ↓RP2, ↓RP3, RV, RW, ↓reduceIte, Nat.reduceAdd, Nat.reduceSub, Nat.reduceMul, Nat.reduceLeDiff, Nat.reduceEqDiff, Int.reduceLT, Int.reduceLE, Int.reduceEq, Int.reduceNe, Int.reduceAdd, Int.reduceSub, Int.reduceMul, Int.reduceNeg, Int.reduceToNat, reduceCtorEq, evs_len, Int.lt_irrefl]
        have : a = b := by
          have h2 : b.length = a.length := by omega
          rw [List.take_length, ← h2, List.take_length] at he
          exact he
        simp [this]
  · have : ¬ a = b := fun e => h (by rw [e])
    simp [this]

end Go.AL.Path

/- The reference's Add. -/
set_option linter.unusedSimpArgs false
set_option linter.unusedVariables false
set_option maxRecDepth 100000
namespace Go.AL.Path
open Go Go.RowKit Go.Proofs Go.AL

/-- f, at e's path, is e or knows it. -/
def covers (e f : Ev) : Bool := decide (f.path = e.path) && (decide (f.r = e.r ∧ f.q = e.q) || knows f e)
def gone (e f : Ev) : Bool := decide (f.path = e.path) && knows e f
def insStep (e : Ev) (s : List Ev × Bool) (f : Ev) : List Ev × Bool :=
  if gone e f = true then s else if s.2 = false ∧ 0 < cmpEv f e then (s.1 ++ [e] ++ [f], true) else (s.1 ++ [f], s.2)
def insFin (e : Ev) (s : List Ev × Bool) : List Ev := if s.2 = true then s.1 else s.1 ++ [e]
def insAll (e : Ev) (h : List Ev) : List Ev × Bool := h.foldl (insStep e) ([], false)
def addRef (h : List Ev) (e : Ev) : List Ev := if h.any (covers e) = true then h else insFin e (insAll e h)

theorem insStep_len (e : Ev) (s : List Ev × Bool) (f : Ev) : (insStep e s f).1.length ≤ s.1.length + 2 := by
  unfold insStep
  split
  · simp
  · split <;> simp
theorem insAll_len (e : Ev) : ∀ (h : List Ev) (s : List Ev × Bool), (h.foldl (insStep e) s).1.length ≤ s.1.length + 2 * h.length
  | [], s => by simp
  | f :: h, s => by
    have := insAll_len e h (insStep e s f)
    have := insStep_len e s f
    simp only [List.foldl_cons, List.length_cons]; omega
theorem insAll_take (e : Ev) {h : List Ev} {i : Nat} (hi : i < h.length) : insAll e (h.take (i + 1)) = insStep e (insAll e (h.take i)) (h.getD i ev0d) := by
  unfold insAll
  rw [evs_take hi, List.foldl_append]; rfl
theorem insStep_ok {e f : Ev} {s : List Ev × Bool} (he : EvOk e) (hf : EvOk f) (hs : AllOk s.1) : AllOk (insStep e s f).1 := by
  unfold insStep
  split
  · exact hs
  · split
    · intro x hx
      simp only [List.mem_append, List.mem_singleton] at hx
      rcases hx with (hx | rfl) | rfl
      · exact hs x hx
      · exact he
      · exact hf
    · intro x hx
      simp only [List.mem_append, List.mem_singleton] at hx
      rcases hx with hx | rfl
      · exact hs x hx
      · exact hf
theorem insAll_ok {e : Ev} (he : EvOk e) : ∀ (h : List Ev) (s : List Ev × Bool), AllOk h → AllOk s.1 → AllOk (h.foldl (insStep e) s).1
  | [], s, _, hs => hs
  | f :: h, s, hh, hs => insAll_ok he h _ (fun x hx => hh x (List.mem_cons_of_mem _ hx)) (insStep_ok he (hh f List.mem_cons_self) hs)
theorem addRef_ok {h : List Ev} {e : Ev} (ho : AllOk h) (he : EvOk e) : AllOk (addRef h e) := by
  unfold addRef
  split
  · exact ho
  · have h1 := insAll_ok he h ([], false) ho (fun x hx => by cases hx)
    unfold insFin insAll
    split
    · exact h1
    · intro x hx
      simp only [List.mem_append, List.mem_singleton] at hx
      rcases hx with hx | rfl
      · exact h1 x hx
      · exact he

def c21 : ACode := (.seq (.reg false 2 [⟨(.some 3), none, (.m .box 0), [(.t 1)]⟩, ⟨(.some 4), none, (.m (.nilT 30 38) 1), []⟩]) (.seq (.seq (.reg false 0 [⟨(.some 5), none, (.q .mv), [(.c (.imm (.int .i64 0)))]⟩]) (.block 0 (.loop (.seq (.seq (.reg false 0 [⟨(.some 9), none, (.q .mv), [(.t 5)]⟩, ⟨(.some 10), none, (.q .mv), [(.t 0)]⟩, ⟨(.some 11), none, (.q .lenL), [(.t 10)]⟩, ⟨(.some 12), none, (.q (.bin .lss 3)), [(.t 9), (.t 11)]⟩]) (.cond (.t 12) .skip (.exit 0))) (.seq (.block 1 (.seq (.reg true 0 [⟨(.some 15), none, (.q .mv), [(.t 0)]⟩, ⟨(.some 16), none, (.q .mv), [(.t 5)]⟩, ⟨(.some 17), none, (.q (.iaddrS 38)), [(.t 15), (.t 16)]⟩, ⟨(.some 18), none, (.q (.faddr 4)), [(.t 17)]⟩, ⟨(.some 19), none, (.l .load1), [(.t 18)]⟩, ⟨(.some 20), none, (.q (.faddr 4)), [(.t 3)]⟩, ⟨(.some 21), none, (.l .load1), [(.t 20)]⟩, ⟨(.some 22), none, (.q (.bin .eql 9)), [(.t 19), (.t 21)]⟩, ⟨(.some 23), none, (.q .mv), [(.t 22)]⟩, ⟨(.some 24), (.some (23, true)), (.q .mv), [(.t 0)]⟩, ⟨(.some 25), (.some (23, true)), (.q .mv), [(.t 5)]⟩, ⟨(.some 26), (.some (23, true)), (.q (.iaddrS 38)), [(.t 24), (.t 25)]⟩, ⟨(.some 27), (.some (23, true)), (.q (.faddr 0)), [(.t 26)]⟩, ⟨(.some 28), (.some (23, true)), (.l (.loadA 2)), [(.t 27)]⟩, ⟨(.some 29), (.some (23, true)), (.q (.faddr 0)), [(.t 3)]⟩, ⟨(.some 30), (.some (23, true)), (.l (.loadA 2)), [(.t 29)]⟩, ⟨(.some 31), (.some (23, true)), (.q (.eqA false 2)), [(.t 28), (.t 30)]⟩, ⟨(.some 32), (.some (23, true)), (.q .mv), [(.t 31)]⟩, ⟨(.some 33), (.some (32, false)), (.q .mv), [(.t 0)]⟩, ⟨(.some 34), (.some (32, false)), (.q .mv), [(.t 5)]⟩, ⟨(.some 35), (.some (32, false)), (.q (.iaddrS 38)), [(.t 33), (.t 34)]⟩, ⟨(.some 36), (.some (32, false)), (.l (.loadA 38)), [(.t 35)]⟩, ⟨(.some 37), (.some (32, false)), (.l (.loadA 38)), [(.t 3)]⟩, ⟨(.some 38), (.some (32, false)), (.call true), [(.c (.fn (.func 12) [] [])), (.t 36), (.t 37)]⟩, ⟨(.some 39), (.some (23, true)), (.q .pick), [(.t 32), (.c (.imm (.bool true))), (.t 38)]⟩, ⟨(.some 40), none, (.q .pick), [(.t 23), (.t 39), (.c (.imm (.bool false)))]⟩]) (.cond (.t 40) (.seq (.reg false 0 [⟨(.some 41), none, (.q .mv), [(.t 0)]⟩, ⟨(.some 4), none, (.q .mv), [(.t 41)]⟩]) .ret) .skip))) (.reg false 0 [⟨(.some 13), none, (.q .mv), [(.t 5)]⟩, ⟨(.some 14), none, (.q (.bin .add 3)), [(.t 13), (.c (.imm (.int .i64 1)))]⟩, ⟨(.some 5), none, (.q .mv), [(.t 14)]⟩])))))) (.seq (.reg false 1 [⟨(.some 6), none, (.m (.nilT 30 38) 0), []⟩]) (.seq (.reg false 0 [⟨(.some 7), none, (.q .mv), [(.c (.imm (.bool false)))]⟩]) (.seq (.seq (.reg false 0 [⟨(.some 8), none, (.q .mv), [(.c (.imm (.int .i64 0)))]⟩]) (.block 2 (.loop (.seq (.seq (.reg false 0 [⟨(.some 42), none, (.q .mv), [(.t 8)]⟩, ⟨(.some 43), none, (.q .mv), [(.t 0)]⟩, ⟨(.some 44), none, (.q .lenL), [(.t 43)]⟩, ⟨(.some 45), none, (.q (.bin .lss 3)), [(.t 42), (.t 44)]⟩]) (.cond (.t 45) .skip (.exit 2))) (.seq (.block 3 (.seq (.seq (.reg true 0 [⟨(.some 48), none, (.q .mv), [(.t 0)]⟩, ⟨(.some 49), none, (.q .mv), [(.t 8)]⟩, ⟨(.some 50), none, (.q (.iaddrS 38)), [(.t 48), (.t 49)]⟩, ⟨(.some 51), none, (.q (.faddr 4)), [(.t 50)]⟩, ⟨(.some 52), none, (.l .load1), [(.t 51)]⟩, ⟨(.some 53), none, (.q (.faddr 4)), [(.t 3)]⟩, ⟨(.some 54), none, (.l .load1), [(.t 53)]⟩, ⟨(.some 55), none, (.q (.bin .eql 9)), [(.t 52), (.t 54)]⟩, ⟨(.some 56), none, (.q .mv), [(.t 55)]⟩, ⟨(.some 57), (.some (56, true)), (.l (.loadA 38)), [(.t 3)]⟩, ⟨(.some 58), (.some (56, true)), (.q .mv), [(.t 0)]⟩, ⟨(.some 59), (.some (56, true)), (.q .mv), [(.t 8)]⟩, ⟨(.some 60), (.some (56, true)), (.q (.iaddrS 38)), [(.t 58), (.t 59)]⟩, ⟨(.some 61), (.some (56, true)), (.l (.loadA 38)), [(.t 60)]⟩, ⟨(.some 62), (.some (56, true)), (.call true), [(.c (.fn (.func 12) [] [])), (.t 57), (.t 61)]⟩, ⟨(.some 63), none, (.q .pick), [(.t 56), (.t 62), (.c (.imm (.bool false)))]⟩]) (.cond (.t 63) (.exit 3) .skip)) (.seq (.seq (.reg true 0 [⟨(.some 64), none, (.q .mv), [(.t 7)]⟩, ⟨(.some 65), none, (.q (.un .not)), [(.t 64)]⟩, ⟨(.some 66), none, (.q .mv), [(.t 65)]⟩, ⟨(.some 67), (.some (66, true)), (.q .mv), [(.t 0)]⟩, ⟨(.some 68), (.some (66, true)), (.q .mv), [(.t 8)]⟩, ⟨(.some 69), (.some (66, true)), (.q (.iaddrS 38)), [(.t 67), (.t 68)]⟩, ⟨(.some 70), (.some (66, true)), (.l (.loadA 38)), [(.t 69)]⟩, ⟨(.some 71), (.some (66, true)), (.l (.loadA 38)), [(.t 3)]⟩, ⟨(.some 72), (.some (66, true)), (.call true), [(.c (.fn (.func 45) [] [])), (.t 70), (.t 71)]⟩, ⟨(.some 73), (.some (66, true)), (.q (.bin .gtr 3)), [(.t 72), (.c (.imm (.int .i64 0)))]⟩, ⟨(.some 74), none, (.q .pick), [(.t 66), (.t 73), (.c (.imm (.bool false)))]⟩]) (.cond (.t 74) (.seq (.reg false 1 [⟨(.some 75), none, (.q .mv), [(.t 6)]⟩, ⟨(.some 76), none, (.l (.loadA 38)), [(.t 3)]⟩, ⟨(.some 77), none, (.m (.bsliceO 30 38) 0), [(.t 76)]⟩, ⟨(.some 78), none, (.e (.append 30 38 104)), [(.t 75), (.t 77)]⟩, ⟨(.some 6), none, (.q .mv), [(.t 78)]⟩]) (.reg false 0 [⟨(.some 7), none, (.q .mv), [(.c (.imm (.bool true)))]⟩])) .skip)) (.reg false 1 [⟨(.some 79), none, (.q .mv), [(.t 6)]⟩, ⟨(.some 80), none, (.q .mv), [(.t 0)]⟩, ⟨(.some 81), none, (.q .mv), [(.t 8)]⟩, ⟨(.some 82), none, (.q (.iaddrS 38)), [(.t 80), (.t 81)]⟩, ⟨(.some 83), none, (.l (.loadA 38)), [(.t 82)]⟩, ⟨(.some 84), none, (.m (.bsliceO 30 38) 0), [(.t 83)]⟩, ⟨(.some 85), none, (.e (.append 30 38 104)), [(.t 79), (.t 84)]⟩, ⟨(.some 6), none, (.q .mv), [(.t 85)]⟩])))) (.reg false 0 [⟨(.some 46), none, (.q .mv), [(.t 8)]⟩, ⟨(.some 47), none, (.q (.bin .add 3)), [(.t 46), (.c (.imm (.int .i64 1)))]⟩, ⟨(.some 8), none, (.q .mv), [(.t 47)]⟩])))))) (.seq (.seq (.reg false 0 [⟨(.some 86), none, (.q .mv), [(.t 7)]⟩, ⟨(.some 87), none, (.q (.un .not)), [(.t 86)]⟩]) (.cond (.t 87) (.reg false 1 [⟨(.some 88), none, (.q .mv), [(.t 6)]⟩, ⟨(.some 89), none, (.l (.loadA 38)), [(.t 3)]⟩, ⟨(.some 90), none, (.m (.bsliceO 30 38) 0), [(.t 89)]⟩, ⟨(.some 91), none, (.e (.append 30 38 104)), [(.t 88), (.t 90)]⟩, ⟨(.some 6), none, (.q .mv), [(.t 91)]⟩]) .skip)) (.seq (.reg false 0 [⟨(.some 92), none, (.q .mv), [(.t 6)]⟩, ⟨(.some 4), none, (.q .mv), [(.t 92)]⟩]) .ret)))))))
theorem fn21 : IsFn Tryz.prog 21 (List.range 200) c21 [4] 93 := ⟨_, _, Tryz.func21, rfl, by decide +kernel, by kernel_rfl, rfl, rfl⟩
set_option maxHeartbeats 4000000 in
theorem p21' (h : List Ev) (e : Ev) (ho : AllOk h) (he : EvOk e) (hs : h.length ≤ 1099511627) : Pure Tryz.prog G 21 [evsV h, evV e] (evsV (addRef h e)) := by
  refine pure_of_code' (S := sp [(12, ev2b knows), (45, ev2n cmpEv)] []) hm hG (sp_holds (.cons (told_ev2b p12') (.cons (told_ev2n p45') .nil)) .nil) fn21 (St 9 93 [evsV h, evV e, .junk, .junk, .junk, .junk, .junk, .junk, .junk] []) (by kernel_rfl) (by simp [lows, AV.low, lows_evs, lows_ev]) (by simp [AV.low, lows_evs]) ?_
  have le := ev_len he.len
  have ke := take38 he
  simp (maxSteps := 2000000) -implicitDefEqProofs only [c21, RS, RX, Nat.reduceLT, ↓RP0, ↓RP1, ↓RP2, ↓RP3, RV, RW, ↓reduceIte, Nat.reduceAdd, Nat.reduceSub, Nat.reduceMul, Nat.reduceLeDiff, Nat.reduceEqDiff, Int.reduceLT, Int.reduceLE, Int.reduceEq, Int.reduceNe, Int.reduceAdd, Int.reduceSub, Int.reduceMul, Int.reduceNeg, Int.reduceToNat, reduceCtorEq, evs_len]
  refine loopB (st := fun (i : Nat) => (St 9 93 [evsV h, evV e, .junk, .ptr 0 0, .junk, i64 i, .junk, .junk, .junk] [])) (hp := fun _ => [.box (evCells e)]) (I := fun i => i ≤ h.length ∧ (h.take i).any (covers e) = false) (m := fun i => h.length - i) (0 : Nat) ⟨Nat.zero_le _, rfl⟩ ?_ ?_
  · refine weak_cutS 1 (by decide) (by simp) ?_ ?_
    · simp [AObj.low, lows, AV.low, lows_ev]
    · simp [WeakL, AV.low, lows, lows_evs, lows_ev]
  · rintro i ⟨hi, hn⟩
    by_cases hlt : i < h.length
    · have e1 := evs_get hlt
      have e3 : (i : Int) < (h.length : Int) := by omega
      have t1 := evs_take hlt
      have o1 := evs_ok ho i
      have hany : (h.take (i + 1)).any (covers e) = ((h.take i).any (covers e) || covers e (h.getD i ev0d)) := by rw [t1]; simp
      have hmem : covers e (h.getD i ev0d) = true → addRef h e = h := fun hc => by
        unfold addRef
        rw [if_pos]
        rw [List.any_eq_true]
        exact ⟨_, by rw [List.getD_eq_getElem?_getD, List.getElem?_eq_getElem hlt]; exact List.getElem_mem hlt, hc⟩
      generalize h.getD i ev0d = x at *
      have l1 := ev_len o1.len
      have k1 := take38 o1
      have q : ∀ K, ask (ev2b knows) [.agg (evCells x), .agg (evCells e)] K = splitB (knows x e) K := fun K => ask_ev2b o1 he
      simp (maxSteps := 2000000) -implicitDefEqProofs only [RS, RX, Nat.reduceLT, ↓RP0, ↓RP1, ↓RP2, ↓RP3, RV, RW, ↓reduceIte, Nat.reduceAdd, Nat.reduceSub, Nat.reduceMul, Nat.reduceLeDiff, Nat.reduceEqDiff, Int.reduceLT, Int.reduceLE, Int.reduceEq, Int.reduceNe, Int.reduceAdd, Int.reduceSub, Int.reduceMul, Int.reduceNeg, Int.reduceToNat, reduceCtorEq, ↓q, q, ↓qB_eqA2, qB_eqA2, ev4, ev_take, e1, e3, evs_len, l1, le, k1, ke, ev_strip, AV.cells]
      have goOn : ∀ (ov : List (Nat × AV)), covers e x = false → Again 0 (fun (i : Nat) => (St 9 93 [evsV h, evV e, .junk, .ptr 0 0, .junk, i64 i, .junk, .junk, .junk] [])) (fun _ => [.box (evCells e)]) (fun i => i ≤ h.length ∧ (h.take i).any (covers e) = false) (fun i => h.length - i) i (St 9 93 [evsV h, evV e, .junk, .ptr 0 0, .junk, i64 ((i : Int) + 1), .junk, .junk, .junk] ov) [.box (evCells e)] := by
        intro ov hc
        refine ⟨i + 1, by dsimp only; omega, ⟨by omega, by rw [hany, hn, hc]; rfl⟩, ?_⟩
        refine weak_sameS (by simp) ?_ ?_
        · simp [AObj.low, lows, AV.low, lows_ev]
        · simp [WeakL, AV.low, lows, lows_evs, lows_ev]
      refine ⟨fun h1 => ⟨fun h2 => ?_, fun h2 => ⟨fun h3 => ?_, fun h3 => ⟨⟨by omega, by omega⟩, goOn _ ?_⟩⟩⟩, fun h1 => ⟨⟨by omega, by omega⟩, goOn _ ?_⟩⟩
      · rw [hmem (by simp [covers, h1, h2])]
      · rw [hmem (by simp [covers, h1, h3])]
      · simp only [covers, h3, Bool.or_false, Bool.and_eq_false_iff, decide_eq_false_iff_not]; exact .inr h2
      · simp [covers, h1]
    · obtain rfl : i = h.length := by omega
      rw [List.take_length] at hn
      simp (maxSteps := 2000000) -implicitDefEqProofs only [RS, RX, Nat.reduceLT, ↓RP0, ↓RP1, ↓RP2, ↓RP3, RV, RW, ↓reduceIte, Nat.reduceAdd, Nat.reduceSub, Nat.reduceMul, Nat.reduceLeDiff, Nat.reduceEqDiff, Int.reduceLT, Int.reduceLE, Int.reduceEq, Int.reduceNe, Int.reduceAdd, Int.reduceSub, Int.reduceMul, Int.reduceNeg, Int.reduceToNat, reduceCtorEq, evs_len, Int.lt_irrefl]
      have hadd : addRef h e = insFin e (insAll e h) := by unfold addRef; rw [if_neg (by rw [hn]; decide)]
      rw [hadd]
      refine loopB (st := fun (i : Nat) => (St 9 93 [evsV h, evV e, .junk, .ptr 0 0, .junk, .junk, .sl 38 ((insAll e (h.take i)).1.map evV) (some 1), bool (insAll e (h.take i)).2, i64 i] [])) (hp := fun i => [.box (evCells e), .tok 30 38 (insAll e (h.take i)).1.length]) (I := fun i => i ≤ h.length) (m := fun i => h.length - i) (0 : Nat) (Nat.zero_le _) ?_ ?_
      · refine weak_sameS (by simp) ?_ ?_
        · simp [AObj.low, lows, AV.low, lows_ev]
        · simp [WeakL, AV.low, lows, lows_evs, lows_ev, insAll]
      · intro i hi
        by_cases hlt : i < h.length
        · have e1 := evs_get hlt
          have e3 : (i : Int) < (h.length : Int) := by omega
          have hst := insAll_take e hlt
          have o1 := evs_ok ho i
          have olen := insAll_len e (h.take i) ([], false)
          have ook := insAll_ok he (h.take i) ([], false) (fun x hx => ho x (List.mem_of_mem_take hx)) (fun x hx => by cases hx)
          change (insAll e (h.take i)).1.length ≤ _ at olen
          change AllOk (insAll e (h.take i)).1 at ook
          have ol2 : (insAll e (h.take i)).1.length ≤ 2 * h.length := by
            have : (h.take i).length ≤ h.length := by rw [List.length_take]; omega
            simp only [List.length_nil, Nat.zero_add] at olen; omega
          generalize h.getD i ev0d = x at *
          generalize insAll e (h.take i) = s at *
          obtain ⟨out, done⟩ := s
          have l1 := ev_len o1.len
          have k1 := take38 o1
          have q : ∀ K, ask (ev2b knows) [.agg (evCells e), .agg (evCells x)] K = splitB (knows e x) K := fun K => ask_ev2b he o1
          have qc : ∀ K, ask (ev2n cmpEv) [.agg (evCells x), .agg (evCells e)] K = K (i64 (cmpEv x e)) := fun K => ask_ev2n o1 he
          have goOn2 : ∀ (ov : List (Nat × AV)) (out' : List Ev) (done' : Bool) (X : List AObj), insAll e (h.take (i + 1)) = (out', done') → Again 0 (fun (i : Nat) => (St 9 93 [evsV h, evV e, .junk, .ptr 0 0, .junk, .junk, .sl 38 ((insAll e (h.take i)).1.map evV) (some 1), bool (insAll e (h.take i)).2, i64 i] [])) (fun i => [.box (evCells e), .tok 30 38 (insAll e (h.take i)).1.length]) (fun i => i ≤ h.length) (fun i => h.length - i) i
              (St 9 93 [evsV h, evV e, .junk, .ptr 0 0, .junk, .junk, .sl 38 (out'.map evV) (some 1), bool done', i64 ((i : Int) + 1)] ov) (.box (evCells e) :: .tok 30 38 out'.length :: X) := by
            intro ov out' done' X hX
            refine ⟨i + 1, by dsimp only; omega, by omega, ?_⟩
            dsimp only
            rw [hX]
            refine weak_cutS 2 (by decide) (by simp) ?_ ?_
            · simp [AObj.low, lows, AV.low, lows_ev]
            · simp [WeakL, AV.low, lows, lows_evs, lows_ev]
          have m1 : List.map evV out ++ [AV.agg (evCells x)] = (out ++ [x]).map evV := by simp
          have m2 : out.length + 1 = (out ++ [x]).length := by simp
          have m3 : List.map evV out ++ [AV.agg (evCells e)] = (out ++ [e]).map evV := by simp
          have m4 : List.map evV (out ++ [e]) ++ [AV.agg (evCells x)] = (out ++ [e] ++ [x]).map evV := by simp
          have m5 : (List.map evV (out ++ [e])).length + 1 = (out ++ [e] ++ [x]).length := by simp
          have ob : out.length ≤ 2 * h.length := ol2
          have ib : In64 ((i : Int) + 1) := ⟨by omega, by omega⟩
          cases done with
          | true =>
            simp (maxSteps := 2000000) -implicitDefEqProofs only [RS, RX, Nat.reduceLT, ↓RP0, ↓RP1, ↓RP2, ↓RP3, RV, RW, ↓reduceIte, Nat.reduceAdd, Nat.reduceSub, Nat.reduceMul, Nat.reduceLeDiff, Nat.reduceEqDiff, Int.reduceLT, Int.reduceLE, Int.reduceEq, Int.reduceNe, Int.reduceAdd, Int.reduceSub, Int.reduceMul, Int.reduceNeg, Int.reduceToNat, reduceCtorEq, ↓q, q, ↓qc, qc, ev4, e1, e3, evs_len, l1, le, k1, ke, ev_strip, AV.cells]
            have app : ∀ (ov : List (Nat × AV)) (X : List AObj), gone e x = false → _ := fun ov X hg => goOn2 ov (out ++ [x]) true X (by rw [hst]; simp [insStep, hg])
            refine ⟨fun h1 => ⟨fun h2 => ⟨ib, goOn2 _ out true [] (by rw [hst]; simp [insStep, gone, h1, h2])⟩, fun h2 => ⟨(fun y hy => by rw [List.mem_singleton.1 hy]; exact ⟨rfl, l1⟩), .inl trivial, .inl trivial, by omega, by omega, ib, ?_⟩⟩, fun h1 => ⟨(fun y hy => by rw [List.mem_singleton.1 hy]; exact ⟨rfl, l1⟩), .inl trivial, .inl trivial, by omega, by omega, ib, ?_⟩⟩
            · rw [m1, m2]; exact app _ _ (by simp [gone, h2])
            · rw [m1, m2]; exact app _ _ (by simp [gone, h1])
          | false =>
            simp (maxSteps := 2000000) -implicitDefEqProofs only [RS, RX, Nat.reduceLT, ↓RP0, ↓RP1, ↓RP2, ↓RP3, RV, RW, ↓reduceIte, Nat.reduceAdd, Nat.reduceSub, Nat.reduceMul, Nat.reduceLeDiff, Nat.reduceEqDiff, Int.reduceLT, Int.reduceLE, Int.reduceEq, Int.reduceNe, Int.reduceAdd, Int.reduceSub, Int.reduceMul, Int.reduceNeg, Int.reduceToNat, reduceCtorEq, ↓q, q, ↓qc, qc, ev4, e1, e3, evs_len, l1, le, k1, ke, ev_strip, AV.cells]
            have app : ∀ (ov : List (Nat × AV)) (X : List AObj), gone e x = false → ¬ 0 < cmpEv x e → _ := fun ov X hg hc => goOn2 ov (out ++ [x]) false X (by rw [hst]; simp [insStep, hg, hc])
            have app2 : ∀ (ov : List (Nat × AV)) (X : List AObj), gone e x = false → 0 < cmpEv x e → _ := fun ov X hg hc => goOn2 ov (out ++ [e] ++ [x]) true X (by rw [hst]; simp [insStep, hg, hc])
            refine ⟨fun h1 => ⟨fun h2 => ⟨ib, goOn2 _ out false [] (by rw [hst]; simp [insStep, gone, h1, h2])⟩, fun h2 => ⟨fun h3 => ⟨(fun y hy => by rw [List.mem_singleton.1 hy]; exact ⟨rfl, le⟩), .inl trivial, .inl trivial, by omega, by omega, (fun y hy => by rw [List.mem_singleton.1 hy]; exact ⟨rfl, l1⟩), by simp, .inl trivial, .inl trivial, by simp; omega, by simp; omega, ib, ?_⟩, fun h3 => ⟨(fun y hy => by rw [List.mem_singleton.1 hy]; exact ⟨rfl, l1⟩), .inl trivial, .inl trivial, by omega, by omega, ib, ?_⟩⟩⟩, fun h1 => ⟨fun h3 => ⟨(fun y hy => by rw [List.mem_singleton.1 hy]; exact ⟨rfl, le⟩), .inl trivial, .inl trivial, by omega, by omega, (fun y hy => by rw [List.mem_singleton.1 hy]; exact ⟨rfl, l1⟩), by simp, .inl trivial, .inl trivial, by simp; omega, by simp; omega, ib, ?_⟩, fun h3 => ⟨(fun y hy => by rw [List.mem_singleton.1 hy]; exact ⟨rfl, l1⟩), .inl trivial, .inl trivial, by omega, by omega, ib, ?_⟩⟩⟩
            · rw [m3, m4, m5]
              exact app2 _ _ (by simp [gone, h2]) h3
            · rw [m1, m2]; exact app _ _ (by simp [gone, h2]) h3
            · rw [m3, m4, m5]; exact app2 _ _ (by simp [gone, h1]) h3
            · rw [m1, m2]; exact app _ _ (by simp [gone, h1]) h3
        · obtain rfl : i = h.length := by omega
          rw [List.take_length]
          have olen := insAll_len e h ([], false)
          change (insAll e h).1.length ≤ _ at olen
          generalize insAll e h = s at *
          obtain ⟨out, done⟩ := s
          cases done with
          | true =>
            simp (maxSteps := 2000000) -implicitDefEqProofs only [RS, RX, Nat.reduceLT, ↓RP0, ↓RP1, ↓RP2, ↓RP3, RV, RW, ↓reduceIte, Nat.reduceAdd, Nat.reduceSub, Nat.reduceMul, Nat.reduceLeDiff, Nat.reduceEqDiff, Int.reduceLT, Int.reduceLE, Int.reduceEq, Int.reduceNe, Int.reduceAdd, Int.reduceSub, Int.reduceMul, Int.reduceNeg, Int.reduceToNat, reduceCtorEq, evs_len, Int.lt_irrefl, le, ke, ev_strip, AV.cells]
            simp [insFin]
          | false =>
            simp (maxSteps := 2000000) -implicitDefEqProofs only [RS, RX, Nat.reduceLT, ↓RP0, ↓RP1, ↓RP2, ↓RP3, RV, RW, ↓reduceIte, Nat.reduceAdd, Nat.reduceSub, Nat.reduceMul, Nat.reduceLeDiff, Nat.reduceEqDiff, Int.reduceLT, Int.reduceLE, Int.reduceEq, Int.reduceNe, Int.reduceAdd, Int.reduceSub, Int.reduceMul, Int.reduceNeg, Int.reduceToNat, reduceCtorEq, evs_len, Int.lt_irrefl, le, ke, ev_strip, AV.cells]
            have ob : out.length ≤ 2 * h.length := by simp only [List.length_nil, Nat.zero_add] at olen; omega
            refine ⟨(fun y hy => by rw [List.mem_singleton.1 hy]; exact ⟨rfl, le⟩), .inl trivial, .inl trivial, by omega, by omega, ?_⟩
            simp [insFin]
end Go.AL.Path

/- Events that may be; the reference's Join. -/
set_option linter.unusedSimpArgs false
set_option linter.unusedVariables false
set_option maxRecDepth 100000
namespace Go.AL.Path
open Go Go.RowKit Go.Proofs Go.AL

def mayBase (e : Ev) : Bool := dotOk e.r e.q && decide (e.deps = ofP (cnt e.deps)) && decide (getV e.deps e.r = e.q - 1) && ownP e.path
def mayEv (e : Ev) : Bool := mayBase e && ((decide (e.kind = 1) && decide (0 ≤ e.size) && decide (e.size ≤ 65536)) || (decide (e.kind = 2) && decide (e.size = 0) && decide (e.sum = List.replicate 32 0)))

def vec1b (f : Vec → Bool) : PSp := fun args K => match args with
  | [x] => ∃ v, x = vecV v ∧ Small v ∧ splitB (f v) K | _ => False
theorem vdots_inj {v u : Vec} (h : vdots v = vdots u) : v = u := by
  have := dotsOf_vdots v
  rw [h, dotsOf_vdots] at this
  exact (Option.some.inj this).symm
theorem ask_vec1b {f} {v : Vec} {K} : ask (vec1b f) [vecV v] K = (Small v ∧ splitB (f v) K) := by
  show (∃ u, vecV v = vecV u ∧ Small u ∧ splitB (f u) K) = _
  simp only [eq_iff_iff]
  constructor
  · rintro ⟨u, h1, h2, h3⟩
    have : v = u := vdots_inj (by injection h1)
    subst this
    exact ⟨h2, h3⟩
  · exact fun h => ⟨v, rfl, h.1, h.2⟩
theorem told_vec1b {F f} (h : ∀ v, Small v → Pure Tryz.prog G F [vecV v] (bool (f v))) : Told Tryz.prog G F (vec1b f) := by
  intro args K hk
  unfold vec1b at hk
  split at hk
  · obtain ⟨v, rfl, h1, h2⟩ := hk
    exact ⟨_, h _ h1, splitB_of h2⟩
  · exact hk.elim

def c48 : ACode := (.seq (.reg false 1 [⟨(.some 1), none, (.m .box 0), [(.t 0)]⟩, ⟨(.some 2), none, (.q .mv), [(.c (.imm (.bool false)))]⟩]) (.seq (.seq (.reg true 0 [⟨(.some 3), none, (.q (.faddr 0)), [(.t 1)]⟩, ⟨(.some 4), none, (.l (.loadA 2)), [(.t 3)]⟩, ⟨(.some 5), none, (.call true), [(.c (.fn (.func 58) [] [])), (.t 4)]⟩, ⟨(.some 6), none, (.q (.un .not)), [(.t 5)]⟩, ⟨(.some 7), none, (.q .mv), [(.t 6)]⟩, ⟨(.some 8), (.some (7, false)), (.q (.faddr 2)), [(.t 1)]⟩, ⟨(.some 9), (.some (7, false)), (.l .load1), [(.t 8)]⟩, ⟨(.some 10), (.some (7, false)), (.call true), [(.c (.fn (.func 61) [] [])), (.t 9)]⟩, ⟨(.some 11), (.some (7, false)), (.q (.un .not)), [(.t 10)]⟩, ⟨(.some 12), none, (.q .pick), [(.t 7), (.c (.imm (.bool true))), (.t 11)]⟩, ⟨(.some 13), none, (.q .mv), [(.t 12)]⟩, ⟨(.some 14), (.some (13, false)), (.q (.faddr 2)), [(.t 1)]⟩, ⟨(.some 15), (.some (13, false)), (.l .load1), [(.t 14)]⟩, ⟨(.some 16), (.some (13, false)), (.q (.faddr 0)), [(.t 1)]⟩, ⟨(.some 17), (.some (13, false)), (.q (.faddr 0)), [(.t 16)]⟩, ⟨(.some 18), (.some (13, false)), (.l .load1), [(.t 17)]⟩, ⟨(.some 19), (.some (13, false)), (.call false), [(.c (.fn (.func 42) [] [])), (.t 15), (.t 18)]⟩, ⟨(.some 20), (.some (13, false)), (.q (.faddr 0)), [(.t 1)]⟩, ⟨(.some 21), (.some (13, false)), (.q (.faddr 1)), [(.t 20)]⟩, ⟨(.some 22), (.some (13, false)), (.l .load1), [(.t 21)]⟩, ⟨(.some 23), (.some (13, false)), (.q (.bin .sub 2)), [(.t 22), (.c (.imm (.int .i64 1)))]⟩, ⟨(.some 24), (.some (13, false)), (.q (.bin .neq 2)), [(.t 19), (.t 23)]⟩, ⟨(.some 25), none, (.q .pick), [(.t 13), (.c (.imm (.bool true))), (.t 24)]⟩, ⟨(.some 26), none, (.q .mv), [(.t 25)]⟩, ⟨(.some 27), (.some (26, false)), (.q (.faddr 4)), [(.t 1)]⟩, ⟨(.some 28), (.some (26, false)), (.l .load1), [(.t 27)]⟩, ⟨(.some 29), (.some (26, false)), (.call true), [(.c (.fn (.func 62) [] [])), (.t 28)]⟩, ⟨(.some 30), (.some (26, false)), (.q (.un .not)), [(.t 29)]⟩, ⟨(.some 31), none, (.q .pick), [(.t 26), (.c (.imm (.bool true))), (.t 30)]⟩]) (.cond (.t 31) (.seq (.reg false 0 [⟨(.some 2), none, (.q .mv), [(.c (.imm (.bool false)))]⟩]) .ret) .skip)) (.seq (.seq (.reg false 0 [⟨(.some 32), none, (.q (.faddr 3)), [(.t 1)]⟩, ⟨(.some 33), none, (.l .load1), [(.t 32)]⟩, ⟨(.some 34), none, (.q (.bin .eql 3)), [(.t 33), (.c (.imm (.int .i64 1)))]⟩]) (.cond (.t 34) (.seq (.reg false 0 [⟨(.some 35), none, (.q (.faddr 37)), [(.t 1)]⟩, ⟨(.some 36), none, (.l .load1), [(.t 35)]⟩, ⟨(.some 37), none, (.q (.bin .geq 3)), [(.t 36), (.c (.imm (.int .i64 0)))]⟩, ⟨(.some 38), none, (.q .mv), [(.t 37)]⟩, ⟨(.some 39), (.some (38, true)), (.q (.faddr 37)), [(.t 1)]⟩, ⟨(.some 40), (.some (38, true)), (.l .load1), [(.t 39)]⟩, ⟨(.some 41), (.some (38, true)), (.q (.bin .leq 3)), [(.t 40), (.c (.imm (.int .i64 65536)))]⟩, ⟨(.some 42), none, (.q .pick), [(.t 38), (.t 41), (.c (.imm (.bool false)))]⟩, ⟨(.some 2), none, (.q .mv), [(.t 42)]⟩]) .ret) .skip)) (.seq (.reg false 0 [⟨(.some 43), none, (.q (.faddr 3)), [(.t 1)]⟩, ⟨(.some 44), none, (.l .load1), [(.t 43)]⟩, ⟨(.some 45), none, (.q (.bin .eql 3)), [(.t 44), (.c (.imm (.int .i64 2)))]⟩, ⟨(.some 46), none, (.q .mv), [(.t 45)]⟩, ⟨(.some 47), (.some (46, true)), (.q (.faddr 37)), [(.t 1)]⟩, ⟨(.some 48), (.some (46, true)), (.l .load1), [(.t 47)]⟩, ⟨(.some 49), (.some (46, true)), (.q (.bin .eql 3)), [(.t 48), (.c (.imm (.int .i64 0)))]⟩, ⟨(.some 50), none, (.q .pick), [(.t 46), (.t 49), (.c (.imm (.bool false)))]⟩, ⟨(.some 51), none, (.q .mv), [(.t 50)]⟩, ⟨(.some 52), (.some (51, true)), (.q (.faddr 5)), [(.t 1)]⟩, ⟨(.some 53), (.some (51, true)), (.l (.loadA 32)), [(.t 52)]⟩, ⟨(.some 54), (.some (51, true)), (.q (.build [(.imm (.int .u8 0)), (.imm (.int .u8 0)), (.imm (.int .u8 0)), (.imm (.int .u8 0)), (.imm (.int .u8 0)), (.imm (.int .u8 0)), (.imm (.int .u8 0)), (.imm (.int .u8 0)), (.imm (.int .u8 0)), (.imm (.int .u8 0)), (.imm (.int .u8 0)), (.imm (.int .u8 0)), (.imm (.int .u8 0)), (.imm (.int .u8 0)), (.imm (.int .u8 0)), (.imm (.int .u8 0)), (.imm (.int .u8 0)), (.imm (.int .u8 0)), (.imm (.int .u8 0)), (.imm (.int .u8 0)), (.imm (.int .u8 0)), (.imm (.int .u8 0)), (.imm (.int .u8 0)), (.imm (.int .u8 0)), (.imm (.int .u8 0)), (.imm (.int .u8 0)), (.imm (.int .u8 0)), (.imm (.int .u8 0)), (.imm (.int .u8 0)), (.imm (.int .u8 0)), (.imm (.int .u8 0)), (.imm (.int .u8 0))] [])), []⟩, ⟨(.some 55), (.some (51, true)), (.q (.eqA false 32)), [(.t 53), (.t 54)]⟩, ⟨(.some 56), none, (.q .pick), [(.t 51), (.t 55), (.c (.imm (.bool false)))]⟩, ⟨(.some 2), none, (.q .mv), [(.t 56)]⟩]) .ret))))
theorem fn48 : IsFn Tryz.prog 48 [] c48 [2] 57 := ⟨_, _, Tryz.func48, rfl, by decide +kernel, by kernel_rfl, rfl, rfl⟩
set_option maxHeartbeats 4000000 in
theorem p48' (e : Ev) (he : EvOk e) (hr : In64 e.r) (hq : In64 e.q) : Pure Tryz.prog G 48 [evV e] (bool (mayEv e)) := by
  refine pure_of_code' (S := sp [(58, dot1b dotOk), (61, vec1b fun v => decide (v = ofP (cnt v))), (42, vecInt fun v r => i64 (getV v r)), (62, txt1b (fun l => l.length ≤ 1099511627) ownP)] []) hm hG (sp_holds (.cons (told_dot1b p58) (.cons (told_vec1b p61) (.cons (told_vecInt fun v r h => p42' v r h) (.cons (told_txt1b p62) .nil)))) .nil) fn48 (St 5 57 [evV e, .junk, .junk, .junk, .junk] []) (by kernel_rfl) (by simp [lows, AV.low, lows_ev]) (by simp [AV.low]) ?_
  have hl := ev_len he.len
  have hs := he.small
  have hp := he.path
  have z1 := ev_size he.len
  have s1 := ev_sum he.len
  have q1 : ∀ K, qB (.eqA false 32) [.agg (e.sum.map u8), .agg [.imm (.int .u8 0), .imm (.int .u8 0), .imm (.int .u8 0), .imm (.int .u8 0), .imm (.int .u8 0), .imm (.int .u8 0), .imm (.int .u8 0), .imm (.int .u8 0), .imm (.int .u8 0), .imm (.int .u8 0), .imm (.int .u8 0), .imm (.int .u8 0), .imm (.int .u8 0), .imm (.int .u8 0), .imm (.int .u8 0), .imm (.int .u8 0), .imm (.int .u8 0), .imm (.int .u8 0), .imm (.int .u8 0), .imm (.int .u8 0), .imm (.int .u8 0), .imm (.int .u8 0), .imm (.int .u8 0), .imm (.int .u8 0), .imm (.int .u8 0), .imm (.int .u8 0), .imm (.int .u8 0), .imm (.int .u8 0), .imm (.int .u8 0), .imm (.int .u8 0), .imm (.int .u8 0), .imm (.int .u8 0)]] K = SplitP (e.sum = List.replicate 32 0) (K (bool true)) (K (bool false)) := fun K => by have := qB_eqSum (K := K) (m := List.replicate 32 0) he.len (by simp); exact this
  simp (maxSteps := 2000000) -implicitDefEqProofs only [c48, RS, RX, Nat.reduceLT, ↓RP0, ↓RP1, ↓RP2, ↓RP3, RV, RW, ↓reduceIte, Nat.reduceAdd, Nat.reduceSub, Nat.reduceMul, Nat.reduceLeDiff, Nat.reduceEqDiff, Int.reduceLT, Int.reduceLE, Int.reduceEq, Int.reduceNe, Int.reduceAdd, Int.reduceSub, Int.reduceMul, Int.reduceNeg, Int.reduceToNat, reduceCtorEq, ↓ask_dot1b, ask_dot1b, ↓ask_vec1b, ask_vec1b, ↓ask_vecInt, ask_vecInt, ↓ask_txt1b, ask_txt1b, q1, ev0, ev1, ev2, ev3, ev4, ev_take, z1, s1, hl, hs, hp, AV.strip1]
  have hd : dotOk e.r e.q = true → 1 ≤ e.q := fun h => by simp [dotOk] at h; omega
  obtain ⟨q0, q2⟩ := hq
  unfold mayEv mayBase
  clear q1 s1 z1 hp hs hl
  generalize decide (e.deps = ofP (cnt e.deps)) = c
  generalize ownP e.path = o
  generalize getV e.deps e.r = g
  generalize dotOk e.r e.q = d at *
  generalize e.sum = su
  generalize e.size = sz
  generalize e.kind = kd
  generalize e.q = q at *
  clear he hr
  repeat' (first | intro _ | apply And.intro)
  all_goals first | (have := hd ‹_›; omega) | (simp_all; done) | (simp_all; omega)

def slot (s : List Ev × Bool) : Nat := s.1.length + (if s.2 = true then 0 else 1)
theorem slot_step (e : Ev) (s : List Ev × Bool) (f : Ev) : slot (insStep e s f) ≤ slot s + 1 := by
  obtain ⟨o, d⟩ := s
  unfold insStep
  split
  · omega
  · split
    · rename_i h3
      have : d = false := h3.1
      subst this; simp [slot]
    · cases d <;> simp [slot]
theorem slot_all (e : Ev) : ∀ (h : List Ev) (s : List Ev × Bool), slot (h.foldl (insStep e) s) ≤ slot s + h.length
  | [], s => by simp
  | f :: h, s => by
    have h1 := slot_all e h (insStep e s f)
    have h2 := slot_step e s f
    simp only [List.foldl_cons, List.length_cons]; omega
theorem addRef_len (h : List Ev) (e : Ev) : (addRef h e).length ≤ h.length + 1 := by
  unfold addRef
  split
  · omega
  · have := slot_all e h ([], false)
    unfold insFin insAll
    generalize h.foldl (insStep e) ([], false) = s at *
    obtain ⟨o, d⟩ := s
    cases d <;> simp [slot] at this ⊢ <;> omega
theorem foldAdd_len : ∀ (k h : List Ev), (k.foldl addRef h).length ≤ h.length + k.length
  | [], h => by simp
  | e :: k, h => by
    have := foldAdd_len k (addRef h e)
    have := addRef_len h e
    simp only [List.foldl_cons, List.length_cons]; omega
theorem foldAdd_ok : ∀ (k h : List Ev), AllOk k → AllOk h → AllOk (k.foldl addRef h)
  | [], h, _, hh => hh
  | e :: k, h, hk, hh => foldAdd_ok k _ (fun x hx => hk x (List.mem_cons_of_mem _ hx)) (addRef_ok hh (hk e List.mem_cons_self))

def c23 : ACode := (.seq (.reg false 0 [⟨(.some 4), none, (.q .mv), [(.c (.sl 0 [] none))]⟩]) (.seq (.seq (.reg false 0 [⟨(.some 5), none, (.q .mv), [(.c (.imm (.int .i64 0)))]⟩]) (.block 0 (.loop (.seq (.seq (.reg false 0 [⟨(.some 6), none, (.q .mv), [(.t 5)]⟩, ⟨(.some 7), none, (.q .mv), [(.t 1)]⟩, ⟨(.some 8), none, (.q .lenL), [(.t 7)]⟩, ⟨(.some 9), none, (.q (.bin .lss 3)), [(.t 6), (.t 8)]⟩]) (.cond (.t 9) .skip (.exit 0))) (.seq (.block 1 (.reg false 0 [⟨(.some 12), none, (.q .mv), [(.t 0)]⟩, ⟨(.some 13), none, (.q .mv), [(.t 1)]⟩, ⟨(.some 14), none, (.q .mv), [(.t 5)]⟩, ⟨(.some 15), none, (.q (.iaddrS 38)), [(.t 13), (.t 14)]⟩, ⟨(.some 16), none, (.l (.loadA 38)), [(.t 15)]⟩, ⟨(.some 17), none, (.call true), [(.c (.fn (.func 21) [] [])), (.t 12), (.t 16)]⟩, ⟨(.some 0), none, (.q .mv), [(.t 17)]⟩])) (.reg false 0 [⟨(.some 10), none, (.q .mv), [(.t 5)]⟩, ⟨(.some 11), none, (.q (.bin .add 3)), [(.t 10), (.c (.imm (.int .i64 1)))]⟩, ⟨(.some 5), none, (.q .mv), [(.t 11)]⟩])))))) (.seq (.reg false 0 [⟨(.some 18), none, (.q .mv), [(.t 0)]⟩, ⟨(.some 4), none, (.q .mv), [(.t 18)]⟩]) .ret)))
theorem fn23 : IsFn Tryz.prog 23 [] c23 [4] 19 := ⟨_, _, Tryz.func23, rfl, by decide +kernel, by kernel_rfl, rfl, rfl⟩
set_option maxHeartbeats 4000000 in
theorem p23j (h k : List Ev) (hh : AllOk h) (hk : AllOk k) (h1 : h.length ≤ 1099511) (h2 : k.length ≤ 1099511) : Pure Tryz.prog G 23 [evsV h, evsV k] (evsV (k.foldl addRef h)) := by
  refine pure_of_code' (S := sp [(21, evs1e addRef)] []) hm hG (sp_holds (.cons (told_evs1e p21') .nil) .nil) fn23 (St 6 19 [evsV h, evsV k, .junk, .junk, .junk, .junk] []) (by kernel_rfl) (by simp [lows, AV.low, lows_evs]) (by simp [AV.low, lows_evs]) ?_
  simp (maxSteps := 2000000) -implicitDefEqProofs only [c23, RS, RX, Nat.reduceLT, ↓RP0, ↓RP1, ↓RP2, ↓RP3, RV, RW, ↓reduceIte, Nat.reduceAdd, Nat.reduceSub, Nat.reduceMul, Nat.reduceLeDiff, Nat.reduceEqDiff, Int.reduceLT, Int.reduceLE, Int.reduceEq, Int.reduceNe, Int.reduceAdd, Int.reduceSub, Int.reduceMul, Int.reduceNeg, Int.reduceToNat, reduceCtorEq, evs_len]
  refine loopB (st := fun (i : Nat) => (St 6 19 [evsV ((k.take i).foldl addRef h), evsV k, .junk, .junk, .sl 0 [] none, i64 i] [])) (hp := fun _ => []) (I := fun i => i ≤ k.length) (m := fun i => k.length - i) (0 : Nat) (Nat.zero_le _) ?_ ?_
  · refine weak_nilS ?_; simp [WeakL, AV.low, lows, lows_evs]
  · intro i hi
    by_cases hlt : i < k.length
    · have e1 := evs_get hlt
      have e3 : (i : Int) < (k.length : Int) := by omega
      have o1 := evs_ok hk i
      have t1 := evs_take hlt
      have ok := foldAdd_ok (k.take i) h (fun x hx => hk x (List.mem_of_mem_take hx)) hh
      have ln := foldAdd_len (k.take i) h
      have ln2 : ((k.take i).foldl addRef h).length ≤ 1099511627 := by
        have : (k.take i).length ≤ k.length := by rw [List.length_take]; omega
        omega
      have hst : (k.take (i + 1)).foldl addRef h = addRef ((k.take i).foldl addRef h) (k.getD i ev0d) := by rw [t1, List.foldl_append]; rfl
      generalize k.getD i ev0d = x at *
      generalize (k.take i).foldl addRef h = s at *
      have l1 := ev_len o1.len
      have k1 := take38 o1
      have q : ∀ K, ask (evs1e addRef) [.sl 38 (s.map evV) none, .agg (evCells x)] K = (s.length ≤ 1099511627 ∧ K (evsV (addRef s x))) := fun K => ask_evs1e ok o1
      simp (maxSteps := 2000000) -implicitDefEqProofs only [RS, RX, Nat.reduceLT, ↓RP0, ↓RP1, ↓RP2, ↓RP3, RV, RW, ↓reduceIte, Nat.reduceAdd, Nat.reduceSub, Nat.reduceMul, Nat.reduceLeDiff, Nat.reduceEqDiff, Int.reduceLT, Int.reduceLE, Int.reduceEq, Int.reduceNe, Int.reduceAdd, Int.reduceSub, Int.reduceMul, Int.reduceNeg, Int.reduceToNat, reduceCtorEq, ↓q, q, e1, e3, evs_len, l1, k1, ln2, ev_strip, AV.cells]
      refine ⟨⟨by omega, by omega⟩, i + 1, by dsimp only; omega, by omega, ?_⟩
      dsimp only
      rw [hst]
      refine weak_nilS ?_; simp [WeakL, AV.low, lows, lows_evs]
    · obtain rfl : i = k.length := by omega
      simp (maxSteps := 2000000) -implicitDefEqProofs only [RS, RX, Nat.reduceLT, ↓RP0, ↓RP1, ↓RP2, ↓RP3, RV, RW, ↓reduceIte, Nat.reduceAdd, Nat.reduceSub, Nat.reduceMul, Nat.reduceLeDiff, Nat.reduceEqDiff, Int.reduceLT, Int.reduceLE, Int.reduceEq, Int.reduceNe, Int.reduceAdd, Int.reduceSub, Int.reduceMul, Int.reduceNeg, Int.reduceToNat, reduceCtorEq, evs_len, Int.lt_irrefl, List.take_length]
end Go.AL.Path
