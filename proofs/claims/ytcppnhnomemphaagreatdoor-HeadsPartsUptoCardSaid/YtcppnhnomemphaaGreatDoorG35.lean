/- Plain laws: the program's answers are the reference's. -/
import Derived.Test.YtcppnhnomemphaaGreatDoorG34
set_option linter.unusedSimpArgs false
set_option linter.unusedVariables false
set_option maxRecDepth 100000
namespace Go.AL.Path
open Go Go.RowKit Go.Proofs Go.AL

/-! One more event. -/
theorem insStep_gone {e f : Ev} {s : List Ev × Bool} (h : gone e f = true) : insStep e s f = s := by unfold insStep; rw [if_pos h]
theorem insStep_put {e f : Ev} {acc : List Ev} (h : ¬ gone e f = true) (hc : 0 < cmpEv f e) : insStep e (acc, false) f = (acc ++ [e] ++ [f], true) := by unfold insStep; rw [if_neg h, if_pos ⟨rfl, hc⟩]
theorem insStep_keep {e f : Ev} {acc : List Ev} (h : ¬ gone e f = true) (hc : ¬ 0 < cmpEv f e) : insStep e (acc, false) f = (acc ++ [f], false) := by unfold insStep; rw [if_neg h, if_neg (by simp [hc])]
theorem insStep_on {e f : Ev} {acc : List Ev} (h : ¬ gone e f = true) : insStep e (acc, true) f = (acc ++ [f], true) := by unfold insStep; rw [if_neg h, if_neg (by simp)]
theorem ins_done (e : Ev) : ∀ (h acc : List Ev), h.foldl (insStep e) (acc, true) = (acc ++ h.filter (fun f => !gone e f), true)
  | [], acc => by simp
  | f :: h, acc => by
    rw [List.foldl_cons]
    by_cases hg : gone e f = true
    · rw [insStep_gone hg, ins_done e h acc]; simp [hg]
    · rw [insStep_on hg, ins_done e h]
      simp [hg]
theorem ins_find (e : Ev) : ∀ (h acc : List Ev), h.foldl (insStep e) (acc, false) =
    if (h.filter (fun f => !gone e f)).any (fun f => decide (0 < cmpEv f e)) = true
    then (acc ++ ((h.filter (fun f => !gone e f)).take ((h.filter (fun f => !gone e f)).findIdx (fun f => decide (0 < cmpEv f e))) ++ [e] ++ (h.filter (fun f => !gone e f)).drop ((h.filter (fun f => !gone e f)).findIdx (fun f => decide (0 < cmpEv f e)))), true)
    else (acc ++ h.filter (fun f => !gone e f), false)
  | [], acc => by simp
  | f :: h, acc => by
    rw [List.foldl_cons]
    by_cases hg : gone e f = true
    · rw [insStep_gone hg, ins_find e h acc]
      have : (f :: h).filter (fun f => !gone e f) = h.filter (fun f => !gone e f) := by simp [hg]
      rw [this]
    · have hf : (f :: h).filter (fun f => !gone e f) = f :: h.filter (fun f => !gone e f) := by simp [hg]
      rw [hf]
      by_cases hc : 0 < cmpEv f e
      · rw [insStep_put hg hc, ins_done]
        simp [hc, List.findIdx_cons]
      · rw [insStep_keep hg hc, ins_find e h]
        simp only [List.any_cons, hc, decide_false, Bool.false_or, List.findIdx_cons, cond_false]
        split <;> simp
theorem addP_eq (h : List Ev) (e : Ev) : addP h e = addRef h e := by
  unfold addP addRef
  split
  · rfl
  · unfold insAll insFin
    rw [ins_find]
    unfold idxOf
    generalize h.filter (fun f => !gone e f) = out
    dsimp only
    by_cases ha : out.any (fun f => decide (0 < cmpEv f e)) = true
    · rw [if_pos ha, if_pos ha]
      have h0 : ¬ ((out.findIdx (fun f => decide (0 < cmpEv f e)) : Nat) : Int) < 0 := by omega
      rw [if_neg h0]
      simp
    · rw [if_neg ha, if_neg ha]
      simp
theorem joinP_eq (h k : List Ev) : k.foldl addP h = k.foldl addRef h := by
  have : addP = addRef := funext fun h => funext fun e => addP_eq h e
  rw [this]

/-! Whether they are heads. -/
def dots (h : List Ev) : List (Int × Int) := h.map fun e => (e.r, e.q)
theorem dput_keys (d : Cnt) (x y : Int × Int) : y ∈ (dput d x).map (·.1) ↔ y ∈ d.map (·.1) ∨ y = x := by
  induction d with
  | nil => simp [dput]
  | cons a d ih =>
    obtain ⟨k, n⟩ := a
    unfold dput
    by_cases h : k = x
    · subst h
      rw [if_pos rfl]
      simp only [List.map_cons, List.mem_cons]
      constructor
      · exact fun h => .inl h
      · rintro (h | rfl)
        · exact h
        · exact .inl rfl
    · rw [if_neg h]
      simp only [List.map_cons, List.mem_cons, ih]
      constructor
      · rintro (h | h | h)
        · exact .inl (.inl h)
        · exact .inl (.inr h)
        · exact .inr h
      · rintro ((h | h) | h)
        · exact .inl h
        · exact .inr (.inl h)
        · exact .inr (.inr h)
theorem dm_full' : ∀ (l : List Ev) (d : Cnt), (l.foldl (fun d e => dput d (e.r, e.q)) d).length ≤ d.length + l.length ∧
    ((l.foldl (fun d e => dput d (e.r, e.q)) d).length = d.length + l.length ↔ (dots l).Nodup ∧ ∀ x ∈ dots l, x ∉ d.map (·.1))
  | [], d => by simp [dots]
  | e :: l, d => by
    obtain ⟨h1, h2⟩ := dm_full' l (dput d (e.r, e.q))
    have hl := dput_len d (e.r, e.q)
    rw [List.foldl_cons]
    simp only [dots, List.map_cons, List.nodup_cons, List.length_cons]
    change _ ∧ (_ ↔ (((e.r, e.q) ∉ dots l) ∧ (dots l).Nodup) ∧ ∀ x ∈ (e.r, e.q) :: dots l, x ∉ d.map (·.1))
    by_cases hm : (e.r, e.q) ∈ d.map (·.1)
    · rw [if_pos hm] at hl
      refine ⟨by omega, ⟨fun h => by omega, fun h => absurd hm (h.2 _ List.mem_cons_self)⟩⟩
    · rw [if_neg hm] at hl
      refine ⟨by omega, ⟨fun h => ?_, fun h => ?_⟩⟩
      · have h3 := h2.1 (by omega)
        refine ⟨⟨fun hx => h3.2 _ hx ((dput_keys _ _ _).2 (.inr rfl)), h3.1⟩, fun x hx => ?_⟩
        rcases List.mem_cons.1 hx with rfl | hx
        · exact hm
        · exact fun hd => h3.2 x hx ((dput_keys _ _ _).2 (.inl hd))
      · have := h2.2 ⟨h.1.2, fun x hx hd => by
          rcases (dput_keys _ _ _).1 hd with hd | rfl
          · exact h.2 x (List.mem_cons_of_mem _ hx) hd
          · exact h.1.1 hx⟩
        omega
theorem dm_full (h : List Ev) : (dm h).length = h.length ↔ (dots h).Nodup := by
  have := (dm_full' h []).2
  simp only [List.length_nil, Nat.zero_add, List.map_nil, List.not_mem_nil, not_false_eq_true, implies_true, and_true] at this
  exact this
theorem dots_get (h : List Ev) {i : Nat} (hi : i < (dots h).length) : (dots h)[i] = ((h.getD i ev0d).r, (h.getD i ev0d).q) := by
  have hi' : i < h.length := by simpa [dots] using hi
  rw [List.getD_eq_getElem?_getD, List.getElem?_eq_getElem hi']
  exact List.getElem_map ..
theorem nodup_iff (h : List Ev) : (dots h).Nodup ↔ ∀ i k, i < h.length → k < h.length → ¬ i = k → ¬ ((h.getD i ev0d).r = (h.getD k ev0d).r ∧ (h.getD i ev0d).q = (h.getD k ev0d).q) := by
  have hl : (dots h).length = h.length := by simp [dots]
  rw [List.Nodup, List.pairwise_iff_getElem]
  constructor
  · intro hp i k hi hk hik he
    rcases Nat.lt_or_gt_of_ne hik with hlt | hlt
    · exact hp i k (by omega) (by omega) hlt (by rw [dots_get, dots_get, he.1, he.2])
    · exact hp k i (by omega) (by omega) hlt (by rw [dots_get, dots_get, he.1, he.2])
  · intro hp i j hi hj hij he
    rw [dots_get, dots_get] at he
    injection he with h1 h2
    exact hp i j (by omega) (by omega) (by omega) ⟨h1, h2⟩
theorem any_get {α : Type} {d : α} {l : List α} {p : α → Bool} : l.any p = false ↔ ∀ k, k < l.length → p (l.getD k d) = false := by
  rw [List.any_eq_false]
  constructor
  · intro h k hk
    have := h (l.getD k d) (by rw [List.getD_eq_getElem?_getD, List.getElem?_eq_getElem hk]; exact List.getElem_mem hk)
    simpa using this
  · intro h x hx
    obtain ⟨k, hk, rfl⟩ := List.mem_iff_getElem.1 hx
    have := h k hk
    rw [List.getD_eq_getElem?_getD, List.getElem?_eq_getElem hk] at this
    simpa using this
theorem mayHeads_eq (h : List Ev) : mayHeads h = mayRef h := by
  rw [Bool.eq_iff_iff]
  unfold mayHeads mayRef
  simp only [Bool.and_eq_true, decide_eq_true_eq, dm_full, nodup_iff, List.all_eq_true, List.mem_range]
  constructor
  · rintro ⟨h1, h2⟩ i hi
    have h3 := h1 i hi
    unfold badAt at h3
    simp only [Bool.not_eq_true', Bool.or_eq_false_iff, Bool.not_eq_false'] at h3
    unfold okR
    simp only [Bool.and_eq_true, Bool.not_eq_true', List.all_eq_true, List.mem_range]
    refine ⟨⟨h3.1.1, h3.2⟩, fun k hk => ?_⟩
    by_cases hik : i = k
    · simp [hik]
    · have h4 := h2 i k hi hk hik
      have h5 := h1 k hk
      unfold badAt at h5
      simp only [Bool.not_eq_true', Bool.or_eq_false_iff, Bool.not_eq_false'] at h5
      have h6 := (any_get (d := ev0d)).1 h5.1.2 i hi
      unfold beaten at h6
      have hd : pairBad (h.getD i ev0d) (h.getD k ev0d) = false := by
        unfold pairBad
        simp only [h4, decide_false, Bool.false_or]
        simp only [h4, decide_false, Bool.not_false, Bool.and_true] at h6
        exact h6
      rw [hd]; simp
  · intro hp
    have key : ∀ i k, i < h.length → k < h.length → ¬ i = k → pairBad (h.getD i ev0d) (h.getD k ev0d) = false := by
      intro i k hi hk hik
      have := hp i hi
      unfold okR at this
      simp only [Bool.and_eq_true, Bool.not_eq_true', List.all_eq_true, List.mem_range] at this
      have := this.2 k hk
      simpa [hik] using this
    refine ⟨fun i hi => ?_, fun i k hi hk hik he => ?_⟩
    · have := hp i hi
      unfold okR at this
      simp only [Bool.and_eq_true, Bool.not_eq_true', List.all_eq_true, List.mem_range] at this
      unfold badAt
      simp only [Bool.not_eq_true', Bool.or_eq_false_iff, Bool.not_eq_false']
      refine ⟨⟨this.1.1, ?_⟩, this.1.2⟩
      rw [any_get (d := ev0d)]
      intro k hk
      unfold beaten
      by_cases hik : k = i
      · subst hik; simp
      · have := key k i hk hi hik
        unfold pairBad at this
        rw [Bool.or_eq_false_iff] at this
        simp only [this.1, Bool.not_false, Bool.and_true]
        exact this.2
    · have := key i k hi hk hik
      unfold pairBad at this
      rw [Bool.or_eq_false_iff] at this
      rw [he.1, he.2] at this
      simp at this
end Go.AL.Path

/- HeadsAdd, walked. -/
set_option linter.unusedSimpArgs false
set_option linter.unusedVariables false
set_option maxRecDepth 100000
namespace Go.AL.Path
open Go Go.RowKit Go.Proofs Go.AL

theorem foldR_len : ∀ (k h : List Ev), (k.foldl addRef h).length ≤ h.length + k.length
  | [], h => by simp
  | e :: k, h => by
    have := foldR_len k (addRef h e)
    have := addRef_len h e
    simp only [List.foldl_cons, List.length_cons]; omega
theorem foldR_ok : ∀ {k h : List Ev}, AllOk k → AllOk h → AllOk (k.foldl addRef h)
  | [], h, _, hh => hh
  | e :: k, h, hk, hh => foldR_ok (k := k) (h := addRef h e) (fun x hx => hk x (List.mem_cons_of_mem _ hx)) (addRef_ok hh (hk e List.mem_cons_self))

theorem p11r (h : List Ev) (e : Ev) (ho : AllOk h) (he : EvOk e) (hs : h.length ≤ 1099511627) : Pure Tryz.prog G 11 [evsV h, evV e] (evsV (addRef h e)) := by rw [← addP_eq]; exact p11c h e ho he hs
theorem p22r (h k : List Ev) (h1 : Evs 1099511 h) (h2 : Evs 1099511 k) : Pure Tryz.prog G 22 [evsV h, evsV k] (evsV (k.foldl addRef h)) := by rw [← joinP_eq]; exact p22c h k h1.1 h2.1 (by have := h1.2; omega) (by have := h2.2; omega)
theorem p10r (h : List Ev) (hh : EvsIn 1099511627 h) : Pure Tryz.prog G 10 [evsV h] (bool (mayRef h)) := by rw [← mayHeads_eq]; exact p10c h hh.1 hh.2.1 hh.2.2
theorem ask_same {a : List Ev} (ha : AllOk a) (hs : a.length ≤ 1099511627776) {K} : ask (evs2b fun a b => decide (a = b)) [evsV a, evsV a] K = K (bool true) := by
  rw [ask_evs2b ha ha]
  simp [splitB_eq, SplitP, hs]

def c5 : ACode := (.seq (.reg false 1 [⟨(.some 5), none, (.m .box 0), [(.t 2)]⟩, ⟨(.some 6), none, (.q .mv), [(.c (.imm (.bool false)))]⟩]) (.seq (.reg false 0 [⟨(.some 8), none, (.call true), [(.c (.fn (.func 8) [] []))]⟩, ⟨(.some 7), none, (.q .mv), [(.t 8)]⟩]) (.seq (.seq (.reg false 0 [⟨(.some 9), none, (.q .mv), [(.t 0)]⟩, ⟨(.some 10), none, (.call true), [(.c (.fn (.func 9) [] [])), (.t 9)]⟩, ⟨(.some 11), none, (.q (.un .not)), [(.t 10)]⟩, ⟨(.some 12), none, (.q .mv), [(.t 11)]⟩, ⟨(.some 13), (.some (12, false)), (.q .mv), [(.t 1)]⟩, ⟨(.some 14), (.some (12, false)), (.call true), [(.c (.fn (.func 9) [] [])), (.t 13)]⟩, ⟨(.some 15), (.some (12, false)), (.q (.un .not)), [(.t 14)]⟩, ⟨(.some 16), none, (.q .pick), [(.t 12), (.c (.imm (.bool true))), (.t 15)]⟩, ⟨(.some 17), none, (.q .mv), [(.t 16)]⟩, ⟨(.some 18), (.some (17, false)), (.q (.faddr 2)), [(.t 5)]⟩, ⟨(.some 19), (.some (17, false)), (.l .load1), [(.t 18)]⟩, ⟨(.some 20), (.some (17, false)), (.q .lenL), [(.t 19)]⟩, ⟨(.some 21), (.some (17, false)), (.q (.bin .gtr 3)), [(.t 20), (.c (.imm (.int .i64 60)))]⟩, ⟨(.some 22), none, (.q .pick), [(.t 17), (.c (.imm (.bool true))), (.t 21)]⟩]) (.cond (.t 22) (.seq (.reg false 0 [⟨(.some 23), none, (.q .mv), [(.t 7)]⟩, ⟨(.some 6), none, (.q .mv), [(.t 23)]⟩]) .ret) .skip)) (.seq (.reg true 0 [⟨(.some 24), none, (.q .mv), [(.t 7)]⟩, ⟨(.some 25), none, (.q .mv), [(.t 24)]⟩, ⟨(.some 26), (.some (25, true)), (.q .mv), [(.t 0)]⟩, ⟨(.some 27), (.some (25, true)), (.call true), [(.c (.fn (.func 10) [] [])), (.t 26)]⟩, ⟨(.some 28), (.some (25, true)), (.q .mv), [(.t 0)]⟩, ⟨(.some 29), (.some (25, true)), (.call true), [(.c (.fn (.func 20) [] [])), (.t 28)]⟩, ⟨(.some 30), (.some (25, true)), (.q (.eqBoo false)), [(.t 27), (.t 29)]⟩, ⟨(.some 31), none, (.q .pick), [(.t 25), (.t 30), (.c (.imm (.bool false)))]⟩, ⟨(.some 32), none, (.q .mv), [(.t 31)]⟩, ⟨(.some 33), (.some (32, true)), (.q .mv), [(.t 0)]⟩, ⟨(.some 34), (.some (32, true)), (.l (.loadA 38)), [(.t 5)]⟩, ⟨(.some 35), (.some (32, true)), (.call false), [(.c (.fn (.func 11) [] [])), (.t 33), (.t 34)]⟩, ⟨(.some 36), (.some (32, true)), (.q .mv), [(.t 0)]⟩, ⟨(.some 37), (.some (32, true)), (.l (.loadA 38)), [(.t 5)]⟩, ⟨(.some 38), (.some (32, true)), (.call true), [(.c (.fn (.func 21) [] [])), (.t 36), (.t 37)]⟩, ⟨(.some 39), (.some (32, true)), (.call true), [(.c (.fn (.func 19) [] [])), (.t 35), (.t 38)]⟩, ⟨(.some 40), none, (.q .pick), [(.t 32), (.t 39), (.c (.imm (.bool false)))]⟩, ⟨(.some 41), none, (.q .mv), [(.t 40)]⟩, ⟨(.some 42), (.some (41, true)), (.q .mv), [(.t 0)]⟩, ⟨(.some 43), (.some (41, true)), (.q .mv), [(.t 1)]⟩, ⟨(.some 44), (.some (41, true)), (.call true), [(.c (.fn (.func 22) [] [])), (.t 42), (.t 43)]⟩, ⟨(.some 45), (.some (41, true)), (.q .mv), [(.t 0)]⟩, ⟨(.some 46), (.some (41, true)), (.q .mv), [(.t 1)]⟩, ⟨(.some 47), (.some (41, true)), (.call true), [(.c (.fn (.func 23) [] [])), (.t 45), (.t 46)]⟩, ⟨(.some 48), (.some (41, true)), (.call true), [(.c (.fn (.func 19) [] [])), (.t 44), (.t 47)]⟩, ⟨(.some 49), none, (.q .pick), [(.t 41), (.t 48), (.c (.imm (.bool false)))]⟩, ⟨(.some 6), none, (.q .mv), [(.t 49)]⟩]) .ret))))
theorem fn5 : IsFn Tryz.prog 5 [] c5 [6] 50 := ⟨_, _, Tryz.func5, rfl, by decide +kernel, by kernel_rfl, rfl, rfl⟩
set_option maxHeartbeats 8000000 in
theorem p5s (h k : List Ev) (e : Ev) (hh : EvsIn 1099511 h) (hk : Evs 1099511 k) (he : EvOk e) : Pure Tryz.prog G 5 [evsV h, evsV k, evV e] (bool true) := by
  have h1 := hh.2.2
  have h2 := hk.2
  refine pure_of_code' (S := sp [(8, none0 (bool true)), (9, evs1b smallB), (10, mayS mayRef), (20, mayS mayRef), (11, evs1e addRef), (21, evs1e addRef), (19, evs2b fun a b => decide (a = b)), (22, evs2 fun l m => m.foldl addRef l), (23, evs2 fun l m => m.foldl addRef l)] []) hm hG
    (sp_holds (.cons (told_none0 p8s) (.cons (told_evs1b fun l hl => p9s l hl.1 hl.2) (.cons (told_mayS p10r) (.cons (told_mayS fun l hl => p20' l hl.1 hl.2.1 hl.2.2) (.cons (told_evs1e p11r) (.cons (told_evs1e p21') (.cons (told_evs2b p19') (.cons (told_evs2 p22r) (.cons (told_evs2 fun l m hl hm => p23j l m hl.1 hm.1 hl.2 hm.2) .nil))))))))) .nil)
    fn5 (St 8 50 [evsV h, evsV k, evV e, .junk, .junk, .junk, .junk, .junk] []) (by kernel_rfl) (by simp [lows, AV.low, lows_evs, lows_ev]) (by simp [AV.low]) ?_
  have le := ev_len he.len
  have ke := take38 he
  have te : (evCells e).map AV.strip1 = evCells e := ev_strip
  have q9 : ∀ K, ask (evs1b smallB) [evsV h] K = splitB (smallB h) K := fun K => ask_evs1b ⟨hh.1, by omega⟩
  have q9' : ∀ K, ask (evs1b smallB) [evsV k] K = splitB (smallB k) K := fun K => ask_evs1b ⟨hk.1, by omega⟩
  have q10 : ∀ K, ask (mayS mayRef) [evsV h] K = splitB (mayRef h) K := fun K => ask_mayS ⟨hh.1, hh.2.1, by omega⟩
  have q11 : ∀ K, ask (evs1e addRef) [evsV h, .agg (evCells e)] K = K (evsV (addRef h e)) := fun K => (ask_evs1e hh.1 he).trans (eq_iff_iff.2 ⟨fun h => h.2, fun h => ⟨by omega, h⟩⟩)
  have q22 : ∀ K, ask (evs2 fun l m => m.foldl addRef l) [evsV h, evsV k] K = K (evsV (k.foldl addRef h)) := fun K => ask_evs2 ⟨hh.1, h1⟩ hk
  have l11 := addRef_len h e
  have l22 := foldR_len k h
  have q19 : ∀ K, ask (evs2b fun a b => decide (a = b)) [evsV (addRef h e), evsV (addRef h e)] K = K (bool true) := fun K => ask_same (addRef_ok hh.1 he) (by omega)
  have q19' : ∀ K, ask (evs2b fun a b => decide (a = b)) [evsV (k.foldl addRef h), evsV (k.foldl addRef h)] K = K (bool true) := fun K => ask_same (foldR_ok hk.1 hh.1) (by omega)
  generalize addRef h e = r1 at *
  generalize k.foldl addRef h = r2 at *
  have ev2' : (evCells e)[2]? = some (vecV e.deps) := ev2
  cases b1 : smallB h with
  | false =>
    simp (maxSteps := 2000000) -implicitDefEqProofs only [c5, RS, RX, Nat.reduceLT, ↓RP0, ↓RP1, ↓RP2, ↓RP3, RV, RW, ↓reduceIte, Nat.reduceAdd, Nat.reduceSub, Nat.reduceMul, Nat.reduceLeDiff, Nat.reduceEqDiff, Int.reduceLT, Int.reduceLE, Int.reduceEq, Int.reduceNe, Int.reduceAdd, Int.reduceSub, Int.reduceMul, Int.reduceNeg, Int.reduceToNat, reduceCtorEq, ↓q9, q9, le, ke, te, b1, AV.cells]
  | true =>
    cases b2 : smallB k with
    | false => 
      simp (maxSteps := 2000000) -implicitDefEqProofs only [c5, RS, RX, Nat.reduceLT, ↓RP0, ↓RP1, ↓RP2, ↓RP3, RV, RW, ↓reduceIte, Nat.reduceAdd, Nat.reduceSub, Nat.reduceMul, Nat.reduceLeDiff, Nat.reduceEqDiff, Int.reduceLT, Int.reduceLE, Int.reduceEq, Int.reduceNe, Int.reduceAdd, Int.reduceSub, Int.reduceMul, Int.reduceNeg, Int.reduceToNat, reduceCtorEq, ↓q9, q9, ↓q9', q9', le, ke, te, b1, b2, AV.cells]
    | true =>
      by_cases hd : 60 < e.deps.length
      · have hd' : ((60 : Int) < (e.deps.length : Int)) = True := eq_true (by omega)
        simp (maxSteps := 2000000) -implicitDefEqProofs only [c5, RS, RX, Nat.reduceLT, ↓RP0, ↓RP1, ↓RP2, ↓RP3, RV, RW, ↓reduceIte, Nat.reduceAdd, Nat.reduceSub, Nat.reduceMul, Nat.reduceLeDiff, Nat.reduceEqDiff, Int.reduceLT, Int.reduceLE, Int.reduceEq, Int.reduceNe, Int.reduceAdd, Int.reduceSub, Int.reduceMul, Int.reduceNeg, Int.reduceToNat, reduceCtorEq, ↓q9, q9, ↓q9', q9', le, ke, te, b1, b2, ev2', hd', vdots_len, AV.cells]
      · have hd' : ((60 : Int) < (e.deps.length : Int)) = False := eq_false (by omega)
        cases b3 : mayRef h with
        | false =>
          simp (maxSteps := 2000000) -implicitDefEqProofs only [c5, RS, RX, Nat.reduceLT, ↓RP0, ↓RP1, ↓RP2, ↓RP3, RV, RW, ↓reduceIte, Nat.reduceAdd, Nat.reduceSub, Nat.reduceMul, Nat.reduceLeDiff, Nat.reduceEqDiff, Int.reduceLT, Int.reduceLE, Int.reduceEq, Int.reduceNe, Int.reduceAdd, Int.reduceSub, Int.reduceMul, Int.reduceNeg, Int.reduceToNat, reduceCtorEq, ↓q9, q9, ↓q9', q9', ↓q10, q10, ↓q11, q11, ↓q22, q22, ↓q19, q19, ↓q19', q19', le, ke, te, b1, b2, b3, ev2', hd', vdots_len, AV.cells]
        | true =>
          simp (maxSteps := 2000000) -implicitDefEqProofs only [c5, RS, RX, Nat.reduceLT, ↓RP0, ↓RP1, ↓RP2, ↓RP3, RV, RW, ↓reduceIte, Nat.reduceAdd, Nat.reduceSub, Nat.reduceMul, Nat.reduceLeDiff, Nat.reduceEqDiff, Int.reduceLT, Int.reduceLE, Int.reduceEq, Int.reduceNe, Int.reduceAdd, Int.reduceSub, Int.reduceMul, Int.reduceNeg, Int.reduceToNat, reduceCtorEq, ↓q9, q9, ↓q9', q9', ↓q10, q10, ↓q11, q11, ↓q22, q22, ↓q19, q19, ↓q19', q19', le, ke, te, b1, b2, b3, ev2', hd', vdots_len, AV.cells]
end Go.AL.Path
