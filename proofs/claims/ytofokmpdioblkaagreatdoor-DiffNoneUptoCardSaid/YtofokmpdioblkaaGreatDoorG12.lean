/- The temporaries in two parts: the variables, that stay from round to round, and what has been reckoned since, newest first. -/
import Derived.Test.YtofokmpdioblkaaGreatDoorG11
import Derived.KernelRfl
set_option linter.unusedSimpArgs false
set_option linter.unusedVariables false
namespace Go.AL
open Go
def look : List (Nat × AV) → Nat → AV
  | [], _ => .junk
  | (j, v) :: r, k => if k = j then v else look r k
def putP : List AV → Nat → AV → List AV
  | _ :: as, 0, r => r :: as
  | [], 0, r => [r]
  | a :: as, k + 1, r => a :: putP as k r
  | [], k + 1, r => .junk :: putP [] k r
/-- n temporaries, of which the first V are variables. -/
def St (V n : Nat) (vs : List AV) (ov : List (Nat × AV)) : List AV := (List.range n).map fun i => if i < V then getL vs i else look ov i
theorem getL_putP : ∀ (vs : List AV) (k : Nat) (r : AV) (i : Nat), getL (putP vs k r) i = if i = k then r else getL vs i
  | a :: as, 0, r, 0 => rfl
  | a :: as, 0, r, i + 1 => by simp [putP, getL]
  | [], 0, r, 0 => rfl
  | [], 0, r, i + 1 => by simp [putP, getL]
  | a :: as, k + 1, r, 0 => by simp [putP, getL]
  | a :: as, k + 1, r, i + 1 => by
    have := getL_putP as k r i
    simp only [putP, getL, List.getD_cons_succ, Nat.add_right_cancel_iff] at this ⊢
    exact this
  | [], k + 1, r, 0 => by simp [putP, getL]
  | [], k + 1, r, i + 1 => by
    have := getL_putP [] k r i
    simp only [putP, getL, List.getD_cons_succ, List.getD_nil, Nat.add_right_cancel_iff] at this ⊢
    exact this
theorem getL_out {vs : List AV} {i : Nat} (h : vs.length ≤ i) : getL vs i = .junk := by
  unfold getL; rw [List.getD_eq_getElem?_getD, List.getElem?_eq_none h]; rfl
theorem getL_St {V n : Nat} {vs : List AV} {ov : List (Nat × AV)} {k : Nat} : getL (St V n vs ov) k = if k < n then (if k < V then getL vs k else look ov k) else .junk := by
  by_cases h : k < n
  · rw [if_pos h]
    unfold St
    show List.getD _ _ _ = _
    rw [List.getD_eq_getElem?_getD, List.getElem?_map, List.getElem?_range h]
    rfl
  · rw [if_neg h]
    exact getL_out (by simp [St]; omega)
theorem putL_St {V n : Nat} {vs : List AV} {ov : List (Nat × AV)} {k : Nat} {r : AV} : putL (St V n vs ov) (some k) r = if k < V then St V n (putP vs k r) ov else St V n vs ((k, r) :: ov) := by
  show (St V n vs ov).set k r = _
  have hget : ∀ (i : Nat) (h : i < n), (St V n vs ov)[i]'(by simp [St]; exact h) = if i < V then getL vs i else look ov i := fun i h => by simp [St]
  by_cases hk : k < V
  · rw [if_pos hk]
    apply List.ext_getElem
    · simp [St]
    · intro i h1 h2
      have hi : i < n := by simpa [St] using h2
      rw [List.getElem_set]
      by_cases e : k = i
      · subst e
        simp [St, hk, getL_putP]
      · rw [if_neg e, hget i hi]
        have e' : ¬ i = k := fun h => e h.symm
        simp [St, getL_putP, e']
  · rw [if_neg hk]
    apply List.ext_getElem
    · simp [St]
    · intro i h1 h2
      have hi : i < n := by simpa [St] using h2
      rw [List.getElem_set]
      by_cases e : k = i
      · subst e
        simp [St, hk, look]
      · rw [if_neg e, hget i hi]
        have e' : ¬ i = k := fun h => e h.symm
        simp [St, look, e']
theorem putP_zero {a as r} : putP (a :: as) 0 r = r :: as := rfl
theorem putP_succ {a as n r} : putP (a :: as) (n + 1) r = a :: putP as n r := rfl
theorem putP_8 {a0 a1 a2 a3 a4 a5 a6 a7 as n r} : putP (a0 :: a1 :: a2 :: a3 :: a4 :: a5 :: a6 :: a7 :: as) (n + 8) r = a0 :: a1 :: a2 :: a3 :: a4 :: a5 :: a6 :: a7 :: putP as n r := rfl
theorem look_hit {j v l} : look ((j, v) :: l) j = v := by simp [look]
theorem look_cons {j v l k} : look ((j, v) :: l) k = if k = j then v else look l k := rfl
theorem look_nil {k} : look [] k = .junk := rfl
theorem weakL_map {m : Nat} {f g : Nat → AV} : ∀ {l : List Nat}, (∀ i ∈ l, g i = .junk ∨ (g i = f i ∧ (f i).low m) ∨ (g i = (f i).strip ∧ (g i).low m)) → WeakL m (l.map f) (l.map g)
  | [], _ => trivial
  | i :: l, h => ⟨h i List.mem_cons_self, weakL_map fun j hj => h j (List.mem_cons_of_mem _ hj)⟩
theorem WeakL.get {m : Nat} : ∀ {as bs : List AV} (i : Nat), WeakL m as bs → getL bs i = .junk ∨ (getL bs i = getL as i ∧ (getL as i).low m) ∨ (getL bs i = (getL as i).strip ∧ (getL bs i).low m)
  | [], [], i, _ => .inl rfl
  | a :: as, b :: bs, 0, h => h.1
  | a :: as, b :: bs, i + 1, h => WeakL.get (as := as) (bs := bs) i h.2
  | [], b :: bs, i, h => h.elim
  | a :: as, [], i, h => h.elim
theorem weakL_St {m V n : Nat} {vs vs' : List AV} {ov : List (Nat × AV)} (h : WeakL m vs vs') : WeakL m (St V n vs ov) (St V n vs' []) := by
  refine weakL_map fun i _ => ?_
  by_cases hi : i < V
  · rw [if_pos hi, if_pos hi]; exact WeakL.get i h
  · rw [if_neg hi]; exact .inl rfl
theorem weak_nilS {V n : Nat} {vs vs' : List AV} {ov : List (Nat × AV)} (h : WeakL 0 vs vs') : Weak 0 ⟨St V n vs ov, []⟩ ⟨St V n vs' [], []⟩ := weak_nil (weakL_St h)
theorem weak_sameS {n0 V n : Nat} {vs vs' : List AV} {ov : List (Nat × AV)} {H : List AObj} (hn : n0 ≤ H.length) (hH : ∀ o ∈ H, o.low H.length) (h : WeakL H.length vs vs') : Weak n0 ⟨St V n vs ov, H⟩ ⟨St V n vs' [], H⟩ := weak_same hn hH (weakL_St h)
theorem weak_cutS {n0 V m : Nat} {vs vs' : List AV} {ov : List (Nat × AV)} {H H' : List AObj} (n : Nat) (hn : n0 ≤ n) (hH : H' = H.take n) (hl : ∀ o ∈ H', o.low n) (h : WeakL n vs vs') : Weak n0 ⟨St V m vs ov, H⟩ ⟨St V m vs' [], H'⟩ := weak_cut n hn hH hl (weakL_St h)
theorem getL_map {f : AV → AV} (hf : f .junk = .junk) : ∀ (vs : List AV) (i : Nat), f (getL vs i) = getL (vs.map f) i
  | [], _ => by simp [getL, hf]
  | a :: as, 0 => by simp [getL]
  | a :: as, i + 1 => by
    have := getL_map hf as i
    simpa [getL] using this
/-- A row is for good. -/
theorem weak_frzS {n0 V m : Nat} {vs vs' : List AV} {ov : List (Nat × AV)} {H H' : List AObj} (id : Nat) {e : TypeId} {sz ver : Nat} {xs : List AV} (hr : H[id]? = some (.row e sz ver xs)) (hsz : 0 < sz) (n : Nat) (hn : n0 ≤ n) (hH : H' = (H.set id .dead).take n) (hl : ∀ o ∈ H', o.low n)
    (h : WeakL n (vs.map (frzV id ver sz xs)) vs') : Weak n0 ⟨St V m vs ov, H⟩ ⟨St V m vs' [], H'⟩ := by
  refine ⟨_, .inr ⟨id, e, sz, ver, xs, hr, hsz, rfl⟩, n, hn, by subst hH; exact HeapEq.refl _, hl, ?_⟩
  show WeakL n ((St V m vs ov).map (frzV id ver sz xs)) (St V m vs' [])
  unfold St
  rw [List.map_map]
  refine weakL_map fun i _ => ?_
  by_cases hi : i < V
  · simp only [Function.comp_apply]
    rw [if_pos hi, if_pos hi, getL_map (f := frzV id ver sz xs) rfl]
    exact WeakL.get i h
  · exact .inl (by rw [if_neg hi]; rfl)
/-- The rules on temporaries in two parts. -/
theorem RS : type_of% (And.intro @getL_St <| And.intro @putL_St <| And.intro @putP_zero <| And.intro @putP_8 <| And.intro @putP_succ <| And.intro @look_hit <| And.intro @look_cons <| @look_nil) :=
  And.intro @getL_St <| And.intro @putL_St <| And.intro @putP_zero <| And.intro @putP_8 <| And.intro @putP_succ <| And.intro @look_hit <| And.intro @look_cons <| @look_nil
end Go.AL
