/- Slices of any elements: the first that a rule takes, whether there is one, those that it doesn't take. -/
import Derived.Test.YtofokmpdioblkaaGreatDoorG15
import Derived.KernelRfl
set_option linter.unusedSimpArgs false
set_option linter.unusedVariables false
set_option maxRecDepth 100000
namespace Go.AL
open Go Go.RowKit

/-- Elements of several cells. -/
structure Elem (α : Type) where
  sz : Nat
  cells : α → List AV
  ok : α → Prop
  d0 : α
  len : ∀ {x}, ok x → (cells x).length = sz
  inj : ∀ {x y}, ok x → ok y → cells x = cells y → x = y
  low : ∀ n x, lows n (cells x)
  strip : ∀ {x}, (cells x).map AV.strip1 = cells x
namespace Elem
variable {α : Type} (T : Elem α)
abbrev v (x : α) : AV := .agg (T.cells x)
abbrev vs (l : List α) : AV := .sl T.sz (l.map T.v) none
abbrev all (l : List α) : Prop := ∀ x ∈ l, T.ok x
theorem vs_len (l : List α) : (l.map T.v).length = l.length := List.length_map ..
theorem vs_get {l : List α} {i : Nat} (h : i < l.length) : (l.map T.v).getD i .junk = .agg (T.cells (l.getD i T.d0)) := by
  rw [List.getD_eq_getElem?_getD, List.getElem?_map, List.getD_eq_getElem?_getD, List.getElem?_eq_getElem h]; rfl
theorem take {x : α} (h : T.ok x) : (T.cells x).take T.sz = T.cells x := List.take_of_length_le (by rw [T.len h]; exact Nat.le_refl _)
theorem low_vs (n : Nat) : ∀ l : List α, lows n (l.map T.v)
  | [] => trivial
  | x :: l => ⟨T.low n x, low_vs n l⟩
theorem vs_inj : ∀ {a b : List α}, T.all a → T.all b → a.map T.v = b.map T.v → a = b
  | [], [], _, _, _ => rfl
  | [], _ :: _, _, _, h => by cases h
  | _ :: _, [], _, _, h => by cases h
  | x :: a, y :: b, ha, hb, h => by
    rw [List.map_cons, List.map_cons] at h
    obtain ⟨h1, h2⟩ := List.cons.inj h
    have h3 : T.cells x = T.cells y := by injection h1
    rw [T.inj (ha x List.mem_cons_self) (hb y List.mem_cons_self) h3, vs_inj (fun z hz => ha z (List.mem_cons_of_mem _ hz)) (fun z hz => hb z (List.mem_cons_of_mem _ hz)) h2]
theorem all_getD {l : List α} (h : T.all l) {i : Nat} (hi : i < l.length) : T.ok (l.getD i T.d0) := by
  rw [List.getD_eq_getElem?_getD, List.getElem?_eq_getElem hi]; exact h _ (List.getElem_mem hi)
end Elem
theorem take_get {α : Type} {d : α} {l : List α} {i : Nat} (h : i < l.length) : l.take (i + 1) = l.take i ++ [l.getD i d] := by
  rw [List.take_add_one, List.getElem?_eq_getElem h, List.getD_eq_getElem?_getD, List.getElem?_eq_getElem h]; rfl
def el1c {α : Type} (T : Elem α) (caps : List AV) (p : α → Bool) : PSp := fun args K => ∃ e, args = T.v e :: caps ∧ T.ok e ∧ splitB (p e) K
theorem ask_el1c {α : Type} {T : Elem α} {caps : List AV} {p : α → Bool} {e : α} {K} (he : T.ok e) : ask (el1c T caps p) (T.v e :: caps) K = splitB (p e) K := by
  show (∃ e', T.v e :: caps = T.v e' :: caps ∧ T.ok e' ∧ splitB (p e') K) = _
  simp only [eq_iff_iff]
  constructor
  · rintro ⟨e', h1, h2, h3⟩
    have h4 : T.cells e = T.cells e' := by injection h1 with h1 _; injection h1
    rw [T.inj he h2 h4]; exact h3
  · exact fun h => ⟨e, rfl, he, h⟩
theorem told_el1c {P : Program} {G : Nat → Option (List AV)} {α : Type} {T : Elem α} {F : FuncId} {caps : List AV} {p : α → Bool} (h : ∀ e, T.ok e → Pure P G F (T.v e :: caps) (bool (p e))) : Told P G F (el1c T caps p) := by
  rintro args K ⟨e, rfl, h1, h2⟩
  exact ⟨_, h e h1, splitB_of h2⟩
def idxOf {α : Type} (p : α → Bool) (l : List α) : Int := if l.any p = true then (l.findIdx p : Int) else -1
theorem idxOf_hit {α : Type} {p : α → Bool} {l : List α} {i : Nat} (h : i < l.length) (hp : p l[i] = true) (hn : (l.take i).any p = false) : idxOf p l = i := by
  have h1 : l.any p = true := List.any_eq_true.2 ⟨_, List.getElem_mem h, hp⟩
  unfold idxOf
  rw [if_pos h1, (List.findIdx_eq h).2 ⟨hp, fun j hj => ?_⟩]
  rw [List.any_eq_false] at hn
  have := hn l[j] (by rw [List.mem_take_iff_getElem]; exact ⟨j, by omega, rfl⟩)
  simpa using this
theorem idxOf_none {α : Type} {p : α → Bool} {l : List α} (h : l.any p = false) : idxOf p l = -1 := by
  unfold idxOf; rw [h]; rfl


def cIdx (sz : Nat) : ACode := (.seq (.reg false 0 [⟨(.some 4), none, (.q .mv), [(.c (.imm (.int .i64 0)))]⟩]) (.seq (.seq (.reg false 0 [⟨(.some 6), none, (.q .mv), [(.t 0)]⟩, ⟨(.some 7), none, (.q .lenL), [(.t 6)]⟩, ⟨(.some 8), none, (.q .mv), [(.c (.imm (.int .i64 0)))]⟩]) (.block 0 (.loop (.seq (.reg false 0 [⟨(.some 9), none, (.q (.bin .lss 3)), [(.t 8), (.t 7)]⟩]) (.seq (.cond (.t 9) .skip (.exit 0)) (.seq (.block 1 (.seq (.reg false 0 [⟨(.some 10), none, (.q .mv), [(.t 8)]⟩, ⟨(.some 5), none, (.q .mv), [(.t 10)]⟩]) (.seq (.reg false 0 [⟨(.some 11), none, (.q .mv), [(.t 1)]⟩, ⟨(.some 12), none, (.q .mv), [(.t 0)]⟩, ⟨(.some 13), none, (.q .mv), [(.t 5)]⟩, ⟨(.some 14), none, (.q (.iaddrS sz)), [(.t 12), (.t 13)]⟩, ⟨(.some 15), none, (.l (.loadA sz)), [(.t 14)]⟩, ⟨(.some 16), none, (.call true), [(.t 11), (.t 15)]⟩]) (.cond (.t 16) (.seq (.reg false 0 [⟨(.some 17), none, (.q .mv), [(.t 5)]⟩, ⟨(.some 4), none, (.q .mv), [(.t 17)]⟩]) .ret) .skip)))) (.reg false 0 [⟨(.some 18), none, (.q (.bin .add 3)), [(.t 8), (.c (.imm (.int .i64 1)))]⟩, ⟨(.some 8), none, (.q .mv), [(.t 18)]⟩]))))))) (.seq (.reg false 0 [⟨(.some 4), none, (.q .mv), [(.c (.imm (.int .i64 (-1))))]⟩]) .ret)))
def cCon (fi : Nat) : ACode := (.seq (.reg false 0 [⟨(.some 4), none, (.q .mv), [(.c (.imm (.bool false)))]⟩]) (.seq (.reg false 0 [⟨(.some 5), none, (.q .mv), [(.t 0)]⟩, ⟨(.some 6), none, (.q .mv), [(.t 1)]⟩, ⟨(.some 7), none, (.call true), [(.c (.fn (.func fi) [] [])), (.t 5), (.t 6)]⟩, ⟨(.some 8), none, (.q (.bin .geq 3)), [(.t 7), (.c (.imm (.int .i64 0)))]⟩, ⟨(.some 4), none, (.q .mv), [(.t 8)]⟩]) .ret))
def cDel (sz fi : Nat) (zc : List AV) : ACode := (.seq (.reg false 0 [⟨(.some 4), none, (.q .mv), [(.c (.sl 0 [] none))]⟩]) (.seq (.reg false 0 [⟨(.some 8), none, (.q .mv), [(.t 0)]⟩, ⟨(.some 9), none, (.q .mv), [(.t 1)]⟩, ⟨(.some 10), none, (.call true), [(.c (.fn (.func fi) [] [])), (.t 8), (.t 9)]⟩, ⟨(.some 5), none, (.q .mv), [(.t 10)]⟩]) (.seq (.seq (.reg false 0 [⟨(.some 11), none, (.q .mv), [(.t 5)]⟩, ⟨(.some 12), none, (.q (.bin .eql 3)), [(.t 11), (.c (.imm (.int .i64 (-1))))]⟩]) (.cond (.t 12) (.seq (.reg false 0 [⟨(.some 13), none, (.q .mv), [(.t 0)]⟩, ⟨(.some 4), none, (.q .mv), [(.t 13)]⟩]) .ret) .skip)) (.seq (.seq (.reg false 0 [⟨(.some 14), none, (.q .mv), [(.t 5)]⟩, ⟨(.some 15), none, (.q (.bin .add 3)), [(.t 14), (.c (.imm (.int .i64 1)))]⟩, ⟨(.some 6), none, (.q .mv), [(.t 15)]⟩]) (.block 0 (.loop (.seq (.seq (.reg false 0 [⟨(.some 16), none, (.q .mv), [(.t 6)]⟩, ⟨(.some 17), none, (.q .mv), [(.t 0)]⟩, ⟨(.some 18), none, (.q .lenL), [(.t 17)]⟩, ⟨(.some 19), none, (.q (.bin .lss 3)), [(.t 16), (.t 18)]⟩]) (.cond (.t 19) .skip (.exit 0))) (.seq (.block 1 (.seq (.reg false 1 [⟨(.some 22), none, (.q .mv), [(.t 0)]⟩, ⟨(.some 23), none, (.q .mv), [(.t 6)]⟩, ⟨(.some 24), none, (.q (.iaddrS sz)), [(.t 22), (.t 23)]⟩, ⟨(.some 25), none, (.l (.loadA sz)), [(.t 24)]⟩, ⟨(.some 7), none, (.m (.alloc zc false) 0), []⟩, ⟨none, none, (.e (.store sz)), [(.t 7), (.t 25)]⟩]) (.seq (.reg false 0 [⟨(.some 26), none, (.q .mv), [(.t 1)]⟩, ⟨(.some 27), none, (.l (.loadA sz)), [(.t 7)]⟩, ⟨(.some 28), none, (.call true), [(.t 26), (.t 27)]⟩, ⟨(.some 29), none, (.q (.un .not)), [(.t 28)]⟩]) (.cond (.t 29) (.seq (.reg false 0 [⟨(.some 30), none, (.q .mv), [(.t 0)]⟩, ⟨(.some 31), none, (.q .mv), [(.t 5)]⟩, ⟨(.some 32), none, (.l (.loadA sz)), [(.t 7)]⟩, ⟨(.some 33), none, (.q (.iaddrS sz)), [(.t 30), (.t 31)]⟩, ⟨none, none, (.e (.store sz)), [(.t 33), (.t 32)]⟩]) (.reg false 0 [⟨(.some 34), none, (.q .mv), [(.t 5)]⟩, ⟨(.some 35), none, (.q (.bin .add 3)), [(.t 34), (.c (.imm (.int .i64 1)))]⟩, ⟨(.some 5), none, (.q .mv), [(.t 35)]⟩])) .skip)))) (.reg false 0 [⟨(.some 20), none, (.q .mv), [(.t 6)]⟩, ⟨(.some 21), none, (.q (.bin .add 3)), [(.t 20), (.c (.imm (.int .i64 1)))]⟩, ⟨(.some 6), none, (.q .mv), [(.t 21)]⟩])))))) (.seq (.reg false 0 [⟨(.some 36), none, (.q .mv), [(.t 0)]⟩, ⟨(.some 37), none, (.q .mv), [(.t 5)]⟩, ⟨(.some 38), none, (.q (.sliceL sz true false false)), [(.t 36), (.t 37)]⟩, ⟨none, none, (.e (.clear (.agg zc))), [(.t 38)]⟩]) (.seq (.reg false 0 [⟨(.some 39), none, (.q .mv), [(.t 0)]⟩, ⟨(.some 40), none, (.q .mv), [(.t 5)]⟩, ⟨(.some 41), none, (.q (.sliceL sz false true false)), [(.t 39), (.t 40)]⟩, ⟨(.some 4), none, (.q .mv), [(.t 41)]⟩]) .ret))))))
section
variable {P : Program} {G : Nat → Option (List AV)} (hm : P.follows .mixedOrders = true) (hG : ∀ g cs, G g = some cs → lows 0 cs) {α : Type} {T : Elem α}
include hm hG
set_option maxHeartbeats 2000000 in
theorem p_idx {F : Nat} {own : List Nat} (fnI : IsFn P F own (cIdx T.sz) [4] 19) {g : Nat} {caps : List AV} {p : α → Bool} (hc : lows 0 caps) (hst : caps.map AV.strip = caps) (hg : ∀ e, T.ok e → Pure P G g (T.v e :: caps) (bool (p e))) (l : List α) (ho : T.all l) (hs : l.length ≤ 1099511627776) :
    Pure P G F [T.vs l, .fn (.func g) [] caps] (i64 (idxOf p l)) := by
  refine pure_of_code' (S := sp [(g, el1c T caps p)] []) hm hG (sp_holds (.cons (told_el1c hg) .nil) .nil) fnI (St 9 19 [T.vs l, .fn (.func g) [] caps, .junk, .junk, .junk, .junk, .junk, .junk, .junk] []) (by kernel_rfl) (by simp [lows, AV.low, T.low_vs, hc]) (by simp [AV.low]) ?_
  simp (maxSteps := 2000000) -implicitDefEqProofs only [RS, RX, Nat.reduceLT, ↓RP0, ↓RP1, ↓RP2, ↓RP3, RV, RW, ↓reduceIte, Nat.reduceAdd, Nat.reduceSub, Nat.reduceMul, Nat.reduceLeDiff, Nat.reduceEqDiff, Int.reduceLT, Int.reduceLE, Int.reduceEq, Int.reduceNe, Int.reduceAdd, Int.reduceSub, Int.reduceMul, Int.reduceNeg, Int.reduceToNat, reduceCtorEq, cIdx, eq_self, Nat.le_refl, T.vs_len]
  refine loopB (st := fun (i : Nat) => (St 9 19 [T.vs l, .fn (.func g) [] caps, .junk, .junk, i64 0, .junk, T.vs l, i64 l.length, i64 i] [])) (hp := fun _ => []) (I := fun i => i ≤ l.length ∧ (l.take i).any p = false) (m := fun i => l.length - i) (0 : Nat) ⟨Nat.zero_le _, rfl⟩ ?_ ?_
  · refine weak_nilS ?_; simp [WeakL, AV.low, lows, T.low_vs, hc]
  · rintro i ⟨hi, hn⟩
    by_cases hlt : i < l.length
    · have e1 := T.vs_get hlt
      have e3 : (i : Int) < (l.length : Int) := by omega
      have t1 := take_get (d := T.d0) hlt
      have o1 := T.all_getD ho hlt
      have hany : (l.take (i + 1)).any p = ((l.take i).any p || p (l.getD i T.d0)) := by rw [t1]; simp
      have hhit : p (l.getD i T.d0) = true → idxOf p l = i := fun h => idxOf_hit hlt (by rwa [List.getD_eq_getElem?_getD, List.getElem?_eq_getElem hlt] at h) hn
      generalize l.getD i T.d0 = x at *
      have l1 := T.len o1
      have k1 := T.take o1
      have q : ∀ K, ask (el1c T caps p) (.agg (T.cells x) :: caps) K = splitB (p x) K := fun K => ask_el1c o1
      simp (maxSteps := 2000000) -implicitDefEqProofs only [RS, RX, Nat.reduceLT, ↓RP0, ↓RP1, ↓RP2, ↓RP3, RV, RW, ↓reduceIte, Nat.reduceAdd, Nat.reduceSub, Nat.reduceMul, Nat.reduceLeDiff, Nat.reduceEqDiff, Int.reduceLT, Int.reduceLE, Int.reduceEq, Int.reduceNe, Int.reduceAdd, Int.reduceSub, Int.reduceMul, Int.reduceNeg, Int.reduceToNat, reduceCtorEq, eq_self, Nat.le_refl, ↓q, q, e1, e3, T.vs_len, l1, k1, T.strip, hst, AV.cells]
      refine ⟨fun h => ?_, fun h => ⟨⟨by omega, by omega⟩, i + 1, by dsimp only; omega, ⟨by omega, by rw [hany, hn, h]; rfl⟩, ?_⟩⟩
      · rw [hhit h]
      · refine weak_nilS ?_; simp [WeakL, AV.low, lows, T.low_vs, hc]
    · obtain rfl : i = l.length := by omega
      rw [List.take_length] at hn
      simp (maxSteps := 2000000) -implicitDefEqProofs only [RS, RX, Nat.reduceLT, ↓RP0, ↓RP1, ↓RP2, ↓RP3, RV, RW, ↓reduceIte, Nat.reduceAdd, Nat.reduceSub, Nat.reduceMul, Nat.reduceLeDiff, Nat.reduceEqDiff, Int.reduceLT, Int.reduceLE, Int.reduceEq, Int.reduceNe, Int.reduceAdd, Int.reduceSub, Int.reduceMul, Int.reduceNeg, Int.reduceToNat, reduceCtorEq, T.vs_len, Int.lt_irrefl]
      rw [idxOf_none hn]

end
def elFn {α : Type} (T : Elem α) (g : Nat) (caps : List AV) (f : List α → AV) : PSp := fun args K => ∃ l, args = [T.vs l, .fn (.func g) [] caps] ∧ T.all l ∧ l.length ≤ 1099511627776 ∧ K (f l)
theorem ask_elFn {α : Type} {T : Elem α} {g caps f} {l : List α} {K} (ho : T.all l) : ask (elFn T g caps f) [T.vs l, .fn (.func g) [] caps] K = (l.length ≤ 1099511627776 ∧ K (f l)) := by
  show (∃ l', [T.vs l, .fn (.func g) [] caps] = [T.vs l', .fn (.func g) [] caps] ∧ T.all l' ∧ l'.length ≤ 1099511627776 ∧ K (f l')) = _
  simp only [eq_iff_iff]
  constructor
  · rintro ⟨l', h1, h2, h3, h4⟩
    have h5 : l.map T.v = l'.map T.v := by injection h1 with h1 _; injection h1
    obtain rfl := T.vs_inj ho h2 h5
    exact ⟨h3, h4⟩
  · exact fun h => ⟨l, rfl, ho, h⟩
theorem told_elFn {P : Program} {G : Nat → Option (List AV)} {α : Type} {T : Elem α} {F g caps f} (h : ∀ l, T.all l → l.length ≤ 1099511627776 → Pure P G F [T.vs l, .fn (.func g) [] caps] (f l)) : Told P G F (elFn T g caps f) := by
  rintro args K ⟨l, rfl, h1, h2, h3⟩
  exact ⟨_, h _ h1 h2, h3⟩

theorem idxOf_ge {α : Type} {p : α → Bool} {l : List α} : 0 ≤ idxOf p l ↔ l.any p = true := by
  unfold idxOf
  split <;> simp_all

section
variable {P : Program} {G : Nat → Option (List AV)} (hm : P.follows .mixedOrders = true) (hG : ∀ g cs, G g = some cs → lows 0 cs) {α : Type} {T : Elem α}
include hm hG
theorem p_con {F fi : Nat} {own owni : List Nat} (fnC : IsFn P F own (cCon fi) [4] 9) (fnI : IsFn P fi owni (cIdx T.sz) [4] 19) {g : Nat} {caps : List AV} {p : α → Bool} (hc : lows 0 caps) (hst : caps.map AV.strip = caps) (hg : ∀ e, T.ok e → Pure P G g (T.v e :: caps) (bool (p e))) (l : List α) (ho : T.all l) (hs : l.length ≤ 1099511627776) :
    Pure P G F [T.vs l, .fn (.func g) [] caps] (bool (l.any p)) := by
  refine pure_of_code' (S := sp [(fi, elFn T g caps fun l => i64 (idxOf p l))] []) hm hG (sp_holds (.cons (told_elFn fun l h1 h2 => p_idx hm hG fnI hc hst hg l h1 h2) .nil) .nil) fnC (St 5 9 [T.vs l, .fn (.func g) [] caps, .junk, .junk, .junk] []) (by kernel_rfl) (by simp [lows, AV.low, T.low_vs, hc]) (by simp [AV.low]) ?_
  have q : ∀ K, ask (elFn T g caps fun l => i64 (idxOf p l)) [.sl T.sz (l.map T.v) none, .fn (.func g) [] caps] K = (l.length ≤ 1099511627776 ∧ K (i64 (idxOf p l))) := fun K => ask_elFn ho
  simp (maxSteps := 2000000) -implicitDefEqProofs only [RS, RX, Nat.reduceLT, ↓RP0, ↓RP1, ↓RP2, ↓RP3, RV, RW, ↓reduceIte, Nat.reduceAdd, Nat.reduceSub, Nat.reduceMul, Nat.reduceLeDiff, Nat.reduceEqDiff, Int.reduceLT, Int.reduceLE, Int.reduceEq, Int.reduceNe, Int.reduceAdd, Int.reduceSub, Int.reduceMul, Int.reduceNeg, Int.reduceToNat, reduceCtorEq, cCon, ↓q, q]
  refine ⟨hs, fun h => ?_, fun h => ?_⟩
  · rw [idxOf_ge.1 h]
  · rw [show l.any p = false by cases h1 : l.any p; rfl; exact absurd (idxOf_ge.2 h1) h]
end
theorem idxOf_some {α : Type} {p : α → Bool} {l : List α} (d : α) (h : l.any p = true) : ∃ k, k < l.length ∧ idxOf p l = (k : Int) ∧ (l.take k).any p = false ∧ p (l.getD k d) = true := by
  obtain ⟨x, hx, hp⟩ := List.any_eq_true.1 h
  have hlt : l.findIdx p < l.length := List.findIdx_lt_length_of_exists ⟨x, hx, hp⟩
  refine ⟨l.findIdx p, hlt, by unfold idxOf; rw [if_pos h], ?_, ?_⟩
  · rw [List.any_eq_false]
    intro y hy
    rw [List.mem_take_iff_getElem] at hy
    obtain ⟨j, hj, rfl⟩ := hy
    have := List.not_of_lt_findIdx (p := p) (xs := l) (i := j) (by omega)
    simpa using this
  · rw [List.getD_eq_getElem?_getD, List.getElem?_eq_getElem hlt]
    exact List.findIdx_getElem (w := hlt)

/-- What stays of the first j. -/
def kept {α : Type} (p : α → Bool) (l : List α) (j : Nat) : List α := (l.take j).filter fun x => !p x
theorem kept_le {α : Type} (p : α → Bool) (l : List α) (j : Nat) : (kept p l j).length ≤ j := Nat.le_trans (List.length_filter_le _ _) (by rw [List.length_take]; omega)
theorem kept_step {α : Type} {T : Elem α} {p : α → Bool} {l : List α} {j : Nat} (h : j < l.length) : kept p l (j + 1) = if p (l.getD j T.d0) = true then kept p l j else kept p l j ++ [l.getD j T.d0] := by
  unfold kept
  rw [take_get (d := T.d0) h, List.filter_append]
  generalize l.getD j T.d0 = x
  cases hp : p x <;> simp [hp]
theorem kept_none {α : Type} {p : α → Bool} {l : List α} {k : Nat} (h : (l.take k).any p = false) : kept p l k = l.take k := by
  unfold kept
  rw [List.filter_eq_self]
  intro a ha
  rw [List.any_eq_false] at h
  simpa using h a ha
/-- The row while it is gone through. -/
def row32 {α : Type} (p : α → Bool) (l : List α) (j : Nat) : List α := kept p l j ++ l.drop (kept p l j).length
theorem row32_len {α : Type} {p : α → Bool} {l : List α} {j : Nat} (h : j ≤ l.length) : (row32 p l j).length = l.length := by
  have := kept_le p l j
  simp [row32]; omega
theorem row32_get {α : Type} {T : Elem α} {p : α → Bool} {l : List α} {j : Nat} (h : j < l.length) : ((row32 p l j).map T.v)[j]? = some (T.v (l.getD j T.d0)) := by
  have := kept_le p l j
  unfold row32
  rw [List.getElem?_map, List.getElem?_append_right this, List.getElem?_drop, show (kept p l j).length + (j - (kept p l j).length) = j by omega, List.getD_eq_getElem?_getD, List.getElem?_eq_getElem h]
  rfl
theorem row32_set {α : Type} {T : Elem α} {p : α → Bool} {l : List α} {j : Nat} (h : j < l.length) (hp : p (l.getD j T.d0) = false) : ((row32 p l j).map T.v).set (kept p l j).length (T.v (l.getD j T.d0)) = (row32 p l (j + 1)).map T.v := by
  have hk := kept_step (T := T) (p := p) h
  have hle := kept_le p l j
  rw [hp] at hk
  simp only [Bool.false_eq_true, if_false] at hk
  unfold row32
  rw [hk]
  generalize kept p l j = a at *
  generalize l.getD j T.d0 = x at *
  rw [List.map_append, List.set_append_right _ _ (by simp)]
  simp only [List.length_map, Nat.sub_self, List.map_append, List.map_cons, List.map_nil, List.length_append, List.length_singleton, List.append_assoc, List.singleton_append]
  congr 1
  rw [List.drop_eq_getElem_cons (show a.length < l.length by omega)]
  rfl
theorem row32_skip {α : Type} {T : Elem α} {p : α → Bool} {l : List α} {j : Nat} (h : j < l.length) (hp : p (l.getD j T.d0) = true) : row32 p l (j + 1) = row32 p l j := by
  unfold row32
  rw [kept_step (T := T) h, if_pos hp]
theorem kept_ok {α : Type} {T : Elem α} {p : α → Bool} {l : List α} {j : Nat} (ho : T.all l) : T.all (kept p l j) := fun e he => ho e (List.mem_of_mem_take (List.mem_filter.1 he).1)

section
variable {P : Program} {G : Nat → Option (List AV)} (hm : P.follows .mixedOrders = true) (hG : ∀ g cs, G g = some cs → lows 0 cs) {α : Type} {T : Elem α}
include hm hG
set_option maxHeartbeats 4000000 in
theorem o_del {F fi : Nat} {own owni : List Nat} {te : TypeId} {zc : List AV} (hzl : ∀ n, lows n zc) (hzc : zc.length = T.sz) (hz0 : 0 < T.sz) (fnD : IsFn P F own (cDel T.sz fi zc) [4] 42) (fnI : IsFn P fi owni (cIdx T.sz) [4] 19) {g : Nat} {caps caps' : List AV} {p : α → Bool} {H : List AObj} {id ver : Nat} {l : List α} (hg : ∀ e, T.ok e → Pure P G g (T.v e :: caps') (bool (p e))) (hc' : lows 0 caps') (hst' : caps'.map AV.strip = caps')
    (hcap : ∀ o L, caps.map (lendV (RowH H id o L)) = caps') (hcap1 : ∀ o L, caps.map (lend1 (RowH H id o L)) = caps') (hcl : lows H.length caps) (hst : caps.map AV.strip = caps) (hne : ¬ fi = g)
    (hH : H[id]? = some (.row te T.sz ver (l.map T.v))) (hlow : ∀ o ∈ H, o.low H.length) (ho : T.all l) (hs : l.length ≤ 1099511627) :
    Ok P G F [.rs id ver T.sz 0 l.length, .fn (.func g) [] caps] H (.rs id ver T.sz 0 (l.filter fun x => !p x).length) (H.set id (.row te T.sz ver ((l.filter fun x => !p x).map T.v ++ List.replicate (l.length - (l.filter fun x => !p x).length) (AV.agg zc)))) := by
  have hid : id < H.length := SimH.lt hH
  have hself := RowH_self hH
  have hzd : List.drop T.sz zc = [] := List.drop_of_length_le (by omega)
  have hkn : kept p l l.length = l.filter fun x => !p x := by unfold kept; rw [List.take_length]
  have lowH : ∀ (xs : List AV), lows H.length xs → ∀ o ∈ H.set id (.row te T.sz ver xs), o.low H.length := by
    intro xs hx o ho'
    rcases List.mem_or_eq_of_mem_set ho' with h | h
    · exact hlow o h
    · subst h; exact hx
  have lowE : ∀ (n : Nat) (m : List α), lows n (m.map T.v) := fun n m => T.low_vs n m
  refine ok_of_code (S := sp [] [(fi, lendT (elFn T g caps' fun l => i64 (idxOf p l))), (g, predT T.v caps (fun H => caps.map (lendV H) = caps') T.ok p)]) hm hG
    (sp_holds .nil (.cons (toldT_lend hG (told_elFn fun l h1 h2 => p_idx hm hG fnI hc' hst' hg l h1 h2)) (.cons (toldT_pred hG (fun a H _ => rfl) (fun a _ => T.low 0 a) hc' hg) .nil))) fnD
    (St 8 42 [.rs id ver T.sz 0 l.length, .fn (.func g) [] caps, .junk, .junk, .junk, .junk, .junk, .junk] []) (by kernel_rfl) (by simp [AV.low, hid]) (by simp) ?_ ?_
  · rw [List.length_set]
    refine lowH _ ?_
    rw [lows_append']
    refine ⟨lowE _ _, ?_⟩
    rw [lows_iff]
    intro a ha
    rw [List.eq_of_mem_replicate ha]
    exact hzl _
  have qi : ∀ K, ask (elFn T g caps' fun l => i64 (idxOf p l)) [.sl T.sz (l.map T.v) none, .fn (.func g) [] caps'] K = (l.length ≤ 1099511627776 ∧ K (i64 (idxOf p l))) := fun K => ask_elFn ho
  have hr : lendR ver T.sz 0 l.length (some (.row te T.sz ver (l.map T.v))) = .sl T.sz (l.map T.v) none := lendR_all (T.vs_len l)
  have lw : (lows 0 [AV.sl T.sz (l.map T.v) none, AV.fn (.func g) [] caps']) = True := eq_true (by simp [lows, AV.low, lowE, hc'])
  have inj : ∀ a b, T.ok a → T.ok b → T.v a = T.v b → a = b := fun a b ha hb h => T.inj ha hb (by injection h)
  generalize hn0 : H.length = N
  rw [hself]
  by_cases hany : l.any p = true
  · obtain ⟨k, hk, hidx, hnone, hpk⟩ := idxOf_some T.d0 hany
    have d1 : ((k : Int) = -1) = False := eq_false (by omega)
    simp (maxSteps := 2000000) -implicitDefEqProofs only [RS, RX, Nat.reduceLT, ↓RP0, ↓RP1, ↓RP2, ↓RP3, RV, RW, ↓reduceIte, Nat.reduceAdd, Nat.reduceSub, Nat.reduceMul, Nat.reduceLeDiff, Nat.reduceEqDiff, Int.reduceLT, Int.reduceLE, Int.reduceEq, Int.reduceNe, Int.reduceAdd, Int.reduceSub, Int.reduceMul, Int.reduceNeg, Int.reduceToNat, reduceCtorEq, cDel, eq_self, Nat.le_refl, ↓askT_lend, askT_lend, lendV_rs, lendV_fn, RowH_id hid, hr, hcap1, lw, ↓qi, qi, hne, hidx, d1, T.vs_len]
    have kk : kept p l (k + 1) = l.take k := by rw [kept_step (T := T) hk, if_pos hpk, kept_none hnone]
    have kl : (kept p l (k + 1)).length = k := by rw [kk, List.length_take]; omega
    have hr0 : row32 p l (k + 1) = l := by unfold row32; rw [kk, List.length_take, Nat.min_eq_left (by omega), List.take_append_drop]
    have hc1 : ((k : Int) + 1) = ((k + 1 : Nat) : Int) := by omega
    refine ⟨by omega, ⟨by omega, by omega⟩, ?_⟩
    refine loopB (st := fun (j : Nat) => (St 8 42 [.rs id ver T.sz 0 l.length, .fn (.func g) [] caps, .junk, .junk, .sl 0 [] none, i64 (kept p l j).length, i64 j, .junk] [])) (hp := fun j => RowH H id (.row te T.sz ver ((row32 p l j).map T.v)) []) (I := fun j => j ≤ l.length) (m := fun j => l.length - j) (k + 1) (by omega) ?_ ?_
    · rw [kl, hr0, hc1]
      refine weak_cutS H.length (by omega) ?_ ?_ ?_
      · rw [RowH_take, RowH_nil]
      · rw [RowH_nil]; exact lowH _ (lowE _ _)
      · simp [WeakL, AV.low, lows, hid, hcl]
    · intro j hj
      by_cases hlt : j < l.length
      · have e3 : (j : Int) < (l.length : Int) := by omega
        have gx := row32_get (T := T) (p := p) hlt
        have gs := row32_set (T := T) (p := p) hlt
        have gk := kept_step (T := T) (p := p) hlt
        have gq := row32_skip (T := T) (p := p) hlt
        have rl := row32_len (p := p) hj
        have rl' := row32_len (p := p) (show j + 1 ≤ l.length by omega)
        have kj := kept_le p l j
        have o1 := T.all_getD ho hlt
        generalize l.getD j T.d0 = x at *
        have l1 := T.len o1
        have k1 := T.take o1
        have q : ∀ H' (K : AV → List AObj → Prop), askT (predT T.v caps (fun H => caps.map (lendV H) = caps') T.ok p) (.agg (T.cells x) :: caps) H' K = (caps.map (lendV H') = caps' ∧ splitB (p x) fun r => K r H') := fun H' K => askT_pred inj o1 rfl
        cases hpx : p x with
        | true =>
          rw [hpx] at gk
          simp only [if_true] at gk
          simp (maxSteps := 2000000) -implicitDefEqProofs only [RS, RX, Nat.reduceLT, ↓RP0, ↓RP1, ↓RP2, ↓RP3, RV, RW, ↓reduceIte, Nat.reduceAdd, Nat.reduceSub, Nat.reduceMul, Nat.reduceLeDiff, Nat.reduceEqDiff, Int.reduceLT, Int.reduceLE, Int.reduceEq, Int.reduceNe, Int.reduceAdd, Int.reduceSub, Int.reduceMul, Int.reduceNeg, Int.reduceToNat, reduceCtorEq, eq_self, Nat.le_refl, hzc, hzd, ↓q, q, hcap, hpx, e3, T.vs_len, l1, k1, T.strip, hst, RowH_id hid, RowH_length, RowH_append, RowH_get0, RowH_set0, gx, rl, AV.cells, hne]
          refine ⟨⟨by omega, by omega⟩, j + 1, by dsimp only; omega, by omega, ?_⟩
          dsimp only
          rw [gk, gq hpx]
          refine weak_cutS H.length (by omega) ?_ ?_ ?_
          · rw [RowH_take, RowH_nil]
          · rw [RowH_nil]; exact lowH _ (lowE _ _)
          · simp [WeakL, AV.low, lows, hid, hcl]
        | false =>
          rw [hpx] at gk
          simp only [Bool.false_eq_true, if_false] at gk
          simp (maxSteps := 2000000) -implicitDefEqProofs only [RS, RX, Nat.reduceLT, ↓RP0, ↓RP1, ↓RP2, ↓RP3, RV, RW, ↓reduceIte, Nat.reduceAdd, Nat.reduceSub, Nat.reduceMul, Nat.reduceLeDiff, Nat.reduceEqDiff, Int.reduceLT, Int.reduceLE, Int.reduceEq, Int.reduceNe, Int.reduceAdd, Int.reduceSub, Int.reduceMul, Int.reduceNeg, Int.reduceToNat, reduceCtorEq, eq_self, Nat.le_refl, hzc, hzd, ↓q, q, hcap, hpx, e3, T.vs_len, l1, k1, T.strip, hst, RowH_id hid, RowH_length, RowH_append, RowH_get0, RowH_set0, RowH_setId hid, gx, rl, AV.cells, hne]
          refine ⟨by omega, by omega, ⟨by omega, by omega⟩, ⟨by omega, by omega⟩, j + 1, by dsimp only; omega, by omega, ?_⟩
          dsimp only
          rw [gk, ← gs hpx]
          refine weak_cutS H.length (by omega) ?_ ?_ ?_
          · rw [RowH_take, RowH_nil]
          · rw [RowH_nil, gs hpx]; exact lowH _ (lowE _ _)
          · simp [WeakL, AV.low, lows, hid, hcl]
      · obtain rfl : j = l.length := by omega
        have hkl := kept_le p l l.length
        have r9 : row32 p l l.length = (l.filter fun x => !p x) ++ l.drop (l.filter fun x => !p x).length := by unfold row32; rw [hkn]
        rw [hkn] at hkl
        simp (maxSteps := 2000000) -implicitDefEqProofs only [RS, RX, Nat.reduceLT, ↓RP0, ↓RP1, ↓RP2, ↓RP3, RV, RW, ↓reduceIte, Nat.reduceAdd, Nat.reduceSub, Nat.reduceMul, Nat.reduceLeDiff, Nat.reduceEqDiff, Int.reduceLT, Int.reduceLE, Int.reduceEq, Int.reduceNe, Int.reduceAdd, Int.reduceSub, Int.reduceMul, Int.reduceNeg, Int.reduceToNat, reduceCtorEq, eq_self, Nat.le_refl, hzc, hz0, T.vs_len, Int.lt_irrefl, RowH_id hid, RowH_setId hid, retO_ret, hkn, r9]
        generalize (l.filter fun x => !p x) = F at *
        have key : List.map T.v F ++ List.replicate (l.length - F.length) (AV.agg zc) = List.take F.length (List.map T.v (F ++ List.drop F.length l)) ++ List.replicate (l.length - F.length) (AV.agg zc) ++ List.drop (F.length + (l.length - F.length)) (List.map T.v (F ++ List.drop F.length l)) := by
          rw [List.map_append, List.take_append_of_le_length (by simp), List.take_of_length_le (by simp), List.drop_of_length_le (by simp), List.append_nil]
        have tk : ∀ o, List.take (RowH H id o []).length (RowH H id o []) = RowH H id o [] := fun o => List.take_length
        have tl : ∀ o o', (RowH H id o []).length = (RowH H id o' []).length := fun o o' => by simp [RowH_length]
        refine ⟨by omega, ?_⟩
        rcases Nat.eq_zero_or_pos (l.length - F.length) with h0 | h0
        · refine .inl ⟨h0, by omega, by simp, ?_⟩
          have hdn : List.drop F.length l = [] := List.drop_of_length_le (by omega)
          rw [h0, hdn, List.replicate_zero, List.append_nil, List.append_nil]
          exact tk _
        · refine .inr ⟨h0, by simp <;> omega, by omega, by simp, ?_⟩
          rw [tl _ (.row te T.sz ver (List.take F.length (List.map T.v (F ++ List.drop F.length l)) ++ List.replicate (l.length - F.length) (AV.agg zc) ++ List.drop (F.length + (l.length - F.length)) (List.map T.v (F ++ List.drop F.length l)))), key]
          exact tk _
  · have hnn : l.any p = false := by simpa using hany
    have hidx := idxOf_none hnn
    have hfil : (l.filter fun x => !p x) = l := by
      rw [List.filter_eq_self]
      intro a ha
      rw [List.any_eq_false] at hnn
      simpa using hnn a ha
    simp (maxSteps := 2000000) -implicitDefEqProofs only [RS, RX, Nat.reduceLT, ↓RP0, ↓RP1, ↓RP2, ↓RP3, RV, RW, ↓reduceIte, Nat.reduceAdd, Nat.reduceSub, Nat.reduceMul, Nat.reduceLeDiff, Nat.reduceEqDiff, Int.reduceLT, Int.reduceLE, Int.reduceEq, Int.reduceNe, Int.reduceAdd, Int.reduceSub, Int.reduceMul, Int.reduceNeg, Int.reduceToNat, reduceCtorEq, cDel, eq_self, Nat.le_refl, ↓askT_lend, askT_lend, lendV_rs, lendV_fn, RowH_id hid, hr, hcap1, lw, ↓qi, qi, hne, hidx, T.vs_len, RowH_setId hid, retO_ret]
    rw [hfil]
    refine ⟨by omega, rfl, ?_⟩
    rw [Nat.sub_self, List.replicate_zero, List.append_nil]
    exact List.take_length
end
end Go.AL

/- What calls of Clone, DeleteFunc, Insert ask, at any elements. -/
set_option linter.unusedSimpArgs false
set_option linter.unusedVariables false
set_option maxRecDepth 100000
namespace Go.AL
open Go Go.RowKit
section
variable {P : Program} {G : Nat → Option (List AV)} (hm : P.follows .mixedOrders = true) (hG : ∀ g cs, G g = some cs → lows 0 cs) {α : Type} {T : Elem α}
include hm hG
/-- slices.Clone, as a row of one's own. -/
def cloneT {α : Type} (T : Elem α) (te : TypeId) : TSp := fun args H K => ∃ l : List α, args = [T.vs l] ∧ T.all l ∧ l.length ≤ 1099511627 ∧ K (.rs H.length 0 T.sz 0 l.length) (H ++ [.row te T.sz 0 (l.map T.v)])
omit hm hG in
theorem askT_clone {α : Type} {T : Elem α} {te : TypeId} {l : List α} {H : List AObj} {K : AV → List AObj → Prop} (ho : T.all l) : askT (cloneT T te) [T.vs l] H K = (l.length ≤ 1099511627 ∧ K (.rs H.length 0 T.sz 0 l.length) (H ++ [.row te T.sz 0 (l.map T.v)])) := by
  show (∃ l', [T.vs l] = [T.vs l'] ∧ T.all l' ∧ l'.length ≤ 1099511627 ∧ K (.rs H.length 0 T.sz 0 l'.length) (H ++ [.row te T.sz 0 (l'.map T.v)])) = _
  simp only [eq_iff_iff]
  constructor
  · rintro ⟨l', h1, h2, h3, h4⟩
    have h5 : l.map T.v = l'.map T.v := by injection h1 with h1 _; injection h1
    obtain rfl := T.vs_inj ho h2 h5
    exact ⟨h3, h4⟩
  · exact fun h => ⟨l, rfl, ho, h⟩
omit hm hG in
theorem toldT_clone {F : FuncId} {fn : Func} {c : Code} (hf : P.funcs[F]? = some fn) (hb : fn.body = some c) (hn : (fn.name == "runtime.NumGoroutine") = false) {te : TypeId} {bytes : Nat} (hsz : 0 < T.sz) (hby : bytes ≤ 4096) (hc : ClonesAt P F te T.sz bytes) : ToldT P G F (cloneT T te) := by
  rintro args H K ⟨l, rfl, h1, h2, h3⟩
  have h := ok_clone (G := G) hf hb hn hsz hc (xs := l.map T.v) (tok := none) (by rw [T.vs_len]; have : l.length * bytes ≤ 1099511627 * 4096 := Nat.mul_le_mul h2 hby; omega) H
  rw [T.vs_len] at h
  exact ⟨_, _, h, h3⟩

omit hm hG in
theorem filter_ok {α : Type} {T : Elem α} {p : α → Bool} {l : List α} (ho : T.all l) : T.all (l.filter p) := fun e he => ho e (List.mem_filter.1 he).1

section
variable {g : Nat} {caps caps' : List AV} {p : α → Bool}
/-- slices.DeleteFunc, in a row of one's own. -/
theorem o_delR {F fi : Nat} {own owni : List Nat} {te : TypeId} {zc : List AV} (hzl : ∀ n, lows n zc) (hzc : zc.length = T.sz) (hz0 : 0 < T.sz) (fnD : IsFn P F own (cDel T.sz fi zc) [4] 42) (fnI : IsFn P fi owni (cIdx T.sz) [4] 19) {H : List AObj} {id ver : Nat} {l : List α} (hg : ∀ e, T.ok e → Pure P G g (T.v e :: caps') (bool (p e))) (hc' : lows 0 caps') (hst' : caps'.map AV.strip = caps')
    (hcap : ∀ o L, caps.map (lendV (RowH H id o L)) = caps') (hcap1 : ∀ o L, caps.map (lend1 (RowH H id o L)) = caps') (hcl : lows H.length caps) (hst : caps.map AV.strip = caps) (hne : ¬ fi = g)
    (hH : H[id]? = some (.row te T.sz ver (l.map T.v))) (hlow : ∀ o ∈ H, o.low H.length) (ho : T.all l) (hs : l.length ≤ 1099511627) :
    Ok P G F [.rs id ver T.sz 0 l.length, .fn (.func g) [] caps] H (.rs id ver T.sz 0 (l.filter fun x => !p x).length) (H.set id (.row te T.sz ver ((l.filter fun x => !p x).map T.v))) := by
  have h := ok_shrink (n := (l.filter fun x => !p x).length) (o_del hm hG hzl hzc hz0 fnD fnI hg hc' hst' hcap hcap1 hcl hst hne hH hlow ho hs) (List.getElem?_set_self (SimH.lt hH))
  rw [List.set_set, List.take_append_of_le_length (by simp), List.take_of_length_le (by simp)] at h
  exact h
/-- .. and for good. -/
theorem o_delF {F fi : Nat} {own owni : List Nat} {te : TypeId} {zc : List AV} (hzl : ∀ n, lows n zc) (hzc : zc.length = T.sz) (hz0 : 0 < T.sz) (fnD : IsFn P F own (cDel T.sz fi zc) [4] 42) (fnI : IsFn P fi owni (cIdx T.sz) [4] 19) {H : List AObj} {id ver : Nat} {l : List α} (hg : ∀ e, T.ok e → Pure P G g (T.v e :: caps') (bool (p e))) (hc' : lows 0 caps') (hst' : caps'.map AV.strip = caps')
    (hcap : ∀ o L, caps.map (lendV (RowH H id o L)) = caps') (hcap1 : ∀ o L, caps.map (lend1 (RowH H id o L)) = caps') (hcl : lows H.length caps) (hst : caps.map AV.strip = caps) (hne : ¬ fi = g)
    (hH : H[id]? = some (.row te T.sz ver (l.map T.v))) (hlow : ∀ o ∈ H, o.low H.length) (ho : T.all l) (hs : l.length ≤ 1099511627) :
    Ok P G F [.rs id ver T.sz 0 l.length, .fn (.func g) [] caps] H (T.vs (l.filter fun x => !p x)) (H.set id .dead) := by
  have h := ok_freeze (o_delR hm hG hzl hzc hz0 fnD fnI hg hc' hst' hcap hcap1 hcl hst hne hH hlow ho hs) (List.getElem?_set_self (SimH.lt hH)) (by simp) hz0
  rw [List.set_set, List.drop_zero, List.take_of_length_le (by simp)] at h
  exact h
end

/-- DeleteFunc, of a closure that captured one box. -/
def delT {α : Type} (T : Elem α) (te : TypeId) (frz : Bool) (g : Nat) (cap cap' : AV) (box : AObj) (p : α → Bool) : TSp := fun args H K => ∃ (id ver : Nat) (l : List α), args = [.rs id ver T.sz 0 l.length, .fn (.func g) [] [cap]] ∧ H = [box, .row te T.sz ver (l.map T.v)] ∧ id = 1 ∧ T.all l ∧ l.length ≤ 1099511627 ∧
    (if frz = true then K (T.vs (l.filter fun x => !p x)) [box, .dead] else K (.rs 1 ver T.sz 0 (l.filter fun x => !p x).length) [box, .row te T.sz ver ((l.filter fun x => !p x).map T.v)])
theorem toldT_del {F fi : Nat} {own owni : List Nat} {te : TypeId} {zc : List AV} (hzl : ∀ n, lows n zc) (hzc : zc.length = T.sz) (hz0 : 0 < T.sz) (fnD : IsFn P F own (cDel T.sz fi zc) [4] 42) (fnI : IsFn P fi owni (cIdx T.sz) [4] 19) {frz : Bool} {g off : Nat} {cs : List AV} {p : α → Bool} (hcs : lows 0 cs) (hne : ¬ fi = g) (hg : ∀ e, T.ok e → Pure P G g [T.v e, .rptr cs off] (bool (p e))) :
    ToldT P G F (delT T te frz g (.ptr 0 off) (.rptr cs off) (.box cs) p) := by
  rintro args H K ⟨id, ver, l, rfl, rfl, rfl, ho, hs, hK⟩
  have hb : ∀ n, lows n cs := fun n => lows_any hcs
  have hlow : ∀ o ∈ [AObj.box cs, .row te T.sz ver (l.map T.v)], o.low ([AObj.box cs, .row te T.sz ver (l.map T.v)] : List AObj).length := by
    intro o ho'
    simp only [List.mem_cons, List.not_mem_nil, or_false] at ho'
    rcases ho' with rfl | rfl
    · exact hb _
    · exact T.low_vs _ l
  have c1 : ∀ o L, [AV.ptr 0 off].map (lendV (RowH [AObj.box cs, .row te T.sz ver (l.map T.v)] 1 o L)) = [.rptr cs off] := fun o L => rfl
  have c2 : ∀ o L, [AV.ptr 0 off].map (lend1 (RowH [AObj.box cs, .row te T.sz ver (l.map T.v)] 1 o L)) = [.rptr cs off] := fun o L => rfl
  cases frz with
  | false =>
    exact ⟨_, _, o_delR hm hG hzl hzc hz0 fnD fnI (caps := [.ptr 0 off]) (caps' := [.rptr cs off]) hg ⟨hcs, trivial⟩ rfl c1 c2 ⟨by show 0 < 2; decide, trivial⟩ rfl hne rfl hlow ho hs, hK⟩
  | true =>
    exact ⟨_, _, o_delF hm hG hzl hzc hz0 fnD fnI (caps := [.ptr 0 off]) (caps' := [.rptr cs off]) hg ⟨hcs, trivial⟩ rfl c1 c2 ⟨by show 0 < 2; decide, trivial⟩ rfl hne rfl hlow ho hs, hK⟩

omit hm hG in
theorem del_ex {α : Type} {T : Elem α} {te : TypeId} {frz : Bool} {g : Nat} {cap cap' : AV} {box : AObj} {p : α → Bool} {ver n : Nat} {l : List α} {K : AV → List AObj → Prop} (ho : T.all l) (hn : n = l.length) :
    askT (delT T te frz g cap cap' box p) [.rs 1 ver T.sz 0 n, .fn (.func g) [] [cap]] [box, .row te T.sz ver (l.map T.v)] K = (l.length ≤ 1099511627 ∧
    (if frz = true then K (T.vs (l.filter fun x => !p x)) [box, .dead] else K (.rs 1 ver T.sz 0 (l.filter fun x => !p x).length) [box, .row te T.sz ver ((l.filter fun x => !p x).map T.v)])) := by
  subst hn
  show (∃ (id ver' : Nat) (l' : List α), _ ∧ _ ∧ id = 1 ∧ T.all l' ∧ l'.length ≤ 1099511627 ∧ _) = _
  simp only [eq_iff_iff]
  constructor
  · rintro ⟨id, ver', l', h1, h2, rfl, h3, h4, h5⟩
    injection h2 with _ h2
    injection h2 with h2 _
    injection h2 with _ _ h6 h7
    obtain rfl := T.vs_inj ho h3 h7
    subst h6
    exact ⟨h4, h5⟩
  · exact fun h => ⟨1, ver, l, rfl, rfl, rfl, ho, h.1, h.2⟩
omit hm hG in
theorem askT_delF {α : Type} {T : Elem α} {te : TypeId} {g : Nat} {cap cap' : AV} {box : AObj} {p : α → Bool} {ver n : Nat} {l : List α} {K : AV → List AObj → Prop} (ho : T.all l) (hn : n = l.length) :
    askT (delT T te true g cap cap' box p) [.rs 1 ver T.sz 0 n, .fn (.func g) [] [cap]] [box, .row te T.sz ver (l.map T.v)] K = (l.length ≤ 1099511627 ∧ K (T.vs (l.filter fun x => !p x)) [box, .dead]) := by rw [del_ex ho hn]; simp
omit hm hG in
theorem askT_delR {α : Type} {T : Elem α} {te : TypeId} {g : Nat} {cap cap' : AV} {box : AObj} {p : α → Bool} {ver n : Nat} {l : List α} {K : AV → List AObj → Prop} (ho : T.all l) (hn : n = l.length) :
    askT (delT T te false g cap cap' box p) [.rs 1 ver T.sz 0 n, .fn (.func g) [] [cap]] [box, .row te T.sz ver (l.map T.v)] K = (l.length ≤ 1099511627 ∧ K (.rs 1 ver T.sz 0 (l.filter fun x => !p x).length) [box, .row te T.sz ver ((l.filter fun x => !p x).map T.v)]) := by rw [del_ex ho hn]; simp

/-- slices.Insert of one event, into a row that lies second, behind one box; the row is for good behind it. -/
def insT {α : Type} (T : Elem α) (te : TypeId) (box : AObj) : TSp := fun args H K => ∃ (ver i : Nat) (l : List α) (e : α), args = [.rs 1 ver T.sz 0 l.length, i64 i, .sl T.sz [T.v e] (some 2)] ∧ H = [box, .row te T.sz ver (l.map T.v), .tok te T.sz 1] ∧ T.all l ∧ T.ok e ∧ i ≤ l.length ∧ l.length ≤ 1099511627 ∧
    K (T.vs (l.take i ++ [e] ++ l.drop i)) [box, .dead, .tok te T.sz 1]
omit hm hG in
theorem toldT_ins {F : FuncId} {fn : Func} {c : Code} (hf : P.funcs[F]? = some fn) (hb : fn.body = some c) (hn : (fn.name == "runtime.NumGoroutine") = false) {tt te : TypeId} {bytes : Nat} (hsz : 0 < T.sz) (hby : bytes ≤ 4096) (hbp : 0 < bytes) (hc : InsertsAt P F tt te T.sz bytes)
    {ti : TypeInfo} {z : Value} (ht : P.underlying tt = some (.slice te)) (h1 : P.info? te = some ti) (h2 : ti.zero = some z) (h3 : ti.size = T.sz) (h4 : ti.bytes = bytes) (h5 : z.cells.size = T.sz) {box : AObj} : ToldT P G F (insT T te box) := by
  rintro args H K ⟨ver, i, l, e, rfl, rfl, ho, he, hi, hs, hK⟩
  have h := ok_insert (G := G) hf hb hn hsz hc ht h1 h2 h3 h4 h5 hbp (xs := l.map T.v) (x := T.v e) (i := i) (ver := ver) (id := 1) (k := 2) (H := [box, .row te T.sz ver (l.map T.v), .tok te T.sz 1]) (by rw [T.vs_len]; have : (l.length + 1) * bytes ≤ 1099511628 * 4096 := Nat.mul_le_mul (by omega) hby; omega) (T.len he) (by rw [T.vs_len]; exact hi) rfl rfl
  have h6 := ok_freeze h rfl (by simp; omega) hsz
  have e1 : List.take i (l.map T.v) ++ [T.v e] ++ List.drop i (l.map T.v) = (l.take i ++ [e] ++ l.drop i).map T.v := by simp
  rw [e1, List.drop_zero, List.take_of_length_le (by simp; omega), T.vs_len] at h6
  exact ⟨_, _, h6, hK⟩
omit hm hG in
theorem askT_ins {α : Type} {T : Elem α} {te : TypeId} {box : AObj} {ver n i : Nat} {l : List α} {e : α} {K : AV → List AObj → Prop} (ho : T.all l) (he : T.ok e) (hn : n = l.length) :
    askT (insT T te box) [.rs 1 ver T.sz 0 n, i64 i, .sl T.sz [T.v e] (some 2)] [box, .row te T.sz ver (l.map T.v), .tok te T.sz 1] K = (i ≤ l.length ∧ l.length ≤ 1099511627 ∧ K (T.vs (l.take i ++ [e] ++ l.drop i)) [box, .dead, .tok te T.sz 1]) := by
  subst hn
  show (∃ (ver' i' : Nat) (l' : List α) (e' : α), _ ∧ _ ∧ T.all l' ∧ T.ok e' ∧ i' ≤ l'.length ∧ l'.length ≤ 1099511627 ∧ _) = _
  simp only [eq_iff_iff]
  constructor
  · rintro ⟨ver', i', l', e', h1, h2, h3, h4, h5, h6, h7⟩
    injection h2 with _ h2
    injection h2 with h2 _
    injection h2 with _ _ h8 h9
    obtain rfl := T.vs_inj ho h3 h9
    injection h1 with _ h1
    injection h1 with h10 h1
    injection h1 with h11 _
    injection h11 with _ h11 _
    injection h11 with h11 _
    injection h10 with h10
    injection h10 with _ h10
    have h13 : e = e' := T.inj he h4 (by injection h11)
    subst h13
    have : i' = i := by omega
    subst this
    exact ⟨h5, h6, h7⟩
  · exact fun h => ⟨ver, i, l, e, rfl, rfl, ho, he, h.1, h.2.1, h.2.2⟩

/-- slices.Clone, for good. -/
def elId {α : Type} (T : Elem α) : PSp := fun args K => ∃ l : List α, args = [T.vs l] ∧ T.all l ∧ l.length ≤ 1099511627 ∧ K (T.vs l)
omit hm hG in
theorem ask_elId {α : Type} {T : Elem α} {l : List α} {K} (ho : T.all l) : ask (elId T) [T.vs l] K = (l.length ≤ 1099511627 ∧ K (T.vs l)) := by
  show (∃ l', [T.vs l] = [T.vs l'] ∧ T.all l' ∧ l'.length ≤ 1099511627 ∧ K (T.vs l')) = _
  simp only [eq_iff_iff]
  constructor
  · rintro ⟨l', h1, h2, h3, h4⟩
    have h5 : l.map T.v = l'.map T.v := by injection h1 with h1 _; injection h1
    obtain rfl := T.vs_inj ho h2 h5
    exact ⟨h3, h4⟩
  · exact fun h => ⟨l, rfl, ho, h⟩
omit hm in
theorem told_elId {F : FuncId} {fn : Func} {c : Code} (hf : P.funcs[F]? = some fn) (hb : fn.body = some c) (hn : (fn.name == "runtime.NumGoroutine") = false) {te : TypeId} {bytes : Nat} (hsz : 0 < T.sz) (hby : bytes ≤ 4096) (hc : ClonesAt P F te T.sz bytes) : Told P G F (elId T) := by
  rintro args K ⟨l, rfl, h1, h2, h3⟩
  exact ⟨_, pure_clone hG hf hb hn hsz hc (by rw [T.vs_len]; have : l.length * bytes ≤ 1099511627 * 4096 := Nat.mul_le_mul h2 hby; omega) (T.low_vs 0 l), h3⟩

end
end Go.AL

/- Maps, by what they hold at each key. -/
set_option linter.unusedSimpArgs false
set_option linter.unusedVariables false
namespace Go.AL
open Go Go.RowKit

open Classical in
noncomputable def mget : List (Value × Option AV) → Value → Option (Option AV)
  | [], _ => none
  | (k, v) :: r, x => if k = x then some v else mget r x
theorem mfind_mget : ∀ (es : List (Value × Option AV)) (k : Value) (i : Nat), (mfind es k i).map (·.2) = mget es k
  | [], _, _ => rfl
  | (k', v) :: r, k, i => by
    unfold mfind mget
    by_cases h : k' = k
    · rw [if_pos h, if_pos h]; rfl
    · rw [if_neg h, if_neg h]; exact mfind_mget r k (i + 1)
theorem mval_mget {zv : Value} {es : List (Value × Option AV)} {k : Value} : mval zv es k = match mget es k with | some (some v) => v | _ => constAV zv := by
  rw [← mfind_mget es k 0]
  unfold mval mvalOf
  cases mfind es k 0 with
  | none => rfl
  | some p => obtain ⟨i, w⟩ := p; cases w <;> rfl
theorem mhas_mget {es : List (Value × Option AV)} {k : Value} : mhas es k = (mget es k).isSome := by
  rw [← mfind_mget es k 0]
  unfold mhas
  cases mfind es k 0 <;> rfl
open Classical in
theorem mfind_at : ∀ (es : List (Value × Option AV)) (k : Value) (i j : Nat) (w : Option AV), mfind es k i = some (j, w) → i ≤ j ∧ ∀ (v : Option AV) (k' : Value), mget (es.set (j - i) (k, v)) k' = if k = k' then some v else mget es k'
  | [], _, _, _, _, h => by cases h
  | (k0, v0) :: r, k, i, j, w, h => by
    unfold mfind at h
    by_cases hk : k0 = k
    · rw [if_pos hk] at h
      cases h
      refine ⟨Nat.le_refl _, fun v k' => ?_⟩
      rw [Nat.sub_self, List.set_cons_zero]
      unfold mget
      by_cases h1 : k = k'
      · rw [if_pos h1, if_pos h1]
      · rw [if_neg h1, if_neg h1, if_neg (fun e => h1 (hk.symm.trans e))]
    · rw [if_neg hk] at h
      obtain ⟨h1, h2⟩ := mfind_at r k (i + 1) j w h
      refine ⟨by omega, fun v k' => ?_⟩
      rw [show j - i = (j - (i + 1)) + 1 by omega, List.set_cons_succ]
      unfold mget
      rw [h2]
      by_cases h3 : k0 = k'
      · rw [if_pos h3, if_pos h3, if_neg (fun e => hk (h3.trans e.symm))]
      · rw [if_neg h3, if_neg h3]
open Classical in
theorem mfind_none : ∀ (es : List (Value × Option AV)) (k : Value) (i : Nat), mfind es k i = none → ∀ (v : Option AV) (k' : Value), mget (es ++ [(k, v)]) k' = if k = k' then some v else mget es k'
  | [], k, i, _, v, k' => by
    show mget [(k, v)] k' = _
    unfold mget
    by_cases h : k = k'
    · rw [if_pos h, if_pos h]
    · rw [if_neg h, if_neg h]; rfl
  | (k0, v0) :: r, k, i, h, v, k' => by
    unfold mfind at h
    by_cases hk : k0 = k
    · rw [if_pos hk] at h; cases h
    · rw [if_neg hk] at h
      have := mfind_none r k (i + 1) h v k'
      show mget ((k0, v0) :: (r ++ [(k, v)])) k' = _
      unfold mget
      rw [this]
      by_cases h3 : k0 = k'
      · rw [if_pos h3, if_pos h3, if_neg (fun e => hk (h3.trans e.symm))]
      · rw [if_neg h3, if_neg h3]
open Classical in
theorem mget_mput {es : List (Value × Option AV)} {k k' : Value} {v : Option AV} : mget (mput es k v) k' = if k = k' then some v else mget es k' := by
  unfold mput
  cases h : mfind es k 0 with
  | none => exact mfind_none es k 0 h v k'
  | some p =>
    obtain ⟨i, w⟩ := p
    obtain ⟨_, h2⟩ := mfind_at es k 0 i w h
    exact h2 v k'
theorem low_mput {n : Nat} {es : List (Value × Option AV)} {k : Value} {v : AV} (h : ∀ p ∈ es, ∀ a, p.2 = some a → a.low n) (hv : v.low n) : ∀ p ∈ mput es k (some v), ∀ a, p.2 = some a → a.low n := by
  intro p hp a ha
  unfold mput at hp
  split at hp
  · rcases List.mem_or_eq_of_mem_set hp with hp | rfl
    · exact h p hp a ha
    · cases ha; exact hv
  · rcases List.mem_append.1 hp with hp | hp
    · exact h p hp a ha
    · rw [List.mem_singleton.1 hp] at ha; cases ha; exact hv
/-- A map of texts to numbers, of which n are counted at each. -/
def Counts (es : List (Value × Option AV)) (n : List UInt8 → Int) : Prop := (∀ k, mval (.int .i64 0) es (.string (B k)) = .imm (.int .i64 (n k))) ∧ ∀ m, ∀ p ∈ es, ∀ a, p.2 = some a → a.low m
theorem counts_nil : Counts [] fun _ => 0 := ⟨fun k => rfl, fun m p hp => by cases hp⟩
theorem counts_put {es : List (Value × Option AV)} {n : List UInt8 → Int} (h : Counts es n) (k : List UInt8) (x : Int) : Counts (mput es (.string (B k)) (some (.imm (.int .i64 x)))) fun k' => if k = k' then x else n k' := by
  refine ⟨fun k' => ?_, fun m => low_mput (h.2 m) trivial⟩
  have h1 := h.1 k'
  rw [mval_mget] at h1 ⊢
  rw [mget_mput]
  by_cases hk : k = k'
  · subst hk; simp
  · have : ¬ (Value.string (B k) = .string (B k')) := fun e => hk (by injection e with e; exact B_inj.1 e)
    rw [if_neg this]
    simp only [if_neg hk]
    exact h1
end Go.AL
