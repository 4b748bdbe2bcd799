/- Slices of any elements: the first that a rule takes, whether there is one, those that it doesn't take. -/
import Derived.Test.YtofokmpdioblkaaGreatDoorG16
import Derived.KernelRfl
set_option linter.unusedSimpArgs false
set_option linter.unusedVariables false
set_option maxRecDepth 100000
namespace Go.AL
open Go Go.RowKit
/-- Elements of several cells. -/
structure Elem (α : Type) where
  sz : Nat
  cells : α → List AV
  ok : α → Prop
  d0 : α
  len : ∀ {x}, ok x → (cells x).length = sz
  inj : ∀ {x y}, ok x → ok y → cells x = cells y → x = y
  low : ∀ n x, lows n (cells x)
  strip : ∀ {x}, (cells x).map AV.strip1 = cells x
namespace Elem
variable {α : Type} (T : Elem α)
abbrev v (x : α) : AV := .agg (T.cells x)
abbrev vs (l : List α) : AV := .sl T.sz (l.map T.v) none
abbrev all (l : List α) : Prop := ∀ x ∈ l, T.ok x
theorem vs_len (l : List α) : (l.map T.v).length = l.length := List.length_map ..
theorem vs_get {l : List α} {i : Nat} (h : i < l.length) : (l.map T.v).getD i .junk = .agg (T.cells (l.getD i T.d0)) := by
  rw [List.getD_eq_getElem?_getD, List.getElem?_map, List.getD_eq_getElem?_getD, List.getElem?_eq_getElem h]; rfl
theorem take {x : α} (h : T.ok x) : (T.cells x).take T.sz = T.cells x := List.take_of_length_le (by rw [T.len h]; exact Nat.le_refl _)
theorem low_vs (n : Nat) : ∀ l : List α, lows n (l.map T.v)
  | [] => trivial
  | x :: l => ⟨T.low n x, low_vs n l⟩
theorem vs_inj : ∀ {a b : List α}, T.all a → T.all b → a.map T.v = b.map T.v → a = b
  | [], [], _, _, _ => rfl
  | [], _ :: _, _, _, h => by cases h
  | _ :: _, [], _, _, h => by cases h
  | x :: a, y :: b, ha, hb, h => by
    rw [List.map_cons, List.map_cons] at h
    obtain ⟨h1, h2⟩ := List.cons.inj h
    have h3 : T.cells x = T.cells y := by injection h1
    rw [T.inj (ha x List.mem_cons_self) (hb y List.mem_cons_self) h3, vs_inj (fun z hz => ha z (List.mem_cons_of_mem _ hz)) (fun z hz => hb z (List.mem_cons_of_mem _ hz)) h2]
theorem all_getD {l : List α} (h : T.all l) {i : Nat} (hi : i < l.length) : T.ok (l.getD i T.d0) := by
  rw [List.getD_eq_getElem?_getD, List.getElem?_eq_getElem hi]; exact h _ (List.getElem_mem hi)
end Elem
theorem take_get {α : Type} {d : α} {l : List α} {i : Nat} (h : i < l.length) : l.take (i + 1) = l.take i ++ [l.getD i d] := by
  rw [List.take_add_one, List.getElem?_eq_getElem h, List.getD_eq_getElem?_getD, List.getElem?_eq_getElem h]; rfl
def idxOf {α : Type} (p : α → Bool) (l : List α) : Int := if l.any p = true then (l.findIdx p : Int) else -1
section
variable {P : Program} {G : Nat → Option (List AV)} (hm : P.follows .mixedOrders = true) (hG : ∀ g cs, G g = some cs → lows 0 cs) {α : Type} {T : Elem α}
include hm hG
end
section
variable {P : Program} {G : Nat → Option (List AV)} (hm : P.follows .mixedOrders = true) (hG : ∀ g cs, G g = some cs → lows 0 cs) {α : Type} {T : Elem α}
include hm hG
end
section
variable {P : Program} {G : Nat → Option (List AV)} (hm : P.follows .mixedOrders = true) (hG : ∀ g cs, G g = some cs → lows 0 cs) {α : Type} {T : Elem α}
include hm hG
end
end Go.AL

/- What calls of Clone, DeleteFunc, Insert ask, at any elements. -/
set_option linter.unusedSimpArgs false
set_option linter.unusedVariables false
set_option maxRecDepth 100000
namespace Go.AL
open Go Go.RowKit
section
variable {P : Program} {G : Nat → Option (List AV)} (hm : P.follows .mixedOrders = true) (hG : ∀ g cs, G g = some cs → lows 0 cs) {α : Type} {T : Elem α}
include hm hG
/-- slices.Clone, as a row of one's own. -/
def cloneT {α : Type} (T : Elem α) (te : TypeId) : TSp := fun args H K => ∃ l : List α, args = [T.vs l] ∧ T.all l ∧ l.length ≤ 1099511627 ∧ K (.rs H.length 0 T.sz 0 l.length) (H ++ [.row te T.sz 0 (l.map T.v)])
omit hm hG in
theorem askT_clone {α : Type} {T : Elem α} {te : TypeId} {l : List α} {H : List AObj} {K : AV → List AObj → Prop} (ho : T.all l) : askT (cloneT T te) [T.vs l] H K = (l.length ≤ 1099511627 ∧ K (.rs H.length 0 T.sz 0 l.length) (H ++ [.row te T.sz 0 (l.map T.v)])) := by
  show (∃ l', [T.vs l] = [T.vs l'] ∧ T.all l' ∧ l'.length ≤ 1099511627 ∧ K (.rs H.length 0 T.sz 0 l'.length) (H ++ [.row te T.sz 0 (l'.map T.v)])) = _
  simp only [eq_iff_iff]
  constructor
  · rintro ⟨l', h1, h2, h3, h4⟩
    have h5 : l.map T.v = l'.map T.v := by injection h1 with h1 _; injection h1
    obtain rfl := T.vs_inj ho h2 h5
    exact ⟨h3, h4⟩
  · exact fun h => ⟨l, rfl, ho, h⟩
omit hm hG in
theorem toldT_clone {F : FuncId} {fn : Func} {c : Code} (hf : P.funcs[F]? = some fn) (hb : fn.body = some c) (hn : (fn.name == "runtime.NumGoroutine") = false) {te : TypeId} {bytes : Nat} (hsz : 0 < T.sz) (hby : bytes ≤ 4096) (hc : ClonesAt P F te T.sz bytes) : ToldT P G F (cloneT T te) := by
  rintro args H K ⟨l, rfl, h1, h2, h3⟩
  have h := ok_clone (G := G) hf hb hn hsz hc (xs := l.map T.v) (tok := none) (by rw [T.vs_len]; have : l.length * bytes ≤ 1099511627 * 4096 := Nat.mul_le_mul h2 hby; omega) H
  rw [T.vs_len] at h
  exact ⟨_, _, h, h3⟩
omit hm hG in
section
variable {g : Nat} {caps caps' : List AV} {p : α → Bool}
end
omit hm hG in
omit hm hG in
omit hm hG in
omit hm hG in
omit hm hG in
omit hm hG in
omit hm in
end
end Go.AL

/- Maps, by what they hold at each key. -/
set_option linter.unusedSimpArgs false
set_option linter.unusedVariables false
namespace Go.AL
open Go Go.RowKit
open Classical in
noncomputable def mget : List (Value × Option AV) → Value → Option (Option AV)
  | [], _ => none
  | (k, v) :: r, x => if k = x then some v else mget r x
theorem mfind_mget : ∀ (es : List (Value × Option AV)) (k : Value) (i : Nat), (mfind es k i).map (·.2) = mget es k
  | [], _, _ => rfl
  | (k', v) :: r, k, i => by
    unfold mfind mget
    by_cases h : k' = k
    · rw [if_pos h, if_pos h]; rfl
    · rw [if_neg h, if_neg h]; exact mfind_mget r k (i + 1)
theorem mval_mget {zv : Value} {es : List (Value × Option AV)} {k : Value} : mval zv es k = match mget es k with | some (some v) => v | _ => constAV zv := by
  rw [← mfind_mget es k 0]
  unfold mval mvalOf
  cases mfind es k 0 with
  | none => rfl
  | some p => obtain ⟨i, w⟩ := p; cases w <;> rfl
open Classical in
theorem mfind_at : ∀ (es : List (Value × Option AV)) (k : Value) (i j : Nat) (w : Option AV), mfind es k i = some (j, w) → i ≤ j ∧ ∀ (v : Option AV) (k' : Value), mget (es.set (j - i) (k, v)) k' = if k = k' then some v else mget es k'
  | [], _, _, _, _, h => by cases h
  | (k0, v0) :: r, k, i, j, w, h => by
    unfold mfind at h
    by_cases hk : k0 = k
    · rw [if_pos hk] at h
      cases h
      refine ⟨Nat.le_refl _, fun v k' => ?_⟩
      rw [Nat.sub_self, List.set_cons_zero]
      unfold mget
      by_cases h1 : k = k'
      · rw [if_pos h1, if_pos h1]
      · rw [if_neg h1, if_neg h1, if_neg (fun e => h1 (hk.symm.trans e))]
    · rw [if_neg hk] at h
      obtain ⟨h1, h2⟩ := mfind_at r k (i + 1) j w h
      refine ⟨by omega, fun v k' => ?_⟩
      rw [show j - i = (j - (i + 1)) + 1 by omega, List.set_cons_succ]
      unfold mget
      rw [h2]
      by_cases h3 : k0 = k'
      · rw [if_pos h3, if_pos h3, if_neg (fun e => hk (h3.trans e.symm))]
      · rw [if_neg h3, if_neg h3]
open Classical in
theorem mfind_none : ∀ (es : List (Value × Option AV)) (k : Value) (i : Nat), mfind es k i = none → ∀ (v : Option AV) (k' : Value), mget (es ++ [(k, v)]) k' = if k = k' then some v else mget es k'
  | [], k, i, _, v, k' => by
    show mget [(k, v)] k' = _
    unfold mget
    by_cases h : k = k'
    · rw [if_pos h, if_pos h]
    · rw [if_neg h, if_neg h]; rfl
  | (k0, v0) :: r, k, i, h, v, k' => by
    unfold mfind at h
    by_cases hk : k0 = k
    · rw [if_pos hk] at h; cases h
    · rw [if_neg hk] at h
      have := mfind_none r k (i + 1) h v k'
      show mget ((k0, v0) :: (r ++ [(k, v)])) k' = _
      unfold mget
      rw [this]
      by_cases h3 : k0 = k'
      · rw [if_pos h3, if_pos h3, if_neg (fun e => hk (h3.trans e.symm))]
      · rw [if_neg h3, if_neg h3]
open Classical in
theorem mget_mput {es : List (Value × Option AV)} {k k' : Value} {v : Option AV} : mget (mput es k v) k' = if k = k' then some v else mget es k' := by
  unfold mput
  cases h : mfind es k 0 with
  | none => exact mfind_none es k 0 h v k'
  | some p =>
    obtain ⟨i, w⟩ := p
    obtain ⟨_, h2⟩ := mfind_at es k 0 i w h
    exact h2 v k'
theorem low_mput {n : Nat} {es : List (Value × Option AV)} {k : Value} {v : AV} (h : ∀ p ∈ es, ∀ a, p.2 = some a → a.low n) (hv : v.low n) : ∀ p ∈ mput es k (some v), ∀ a, p.2 = some a → a.low n := by
  intro p hp a ha
  unfold mput at hp
  split at hp
  · rcases List.mem_or_eq_of_mem_set hp with hp | rfl
    · exact h p hp a ha
    · cases ha; exact hv
  · rcases List.mem_append.1 hp with hp | hp
    · exact h p hp a ha
    · rw [List.mem_singleton.1 hp] at ha; cases ha; exact hv
/-- A map of texts to numbers, of which n are counted at each. -/
def Counts (es : List (Value × Option AV)) (n : List UInt8 → Int) : Prop := (∀ k, mval (.int .i64 0) es (.string (B k)) = .imm (.int .i64 (n k))) ∧ ∀ m, ∀ p ∈ es, ∀ a, p.2 = some a → a.low m
theorem counts_nil : Counts [] fun _ => 0 := ⟨fun k => rfl, fun m p hp => by cases hp⟩
theorem counts_put {es : List (Value × Option AV)} {n : List UInt8 → Int} (h : Counts es n) (k : List UInt8) (x : Int) : Counts (mput es (.string (B k)) (some (.imm (.int .i64 x)))) fun k' => if k = k' then x else n k' := by
  refine ⟨fun k' => ?_, fun m => low_mput (h.2 m) trivial⟩
  have h1 := h.1 k'
  rw [mval_mget] at h1 ⊢
  rw [mget_mput]
  by_cases hk : k = k'
  · subst hk; simp
  · have : ¬ (Value.string (B k) = .string (B k')) := fun e => hk (by injection e with e; exact B_inj.1 e)
    rw [if_neg this]
    simp only [if_neg hk]
    exact h1
end Go.AL
