/- Contracts of the library's shelf, as contracts on abstract values. -/
import Derived.Test.YtfilcbnobmnopaaDoorA21
set_option linter.unusedSimpArgs false
set_option linter.unusedVariables false
namespace Go.AL
open Go Go.RowKit

section
variable {P : Program} {G : Nat → Option (List AV)}

theorem callsX_of_calls {f : FuncId} {fn : Func} {c : Code} (hf : P.funcs[f]? = some fn) (hb : fn.body = some c) (hn : (fn.name == "runtime.NumGoroutine") = false) {args : Array Value} {w : World} {v : Value} {R : World → Prop} {Q : Value → World → Prop}
    (h : Calls P f args w fun e w' => e = .returned v ∧ R w') (hQ : ∀ w', R w' → Q v w') : CallsX P f args w Q :=
  callsX_body hf hb hn (Calls.mono h fun e w' ⟨he, hr⟩ => by subst he; exact hQ w' hr)

theorem Rep.imm_inv' {E : Env} {w : World} {v u : Value} (h : Rep E w (.imm v) u) : u = v := by cases h; rfl

inductive Imms : List AV → List Value → Prop
  | nil : Imms [] []
  | cons {v as vs} : Imms as vs → Imms (.imm v :: as) (v :: vs)

theorem Imms.reps {E : Env} {w : World} {as : List AV} {vs us : List Value} (h : Imms as vs) : Reps E w as us → us = vs := by
  induction h generalizing us with
  | nil => intro h; cases h; rfl
  | cons h1 ih =>
    intro h; cases h with
    | cons _ _ _ _ h2 h3 => rw [h2.imm_inv', ih h3]

/-- A function of immediate values that answers an immediate value, and leaves what lay. -/
theorem pure_of_below {f : FuncId} {fn : Func} {c : Code} (hf : P.funcs[f]? = some fn) (hb : fn.body = some c) (hn : (fn.name == "runtime.NumGoroutine") = false) {as : List AV} {vs : List Value} {r : Value} (hr : r.oneCell' = true) (hv : Imms as vs)
    (h : ∀ (H : List AObj) lo E w, SimH G lo E H w → Calls P f vs.toArray w fun e w' => e = .returned r ∧ Below w.heap.size w w') : Pure P G f as (.imm r) := by
  intro H lo E w cargs hs ha
  obtain rfl := hv.reps ha
  refine callsX_of_calls hf hb hn (h H lo E w hs) fun w' hw' => ?_
  obtain ⟨k1, k2⟩ := hs.grow hw' (fun _ => False) (fun _ h => h.elim)
  exact ⟨_, .imm r hr, k1, k2⟩

theorem pure_of_same {f : FuncId} {fn : Func} {c : Code} (hf : P.funcs[f]? = some fn) (hb : fn.body = some c) (hn : (fn.name == "runtime.NumGoroutine") = false) {as : List AV} {vs : List Value} {r : Value} (hr : r.oneCell' = true) (hv : Imms as vs)
    (h : ∀ w, Calls P f vs.toArray w fun e w' => e = .returned r ∧ w' = w) : Pure P G f as (.imm r) :=
  pure_of_below hf hb hn hr hv fun H lo E w hs => (h w).mono fun e w' ⟨h1, h2⟩ => ⟨h1, h2 ▸ Below.refl _ _⟩

/-- What a global holds that is laid. -/
theorem SimH.cells {lo : Nat} {E : Env} {H : List AObj} {w : World} (h : SimH G lo E H w) {g : Nat} {cs : List AV} (hg : G g = some cs) {vs : List Value} (hv : Imms cs vs) : ∃ ty fz, w.heap[g]? = some (.cells vs.toArray ty fz) := by
  obtain ⟨us, h1, _, _, ty, fz, _, h5⟩ := h.glob g cs hg
  obtain rfl := hv.reps h1
  exact ⟨ty, fz, h5⟩

/-- A function that has just been called on abstract values, as the shelf would have it told of. -/
theorem calls_of_pure {f : FuncId} {fn : Func} {c : Code} (hf : P.funcs[f]? = some fn) (hb : fn.body = some c) (hn : (fn.name == "runtime.NumGoroutine") = false) {as : List AV} {vs : List Value} {r : Value} (hp : Pure P G f as (.imm r)) (hv : Imms as vs)
    {lo : Nat} {E : Env} {H : List AObj} {w : World} (hs : SimH G lo E H w) (hone : ∀ v ∈ vs, v.oneCell' = true) : Calls P f vs.toArray w fun e w' => e = .returned r ∧ Below lo w w' := by
  have hre : ∀ (as : List AV) (vs : List Value), Imms as vs → (∀ v ∈ vs, v.oneCell' = true) → Reps E w as vs := by
    intro as vs h
    induction h with
    | nil => intro _; exact .nil
    | cons h1 ih => intro ho; exact .cons _ _ _ _ (.imm _ (ho _ List.mem_cons_self)) (ih fun v hv => ho v (List.mem_cons_of_mem _ hv))
  have h := hp H lo E w vs hs (hre as vs hv hone)
  unfold CallsX at h
  have : (callFunc f vs.toArray).run P w = .ok (.enter f vs.toArray) w := by
    have hn' : ¬ fn.name = "runtime.NumGoroutine" := by simpa using hn
    simp [callFunc, hf, hn', hb]
  rw [this] at h
  refine Calls.mono h fun e w' he => ?_
  cases e with
  | returned v =>
    obtain ⟨E', h1, h2, h3⟩ := he
    exact ⟨by rw [h1.imm_inv'], h3.below⟩
  | panicked => exact he.elim
  | outgrown => exact he.elim
end
end Go.AL
