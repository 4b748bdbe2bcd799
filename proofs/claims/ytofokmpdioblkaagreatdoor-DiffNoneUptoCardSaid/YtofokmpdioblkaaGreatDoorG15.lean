/- The bridge from a contract to a given row. -/
import Derived.Test.YtofokmpdioblkaaGreatDoorG14
import Derived.ChangeShapes
import Derived.ChangeMaps5
import Derived.WalkKit
import Derived.ProofKit
import Derived.OpenShut
import Derived.Carry
import Derived.ChangeSame
import Derived.Deep.DeepHandedRow
import Derived.Lib.LaidTab
set_option linter.unusedSimpArgs false
set_option linter.unusedVariables false
set_option maxRecDepth 100000
namespace Go.AL
open Go Go.RowKit Go.ChangeShapes Go.WideShapes Go.ChangeAt
/-- What a call begins with: every cell that is there stays. -/
def start (w : World) : Env := { I := fun a => a.block < w.heap.size, bx := fun _ => none, tk := fun _ => none }
theorem sim_start {G : Nat → Option (List AV)} (w : World) (hg : ∀ g cs, G g = some cs → ∃ us ty fz, Imms cs us ∧ (∀ u ∈ us, u.oneCell' = true) ∧ w.heap[g]? = some (.cells us.toArray ty fz)) : SimH G w.heap.size (start w) [] w := by
  refine ⟨Nat.le_refl _, fun a h => h, fun id o ho => by simp at ho, fun id _ => ⟨rfl, rfl⟩, fun i j b hi _ => by simp [Env.at, start] at hi, fun g cs hgc => ?_⟩
  obtain ⟨us, ty, fz, h1, h2, h3⟩ := hg g cs hgc
  refine ⟨us, imms_reps h1 h2, h2, fun j u hu => ⟨?_, heap_lt h3⟩, ty, fz, heap_lt h3, h3⟩
  simp only [World.cell?, h3]
  simpa using hu
/-- The law's contract, as the row would have it told of. -/
theorem calls_start {P : Program} {G : Nat → Option (List AV)} {f : FuncId} {fn : Func} {c : Code} (hf : P.funcs[f]? = some fn) (hb : fn.body = some c) (hn : (fn.name == "runtime.NumGoroutine") = false) {avs : List AV} {vs : List Value} {r : Value}
    (hp : Pure P G f avs (.imm r)) {w : World} (hg : ∀ g cs, G g = some cs → ∃ us ty fz, Imms cs us ∧ (∀ u ∈ us, u.oneCell' = true) ∧ w.heap[g]? = some (.cells us.toArray ty fz)) (ha : Reps (start w) w avs vs) :
    Calls P f vs.toArray w fun e w' => e = .returned r ∧ Below w.heap.size w w' := by
  have h := hp [] w.heap.size (start w) w vs (sim_start w hg) ha
  unfold CallsX at h
  have : (callFunc f vs.toArray).run P w = .ok (.enter f vs.toArray) w := by
    have hn' : ¬ fn.name = "runtime.NumGoroutine" := by simpa using hn
    simp [callFunc, hf, hn', hb]
  rw [this] at h
  refine Calls.mono h fun e w' he => ?_
  cases e with
  | returned v =>
    obtain ⟨E', h1, h2, h3⟩ := he
    exact ⟨by rw [h1.imm_inv'], h3.below⟩
  | panicked => exact he.elim
  | outgrown => exact he.elim
theorem laid_mem {P : Program} {w : World} {n : String} {d : DataW Unit} : ∀ {l : List (String × DataW Unit)} {ps : List MemPlace}, DataW.LaidVars P w l ps → (n, d) ∈ l →
    ∃ g t cs fuel p, P.globalNamed n = some g ∧ (P.globals[g]?).map (·.type) = some t ∧ w.var? P n = some cs ∧ DataW.trod (fun _ => ()) P w 0 (fun _ => true) false fuel t cs.toList = some (d, p)
  | [], ps, _, h => by cases h
  | (n', d') :: r, ps, h, hm => by
    obtain ⟨g, t, cs, fuel, p, q, h1, h2, h3, h4, h5, _⟩ := h
    cases hm with
    | head => exact ⟨g, t, cs, fuel, p, h1, h2, h3, h4⟩
    | tail _ hm => exact laid_mem h5 hm
theorem trods_stay {H : Type} {enc : TypeId × Value → H} {P : Program} (hl : laidOutB P = true) {W W' : World} (hb : Below W.heap.size W W') {sp : Nat → Bool} : ∀ {ts : List TypeId} {vs : List Value} {ds : List (DataW H)} {ps : List MemPlace},
    (∀ t ∈ ts, P.readableRec t = true ∧ t < P.types.size) → DataW.TrodAll enc P W 0 (fun _ => true) true ts vs ds ps → (∀ x ∈ ps, x.block < W.heap.size ∧ sp x.block = true) → DataW.TrodAll enc P W' 0 sp true ts vs ds ps
  | [], vs, ds, ps, _, h, _ => by
    obtain ⟨rfl, rfl, rfl⟩ := trodAll_nil h
    exact trodAll_mk0
  | t :: ts, vs, ds, ps, ht, h, hp => by
    obtain ⟨v, vs', d, ds', p, q, rfl, rfl, rfl, h1, h2⟩ := trodAll_cons h
    refine trodAll_cons_mk ?_ (trods_stay hl hb (fun t h => ht t (List.mem_cons_of_mem _ h)) h2 fun x hx => hp x (List.mem_append_right _ hx))
    exact WideElems.Trod_stays hl (ht t List.mem_cons_self).1 (ht t List.mem_cons_self).2 h1 (fun x hx => hb.same (hp x (List.mem_append_left _ hx)).1) (fun x hx => (hp x (List.mem_append_left _ hx)).2)
theorem post_below {H : Type} {enc : TypeId × Value → H} {P : Program} {f : Func} {s : ChangeSpec} {apart fresh handsOn again : Bool} {W W' : World} {args : Array Value} {ds gs : List (DataW H)} {before : List MemPlace} {bt : TypeId}
    (hl : laidOutB P = true) (ht : ∀ t ∈ f.params.toList, P.readableRec t = true ∧ t < P.types.size) (hvs : s.vars = []) (hrt : f.resultTypes = #[bt]) (hbt : P.underlying bt = some .bool)
    (hspec : s.fn H (ds ++ gs) = { results := [.lit (.bool true)], args := ds }) (hW : DataW.Whole enc P f.params.toList s.vars apart W args.toList ds gs before) (hb : Below W.heap.size W W') :
    s.post enc P f apart fresh handsOn again W args (.bool true) W' := by
  have hlt := hW.lt
  have hW' := hW
  obtain ⟨p, q, hA, hV, rfl, hfz, hnd⟩ := hW
  rw [hvs] at hV
  obtain ⟨rfl, rfl⟩ := trodVars_none hV
  simp only [List.append_nil] at hW' hlt hfz hnd
  have hres : ∀ (b : Nat) (sp : Nat → Bool) (hd : Bool), DataW.TrodAll enc P W' b sp hd f.resultTypes.toList ((Value.bool true).resultList f.resultTypes.size) [.lit (.bool true)] [] := by
    intro b sp hd
    rw [hrt]
    exact trodAll_cons_mk (shut_bool hbt _) trodAll_mk0
  have hargs : ∀ sp : Nat → Bool, (∀ x ∈ p, sp x.block = true) → DataW.TrodAll enc P W' 0 sp true f.params.toList args.toList ds p :=
    fun sp hsp => trods_stay hl hb ht hA fun x hx => ⟨hlt x hx, hsp x hx⟩
  refine ⟨ds, [], p, [], p, [], hW', by rw [hspec]; exact hres _ _ _, by rw [hspec]; exact hargs _ fun x hx => by simpa using hlt x hx, ?_, hb.frame _, fun _ => ⟨?_, ?_⟩⟩
  · rw [hvs, hspec]; exact hV
  · intro j t r h1 h2
    exact ok_one hrt rfl (okWide_bool_mk hbt _) j t r h1 h2
  · refine ⟨[.lit (.bool true)] ++ ds, [], [] ++ p, ⟨[] ++ p, [], trodAll_append (hargs _ (fun _ _ => rfl)) (hres _ _ _), ?_, by simp, ?_, ?_⟩, fun x hx _ => by simpa using hx⟩
    · rw [hvs]; exact hV
    · intro b off hx
      have hx' : MemPlace.cell b off ∈ p := by simpa using hx
      rw [hb.frozen (p := ⟨b, off, none⟩) (hlt _ hx')]
      exact hfz b off hx'
    · intro ha
      simpa using hnd ha
end Go.AL
