/- Contracts of functions. -/
import Derived.Test.YtfilcbnobmnopaaDoorA17
set_option linter.unusedSimpArgs false
set_option linter.unusedVariables false
namespace Go.AL
open Go Go.RowKit

/-- What a function answers, out of its temporaries. -/
def ares (res : List Nat) (ts : List AV) : AV :=
  match res with
  | [t] => ts.getD t .junk
  | _ => .tup (res.map fun t => ts.getD t .junk)

def AV.stripR : AV → AV
  | .tup vs => .tup (vs.map AV.strip)
  | v => v.strip

section
variable {P : Program} {G : Nat → Option (List AV)} {lo : Nat} {E : Env} {w : World}

theorem Rep.stripR {x : AV} {v : Value} (h : Rep E w x v) : Rep E w x.stripR v := by
  cases h with
  | tup cs us h => exact .tup _ us h.strip
  | imm v h => exact (Rep.imm v h).strip
  | junk v => exact (Rep.junk v).strip
  | agg cs us h h1 => exact (Rep.agg cs us h h1).strip
  | sl size xs tok A cap us h1 h2 h3 h4 h5 h6 h7 => exact (Rep.sl size xs tok A cap us h1 h2 h3 h4 h5 h6 h7).strip
  | ptr id off b h => exact .ptr id off b h
  | rptr cs off ad us h h1 h2 => exact .rptr cs off ad us h h1 h2
  | fn f first cap us vs h h1 => exact .fn f first cap us vs h h1
  | mp id b h => exact .mp id b h
  | it id b h => exact .it id b h

theorem getD_rep {ts : List AV} {us : List Value} (h : Reps E w ts us) (t : Nat) : Rep E w (ts.getD t .junk) (us.toArray.getD t undef) := by
  rcases Nat.lt_or_ge t ts.length with hl | hl
  · obtain ⟨v, hv, hr⟩ := h.get t _ (List.getElem?_eq_getElem hl)
    rw [List.getD_eq_getElem?_getD, List.getElem?_eq_getElem hl]
    have : us.toArray.getD t undef = v := by
      rw [Array.getD_eq_getD_getElem?]
      simp [hv]
    rw [this]
    exact hr
  · rw [List.getD_eq_getElem?_getD, List.getElem?_eq_none hl]
    exact .junk _

theorem run_resM (tmps : Array Value) : ∀ (res : List Nat), ((res.map ResultVar.tmp).mapM (fun r : ResultVar => match r with | .tmp t => (pure (tmps.getD t undef) : Sem Value) | .cell a t => do loadVar t (← asAddr (tmps.getD a undef)))).run P w = .ok (res.map fun t => tmps.getD t undef) w
  | [] => by simp
  | r :: res => by
    rw [List.map_cons, List.mapM_cons]
    simp only [Sem.run_bind, Sem.run_pure, Result.andThen_ok, run_resM tmps res, List.map_cons]

/-- What it answers, concretely. -/
def cres (res : List Nat) (tmps : Array Value) : Value :=
  match res with
  | [t] => tmps.getD t undef
  | _ => .tuple (res.map fun t => tmps.getD t undef).toArray

theorem cres_eq (res : List Nat) (tmps : Array Value) : (if h : (res.map fun t => tmps.getD t undef).toArray.size = 1 then (res.map fun t => tmps.getD t undef).toArray[0] else .tuple (res.map fun t => tmps.getD t undef).toArray) = cres res tmps := by
  match res with
  | [] => rfl
  | [t] => rfl
  | t :: u :: rest => simp [cres]

theorem results_run {fn : Func} {res : List Nat} (hr : fn.results = (res.map ResultVar.tmp).toArray) (tmps : Array Value) : (results fn tmps).run P w = .ok (cres res tmps) w := by
  have h := run_resM (P := P) (w := w) tmps res
  unfold results
  rw [Sem.run_bind, hr, Array.mapM_eq_mapM_toList, Sem.run_map]
  exact (congrArg (fun r : Result (List Value) => (r.andThen fun a w' => Result.ok a.toArray w').andThen fun vs w' => (pure (if h : vs.size = 1 then vs[0] else .tuple vs) : Sem Value).run P w') h).trans (by rw [← cres_eq]; rfl)

theorem ares_rep {res : List Nat} {ts : List AV} {us : Array Value} (h : Reps E w ts us.toList) : Rep E w (ares res ts) (cres res us) := by
  have key : ∀ (res : List Nat), Reps E w (res.map fun t => ts.getD t .junk) (res.map fun t => us.getD t undef) := by
    intro res
    induction res with
    | nil => exact .nil
    | cons t res ih => exact .cons _ _ _ _ (by have := getD_rep h t; simpa using this) ih
  match res with
  | [] => exact .tup _ _ (key [])
  | [t] => have := getD_rep h t; simpa [ares, cres] using this
  | t :: u :: rest => exact .tup _ _ (key (t :: u :: rest))

/-- What is asked where a function comes back. -/
def retQ (res : List Nat) (n0 : Nat) (r : AV) (H' : List AObj) (e : Exit) (s : ASt) : Prop :=
  (e = .normal ∨ e = .ret) ∧ (ares res s.tmps).stripR = r ∧ r.low H'.length ∧ s.H.take H'.length = H' ∧ n0 ≤ H'.length ∧ ∀ o ∈ H', o.low H'.length

/-- Of a function: its code is compiled to this, it answers these temporaries, and has so many. -/
structure IsFn (P : Program) (f : FuncId) (own : List Nat) (ac : ACode) (res : List Nat) (nt : Nat) : Prop where
  ex : ∃ fn c, P.funcs[f]? = some fn ∧ fn.body = some c ∧ (fn.name == "runtime.NumGoroutine") = false ∧ comp P own c = some ac ∧ fn.results = (res.map ResultVar.tmp).toArray ∧ fn.ntmps = nt

theorem callsX_body {f : FuncId} {fn : Func} {c : Code} (hf : P.funcs[f]? = some fn) (hb : fn.body = some c) (hn : (fn.name == "runtime.NumGoroutine") = false) {args : Array Value} {R : Value → World → Prop}
    (h : Calls P f args w fun e w' => match e with | .returned v => R v w' | _ => False) : CallsX P f args w R := by
  unfold CallsX
  have : (callFunc f args).run P w = .ok (.enter f args) w := by
    have hn' : ¬ fn.name = "runtime.NumGoroutine" := by simpa using hn
    simp [callFunc, hf, hn', hb]
  rw [this]
  exact h

theorem ok_of_awp (hm : P.follows .mixedOrders = true) (hG : ∀ g cs, G g = some cs → lows 0 cs) {f : FuncId} {own : List Nat} {ac : ACode} {res : List Nat} {nt : Nat} (hfn : IsFn P f own ac res nt) {args : List AV} {H H' : List AObj} {r : AV}
    (h : awp P G H.length ac (retQ res H.length r H') ⟨args ++ List.replicate (nt - args.length) .junk, H⟩) : Ok P G f args H r H' := by
  intro lo E w cargs hs ha
  obtain ⟨fn, c, hf, hb, hn, hc, hr, hnt⟩ := hfn.ex
  refine callsX_body hf hb hn (calls_of_wp hf hb ?_)
  have hlen := ha.length
  have hsim : Sim G lo E ⟨args ++ List.replicate (nt - args.length) .junk, H⟩ { tmps := cargs.toArray ++ Array.replicate (fn.ntmps - cargs.toArray.size) undef, defers := [] } w := by
    refine ⟨hs, ?_, rfl⟩
    simp only [Array.toList_append, Array.toList_replicate, List.size_toArray]
    refine ha.append ?_
    rw [hlen, hnt]
    have : ∀ n, Reps E w (List.replicate n .junk) (List.replicate n undef) := by
      intro n
      induction n with
      | zero => exact .nil
      | succ n ih => exact .cons _ _ _ _ (.junk _) ih
    exact this _
  refine wp_mono (awp_sound hm hG (n0 := H.length) (E0 := E) (w0 := w) (fun k hk => hs.dom k hk) c ac hc _ _ E _ w h hsim (Evo.refl _ _ _)) fun e a' w' hq => ?_
  have fin : ∀ s E', retQ res H.length r H' e s → Sim G lo E' s a' w' → Evo lo E w E' w' → (e = .normal ∨ e = .ret) → bodyPost P fn (fun e w'' => match e with | .returned v => ∃ E', Rep E' w'' r v ∧ SimH G lo E' H' w'' ∧ Evo lo E w E' w'' | _ => False) e a' w' := by
    intro s E' h1 h2 h3 he
    obtain ⟨_, h4, h5, h6, h7, h8⟩ := h1
    have h9 := results_run (P := P) (w := w') hr a'.tmps
    have hrep : Rep E' w' r (cres res a'.tmps) := by
      rw [← h4]; exact (ares_rep h2.tmps).stripR
    have hres : ∃ E', Rep E' w' r (cres res a'.tmps) ∧ SimH G lo E' H' w' ∧ Evo lo E w E' w' := by
      refine ⟨E'.cut H'.length, Rep.cut (E := E') (E' := E'.cut H'.length) (n := H'.length) (fun _ h => h) (fun k hk => if_pos hk) (fun k hk => if_pos hk) hrep h5, ?_, h3.cut h7 (fun k hk => hs.dom k hk)⟩
      have := h2.heap.cut hG H'.length (by rw [h6]; exact h8)
      rw [h6] at this
      exact this
    rcases he with rfl | rfl
    · exact ⟨h2.defers, _, h9, hres⟩
    · exact ⟨h2.defers, _, h9, hres⟩
  cases e with
  | normal => obtain ⟨s, E', h1, h2, h3⟩ := hq; exact fin s E' h1 h2 h3 (.inl rfl)
  | ret => obtain ⟨s, E', h1, h2, h3⟩ := hq; exact fin s E' h1 h2 h3 (.inr rfl)
  | exit id => obtain ⟨s, E', h1, h2, h3⟩ := hq; rcases h1.1 with h | h <;> cases h
  | goto l => obtain ⟨s, E', h1, h2, h3⟩ := hq; rcases h1.1 with h | h <;> cases h
  | panic c => exact hq.elim
  | outgrown => exact hq.elim

theorem CallsX.mono {f : FuncId} {args : Array Value} {R R' : Value → World → Prop} (h : CallsX P f args w R) (hr : ∀ v w', R v w' → R' v w') : CallsX P f args w R' := by
  unfold CallsX at h ⊢
  cases e : (callFunc f args).run P w with
  | halt x w1 => rw [e] at h; exact h.elim
  | ok n w1 =>
    rw [e] at h
    cases n with
    | enter f' args' =>
      refine Calls.mono h fun e w'' he => ?_
      cases e with
      | returned v => exact hr v w'' he
      | panicked => exact he
      | outgrown => exact he
    | value v => exact hr _ _ h
    | _ => exact h.elim

/-- A function of closed arguments that turns nothing, whatever boxes there are beside. -/
theorem pure_of_ok (hG : ∀ g cs, G g = some cs → lows 0 cs) {f : FuncId} {args : List AV} {r : AV} {H' : List AObj} (ha : lows 0 args) (hr : r.low 0) (h : Ok P G f args [] r H') : Pure P G f args r := by
  intro H lo E w cargs hs hargs
  let E0 : Env := { I := E.I, bx := fun _ => none, tk := fun _ => none }
  have hs0 : SimH G w.heap.size E0 [] w := by
    refine ⟨Nat.le_refl _, hs.inI, fun id o ho => by simp at ho, fun id _ => ⟨rfl, rfl⟩, fun i j b hi _ => by simp [Env.at, E0] at hi, fun g cs hg => ?_⟩
    obtain ⟨us, h1, h2, h3, ty, fz, h4, h5⟩ := hs.glob g cs hg
    exact ⟨us, Reps.cut (E := E) (E' := E0) (n := 0) (fun _ h => h) (fun k hk => absurd hk (Nat.not_lt_zero k)) (fun k hk => absurd hk (Nat.not_lt_zero k)) h1 (hG g cs hg), h2, h3, ty, fz, Nat.lt_of_lt_of_le h4 hs.lo_le, h5⟩
  have hargs0 : Reps E0 w args cargs := Reps.cut (E := E) (E' := E0) (n := 0) (fun _ h => h) (fun k hk => absurd hk (Nat.not_lt_zero k)) (fun k hk => absurd hk (Nat.not_lt_zero k)) hargs ha
  refine (h w.heap.size E0 w cargs hs0 hargs0).mono fun v w' ⟨E', h1, h2, h3⟩ => ?_
  obtain ⟨k1, k2⟩ := hs.grow h3.below (fun a => E'.I a ∧ w.heap.size ≤ a.block) (fun a ha => ⟨ha.2, h2.inI a ha.1⟩)
  refine ⟨_, h1.cut (n := 0) (fun a ha => ?_) (fun k hk => absurd hk (Nat.not_lt_zero k)) (fun k hk => absurd hk (Nat.not_lt_zero k)) hr, k1, k2⟩
  rcases h3.newI a ha with h4 | h4
  · exact .inl h4
  · exact .inr ⟨ha, h4⟩

theorem core_mono' {draw : Bool} {base : Nat} {o : AOper} {s : ASt} {K K' : ASt → Prop} (hk : ∀ s, K s → K' s) (h : astep P G draw base o s K) : astep P G draw base o s K' := by
  obtain ⟨r, h1, h2⟩ := det_astep P G draw base o s K h
  exact h2 _ (hk r h1)

theorem aops_mono {draw : Bool} {base : Nat} : ∀ (l : List AOper) (s : ASt) (K K' : ASt → Prop), (∀ s, K s → K' s) → aops P G draw base l K s → aops P G draw base l K' s
  | [], s, K, K', hk, h => hk s h
  | o :: l, s, K, K', hk, h => core_mono' (fun s1 h1 => aops_mono l s1 K K' hk h1) h

theorem awp_mono {n0 : Nat} : ∀ (ac : ACode) (Q Q' : Exit → ASt → Prop) (s : ASt), (∀ e s, Q e s → Q' e s) → awp P G n0 ac Q s → awp P G n0 ac Q' s
  | .skip, Q, Q', s, hq, h => hq _ _ h
  | .reg draw nA ops, Q, Q', s, hq, h => aops_mono ops _ _ _ (fun s1 h1 => hq _ _ h1) h
  | .seq a b, Q, Q', s, hq, h => awp_mono a _ _ s (fun e s1 h1 => by
      cases e with
      | normal => exact awp_mono b Q Q' s1 hq h1
      | _ => exact hq _ _ h1) h
  | .cond c a b, Q, Q', s, hq, h => by
    obtain ⟨t, ht, h1, h2⟩ := onBool_inv h
    show onBool (aeval G s.tmps c) _
    rw [ht]
    exact ⟨fun e => awp_mono a Q Q' s hq (h1 e), fun e => awp_mono b Q Q' s hq (h2 e)⟩
  | .block id c, Q, Q', s, hq, h => awp_mono c _ _ s (fun e s1 h1 => by
      cases e with
      | exit id' =>
        simp only at h1 ⊢
        split
        · rename_i hi; rw [if_pos hi] at h1; exact hq _ _ h1
        · rename_i hi; rw [if_neg hi] at h1; exact hq _ _ h1
      | _ => exact hq _ _ h1) h
  | .loop c, Q, Q', s, hq, h => by
    obtain ⟨Inv, h1, h2⟩ := h
    exact ⟨Inv, h1, fun n s1 hi => awp_mono c _ _ s1 (fun e s2 h3 => by
      cases e with
      | normal => exact h3
      | _ => exact hq _ _ h3) (h2 n s1 hi)⟩
  | .exit id, Q, Q', s, hq, h => hq _ _ h
  | .goto l, Q, Q', s, hq, h => hq _ _ h
  | .stuck, Q, Q', s, hq, h => h.elim
  | .scope c, Q, Q', s, hq, h => awp_mono c _ _ s (fun e s1 h1 => by
      cases e with
      | goto l => exact h1
      | _ => exact hq _ _ h1) h
  | .ret, Q, Q', s, hq, h => hq _ _ h

theorem pure_of_awp (hm : P.follows .mixedOrders = true) (hG : ∀ g cs, G g = some cs → lows 0 cs) {f : FuncId} {own : List Nat} {ac : ACode} {res : List Nat} {nt : Nat} (hfn : IsFn P f own ac res nt) {args : List AV} {r : AV} (ha : lows 0 args) (hr : r.low 0)
    (h : awp P G 0 ac (fun e s => (e = .normal ∨ e = .ret) ∧ (ares res s.tmps).stripR = r) ⟨args ++ List.replicate (nt - args.length) .junk, []⟩) : Pure P G f args r :=
  pure_of_ok hG ha hr (ok_of_awp (H := []) (H' := []) hm hG hfn (awp_mono ac _ _ _ (fun e s ⟨h1, h2⟩ => ⟨h1, h2, hr, by simp, Nat.le_refl _, fun o ho => by cases ho⟩) h))

end
end Go.AL
