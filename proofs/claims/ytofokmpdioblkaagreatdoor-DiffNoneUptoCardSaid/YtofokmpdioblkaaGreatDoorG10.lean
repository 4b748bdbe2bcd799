/- Contracts of functions. -/
import Derived.Test.YtofokmpdioblkaaGreatDoorG9
set_option linter.unusedSimpArgs false
set_option linter.unusedVariables false
namespace Go.AL
open Go Go.RowKit
/-- What a function answers, out of its temporaries. -/
def ares (res : List Nat) (ts : List AV) : AV :=
  match res with
  | [t] => ts.getD t .junk
  | _ => .tup (res.map fun t => ts.getD t .junk)
def AV.stripR : AV → AV
  | .tup vs => .tup (vs.map AV.strip)
  | v => v.strip
section
variable {P : Program} {G : Nat → Option (List AV)} {lo : Nat} {E : Env} {w : World}
theorem Rep.stripR {x : AV} {v : Value} (h : Rep E w x v) : Rep E w x.stripR v := by
  cases h with
  | tup cs us h => exact .tup _ us h.strip
  | imm v h => exact (Rep.imm v h).strip
  | junk v => exact (Rep.junk v).strip
  | agg cs us h h1 => exact (Rep.agg cs us h h1).strip
  | sl size xs tok A cap us h1 h2 h3 h4 h5 h6 h7 => exact (Rep.sl size xs tok A cap us h1 h2 h3 h4 h5 h6 h7).strip
  | ptr id off b h => exact .ptr id off b h
  | rptr cs off ad us h h1 h2 => exact .rptr cs off ad us h h1 h2
  | fn f first cap us vs h h1 => exact .fn f first cap us vs h h1
  | mp id b h => exact .mp id b h
  | bs id off n b A cap h h1 h2 h3 => exact .bs id off n b A cap h h1 h2 h3
  | rs id ver size lo n A cap h1 h2 h0 h3 => exact .rs id ver size lo n A cap h1 h2 h0 h3
  | rp id ver size i A h => exact .rp id ver size i A h
theorem getD_rep {ts : List AV} {us : List Value} (h : Reps E w ts us) (t : Nat) : Rep E w (ts.getD t .junk) (us.toArray.getD t undef) := by
  rcases Nat.lt_or_ge t ts.length with hl | hl
  · obtain ⟨v, hv, hr⟩ := h.get t _ (List.getElem?_eq_getElem hl)
    rw [List.getD_eq_getElem?_getD, List.getElem?_eq_getElem hl]
    have : us.toArray.getD t undef = v := by
      rw [Array.getD_eq_getD_getElem?]
      simp [hv]
    rw [this]
    exact hr
  · rw [List.getD_eq_getElem?_getD, List.getElem?_eq_none hl]
    exact .junk _
theorem run_resM (tmps : Array Value) : ∀ (res : List Nat), ((res.map ResultVar.tmp).mapM (fun r : ResultVar => match r with | .tmp t => (pure (tmps.getD t undef) : Sem Value) | .cell a t => do loadVar t (← asAddr (tmps.getD a undef)))).run P w = .ok (res.map fun t => tmps.getD t undef) w
  | [] => by simp
  | r :: res => by
    rw [List.map_cons, List.mapM_cons]
    simp only [Sem.run_bind, Sem.run_pure, Result.andThen_ok, run_resM tmps res, List.map_cons]
/-- What it answers, concretely. -/
def cres (res : List Nat) (tmps : Array Value) : Value :=
  match res with
  | [t] => tmps.getD t undef
  | _ => .tuple (res.map fun t => tmps.getD t undef).toArray
theorem cres_eq (res : List Nat) (tmps : Array Value) : (if h : (res.map fun t => tmps.getD t undef).toArray.size = 1 then (res.map fun t => tmps.getD t undef).toArray[0] else .tuple (res.map fun t => tmps.getD t undef).toArray) = cres res tmps := by
  match res with
  | [] => rfl
  | [t] => rfl
  | t :: u :: rest => simp [cres]
theorem results_run {fn : Func} {res : List Nat} (hr : fn.results = (res.map ResultVar.tmp).toArray) (tmps : Array Value) : (results fn tmps).run P w = .ok (cres res tmps) w := by
  have h := run_resM (P := P) (w := w) tmps res
  unfold results
  rw [Sem.run_bind, hr, Array.mapM_eq_mapM_toList, Sem.run_map]
  exact (congrArg (fun r : Result (List Value) => (r.andThen fun a w' => Result.ok a.toArray w').andThen fun vs w' => (pure (if h : vs.size = 1 then vs[0] else .tuple vs) : Sem Value).run P w') h).trans (by rw [← cres_eq]; rfl)
theorem ares_rep {res : List Nat} {ts : List AV} {us : Array Value} (h : Reps E w ts us.toList) : Rep E w (ares res ts) (cres res us) := by
  have key : ∀ (res : List Nat), Reps E w (res.map fun t => ts.getD t .junk) (res.map fun t => us.getD t undef) := by
    intro res
    induction res with
    | nil => exact .nil
    | cons t res ih => exact .cons _ _ _ _ (by have := getD_rep h t; simpa using this) ih
  match res with
  | [] => exact .tup _ _ (key [])
  | [t] => have := getD_rep h t; simpa [ares, cres] using this
  | t :: u :: rest => exact .tup _ _ (key (t :: u :: rest))
/-- What is asked where a function comes back. -/
def retQ (res : List Nat) (n0 : Nat) (r : AV) (H' : List AObj) (e : Exit) (s : ASt) : Prop :=
  (e = .normal ∨ e = .ret) ∧ (ares res s.tmps).stripR = r ∧ r.low H'.length ∧ s.H.take H'.length = H' ∧ n0 ≤ H'.length ∧ ∀ o ∈ H', o.low H'.length
/-- Of a function: its code is compiled to this, it answers these temporaries, and has so many. -/
structure IsFn (P : Program) (f : FuncId) (own : List Nat) (ac : ACode) (res : List Nat) (nt : Nat) : Prop where
  ex : ∃ fn c, P.funcs[f]? = some fn ∧ fn.body = some c ∧ (fn.name == "runtime.NumGoroutine") = false ∧ comp P own c = some ac ∧ fn.results = (res.map ResultVar.tmp).toArray ∧ fn.ntmps = nt
theorem callsX_body {f : FuncId} {fn : Func} {c : Code} (hf : P.funcs[f]? = some fn) (hb : fn.body = some c) (hn : (fn.name == "runtime.NumGoroutine") = false) {args : Array Value} {R : Value → World → Prop}
    (h : Calls P f args w fun e w' => match e with | .returned v => R v w' | _ => False) : CallsX P f args w R := by
  unfold CallsX
  have : (callFunc f args).run P w = .ok (.enter f args) w := by
    have hn' : ¬ fn.name = "runtime.NumGoroutine" := by simpa using hn
    simp [callFunc, hf, hn', hb]
  rw [this]
  exact h
theorem ok_of_awp (hm : P.follows .mixedOrders = true) (hG : ∀ g cs, G g = some cs → lows 0 cs) {f : FuncId} {own : List Nat} {ac : ACode} {res : List Nat} {nt : Nat} (hfn : IsFn P f own ac res nt) {args : List AV} {H H' : List AObj} {r : AV}
    (h : awp P G H.length ac (retQ res H.length r H') ⟨args ++ List.replicate (nt - args.length) .junk, H⟩) : Ok P G f args H r H' := by
  intro lo E w cargs hs ha
  obtain ⟨fn, c, hf, hb, hn, hc, hr, hnt⟩ := hfn.ex
  refine callsX_body hf hb hn (calls_of_wp hf hb ?_)
  have hlen := ha.length
  have hsim : Sim G lo E ⟨args ++ List.replicate (nt - args.length) .junk, H⟩ { tmps := cargs.toArray ++ Array.replicate (fn.ntmps - cargs.toArray.size) undef, defers := [] } w := by
    refine ⟨hs, ?_, rfl⟩
    simp only [Array.toList_append, Array.toList_replicate, List.size_toArray]
    refine ha.append ?_
    rw [hlen, hnt]
    have : ∀ n, Reps E w (List.replicate n .junk) (List.replicate n undef) := by
      intro n
      induction n with
      | zero => exact .nil
      | succ n ih => exact .cons _ _ _ _ (.junk _) ih
    exact this _
  refine wp_mono (awp_sound hm hG (n0 := H.length) (E0 := E) (w0 := w) (fun k hk => hs.dom k hk) c ac hc _ _ E _ w h hsim (Evo.refl _ _ _)) fun e a' w' hq => ?_
  have fin : ∀ s E', retQ res H.length r H' e s → Sim G lo E' s a' w' → Evo lo E w E' w' → (e = .normal ∨ e = .ret) → bodyPost P fn (fun e w'' => match e with | .returned v => ∃ E', Rep E' w'' r v ∧ SimH G lo E' H' w'' ∧ Evo lo E w E' w'' | _ => False) e a' w' := by
    intro s E' h1 h2 h3 he
    obtain ⟨_, h4, h5, h6, h7, h8⟩ := h1
    have h9 := results_run (P := P) (w := w') hr a'.tmps
    have hrep : Rep E' w' r (cres res a'.tmps) := by
      rw [← h4]; exact (ares_rep h2.tmps).stripR
    have hres : ∃ E', Rep E' w' r (cres res a'.tmps) ∧ SimH G lo E' H' w' ∧ Evo lo E w E' w' := by
      refine ⟨E'.cut H'.length, Rep.cut (E := E') (E' := E'.cut H'.length) (n := H'.length) (fun _ h => h) (fun k hk => if_pos hk) (fun k hk => if_pos hk) hrep h5, ?_, h3.cut h7 (fun k hk => hs.dom k hk)⟩
      have := h2.heap.cut hG H'.length (by rw [h6]; exact h8)
      rw [h6] at this
      exact this
    rcases he with rfl | rfl
    · exact ⟨h2.defers, _, h9, hres⟩
    · exact ⟨h2.defers, _, h9, hres⟩
  cases e with
  | normal => obtain ⟨s, E', h1, h2, h3⟩ := hq; exact fin s E' h1 h2 h3 (.inl rfl)
  | ret => obtain ⟨s, E', h1, h2, h3⟩ := hq; exact fin s E' h1 h2 h3 (.inr rfl)
  | exit id => obtain ⟨s, E', h1, h2, h3⟩ := hq; rcases h1.1 with h | h <;> cases h
  | goto l => obtain ⟨s, E', h1, h2, h3⟩ := hq; rcases h1.1 with h | h <;> cases h
  | panic c => exact hq.elim
  | outgrown => exact hq.elim
theorem CallsX.mono {f : FuncId} {args : Array Value} {R R' : Value → World → Prop} (h : CallsX P f args w R) (hr : ∀ v w', R v w' → R' v w') : CallsX P f args w R' := by
  unfold CallsX at h ⊢
  cases e : (callFunc f args).run P w with
  | halt x w1 => rw [e] at h; exact h.elim
  | ok n w1 =>
    rw [e] at h
    cases n with
    | enter f' args' =>
      refine Calls.mono h fun e w'' he => ?_
      cases e with
      | returned v => exact hr v w'' he
      | panicked => exact he
      | outgrown => exact he
    | value v => exact hr _ _ h
    | _ => exact h.elim
/-- A function of closed arguments that turns nothing, whatever boxes there are beside. -/
theorem pure_of_ok (hG : ∀ g cs, G g = some cs → lows 0 cs) {f : FuncId} {args : List AV} {r : AV} {H' : List AObj} (ha : lows 0 args) (hr : r.low 0) (h : Ok P G f args [] r H') : Pure P G f args r := by
  intro H lo E w cargs hs hargs
  let E0 : Env := { I := E.I, bx := fun _ => none, tk := fun _ => none }
  have hs0 : SimH G w.heap.size E0 [] w := by
    refine ⟨Nat.le_refl _, hs.inI, fun id o ho => by simp at ho, fun id _ => ⟨rfl, rfl⟩, fun i j b hi _ => by simp [Env.at, E0] at hi, fun g cs hg => ?_⟩
    obtain ⟨us, h1, h2, h3, ty, fz, h4, h5⟩ := hs.glob g cs hg
    exact ⟨us, Reps.cut (E := E) (E' := E0) (n := 0) (fun _ h => h) (fun k hk => absurd hk (Nat.not_lt_zero k)) (fun k hk => absurd hk (Nat.not_lt_zero k)) h1 (hG g cs hg), h2, h3, ty, fz, Nat.lt_of_lt_of_le h4 hs.lo_le, h5⟩
  have hargs0 : Reps E0 w args cargs := Reps.cut (E := E) (E' := E0) (n := 0) (fun _ h => h) (fun k hk => absurd hk (Nat.not_lt_zero k)) (fun k hk => absurd hk (Nat.not_lt_zero k)) hargs ha
  refine (h w.heap.size E0 w cargs hs0 hargs0).mono fun v w' ⟨E', h1, h2, h3⟩ => ?_
  obtain ⟨k1, k2⟩ := hs.grow h3.below (fun a => E'.I a ∧ w.heap.size ≤ a.block) (fun a ha => ⟨ha.2, h2.inI a ha.1⟩)
  refine ⟨_, h1.cut (n := 0) (fun a ha => ?_) (fun k hk => absurd hk (Nat.not_lt_zero k)) (fun k hk => absurd hk (Nat.not_lt_zero k)) hr, k1, k2⟩
  rcases h3.newI a ha with h4 | h4
  · exact .inl h4
  · exact .inr ⟨ha, h4⟩
theorem core_mono' {draw : Bool} {base : Nat} {o : AOper} {s : ASt} {K K' : ASt → Prop} (hk : ∀ s, K s → K' s) (h : astep P G draw base o s K) : astep P G draw base o s K' := by
  obtain ⟨r, h1, h2⟩ := det_astep P G draw base o s K h
  exact h2 _ (hk r h1)
theorem aops_mono {draw : Bool} {base : Nat} : ∀ (l : List AOper) (s : ASt) (K K' : ASt → Prop), (∀ s, K s → K' s) → aops P G draw base l K s → aops P G draw base l K' s
  | [], s, K, K', hk, h => hk s h
  | o :: l, s, K, K', hk, h => core_mono' (fun s1 h1 => aops_mono l s1 K K' hk h1) h
theorem awp_mono {n0 : Nat} : ∀ (ac : ACode) (Q Q' : Exit → ASt → Prop) (s : ASt), (∀ e s, Q e s → Q' e s) → awp P G n0 ac Q s → awp P G n0 ac Q' s
  | .skip, Q, Q', s, hq, h => hq _ _ h
  | .reg draw nA ops, Q, Q', s, hq, h => aops_mono ops _ _ _ (fun s1 h1 => hq _ _ h1) h
  | .seq a b, Q, Q', s, hq, h => awp_mono a _ _ s (fun e s1 h1 => by
      cases e with
      | normal => exact awp_mono b Q Q' s1 hq h1
      | _ => exact hq _ _ h1) h
  | .cond c a b, Q, Q', s, hq, h => by
    obtain ⟨t, ht, h1, h2⟩ := onBool_inv h
    show onBool (aeval G s.tmps c) _
    rw [ht]
    exact ⟨fun e => awp_mono a Q Q' s hq (h1 e), fun e => awp_mono b Q Q' s hq (h2 e)⟩
  | .block id c, Q, Q', s, hq, h => awp_mono c _ _ s (fun e s1 h1 => by
      cases e with
      | exit id' =>
        simp only at h1 ⊢
        split
        · rename_i hi; rw [if_pos hi] at h1; exact hq _ _ h1
        · rename_i hi; rw [if_neg hi] at h1; exact hq _ _ h1
      | _ => exact hq _ _ h1) h
  | .loop c, Q, Q', s, hq, h => by
    obtain ⟨Inv, h1, h2⟩ := h
    exact ⟨Inv, h1, fun n s1 hi => awp_mono c _ _ s1 (fun e s2 h3 => by
      cases e with
      | normal => exact h3
      | _ => exact hq _ _ h3) (h2 n s1 hi)⟩
  | .exit id, Q, Q', s, hq, h => hq _ _ h
  | .goto l, Q, Q', s, hq, h => hq _ _ h
  | .stuck, Q, Q', s, hq, h => h.elim
  | .scope c, Q, Q', s, hq, h => awp_mono c _ _ s (fun e s1 h1 => by
      cases e with
      | goto l => exact h1
      | _ => exact hq _ _ h1) h
  | .ret, Q, Q', s, hq, h => hq _ _ h
theorem pure_of_awp (hm : P.follows .mixedOrders = true) (hG : ∀ g cs, G g = some cs → lows 0 cs) {f : FuncId} {own : List Nat} {ac : ACode} {res : List Nat} {nt : Nat} (hfn : IsFn P f own ac res nt) {args : List AV} {r : AV} (ha : lows 0 args) (hr : r.low 0)
    (h : awp P G 0 ac (fun e s => (e = .normal ∨ e = .ret) ∧ (ares res s.tmps).stripR = r) ⟨args ++ List.replicate (nt - args.length) .junk, []⟩) : Pure P G f args r :=
  pure_of_ok hG ha hr (ok_of_awp (H := []) (H' := []) hm hG hfn (awp_mono ac _ _ _ (fun e s ⟨h1, h2⟩ => ⟨h1, h2, hr, by simp, Nat.le_refl _, fun o ho => by cases ho⟩) h))
end
end Go.AL

/- The same weakest precondition in a form that simp can go through: specifications in place of contracts, comparisons that split. -/
set_option linter.unusedSimpArgs false
set_option linter.unusedVariables false
namespace Go.AL
open Go Go.RowKit
/-- A text of these bytes. -/
def B (l : List UInt8) : ByteArray := ⟨l.toArray⟩
abbrev T (l : List UInt8) : AV := .imm (.string (B l))
abbrev i64 (n : Int) : AV := .imm (.int .i64 n)
/-- Byte i. -/
def at' (l : List UInt8) (i : Int) : Int := ((l.getD i.toNat 0).toNat : Int)
theorem B_size (l : List UInt8) : (B l).size = l.length := rfl
theorem B_data (l : List UInt8) : (B l).data.toList = l := rfl
theorem B_inj {l m : List UInt8} : B l = B m ↔ l = m := ⟨fun h => by rw [← B_data l, h, B_data], fun h => h ▸ rfl⟩
theorem B_app (l m : List UInt8) : B l ++ B m = B (l ++ m) := by
  apply ByteArray.ext
  simp [B, ByteArray.data_append]
/-- Two ways on, by what holds. -/
def SplitP (p X Y : Prop) : Prop := (p → X) ∧ (¬ p → Y)
theorem SplitP_lt {a b : Int} {X Y : Prop} : SplitP (a < b) X Y = ((a < b → X) ∧ (¬ a < b → Y)) := rfl
theorem SplitP_le {a b : Int} {X Y : Prop} : SplitP (a ≤ b) X Y = ((a ≤ b → X) ∧ (¬ a ≤ b → Y)) := rfl
theorem SplitP_ltN {a b : Nat} {X Y : Prop} : SplitP (a < b) X Y = ((a < b → X) ∧ (¬ a < b → Y)) := rfl
theorem SplitP_leN {a b : Nat} {X Y : Prop} : SplitP (a ≤ b) X Y = ((a ≤ b → X) ∧ (¬ a ≤ b → Y)) := rfl
theorem SplitP_same {α : Type} {a b : α} {X Y : Prop} : SplitP (a = b) X Y = ((a = b → X) ∧ (¬ a = b → Y)) := rfl
theorem SplitP_and {p q X Y : Prop} : SplitP (p ∧ q) X Y = ((p ∧ q → X) ∧ (¬ (p ∧ q) → Y)) := rfl
theorem SplitP_or {p q X Y : Prop} : SplitP (p ∨ q) X Y = ((p ∨ q → X) ∧ (¬ (p ∨ q) → Y)) := rfl
theorem SplitP_not {p X Y : Prop} : SplitP (¬ p) X Y = ((¬ p → X) ∧ (¬ ¬ p → Y)) := rfl
theorem SplitP_true {X Y : Prop} : SplitP True X Y = X := by simp [SplitP]
theorem SplitP_false {X Y : Prop} : SplitP False X Y = Y := by simp [SplitP]
theorem SplitP_congr {p p' X Y : Prop} (h : p = p') : SplitP p X Y = SplitP p' X Y := by rw [h]
attribute [congr] SplitP_congr
structure Spec where
  pure : FuncId → List AV → (AV → Prop) → Prop
  turn : FuncId → List AV → List AObj → (AV → List AObj → Prop) → Prop
  turns : FuncId → Bool
/-- The specifications of the functions that are called. -/
structure Spec.Holds (S : Spec) (P : Program) (G : Nat → Option (List AV)) : Prop where
  pure : ∀ f args K, S.pure f args K → ∃ r, Pure P G f args r ∧ K r
  turn : ∀ f args H K, S.turn f args H K → ∃ r H', Ok P G f args H r H' ∧ K r H'
def In64 (n : Int) : Prop := -9223372036854775808 ≤ n ∧ n ≤ 9223372036854775807
theorem In64.wrap {n : Int} (h : In64 n) : IntKind.i64.wrap n = n := by
  obtain ⟨h1, h2⟩ := h
  simp only [IntKind.wrap, IntKind.bits, IntKind.signed]
  simp
  omega
def binB (op : BinOp) (t : TypeId) (x y : AV) (K : AV → Prop) : Prop :=
  match op, x, y with
  | .add, .imm (.int .i64 a), .imm (.int .i64 b) => In64 (a + b) ∧ K (i64 (a + b))
  | .sub, .imm (.int .i64 a), .imm (.int .i64 b) => In64 (a - b) ∧ K (i64 (a - b))
  | .mul, .imm (.int .i64 a), .imm (.int .i64 b) => In64 (a * b) ∧ K (i64 (a * b))
  | .quo, .imm (.int .i64 a), .imm (.int .i64 b) => b ≠ 0 ∧ In64 (a.tdiv b) ∧ K (i64 (a.tdiv b))
  | op, x, y => binsem op t x y K
def qB (o : QOp) (args : List AV) (K : AV → Prop) : Prop :=
  match o, args with
  | .bin op t, [x, y] => binB op t x y K
  | o, args => qsem o args K
section
variable {op : BinOp} {t : TypeId} {x y : AV} {K : AV → Prop}
theorem binB_to (h : binB op t x y K) : binsem op t x y K := by
  unfold binB at h
  split at h
  · exact ⟨rfl, by show K _; rw [h.1.wrap]; exact h.2⟩
  · exact ⟨rfl, by show K _; rw [h.1.wrap]; exact h.2⟩
  · exact ⟨rfl, by show K _; rw [h.1.wrap]; exact h.2⟩
  · exact ⟨rfl, h.1, by rw [h.2.1.wrap]; exact h.2.2⟩
  · exact h
theorem qB_to {o : QOp} {args : List AV} (h : qB o args K) : qsem o args K := by
  unfold qB at h
  split at h
  · exact binB_to h
  · exact h
theorem split_bool {p : Prop} [Decidable p] {K : Bool → Prop} : K (decide p) = ((p → K true) ∧ (¬ p → K false)) := by
  by_cases h : p <;> simp [h]
theorem split_beq {α : Type} [BEq α] [LawfulBEq α] {a b : α} {K : Bool → Prop} : K (a == b) = ((a = b → K true) ∧ (¬ a = b → K false)) := by
  by_cases h : a = b
  · simp [h]
  · simp [h, beq_eq_false_iff_ne.mpr h]
theorem split_bne {α : Type} [BEq α] [LawfulBEq α] {a b : α} {K : Bool → Prop} : K (a != b) = ((a = b → K false) ∧ (¬ a = b → K true)) := by
  by_cases h : a = b
  · simp [h]
  · simp [h, bne, beq_eq_false_iff_ne.mpr h]
variable {k : IntKind} {a b : Int} {l m : List UInt8}
theorem binB_lss0 : binB .lss t (.imm (.int k a)) (.imm (.int k b)) K = ((a < b → K (bool true)) ∧ (¬ a < b → K (bool false))) := by
  rw [← split_bool (K := fun b => K (bool b))]; simp [binB, binsem, binInt]
theorem binB_leq0 : binB .leq t (.imm (.int k a)) (.imm (.int k b)) K = ((a ≤ b → K (bool true)) ∧ (¬ a ≤ b → K (bool false))) := by
  rw [← split_bool (K := fun b => K (bool b))]; simp [binB, binsem, binInt]
theorem binB_gtr0 : binB .gtr t (.imm (.int k a)) (.imm (.int k b)) K = ((b < a → K (bool true)) ∧ (¬ b < a → K (bool false))) := by
  rw [← split_bool (K := fun b => K (bool b))]; simp [binB, binsem, binInt]
theorem binB_geq0 : binB .geq t (.imm (.int k a)) (.imm (.int k b)) K = ((b ≤ a → K (bool true)) ∧ (¬ b ≤ a → K (bool false))) := by
  rw [← split_bool (K := fun b => K (bool b))]; simp [binB, binsem, binInt]
theorem binB_eql0 : binB .eql t (.imm (.int k a)) (.imm (.int k b)) K = ((a = b → K (bool true)) ∧ (¬ a = b → K (bool false))) := by
  rw [← split_beq (K := fun b => K (bool b))]; simp [binB, binsem, binInt]
theorem binB_neq0 : binB .neq t (.imm (.int k a)) (.imm (.int k b)) K = ((a = b → K (bool false)) ∧ (¬ a = b → K (bool true))) := by
  rw [← split_bne (K := fun b => K (bool b))]; simp [binB, binsem, binInt]
theorem binB_add : binB .add t (.imm (.int .i64 a)) (.imm (.int .i64 b)) K = (In64 (a + b) ∧ K (i64 (a + b))) := rfl
theorem binB_sub : binB .sub t (.imm (.int .i64 a)) (.imm (.int .i64 b)) K = (In64 (a - b) ∧ K (i64 (a - b))) := rfl
theorem binB_mul : binB .mul t (.imm (.int .i64 a)) (.imm (.int .i64 b)) K = (In64 (a * b) ∧ K (i64 (a * b))) := rfl
theorem binB_quo : binB .quo t (.imm (.int .i64 a)) (.imm (.int .i64 b)) K = (b ≠ 0 ∧ In64 (a.tdiv b) ∧ K (i64 (a.tdiv b))) := rfl
theorem binB_rem : binB .rem t (.imm (.int k a)) (.imm (.int k b)) K = (b ≠ 0 ∧ K (.imm (.int k (a.tmod b)))) := by simp [binB, binsem, binInt]
theorem binB_quok (h : k ≠ .i64) : binB .quo t (.imm (.int k a)) (.imm (.int k b)) K = (b ≠ 0 ∧ K (.imm (.int k (k.wrap (a.tdiv b))))) := by cases k <;> first | exact absurd rfl h | simp [binB, binsem, binInt]
theorem binB_addk (h : k ≠ .i64) : binB .add t (.imm (.int k a)) (.imm (.int k b)) K = K (.imm (.int k (k.wrap (a + b)))) := by cases k <;> first | exact absurd rfl h | simp [binB, binsem, binInt]
theorem binB_subk (h : k ≠ .i64) : binB .sub t (.imm (.int k a)) (.imm (.int k b)) K = K (.imm (.int k (k.wrap (a - b)))) := by cases k <;> first | exact absurd rfl h | simp [binB, binsem, binInt]
theorem binB_mulk (h : k ≠ .i64) : binB .mul t (.imm (.int k a)) (.imm (.int k b)) K = K (.imm (.int k (k.wrap (a * b)))) := by cases k <;> first | exact absurd rfl h | simp [binB, binsem, binInt]
theorem binB_and : binB .and t (.imm (.int k a)) (.imm (.int k b)) K = K (.imm (.int k (bits .and k a b))) := by simp [binB, binsem, binInt]
theorem binB_or : binB .or t (.imm (.int k a)) (.imm (.int k b)) K = K (.imm (.int k (bits .or k a b))) := by simp [binB, binsem, binInt]
theorem binB_xor : binB .xor t (.imm (.int k a)) (.imm (.int k b)) K = K (.imm (.int k (bits .xor k a b))) := by simp [binB, binsem, binInt]
theorem binB_andNot : binB .andNot t (.imm (.int k a)) (.imm (.int k b)) K = K (.imm (.int k (bits .andNot k a b))) := by simp [binB, binsem, binInt]
theorem binB_shl {k'} : binB .shl t (.imm (.int k a)) (.imm (.int k' b)) K = (0 ≤ b ∧ K (.imm (.int k (k.wrap (a * 2 ^ (min b.toNat k.bits)))))) := by simp [binB, binsem, binSh]
theorem binB_shr {k'} : binB .shr t (.imm (.int k a)) (.imm (.int k' b)) K = (0 ≤ b ∧ K (.imm (.int k (a.fdiv (2 ^ (min b.toNat k.bits)))))) := by simp [binB, binsem, binSh]
theorem binB_sadd : binB .add t (T l) (T m) K = (((l.length + m.length : Nat) : Int) ≤ 9223372036854775807 ∧ K (T (l ++ m))) := by
  simp [binB, binsem, binStr, B_size, B_app]
theorem toList_B (l : List UInt8) : (B l).toList = l := by
  rw [ByteArray.toList_eq]; rfl
theorem binB_seql0 : binB .eql t (T l) (T m) K = ((l = m → K (bool true)) ∧ (¬ l = m → K (bool false))) := by
  rw [← split_beq (K := fun b => K (bool b))]; simp [binB, binsem, binStr, toList_B]
theorem binB_sneq0 : binB .neq t (T l) (T m) K = ((l = m → K (bool false)) ∧ (¬ l = m → K (bool true))) := by
  rw [← split_bne (K := fun b => K (bool b))]; simp [binB, binsem, binStr, toList_B, bne]
theorem binB_lss : binB .lss t (.imm (.int k a)) (.imm (.int k b)) K = SplitP (a < b) (K (bool true)) (K (bool false)) := binB_lss0
theorem binB_leq : binB .leq t (.imm (.int k a)) (.imm (.int k b)) K = SplitP (a ≤ b) (K (bool true)) (K (bool false)) := binB_leq0
theorem binB_gtr : binB .gtr t (.imm (.int k a)) (.imm (.int k b)) K = SplitP (b < a) (K (bool true)) (K (bool false)) := binB_gtr0
theorem binB_geq : binB .geq t (.imm (.int k a)) (.imm (.int k b)) K = SplitP (b ≤ a) (K (bool true)) (K (bool false)) := binB_geq0
theorem binB_eql : binB .eql t (.imm (.int k a)) (.imm (.int k b)) K = SplitP (a = b) (K (bool true)) (K (bool false)) := binB_eql0
theorem binB_neq : binB .neq t (.imm (.int k a)) (.imm (.int k b)) K = SplitP (a = b) (K (bool false)) (K (bool true)) := binB_neq0
theorem binB_seql : binB .eql t (T l) (T m) K = SplitP (l = m) (K (bool true)) (K (bool false)) := binB_seql0
theorem binB_sneq : binB .neq t (T l) (T m) K = SplitP (l = m) (K (bool false)) (K (bool true)) := binB_sneq0
end
end Go.AL

/- Code in the form that simp can go through, and that it is sound. -/
set_option linter.unusedSimpArgs false
set_option linter.unusedVariables false
namespace Go.AL
open Go Go.RowKit
section
variable (G : Nat → Option (List AV)) (S : Spec)
def callB (pin : Bool) (args : List AV) (H : List AObj) (K : AV → List AObj → Prop) : Prop :=
  onCons args fun f rest => onFn f fun fid first cap =>
    if S.turns fid = true then pin = true ∧ S.turn fid (first ++ rest ++ cap) H K else S.pure fid ((first ++ rest ++ cap).map AV.strip) fun r => K r H
def mB (m : MOp) (args : List AV) (id : Nat) (H : List AObj) (K : AV → List AObj → Prop) : Prop := H[id]? = some .hole ∧ msem m args id fun r ob => K r (H.set id ob)
def coreB (draw : Bool) (base : Nat) (c : Cls) (args : List AV) (H : List AObj) (K : AV → List AObj → Prop) : Prop :=
  match c with
  | .q q => qB q args fun r => K r H
  | .l l => lsem l args (lookIn draw base H) fun r => K r H
  | .m m slot => mB m args (base + slot) H K
  | .e e => esem e args H K
  | .call pin => callB S pin args H K
def putL (ts : List AV) (d : Option Nat) (a : AV) : List AV :=
  match d with
  | some d => ts.set d a
  | none => ts
def getL (ts : List AV) (n : Nat) : AV := ts.getD n .junk
def evalB (ts : List AV) : AOpd → AV
  | .t n => getL ts n
  | .c a => a
  | .g n => match G n with | some cs => .rptr cs 0 | none => .junk
def evalsB (ts : List AV) : List AOpd → List AV
  | [] => []
  | o :: r => evalB G ts o :: evalsB ts r
def stepB (draw : Bool) (base : Nat) (g : Option (Nat × Bool)) (d : Option Nat) (c : Cls) (args : List AOpd) (ts : List AV) (H : List AObj) (K : List AV → List AObj → Prop) : Prop :=
  match g with
  | none => coreB S draw base c (evalsB G ts args) H fun r H' => K (putL ts d r) H'
  | some (t, want) => onGuard (getL ts t) fun b => if b = some want then coreB S draw base c (evalsB G ts args) H fun r H' => K (putL ts d r) H' else K (putL ts d (.tup [])) H
def opsB (draw : Bool) (base : Nat) : List AOper → (List AV → List AObj → Prop) → List AV → List AObj → Prop
  | [], K, ts, H => K ts H
  | ⟨d, g, c, args⟩ :: rest, K, ts, H => stepB G S draw base g d c args ts H (opsB draw base rest K)
def seqQ (b : (Exit → List AV → List AObj → Prop) → List AV → List AObj → Prop) (Q : Exit → List AV → List AObj → Prop) (e : Exit) (ts : List AV) (H : List AObj) : Prop :=
  match e with | .normal => b Q ts H | e => Q e ts H
def blockQ (id : Nat) (Q : Exit → List AV → List AObj → Prop) (e : Exit) (ts : List AV) (H : List AObj) : Prop :=
  match e with | .exit id' => if id' = id then Q .normal ts H else Q (.exit id') ts H | e => Q e ts H
def scopeQ (Q : Exit → List AV → List AObj → Prop) (e : Exit) (ts : List AV) (H : List AObj) : Prop :=
  match e with | .goto _ => False | e => Q e ts H
def loopQ (again : List AV → List AObj → Prop) (Q : Exit → List AV → List AObj → Prop) (e : Exit) (ts : List AV) (H : List AObj) : Prop :=
  match e with | .normal => again ts H | e => Q e ts H
def codeB (n0 : Nat) : ACode → (Exit → List AV → List AObj → Prop) → List AV → List AObj → Prop
  | .skip, Q, ts, H => Q .normal ts H
  | .reg draw nA ops, Q, ts, H => opsB G S draw H.length ops (Q .normal) ts (H ++ List.replicate nA AObj.hole)
  | .seq a b, Q, ts, H => codeB n0 a (seqQ (codeB n0 b) Q) ts H
  | .cond c a b, Q, ts, H => onBool (evalB G ts c) fun t => if t = true then codeB n0 a Q ts H else codeB n0 b Q ts H
  | .block id c, Q, ts, H => codeB n0 c (blockQ id Q) ts H
  | .loop c, Q, ts, H => ∃ (Inv : Nat → List AV → List AObj → Prop), (∃ n ts1 H1, Weak n0 ⟨ts, H⟩ ⟨ts1, H1⟩ ∧ Inv n ts1 H1) ∧
      ∀ n ts H, Inv n ts H → codeB n0 c (loopQ (fun ts' H' => ∃ n' ts'' H'', n' < n ∧ Weak n0 ⟨ts', H'⟩ ⟨ts'', H''⟩ ∧ Inv n' ts'' H'') Q) ts H
  | .exit id, Q, ts, H => Q (.exit id) ts H
  | .goto l, Q, ts, H => Q (.goto l) ts H
  | .scope c, Q, ts, H => codeB n0 c (scopeQ Q) ts H
  | .stuck, _, _, _ => False
  | .ret, Q, ts, H => Q .ret ts H
end
section
variable {P : Program} {G : Nat → Option (List AV)} {S : Spec}
theorem evalB_eq (ts : List AV) (o : AOpd) : evalB G ts o = aeval G ts o := by cases o <;> rfl
theorem evalsB_eq (ts : List AV) : ∀ l : List AOpd, evalsB G ts l = l.map (aeval G ts)
  | [] => rfl
  | o :: l => by rw [evalsB, evalsB_eq ts l, evalB_eq]; rfl
theorem core_of {draw base c args H} {K : AV → List AObj → Prop} (hS : S.Holds P G) (h : coreB S draw base c args H K) : core P G draw base c args H (fun p => K p.1 p.2) := by
  unfold coreB at h
  unfold core
  split at h
  · exact qB_to h
  · exact h
  · exact h
  · exact h
  · rename_i pin
    unfold callB at h
    obtain ⟨f, rest, rfl, ha⟩ := onCons_inv h
    obtain ⟨fid, first, cap, rfl, hb⟩ := onFn_inv ha
    clear h ha
    show (∃ r, _) ∨ _
    split at hb
    · obtain ⟨hp, h⟩ := hb
      obtain ⟨r, H', h1, h2⟩ := hS.turn _ _ _ _ h
      exact .inr ⟨hp, r, H', h1, h2⟩
    · obtain ⟨r, h1, h2⟩ := hS.pure _ _ _ hb
      exact .inl ⟨r, h1, h2⟩
theorem put_eq (ts : List AV) (H : List AObj) (d : Option Nat) (a : AV) : ASt.put ⟨ts, H⟩ d a = ⟨putL ts d a, H⟩ := by cases d <;> rfl
theorem step_of {draw base d g c args ts H} {K : List AV → List AObj → Prop} (hS : S.Holds P G) (h : stepB G S draw base g d c args ts H K) : astep P G draw base ⟨d, g, c, args⟩ ⟨ts, H⟩ (fun s => K s.tmps s.H) := by
  unfold stepB at h
  unfold astep
  cases g with
  | none =>
    have := core_of hS h
    rw [evalsB_eq] at this
    simp only [put_eq]
    exact this
  | some p =>
    obtain ⟨t, want⟩ := p
    obtain ⟨b, hb, h⟩ := onGuard_inv h
    have hb : guardVal (ts.getD t .junk) = some b := hb
    simp only [onGuard, hb]
    refine ⟨fun e => ?_, fun e => ?_⟩
    · rw [if_pos e] at h
      have := core_of hS h
      rw [evalsB_eq] at this
      simp only [put_eq]
      exact this
    · rw [if_neg e] at h
      simp only [put_eq]
      exact h
theorem ops_of {draw base} (hS : S.Holds P G) : ∀ (ops : List AOper) {ts H} {K : List AV → List AObj → Prop}, opsB G S draw base ops K ts H → aops P G draw base ops (fun s => K s.tmps s.H) ⟨ts, H⟩
  | [], ts, H, K, h => h
  | ⟨d, g, c, args⟩ :: rest, ts, H, K, h => core_mono' (fun s h => ops_of hS rest h) (step_of hS h)
theorem code_of {n0 : Nat} (hS : S.Holds P G) : ∀ (c : ACode) (Q : Exit → List AV → List AObj → Prop) (ts H), codeB G S n0 c Q ts H → awp P G n0 c (fun e s => Q e s.tmps s.H) ⟨ts, H⟩
  | .skip, Q, ts, H, h => h
  | .reg draw nA ops, Q, ts, H, h => ops_of hS ops h
  | .seq a b, Q, ts, H, h => awp_mono a _ _ _ (fun e s h1 => by
      cases e with
      | normal => exact code_of hS b Q s.tmps s.H h1
      | _ => exact h1) (code_of hS a _ ts H h)
  | .cond c a b, Q, ts, H, h => by
    obtain ⟨t, ht, h⟩ := onBool_inv h
    rw [evalB_eq] at ht
    show onBool (aeval G ts c) _
    rw [ht]
    refine ⟨fun e => ?_, fun e => ?_⟩
    · rw [if_pos e] at h; exact code_of hS a Q ts H h
    · rw [if_neg (by simp [e])] at h; exact code_of hS b Q ts H h
  | .block id c, Q, ts, H, h => awp_mono c _ _ _ (fun e s h1 => by
      cases e with
      | exit id' => exact h1
      | _ => exact h1) (code_of hS c _ ts H h)
  | .loop c, Q, ts, H, h => by
    obtain ⟨Inv, ⟨n, ts1, H1, h1, h2⟩, h3⟩ := h
    refine ⟨fun n s => Inv n s.tmps s.H, ⟨n, ⟨ts1, H1⟩, h1, h2⟩, fun n s hi => awp_mono c _ _ _ (fun e s1 h4 => ?_) (code_of hS c _ s.tmps s.H (h3 n s.tmps s.H hi))⟩
    cases e with
    | normal =>
      obtain ⟨n', ts'', H'', h5, h6, h7⟩ := h4
      exact ⟨n', ⟨ts'', H''⟩, h5, h6, h7⟩
    | _ => exact h4
  | .exit id, Q, ts, H, h => h
  | .goto l, Q, ts, H, h => h
  | .stuck, Q, ts, H, h => h.elim
  | .scope c, Q, ts, H, h => awp_mono c _ _ _ (fun e s h1 => by
      cases e with
      | goto l => exact h1
      | _ => exact h1) (code_of hS c _ ts H h)
  | .ret, Q, ts, H, h => h
/-- What remains of a round that comes to its end. -/
def Again {X : Type} (n0 : Nat) (st : X → List AV) (hp : X → List AObj) (I : X → Prop) (m : X → Nat) (x : X) (ts : List AV) (H : List AObj) : Prop :=
  ∃ x', m x' < m x ∧ I x' ∧ Weak n0 ⟨ts, H⟩ ⟨st x', hp x'⟩
theorem loopB {X : Type} (st : X → List AV) (hp : X → List AObj) (I : X → Prop) (m : X → Nat) (x0 : X) {n0 : Nat} {c : ACode} {Q : Exit → List AV → List AObj → Prop} {ts : List AV} {H : List AObj}
    (hI : I x0) (hw : Weak n0 ⟨ts, H⟩ ⟨st x0, hp x0⟩) (step : ∀ x, I x → codeB G S n0 c (loopQ (Again n0 st hp I m x) Q) (st x) (hp x)) : codeB G S n0 (.loop c) Q ts H := by
  refine ⟨fun n ts H => ∃ x, n = m x ∧ I x ∧ ts = st x ∧ H = hp x, ⟨m x0, st x0, hp x0, hw, x0, rfl, hI, rfl, rfl⟩, ?_⟩
  rintro n ts H ⟨x, rfl, hx, rfl, rfl⟩
  have := step x hx
  have heq : (loopQ (Again n0 st hp I m x) Q) = (loopQ (fun ts' H' => ∃ n' ts'' H'', n' < m x ∧ Weak n0 ⟨ts', H'⟩ ⟨ts'', H''⟩ ∧ ∃ x, n' = m x ∧ I x ∧ ts'' = st x ∧ H'' = hp x) Q) := by
    congr 1
    funext ts' H'
    simp only [Again, eq_iff_iff]
    constructor
    · rintro ⟨x', h1, h2, h3⟩
      exact ⟨m x', st x', hp x', h1, h3, x', rfl, h2, rfl, rfl⟩
    · rintro ⟨n', ts'', H'', h1, h2, x', rfl, h3, rfl, rfl⟩
      exact ⟨x', h1, h3, h2⟩
  rw [← heq]
  exact this
theorem weak_same {n0 : Nat} {ts ts' : List AV} {H : List AObj} (hn : n0 ≤ H.length) (hH : ∀ o ∈ H, o.low H.length) (h : WeakL H.length ts ts') : Weak n0 ⟨ts, H⟩ ⟨ts', H⟩ :=
  ⟨_, .inl rfl, H.length, hn, by simpa using HeapEq.refl H, hH, h⟩
theorem weak_nil {ts ts' : List AV} (h : WeakL 0 ts ts') : Weak 0 ⟨ts, []⟩ ⟨ts', []⟩ := weak_same (Nat.le_refl _) (fun o ho => by cases ho) h
/-- The contract of a pure function. -/
def Told (P : Program) (G : Nat → Option (List AV)) (f : FuncId) (spec : List AV → (AV → Prop) → Prop) : Prop := ∀ args K, spec args K → ∃ r, Pure P G f args r ∧ K r
def ask (spec : List AV → (AV → Prop) → Prop) (args : List AV) (K : AV → Prop) : Prop := spec args K
def retB (res : List Nat) (r : AV) (e : Exit) (ts : List AV) (H : List AObj) : Prop := (e = .normal ∨ e = .ret) ∧ (ares res ts).stripR = r
theorem pure_of_code (hm : P.follows .mixedOrders = true) (hG : ∀ g cs, G g = some cs → lows 0 cs) (hS : S.Holds P G) {f : FuncId} {own : List Nat} {ac : ACode} {res : List Nat} {nt : Nat} (hfn : IsFn P f own ac res nt) {args : List AV} {r : AV} (ha : lows 0 args) (hr : r.low 0)
    (h : codeB G S 0 ac (retB res r) (args ++ List.replicate (nt - args.length) .junk) []) : Pure P G f args r :=
  pure_of_awp hm hG hfn ha hr (awp_mono ac _ _ _ (fun e s h => h) (code_of hS ac _ _ _ h))
end
end Go.AL

/- What simp goes by. -/
set_option linter.unusedSimpArgs false
set_option linter.unusedVariables false
namespace Go.AL
open Go Go.RowKit
abbrev PSp := List AV → (AV → Prop) → Prop
abbrev TSp := List AV → List AObj → (AV → List AObj → Prop) → Prop
def pureOf : List (Nat × PSp) → Nat → PSp
  | [], _ => fun _ _ => False
  | (f, s) :: r, g => if f = g then s else pureOf r g
def turnOf : List (Nat × TSp) → Nat → TSp
  | [], _ => fun _ _ _ => False
  | (f, s) :: r, g => if f = g then s else turnOf r g
def turnsOf : List (Nat × TSp) → Nat → Bool
  | [], _ => false
  | (f, _) :: r, g => if f = g then true else turnsOf r g
def sp (p : List (Nat × PSp)) (t : List (Nat × TSp)) : Spec := ⟨pureOf p, turnOf t, turnsOf t⟩
def ToldT (P : Program) (G : Nat → Option (List AV)) (f : FuncId) (spec : TSp) : Prop := ∀ args H K, spec args H K → ∃ r H', Ok P G f args H r H' ∧ K r H'
inductive Tolds (P : Program) (G : Nat → Option (List AV)) : List (Nat × PSp) → Prop
  | nil : Tolds P G []
  | cons {f s r} : Told P G f s → Tolds P G r → Tolds P G ((f, s) :: r)
inductive ToldTs (P : Program) (G : Nat → Option (List AV)) : List (Nat × TSp) → Prop
  | nil : ToldTs P G []
  | cons {f s r} : ToldT P G f s → ToldTs P G r → ToldTs P G ((f, s) :: r)
section
variable {P : Program} {G : Nat → Option (List AV)} {S : Spec}
theorem pureOf_told {l : List (Nat × PSp)} (h : Tolds P G l) : ∀ f args K, pureOf l f args K → ∃ r, Pure P G f args r ∧ K r := by
  induction h with
  | nil => intro f args K h; exact h.elim
  | cons h1 _ ih =>
    intro f args K h
    unfold pureOf at h
    split at h
    · rename_i e; subst e; exact h1 args K h
    · exact ih f args K h
theorem turnOf_told {l : List (Nat × TSp)} (h : ToldTs P G l) : ∀ f args H K, turnOf l f args H K → ∃ r H', Ok P G f args H r H' ∧ K r H' := by
  induction h with
  | nil => intro f args H K h; exact h.elim
  | cons h1 _ ih =>
    intro f args H K h
    unfold turnOf at h
    split at h
    · rename_i e; subst e; exact h1 args H K h
    · exact ih f args H K h
theorem sp_holds {p : List (Nat × PSp)} {t : List (Nat × TSp)} (hp : Tolds P G p) (ht : ToldTs P G t) : (sp p t).Holds P G := ⟨pureOf_told hp, turnOf_told ht⟩
def askT (spec : TSp) (args : List AV) (H : List AObj) (K : AV → List AObj → Prop) : Prop := spec args H K
section congr
variable {ts ts' args args' : List AV} {H H' : List AObj} {x x' : AV}
@[congr] theorem codeB_congr {n0 c Q} (h : ts = ts') (h' : H = H') : codeB G S n0 c Q ts H = codeB G S n0 c Q ts' H' := by rw [h, h']
@[congr] theorem opsB_congr {draw base base' ops K} (hb : base = base') (h : ts = ts') (h' : H = H') : opsB G S draw base ops K ts H = opsB G S draw base' ops K ts' H' := by rw [h, h', hb]
@[congr] theorem stepB_congr {draw base g d c as K} (h : ts = ts') (h' : H = H') : stepB G S draw base g d c as ts H K = stepB G S draw base g d c as ts' H' K := by rw [h, h']
@[congr] theorem coreB_congr {draw base c K} (h : args = args') (h' : H = H') : coreB S draw base c args H K = coreB S draw base c args' H' K := by rw [h, h']
@[congr] theorem callB_congr {pin K} (h : args = args') (h' : H = H') : callB S pin args H K = callB S pin args' H' K := by rw [h, h']
@[congr] theorem mB_congr {m id id' K} (h : args = args') (hi : id = id') (h' : H = H') : mB m args id H K = mB m args' id' H' K := by rw [h, h', hi]
@[congr] theorem msem_congr {m id K} (h : args = args') : msem m args id K = msem m args' id K := by rw [h]
@[congr] theorem esem_congr {m K} (h : args = args') (h' : H = H') : esem m args H K = esem m args' H' K := by rw [h, h']
@[congr] theorem lsem_congr {m look K} (h : args = args') : lsem m args look K = lsem m args' look K := by rw [h]
@[congr] theorem qB_congr {o K} (h : args = args') : qB o args K = qB o args' K := by rw [h]
@[congr] theorem qsem_congr {o K} (h : args = args') : qsem o args K = qsem o args' K := by rw [h]
@[congr] theorem binB_congr {op t K} {y y' : AV} (h : x = x') (h' : y = y') : binB op t x y K = binB op t x' y' K := by rw [h, h']
@[congr] theorem onBool_congr {K} (h : x = x') : onBool x K = onBool x' K := by rw [h]
@[congr] theorem onGuard_congr {K} (h : x = x') : onGuard x K = onGuard x' K := by rw [h]
@[congr] theorem onInt_congr {K} (h : x = x') : onInt x K = onInt x' K := by rw [h]
@[congr] theorem onStr_congr {K} (h : x = x') : onStr x K = onStr x' K := by rw [h]
@[congr] theorem onAgg_congr {K} (h : x = x') : onAgg x K = onAgg x' K := by rw [h]
@[congr] theorem onSl_congr {K} (h : x = x') : onSl x K = onSl x' K := by rw [h]
@[congr] theorem onTup_congr {K} (h : x = x') : onTup x K = onTup x' K := by rw [h]
@[congr] theorem onImm_congr {K} (h : x = x') : onImm x K = onImm x' K := by rw [h]
@[congr] theorem onPtr_congr {K} (h : x = x') : onPtr x K = onPtr x' K := by rw [h]
@[congr] theorem onSome_congr {α : Type} {x x' : Option α} {K} (h : x = x') : onSome x K = onSome x' K := by rw [h]
@[congr] theorem onBox_congr {x x' : Option AObj} {K} (h : x = x') : onBox x K = onBox x' K := by rw [h]
@[congr] theorem onRow_congr {x x' : Option AObj} {K} (h : x = x') : onRow x K = onRow x' K := by rw [h]
@[congr] theorem onMap_congr {x x' : Option AObj} {K} (h : x = x') : onMap x K = onMap x' K := by rw [h]
@[congr] theorem onTok_congr {x x' : Option AObj} {K} (h : x = x') : onTok x K = onTok x' K := by rw [h]
@[congr] theorem bounds_congr {lo hi n n' K} (hn : n = n') (h : args = args') : bounds lo hi n args K = bounds lo hi n' args' K := by rw [h, hn]
@[congr] theorem behind_congr {look K} (h : x = x') : behind x look K = behind x' look K := by rw [h]
@[congr] theorem ask_congr {s s' : PSp} {K} (hs : s = s') (h : args = args') : ask s args K = ask s' args' K := by rw [h, hs]
@[congr] theorem askT_congr {s s' : TSp} {K} (hs : s = s') (h : args = args') (h' : H = H') : askT s args H K = askT s' args' H' K := by rw [h, hs, h']
@[congr] theorem seqQ_congr {b Q e} (h : ts = ts') (h' : H = H') : seqQ b Q e ts H = seqQ b Q e ts' H' := by rw [h, h']
@[congr] theorem blockQ_congr {b Q e} (h : ts = ts') (h' : H = H') : blockQ b Q e ts H = blockQ b Q e ts' H' := by rw [h, h']
@[congr] theorem scopeQ_congr {Q e} (h : ts = ts') (h' : H = H') : scopeQ Q e ts H = scopeQ Q e ts' H' := by rw [h, h']
@[congr] theorem loopQ_congr {b Q e} (h : ts = ts') (h' : H = H') : loopQ b Q e ts H = loopQ b Q e ts' H' := by rw [h, h']
@[congr] theorem again_congr {X : Type} {n0} {st : X → List AV} {hp I m x} (h : ts = ts') (h' : H = H') : Again n0 st hp I m x ts H = Again n0 st hp I m x ts' H' := by rw [h, h']
@[congr] theorem retB_congr {res r e} (h : ts = ts') (h' : H = H') : retB res r e ts H = retB res r e ts' H' := by rw [h, h']
@[congr] theorem evalsB_congr {l} (h : ts = ts') : evalsB G ts l = evalsB G ts' l := by rw [h]
@[congr] theorem evalB_congr {l} (h : ts = ts') : evalB G ts l = evalB G ts' l := by rw [h]
end congr
section rules
variable {n0 : Nat} {Q : Exit → List AV → List AObj → Prop} {ts : List AV} {H : List AObj} {K : List AV → List AObj → Prop} {draw : Bool} {base : Nat} {KA : AV → Prop} {KO : AV → List AObj → Prop}
theorem codeB_skip : codeB G S n0 .skip Q ts H = Q .normal ts H := rfl
theorem codeB_reg {nA ops} : codeB G S n0 (.reg draw nA ops) Q ts H = opsB G S draw H.length ops (Q .normal) ts (H ++ List.replicate nA AObj.hole) := rfl
theorem codeB_reg0 {ops} : codeB G S n0 (.reg draw 0 ops) Q ts H = opsB G S draw H.length ops (Q .normal) ts H := by rw [codeB_reg]; simp
theorem codeB_seq {a b} : codeB G S n0 (.seq a b) Q ts H = codeB G S n0 a (seqQ (codeB G S n0 b) Q) ts H := rfl
theorem codeB_cond {c a b} : codeB G S n0 (.cond c a b) Q ts H = onBool (evalB G ts c) fun t => if t = true then codeB G S n0 a Q ts H else codeB G S n0 b Q ts H := rfl
theorem codeB_block {id c} : codeB G S n0 (.block id c) Q ts H = codeB G S n0 c (blockQ id Q) ts H := rfl
theorem codeB_exit {id} : codeB G S n0 (.exit id) Q ts H = Q (.exit id) ts H := rfl
theorem codeB_goto {l} : codeB G S n0 (.goto l) Q ts H = Q (.goto l) ts H := rfl
theorem codeB_scope {c} : codeB G S n0 (.scope c) Q ts H = codeB G S n0 c (scopeQ Q) ts H := rfl
theorem codeB_stuck : codeB G S n0 .stuck Q ts H = False := rfl
theorem scopeQ_normal : scopeQ Q .normal ts H = Q .normal ts H := rfl
theorem scopeQ_exit {id} : scopeQ Q (.exit id) ts H = Q (.exit id) ts H := rfl
theorem scopeQ_ret : scopeQ Q .ret ts H = Q .ret ts H := rfl
theorem scopeQ_goto {l} : scopeQ Q (.goto l) ts H = False := rfl
theorem seqQ_goto {b l} : seqQ b Q (.goto l) ts H = Q (.goto l) ts H := rfl
theorem blockQ_goto {b l} : blockQ b Q (.goto l) ts H = Q (.goto l) ts H := rfl
theorem loopQ_goto {b l} : loopQ b Q (.goto l) ts H = Q (.goto l) ts H := rfl
theorem codeB_ret : codeB G S n0 .ret Q ts H = Q .ret ts H := rfl
theorem seqQ_normal {b} : seqQ b Q .normal ts H = b Q ts H := rfl
theorem seqQ_exit {b id} : seqQ b Q (.exit id) ts H = Q (.exit id) ts H := rfl
theorem seqQ_ret {b} : seqQ b Q .ret ts H = Q .ret ts H := rfl
theorem blockQ_normal {b} : blockQ b Q .normal ts H = Q .normal ts H := rfl
theorem blockQ_exit {b id} : blockQ b Q (.exit id) ts H = if id = b then Q .normal ts H else Q (.exit id) ts H := rfl
theorem blockQ_ret {b} : blockQ b Q .ret ts H = Q .ret ts H := rfl
theorem loopQ_normal {b} : loopQ b Q .normal ts H = b ts H := rfl
theorem loopQ_exit {b id} : loopQ b Q (.exit id) ts H = Q (.exit id) ts H := rfl
theorem loopQ_ret {b} : loopQ b Q .ret ts H = Q .ret ts H := rfl
theorem retB_normal {res r} : retB res r .normal ts H = ((ares res ts).stripR = r) := by simp [retB]
theorem retB_ret {res r} : retB res r .ret ts H = ((ares res ts).stripR = r) := by simp [retB]
theorem retB_exit {res r id} : retB res r (.exit id) ts H = False := by simp [retB]
theorem ares_one {t} : ares [t] ts = getL ts t := rfl
theorem ares_none : ares [] ts = .tup [] := rfl
theorem ares_more {t u l} : ares (t :: u :: l) ts = .tup (getL ts t :: getL ts u :: l.map (getL ts)) := rfl
theorem opsB_nil : opsB G S draw base [] K ts H = K ts H := rfl
theorem opsB_cons {d g c args rest} : opsB G S draw base (⟨d, g, c, args⟩ :: rest) K ts H = stepB G S draw base g d c args ts H (opsB G S draw base rest K) := rfl
theorem stepB_none {d c args} : stepB G S draw base none d c args ts H K = coreB S draw base c (evalsB G ts args) H fun r H' => K (putL ts d r) H' := rfl
theorem stepB_some {t want d c args} : stepB G S draw base (some (t, want)) d c args ts H K = onGuard (getL ts t) fun b => if b = some want then coreB S draw base c (evalsB G ts args) H fun r H' => K (putL ts d r) H' else K (putL ts d (.tup [])) H := rfl
theorem evalsB_nil : evalsB G ts [] = [] := rfl
theorem evalsB_cons {o l} : evalsB G ts (o :: l) = evalB G ts o :: evalsB G ts l := rfl
theorem evalB_t {n} : evalB G ts (.t n) = getL ts n := rfl
theorem evalB_c {a} : evalB G ts (.c a) = a := rfl
theorem getL_zero {a as} : getL (a :: as) 0 = a := rfl
theorem getL_succ {a as n} : getL (a :: as) (n + 1) = getL as n := rfl
theorem getL_8 {a0 a1 a2 a3 a4 a5 a6 a7 as n} : getL (a0 :: a1 :: a2 :: a3 :: a4 :: a5 :: a6 :: a7 :: as) (n + 8) = getL as n := rfl
theorem putL_none {r} : putL ts none r = ts := rfl
theorem putL_zero {a as r} : putL (a :: as) (some 0) r = r :: as := rfl
theorem putL_succ {a as n r} : putL (a :: as) (some (n + 1)) r = a :: putL as (some n) r := rfl
theorem putL_8 {a0 a1 a2 a3 a4 a5 a6 a7 as n r} : putL (a0 :: a1 :: a2 :: a3 :: a4 :: a5 :: a6 :: a7 :: as) (some (n + 8)) r = a0 :: a1 :: a2 :: a3 :: a4 :: a5 :: a6 :: a7 :: putL as (some n) r := rfl
variable {args : List AV}
theorem coreB_q {q} : coreB S draw base (.q q) args H KO = qB q args fun r => KO r H := rfl
theorem coreB_l {l} : coreB S draw base (.l l) args H KO = lsem l args (lookIn draw base H) fun r => KO r H := rfl
theorem coreB_m {m slot} : coreB S draw base (.m m slot) args H KO = mB m args (base + slot) H KO := rfl
theorem coreB_e {e} : coreB S draw base (.e e) args H KO = esem e args H KO := rfl
theorem coreB_call {pin} : coreB S draw base (.call pin) args H KO = callB S pin args H KO := rfl
theorem callB_fn {p t pin fid first cap rest} : callB (sp p t) pin (.fn (.func fid) first cap :: rest) H KO =
    if turnsOf t fid = true then pin = true ∧ askT (turnOf t fid) (first ++ rest ++ cap) H KO else ask (pureOf p fid) ((first ++ rest ++ cap).map AV.strip) fun r => KO r H := rfl
theorem turnsOf_nil {g} : turnsOf [] g = false := rfl
theorem turnsOf_cons {f s r g} : turnsOf ((f, s) :: r) g = if f = g then true else turnsOf r g := rfl
theorem turnOf_cons {f s r g} : turnOf ((f, s) :: r) g = if f = g then s else turnOf r g := rfl
theorem pureOf_cons {f s r g} : pureOf ((f, s) :: r) g = if f = g then s else pureOf r g := rfl
theorem cells_imm {v} : AV.cells (.imm v) = [.imm v] := rfl
theorem cells_agg {cs} : AV.cells (.agg cs) = cs := rfl
theorem cells_sl {n xs tok} : AV.cells (.sl n xs tok) = [.sl n xs tok] := rfl
theorem cells_fn {f a b} : AV.cells (.fn f a b) = [.fn f a b] := rfl
theorem cells_ptr {f a} : AV.cells (.ptr f a) = [.ptr f a] := rfl
theorem cells_rptr {f a} : AV.cells (.rptr f a) = [.rptr f a] := rfl
theorem cells_rs {id ver sz lo n} : AV.cells (.rs id ver sz lo n) = [.rs id ver sz lo n] := rfl
theorem isVal_rs {id ver sz lo n} : AV.isVal (.rs id ver sz lo n) = true := rfl
theorem cells_mp {id} : AV.cells (.mp id) = [.mp id] := rfl
theorem isVal_mp {id} : AV.isVal (.mp id) = true := rfl
theorem isVal_imm {v} : AV.isVal (.imm v) = true := rfl
theorem isVal_agg {cs} : AV.isVal (.agg cs) = true := rfl
theorem isVal_sl {n xs tok} : AV.isVal (.sl n xs tok) = true := rfl
theorem isVal_fn {f a b} : AV.isVal (.fn f a b) = true := rfl
theorem isVal_ptr {f a} : AV.isVal (.ptr f a) = true := rfl
theorem isVal_rptr {f a} : AV.isVal (.rptr f a) = true := rfl
theorem strip_imm {v} : AV.strip (.imm v) = .imm v := rfl
theorem strip_sl {n xs tok} : AV.strip (.sl n xs tok) = .sl n xs none := rfl
theorem strip_fn {f a b} : AV.strip (.fn f a b) = .fn f a b := rfl
theorem strip_ptr {f a} : AV.strip (.ptr f a) = .ptr f a := rfl
theorem strip_rptr {f a} : AV.strip (.rptr f a) = .rptr f a := rfl
theorem strip_rs {id ver sz lo n} : AV.strip (.rs id ver sz lo n) = .rs id ver sz lo n := rfl
theorem strip_mp {id} : AV.strip (.mp id) = .mp id := rfl
theorem strip_junk : AV.strip .junk = .junk := rfl
theorem strip_agg {cs} : AV.strip (.agg cs) = .agg (cs.map AV.strip1) := rfl
theorem strip1_imm {v} : AV.strip1 (.imm v) = .imm v := rfl
theorem strip1_sl {n xs tok} : AV.strip1 (.sl n xs tok) = .sl n xs none := rfl
theorem strip1_fn {f a b} : AV.strip1 (.fn f a b) = .fn f a b := rfl
theorem strip1_ptr {f a} : AV.strip1 (.ptr f a) = .ptr f a := rfl
theorem stripR_imm {v} : AV.stripR (.imm v) = .imm v := rfl
theorem stripR_rs {id ver sz lo n} : AV.stripR (.rs id ver sz lo n) = .rs id ver sz lo n := rfl
theorem stripR_sl {n xs tok} : AV.stripR (.sl n xs tok) = .sl n xs none := rfl
theorem stripR_agg {cs} : AV.stripR (.agg cs) = .agg (cs.map AV.strip1) := rfl
theorem stripR_tup {cs} : AV.stripR (.tup cs) = .tup (cs.map AV.strip) := rfl
theorem stripR_fn {f a b} : AV.stripR (.fn f a b) = .fn f a b := rfl
theorem onBool_imm {b} {F : Bool → Prop} : onBool (.imm (.bool b)) F = F b := rfl
theorem onGuard_bool {b} {F : Option Bool → Prop} : onGuard (.imm (.bool b)) F = F (some b) := rfl
theorem onGuard_off {F : Option Bool → Prop} : onGuard (.tup []) F = F none := rfl
theorem onInt_imm {k n} {F : IntKind → Int → Prop} : onInt (.imm (.int k n)) F = F k n := rfl
theorem onStr_imm {s} {F : ByteArray → Prop} : onStr (.imm (.string s)) F = F s := rfl
theorem onAgg_agg {cs} {F : List AV → Prop} : onAgg (.agg cs) F = F cs := rfl
theorem onTup_tup {cs} {F : List AV → Prop} : onTup (.tup cs) F = F cs := rfl
theorem onImm_imm {v} {F : Value → Prop} : onImm (.imm v) F = F v := rfl
theorem onSl_sl {n xs tok} {F : Nat → List AV → Option Nat → Prop} : onSl (.sl n xs tok) F = F n xs tok := rfl
theorem onPtr_ptr {id off} {F : Nat → Nat → Prop} : onPtr (.ptr id off) F = F id off := rfl
theorem onSome_some {α : Type} {a : α} {F : α → Prop} : onSome (some a) F = F a := rfl
theorem onSome_none {α : Type} {F : α → Prop} : onSome none F = False := rfl
theorem onBox_box {cs} {F : List AV → Prop} : onBox (some (.box cs)) F = F cs := rfl
theorem onBox_fbox {cs} {F : List AV → Prop} : onBox (some (.fbox cs)) F = F cs := rfl
theorem onTok_tok {e size n} {F : TypeId → Nat → Nat → Prop} : onTok (some (.tok e size n)) F = F e size n := rfl
theorem lookIn_false {id} : lookIn false base H id = H[id]? := by simp [lookIn]
theorem lookIn_true {id} : lookIn true base H id = if base ≤ id then none else H[id]? := by simp [lookIn]
variable {x y : AV} {l m : List UInt8} {k : IntKind} {i j : Int} {n : Nat}
theorem qB_mv : qB .mv [x] KA = KA x := rfl
theorem qB_pick {c} : qB .pick [.imm (.bool c), x, y] KA = KA (if c = true then x else y) := rfl
theorem qB_bin {op t} : qB (.bin op t) [x, y] KA = binB op t x y KA := rfl
theorem qB_not {b} : qB (.un .not) [.imm (.bool b)] KA = KA (bool !b) := rfl
theorem qB_neg {n} : qB (.un .neg) [.imm (.int k n)] KA = KA (.imm (.int k (k.wrap (0 - n)))) := rfl
theorem qB_convI {k'} : qB (.convI k) [.imm (.int k' i)] KA = KA (.imm (.int k (k.wrap i))) := rfl
theorem qB_eqBoo {neg a b} : qB (.eqBoo neg) [.imm (.bool a), .imm (.bool b)] KA = KA (bool (if neg then !(a == b) else a == b)) := rfl
theorem qB_runeStr {k'} : qB .runeStr [.imm (.int k' i)] KA = KA (T (Utf8.encode i).data.toList) := rfl
theorem qB_stuck {args} : qB .stuck args KA = False := by cases args <;> rfl
theorem qB_strId : qB .strId [T l] KA = KA (T l) := rfl
theorem qB_toBytes : qB .toBytes [T l] KA = (l.length ≤ 4611686018427387904 ∧ KA (.sl 1 (l.map byteAV) none)) := rfl
theorem qB_toStr {n xs tok} : qB .toStr [.sl n xs tok] KA = onSome (bytesOf xs) fun bs => KA (T bs) := rfl
theorem qB_fld1 {off cs} : qB (.fld1 off) [.agg cs] KA = onSome cs[off]? KA := rfl
theorem qB_fldA {off n cs} : qB (.fldA off n) [.agg cs] KA = (off + n ≤ cs.length ∧ KA (.agg ((cs.drop off).take n))) := rfl
theorem qB_faddrP {off id o} : qB (.faddr off) [.ptr id o] KA = KA (.ptr id (o + off)) := rfl
theorem qB_faddrR {off cs o} : qB (.faddr off) [.rptr cs o] KA = KA (.rptr cs (o + off)) := rfl
theorem qB_idxS : qB .idxS [T l, .imm (.int k i)] KA = (0 ≤ i ∧ i < l.length ∧ KA (.imm (.int .u8 (at' l i)))) := rfl
theorem qB_idx1 {len cs} : qB (.idx1 len) [.agg cs, .imm (.int k i)] KA = (0 ≤ i ∧ i < len ∧ onSome cs[i.toNat]? KA) := rfl
theorem qB_idxA {len n cs} : qB (.idxA len n) [.agg cs, .imm (.int k i)] KA = (0 ≤ i ∧ i < len ∧ i.toNat * n + n ≤ cs.length ∧ KA (.agg ((cs.drop (i.toNat * n)).take n))) := rfl
theorem qB_iaddrS {size sz xs tok} : qB (.iaddrS size) [.sl sz xs tok, .imm (.int k i)] KA = (sz = size ∧ 0 ≤ i ∧ i < xs.length ∧ KA (.rptr (xs.getD i.toNat .junk).cells 0)) := rfl
theorem qB_iaddrSR {size id ver sz lo n} : qB (.iaddrS size) [.rs id ver sz lo n, .imm (.int k i)] KA = (sz = size ∧ 0 ≤ i ∧ i < n ∧ KA (.rp id ver sz (lo + i.toNat))) := rfl
theorem qB_iaddrAP {len size id o} : qB (.iaddrA len size) [.ptr id o, .imm (.int k i)] KA = (0 ≤ i ∧ i < len ∧ KA (.ptr id (o + i.toNat * size))) := rfl
theorem qB_iaddrAR {len size cs o} : qB (.iaddrA len size) [.rptr cs o, .imm (.int k i)] KA = (0 ≤ i ∧ i < len ∧ KA (.rptr cs (o + i.toNat * size))) := rfl
theorem qB_sliceS {lo hi bs} : qB (.sliceS lo hi) (T l :: bs) KA = bounds lo hi l.length bs fun a b => KA (T ((l.take b).drop a)) := by
  have e : qB (.sliceS lo hi) (T l :: bs) KA = bounds lo hi (B l).size bs fun a b => KA (str ((B l).extract a b)) := rfl
  rw [e]
  have : ∀ a b, str ((B l).extract a b) = T ((l.take b).drop a) := by
    intro a b
    congr 2
    apply ByteArray.ext
    simp [B, ByteArray.data_extract, List.drop_take, List.extract_eq_take_drop]
  simp only [this, B_size]
theorem qB_sliceL {size lo hi sz xs tok bs} : qB (.sliceL size lo hi false) (.sl sz xs tok :: bs) KA = ((sz = size ∨ xs = []) ∧ bounds lo hi xs.length bs fun l h => KA (.sl sz ((xs.take h).drop l) none)) := by
  have e : qB (.sliceL size lo hi false) (.sl sz xs tok :: bs) KA = sliceLsem size lo hi false (.sl sz xs tok) bs KA := rfl
  rw [e]; simp [sliceLsem, onSl_sl]
theorem qB_sliceLR {size lo hi id ver sz at0 n bs} : qB (.sliceL size lo hi false) (.rs id ver sz at0 n :: bs) KA = (sz = size ∧ bounds lo hi n bs fun l h => KA (.rs id ver sz (at0 + l) (h - l))) := by
  have e : qB (.sliceL size lo hi false) (.rs id ver sz at0 n :: bs) KA = sliceLsem size lo hi false (.rs id ver sz at0 n) bs KA := rfl
  rw [e]; simp [sliceLsem]
theorem qB_nilchkP {id o} : qB .nilchk [.ptr id o] KA = KA (.ptr id o) := rfl
theorem qB_nilchkR {id o} : qB .nilchk [.rptr id o] KA = KA (.rptr id o) := rfl
theorem qB_nilchkF {f a b} : qB .nilchk [.fn (.func f) a b] KA = KA (.fn (.func f) a b) := rfl
theorem qB_ext {i vs} : qB (.ext i) [.tup vs] KA = onSome vs[i]? KA := rfl
theorem qB_lenS : qB .lenS [T l] KA = KA (i64 l.length) := rfl
theorem qB_lenL {n xs tok} : qB .lenL [.sl n xs tok] KA = KA (i64 xs.length) := rfl
theorem qB_lenR {id ver sz lo n} : qB .lenL [.rs id ver sz lo n] KA = KA (i64 n) := rfl
theorem qB_lenB {id off n} : qB .lenL [.bs id off n] KA = KA (i64 n) := rfl
theorem qB_pnilP {neg id off} : qB (.pnil neg) [.ptr id off, .imm (.pointer none)] KA = KA (bool neg) := rfl
theorem qB_pnilR {neg cs off} : qB (.pnil neg) [.rptr cs off, .imm (.pointer none)] KA = KA (bool neg) := rfl
theorem qB_pnilE {neg id ver sz i} : qB (.pnil neg) [.rp id ver sz i, .imm (.pointer none)] KA = KA (bool neg) := rfl
theorem qB_pnilN {neg} : qB (.pnil neg) [.imm (.pointer none), .imm (.pointer none)] KA = KA (bool (!neg)) := rfl
theorem qB_slArrW {len lo hi id off bs} : qB (.slArrW len lo hi) (.ptr id off :: bs) KA = bounds lo hi len bs fun l h => KA (.bs id (off + l) (h - l)) := by cases bs <;> rfl
theorem qB_lenC {n args} : qB (.lenC n) args KA = KA (i64 n) := rfl
theorem qB_mkfn {f nf as} : qB (.mkfn f nf) as KA = KA (.fn f (as.take nf) (as.drop nf)) := rfl
theorem qB_build {zero places as} : qB (.build zero places) as KA = onSome (fillCells zero places as) fun cs => KA (.agg cs) := by cases as <;> rfl
theorem qB_bslice {size as} : qB (.bslice size) as KA = ((∀ x ∈ as, x.isVal = true ∧ x.cells.length = size) ∧ as.length * (size + 1) ≤ 16777216 ∧ KA (.sl size (as.map AV.strip) none)) := by cases as <;> rfl
theorem qB_max2 : qB .max2 [.imm (.int k i), .imm (.int k j)] KA = KA (.imm (.int k (max i j))) := by simp [qB, qsem, onInt]
theorem qB_min2 : qB .min2 [.imm (.int k i), .imm (.int k j)] KA = KA (.imm (.int k (min i j))) := by simp [qB, qsem, onInt]
theorem qB_mkiface {t v} : qB (.mkiface t) [.imm v] KA = KA (.imm (.iface t v)) := rfl
theorem fillCells_nil {cells : List AV} : fillCells cells [] [] = some cells := rfl
theorem fillCells_cons {cells : List AV} {off size : Nat} {ps : List (Nat × Nat)} {x : AV} {xs : List AV} : fillCells cells ((off, size) :: ps) (x :: xs) =
    if x.isVal = true ∧ x.cells.length = size ∧ off + size ≤ cells.length then fillCells (cells.take off ++ x.cells ++ cells.drop (off + size)) ps xs else none := rfl
theorem bytesOf_nil : bytesOf [] = some [] := rfl
theorem bytesOf_cons {r : List AV} {n : Int} : bytesOf (.imm (.int .u8 n) :: r) = (bytesOf r).map (UInt8.ofNat n.toNat :: ·) := rfl
theorem bounds_ff {n} {F : Nat → Nat → Prop} : bounds false false n [] F = F 0 n := rfl
theorem bounds_tf {n} {F : Nat → Nat → Prop} : bounds true false n [.imm (.int k i)] F = (0 ≤ i ∧ i ≤ n ∧ F i.toNat n) := rfl
theorem bounds_ft {n} {F : Nat → Nat → Prop} : bounds false true n [.imm (.int k i)] F = (0 ≤ i ∧ i ≤ n ∧ F 0 i.toNat) := rfl
theorem bounds_tt {n k'} {F : Nat → Nat → Prop} : bounds true true n [.imm (.int k i), .imm (.int k' j)] F = (0 ≤ i ∧ i ≤ j ∧ j ≤ n ∧ F i.toNat j.toNat) := rfl
theorem lsem_load1 {look} : lsem .load1 [x] look KA = behind x look fun cs off => onSome cs[off]? KA := rfl
theorem lsem_loadA {n look} : lsem (.loadA n) [x] look KA = behind x look fun cs off => (off + n ≤ cs.length ∧ KA (.agg ((cs.drop off).take n))) := rfl
theorem behind_r {cs off look} {F : List AV → Nat → Prop} : behind (.rptr cs off) look F = F cs off := rfl
theorem behind_p {id off look} {F : List AV → Nat → Prop} : behind (.ptr id off) look F = onBox (look id) fun cs => F cs off := rfl
theorem mB_eq {m id} : mB m args id H KO = (H[id]? = some .hole ∧ msem m args id fun r ob => KO r (H.set id ob)) := rfl
theorem msem_box {id} {F : AV → AObj → Prop} : msem .box [x] id F = (x.isVal = true ∧ F (.ptr id 0) (.box x.cells)) := rfl
theorem msem_alloc {zero one id} {F : AV → AObj → Prop} : msem (.alloc zero one) [] id F = F (.ptr id 0) (.box zero) := rfl
theorem msem_nilT {e size id} {F : AV → AObj → Prop} : msem (.nilT e size) [] id F = F (.sl size [] (some id)) (.tok e size 0) := rfl
theorem msem_bsl {e size id as} {F : AV → AObj → Prop} : msem (.bsliceO e size) as id F = (0 < size ∧ (∀ x ∈ as, x.isVal = true ∧ x.cells.length = size) ∧ as.length * (size + 1) ≤ 16777216 ∧ F (.sl size (as.map AV.strip) (some id)) (.tok e size as.length)) := by cases as <;> rfl
theorem msem_mkrow {e size bytes zero id} {F : AV → AObj → Prop} {n m : Int} : msem (.mkrow e size bytes zero) [i64 n, i64 m] id F = (m = n ∧ 0 ≤ n ∧ (bytes : Int) * n ≤ 281474976710656 ∧ n ≤ 9223372036854775807 ∧ 0 < size ∧ F (.rs id 0 size 0 n.toNat) (.row e size 0 (List.replicate n.toNat zero))) := rfl
theorem msem_mktok {e size bytes id} {F : AV → AObj → Prop} {n m : Int} : msem (.mktok e size bytes) [i64 n, i64 m] id F = (n = 0 ∧ 0 ≤ m ∧ (bytes : Int) * m ≤ 281474976710656 ∧ m ≤ 9223372036854775807 ∧ F (.sl size [] (some id)) (.tok e size 0)) := rfl
theorem esem_store {n id off} : esem (.store n) [.ptr id off, x] H KO = (x.isVal = true ∧ x.cells.length = n ∧ (match H[id]? with
    | some (.box cs) => off + n ≤ cs.length ∧ KO .junk (H.set id (.box (cs.take off ++ x.cells ++ cs.drop (off + n))))
    | _ => False)) := rfl
theorem lsem_mlook {ks zv ok id look} {k : AV} : lsem (.mlook ks zv ok) [.mp id, k] look KA = onMap (look id) fun ks' zv' es => (ks' = ks ∧ zv' = zv ∧ onSome (keyVal ks k) fun kv => KA (if ok = true then .tup [mval zv es kv, bool (mhas es kv)] else mval zv es kv)) := rfl
theorem lsem_mlen {id look} : lsem .mlen [.mp id] look KA = onMap (look id) fun _ _ es => KA (i64 es.length) := rfl
theorem msem_mkmap {ks zv id} {F : AV → AObj → Prop} : msem (.mkmap ks zv) [] id F = F (.mp id) (.map ks zv []) := rfl
theorem esem_mentry {ks zv id} {k : AV} : esem (.mentry ks zv) [.mp id, k] H KO = onMap H[id]? fun ks' zv' es => (ks' = ks ∧ zv' = zv ∧ onSome (keyVal ks k) fun kv => KO (.tup [mval zv es kv, i64 (mplace es kv)]) (H.set id (.map ks zv (mroom es kv)))) := rfl
theorem esem_mstore {ks zv id v} : esem (.mstore ks zv) [.mp id, .imm (.int k i), v] H KO = onMap H[id]? fun ks' zv' es => (ks' = ks ∧ zv' = zv ∧ v.isVal = true ∧ 0 ≤ i ∧ onSome es[i.toNat]? fun p => KO .junk (H.set id (.map ks zv (es.set i.toNat (p.1, some v))))) := rfl
theorem esem_mupd {ks zv id v} {k : AV} : esem (.mupd ks zv) [.mp id, k, v] H KO = onMap H[id]? fun ks' zv' es => (ks' = ks ∧ zv' = zv ∧ v.isVal = true ∧ onSome (keyVal ks k) fun kv => KO .junk (H.set id (.map ks zv (mput es kv (some v))))) := rfl
theorem onMap_map {a b c} {F : KShape → Value → List (Value × Option AV) → Prop} : onMap (some (.map a b c)) F = F a b c := rfl
theorem esem_storeR {n id ver size i} : esem (.store n) [.rp id ver size i, x] H KO = (x.isVal = true ∧ x.cells.length = n ∧ onRow H[id]? fun e sz' ver' xs => sz' = size ∧ size = n ∧ ver' = ver ∧ i < xs.length ∧ KO .junk (H.set id (.row e size ver (xs.set i x)))) := rfl
theorem esem_clear {zero id ver sz lo n} : esem (.clear zero) [.rs id ver sz lo n] H KO = (zero.isVal = true ∧ sz = zero.cells.length ∧ 0 < sz ∧ (n = 0 ∧ KO .junk H ∨ 0 < n ∧ onRow H[id]? fun e sz' ver' xs =>
      sz' = sz ∧ ver' = ver ∧ lo + n ≤ xs.length ∧ KO .junk (H.set id (.row e sz ver (xs.take lo ++ List.replicate n zero ++ xs.drop (lo + n)))))) := rfl
theorem onRow_row {a b c d} {F : TypeId → Nat → Nat → List AV → Prop} : onRow (some (.row a b c d)) F = F a b c d := rfl
theorem behind_rp {id ver size i look} {F : List AV → Nat → Prop} : behind (.rp id ver size i) look F = onRow (look id) fun _ sz ver' xs => sz = size ∧ ver' = ver ∧ onSome xs[i]? fun x => F x.cells 0 := rfl
theorem esem_append {e size bytes sz xs k sz' ys tok'} : esem (.append e size bytes) [.sl sz xs (some k), .sl sz' ys tok'] H KO = onTok H[k]? fun e' tsz n =>
      e' = e ∧ 0 < size ∧ tsz = size ∧ n = xs.length ∧ (sz = size ∨ xs = []) ∧ (sz' = size ∨ ys = []) ∧ (xs.length + ys.length) * bytes ≤ 140737488355328 ∧
        xs.length + ys.length ≤ 4611686018427387904 ∧ KO (.sl size (xs ++ ys) (some k)) (H.set k (.tok e size (xs.length + ys.length))) := rfl
theorem esem_appendR {e size bytes id ver sz lo n sz' ys tok'} : esem (.append e size bytes) [.rs id ver sz lo n, .sl sz' ys tok'] H KO = onRow H[id]? fun e' rsz ver' xs => e' = e ∧ 0 < size ∧ rsz = size ∧ sz = size ∧ ver' = ver ∧ lo = 0 ∧ n = xs.length ∧ (sz' = size ∨ ys = []) ∧
        (xs.length + ys.length) * bytes ≤ 140737488355328 ∧ xs.length + ys.length ≤ 4611686018427387904 ∧ KO (.rs id (ver + 1) size 0 (xs.length + ys.length)) (H.set id (.row e size (ver + 1) (xs ++ ys))) := rfl
theorem esem_copyR {size id ver sz lo n x} : esem (.copy size) [.rs id ver sz lo n, x] H KO = onSrc x fun sz' ys => sz = size ∧ 0 < size ∧ (sz' = size ∨ ys = []) ∧ (min ys.length n = 0 ∧ KO (i64 0) H ∨ 0 < min ys.length n ∧ onRow H[id]? fun e rsz ver' xs =>
      rsz = size ∧ ver' = ver ∧ lo + n ≤ xs.length ∧ KO (i64 (min ys.length n : Nat)) (H.set id (.row e size ver (xs.take lo ++ ys.take n ++ xs.drop (lo + min ys.length n))))) := rfl
theorem esem_copyB {size id off n x} : esem (.copy size) [.bs id off n, x] H KO = onSrc x fun sz' ys => size = 1 ∧ (sz' = 1 ∨ ys = []) ∧ (min ys.length n = 0 ∧ KO (i64 0) H ∨ 0 < min ys.length n ∧ (match H[id]? with
    | some (.box cs) => off + n ≤ cs.length ∧ KO (i64 (min ys.length n : Nat)) (H.set id (.box (cs.take off ++ (ys.take n).flatMap AV.cells ++ cs.drop (off + min ys.length n))))
    | _ => False)) := rfl
theorem onSrc_sl {sz ys tok} {F : Nat → List AV → Prop} : onSrc (.sl sz ys tok) F = F sz ys := rfl
theorem onSrc_str {l : List UInt8} {F : Nat → List AV → Prop} : onSrc (T l) F = F 1 (l.map byteAV) := rfl
theorem esem_mark {sz xs k} : esem .mark [.sl sz xs (some k)] H KO = onTok H[k]? fun _ _ n => n = xs.length ∧ 0 < n ∧ KO (.sl sz xs none) (H.set k .dead) := rfl
end rules
end
end Go.AL

/- Contracts of the library's shelf, as contracts on abstract values. -/
set_option linter.unusedSimpArgs false
set_option linter.unusedVariables false
namespace Go.AL
open Go Go.RowKit
section
variable {P : Program} {G : Nat → Option (List AV)}
theorem callsX_of_calls {f : FuncId} {fn : Func} {c : Code} (hf : P.funcs[f]? = some fn) (hb : fn.body = some c) (hn : (fn.name == "runtime.NumGoroutine") = false) {args : Array Value} {w : World} {v : Value} {R : World → Prop} {Q : Value → World → Prop}
    (h : Calls P f args w fun e w' => e = .returned v ∧ R w') (hQ : ∀ w', R w' → Q v w') : CallsX P f args w Q :=
  callsX_body hf hb hn (Calls.mono h fun e w' ⟨he, hr⟩ => by subst he; exact hQ w' hr)
theorem Rep.imm_inv' {E : Env} {w : World} {v u : Value} (h : Rep E w (.imm v) u) : u = v := by cases h; rfl
inductive Imms : List AV → List Value → Prop
  | nil : Imms [] []
  | cons {v as vs} : Imms as vs → Imms (.imm v :: as) (v :: vs)
theorem Imms.reps {E : Env} {w : World} {as : List AV} {vs us : List Value} (h : Imms as vs) : Reps E w as us → us = vs := by
  induction h generalizing us with
  | nil => intro h; cases h; rfl
  | cons h1 ih =>
    intro h; cases h with
    | cons _ _ _ _ h2 h3 => rw [h2.imm_inv', ih h3]
/-- A function of immediate values that answers an immediate value, and leaves what lay. -/
theorem pure_of_below {f : FuncId} {fn : Func} {c : Code} (hf : P.funcs[f]? = some fn) (hb : fn.body = some c) (hn : (fn.name == "runtime.NumGoroutine") = false) {as : List AV} {vs : List Value} {r : Value} (hr : r.oneCell' = true) (hv : Imms as vs)
    (h : ∀ (H : List AObj) lo E w, SimH G lo E H w → Calls P f vs.toArray w fun e w' => e = .returned r ∧ Below w.heap.size w w') : Pure P G f as (.imm r) := by
  intro H lo E w cargs hs ha
  obtain rfl := hv.reps ha
  refine callsX_of_calls hf hb hn (h H lo E w hs) fun w' hw' => ?_
  obtain ⟨k1, k2⟩ := hs.grow hw' (fun _ => False) (fun _ h => h.elim)
  exact ⟨_, .imm r hr, k1, k2⟩
theorem pure_of_same {f : FuncId} {fn : Func} {c : Code} (hf : P.funcs[f]? = some fn) (hb : fn.body = some c) (hn : (fn.name == "runtime.NumGoroutine") = false) {as : List AV} {vs : List Value} {r : Value} (hr : r.oneCell' = true) (hv : Imms as vs)
    (h : ∀ w, Calls P f vs.toArray w fun e w' => e = .returned r ∧ w' = w) : Pure P G f as (.imm r) :=
  pure_of_below hf hb hn hr hv fun H lo E w hs => (h w).mono fun e w' ⟨h1, h2⟩ => ⟨h1, h2 ▸ Below.refl _ _⟩
/-- What a global holds that is laid. -/
theorem SimH.cells {lo : Nat} {E : Env} {H : List AObj} {w : World} (h : SimH G lo E H w) {g : Nat} {cs : List AV} (hg : G g = some cs) {vs : List Value} (hv : Imms cs vs) : ∃ ty fz, w.heap[g]? = some (.cells vs.toArray ty fz) := by
  obtain ⟨us, h1, _, _, ty, fz, _, h5⟩ := h.glob g cs hg
  obtain rfl := hv.reps h1
  exact ⟨ty, fz, h5⟩
/-- A function that has just been called on abstract values, as the shelf would have it told of. -/
theorem calls_of_pure {f : FuncId} {fn : Func} {c : Code} (hf : P.funcs[f]? = some fn) (hb : fn.body = some c) (hn : (fn.name == "runtime.NumGoroutine") = false) {as : List AV} {vs : List Value} {r : Value} (hp : Pure P G f as (.imm r)) (hv : Imms as vs)
    {lo : Nat} {E : Env} {H : List AObj} {w : World} (hs : SimH G lo E H w) (hone : ∀ v ∈ vs, v.oneCell' = true) : Calls P f vs.toArray w fun e w' => e = .returned r ∧ Below lo w w' := by
  have hre : ∀ (as : List AV) (vs : List Value), Imms as vs → (∀ v ∈ vs, v.oneCell' = true) → Reps E w as vs := by
    intro as vs h
    induction h with
    | nil => intro _; exact .nil
    | cons h1 ih => intro ho; exact .cons _ _ _ _ (.imm _ (ho _ List.mem_cons_self)) (ih fun v hv => ho v (List.mem_cons_of_mem _ hv))
  have h := hp H lo E w vs hs (hre as vs hv hone)
  unfold CallsX at h
  have : (callFunc f vs.toArray).run P w = .ok (.enter f vs.toArray) w := by
    have hn' : ¬ fn.name = "runtime.NumGoroutine" := by simpa using hn
    simp [callFunc, hf, hn', hb]
  rw [this] at h
  refine Calls.mono h fun e w' he => ?_
  cases e with
  | returned v =>
    obtain ⟨E', h1, h2, h3⟩ := he
    exact ⟨by rw [h1.imm_inv'], h3.below⟩
  | panicked => exact he.elim
  | outgrown => exact he.elim
end
end Go.AL

/- Specifications of functions of texts and numbers; contracts that answer several values. -/
set_option linter.unusedSimpArgs false
set_option linter.unusedVariables false
namespace Go.AL
open Go Go.RowKit
def splitB (b : Bool) (K : AV → Prop) : Prop := (b = true → K (bool true)) ∧ (b = false → K (bool false))
theorem splitB_of {b : Bool} {K : AV → Prop} (h : splitB b K) : K (bool b) := by cases b; exact h.2 rfl; exact h.1 rfl
/-- One text; two; three. -/
def txt1 (pre : List UInt8 → Prop) (f : List UInt8 → AV) : PSp := fun args K => match args with
  | [.imm (.string a)] => pre a.data.toList ∧ K (f a.data.toList) | _ => False
def txt2 (pre : List UInt8 → List UInt8 → Prop) (f : List UInt8 → List UInt8 → AV) : PSp := fun args K => match args with
  | [.imm (.string a), .imm (.string b)] => pre a.data.toList b.data.toList ∧ K (f a.data.toList b.data.toList) | _ => False
def txt1b (pre : List UInt8 → Prop) (f : List UInt8 → Bool) : PSp := fun args K => match args with
  | [.imm (.string a)] => pre a.data.toList ∧ splitB (f a.data.toList) K | _ => False
def txt2b (pre : List UInt8 → List UInt8 → Prop) (f : List UInt8 → List UInt8 → Bool) : PSp := fun args K => match args with
  | [.imm (.string a), .imm (.string b)] => pre a.data.toList b.data.toList ∧ splitB (f a.data.toList b.data.toList) K | _ => False
/-- A number of 64 bits. -/
def num1 (pre : Int → Prop) (f : Int → AV) : PSp := fun args K => match args with
  | [.imm (.int .i64 a)] => pre a ∧ K (f a) | _ => False
/-- A number of 64 bits, beside one that is written. -/
def num1c (c : Int) (pre : Int → Prop) (f : Int → AV) : PSp := fun args K => match args with
  | [.imm (.int .i64 a), .imm (.int .i64 b)] => b = c ∧ pre a ∧ K (f a) | _ => False
/-- A text, beside one that is written. -/
def txt1c (c : List UInt8) (pre : List UInt8 → Prop) (f : List UInt8 → AV) : PSp := fun args K => match args with
  | [.imm (.string a), .imm (.string b)] => b = B c ∧ pre a.data.toList ∧ K (f a.data.toList) | _ => False
def txt1cb (c : List UInt8) (pre : List UInt8 → Prop) (f : List UInt8 → Bool) : PSp := fun args K => match args with
  | [.imm (.string a), .imm (.string b)] => b = B c ∧ pre a.data.toList ∧ splitB (f a.data.toList) K | _ => False
def splitT (x : AV) (b : Bool) (K : AV → Prop) : Prop := (b = true → K (.tup [x, bool true])) ∧ (b = false → K (.tup [x, bool false]))
theorem splitT_of {x : AV} {b : Bool} {K : AV → Prop} (h : splitT x b K) : K (.tup [x, bool b]) := by cases b; exact h.2 rfl; exact h.1 rfl
def txt2t (pre : List UInt8 → List UInt8 → Prop) (f : List UInt8 → List UInt8 → AV) (g : List UInt8 → List UInt8 → Bool) : PSp := fun args K => match args with
  | [.imm (.string a), .imm (.string b)] => pre a.data.toList b.data.toList ∧ splitT (f a.data.toList b.data.toList) (g a.data.toList b.data.toList) K | _ => False
/-- A byte. -/
def byte1b (pre : Int → Prop) (f : Int → Bool) : PSp := fun args K => match args with
  | [.imm (.int .u8 a)] => pre a ∧ splitB (f a) K | _ => False
/-- Nothing. -/
def none0 (r : AV) : PSp := fun args K => match args with | [] => K r | _ => False
section
variable {K : AV → Prop}
theorem ask_txt1 {pre f l} : ask (txt1 pre f) [T l] K = (pre l ∧ K (f l)) := rfl
theorem ask_txt2 {pre f l m} : ask (txt2 pre f) [T l, T m] K = (pre l m ∧ K (f l m)) := rfl
theorem ask_txt1b {pre f l} : ask (txt1b pre f) [T l] K = (pre l ∧ splitB (f l) K) := rfl
theorem ask_txt2b {pre f l m} : ask (txt2b pre f) [T l, T m] K = (pre l m ∧ splitB (f l m) K) := rfl
theorem ask_num1 {pre f n} : ask (num1 pre f) [i64 n] K = (pre n ∧ K (f n)) := rfl
theorem ask_num1c {c pre f n b} : ask (num1c c pre f) [i64 n, i64 b] K = (b = c ∧ pre n ∧ K (f n)) := rfl
theorem ask_txt1c {c pre f l m} : ask (txt1c c pre f) [T l, T m] K = (m = c ∧ pre l ∧ K (f l)) := by
  show (B m = B c ∧ _) = _; rw [B_inj]; rfl
theorem ask_txt1cb {c pre f l m} : ask (txt1cb c pre f) [T l, T m] K = (m = c ∧ pre l ∧ splitB (f l) K) := by
  show (B m = B c ∧ _) = _; rw [B_inj]; rfl
theorem ask_txt2t {pre f g l m} : ask (txt2t pre f g) [T l, T m] K = (pre l m ∧ splitT (f l m) (g l m) K) := rfl
theorem splitT_eq {x b} : splitT x b K = SplitP (b = true) (K (.tup [x, bool true])) (K (.tup [x, bool false])) := by cases b <;> simp [splitT, SplitP]
@[congr] theorem splitT_congr {x x' b b'} (h : x = x') (hb : b = b') : splitT x b K = splitT x' b' K := by rw [h, hb]
theorem ask_byte1b {pre f n} : ask (byte1b pre f) [.imm (.int .u8 n)] K = (pre n ∧ splitB (f n) K) := rfl
theorem ask_none0 {r} : ask (none0 r) [] K = K r := rfl
theorem splitB_eq {b} : splitB b K = SplitP (b = true) (K (bool true)) (K (bool false)) := by cases b <;> simp [splitB, SplitP]
@[congr] theorem splitB_congr {b b'} (h : b = b') : splitB b K = splitB b' K := by rw [h]
end
section
variable {P : Program} {G : Nat → Option (List AV)} {F : FuncId}
theorem told_txt1b {pre f} (h : ∀ l, pre l → Pure P G F [T l] (bool (f l))) : Told P G F (txt1b pre f) := by
  intro args K hk
  unfold txt1b at hk
  split at hk
  · exact ⟨_, h _ hk.1, splitB_of hk.2⟩
  · exact hk.elim
theorem told_num1 {pre f} (h : ∀ l, pre l → Pure P G F [i64 l] (f l)) : Told P G F (num1 pre f) := by
  intro args K hk
  unfold num1 at hk
  split at hk
  · exact ⟨_, h _ hk.1, hk.2⟩
  · exact hk.elim
theorem told_num1c {c pre f} (h : ∀ l, pre l → Pure P G F [i64 l, i64 c] (f l)) : Told P G F (num1c c pre f) := by
  intro args K hk
  unfold num1c at hk
  split at hk
  · obtain ⟨rfl, h1, h2⟩ := hk; exact ⟨_, h _ h1, h2⟩
  · exact hk.elim
theorem told_txt1c {c pre f} (h : ∀ l, pre l → Pure P G F [T l, T c] (f l)) : Told P G F (txt1c c pre f) := by
  intro args K hk
  unfold txt1c at hk
  split at hk
  · obtain ⟨rfl, h1, h2⟩ := hk; exact ⟨_, h _ h1, h2⟩
  · exact hk.elim
theorem told_txt1cb {c pre f} (h : ∀ l, pre l → Pure P G F [T l, T c] (bool (f l))) : Told P G F (txt1cb c pre f) := by
  intro args K hk
  unfold txt1cb at hk
  split at hk
  · obtain ⟨rfl, h1, h2⟩ := hk; exact ⟨_, h _ h1, splitB_of h2⟩
  · exact hk.elim
theorem told_txt2t {pre f g} (h : ∀ l m, pre l m → Pure P G F [T l, T m] (.tup [f l m, bool (g l m)])) : Told P G F (txt2t pre f g) := by
  intro args K hk
  unfold txt2t at hk
  split at hk
  · exact ⟨_, h _ _ hk.1, splitT_of hk.2⟩
  · exact hk.elim
theorem told_byte1b {pre f} (h : ∀ l, pre l → Pure P G F [.imm (.int .u8 l)] (bool (f l))) : Told P G F (byte1b pre f) := by
  intro args K hk
  unfold byte1b at hk
  split at hk
  · exact ⟨_, h _ hk.1, splitB_of hk.2⟩
  · exact hk.elim
theorem told_none0 {r} (h : Pure P G F [] r) : Told P G F (none0 r) := by
  intro args K hk
  unfold none0 at hk
  split at hk
  · exact ⟨_, h, hk⟩
  · exact hk.elim
theorem imms_reps {as : List AV} {vs : List Value} (h : Imms as vs) (ho : ∀ v ∈ vs, v.oneCell' = true) {E : Env} {w : World} : Reps E w as vs := by
  induction h with
  | nil => exact .nil
  | cons h1 ih => exact .cons _ _ _ _ (.imm _ (ho _ List.mem_cons_self)) (ih fun v hv => ho v (List.mem_cons_of_mem _ hv))
theorem lows_map {α : Type} (f : α → Value) : ∀ (l : List α), lows 0 (l.map fun x => AV.imm (f x))
  | [] => trivial
  | _ :: l => ⟨trivial, lows_map f l⟩
theorem pure_of_code' {S : Spec} (hm : P.follows .mixedOrders = true) (hG : ∀ g cs, G g = some cs → lows 0 cs) (hS : S.Holds P G) {f : FuncId} {own : List Nat} {ac : ACode} {res : List Nat} {nt : Nat} (hfn : IsFn P f own ac res nt) {args : List AV} {r : AV} (ts : List AV) (hts : args ++ List.replicate (nt - args.length) .junk = ts) (ha : lows 0 args) (hr : r.low 0)
    (h : codeB G S 0 ac (retB res r) ts []) : Pure P G f args r := by subst hts; exact pure_of_code hm hG hS hfn ha hr h
theorem weak_cut {n0 : Nat} {ts ts' : List AV} {H H' : List AObj} (n : Nat) (hn : n0 ≤ n) (hH : H' = H.take n) (hl : ∀ o ∈ H', o.low n) (h : WeakL n ts ts') : Weak n0 ⟨ts, H⟩ ⟨ts', H'⟩ := ⟨_, .inl rfl, n, hn, by subst hH; exact HeapEq.refl _, hl, h⟩
@[simp] theorem lows_mapT (n : Nat) : ∀ l : List (List UInt8), lows n (l.map T)
  | [] => trivial
  | _ :: l => ⟨trivial, lows_mapT n l⟩
@[simp] theorem lows_append' (n : Nat) (b : List AV) : ∀ a : List AV, lows n (a ++ b) ↔ lows n a ∧ lows n b
  | [] => by simp [lows]
  | x :: a => by simp only [List.cons_append, lows, lows_append' n b a, and_assoc]
@[simp] theorem lows_byteAV (n : Nat) : ∀ l : List UInt8, lows n (l.map byteAV)
  | [] => trivial
  | _ :: l => ⟨trivial, lows_byteAV n l⟩
theorem at'_nat (s : List UInt8) (i : Nat) : at' s i = ((s.getD i 0).toNat : Int) := rfl
theorem at'_eq {s : List UInt8} {i : Nat} (h : i < s.length) (b : UInt8) : at' s i = (b.toNat : Int) ↔ s[i]? = some b := by
  rw [at'_nat, List.getD_eq_getElem?_getD, List.getElem?_eq_getElem h]
  simp only [Option.getD_some, Option.some.injEq]
  constructor
  · intro h1; exact UInt8.toNat_inj.1 (by exact_mod_cast h1)
  · intro h1; rw [h1]
/-- As `pure_of_same`, of a function that answers several immediate values. -/
theorem pure_of_same_tup {f : FuncId} {fn : Func} {c : Code} (hf : P.funcs[f]? = some fn) (hb : fn.body = some c) (hn : (fn.name == "runtime.NumGoroutine") = false) {as rs : List AV} {vs us : List Value} (hu : Imms rs us) (ho : ∀ v ∈ us, v.oneCell' = true) (hv : Imms as vs)
    (h : ∀ w, Calls P f vs.toArray w fun e w' => e = .returned (.tuple us.toArray) ∧ w' = w) : Pure P G f as (.tup rs) := by
  intro H lo E w cargs hs ha
  obtain rfl := hv.reps ha
  refine callsX_of_calls hf hb hn (h w) fun w' hw' => ?_
  subst hw'
  exact ⟨E, .tup _ _ (imms_reps hu ho), hs, Evo.refl _ _ _⟩
end
end Go.AL
