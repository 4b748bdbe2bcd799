/- Functions whose results lie in boxes. -/
import Derived.Test.YtofokmpdioblkaaGreatDoorG12
set_option linter.unusedSimpArgs false
set_option linter.unusedVariables false
namespace Go.AL
open Go Go.RowKit
/-- How a result is read: a temporary; or what lies behind one. -/
abbrev RRes := Nat × Option (TypeId × LOp)
def rvar : RRes → ResultVar
  | (t, none) => .tmp t
  | (t, some (ty, _)) => .cell t ty
def ldOf (P : Program) (ty : TypeId) : Option LOp :=
  match P.underlying ty, szOf P ty with
  | some d, some n => some (if aggD d then .loadA n else .load1)
  | _, _ => none
def rOk (P : Program) : RRes → Bool
  | (_, none) => true
  | (_, some (ty, q)) => match ldOf P ty, q with
    | some (.loadA n), .loadA m => n == m
    | some .load1, .load1 => true
    | _, _ => false
def rvals : List RRes → List AV → List AObj → (List AV → Prop) → Prop
  | [], _, _, K => K []
  | (t, none) :: r, ts, H, K => rvals r ts H fun vs => K (getL ts t :: vs)
  | (t, some (_, q)) :: r, ts, H, K => lsem q [getL ts t] (fun id => H[id]?) fun v => rvals r ts H fun vs => K (v :: vs)
def collectR : List AV → AV
  | [v] => v
  | vs => .tup vs
section
variable {P : Program} {G : Nat → Option (List AV)} {lo : Nat} {E : Env} {H : List AObj} {w : World}
theorem res_load (hs : SimH G lo E H w) {x : AV} {v : Value} (hx : Rep E w x v) {ty : TypeId} {q : LOp} (hq : ldOf P ty = some q) {K : AV → Prop} (h : lsem q [x] (fun id => H[id]?) K) :
    ∃ a u, (do loadVar ty (← asAddr v) : Sem Value).run P w = .ok u w ∧ Rep E w a u ∧ K a := by
  unfold ldOf at hq
  split at hq
  · rename_i d n hu hsz
    obtain ⟨i, hi, rfl⟩ := szOf_some hsz
    cases hq
    by_cases hag : aggD d = true
    · rw [if_pos hag] at h
      obtain ⟨ad, cs, us, off, hv, ⟨h1, hK⟩, h2, h3, h4⟩ := behind_rep hs hx (fun id o ho => ho) h
      have hlen : us.length = cs.length := h2.length
      have hload := run_loadCells_list (P := P) w (ad.add off) ((us.drop off).take i.size) (fun j u hu => by
        have hj : j < i.size := by
          have := (List.getElem?_eq_some_iff.1 hu).1
          rw [List.length_take] at this
          omega
        rw [List.getElem?_take_of_lt hj, List.getElem?_drop] at hu
        rw [add_add]
        exact h4 _ u hu)
      rw [List.length_take, List.length_drop, Nat.min_eq_left (by omega)] at hload
      refine ⟨_, .agg ((us.drop off).take i.size).toArray, ?_, .agg _ _ ((h2.drop _).take _) fun u hu => h3 u (List.mem_of_mem_drop (List.mem_of_mem_take hu)), hK⟩
      cases d <;> simp [aggD] at hag <;> simp [hv, asAddr, loadVar, isAgg, run_underlying hu, sizeOf, typeInfo, hi, hload]
    · rw [if_neg hag] at h
      obtain ⟨ad, cs, us, off, hv, h1, h2, h3, h4⟩ := behind_rep hs hx (fun id o ho => ho) h
      obtain ⟨c, hcs, hK⟩ := onSome_inv h1
      obtain ⟨u, hu', hrep⟩ := h2.get _ _ hcs
      refine ⟨_, u, ?_, hrep, hK⟩
      have hcell := h4 _ _ hu'
      cases d <;> simp [aggD] at hag <;> simp [hv, asAddr, loadVar, isAgg, run_underlying hu, hcell]
  · cases hq
theorem rOk_ld {r : Nat} {ty : TypeId} {q : LOp} (h : rOk P (r, some (ty, q)) = true) : ldOf P ty = some q := by
  unfold rOk at h
  dsimp only at h
  split at h
  · rename_i n m e
    simp at h
    subst h
    exact e
  · rename_i e; exact e
  · cases h
theorem rvals_run (hs : SimH G lo E H w) {ts : List AV} {us : Array Value} (hr : Reps E w ts us.toList) : ∀ (res : List RRes), (∀ r ∈ res, rOk P r = true) → ∀ {K : List AV → Prop}, rvals res ts H K →
    ∃ as vs, ((res.map rvar).mapM (fun r : ResultVar => match r with | .tmp t => (pure (us.getD t undef) : Sem Value) | .cell a t => do loadVar t (← asAddr (us.getD a undef)))).run P w = .ok vs w ∧ Reps E w as vs ∧ K as
  | [], _, K, h => ⟨[], [], by simp, .nil, h⟩
  | (t, none) :: res, ho, K, h => by
    obtain ⟨as, vs, h1, h2, h3⟩ := rvals_run hs hr res (fun r hr => ho r (List.mem_cons_of_mem _ hr)) h
    have hg := getD_rep hr t
    refine ⟨_, us.getD t undef :: vs, ?_, .cons _ _ _ _ (by simpa [getL] using hg) h2, h3⟩
    rw [List.map_cons, List.mapM_cons]
    simp only [rvar, Sem.run_bind, Sem.run_pure, Result.andThen_ok, h1]
  | (t, some (ty, q)) :: res, ho, K, h => by
    have hg := getD_rep hr t
    have hg' : Rep E w (getL ts t) (us.getD t undef) := by simpa [getL] using hg
    obtain ⟨a, u, k1, k2, k3⟩ := res_load hs hg' (rOk_ld (ho _ List.mem_cons_self)) h
    obtain ⟨as, vs, h1, h2, h3⟩ := rvals_run hs hr res (fun r hr => ho r (List.mem_cons_of_mem _ hr)) k3
    refine ⟨a :: as, u :: vs, ?_, .cons _ _ _ _ k2 h2, h3⟩
    rw [List.map_cons, List.mapM_cons]
    simp only [rvar, Sem.run_bind, Sem.run_pure, Result.andThen_ok, h1]
    simp only [Sem.run_bind] at k1
    rw [k1]
    simp only [Result.andThen_ok, h1]
/-- Of a function: its code, how its results are read, and its temporaries. -/
structure IsFnC (P : Program) (f : FuncId) (own : List Nat) (ac : ACode) (res : List RRes) (nt : Nat) : Prop where
  ex : ∃ fn c, P.funcs[f]? = some fn ∧ fn.body = some c ∧ (fn.name == "runtime.NumGoroutine") = false ∧ comp P own c = some ac ∧ fn.results = (res.map rvar).toArray ∧ fn.ntmps = nt
  ok : ∀ r ∈ res, rOk P r = true
def retQC (res : List RRes) (n0 : Nat) (r : AV) (H' : List AObj) (e : Exit) (s : ASt) : Prop :=
  (e = .normal ∨ e = .ret) ∧ rvals res s.tmps s.H (fun vs => (collectR vs).stripR = r) ∧ r.low H'.length ∧ s.H.take H'.length = H' ∧ n0 ≤ H'.length ∧ ∀ o ∈ H', o.low H'.length
theorem results_runC (hs : SimH G lo E H w) {ts : List AV} {us : Array Value} (hr : Reps E w ts us.toList) {fn : Func} {res : List RRes} (hf : fn.results = (res.map rvar).toArray) (ho : ∀ r ∈ res, rOk P r = true) {K : List AV → Prop} (h : rvals res ts H K) :
    ∃ as v, (results fn us).run P w = .ok v w ∧ Rep E w (collectR as) v ∧ K as := by
  obtain ⟨as, vs, h1, h2, h3⟩ := rvals_run hs hr res ho h
  refine ⟨as, if h : vs.toArray.size = 1 then vs.toArray[0] else .tuple vs.toArray, ?_, ?_, h3⟩
  · unfold results
    rw [Sem.run_bind, hf, Array.mapM_eq_mapM_toList, Sem.run_map]
    exact (congrArg (fun r : Result (List Value) => (r.andThen fun a w' => Result.ok a.toArray w').andThen fun vs w' => (pure (if h : vs.size = 1 then vs[0] else .tuple vs) : Sem Value).run P w') h1).trans rfl
  · match as, vs, h2 with
    | [], [], _ => exact .tup _ _ .nil
    | [a], [v], .cons _ _ _ _ k _ => exact k
    | a :: b :: as, v :: u :: vs, k => simp only [collectR]; rw [dif_neg (by simp)]; exact .tup _ _ k
theorem ok_of_awpC (hm : P.follows .mixedOrders = true) (hG : ∀ g cs, G g = some cs → lows 0 cs) {f : FuncId} {own : List Nat} {ac : ACode} {res : List RRes} {nt : Nat} (hfn : IsFnC P f own ac res nt) {args : List AV} {H H' : List AObj} {r : AV}
    (h : awp P G H.length ac (retQC res H.length r H') ⟨args ++ List.replicate (nt - args.length) .junk, H⟩) : Ok P G f args H r H' := by
  intro lo E w cargs hs ha
  obtain ⟨fn, c, hf, hb, hn, hc, hr, hnt⟩ := hfn.ex
  refine callsX_body hf hb hn (calls_of_wp hf hb ?_)
  have hlen := ha.length
  have hsim : Sim G lo E ⟨args ++ List.replicate (nt - args.length) .junk, H⟩ { tmps := cargs.toArray ++ Array.replicate (fn.ntmps - cargs.toArray.size) undef, defers := [] } w := by
    refine ⟨hs, ?_, rfl⟩
    simp only [Array.toList_append, Array.toList_replicate, List.size_toArray]
    refine ha.append ?_
    rw [hlen, hnt]
    have : ∀ n, Reps E w (List.replicate n .junk) (List.replicate n undef) := by
      intro n
      induction n with
      | zero => exact .nil
      | succ n ih => exact .cons _ _ _ _ (.junk _) ih
    exact this _
  refine wp_mono (awp_sound hm hG (n0 := H.length) (E0 := E) (w0 := w) (fun k hk => hs.dom k hk) c ac hc _ _ E _ w h hsim (Evo.refl _ _ _)) fun e a' w' hq => ?_
  have fin : ∀ s E', retQC res H.length r H' e s → Sim G lo E' s a' w' → Evo lo E w E' w' → (e = .normal ∨ e = .ret) → bodyPost P fn (fun e w'' => match e with | .returned v => ∃ E', Rep E' w'' r v ∧ SimH G lo E' H' w'' ∧ Evo lo E w E' w'' | _ => False) e a' w' := by
    intro s E' h1 h2 h3 he
    obtain ⟨_, h4, h5, h6, h7, h8⟩ := h1
    obtain ⟨as, v, h9, hrep0, hk⟩ := results_runC h2.heap h2.tmps hr hfn.ok h4
    have hrep : Rep E' w' r v := by rw [← hk]; exact hrep0.stripR
    have hres : ∃ E', Rep E' w' r v ∧ SimH G lo E' H' w' ∧ Evo lo E w E' w' := by
      refine ⟨E'.cut H'.length, Rep.cut (E := E') (E' := E'.cut H'.length) (n := H'.length) (fun _ h => h) (fun k hk => if_pos hk) (fun k hk => if_pos hk) hrep h5, ?_, h3.cut h7 (fun k hk => hs.dom k hk)⟩
      have := h2.heap.cut hG H'.length (by rw [h6]; exact h8)
      rw [h6] at this
      exact this
    rcases he with rfl | rfl
    · exact ⟨h2.defers, _, h9, hres⟩
    · exact ⟨h2.defers, _, h9, hres⟩
  cases e with
  | normal => obtain ⟨s, E', h1, h2, h3⟩ := hq; exact fin s E' h1 h2 h3 (.inl rfl)
  | ret => obtain ⟨s, E', h1, h2, h3⟩ := hq; exact fin s E' h1 h2 h3 (.inr rfl)
  | exit id => obtain ⟨s, E', h1, h2, h3⟩ := hq; rcases h1.1 with h | h <;> cases h
  | goto l => obtain ⟨s, E', h1, h2, h3⟩ := hq; rcases h1.1 with h | h <;> cases h
  | panic c => exact hq.elim
  | outgrown => exact hq.elim
def retC (res : List RRes) (r : AV) (e : Exit) (ts : List AV) (H : List AObj) : Prop := (e = .normal ∨ e = .ret) ∧ rvals res ts H fun vs => (collectR vs).stripR = r
theorem pure_of_codeC {S : Spec} (hm : P.follows .mixedOrders = true) (hG : ∀ g cs, G g = some cs → lows 0 cs) (hS : S.Holds P G) {f : FuncId} {own : List Nat} {ac : ACode} {res : List RRes} {nt : Nat} (hfn : IsFnC P f own ac res nt) {args : List AV} {r : AV}
    (ts : List AV) (hts : args ++ List.replicate (nt - args.length) .junk = ts) (ha : lows 0 args) (hr : r.low 0) (h : codeB G S 0 ac (retC res r) ts []) : Pure P G f args r := by
  subst hts
  refine pure_of_ok hG ha hr (ok_of_awpC (H := []) (H' := []) hm hG hfn (awp_mono ac _ _ _ (fun e s h => ?_) (code_of hS ac _ _ _ h)))
  exact ⟨h.1, h.2, hr, by simp, Nat.le_refl _, fun o ho => by cases ho⟩
theorem retC_normal {res r ts} {H : List AObj} : retC res r .normal ts H = rvals res ts H fun vs => (collectR vs).stripR = r := by simp [retC]
theorem retC_ret {res r ts} {H : List AObj} : retC res r .ret ts H = rvals res ts H fun vs => (collectR vs).stripR = r := by simp [retC]
theorem rvals_nil {ts} {H : List AObj} {K} : rvals [] ts H K = K [] := rfl
theorem rvals_tmp {t r ts} {H : List AObj} {K} : rvals ((t, none) :: r) ts H K = rvals r ts H fun vs => K (getL ts t :: vs) := rfl
theorem rvals_cell {t ty q r ts} {H : List AObj} {K} : rvals ((t, some (ty, q)) :: r) ts H K = lsem q [getL ts t] (fun id => H[id]?) fun v => rvals r ts H fun vs => K (v :: vs) := rfl
theorem collect_one {v} : collectR [v] = v := rfl
theorem collect_two {v u l} : collectR (v :: u :: l) = .tup (v :: u :: l) := rfl
end
theorem RX : type_of% (And.intro @retC_normal <| And.intro @retC_ret <| And.intro @rvals_nil <| And.intro @rvals_tmp <| And.intro @rvals_cell <| And.intro @collect_one <| @collect_two) := And.intro @retC_normal <| And.intro @retC_ret <| And.intro @rvals_nil <| And.intro @rvals_tmp <| And.intro @rvals_cell <| And.intro @collect_one <| @collect_two
end Go.AL

/- Values lent for a call; functions that turn rows; rows cut short, and laid down for good. -/
set_option linter.unusedSimpArgs false
set_option linter.unusedVariables false
namespace Go.AL
open Go Go.RowKit
def lendP (off : Nat) : Option AObj → AV
  | some (.box cs) => .rptr cs off
  | some (.fbox cs) => .rptr cs off
  | _ => .junk
def lendR (ver size lo n : Nat) : Option AObj → AV
  | some (.row _ sz v xs) => if sz = size ∧ v = ver ∧ lo + n ≤ xs.length then .sl size ((xs.drop lo).take n) none else .junk
  | _ => .junk
/-- A value as it may be read while nobody writes: pointers to boxes are pointers to what is for good. -/
def lend1 (H : List AObj) : AV → AV
  | .ptr id off => lendP off H[id]?
  | .rs id ver size lo n => lendR ver size lo n H[id]?
  | a => a
def lendV (H : List AObj) : AV → AV
  | .fn f a b => .fn f (a.map (lend1 H)) (b.map (lend1 H))
  | a => lend1 H a
section
variable {P : Program} {G : Nat → Option (List AV)} {lo : Nat} {E : Env} {H : List AObj} {w : World}
/-- All that lies in the world is for good. -/
def Env.all (E : Env) (w : World) : Env := { I := fun a => a.block < w.heap.size, bx := fun _ => none, tk := fun _ => none }
theorem Rep.toAll (hs : SimH G lo E H w) {a : AV} {v : Value} (h : Rep E w a v) (hl : a.low 0) : Rep (E.all w) w a v :=
  Rep.cut (E := E) (E' := E.all w) (n := 0) (fun a ha => hs.inI a ha) (fun k hk => absurd hk (Nat.not_lt_zero k)) (fun k hk => absurd hk (Nat.not_lt_zero k)) h hl
theorem Reps.toAll (hs : SimH G lo E H w) {a : List AV} {v : List Value} (h : Reps E w a v) (hl : lows 0 a) : Reps (E.all w) w a v :=
  Reps.cut (E := E) (E' := E.all w) (n := 0) (fun a ha => hs.inI a ha) (fun k hk => absurd hk (Nat.not_lt_zero k)) (fun k hk => absurd hk (Nat.not_lt_zero k)) h hl
theorem SimH.toAll (hG : ∀ g cs, G g = some cs → lows 0 cs) (hs : SimH G lo E H w) : SimH G w.heap.size (E.all w) [] w := by
  refine ⟨Nat.le_refl _, fun a ha => ha, fun id o ho => by simp at ho, fun id _ => ⟨rfl, rfl⟩, fun i j b hi _ => by simp [Env.at, Env.all] at hi, fun g cs hg => ?_⟩
  obtain ⟨us, h1, h2, h3, ty, fz, h4, h5⟩ := hs.glob g cs hg
  exact ⟨us, h1.toAll hs (hG g cs hg), h2, fun j u hu => ⟨(h3 j u hu).1, hs.inI _ (h3 j u hu).2⟩, ty, fz, Nat.lt_of_lt_of_le h4 hs.lo_le, h5⟩
theorem lend1_rep (hs : SimH G lo E H w) {a : AV} {v : Value} (h : Rep E w a v) (hl : (lend1 H a).low 0) : Rep (E.all w) w (lend1 H a) v := by
  cases h with
  | ptr id off b hb =>
    simp only [lend1] at hl ⊢
    have key : ∀ cs, (∃ b ty us, E.bx id = some b ∧ w.heap[b]? = some (.cells (List.toArray us) ty (0, 0)) ∧ Reps E w cs us ∧ (∀ u ∈ us, u.oneCell' = true)) → lows 0 cs → Rep (E.all w) w (.rptr cs off) (.pointer (some ⟨b, off, none⟩)) := by
      rintro cs ⟨b', ty, us, e1, e2, e3, e4⟩ hc
      rw [hb] at e1
      cases e1
      have := Rep.rptr (E := E.all w) (w := w) cs off ⟨b, 0, none⟩ us (e3.toAll hs hc) e4 (fun j u hu => by
        rw [Addr.add_lit, Nat.zero_add]
        exact ⟨by rw [cell_of_row _ _ _ _ _ _ e2]; simpa using hu, heap_lt e2⟩)
      rw [Addr.add_lit, Nat.zero_add] at this
      exact this
    unfold lendP at hl ⊢
    split at hl
    · rename_i cs hH
      obtain ⟨b', ty, us, e1, e2, e3, e4, e5, e6, e7⟩ := hs.objs id _ hH
      exact key cs ⟨b', ty, us, e1, e4, e5, e6⟩ hl
    · rename_i cs hH
      obtain ⟨b', ty, us, e1, e2, e3, e4, e5, e6, e7⟩ := hs.objs id _ hH
      exact key cs ⟨b', ty, us, e1, e4, e5, e6⟩ hl
    · exact .junk _
  | rs id ver size lo0 n A cap h1 h2 h0 h3 =>
    simp only [lend1] at hl ⊢
    unfold lendR at hl ⊢
    split at hl
    · rename_i e sz v xs hH
      split at hl
      · rename_i hc
        obtain ⟨rfl, rfl, hn⟩ := hc
        simp only [true_and, and_self, hn, if_true]
        obtain ⟨B, e1, e2, e3⟩ := hs.objs id _ hH
        obtain ⟨m, b, k1, k2, k3⟩ := h3
        rw [e2] at k1
        cases k1
        have k4 := k3 rfl
        have hlen : ((xs.drop lo0).take n).length = n := by rw [List.length_take, List.length_drop]; omega
        have mk : ∀ us', (∀ x ∈ (xs.drop lo0).take n, x.cells.length = sz) → Reps (E.all w) w (((xs.drop lo0).take n).flatMap AV.cells) us' → (∀ u ∈ us', u.oneCell' = true) →
            (∀ j u, us'[j]? = some u → ∃ ad, A = some ad ∧ w.cell? (ad.add j) = some u ∧ (E.all w).I (ad.add j)) → Rep (E.all w) w (.sl sz ((xs.drop lo0).take n) none) (.slice A n cap) := by
          intro us' q1 q2 q3 q4
          have := Rep.sl (E := E.all w) (w := w) sz ((xs.drop lo0).take n) none A cap us' (by rw [hlen]; exact h1) h2 q1 q2 q3 q4 trivial
          rw [hlen] at this
          exact this
        cases B with
        | none =>
          have : cap = 0 := k4.1
          obtain rfl : n = 0 := by omega
          exact mk [] (fun x hx => by simp at hx) (by simpa using Reps.nil) (fun u hu => by cases hu) (fun j u hu => by simp at hu)
        | some p =>
          obtain ⟨g, c⟩ := p
          obtain ⟨_, k5⟩ := k4
          obtain ⟨h4, cur, us, h5, h6, h7, h8, h9, h9a, h10, h11, h12⟩ := e3
          refine mk ((us.drop (lo0 * sz)).take (n * sz)) (fun x hx => h9a x (List.mem_of_mem_drop (List.mem_of_mem_take hx))) ?_ (fun u hu => h10 u (List.mem_of_mem_drop (List.mem_of_mem_take hu))) (fun j u hu => ?_)
          · refine Reps.toAll hs ?_ (lows_flat hl.1)
            rw [flat_take _ _ (fun x hx => h9a x (List.mem_of_mem_drop hx)), flat_drop _ _ h9a]
            exact (h9.drop _).take _
          · have hj : j < n * sz := by
              have := (List.getElem?_eq_some_iff.1 hu).1
              rw [List.length_take] at this
              omega
            have hn0 : 0 < n := by
              rcases Nat.eq_zero_or_pos n with h | h
              · subst h; simp at hj
              · exact h
            rw [List.getElem?_take_of_lt hj, List.getElem?_drop] at hu
            refine ⟨_, k5 (.inl (by omega)), ?_, ?_⟩
            · rw [Addr.add_lit, cell_of_row _ _ _ _ _ _ h5]
              exact h11 _ u hu
            · rw [Addr.add_lit]; exact heap_lt h5
      · rename_i hc
        simp only [hc, if_false]
        exact .junk _
    · exact .junk _
  | imm v h => exact .imm v h
  | junk v => exact .junk v
  | agg cs us h h1 => exact (Rep.agg cs us h h1).toAll hs hl
  | tup cs us h => exact (Rep.tup cs us h).toAll hs hl
  | sl size xs tok A cap us h1 h2 h3 h4 h5 h6 h7 => exact (Rep.sl size xs tok A cap us h1 h2 h3 h4 h5 h6 h7).toAll hs hl
  | rptr cs off ad us h h1 h2 => exact (Rep.rptr cs off ad us h h1 h2).toAll hs hl
  | fn f first cap us vs h h1 => exact (Rep.fn f first cap us vs h h1).toAll hs hl
  | mp id b h => exact (Rep.mp id b h).toAll hs hl
  | bs id off n b A cap h h1 h2 h3 => exact (Rep.bs id off n b A cap h h1 h2 h3).toAll hs hl
  | rp id ver size i A h => exact (Rep.rp id ver size i A h).toAll hs hl
theorem lend1s_rep (hs : SimH G lo E H w) : ∀ {as : List AV} {vs : List Value}, Reps E w as vs → lows 0 (as.map (lend1 H)) → Reps (E.all w) w (as.map (lend1 H)) vs
  | _, _, .nil, _ => .nil
  | _, _, .cons a v as vs h h1, hl => .cons _ _ _ _ (lend1_rep hs h hl.1) (lend1s_rep hs h1 hl.2)
theorem lendV_rep (hs : SimH G lo E H w) {a : AV} {v : Value} (h : Rep E w a v) (hl : (lendV H a).low 0) : Rep (E.all w) w (lendV H a) v := by
  cases h with
  | fn f first cap us vs h h1 => exact .fn f _ _ us vs (lend1s_rep hs h hl.1) (lend1s_rep hs h1 hl.2)
  | ptr id off b hb => exact lend1_rep hs (.ptr id off b hb) hl
  | rs id ver size lo0 n A cap h1 h2 h0 h3 => exact lend1_rep hs (.rs id ver size lo0 n A cap h1 h2 h0 h3) hl
  | imm v h => exact .imm v h
  | junk v => exact .junk v
  | agg cs us h h1 => exact (Rep.agg cs us h h1).toAll hs hl
  | tup cs us h => exact (Rep.tup cs us h).toAll hs hl
  | sl size xs tok A cap us h1 h2 h3 h4 h5 h6 h7 => exact (Rep.sl size xs tok A cap us h1 h2 h3 h4 h5 h6 h7).toAll hs hl
  | rptr cs off ad us h h1 h2 => exact (Rep.rptr cs off ad us h h1 h2).toAll hs hl
  | mp id b h => exact (Rep.mp id b h).toAll hs hl
  | bs id off n b A cap h h1 h2 h3 => exact (Rep.bs id off n b A cap h h1 h2 h3).toAll hs hl
  | rp id ver size i A h => exact (Rep.rp id ver size i A h).toAll hs hl
theorem lendVs_rep (hs : SimH G lo E H w) : ∀ {as : List AV} {vs : List Value}, Reps E w as vs → lows 0 (as.map (lendV H)) → Reps (E.all w) w (as.map (lendV H)) vs
  | _, _, .nil, _ => .nil
  | _, _, .cons a v as vs h h1, hl => .cons _ _ _ _ (lendV_rep hs h hl.1) (lendVs_rep hs h1 hl.2)
/-- Of a function that turns boxes: its code, walked. -/
def retO (res : List Nat) (r : AV) (H' : List AObj) (e : Exit) (ts : List AV) (H : List AObj) : Prop := (e = .normal ∨ e = .ret) ∧ (ares res ts).stripR = r ∧ H.take H'.length = H'
theorem retO_normal {res r H' ts} : retO res r H' .normal ts H = ((ares res ts).stripR = r ∧ H.take H'.length = H') := by simp [retO]
theorem retO_ret {res r H' ts} : retO res r H' .ret ts H = ((ares res ts).stripR = r ∧ H.take H'.length = H') := by simp [retO]
theorem ok_of_code {S : Spec} (hm : P.follows .mixedOrders = true) (hG : ∀ g cs, G g = some cs → lows 0 cs) (hS : S.Holds P G) {f : FuncId} {own : List Nat} {ac : ACode} {res : List Nat} {nt : Nat} (hfn : IsFn P f own ac res nt) {args : List AV} {H' : List AObj} {r : AV}
    (ts : List AV) (hts : args ++ List.replicate (nt - args.length) .junk = ts) (hr : r.low H'.length) (hn : H.length ≤ H'.length) (hl : ∀ o ∈ H', o.low H'.length)
    (h : codeB G S H.length ac (retO res r H') ts H) : Ok P G f args H r H' := by
  subst hts
  exact ok_of_awp hm hG hfn (awp_mono ac _ _ _ (fun e s h => ⟨h.1, h.2.1, hr, h.2.2, hn, hl⟩) (code_of hS ac _ _ _ h))
theorem SimH.lt {id : Nat} {o : AObj} (h : H[id]? = some o) : id < H.length := (List.getElem?_eq_some_iff.1 h).1
/-- A row that nobody writes any more: what it holds is for good. -/
theorem ok_freeze {f : FuncId} {args : List AV} {H' : List AObj} {id : Nat} {e : TypeId} {sz ver lo0 n : Nat} {xs : List AV} (h : Ok P G f args H (.rs id ver sz lo0 n) H') (hH : H'[id]? = some (.row e sz ver xs)) (hn : lo0 + n ≤ xs.length) (hsz : 0 < sz) :
    Ok P G f args H (.sl sz ((xs.drop lo0).take n) none) (H'.set id .dead) := by
  intro lo E w cargs hs ha
  refine (h lo E w cargs hs ha).mono fun v w' ⟨E', h1, h2, h3⟩ => ?_
  obtain ⟨B, e1, e2, e3⟩ := h2.objs id _ hH
  have hlen : ((xs.drop lo0).take n).length = n := by rw [List.length_take, List.length_drop]; omega
  cases h1 with
  | rs _ _ _ _ _ A cap g1 g2 g0 g3 =>
    obtain ⟨m, b, k1, k2, k3⟩ := g3
    rw [e2] at k1
    cases k1
    have k4 := k3 rfl
    cases B with
    | none =>
      have : cap = 0 := k4.1
      obtain rfl : n = 0 := by omega
      obtain ⟨q1, q2⟩ := h2.turn (E' := E') (w' := w') (o' := .dead) (Below.refl _ _) (SimH.lt hH) (fun _ _ _ => rfl) (fun _ _ => rfl) (fun _ => rfl) (fun _ _ => rfl) (fun n b h => ⟨n, b, h, Nat.le_refl _, fun _ => rfl⟩) (fun _ h => h) (fun a ha => ⟨.inl ha, h2.inI a ha⟩) (fun b h => .inl h) (fun hE => ⟨_, none, e1, e2, fun g c h => by cases h⟩)
      refine ⟨E', ?_, q1, h3.trans q2⟩
      have := Rep.sl (E := E') (w := w') sz ((xs.drop lo0).take 0) none A cap [] (by simp) g2 (fun x hx => by simp at hx) (by simpa using Reps.nil) (fun u hu => by cases hu) (fun j u hu => by simp at hu) trivial
      simpa using this
    | some p =>
      obtain ⟨g, c⟩ := p
      obtain ⟨_, k5⟩ := k4
      obtain ⟨h4, cur, us, h5, h6, h7, h8, h9, h9a, h10, h11, h12⟩ := e3
      have hat : E'.at id = some g := by simp [Env.at, e1, e2]
      obtain ⟨q1, q2⟩ := h2.turn (E' := E'.more fun a => a.block = g) (w' := w') (o' := .dead) (Below.refl _ _) (SimH.lt hH) (fun _ _ _ => rfl) (fun _ _ => rfl) (fun _ => rfl) (fun _ _ => rfl) (fun n b h => ⟨n, b, h, Nat.le_refl _, fun _ => rfl⟩) (fun _ h => .inl h)
        (fun a ha => by
          rcases ha with ha | ha
          · exact ⟨.inl ha, h2.inI a ha⟩
          · exact ⟨.inr (.inl (by rw [hat, ha])), by rw [ha]; exact heap_lt h5⟩) (fun b h => .inl h) (fun hE => ⟨_, some (g, c), e1, e2, fun g' c' h => by cases h; exact ⟨h4, heap_lt h5⟩⟩)
      refine ⟨_, ?_, q1, h3.trans q2⟩
      have := Rep.sl (E := E'.more fun a => a.block = g) (w := w') sz ((xs.drop lo0).take n) none A cap ((us.drop (lo0 * sz)).take (n * sz)) (by rw [hlen]; exact g1) g2 (fun x hx => h9a x (List.mem_of_mem_drop (List.mem_of_mem_take hx)))
        (by
          rw [flat_take _ _ (fun x hx => h9a x (List.mem_of_mem_drop hx)), flat_drop _ _ h9a]
          exact ((h9.drop _).take _).mono q2) (fun u hu => h10 u (List.mem_of_mem_drop (List.mem_of_mem_take hu))) (fun j u hu => by
          have hj : j < n * sz := by
            have := (List.getElem?_eq_some_iff.1 hu).1
            rw [List.length_take] at this
            omega
          have hn0 : 0 < n := by
            rcases Nat.eq_zero_or_pos n with h | h
            · subst h; simp at hj
            · exact h
          rw [List.getElem?_take_of_lt hj, List.getElem?_drop] at hu
          refine ⟨_, k5 (.inl (by omega)), ?_, .inr ?_⟩
          · rw [Addr.add_lit, cell_of_row _ _ _ _ _ _ h5]; exact h11 _ u hu
          · rw [Addr.add_lit]) trivial
      rw [hlen] at this
      exact this
end
def RowH (H : List AObj) (id : Nat) (o : AObj) (L : List AObj) : List AObj := H.set id o ++ L
section
variable {H : List AObj} {id : Nat} {o : AObj} {L : List AObj}
theorem RowH_length : (RowH H id o L).length = H.length + L.length := by simp [RowH]
theorem RowH_id (h : id < H.length) : (RowH H id o L)[id]? = some o := by
  unfold RowH
  rw [List.getElem?_append_left (by simpa using h), List.getElem?_set_self h]
theorem RowH_setId (h : id < H.length) {x : AObj} : (RowH H id o L).set id x = RowH H id x L := by
  unfold RowH
  rw [List.set_append_left _ _ (by simpa using h), List.set_set]
theorem RowH_take : (RowH H id o L).take H.length = H.set id o := by
  unfold RowH
  rw [List.take_append_of_le_length (by simp), List.take_of_length_le (by simp)]
theorem RowH_nil : RowH H id o [] = H.set id o := by simp [RowH]
theorem RowH_self (h : H[id]? = some o) : H = RowH H id o [] := by
  rw [RowH_nil]
  apply List.ext_getElem?
  intro i
  by_cases e : i = id
  · subst e; rw [List.getElem?_set_self (SimH.lt h), h]
  · rw [List.getElem?_set_ne (Ne.symm e)]
end
end Go.AL

/- A copy of a slice, as a row of its own; and for good. -/
set_option linter.unusedSimpArgs false
set_option linter.unusedVariables false
namespace Go.AL
open Go Go.RowKit
section
variable {P : Program} {G : Nat → Option (List AV)}
def Env.ver (E : Env) (id ver : Nat) (B : Option (Nat × Nat)) : Env := { E with tk := fun i => if i = id then some (ver, B) else E.tk i }
/-- What is asked of the contract of slices.Clone at a type. -/
def ClonesAt (P : Program) (f : FuncId) (e : TypeId) (size bytes : Nat) : Prop :=
  (∀ n c w, Calls P f #[.slice none n c] w fun x w' => x = .returned (.slice none 0 0) ∧ w' = w) ∧
  ∀ (a : Addr) (n c : Nat) (news : List Value) (w : World), news.length = n * size → n ≤ maxLen → n * bytes ≤ 140737488355328 →
    (∀ j u, news[j]? = some u → w.cell? (a.add j) = some u) → (∀ u ∈ news, u.oneCell' = true) →
    Calls P f #[.slice (some a) n c] w fun x w' => ∃ v', x = .returned v' ∧ w'.ownsRow w.heap.size e size v' n news ∧ Below w.heap.size w w'
theorem Rep.sl_inv' {E : Env} {w : World} {size : Nat} {xs : List AV} {tok : Option Nat} {v : Value} (h : Rep E w (.sl size xs tok) v) : ∃ A cap us, v = .slice A xs.length cap ∧ xs.length ≤ cap ∧ cap ≤ maxLen ∧ (∀ x ∈ xs, x.cells.length = size) ∧
    Reps E w (xs.flatMap AV.cells) us ∧ (∀ u ∈ us, u.oneCell' = true) ∧ ∀ j u, us[j]? = some u → ∃ ad, A = some ad ∧ w.cell? (ad.add j) = some u ∧ E.I (ad.add j) := by
  cases h with
  | sl _ _ _ A cap us h1 h2 h3 h4 h5 h6 h7 => exact ⟨A, cap, us, rfl, h1, h2, h3, h4, h5, h6⟩
theorem ok_clone {f : FuncId} {fn : Func} {c : Code} (hf : P.funcs[f]? = some fn) (hb : fn.body = some c) (hn : (fn.name == "runtime.NumGoroutine") = false) {e : TypeId} {size bytes : Nat} (hsz : 0 < size) (hc : ClonesAt P f e size bytes)
    {xs : List AV} {tok : Option Nat} (hby : xs.length * bytes ≤ 140737488355328) (H : List AObj) : Ok P G f [.sl size xs tok] H (.rs H.length 0 size 0 xs.length) (H ++ [.row e size 0 xs]) := by
  intro lo E w cargs hs ha
  obtain ⟨v, vs, rfl, hv, hvs⟩ := ha.cons_inv
  obtain rfl := hvs.nil_inv
  obtain ⟨A, cap, us, rfl, h1, h2, h3, h4, h5, h6⟩ := hv.sl_inv'
  have hul : us.length = xs.length * size := by rw [h4.length, flat_length xs h3]
  have hpad := hs.pad 1
  have hid : (H ++ List.replicate 1 AObj.hole)[H.length]? = some .hole := by simp
  have hset : ∀ o : AObj, (H ++ List.replicate 1 AObj.hole).set H.length o = H ++ [o] := fun o => by
    rw [List.set_append_right _ _ (Nat.le_refl _)]; simp
  have hdom := hs.dom H.length (Nat.le_refl _)
  have hat : ∀ B b, (E.ver H.length 0 B).at H.length = some b → ∃ c, B = some (b, c) := by
    intro B b hb
    simp only [Env.at, Env.ver, hdom.1, if_true, Option.bind_some] at hb
    cases B with
    | none => simp at hb
    | some p => obtain ⟨g, c⟩ := p; simp at hb; subst hb; exact ⟨c, rfl⟩
  have fin : ∀ (B : Option (Nat × Nat)) w' v', Below w.heap.size w w' → (∀ g c, B = some (g, c) → w.heap.size ≤ g) →
      (Evo lo E w (E.ver H.length 0 B) w' → RowBlk (E.ver H.length 0 B) w' lo e size xs B) → (∃ A' cap', v' = .slice A' xs.length cap' ∧ xs.length ≤ cap' ∧ cap' ≤ maxLen ∧ (0 < cap' → ∃ a, A' = some a) ∧ InRow size 0 A' cap' B) →
      ∃ E', Rep E' w' (.rs H.length 0 size 0 xs.length) v' ∧ SimH G lo E' (H ++ [.row e size 0 xs]) w' ∧ Evo lo E w E' w' := by
    rintro B w' v' hB hg hrow ⟨A', cap', rfl, q1, q2, q3, q4⟩
    obtain ⟨k1, k2⟩ := hpad.fresh (E' := E.ver H.length 0 B) hB hid (.row e size 0 xs) (fun _ _ => rfl) (fun i hi => by simp [Env.ver, hi]) (fun _ h => h) (fun a ha => .inl ha)
      (fun b hb => by obtain ⟨c, rfl⟩ := hat B b hb; exact hg b c rfl) (fun hE => ⟨B, hdom.1, by simp [Env.ver], hrow hE⟩)
    rw [hset] at k1
    exact ⟨_, .rs _ _ _ _ _ _ _ q1 q2 q3 ⟨0, B, by simp [Env.ver], Nat.le_refl _, fun _ => q4⟩, k1, k2⟩
  have nilCase : xs = [] → ∀ w' v', Below w.heap.size w w' → (∃ A' cap', v' = .slice A' 0 cap' ∧ cap' = 0 ∧ A' = none) → ∃ E', Rep E' w' (.rs H.length 0 size 0 xs.length) v' ∧ SimH G lo E' (H ++ [.row e size 0 xs]) w' ∧ Evo lo E w E' w' := by
    rintro rfl w' v' hB ⟨A', cap', rfl, rfl, rfl⟩
    exact fin none w' _ hB (fun g c h => by cases h) (fun _ => rfl) ⟨none, 0, rfl, Nat.le_refl _, Nat.zero_le _, fun h => absurd h (Nat.lt_irrefl _), rfl, rfl⟩
  cases A with
  | none =>
    have hus : us = [] := by
      cases us with
      | nil => rfl
      | cons u us => obtain ⟨ad, h, _⟩ := h6 0 u rfl; cases h
    have hxs : xs = [] := by
      subst hus
      rcases Nat.eq_zero_or_pos xs.length with h | h
      · exact List.length_eq_zero_iff.1 h
      · have := Nat.mul_pos h hsz; simp at hul; omega
    exact callsX_body hf hb hn ((hc.1 xs.length cap w).mono fun x w' ⟨hx, hw⟩ => by subst hx; subst hw; exact nilCase hxs w' _ (Below.refl _ _) ⟨none, 0, rfl, rfl, rfl⟩)
  | some a =>
    refine callsX_body hf hb hn ((hc.2 a xs.length cap us w hul (by unfold maxLen at *; omega) hby (fun j u hu => by
      obtain ⟨ad, e1, e2, _⟩ := h6 j u hu
      cases e1
      exact e2) h5).mono fun x w' ⟨v', hx, hown, hB⟩ => ?_)
    subst hx
    obtain ⟨_, ⟨rfl, hz⟩ | ⟨g, cap', cur, rfl, g1, g2, g3, g4, g5, g6⟩⟩ := hown
    · exact nilCase (List.length_eq_zero_iff.1 hz) w' _ hB ⟨none, 0, rfl, rfl, rfl⟩
    · refine fin (some (g, cap')) w' _ hB (fun g' c' h => by cases h; exact g1) (fun hE => ⟨Nat.le_trans hs.lo_le g1, cur, us, g2, g5, g3, g4, h4.mono hE, h3, h5, fun j u hu => ?_, fun a ha he => ?_⟩) ⟨_, cap', rfl, g3, g4, fun _ => ⟨_, rfl⟩, by simp, fun _ => by simp⟩
      · have hj := (List.getElem?_eq_some_iff.1 hu).1
        rw [← g6, List.getElem?_take_of_lt (by rw [← hul]; exact hj)] at hu
        simpa using hu
      · have := hs.inI a ha; omega
theorem pure_clone (hG : ∀ g cs, G g = some cs → lows 0 cs) {f : FuncId} {fn : Func} {c : Code} (hf : P.funcs[f]? = some fn) (hb : fn.body = some c) (hn : (fn.name == "runtime.NumGoroutine") = false) {e : TypeId} {size bytes : Nat} (hsz : 0 < size) (hc : ClonesAt P f e size bytes)
    {xs : List AV} (hby : xs.length * bytes ≤ 140737488355328) (hl : lows 0 xs) : Pure P G f [.sl size xs none] (.sl size xs none) := by
  have h := ok_clone (G := G) hf hb hn hsz hc (xs := xs) (tok := none) hby []
  have h2 := ok_freeze (id := 0) (e := e) (ver := 0) (xs := xs) h (by simp) (by simp) hsz
  simp only [List.drop_zero, List.take_length] at h2
  exact pure_of_ok hG ⟨⟨hl, fun k hk => by cases hk⟩, trivial⟩ ⟨hl, fun k hk => by cases hk⟩ h2
end
end Go.AL
