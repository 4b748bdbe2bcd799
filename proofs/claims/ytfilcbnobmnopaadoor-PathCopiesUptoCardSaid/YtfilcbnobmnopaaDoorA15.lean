/- One operation, concretely. -/
import Derived.Test.YtfilcbnobmnopaaDoorA14
set_option linter.unusedSimpArgs false
set_option linter.unusedVariables false
namespace Go.AL
open Go Go.RowKit

structure Sim (G : Nat → Option (List AV)) (lo : Nat) (E : Env) (s : ASt) (a : Act) (w : World) : Prop where
  heap : SimH G lo E s.H w
  tmps : Reps E w s.tmps a.tmps.toList
  defers : a.defers = []

section
variable {P : Program} {G : Nat → Option (List AV)} {lo : Nat} {E : Env} {w : World}

theorem const_rep {v : Value} (h : constOk v = true) : Rep E w (constAV v) v := by
  obtain ⟨h1, h2⟩ := zero_rep (E := E) (w := w) h
  cases v with
  | agg cs =>
    have := Rep.agg _ _ h1 h2
    simpa [constAV, AV.cells, Value.cells] using this
  | tuple vs => simp [constOk] at h
  | slice a n m =>
    simp only [constAV, Value.cells] at h1 ⊢
    have e : (cellAV (.slice a n m)).cells = [cellAV (.slice a n m)] := by unfold cellAV; split <;> simp_all [AV.cells]
    rw [e] at h1
    obtain ⟨x, e1, hx⟩ := reps_1 (by simpa using h1)
    simp at e1
    rw [e1]
    exact hx
  | _ => exact .imm _ rfl

theorem opd_rep {s : ASt} {a : Act} (hs : Sim G lo E s a w) {x : Operand} {y : AOpd} (h : copd x = some y) : Rep E w (aeval G s.tmps y) (a.eval x) := by
  cases x with
  | tmp t =>
    simp only [copd, Option.some.injEq] at h
    subst h
    simp only [aeval, Act.eval]
    rcases Nat.lt_or_ge t s.tmps.length with hl | hl
    · obtain ⟨v, hv, hr⟩ := hs.tmps.get t _ (List.getElem?_eq_getElem hl)
      rw [List.getD_eq_getElem?_getD, List.getElem?_eq_getElem hl]
      have : a.tmps.getD t undef = v := by
        rw [Array.getD_eq_getD_getElem?, ← Array.getElem?_toList, hv]
        rfl
      rw [this]
      exact hr
    · rw [List.getD_eq_getElem?_getD, List.getElem?_eq_none hl]
      exact .junk _
  | const v =>
    simp only [copd] at h
    split at h
    · rename_i hok
      cases h
      exact const_rep hok
    · cases h
  | global g =>
    simp only [copd, Option.some.injEq] at h
    subst h
    simp only [aeval, Act.eval]
    cases hg : G g with
    | none => exact .junk _
    | some cs =>
      obtain ⟨us, h1, h2, h3, _⟩ := hs.heap.glob g cs hg
      have := Rep.rptr (E := E) (w := w) cs 0 ⟨g, 0, none⟩ us h1 h2 (fun j u hu => by rw [Addr.add_lit, Nat.zero_add]; exact h3 j u hu)
      rw [Addr.add_zero'] at this
      exact this
  | func f =>
    simp only [copd, Option.some.injEq] at h
    subst h
    exact .fn _ [] [] [] [] .nil .nil

theorem args_rep {s : ASt} {a : Act} (hs : Sim G lo E s a w) : ∀ {xs : List Operand} {ys : List AOpd}, copds xs = some ys → Reps E w (ys.map (aeval G s.tmps)) (xs.map a.eval)
  | [], ys, h => by simp [copds] at h; subst h; exact .nil
  | x :: xs, ys, h => by
    simp only [copds, List.mapM_cons, Option.bind_eq_bind, Option.pure_def, Option.bind_eq_some_iff, Option.some.injEq] at h
    obtain ⟨y, h1, ys', h2, rfl⟩ := h
    exact .cons _ _ _ _ (opd_rep hs h1) (args_rep hs h2)

theorem Sim.put {s : ASt} {a : Act} {E' : Env} {w' : World} {H' : List AObj} (hs : Sim G lo E s a w) (hE : Evo lo E w E' w') (hH : SimH G lo E' H' w') {r : AV} {v : Value} (hr : Rep E' w' r v) (d : Option Nat) :
    Sim G lo E' (ASt.put ⟨s.tmps, H'⟩ d r) (a.put d v) w' := by
  cases d with
  | none => exact ⟨hH, hs.tmps.mono hE, hs.defers⟩
  | some d =>
    refine ⟨hH, ?_, hs.defers⟩
    simp only [ASt.put, Act.put, Array.toList_setIfInBounds]
    exact Reps.set hr d (hs.tmps.mono hE)

theorem call_inv {own : Bool} {slot : Nat} {o : Oper} {pin : Bool} {xs : List Operand} (hc : compOp P own o slot = some (.call pin, xs)) : pin = false ∧ ∃ f args ts, o.op = .call ⟨.value f, args, ts⟩ ∧ xs = f :: args.toList := by
  obtain ⟨dst, op, type, pos, after, guard⟩ := o
  cases op with
  | load t x =>
    simp only [compOp] at hc
    split at hc
    · split at hc <;> simp at hc
    · cases hc
  | move => simp [compOp] at hc
  | assign x =>
    simp only [compOp] at hc
    split at hc
    · simp only [Option.bind_eq_some_iff] at hc
      obtain ⟨n, _, hc⟩ := hc
      split at hc <;> simp at hc
    · simp at hc
  | pick => simp [compOp] at hc
  | alloc e =>
    simp only [compOp, Option.bind_eq_some_iff] at hc
    obtain ⟨i, _, z, _, hc⟩ := hc
    split at hc <;> simp at hc
  | box => simp [compOp] at hc
  | build t parts =>
    simp only [compOp] at hc
    split at hc
    · simp only [Option.bind_eq_some_iff] at hc
      obtain ⟨_, _, _, _, _, _, _, _, hc⟩ := hc
      split at hc <;> simp at hc
    · simp only [Option.bind_eq_some_iff] at hc
      obtain ⟨_, _, _, _, _, _, hc⟩ := hc
      split at hc <;> simp at hc
    · cases hc
  | buildSlice t len parts =>
    simp only [compOp] at hc
    split at hc
    · simp only [Option.bind_eq_some_iff] at hc
      obtain ⟨_, _, _, _, hc⟩ := hc
      split at hc
      · split at hc <;> simp at hc
      · cases hc
    · cases hc
  | store => simp [compOp, Option.map_eq_some_iff] at hc
  | nilCheck => simp [compOp] at hc
  | binOp op t x y yt =>
    simp only [compOp] at hc
    split at hc
    · split at hc <;> simp at hc
    · split at hc <;> simp at hc
    · simp at hc
  | unOp => simp [compOp] at hc
  | convert src dst x =>
    simp only [compOp] at hc
    split at hc
    · simp at hc
    · split at hc <;> simp at hc
    · simp at hc
    · simp at hc
    · split at hc <;> simp at hc
    · simp at hc
  | sliceToArrayPointer => simp only [compOp] at hc; split at hc <;> simp at hc
  | makeInterface => simp only [compOp] at hc; split at hc <;> simp at hc
  | makeFunc => simp [compOp] at hc
  | fieldAddr =>
    simp only [compOp] at hc
    split at hc
    · simp only [Option.bind_eq_some_iff] at hc
      obtain ⟨_, _, _, _, hc⟩ := hc
      split at hc <;> simp at hc
    · cases hc
  | field =>
    simp only [compOp] at hc
    split at hc
    · simp only [Option.bind_eq_some_iff, Option.map_eq_some_iff] at hc
      obtain ⟨_, _, _, _, _, _, hc⟩ := hc
      split at hc <;> simp at hc
    · cases hc
  | indexAddr =>
    simp only [compOp] at hc
    split at hc
    · simp only [Option.bind_eq_some_iff] at hc
      obtain ⟨_, _, hc⟩ := hc
      split at hc <;> simp at hc
    · simp [Option.map_eq_some_iff] at hc
    · cases hc
  | index =>
    simp only [compOp] at hc
    split at hc
    · simp at hc
    · simp only [Option.bind_eq_some_iff] at hc
      obtain ⟨_, _, _, _, hc⟩ := hc
      split at hc
      · simp at hc
      · split at hc <;> simp at hc
    · cases hc
  | slice =>
    simp only [compOp] at hc
    split at hc
    · split at hc <;> simp at hc
    · simp [Option.map_eq_some_iff] at hc
    · split at hc
      · cases hc
      · split at hc <;> simp at hc
    · cases hc
  | extract => simp [compOp] at hc
  | call c =>
    obtain ⟨callee, args, argTypes⟩ := c
    simp only [compOp] at hc
    split at hc
    · simp only [Option.some.injEq, Prod.mk.injEq, Cls.call.injEq] at hc
      obtain ⟨rfl, rfl⟩ := hc
      exact ⟨rfl, _, _, _, rfl, rfl⟩
    · split at hc
      · split at hc
        · simp at hc
        · simp at hc
        · simp at hc
        · split at hc <;> simp at hc
        · cases hc
      · cases hc
    · split at hc
      · split at hc
        · simp only [Option.bind_eq_some_iff] at hc
          obtain ⟨_, _, _, _, hc⟩ := hc
          split at hc <;> simp at hc
        · cases hc
      · cases hc
    · split at hc <;> simp at hc
    · split at hc <;> simp at hc
    · cases hc
  | _ => simp [compOp] at hc


theorem call_upon {o : Oper} {a : Act} {f : FuncId} {args : Array Value} {R : Value → World → Prop} {K : Act → World → Prop} {Q : Exit → Act → World → Prop} (h : CallsX P f args w R) (hK : ∀ v w', R v w' → K (a.put o.dst v) w') :
    o.upon P a K Q ((callFunc f args).run P w) := by
  unfold CallsX at h
  split at h
  · rename_i f' args' w' e
    rw [e, Oper.upon_enter]
    refine h.mono fun e w'' he => ?_
    cases e with
    | returned v => exact hK v w'' he
    | panicked => exact he.elim
    | outgrown => exact he.elim
  · rename_i v w' e
    rw [e, Oper.upon_value]
    exact hK v w' h
  · exact h.elim

/-- An abstract operation is the compiled one, but that a call may be one that turns boxes. -/
theorem compOp1_inv {own : Bool} {o : Oper} {slot : Nat} {c : Cls} {xs : List Operand} (h : compOp1 P own o slot = some (c, xs)) : compOp P own o slot = some (c, xs) ∨ (c = .q .stuck ∧ xs = []) := by
  unfold compOp1 at h
  split at h
  · rename_i c' xs' e
    split at h
    · exact .inl (e.trans h)
    · simp only [Option.some.injEq, Prod.mk.injEq] at h; exact .inr ⟨h.1.symm, h.2.symm⟩
  · simp only [Option.some.injEq, Prod.mk.injEq] at h; exact .inr ⟨h.1.symm, h.2.symm⟩

def Cls.fits (c c' : Cls) : Prop := c' = c ∨ (c = .call false ∧ ∃ p, c' = .call p)

theorem op_sound {draw : Bool} {base : Nat} {own : Bool} {ops : Array Oper} {slot i : Nat} {o : Oper} {ao : AOper} {c : Cls} {xs : List Operand} (ho : ops[i]? = some o) (hc1 : compOp1 P own o slot = some (c, xs)) (hfit : c.fits ao.cls)
    (hargs : copds xs = some ao.args) (hg : guardOf ops o = some ao.guard) (hdst : ao.dst = o.dst) {s s1 : ASt} {a : Act} (hs : Sim G lo E s a w) (h : astep P G draw base ao s (· = s1))
    {K : Act → World → Prop} {Q : Exit → Act → World → Prop} (hK : ∀ a' w' E', Sim G lo E' s1 a' w' → Evo lo E w E' w' → K a' w') : wpOp P ops Q i K a w := by
  have hrep := args_rep hs hargs
  -- the operation itself
  have main : core P G draw base ao.cls (ao.args.map (aeval G s.tmps)) s.H (fun p => ASt.put ⟨s.tmps, p.2⟩ ao.dst p.1 = s1) → o.wp P a w K Q := by
    intro h
    rcases compOp1_inv hc1 with hc | ⟨rfl, rfl⟩
    case inr =>
      rcases hfit with e | ⟨e, _⟩
      · rw [e] at h; exact h.elim
      · cases e
    have fin : ∀ r H' nx v w' E', (execOp a.eval o).run P w = .ok nx w' → (nx = .value v ∨ nx = .skip ∧ v = undef) → ASt.put ⟨s.tmps, H'⟩ ao.dst r = s1 → Rep E' w' r v → SimH G lo E' H' w' → Evo lo E w E' w' → o.wp P a w K Q := by
      intro r H' nx v w' E' h1 h2 h3 h4 h5 h6
      unfold Oper.wp
      rw [h1]
      rcases h2 with rfl | ⟨rfl, rfl⟩
      · rw [Oper.upon_value, ← hdst]
        exact hK _ _ E' (by rw [← h3]; exact hs.put h6 h5 h4 _) h6
      · rw [Oper.upon_skip, ← hdst]
        exact hK _ _ E' (by rw [← h3]; exact hs.put h6 h5 h4 _) h6
    have callcase : ∀ p, ao.cls = .call p → compOp P own o slot = some (.call false, xs) → o.wp P a w K Q := by
      intro p hcls hc
      obtain ⟨_, f, args, ts, hop, rfl⟩ := call_inv hc
      rw [hcls] at h
      obtain ⟨fa, rest, e1, h⟩ := onCons_inv h
      obtain ⟨fid, first, cap, rfl, h⟩ := onFn_inv h
      rw [e1] at hrep
      rw [List.map_cons] at hrep
      cases hrep with
      | cons _ _ _ _ hf hrest =>
        generalize hfv : a.eval f = fv at hf
        cases hf with
        | fn _ _ _ us vs hus hvs =>
          have hall := (hus.append hrest).append hvs
          have hrun : (execOp a.eval o).run P w = (callFunc fid (us ++ args.toList.map a.eval ++ vs).toArray).run P w := by
            obtain ⟨dst, op, type, pos, after, guard⟩ := o
            simp only at hop
            subst hop
            have e2 : (us.toArray ++ args.map a.eval) ++ vs.toArray = (us ++ args.toList.map a.eval ++ vs).toArray := by
              apply Array.ext'; simp
            simp only [execOp, resolve, hfv, Deferred.ofValue, Sem.run_bind, Sem.run_pure, Result.andThen_ok, invoke]
            rw [e2]
          unfold Oper.wp
          rw [hrun]
          rcases h with ⟨r, hp, hs1⟩ | ⟨_, r, H', hp, hs1⟩
          · have hx := hp s.H lo E w _ hs.heap hall.strip
            refine call_upon hx fun v w' ⟨E', k1, k2, k3⟩ => ?_
            rw [← hdst]
            exact hK _ _ E' (by rw [← hs1]; exact hs.put k3 k2 k1 _) k3
          · have hx := hp lo E w _ hs.heap hall
            refine call_upon hx fun v w' ⟨E', k1, k2, k3⟩ => ?_
            rw [← hdst]
            exact hK _ _ E' (by rw [← hs1]; exact hs.put k3 k2 k1 _) k3
    rcases hfit with hcls | ⟨rfl, p, hcls⟩
    · cases c with
      | q q =>
        rw [hcls] at h
        obtain ⟨r, v, w', E', h1, h2, h3, h4, h5⟩ := q_sound hc hs.heap hrep (show qsem q _ fun r => ASt.put ⟨s.tmps, s.H⟩ ao.dst r = s1 from h)
        exact fin r s.H _ v w' E' h1 (.inl rfl) h2 h3 h4 h5
      | l l =>
        rw [hcls] at h
        obtain ⟨r, v, w', E', h1, h2, h3, h4, h5⟩ := l_sound hc hs.heap hrep (look := lookIn draw base s.H) (fun id ob hl => by unfold lookIn at hl; split at hl <;> simp_all) (show lsem l _ _ fun r => ASt.put ⟨s.tmps, s.H⟩ ao.dst r = s1 from h)
        exact fin r s.H _ v w' E' h1 (.inl rfl) h2 h3 h4 h5
      | m m slot' =>
        rw [hcls] at h
        obtain ⟨h0, h⟩ := h
        obtain ⟨r, ob, v, w', E', h1, h2, h3, h4, h5⟩ := m_sound hc hs.heap h0 (fun _ => rfl) hrep h
        exact fin r _ _ v w' E' h1 (.inl rfl) h2 h3 h4 h5
      | e e =>
        rw [hcls] at h
        obtain ⟨r, H', nx, v, w', E', h1, h2, h3, h4, h5, h6⟩ := e_sound hc hs.heap hrep (show esem e _ s.H fun r H' => ASt.put ⟨s.tmps, H'⟩ ao.dst r = s1 from h)
        exact fin r H' nx v w' E' h1 h2 h3 h4 h5 h6
      | call pin =>
        obtain ⟨rfl, _⟩ := call_inv hc
        exact callcase _ hcls hc
    · exact callcase _ hcls hc
  unfold wpOp
  rw [ho]
  simp only
  unfold astep at h
  unfold guardOf at hg
  cases hgd : o.guard with
  | none =>
    rw [hgd] at hg
    simp only [Option.some.injEq] at hg
    rw [← hg] at h
    have hw : Region.wanted o (yielded ops a.tmps) = true := by simp [Region.wanted, hgd]
    rw [if_pos hw]
    exact .inl (main h)
  | some p =>
    obtain ⟨j, want⟩ := p
    rw [hgd] at hg
    simp only [Option.map_eq_some_iff] at hg
    obtain ⟨t, ht, hg⟩ := hg
    rw [← hg] at h
    obtain ⟨b, hb, h1, h2⟩ := onGuard_inv h
    have htl : t < s.tmps.length := by
      rcases Nat.lt_or_ge t s.tmps.length with hl | hl
      · exact hl
      · rw [List.getD_eq_getElem?_getD, List.getElem?_eq_none hl] at hb; cases hb
    have htv : s.tmps[t]? = some (s.tmps.getD t .junk) := by
      rw [List.getD_eq_getElem?_getD, List.getElem?_eq_getElem htl]; rfl
    obtain ⟨v, hv, hr⟩ := hs.tmps.get t _ htv
    have hy : yielded ops a.tmps j = b := by
      unfold yielded
      rw [ht]
      simp only [Option.bind_some]
      rw [← Array.getElem?_toList, hv]
      rcases guardVal_cases hb with ⟨c, hc, rfl⟩ | ⟨hc, rfl⟩
      · rw [hc] at hr; cases hr.imm_inv; rfl
      · rw [hc] at hr
        cases hr with
        | tup cs us h => cases h; rfl
    have hw : Region.wanted o (yielded ops a.tmps) = (b == some want) := by
      simp only [Region.wanted, hgd, hy]
    by_cases hbw : b = some want
    · rw [if_pos (by rw [hw]; simpa using hbw)]
      exact .inl (main (h1 hbw))
    · rw [if_neg (by rw [hw]; simpa using hbw), ← hdst]
      refine hK _ _ E ?_ (Evo.refl _ _ _)
      rw [← h2 hbw]
      exact hs.put (Evo.refl _ _ _) hs.heap (.tup [] [] .nil) _

end
end Go.AL
