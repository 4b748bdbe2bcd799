/- Operations that turn no box, one by one. -/
import Derived.Test.YtfilcbnobmnopaaDoorA5
set_option linter.unusedSimpArgs false
set_option linter.unusedVariables false
namespace Go.AL
open Go Go.RowKit

def toNext (s : Sem Value) : Sem Next := do pure (.value (← s))

section
variable {P : Program} {G : Nat → Option (List AV)} {lo : Nat} {E : Env} {H : List AObj} {w : World}

theorem run_toNext (s : Sem Value) {v : Value} {w' : World} (h : s.run P w = .ok v w') : (toNext s).run P w = .ok (.value v) w' := by
  simp [toNext, h]

/-- What an operation that turns no box comes to. -/
def QDone (P : Program) (G : Nat → Option (List AV)) (lo : Nat) (E : Env) (H : List AObj) (w : World) (s : Sem Value) (K : AV → Prop) : Prop :=
  ∃ r v w' E', s.run P w = .ok v w' ∧ K r ∧ Rep E' w' r v ∧ SimH G lo E' H w' ∧ Evo lo E w E' w'

theorem QDone.quiet (hs : SimH G lo E H w) {s : Sem Value} {K : AV → Prop} {r : AV} {v : Value} (hr : s.run P w = .ok v w) (hK : K r) (h : Rep E w r v) : QDone P G lo E H w s K :=
  ⟨r, v, w, E, hr, hK, h, hs, Evo.refl _ _ _⟩

theorem plainEq_struct {t : TypeId} {fs : Array Field} (hu : P.underlying t = some (.struct fs)) (hp : plainEq P t = true) :
    P.stoodInHeld t = false ∧ (∀ i f, fs.toList[i]? = some f → f.name ≠ "_" ∧ f.offset = 0 + i ∧ ∃ q, P.underlying f.type = some (.int q)) ∧ P.eqGuardType P.depth t = false := by
  simp only [plainEq, hu, Bool.and_eq_true, Bool.not_eq_true', List.all_eq_true] at hp
  obtain ⟨⟨h1, h2⟩, h3⟩ := hp
  refine ⟨h1, fun i f hf => ?_, h3⟩
  have h4 := h2 (f, i) (List.mk_mem_zipIdx_iff_getElem?.2 hf)
  simp only [Bool.and_eq_true, bne_iff_ne, beq_iff_eq] at h4
  obtain ⟨⟨h5, h6⟩, h7⟩ := h4
  refine ⟨h5, by omega, ?_⟩
  split at h7
  · rename_i q hq; exact ⟨q, hq⟩
  · cases h7

theorem plainEq_array {t e : TypeId} {n : Nat} (hu : P.underlying t = some (.array n e)) (hp : plainEq P t = true) :
    (∃ q, P.underlying e = some (.int q)) ∧ szOf P e = some 1 ∧ P.eqGuardType P.depth t = false := by
  simp only [plainEq, hu, Bool.and_eq_true, Bool.not_eq_true', beq_iff_eq] at hp
  obtain ⟨⟨h1, h2⟩, h3⟩ := hp
  refine ⟨?_, h2, h3⟩
  split at h1
  · rename_i q hq; exact ⟨q, hq⟩
  · cases h1

theorem eqCells_length {b : Bool} : ∀ (xs ys : List AV), eqCells xs ys = some b → xs.length = ys.length
  | [], [], _ => rfl
  | [], _ :: _, h => by simp [eqCells] at h
  | _ :: _, [], h => by simp [eqCells] at h
  | x :: xs, y :: ys, h => by
    unfold eqCells at h
    split at h
    · rename_i r r' e1 e2
      have : ∃ b, eqCells xs ys = some b := ⟨_, e2⟩
      obtain ⟨b', hb'⟩ := this
      simpa using eqCells_length (b := b') xs ys hb'
    · cases h

theorem equalIn_cells {t : TypeId} {xs ys : List AV} {v u : Value} {b : Bool} (hp : plainEq P t = true) (hl : xs.length = eqLen P t) (hx : Rep E w (.agg xs) v) (hy : Rep E w (.agg ys) u)
    (he : eqCells xs ys = some b) : ∃ us vs, v = .agg us ∧ u = .agg vs ∧ (Op.equalIn 10000 t (.agg us) (.agg vs)).run P w = .ok b w ∧ P.eqGuardType P.depth t = false := by
  cases hx with
  | agg _ us h1 _ =>
    cases hy with
    | agg _ vs h2 _ =>
      refine ⟨us.toArray, vs.toArray, rfl, rfl, ?_⟩
      cases hu : P.underlying t with
      | none => simp [plainEq, hu] at hp
      | some d =>
        cases d with
        | struct fs =>
          obtain ⟨a1, a2, a3⟩ := plainEq_struct hu hp
          have hf : P.fieldsOf t = fs := by simp [Program.fieldsOf, hu]
          refine ⟨?_, a3⟩
          have h9 := run_equalIn_struct (P := P) w 9999 t us.toArray vs.toArray (by rw [hf]; exact hu) a1
          rw [h9, hf]
          exact eqCells_fields (d := 9998) fs.toList 0 xs ys us vs b h1 h2 (by simp [hl, eqLen, hu]) a2 (by simpa using he)
        | array n e =>
          obtain ⟨⟨q, hq⟩, a2, a3⟩ := plainEq_array hu hp
          refine ⟨?_, a3⟩
          have hi : ∃ i, P.info? e = some i ∧ i.size = 1 := by
            simp only [szOf, Option.map_eq_some_iff] at a2
            exact a2
          obtain ⟨i, hi, hsz⟩ := hi
          have h9 := run_equalIn_array (P := P) w 9999 us.toArray vs.toArray hu hi
          have hc : P.cellsOf e = 1 := by simp [Program.cellsOf, hi, hsz]
          rw [h9, hc, List.range_eq_range']
          exact eqCells_items (d := 9998) hq n 0 xs ys us vs b h1 h2 (by simp [hl, eqLen, hu]) (by simpa using he)
        | _ => simp [plainEq, hu] at hp

theorem onAgg_inv {x : AV} {K : List AV → Prop} (h : onAgg x K) : ∃ cs, x = .agg cs ∧ K cs := by
  unfold onAgg at h; split at h
  · exact ⟨_, rfl, h⟩
  · exact h.elim
theorem onTup_inv {x : AV} {K : List AV → Prop} (h : onTup x K) : ∃ cs, x = .tup cs ∧ K cs := by
  unfold onTup at h; split at h
  · exact ⟨_, rfl, h⟩
  · exact h.elim
theorem onImm_inv {x : AV} {K : Value → Prop} (h : onImm x K) : ∃ cs, x = .imm cs ∧ K cs := by
  unfold onImm at h; split at h
  · exact ⟨_, rfl, h⟩
  · exact h.elim
theorem onSome_inv {α : Type} {x : Option α} {K : α → Prop} (h : onSome x K) : ∃ a, x = some a ∧ K a := by
  unfold onSome at h; split at h
  · exact ⟨_, rfl, h⟩
  · exact h.elim
theorem onInt_inv {x : AV} {K : IntKind → Int → Prop} (h : onInt x K) : ∃ k n, x = .imm (.int k n) ∧ K k n := by
  unfold onInt at h; split at h
  · exact ⟨_, _, rfl, h⟩
  · exact h.elim
theorem onBool_inv {x : AV} {K : Bool → Prop} (h : onBool x K) : ∃ b, x = .imm (.bool b) ∧ K b := by
  unfold onBool at h; split at h
  · exact ⟨_, rfl, h⟩
  · exact h.elim
theorem onStr_inv {x : AV} {K : ByteArray → Prop} (h : onStr x K) : ∃ b, x = .imm (.string b) ∧ K b := by
  unfold onStr at h; split at h
  · exact ⟨_, rfl, h⟩
  · exact h.elim
theorem onSl_inv {x : AV} {K : Nat → List AV → Option Nat → Prop} (h : onSl x K) : ∃ a b c, x = .sl a b c ∧ K a b c := by
  unfold onSl at h; split at h
  · exact ⟨_, _, _, rfl, h⟩
  · exact h.elim
theorem onPtr_inv {x : AV} {K : Nat → Nat → Prop} (h : onPtr x K) : ∃ a b, x = .ptr a b ∧ K a b := by
  unfold onPtr at h; split at h
  · exact ⟨_, _, rfl, h⟩
  · exact h.elim
theorem onBox_inv {x : Option AObj} {K : List AV → Prop} (h : onBox x K) : ∃ cs, (x = some (.box cs) ∨ x = some (.fbox cs)) ∧ K cs := by
  unfold onBox at h; split at h
  · exact ⟨_, .inl rfl, h⟩
  · exact ⟨_, .inr rfl, h⟩
  · exact h.elim
theorem onTok_inv {x : Option AObj} {K : TypeId → Nat → Nat → Prop} (h : onTok x K) : ∃ a b c, x = some (.tok a b c) ∧ K a b c := by
  unfold onTok at h; split at h
  · exact ⟨_, _, _, rfl, h⟩
  · exact h.elim

theorem eqA_done (hs : SimH G lo E H w) {neg : Bool} {t : TypeId} {x y : AV} {v u : Value} (hp : plainEq P t = true) (hx : Rep E w x v) (hy : Rep E w y u) {K : AV → Prop}
    (h : qsem (.eqA neg (eqLen P t)) [x, y] K) (ox oy : Operand) : QDone P G lo E H w (do eqGuard (if neg then .neq else .eql) t ox oy v u; binOp (if neg then .neq else .eql) t v u) K := by
  obtain ⟨xs, rfl, h⟩ := onAgg_inv h
  obtain ⟨ys, rfl, h⟩ := onAgg_inv h
  obtain ⟨h1, h⟩ := h
  obtain ⟨b, hb, h2⟩ := onSome_inv h
  obtain ⟨us, vs, rfl, rfl, h3, h4⟩ := equalIn_cells hp h1 hx hy hb
  refine .quiet hs (v := .bool (if neg then !b else b)) ?_ h2 (.imm _ rfl)
  cases neg
  · have hg := run_eqGuard_agg (P := P) w .eql t ox oy us vs h4
    simp only [Bool.false_eq_true, if_false, Sem.run_bind, hg, Result.andThen_ok, run_eql_struct, h3]
  · have hg := run_eqGuard_agg (P := P) w .neq t ox oy us vs h4
    simp only [if_true, Sem.run_bind, hg, Result.andThen_ok, run_neq_struct, h3]

end
end Go.AL
