/- Operations that turn no box. -/
import Derived.Test.YtfilcbnobmnopaaDoorA4
import Derived.Laws.StructEq
import Derived.ChangeKeysEq
namespace Go.AL
open Go Go.RowKit

section
variable {P : Program} {E : Env} {w : World}

theorem Rep.imm_inv {c v : Value} (h : Rep E w (.imm c) v) : v = c := by cases h; rfl

theorem Reps.nil_inv {us : List Value} (h : Reps E w [] us) : us = [] := by cases h; rfl
theorem Reps.cons_inv {a : AV} {as : List AV} {us : List Value} (h : Reps E w (a :: as) us) : ∃ v vs, us = v :: vs ∧ Rep E w a v ∧ Reps E w as vs := by
  cases h with
  | cons a v as vs h1 h2 => exact ⟨v, vs, rfl, h1, h2⟩

theorem bin_sound {op : BinOp} {t : TypeId} {x y : AV} {v u : Value} (hx : Rep E w x v) (hy : Rep E w y u) {K : AV → Prop} (h : binsem op t x y K) (ox oy : Operand) :
    ∃ r z, (do eqGuard op t ox oy v u; binOp op t v u : Sem Value).run P w = .ok z w ∧ K r ∧ Rep E w r z := by
  unfold binsem at h
  split at h
  · rename_i k a k' b
    cases hx.imm_inv
    cases hy.imm_inv
    have hg : eqGuard op t ox oy (.int k a) (.int k' b) = pure () := by cases op <;> rfl
    rw [hg]
    simp only [Sem.run_bind, Sem.run_pure, Result.andThen_ok]
    split at h
    · unfold binSh at h
      obtain ⟨h1, h2⟩ := h
      refine ⟨_, _, ?_, h2, .imm _ rfl⟩
      have h0 : ¬ b < 0 := by omega
      simp [binOp, Op.shift, h0]
    · unfold binSh at h
      obtain ⟨h1, h2⟩ := h
      refine ⟨_, _, ?_, h2, .imm _ rfl⟩
      have h0 : ¬ b < 0 := by omega
      simp [binOp, Op.shift, h0]
    · obtain ⟨rfl, h⟩ := h
      cases op <;> simp only [binInt] at h <;> first
        | (rw [binOp_add]; exact ⟨_, _, rfl, h, .imm _ rfl⟩)
        | (rw [binOp_sub]; exact ⟨_, _, rfl, h, .imm _ rfl⟩)
        | (rw [binOp_mul]; exact ⟨_, _, rfl, h, .imm _ rfl⟩)
        | (rw [binOp_quo]; exact ⟨_, _, by simp only [Op.intDiv, if_neg h.1]; rfl, h.2, .imm _ rfl⟩)
        | (rw [binOp_rem]; exact ⟨_, _, by simp only [Op.intDiv, if_neg h.1]; rfl, h.2, .imm _ rfl⟩)
        | (rw [binOp_eql]; exact ⟨_, _, rfl, h, .imm _ rfl⟩)
        | (rw [binOp_neq]; exact ⟨_, _, rfl, h, .imm _ rfl⟩)
        | (rw [binOp_lss]; exact ⟨_, _, rfl, h, .imm _ rfl⟩)
        | (rw [binOp_leq]; exact ⟨_, _, rfl, h, .imm _ rfl⟩)
        | (rw [binOp_gtr]; exact ⟨_, _, rfl, h, .imm _ rfl⟩)
        | (rw [binOp_geq]; exact ⟨_, _, rfl, h, .imm _ rfl⟩)
        | (rw [binOp_and, intBits_and]; exact ⟨_, _, rfl, h, .imm _ rfl⟩)
        | (rw [binOp_or, intBits_or]; exact ⟨_, _, rfl, h, .imm _ rfl⟩)
        | (rw [binOp_xor, intBits_xor]; exact ⟨_, _, rfl, h, .imm _ rfl⟩)
        | (rw [binOp_andNot, intBits_andNot]; exact ⟨_, _, rfl, h, .imm _ rfl⟩)
        | exact h.elim
  · rename_i a b
    cases hx.imm_inv
    cases hy.imm_inv
    have hg : eqGuard op t ox oy (.string a) (.string b) = pure () := by cases op <;> rfl
    rw [hg]
    simp only [Sem.run_bind, Sem.run_pure, Result.andThen_ok]
    cases op <;> simp only [binStr] at h <;> first
      | (obtain ⟨h1, h2⟩ := h
         refine ⟨_, _, ?_, h2, .imm _ rfl⟩
         have h0 : ¬ ((a.size + b.size : Nat) : Int) > IntKind.i64.max := by rw [IntKind.max_i64]; omega
         simp only [binOp, Op.stringOp, if_neg h0]
         rfl)
      | (exact ⟨_, _, by simp [binOp, Op.stringOp]; rfl, h, .imm _ rfl⟩)
      | (exact ⟨_, _, by simp [binOp, Op.stringOp], h, .imm _ rfl⟩)
      | exact h.elim
  · rename_i a b _ _
    cases hx.imm_inv
    cases hy.imm_inv
    obtain ⟨r, h1, h2, h3⟩ := h
    exact ⟨_, r, h2 P w ox oy, h3, .imm _ h1⟩
  · exact h.elim

theorem un_sound {op : UnOp} {x : AV} {v : Value} (hx : Rep E w x v) {K : AV → Prop} (h : unsem op x K) : ∃ r z, (Op.unary op v).run P w = .ok z w ∧ K r ∧ Rep E w r z := by
  unfold unsem at h
  split at h
  · cases hx.imm_inv; exact ⟨_, _, rfl, h, .imm _ rfl⟩
  · cases hx.imm_inv; exact ⟨_, _, rfl, h, .imm _ rfl⟩
  · cases hx.imm_inv; exact ⟨_, _, rfl, h, .imm _ rfl⟩
  · exact h.elim

theorem eqCells_fields {d : Nat} : ∀ (fs : List Field) (k : Nat) (cs ds : List AV) (us vs : List Value) (b : Bool), Reps E w cs us → Reps E w ds vs → fs.length = (cs.drop k).length →
    (∀ i f, fs[i]? = some f → f.name ≠ "_" ∧ f.offset = k + i ∧ ∃ q, P.underlying f.type = some (.int q)) → eqCells (cs.drop k) (ds.drop k) = some b →
    (Op.eqFields (d + 1) us.toArray vs.toArray fs).run P w = .ok b w
  | [], k, cs, ds, us, vs, b, _, _, hl, _, he => by
    have : cs.drop k = [] := List.eq_nil_of_length_eq_zero hl.symm
    rw [this] at he
    cases hd : ds.drop k with
    | nil => rw [hd] at he; simp [eqCells] at he; subst he; simp [Op.eqFields]
    | cons x xs => rw [hd] at he; simp [eqCells] at he
  | f :: fs, k, cs, ds, us, vs, b, h1, h2, hl, hf, he => by
    obtain ⟨hn, ho, q, hq⟩ := hf 0 f rfl
    rw [Nat.add_zero] at ho
    cases hc : cs.drop k with
    | nil => rw [hc] at hl; simp at hl
    | cons x xs =>
      cases hd : ds.drop k with
      | nil => rw [hc, hd] at he; simp [eqCells] at he
      | cons y ys =>
        rw [hc, hd] at he
        have hcx : cs[k]? = some x := by have := congrArg (·[0]?) hc; simpa using this
        have hdy : ds[k]? = some y := by have := congrArg (·[0]?) hd; simpa using this
        obtain ⟨v, hv, hxv⟩ := h1.get k x hcx
        obtain ⟨u, hu, hyu⟩ := h2.get k y hdy
        have hc' : cs.drop (k + 1) = xs := by rw [← List.drop_drop, hc]; rfl
        have hd' : ds.drop (k + 1) = ys := by rw [← List.drop_drop, hd]; rfl
        unfold eqCells at he
        split at he
        · rename_i r r' e1 e2
          cases he
          unfold eqCell at e1
          split at e1
          · rename_i q1 a1 q2 a2
            cases hxv.imm_inv
            cases hyu.imm_inv
            split at e1
            · rename_i hk
              subst hk
              cases e1
              have ih := eqCells_fields (d := d) fs (k + 1) cs ds us vs r' h1 h2 (by rw [hc']; rw [hc] at hl; simpa using hl) (fun i g hg => by
                obtain ⟨a, b, c⟩ := hf (i + 1) g hg
                exact ⟨a, by omega, c⟩) (by rw [hc', hd']; exact e2)
              have p1 : (part f.type us.toArray f.offset).run P w = .ok (.int q1 a1) w := by rw [ho]; simp [part, isAgg, run_underlying hq, hv]
              have p2 : (part f.type vs.toArray f.offset).run P w = .ok (.int q1 a2) w := by rw [ho]; simp [part, isAgg, run_underlying hq, hu]
              have p3 := run_equalIn_int (P := P) w d f.type q1 q a1 a2 hq
              simp only [Op.eqFields, hn, ne_eq, not_false_eq_true, if_true, Sem.run_bind, p1, p2, p3, Result.andThen_ok]
              cases hab : (a1 == a2)
              · simp
              · simpa using ih
            · cases e1
          · cases e1
        · cases he

theorem eqCells_items {d : Nat} {e : TypeId} {q : IntKind} (hq : P.underlying e = some (.int q)) : ∀ (n k : Nat) (cs ds : List AV) (us vs : List Value) (b : Bool), Reps E w cs us → Reps E w ds vs → n = (cs.drop k).length →
    eqCells (cs.drop k) (ds.drop k) = some b → (Op.eqItems (d + 1) e 1 us.toArray vs.toArray (List.range' k n)).run P w = .ok b w
  | 0, k, cs, ds, us, vs, b, _, _, hl, he => by
    have : cs.drop k = [] := List.eq_nil_of_length_eq_zero hl.symm
    rw [this] at he
    cases hd : ds.drop k with
    | nil => rw [hd] at he; simp [eqCells] at he; subst he; simp [Op.eqItems]
    | cons x xs => rw [hd] at he; simp [eqCells] at he
  | n + 1, k, cs, ds, us, vs, b, h1, h2, hl, he => by
    cases hc : cs.drop k with
    | nil => rw [hc] at hl; simp at hl
    | cons x xs =>
      cases hd : ds.drop k with
      | nil => rw [hc, hd] at he; simp [eqCells] at he
      | cons y ys =>
        rw [hc, hd] at he
        have hcx : cs[k]? = some x := by have := congrArg (·[0]?) hc; simpa using this
        have hdy : ds[k]? = some y := by have := congrArg (·[0]?) hd; simpa using this
        obtain ⟨v, hv, hxv⟩ := h1.get k x hcx
        obtain ⟨u, hu, hyu⟩ := h2.get k y hdy
        have hc' : cs.drop (k + 1) = xs := by rw [← List.drop_drop, hc]; rfl
        have hd' : ds.drop (k + 1) = ys := by rw [← List.drop_drop, hd]; rfl
        unfold eqCells at he
        split at he
        · rename_i r r' e1 e2
          cases he
          unfold eqCell at e1
          split at e1
          · rename_i q1 a1 q2 a2
            cases hxv.imm_inv
            cases hyu.imm_inv
            split at e1
            · rename_i hk
              subst hk
              cases e1
              have ih := eqCells_items (d := d) hq n (k + 1) cs ds us vs r' h1 h2 (by rw [hc']; rw [hc] at hl; simpa using hl) (by rw [hc', hd']; exact e2)
              have p1 : (part e us.toArray (k * 1)).run P w = .ok (.int q1 a1) w := by rw [Nat.mul_one]; simp [part, isAgg, run_underlying hq, hv]
              have p2 : (part e vs.toArray (k * 1)).run P w = .ok (.int q1 a2) w := by rw [Nat.mul_one]; simp [part, isAgg, run_underlying hq, hu]
              have p3 := run_equalIn_int (P := P) w d e q1 q a1 a2 hq
              simp only [List.range'_succ, Op.eqItems, Sem.run_bind, p1, p2, p3, Result.andThen_ok]
              cases hab : (a1 == a2)
              · simp
              · simpa using ih
            · cases e1
          · cases e1
        · cases he

end
end Go.AL
