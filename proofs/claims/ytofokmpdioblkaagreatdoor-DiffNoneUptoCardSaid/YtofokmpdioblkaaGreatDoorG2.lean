/- Operations that turn no box. -/
import Derived.Test.YtofokmpdioblkaaGreatDoorG1
import Derived.Laws.StructEq
import Derived.ChangeKeysEq
namespace Go.AL
open Go Go.RowKit
section
variable {P : Program} {E : Env} {w : World}
theorem Rep.imm_inv {c v : Value} (h : Rep E w (.imm c) v) : v = c := by cases h; rfl
theorem Reps.nil_inv {us : List Value} (h : Reps E w [] us) : us = [] := by cases h; rfl
theorem Reps.cons_inv {a : AV} {as : List AV} {us : List Value} (h : Reps E w (a :: as) us) : ∃ v vs, us = v :: vs ∧ Rep E w a v ∧ Reps E w as vs := by
  cases h with
  | cons a v as vs h1 h2 => exact ⟨v, vs, rfl, h1, h2⟩
theorem bin_sound {op : BinOp} {t : TypeId} {x y : AV} {v u : Value} (hx : Rep E w x v) (hy : Rep E w y u) {K : AV → Prop} (h : binsem op t x y K) (ox oy : Operand) :
    ∃ r z, (do eqGuard op t ox oy v u; binOp op t v u : Sem Value).run P w = .ok z w ∧ K r ∧ Rep E w r z := by
  unfold binsem at h
  split at h
  · rename_i k a k' b
    cases hx.imm_inv
    cases hy.imm_inv
    have hg : eqGuard op t ox oy (.int k a) (.int k' b) = pure () := by cases op <;> rfl
    rw [hg]
    simp only [Sem.run_bind, Sem.run_pure, Result.andThen_ok]
    split at h
    · unfold binSh at h
      obtain ⟨h1, h2⟩ := h
      refine ⟨_, _, ?_, h2, .imm _ rfl⟩
      have h0 : ¬ b < 0 := by omega
      simp [binOp, Op.shift, h0]
    · unfold binSh at h
      obtain ⟨h1, h2⟩ := h
      refine ⟨_, _, ?_, h2, .imm _ rfl⟩
      have h0 : ¬ b < 0 := by omega
      simp [binOp, Op.shift, h0]
    · obtain ⟨rfl, h⟩ := h
      cases op <;> simp only [binInt] at h <;> first
        | (rw [binOp_add]; exact ⟨_, _, rfl, h, .imm _ rfl⟩)
        | (rw [binOp_sub]; exact ⟨_, _, rfl, h, .imm _ rfl⟩)
        | (rw [binOp_mul]; exact ⟨_, _, rfl, h, .imm _ rfl⟩)
        | (rw [binOp_quo]; exact ⟨_, _, by simp only [Op.intDiv, if_neg h.1]; rfl, h.2, .imm _ rfl⟩)
        | (rw [binOp_rem]; exact ⟨_, _, by simp only [Op.intDiv, if_neg h.1]; rfl, h.2, .imm _ rfl⟩)
        | (rw [binOp_eql]; exact ⟨_, _, rfl, h, .imm _ rfl⟩)
        | (rw [binOp_neq]; exact ⟨_, _, rfl, h, .imm _ rfl⟩)
        | (rw [binOp_lss]; exact ⟨_, _, rfl, h, .imm _ rfl⟩)
        | (rw [binOp_leq]; exact ⟨_, _, rfl, h, .imm _ rfl⟩)
        | (rw [binOp_gtr]; exact ⟨_, _, rfl, h, .imm _ rfl⟩)
        | (rw [binOp_geq]; exact ⟨_, _, rfl, h, .imm _ rfl⟩)
        | (rw [binOp_and, intBits_and]; exact ⟨_, _, rfl, h, .imm _ rfl⟩)
        | (rw [binOp_or, intBits_or]; exact ⟨_, _, rfl, h, .imm _ rfl⟩)
        | (rw [binOp_xor, intBits_xor]; exact ⟨_, _, rfl, h, .imm _ rfl⟩)
        | (rw [binOp_andNot, intBits_andNot]; exact ⟨_, _, rfl, h, .imm _ rfl⟩)
        | exact h.elim
  · rename_i a b
    cases hx.imm_inv
    cases hy.imm_inv
    have hg : eqGuard op t ox oy (.string a) (.string b) = pure () := by cases op <;> rfl
    rw [hg]
    simp only [Sem.run_bind, Sem.run_pure, Result.andThen_ok]
    cases op <;> simp only [binStr] at h <;> first
      | (obtain ⟨h1, h2⟩ := h
         refine ⟨_, _, ?_, h2, .imm _ rfl⟩
         have h0 : ¬ ((a.size + b.size : Nat) : Int) > IntKind.i64.max := by rw [IntKind.max_i64]; omega
         simp only [binOp, Op.stringOp, if_neg h0]
         rfl)
      | (exact ⟨_, _, by simp [binOp, Op.stringOp]; rfl, h, .imm _ rfl⟩)
      | (exact ⟨_, _, by simp [binOp, Op.stringOp], h, .imm _ rfl⟩)
      | exact h.elim
  · rename_i a b _ _
    cases hx.imm_inv
    cases hy.imm_inv
    obtain ⟨r, h1, h2, h3⟩ := h
    exact ⟨_, r, h2 P w ox oy, h3, .imm _ h1⟩
  · exact h.elim
theorem un_sound {op : UnOp} {x : AV} {v : Value} (hx : Rep E w x v) {K : AV → Prop} (h : unsem op x K) : ∃ r z, (Op.unary op v).run P w = .ok z w ∧ K r ∧ Rep E w r z := by
  unfold unsem at h
  split at h
  · cases hx.imm_inv; exact ⟨_, _, rfl, h, .imm _ rfl⟩
  · cases hx.imm_inv; exact ⟨_, _, rfl, h, .imm _ rfl⟩
  · cases hx.imm_inv; exact ⟨_, _, rfl, h, .imm _ rfl⟩
  · exact h.elim
theorem eqCells_fields {d : Nat} : ∀ (fs : List Field) (k : Nat) (cs ds : List AV) (us vs : List Value) (b : Bool), Reps E w cs us → Reps E w ds vs → fs.length = (cs.drop k).length →
    (∀ i f, fs[i]? = some f → f.name ≠ "_" ∧ f.offset = k + i ∧ ∃ q, P.underlying f.type = some (.int q)) → eqCells (cs.drop k) (ds.drop k) = some b →
    (Op.eqFields (d + 1) us.toArray vs.toArray fs).run P w = .ok b w
  | [], k, cs, ds, us, vs, b, _, _, hl, _, he => by
    have : cs.drop k = [] := List.eq_nil_of_length_eq_zero hl.symm
    rw [this] at he
    cases hd : ds.drop k with
    | nil => rw [hd] at he; simp [eqCells] at he; subst he; simp [Op.eqFields]
    | cons x xs => rw [hd] at he; simp [eqCells] at he
  | f :: fs, k, cs, ds, us, vs, b, h1, h2, hl, hf, he => by
    obtain ⟨hn, ho, q, hq⟩ := hf 0 f rfl
    rw [Nat.add_zero] at ho
    cases hc : cs.drop k with
    | nil => rw [hc] at hl; simp at hl
    | cons x xs =>
      cases hd : ds.drop k with
      | nil => rw [hc, hd] at he; simp [eqCells] at he
      | cons y ys =>
        rw [hc, hd] at he
        have hcx : cs[k]? = some x := by have := congrArg (·[0]?) hc; simpa using this
        have hdy : ds[k]? = some y := by have := congrArg (·[0]?) hd; simpa using this
        obtain ⟨v, hv, hxv⟩ := h1.get k x hcx
        obtain ⟨u, hu, hyu⟩ := h2.get k y hdy
        have hc' : cs.drop (k + 1) = xs := by rw [← List.drop_drop, hc]; rfl
        have hd' : ds.drop (k + 1) = ys := by rw [← List.drop_drop, hd]; rfl
        unfold eqCells at he
        split at he
        · rename_i r r' e1 e2
          cases he
          unfold eqCell at e1
          split at e1
          · rename_i q1 a1 q2 a2
            cases hxv.imm_inv
            cases hyu.imm_inv
            split at e1
            · rename_i hk
              subst hk
              cases e1
              have ih := eqCells_fields (d := d) fs (k + 1) cs ds us vs r' h1 h2 (by rw [hc']; rw [hc] at hl; simpa using hl) (fun i g hg => by
                obtain ⟨a, b, c⟩ := hf (i + 1) g hg
                exact ⟨a, by omega, c⟩) (by rw [hc', hd']; exact e2)
              have p1 : (part f.type us.toArray f.offset).run P w = .ok (.int q1 a1) w := by rw [ho]; simp [part, isAgg, run_underlying hq, hv]
              have p2 : (part f.type vs.toArray f.offset).run P w = .ok (.int q1 a2) w := by rw [ho]; simp [part, isAgg, run_underlying hq, hu]
              have p3 := run_equalIn_int (P := P) w d f.type q1 q a1 a2 hq
              simp only [Op.eqFields, hn, ne_eq, not_false_eq_true, if_true, Sem.run_bind, p1, p2, p3, Result.andThen_ok]
              cases hab : (a1 == a2)
              · simp
              · simpa using ih
            · cases e1
          · cases e1
        · cases he
theorem eqCells_items {d : Nat} {e : TypeId} {q : IntKind} (hq : P.underlying e = some (.int q)) : ∀ (n k : Nat) (cs ds : List AV) (us vs : List Value) (b : Bool), Reps E w cs us → Reps E w ds vs → n = (cs.drop k).length →
    eqCells (cs.drop k) (ds.drop k) = some b → (Op.eqItems (d + 1) e 1 us.toArray vs.toArray (List.range' k n)).run P w = .ok b w
  | 0, k, cs, ds, us, vs, b, _, _, hl, he => by
    have : cs.drop k = [] := List.eq_nil_of_length_eq_zero hl.symm
    rw [this] at he
    cases hd : ds.drop k with
    | nil => rw [hd] at he; simp [eqCells] at he; subst he; simp [Op.eqItems]
    | cons x xs => rw [hd] at he; simp [eqCells] at he
  | n + 1, k, cs, ds, us, vs, b, h1, h2, hl, he => by
    cases hc : cs.drop k with
    | nil => rw [hc] at hl; simp at hl
    | cons x xs =>
      cases hd : ds.drop k with
      | nil => rw [hc, hd] at he; simp [eqCells] at he
      | cons y ys =>
        rw [hc, hd] at he
        have hcx : cs[k]? = some x := by have := congrArg (·[0]?) hc; simpa using this
        have hdy : ds[k]? = some y := by have := congrArg (·[0]?) hd; simpa using this
        obtain ⟨v, hv, hxv⟩ := h1.get k x hcx
        obtain ⟨u, hu, hyu⟩ := h2.get k y hdy
        have hc' : cs.drop (k + 1) = xs := by rw [← List.drop_drop, hc]; rfl
        have hd' : ds.drop (k + 1) = ys := by rw [← List.drop_drop, hd]; rfl
        unfold eqCells at he
        split at he
        · rename_i r r' e1 e2
          cases he
          unfold eqCell at e1
          split at e1
          · rename_i q1 a1 q2 a2
            cases hxv.imm_inv
            cases hyu.imm_inv
            split at e1
            · rename_i hk
              subst hk
              cases e1
              have ih := eqCells_items (d := d) hq n (k + 1) cs ds us vs r' h1 h2 (by rw [hc']; rw [hc] at hl; simpa using hl) (by rw [hc', hd']; exact e2)
              have p1 : (part e us.toArray (k * 1)).run P w = .ok (.int q1 a1) w := by rw [Nat.mul_one]; simp [part, isAgg, run_underlying hq, hv]
              have p2 : (part e vs.toArray (k * 1)).run P w = .ok (.int q1 a2) w := by rw [Nat.mul_one]; simp [part, isAgg, run_underlying hq, hu]
              have p3 := run_equalIn_int (P := P) w d e q1 q a1 a2 hq
              simp only [List.range'_succ, Op.eqItems, Sem.run_bind, p1, p2, p3, Result.andThen_ok]
              cases hab : (a1 == a2)
              · simp
              · simpa using ih
            · cases e1
          · cases e1
        · cases he
end
end Go.AL

/- Operations that turn no box, one by one. -/
set_option linter.unusedSimpArgs false
set_option linter.unusedVariables false
namespace Go.AL
open Go Go.RowKit
section
variable {P : Program} {G : Nat → Option (List AV)} {lo : Nat} {E : Env} {H : List AObj} {w : World}
/-- What an operation that turns no box comes to. -/
def QDone (P : Program) (G : Nat → Option (List AV)) (lo : Nat) (E : Env) (H : List AObj) (w : World) (s : Sem Value) (K : AV → Prop) : Prop :=
  ∃ r v w' E', s.run P w = .ok v w' ∧ K r ∧ Rep E' w' r v ∧ SimH G lo E' H w' ∧ Evo lo E w E' w'
theorem QDone.quiet (hs : SimH G lo E H w) {s : Sem Value} {K : AV → Prop} {r : AV} {v : Value} (hr : s.run P w = .ok v w) (hK : K r) (h : Rep E w r v) : QDone P G lo E H w s K :=
  ⟨r, v, w, E, hr, hK, h, hs, Evo.refl _ _ _⟩
theorem plainEq_struct {t : TypeId} {fs : Array Field} (hu : P.underlying t = some (.struct fs)) (hp : plainEq P t = true) :
    P.stoodInHeld t = false ∧ (∀ i f, fs.toList[i]? = some f → f.name ≠ "_" ∧ f.offset = 0 + i ∧ ∃ q, P.underlying f.type = some (.int q)) ∧ P.eqGuardType P.depth t = false := by
  simp only [plainEq, hu, Bool.and_eq_true, Bool.not_eq_true', List.all_eq_true] at hp
  obtain ⟨⟨h1, h2⟩, h3⟩ := hp
  refine ⟨h1, fun i f hf => ?_, h3⟩
  have h4 := h2 (f, i) (List.mk_mem_zipIdx_iff_getElem?.2 hf)
  simp only [Bool.and_eq_true, bne_iff_ne, beq_iff_eq] at h4
  obtain ⟨⟨h5, h6⟩, h7⟩ := h4
  refine ⟨h5, by omega, ?_⟩
  split at h7
  · rename_i q hq; exact ⟨q, hq⟩
  · cases h7
theorem plainEq_array {t e : TypeId} {n : Nat} (hu : P.underlying t = some (.array n e)) (hp : plainEq P t = true) :
    (∃ q, P.underlying e = some (.int q)) ∧ szOf P e = some 1 ∧ P.eqGuardType P.depth t = false := by
  simp only [plainEq, hu, Bool.and_eq_true, Bool.not_eq_true', beq_iff_eq] at hp
  obtain ⟨⟨h1, h2⟩, h3⟩ := hp
  refine ⟨?_, h2, h3⟩
  split at h1
  · rename_i q hq; exact ⟨q, hq⟩
  · cases h1
theorem equalIn_cells {t : TypeId} {xs ys : List AV} {v u : Value} {b : Bool} (hp : plainEq P t = true) (hl : xs.length = eqLen P t) (hx : Rep E w (.agg xs) v) (hy : Rep E w (.agg ys) u)
    (he : eqCells xs ys = some b) : ∃ us vs, v = .agg us ∧ u = .agg vs ∧ (Op.equalIn 10000 t (.agg us) (.agg vs)).run P w = .ok b w ∧ P.eqGuardType P.depth t = false := by
  cases hx with
  | agg _ us h1 _ =>
    cases hy with
    | agg _ vs h2 _ =>
      refine ⟨us.toArray, vs.toArray, rfl, rfl, ?_⟩
      cases hu : P.underlying t with
      | none => simp [plainEq, hu] at hp
      | some d =>
        cases d with
        | struct fs =>
          obtain ⟨a1, a2, a3⟩ := plainEq_struct hu hp
          have hf : P.fieldsOf t = fs := by simp [Program.fieldsOf, hu]
          refine ⟨?_, a3⟩
          have h9 := run_equalIn_struct (P := P) w 9999 t us.toArray vs.toArray (by rw [hf]; exact hu) a1
          rw [h9, hf]
          exact eqCells_fields (d := 9998) fs.toList 0 xs ys us vs b h1 h2 (by simp [hl, eqLen, hu]) a2 (by simpa using he)
        | array n e =>
          obtain ⟨⟨q, hq⟩, a2, a3⟩ := plainEq_array hu hp
          refine ⟨?_, a3⟩
          have hi : ∃ i, P.info? e = some i ∧ i.size = 1 := by
            simp only [szOf, Option.map_eq_some_iff] at a2
            exact a2
          obtain ⟨i, hi, hsz⟩ := hi
          have h9 := run_equalIn_array (P := P) w 9999 us.toArray vs.toArray hu hi
          have hc : P.cellsOf e = 1 := by simp [Program.cellsOf, hi, hsz]
          rw [h9, hc, List.range_eq_range']
          exact eqCells_items (d := 9998) hq n 0 xs ys us vs b h1 h2 (by simp [hl, eqLen, hu]) (by simpa using he)
        | _ => simp [plainEq, hu] at hp
theorem onAgg_inv {x : AV} {K : List AV → Prop} (h : onAgg x K) : ∃ cs, x = .agg cs ∧ K cs := by
  unfold onAgg at h; split at h
  · exact ⟨_, rfl, h⟩
  · exact h.elim
theorem onTup_inv {x : AV} {K : List AV → Prop} (h : onTup x K) : ∃ cs, x = .tup cs ∧ K cs := by
  unfold onTup at h; split at h
  · exact ⟨_, rfl, h⟩
  · exact h.elim
theorem onImm_inv {x : AV} {K : Value → Prop} (h : onImm x K) : ∃ cs, x = .imm cs ∧ K cs := by
  unfold onImm at h; split at h
  · exact ⟨_, rfl, h⟩
  · exact h.elim
theorem onSome_inv {α : Type} {x : Option α} {K : α → Prop} (h : onSome x K) : ∃ a, x = some a ∧ K a := by
  unfold onSome at h; split at h
  · exact ⟨_, rfl, h⟩
  · exact h.elim
theorem onInt_inv {x : AV} {K : IntKind → Int → Prop} (h : onInt x K) : ∃ k n, x = .imm (.int k n) ∧ K k n := by
  unfold onInt at h; split at h
  · exact ⟨_, _, rfl, h⟩
  · exact h.elim
theorem onBool_inv {x : AV} {K : Bool → Prop} (h : onBool x K) : ∃ b, x = .imm (.bool b) ∧ K b := by
  unfold onBool at h; split at h
  · exact ⟨_, rfl, h⟩
  · exact h.elim
theorem onStr_inv {x : AV} {K : ByteArray → Prop} (h : onStr x K) : ∃ b, x = .imm (.string b) ∧ K b := by
  unfold onStr at h; split at h
  · exact ⟨_, rfl, h⟩
  · exact h.elim
theorem onSl_inv {x : AV} {K : Nat → List AV → Option Nat → Prop} (h : onSl x K) : ∃ a b c, x = .sl a b c ∧ K a b c := by
  unfold onSl at h; split at h
  · exact ⟨_, _, _, rfl, h⟩
  · exact h.elim
theorem onPtr_inv {x : AV} {K : Nat → Nat → Prop} (h : onPtr x K) : ∃ a b, x = .ptr a b ∧ K a b := by
  unfold onPtr at h; split at h
  · exact ⟨_, _, rfl, h⟩
  · exact h.elim
theorem onBox_inv {x : Option AObj} {K : List AV → Prop} (h : onBox x K) : ∃ cs, (x = some (.box cs) ∨ x = some (.fbox cs)) ∧ K cs := by
  unfold onBox at h; split at h
  · exact ⟨_, .inl rfl, h⟩
  · exact ⟨_, .inr rfl, h⟩
  · exact h.elim
theorem onRow_inv {x : Option AObj} {K : TypeId → Nat → Nat → List AV → Prop} (h : onRow x K) : ∃ a b c d, x = some (.row a b c d) ∧ K a b c d := by
  unfold onRow at h; split at h
  · exact ⟨_, _, _, _, rfl, h⟩
  · exact h.elim
theorem onRs_inv {x : AV} {K : Nat → Nat → Nat → Nat → Nat → Prop} (h : onRs x K) : ∃ a b c d e, x = .rs a b c d e ∧ K a b c d e := by
  unfold onRs at h; split at h
  · exact ⟨_, _, _, _, _, rfl, h⟩
  · exact h.elim
theorem onSrc_inv {x : AV} {K : Nat → List AV → Prop} (h : onSrc x K) : (∃ sz ys tok, x = .sl sz ys tok ∧ K sz ys) ∨ ∃ s, x = .imm (.string s) ∧ K 1 (s.data.toList.map byteAV) := by
  unfold onSrc at h; split at h
  · exact .inl ⟨_, _, _, rfl, h⟩
  · exact .inr ⟨_, rfl, h⟩
  · exact h.elim
theorem pnilSem_inv {neg : Bool} {x y : AV} {K : AV → Prop} (h : pnilSem neg x y K) : y = .imm (.pointer none) ∧ (((∃ id off, x = .ptr id off) ∨ (∃ cs off, x = .rptr cs off) ∨ ∃ id ver sz i, x = .rp id ver sz i) ∧ K (bool neg) ∨ x = .imm (.pointer none) ∧ K (bool (!neg))) := by
  unfold pnilSem at h; split at h
  · exact ⟨rfl, .inl ⟨.inl ⟨_, _, rfl⟩, h⟩⟩
  · exact ⟨rfl, .inl ⟨.inr (.inl ⟨_, _, rfl⟩), h⟩⟩
  · exact ⟨rfl, .inl ⟨.inr (.inr ⟨_, _, _, _, rfl⟩), h⟩⟩
  · exact ⟨rfl, .inr ⟨rfl, h⟩⟩
  · exact h.elim
theorem onTok_inv {x : Option AObj} {K : TypeId → Nat → Nat → Prop} (h : onTok x K) : ∃ a b c, x = some (.tok a b c) ∧ K a b c := by
  unfold onTok at h; split at h
  · exact ⟨_, _, _, rfl, h⟩
  · exact h.elim
theorem eqA_done (hs : SimH G lo E H w) {neg : Bool} {t : TypeId} {x y : AV} {v u : Value} (hp : plainEq P t = true) (hx : Rep E w x v) (hy : Rep E w y u) {K : AV → Prop}
    (h : qsem (.eqA neg (eqLen P t)) [x, y] K) (ox oy : Operand) : QDone P G lo E H w (do eqGuard (if neg then .neq else .eql) t ox oy v u; binOp (if neg then .neq else .eql) t v u) K := by
  obtain ⟨xs, rfl, h⟩ := onAgg_inv h
  obtain ⟨ys, rfl, h⟩ := onAgg_inv h
  obtain ⟨h1, h⟩ := h
  obtain ⟨b, hb, h2⟩ := onSome_inv h
  obtain ⟨us, vs, rfl, rfl, h3, h4⟩ := equalIn_cells hp h1 hx hy hb
  refine .quiet hs (v := .bool (if neg then !b else b)) ?_ h2 (.imm _ rfl)
  cases neg
  · have hg := run_eqGuard_agg (P := P) w .eql t ox oy us vs h4
    simp only [Bool.false_eq_true, if_false, Sem.run_bind, hg, Result.andThen_ok, run_eql_struct, h3]
  · have hg := run_eqGuard_agg (P := P) w .neq t ox oy us vs h4
    simp only [if_true, Sem.run_bind, hg, Result.andThen_ok, run_neq_struct, h3]
end
end Go.AL
