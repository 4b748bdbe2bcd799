/- Slices, values that are built, and the rest of what turns nothing. -/
import Derived.Test.YtfilcbnobmnopaaDoorA7
set_option linter.unusedSimpArgs false
set_option linter.unusedVariables false
namespace Go.AL
open Go Go.RowKit

section
variable {P : Program} {G : Nat → Option (List AV)} {lo : Nat} {E : Env} {H : List AObj} {w : World}

theorem run_sliceBound {i : Int} {k : IntKind} {n : Nat} {c : BoundsCode} (h0 : 0 ≤ i) (h1 : i ≤ n) : (Instr.sliceBound (.int k i) n c).run P w = .ok i.toNat w := by
  simp [Instr.sliceBound, asIntOf, h0, h1]

theorem bounds_run {l0 h0 : Option Value} {n : Nat} {bs : List AV} {K : Nat → Nat → Prop} (h : bounds l0.isSome h0.isSome n bs K) (hr : Reps E w bs (optList l0 ++ optList h0)) :
    ∃ l u, K l u ∧ l ≤ u ∧ u ≤ n ∧ ∀ b cap, n ≤ cap → (Instr.sliceBounds b n cap l0 h0 none).run P w = .ok (l, u, cap) w := by
  unfold bounds at h
  split at h
  · rename_i e1 e2
    cases l0 with
    | some _ => cases e1
    | none =>
      cases h0 with
      | some _ => cases e2
      | none => exact ⟨0, n, h, Nat.zero_le _, Nat.le_refl _, fun b cap hc => by simp [Instr.sliceBounds]⟩
  · rename_i x e1 e2
    cases h0 with
    | some _ => cases e2
    | none =>
      cases l0 with
      | none => cases e1
      | some v =>
        obtain ⟨k, i, rfl, a1, a2, hK⟩ := onInt_inv h
        obtain ⟨v', vs, e, r1, _⟩ := hr.cons_inv
        simp [optList] at e
        obtain ⟨rfl, _⟩ := e
        cases r1.imm_inv
        refine ⟨i.toNat, n, hK, by omega, Nat.le_refl _, fun b cap hc => ?_⟩
        have e1 := run_sliceBound (P := P) (w := w) (k := k) (c := .sliceB) a1 a2
        simp [Instr.sliceBounds, e1]
  · rename_i y e1 e2
    cases l0 with
    | some _ => cases e1
    | none =>
      cases h0 with
      | none => cases e2
      | some v =>
        obtain ⟨k, i, rfl, a1, a2, hK⟩ := onInt_inv h
        obtain ⟨v', vs, e, r1, _⟩ := hr.cons_inv
        simp [optList] at e
        obtain ⟨rfl, _⟩ := e
        cases r1.imm_inv
        refine ⟨0, i.toNat, hK, Nat.zero_le _, by omega, fun b cap hc => ?_⟩
        have e1 := run_sliceBound (P := P) (w := w) (k := k) (n := cap) (c := if b = true then .sliceAcap else .sliceAlen) a1 (by omega)
        simp [Instr.sliceBounds, e1]
  · rename_i x y e1 e2
    cases l0 with
    | none => cases e1
    | some v =>
      cases h0 with
      | none => cases e2
      | some z =>
        obtain ⟨k, i, rfl, h'⟩ := onInt_inv h
        obtain ⟨k', i', rfl, a1, a2, a3, hK⟩ := onInt_inv h'
        obtain ⟨v', vs, e, r1, r2⟩ := hr.cons_inv
        simp [optList] at e
        obtain ⟨rfl, rfl⟩ := e
        obtain ⟨v', vs, e, r3, _⟩ := r2.cons_inv
        simp at e
        obtain ⟨rfl, _⟩ := e
        cases r1.imm_inv
        cases r3.imm_inv
        refine ⟨i.toNat, i'.toNat, hK, by omega, by omega, fun b cap hc => ?_⟩
        have e1 := run_sliceBound (P := P) (w := w) (k := k') (n := cap) (c := if b = true then .sliceAcap else .sliceAlen) (show 0 ≤ i' by omega) (by omega)
        have e2 := run_sliceBound (P := P) (w := w) (k := k) (n := i'.toNat) (c := .sliceB) a1 (by omega)
        simp [Instr.sliceBounds, e1, e2]
  · exact h.elim

theorem sliceS_done (hs : SimH G lo E H w) {t : TypeId} {x : AV} {bs : List AV} {v : Value} {l0 h0 : Option Value} (hu : P.underlying t = some .string) (hx : Rep E w x v) (hb : Reps E w bs (optList l0 ++ optList h0)) {K : AV → Prop}
    (h : qsem (.sliceS l0.isSome h0.isSome) (x :: bs) K) : QDone P G lo E H w (Instr.sliceAt t v l0 h0 none) K := by
  obtain ⟨s, rfl, h'⟩ := onStr_inv (show onStr x _ from h)
  cases hx.imm_inv
  obtain ⟨l, u, hK, _, _, hr⟩ := bounds_run (P := P) h' hb
  refine .quiet hs (v := .string (s.extract l u)) ?_ hK (.imm _ rfl)
  have h1 := hr false s.size (Nat.le_refl _)
  simp [Instr.sliceAt, run_underlying hu, Instr.slice, h1]

theorem sub_rep {size sz l u cap : Nat} {xs : List AV} {A : Option Addr} {us : List Value} (hsz : sz = size ∨ xs = []) (hlu : l ≤ u) (hun : u ≤ xs.length) (a1 : xs.length ≤ cap) (a2 : cap ≤ maxLen) (a3 : ∀ x ∈ xs, x.cells.length = sz)
    (a4 : Reps E w (xs.flatMap AV.cells) us) (a5 : ∀ u ∈ us, u.oneCell' = true) (a6 : ∀ j u, us[j]? = some u → ∃ ad, A = some ad ∧ w.cell? (ad.add j) = some u ∧ E.I (ad.add j)) :
    Rep E w (.sl sz ((xs.take u).drop l) none) (.slice (if cap = l then A else A.map (·.add (l * size))) (u - l) (cap - l)) := by
  have hlen : ((xs.take u).drop l).length = u - l := by rw [List.length_drop, List.length_take]; omega
  have hmem : ∀ x ∈ (xs.take u).drop l, x ∈ xs := fun x hx => List.mem_of_mem_take (List.mem_of_mem_drop hx)
  have h1 : Reps E w (((xs.take u).drop l).flatMap AV.cells) ((us.take (u * sz)).drop (l * sz)) := by
    rw [flat_drop _ l (fun x hx => a3 x (List.mem_of_mem_take hx)), flat_take xs u a3]
    exact (a4.take _).drop _
  have h2 := Rep.sl (E := E) (w := w) sz ((xs.take u).drop l) none (if cap = l then A else A.map (·.add (l * size))) (cap - l) _ (by rw [hlen]; omega) (by omega) (fun x hx => a3 x (hmem x hx)) h1
    (fun v hv => a5 v (List.mem_of_mem_take (List.mem_of_mem_drop hv))) (fun j v hv => by
      rw [List.getElem?_drop] at hv
      have hj : l * sz + j < u * sz := by
        rcases Nat.lt_or_ge (l * sz + j) (u * sz) with h | h
        · exact h
        · rw [List.getElem?_eq_none (by rw [List.length_take]; omega)] at hv; cases hv
      rw [List.getElem?_take_of_lt hj] at hv
      obtain ⟨ad, rfl, e2, e3⟩ := a6 _ v hv
      have hlt : l < u := by
        rcases Nat.lt_or_ge l u with h | h
        · exact h
        · have := Nat.mul_le_mul_right sz h; omega
      have hx0 : xs ≠ [] := by intro e; subst e; simp at hun; omega
      have hs1 : sz = size := hsz.resolve_right hx0
      subst hs1
      rw [if_neg (by omega)]
      exact ⟨_, rfl, by rw [add_add]; exact e2, by rw [add_add]; exact e3⟩) trivial
  rw [hlen] at h2
  exact h2

theorem sliceL_done (hs : SimH G lo E H w) {t e : TypeId} {size : Nat} {x : AV} {bs : List AV} {v : Value} {l0 h0 m0 : Option Value} (hu : P.underlying t = some (.slice e)) (hsz : szOf P e = some size)
    (hx : Rep E w x v) (hb : Reps E w bs (optList l0 ++ optList h0 ++ optList m0)) {K : AV → Prop}
    (h : qsem (.sliceL size l0.isSome h0.isSome m0.isSome) (x :: bs) K) : QDone P G lo E H w (Instr.sliceAt t v l0 h0 m0) K := by
  obtain ⟨sz, xs, tok, rfl, h1, hq⟩ := onSl_inv (show onSl x _ from h)
  obtain ⟨A, cap, us, rfl, a1, a2, a3, a4, a5, a6, a7⟩ := hx.sl_inv
  obtain ⟨i', hi', hs1⟩ := szOf_some hsz
  cases m0 with
  | none =>
    rw [if_neg (by simp)] at hq
    obtain ⟨l, u, hK, hlu, hun, hr⟩ := bounds_run (P := P) hq (by simpa [optList] using hb)
    refine .quiet hs (v := .slice (if cap = l then A else A.map (·.add (l * size))) (u - l) (cap - l)) ?_ hK (sub_rep h1 hlu hun a1 a2 a3 a4 a5 a6)
    have h2 := hr true cap a1
    simp [Instr.sliceAt, run_underlying hu, Instr.slice, h2, sizeOf, typeInfo, hi', hs1]
  | some m =>
    rw [if_pos (by simp)] at hq
    obtain ⟨e1, e2, hq⟩ := hq
    cases l0 with
    | some _ => simp at e1
    | none =>
      cases h0 with
      | none => simp at e2
      | some h9 =>
        unfold three at hq
        split at hq
        · rename_i y z
          obtain ⟨k, i, rfl, h'⟩ := onInt_inv hq
          obtain ⟨k', i', rfl, b1, b2, b3, hK⟩ := onInt_inv h'
          obtain ⟨v', vs, e, r1, r2⟩ := hb.cons_inv
          simp [optList] at e
          obtain ⟨rfl, rfl⟩ := e
          obtain ⟨v', vs, e, r3, _⟩ := r2.cons_inv
          simp at e
          obtain ⟨rfl, _⟩ := e
          cases r1.imm_inv
          cases r3.imm_inv
          have e1 := run_sliceBound (P := P) (w := w) (k := k') (n := cap) (c := .slice3Acap) (show 0 ≤ i' by omega) (by omega)
          have e2 := run_sliceBound (P := P) (w := w) (k := k) (n := i'.toNat) (c := .slice3B) b1 (by omega)
          refine .quiet hs (v := .slice (if i'.toNat = 0 then A else A.map (·.add (0 * size))) (i.toNat - 0) (i'.toNat - 0)) ?_ hK ?_
          · simp [Instr.sliceAt, run_underlying hu, Instr.slice, Instr.sliceBounds, e1, e2, sizeOf, typeInfo, *]
          · have h2 := sub_rep (cap := cap) (l := 0) (u := i.toNat) h1 (Nat.zero_le _) (by omega) a1 a2 a3 a4 a5 a6
            have hA : (if i'.toNat = 0 then A else A.map (·.add (0 * size))) = A := by
              split
              · rfl
              · cases A <;> simp [Addr.add_zero']
            have hA2 : (if cap = 0 then A else A.map (·.add (0 * size))) = A := by
              split
              · rfl
              · cases A <;> simp [Addr.add_zero']
            rw [hA2] at h2
            rw [hA]
            simp only [Nat.sub_zero, List.drop_zero] at h2 ⊢
            obtain ⟨A', cap', us', e9, c1, c2, c3, c4, c5, c6, c7⟩ := h2.sl_inv
            injection e9 with e9 e10 e11
            subst e9
            have h3 := Rep.sl (E := E) (w := w) sz (xs.take i.toNat) none A i'.toNat us' (by rw [List.length_take]; omega) (by omega) c3 c4 c5 c6 trivial
            rw [List.length_take, Nat.min_eq_left (by omega)] at h3
            exact h3
        · exact hq.elim

end
end Go.AL
