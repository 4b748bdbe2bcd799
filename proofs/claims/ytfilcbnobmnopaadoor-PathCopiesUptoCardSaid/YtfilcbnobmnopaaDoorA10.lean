/- All operations that turn nothing. -/
import Derived.Test.YtfilcbnobmnopaaDoorA9
set_option linter.unusedSimpArgs false
set_option linter.unusedVariables false
namespace Go.AL
open Go Go.RowKit

section
variable {P : Program} {G : Nat → Option (List AV)} {lo : Nat} {E : Env} {H : List AObj} {w : World}

/-- What an operation that turns no box comes to, in the machine's words. -/
def QStep (P : Program) (G : Nat → Option (List AV)) (lo : Nat) (E : Env) (H : List AObj) (w : World) (s : Sem Next) (K : AV → Prop) : Prop :=
  ∃ r v w' E', s.run P w = .ok (.value v) w' ∧ K r ∧ Rep E' w' r v ∧ SimH G lo E' H w' ∧ Evo lo E w E' w'

theorem QDone.step {s : Sem Value} {K : AV → Prop} (h : QDone P G lo E H w s K) {s' : Sem Next} (e : s'.run P w = (s.run P w).andThen fun a w' => .ok (.value a) w') : QStep P G lo E H w s' K := by
  obtain ⟨r, v, w', E', h1, h2⟩ := h
  exact ⟨r, v, w', E', by rw [e, h1]; rfl, h2⟩

theorem reps1 {x : AV} {xs : List AV} {v : Value} (h : Reps E w (xs) [v]) : ∃ x, xs = [x] ∧ Rep E w x v := by
  cases h with
  | cons a _ as _ h1 h2 => cases h2; exact ⟨a, rfl, h1⟩
theorem reps_1 {xs : List AV} {v : Value} (h : Reps E w xs [v]) : ∃ x, xs = [x] ∧ Rep E w x v := by
  cases h with
  | cons a _ as _ h1 h2 => cases h2; exact ⟨a, rfl, h1⟩
theorem reps_2 {xs : List AV} {v u : Value} (h : Reps E w xs [v, u]) : ∃ x y, xs = [x, y] ∧ Rep E w x v ∧ Rep E w y u := by
  cases h with
  | cons a _ as _ h1 h2 => obtain ⟨y, rfl, h3⟩ := reps_1 h2; exact ⟨a, y, rfl, h1, h3⟩
theorem reps_3 {xs : List AV} {v u z : Value} (h : Reps E w xs [v, u, z]) : ∃ x y c, xs = [x, y, c] ∧ Rep E w x v ∧ Rep E w y u ∧ Rep E w c z := by
  cases h with
  | cons a _ as _ h1 h2 => obtain ⟨y, c, rfl, h3, h4⟩ := reps_2 h2; exact ⟨a, y, c, rfl, h1, h3, h4⟩
theorem reps_c {xs : List AV} {v : Value} {vs : List Value} (h : Reps E w xs (v :: vs)) : ∃ x ys, xs = x :: ys ∧ Rep E w x v ∧ Reps E w ys vs := by
  cases h with
  | cons a _ as _ h1 h2 => exact ⟨a, as, rfl, h1, h2⟩

theorem optList_map {ρ : Operand → Value} (x : Option Operand) : (optList x).map ρ = optList (x.map ρ) := by cases x <;> rfl

theorem isU8_spec {d : Option TypeDesc} (h : isU8 d = true) : d = some (.int .u8) := by
  unfold isU8 at h
  split at h
  · rfl
  · cases h

set_option maxHeartbeats 1000000 in
theorem run_equalIn_bool {P : Program} {t : TypeId} (hu : P.underlying t = some .bool) (d : Nat) (a b : Bool) (w : World) : (Op.equalIn (d + 1) t (.bool a) (.bool b)).run P w = .ok (a == b) w := by
  simp [Op.equalIn, run_underlying hu]
theorem run_eql_bool {P : Program} {t : TypeId} (hu : P.underlying t = some .bool) (a b : Bool) (w : World) (ox oy : Operand) : (do eqGuard .eql t ox oy (.bool a) (.bool b); binOp .eql t (.bool a) (.bool b) : Sem Value).run P w = .ok (.bool (a == b)) w := by
  have := run_equalIn_bool hu 9999 a b w
  simp only [eqGuard, binOp, Op.equal, Op.maxDepth, Sem.run_bind, Sem.run_pure, Result.andThen_ok, Bool.not_true, Bool.false_eq_true, if_false]
  rw [this]; rfl
theorem run_neq_bool {P : Program} {t : TypeId} (hu : P.underlying t = some .bool) (a b : Bool) (w : World) (ox oy : Operand) : (do eqGuard .neq t ox oy (.bool a) (.bool b); binOp .neq t (.bool a) (.bool b) : Sem Value).run P w = .ok (.bool (!(a == b))) w := by
  have := run_equalIn_bool hu 9999 a b w
  simp only [eqGuard, binOp, Op.equal, Op.maxDepth, Sem.run_bind, Sem.run_pure, Result.andThen_ok, Bool.not_true, Bool.false_eq_true, if_false]
  rw [this]; rfl

theorem boolT_spec {t : TypeId} (h : boolT P t = true) : P.underlying t = some .bool := by
  unfold boolT at h; split at h
  · assumption
  · cases h

theorem q_sound {own : Bool} {slot : Nat} {o : Oper} {q : QOp} {xs : List Operand} (hc : compOp P own o slot = some (.q q, xs)) (hs : SimH G lo E H w) {ρ : Operand → Value} {avs : List AV} (ha : Reps E w avs (xs.map ρ)) {K : AV → Prop}
    (h : qsem q avs K) : QStep P G lo E H w (execOp ρ o) K := by
  obtain ⟨dst, op, type, pos, after, guard⟩ := o
  cases op with
  | move x =>
    simp only [compOp, Option.some.injEq, Prod.mk.injEq, Cls.q.injEq] at hc
    obtain ⟨rfl, rfl⟩ := hc
    obtain ⟨x, rfl, hx⟩ := reps_1 ha
    exact ⟨x, _, w, E, rfl, h, hx, hs, Evo.refl _ _ _⟩
  | assign x =>
    simp only [compOp] at hc
    split at hc
    · simp only [Option.bind_eq_some_iff] at hc
      obtain ⟨n, _, hc⟩ := hc
      split at hc <;> simp at hc
    · simp only [Option.some.injEq, Prod.mk.injEq, Cls.q.injEq] at hc
      obtain ⟨rfl, rfl⟩ := hc
      obtain ⟨x, rfl, hx⟩ := reps_1 ha
      exact ⟨x, _, w, E, rfl, h, hx, hs, Evo.refl _ _ _⟩
  | pick c a b =>
    simp only [compOp, Option.some.injEq, Prod.mk.injEq, Cls.q.injEq] at hc
    obtain ⟨rfl, rfl⟩ := hc
    obtain ⟨x, y, z, rfl, hx, hy, hz⟩ := reps_3 ha
    obtain ⟨t, rfl, hK⟩ := onBool_inv h
    have e := hx.imm_inv
    cases t
    · exact ⟨_, ρ b, w, E, by simp [execOp, e, asBool], hK, hz, hs, Evo.refl _ _ _⟩
    · exact ⟨_, ρ a, w, E, by simp [execOp, e, asBool], hK, hy, hs, Evo.refl _ _ _⟩
  | alloc e =>
    simp only [compOp, Option.bind_eq_some_iff] at hc
    obtain ⟨i, _, z, _, hc⟩ := hc
    split at hc <;> simp at hc
  | box e x => simp [compOp] at hc
  | build t parts =>
    simp only [compOp] at hc
    split at hc
    · rename_i fs hu
      simp only [Option.bind_eq_some_iff] at hc
      obtain ⟨it, hi, z, hz, pl, hpl, places, hp, hc⟩ := hc
      split at hc
      · rename_i hok
        simp only [Option.some.injEq, Prod.mk.injEq, Cls.q.injEq] at hc
        obtain ⟨rfl, rfl⟩ := hc
        refine QDone.step (build_done hs (t := t) (parts := parts.map fun (p : Nat × Operand) => (p.1, ρ p.2)) (place := fun i => pl[i]?) hi hz hok ?_ ?_ ?_ h) (by simp [execOp])
        · have := mapM_some _ _ _ hp
          simp only [Array.toList_map, List.map_map]
          rw [← this]
          rfl
        · intro cells hcells
          simp only [Program.built, hi, hu, hz, hpl]
          simpa using hcells
        · rw [List.map_map] at ha; rw [Array.toList_map, List.map_map]; exact ha
      · cases hc
    · rename_i n e hu
      simp only [Option.bind_eq_some_iff] at hc
      obtain ⟨it, hi, z, hz, n', hsz, hc⟩ := hc
      split at hc
      · rename_i hok
        simp only [Option.some.injEq, Prod.mk.injEq, Cls.q.injEq] at hc
        obtain ⟨rfl, rfl⟩ := hc
        obtain ⟨ie, hie, rfl⟩ := szOf_some hsz
        refine QDone.step (build_done hs (t := t) (parts := parts.map fun (p : Nat × Operand) => (p.1, ρ p.2)) (place := fun i => some (i * ie.size, ie.size)) hi hz hok ?_ ?_ ?_ h) (by simp [execOp])
        · simp [List.map_map, Function.comp]
        · intro cells hcells
          simp only [Program.built, hi, hu, hz, hie]
          exact hcells
        · rw [List.map_map] at ha; rw [Array.toList_map, List.map_map]; exact ha
      · cases hc
    · cases hc
  | buildSlice t len parts =>
    simp only [compOp] at hc
    split at hc
    · rename_i e hu
      simp only [Option.bind_eq_some_iff] at hc
      obtain ⟨i, hi, z, hz, hc⟩ := hc
      split at hc
      · rename_i hp
        split at hc
        · simp at hc
        · simp only [Option.some.injEq, Prod.mk.injEq, Cls.q.injEq] at hc
          obtain ⟨rfl, rfl⟩ := hc
          exact QDone.step (bslice_done hs (parts := parts.map fun (p : Nat × Operand) => (p.1, ρ p.2)) hu hi hz (by rw [← hp.1]; simp [List.map_map, Function.comp]) hp.2 (by rw [List.map_map] at ha; rw [Array.toList_map, List.map_map]; exact ha) h) (by simp [execOp])
      · cases hc
    · cases hc
  | load t x =>
    simp only [compOp] at hc
    split at hc
    · split at hc <;> simp at hc
    · cases hc
  | store t a x => simp [compOp, Option.map_eq_some_iff] at hc
  | nilCheck x =>
    simp only [compOp, Option.some.injEq, Prod.mk.injEq, Cls.q.injEq] at hc
    obtain ⟨rfl, rfl⟩ := hc
    obtain ⟨x', rfl, hx⟩ := reps_1 ha
    change nilchkSem x' K at h
    unfold nilchkSem at h
    split at h
    · refine ⟨_, ρ x, w, E, ?_, h, hx, hs, Evo.refl _ _ _⟩
      generalize hv : ρ x = v at hx
      cases hx with
      | ptr _ _ b hb => simp [execOp, hv]
    · refine ⟨_, ρ x, w, E, ?_, h, hx, hs, Evo.refl _ _ _⟩
      generalize hv : ρ x = v at hx
      cases hx with
      | rptr _ _ ad us h1 h2 h3 => simp [execOp, hv]
    · refine ⟨_, ρ x, w, E, ?_, h, hx, hs, Evo.refl _ _ _⟩
      generalize hv : ρ x = v at hx
      cases hx with
      | fn _ _ _ us vs h1 h2 => simp [execOp, hv]
    · exact h.elim
  | binOp op t x y yt =>
    have go : ∀ op', (∀ x' y', avs = [x', y'] → Rep E w x' (ρ x) → Rep E w y' (ρ y) → binsem op' t x' y' K → QStep P G lo E H w (execOp ρ ⟨dst, .binOp op' t x y yt, type, pos, after, guard⟩) K) := by
      intro op' x' y' e hx hy h
      obtain ⟨r, z, hr, hK, hrep⟩ := bin_sound (P := P) hx hy h x y
      exact ⟨r, z, w, E, by simp only [Sem.run_bind] at hr; simp only [execOp, Sem.run_bind, hr, Result.andThen_ok]; rfl, hK, hrep, hs, Evo.refl _ _ _⟩
    simp only [compOp] at hc
    split at hc
    · split at hc
      · rename_i hp
        simp only [Option.some.injEq, Prod.mk.injEq, Cls.q.injEq] at hc
        obtain ⟨rfl, rfl⟩ := hc
        obtain ⟨x', y', rfl, hx, hy⟩ := reps_2 ha
        exact QDone.step (eqA_done hs hp hx hy h x y) (by simp only [execOp, Sem.run_bind, Bool.false_eq_true, if_false]; rfl)
      · simp only [Option.some.injEq, Prod.mk.injEq, Cls.q.injEq] at hc
        obtain ⟨rfl, rfl⟩ := hc
        obtain ⟨x', y', rfl, hx, hy⟩ := reps_2 ha
        unfold eqOp at h
        split at h
        · rename_i hbt
          have hu := boolT_spec hbt
          obtain ⟨a, rfl, h⟩ := onBool_inv h
          obtain ⟨b, rfl, h⟩ := onBool_inv h
          have hx := hx.imm_inv
          have hy := hy.imm_inv
          have hr := run_eql_bool hu a b w x y
          simp only [Sem.run_bind] at hr
          exact ⟨_, .bool (a == b), w, E, by simp only [execOp, hx, hy, Sem.run_bind, hr, Result.andThen_ok]; rfl, h, .imm _ rfl, hs, Evo.refl _ _ _⟩
        · exact go _ x' y' rfl hx hy h
    · split at hc
      · rename_i hp
        simp only [Option.some.injEq, Prod.mk.injEq, Cls.q.injEq] at hc
        obtain ⟨rfl, rfl⟩ := hc
        obtain ⟨x', y', rfl, hx, hy⟩ := reps_2 ha
        exact QDone.step (eqA_done hs hp hx hy h x y) (by simp only [execOp, Sem.run_bind, if_true]; rfl)
      · simp only [Option.some.injEq, Prod.mk.injEq, Cls.q.injEq] at hc
        obtain ⟨rfl, rfl⟩ := hc
        obtain ⟨x', y', rfl, hx, hy⟩ := reps_2 ha
        unfold eqOp at h
        split at h
        · rename_i hbt
          have hu := boolT_spec hbt
          obtain ⟨a, rfl, h⟩ := onBool_inv h
          obtain ⟨b, rfl, h⟩ := onBool_inv h
          have hx := hx.imm_inv
          have hy := hy.imm_inv
          have hr := run_neq_bool hu a b w x y
          simp only [Sem.run_bind] at hr
          exact ⟨_, .bool (!(a == b)), w, E, by simp only [execOp, hx, hy, Sem.run_bind, hr, Result.andThen_ok]; rfl, h, .imm _ rfl, hs, Evo.refl _ _ _⟩
        · exact go _ x' y' rfl hx hy h
    · simp only [Option.some.injEq, Prod.mk.injEq, Cls.q.injEq] at hc
      obtain ⟨rfl, rfl⟩ := hc
      obtain ⟨x', y', rfl, hx, hy⟩ := reps_2 ha
      exact go _ x' y' rfl hx hy h
  | unOp op t x =>
    simp only [compOp, Option.some.injEq, Prod.mk.injEq, Cls.q.injEq] at hc
    obtain ⟨rfl, rfl⟩ := hc
    obtain ⟨x', rfl, hx⟩ := reps_1 ha
    obtain ⟨r, z, hr, hK, hrep⟩ := un_sound (P := P) hx h
    exact ⟨r, z, w, E, by simp [execOp, hr], hK, hrep, hs, Evo.refl _ _ _⟩
  | convert src dst x =>
    simp only [compOp] at hc
    split at hc
    · rename_i q' k e1 e2
      simp only [Option.some.injEq, Prod.mk.injEq, Cls.q.injEq] at hc
      obtain ⟨rfl, rfl⟩ := hc
      obtain ⟨x', rfl, hx⟩ := reps_1 ha
      exact QDone.step (convI_done hs e2 e1 hx h) (by simp [execOp])
    · rename_i e e1 e2
      split at hc
      · rename_i hu8
        simp only [Option.some.injEq, Prod.mk.injEq, Cls.q.injEq] at hc
        obtain ⟨rfl, rfl⟩ := hc
        obtain ⟨x', rfl, hx⟩ := reps_1 ha
        exact QDone.step (toStr_done hs e2 e1 (isU8_spec hu8) hx h) (by simp [execOp])
      · cases hc
    · rename_i k e1 e2
      simp only [Option.some.injEq, Prod.mk.injEq, Cls.q.injEq] at hc
      obtain ⟨rfl, rfl⟩ := hc
      obtain ⟨x', rfl, hx⟩ := reps_1 ha
      exact QDone.step (runeStr_done hs e2 e1 hx h) (by simp [execOp])
    · rename_i e1 e2
      simp only [Option.some.injEq, Prod.mk.injEq, Cls.q.injEq] at hc
      obtain ⟨rfl, rfl⟩ := hc
      obtain ⟨x', rfl, hx⟩ := reps_1 ha
      exact QDone.step (strId_done hs e2 e1 hx h) (by simp [execOp])
    · rename_i e e1 e2
      split at hc
      · rename_i hu8
        simp only [Option.some.injEq, Prod.mk.injEq, Cls.q.injEq] at hc
        obtain ⟨rfl, rfl⟩ := hc
        obtain ⟨x', rfl, hx⟩ := reps_1 ha
        exact QDone.step (toBytes_done hs e2 e1 (isU8_spec hu8) hx h) (by simp [execOp])
      · cases hc
    · cases hc
  | sliceToArrayPointer arr x =>
    simp only [compOp] at hc
    split at hc
    · rename_i n e hu
      simp only [Option.some.injEq, Prod.mk.injEq, Cls.q.injEq] at hc
      obtain ⟨rfl, rfl⟩ := hc
      obtain ⟨x', rfl, hx⟩ := reps_1 ha
      exact QDone.step (s2a_done hs hu hx h) (by simp [execOp])
    · cases hc
  | makeInterface t x =>
    simp only [compOp] at hc
    split at hc
    · cases hc
    · rename_i d hd hu
      simp only [Option.some.injEq, Prod.mk.injEq, Cls.q.injEq] at hc
      obtain ⟨rfl, rfl⟩ := hc
      obtain ⟨x', rfl, hx⟩ := reps_1 ha
      exact QDone.step (mkiface_done hs hu (fun ms e => hd ms e) hx h) (by simp [execOp])
    · cases hc
  | makeFunc fn first cap =>
    simp only [compOp, Option.some.injEq, Prod.mk.injEq, Cls.q.injEq] at hc
    obtain ⟨rfl, rfl⟩ := hc
    rw [List.map_append] at ha
    have h1 := ha.take first.size
    have h2 := ha.drop first.size
    rw [List.take_left' (by simp)] at h1
    rw [List.drop_left' (by simp)] at h2
    refine ⟨_, _, w, E, rfl, h, ?_, hs, Evo.refl _ _ _⟩
    have h3 := Rep.fn fn _ _ _ _ h1 h2
    have e1 : ∀ a : Array Operand, (List.map ρ a.toList).toArray = a.map ρ := fun a => by apply Array.ext'; simp
    rw [e1, e1] at h3
    exact h3
  | fieldAddr t x f =>
    simp only [compOp] at hc
    split at hc
    · rename_i fs hu
      simp only [Option.bind_eq_some_iff] at hc
      obtain ⟨fd, hf, n, hsz, hc⟩ := hc
      split at hc
      · cases hc
      · rename_i hn
        simp only [Option.some.injEq, Prod.mk.injEq, Cls.q.injEq] at hc
        obtain ⟨rfl, rfl⟩ := hc
        obtain ⟨x', rfl, hx⟩ := reps_1 ha
        exact QDone.step (faddr_done hs hu hf hsz hn hx h) (by simp [execOp])
    · cases hc
  | field t x f =>
    simp only [compOp] at hc
    split at hc
    · rename_i fs hu
      simp only [Option.bind_eq_some_iff, Option.map_eq_some_iff] at hc
      obtain ⟨fd, hf, n, hsz, d, hd, hc⟩ := hc
      split at hc
      · rename_i hag
        simp only [Prod.mk.injEq, Cls.q.injEq] at hc
        obtain ⟨rfl, rfl⟩ := hc
        obtain ⟨x', rfl, hx⟩ := reps_1 ha
        exact QDone.step (fldA_done hs hu hf hsz hd hag hx h) (by simp [execOp])
      · rename_i hag
        simp only [Prod.mk.injEq, Cls.q.injEq] at hc
        obtain ⟨rfl, rfl⟩ := hc
        obtain ⟨x', rfl, hx⟩ := reps_1 ha
        exact QDone.step (fld1_done hs hu hf hd (by simpa using hag) hx h) (by simp [execOp])
    · cases hc
  | indexAddr t x i =>
    simp only [compOp] at hc
    split at hc
    · rename_i e hu
      simp only [Option.bind_eq_some_iff] at hc
      obtain ⟨n, hsz, hc⟩ := hc
      split at hc
      · cases hc
      · rename_i hn
        simp only [Option.some.injEq, Prod.mk.injEq, Cls.q.injEq] at hc
        obtain ⟨rfl, rfl⟩ := hc
        obtain ⟨x', y', rfl, hx, hy⟩ := reps_2 ha
        exact QDone.step (iaddrS_done hs hu hsz hx hy h (by omega)) (by simp [execOp])
    · rename_i len e hu
      simp only [Option.map_eq_some_iff, Prod.mk.injEq, Cls.q.injEq] at hc
      obtain ⟨n, hsz, rfl, rfl⟩ := hc
      obtain ⟨x', y', rfl, hx, hy⟩ := reps_2 ha
      exact QDone.step (iaddrA_done hs hu hsz hx hy h) (by simp [execOp])
    · cases hc
  | index t x i =>
    simp only [compOp] at hc
    split at hc
    · rename_i hu
      simp only [Option.some.injEq, Prod.mk.injEq, Cls.q.injEq] at hc
      obtain ⟨rfl, rfl⟩ := hc
      obtain ⟨x', y', rfl, hx, hy⟩ := reps_2 ha
      exact QDone.step (idxS_done hs hu hx hy h) (by simp [execOp])
    · rename_i len e hu
      simp only [Option.bind_eq_some_iff] at hc
      obtain ⟨n, hsz, d, hd, hc⟩ := hc
      split at hc
      · rename_i hag
        simp only [Option.some.injEq, Prod.mk.injEq, Cls.q.injEq] at hc
        obtain ⟨rfl, rfl⟩ := hc
        obtain ⟨x', y', rfl, hx, hy⟩ := reps_2 ha
        exact QDone.step (idxA_done hs hu hsz hd hag hx hy h) (by simp [execOp])
      · rename_i hag
        split at hc
        · rename_i h1
          subst h1
          simp only [Option.some.injEq, Prod.mk.injEq, Cls.q.injEq] at hc
          obtain ⟨rfl, rfl⟩ := hc
          obtain ⟨x', y', rfl, hx, hy⟩ := reps_2 ha
          exact QDone.step (idx1_done hs hu hsz hd (by simpa using hag) hx hy h) (by simp [execOp])
        · cases hc
    · cases hc
  | slice t x lo hi mx =>
    simp only [compOp] at hc
    split at hc
    · rename_i hu
      split at hc
      · cases hc
      · rename_i hm
        simp only [Option.some.injEq, Prod.mk.injEq, Cls.q.injEq] at hc
        obtain ⟨rfl, rfl⟩ := hc
        have hm' : mx = none := by cases mx <;> simp_all
        subst hm'
        simp only [List.map_cons, List.map_append, optList_map] at ha
        obtain ⟨x', bs, rfl, hx, hb⟩ := reps_c ha
        rw [show lo.isSome = (lo.map ρ).isSome by cases lo <;> rfl, show hi.isSome = (hi.map ρ).isSome by cases hi <;> rfl] at h
        exact QDone.step (sliceS_done hs hu hx hb h) (by simp [execOp])
    · rename_i e hu
      simp only [Option.map_eq_some_iff, Prod.mk.injEq, Cls.q.injEq] at hc
      obtain ⟨n, hsz, rfl, rfl⟩ := hc
      simp only [List.map_cons, List.map_append, optList_map] at ha
      obtain ⟨x', bs, rfl, hx, hb⟩ := reps_c ha
      rw [show lo.isSome = (lo.map ρ).isSome by cases lo <;> rfl, show hi.isSome = (hi.map ρ).isSome by cases hi <;> rfl, show mx.isSome = (mx.map ρ).isSome by cases mx <;> rfl] at h
      exact QDone.step (sliceL_done hs hu hsz hx hb h) (by simp [execOp])
    · split at hc
      · cases hc
      · split at hc <;> simp at hc
    · cases hc
  | extract x i =>
    simp only [compOp, Option.some.injEq, Prod.mk.injEq, Cls.q.injEq] at hc
    obtain ⟨rfl, rfl⟩ := hc
    obtain ⟨x', rfl, hx⟩ := reps_1 ha
    exact QDone.step (ext_done hs hx h) (by simp [execOp])
  | call c =>
    obtain ⟨callee, args, argTypes⟩ := c
    cases callee with
    | value f => simp [compOp] at hc
    | invoke r m => simp [compOp] at hc
    | builtin b =>
      cases b with
      | len =>
        simp only [compOp] at hc
        split at hc
        · rename_i t x e1 e2
          obtain ⟨args⟩ := args
          obtain ⟨argTypes⟩ := argTypes
          simp only at e1 e2
          subst e1 e2
          have key : ∀ q, ((P.underlying t = some .string ∧ q = .lenS) ∨ (∃ e, P.underlying t = some (.slice e) ∧ q = .lenL) ∨ (∃ n e, P.underlying t = some (.array n e) ∧ q = .lenC n) ∨
              (∃ a n e, P.underlying t = some (.pointer a) ∧ P.underlying a = some (.array n e) ∧ q = .lenC n)) → ∀ x', avs = [x'] → Rep E w x' (ρ x) → qsem q [x'] K → QStep P G lo E H w (execOp ρ ⟨dst, .call ⟨.builtin .len, #[x], #[t]⟩, type, pos, after, guard⟩) K := by
            intro q hq x' e hx h
            exact QDone.step (len_done (ty := type) hs hq hx h) (by simp [execOp, resolve, invoke, builtin])
          split at hc
          · rename_i hu
            simp only [Option.some.injEq, Prod.mk.injEq, Cls.q.injEq] at hc
            obtain ⟨rfl, rfl⟩ := hc
            obtain ⟨x', rfl, hx⟩ := reps_1 ha
            exact key _ (.inl ⟨hu, rfl⟩) x' rfl hx h
          · rename_i hu
            simp only [Option.some.injEq, Prod.mk.injEq, Cls.q.injEq] at hc
            obtain ⟨rfl, rfl⟩ := hc
            obtain ⟨x', rfl, hx⟩ := reps_1 ha
            exact key _ (.inr (.inl ⟨_, hu, rfl⟩)) x' rfl hx h
          · rename_i hu
            simp only [Option.some.injEq, Prod.mk.injEq, Cls.q.injEq] at hc
            obtain ⟨rfl, rfl⟩ := hc
            obtain ⟨x', rfl, hx⟩ := reps_1 ha
            exact key _ (.inr (.inr (.inl ⟨_, _, hu, rfl⟩))) x' rfl hx h
          · rename_i hu
            split at hc
            · rename_i hu2
              simp only [Option.some.injEq, Prod.mk.injEq, Cls.q.injEq] at hc
              obtain ⟨rfl, rfl⟩ := hc
              obtain ⟨x', rfl, hx⟩ := reps_1 ha
              exact key _ (.inr (.inr (.inr ⟨_, _, _, hu, hu2, rfl⟩))) x' rfl hx h
            · cases hc
          · cases hc
        · cases hc
      | append =>
        simp only [compOp] at hc
        split at hc
        · split at hc
          · simp only [Option.bind_eq_some_iff] at hc
            obtain ⟨_, _, _, _, hc⟩ := hc
            split at hc <;> simp at hc
          · cases hc
        · cases hc
      | max =>
        simp only [compOp] at hc
        split at hc
        · rename_i x y e1
          obtain ⟨args⟩ := args
          simp only at e1
          subst e1
          simp only [Option.some.injEq, Prod.mk.injEq, Cls.q.injEq] at hc
          obtain ⟨rfl, rfl⟩ := hc
          obtain ⟨x', y', rfl, hx, hy⟩ := reps_2 ha
          exact QDone.step (max_done (ts := argTypes) (ty := type) hs hx hy h) (by simp [execOp, resolve, invoke, builtin])
        · cases hc
      | min =>
        simp only [compOp] at hc
        split at hc
        · rename_i x y e1
          obtain ⟨args⟩ := args
          simp only at e1
          subst e1
          simp only [Option.some.injEq, Prod.mk.injEq, Cls.q.injEq] at hc
          obtain ⟨rfl, rfl⟩ := hc
          obtain ⟨x', y', rfl, hx, hy⟩ := reps_2 ha
          exact QDone.step (min_done (ts := argTypes) (ty := type) hs hx hy h) (by simp [execOp, resolve, invoke, builtin])
        · cases hc
      | _ => simp [compOp] at hc
  | _ => simp [compOp] at hc

end
end Go.AL
