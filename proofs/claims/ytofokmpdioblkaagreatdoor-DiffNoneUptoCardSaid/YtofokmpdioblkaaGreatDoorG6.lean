/- Operations that look at boxes, make them, or turn them. -/
import Derived.Test.YtofokmpdioblkaaGreatDoorG4
import Derived.Test.YtofokmpdioblkaaGreatDoorG5
import Derived.Laws.MakeOwn
set_option linter.unusedSimpArgs false
set_option linter.unusedVariables false
namespace Go.AL
open Go Go.RowKit
section
variable {P : Program} {G : Nat → Option (List AV)} {lo : Nat} {E : Env} {H : List AObj} {w : World}
theorem behind_rep (hs : SimH G lo E H w) {x : AV} {v : Value} (hx : Rep E w x v) {look : Nat → Option AObj} (hl : ∀ id o, look id = some o → H[id]? = some o) {K : List AV → Nat → Prop} (h : behind x look K) :
    ∃ ad cs us off, v = .pointer (some (Addr.add ad off)) ∧ K cs off ∧ Reps E w cs us ∧ (∀ u ∈ us, u.oneCell' = true) ∧ ∀ j u, us[j]? = some u → w.cell? (ad.add j) = some u := by
  unfold behind at h
  split at h
  · cases hx with
    | rptr _ _ ad us h1 h2 h3 => exact ⟨ad, _, us, _, rfl, h, h1, h2, fun j u hu => (h3 j u hu).1⟩
  · rename_i id off
    obtain ⟨cs, hb, hK⟩ := onBox_inv h
    cases hx with
    | ptr _ _ b hb' =>
      have key : ∀ ty us, w.heap[b]? = some (.cells (List.toArray us) ty (0, 0)) → Reps E w cs us → (∀ u ∈ us, u.oneCell' = true) → ∃ ad cs us off', Value.pointer (some ⟨b, off, none⟩) = .pointer (some (Addr.add ad off')) ∧ K cs off' ∧ Reps E w cs us ∧ (∀ u ∈ us, u.oneCell' = true) ∧ ∀ j u, us[j]? = some u → w.cell? (ad.add j) = some u := by
        intro ty us h1 h2 h3
        refine ⟨⟨b, 0, none⟩, cs, us, off, by rw [Addr.add_lit]; simp, hK, h2, h3, fun j u hu => ?_⟩
        rw [Addr.add_lit, Nat.zero_add, cell_of_row _ _ _ _ _ _ h1]
        simpa using hu
      rcases hb with hb | hb
      · obtain ⟨b', ty, us, e1, e2, e3, e4, e5, e6, e7⟩ := hs.objs id _ (hl _ _ hb)
        rw [hb'] at e1
        cases e1
        exact key ty us e4 e5 e6
      · obtain ⟨b', ty, us, e1, e2, e3, e4, e5, e6, e7⟩ := hs.objs id _ (hl _ _ hb)
        rw [hb'] at e1
        cases e1
        exact key ty us e4 e5 e6
  · rename_i id ver size i
    obtain ⟨e, sz, ver', xs, hl', rfl, rfl, h'⟩ := onRow_inv h
    obtain ⟨x, hxi, hK⟩ := onSome_inv h'
    obtain ⟨B, e1, e2, e3⟩ := hs.objs id _ (hl _ _ hl')
    cases hx with
    | rp _ _ _ _ A k =>
      obtain ⟨m, b, k1, k2, k3⟩ := k
      rw [e2] at k1
      cases k1
      have k4 := k3 rfl
      cases B with
      | none => exact k4.elim
      | some p =>
        obtain ⟨g, cap⟩ := p
        obtain rfl : A = ⟨g, i * sz, none⟩ := k4
        obtain ⟨h4, cur, us, h5, h6, h7, h8, h9, h9a, h10, h11, h12⟩ := e3
        have hel := reps_elem h9a h9 hxi
        refine ⟨⟨g, i * sz, none⟩, x.cells, _, 0, by rw [Addr.add_lit]; rfl, hK, hel, fun u hu => h10 u (List.mem_of_mem_drop (List.mem_of_mem_take hu)), fun j u hu => ?_⟩
        rw [Addr.add_lit, cell_of_row _ _ _ _ _ _ h5]
        have hj : j < sz := by
          have := (List.getElem?_eq_some_iff.1 hu).1
          simp at this
          omega
        rw [List.getElem?_take_of_lt hj, List.getElem?_drop] at hu
        exact h11 _ u hu
  · exact h.elim
theorem l_sound {own : Bool} {slot : Nat} {o : Oper} {q : LOp} {xs : List Operand} (hc : compOp P own o slot = some (.l q, xs)) (hs : SimH G lo E H w) {ρ : Operand → Value} {avs : List AV} (ha : Reps E w avs (xs.map ρ))
    {look : Nat → Option AObj} (hl : ∀ id o, look id = some o → H[id]? = some o) {K : AV → Prop} (h : lsem q avs look K) : QStep P G lo E H w (execOp ρ o) K := by
  obtain ⟨dst, op, type, pos, after, guard⟩ := o
  have fin : ∀ t x, compOp P own ⟨dst, .load t x, type, pos, after, guard⟩ slot = some (.l q, xs) → QStep P G lo E H w (execOp ρ ⟨dst, .load t x, type, pos, after, guard⟩) K := by
    intro t x hc
    simp only [compOp] at hc
    split at hc
    · rename_i d n hu hsz
      obtain ⟨i, hi, rfl⟩ := szOf_some hsz
      split at hc
      · rename_i hag
        simp only [Option.some.injEq, Prod.mk.injEq, Cls.l.injEq] at hc
        obtain ⟨rfl, rfl⟩ := hc
        obtain ⟨x', rfl, hx⟩ := reps_1 ha
        obtain ⟨ad, cs, us, off, hv, ⟨h1, hK⟩, h2, h3, h4⟩ := behind_rep hs hx hl h
        have hlen : us.length = cs.length := h2.length
        have hload := run_loadCells_list (P := P) w (ad.add off) ((us.drop off).take i.size) (fun j u hu => by
          have hj : j < i.size := by
            have := (List.getElem?_eq_some_iff.1 hu).1
            rw [List.length_take] at this
            omega
          rw [List.getElem?_take_of_lt hj, List.getElem?_drop] at hu
          rw [add_add]
          exact h4 _ u hu)
        rw [List.length_take, List.length_drop, Nat.min_eq_left (by omega)] at hload
        refine ⟨_, .agg ((us.drop off).take i.size).toArray, w, E, ?_, hK, .agg _ _ ((h2.drop _).take _) fun u hu => h3 u (List.mem_of_mem_drop (List.mem_of_mem_take hu)), hs, Evo.refl _ _ _⟩
        have hv' := hv
        cases d <;> simp [aggD] at hag <;> simp [execOp, Instr.loadAt, hv, Instr.sureAddr, loadVar, isAgg, run_underlying hu, sizeOf, typeInfo, hi, hload]
      · rename_i hag
        simp only [Option.some.injEq, Prod.mk.injEq, Cls.l.injEq] at hc
        obtain ⟨rfl, rfl⟩ := hc
        obtain ⟨x', rfl, hx⟩ := reps_1 ha
        obtain ⟨ad, cs, us, off, hv, h1, h2, h3, h4⟩ := behind_rep hs hx hl h
        obtain ⟨c, hcs, hK⟩ := onSome_inv h1
        obtain ⟨u, hu', hrep⟩ := h2.get _ _ hcs
        refine ⟨_, u, w, E, ?_, hK, hrep, hs, Evo.refl _ _ _⟩
        have hcell := h4 _ _ hu'
        cases d <;> simp [aggD] at hag <;> simp [execOp, Instr.loadAt, hv, Instr.sureAddr, loadVar, isAgg, run_underlying hu, hcell]
    · cases hc
  cases op with
  | lookup t x k ok =>
    simp only [compOp, Option.map_eq_some_iff, Prod.mk.injEq, Cls.l.injEq] at hc
    obtain ⟨⟨ks, zv⟩, hi, rfl, rfl⟩ := hc
    obtain ⟨m', k', rfl, hm, hk⟩ := reps_2 ha
    obtain ⟨id, rfl, h'⟩ := onMp_inv (show onMp m' _ from h)
    obtain ⟨ks', zv', es, hlk, rfl, rfl, h''⟩ := onMap_inv h'
    obtain ⟨kv, hkv, hK⟩ := onSome_inv h''
    obtain ⟨e1, e2⟩ := keyVal_rep hkv hk
    obtain ⟨v, hr, hrep⟩ := look_run hs hi (hl _ _ hlk) hm e2 ok
    exact ⟨_, v, w, E, by simp [execOp, e1, hr], hK, hrep, hs, Evo.refl _ _ _⟩
  | mapEntry => simp [compOp, Option.map_eq_some_iff] at hc
  | entryStore => simp [compOp, Option.map_eq_some_iff] at hc
  | mapUpdate => simp [compOp, Option.map_eq_some_iff] at hc
  | makeMap t r => cases r <;> simp [compOp, Option.map_eq_some_iff] at hc
  | load t x => exact fin t x hc
  | move => simp [compOp] at hc
  | assign x =>
    simp only [compOp] at hc
    split at hc
    · simp only [Option.bind_eq_some_iff] at hc
      obtain ⟨n, _, hc⟩ := hc
      split at hc <;> simp at hc
    · simp at hc
  | pick => simp [compOp] at hc
  | alloc e =>
    simp only [compOp, Option.bind_eq_some_iff] at hc
    obtain ⟨i, _, z, _, hc⟩ := hc
    split at hc <;> simp at hc
  | box => simp [compOp] at hc
  | build t parts =>
    simp only [compOp] at hc
    split at hc
    · simp only [Option.bind_eq_some_iff] at hc
      obtain ⟨_, _, _, _, _, _, _, _, hc⟩ := hc
      split at hc <;> simp at hc
    · simp only [Option.bind_eq_some_iff] at hc
      obtain ⟨_, _, _, _, _, _, hc⟩ := hc
      split at hc <;> simp at hc
    · cases hc
  | buildSlice t len parts =>
    simp only [compOp] at hc
    split at hc
    · simp only [Option.bind_eq_some_iff] at hc
      obtain ⟨_, _, _, _, hc⟩ := hc
      split at hc
      · split at hc <;> simp at hc
      · cases hc
    · cases hc
  | store => simp [compOp, Option.map_eq_some_iff] at hc
  | nilCheck => simp [compOp] at hc
  | binOp op t x y yt =>
    simp only [compOp] at hc
    split at hc
    · split at hc <;> simp at hc
    · split at hc <;> simp at hc
    · simp at hc
  | unOp => simp [compOp] at hc
  | convert src dst x =>
    simp only [compOp] at hc
    split at hc
    · simp at hc
    · split at hc <;> simp at hc
    · simp at hc
    · simp at hc
    · split at hc <;> simp at hc
    · split at hc <;> simp at hc
    · simp at hc
  | sliceToArrayPointer => simp only [compOp] at hc; split at hc <;> simp at hc
  | makeInterface => simp only [compOp] at hc; split at hc <;> simp at hc
  | makeFunc => simp [compOp] at hc
  | fieldAddr =>
    simp only [compOp] at hc
    split at hc
    · simp only [Option.bind_eq_some_iff] at hc
      obtain ⟨_, _, _, _, hc⟩ := hc
      split at hc <;> simp at hc
    · cases hc
  | field =>
    simp only [compOp] at hc
    split at hc
    · simp only [Option.bind_eq_some_iff, Option.map_eq_some_iff] at hc
      obtain ⟨_, _, _, _, _, _, hc⟩ := hc
      split at hc <;> simp at hc
    · cases hc
  | indexAddr =>
    simp only [compOp] at hc
    split at hc
    · simp only [Option.bind_eq_some_iff] at hc
      obtain ⟨_, _, hc⟩ := hc
      split at hc <;> simp at hc
    · simp [Option.map_eq_some_iff] at hc
    · cases hc
  | index =>
    simp only [compOp] at hc
    split at hc
    · simp at hc
    · simp only [Option.bind_eq_some_iff] at hc
      obtain ⟨_, _, _, _, hc⟩ := hc
      split at hc
      · simp at hc
      · split at hc <;> simp at hc
    · cases hc
  | slice =>
    simp only [compOp] at hc
    split at hc
    · split at hc <;> simp at hc
    · simp [Option.map_eq_some_iff] at hc
    · split at hc
      · cases hc
      · split at hc
        · split at hc <;> simp at hc
        · cases hc
    · cases hc
  | makeSlice t l c =>
    simp only [compOp] at hc
    split at hc
    · simp only [Option.bind_eq_some_iff] at hc
      obtain ⟨_, _, _, _, hc⟩ := hc
      split at hc
      · split at hc <;> simp at hc
      · cases hc
    · cases hc
  | extract => simp [compOp] at hc
  | call c =>
    obtain ⟨callee, args, argTypes⟩ := c
    simp only [compOp] at hc
    split at hc
    · simp at hc
    · split at hc
      · rename_i t x e1 e2
        obtain ⟨args⟩ := args
        obtain ⟨argTypes⟩ := argTypes
        simp only at e1 e2
        subst e1 e2
        split at hc
        · simp at hc
        · simp at hc
        · rename_i kt et hu
          simp only [Option.some.injEq, Prod.mk.injEq, Cls.l.injEq] at hc
          obtain ⟨rfl, rfl⟩ := hc
          obtain ⟨m', rfl, hm⟩ := reps_1 ha
          obtain ⟨id, rfl, h'⟩ := onMp_inv (show onMp m' _ from h)
          obtain ⟨ks, zv, es, hlk, hK⟩ := onMap_inv h'
          have hr := mlen_run (P := P) (ty := type) hs hu (hl _ _ hlk) hm
          exact ⟨_, .int .i64 es.length, w, E, by simp [execOp, resolve, invoke, builtin, hr], hK, .imm _ rfl, hs, Evo.refl _ _ _⟩
        · simp at hc
        · split at hc <;> simp at hc
        · cases hc
      · cases hc
    · split at hc
      · split at hc
        · simp only [Option.bind_eq_some_iff] at hc
          obtain ⟨_, _, _, _, hc⟩ := hc
          split at hc <;> simp at hc
        · cases hc
      · cases hc
    · split at hc
      · split at hc
        · simp [Option.map_eq_some_iff] at hc
        · cases hc
      · cases hc
    · split at hc
      · split at hc
        · simp only [Option.bind_eq_some_iff] at hc
          obtain ⟨_, _, _, _, hc⟩ := hc
          split at hc <;> simp at hc
        · cases hc
      · cases hc
    · split at hc <;> simp at hc
    · split at hc <;> simp at hc
    · split at hc <;> simp at hc
    · split at hc <;> simp at hc
    · cases hc
  | _ => simp [compOp] at hc
theorem Reps.nil_inv' {xs : List AV} (h : Reps E w xs []) : xs = [] := by cases h; rfl
theorem newBox (hs : SimH G lo E H w) {id : Nat} (hid : H[id]? = some .hole) (ty : TypeId) (cs : List AV) (us : List Value) (h1 : Reps E w cs us) (h2 : ∀ u ∈ us, u.oneCell' = true) :
    ∃ E', SimH G lo E' (H.set id (.box cs)) (w.alloc (.cells us.toArray ty)) ∧ Evo lo E w E' (w.alloc (.cells us.toArray ty)) ∧ E'.bx id = some w.heap.size := by
  obtain ⟨k1, k2⟩ := hs.fresh (E' := { E with bx := fun k => if k = id then some w.heap.size else E.bx k }) ((Below.refl _ _).alloc (Nat.le_refl _) (.cells us.toArray ty)) hid (.box cs) (fun k hk => if_neg hk) (fun _ _ => rfl)
    (fun _ h => h) (fun _ h => .inl h) (fun b hb => by simp [Env.at] at hb; omega) (fun hE => ⟨w.heap.size, ty, us, if_pos rfl, (hs.objs id _ hid).2, hs.lo_le, heap_alloc_new w _, h1.mono hE, h2, fun a ha hb => by
      have := hs.inI a ha; omega⟩)
  exact ⟨_, k1, k2, if_pos rfl⟩
theorem zeroCells_list (z : Array Value) : ∀ n : Nat, (Builtin.zeroCells z n).toList = (List.replicate n z.toList).flatten
  | 0 => by simp [Builtin.zeroCells]
  | n + 1 => by
    rw [List.replicate_succ', List.flatten_append, ← zeroCells_list z n]
    simp only [Builtin.zeroCells, Array.toList_map, Array.toList_range, Nat.add_mul, Nat.one_mul, List.flatten_cons, List.flatten_nil, List.append_nil]
    rw [List.range_add, List.map_append]
    congr 1
    apply List.ext_getElem
    · simp
    · intro j h1 h2
      have hj : j < z.size := by simpa using h1
      simp only [List.map_map, List.getElem_map, List.getElem_range, Function.comp_apply, Array.getElem_toList]
      rw [show (n * z.size + j) % z.size = j by rw [Nat.add_comm, Nat.add_mul_mod_self_right, Nat.mod_eq_of_lt hj]]
      exact getElem!_pos z j hj
theorem zeros_rep {z : Value} (hz : constOk z = true) (n : Nat) : Reps E w (List.replicate n (constAV z).cells).flatten (List.replicate n z.cells.toList).flatten ∧ ∀ u ∈ (List.replicate n z.cells.toList).flatten, u.oneCell' = true := by
  obtain ⟨h1, h2⟩ := zero_rep (E := E) (w := w) hz
  induction n with
  | zero => exact ⟨.nil, fun u hu => by simp at hu⟩
  | succ n ih =>
    rw [List.replicate_succ, List.replicate_succ, List.flatten_cons, List.flatten_cons]
    exact ⟨h1.append ih.1, fun u hu => (List.mem_append.1 hu).elim (h2 u) (ih.2 u)⟩
theorem made_zero {z : Value} {n size : Nat} (h : z.cells.size = size) : (madeCells z.cells (n * size)).toList = (List.replicate n z.cells.toList).flatten := by
  rw [← zeroCells_list, ← h]; rfl
/-- What an operation that makes a box comes to. -/
theorem m_sound {own : Bool} {slot slot' : Nat} {o : Oper} {q : MOp} {xs : List Operand} (hc : compOp P own o slot = some (.m q slot', xs)) (hs : SimH G lo E H w) {id : Nat} (hid : H[id]? = some .hole) {ρ : Operand → Value} (hρ : ∀ v, ρ (.const v) = v) {avs : List AV} (ha : Reps E w avs (xs.map ρ))
    {K : AV → AObj → Prop} (h : msem q avs id K) : ∃ r ob v w' E', (execOp ρ o).run P w = .ok (.value v) w' ∧ K r ob ∧ Rep E' w' r v ∧ SimH G lo E' (H.set id ob) w' ∧ Evo lo E w E' w' := by
  obtain ⟨dst, op, type, pos, after, guard⟩ := o
  cases op with
  | load t x =>
    simp only [compOp] at hc
    split at hc
    · split at hc <;> simp at hc
    · cases hc
  | move => simp [compOp] at hc
  | assign x =>
    simp only [compOp] at hc
    split at hc
    · rename_i e hu
      simp only [Option.bind_eq_some_iff] at hc
      obtain ⟨n, hsz, hc⟩ := hc
      split at hc
      · rename_i hn
        simp only [Option.some.injEq, Prod.mk.injEq, Cls.m.injEq] at hc
        obtain ⟨⟨rfl, rfl⟩, rfl⟩ := hc
        rw [Reps.nil_inv' ha] at h
        obtain ⟨h1, h2⟩ := hs.fresh (E' := { E with tk := fun i => if i = id then some (0, none) else E.tk i }) (Below.refl _ _) hid (.tok e n 0) (fun _ _ => rfl) (fun i hi => if_neg hi) (fun _ h => h) (fun _ h => .inl h)
          (fun b hb => by simp [Env.at, (hs.objs id _ hid).1] at hb) (fun hE => ⟨none, (hs.objs id _ hid).1, if_pos rfl, rfl⟩)
        exact ⟨_, _, .slice none 0 0, w, _, by simp [execOp, hρ], h, .sl n [] (some id) none 0 [] (Nat.le_refl _) (by unfold maxLen; omega) (by simp) .nil (by simp) (by simp) ⟨0, none, if_pos rfl, Nat.le_refl _, fun _ => ⟨rfl, rfl⟩⟩, h1, h2⟩
      · cases hc
    · simp at hc
  | makeMap t r =>
    cases r with
    | some _ => simp [compOp] at hc
    | none =>
      simp only [compOp, Option.map_eq_some_iff, Prod.mk.injEq, Cls.m.injEq] at hc
      obtain ⟨⟨ks, zv⟩, hi, ⟨rfl, rfl⟩, rfl⟩ := hc
      rw [Reps.nil_inv' ha] at h
      obtain ⟨_, _, _, _, _, _, _, hz⟩ := mapInfo_inv hi
      obtain ⟨v, w', E', hr, h1, h2, h3⟩ := mkmap_run (P := P) hs hid t ks hz
      exact ⟨_, _, v, w', E', by simp [execOp, hr], h, h1, h2, h3⟩
  | makeSlice t l c =>
    simp only [compOp] at hc
    split at hc
    · rename_i e hu
      simp only [Option.bind_eq_some_iff] at hc
      obtain ⟨i, hi, z, hz, hc⟩ := hc
      split at hc
      · rename_i hzz
        obtain ⟨hzo, hzs⟩ := hzz
        split at hc
        · simp only [Option.some.injEq, Prod.mk.injEq, Cls.m.injEq] at hc
          obtain ⟨⟨rfl, rfl⟩, rfl⟩ := hc
          obtain ⟨l', c', rfl, hl, hcc⟩ := reps_2 ha
          obtain ⟨k, n, rfl, h⟩ := onInt_inv h
          obtain ⟨k', m, rfl, rfl, h0, hby, h63, hK⟩ := onInt_inv h
          have el := hl.imm_inv
          have ec := hcc.imm_inv
          have hr := run_make (P := P) w t e i z hu hi hz k k' 0 m (Int.le_refl _) h0 hby h63
          obtain ⟨k1, k2⟩ := hs.fresh (E' := { E with tk := fun q => if q = id then some (0, some (w.heap.size, m.toNat)) else E.tk q }) ((Below.refl _ _).alloc (Nat.le_refl _) (.cells (madeCells z.cells (m.toNat * i.size)) e)) hid (.tok e i.size 0) (fun _ _ => rfl) (fun k hk => if_neg hk)
            (fun _ h => h) (fun _ h => .inl h) (fun b hb => by simp [Env.at, (hs.objs id _ hid).1] at hb; omega) (fun hE => ⟨some (w.heap.size, m.toNat), (hs.objs id _ hid).1, if_pos rfl, hs.lo_le, _, heap_alloc_new w _, size_madeCells _ _, Nat.zero_le _, by unfold maxLen; omega, fun a ha hb => by
              have := hs.inI a ha; omega⟩)
          exact ⟨_, _, .slice (some ⟨w.heap.size, 0, none⟩) 0 m.toNat, _, _, by simp [execOp, el, ec, hr], hK, .sl i.size [] (some id) _ m.toNat [] (Nat.zero_le _) (by unfold maxLen; omega) (by simp) .nil (by simp) (by simp) ⟨0, some (w.heap.size, m.toNat), if_pos rfl, Nat.le_refl _, fun _ => ⟨rfl, rfl⟩⟩, k1, k2⟩
        · simp only [Option.some.injEq, Prod.mk.injEq, Cls.m.injEq] at hc
          obtain ⟨⟨rfl, rfl⟩, rfl⟩ := hc
          obtain ⟨l', c', rfl, hl, hcc⟩ := reps_2 ha
          obtain ⟨k, n, rfl, h⟩ := onInt_inv h
          obtain ⟨k', m, rfl, rfl, h0, hby, h63, hpos, hK⟩ := onInt_inv h
          have el := hl.imm_inv
          have ec := hcc.imm_inv
          have hr := run_make (P := P) w t e i z hu hi hz k k' m m h0 (Int.le_refl _) hby h63
          obtain ⟨r1, r2⟩ := zeros_rep (E := E) (w := w) hzo m.toNat
          have hfl : (List.replicate m.toNat (constAV z)).flatMap AV.cells = (List.replicate m.toNat (constAV z).cells).flatten := by
            rw [List.flatMap_def, List.map_replicate]
          have hml := made_zero (n := m.toNat) hzs
          have hzl : (constAV z).cells.length = i.size := by rw [← hzs, (zero_rep (E := E) (w := w) hzo).1.length.symm]; simp
          obtain ⟨k1, k2⟩ := hs.fresh (E' := { E with tk := fun q => if q = id then some (0, some (w.heap.size, m.toNat)) else E.tk q }) ((Below.refl _ _).alloc (Nat.le_refl _) (.cells (madeCells z.cells (m.toNat * i.size)) e)) hid (.row e i.size 0 (List.replicate m.toNat (constAV z))) (fun _ _ => rfl) (fun k hk => if_neg hk)
            (fun _ h => h) (fun _ h => .inl h) (fun b hb => by simp [Env.at, (hs.objs id _ hid).1] at hb; omega) (fun hE => ⟨some (w.heap.size, m.toNat), (hs.objs id _ hid).1, if_pos rfl, hs.lo_le, _, (List.replicate m.toNat z.cells.toList).flatten, heap_alloc_new w _, size_madeCells _ _, by simp, by unfold maxLen; omega, by
              rw [hfl]; exact r1.mono hE, fun x hx => by rw [List.eq_of_mem_replicate hx, hzl], r2, fun j u hj => by rw [← hml] at hj; simpa using hj, fun a ha hb => by
              have := hs.inI a ha; omega⟩)
          exact ⟨_, _, .slice (some ⟨w.heap.size, 0, none⟩) m.toNat m.toNat, _, _, by simp [execOp, el, ec, hr], hK, .rs id 0 i.size 0 m.toNat _ m.toNat (Nat.le_refl _) (by unfold maxLen; omega) (fun _ => ⟨_, rfl⟩) ⟨0, some (w.heap.size, m.toNat), if_pos rfl, Nat.le_refl _, fun _ => ⟨by omega, fun _ => by simp⟩⟩, k1, k2⟩
      · cases hc
    · cases hc
  | lookup => simp [compOp, Option.map_eq_some_iff] at hc
  | mapEntry => simp [compOp, Option.map_eq_some_iff] at hc
  | entryStore => simp [compOp, Option.map_eq_some_iff] at hc
  | mapUpdate => simp [compOp, Option.map_eq_some_iff] at hc
  | pick => simp [compOp] at hc
  | alloc e =>
    simp only [compOp, Option.bind_eq_some_iff] at hc
    obtain ⟨i, hi, z, hz, hc⟩ := hc
    split at hc
    · rename_i hok
      simp only [Option.some.injEq, Prod.mk.injEq, Cls.m.injEq] at hc
      obtain ⟨⟨rfl, rfl⟩, rfl⟩ := hc
      rw [Reps.nil_inv' ha] at h
      obtain ⟨z1, z2⟩ := zero_rep (E := E) (w := w) hok
      obtain ⟨E', h1, h2, h3⟩ := newBox hs hid e _ _ z1 z2
      exact ⟨_, _, _, _, E', by simp [execOp, Instr.alloc, zeroValue, typeInfo, hi, hz, newVar, newRow], h, .ptr id 0 _ h3, h1, h2⟩
    · cases hc
  | box e x =>
    simp only [compOp, Option.some.injEq, Prod.mk.injEq, Cls.m.injEq] at hc
    obtain ⟨⟨rfl, rfl⟩, rfl⟩ := hc
    obtain ⟨x', rfl, hx⟩ := reps_1 ha
    obtain ⟨hv, hK⟩ := h
    obtain ⟨z1, z2⟩ := hx.cells hv
    obtain ⟨E', h1, h2, h3⟩ := newBox hs hid e _ _ z1 z2
    exact ⟨_, _, _, _, E', by simp [execOp, Instr.box, newVar, newRow], hK, .ptr id 0 _ h3, h1, h2⟩
  | build t parts =>
    simp only [compOp] at hc
    split at hc
    · simp only [Option.bind_eq_some_iff] at hc
      obtain ⟨_, _, _, _, _, _, _, _, hc⟩ := hc
      split at hc <;> simp at hc
    · simp only [Option.bind_eq_some_iff] at hc
      obtain ⟨_, _, _, _, _, _, hc⟩ := hc
      split at hc <;> simp at hc
    · cases hc
  | buildSlice t len parts =>
    simp only [compOp] at hc
    split at hc
    · rename_i e hu
      simp only [Option.bind_eq_some_iff] at hc
      obtain ⟨i, hi, z, hz, hc⟩ := hc
      split at hc
      · rename_i hp
        split at hc
        · simp only [Option.some.injEq, Prod.mk.injEq, Cls.m.injEq] at hc
          obtain ⟨⟨rfl, rfl⟩, rfl⟩ := hc
          obtain ⟨h0, h1, h2, hK⟩ := h
          have hxs := strip_all h1
          replace ha := ha.strip
          have hle : (avs.map AV.strip).length * (i.size + 1) ≤ 16777216 := by simpa using h2
          rw [show avs.length = (avs.map AV.strip).length by simp] at hK
          generalize avs.map AV.strip = avs at *
          clear h1 h2
          have h1 := hxs
          have h2 := hle
          obtain ⟨rfl, ws, hr, g2, g3⟩ := bslice_run (parts := parts.map fun (p : Nat × Operand) => (p.1, ρ p.2)) hu hi hz (by rw [← hp.1]; simp [List.map_map, Function.comp]) hp.2 (by rw [List.map_map] at ha; rw [Array.toList_map, List.map_map]; exact ha) h1 h2
          have hws : ws.length = avs.length * i.size := by rw [g2.length, flat_length avs (fun x hx => (h1 x hx).2)]
          have hmax : avs.length ≤ maxLen := by rw [Nat.mul_add] at h2; unfold maxLen; omega
          obtain ⟨k1, k2⟩ := hs.fresh (E' := { E with I := fun a => E.I a ∨ ∃ j, j < ws.length ∧ a = ⟨w.heap.size, j, none⟩, tk := fun k => if k = id then some (avs.length, some (w.heap.size, avs.length)) else E.tk k })
            ((Below.refl _ _).alloc (Nat.le_refl _) (.cells ws.toArray e)) hid (.tok e i.size avs.length) (fun _ _ => rfl) (fun k hk => if_neg hk) (fun _ h => .inl h) (fun a h => by
              rcases h with h | ⟨j, hj, rfl⟩
              · exact .inl h
              · exact .inr ⟨Nat.le_refl _, by rw [World.size_alloc]; exact Nat.lt_succ_self _⟩) (fun b hb => by
              simp [Env.at, (hs.objs id _ hid).1] at hb
              omega) (fun hE => ⟨some (w.heap.size, avs.length), (hs.objs id _ hid).1, if_pos rfl, hs.lo_le, ws.toArray, heap_alloc_new w _, by simpa using hws, Nat.le_refl _, hmax, fun a ha hb => by
              rcases ha with ha | ⟨j, hj, rfl⟩
              · have := hs.inI a ha; omega
              · rw [← hws]; exact hj⟩)
          refine ⟨_, _, .slice (some ⟨w.heap.size, 0, none⟩) avs.length avs.length, _, _, by simp [execOp, hr], hK, ?_, k1, k2⟩
          refine .sl i.size avs (some id) (some ⟨w.heap.size, 0, none⟩) avs.length ws (Nat.le_refl _) hmax (fun x hx => (h1 x hx).2) (g2.mono k2) g3 (fun j u hu => ⟨_, rfl, ?_, .inr ⟨j, (List.getElem?_eq_some_iff.1 hu).1, ?_⟩⟩) ⟨avs.length, _, if_pos rfl, Nat.le_refl _, fun _ => ⟨rfl, rfl⟩⟩
          · rw [Addr.add_lit, Nat.zero_add, cell_of_row _ _ _ _ _ _ (heap_alloc_new w _)]; simpa using hu
          · rw [Addr.add_lit, Nat.zero_add]
        · simp at hc
      · cases hc
    · cases hc
  | store => simp [compOp, Option.map_eq_some_iff] at hc
  | nilCheck => simp [compOp] at hc
  | binOp op t x y yt =>
    simp only [compOp] at hc
    split at hc
    · split at hc <;> simp at hc
    · split at hc <;> simp at hc
    · simp at hc
  | unOp => simp [compOp] at hc
  | convert src dst x =>
    simp only [compOp] at hc
    split at hc
    · simp at hc
    · split at hc <;> simp at hc
    · simp at hc
    · simp at hc
    · split at hc <;> simp at hc
    · split at hc <;> simp at hc
    · simp at hc
  | sliceToArrayPointer => simp only [compOp] at hc; split at hc <;> simp at hc
  | makeInterface => simp only [compOp] at hc; split at hc <;> simp at hc
  | makeFunc => simp [compOp] at hc
  | fieldAddr =>
    simp only [compOp] at hc
    split at hc
    · simp only [Option.bind_eq_some_iff] at hc
      obtain ⟨_, _, _, _, hc⟩ := hc
      split at hc <;> simp at hc
    · cases hc
  | field =>
    simp only [compOp] at hc
    split at hc
    · simp only [Option.bind_eq_some_iff, Option.map_eq_some_iff] at hc
      obtain ⟨_, _, _, _, _, _, hc⟩ := hc
      split at hc <;> simp at hc
    · cases hc
  | indexAddr =>
    simp only [compOp] at hc
    split at hc
    · simp only [Option.bind_eq_some_iff] at hc
      obtain ⟨_, _, hc⟩ := hc
      split at hc <;> simp at hc
    · simp [Option.map_eq_some_iff] at hc
    · cases hc
  | index =>
    simp only [compOp] at hc
    split at hc
    · simp at hc
    · simp only [Option.bind_eq_some_iff] at hc
      obtain ⟨_, _, _, _, hc⟩ := hc
      split at hc
      · simp at hc
      · split at hc <;> simp at hc
    · cases hc
  | slice =>
    simp only [compOp] at hc
    split at hc
    · split at hc <;> simp at hc
    · simp [Option.map_eq_some_iff] at hc
    · split at hc
      · cases hc
      · split at hc
        · split at hc <;> simp at hc
        · cases hc
    · cases hc
  | extract => simp [compOp] at hc
  | call c =>
    simp only [compOp] at hc
    split at hc
    · simp at hc
    · split at hc
      · split at hc
        · simp at hc
        · simp at hc
        · simp at hc
        · simp at hc
        · split at hc <;> simp at hc
        · cases hc
      · cases hc
    · split at hc
      · split at hc
        · simp only [Option.bind_eq_some_iff] at hc
          obtain ⟨_, _, _, _, hc⟩ := hc
          split at hc <;> simp at hc
        · cases hc
      · cases hc
    · split at hc
      · split at hc
        · simp [Option.map_eq_some_iff] at hc
        · cases hc
      · cases hc
    · split at hc
      · split at hc
        · simp only [Option.bind_eq_some_iff] at hc
          obtain ⟨_, _, _, _, hc⟩ := hc
          split at hc <;> simp at hc
        · cases hc
      · cases hc
    · split at hc <;> simp at hc
    · split at hc <;> simp at hc
    · split at hc <;> simp at hc
    · split at hc <;> simp at hc
    · cases hc
  | _ => simp [compOp] at hc
end
end Go.AL
