/- Keys of maps. -/
import Derived.Test.YtofokmpdioblkaaGreatDoorG1
import Derived.Test.YtofokmpdioblkaaGreatDoorG2
import Derived.Test.YtofokmpdioblkaaGreatDoorG4
import Derived.MapKept
namespace Go.AL
open Go Go.RowKit
section
variable {P : Program} {E : Env} {w : World}
open Classical in
noncomputable def efind (x : Value) : List MapEntry → Nat → Option (Nat × Value)
  | [], _ => none
  | e :: es, i => if e.key = x then some (i, e.val) else efind x es (i + 1)
theorem kshape_ints {t : TypeId} {ks : List IntKind} (h : kshapeOf P t = some (.ints ks)) : ∃ fs, P.underlying t = some (.struct fs) ∧ plainEq P t = true ∧ fs.toList.map (fun f => P.underlying f.type) = ks.map fun k => some (.int k) := by
  unfold kshapeOf at h
  split at h
  · cases h
  · cases h
  · rename_i fs hu
    split at h
    · rename_i hp
      simp only [Option.map_eq_some_iff, KShape.ints.injEq] at h
      obtain ⟨l, h1, rfl⟩ := h
      refine ⟨fs, hu, hp, ?_⟩
      clear hp hu
      generalize fs.toList = l2 at h1
      induction l2 generalizing l with
      | nil => simp at h1; subst h1; rfl
      | cons f l2 ih =>
        simp only [List.mapM_cons, Option.pure_def, Option.bind_eq_bind, Option.bind_eq_some_iff, Option.some.injEq] at h1
        obtain ⟨k, h2, r, h3, rfl⟩ := h1
        rw [List.map_cons, List.map_cons, ih _ h3]
        congr 1
        split at h2
        · rename_i k' hk; cases h2; exact hk
        · cases h2
    · cases h
  · cases h
theorem kshape_str {t : TypeId} (h : kshapeOf P t = some .str) : P.underlying t = some .string := by
  unfold kshapeOf at h
  split at h
  · assumption
  · cases h
  · split at h
    · simp [Option.map_eq_some_iff] at h
    · cases h
  · cases h
theorem kshape_one {t : TypeId} {k : IntKind} (h : kshapeOf P t = some (.one k)) : P.underlying t = some (.int k) := by
  unfold kshapeOf at h
  split at h
  · cases h
  · rename_i k' hk; cases h; exact hk
  · split at h
    · simp [Option.map_eq_some_iff] at h
    · cases h
  · cases h
def intsAV (ks : List IntKind) (ns : List Int) : List AV := (ks.zip ns).map fun p => .imm (.int p.1 p.2)
def intsV (ks : List IntKind) (ns : List Int) : List Value := (ks.zip ns).map fun p => Value.int p.1 p.2
theorem intsAV_rep (ks : List IntKind) (ns : List Int) : Rep E w (.agg (intsAV ks ns)) (.agg (intsV ks ns).toArray) := by
  refine .agg _ _ ?_ ?_
  · unfold intsAV intsV
    induction ks.zip ns with
    | nil => exact .nil
    | cons p l ih => exact .cons _ _ _ _ (.imm _ rfl) ih
  · intro u hu
    simp only [intsV, List.mem_map] at hu
    obtain ⟨p, _, rfl⟩ := hu
    rfl
theorem intsAV_eq : ∀ (ks : List IntKind) (ns ms : List Int), ns.length = ks.length → ms.length = ks.length → eqCells (intsAV ks ns) (intsAV ks ms) = some (decide (ns = ms))
  | [], [], [], _, _ => rfl
  | k :: ks, n :: ns, m :: ms, h1, h2 => by
    have ih := intsAV_eq ks ns ms (by simpa using h1) (by simpa using h2)
    show (match eqCell (.imm (.int k n)) (.imm (.int k m)), eqCells (intsAV ks ns) (intsAV ks ms) with | some x, some y => some (x && y) | _, _ => none) = _
    rw [ih]
    simp only [eqCell, if_true]
    congr 1
    by_cases h : n = m <;> simp [h]
  | [], _ :: _, _, h, _ => by simp at h
  | [], [], _ :: _, _, h => by simp at h
  | _ :: _, [], _, h, _ => by simp at h
  | _ :: _, _ :: _, [], _, h => by simp at h
theorem intsV_inj : ∀ (ks : List IntKind) (ns ms : List Int), ns.length = ks.length → ms.length = ks.length → (intsV ks ns = intsV ks ms ↔ ns = ms)
  | [], [], [], _, _ => by simp
  | k :: ks, n :: ns, m :: ms, h1, h2 => by
    have ih := intsV_inj ks ns ms (by simpa using h1) (by simpa using h2)
    show (Value.int k n :: intsV ks ns = Value.int k m :: intsV ks ms) ↔ _
    simp [ih]
  | [], _ :: _, _, h, _ => by simp at h
  | [], [], _ :: _, _, h => by simp at h
  | _ :: _, [], _, h, _ => by simp at h
  | _ :: _, _ :: _, [], _, h => by simp at h
theorem key_equal {t : TypeId} {ks : KShape} (hk : kshapeOf P t = some ks) {a b : Value} (ha : ks.fits a) (hb : ks.fits b) : open Classical in (Op.equal t a b).run P w = .ok (decide (a = b)) w := by
  classical
  cases ks with
  | str =>
    have hu := kshape_str hk
    obtain ⟨s, rfl⟩ := ha
    obtain ⟨s', rfl⟩ := hb
    rw [show Op.equal t (.string s) (.string s') = Op.equalIn (9999 + 1) t (.string s) (.string s') from rfl, Op.equalIn]
    simp only [Sem.run_bind, run_underlying hu, Result.andThen_ok, Sem.run_pure]
    congr 1
    by_cases h : s = s'
    · subst h; simp [(MapKept.bytes_beq s s).2 rfl]
    · have hb : (s == s') = false := by
        cases hh : s == s' with
        | false => rfl
        | true => exact absurd ((MapKept.bytes_beq s s').1 hh) h
      simp [h, hb]
  | one k =>
    have hu := kshape_one hk
    obtain ⟨n, rfl⟩ := ha
    obtain ⟨m, rfl⟩ := hb
    rw [show Op.equal t (.int k n) (.int k m) = Op.equalIn (9999 + 1) t (.int k n) (.int k m) from rfl, Op.equalIn]
    simp only [Sem.run_bind, run_underlying hu, Result.andThen_ok, if_true, Sem.run_pure]
    congr 1
    by_cases h : n = m <;> simp [h]
  | ints ks =>
    obtain ⟨fs, hu, hp, hf⟩ := kshape_ints hk
    obtain ⟨ns, h1, rfl⟩ := ha
    obtain ⟨ms, h2, rfl⟩ := hb
    have hlen : fs.size = ks.length := by have := congrArg List.length hf; simpa using this
    obtain ⟨us, vs, e1, e2, e3, _⟩ := equalIn_cells (P := P) (E := ⟨fun _ => False, fun _ => none, fun _ => none⟩) (w := w) (xs := intsAV ks ns) (ys := intsAV ks ms) hp (by simp [intsAV, eqLen, hu, h1, hlen]) (intsAV_rep ks ns) (intsAV_rep ks ms) (intsAV_eq ks ns ms h1 h2)
    have e4 : Op.equal t (.agg (intsV ks ns).toArray) (.agg (intsV ks ms).toArray) = Op.equalIn 10000 t (.agg us) (.agg vs) := by rw [e1, e2]; rfl
    show (Op.equal t (.agg (intsV ks ns).toArray) (.agg (intsV ks ms).toArray)).run P w = _
    rw [e4, e3]
    show _ = Result.ok (decide (Value.agg (intsV ks ns).toArray = Value.agg (intsV ks ms).toArray)) w
    congr 1
    have : (Value.agg (intsV ks ns).toArray = Value.agg (intsV ks ms).toArray) ↔ ns = ms := by
      rw [← intsV_inj ks ns ms h1 h2]
      constructor
      · intro h; injection h with h; simpa using h
      · intro h; rw [h]
    by_cases h : ns = ms
    · rw [decide_eq_true h, decide_eq_true (this.2 h)]
    · rw [decide_eq_false h, decide_eq_false (fun h' => h (this.1 h'))]
theorem key_ask {t : TypeId} {ks : KShape} (hk : kshapeOf P t = some ks) {x : Value} (hx : ks.fits x) : ∀ (es : List MapEntry) (i : Nat), (∀ e ∈ es, ks.fits e.key) → (Instr.findAsking t x es i).run P w = .ok (efind x es i) w
  | [], i, _ => by simp [Instr.findAsking, efind]
  | e :: es, i, h => by
    have h1 := key_equal (w := w) hk hx (h e (by simp))
    have ih := key_ask hk hx es (i + 1) fun e' he' => h e' (by simp [he'])
    by_cases he : e.key = x
    · have hd : x = e.key := he.symm
      have h1' : (Op.equal t x e.key).run P w = .ok true w := by rw [h1]; simp [hd]
      rw [Instr.findAsking, Sem.run_bind, h1', efind, if_pos he]
      rfl
    · have hd : ¬ x = e.key := fun h => he h.symm
      have h1' : (Op.equal t x e.key).run P w = .ok false w := by rw [h1]; simp [hd]
      rw [Instr.findAsking, Sem.run_bind, h1', efind, if_neg he]
      exact ih
theorem key_now {d : TypeDesc} {ks : KShape} (hd : (ks = .str ∧ d = .string) ∨ (∃ k, ks = .one k ∧ d = .int k)) {x : Value} (hx : ks.fits x) : ∀ (es : List MapEntry) (i : Nat), (∀ e ∈ es, ks.fits e.key) → Instr.findNow d x es i = some (efind x es i)
  | [], i, _ => rfl
  | e :: es, i, h => by
    have ih := key_now hd hx es (i + 1) fun e' he' => h e' (by simp [he'])
    have h2 := h e (by simp)
    rcases hd with ⟨rfl, rfl⟩ | ⟨k, rfl, rfl⟩
    · obtain ⟨s, rfl⟩ := hx
      obtain ⟨s', hs'⟩ := h2
      by_cases he : s = s'
      · subst he; simp [Instr.findNow, Instr.sameNow, hs', efind, (MapKept.bytes_beq s s).2 rfl]
      · have : ¬ s' = s := fun h => he h.symm
        have hb : (s == s') = false := by
          cases hh : s == s' with
          | false => rfl
          | true => exact absurd ((MapKept.bytes_beq s s').1 hh) he
        simp [Instr.findNow, Instr.sameNow, hs', efind, this, ih, hb]
    · obtain ⟨n, rfl⟩ := hx
      obtain ⟨m, hm⟩ := h2
      by_cases he : n = m
      · subst he; simp [Instr.findNow, Instr.sameNow, hm, efind]
      · have : ¬ m = n := fun h => he h.symm
        have hb : (n == m) = false := by simpa using he
        simp [Instr.findNow, Instr.sameNow, hm, efind, this, ih, hb]
theorem key_find {t : TypeId} {ks : KShape} (hk : kshapeOf P t = some ks) {x : Value} (hx : ks.fits x) {es : List MapEntry} (h : ∀ e ∈ es, ks.fits e.key) : (Instr.findKey t x es).run P w = .ok (efind x es 0) w := by
  cases ks with
  | str => simp only [Instr.findKey, Sem.run_bind, run_underlying (kshape_str hk), Result.andThen_ok, key_now (.inl ⟨rfl, rfl⟩) hx es 0 h, Sem.run_pure]
  | one k => simp only [Instr.findKey, Sem.run_bind, run_underlying (kshape_one hk), Result.andThen_ok, key_now (.inr ⟨k, rfl, rfl⟩) hx es 0 h, Sem.run_pure]
  | ints ks =>
    obtain ⟨fs, hu, _⟩ := kshape_ints hk
    cases es with
    | nil => simp only [Instr.findKey, Sem.run_bind, run_underlying hu, Result.andThen_ok, Instr.findNow, efind, Sem.run_pure]
    | cons e es =>
      have := key_ask (w := w) hk hx (e :: es) 0 h
      simp only [Instr.findKey, Sem.run_bind, run_underlying hu, Result.andThen_ok, Instr.findNow, Instr.sameNow]
      exact this
theorem key_check {t : TypeId} {ks : KShape} (hk : kshapeOf P t = some ks) {x : Value} (hx : ks.fits x) (em : Bool) : (Instr.checkKey em 10000 t x).run P w = .ok () w := by
  cases ks with
  | str => obtain ⟨s, rfl⟩ := hx; rw [show (10000 : Nat) = 9999 + 1 from rfl, Instr.checkKey]; simp [run_underlying (kshape_str hk)]
  | one k => obtain ⟨s, rfl⟩ := hx; rw [show (10000 : Nat) = 9999 + 1 from rfl, Instr.checkKey]; simp [run_underlying (kshape_one hk)]
  | ints ks =>
    obtain ⟨fs, hu, hp, hf⟩ := kshape_ints hk
    obtain ⟨ns, h1, rfl⟩ := hx
    obtain ⟨_, hfs, _⟩ := plainEq_struct hu hp
    have hlen : fs.toList.length = ks.length := by have := congrArg List.length hf; simpa using this
    rw [show (10000 : Nat) = 9999 + 1 from rfl, Instr.checkKey]
    simp only [Sem.run_bind, run_underlying hu, Result.andThen_ok]
    rw [← Array.forIn_toList]
    obtain ⟨cs, hcs⟩ : ∃ cs, cs = ((ks.zip ns).map fun p => Value.int p.1 p.2).toArray := ⟨_, rfl⟩
    have hget : ∀ i, i < ks.length → ∃ k n, cs[i]? = some (.int k n) := by
      intro i hi
      rw [hcs]
      have hlt : i < (ks.zip ns).length := by simp; omega
      exact ⟨(ks.zip ns)[i].1, (ks.zip ns)[i].2, by simp [List.getElem?_eq_getElem hlt]⟩
    rw [← hcs]
    have : ∀ (l : List Field) (off : Nat), (∀ i f, l[i]? = some f → f.name ≠ "_" ∧ f.offset = off + i ∧ ∃ q, P.underlying f.type = some (.int q)) → (off + l.length ≤ ks.length) →
        ((forIn l PUnit.unit fun (f : Field) (_ : PUnit) => if f.name ≠ "_" then (do let a ← part f.type cs f.offset; Instr.checkKey em 9999 f.type a; pure (ForInStep.yield PUnit.unit)) else pure (ForInStep.yield PUnit.unit) : Sem PUnit)).run P w = .ok PUnit.unit w := by
      intro l
      induction l with
      | nil => intro _ _ _; simp
      | cons f l ih =>
        intro off h hl
        obtain ⟨f1, f2, q, f3⟩ := h 0 f rfl
        obtain ⟨k, n, hk⟩ := hget f.offset (by simp at hl; omega)
        have ih' := ih (off + 1) (fun i g hg => by
          obtain ⟨a, b, c⟩ := h (i + 1) g (by simpa using hg)
          exact ⟨a, by omega, c⟩) (by simp at hl; omega)
        have hpart : (part f.type cs f.offset).run P w = .ok (.int k n) w := run_part_plain w (by simp [Program.plainKey, f3]) hk
        have hck : (Instr.checkKey em 9999 f.type (.int k n)).run P w = .ok () w := by
          rw [show (9999 : Nat) = 9998 + 1 from rfl, Instr.checkKey]
          simp [run_underlying f3]
        simp only [List.forIn_cons, f1, ne_eq, not_false_eq_true, if_true, Sem.run_bind, hpart, Result.andThen_ok, hck, Sem.run_pure]
        exact ih'
    have h9 := this fs.toList 0 (fun i f hf' => by simpa using hfs i f hf') (by omega)
    rw [h9]
    simp
theorem key_same {ks : KShape} {x : Value} (hx : ks.fits x) : Instr.sameBits 10000 x x = true := by
  cases ks with
  | str => obtain ⟨s, rfl⟩ := hx; simp [Instr.sameBits, (MapKept.bytes_beq s s).2 rfl]
  | one k => obtain ⟨s, rfl⟩ := hx; simp [Instr.sameBits]
  | ints ks =>
    obtain ⟨ns, h1, rfl⟩ := hx
    rw [show (10000 : Nat) = 9999 + 1 from rfl, Instr.sameBits]
    simp only [BEq.rfl, Bool.true_and]
    rw [List.all_eq_true]
    intro p hp
    have hz := List.of_mem_zip hp
    have : p.1 = p.2 := by
      have h2 : ∀ (l : List Value) (p : Value × Value), p ∈ l.zip l → p.1 = p.2 := by
        intro l
        induction l with
        | nil => intro p hp; simp at hp
        | cons a l ih =>
          intro p hp
          rw [List.zip_cons_cons, List.mem_cons] at hp
          rcases hp with rfl | hp
          · rfl
          · exact ih p hp
      exact h2 _ p hp
    obtain ⟨a, b⟩ := p
    simp only at this
    subst this
    have h3 := hz.1
    simp only [List.mem_map] at h3
    obtain ⟨q, _, rfl⟩ := h3
    simp [Instr.sameBits]
theorem key_stays {ks : KShape} {x : Value} (hx : ks.fits x) : (Instr.keyThatStays x x).run P w = .ok x w := by
  unfold Instr.keyThatStays
  rw [if_pos (key_same hx)]
  rfl
theorem keyInts_rep : ∀ {ks : List IntKind} {cs : List AV} {vs us : List Value}, keyInts ks cs = some vs → Reps E w cs us → us = vs ∧ ∃ ns : List Int, ns.length = ks.length ∧ vs = (ks.zip ns).map fun p => Value.int p.1 p.2
  | [], [], vs, us, h, hr => by
    cases hr
    simp only [keyInts, Option.some.injEq] at h
    subst h
    exact ⟨rfl, [], rfl, rfl⟩
  | k :: ks, c :: cs, vs, us, h, hr => by
    cases c with
    | imm v =>
      cases v with
      | int k' n =>
        unfold keyInts at h
        split at h
        · rename_i hk
          subst hk
          simp only [Option.map_eq_some_iff] at h
          obtain ⟨r, h1, rfl⟩ := h
          cases hr with
          | cons _ u _ us' r1 r2 =>
            obtain ⟨rfl, ns, h2, h3⟩ := keyInts_rep h1 r2
            cases r1.imm_inv
            exact ⟨rfl, n :: ns, by simp [h2], by rw [h3]; rfl⟩
        · cases h
      | _ => simp [keyInts] at h
    | _ => simp [keyInts] at h
  | [], _ :: _, _, _, h, _ => by simp [keyInts] at h
  | _ :: _, [], _, _, h, _ => by simp [keyInts] at h
theorem keyVal_rep {ks : KShape} {a : AV} {v u : Value} (h : keyVal ks a = some v) (hr : Rep E w a u) : u = v ∧ ks.fits v := by
  unfold keyVal at h
  split at h
  · cases h; cases hr.imm_inv; exact ⟨rfl, _, rfl⟩
  · split at h
    · rename_i hk; subst hk; cases h; cases hr.imm_inv; exact ⟨rfl, _, rfl⟩
    · cases h
  · simp only [Option.map_eq_some_iff] at h
    obtain ⟨vs, h1, rfl⟩ := h
    cases hr with
    | agg _ us h2 h3 =>
      obtain ⟨rfl, ns, h4, h5⟩ := keyInts_rep h1 h2
      exact ⟨rfl, ns, h4, by rw [h5]⟩
  · cases h
/-- Finding, in the abstract list and in the entries. -/
theorem efind_mfind {ks : KShape} {zv : Value} {x : Value} : ∀ {es : List (Value × Option AV)} {ents : List MapEntry} (i : Nat), ents.length = es.length → (∀ (j : Nat) (p : Value × Option AV) (e : MapEntry), es[j]? = some p → ents[j]? = some e → e.key = p.1) →
    (efind x ents i = none ∧ mfind es x i = none) ∨ ∃ j p e, es[j]? = some p ∧ ents[j]? = some e ∧ p.1 = x ∧ efind x ents i = some (i + j, e.val) ∧ mfind es x i = some (i + j, p.2)
  | [], [], i, _, _ => .inl ⟨rfl, rfl⟩
  | p :: es, e :: ents, i, hl, h => by
    have h0 := h 0 p e rfl rfl
    by_cases hp : p.1 = x
    · refine .inr ⟨0, p, e, rfl, rfl, hp, ?_, ?_⟩
      · unfold efind; rw [if_pos (h0.trans hp)]; rfl
      · obtain ⟨k, v⟩ := p
        unfold mfind; rw [if_pos hp]; rfl
    · rcases efind_mfind (x := x) (ks := ks) (zv := zv) (i + 1) (by simpa using hl) (fun j p' e' hp' he' => h (j + 1) p' e' (by simpa using hp') (by simpa using he')) with ⟨h1, h2⟩ | ⟨j, p', e', h1, h2, h3, h4, h5⟩
      · refine .inl ⟨?_, ?_⟩
        · unfold efind; rw [if_neg (fun h' => hp (h0 ▸ h'))]; exact h1
        · obtain ⟨k, v⟩ := p
          unfold mfind; rw [if_neg hp]; exact h2
      · refine .inr ⟨j + 1, p', e', by simpa using h1, by simpa using h2, h3, ?_, ?_⟩
        · unfold efind; rw [if_neg (fun h' => hp (h0 ▸ h')), h4, Nat.add_assoc, Nat.add_comm 1 j]
        · obtain ⟨k, v⟩ := p
          unfold mfind; rw [if_neg hp, h5, Nat.add_assoc, Nat.add_comm 1 j]
  | [], _ :: _, _, hl, _ => by simp at hl
  | _ :: _, [], _, hl, _ => by simp at hl
end
end Go.AL

/- One object turns. -/
set_option linter.unusedSimpArgs false
set_option linter.unusedVariables false
namespace Go.AL
open Go Go.RowKit
section
variable {P : Program} {G : Nat → Option (List AV)} {lo : Nat} {E : Env} {H : List AObj} {w : World}
/-- One object turns; its block may turn, and new blocks may come. -/
theorem SimH.turn {E' : Env} {w' : World} (h : SimH G lo E H w) (hb : Below lo w w') {id : Nat} {o' : AObj} (hid : id < H.length)
    (hblk : ∀ k, k < w.heap.size → E.at id ≠ some k → w'.heap[k]? = w.heap[k]?) (hcell : ∀ a, E.I a → w'.cell? a = w.cell? a)
    (hbx : ∀ i, E'.bx i = E.bx i) (htk : ∀ i, i ≠ id → E'.tk i = E.tk i)
    (htki : ∀ n b, E.tk id = some (n, b) → ∃ n' b', E'.tk id = some (n', b') ∧ n ≤ n' ∧ (n' = n → b' = b))
    (hI : ∀ a, E.I a → E'.I a) (hI' : ∀ a, E'.I a → (E.I a ∨ E.at id = some a.block ∨ w.heap.size ≤ a.block) ∧ a.block < w'.heap.size)
    (hat : ∀ b, E'.at id = some b → E.at id = some b ∨ w.heap.size ≤ b) (ho : Evo lo E w E' w' → ObjOk E' w' lo id o') :
    SimH G lo E' (H.set id o') w' ∧ Evo lo E w E' w' := by
  have hE : Evo lo E w E' w' := ⟨hb, fun a ha => ⟨hI a ha, hcell a ha⟩, fun i b hi => by rw [hbx i]; exact hi, fun i n b hi => by
    by_cases e : i = id
    · subst e; exact htki n b hi
    · exact ⟨n, b, by rw [htk i e]; exact hi, Nat.le_refl _, fun _ => rfl⟩,
    fun a ha => by
      rcases (hI' a ha).1 with h1 | h1 | h1
      · exact .inl h1
      · exact .inr (h.at_spec h1).1
      · exact .inr (Nat.le_trans h.lo_le h1)⟩
  have key : ∀ k, k ≠ id → E'.at k = E.at k := fun k hk => Env.at_congr (hbx k) (htk k hk)
  refine ⟨⟨Nat.le_trans h.lo_le hb.size, fun a ha => (hI' a ha).2, ?_, ?_, ?_, ?_⟩, hE⟩
  · intro i x hx
    by_cases e : i = id
    · subst e
      rw [List.getElem?_set_self hid] at hx
      cases hx
      exact ho hE
    · rw [List.getElem?_set_ne (Ne.symm e)] at hx
      have hne : ∀ b, E.at i = some b → E.at id ≠ some b := fun b hb1 hb2 => e (h.inj i id b hb1 hb2)
      refine (h.objs i x hx).keep hE (hbx i) (htk i e) (fun b hb' => hblk b (h.at_spec hb').2.1 (hne b hb')) fun a ha => ?_
      rcases (hI' a ha).1 with h1 | h1 | h1
      · exact .inl h1
      · exact .inr fun b hb' e2 => hne b hb' (by rw [h1, e2])
      · refine .inr fun b hb' e2 => ?_
        have h2 := (h.at_spec hb').2.1
        omega
  · intro i hi
    rw [List.length_set] at hi
    have e : i ≠ id := by omega
    rw [hbx i, htk i e]
    exact h.dom i hi
  · intro i j b hi hj
    by_cases e1 : i = id
    · by_cases e2 : j = id
      · rw [e1, e2]
      · subst e1
        rw [key j e2] at hj
        rcases hat b hi with h1 | h1
        · exact h.inj _ _ b h1 hj
        · have h2 := (h.at_spec hj).2.1
          omega
    · by_cases e2 : j = id
      · subst e2
        rw [key i e1] at hi
        rcases hat b hj with h1 | h1
        · exact h.inj _ _ b hi h1
        · have h2 := (h.at_spec hi).2.1
          omega
      · rw [key i e1] at hi
        rw [key j e2] at hj
        exact h.inj i j b hi hj
  · intro g cs hg
    obtain ⟨us, h1, h2, h3, ty, fz, h4, h5⟩ := h.glob g cs hg
    exact ⟨us, h1.mono hE, h2, fun j u hu => ⟨((hE.I _ (h3 j u hu).2).2).trans (h3 j u hu).1, (hE.I _ (h3 j u hu).2).1⟩, ty, fz, h4, (hE.below.block g h4).trans h5⟩
end
end Go.AL

/- Maps: what the operations on them do. -/
set_option linter.unusedSimpArgs false
set_option linter.unusedVariables false
namespace Go.AL
open Go Go.RowKit
theorem onMp_inv {x : AV} {K : Nat → Prop} (h : onMp x K) : ∃ id, x = .mp id ∧ K id := by
  unfold onMp at h; split at h
  · exact ⟨_, rfl, h⟩
  · exact h.elim
theorem onMap_inv {x : Option AObj} {K : KShape → Value → List (Value × Option AV) → Prop} (h : onMap x K) : ∃ a b c, x = some (.map a b c) ∧ K a b c := by
  unfold onMap at h; split at h
  · exact ⟨_, _, _, rfl, h⟩
  · exact h.elim
section
variable {P : Program} {G : Nat → Option (List AV)} {lo : Nat} {E : Env} {H : List AObj} {w : World}
theorem mapInfo_inv {t : TypeId} {ks : KShape} {zv : Value} (h : mapInfo P t = some (ks, zv)) : ∃ k e i, P.underlying t = some (.map k e) ∧ kshapeOf P k = some ks ∧ P.info? e = some i ∧ i.zero = some zv ∧ constOk zv = true := by
  unfold mapInfo at h
  split at h
  · rename_i k e hu
    simp only [Option.bind_eq_some_iff] at h
    obtain ⟨ks', h1, i, h2, z, h3, h⟩ := h
    split at h
    · rename_i hz
      cases h
      exact ⟨k, e, i, hu, h1, h2, h3, hz⟩
    · cases h
  · cases h
theorem const_rep0 {v : Value} (h : constOk v = true) : Rep E w (constAV v) v := by
  obtain ⟨h1, h2⟩ := zero_rep (E := E) (w := w) h
  cases v with
  | agg cs =>
    have := Rep.agg _ _ h1 h2
    simpa [constAV, AV.cells, Value.cells] using this
  | tuple vs => simp [constOk] at h
  | slice a n m =>
    simp only [constAV, Value.cells] at h1 ⊢
    have e : (cellAV (.slice a n m)).cells = [cellAV (.slice a n m)] := by unfold cellAV; split <;> simp_all [AV.cells]
    rw [e] at h1
    have h1' : Reps E w [cellAV (.slice a n m)] [.slice a n m] := by simpa using h1
    cases h1' with
    | cons _ _ _ _ h _ => exact h
  | _ => exact .imm _ rfl
theorem map_at (hs : SimH G lo E H w) {id : Nat} {ks : KShape} {zv : Value} {es : List (Value × Option AV)} (hH : H[id]? = some (.map ks zv es)) {v : Value} (hx : Rep E w (.mp id) v) :
    ∃ b ents, v = .map (some b) ∧ E.bx id = some b ∧ E.tk id = none ∧ lo ≤ b ∧ w.heap[b]? = some (.map (List.toArray ents) es.length) ∧ MapOk E w ks zv es ents ∧ ∀ a, E.I a → a.block ≠ b := by
  obtain ⟨b, ents, h1, h2, h3, h4, h5, h6⟩ := hs.objs id _ hH
  cases hx with
  | mp _ b' hb =>
    rw [h1] at hb
    cases hb
    exact ⟨b, ents, rfl, h1, h2, h3, h4, h5, h6⟩
theorem MapOk.fits {ks : KShape} {zv : Value} {es : List (Value × Option AV)} {ents : List MapEntry} (h : MapOk E w ks zv es ents) : ∀ e ∈ ents, ks.fits e.key := by
  intro e he
  obtain ⟨i, hi, rfl⟩ := List.mem_iff_getElem.1 he
  have hlt : i < es.length := by rw [← h.2.1]; exact hi
  obtain ⟨h1, _, h3, _⟩ := h.2.2 i _ _ (List.getElem?_eq_getElem hlt) (List.getElem?_eq_getElem hi)
  rw [h1]; exact h3
/-- Finding a key. -/
theorem map_find {ks : KShape} {zv : Value} {es : List (Value × Option AV)} {ents : List MapEntry} (h : MapOk E w ks zv es ents) (x : Value) :
    (efind x ents 0 = none ∧ mfind es x 0 = none) ∨ ∃ j p e, es[j]? = some p ∧ ents[j]? = some e ∧ p.1 = x ∧ efind x ents 0 = some (j, e.val) ∧ mfind es x 0 = some (j, p.2) ∧ EntOk E w ks zv j p e := by
  rcases efind_mfind (x := x) (ks := ks) (zv := zv) 0 h.2.1 (fun j p e hp he => (h.2.2 j p e hp he).1) with h1 | ⟨j, p, e, h1, h2, h3, h4, h5⟩
  · exact .inl h1
  · rw [Nat.zero_add] at h4 h5
    exact .inr ⟨j, p, e, h1, h2, h3, h4, h5, h.2.2 j p e h1 h2⟩
theorem look_run (hs : SimH G lo E H w) {t : TypeId} {ks : KShape} {zv : Value} (hi : mapInfo P t = some (ks, zv)) {id : Nat} {es : List (Value × Option AV)} (hH : H[id]? = some (.map ks zv es)) {m k : Value} (hm : Rep E w (.mp id) m) (hk : ks.fits k) (ok : Bool) :
    ∃ v, (Instr.lookup t m k ok).run P w = .ok v w ∧ Rep E w (if ok = true then .tup [mval zv es k, bool (mhas es k)] else mval zv es k) v := by
  obtain ⟨kt, e, i, hu, hks, hie, hiz, hzo⟩ := mapInfo_inv hi
  obtain ⟨b, ents, rfl, h1, h2, h3, h4, h5, h6⟩ := map_at hs hH hm
  have hck : ∀ em, (Instr.checkKey em 10000 kt k).run P w = .ok () w := fun em => key_check hks hk em
  have hfk := key_find (w := w) hks hk h5.fits
  rcases map_find h5 k with ⟨f1, f2⟩ | ⟨j, p, en, g1, g2, g3, f1, f2, g4⟩
  · rw [f1] at hfk
    refine ⟨if ok = true then .tuple #[zv, .bool false] else zv, ?_, ?_⟩
    · simp only [Instr.lookup, Sem.run_bind, run_underlying hu, Result.andThen_ok, MapKept.run_getObj_map h4, Sem.run_pure, hck, hfk, zeroValue, typeInfo, run_program, hie, hiz]
    · have hv : mval zv es k = constAV zv := by unfold mval; rw [f2]; rfl
      have hb : mhas es k = false := by unfold mhas; rw [f2]; rfl
      rw [hv, hb]
      cases ok
      · exact const_rep0 hzo
      · exact .tup _ [zv, .bool false] (.cons _ _ _ _ (const_rep0 hzo) (.cons _ _ _ _ (.imm _ rfl) .nil))
  · rw [f1] at hfk
    refine ⟨if ok = true then .tuple #[en.val, .bool true] else en.val, ?_, ?_⟩
    · simp only [Instr.lookup, Sem.run_bind, run_underlying hu, Result.andThen_ok, MapKept.run_getObj_map h4, Sem.run_pure, hck, hfk]
    · have hb : mhas es k = true := by unfold mhas; rw [f2]; rfl
      have hr : Rep E w (mval zv es k) en.val := by
        unfold mval
        rw [f2]
        obtain ⟨_, _, _, g5⟩ := g4
        cases hp : p.2 with
        | none => rw [hp] at g5; simp only at g5; rw [g5]; exact const_rep0 hzo
        | some a => rw [hp] at g5; exact g5.1
      rw [hb]
      cases ok
      · exact hr
      · exact .tup _ [en.val, .bool true] (.cons _ _ _ _ hr (.cons _ _ _ _ (.imm _ rfl) .nil))
theorem mlen_run (hs : SimH G lo E H w) {t ty kt e : TypeId} (hu : P.underlying t = some (.map kt e)) {id : Nat} {ks : KShape} {zv : Value} {es : List (Value × Option AV)} (hH : H[id]? = some (.map ks zv es)) {m : Value} (hm : Rep E w (.mp id) m) :
    (Builtin.len_ #[t] ty #[m]).run P w = .ok (.int .i64 es.length) w := by
  obtain ⟨b, ents, rfl, h1, h2, h3, h4, h5, h6⟩ := map_at hs hH hm
  simp [Builtin.len_, run_underlying hu, MapKept.run_getObj_map h4, goInt, h5.2.1]
/-- The map behind an operation. -/
theorem map_turn (hs : SimH G lo E H w) {id b : Nat} {ks : KShape} {zv : Value} {es es' : List (Value × Option AV)} {ents' : List MapEntry} {o : Obj} (hH : H[id]? = some (.map ks zv es)) (h1 : E.bx id = some b) (h2 : E.tk id = none) (h3 : lo ≤ b)
    (h4 : w.heap[b]? = some o) (h6 : ∀ a, E.I a → a.block ≠ b) (hok : MapOk E w ks zv es' ents') :
    SimH G lo E (H.set id (.map ks zv es')) { w with heap := w.heap.setIfInBounds b (.map ents'.toArray es'.length) } ∧ Evo lo E w E { w with heap := w.heap.setIfInBounds b (.map ents'.toArray es'.length) } := by
  have hat : E.at id = some b := by simp [Env.at, h1]
  have hh := MapKept.heap_set (o' := .map ents'.toArray es'.length) h4
  exact hs.turn (E' := E) (w' := { w with heap := w.heap.setIfInBounds b (.map ents'.toArray es'.length) }) (o' := .map ks zv es') ⟨rfl, rfl, rfl, by simp, fun k hk => hh.2 k (by omega)⟩ (List.getElem?_eq_some_iff.1 hH).1 (fun k _ hk => hh.2 k fun e => hk (by rw [hat, e])) (fun a ha => World.cell?_of_block (hh.2 a.block (h6 a ha)))
    (fun _ => rfl) (fun _ _ => rfl) (fun n b h => ⟨n, b, h, Nat.le_refl _, fun _ => rfl⟩) (fun _ h => h) (fun a ha => ⟨.inl ha, by simpa using hs.inI a ha⟩) (fun b h => .inl h) (fun hE => ⟨b, ents', h1, h2, h3, hh.1, hok.mono hE, h6⟩)
theorem mapOk_set {ks : KShape} {zv : Value} {es : List (Value × Option AV)} {ents : List MapEntry} (h : MapOk E w ks zv es ents) {j : Nat} {p q : Value × Option AV} {e e' : MapEntry} (hp : es[j]? = some p) (he : ents[j]? = some e) (hq : EntOk E w ks zv j q e') : MapOk E w ks zv (es.set j q) (ents.set j e') := by
  refine ⟨h.1, by rw [List.length_set, List.length_set]; exact h.2.1, fun i p' x hp' hx => ?_⟩
  by_cases hij : i = j
  · subst hij
    rw [List.getElem?_set_self (List.getElem?_eq_some_iff.1 hp).1] at hp'
    rw [List.getElem?_set_self (List.getElem?_eq_some_iff.1 he).1] at hx
    cases hp'; cases hx
    exact hq
  · rw [List.getElem?_set_ne (Ne.symm hij)] at hp' hx
    exact h.2.2 i p' x hp' hx
theorem mapOk_push {ks : KShape} {zv : Value} {es : List (Value × Option AV)} {ents : List MapEntry} (h : MapOk E w ks zv es ents) {q : Value × Option AV} {e' : MapEntry} (hq : EntOk E w ks zv es.length q e') : MapOk E w ks zv (es ++ [q]) (ents ++ [e']) := by
  refine ⟨h.1, by simp [h.2.1], fun i p' x hp' hx => ?_⟩
  by_cases hi : i < es.length
  · rw [List.getElem?_append_left hi] at hp'
    rw [List.getElem?_append_left (by rw [h.2.1]; exact hi)] at hx
    exact h.2.2 i p' x hp' hx
  · have hl := (List.getElem?_eq_some_iff.1 hp').1
    rw [List.length_append, List.length_singleton] at hl
    obtain rfl : i = es.length := by omega
    rw [List.getElem?_append_right (Nat.le_refl _)] at hp'
    rw [List.getElem?_append_right (by rw [h.2.1]; exact Nat.le_refl _), h.2.1] at hx
    simp at hp' hx
    subst hp' hx
    exact hq
theorem modify_set {α : Type} (l : List α) (j : Nat) (f : α → α) {e : α} (he : l[j]? = some e) : l.toArray.modify j f = (l.set j (f e)).toArray := by
  apply Array.ext'
  simp only [Array.toList_modify]
  apply List.ext_getElem?
  intro i
  rw [List.getElem?_modify]
  by_cases h : j = i
  · subst h
    rw [List.getElem?_set_self (List.getElem?_eq_some_iff.1 he).1, he]; simp
  · rw [List.getElem?_set_ne h]; simp [h]
/-- m[k], a place for it. -/
theorem entry_run (hs : SimH G lo E H w) {t : TypeId} {ks : KShape} {zv : Value} (hi : mapInfo P t = some (ks, zv)) {id : Nat} {es : List (Value × Option AV)} (hH : H[id]? = some (.map ks zv es)) {m k : Value} (hm : Rep E w (.mp id) m) (hk : ks.fits k) :
    ∃ v w', (Instr.mapEntry t m k).run P w = .ok v w' ∧ Rep E w' (.tup [mval zv es k, int64 (mplace es k)]) v ∧ SimH G lo E (H.set id (.map ks zv (mroom es k))) w' ∧ Evo lo E w E w' := by
  obtain ⟨kt, e, i, hu, hks, hie, hiz, hzo⟩ := mapInfo_inv hi
  obtain ⟨b, ents, rfl, h1, h2, h3, h4, h5, h6⟩ := map_at hs hH hm
  have hck : ∀ em, (Instr.checkKey em 10000 kt k).run P w = .ok () w := fun em => key_check hks hk em
  have hfk := key_find (w := w) hks hk h5.fits
  rcases map_find h5 k with ⟨f1, f2⟩ | ⟨j, p, en, g1, g2, g3, f1, f2, g4⟩
  · rw [f1] at hfk
    have hroom : mroom es k = es ++ [(k, none)] := by unfold mroom; rw [f2]
    obtain ⟨k1, k2⟩ := map_turn hs hH h1 h2 h3 h4 h6 (mapOk_push h5 (q := (k, none)) (e' := ⟨k, zv, es.length⟩) ⟨rfl, rfl, hk, rfl⟩)
    refine ⟨.tuple #[zv, goInt es.length], _, ?_, ?_, by rw [hroom]; exact k1, k2⟩
    · simp only [Instr.mapEntry, Sem.run_bind, run_underlying hu, Result.andThen_ok, MapKept.run_getObj_map h4, Sem.run_pure, hck, hfk, zeroValue, typeInfo, run_program, hie, hiz]
      rw [MapKept.run_setObj_map _ h4]
      simp
    · have hv : mval zv es k = constAV zv := by unfold mval; rw [f2]; rfl
      have hp : mplace es k = es.length := by unfold mplace; rw [f2]
      rw [hv, hp]
      exact .tup _ [zv, goInt es.length] (.cons _ _ _ _ (const_rep0 hzo) (.cons _ _ _ _ (.imm _ rfl) .nil))
  · rw [f1] at hfk
    have hroom : mroom es k = es := by unfold mroom; rw [f2]
    have hek : en.key = k := g4.1.trans g3
    have g4' : EntOk E w ks zv j p { en with key := k } := by rw [← hek]; exact g4
    obtain ⟨k1, k2⟩ := map_turn hs hH h1 h2 h3 h4 h6 (mapOk_set h5 g1 g2 g4')
    have hself : es.set j p = es := by
      apply List.ext_getElem?
      intro i
      by_cases hij : j = i
      · subst hij; rw [List.getElem?_set_self (List.getElem?_eq_some_iff.1 g1).1, g1]
      · rw [List.getElem?_set_ne hij]
    rw [hself] at k1 k2
    refine ⟨.tuple #[en.val, goInt j], _, ?_, ?_, by rw [hroom]; exact k1, k2⟩
    · have hg : (List.toArray ents)[j]? = some en := by simpa using g2
      simp only [Instr.mapEntry, Sem.run_bind, run_underlying hu, Result.andThen_ok, MapKept.run_getObj_map h4, Sem.run_pure, hck, hfk, hg, Option.map_some, Option.getD_some, hek, key_stays hk]
      rw [MapKept.run_setObj_map _ h4, modify_set _ _ _ g2, g4.2.1]
      rfl
    · have hr : Rep E w (mval zv es k) en.val := by
        unfold mval
        rw [f2]
        obtain ⟨_, _, _, g5⟩ := g4
        cases hp : p.2 with
        | none => rw [hp] at g5; simp only at g5; rw [g5]; exact const_rep0 hzo
        | some a => rw [hp] at g5; exact g5.1
      have hp : mplace es k = j := by unfold mplace; rw [f2]
      rw [hp]
      exact .tup _ [en.val, goInt j] (.cons _ _ _ _ (hr.mono k2) (.cons _ _ _ _ (.imm _ rfl) .nil))
theorem born_find {ks : KShape} {zv : Value} {es : List (Value × Option AV)} {ents : List MapEntry} (h : MapOk E w ks zv es ents) {s : Nat} (hs : s < ents.length) : (List.toArray ents).findIdx? (fun e => (e.born : Int) == (s : Int)) = some s := by
  have hb : ∀ (i : Nat) (hi : i < ents.length), ents[i].born = i := fun i hi => by
    have hlt : i < es.length := by rw [← h.2.1]; exact hi
    exact (h.2.2 i _ _ (List.getElem?_eq_getElem hlt) (List.getElem?_eq_getElem hi)).2.1
  simp only [List.findIdx?_toArray]
  rw [List.findIdx?_eq_some_iff_getElem]
  refine ⟨hs, by simp [hb s hs], fun j hj => ?_⟩
  have := hb j (by omega)
  simp only [this, beq_iff_eq]
  omega
theorem mstore_run (hs : SimH G lo E H w) {t : TypeId} {ks : KShape} {zv : Value} {id : Nat} {es : List (Value × Option AV)} (hH : H[id]? = some (.map ks zv es)) {m : Value} (hm : Rep E w (.mp id) m) {k : IntKind} {n : Int} (h0 : 0 ≤ n) {p : Value × Option AV} (hp : es[n.toNat]? = some p) {a : AV} {v : Value}
    (hv : Rep E w a v) (ha : a.isVal = true) : ∃ w', (Instr.entryStore t m (.int k n) v).run P w = .ok () w' ∧ SimH G lo E (H.set id (.map ks zv (es.set n.toNat (p.1, some a)))) w' ∧ Evo lo E w E w' := by
  obtain ⟨b, ents, rfl, h1, h2, h3, h4, h5, h6⟩ := map_at hs hH hm
  have hlt : n.toNat < ents.length := by rw [h5.2.1]; exact (List.getElem?_eq_some_iff.1 hp).1
  have hf := born_find h5 hlt
  rw [Int.toNat_of_nonneg h0] at hf
  have he := List.getElem?_eq_getElem hlt
  obtain ⟨g1, g2, g3, g4⟩ := h5.2.2 _ _ _ hp he
  obtain ⟨k1, k2⟩ := map_turn hs hH h1 h2 h3 h4 h6 (mapOk_set h5 hp he (q := (p.1, some a)) (e' := { ents[n.toNat] with val := v }) ⟨g1, g2, g3, hv, ha⟩)
  rw [List.length_set] at k1 k2
  refine ⟨_, ?_, k1, k2⟩
  simp only [Instr.entryStore, Sem.run_bind, MapKept.run_getObj_map h4, Result.andThen_ok, asInt, asIntOf, Sem.run_pure, hf]
  rw [MapKept.run_setObj_map _ h4, modify_set _ _ _ he]
theorem mupd_run (hs : SimH G lo E H w) {t : TypeId} {ks : KShape} {zv : Value} (hi : mapInfo P t = some (ks, zv)) {id : Nat} {es : List (Value × Option AV)} (hH : H[id]? = some (.map ks zv es)) {m k : Value} (hm : Rep E w (.mp id) m) (hk : ks.fits k) {a : AV} {v : Value}
    (hv : Rep E w a v) (ha : a.isVal = true) : ∃ w', (Instr.mapUpdate t m k v).run P w = .ok () w' ∧ SimH G lo E (H.set id (.map ks zv (mput es k (some a)))) w' ∧ Evo lo E w E w' := by
  obtain ⟨kt, e, i, hu, hks, hie, hiz, hzo⟩ := mapInfo_inv hi
  obtain ⟨b, ents, rfl, h1, h2, h3, h4, h5, h6⟩ := map_at hs hH hm
  have hck : ∀ em, (Instr.checkKey em 10000 kt k).run P w = .ok () w := fun em => key_check hks hk em
  have hfk := key_find (w := w) hks hk h5.fits
  rcases map_find h5 k with ⟨f1, f2⟩ | ⟨j, p, en, g1, g2, g3, f1, f2, g4⟩
  · rw [f1] at hfk
    have hput : mput es k (some a) = es ++ [(k, some a)] := by unfold mput; rw [f2]
    obtain ⟨k1, k2⟩ := map_turn hs hH h1 h2 h3 h4 h6 (mapOk_push h5 (q := (k, some a)) (e' := ⟨k, v, es.length⟩) ⟨rfl, rfl, hk, hv, ha⟩)
    refine ⟨_, ?_, by rw [hput]; exact k1, k2⟩
    simp only [Instr.mapUpdate, Sem.run_bind, run_underlying hu, Result.andThen_ok, MapKept.run_getObj_map h4, Sem.run_pure, hck, hfk]
    rw [MapKept.run_setObj_map _ h4]
    simp
  · rw [f1] at hfk
    have hput : mput es k (some a) = es.set j (k, some a) := by unfold mput; rw [f2]
    have hek : en.key = k := g4.1.trans g3
    obtain ⟨k1, k2⟩ := map_turn hs hH h1 h2 h3 h4 h6 (mapOk_set h5 g1 g2 (q := (k, some a)) (e' := { en with key := k, val := v }) ⟨rfl, g4.2.1, hk, hv, ha⟩)
    rw [List.length_set] at k1 k2
    refine ⟨_, ?_, by rw [hput]; exact k1, k2⟩
    have hg : (List.toArray ents)[j]? = some en := by simpa using g2
    simp only [Instr.mapUpdate, Sem.run_bind, run_underlying hu, Result.andThen_ok, MapKept.run_getObj_map h4, Sem.run_pure, hck, hfk, hg, Option.map_some, Option.getD_some, hek, key_stays hk]
    rw [MapKept.run_setObj_map _ h4, modify_set _ _ _ g2]
theorem mkmap_run (hs : SimH G lo E H w) {id : Nat} (hid : H[id]? = some .hole) (t : TypeId) (ks : KShape) {zv : Value} (hz : constOk zv = true) :
    ∃ v w' E', (Instr.makeMap t none).run P w = .ok v w' ∧ Rep E' w' (.mp id) v ∧ SimH G lo E' (H.set id (.map ks zv [])) w' ∧ Evo lo E w E' w' := by
  obtain ⟨k1, k2⟩ := hs.fresh (E' := { E with bx := fun k => if k = id then some w.heap.size else E.bx k }) ((Below.refl _ _).alloc (Nat.le_refl _) (.map #[] 0)) hid (.map ks zv []) (fun k hk => if_neg hk) (fun _ _ => rfl)
    (fun _ h => h) (fun _ h => .inl h) (fun b hb => by simp [Env.at] at hb; omega) (fun hE => ⟨w.heap.size, [], if_pos rfl, (hs.objs id _ hid).2, hs.lo_le, heap_alloc_new w _, ⟨hz, rfl, fun i p e h => by simp at h⟩, fun a ha hb => by
      have := hs.inI a ha; omega⟩)
  exact ⟨.map (some w.heap.size), _, _, by simp [Instr.makeMap], .mp id _ (if_pos rfl), k1, k2⟩
end
end Go.AL
