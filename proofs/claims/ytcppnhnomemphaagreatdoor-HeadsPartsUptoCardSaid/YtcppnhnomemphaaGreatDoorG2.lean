/- The abstract heap and the world. -/
import Derived.Test.YtcppnhnomemphaaGreatDoorG1
namespace Go.AL
open Go Go.RowKit

def Obj.isCells : Obj → Bool
  | .cells .. => true
  | _ => false

def TokBlk (E : Env) (w : World) (lo : Nat) (e : TypeId) (size n : Nat) : Option (Nat × Nat) → Prop
  | none => n = 0
  | some (g, cap) => lo ≤ g ∧ ∃ cur, w.heap[g]? = some (.cells cur e (0, 0)) ∧ cur.size = cap * size ∧ n ≤ cap ∧ cap ≤ maxLen ∧ ∀ a, E.I a → a.block = g → a.off < n * size

def RowBlk (E : Env) (w : World) (lo : Nat) (e : TypeId) (size : Nat) (xs : List AV) : Option (Nat × Nat) → Prop
  | none => xs = []
  | some (g, cap) => lo ≤ g ∧ ∃ (cur : Array Value) (us : List Value), w.heap[g]? = some (.cells cur e (0, 0)) ∧ cur.size = cap * size ∧ xs.length ≤ cap ∧ cap ≤ maxLen ∧ Reps E w (xs.flatMap AV.cells) us ∧ (∀ x ∈ xs, x.cells.length = size) ∧
      (∀ u ∈ us, u.oneCell' = true) ∧ (∀ (j : Nat) (u : Value), us[j]? = some u → cur[j]? = some u) ∧ ∀ a, E.I a → a.block ≠ g

/-- What the keys of a shape are. -/
def KShape.fits : KShape → Value → Prop
  | .str, v => ∃ s, v = .string s
  | .one k, v => ∃ n, v = .int k n
  | .ints ks, v => ∃ ns : List Int, ns.length = ks.length ∧ v = .agg ((ks.zip ns).map fun p => Value.int p.1 p.2).toArray

/-- An entry as it lies. -/
def EntOk (E : Env) (w : World) (ks : KShape) (zv : Value) (i : Nat) (p : Value × Option AV) (e : MapEntry) : Prop :=
  e.key = p.1 ∧ e.born = i ∧ ks.fits p.1 ∧ (match p.2 with | some a => Rep E w a e.val ∧ a.isVal = true | none => e.val = zv)
def MapOk (E : Env) (w : World) (ks : KShape) (zv : Value) (es : List (Value × Option AV)) (ents : List MapEntry) : Prop :=
  constOk zv = true ∧ ents.length = es.length ∧ ∀ i p e, es[i]? = some p → ents[i]? = some e → EntOk E w ks zv i p e

def ObjOk (E : Env) (w : World) (lo id : Nat) : AObj → Prop
  | .hole => E.bx id = none ∧ E.tk id = none
  | .box cs => ∃ b ty us, E.bx id = some b ∧ E.tk id = none ∧ lo ≤ b ∧ w.heap[b]? = some (.cells (List.toArray us) ty (0, 0)) ∧ Reps E w cs us ∧ (∀ u ∈ us, u.oneCell' = true) ∧ ∀ a, E.I a → a.block ≠ b
  | .fbox cs => ∃ b ty us, E.bx id = some b ∧ E.tk id = none ∧ lo ≤ b ∧ w.heap[b]? = some (.cells (List.toArray us) ty (0, 0)) ∧ Reps E w cs us ∧ (∀ u ∈ us, u.oneCell' = true) ∧ ∀ j, j < us.length → E.I ⟨b, j, none⟩
  | .tok e size n => ∃ B, E.bx id = none ∧ E.tk id = some (n, B) ∧ TokBlk E w lo e size n B
  | .row e size ver xs => ∃ B, E.bx id = none ∧ E.tk id = some (ver, B) ∧ RowBlk E w lo e size xs B
  | .dead => ∃ n B, E.bx id = none ∧ E.tk id = some (n, B) ∧ ∀ g c, B = some (g, c) → lo ≤ g ∧ g < w.heap.size
  | .map ks zv es => ∃ b ents, E.bx id = some b ∧ E.tk id = none ∧ lo ≤ b ∧ w.heap[b]? = some (.map (List.toArray ents) es.length) ∧ MapOk E w ks zv es ents ∧ ∀ a, E.I a → a.block ≠ b
  | .obj o => ∃ b, E.bx id = some b ∧ E.tk id = none ∧ lo ≤ b ∧ w.heap[b]? = some o ∧ Obj.isCells o = false ∧ ∀ a, E.I a → a.block ≠ b

def Env.at (E : Env) (id : Nat) : Option Nat :=
  match E.bx id with
  | some b => some b
  | none => (E.tk id).bind fun x => x.2.map (·.1)

structure SimH (G : Nat → Option (List AV)) (lo : Nat) (E : Env) (H : List AObj) (w : World) : Prop where
  lo_le : lo ≤ w.heap.size
  inI : ∀ a, E.I a → a.block < w.heap.size
  objs : ∀ id o, H[id]? = some o → ObjOk E w lo id o
  dom : ∀ id, H.length ≤ id → E.bx id = none ∧ E.tk id = none
  inj : ∀ id id' b, E.at id = some b → E.at id' = some b → id = id'
  glob : ∀ g cs, G g = some cs → ∃ us, Reps E w cs us ∧ (∀ u ∈ us, u.oneCell' = true) ∧ (∀ j u, us[j]? = some u → w.cell? ⟨g, j, none⟩ = some u ∧ E.I ⟨g, j, none⟩) ∧ ∃ ty fz, g < lo ∧ w.heap[g]? = some (.cells us.toArray ty fz)

theorem heap_lt {w : World} {b : Nat} {o : Obj} (h : w.heap[b]? = some o) : b < w.heap.size := (Array.getElem?_eq_some_iff.1 h).1

/-- The block of an object that is in the heap. -/
theorem SimH.at_spec {G : Nat → Option (List AV)} {lo : Nat} {E : Env} {H : List AObj} {w : World} (h : SimH G lo E H w) {id b : Nat} (hb : E.at id = some b) :
    lo ≤ b ∧ b < w.heap.size ∧ id < H.length := by
  have hid : id < H.length := by
    rcases Nat.lt_or_ge id H.length with h1 | h1
    · exact h1
    · have := h.dom id h1; simp [Env.at, this.1, this.2] at hb
  have ho := h.objs id _ (List.getElem?_eq_getElem hid)
  cases hO : H[id] with
  | hole => rw [hO] at ho; simp [Env.at, ho.1, ho.2] at hb
  | box cs => rw [hO] at ho; obtain ⟨b', ty, us, h1, h2, h3, h4, _⟩ := ho; simp [Env.at, h1] at hb; subst hb; exact ⟨h3, heap_lt h4, hid⟩
  | fbox cs => rw [hO] at ho; obtain ⟨b', ty, us, h1, h2, h3, h4, _⟩ := ho; simp [Env.at, h1] at hb; subst hb; exact ⟨h3, heap_lt h4, hid⟩
  | obj o => rw [hO] at ho; obtain ⟨b', h1, h2, h3, h4, _⟩ := ho; simp [Env.at, h1] at hb; subst hb; exact ⟨h3, heap_lt h4, hid⟩
  | map ks zv es => rw [hO] at ho; obtain ⟨b', ents, h1, h2, h3, h4, _⟩ := ho; simp [Env.at, h1] at hb; subst hb; exact ⟨h3, heap_lt h4, hid⟩
  | tok e size n =>
    rw [hO] at ho
    obtain ⟨B, h1, h2, h3⟩ := ho
    cases B with
    | none => simp [Env.at, h1, h2] at hb
    | some p => obtain ⟨g, cap⟩ := p; simp [Env.at, h1, h2] at hb; subst hb; obtain ⟨h4, cur, h5, _⟩ := h3; exact ⟨h4, heap_lt h5, hid⟩
  | row e size ver xs =>
    rw [hO] at ho
    obtain ⟨B, h1, h2, h3⟩ := ho
    cases B with
    | none => simp [Env.at, h1, h2] at hb
    | some p => obtain ⟨g, cap⟩ := p; simp [Env.at, h1, h2] at hb; subst hb; obtain ⟨h4, cur, us, h5, _⟩ := h3; exact ⟨h4, heap_lt h5, hid⟩
  | dead =>
    rw [hO] at ho
    obtain ⟨n, B, h1, h2, h3⟩ := ho
    cases B with
    | none => simp [Env.at, h1, h2] at hb
    | some p => obtain ⟨g, cap⟩ := p; simp [Env.at, h1, h2] at hb; subst hb; exact ⟨(h3 g cap rfl).1, (h3 g cap rfl).2, hid⟩

theorem EntOk.mono {lo : Nat} {E E' : Env} {w w' : World} (hE : Evo lo E w E' w') {ks : KShape} {zv : Value} {i : Nat} {p : Value × Option AV} {e : MapEntry} (h : EntOk E w ks zv i p e) : EntOk E' w' ks zv i p e := by
  obtain ⟨h1, h2, h3, h4⟩ := h
  refine ⟨h1, h2, h3, ?_⟩
  split at h4
  · exact ⟨h4.1.mono hE, h4.2⟩
  · exact h4
theorem MapOk.mono {lo : Nat} {E E' : Env} {w w' : World} (hE : Evo lo E w E' w') {ks : KShape} {zv : Value} {es : List (Value × Option AV)} {ents : List MapEntry} (h : MapOk E w ks zv es ents) : MapOk E' w' ks zv es ents :=
  ⟨h.1, h.2.1, fun i p e hp he => (h.2.2 i p e hp he).mono hE⟩

/-- Objects whose block did not turn are as they were. -/
theorem ObjOk.keep {lo : Nat} {E E' : Env} {w w' : World} (hE : Evo lo E w E' w') {id : Nat} {o : AObj} (h : ObjOk E w lo id o)
    (hbx : E'.bx id = E.bx id) (htk : E'.tk id = E.tk id) (hblk : ∀ b, E.at id = some b → w'.heap[b]? = w.heap[b]?)
    (hnew : ∀ a, E'.I a → E.I a ∨ ∀ b, E.at id = some b → a.block ≠ b) : ObjOk E' w' lo id o := by
  cases o with
  | hole => exact ⟨hbx.trans h.1, htk.trans h.2⟩
  | box cs =>
    obtain ⟨b, ty, us, h1, h2, h3, h4, h5, h6, h7⟩ := h
    refine ⟨b, ty, us, hbx.trans h1, htk.trans h2, h3, ?_, h5.mono hE, h6, fun a ha => ?_⟩
    · rw [hblk b (by simp [Env.at, h1])]; exact h4
    · rcases hnew a ha with h8 | h8
      · exact h7 a h8
      · exact h8 b (by simp [Env.at, h1])
  | fbox cs =>
    obtain ⟨b, ty, us, h1, h2, h3, h4, h5, h6, h7⟩ := h
    refine ⟨b, ty, us, hbx.trans h1, htk.trans h2, h3, ?_, h5.mono hE, h6, fun j hj => (hE.I _ (h7 j hj)).1⟩
    rw [hblk b (by simp [Env.at, h1])]; exact h4
  | map ks zv es =>
    obtain ⟨b, ents, h1, h2, h3, h4, h5, h6⟩ := h
    refine ⟨b, ents, hbx.trans h1, htk.trans h2, h3, ?_, h5.mono hE, fun a ha => ?_⟩
    · rw [hblk b (by simp [Env.at, h1])]; exact h4
    · rcases hnew a ha with h8 | h8
      · exact h6 a h8
      · exact h8 b (by simp [Env.at, h1])
  | obj o =>
    obtain ⟨b, h1, h2, h3, h4, h5, h6⟩ := h
    refine ⟨b, hbx.trans h1, htk.trans h2, h3, ?_, h5, fun a ha => ?_⟩
    · rw [hblk b (by simp [Env.at, h1])]; exact h4
    · rcases hnew a ha with h8 | h8
      · exact h6 a h8
      · exact h8 b (by simp [Env.at, h1])
  | tok e size n =>
    obtain ⟨B, h1, h2, h3⟩ := h
    refine ⟨B, hbx.trans h1, htk.trans h2, ?_⟩
    cases B with
    | none => exact h3
    | some p =>
      obtain ⟨g, cap⟩ := p
      obtain ⟨h4, cur, h5, h6, h7, h8, h9⟩ := h3
      refine ⟨h4, cur, ?_, h6, h7, h8, fun a ha hg => ?_⟩
      · rw [hblk g (by simp [Env.at, h1, h2])]; exact h5
      · rcases hnew a ha with h10 | h10
        · exact h9 a h10 hg
        · exact absurd hg (h10 g (by simp [Env.at, h1, h2]))
  | row e size ver xs =>
    obtain ⟨B, h1, h2, h3⟩ := h
    refine ⟨B, hbx.trans h1, htk.trans h2, ?_⟩
    cases B with
    | none => exact h3
    | some p =>
      obtain ⟨g, cap⟩ := p
      obtain ⟨h4, cur, us, h5, h6, h7, h8, h9, h9a, h10, h11, h12⟩ := h3
      refine ⟨h4, cur, us, ?_, h6, h7, h8, h9.mono hE, h9a, h10, h11, fun a ha hg => ?_⟩
      · rw [hblk g (by simp [Env.at, h1, h2])]; exact h5
      · rcases hnew a ha with h13 | h13
        · exact h12 a h13 hg
        · exact absurd hg (h13 g (by simp [Env.at, h1, h2]))
  | dead =>
    obtain ⟨n, B, h1, h2, h3⟩ := h
    refine ⟨n, B, hbx.trans h1, htk.trans h2, fun g c e => ⟨(h3 g c e).1, ?_⟩⟩
    subst e
    have hlt := (h3 g c rfl).2
    have hb := hblk g (by simp [Env.at, h1, h2])
    rcases Nat.lt_or_ge g w'.heap.size with h | h
    · exact h
    · rw [Array.getElem?_eq_none h, Array.getElem?_eq_getElem hlt] at hb; cases hb

theorem Env.at_congr {E E' : Env} {id : Nat} (hbx : E'.bx id = E.bx id) (htk : E'.tk id = E.tk id) : E'.at id = E.at id := by simp [Env.at, hbx, htk]

/-- More cells that are for good. -/
def Env.more (E : Env) (J : Addr → Prop) : Env := { E with I := fun a => E.I a ∨ J a }

/-- Only new blocks: all is as it was; cells of new blocks may be for good. -/
theorem SimH.grow {G : Nat → Option (List AV)} {lo : Nat} {E : Env} {H : List AObj} {w w' : World} (h : SimH G lo E H w) (hb : Below w.heap.size w w') (J : Addr → Prop)
    (hJ : ∀ a, J a → w.heap.size ≤ a.block ∧ a.block < w'.heap.size) : SimH G lo (E.more J) H w' ∧ Evo lo E w (E.more J) w' := by
  have hE : Evo lo E w (E.more J) w' := ⟨hb.mono h.lo_le, fun a ha => ⟨.inl ha, hb.cell (h.inI a ha)⟩, fun _ _ h => h, fun _ n b h => ⟨n, b, h, Nat.le_refl _, fun _ => rfl⟩,
    fun a ha => ha.imp id fun h1 => Nat.le_trans h.lo_le (hJ a h1).1⟩
  refine ⟨⟨Nat.le_trans h.lo_le hb.size, ?_, ?_, h.dom, h.inj, ?_⟩, hE⟩
  · rintro a (ha | ha)
    · exact Nat.lt_of_lt_of_le (h.inI a ha) hb.size
    · exact (hJ a ha).2
  · intro id o ho
    refine (h.objs id o ho).keep hE rfl rfl (fun b hb' => hb.block b (h.at_spec hb').2.1) ?_
    rintro a (ha | ha)
    · exact .inl ha
    · refine .inr fun b hb' e => ?_
      have h1 := (h.at_spec hb').2.1
      have h2 := (hJ a ha).1
      omega
  · intro g cs hg
    obtain ⟨us, h1, h2, h3, ty, fz, h4, h5⟩ := h.glob g cs hg
    exact ⟨us, h1.mono hE, h2, fun j u hu => ⟨((hE.I _ (h3 j u hu).2).2).trans (h3 j u hu).1, .inl (h3 j u hu).2⟩, ty, fz, h4, (hE.below.block g h4).trans h5⟩

/-- A new object takes a hole's place. -/
theorem SimH.fresh {G : Nat → Option (List AV)} {lo : Nat} {E E' : Env} {H : List AObj} {w w' : World} (h : SimH G lo E H w) (hb : Below w.heap.size w w') {id : Nat} (hid : H[id]? = some .hole) (o : AObj)
    (hbx : ∀ i, i ≠ id → E'.bx i = E.bx i) (htk : ∀ i, i ≠ id → E'.tk i = E.tk i)
    (hI : ∀ a, E.I a → E'.I a) (hI' : ∀ a, E'.I a → E.I a ∨ (w.heap.size ≤ a.block ∧ a.block < w'.heap.size))
    (hat : ∀ b, E'.at id = some b → w.heap.size ≤ b) (ho : Evo lo E w E' w' → ObjOk E' w' lo id o) : SimH G lo E' (H.set id o) w' ∧ Evo lo E w E' w' := by
  have hh := h.objs id _ hid
  have hlt : id < H.length := (List.getElem?_eq_some_iff.1 hid).1
  have hE : Evo lo E w E' w' := ⟨hb.mono h.lo_le, fun a ha => ⟨hI a ha, hb.cell (h.inI a ha)⟩, fun i b hi => by
      by_cases e : i = id
      · subst e; rw [hh.1] at hi; cases hi
      · rw [hbx i e]; exact hi,
    fun i n b hi => by
      by_cases e : i = id
      · subst e; rw [hh.2] at hi; cases hi
      · exact ⟨n, b, by rw [htk i e]; exact hi, Nat.le_refl _, fun _ => rfl⟩,
    fun a ha => (hI' a ha).imp (fun h => h) fun h1 => Nat.le_trans h.lo_le h1.1⟩
  refine ⟨⟨Nat.le_trans h.lo_le hb.size, ?_, ?_, ?_, ?_, ?_⟩, hE⟩
  · intro a ha
    rcases hI' a ha with h1 | h1
    · exact Nat.lt_of_lt_of_le (h.inI a h1) hb.size
    · exact h1.2
  · intro i x hx
    by_cases e : i = id
    · subst e
      rw [List.getElem?_set_self hlt] at hx
      cases hx
      exact ho hE
    · rw [List.getElem?_set_ne (Ne.symm e)] at hx
      refine (h.objs i x hx).keep hE (hbx i e) (htk i e) (fun b hb' => hb.block b (h.at_spec hb').2.1) fun a ha => ?_
      rcases hI' a ha with h1 | h1
      · exact .inl h1
      · refine .inr fun b hb' e2 => ?_
        have h2 := (h.at_spec hb').2.1
        omega
  · intro i hi
    rw [List.length_set] at hi
    have e : i ≠ id := by omega
    rw [hbx i e, htk i e]
    exact h.dom i hi
  · intro i j b hi hj
    have key : ∀ k, k ≠ id → E'.at k = E.at k := fun k hk => Env.at_congr (hbx k hk) (htk k hk)
    by_cases e1 : i = id
    · by_cases e2 : j = id
      · rw [e1, e2]
      · subst e1
        rw [key j e2] at hj
        have h1 := hat b hi
        have h2 := (h.at_spec hj).2.1
        omega
    · by_cases e2 : j = id
      · subst e2
        rw [key i e1] at hi
        have h1 := hat b hj
        have h2 := (h.at_spec hi).2.1
        omega
      · rw [key i e1] at hi
        rw [key j e2] at hj
        exact h.inj i j b hi hj
  · intro g cs hg
    obtain ⟨us, h1, h2, h3, ty, fz, h4, h5⟩ := h.glob g cs hg
    exact ⟨us, h1.mono hE, h2, fun j u hu => ⟨((hE.I _ (h3 j u hu).2).2).trans (h3 j u hu).1, (hE.I _ (h3 j u hu).2).1⟩, ty, fz, h4, (hE.below.block g h4).trans h5⟩

end Go.AL
