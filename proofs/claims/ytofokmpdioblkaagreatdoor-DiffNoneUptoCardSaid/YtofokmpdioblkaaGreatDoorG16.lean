/- An argument that was trodden, as an abstract value. -/
import Derived.Test.YtofokmpdioblkaaGreatDoorG15
import Derived.ChangeArms
set_option linter.unusedSimpArgs false
set_option linter.unusedVariables false
namespace Go.AL
open Go Go.RowKit
section
variable (P : Program)
def tileB : List Field → Nat → Nat → Bool
  | [], off, tot => off == tot
  | f :: r, off, tot => f.offset == off && tileB r (off + P.cellsOf f.type) tot
/-- Types of whole numbers, bools, texts, and structs, arrays and slices of such. -/
def opn : Nat → TypeId → Bool
  | 0, _ => false
  | m + 1, t => match P.underlying t with
    | some (.int _) | some .bool | some .string => P.cellsOf t == 1
    | some (.slice e) => P.cellsOf t == 1 && decide (0 < P.cellsOf e) && opn m e
    | some (.struct fs) => tileB P fs.toList 0 (P.cellsOf t) && fs.toList.all fun f => opn m f.type
    | some (.array n e) => P.cellsOf t == n * P.cellsOf e && opn m e
    | _ => false
/-- A value of a type that is one, out of its cells. -/
def avOf (t : TypeId) (cs : List AV) : AV :=
  match P.underlying t with
  | some (.struct _) | some (.array _ _) => .agg cs
  | _ => cs.headD .junk
/-- What the cells of a type read as; all lists and texts in them are at most so long. -/
def Opened (B : Nat) : Nat → TypeId → List AV → Prop
  | 0, _, _ => False
  | m + 1, t, avs => match P.underlying t with
    | some (.int k) => ∃ n, avs = [.imm (.int k n)] ∧ (Lit.int k n).wf = true
    | some .bool => ∃ b, avs = [.imm (.bool b)]
    | some .string => ∃ s : ByteArray, avs = [.imm (.string s)] ∧ s.data.toList.length ≤ B
    | some (.slice e) => ∃ xs : List (List AV), avs = [.sl (P.cellsOf e) (xs.map (avOf P e)) none] ∧ xs.length ≤ B ∧ ∀ x ∈ xs, Opened B m e x
    | some (.struct fs) => ∃ cs : List (List AV), avs = cs.flatten ∧ cs.length = fs.size ∧ ∀ (i : Nat) (f : Field) (c : List AV), fs.toList[i]? = some f → cs[i]? = some c → Opened B m f.type c
    | some (.array n e) => ∃ cs : List (List AV), avs = cs.flatten ∧ cs.length = n ∧ ∀ c ∈ cs, Opened B m e c
    | _ => False
end
section
variable {P : Program} {w : World} {H : Type} {enc : TypeId × Value → H} {base : Nat} {sp : Nat → Bool} {held : Bool}
/-- The bulk, as the rows have it. -/
structure BulkLaw (bulk : DataW H → Nat) (bulkAll : List (DataW H) → Nat) : Prop where
  str : ∀ b, bulk (.lit (.string b)) = b.length + 1
  agg : ∀ ps, bulk (.agg ps) = bulkAll ps + 1
  sl : ∀ es rs, bulk (.slice es rs) = bulkAll es + bulkAll rs + 1
  cons : ∀ d r, bulkAll (d :: r) = bulk d + bulkAll r
  nil : bulkAll [] = 0
  pos : ∀ d, 1 ≤ bulk d
theorem BulkLaw.mem {bulk : DataW H → Nat} {bulkAll : List (DataW H) → Nat} (h : BulkLaw bulk bulkAll) {d : DataW H} : ∀ {l : List (DataW H)}, d ∈ l → bulk d ≤ bulkAll l
  | x :: l, hd => by
    rw [h.cons]
    rcases List.mem_cons.1 hd with rfl | hd
    · omega
    · have := h.mem hd; omega
theorem BulkLaw.len {bulk : DataW H → Nat} {bulkAll : List (DataW H) → Nat} (h : BulkLaw bulk bulkAll) : ∀ (l : List (DataW H)), l.length ≤ bulkAll l
  | [] => by simp
  | x :: l => by
    rw [h.cons]
    have := h.len l
    have := h.pos x
    simp only [List.length_cons]; omega
theorem flat_chunks {β : Type} : ∀ (fs : List Field) (off tot : Nat) (cs : List β), tileB P fs off tot = true → cs.length = tot → cs.drop off = (fs.map fun f => (cs.drop f.offset).take (P.cellsOf f.type)).flatten
  | [], off, tot, cs, h, hl => by
    simp only [tileB, beq_iff_eq] at h
    rw [List.drop_of_length_le (by omega)]; rfl
  | f :: fs, off, tot, cs, h, hl => by
    simp only [tileB, Bool.and_eq_true, beq_iff_eq] at h
    rw [List.map_cons, List.flatten_cons, ← flat_chunks fs _ tot cs h.2 hl, h.1, ← List.drop_drop, List.take_append_drop]
theorem flat_items {β : Type} (size : Nat) : ∀ (n : Nat) (cs : List β), cs.length = n * size → cs = ((List.range n).map fun i => (cs.drop (i * size)).take size).flatten
  | 0, cs, h => by
    have : cs = [] := List.length_eq_zero_iff.1 (by simpa using h)
    subst this; rfl
  | n + 1, cs, h => by
    have ih := flat_items size n (cs.drop size) (by rw [List.length_drop, h, Nat.add_mul]; omega)
    rw [List.range_succ_eq_map, List.map_cons, List.flatten_cons, List.map_map]
    simp only [Nat.zero_mul, List.drop_zero]
    have e : ((List.range n).map ((fun i => (cs.drop (i * size)).take size) ∘ Nat.succ)) = (List.range n).map fun i => ((cs.drop size).drop (i * size)).take size := by
      apply List.map_congr_left
      intro i _
      simp only [Function.comp, List.drop_drop, Nat.succ_eq_add_one, Nat.add_mul, Nat.one_mul]
      rw [Nat.add_comm]
    rw [e, ← ih, List.take_append_drop]
theorem avOf_cells {B m : Nat} {t : TypeId} {avs : List AV} (h : Opened P B m t avs) (ho : opn P m t = true) : (avOf P t avs).cells = avs ∧ avs.length = P.cellsOf t := by
  induction m generalizing t avs with
  | zero => exact h.elim
  | succ m ih =>
    unfold Opened at h
    unfold opn at ho
    unfold avOf
    cases hu : P.underlying t with
    | none => rw [hu] at h; exact h.elim
    | some d =>
      rw [hu] at h ho
      cases d with
      | int k => obtain ⟨n, rfl, _⟩ := h; exact ⟨rfl, by have := eq_of_beq ho; simp [this]⟩
      | bool => obtain ⟨n, rfl⟩ := h; exact ⟨rfl, by have := eq_of_beq ho; simp [this]⟩
      | string => obtain ⟨n, rfl, _⟩ := h; exact ⟨rfl, by have := eq_of_beq ho; simp [this]⟩
      | slice e =>
        obtain ⟨xs, rfl, _⟩ := h
        simp only [Bool.and_eq_true, beq_iff_eq] at ho
        exact ⟨rfl, by simpa using ho.1.1.symm⟩
      | struct fs =>
        obtain ⟨cs, rfl, hl, hc⟩ := h
        refine ⟨rfl, ?_⟩
        simp only [Bool.and_eq_true, List.all_eq_true] at ho
        have : ∀ (l : List Field) (cs : List (List AV)) (off tot : Nat), cs.length = l.length → tileB P l off tot = true → (∀ f ∈ l, opn P m f.type = true) → (∀ (i : Nat) (f : Field) (c : List AV), l[i]? = some f → cs[i]? = some c → Opened P B m f.type c) → off + cs.flatten.length = tot := by
          intro l
          induction l with
          | nil =>
            intro cs off tot hl ht _ _
            have : cs = [] := List.length_eq_zero_iff.1 (by simpa using hl)
            subst this
            simp only [tileB, beq_iff_eq] at ht
            simpa using ht
          | cons f l ihl =>
            intro cs off tot hl ht h1 h2
            cases cs with
            | nil => simp at hl
            | cons c cs =>
              simp only [tileB, Bool.and_eq_true, beq_iff_eq] at ht
              have := ihl cs _ tot (by simpa using hl) ht.2 (fun f hf => h1 f (List.mem_cons_of_mem _ hf)) (fun i f c hf hc => h2 (i + 1) f c (by simpa using hf) (by simpa using hc))
              have h3 := (ih (h2 0 f c rfl rfl) (h1 f List.mem_cons_self)).2
              rw [List.flatten_cons, List.length_append, h3]
              omega
        have := this fs.toList cs 0 (P.cellsOf t) (by simpa using hl) ho.1 ho.2 hc
        omega
      | array n e =>
        obtain ⟨cs, rfl, hl, hc⟩ := h
        refine ⟨rfl, ?_⟩
        simp only [Bool.and_eq_true, beq_iff_eq] at ho
        rw [ho.1, ← hl]
        clear hl
        induction cs with
        | nil => simp
        | cons c cs ihc =>
          rw [List.flatten_cons, List.length_append, (ih (hc c List.mem_cons_self) ho.2).2, ihc (fun c hc' => hc c (List.mem_cons_of_mem _ hc')), List.length_cons, Nat.add_mul]
          omega
      | _ => exact h.elim
theorem cells?_get {a : Addr} {n : Nat} {cs : List Value} (h : w.cells? base a n = some cs) : cs.length = n ∧ ∀ (j : Nat) (u : Value), cs[j]? = some u → w.cell? (a.add j) = some u := by
  unfold World.cells? at h
  have h2 : ((List.range n).mapM fun i => w.cell? (a.add i)) = some cs := by
    first | exact h | (split at h <;> first | exact h | cases h)
  refine ⟨by simpa using mapM_some_length h2, fun j u hu => ?_⟩
  have hj : j < n := by have := mapM_some_length h2; simp at this; rw [← this]; exact (List.getElem?_eq_some_iff.1 hu).1
  have := mapM_some_get h2 j j (by simp [hj])
  rw [this, hu]
theorem open_all {bulk : DataW H → Nat} {bulkAll : List (DataW H) → Nat} (hb : BulkLaw bulk bulkAll) {B : Nat} : ∀ (m : Nat) (fuel : Nat) (t : TypeId) (cs : List Value) (x : DataW H × List MemPlace), opn P m t = true → DataW.trod enc P w base sp held fuel t cs = some x → bulk x.1 ≤ B →
    ∃ avs, Opened P B m t avs ∧ Reps (start w) w avs cs ∧ ∀ u ∈ cs, u.oneCell' = true
  | 0, _, _, _, _, ho, _, _ => by simp [opn] at ho
  | m + 1, fuel, t, cs, x, ho, ht, hB => by
    unfold opn at ho
    cases hu : P.underlying t with
    | none => rw [hu] at ho; cases ho
    | some d =>
      rw [hu] at ho
      cases d with
      | int k =>
        obtain ⟨n, rfl, rfl, hw⟩ := DataW.trod_int hu ht
        exact ⟨[.imm (.int k n)], by unfold Opened; rw [hu]; exact ⟨n, rfl, hw⟩, .cons _ _ _ _ (.imm _ rfl) .nil, fun u hu => by rw [List.mem_singleton.1 hu]; rfl⟩
      | bool =>
        have : ∃ b, cs = [.bool b] := by
          cases fuel with
          | zero => simp [DataW.trod] at ht
          | succ n =>
            unfold DataW.trod at ht
            rw [hu] at ht
            split at ht <;> simp_all
        obtain ⟨b, rfl⟩ := this
        exact ⟨[.imm (.bool b)], by unfold Opened; rw [hu]; exact ⟨b, rfl⟩, .cons _ _ _ _ (.imm _ rfl) .nil, fun u hu => by rw [List.mem_singleton.1 hu]; rfl⟩
      | string =>
        obtain ⟨s, rfl, rfl, _⟩ := DataW.trod_string hu ht
        simp only [hb.str] at hB
        exact ⟨[.imm (.string s)], by unfold Opened; rw [hu]; exact ⟨s, rfl, by omega⟩, .cons _ _ _ _ (.imm _ rfl) .nil, fun u hu => by rw [List.mem_singleton.1 hu]; rfl⟩
      | struct fs =>
        simp only [Bool.and_eq_true, List.all_eq_true] at ho
        obtain ⟨xs, n, rfl, rfl, hlen, hxl, hf⟩ := DataW.trod_struct hu ht
        simp only [hb.agg] at hB
        have each : ∀ (i : Nat) (f : Field), fs.toList[i]? = some f → ∃ avs, Opened P B m f.type avs ∧ Reps (start w) w avs ((cs.drop f.offset).take (P.cellsOf f.type)) ∧ ∀ u ∈ (cs.drop f.offset).take (P.cellsOf f.type), u.oneCell' = true := by
          intro i f hif
          have h1 := hf i f (by simpa using hif)
          have hi : i < xs.length := by rw [hxl]; simpa using (List.getElem?_eq_some_iff.1 hif).1
          rw [List.getElem?_eq_getElem hi] at h1
          refine open_all hb m n f.type _ _ (ho.2 f (List.mem_of_getElem? hif)) h1 ?_
          have := hb.mem (d := xs[i].1) (l := xs.map (·.1)) (List.mem_map.2 ⟨xs[i], List.getElem_mem hi, rfl⟩)
          omega
        have hch := flat_chunks (P := P) fs.toList 0 _ cs ho.1 hlen
        rw [List.drop_zero] at hch
        have build : ∀ (l : List Field), (∀ f ∈ l, ∃ avs, Opened P B m f.type avs ∧ Reps (start w) w avs ((cs.drop f.offset).take (P.cellsOf f.type)) ∧ ∀ u ∈ (cs.drop f.offset).take (P.cellsOf f.type), u.oneCell' = true) →
            ∃ as : List (List AV), as.length = l.length ∧ (∀ (i : Nat) (f : Field) (c : List AV), l[i]? = some f → as[i]? = some c → Opened P B m f.type c) ∧ Reps (start w) w as.flatten (l.map fun f => (cs.drop f.offset).take (P.cellsOf f.type)).flatten ∧ ∀ u ∈ (l.map fun f => (cs.drop f.offset).take (P.cellsOf f.type)).flatten, u.oneCell' = true := by
          intro l
          induction l with
          | nil => intro _; exact ⟨[], rfl, fun i f c h => by simp at h, .nil, fun u hu => by simp at hu⟩
          | cons f l ihl =>
            intro h
            obtain ⟨a, a1, a2, a3⟩ := h f List.mem_cons_self
            obtain ⟨as, b1, b2, b3, b4⟩ := ihl fun g hg => h g (List.mem_cons_of_mem _ hg)
            refine ⟨a :: as, by simp [b1], ?_, ?_, ?_⟩
            · intro i g c hg hc
              cases i with
              | zero => simp at hg hc; subst hg hc; exact a1
              | succ i => exact b2 i g c (by simpa using hg) (by simpa using hc)
            · rw [List.map_cons, List.flatten_cons, List.flatten_cons]; exact a2.append b3
            · intro u hu
              rw [List.map_cons, List.flatten_cons, List.mem_append] at hu
              exact hu.elim (a3 u) (b4 u)
        obtain ⟨as, b1, b2, b3, b4⟩ := build fs.toList fun f hf => by
          obtain ⟨i, hi, rfl⟩ := List.mem_iff_getElem.1 hf
          exact each i _ (List.getElem?_eq_getElem hi)
        rw [← hch] at b3 b4
        exact ⟨as.flatten, by unfold Opened; rw [hu]; exact ⟨as, rfl, by simpa using b1, b2⟩, b3, b4⟩
      | array n e =>
        simp only [Bool.and_eq_true, beq_iff_eq] at ho
        obtain ⟨xs, k, rfl, rfl, hlen, hxl, hf⟩ := DataW.trod_array hu ht
        simp only [hb.agg] at hB
        have each : ∀ i, i < n → ∃ avs, Opened P B m e avs ∧ Reps (start w) w avs ((cs.drop (i * P.cellsOf e)).take (P.cellsOf e)) ∧ ∀ u ∈ (cs.drop (i * P.cellsOf e)).take (P.cellsOf e), u.oneCell' = true := by
          intro i hin
          have h1 := hf i hin
          have hi : i < xs.length := by rw [hxl]; exact hin
          rw [List.getElem?_eq_getElem hi] at h1
          refine open_all hb m k e _ _ ho.2 h1 ?_
          have := hb.mem (d := xs[i].1) (l := xs.map (·.1)) (List.mem_map.2 ⟨xs[i], List.getElem_mem hi, rfl⟩)
          omega
        have hch := flat_items (P.cellsOf e) n cs (by rw [hlen, ho.1])
        have build : ∀ (l : List Nat), (∀ i ∈ l, i < n) → ∃ as : List (List AV), as.length = l.length ∧ (∀ c ∈ as, Opened P B m e c) ∧ Reps (start w) w as.flatten (l.map fun i => (cs.drop (i * P.cellsOf e)).take (P.cellsOf e)).flatten ∧ ∀ u ∈ (l.map fun i => (cs.drop (i * P.cellsOf e)).take (P.cellsOf e)).flatten, u.oneCell' = true := by
          intro l
          induction l with
          | nil => intro _; exact ⟨[], rfl, fun c h => by simp at h, .nil, fun u hu => by simp at hu⟩
          | cons f l ihl =>
            intro h
            obtain ⟨a, a1, a2, a3⟩ := each f (h f List.mem_cons_self)
            obtain ⟨as, b1, b2, b3, b4⟩ := ihl fun g hg => h g (List.mem_cons_of_mem _ hg)
            refine ⟨a :: as, by simp [b1], ?_, ?_, ?_⟩
            · intro c hc
              rcases List.mem_cons.1 hc with rfl | hc
              · exact a1
              · exact b2 c hc
            · rw [List.map_cons, List.flatten_cons, List.flatten_cons]; exact a2.append b3
            · intro u hu
              rw [List.map_cons, List.flatten_cons, List.mem_append] at hu
              exact hu.elim (a3 u) (b4 u)
        obtain ⟨as, b1, b2, b3, b4⟩ := build (List.range n) fun i hi => List.mem_range.1 hi
        rw [← hch] at b3 b4
        exact ⟨as.flatten, by unfold Opened; rw [hu]; exact ⟨as, rfl, by simpa using b1, b2⟩, b3, b4⟩
      | slice e =>
        simp only [Bool.and_eq_true, beq_iff_eq, decide_eq_true_eq] at ho
        obtain ⟨⟨h1, h2⟩, h3⟩ := ho
        have one : ∀ v : Value, v.oneCell' = true → ∀ u ∈ [v], u.oneCell' = true := fun v hv u hu => by rw [List.mem_singleton.1 hu]; exact hv
        rcases DataW.trod_slice hu ht with ⟨rfl, rfl⟩ | ⟨a, len, cap, elems, rest, n, rfl, rfl, rfl, g1, g2, g3, g4, g5, g6, g7⟩
        · refine ⟨[.sl (P.cellsOf e) [] none], by unfold Opened; rw [hu]; exact ⟨[], rfl, Nat.zero_le _, fun x hx => by cases hx⟩, .cons _ _ _ _ ?_ .nil, one _ rfl⟩
          exact .sl _ [] none none 0 [] (Nat.le_refl _) (Nat.zero_le _) (fun x hx => by cases hx) .nil (fun u hu => by cases hu) (fun j u hu => by simp at hu) trivial
        · simp only [hb.sl] at hB
          have each : ∀ i, i < len → ∃ avs us, w.cells? base (a.add (i * P.cellsOf e)) (P.cellsOf e) = some us ∧ Opened P B m e avs ∧ Reps (start w) w avs us ∧ ∀ u ∈ us, u.oneCell' = true := by
            intro i hin
            have q1 := g5 i hin
            have hi : i < elems.length := by rw [g4]; exact hin
            rw [List.getElem?_eq_getElem hi, Option.bind_eq_some_iff] at q1
            obtain ⟨us, q2, q3⟩ := q1
            have hle := hb.mem (d := elems[i].1) (l := elems.map (·.1)) (List.mem_map.2 ⟨elems[i], List.getElem_mem hi, rfl⟩)
            obtain ⟨avs, r1, r2, r3⟩ := open_all (B := B) hb m n e us _ h3 q3 (by omega)
            exact ⟨avs, us, q2, r1, r2, r3⟩
          have build : ∀ k, k ≤ len → ∃ (as : List (List AV)) (us : List Value), as.length = k ∧ us.length = k * P.cellsOf e ∧ (∀ c ∈ as, Opened P B m e c) ∧ Reps (start w) w as.flatten us ∧ (∀ u ∈ us, u.oneCell' = true) ∧ ∀ (j : Nat) (u : Value), us[j]? = some u → w.cell? (a.add j) = some u := by
            intro k
            induction k with
            | zero => intro _; exact ⟨[], [], rfl, by simp, (fun c h => by cases h), .nil, (fun u h => by cases h), (fun j u h => by simp at h)⟩
            | succ k ihk =>
              intro hk
              obtain ⟨as, us, b1, b2, b3, b4, b5, b6⟩ := ihk (by omega)
              obtain ⟨av, uv, c1, c2, c3, c4⟩ := each k (by omega)
              obtain ⟨c5, c6⟩ := cells?_get c1
              refine ⟨as ++ [av], us ++ uv, by simp [b1], by rw [List.length_append, b2, c5, Nat.add_mul]; omega, ?_, ?_, ?_, ?_⟩
              · intro c hc
                rcases List.mem_append.1 hc with hc | hc
                · exact b3 c hc
                · rw [List.mem_singleton.1 hc]; exact c2
              · rw [List.flatten_append]; simpa using b4.append c3
              · intro u hu
                exact (List.mem_append.1 hu).elim (b5 u) (c4 u)
              · intro j u hj
                by_cases hlt : j < us.length
                · rw [List.getElem?_append_left hlt] at hj; exact b6 j u hj
                · rw [List.getElem?_append_right (by omega)] at hj
                  have := c6 _ u hj
                  rw [add_add, b2] at this
                  rw [show k * P.cellsOf e + (j - k * P.cellsOf e) = j by omega] at this
                  exact this
          obtain ⟨as, us, b1, b2, b3, b4, b5, b6⟩ := build len (Nat.le_refl _)
          have hlen := hb.len (elems.map (·.1))
          rw [List.length_map, g4] at hlen
          refine ⟨[.sl (P.cellsOf e) (as.map (avOf P e)) none], by unfold Opened; rw [hu]; exact ⟨as, rfl, by omega, b3⟩, .cons _ _ _ _ ?_ .nil, one _ rfl⟩
          have hfl : (as.map (avOf P e)).flatMap AV.cells = as.flatten := by
            rw [List.flatMap_map]
            have : ∀ l : List (List AV), (∀ c ∈ l, Opened P B m e c) → l.flatMap (fun c => (avOf P e c).cells) = l.flatten := by
              intro l
              induction l with
              | nil => intro _; rfl
              | cons c l ihl =>
                intro h
                rw [List.flatMap_cons, List.flatten_cons, (avOf_cells (h c List.mem_cons_self) h3).1, ihl fun c hc => h c (List.mem_cons_of_mem _ hc)]
            exact this as b3
          have := Rep.sl (E := start w) (w := w) (P.cellsOf e) (as.map (avOf P e)) none (some a) cap us (by rw [List.length_map, b1]; exact g2) g3 (fun x hx => by
            obtain ⟨c, hc, rfl⟩ := List.mem_map.1 hx
            rw [(avOf_cells (b3 c hc) h3).1]; exact (avOf_cells (b3 c hc) h3).2) (by rw [hfl]; exact b4) b5 (fun j u hu => ⟨a, rfl, b6 j u hu, block_lt_of_cell (b6 j u hu)⟩) trivial
          rw [List.length_map, b1] at this
          exact this
      | _ => cases ho
end
end Go.AL
