/- Path: whether a text is parts between slashes. -/
import Derived.Test.YtfilcbnobmnopaaDoorW26
import Derived.Test.YtfilcbnobmnopaaDoorP8
set_option linter.unusedSimpArgs false
set_option linter.unusedVariables false
set_option maxRecDepth 100000
namespace Go.AL.Path
open Go Go.RowKit Go.Proofs Go.AL Go.Shelf
attribute [local go_sem] Oper.semAt_some

def wholeP (s : List UInt8) : Bool := partsOk s && decide (s.length ≤ 254)

theorem goParts_pieces : ∀ (l cur : List UInt8), goParts cur l = (pieces cur l).all partOk
  | [], cur => by simp [goParts, pieces]
  | c :: r, cur => by
    rw [goParts, pieces]
    split
    · rw [goParts_pieces r [], List.all_cons]
    · exact goParts_pieces r _

def laid54 (s : List UInt8) (w : World) : World := ((w.alloc (.cells #[.string (B s)] 9)).alloc (.cells #[.string (B [47])] 9)).alloc (.cells #[.int .i64 0] 3)
def fn54V (b : Nat) : Value := .func (.func 71) #[] #[.pointer (some ⟨b + 1, 0, none⟩), .pointer (some ⟨b, 0, none⟩), .pointer (some ⟨b + 2, 0, none⟩)]

theorem calls54 (s : List UInt8) (w : World) : CallsIn Fence.wide 3 Tryd.prog 54 #[.string (B s), .string (B [47]), .int .i64 0] w fun e w' => e = .returned (fn54V w.heap.size) ∧ w' = laid54 s w := by
  refine callsIn_of_wp Tryd.func54 rfl trivial ?_ rfl
  simp only [Tryd.ntmps54, List.size_toArray, List.length_cons, List.length_nil, Nat.reduceAdd, Nat.reduceSub, Array.replicate_succ, Array.replicate_zero, List.push_toArray, List.append_toArray, List.nil_append, List.cons_append]
  gi_wp2
  refine bodyPost_ret (results_tmp rfl _ _ _) rfl ?_
  exact ⟨by simp [fn54V], rfl⟩
theorem calls39 (s : List UInt8) (w : World) : CallsIn Fence.wide 3 Tryd.prog 39 #[.string (B s), .string (B [47])] w fun e w' => e = .returned (fn54V w.heap.size) ∧ w' = laid54 s w := by
  refine callsIn_of_wp Tryd.func39 rfl trivial ?_ rfl
  simp only [Tryd.ntmps39, List.size_toArray, List.length_cons, List.length_nil, Nat.reduceAdd, Nat.reduceSub, Array.replicate_succ, Array.replicate_zero, List.push_toArray, List.append_toArray, List.nil_append, List.cons_append]
  gi_wp2_with (refine ⟨trivial, ?_⟩; gi_at_call 54; refine (callsIn_wide.2 (callsIn_wide.1 (calls54 s w))).mono ?_; rintro e w' ⟨rfl, rfl⟩)
  refine bodyPost_ret (results_tmp rfl _ _ _) rfl ?_
  exact ⟨rfl, rfl⟩
theorem calls33 (s : List UInt8) (w : World) : CallsIn Fence.wide 3 Tryd.prog 33 #[.string (B s)] w fun e w' => e = .returned (fn54V w.heap.size) ∧ w' = laid54 s w := by
  refine callsIn_of_wp Tryd.func33 rfl trivial ?_ rfl
  simp only [Tryd.ntmps33, List.size_toArray, List.length_cons, List.length_nil, Nat.reduceAdd, Nat.reduceSub, Array.replicate_succ, Array.replicate_zero, List.push_toArray, List.append_toArray, List.nil_append, List.cons_append]
  gi_wp2_with (refine ⟨trivial, ?_⟩; gi_at_call 39; refine (callsIn_wide.2 (callsIn_wide.1 (calls39 s w))).mono ?_; rintro e w' ⟨rfl, rfl⟩)
  refine bodyPost_ret (results_tmp rfl _ _ _) rfl ?_
  exact ⟨rfl, rfl⟩

theorem heap_newest (w : World) (o : Obj) : (w.alloc o).heap[w.heap.size]? = some o := World.alloc_heap_new w o
theorem heap_older (w : World) (o : Obj) {k : Nat} {x : Obj} (h : w.heap[k]? = some x) : (w.alloc o).heap[k]? = some x := (Below.heap_alloc w o k (heap_lt h)).trans h
theorem cell_of {w : World} {k : Nat} {v : Value} {ty : TypeId} (h : w.heap[k]? = some (.cells #[v] ty)) : w.cell? ⟨k, 0, none⟩ = some v ∧ w.frozen? ⟨k, 0, none⟩ = false := by
  constructor <;> simp [World.cell?, World.frozen?, h]

/-- What lies when the loop begins. -/
theorem laid_facts (s : List UInt8) (w : World) :
    (laid54 s (w.alloc (.cells #[.bool false] 4))).heap.size = w.heap.size + 4 ∧
    (laid54 s (w.alloc (.cells #[.bool false] 4))).heap[w.heap.size]? = some (.cells #[.bool false] 4) ∧
    (laid54 s (w.alloc (.cells #[.bool false] 4))).heap[w.heap.size + 1]? = some (.cells #[.string (B s)] 9) ∧
    (laid54 s (w.alloc (.cells #[.bool false] 4))).heap[w.heap.size + 2]? = some (.cells #[.string (B [47])] 9) ∧
    (laid54 s (w.alloc (.cells #[.bool false] 4))).heap[w.heap.size + 3]? = some (.cells #[.int .i64 0] 3) ∧
    Below w.heap.size w (laid54 s (w.alloc (.cells #[.bool false] 4))) := by
  unfold laid54
  have h0 := heap_newest w (.cells #[.bool false] 4)
  have h1 := heap_newest (w.alloc (.cells #[.bool false] 4)) (.cells #[.string (B s)] 9)
  have h2 := heap_newest ((w.alloc (.cells #[.bool false] 4)).alloc (.cells #[.string (B s)] 9)) (.cells #[.string (B [47])] 9)
  have h3 := heap_newest (((w.alloc (.cells #[.bool false] 4)).alloc (.cells #[.string (B s)] 9)).alloc (.cells #[.string (B [47])] 9)) (.cells #[.int .i64 0] 3)
  simp only [World.size_alloc] at h0 h1 h2 h3
  refine ⟨by simp only [World.size_alloc], heap_older _ _ (heap_older _ _ (heap_older _ _ h0)), heap_older _ _ (heap_older _ _ h1), heap_older _ _ h2, h3, ?_⟩
  exact ((((Below.refl _ w).alloc (Nat.le_refl _) _).alloc (by simp only [World.size_alloc]; omega) _).alloc (by simp only [World.size_alloc]; omega) _).alloc (by simp only [World.size_alloc]; omega) _

/-- The loop's record. -/
@[reducible] def recL (fn : FuncId) (tmps : Array Value) (ps : Array Tmp) (asg body : Code) (D : Nat) (st : LoopState) (pe : Option Code) : Loop := { state := st, pending := pe, fn, tmps, params := ps, assign := asg, body, defers := D }

/-- A range over a function, laid open: what is left to show of the call of it. -/
theorem wpIn_ranged {F : Fence} {n : Nat} {P : Program} {g : Operand} {ps : Array Tmp} {asg body : Code} {Q : Exit → Act → World → Prop} {a : Act} {w : World} (hro : F.round = none) (h1 : 1 ≤ n) {gf : Nat} {lb : Array Value}
    (hg : a.eval g = .func (.func gf) #[] lb) (hF : F.fn gf) (eg : ∀ args w, (callFunc gf args).run P w = .ok (.enter gf args) w)
    (h : ∀ fn, F.fn fn → ∀ rec : LoopState → Option Code → Loop, rec = recL fn a.tmps ps asg body w.heap.size → CallsIn F (n - 1) P gf (#[.func (.yield (w.heap.size + 1)) #[] #[]] ++ lb) ((w.alloc (.deferred (some []))).alloc (.loop (rec .ready none)))
      (rangePost F n P (w.heap.size + 1) Q { a with defers := { target := .collected w.heap.size, args := #[] } :: a.defers })) :
    (Code.rangeFunc g ps asg body).wpIn F n P Q a w := by
  refine wpIn_rangeFunc ?_
  intro fn hfn
  rw [hro]
  have hc := h fn hfn _ rfl
  have he := run_enterLoop_outer (P := P) (w := w) fn a.tmps ps asg body
  obtain ⟨W1, hW1⟩ : ∃ W1, (w.alloc (.deferred (some []))).alloc (.loop (recL fn a.tmps ps asg body w.heap.size .ready none)) = W1 := ⟨_, rfl⟩
  rw [hW1] at hc he
  refine ⟨w.heap.size + 1, [{ target := .collected w.heap.size, args := #[] }], W1, { target := .fn (.func gf) lb, args := #[.func (.yield (w.heap.size + 1)) #[] #[]] }, W1, gf, #[.func (.yield (w.heap.size + 1)) #[] #[]] ++ lb, W1, ?_, ?_, ?_, ?_, fun _ => h1, ?_⟩
  · exact he
  · simp only [resolve, hg]
    simp [go_sem]
  · intro f' hf'
    simp [Target.leads] at hf'
    subst hf'
    exact hF
  · simp [invoke, go_sem, eg]
  · exact hc

theorem p27 (s : List UInt8) (hs : s.length ≤ 1099511627776) : Pure Tryd.prog G 27 [T s] (bool (wholeP s)) := by
  refine pure_of_below Tryd.func27 rfl (by decide +kernel) rfl imm1 fun H lo E w hsim => ?_
  refine (callsIn_wide (n := 3)).1 ?_
  refine callsIn_of_wp_marks Tryd.func27 rfl trivial ?_ rfl
  simp only [Tryd.ntmps27, List.size_toArray, List.length_cons, List.length_nil, Nat.reduceAdd, Nat.reduceSub, Array.replicate_succ, Array.replicate_zero, List.push_toArray, List.append_toArray, List.nil_append, List.cons_append]
  gi_wp2_with (refine ⟨trivial, ?_⟩; gi_at_call 33; refine (callsIn_wide.2 (callsIn_wide.1 (calls33 s _))).mono ?_; rintro e w' ⟨rfl, rfl⟩)
  obtain ⟨hz, hc0, hc1, hc2, hc3, hB0⟩ := laid_facts s w
  obtain ⟨h, hh⟩ : ∃ h, w.heap.size = h := ⟨_, rfl⟩
  obtain ⟨W0, hW0⟩ : ∃ W0, laid54 s (w.alloc (.cells #[.bool false] 4)) = W0 := ⟨_, rfl⟩
  rw [hW0, hh] at hz hc0 hc1 hc2 hc3
  rw [hW0] at hB0
  rw [hW0, hh]
  refine wpIn_ranged rfl (by decide) (gf := 71) (lb := #[.pointer (some ⟨h + 2, 0, none⟩), .pointer (some ⟨h + 1, 0, none⟩), .pointer (some ⟨h + 3, 0, none⟩)]) rfl trivial (enters_of Tryd.func71 (by kernel_rfl) rfl) fun fn hfn rec hrec => ?_
  rw [hz]
  obtain ⟨W1, hW1⟩ : ∃ W1, (W0.alloc (.deferred (some []))) = W1 := ⟨_, rfl⟩
  rw [hW1]
  have hD := heap_newest W0 (.deferred (some []))
  rw [hW1, hz] at hD
  have hz1 : W1.heap.size = h + 5 := by rw [← hW1, World.size_alloc, hz]
  have hk0 := heap_older W0 (.deferred (some [])) hc0
  have hk1 := heap_older W0 (.deferred (some [])) hc1
  have hk2 := heap_older W0 (.deferred (some [])) hc2
  have hk3 := heap_older W0 (.deferred (some [])) hc3
  rw [hW1] at hk0 hk1 hk2 hk3
  have hB1 : Below w.heap.size w W1 := by rw [← hW1]; exact hB0.alloc (by omega) _
  clear hc0 hc1 hc2 hc3 hB0 hW1
  obtain ⟨W2, hW2⟩ : ∃ W2, (W1.alloc (.loop (rec .ready none))) = W2 := ⟨_, rfl⟩
  have hL := heap_newest W1 (.loop (rec .ready none))
  rw [hW2, hz1] at hL
  replace hD := heap_older W1 (.loop (rec .ready none)) hD
  replace hk0 := heap_older W1 (.loop (rec .ready none)) hk0
  replace hk1 := heap_older W1 (.loop (rec .ready none)) hk1
  replace hk2 := heap_older W1 (.loop (rec .ready none)) hk2
  replace hk3 := heap_older W1 (.loop (rec .ready none)) hk3
  rw [hW2] at hk0 hk1 hk2 hk3 hD
  have hB2 : Below w.heap.size w W2 := by rw [← hW2]; exact hB1.alloc (by omega) _
  rw [hW2]
  refine (seq71 Fence.wide 2 rfl (h + 5) (h + 1) (h + 2) (h + 3) (h + 4) s hs (by omega) (by omega) (by omega) (by omega) (by omega)
    (fun pre W => pre.all partOk = true ∧ W.heap[h]? = some (.cells #[.bool false] 4) ∧ W.heap[h + 4]? = some (.deferred (some [])) ∧ W.heap[h + 5]? = some (.loop (rec .ready none)) ∧ Below w.heap.size w W)
    (fun pre W => pre.all partOk = false ∧ W.cell? ⟨h, 0, none⟩ = some (.bool false) ∧ W.heap[h + 4]? = some (.deferred (some [])) ∧ W.heap[h + 5]? = some (.loop (rec .done (some .ret))) ∧ Below w.heap.size w W)
    ?J ?Y W2 (cell_of hk1).1 (cell_of hk1).2 (cell_of hk2).1 (cell_of hk3).1 ⟨rfl, hk0, hD, hL, hB2⟩).mono ?E
  case J =>
    rintro pre W v ⟨h1, h2, h3, h4, h5⟩
    exact ⟨h1, (Below.heap_setCell _ _ _ _ (by simp)).trans h2, (Below.heap_setCell _ _ _ _ (by simp)).trans h3, (Below.heap_setCell _ _ _ _ (by simp)).trans h4, h5.setCell (by simp; omega) _⟩
  case Y =>
    rintro pre x W ⟨h1, h2, h3, h4, h5⟩ hx
    have hlt : h + 5 < W.heap.size := heap_lt h4
    have hy := run_yield (P := Tryd.prog) (args := #[.string (B x)]) h4 (by rw [hrec]; rfl)
    have hbr := run_beginRound (P := Tryd.prog) h4 (by rw [hrec])
    obtain ⟨W3, hW3⟩ : ∃ W3, W.putObj (h + 5) (.loop { rec .ready none with state := .busy }) = W3 := ⟨_, rfl⟩
    rw [hW3] at hbr
    have b1 : Below (h + 4) W W3 := by rw [← hW3]; exact (Below.refl _ W).grown (grownBy_putObj' W _ _) (by omega) (fun k e => by cases e; omega)
    have b2 : Below w.heap.size w W3 := h5.trans (b1.mono (by omega))
    have g2 : W3.heap[h]? = some (.cells #[.bool false] 4) := (b1.block h (by omega)).trans h2
    have g3 : W3.heap[h + 4]? = some (.deferred (some [])) := by rw [← hW3]; exact (World.putObj_heap_other (by omega)).trans h3
    have g4 : W3.heap[h + 5]? = some (.loop { rec .ready none with state := .busy }) := by rw [← hW3]; exact World.putObj_heap_same hlt
    have hlt3 : h + 5 < W3.heap.size := heap_lt g4
    obtain ⟨k1, _⟩ := hsim.grow b2 (fun _ => False) (fun _ h => h.elim)
    obtain ⟨E0, k2⟩ := SimH.restart hG k1
    have h34 : Calls Tryd.prog 34 #[.string (B x)] W3 fun e W' => e = .returned (.bool (partOk x)) ∧ Below W3.heap.size W3 W' := calls_of_pure Tryd.func34 rfl (by decide +kernel) (p34 x (by omega)) imm1 k2 (by simp [Value.oneCell'])
    have her : ∀ jump W', W'.heap[h + 5]? = some (.loop { rec .ready none with state := .busy }) → (Instr.endRound (h + 5) jump).run Tryd.prog W' = .ok (.bool jump.isNone) (W'.putObj (h + 5) (.loop (rec (if jump.isNone then .ready else .done) jump))) := by
      intro jump W' hw
      have := run_endRound (P := Tryd.prog) jump hw
      rw [hrec] at this ⊢
      exact this
    rw [hrec] at hy
    refine ⟨fn, _, _, _, hy, roundIn_of_wpIn hfn ?_⟩
    dsimp only [recL]
    clear hrec hy hW3 hL h4
    have fin : ∀ W4, Below W3.heap.size W3 W4 → W4.heap[h]? = some (.cells #[.bool false] 4) ∧ W4.heap[h + 4]? = some (.deferred (some [])) ∧ W4.heap[h + 5]? = some (.loop { rec .ready none with state := .busy }) ∧ Below w.heap.size w W4 ∧ Below (h + 4) W W4 := fun W4 hb4 =>
      ⟨(hb4.block h (by omega)).trans g2, (hb4.block (h + 4) (by omega)).trans g3, (hb4.block (h + 5) hlt3).trans g4, b2.trans (hb4.mono b2.size), b1.trans (hb4.mono (by omega))⟩
    have hend : ∀ jump W4, W4.heap[h]? = some (.cells #[.bool false] 4) → W4.heap[h + 4]? = some (.deferred (some [])) → W4.heap[h + 5]? = some (.loop { rec .ready none with state := .busy }) → Below w.heap.size w W4 →
        (W4.putObj (h + 5) (.loop (rec (if jump.isNone then .ready else .done) jump))).heap[h]? = some (.cells #[.bool false] 4) ∧ (W4.putObj (h + 5) (.loop (rec (if jump.isNone then .ready else .done) jump))).heap[h + 4]? = some (.deferred (some [])) ∧
        (W4.putObj (h + 5) (.loop (rec (if jump.isNone then .ready else .done) jump))).heap[h + 5]? = some (.loop (rec (if jump.isNone then .ready else .done) jump)) ∧ Below w.heap.size w (W4.putObj (h + 5) (.loop (rec (if jump.isNone then .ready else .done) jump))) ∧ Below (h + 4) W4 (W4.putObj (h + 5) (.loop (rec (if jump.isNone then .ready else .done) jump))) := fun jump W4 e1 e2 e3 e4 =>
      ⟨(World.putObj_heap_other (by omega)).trans e1, (World.putObj_heap_other (by omega)).trans e2, World.putObj_heap_same (heap_lt e3), e4.grown (grownBy_putObj' W4 _ _) e4.size (fun k e => by cases e; omega), (Below.refl _ W4).grown (grownBy_putObj' W4 _ _) (by have := heap_lt e3; omega) (fun k e => by cases e; omega)⟩
    clear hsim k1 k2 hB1 hB2 hk0 hk1 hk2 hk3 hD b1 b2 g2 g3
    cases hpx : partOk x with
    | true =>
      rw [hpx] at h34
      gi_wp2
      refine ⟨trivial, (CallsIn.inRound _ (callsIn_wide.2 h34)).mono ?_⟩
      rintro e W4 ⟨rfl, hb4⟩
      obtain ⟨f1, f2, f3, f4, f5⟩ := fin W4 hb4
      obtain ⟨e1, e2, e3, e4, e5⟩ := hend none W4 f1 f2 f3 f4
      clear fin h34 hbr hb4
      gi_wp2
      refine ⟨_, _, her none W4 f3, rfl, ⟨e1, e2, e3, ?_⟩, f5.trans e5⟩
      first | exact e4 | (rw [hh] at e4; exact e4)
    | false =>
      rw [hpx] at h34
      gi_wp2
      refine ⟨trivial, (CallsIn.inRound _ (callsIn_wide.2 h34)).mono ?_⟩
      rintro e W4 ⟨rfl, hb4⟩
      obtain ⟨f1, f2, f3, f4, f5⟩ := fin W4 hb4
      have hcl := cell_of f1
      have q0 : (W4.setCell ⟨h, 0, none⟩ (.bool false)).cell? ⟨h, 0, none⟩ = some (.bool false) := World.cell?_setCell_same' _ _ _ (by rw [hcl.1]; rfl)
      have q1 : (W4.setCell ⟨h, 0, none⟩ (.bool false)).heap[h + 4]? = some (.deferred (some [])) := (Below.heap_setCell _ _ _ _ (by simp)).trans f2
      have q2 : (W4.setCell ⟨h, 0, none⟩ (.bool false)).heap[h + 5]? = some (.loop { rec .ready none with state := .busy }) := (Below.heap_setCell _ _ _ _ (by simp)).trans f3
      have q3 : Below w.heap.size w (W4.setCell ⟨h, 0, none⟩ (.bool false)) := f4.setCell (by simp; omega) _
      obtain ⟨W5, hW5⟩ : ∃ W5, W4.setCell ⟨h, 0, none⟩ (.bool false) = W5 := ⟨_, rfl⟩
      rw [hW5] at q0 q1 q2 q3
      clear fin h34 hbr hb4
      gi_wp2
      refine ⟨_, _, her (some .ret) W5 q2, ⟨rfl, (World.cell?_of_block (World.putObj_heap_other (by simp))).trans q0, (World.putObj_heap_other (by omega)).trans q1, World.putObj_heap_same (heap_lt q2), ?_⟩⟩
      have q4 : Below w.heap.size w (W5.putObj (h + 5) (.loop (rec .done (some .ret)))) := q3.grown (grownBy_putObj' W5 _ _) q3.size (fun k e => by cases e; omega)
      first | exact q4 | (rw [hh] at q4; exact q4)
  case E =>
    have hro : ∀ st pe, (rec st pe).state = st ∧ (rec st pe).pending = pe := fun st pe => by rw [hrec]; exact ⟨rfl, rfl⟩
    rintro e W4 ⟨⟨v, rfl⟩, hA⟩
    have hA' : (partsOk s = true ∧ W4.heap[h]? = some (.cells #[.bool false] 4) ∧ W4.heap[h + 4]? = some (.deferred (some [])) ∧ W4.heap[h + 5]? = some (.loop (rec .ready none)) ∧ Below w.heap.size w W4) ∨
        (partsOk s = false ∧ W4.cell? ⟨h, 0, none⟩ = some (.bool false) ∧ W4.heap[h + 4]? = some (.deferred (some [])) ∧ W4.heap[h + 5]? = some (.loop (rec .done (some .ret))) ∧ Below w.heap.size w W4) := by
      unfold partsOk
      rw [goParts_pieces s []]
      rcases hA with hA | hA | ⟨pre, ⟨t, ht⟩, h1, hA⟩
      · exact .inl hA
      · exact .inr hA
      · exact .inr ⟨by rw [← ht, List.all_append, h1]; rfl, hA⟩
    clear hA
    have h45 : h + 4 + 1 = h + 5 := rfl
    rw [h45]
    rcases hA' with ⟨h1, h2, h3, h4, h5⟩ | ⟨h1, h2, h3, h4, h5⟩
    · obtain ⟨W5, hW5⟩ : ∃ W5, W4.putObj (h + 5) (.loop { rec .ready none with state := .exhausted }) = W5 := ⟨_, rfl⟩
      have g2 : W5.heap[h]? = some (.cells #[.bool false] 4) := by rw [← hW5]; exact (World.putObj_heap_other (by omega)).trans h2
      have g3 : W5.heap[h + 4]? = some (.deferred (some [])) := by rw [← hW5]; exact (World.putObj_heap_other (by omega)).trans h3
      have g5 : Below w.heap.size w W5 := by rw [← hW5]; exact h5.grown (grownBy_putObj' W4 _ _) h5.size (fun k e => by cases e; omega)
      have hE := run_endLoop (P := Tryd.prog) h4 (by rw [(hro _ _).1]; decide)
      rw [hW5, (hro _ _).2] at hE
      refine ⟨none, W5, hE, ?_⟩
      have hcl := cell_of g2
      have hsz : (((B s).size : Nat) : Int) = (s.length : Int) := rfl
      clear hE hW5 hro hrec hL hk0 hk1 hk2 hk3 hB1 hB2
      dsimp only
      gi_wp2
      obtain ⟨W6, hW6⟩ : ∃ W6, W5.setCell ⟨h, 0, none⟩ (.bool (decide ((s.length : Int) ≤ 254))) = W6 := ⟨_, rfl⟩
      have q0 : W6.cell? ⟨h, 0, none⟩ = some (.bool (decide ((s.length : Int) ≤ 254))) := by rw [← hW6]; exact World.cell?_setCell_same' _ _ _ (by rw [hcl.1]; rfl)
      have q1 : W6.heap[h + 4]? = some (.deferred (some [])) := by rw [← hW6]; exact (Below.heap_setCell _ _ _ _ (by simp)).trans g3
      have q3 : Below w.heap.size w W6 := by rw [← hW6]; exact g5.setCell (by simp; omega) _
      rw [hW6]
      refine ⟨by simp, .inl ⟨_, _, rfl, run_takeDeferred q1, ?_⟩⟩
      have q4 : (W6.putObj (h + 4) (.deferred none)).cell? ⟨h, 0, none⟩ = some (.bool (decide ((s.length : Int) ≤ 254))) := (World.cell?_of_block (World.putObj_heap_other (by simp))).trans q0
      refine ⟨.bool (decide ((s.length : Int) ≤ 254)), ?_, ?_, ?_⟩
      · simp [results, Tryd.f27, go_sem, q4]
      · congr 2
        unfold wholeP
        rw [h1, Bool.true_and]
        exact decide_eq_decide.2 (by omega)
      · have q5 : Below w.heap.size w (W6.putObj (h + 4) (.deferred none)) := q3.grown (grownBy_putObj' W6 _ _) q3.size (fun k e => by cases e; omega)
        first | exact q5 | (rw [hh] at q5; exact q5)
    · obtain ⟨W5, hW5⟩ : ∃ W5, W4.putObj (h + 5) (.loop { rec .done (some .ret) with state := .exhausted }) = W5 := ⟨_, rfl⟩
      have g2 : W5.cell? ⟨h, 0, none⟩ = some (.bool false) := by rw [← hW5]; exact (World.cell?_of_block (World.putObj_heap_other (by simp))).trans h2
      have g3 : W5.heap[h + 4]? = some (.deferred (some [])) := by rw [← hW5]; exact (World.putObj_heap_other (by omega)).trans h3
      have g5 : Below w.heap.size w W5 := by rw [← hW5]; exact h5.grown (grownBy_putObj' W4 _ _) h5.size (fun k e => by cases e; omega)
      have hE := run_endLoop (P := Tryd.prog) h4 (by rw [(hro _ _).1]; decide)
      rw [hW5, (hro _ _).2] at hE
      refine ⟨some .ret, W5, hE, ?_⟩
      clear hE hW5 hro hrec hL hk0 hk1 hk2 hk3 hB1 hB2
      dsimp only
      gi_wp2
      refine ⟨by simp, .inl ⟨_, _, rfl, run_takeDeferred g3, ?_⟩⟩
      have q4 : (W5.putObj (h + 4) (.deferred none)).cell? ⟨h, 0, none⟩ = some (.bool false) := (World.cell?_of_block (World.putObj_heap_other (by simp))).trans g2
      refine ⟨.bool false, ?_, ?_, ?_⟩
      · simp [results, Tryd.f27, go_sem, q4]
      · congr 2
        unfold wholeP
        rw [h1, Bool.false_and]
      · have q5 : Below w.heap.size w (W5.putObj (h + 4) (.deferred none)) := g5.grown (grownBy_putObj' W5 _ _) g5.size (fun k e => by cases e; omega)
        first | exact q5 | (rw [hh] at q5; exact q5)
#print axioms p27
end Go.AL.Path
