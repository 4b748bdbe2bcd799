/- What is built; the builtins; then all operations that turn nothing, together. -/
import Derived.Test.YtofokmpdioblkaaGreatDoorG3
import Derived.Laws.Tables
import Derived.Laws.Build
set_option linter.unusedSimpArgs false
set_option linter.unusedVariables false
namespace Go.AL
open Go Go.RowKit
section
variable {P : Program} {G : Nat → Option (List AV)} {lo : Nat} {E : Env} {H : List AObj} {w : World}
theorem foldl_cells : ∀ (cs : List Value) (off k : Nat) (us : List Value), off + k + cs.length ≤ us.length →
    ((cs.zipIdx k).foldl (fun (a : Array Value) (p : Value × Nat) => a.setIfInBounds (off + p.2) p.1) us.toArray).toList = us.take (off + k) ++ cs ++ us.drop (off + k + cs.length)
  | [], off, k, us, h => by simp
  | c :: cs, off, k, us, h => by
    simp only [List.length_cons] at h
    simp only [List.zipIdx_cons, List.foldl_cons]
    have e : us.toArray.setIfInBounds (off + k) c = (us.set (off + k) c).toArray := by simp
    rw [e, foldl_cells cs off (k + 1) (us.set (off + k) c) (by simp; omega)]
    have h1 : (us.set (off + k) c).take (off + (k + 1)) = us.take (off + k) ++ [c] := by
      rw [← Nat.add_assoc, List.take_add_one, List.getElem?_set_self (by omega)]
      rw [List.take_set, List.set_eq_of_length_le (by rw [List.length_take]; omega)]
      simp
    have h2 : (us.set (off + k) c).drop (off + (k + 1) + cs.length) = us.drop (off + k + (c :: cs).length) := by
      apply List.ext_getElem?
      intro j
      simp only [List.getElem?_drop, List.getElem?_set, List.length_cons]
      rw [if_neg (by omega)]
      congr 1
      omega
    rw [h1, h2]
    simp
theorem fill_run {place : Nat → Option (Nat × Nat)} : ∀ (parts : List (Nat × Value)) (places : List (Nat × Nat)) (cs xs rs : List AV) (us : List Value),
    parts.map (fun p => place p.1) = places.map some → Reps E w cs us → (∀ u ∈ us, u.oneCell' = true) → Reps E w xs (parts.map (·.2)) → fillCells cs places xs = some rs →
    ∃ ws : List Value, Instr.fill place us.toArray parts = some ws.toArray ∧ Reps E w rs ws ∧ ∀ u ∈ ws, u.oneCell' = true
  | [], places, cs, xs, rs, us, hp, h1, h2, h3, h4 => by
    have hx : xs = [] := List.eq_nil_of_length_eq_zero h3.length.symm
    subst hx
    cases places with
    | cons => simp at hp
    | nil =>
      simp [fillCells] at h4
      subst h4
      exact ⟨us, rfl, h1, h2⟩
  | (i, v) :: parts, places, cs, xs, rs, us, hp, h1, h2, h3, h4 => by
    cases places with
    | nil => simp at hp
    | cons q places =>
      simp only [List.map_cons, List.cons.injEq] at hp
      obtain ⟨hq, hp⟩ := hp
      obtain ⟨off, size⟩ := q
      cases xs with
      | nil => have := h3.length; simp at this
      | cons x xs =>
        obtain ⟨v', vs, e, hv, hvs⟩ := h3.cons_inv
        simp at e
        obtain ⟨rfl, rfl⟩ := e
        simp only [fillCells] at h4
        split at h4
        · rename_i hc
          obtain ⟨hc1, hc2, hc3⟩ := hc
          obtain ⟨r1, r2⟩ := hv.cells hc1
          have hl1 : v.cells.toList.length = size := by rw [r1.length, hc2]
          have hl2 : us.length = cs.length := h1.length
          have hl3 : v.cells.size = size := by simpa using hl1
          obtain ⟨ws, g1, g2, g3⟩ := fill_run parts places _ xs rs (us.take off ++ v.cells.toList ++ us.drop (off + size)) hp
            (((h1.take off).append r1).append (h1.drop _)) (fun u hu => by
              simp only [List.mem_append] at hu
              rcases hu with (hu | hu) | hu
              · exact h2 u (List.mem_of_mem_take hu)
              · exact r2 u hu
              · exact h2 u (List.mem_of_mem_drop hu)) hvs h4
          refine ⟨ws, ?_, g2, g3⟩
          simp only [Instr.fill, hq]
          rw [if_neg (by simp [hl3]; omega)]
          rw [← g1]
          congr 1
          apply Array.ext'
          have h9 := foldl_cells v.cells.toList off 0 us (by omega)
          rw [← Array.foldl_toList, Array.toList_zipIdx]
          simp only [Nat.add_zero] at h9
          rw [h9, hl1]
        · cases h4
theorem zero_rep {z : Value} (h : constOk z = true) : Reps E w (constAV z).cells z.cells.toList ∧ ∀ u ∈ z.cells.toList, u.oneCell' = true := by
  have cell : ∀ c : Value, c.oneCell' = true → Rep E w (cellAV c) c := by
    intro c hc
    cases c with
    | slice a n m =>
      unfold cellAV
      split
      · rename_i e; cases e
        exact .sl 0 [] none none 0 [] (Nat.le_refl _) (by unfold maxLen; omega) (by simp) .nil (by simp) (by simp) trivial
      · exact .junk _
      · exact .junk _
      · exact .junk _
      · rename_i e1 e2 _ _; exact absurd rfl (e2 a n m)
    | agg cs => simp [Value.oneCell'] at hc
    | tuple vs => simp [Value.oneCell'] at hc
    | _ => exact .imm _ rfl
  have cells : ∀ cs : List Value, (∀ c ∈ cs, c.oneCell' = true) → Reps E w (cs.map cellAV) cs := by
    intro cs
    induction cs with
    | nil => intro _; exact .nil
    | cons c cs ih => intro h; exact .cons _ _ _ _ (cell c (h c (by simp))) (ih fun d hd => h d (by simp [hd]))
  cases z with
  | agg cs =>
    simp only [constOk, List.all_eq_true] at h
    refine ⟨?_, by simpa [Value.cells] using h⟩
    simp only [constAV, AV.cells, Value.cells]
    exact cells cs.toList h
  | tuple vs => simp [constOk] at h
  | slice a n m =>
    refine ⟨?_, by simp [Value.cells, Value.oneCell']⟩
    have h1 := cell (.slice a n m) rfl
    simp only [constAV, Value.cells]
    have : (cellAV (.slice a n m)).cells = [cellAV (.slice a n m)] := by unfold cellAV; split <;> simp_all [AV.cells]
    rw [this]
    exact .cons _ _ _ _ h1 .nil
  | _ => exact ⟨.cons _ _ _ _ (.imm _ rfl) .nil, by simp [Value.cells, Value.oneCell']⟩
theorem mapM_some {α β : Type} (f : α → Option β) : ∀ (xs : List α) (ys : List β), xs.mapM f = some ys → xs.map f = ys.map some
  | [], ys, h => by simp at h; subst h; rfl
  | x :: xs, ys, h => by
    rw [List.mapM_cons] at h
    simp only [Option.bind_eq_bind, Option.pure_def, Option.bind_eq_some_iff, Option.some.injEq] at h
    obtain ⟨y, h1, ys', h2, rfl⟩ := h
    simp [h1, mapM_some f xs ys' h2]
theorem build_done (hs : SimH G lo E H w) {t : TypeId} {parts : Array (Nat × Value)} {z : Value} {it : TypeInfo} {places : List (Nat × Nat)} {xs : List AV} {place : Nat → Option (Nat × Nat)}
    (hi : P.info? t = some it) (hz : it.zero = some z) (hok : constOk z = true) (hpl : parts.toList.map (fun p => place p.1) = places.map some)
    (hb : ∀ cells, Instr.fill place z.cells parts.toList = some cells → P.built t parts.toList = some cells)
    (hx : Reps E w xs (parts.toList.map (·.2))) {K : AV → Prop} (h : qsem (.build (constAV z).cells places) xs K) : QDone P G lo E H w (Instr.build t parts) K := by
  obtain ⟨cs, hc, hK⟩ := onSome_inv (show onSome _ _ from h)
  obtain ⟨z1, z2⟩ := zero_rep (E := E) (w := w) hok
  obtain ⟨ws, g1, g2, g3⟩ := fill_run parts.toList places _ xs cs _ hpl z1 z2 hx hc
  exact .quiet hs (run_build (P := P) w t parts ws.toArray (hb _ (by simpa using g1))) hK (.agg _ _ g2 g3)
theorem fill_slice {size : Nat} : ∀ (parts : List (Nat × Value)) (k : Nat) (xs : List AV) (us : List Value), parts.map (·.1) = List.range' k parts.length → Reps E w xs (parts.map (·.2)) → (∀ x ∈ xs, x.isVal = true ∧ x.cells.length = size) →
    us.length = (k + parts.length) * size → ∃ ws : List Value, Instr.fill (fun i => some (i * size, size)) us.toArray parts = some (us.take (k * size) ++ ws).toArray ∧ Reps E w (xs.flatMap AV.cells) ws ∧ ∀ u ∈ ws, u.oneCell' = true
  | [], k, xs, us, hp, h3, hv, hl => by
    have hx : xs = [] := List.eq_nil_of_length_eq_zero h3.length.symm
    subst hx
    refine ⟨[], ?_, .nil, by simp⟩
    simp only [Instr.fill, List.append_nil]
    rw [List.take_of_length_le (by rw [hl]; simp)]
  | (i, v) :: parts, k, xs, us, hp, h3, hv, hl => by
    cases xs with
    | nil => have := h3.length; simp at this
    | cons x xs =>
      simp only [List.map_cons, List.length_cons, List.range'_succ, List.cons.injEq] at hp
      obtain ⟨rfl, hp⟩ := hp
      obtain ⟨v', vs, e, hv1, hvs⟩ := h3.cons_inv
      simp at e
      obtain ⟨rfl, rfl⟩ := e
      obtain ⟨c1, c2⟩ := hv x (by simp)
      obtain ⟨r1, r2⟩ := hv1.cells c1
      have hl1 : v.cells.toList.length = size := by rw [r1.length, c2]
      have hl3 : v.cells.size = size := by simpa using hl1
      simp only [List.length_cons] at hl
      have hbig : i * size + size ≤ us.length := by
        rw [hl]
        have h9 : (i + 1) * size ≤ (i + (parts.length + 1)) * size := Nat.mul_le_mul_right _ (by omega)
        rw [Nat.add_mul] at h9
        omega
      obtain ⟨ws, g1, g2, g3⟩ := fill_slice (size := size) parts (i + 1) xs (us.take (i * size) ++ v.cells.toList ++ us.drop (i * size + size)) hp hvs (fun y hy => hv y (by simp [hy])) (by
        simp only [List.length_append, List.length_take, List.length_drop, hl1]
        rw [Nat.min_eq_left (by omega)]
        have e1 : (i + 1 + parts.length) * size = (i + (parts.length + 1)) * size := by congr 1; omega
        rw [e1, ← hl]
        omega)
      refine ⟨v.cells.toList ++ ws, ?_, by rw [List.flatMap_cons]; exact r1.append g2, fun u hu => by
        rcases List.mem_append.1 hu with h | h
        · exact r2 u h
        · exact g3 u h⟩
      simp only [Instr.fill]
      rw [if_neg (by simp [hl3]; omega)]
      have h9 := foldl_cells v.cells.toList (i * size) 0 us (by omega)
      simp only [Nat.add_zero, hl1] at h9
      have h10 : v.cells.zipIdx.foldl (fun (cs : Array Value) (p : Value × Nat) => cs.setIfInBounds (i * size + p.2) p.1) us.toArray = (us.take (i * size) ++ v.cells.toList ++ us.drop (i * size + size)).toArray := by
        apply Array.ext'
        rw [← Array.foldl_toList, Array.toList_zipIdx, h9]
      rw [h10, g1]
      congr 1
      have e2 : (i + 1) * size = i * size + size := by rw [Nat.add_mul]; omega
      rw [e2, List.append_assoc (us.take (i * size)), List.take_append, List.length_take, Nat.min_eq_left (by omega)]
      have e3 : i * size + size - i * size = size := by omega
      have e4 : v.cells.toList.take size = v.cells.toList := List.take_of_length_le (by omega)
      rw [e3, List.take_append, hl1, Nat.sub_self, List.take_zero, List.append_nil, e4, List.take_of_length_le (by rw [List.length_take]; omega)]
      simp
/-- A new row of cells that is for good. -/
theorem SimH.newRow (hs : SimH G lo E H w) (e : TypeId) (us : List Value) : SimH G lo (E.more fun a => ∃ j, j < us.length ∧ a = ⟨w.heap.size, j, none⟩) H (w.alloc (.cells us.toArray e)) ∧
    Evo lo E w (E.more fun a => ∃ j, j < us.length ∧ a = ⟨w.heap.size, j, none⟩) (w.alloc (.cells us.toArray e)) ∧
    ∀ j u, us[j]? = some u → (w.alloc (.cells us.toArray e)).cell? ⟨w.heap.size, j, none⟩ = some u := by
  have hb : Below w.heap.size w (w.alloc (.cells us.toArray e)) := (Below.refl _ _).alloc (Nat.le_refl _) _
  obtain ⟨h1, h2⟩ := hs.grow hb (fun a => ∃ j, j < us.length ∧ a = ⟨w.heap.size, j, none⟩) (by
    rintro a ⟨j, hj, rfl⟩
    exact ⟨Nat.le_refl _, by rw [World.size_alloc]; exact Nat.lt_succ_self _⟩)
  refine ⟨h1, h2, fun j u hu => ?_⟩
  rw [cell_of_row _ _ _ _ _ _ (heap_alloc_new w _)]
  simpa using hu
theorem bslice_run {t e : TypeId} {i : TypeInfo} {z : Value} {parts : Array (Nat × Value)} {len : Nat} {xs : List AV} (hu : P.underlying t = some (.slice e)) (hi : P.info? e = some i) (hz : i.zero = some z)
    (hp : parts.toList.map (·.1) = List.range len) (hzs : z.cells.size = i.size) (hx : Reps E w xs (parts.toList.map (·.2))) (h1 : ∀ x ∈ xs, x.isVal = true ∧ x.cells.length = i.size) (h2 : xs.length * (i.size + 1) ≤ 16777216) :
    len = xs.length ∧ ∃ ws : List Value, (Instr.buildSlice t len parts).run P w = .ok (.slice (some ⟨w.heap.size, 0, none⟩) len len) (w.alloc (.cells ws.toArray e)) ∧ Reps E w (xs.flatMap AV.cells) ws ∧ ∀ u ∈ ws, u.oneCell' = true := by
  have hlen : parts.toList.length = len := by have := congrArg List.length hp; simpa using this
  have hxl : xs.length = len := by rw [← hlen]; have := hx.length; simp at this; simpa using this.symm
  refine ⟨hxl.symm, ?_⟩
  have hsz : ((Array.range (len * i.size)).map (z.cells[· % z.cells.size]!)).toList.length = (0 + parts.toList.length) * i.size := by simp [← hlen]
  obtain ⟨ws, g1, g2, g3⟩ := fill_slice (E := E) (w := w) (size := i.size) parts.toList 0 xs _ (by rw [hp, hlen, List.range_eq_range']) hx h1 hsz
  refine ⟨ws, ?_, g2, g3⟩
  have h24 : ¬ (16777216 < len * i.size) := by rw [← hxl]; rw [Nat.mul_add] at h2; omega
  by_cases h0 : len * i.size = 0
  · have e0 : (Array.range (len * i.size)).map (z.cells[· % z.cells.size]!) = #[] := by rw [h0]; simp
    rw [e0] at g1
    simp only [Nat.zero_mul, List.take_zero, List.nil_append] at g1
    have e5 : Array.map (fun _ : Nat => (default : Value)) (Array.range 0) = #[] := by simp
    simp [Instr.buildSlice, run_underlying hu, sizeOf, typeInfo, hi, h24, h0, g1, newRow, e5]
  · simp only [Nat.zero_mul, List.take_zero, List.nil_append, Array.toArray_toList] at g1
    simp [Instr.buildSlice, run_underlying hu, sizeOf, typeInfo, hi, h24, h0, zeroValue, hz, g1, newRow]
theorem Rep.strip1 {x : AV} {v : Value} (h : Rep E w x v) : Rep E w x.strip1 v := by
  cases h with
  | sl size xs tok A cap us h1 h2 h3 h4 h5 h6 h7 => exact .sl size xs none A cap us h1 h2 h3 h4 h5 h6 trivial
  | imm v h => exact .imm v h
  | junk v => exact .junk v
  | agg cs us h h1 => exact .agg cs us h h1
  | tup cs us h => exact .tup cs us h
  | ptr id off b h => exact .ptr id off b h
  | rptr cs off ad us h h1 h2 => exact .rptr cs off ad us h h1 h2
  | fn f first cap us vs h h1 => exact .fn f first cap us vs h h1
  | mp id b h => exact .mp id b h
  | bs id off n b A cap h h1 h2 h3 => exact .bs id off n b A cap h h1 h2 h3
  | rs id ver size lo n A cap h1 h2 h0 h3 => exact .rs id ver size lo n A cap h1 h2 h0 h3
  | rp id ver size i A h => exact .rp id ver size i A h
theorem Reps.strip1 {E : Env} {w : World} : ∀ {xs : List AV} {us : List Value}, Reps E w xs us → Reps E w (xs.map AV.strip1) us
  | _, _, .nil => .nil
  | _, _, .cons a v as vs h h1 => .cons _ _ _ _ h.strip1 (Reps.strip1 h1)
theorem Rep.strip {x : AV} {v : Value} (h : Rep E w x v) : Rep E w x.strip v := by
  cases h with
  | agg cs us h h1 => exact .agg _ us h.strip1 h1
  | sl size xs tok A cap us h1 h2 h3 h4 h5 h6 h7 => exact .sl size xs none A cap us h1 h2 h3 h4 h5 h6 trivial
  | imm v h => exact .imm v h
  | junk v => exact .junk v
  | tup cs us h => exact .tup cs us h
  | ptr id off b h => exact .ptr id off b h
  | rptr cs off ad us h h1 h2 => exact .rptr cs off ad us h h1 h2
  | fn f first cap us vs h h1 => exact .fn f first cap us vs h h1
  | mp id b h => exact .mp id b h
  | bs id off n b A cap h h1 h2 h3 => exact .bs id off n b A cap h h1 h2 h3
  | rs id ver size lo n A cap h1 h2 h0 h3 => exact .rs id ver size lo n A cap h1 h2 h0 h3
  | rp id ver size i A h => exact .rp id ver size i A h
theorem Reps.strip {E : Env} {w : World} : ∀ {xs : List AV} {us : List Value}, Reps E w xs us → Reps E w (xs.map AV.strip) us
  | _, _, .nil => .nil
  | _, _, .cons a v as vs h h1 => .cons _ _ _ _ h.strip (Reps.strip h1)
theorem strip_cells_length (x : AV) : x.strip.cells.length = x.cells.length := by
  cases x <;> simp [AV.strip, AV.strip1, AV.cells]
theorem strip_isVal (x : AV) : x.strip.isVal = x.isVal := by
  cases x <;> simp [AV.strip, AV.strip1, AV.isVal]
theorem strip_all {size : Nat} {xs : List AV} (h : ∀ x ∈ xs, x.isVal = true ∧ x.cells.length = size) : ∀ x ∈ xs.map AV.strip, x.isVal = true ∧ x.cells.length = size := by
  intro x hx
  obtain ⟨y, hy, rfl⟩ := List.mem_map.1 hx
  rw [strip_isVal, strip_cells_length]
  exact h y hy
theorem bslice_done (hs : SimH G lo E H w) {t e : TypeId} {i : TypeInfo} {z : Value} {parts : Array (Nat × Value)} {len : Nat} {xs : List AV} (hu : P.underlying t = some (.slice e)) (hi : P.info? e = some i) (hz : i.zero = some z)
    (hp : parts.toList.map (·.1) = List.range len) (hzs : z.cells.size = i.size) (hx : Reps E w xs (parts.toList.map (·.2))) {K : AV → Prop} (h : qsem (.bslice i.size) xs K) : QDone P G lo E H w (Instr.buildSlice t len parts) K := by
  obtain ⟨h1, h2, hK⟩ := h
  have hxs := strip_all h1
  replace hx := hx.strip
  have hle : (xs.map AV.strip).length * (i.size + 1) ≤ 16777216 := by simpa using h2
  generalize xs.map AV.strip = xs at *
  obtain ⟨rfl, ws, hr, g2, g3⟩ := bslice_run hu hi hz hp hzs hx hxs hle
  clear h1 h2
  have h1 := hxs
  have h2 := hle
  obtain ⟨k1, k2, k3⟩ := hs.newRow e ws
  refine ⟨_, _, _, _, hr, hK, ?_, k1, k2⟩
  have hws : ws.length = (xs.flatMap AV.cells).length := g2.length
  refine .sl i.size xs none (some ⟨w.heap.size, 0, none⟩) xs.length ws (Nat.le_refl _) ?_ (fun x hx => (h1 x hx).2) (g2.mono k2) g3 (fun j u hu => ⟨_, rfl, ?_, .inr ⟨j, (List.getElem?_eq_some_iff.1 hu).1, ?_⟩⟩) trivial
  · rw [Nat.mul_add] at h2; unfold maxLen; omega
  · rw [Addr.add_lit, Nat.zero_add]; exact k3 j u hu
  · rw [Addr.add_lit, Nat.zero_add]
theorem len_done (hs : SimH G lo E H w) {t ty : TypeId} {q : QOp} {x : AV} {v : Value} (hq : (P.underlying t = some .string ∧ q = .lenS) ∨ (∃ e, P.underlying t = some (.slice e) ∧ q = .lenL) ∨ (∃ n e, P.underlying t = some (.array n e) ∧ q = .lenC n) ∨
      (∃ a n e, P.underlying t = some (.pointer a) ∧ P.underlying a = some (.array n e) ∧ q = .lenC n))
    (hx : Rep E w x v) {K : AV → Prop} (h : qsem q [x] K) : QDone P G lo E H w (Builtin.len_ #[t] ty #[v]) K := by
  rcases hq with ⟨hu, rfl⟩ | ⟨e, hu, rfl⟩ | ⟨n, e, hu, rfl⟩ | ⟨a, n, e, hu, ha, rfl⟩
  · obtain ⟨s, rfl, hK⟩ := onStr_inv h
    cases hx.imm_inv
    exact .quiet hs (v := .int .i64 s.size) (by simp [Builtin.len_, run_underlying hu, goInt]) hK (.imm _ rfl)
  · rcases lenSem_inv h with ⟨sz, xs, tok, rfl, hK⟩ | ⟨id, ver, sz, lo0, n, rfl, hK⟩ | ⟨id, off, n, rfl, hK⟩
    · obtain ⟨A, cap, us, rfl, _⟩ := hx.sl_inv
      exact .quiet hs (v := .int .i64 xs.length) (by simp [Builtin.len_, run_underlying hu, goInt]) hK (.imm _ rfl)
    · cases hx with
      | rs _ _ _ _ _ A cap h1 h2 h0 h3 => exact .quiet hs (v := .int .i64 n) (by simp [Builtin.len_, run_underlying hu, goInt]) hK (.imm _ rfl)
    · cases hx with
      | bs _ _ _ b A cap h1 h2 h0 h3 => exact .quiet hs (v := .int .i64 n) (by simp [Builtin.len_, run_underlying hu, goInt]) hK (.imm _ rfl)
  · exact .quiet hs (v := .int .i64 n) (by simp [Builtin.len_, run_underlying hu, goInt]) h (.imm _ rfl)
  · exact .quiet hs (v := .int .i64 n) (by simp [Builtin.len_, run_underlying hu, run_underlying ha, goInt]) h (.imm _ rfl)
theorem max_done (hs : SimH G lo E H w) {ts : Array TypeId} {ty : TypeId} {x y : AV} {v u : Value} (hx : Rep E w x v) (hy : Rep E w y u) {K : AV → Prop} (h : qsem .max2 [x, y] K) : QDone P G lo E H w (Builtin.max_ ts ty #[v, u]) K := by
  obtain ⟨k, a, rfl, h'⟩ := onInt_inv h
  obtain ⟨k', b, rfl, rfl, hK⟩ := onInt_inv h'
  cases hx.imm_inv
  cases hy.imm_inv
  refine .quiet hs (v := .int k (max a b)) ?_ hK (.imm _ rfl)
  simp only [Builtin.max_, List.foldlM_cons, List.foldlM_nil, Builtin.max2, Sem.run_bind, Sem.run_pure, Result.andThen_ok]
  congr 2
  rw [Int.max_def]
  split <;> split <;> omega
theorem onCx_inv {x : AV} {K : FloatKind → Nat → Nat → Prop} (h : onCx x K) : ∃ k a b, x = .imm (.complex k a b) ∧ K k a b := by
  unfold onCx at h; split at h
  · exact ⟨_, _, _, rfl, h⟩
  · exact h.elim
theorem real_done (hs : SimH G lo E H w) {ts : Array TypeId} {ty : TypeId} {x : AV} {v : Value} (hx : Rep E w x v) {K : AV → Prop} (h : qsem (.cpart false) [x] K) : QDone P G lo E H w (Builtin.real_ ts ty #[v]) K := by
  obtain ⟨k, a, b, rfl, hK⟩ := onCx_inv h
  cases hx.imm_inv
  exact .quiet hs (v := .float k a) (by show Sem.run P (pure (Value.float k a)) w = _; simp) hK (.imm _ rfl)
theorem imag_done (hs : SimH G lo E H w) {ts : Array TypeId} {ty : TypeId} {x : AV} {v : Value} (hx : Rep E w x v) {K : AV → Prop} (h : qsem (.cpart true) [x] K) : QDone P G lo E H w (Builtin.imag_ ts ty #[v]) K := by
  obtain ⟨k, a, b, rfl, hK⟩ := onCx_inv h
  cases hx.imm_inv
  exact .quiet hs (v := .float k b) (by show Sem.run P (pure (Value.float k b)) w = _; simp) hK (.imm _ rfl)
theorem min_done (hs : SimH G lo E H w) {ts : Array TypeId} {ty : TypeId} {x y : AV} {v u : Value} (hx : Rep E w x v) (hy : Rep E w y u) {K : AV → Prop} (h : qsem .min2 [x, y] K) : QDone P G lo E H w (Builtin.min_ ts ty #[v, u]) K := by
  obtain ⟨k, a, rfl, h'⟩ := onInt_inv h
  obtain ⟨k', b, rfl, rfl, hK⟩ := onInt_inv h'
  cases hx.imm_inv
  cases hy.imm_inv
  refine .quiet hs (v := .int k (min a b)) ?_ hK (.imm _ rfl)
  simp only [Builtin.min_, List.foldlM_cons, List.foldlM_nil, Builtin.min2, Sem.run_bind, Sem.run_pure, Result.andThen_ok]
  congr 2
  rw [Int.min_def]
  split <;> split <;> omega
theorem s2a_done (hs : SimH G lo E H w) {t e : TypeId} {n : Nat} {x : AV} {v : Value} (hu : P.underlying t = some (.array n e)) (hx : Rep E w x v) {K : AV → Prop} (h : qsem (.s2a n) [x] K) :
    QDone P G lo E H w (Instr.arrayAt t v) K := by
  obtain ⟨sz, xs, tok, rfl, rfl, h0, h1, hK⟩ := onSl_inv h
  obtain ⟨A, cap, us, rfl, a1, a2, a3, a4, a5, a6, a7⟩ := hx.sl_inv
  have hul : us.length = xs.length * 1 := by rw [a4.length, flat_length xs a3]
  obtain ⟨ad, rfl, _⟩ := a6 0 _ (List.getElem?_eq_getElem (show 0 < us.length by omega))
  refine .quiet hs (v := .pointer (some ad)) ?_ hK ?_
  · simp [Instr.arrayAt, run_underlying hu, show ¬ xs.length < n by omega]
  · have h9 := Rep.rptr (E := E) (w := w) _ 0 ad us a4 a5 (fun j u hu => by
      obtain ⟨ad', e1, e2, e3⟩ := a6 j u hu
      cases e1
      exact ⟨e2, e3⟩)
    rw [Addr.add_zero'] at h9
    exact h9
theorem ext_done (hs : SimH G lo E H w) {i : Nat} {x : AV} {v : Value} (hx : Rep E w x v) {K : AV → Prop} (h : qsem (.ext i) [x] K) : QDone P G lo E H w (Instr.extract v i) K := by
  obtain ⟨vs, rfl, h'⟩ := onTup_inv h
  obtain ⟨c, hc, hK⟩ := onSome_inv h'
  cases hx with
  | tup cs us hr =>
    obtain ⟨u, hu, hrep⟩ := hr.get i c hc
    exact .quiet hs (v := u) (by simp [Instr.extract, hu]) hK hrep
theorem mkiface_done (hs : SimH G lo E H w) {t : TypeId} {d : TypeDesc} {x : AV} {v : Value} (hu : P.underlying t = some d) (hd : ∀ ms, d ≠ .interface ms) (hx : Rep E w x v) {K : AV → Prop} (h : qsem (.mkiface t) [x] K) :
    QDone P G lo E H w (Instr.makeInterface t v) K := by
  obtain ⟨c, rfl, hK⟩ := onImm_inv h
  cases hx.imm_inv
  refine .quiet hs (v := .iface t v) ?_ hK (.imm _ rfl)
  cases d <;> first | (exact absurd rfl (hd _)) | simp [Instr.makeInterface, run_underlying hu]
end
end Go.AL

/- All operations that turn nothing. -/
set_option linter.unusedSimpArgs false
set_option linter.unusedVariables false
namespace Go.AL
open Go Go.RowKit
section
variable {P : Program} {G : Nat → Option (List AV)} {lo : Nat} {E : Env} {H : List AObj} {w : World}
/-- What an operation that turns no box comes to, in the machine's words. -/
def QStep (P : Program) (G : Nat → Option (List AV)) (lo : Nat) (E : Env) (H : List AObj) (w : World) (s : Sem Next) (K : AV → Prop) : Prop :=
  ∃ r v w' E', s.run P w = .ok (.value v) w' ∧ K r ∧ Rep E' w' r v ∧ SimH G lo E' H w' ∧ Evo lo E w E' w'
theorem QDone.step {s : Sem Value} {K : AV → Prop} (h : QDone P G lo E H w s K) {s' : Sem Next} (e : s'.run P w = (s.run P w).andThen fun a w' => .ok (.value a) w') : QStep P G lo E H w s' K := by
  obtain ⟨r, v, w', E', h1, h2⟩ := h
  exact ⟨r, v, w', E', by rw [e, h1]; rfl, h2⟩
theorem reps_1 {xs : List AV} {v : Value} (h : Reps E w xs [v]) : ∃ x, xs = [x] ∧ Rep E w x v := by
  cases h with
  | cons a _ as _ h1 h2 => cases h2; exact ⟨a, rfl, h1⟩
theorem reps_2 {xs : List AV} {v u : Value} (h : Reps E w xs [v, u]) : ∃ x y, xs = [x, y] ∧ Rep E w x v ∧ Rep E w y u := by
  cases h with
  | cons a _ as _ h1 h2 => obtain ⟨y, rfl, h3⟩ := reps_1 h2; exact ⟨a, y, rfl, h1, h3⟩
theorem reps_3 {xs : List AV} {v u z : Value} (h : Reps E w xs [v, u, z]) : ∃ x y c, xs = [x, y, c] ∧ Rep E w x v ∧ Rep E w y u ∧ Rep E w c z := by
  cases h with
  | cons a _ as _ h1 h2 => obtain ⟨y, c, rfl, h3, h4⟩ := reps_2 h2; exact ⟨a, y, c, rfl, h1, h3, h4⟩
theorem reps_c {xs : List AV} {v : Value} {vs : List Value} (h : Reps E w xs (v :: vs)) : ∃ x ys, xs = x :: ys ∧ Rep E w x v ∧ Reps E w ys vs := by
  cases h with
  | cons a _ as _ h1 h2 => exact ⟨a, as, rfl, h1, h2⟩
theorem optList_map {ρ : Operand → Value} (x : Option Operand) : (optList x).map ρ = optList (x.map ρ) := by cases x <;> rfl
theorem isU8_spec {d : Option TypeDesc} (h : isU8 d = true) : d = some (.int .u8) := by
  unfold isU8 at h
  split at h
  · rfl
  · cases h
set_option maxHeartbeats 1000000 in
theorem run_equalIn_bool {P : Program} {t : TypeId} (hu : P.underlying t = some .bool) (d : Nat) (a b : Bool) (w : World) : (Op.equalIn (d + 1) t (.bool a) (.bool b)).run P w = .ok (a == b) w := by
  simp [Op.equalIn, run_underlying hu]
theorem run_eql_bool {P : Program} {t : TypeId} (hu : P.underlying t = some .bool) (a b : Bool) (w : World) (ox oy : Operand) : (do eqGuard .eql t ox oy (.bool a) (.bool b); binOp .eql t (.bool a) (.bool b) : Sem Value).run P w = .ok (.bool (a == b)) w := by
  have := run_equalIn_bool hu 9999 a b w
  simp only [eqGuard, binOp, Op.equal, Op.maxDepth, Sem.run_bind, Sem.run_pure, Result.andThen_ok, Bool.not_true, Bool.false_eq_true, if_false]
  rw [this]; rfl
theorem run_neq_bool {P : Program} {t : TypeId} (hu : P.underlying t = some .bool) (a b : Bool) (w : World) (ox oy : Operand) : (do eqGuard .neq t ox oy (.bool a) (.bool b); binOp .neq t (.bool a) (.bool b) : Sem Value).run P w = .ok (.bool (!(a == b))) w := by
  have := run_equalIn_bool hu 9999 a b w
  simp only [eqGuard, binOp, Op.equal, Op.maxDepth, Sem.run_bind, Sem.run_pure, Result.andThen_ok, Bool.not_true, Bool.false_eq_true, if_false]
  rw [this]; rfl
theorem run_equalIn_nil {P : Program} {t e : TypeId} (hu : P.underlying t = some (.pointer e)) (d : Nat) (a : Option Addr) (w : World) : (Op.equalIn (d + 1) t (.pointer a) (.pointer none)).run P w = .ok (!a.isSome) w := by
  cases a <;> simp [Op.equalIn, run_underlying hu]
theorem run_ptr_nil {P : Program} {t e : TypeId} (hu : P.underlying t = some (.pointer e)) (a : Option Addr) (w : World) (ox oy : Operand) (neg : Bool) :
    (do eqGuard (if neg = true then .neq else .eql) t ox oy (.pointer a) (.pointer none); binOp (if neg = true then .neq else .eql) t (.pointer a) (.pointer none) : Sem Value).run P w = .ok (.bool (if a.isSome = true then neg else !neg)) w := by
  have h := run_equalIn_nil hu 9999 a w
  cases neg
  · simp only [eqGuard, binOp, Op.equal, Op.maxDepth, Sem.run_bind, Sem.run_pure, Result.andThen_ok, Bool.not_true, Bool.false_eq_true, if_false]
    rw [h]; cases a <;> rfl
  · simp only [eqGuard, binOp, Op.equal, Op.maxDepth, Sem.run_bind, Sem.run_pure, Result.andThen_ok, Bool.not_true, Bool.false_eq_true, if_false, if_true]
    rw [h]; cases a <;> rfl
theorem ptrT_spec {t : TypeId} (h : ptrT P t = true) : ∃ e, P.underlying t = some (.pointer e) := by
  unfold ptrT at h; split at h
  · exact ⟨_, by assumption⟩
  · cases h
theorem pnil_done (hs : SimH G lo E H w) {t e : TypeId} (hu : P.underlying t = some (.pointer e)) {neg : Bool} {x y : AV} {v u : Value} (hx : Rep E w x v) (hy : Rep E w y u) {K : AV → Prop} (h : qsem (.pnil neg) [x, y] K) (ox oy : Operand) :
    QDone P G lo E H w (do eqGuard (if neg = true then .neq else .eql) t ox oy v u; binOp (if neg = true then .neq else .eql) t v u) K := by
  obtain ⟨rfl, h'⟩ := pnilSem_inv (show pnilSem neg x y K from h)
  cases hy.imm_inv
  rcases h' with ⟨h1, hK⟩ | ⟨rfl, hK⟩
  · have : ∃ a, v = .pointer (some a) := by
      rcases h1 with ⟨id, off, rfl⟩ | ⟨cs, off, rfl⟩ | ⟨id, ver, sz, i, rfl⟩ <;> cases hx <;> exact ⟨_, rfl⟩
    obtain ⟨a, rfl⟩ := this
    exact .quiet hs (v := .bool neg) (run_ptr_nil hu (some a) w ox oy neg) hK (.imm _ rfl)
  · cases hx.imm_inv
    exact .quiet hs (v := .bool (!neg)) (run_ptr_nil hu none w ox oy neg) hK (.imm _ rfl)
theorem slArrW_done (hs : SimH G lo E H w) {t e : TypeId} {len : Nat} (hu : P.underlying t = some (.array len e)) (hsz : szOf P e = some 1) (hlen : len ≤ 65536) {x : AV} {bs : List AV} {v : Value} {l0 h0 : Option Value}
    (hx : Rep E w x v) (hb : Reps E w bs (optList l0 ++ optList h0)) {K : AV → Prop} (h : qsem (.slArrW len l0.isSome h0.isSome) (x :: bs) K) : QDone P G lo E H w (Instr.sliceAt t v l0 h0 none) K := by
  obtain ⟨i, hi, hs1⟩ := szOf_some hsz
  obtain ⟨id, off, rfl, h'⟩ := onPtr_inv (show onPtr x _ from h)
  obtain ⟨l, u, hK, hlu, hun, hr⟩ := bounds_run (P := P) h' hb
  have hr2 := hr false len (Nat.le_refl _)
  cases hx with
  | ptr _ _ b hb' =>
    refine .quiet hs (v := .slice (some (if len = l then ⟨b, off, none⟩ else Addr.add ⟨b, off, none⟩ (l * 1))) (u - l) (len - l)) ?_ hK (.bs _ _ _ b _ _ hb' (by omega) (by unfold maxLen; omega) fun hp => ?_)
    · simp [Instr.sliceAt, run_underlying hu, Instr.sureAddr, hr2, sizeOf, typeInfo, hi, hs1]
    · rw [if_neg (by omega), Addr.add_lit, Nat.mul_one]
theorem boolT_spec {t : TypeId} (h : boolT P t = true) : P.underlying t = some .bool := by
  unfold boolT at h; split at h
  · assumption
  · cases h
theorem q_sound {own : Bool} {slot : Nat} {o : Oper} {q : QOp} {xs : List Operand} (hc : compOp P own o slot = some (.q q, xs)) (hs : SimH G lo E H w) {ρ : Operand → Value} {avs : List AV} (ha : Reps E w avs (xs.map ρ)) {K : AV → Prop}
    (h : qsem q avs K) : QStep P G lo E H w (execOp ρ o) K := by
  obtain ⟨dst, op, type, pos, after, guard⟩ := o
  cases op with
  | move x =>
    simp only [compOp, Option.some.injEq, Prod.mk.injEq, Cls.q.injEq] at hc
    obtain ⟨rfl, rfl⟩ := hc
    obtain ⟨x, rfl, hx⟩ := reps_1 ha
    exact ⟨x, _, w, E, rfl, h, hx, hs, Evo.refl _ _ _⟩
  | assign x =>
    simp only [compOp] at hc
    split at hc
    · simp only [Option.bind_eq_some_iff] at hc
      obtain ⟨n, _, hc⟩ := hc
      split at hc <;> simp at hc
    · simp only [Option.some.injEq, Prod.mk.injEq, Cls.q.injEq] at hc
      obtain ⟨rfl, rfl⟩ := hc
      obtain ⟨x, rfl, hx⟩ := reps_1 ha
      exact ⟨x, _, w, E, rfl, h, hx, hs, Evo.refl _ _ _⟩
  | pick c a b =>
    simp only [compOp, Option.some.injEq, Prod.mk.injEq, Cls.q.injEq] at hc
    obtain ⟨rfl, rfl⟩ := hc
    obtain ⟨x, y, z, rfl, hx, hy, hz⟩ := reps_3 ha
    obtain ⟨t, rfl, hK⟩ := onBool_inv h
    have e := hx.imm_inv
    cases t
    · exact ⟨_, ρ b, w, E, by simp [execOp, e, asBool], hK, hz, hs, Evo.refl _ _ _⟩
    · exact ⟨_, ρ a, w, E, by simp [execOp, e, asBool], hK, hy, hs, Evo.refl _ _ _⟩
  | alloc e =>
    simp only [compOp, Option.bind_eq_some_iff] at hc
    obtain ⟨i, _, z, _, hc⟩ := hc
    split at hc <;> simp at hc
  | box e x => simp [compOp] at hc
  | build t parts =>
    simp only [compOp] at hc
    split at hc
    · rename_i fs hu
      simp only [Option.bind_eq_some_iff] at hc
      obtain ⟨it, hi, z, hz, pl, hpl, places, hp, hc⟩ := hc
      split at hc
      · rename_i hok
        simp only [Option.some.injEq, Prod.mk.injEq, Cls.q.injEq] at hc
        obtain ⟨rfl, rfl⟩ := hc
        refine QDone.step (build_done hs (t := t) (parts := parts.map fun (p : Nat × Operand) => (p.1, ρ p.2)) (place := fun i => pl[i]?) hi hz hok ?_ ?_ ?_ h) (by simp [execOp])
        · have := mapM_some _ _ _ hp
          simp only [Array.toList_map, List.map_map]
          rw [← this]
          rfl
        · intro cells hcells
          simp only [Program.built, hi, hu, hz, hpl]
          simpa using hcells
        · rw [List.map_map] at ha; rw [Array.toList_map, List.map_map]; exact ha
      · cases hc
    · rename_i n e hu
      simp only [Option.bind_eq_some_iff] at hc
      obtain ⟨it, hi, z, hz, n', hsz, hc⟩ := hc
      split at hc
      · rename_i hok
        simp only [Option.some.injEq, Prod.mk.injEq, Cls.q.injEq] at hc
        obtain ⟨rfl, rfl⟩ := hc
        obtain ⟨ie, hie, rfl⟩ := szOf_some hsz
        refine QDone.step (build_done hs (t := t) (parts := parts.map fun (p : Nat × Operand) => (p.1, ρ p.2)) (place := fun i => some (i * ie.size, ie.size)) hi hz hok ?_ ?_ ?_ h) (by simp [execOp])
        · simp [List.map_map, Function.comp]
        · intro cells hcells
          simp only [Program.built, hi, hu, hz, hie]
          exact hcells
        · rw [List.map_map] at ha; rw [Array.toList_map, List.map_map]; exact ha
      · cases hc
    · cases hc
  | buildSlice t len parts =>
    simp only [compOp] at hc
    split at hc
    · rename_i e hu
      simp only [Option.bind_eq_some_iff] at hc
      obtain ⟨i, hi, z, hz, hc⟩ := hc
      split at hc
      · rename_i hp
        split at hc
        · simp at hc
        · simp only [Option.some.injEq, Prod.mk.injEq, Cls.q.injEq] at hc
          obtain ⟨rfl, rfl⟩ := hc
          exact QDone.step (bslice_done hs (parts := parts.map fun (p : Nat × Operand) => (p.1, ρ p.2)) hu hi hz (by rw [← hp.1]; simp [List.map_map, Function.comp]) hp.2 (by rw [List.map_map] at ha; rw [Array.toList_map, List.map_map]; exact ha) h) (by simp [execOp])
      · cases hc
    · cases hc
  | load t x =>
    simp only [compOp] at hc
    split at hc
    · split at hc <;> simp at hc
    · cases hc
  | store t a x => simp [compOp, Option.map_eq_some_iff] at hc
  | nilCheck x =>
    simp only [compOp, Option.some.injEq, Prod.mk.injEq, Cls.q.injEq] at hc
    obtain ⟨rfl, rfl⟩ := hc
    obtain ⟨x', rfl, hx⟩ := reps_1 ha
    change nilchkSem x' K at h
    unfold nilchkSem at h
    split at h
    · refine ⟨_, ρ x, w, E, ?_, h, hx, hs, Evo.refl _ _ _⟩
      generalize hv : ρ x = v at hx
      cases hx with
      | ptr _ _ b hb => simp [execOp, hv]
    · refine ⟨_, ρ x, w, E, ?_, h, hx, hs, Evo.refl _ _ _⟩
      generalize hv : ρ x = v at hx
      cases hx with
      | rptr _ _ ad us h1 h2 h3 => simp [execOp, hv]
    · refine ⟨_, ρ x, w, E, ?_, h, hx, hs, Evo.refl _ _ _⟩
      generalize hv : ρ x = v at hx
      cases hx with
      | fn _ _ _ us vs h1 h2 => simp [execOp, hv]
    · exact h.elim
  | binOp op t x y yt =>
    have go : ∀ op', (∀ x' y', avs = [x', y'] → Rep E w x' (ρ x) → Rep E w y' (ρ y) → binsem op' t x' y' K → QStep P G lo E H w (execOp ρ ⟨dst, .binOp op' t x y yt, type, pos, after, guard⟩) K) := by
      intro op' x' y' e hx hy h
      obtain ⟨r, z, hr, hK, hrep⟩ := bin_sound (P := P) hx hy h x y
      exact ⟨r, z, w, E, by simp only [Sem.run_bind] at hr; simp only [execOp, Sem.run_bind, hr, Result.andThen_ok]; rfl, hK, hrep, hs, Evo.refl _ _ _⟩
    simp only [compOp] at hc
    split at hc
    · split at hc
      · rename_i hp
        simp only [Option.some.injEq, Prod.mk.injEq, Cls.q.injEq] at hc
        obtain ⟨rfl, rfl⟩ := hc
        obtain ⟨x', y', rfl, hx, hy⟩ := reps_2 ha
        exact QDone.step (eqA_done hs hp hx hy h x y) (by simp only [execOp, Sem.run_bind, Bool.false_eq_true, if_false]; rfl)
      · simp only [Option.some.injEq, Prod.mk.injEq, Cls.q.injEq] at hc
        obtain ⟨rfl, rfl⟩ := hc
        obtain ⟨x', y', rfl, hx, hy⟩ := reps_2 ha
        unfold eqOp at h
        split at h
        · rename_i hbt
          have hu := boolT_spec hbt
          obtain ⟨a, rfl, h⟩ := onBool_inv h
          obtain ⟨b, rfl, h⟩ := onBool_inv h
          have hx := hx.imm_inv
          have hy := hy.imm_inv
          have hr := run_eql_bool hu a b w x y
          simp only [Sem.run_bind] at hr
          exact ⟨_, .bool (a == b), w, E, by simp only [execOp, hx, hy, Sem.run_bind, hr, Result.andThen_ok]; rfl, h, .imm _ rfl, hs, Evo.refl _ _ _⟩
        · split at h
          · rename_i _ hpt
            obtain ⟨e, hu⟩ := ptrT_spec hpt
            exact QDone.step (pnil_done hs hu hx hy h x y) (by simp only [execOp, Sem.run_bind, Bool.false_eq_true, if_false]; rfl)
          · exact go _ x' y' rfl hx hy h
    · split at hc
      · rename_i hp
        simp only [Option.some.injEq, Prod.mk.injEq, Cls.q.injEq] at hc
        obtain ⟨rfl, rfl⟩ := hc
        obtain ⟨x', y', rfl, hx, hy⟩ := reps_2 ha
        exact QDone.step (eqA_done hs hp hx hy h x y) (by simp only [execOp, Sem.run_bind, if_true]; rfl)
      · simp only [Option.some.injEq, Prod.mk.injEq, Cls.q.injEq] at hc
        obtain ⟨rfl, rfl⟩ := hc
        obtain ⟨x', y', rfl, hx, hy⟩ := reps_2 ha
        unfold eqOp at h
        split at h
        · rename_i hbt
          have hu := boolT_spec hbt
          obtain ⟨a, rfl, h⟩ := onBool_inv h
          obtain ⟨b, rfl, h⟩ := onBool_inv h
          have hx := hx.imm_inv
          have hy := hy.imm_inv
          have hr := run_neq_bool hu a b w x y
          simp only [Sem.run_bind] at hr
          exact ⟨_, .bool (!(a == b)), w, E, by simp only [execOp, hx, hy, Sem.run_bind, hr, Result.andThen_ok]; rfl, h, .imm _ rfl, hs, Evo.refl _ _ _⟩
        · split at h
          · rename_i _ hpt
            obtain ⟨e, hu⟩ := ptrT_spec hpt
            exact QDone.step (pnil_done hs hu hx hy h x y) (by simp only [execOp, Sem.run_bind, if_true]; rfl)
          · exact go _ x' y' rfl hx hy h
    · simp only [Option.some.injEq, Prod.mk.injEq, Cls.q.injEq] at hc
      obtain ⟨rfl, rfl⟩ := hc
      obtain ⟨x', y', rfl, hx, hy⟩ := reps_2 ha
      exact go _ x' y' rfl hx hy h
  | unOp op t x =>
    simp only [compOp, Option.some.injEq, Prod.mk.injEq, Cls.q.injEq] at hc
    obtain ⟨rfl, rfl⟩ := hc
    obtain ⟨x', rfl, hx⟩ := reps_1 ha
    obtain ⟨r, z, hr, hK, hrep⟩ := un_sound (P := P) hx h
    exact ⟨r, z, w, E, by simp [execOp, hr], hK, hrep, hs, Evo.refl _ _ _⟩
  | convert src dst x =>
    simp only [compOp] at hc
    split at hc
    · rename_i q' k e1 e2
      simp only [Option.some.injEq, Prod.mk.injEq, Cls.q.injEq] at hc
      obtain ⟨rfl, rfl⟩ := hc
      obtain ⟨x', rfl, hx⟩ := reps_1 ha
      exact QDone.step (convI_done hs e2 e1 hx h) (by simp [execOp])
    · rename_i e e1 e2
      split at hc
      · rename_i hu8
        simp only [Option.some.injEq, Prod.mk.injEq, Cls.q.injEq] at hc
        obtain ⟨rfl, rfl⟩ := hc
        obtain ⟨x', rfl, hx⟩ := reps_1 ha
        exact QDone.step (toStr_done hs e2 e1 (isU8_spec hu8) hx h) (by simp [execOp])
      · cases hc
    · rename_i k e1 e2
      simp only [Option.some.injEq, Prod.mk.injEq, Cls.q.injEq] at hc
      obtain ⟨rfl, rfl⟩ := hc
      obtain ⟨x', rfl, hx⟩ := reps_1 ha
      exact QDone.step (runeStr_done hs e2 e1 hx h) (by simp [execOp])
    · rename_i e1 e2
      simp only [Option.some.injEq, Prod.mk.injEq, Cls.q.injEq] at hc
      obtain ⟨rfl, rfl⟩ := hc
      obtain ⟨x', rfl, hx⟩ := reps_1 ha
      exact QDone.step (strId_done hs e2 e1 hx h) (by simp [execOp])
    · rename_i e e1 e2
      split at hc
      · rename_i hu8
        simp only [Option.some.injEq, Prod.mk.injEq, Cls.q.injEq] at hc
        obtain ⟨rfl, rfl⟩ := hc
        obtain ⟨x', rfl, hx⟩ := reps_1 ha
        exact QDone.step (toBytes_done hs e2 e1 (isU8_spec hu8) hx h) (by simp [execOp])
      · cases hc
    · split at hc <;> simp at hc
    · cases hc
  | sliceToArrayPointer arr x =>
    simp only [compOp] at hc
    split at hc
    · rename_i n e hu
      simp only [Option.some.injEq, Prod.mk.injEq, Cls.q.injEq] at hc
      obtain ⟨rfl, rfl⟩ := hc
      obtain ⟨x', rfl, hx⟩ := reps_1 ha
      exact QDone.step (s2a_done hs hu hx h) (by simp [execOp])
    · cases hc
  | makeInterface t x =>
    simp only [compOp] at hc
    split at hc
    · cases hc
    · rename_i d hd hu
      simp only [Option.some.injEq, Prod.mk.injEq, Cls.q.injEq] at hc
      obtain ⟨rfl, rfl⟩ := hc
      obtain ⟨x', rfl, hx⟩ := reps_1 ha
      exact QDone.step (mkiface_done hs hu (fun ms e => hd ms e) hx h) (by simp [execOp])
    · cases hc
  | makeFunc fn first cap =>
    simp only [compOp, Option.some.injEq, Prod.mk.injEq, Cls.q.injEq] at hc
    obtain ⟨rfl, rfl⟩ := hc
    rw [List.map_append] at ha
    have h1 := ha.take first.size
    have h2 := ha.drop first.size
    rw [List.take_left' (by simp)] at h1
    rw [List.drop_left' (by simp)] at h2
    refine ⟨_, _, w, E, rfl, h, ?_, hs, Evo.refl _ _ _⟩
    have h3 := Rep.fn fn _ _ _ _ h1 h2
    have e1 : ∀ a : Array Operand, (List.map ρ a.toList).toArray = a.map ρ := fun a => by apply Array.ext'; simp
    rw [e1, e1] at h3
    exact h3
  | fieldAddr t x f =>
    simp only [compOp] at hc
    split at hc
    · rename_i fs hu
      simp only [Option.bind_eq_some_iff] at hc
      obtain ⟨fd, hf, n, hsz, hc⟩ := hc
      split at hc
      · cases hc
      · rename_i hn
        simp only [Option.some.injEq, Prod.mk.injEq, Cls.q.injEq] at hc
        obtain ⟨rfl, rfl⟩ := hc
        obtain ⟨x', rfl, hx⟩ := reps_1 ha
        exact QDone.step (faddr_done hs hu hf hsz hn hx h) (by simp [execOp])
    · cases hc
  | field t x f =>
    simp only [compOp] at hc
    split at hc
    · rename_i fs hu
      simp only [Option.bind_eq_some_iff, Option.map_eq_some_iff] at hc
      obtain ⟨fd, hf, n, hsz, d, hd, hc⟩ := hc
      split at hc
      · rename_i hag
        simp only [Prod.mk.injEq, Cls.q.injEq] at hc
        obtain ⟨rfl, rfl⟩ := hc
        obtain ⟨x', rfl, hx⟩ := reps_1 ha
        exact QDone.step (fldA_done hs hu hf hsz hd hag hx h) (by simp [execOp])
      · rename_i hag
        simp only [Prod.mk.injEq, Cls.q.injEq] at hc
        obtain ⟨rfl, rfl⟩ := hc
        obtain ⟨x', rfl, hx⟩ := reps_1 ha
        exact QDone.step (fld1_done hs hu hf hd (by simpa using hag) hx h) (by simp [execOp])
    · cases hc
  | indexAddr t x i =>
    simp only [compOp] at hc
    split at hc
    · rename_i e hu
      simp only [Option.bind_eq_some_iff] at hc
      obtain ⟨n, hsz, hc⟩ := hc
      split at hc
      · cases hc
      · rename_i hn
        simp only [Option.some.injEq, Prod.mk.injEq, Cls.q.injEq] at hc
        obtain ⟨rfl, rfl⟩ := hc
        obtain ⟨x', y', rfl, hx, hy⟩ := reps_2 ha
        exact QDone.step (iaddrS_done hs hu hsz hx hy h (by omega)) (by simp [execOp])
    · rename_i len e hu
      simp only [Option.map_eq_some_iff, Prod.mk.injEq, Cls.q.injEq] at hc
      obtain ⟨n, hsz, rfl, rfl⟩ := hc
      obtain ⟨x', y', rfl, hx, hy⟩ := reps_2 ha
      exact QDone.step (iaddrA_done hs hu hsz hx hy h) (by simp [execOp])
    · cases hc
  | index t x i =>
    simp only [compOp] at hc
    split at hc
    · rename_i hu
      simp only [Option.some.injEq, Prod.mk.injEq, Cls.q.injEq] at hc
      obtain ⟨rfl, rfl⟩ := hc
      obtain ⟨x', y', rfl, hx, hy⟩ := reps_2 ha
      exact QDone.step (idxS_done hs hu hx hy h) (by simp [execOp])
    · rename_i len e hu
      simp only [Option.bind_eq_some_iff] at hc
      obtain ⟨n, hsz, d, hd, hc⟩ := hc
      split at hc
      · rename_i hag
        simp only [Option.some.injEq, Prod.mk.injEq, Cls.q.injEq] at hc
        obtain ⟨rfl, rfl⟩ := hc
        obtain ⟨x', y', rfl, hx, hy⟩ := reps_2 ha
        exact QDone.step (idxA_done hs hu hsz hd hag hx hy h) (by simp [execOp])
      · rename_i hag
        split at hc
        · rename_i h1
          subst h1
          simp only [Option.some.injEq, Prod.mk.injEq, Cls.q.injEq] at hc
          obtain ⟨rfl, rfl⟩ := hc
          obtain ⟨x', y', rfl, hx, hy⟩ := reps_2 ha
          exact QDone.step (idx1_done hs hu hsz hd (by simpa using hag) hx hy h) (by simp [execOp])
        · cases hc
    · cases hc
  | slice t x lo hi mx =>
    simp only [compOp] at hc
    split at hc
    · rename_i hu
      split at hc
      · cases hc
      · rename_i hm
        simp only [Option.some.injEq, Prod.mk.injEq, Cls.q.injEq] at hc
        obtain ⟨rfl, rfl⟩ := hc
        have hm' : mx = none := by cases mx <;> simp_all
        subst hm'
        simp only [List.map_cons, List.map_append, optList_map] at ha
        obtain ⟨x', bs, rfl, hx, hb⟩ := reps_c ha
        rw [show lo.isSome = (lo.map ρ).isSome by cases lo <;> rfl, show hi.isSome = (hi.map ρ).isSome by cases hi <;> rfl] at h
        exact QDone.step (sliceS_done hs hu hx hb h) (by simp [execOp])
    · rename_i e hu
      simp only [Option.map_eq_some_iff, Prod.mk.injEq, Cls.q.injEq] at hc
      obtain ⟨n, hsz, rfl, rfl⟩ := hc
      simp only [List.map_cons, List.map_append, optList_map] at ha
      obtain ⟨x', bs, rfl, hx, hb⟩ := reps_c ha
      rw [show lo.isSome = (lo.map ρ).isSome by cases lo <;> rfl, show hi.isSome = (hi.map ρ).isSome by cases hi <;> rfl, show mx.isSome = (mx.map ρ).isSome by cases mx <;> rfl] at h
      exact QDone.step (sliceL_done hs hu hsz hx hb h) (by simp [execOp])
    · rename_i len e hu
      split at hc
      · cases hc
      · rename_i hm
        split at hc
        · rename_i hsz
          obtain ⟨hsz, hlen⟩ := hsz
          split at hc
          · simp only [Option.some.injEq, Prod.mk.injEq, Cls.q.injEq] at hc
            obtain ⟨rfl, rfl⟩ := hc
            have hm' : mx = none := by cases mx <;> simp_all
            subst hm'
            simp only [List.map_cons, List.map_append, optList_map] at ha
            obtain ⟨x', bs, rfl, hx, hb⟩ := reps_c ha
            rw [show lo.isSome = (lo.map ρ).isSome by cases lo <;> rfl, show hi.isSome = (hi.map ρ).isSome by cases hi <;> rfl] at h
            exact QDone.step (slArrW_done hs hu hsz hlen hx hb h) (by simp [execOp])
          · simp at hc
        · cases hc
    · cases hc
  | extract x i =>
    simp only [compOp, Option.some.injEq, Prod.mk.injEq, Cls.q.injEq] at hc
    obtain ⟨rfl, rfl⟩ := hc
    obtain ⟨x', rfl, hx⟩ := reps_1 ha
    exact QDone.step (ext_done hs hx h) (by simp [execOp])
  | call c =>
    obtain ⟨callee, args, argTypes⟩ := c
    cases callee with
    | value f => simp [compOp] at hc
    | invoke r m => simp [compOp] at hc
    | builtin b =>
      cases b with
      | len =>
        simp only [compOp] at hc
        split at hc
        · rename_i t x e1 e2
          obtain ⟨args⟩ := args
          obtain ⟨argTypes⟩ := argTypes
          simp only at e1 e2
          subst e1 e2
          have key : ∀ q, ((P.underlying t = some .string ∧ q = .lenS) ∨ (∃ e, P.underlying t = some (.slice e) ∧ q = .lenL) ∨ (∃ n e, P.underlying t = some (.array n e) ∧ q = .lenC n) ∨
              (∃ a n e, P.underlying t = some (.pointer a) ∧ P.underlying a = some (.array n e) ∧ q = .lenC n)) → ∀ x', avs = [x'] → Rep E w x' (ρ x) → qsem q [x'] K → QStep P G lo E H w (execOp ρ ⟨dst, .call ⟨.builtin .len, #[x], #[t]⟩, type, pos, after, guard⟩) K := by
            intro q hq x' e hx h
            exact QDone.step (len_done (ty := type) hs hq hx h) (by simp [execOp, resolve, invoke, builtin])
          split at hc
          · rename_i hu
            simp only [Option.some.injEq, Prod.mk.injEq, Cls.q.injEq] at hc
            obtain ⟨rfl, rfl⟩ := hc
            obtain ⟨x', rfl, hx⟩ := reps_1 ha
            exact key _ (.inl ⟨hu, rfl⟩) x' rfl hx h
          · rename_i hu
            simp only [Option.some.injEq, Prod.mk.injEq, Cls.q.injEq] at hc
            obtain ⟨rfl, rfl⟩ := hc
            obtain ⟨x', rfl, hx⟩ := reps_1 ha
            exact key _ (.inr (.inl ⟨_, hu, rfl⟩)) x' rfl hx h
          · simp at hc
          · rename_i hu
            simp only [Option.some.injEq, Prod.mk.injEq, Cls.q.injEq] at hc
            obtain ⟨rfl, rfl⟩ := hc
            obtain ⟨x', rfl, hx⟩ := reps_1 ha
            exact key _ (.inr (.inr (.inl ⟨_, _, hu, rfl⟩))) x' rfl hx h
          · rename_i hu
            split at hc
            · rename_i hu2
              simp only [Option.some.injEq, Prod.mk.injEq, Cls.q.injEq] at hc
              obtain ⟨rfl, rfl⟩ := hc
              obtain ⟨x', rfl, hx⟩ := reps_1 ha
              exact key _ (.inr (.inr (.inr ⟨_, _, _, hu, hu2, rfl⟩))) x' rfl hx h
            · cases hc
          · cases hc
        · cases hc
      | append =>
        simp only [compOp] at hc
        split at hc
        · split at hc
          · simp only [Option.bind_eq_some_iff] at hc
            obtain ⟨_, _, _, _, hc⟩ := hc
            split at hc <;> simp at hc
          · cases hc
        · cases hc
      | clear =>
        simp only [compOp] at hc
        split at hc
        · split at hc
          · simp only [Option.bind_eq_some_iff] at hc
            obtain ⟨_, _, _, _, hc⟩ := hc
            split at hc <;> simp at hc
          · cases hc
        · cases hc
      | copy =>
        simp only [compOp] at hc
        split at hc
        · split at hc
          · simp [Option.map_eq_some_iff] at hc
          · cases hc
        · cases hc
      | max =>
        simp only [compOp] at hc
        split at hc
        · rename_i x y e1
          obtain ⟨args⟩ := args
          simp only at e1
          subst e1
          simp only [Option.some.injEq, Prod.mk.injEq, Cls.q.injEq] at hc
          obtain ⟨rfl, rfl⟩ := hc
          obtain ⟨x', y', rfl, hx, hy⟩ := reps_2 ha
          exact QDone.step (max_done (ts := argTypes) (ty := type) hs hx hy h) (by simp [execOp, resolve, invoke, builtin])
        · cases hc
      | real =>
        simp only [compOp] at hc
        split at hc
        · rename_i x e1
          obtain ⟨args⟩ := args
          simp only at e1
          subst e1
          simp only [Option.some.injEq, Prod.mk.injEq, Cls.q.injEq] at hc
          obtain ⟨rfl, rfl⟩ := hc
          obtain ⟨x', rfl, hx⟩ := reps_1 ha
          exact QDone.step (real_done (ts := argTypes) (ty := type) hs hx h) (by simp [execOp, resolve, invoke, builtin])
        · cases hc
      | imag =>
        simp only [compOp] at hc
        split at hc
        · rename_i x e1
          obtain ⟨args⟩ := args
          simp only at e1
          subst e1
          simp only [Option.some.injEq, Prod.mk.injEq, Cls.q.injEq] at hc
          obtain ⟨rfl, rfl⟩ := hc
          obtain ⟨x', rfl, hx⟩ := reps_1 ha
          exact QDone.step (imag_done (ts := argTypes) (ty := type) hs hx h) (by simp [execOp, resolve, invoke, builtin])
        · cases hc
      | min =>
        simp only [compOp] at hc
        split at hc
        · rename_i x y e1
          obtain ⟨args⟩ := args
          simp only at e1
          subst e1
          simp only [Option.some.injEq, Prod.mk.injEq, Cls.q.injEq] at hc
          obtain ⟨rfl, rfl⟩ := hc
          obtain ⟨x', y', rfl, hx, hy⟩ := reps_2 ha
          exact QDone.step (min_done (ts := argTypes) (ty := type) hs hx hy h) (by simp [execOp, resolve, invoke, builtin])
        · cases hc
      | _ => simp [compOp] at hc
  | lookup => simp [compOp, Option.map_eq_some_iff] at hc
  | mapEntry => simp [compOp, Option.map_eq_some_iff] at hc
  | entryStore => simp [compOp, Option.map_eq_some_iff] at hc
  | mapUpdate => simp [compOp, Option.map_eq_some_iff] at hc
  | makeMap t r => cases r <;> simp [compOp, Option.map_eq_some_iff] at hc
  | makeSlice t l c =>
    simp only [compOp] at hc
    split at hc
    · simp only [Option.bind_eq_some_iff] at hc
      obtain ⟨_, _, _, _, hc⟩ := hc
      split at hc
      · split at hc <;> simp at hc
      · cases hc
    · cases hc
  | _ => simp [compOp] at hc
end
end Go.AL
