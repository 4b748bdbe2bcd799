/- Operations that turn boxes. -/
import Derived.Test.YtfilcbnobmnopaaDoorA11
set_option linter.unusedSimpArgs false
set_option linter.unusedVariables false
namespace Go.AL
open Go Go.RowKit

section
variable {P : Program} {G : Nat → Option (List AV)} {lo : Nat} {E : Env} {H : List AObj} {w : World}

/-- One object turns; its block may turn, and new blocks may come. -/
theorem SimH.turn {E' : Env} {w' : World} (h : SimH G lo E H w) (hb : Below lo w w') {id : Nat} {o' : AObj} (hid : id < H.length)
    (hblk : ∀ k, k < w.heap.size → E.at id ≠ some k → w'.heap[k]? = w.heap[k]?) (hcell : ∀ a, E.I a → w'.cell? a = w.cell? a)
    (hbx : ∀ i, E'.bx i = E.bx i) (htk : ∀ i, i ≠ id → E'.tk i = E.tk i)
    (htki : ∀ n b, E.tk id = some (n, b) → ∃ n' b', E'.tk id = some (n', b') ∧ n ≤ n' ∧ (n' = n → b' = b))
    (hI : ∀ a, E.I a → E'.I a) (hI' : ∀ a, E'.I a → (E.I a ∨ E.at id = some a.block ∨ w.heap.size ≤ a.block) ∧ a.block < w'.heap.size)
    (hat : ∀ b, E'.at id = some b → E.at id = some b ∨ w.heap.size ≤ b) (ho : Evo lo E w E' w' → ObjOk E' w' lo id o') :
    SimH G lo E' (H.set id o') w' ∧ Evo lo E w E' w' := by
  have hE : Evo lo E w E' w' := ⟨hb, fun a ha => ⟨hI a ha, hcell a ha⟩, fun i b hi => by rw [hbx i]; exact hi, fun i n b hi => by
    by_cases e : i = id
    · subst e; exact htki n b hi
    · exact ⟨n, b, by rw [htk i e]; exact hi, Nat.le_refl _, fun _ => rfl⟩,
    fun a ha => by
      rcases (hI' a ha).1 with h1 | h1 | h1
      · exact .inl h1
      · exact .inr (h.at_spec h1).1
      · exact .inr (Nat.le_trans h.lo_le h1)⟩
  have key : ∀ k, k ≠ id → E'.at k = E.at k := fun k hk => Env.at_congr (hbx k) (htk k hk)
  refine ⟨⟨Nat.le_trans h.lo_le hb.size, fun a ha => (hI' a ha).2, ?_, ?_, ?_, ?_⟩, hE⟩
  · intro i x hx
    by_cases e : i = id
    · subst e
      rw [List.getElem?_set_self hid] at hx
      cases hx
      exact ho hE
    · rw [List.getElem?_set_ne (Ne.symm e)] at hx
      have hne : ∀ b, E.at i = some b → E.at id ≠ some b := fun b hb1 hb2 => e (h.inj i id b hb1 hb2)
      refine (h.objs i x hx).keep hE (hbx i) (htk i e) (fun b hb' => hblk b (h.at_spec hb').2.1 (hne b hb')) fun a ha => ?_
      rcases (hI' a ha).1 with h1 | h1 | h1
      · exact .inl h1
      · exact .inr fun b hb' e2 => hne b hb' (by rw [h1, e2])
      · refine .inr fun b hb' e2 => ?_
        have h2 := (h.at_spec hb').2.1
        omega
  · intro i hi
    rw [List.length_set] at hi
    have e : i ≠ id := by omega
    rw [hbx i, htk i e]
    exact h.dom i hi
  · intro i j b hi hj
    by_cases e1 : i = id
    · by_cases e2 : j = id
      · rw [e1, e2]
      · subst e1
        rw [key j e2] at hj
        rcases hat b hi with h1 | h1
        · exact h.inj _ _ b h1 hj
        · have h2 := (h.at_spec hj).2.1
          omega
    · by_cases e2 : j = id
      · subst e2
        rw [key i e1] at hi
        rcases hat b hj with h1 | h1
        · exact h.inj _ _ b hi h1
        · have h2 := (h.at_spec hi).2.1
          omega
      · rw [key i e1] at hi
        rw [key j e2] at hj
        exact h.inj i j b hi hj
  · intro g cs hg
    obtain ⟨us, h1, h2, h3, ty, fz, h4, h5⟩ := h.glob g cs hg
    exact ⟨us, h1.mono hE, h2, fun j u hu => ⟨((hE.I _ (h3 j u hu).2).2).trans (h3 j u hu).1, (hE.I _ (h3 j u hu).2).1⟩, ty, fz, h4, (hE.below.block g h4).trans h5⟩

theorem heap_setRow_below {lo b : Nat} {w : World} {cs : Array Value} (h : lo ≤ w.heap.size) (hb : lo ≤ b) : Below lo w (w.setRow b cs) :=
  ⟨rfl, rfl, rfl, by rw [size_setRow]; exact Nat.le_refl _, fun k hk => setRow_other w b k cs (by omega)⟩

theorem run_append_u {t u ty e e' : TypeId} (hu : P.underlying t = some (.slice e)) (hu' : P.underlying u = some (.slice e')) (A B : Option Addr) (n c m d : Nat) :
    (Builtin.append_ #[t, u] ty #[.slice A n c, .slice B m d]).run P w = (Builtin.append_ #[t, t] ty #[.slice A n c, .slice B m d]).run P w := by
  simp [Builtin.append_, run_underlying hu, run_underlying hu', Builtin.lenOf]

theorem run_append_zero {t ty e : TypeId} {i : TypeInfo} (hu : P.underlying t = some (.slice e)) (hi : P.info? e = some i) (A B : Option Addr) {n c d : Nat} (h : n ≤ c) :
    (Builtin.append_ #[t, t] ty #[.slice A n c, .slice B 0 d]).run P w = .ok (.slice A n c) w := by
  cases A <;> cases B <;> simp [Builtin.append_, run_underlying hu, sizeOf, typeInfo, hi, Builtin.lenOf, h, Builtin.firstCells, Go.loadCells, loadCellsFrom, storeCells]

theorem cells_prefix {g n : Nat} {e : TypeId} {cur : Array Value} {us : List Value} (hg : w.heap[g]? = some (.cells cur e (0, 0))) (hl : us.length = n) (hc : n ≤ cur.size)
    (h : ∀ j u, us[j]? = some u → ∃ ad, some (⟨g, 0, none⟩ : Addr) = some ad ∧ w.cell? (ad.add j) = some u ∧ E.I (ad.add j)) : us = cur.toList.take n := by
  apply List.ext_getElem?
  intro j
  rcases Nat.lt_or_ge j n with hj | hj
  · obtain ⟨ad, e1, e2, _⟩ := h j _ (List.getElem?_eq_getElem (show j < us.length by omega))
    cases e1
    rw [Addr.add_lit, Nat.zero_add, cell_of_row _ _ _ _ _ _ hg] at e2
    rw [List.getElem?_take_of_lt hj, List.getElem?_eq_getElem (show j < us.length by omega), ← e2]
    simp
  · rw [List.getElem?_eq_none (by omega), List.getElem?_eq_none (by rw [List.length_take]; omega)]

theorem append_sound {t u ty e e' : TypeId} {i : TypeInfo} {z : Value} (hu : P.underlying t = some (.slice e)) (hu' : P.underlying u = some (.slice e')) (hi : P.info? e = some i) (hz : i.zero = some z) (hzs : z.cells.size = i.size)
    (hs : SimH G lo E H w) {s x : AV} {v y : Value} (hsr : Rep E w s v) (hxr : Rep E w x y) {K : AV → List AObj → Prop} (h : esem (.append e i.size i.bytes) [s, x] H K) :
    ∃ r H' v' w' E', (Builtin.append_ #[t, u] ty #[v, y]).run P w = .ok v' w' ∧ K r H' ∧ Rep E' w' r v' ∧ SimH G lo E' H' w' ∧ Evo lo E w E' w' := by
  obtain ⟨sz, xs, tok, rfl, h⟩ := onSl_inv h
  obtain ⟨sz', ys, tok', rfl, h⟩ := onSl_inv h
  obtain ⟨k, rfl, h⟩ := onSome_inv h
  obtain ⟨e1, tsz, n, hH, he1, h0, htsz, hn, hsz, hsz', hby, hbig, hK⟩ := onTok_inv h
  rw [he1, htsz, hn] at hH
  clear he1 htsz hn
  obtain ⟨B, b1, b2, b3⟩ := hs.objs k _ hH
  have hkl : k < H.length := (List.getElem?_eq_some_iff.1 hH).1
  obtain ⟨A, cap, us, rfl, a1, a2, a3, a4, a5, a6, a7⟩ := hsr.sl_inv
  obtain ⟨A', cap', news, rfl, c1, c2, c3, c4, c5, c6, c7⟩ := hxr.sl_inv
  obtain ⟨m, b, d1, d2, d3⟩ := a7
  rw [b2] at d1
  cases d1
  have d4 := d3 rfl
  rw [run_append_u hu hu']
  have hul : us.length = xs.length * i.size := by
    rw [a4.length, flat_length xs a3]
    rcases hsz with h | h
    · rw [h]
    · subst h; simp
  have hnl : news.length = ys.length * i.size := by
    rw [c4.length, flat_length ys c3]
    rcases hsz' with h | h
    · rw [h]
    · subst h; simp
  have hx3 : ∀ x ∈ xs, x.cells.length = i.size := by
    rcases hsz with h | h
    · rw [← h]; exact a3
    · subst h; simp
  have hy3 : ∀ x ∈ ys, x.cells.length = i.size := by
    rcases hsz' with h | h
    · rw [← h]; exact c3
    · subst h; simp
  by_cases hys : ys = []
  · subst hys
    refine ⟨_, _, .slice A xs.length cap, w, E, run_append_zero hu hi A A' a1, hK, ?_, ?_, Evo.refl _ _ _⟩
    · rw [List.append_nil]
      exact .sl i.size xs (some k) A cap us a1 a2 hx3 a4 a5 a6 ⟨xs.length, _, b2, Nat.le_refl _, fun _ => d4⟩
    · have : H.set k (.tok e i.size (xs.length + ([] : List AV).length)) = H := by
        rw [List.length_nil, Nat.add_zero]
        apply List.ext_getElem?
        intro j
        by_cases e : k = j
        · subst e; rw [List.getElem?_set_self hkl, hH]
        · rw [List.getElem?_set_ne e]
      rw [this]
      exact hs
  · have hpos : 0 < ys.length := List.length_pos_iff.2 hys
    have hnpos : 0 < news.length := by rw [hnl]; exact Nat.mul_pos hpos h0
    obtain ⟨ad, rfl, _⟩ := c6 0 _ (List.getElem?_eq_getElem hnpos)
    have hnews : ∀ j v, news[j]? = some v → w.cell? (ad.add j) = some v := fun j v hv => by
      obtain ⟨ad', e1, e2, _⟩ := c6 j v hv
      cases e1
      exact e2
    have hall : Reps E w ((xs ++ ys).flatMap AV.cells) (us ++ news) := by rw [List.flatMap_append]; exact a4.append c4
    have hone : ∀ u ∈ us ++ news, u.oneCell' = true := fun u hu => by
      rcases List.mem_append.1 hu with h | h
      · exact a5 u h
      · exact c5 u h
    have hsz3 : ∀ x ∈ xs ++ ys, x.cells.length = i.size := fun x hx => by
      rcases List.mem_append.1 hx with h | h
      · exact hx3 x h
      · exact hy3 x h
    have hallen : (us ++ news).length = (xs.length + ys.length) * i.size := by rw [List.length_append, hul, hnl, Nat.add_mul]
    -- the two cases in which a new row is made
    have grown : ∀ (old : Nat) (cells : Array Value), xs.length + ys.length ≤ grownCap w (xs.length + ys.length) old e → cells.toList.take ((xs.length + ys.length) * i.size) = us ++ news → cells.size = grownCap w (xs.length + ys.length) old e * i.size →
        (∀ b, E.at k = some b → True) →
        ∃ r H' v' w' E', (Result.ok (.slice (some ⟨w.heap.size, 0, none⟩) (xs.length + ys.length) (grownCap w (xs.length + ys.length) old e)) (w.drew.alloc (.cells cells e)) : Result Value) = .ok v' w' ∧ K r H' ∧ Rep E' w' r v' ∧ SimH G lo E' H' w' ∧ Evo lo E w E' w' := by
      intro old cells g1 g2 g3 _
      have hcm : grownCap w (xs.length + ys.length) old e ≤ maxLen := grownCap_le_maxLen w _ old e (by unfold maxLen; omega)
      have hnew : (w.drew.alloc (.cells cells e)).heap[w.heap.size]? = some (.cells cells e (0, 0)) := heap_alloc_new w.drew _
      have hcell : ∀ j u, (us ++ news)[j]? = some u → (w.drew.alloc (.cells cells e)).cell? ⟨w.heap.size, j, none⟩ = some u := fun j u hu => by
        rw [cell_of_row _ _ _ _ _ _ hnew]
        have hj : j < (xs.length + ys.length) * i.size := by rw [← hallen]; exact (List.getElem?_eq_some_iff.1 hu).1
        rw [← g2, List.getElem?_take_of_lt hj] at hu
        simpa using hu
      obtain ⟨k1, k2⟩ := hs.turn (E' := { E with I := fun a => E.I a ∨ ∃ j, j < (xs.length + ys.length) * i.size ∧ a = ⟨w.heap.size, j, none⟩, tk := fun q => if q = k then some (xs.length + ys.length, some (w.heap.size, grownCap w (xs.length + ys.length) old e)) else E.tk q })
        (w' := w.drew.alloc (.cells cells e)) (o' := .tok e i.size (xs.length + ys.length)) ⟨rfl, rfl, rfl, by simp, fun q hq => heap_alloc_old w.drew _ q (by have := hs.lo_le; rw [heap_drew]; omega)⟩ hkl
        (fun q hq _ => heap_alloc_old w.drew _ q hq) (fun a ha => World.cell?_of_block (heap_alloc_old w.drew _ _ (hs.inI a ha))) (fun _ => rfl) (fun q hq => if_neg hq)
        (fun n' b' hb' => by rw [b2] at hb'; cases hb'; exact ⟨_, _, if_pos rfl, by omega, fun e => by omega⟩) (fun _ h => .inl h) (fun a ha => by
          rcases ha with ha | ⟨j, hj, rfl⟩
          · have := hs.inI a ha; exact ⟨.inl ha, by simp; omega⟩
          · exact ⟨.inr (.inr (Nat.le_refl _)), by simp⟩) (fun b hb => by
          simp [Env.at, b1] at hb
          exact .inr (by omega)) (fun hE => ⟨some (w.heap.size, grownCap w (xs.length + ys.length) old e), b1, if_pos rfl, hs.lo_le, cells, hnew, g3, g1, hcm, fun a ha hb => by
          rcases ha with ha | ⟨j, hj, rfl⟩
          · have := hs.inI a ha; omega
          · exact hj⟩)
      refine ⟨_, _, _, _, _, rfl, hK, ?_, k1, k2⟩
      have h9 := Rep.sl (E := { E with I := fun a => E.I a ∨ ∃ j, j < (xs.length + ys.length) * i.size ∧ a = ⟨w.heap.size, j, none⟩, tk := fun q => if q = k then some (xs.length + ys.length, some (w.heap.size, grownCap w (xs.length + ys.length) old e)) else E.tk q })
        (w := w.drew.alloc (.cells cells e)) i.size (xs ++ ys) (some k) (some ⟨w.heap.size, 0, none⟩) (grownCap w (xs.length + ys.length) old e) (us ++ news) (by rw [List.length_append]; exact g1) hcm hsz3 (hall.mono k2) hone (fun j u hu => by
          refine ⟨_, rfl, ?_, .inr ⟨j, by rw [← hallen]; exact (List.getElem?_eq_some_iff.1 hu).1, by rw [Addr.add_lit, Nat.zero_add]⟩⟩
          rw [Addr.add_lit, Nat.zero_add]
          exact hcell j u hu) ⟨xs.length + ys.length, _, if_pos rfl, by rw [List.length_append]; exact Nat.le_refl _, fun _ => ⟨rfl, rfl⟩⟩
      rw [List.length_append] at h9
      exact h9
    have h63 : ((xs.length + ys.length : Nat) : Int) ≤ 9223372036854775807 := by omega
    cases B with
    | none =>
      obtain ⟨rfl, rfl⟩ := d4
      have hn0 : xs.length = 0 := b3
      have hx0 : xs = [] := List.eq_nil_of_length_eq_zero hn0
      have hu0 : us = [] := List.eq_nil_of_length_eq_zero (by rw [hul, hn0]; simp)
      have hr := run_append_nil (P := P) w t ty e i z hu hi hz ad ys.length cap' news hnl hnews hpos (by omega) (by rw [hn0, Nat.zero_add] at hby; omega)
      rw [hn0, hr]
      have g1 := grownCap_ge w (xs.length + ys.length) 0 e
      have h9 := grown 0 (news.toArray ++ Builtin.zeroCells z.cells (grownCap w (xs.length + ys.length) 0 e - (xs.length + ys.length))) g1 (by
        rw [hu0]
        simp only [Array.toList_append, List.nil_append]
        rw [List.take_append_of_le_length (by simp [hnl, hn0]), List.take_of_length_le (by simp [hnl, hn0])]) (by
        simp only [Array.size_append, List.size_toArray, size_zeroCells, hzs, hnl]
        rw [← Nat.add_mul]
        congr 1
        omega) (fun _ _ => trivial)
      rw [hn0] at h9
      simp only [Nat.zero_add] at h9
      rw [hn0] at hK
      exact h9
    | some p =>
      obtain ⟨g, c⟩ := p
      obtain ⟨rfl, rfl⟩ := d4
      obtain ⟨f1, cur, f2, f3, f4, f5, f6⟩ := b3
      have hat : E.at k = some g := by simp [Env.at, b1, b2]
      have hpre := cells_prefix (n := xs.length * i.size) f2 hul (by rw [f3]; exact Nat.mul_le_mul_right _ f4) a6
      by_cases hroom : xs.length + ys.length ≤ cap
      · have hfit : xs.length * i.size + news.length ≤ cur.size := by rw [hnl, f3, ← Nat.add_mul]; exact Nat.mul_le_mul_right _ hroom
        have hr := run_append_room (P := P) w t ty e i hu hi g xs.length cap cur f2 ad ys.length cap' news hnl hnews c5 hroom hfit
        rw [← hpre] at hr
        have hheap := setRow_heap w g cur (us ++ news ++ cur.toList.drop (xs.length * i.size + news.length)).toArray e _ f2
        have hcell : ∀ j u, (us ++ news)[j]? = some u → (w.setRow g (us ++ news ++ cur.toList.drop (xs.length * i.size + news.length)).toArray).cell? ⟨g, j, none⟩ = some u := fun j u hu => by
          rw [cell_of_row _ _ _ _ _ _ hheap]
          simp only [List.getElem?_toArray]
          rw [List.getElem?_append_left (List.getElem?_eq_some_iff.1 hu).1]
          exact hu
        obtain ⟨k1, k2⟩ := hs.turn (E' := { E with I := fun a => E.I a ∨ ∃ j, j < (xs.length + ys.length) * i.size ∧ a = ⟨g, j, none⟩, tk := fun q => if q = k then some (xs.length + ys.length, some (g, cap)) else E.tk q })
          (w' := w.setRow g (us ++ news ++ cur.toList.drop (xs.length * i.size + news.length)).toArray) (o' := .tok e i.size (xs.length + ys.length)) (heap_setRow_below hs.lo_le f1) hkl
          (fun q hq hne => setRow_other w g q _ (fun e => hne (by rw [hat, e]))) (fun a ha => by
            by_cases hag : a.block = g
            · have hoff := f6 a ha hag
              have hlt : a.off < (us ++ news).length := by rw [List.length_append, hul]; omega
              unfold World.cell?
              rw [hag, hheap, f2]
              simp only
              split
              · rfl
              · simp only [List.getElem?_toArray]
                rw [List.append_assoc, List.getElem?_append_left (by rw [hul]; exact hoff), hpre, List.getElem?_take_of_lt hoff]
                simp
            · exact World.cell?_of_block (setRow_other w g _ _ hag)) (fun _ => rfl) (fun q hq => if_neg hq)
          (fun n' b' hb' => by rw [b2] at hb'; cases hb'; exact ⟨_, _, if_pos rfl, by omega, fun e => by omega⟩) (fun _ h => .inl h) (fun a ha => by
            rcases ha with ha | ⟨j, hj, rfl⟩
            · exact ⟨.inl ha, by rw [size_setRow]; exact hs.inI a ha⟩
            · exact ⟨.inr (.inl hat), by rw [size_setRow]; exact heap_lt f2⟩) (fun b hb => by
            simp [Env.at, b1] at hb
            exact .inl (by rw [hat, hb])) (fun hE => ⟨some (g, cap), b1, if_pos rfl, f1, _, hheap, by
              simp only [List.size_toArray, List.length_append, List.length_drop, hul, hnl, Array.length_toList, f3]
              rw [hnl, f3] at hfit
              omega, hroom, f5, fun a ha hb => by
              rcases ha with ha | ⟨j, hj, rfl⟩
              · have := f6 a ha hb
                have h9 := Nat.mul_le_mul_right i.size (show xs.length ≤ xs.length + ys.length by omega)
                omega
              · exact hj⟩)
        refine ⟨_, _, _, _, _, hr, hK, ?_, k1, k2⟩
        have h9 := Rep.sl (E := { E with I := fun a => E.I a ∨ ∃ j, j < (xs.length + ys.length) * i.size ∧ a = ⟨g, j, none⟩, tk := fun q => if q = k then some (xs.length + ys.length, some (g, cap)) else E.tk q })
          (w := w.setRow g (us ++ news ++ cur.toList.drop (xs.length * i.size + news.length)).toArray) i.size (xs ++ ys) (some k) (some ⟨g, 0, none⟩) cap (us ++ news) (by rw [List.length_append]; exact hroom) f5 hsz3 (hall.mono k2) hone (fun j u hu => by
            refine ⟨_, rfl, ?_, .inr ⟨j, by rw [← hallen]; exact (List.getElem?_eq_some_iff.1 hu).1, by rw [Addr.add_lit, Nat.zero_add]⟩⟩
            rw [Addr.add_lit, Nat.zero_add]
            exact hcell j u hu) ⟨xs.length + ys.length, _, if_pos rfl, by rw [List.length_append]; exact Nat.le_refl _, fun _ => ⟨rfl, rfl⟩⟩
        rw [List.length_append] at h9
        exact h9
      · have hr := run_append_grow (P := P) w t ty e i z hu hi hz ⟨g, 0, none⟩ xs.length cap us hul (fun j v hv => by
          obtain ⟨ad', e1, e2, _⟩ := a6 j v hv
          cases e1
          exact e2) ad ys.length cap' news hnl hnews (by omega) h63 (growslice_fits (by omega) hby)
        rw [hr]
        refine grown cap _ (grownCap_ge w _ cap e) ?_ ?_ (fun _ _ => trivial)
        · simp only [Array.toList_append]
          rw [List.take_append_of_le_length (by simp [← hallen]), List.take_of_length_le (by simp [← hallen])]
        · have g1 := grownCap_ge w (xs.length + ys.length) cap e
          simp only [Array.size_append, List.size_toArray, size_zeroCells, hzs, hul, hnl]
          rw [← Nat.add_mul, ← Nat.add_mul]
          congr 1
          omega

theorem e_sound {own : Bool} {slot : Nat} {o : Oper} {q : EOp} {xs : List Operand} (hc : compOp P own o slot = some (.e q, xs)) (hs : SimH G lo E H w) {ρ : Operand → Value} {avs : List AV} (ha : Reps E w avs (xs.map ρ))
    {K : AV → List AObj → Prop} (h : esem q avs H K) : ∃ r H' nx v w' E', (execOp ρ o).run P w = .ok nx w' ∧ (nx = .value v ∨ nx = .skip ∧ v = undef) ∧ K r H' ∧ Rep E' w' r v ∧ SimH G lo E' H' w' ∧ Evo lo E w E' w' := by
  obtain ⟨dst, op, type, pos, after, guard⟩ := o
  cases op with
  | load t x =>
    simp only [compOp] at hc
    split at hc
    · split at hc <;> simp at hc
    · cases hc
  | move => simp [compOp] at hc
  | assign x =>
    simp only [compOp] at hc
    split at hc
    · simp only [Option.bind_eq_some_iff] at hc
      obtain ⟨n, _, hc⟩ := hc
      split at hc <;> simp at hc
    · simp at hc
  | pick => simp [compOp] at hc
  | alloc e =>
    simp only [compOp, Option.bind_eq_some_iff] at hc
    obtain ⟨i, _, z, _, hc⟩ := hc
    split at hc <;> simp at hc
  | box => simp [compOp] at hc
  | build t parts =>
    simp only [compOp] at hc
    split at hc
    · simp only [Option.bind_eq_some_iff] at hc
      obtain ⟨_, _, _, _, _, _, _, _, hc⟩ := hc
      split at hc <;> simp at hc
    · simp only [Option.bind_eq_some_iff] at hc
      obtain ⟨_, _, _, _, _, _, hc⟩ := hc
      split at hc <;> simp at hc
    · cases hc
  | buildSlice t len parts =>
    simp only [compOp] at hc
    split at hc
    · simp only [Option.bind_eq_some_iff] at hc
      obtain ⟨_, _, _, _, hc⟩ := hc
      split at hc
      · split at hc <;> simp at hc
      · cases hc
    · cases hc
  | store t a x =>
    simp only [compOp, Option.map_eq_some_iff, Prod.mk.injEq, Cls.e.injEq] at hc
    obtain ⟨n, hsz, rfl, rfl⟩ := hc
    obtain ⟨p, x', rfl, hp, hx⟩ := reps_2 ha
    obtain ⟨id, off, rfl, h⟩ := onPtr_inv h
    obtain ⟨h1, h2, h⟩ := h
    split at h
    · rename_i cs hH
      obtain ⟨h3, hK⟩ := h
      obtain ⟨i, hi, rfl⟩ := szOf_some hsz
      obtain ⟨b, ty, us, b1, b2, b3, b4, b5, b6, b7⟩ := hs.objs id _ hH
      have hat : E.at id = some b := by simp [Env.at, b1]
      generalize hpv : ρ a = pv at hp
      cases hp with
      | ptr _ _ b' hb' =>
        rw [b1] at hb'
        cases hb'
        obtain ⟨r1, r2⟩ := hx.cells h1
        have hl : (ρ x).cells.toList.length = i.size := by rw [r1.length, h2]
        have hul : us.length = cs.length := b5.length
        have hst := run_storeCells_at P b off ty (ρ x).cells.toList 0 us.toArray w b4 (by simp at hl ⊢; omega) r2
        simp only [Nat.add_zero, hl] at hst
        have hnew : Reps E w (cs.take off ++ x'.cells ++ cs.drop (off + i.size)) (us.take off ++ (ρ x).cells.toList ++ us.drop (off + i.size)) := ((b5.take _).append r1).append (b5.drop _)
        have hone : ∀ u ∈ us.take off ++ (ρ x).cells.toList ++ us.drop (off + i.size), u.oneCell' = true := fun u hu => by
          simp only [List.mem_append] at hu
          rcases hu with (hu | hu) | hu
          · exact b6 u (List.mem_of_mem_take hu)
          · exact r2 u hu
          · exact b6 u (List.mem_of_mem_drop hu)
        obtain ⟨k1, k2⟩ := hs.turn (E' := E) (w' := w.setRow b (us.take off ++ (ρ x).cells.toList ++ us.drop (off + i.size)).toArray) (heap_setRow_below hs.lo_le b3) (o' := .box (cs.take off ++ x'.cells ++ cs.drop (off + i.size))) (List.getElem?_eq_some_iff.1 hH).1
          (fun k _ hk => setRow_other w b k _ (fun e => hk (by rw [hat, e]))) (fun a ha => World.cell?_of_block (setRow_other w b a.block _ (b7 a ha))) (fun _ => rfl) (fun _ _ => rfl) (fun n b h => ⟨n, b, h, Nat.le_refl _, fun _ => rfl⟩)
          (fun _ h => h) (fun a ha => ⟨.inl ha, by rw [size_setRow]; exact hs.inI a ha⟩) (fun b h => .inl h) (fun hE => ⟨b, ty, _, b1, b2, b3, setRow_heap w b _ _ ty _ b4, hnew.mono hE, hone, b7⟩)
        refine ⟨_, _, _, undef, _, E, ?_, .inr ⟨rfl, rfl⟩, hK, .junk _, k1, k2⟩
        simp only [execOp, Sem.run_bind, hpv, Instr.storeAt, Instr.sureAddr, Sem.run_pure, Result.andThen_ok, storeVar, sizeOf, typeInfo, run_program, hi]
        rw [if_neg (by simp at hl; simp [hl])]
        rw [hst]
        rfl
    · exact h.elim
  | nilCheck => simp [compOp] at hc
  | binOp op t x y yt =>
    simp only [compOp] at hc
    split at hc
    · split at hc <;> simp at hc
    · split at hc <;> simp at hc
    · simp at hc
  | unOp => simp [compOp] at hc
  | convert src dst x =>
    simp only [compOp] at hc
    split at hc
    · simp at hc
    · split at hc <;> simp at hc
    · simp at hc
    · simp at hc
    · split at hc <;> simp at hc
    · simp at hc
  | sliceToArrayPointer => simp only [compOp] at hc; split at hc <;> simp at hc
  | makeInterface => simp only [compOp] at hc; split at hc <;> simp at hc
  | makeFunc => simp [compOp] at hc
  | fieldAddr =>
    simp only [compOp] at hc
    split at hc
    · simp only [Option.bind_eq_some_iff] at hc
      obtain ⟨_, _, _, _, hc⟩ := hc
      split at hc <;> simp at hc
    · cases hc
  | field =>
    simp only [compOp] at hc
    split at hc
    · simp only [Option.bind_eq_some_iff, Option.map_eq_some_iff] at hc
      obtain ⟨_, _, _, _, _, _, hc⟩ := hc
      split at hc <;> simp at hc
    · cases hc
  | indexAddr =>
    simp only [compOp] at hc
    split at hc
    · simp only [Option.bind_eq_some_iff] at hc
      obtain ⟨_, _, hc⟩ := hc
      split at hc <;> simp at hc
    · simp [Option.map_eq_some_iff] at hc
    · cases hc
  | index =>
    simp only [compOp] at hc
    split at hc
    · simp at hc
    · simp only [Option.bind_eq_some_iff] at hc
      obtain ⟨_, _, _, _, hc⟩ := hc
      split at hc
      · simp at hc
      · split at hc <;> simp at hc
    · cases hc
  | slice t x l0 h0 mx =>
    simp only [compOp] at hc
    split at hc
    · split at hc <;> simp at hc
    · simp [Option.map_eq_some_iff] at hc
    · rename_i len e hu
      split at hc
      · cases hc
      · rename_i hm
        split at hc
        · rename_i hsz
          obtain ⟨hsz, hlen⟩ := hsz
          simp only [Option.some.injEq, Prod.mk.injEq, Cls.e.injEq] at hc
          obtain ⟨rfl, rfl⟩ := hc
          have hm' : mx = none := by cases mx <;> simp_all
          subst hm'
          obtain ⟨i, hi, hs1⟩ := szOf_some hsz
          simp only [List.map_cons, List.map_append, optList_map] at ha
          obtain ⟨x', bs, rfl, hx, hb⟩ := reps_c ha
          obtain ⟨id, off, rfl, h'⟩ := onPtr_inv (show onPtr x' _ from h)
          obtain ⟨cs, hH, h3, h4⟩ := onBox_inv h'
          rw [show l0.isSome = (l0.map ρ).isSome by cases l0 <;> rfl, show h0.isSome = (h0.map ρ).isSome by cases h0 <;> rfl] at h4
          obtain ⟨l, u, hK, hlu, hun, hr⟩ := bounds_run (P := P) h4 hb
          have hr2 := hr false len (Nat.le_refl _)
          generalize hpv : ρ x = pv at hx
          cases hx with
          | ptr _ _ b hb' =>
            have key : ∀ ty us, H[id]?.isSome → E.tk id = none → lo ≤ b → w.heap[b]? = some (.cells (List.toArray us) ty (0, 0)) → Reps E w cs us → (∀ u ∈ us, u.oneCell' = true) →
                ∃ r H' nx v w' E', (execOp ρ ⟨dst, .slice t x l0 h0 none, type, pos, after, guard⟩).run P w = .ok nx w' ∧ (nx = .value v ∨ nx = .skip ∧ v = undef) ∧ K r H' ∧ Rep E' w' r v ∧ SimH G lo E' H' w' ∧ Evo lo E w E' w' := by
              intro ty us hsm b2 b3 b4 b5 b6
              have hid : id < H.length := by
                rcases Nat.lt_or_ge id H.length with h | h
                · exact h
                · rw [List.getElem?_eq_none h] at hsm; simp at hsm
              have hat : E.at id = some b := by simp [Env.at, hb']
              have hul : us.length = cs.length := b5.length
              obtain ⟨k1, k2⟩ := hs.turn (E' := E.more fun a => ∃ j, j < us.length ∧ a = ⟨b, j, none⟩) (w' := w) (Below.refl _ _) (o' := .fbox cs) hid (fun _ _ _ => rfl) (fun _ _ => rfl) (fun _ => rfl) (fun _ _ => rfl)
                (fun n b h => ⟨n, b, h, Nat.le_refl _, fun _ => rfl⟩) (fun _ h => .inl h) (fun a ha => by
                  rcases ha with ha | ⟨j, hj, rfl⟩
                  · exact ⟨.inl ha, hs.inI a ha⟩
                  · exact ⟨.inr (.inl hat), heap_lt b4⟩) (fun b h => .inl h) (fun hE => ⟨b, ty, us, hb', b2, b3, b4, b5.mono hE, b6, fun j hj => .inr ⟨j, hj, rfl⟩⟩)
              refine ⟨_, _, _, .slice (some (if len = l then ⟨b, off, none⟩ else Addr.add ⟨b, off, none⟩ (l * 1))) (u - l) (len - l), w, _, ?_, .inl rfl, hK, ?_, k1, k2⟩
              · simp [execOp, hpv, Instr.sliceAt, run_underlying hu, Instr.sureAddr, hr2, sizeOf, typeInfo, hi, hs1]
              · have hcl : (((cs.drop off).take u).drop l).length = u - l := by rw [List.length_drop, List.length_take, List.length_drop]; omega
                have hone : ∀ c ∈ cs, c.cells.length = 1 := by
                  intro c hc
                  obtain ⟨j, hj, rfl⟩ := List.mem_iff_getElem.1 hc
                  obtain ⟨v, hv, hrep⟩ := b5.get j _ (List.getElem?_eq_getElem hj)
                  have h1 := b6 v (List.mem_of_getElem? hv)
                  generalize cs[j] = c at hrep
                  cases hrep <;> first | rfl | (simp [Value.oneCell'] at h1)
                have hcells : ∀ l : List AV, (∀ c ∈ l, c ∈ cs) → l.flatMap AV.cells = l := by
                  intro l
                  induction l with
                  | nil => intro _; rfl
                  | cons c l ih =>
                    intro h
                    have h1 := h c (by simp)
                    obtain ⟨j, hj, rfl⟩ := List.mem_iff_getElem.1 h1
                    obtain ⟨v, hv, hrep⟩ := b5.get j _ (List.getElem?_eq_getElem hj)
                    have h2 := b6 v (List.mem_of_getElem? hv)
                    rw [List.flatMap_cons, ih (fun d hd => h d (by simp [hd]))]
                    generalize cs[j] = c at hrep
                    cases hrep <;> first | rfl | (simp [Value.oneCell'] at h2)
                have hmem : ∀ c ∈ ((cs.drop off).take u).drop l, c ∈ cs := fun c hc => List.mem_of_mem_drop (List.mem_of_mem_take (List.mem_of_mem_drop hc))
                have h9 := Rep.sl (E := E.more fun a => ∃ j, j < us.length ∧ a = ⟨b, j, none⟩) (w := w) 1 (((cs.drop off).take u).drop l) none (some (if len = l then ⟨b, off, none⟩ else Addr.add ⟨b, off, none⟩ (l * 1))) (len - l) (((us.drop off).take u).drop l)
                  (by rw [hcl]; omega) (by unfold maxLen; omega) (fun c hc => hone c (hmem c hc)) (by rw [hcells _ hmem]; exact (((b5.drop _).take _).drop _).mono k2) (fun v hv => b6 v (List.mem_of_mem_drop (List.mem_of_mem_take (List.mem_of_mem_drop hv)))) (fun j v hv => by
                    rw [List.getElem?_drop] at hv
                    have hj : l + j < u := by
                      rcases Nat.lt_or_ge (l + j) u with h | h
                      · exact h
                      · rw [List.getElem?_eq_none (by rw [List.length_take]; omega)] at hv; cases hv
                    rw [List.getElem?_take_of_lt hj, List.getElem?_drop] at hv
                    rw [if_neg (by omega)]
                    refine ⟨_, rfl, ?_, .inr ⟨off + (l + j), (List.getElem?_eq_some_iff.1 hv).1, ?_⟩⟩
                    · rw [Addr.add_lit, Addr.add_lit, cell_of_row _ _ _ _ _ _ b4]
                      simp only [Nat.mul_one, Nat.add_assoc]
                      simpa using hv
                    · rw [Addr.add_lit, Addr.add_lit]; simp [Nat.add_assoc]) trivial
                rw [hcl] at h9
                exact h9
            rcases hH with hH | hH
            · obtain ⟨b', ty, us, e1, e2, e3, e4, e5, e6, e7⟩ := hs.objs id _ hH
              rw [hb'] at e1
              cases e1
              exact key ty us (by rw [hH]; rfl) e2 e3 e4 e5 e6
            · obtain ⟨b', ty, us, e1, e2, e3, e4, e5, e6, e7⟩ := hs.objs id _ hH
              rw [hb'] at e1
              cases e1
              exact key ty us (by rw [hH]; rfl) e2 e3 e4 e5 e6
        · cases hc
    · cases hc
  | extract => simp [compOp] at hc
  | call c =>
    obtain ⟨callee, args, argTypes⟩ := c
    simp only [compOp] at hc
    split at hc
    · simp at hc
    · split at hc
      · split at hc
        · simp at hc
        · simp at hc
        · simp at hc
        · split at hc <;> simp at hc
        · cases hc
      · cases hc
    · split at hc
      · rename_i t u s x e1 e2
        obtain ⟨args⟩ := args
        obtain ⟨argTypes⟩ := argTypes
        simp only at e1 e2
        subst e1 e2
        split at hc
        · rename_i e e' hu hu'
          simp only [Option.bind_eq_some_iff] at hc
          obtain ⟨i, hi, z, hz, hc⟩ := hc
          split at hc
          · rename_i hzs
            simp only [Option.some.injEq, Prod.mk.injEq, Cls.e.injEq] at hc
            obtain ⟨rfl, rfl⟩ := hc
            obtain ⟨s', x', rfl, hsr, hxr⟩ := reps_2 ha
            obtain ⟨r, H', v, w', E', hr, hK, h1, h2, h3⟩ := append_sound (ty := type) hu hu' hi hz hzs hs hsr hxr h
            exact ⟨r, H', .value v, v, w', E', by simp [execOp, resolve, invoke, builtin, hr], .inl rfl, hK, h1, h2, h3⟩
          · cases hc
        · cases hc
      · cases hc
    · split at hc <;> simp at hc
    · split at hc <;> simp at hc
    · cases hc
  | _ => simp [compOp] at hc


end
end Go.AL
