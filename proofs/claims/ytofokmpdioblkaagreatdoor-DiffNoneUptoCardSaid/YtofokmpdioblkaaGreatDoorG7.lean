/- Operations that turn boxes. -/
import Derived.Test.YtofokmpdioblkaaGreatDoorG5
import Derived.Test.YtofokmpdioblkaaGreatDoorG6
set_option linter.unusedSimpArgs false
set_option linter.unusedVariables false
namespace Go.AL
open Go Go.RowKit
section
variable {P : Program} {G : Nat → Option (List AV)} {lo : Nat} {E : Env} {H : List AObj} {w : World}
theorem heap_setRow_below {lo b : Nat} {w : World} {cs : Array Value} (h : lo ≤ w.heap.size) (hb : lo ≤ b) : Below lo w (w.setRow b cs) :=
  ⟨rfl, rfl, rfl, by rw [size_setRow]; exact Nat.le_refl _, fun k hk => setRow_other w b k cs (by omega)⟩
theorem run_append_u {t u ty e e' : TypeId} (hu : P.underlying t = some (.slice e)) (hu' : P.underlying u = some (.slice e')) (A B : Option Addr) (n c m d : Nat) :
    (Builtin.append_ #[t, u] ty #[.slice A n c, .slice B m d]).run P w = (Builtin.append_ #[t, t] ty #[.slice A n c, .slice B m d]).run P w := by
  simp [Builtin.append_, run_underlying hu, run_underlying hu', Builtin.lenOf]
theorem run_append_zero {t ty e : TypeId} {i : TypeInfo} (hu : P.underlying t = some (.slice e)) (hi : P.info? e = some i) (A B : Option Addr) {n c d : Nat} (h : n ≤ c) :
    (Builtin.append_ #[t, t] ty #[.slice A n c, .slice B 0 d]).run P w = .ok (.slice A n c) w := by
  cases A <;> cases B <;> simp [Builtin.append_, run_underlying hu, sizeOf, typeInfo, hi, Builtin.lenOf, h, Builtin.firstCells, Go.loadCells, loadCellsFrom, storeCells]
theorem cells_prefix {g n : Nat} {e : TypeId} {cur : Array Value} {us : List Value} (hg : w.heap[g]? = some (.cells cur e (0, 0))) (hl : us.length = n) (hc : n ≤ cur.size)
    (h : ∀ j u, us[j]? = some u → ∃ ad, some (⟨g, 0, none⟩ : Addr) = some ad ∧ w.cell? (ad.add j) = some u ∧ E.I (ad.add j)) : us = cur.toList.take n := by
  apply List.ext_getElem?
  intro j
  rcases Nat.lt_or_ge j n with hj | hj
  · obtain ⟨ad, e1, e2, _⟩ := h j _ (List.getElem?_eq_getElem (show j < us.length by omega))
    cases e1
    rw [Addr.add_lit, Nat.zero_add, cell_of_row _ _ _ _ _ _ hg] at e2
    rw [List.getElem?_take_of_lt hj, List.getElem?_eq_getElem (show j < us.length by omega), ← e2]
    simp
  · rw [List.getElem?_eq_none (by omega), List.getElem?_eq_none (by rw [List.length_take]; omega)]
theorem append_row_sound {t u ty e e' : TypeId} {i : TypeInfo} {z : Value} (hu : P.underlying t = some (.slice e)) (hu' : P.underlying u = some (.slice e')) (hi : P.info? e = some i) (hz : i.zero = some z) (hzs : z.cells.size = i.size)
    (hs : SimH G lo E H w) {id ver sz lo0 n : Nat} {x : AV} {v y : Value} (hsr : Rep E w (.rs id ver sz lo0 n) v) (hxr : Rep E w x y) {K : AV → List AObj → Prop} (h : esem (.append e i.size i.bytes) [.rs id ver sz lo0 n, x] H K) :
    ∃ r H' v' w' E', (Builtin.append_ #[t, u] ty #[v, y]).run P w = .ok v' w' ∧ K r H' ∧ Rep E' w' r v' ∧ SimH G lo E' H' w' ∧ Evo lo E w E' w' := by
  obtain ⟨sz', ys, tok', rfl, h⟩ := onSl_inv (show onSl x _ from h)
  obtain ⟨e1, rsz, ver', xs, hH, he1, h0, hrsz, hsz0, hver, hlo, hn, hsz', hby, hbig, hK⟩ := onRow_inv h
  subst hsz0 hlo hn
  rw [he1, hrsz, hver] at hH
  clear he1 hrsz hver
  obtain ⟨B, b1, b2, b3⟩ := hs.objs id _ hH
  have hkl : id < H.length := (List.getElem?_eq_some_iff.1 hH).1
  obtain ⟨A', cap', news, rfl, c1, c2, c3, c4, c5, c6, c7⟩ := hxr.sl_inv
  cases hsr with
  | rs _ _ _ _ _ A cap g1 g2 g0 g3 =>
  obtain ⟨m, b, d1, d2, d3⟩ := g3
  rw [b2] at d1
  cases d1
  have d4 := d3 rfl
  rw [run_append_u hu hu']
  have hnl : news.length = ys.length * i.size := by
    rw [c4.length, flat_length ys c3]
    rcases hsz' with h | h
    · rw [h]
    · subst h; simp
  have hy3 : ∀ x ∈ ys, x.cells.length = i.size := by
    rcases hsz' with h | h
    · rw [← h]; exact c3
    · subst h; simp
  by_cases hys : ys = []
  · subst hys
    obtain ⟨k1, k2⟩ := hs.turn (E' := { E with tk := fun q => if q = id then some (ver + 1, B) else E.tk q }) (w' := w) (o' := .row e i.size (ver + 1) xs) (Below.refl _ _) hkl (fun _ _ _ => rfl) (fun _ _ => rfl) (fun _ => rfl) (fun q hq => if_neg hq)
      (fun n' b' hb' => by rw [b2] at hb'; cases hb'; exact ⟨_, _, if_pos rfl, by omega, fun e => by omega⟩) (fun _ h => h) (fun a ha => ⟨.inl ha, hs.inI a ha⟩) (fun b hb => by
        refine .inl ?_
        simp only [Env.at, b1, if_pos] at hb ⊢
        rw [b2]; exact hb) (fun hE => ⟨B, b1, if_pos rfl, by
        cases B with
        | none => exact b3
        | some p =>
          obtain ⟨g, c⟩ := p
          obtain ⟨h4, cur, us, h5, h6, h7, h8, h9, h10⟩ := b3
          exact ⟨h4, cur, us, h5, h6, h7, h8, h9.mono hE, h10⟩⟩)
    refine ⟨_, _, .slice A xs.length cap, w, _, run_append_zero hu hi A A' g1, hK, ?_, ?_, k2⟩
    · rw [List.length_nil, Nat.add_zero]
      exact .rs _ _ _ _ _ A cap g1 g2 g0 ⟨ver + 1, B, if_pos rfl, Nat.le_refl _, fun _ => d4⟩
    · rw [List.append_nil]
      exact k1
  · have hpos : 0 < ys.length := List.length_pos_iff.2 hys
    have hnpos : 0 < news.length := by rw [hnl]; exact Nat.mul_pos hpos h0
    obtain ⟨ad, rfl, _⟩ := c6 0 _ (List.getElem?_eq_getElem hnpos)
    have hnews : ∀ j v, news[j]? = some v → w.cell? (ad.add j) = some v := fun j v hv => by
      obtain ⟨ad', e1, e2, _⟩ := c6 j v hv
      cases e1
      exact e2
    have h63 : ((xs.length + ys.length : Nat) : Int) ≤ 9223372036854775807 := by omega
    -- a new row is made
    have grown : ∀ (us : List Value) (old : Nat) (cells : Array Value), Reps E w (xs.flatMap AV.cells) us → (∀ x ∈ xs, x.cells.length = i.size) → (∀ u ∈ us, u.oneCell' = true) → us.length = xs.length * i.size →
        xs.length + ys.length ≤ grownCap w (xs.length + ys.length) old e → cells.toList.take ((xs.length + ys.length) * i.size) = us ++ news → cells.size = grownCap w (xs.length + ys.length) old e * i.size →
        ∃ r H' v' w' E', (Result.ok (.slice (some ⟨w.heap.size, 0, none⟩) (xs.length + ys.length) (grownCap w (xs.length + ys.length) old e)) (w.drew.alloc (.cells cells e)) : Result Value) = .ok v' w' ∧ K r H' ∧ Rep E' w' r v' ∧ SimH G lo E' H' w' ∧ Evo lo E w E' w' := by
      intro us old cells a4 a3 a5 hul q1 q2 q3
      have hcm : grownCap w (xs.length + ys.length) old e ≤ maxLen := grownCap_le_maxLen w _ old e (by unfold maxLen; omega)
      have hnew : (w.drew.alloc (.cells cells e)).heap[w.heap.size]? = some (.cells cells e (0, 0)) := heap_alloc_new w.drew _
      have hallen : (us ++ news).length = (xs.length + ys.length) * i.size := by rw [List.length_append, hul, hnl, Nat.add_mul]
      obtain ⟨k1, k2⟩ := hs.turn (E' := { E with tk := fun q => if q = id then some (ver + 1, some (w.heap.size, grownCap w (xs.length + ys.length) old e)) else E.tk q })
        (w' := w.drew.alloc (.cells cells e)) (o' := .row e i.size (ver + 1) (xs ++ ys)) ⟨rfl, rfl, rfl, by simp, fun q hq => heap_alloc_old w.drew _ q (by have := hs.lo_le; rw [heap_drew]; omega)⟩ hkl
        (fun q hq _ => heap_alloc_old w.drew _ q hq) (fun a ha => World.cell?_of_block (heap_alloc_old w.drew _ _ (hs.inI a ha))) (fun _ => rfl) (fun q hq => if_neg hq)
        (fun n' b' hb' => by rw [b2] at hb'; cases hb'; exact ⟨_, _, if_pos rfl, by omega, fun e => by omega⟩) (fun _ h => h) (fun a ha => by
          have := hs.inI a ha; exact ⟨.inl ha, by simp; omega⟩) (fun b hb => by
          simp [Env.at, b1] at hb
          exact .inr (by omega)) (fun hE => ⟨some (w.heap.size, grownCap w (xs.length + ys.length) old e), b1, if_pos rfl, hs.lo_le, cells, us ++ news, hnew, q3, by rw [List.length_append]; exact q1, hcm, by
            rw [List.flatMap_append]; exact (a4.append c4).mono hE, fun x hx => (List.mem_append.1 hx).elim (a3 x) (hy3 x), fun u hu => (List.mem_append.1 hu).elim (a5 u) (c5 u), fun j u hj => by
            have hj2 : j < (xs.length + ys.length) * i.size := by rw [← hallen]; exact (List.getElem?_eq_some_iff.1 hj).1
            rw [← q2, List.getElem?_take_of_lt hj2] at hj
            simpa using hj, fun a ha hb => by have := hs.inI a ha; omega⟩)
      exact ⟨_, _, _, _, _, rfl, hK, .rs _ _ _ _ _ _ _ q1 hcm (fun _ => ⟨_, rfl⟩) ⟨ver + 1, some (w.heap.size, grownCap w (xs.length + ys.length) old e), if_pos rfl, Nat.le_refl _, fun _ => ⟨by omega, fun _ => by simp⟩⟩, k1, k2⟩
    cases B with
    | none =>
      obtain ⟨rfl, rfl⟩ := d4
      obtain rfl : xs = [] := b3
      have hr := run_append_nil (P := P) w t ty e i z hu hi hz ad ys.length cap' news hnl hnews hpos (by simpa using h63) (by
        have h9 : ys.length * i.bytes ≤ 140737488355328 := by simpa using hby
        omega)
      simp only [List.length_nil, Nat.zero_add] at grown hK ⊢
      rw [hr]
      have q1 := grownCap_ge w ys.length 0 e
      refine grown [] 0 (news.toArray ++ Builtin.zeroCells z.cells (grownCap w ys.length 0 e - ys.length)) .nil (by simp) (by simp) (by simp) q1 ?_ ?_
      · simp only [Array.toList_append, List.nil_append]
        rw [List.take_append_of_le_length (by simp [hnl]), List.take_of_length_le (by simp [hnl])]
      · simp only [Array.size_append, List.size_toArray, size_zeroCells, hzs, hnl]
        rw [← Nat.add_mul]
        congr 1
        omega
    | some p =>
      obtain ⟨g, c⟩ := p
      obtain ⟨k0, k5⟩ := d4
      obtain rfl : cap = c := by omega
      have hA : A = some ⟨g, 0, none⟩ := by rw [k5 (.inr rfl), Nat.zero_mul]
      subst hA
      obtain ⟨f1, cur, us, f2, f3, f4, f5, a4, a3, a5, f7, f8⟩ := b3
      have hul : us.length = xs.length * i.size := by rw [a4.length, flat_length xs a3]
      have hat : E.at id = some g := by simp [Env.at, b1, b2]
      have hus : us = cur.toList.take (xs.length * i.size) := by
        apply List.ext_getElem?
        intro j
        rcases Nat.lt_or_ge j us.length with hj | hj
        · have := f7 j _ (List.getElem?_eq_getElem hj)
          have e9 : cur.toList[j]? = cur[j]? := Array.getElem?_toList ..
          rw [List.getElem?_take_of_lt (by omega), e9, this, List.getElem?_eq_getElem hj]
        · rw [List.getElem?_eq_none hj, List.getElem?_eq_none (by rw [List.length_take]; omega)]
      have hucell : ∀ j v, us[j]? = some v → w.cell? ((⟨g, 0, none⟩ : Addr).add j) = some v := fun j v hv => by
        rw [Addr.add_lit, Nat.zero_add, cell_of_row _ _ _ _ _ _ f2]
        exact f7 j v hv
      by_cases hroom : xs.length + ys.length ≤ cap
      · have hfit : xs.length * i.size + news.length ≤ cur.size := by rw [hnl, f3, ← Nat.add_mul]; exact Nat.mul_le_mul_right _ hroom
        have hr := run_append_room (P := P) w t ty e i hu hi g xs.length cap cur f2 ad ys.length cap' news hnl hnews c5 hroom hfit
        rw [← hus] at hr
        have hheap := setRow_heap w g cur (us ++ news ++ cur.toList.drop (xs.length * i.size + news.length)).toArray e _ f2
        obtain ⟨k1, k2⟩ := hs.turn (E' := { E with tk := fun q => if q = id then some (ver + 1, some (g, cap)) else E.tk q })
          (w' := w.setRow g (us ++ news ++ cur.toList.drop (xs.length * i.size + news.length)).toArray) (o' := .row e i.size (ver + 1) (xs ++ ys)) (heap_setRow_below hs.lo_le f1) hkl
          (fun q hq hne => setRow_other w g q _ (fun e => hne (by rw [hat, e]))) (fun a ha => World.cell?_of_block (setRow_other w g _ _ (f8 a ha))) (fun _ => rfl) (fun q hq => if_neg hq)
          (fun n' b' hb' => by rw [b2] at hb'; cases hb'; exact ⟨_, _, if_pos rfl, by omega, fun e => by omega⟩) (fun _ h => h) (fun a ha => ⟨.inl ha, by rw [size_setRow]; exact hs.inI a ha⟩) (fun b hb => by
            simp [Env.at, b1] at hb
            exact .inl (by rw [hat, hb])) (fun hE => ⟨some (g, cap), b1, if_pos rfl, f1, _, us ++ news, hheap, by
              simp only [List.size_toArray, List.length_append, List.length_drop, hul, hnl, Array.length_toList, f3]
              rw [hnl, f3] at hfit
              omega, by rw [List.length_append]; exact hroom, f5, by rw [List.flatMap_append]; exact (a4.append c4).mono hE, fun x hx => (List.mem_append.1 hx).elim (a3 x) (hy3 x), fun u hu => (List.mem_append.1 hu).elim (a5 u) (c5 u), fun j u hj => by
              have hj2 := (List.getElem?_eq_some_iff.1 hj).1
              simp only [List.getElem?_toArray]
              rw [List.getElem?_append_left hj2]
              exact hj, f8⟩)
        exact ⟨_, _, _, _, _, hr, hK, .rs _ _ _ _ _ _ _ hroom f5 (fun _ => ⟨_, rfl⟩) ⟨ver + 1, some (g, cap), if_pos rfl, Nat.le_refl _, fun _ => ⟨by omega, fun _ => by simp⟩⟩, k1, k2⟩
      · have hr := run_append_grow (P := P) w t ty e i z hu hi hz ⟨g, 0, none⟩ xs.length cap us hul hucell ad ys.length cap' news hnl hnews (by omega) h63 (growslice_fits (by omega) hby)
        rw [hr]
        have hallen : (us ++ news).length = (xs.length + ys.length) * i.size := by rw [List.length_append, hul, hnl, Nat.add_mul]
        refine grown us cap _ a4 a3 a5 hul (grownCap_ge w _ cap e) ?_ ?_
        · simp only [Array.toList_append]
          rw [List.take_append_of_le_length (by simp [← hallen]), List.take_of_length_le (by simp [← hallen])]
        · have g1 := grownCap_ge w (xs.length + ys.length) cap e
          simp only [Array.size_append, List.size_toArray, size_zeroCells, hzs, hul, hnl]
          rw [← Nat.add_mul, ← Nat.add_mul]
          congr 1
          omega
theorem append_sound {t u ty e e' : TypeId} {i : TypeInfo} {z : Value} (hu : P.underlying t = some (.slice e)) (hu' : P.underlying u = some (.slice e')) (hi : P.info? e = some i) (hz : i.zero = some z) (hzs : z.cells.size = i.size)
    (hs : SimH G lo E H w) {s x : AV} {v y : Value} (hsr : Rep E w s v) (hxr : Rep E w x y) {K : AV → List AObj → Prop} (h : esem (.append e i.size i.bytes) [s, x] H K) :
    ∃ r H' v' w' E', (Builtin.append_ #[t, u] ty #[v, y]).run P w = .ok v' w' ∧ K r H' ∧ Rep E' w' r v' ∧ SimH G lo E' H' w' ∧ Evo lo E w E' w' := by
  have hcase : (∃ sz xs tok, s = .sl sz xs tok) ∨ ∃ id ver sz lo0 n, s = .rs id ver sz lo0 n := by
    cases s <;> first | exact .inl ⟨_, _, _, rfl⟩ | exact .inr ⟨_, _, _, _, _, rfl⟩ | exact (show False from h).elim
  rcases hcase with ⟨sz, xs, tok, rfl⟩ | ⟨id, ver, sz, lo0, n, rfl⟩
  rotate_left
  · exact append_row_sound hu hu' hi hz hzs hs hsr hxr h
  obtain ⟨sz', ys, tok', rfl, h⟩ := onSl_inv (show onSl x _ from h)
  obtain ⟨k, rfl, h⟩ := onSome_inv h
  obtain ⟨e1, tsz, n, hH, he1, h0, htsz, hn, hsz, hsz', hby, hbig, hK⟩ := onTok_inv h
  rw [he1, htsz, hn] at hH
  clear he1 htsz hn
  obtain ⟨B, b1, b2, b3⟩ := hs.objs k _ hH
  have hkl : k < H.length := (List.getElem?_eq_some_iff.1 hH).1
  obtain ⟨A, cap, us, rfl, a1, a2, a3, a4, a5, a6, a7⟩ := hsr.sl_inv
  obtain ⟨A', cap', news, rfl, c1, c2, c3, c4, c5, c6, c7⟩ := hxr.sl_inv
  obtain ⟨m, b, d1, d2, d3⟩ := a7
  rw [b2] at d1
  cases d1
  have d4 := d3 rfl
  rw [run_append_u hu hu']
  have hul : us.length = xs.length * i.size := by
    rw [a4.length, flat_length xs a3]
    rcases hsz with h | h
    · rw [h]
    · subst h; simp
  have hnl : news.length = ys.length * i.size := by
    rw [c4.length, flat_length ys c3]
    rcases hsz' with h | h
    · rw [h]
    · subst h; simp
  have hx3 : ∀ x ∈ xs, x.cells.length = i.size := by
    rcases hsz with h | h
    · rw [← h]; exact a3
    · subst h; simp
  have hy3 : ∀ x ∈ ys, x.cells.length = i.size := by
    rcases hsz' with h | h
    · rw [← h]; exact c3
    · subst h; simp
  by_cases hys : ys = []
  · subst hys
    refine ⟨_, _, .slice A xs.length cap, w, E, run_append_zero hu hi A A' a1, hK, ?_, ?_, Evo.refl _ _ _⟩
    · rw [List.append_nil]
      exact .sl i.size xs (some k) A cap us a1 a2 hx3 a4 a5 a6 ⟨xs.length, _, b2, Nat.le_refl _, fun _ => d4⟩
    · have : H.set k (.tok e i.size (xs.length + ([] : List AV).length)) = H := by
        rw [List.length_nil, Nat.add_zero]
        apply List.ext_getElem?
        intro j
        by_cases e : k = j
        · subst e; rw [List.getElem?_set_self hkl, hH]
        · rw [List.getElem?_set_ne e]
      rw [this]
      exact hs
  · have hpos : 0 < ys.length := List.length_pos_iff.2 hys
    have hnpos : 0 < news.length := by rw [hnl]; exact Nat.mul_pos hpos h0
    obtain ⟨ad, rfl, _⟩ := c6 0 _ (List.getElem?_eq_getElem hnpos)
    have hnews : ∀ j v, news[j]? = some v → w.cell? (ad.add j) = some v := fun j v hv => by
      obtain ⟨ad', e1, e2, _⟩ := c6 j v hv
      cases e1
      exact e2
    have hall : Reps E w ((xs ++ ys).flatMap AV.cells) (us ++ news) := by rw [List.flatMap_append]; exact a4.append c4
    have hone : ∀ u ∈ us ++ news, u.oneCell' = true := fun u hu => by
      rcases List.mem_append.1 hu with h | h
      · exact a5 u h
      · exact c5 u h
    have hsz3 : ∀ x ∈ xs ++ ys, x.cells.length = i.size := fun x hx => by
      rcases List.mem_append.1 hx with h | h
      · exact hx3 x h
      · exact hy3 x h
    have hallen : (us ++ news).length = (xs.length + ys.length) * i.size := by rw [List.length_append, hul, hnl, Nat.add_mul]
    -- the two cases in which a new row is made
    have grown : ∀ (old : Nat) (cells : Array Value), xs.length + ys.length ≤ grownCap w (xs.length + ys.length) old e → cells.toList.take ((xs.length + ys.length) * i.size) = us ++ news → cells.size = grownCap w (xs.length + ys.length) old e * i.size →
        (∀ b, E.at k = some b → True) →
        ∃ r H' v' w' E', (Result.ok (.slice (some ⟨w.heap.size, 0, none⟩) (xs.length + ys.length) (grownCap w (xs.length + ys.length) old e)) (w.drew.alloc (.cells cells e)) : Result Value) = .ok v' w' ∧ K r H' ∧ Rep E' w' r v' ∧ SimH G lo E' H' w' ∧ Evo lo E w E' w' := by
      intro old cells g1 g2 g3 _
      have hcm : grownCap w (xs.length + ys.length) old e ≤ maxLen := grownCap_le_maxLen w _ old e (by unfold maxLen; omega)
      have hnew : (w.drew.alloc (.cells cells e)).heap[w.heap.size]? = some (.cells cells e (0, 0)) := heap_alloc_new w.drew _
      have hcell : ∀ j u, (us ++ news)[j]? = some u → (w.drew.alloc (.cells cells e)).cell? ⟨w.heap.size, j, none⟩ = some u := fun j u hu => by
        rw [cell_of_row _ _ _ _ _ _ hnew]
        have hj : j < (xs.length + ys.length) * i.size := by rw [← hallen]; exact (List.getElem?_eq_some_iff.1 hu).1
        rw [← g2, List.getElem?_take_of_lt hj] at hu
        simpa using hu
      obtain ⟨k1, k2⟩ := hs.turn (E' := { E with I := fun a => E.I a ∨ ∃ j, j < (xs.length + ys.length) * i.size ∧ a = ⟨w.heap.size, j, none⟩, tk := fun q => if q = k then some (xs.length + ys.length, some (w.heap.size, grownCap w (xs.length + ys.length) old e)) else E.tk q })
        (w' := w.drew.alloc (.cells cells e)) (o' := .tok e i.size (xs.length + ys.length)) ⟨rfl, rfl, rfl, by simp, fun q hq => heap_alloc_old w.drew _ q (by have := hs.lo_le; rw [heap_drew]; omega)⟩ hkl
        (fun q hq _ => heap_alloc_old w.drew _ q hq) (fun a ha => World.cell?_of_block (heap_alloc_old w.drew _ _ (hs.inI a ha))) (fun _ => rfl) (fun q hq => if_neg hq)
        (fun n' b' hb' => by rw [b2] at hb'; cases hb'; exact ⟨_, _, if_pos rfl, by omega, fun e => by omega⟩) (fun _ h => .inl h) (fun a ha => by
          rcases ha with ha | ⟨j, hj, rfl⟩
          · have := hs.inI a ha; exact ⟨.inl ha, by simp; omega⟩
          · exact ⟨.inr (.inr (Nat.le_refl _)), by simp⟩) (fun b hb => by
          simp [Env.at, b1] at hb
          exact .inr (by omega)) (fun hE => ⟨some (w.heap.size, grownCap w (xs.length + ys.length) old e), b1, if_pos rfl, hs.lo_le, cells, hnew, g3, g1, hcm, fun a ha hb => by
          rcases ha with ha | ⟨j, hj, rfl⟩
          · have := hs.inI a ha; omega
          · exact hj⟩)
      refine ⟨_, _, _, _, _, rfl, hK, ?_, k1, k2⟩
      have h9 := Rep.sl (E := { E with I := fun a => E.I a ∨ ∃ j, j < (xs.length + ys.length) * i.size ∧ a = ⟨w.heap.size, j, none⟩, tk := fun q => if q = k then some (xs.length + ys.length, some (w.heap.size, grownCap w (xs.length + ys.length) old e)) else E.tk q })
        (w := w.drew.alloc (.cells cells e)) i.size (xs ++ ys) (some k) (some ⟨w.heap.size, 0, none⟩) (grownCap w (xs.length + ys.length) old e) (us ++ news) (by rw [List.length_append]; exact g1) hcm hsz3 (hall.mono k2) hone (fun j u hu => by
          refine ⟨_, rfl, ?_, .inr ⟨j, by rw [← hallen]; exact (List.getElem?_eq_some_iff.1 hu).1, by rw [Addr.add_lit, Nat.zero_add]⟩⟩
          rw [Addr.add_lit, Nat.zero_add]
          exact hcell j u hu) ⟨xs.length + ys.length, _, if_pos rfl, by rw [List.length_append]; exact Nat.le_refl _, fun _ => ⟨rfl, rfl⟩⟩
      rw [List.length_append] at h9
      exact h9
    have h63 : ((xs.length + ys.length : Nat) : Int) ≤ 9223372036854775807 := by omega
    cases B with
    | none =>
      obtain ⟨rfl, rfl⟩ := d4
      have hn0 : xs.length = 0 := b3
      have hx0 : xs = [] := List.eq_nil_of_length_eq_zero hn0
      have hu0 : us = [] := List.eq_nil_of_length_eq_zero (by rw [hul, hn0]; simp)
      have hr := run_append_nil (P := P) w t ty e i z hu hi hz ad ys.length cap' news hnl hnews hpos (by omega) (by rw [hn0, Nat.zero_add] at hby; omega)
      rw [hn0, hr]
      have g1 := grownCap_ge w (xs.length + ys.length) 0 e
      have h9 := grown 0 (news.toArray ++ Builtin.zeroCells z.cells (grownCap w (xs.length + ys.length) 0 e - (xs.length + ys.length))) g1 (by
        rw [hu0]
        simp only [Array.toList_append, List.nil_append]
        rw [List.take_append_of_le_length (by simp [hnl, hn0]), List.take_of_length_le (by simp [hnl, hn0])]) (by
        simp only [Array.size_append, List.size_toArray, size_zeroCells, hzs, hnl]
        rw [← Nat.add_mul]
        congr 1
        omega) (fun _ _ => trivial)
      rw [hn0] at h9
      simp only [Nat.zero_add] at h9
      rw [hn0] at hK
      exact h9
    | some p =>
      obtain ⟨g, c⟩ := p
      obtain ⟨rfl, rfl⟩ := d4
      obtain ⟨f1, cur, f2, f3, f4, f5, f6⟩ := b3
      have hat : E.at k = some g := by simp [Env.at, b1, b2]
      have hpre := cells_prefix (n := xs.length * i.size) f2 hul (by rw [f3]; exact Nat.mul_le_mul_right _ f4) a6
      by_cases hroom : xs.length + ys.length ≤ cap
      · have hfit : xs.length * i.size + news.length ≤ cur.size := by rw [hnl, f3, ← Nat.add_mul]; exact Nat.mul_le_mul_right _ hroom
        have hr := run_append_room (P := P) w t ty e i hu hi g xs.length cap cur f2 ad ys.length cap' news hnl hnews c5 hroom hfit
        rw [← hpre] at hr
        have hheap := setRow_heap w g cur (us ++ news ++ cur.toList.drop (xs.length * i.size + news.length)).toArray e _ f2
        have hcell : ∀ j u, (us ++ news)[j]? = some u → (w.setRow g (us ++ news ++ cur.toList.drop (xs.length * i.size + news.length)).toArray).cell? ⟨g, j, none⟩ = some u := fun j u hu => by
          rw [cell_of_row _ _ _ _ _ _ hheap]
          simp only [List.getElem?_toArray]
          rw [List.getElem?_append_left (List.getElem?_eq_some_iff.1 hu).1]
          exact hu
        obtain ⟨k1, k2⟩ := hs.turn (E' := { E with I := fun a => E.I a ∨ ∃ j, j < (xs.length + ys.length) * i.size ∧ a = ⟨g, j, none⟩, tk := fun q => if q = k then some (xs.length + ys.length, some (g, cap)) else E.tk q })
          (w' := w.setRow g (us ++ news ++ cur.toList.drop (xs.length * i.size + news.length)).toArray) (o' := .tok e i.size (xs.length + ys.length)) (heap_setRow_below hs.lo_le f1) hkl
          (fun q hq hne => setRow_other w g q _ (fun e => hne (by rw [hat, e]))) (fun a ha => by
            by_cases hag : a.block = g
            · have hoff := f6 a ha hag
              have hlt : a.off < (us ++ news).length := by rw [List.length_append, hul]; omega
              unfold World.cell?
              rw [hag, hheap, f2]
              simp only
              split
              · rfl
              · simp only [List.getElem?_toArray]
                rw [List.append_assoc, List.getElem?_append_left (by rw [hul]; exact hoff), hpre, List.getElem?_take_of_lt hoff]
                simp
            · exact World.cell?_of_block (setRow_other w g _ _ hag)) (fun _ => rfl) (fun q hq => if_neg hq)
          (fun n' b' hb' => by rw [b2] at hb'; cases hb'; exact ⟨_, _, if_pos rfl, by omega, fun e => by omega⟩) (fun _ h => .inl h) (fun a ha => by
            rcases ha with ha | ⟨j, hj, rfl⟩
            · exact ⟨.inl ha, by rw [size_setRow]; exact hs.inI a ha⟩
            · exact ⟨.inr (.inl hat), by rw [size_setRow]; exact heap_lt f2⟩) (fun b hb => by
            simp [Env.at, b1] at hb
            exact .inl (by rw [hat, hb])) (fun hE => ⟨some (g, cap), b1, if_pos rfl, f1, _, hheap, by
              simp only [List.size_toArray, List.length_append, List.length_drop, hul, hnl, Array.length_toList, f3]
              rw [hnl, f3] at hfit
              omega, hroom, f5, fun a ha hb => by
              rcases ha with ha | ⟨j, hj, rfl⟩
              · have := f6 a ha hb
                have h9 := Nat.mul_le_mul_right i.size (show xs.length ≤ xs.length + ys.length by omega)
                omega
              · exact hj⟩)
        refine ⟨_, _, _, _, _, hr, hK, ?_, k1, k2⟩
        have h9 := Rep.sl (E := { E with I := fun a => E.I a ∨ ∃ j, j < (xs.length + ys.length) * i.size ∧ a = ⟨g, j, none⟩, tk := fun q => if q = k then some (xs.length + ys.length, some (g, cap)) else E.tk q })
          (w := w.setRow g (us ++ news ++ cur.toList.drop (xs.length * i.size + news.length)).toArray) i.size (xs ++ ys) (some k) (some ⟨g, 0, none⟩) cap (us ++ news) (by rw [List.length_append]; exact hroom) f5 hsz3 (hall.mono k2) hone (fun j u hu => by
            refine ⟨_, rfl, ?_, .inr ⟨j, by rw [← hallen]; exact (List.getElem?_eq_some_iff.1 hu).1, by rw [Addr.add_lit, Nat.zero_add]⟩⟩
            rw [Addr.add_lit, Nat.zero_add]
            exact hcell j u hu) ⟨xs.length + ys.length, _, if_pos rfl, by rw [List.length_append]; exact Nat.le_refl _, fun _ => ⟨rfl, rfl⟩⟩
        rw [List.length_append] at h9
        exact h9
      · have hr := run_append_grow (P := P) w t ty e i z hu hi hz ⟨g, 0, none⟩ xs.length cap us hul (fun j v hv => by
          obtain ⟨ad', e1, e2, _⟩ := a6 j v hv
          cases e1
          exact e2) ad ys.length cap' news hnl hnews (by omega) h63 (growslice_fits (by omega) hby)
        rw [hr]
        refine grown cap _ (grownCap_ge w _ cap e) ?_ ?_ (fun _ _ => trivial)
        · simp only [Array.toList_append]
          rw [List.take_append_of_le_length (by simp [← hallen]), List.take_of_length_le (by simp [← hallen])]
        · have g1 := grownCap_ge w (xs.length + ys.length) cap e
          simp only [Array.size_append, List.size_toArray, size_zeroCells, hzs, hul, hnl]
          rw [← Nat.add_mul, ← Nat.add_mul]
          congr 1
          omega
theorem patch_prefix {us cur vs : List Value} {o : Nat} (h : ∀ (j : Nat) (u : Value), us[j]? = some u → cur[j]? = some u) (ho : o + vs.length ≤ us.length) (hc : us.length ≤ cur.length) :
    ∀ (j : Nat) (u : Value), (us.take o ++ vs ++ us.drop (o + vs.length))[j]? = some u → (cur.take o ++ vs ++ cur.drop (o + vs.length))[j]? = some u := by
  intro j u hj
  by_cases h1 : j < o
  · rw [List.append_assoc, List.getElem?_append_left (by rw [List.length_take]; omega), List.getElem?_take_of_lt h1] at hj ⊢
    exact h j u hj
  · by_cases h2 : j < o + vs.length
    · rw [List.append_assoc, List.getElem?_append_right (by rw [List.length_take]; omega), List.getElem?_append_left (by rw [List.length_take]; omega)] at hj ⊢
      rw [List.length_take] at hj ⊢
      rw [Nat.min_eq_left (by omega)] at hj ⊢
      exact hj
    · rw [List.getElem?_append_right (by rw [List.length_append, List.length_take]; omega), List.getElem?_drop] at hj ⊢
      rw [List.length_append, List.length_take, Nat.min_eq_left (by omega)] at hj ⊢
      exact h _ u hj
theorem row_patch (hs : SimH G lo E H w) {id : Nat} {e : TypeId} {sz ver g cap lo0 : Nat} {xs ys : List AV} {vs : List Value} (hH : H[id]? = some (.row e sz ver xs)) (htk : E.tk id = some (ver, some (g, cap)))
    (hl : lo0 + ys.length ≤ xs.length) (hsz : ∀ y ∈ ys, y.cells.length = sz) (hy : Reps E w (ys.flatMap AV.cells) vs) (h1 : ∀ v ∈ vs, v.oneCell' = true) :
    ∃ w', (storeCells ⟨g, lo0 * sz, none⟩ vs).run P w = .ok () w' ∧ SimH G lo E (H.set id (.row e sz ver (xs.take lo0 ++ ys ++ xs.drop (lo0 + ys.length)))) w' ∧ Evo lo E w E w' := by
  obtain ⟨B, e1, e2, e3⟩ := hs.objs id _ hH
  rw [htk] at e2
  cases e2
  obtain ⟨h4, cur, us, h5, h6, h7, h8, h9, h9a, h10, h11, h12⟩ := e3
  have hul : us.length = xs.length * sz := by rw [h9.length, flat_length xs h9a]
  have hvl : vs.length = ys.length * sz := by rw [hy.length, flat_length ys hsz]
  have hfit : lo0 * sz + vs.length ≤ us.length := by rw [hvl, hul, ← Nat.add_mul]; exact Nat.mul_le_mul_right _ hl
  have hcl : us.length ≤ cur.size := by rw [h6, hul]; exact Nat.mul_le_mul_right _ h7
  have hst := run_storeCells_at P g (lo0 * sz) e vs 0 cur w h5 (by omega) h1
  simp only [Nat.add_zero] at hst
  have hat : E.at id = some g := by simp [Env.at, e1, htk]
  have hmem : ∀ x ∈ xs.take lo0 ++ ys ++ xs.drop (lo0 + ys.length), x.cells.length = sz := by
    intro x hx
    simp only [List.mem_append] at hx
    rcases hx with (hx | hx) | hx
    · exact h9a x (List.mem_of_mem_take hx)
    · exact hsz x hx
    · exact h9a x (List.mem_of_mem_drop hx)
  have hnew : Reps E w ((xs.take lo0 ++ ys ++ xs.drop (lo0 + ys.length)).flatMap AV.cells) (us.take (lo0 * sz) ++ vs ++ us.drop (lo0 * sz + vs.length)) := by
    rw [List.flatMap_append, List.flatMap_append, flat_take xs _ h9a, flat_drop xs _ h9a, hvl, ← Nat.add_mul]
    exact ((h9.take _).append hy).append (h9.drop _)
  have hone : ∀ u ∈ us.take (lo0 * sz) ++ vs ++ us.drop (lo0 * sz + vs.length), u.oneCell' = true := fun u hu => by
    simp only [List.mem_append] at hu
    rcases hu with (hu | hu) | hu
    · exact h10 u (List.mem_of_mem_take hu)
    · exact h1 u hu
    · exact h10 u (List.mem_of_mem_drop hu)
  have hpre := patch_prefix (us := us) (cur := cur.toList) (vs := vs) (o := lo0 * sz) (fun j u hj => by rw [Array.getElem?_toList]; exact h11 j u hj) hfit (by rw [Array.length_toList]; exact hcl)
  obtain ⟨k1, k2⟩ := hs.turn (E' := E) (w' := w.setRow g (cur.toList.take (lo0 * sz) ++ vs ++ cur.toList.drop (lo0 * sz + vs.length)).toArray) (heap_setRow_below hs.lo_le h4) (o' := .row e sz ver (xs.take lo0 ++ ys ++ xs.drop (lo0 + ys.length))) (List.getElem?_eq_some_iff.1 hH).1
    (fun k _ hk => setRow_other w g k _ (fun e => hk (by rw [hat, e]))) (fun a ha => World.cell?_of_block (setRow_other w g a.block _ (h12 a ha))) (fun _ => rfl) (fun _ _ => rfl) (fun n b h => ⟨n, b, h, Nat.le_refl _, fun _ => rfl⟩)
    (fun _ h => h) (fun a ha => ⟨.inl ha, by rw [size_setRow]; exact hs.inI a ha⟩) (fun b h => .inl h) (fun hE => ⟨some (g, cap), e1, htk, h4, _, _, setRow_heap w g _ _ e _ h5, by
      have e9 : (cur.toList.take (lo0 * sz) ++ vs ++ cur.toList.drop (lo0 * sz + vs.length)).toArray.size = cur.size := by
        simp only [List.size_toArray, List.length_append, List.length_take, List.length_drop, Array.length_toList]
        omega
      rw [e9, h6], by simp only [List.length_append, List.length_take, List.length_drop]; omega, h8, hnew.mono hE, hmem, hone, fun j u hj => by
        have := hpre j u hj
        simpa using this, h12⟩)
  exact ⟨_, hst, k1, k2⟩
theorem flat_bytes0 (l : List UInt8) : (l.map byteAV).flatMap AV.cells = l.map byteAV := by
  induction l with
  | nil => rfl
  | cons b l ih => rw [List.map_cons, List.flatMap_cons, ih]; rfl
theorem reps_bytes0 (l : List UInt8) : Reps E w (l.map byteAV) (l.map fun b => Value.int .u8 b.toNat) ∧ ∀ u ∈ l.map fun b => Value.int .u8 (b.toNat : Int), u.oneCell' = true := by
  induction l with
  | nil => exact ⟨.nil, fun u hu => by cases hu⟩
  | cons b l ih => exact ⟨.cons _ _ _ _ (.imm _ rfl) ih.1, fun u hu => by
      rcases List.mem_cons.1 hu with rfl | hu
      · rfl
      · exact ih.2 u hu⟩
/-- What copy reads. -/
theorem src_run {x : AV} {y : Value} (hx : Rep E w x y) {K : Nat → List AV → Prop} (h : onSrc x K) : ∃ sz ys, K sz ys ∧ (Builtin.lenOf y).run P w = .ok ys.length w ∧ (∀ z ∈ ys, z.cells.length = sz) ∧
    ∀ n k, (sz = n ∨ ys = []) → k ≤ ys.length → ∃ us, (Builtin.firstCells n k y).run P w = .ok us.toArray w ∧ Reps E w ((ys.take k).flatMap AV.cells) us ∧ ∀ u ∈ us, u.oneCell' = true := by
  rcases onSrc_inv h with ⟨sz, ys, tok, rfl, hK⟩ | ⟨s, rfl, hK⟩
  · obtain ⟨A, cap, us, rfl, a1, a2, a3, a4, a5, a6, a7⟩ := hx.sl_inv
    refine ⟨sz, ys, hK, by simp [Builtin.lenOf], a3, fun n k hn hk => ?_⟩
    have hul : us.length = ys.length * sz := by rw [a4.length, flat_length ys a3]
    have hkn : (us.take (k * sz)).length = k * n := by
      rw [List.length_take, hul]
      rcases hn with rfl | rfl
      · exact Nat.min_eq_left (Nat.mul_le_mul_right _ hk)
      · have : k = 0 := by simpa using hk
        subst this; simp
    refine ⟨us.take (k * sz), ?_, ?_, fun u hu => a5 u (List.mem_of_mem_take hu)⟩
    · cases A with
      | none =>
        have : us = [] := by
          cases us with
          | nil => rfl
          | cons u us => obtain ⟨ad, e, _⟩ := a6 0 u rfl; cases e
        subst this
        simp [Builtin.firstCells]
      | some a =>
        have := run_loadCells_list (P := P) w a (us.take (k * sz)) (fun j v hj => by
          have hj2 : us[j]? = some v := by
            rw [List.getElem?_take] at hj
            split at hj
            · exact hj
            · cases hj
          obtain ⟨ad, e1, e2, _⟩ := a6 j v hj2
          cases e1
          exact e2)
        rw [hkn] at this
        simpa [Builtin.firstCells] using this
    · rw [flat_take ys _ a3]
      exact a4.take _
  · cases hx.imm_inv
    refine ⟨1, _, hK, ?_, fun z hz => ?_, fun n k hn hk => ⟨(s.data.toList.take k).map fun b => Value.int .u8 b.toNat, ?_, ?_, ?_⟩⟩
    · have : s.data.size = s.size := rfl
      simp [Builtin.lenOf, this]
    · obtain ⟨b, _, rfl⟩ := List.mem_map.1 hz; rfl
    · simp only [Builtin.firstCells, Sem.run_pure, ByteArray.data_extract]
      congr 1
      apply Array.ext'
      simp [List.extract_eq_take_drop]
    · rw [← List.map_take, flat_bytes0]
      exact (reps_bytes0 _).1
    · exact (reps_bytes0 (E := E) (w := w) _).2
theorem box_patch (hs : SimH G lo E H w) {id b off : Nat} {cs ys : List AV} {vs : List Value} (hH : H[id]? = some (.box cs)) (hb : E.bx id = some b) (hl : off + ys.length ≤ cs.length) (hy : Reps E w ys vs) (h1 : ∀ v ∈ vs, v.oneCell' = true) :
    ∃ w', (storeCells ⟨b, off, none⟩ vs).run P w = .ok () w' ∧ SimH G lo E (H.set id (.box (cs.take off ++ ys ++ cs.drop (off + ys.length)))) w' ∧ Evo lo E w E w' := by
  obtain ⟨b', ty, us, b1, b2, b3, b4, b5, b6, b7⟩ := hs.objs id _ hH
  rw [hb] at b1
  cases b1
  have hat : E.at id = some b := by simp [Env.at, hb]
  have hul : us.length = cs.length := b5.length
  have hvl : vs.length = ys.length := hy.length
  have hst := run_storeCells_at P b off ty vs 0 us.toArray w b4 (by simp; omega) h1
  simp only [Nat.add_zero, hvl] at hst
  have hnew : Reps E w (cs.take off ++ ys ++ cs.drop (off + ys.length)) (us.take off ++ vs ++ us.drop (off + ys.length)) := ((b5.take _).append hy).append (b5.drop _)
  have hone : ∀ u ∈ us.take off ++ vs ++ us.drop (off + ys.length), u.oneCell' = true := fun u hu => by
    simp only [List.mem_append] at hu
    rcases hu with (hu | hu) | hu
    · exact b6 u (List.mem_of_mem_take hu)
    · exact h1 u hu
    · exact b6 u (List.mem_of_mem_drop hu)
  obtain ⟨k1, k2⟩ := hs.turn (E' := E) (w' := w.setRow b (us.take off ++ vs ++ us.drop (off + ys.length)).toArray) (heap_setRow_below hs.lo_le b3) (o' := .box (cs.take off ++ ys ++ cs.drop (off + ys.length))) (List.getElem?_eq_some_iff.1 hH).1
    (fun k _ hk => setRow_other w b k _ (fun e => hk (by rw [hat, e]))) (fun a ha => World.cell?_of_block (setRow_other w b a.block _ (b7 a ha))) (fun _ => rfl) (fun _ _ => rfl) (fun n b h => ⟨n, b, h, Nat.le_refl _, fun _ => rfl⟩)
    (fun _ h => h) (fun a ha => ⟨.inl ha, by rw [size_setRow]; exact hs.inI a ha⟩) (fun b h => .inl h) (fun hE => ⟨b, ty, _, hb, b2, b3, setRow_heap w b _ _ ty _ b4, hnew.mono hE, hone, b7⟩)
  exact ⟨_, hst, k1, k2⟩
theorem copy_sound {t u ty e : TypeId} {n : Nat} (hu : P.underlying t = some (.slice e)) (hsz : szOf P e = some n) (hs : SimH G lo E H w) {d x : AV} {v y : Value} (hd : Rep E w d v) (hx : Rep E w x y)
    {K : AV → List AObj → Prop} (h : esem (.copy n) [d, x] H K) : ∃ r H' v' w' E', (Builtin.copy_ #[t, u] ty #[v, y]).run P w = .ok v' w' ∧ K r H' ∧ Rep E' w' r v' ∧ SimH G lo E' H' w' ∧ Evo lo E w E' w' := by
  obtain ⟨i, hi, hs1⟩ := szOf_some hsz
  cases d with
  | rs id ver sz lo0 m =>
    obtain ⟨sz', ys, ⟨rfl, hpos, hy, hK⟩, hlen, hel, hfc⟩ := src_run (P := P) hx (show onSrc x _ from h)
    cases hd with
    | rs _ _ _ _ _ A cap g1 g2 g0 g3 =>
      obtain ⟨us, hf, hrep, hone⟩ := hfc sz (min ys.length m) hy (Nat.min_le_left _ _)
      rcases hK with ⟨h0, hK⟩ | ⟨h0, hK⟩
      · have hus : us = [] := List.eq_nil_of_length_eq_zero (by rw [hrep.length, h0]; simp)
        subst hus
        refine ⟨_, _, .int .i64 0, w, E, ?_, hK, .imm _ rfl, hs, Evo.refl _ _ _⟩
        rw [h0] at hf
        have h0' : Nat.min ys.length m = 0 := h0
        cases A <;> simp [Builtin.copy_, run_underlying hu, sizeOf, typeInfo, hi, hs1, hlen, h0', hf, storeCells, goInt]
      · obtain ⟨e0, rsz, ver', xs, hH, rfl, rfl, hl, hK⟩ := onRow_inv hK
        obtain ⟨B, e1, e2, e3⟩ := hs.objs id _ hH
        obtain ⟨m', b, k1, k2, k3⟩ := g3
        rw [e2] at k1
        cases k1
        have k4 := k3 rfl
        cases B with
        | none => have : cap = 0 := k4.1; omega
        | some p =>
          obtain ⟨g, c⟩ := p
          obtain ⟨_, k5⟩ := k4
          cases k5 (.inl (by omega))
          have hyl : (ys.take (min ys.length m)).length = min ys.length m := by rw [List.length_take]; omega
          have hty : ys.take (min ys.length m) = ys.take m := by
            rcases Nat.le_total ys.length m with h | h
            · rw [Nat.min_eq_left h, List.take_of_length_le (Nat.le_refl _), List.take_of_length_le h]
            · rw [Nat.min_eq_right h]
          have hsz3 : ∀ z ∈ ys.take (min ys.length m), z.cells.length = rsz := fun z hz => by
            rcases hy with rfl | rfl
            · exact hel z (List.mem_of_mem_take hz)
            · simp at hz
          obtain ⟨w', q1, q2, q3⟩ := row_patch (P := P) hs (lo0 := lo0) (ys := ys.take (min ys.length m)) hH e2 (by rw [hyl]; omega) hsz3 hrep hone
          rw [hyl, hty] at q2
          refine ⟨_, _, .int .i64 (min ys.length m : Nat), w', E, ?_, hK, .imm _ rfl, q2, q3⟩
          have hmin : Nat.min ys.length m = min ys.length m := rfl
          simp only [Builtin.copy_, List.getElem?_toArray, List.getElem?_cons_zero, List.getElem?_cons_succ, Sem.run_bind, run_underlying hu, Result.andThen_ok, hlen, sizeOf, typeInfo, hi, hs1, Sem.run_pure, run_program, hmin, hf, q1, goInt]
  | bs id off m =>
    obtain ⟨sz', ys, ⟨rfl, hy, hK⟩, hlen, hel, hfc⟩ := src_run (P := P) hx (show onSrc x _ from h)
    cases hd with
    | bs _ _ _ b A cap hb g1 g2 g3 =>
      obtain ⟨us, hf, hrep, hone⟩ := hfc 1 (min ys.length m) hy (Nat.min_le_left _ _)
      rcases hK with ⟨h0, hK⟩ | ⟨h0, hK⟩
      · have hus : us = [] := List.eq_nil_of_length_eq_zero (by rw [hrep.length, h0]; simp)
        subst hus
        refine ⟨_, _, .int .i64 0, w, E, ?_, hK, .imm _ rfl, hs, Evo.refl _ _ _⟩
        rw [h0] at hf
        have h0' : Nat.min ys.length m = 0 := h0
        cases A <;> simp [Builtin.copy_, run_underlying hu, sizeOf, typeInfo, hi, hs1, hlen, h0', hf, storeCells, goInt]
      · split at hK
        · rename_i cs hH
          obtain ⟨hl, hK⟩ := hK
          obtain rfl := g3 (by omega)
          have hty : ys.take (min ys.length m) = ys.take m := by
            rcases Nat.le_total ys.length m with h | h
            · rw [Nat.min_eq_left h, List.take_of_length_le (Nat.le_refl _), List.take_of_length_le h]
            · rw [Nat.min_eq_right h]
          have hel1 : ∀ z ∈ ys.take (min ys.length m), z.cells.length = 1 := fun z hz => by
            rcases hy with rfl | rfl
            · exact hel z (List.mem_of_mem_take hz)
            · simp at hz
          have hfl : ((ys.take (min ys.length m)).flatMap AV.cells).length = min ys.length m := by
            rw [flat_length _ hel1, List.length_take]; omega
          obtain ⟨w', q1, q2, q3⟩ := box_patch (P := P) (off := off) (ys := (ys.take (min ys.length m)).flatMap AV.cells) hs hH hb (by rw [hfl]; omega) hrep hone
          rw [hfl, hty] at q2
          refine ⟨_, _, .int .i64 (min ys.length m : Nat), w', E, ?_, hK, .imm _ rfl, q2, q3⟩
          have hmin : Nat.min ys.length m = min ys.length m := rfl
          simp only [Builtin.copy_, List.getElem?_toArray, List.getElem?_cons_zero, List.getElem?_cons_succ, Sem.run_bind, run_underlying hu, Result.andThen_ok, hlen, sizeOf, typeInfo, hi, hs1, Sem.run_pure, run_program, hmin, hf, q1, goInt]
        · exact hK.elim
  | _ => exact (show False from h).elim
theorem clear_sound {t ty e : TypeId} {i : TypeInfo} {z : Value} (hu : P.underlying t = some (.slice e)) (hi : P.info? e = some i) (hz : i.zero = some z) (hzo : constOk z = true)
    (hs : SimH G lo E H w) {x : AV} {v : Value} (hx : Rep E w x v) {K : AV → List AObj → Prop} (h : esem (.clear (constAV z)) [x] H K) :
    ∃ r H' v' w' E', (Builtin.clear_ #[t] ty #[v]).run P w = .ok v' w' ∧ K r H' ∧ Rep E' w' r v' ∧ SimH G lo E' H' w' ∧ Evo lo E w E' w' := by
  obtain ⟨id, ver, sz, lo0, n, rfl, h'⟩ := onRs_inv (show onRs x _ from h)
  obtain ⟨hzv, hsz, hpos, h⟩ := h'
  cases hx with
  | rs _ _ _ _ _ A cap g1 g2 g0 g3 =>
    rcases h with ⟨rfl, hK⟩ | ⟨hl, h⟩
    · refine ⟨.junk, H, .tuple #[], w, E, ?_, hK, .junk _, hs, Evo.refl _ _ _⟩
      cases A <;> simp [Builtin.clear_, run_underlying hu]
    · obtain ⟨e0, sz', ver', xs, hH, rfl, rfl, h3, hK⟩ := onRow_inv h
      obtain ⟨B, e1, e2, e3⟩ := hs.objs id _ hH
      obtain ⟨m, b, k1, k2, k3⟩ := g3
      rw [e2] at k1
      cases k1
      have k4 := k3 rfl
      cases B with
      | none => have : cap = 0 := k4.1; omega
      | some p =>
        obtain ⟨g, c⟩ := p
        obtain ⟨_, k5⟩ := k4
        cases k5 (.inl (by omega))
        obtain ⟨r1, r2⟩ := zeros_rep (E := E) (w := w) hzo n
        have hfl : (List.replicate n (constAV z)).flatMap AV.cells = (List.replicate n (constAV z).cells).flatten := by
          rw [List.flatMap_def, List.map_replicate]
        obtain ⟨w', q1, q2, q3⟩ := row_patch (P := P) hs (lo0 := lo0) (ys := List.replicate n (constAV z)) hH e2 (by rw [List.length_replicate]; exact h3) (fun y hy => by rw [List.eq_of_mem_replicate hy, hsz]) (by rw [hfl]; exact r1) r2
        rw [List.length_replicate] at q2
        refine ⟨_, _, .tuple #[], w', E, ?_, hK, .junk _, q2, q3⟩
        have hzc := zeroCells_list z.cells n
        have hne : n ≠ 0 := by omega
        simp only [Builtin.clear_, List.getElem?_toArray, List.getElem?_cons_zero, Sem.run_bind, run_underlying hu, Result.andThen_ok, zeroValue, typeInfo, hi, hz, Sem.run_pure, run_program, hzc, q1]
theorem freeze_heap {g s : Nat} {cur : Array Value} {e : TypeId} (hg : w.heap[g]? = some (.cells cur e (0, 0))) (k : Nat) :
    (w.freeze ⟨g, s, none⟩ 1).heap[k]? = if k = g then some (.cells cur e (s, s + 1)) else w.heap[k]? := by
  unfold World.freeze
  rw [if_neg (by decide)]
  simp only [Array.getElem?_modify]
  by_cases h : k = g
  · subst h; rw [if_pos rfl, if_pos rfl, hg]; rfl
  · rw [if_neg (Ne.symm h), if_neg h]
theorem freeze_cell {g s : Nat} {cur : Array Value} {e : TypeId} (hg : w.heap[g]? = some (.cells cur e (0, 0))) (a : Addr) : (w.freeze ⟨g, s, none⟩ 1).cell? a = w.cell? a := by
  unfold World.cell?
  rw [freeze_heap hg]
  by_cases h : a.block = g
  · rw [if_pos h, h, hg]
  · rw [if_neg h]
/-- A literal of bytes, marked as one that came of a text. -/
theorem mark_sound (hs : SimH G lo E H w) {t e : TypeId} (hu : P.underlying t = some (.slice e)) (he : P.underlying e = some (.int .u8)) {k n tsz sz : Nat} {te : TypeId} {xs : List AV} {v : Value}
    (hH : H[k]? = some (.tok te tsz n)) (hn : n = xs.length) (h0 : 0 < n) (hx : Rep E w (.sl sz xs (some k)) v) :
    ∃ w', (convert t t v).run P w = .ok v w' ∧ Rep E w' (.sl sz xs none) v ∧ SimH G lo E (H.set k .dead) w' ∧ Evo lo E w E w' := by
  subst hn
  obtain ⟨B, e1, e2, e3⟩ := hs.objs k _ hH
  cases hx with
  | sl _ _ _ A cap us h1 h2 h3 h4 h5 h6 h7 =>
    obtain ⟨m, b, q1, q2, q3⟩ := h7
    rw [e2] at q1
    cases q1
    have q4 := q3 rfl
    cases B with
    | none => exact absurd (show xs.length = 0 from e3) (by omega)
    | some p =>
      obtain ⟨g, c⟩ := p
      obtain ⟨rfl, rfl⟩ := q4
      obtain ⟨f1, cur, f2, f3, f4, f5, f6⟩ := e3
      have hsh : w.shape? g = some (te, cur.size) := by unfold World.shape?; rw [f2]
      have hkl : k < H.length := (List.getElem?_eq_some_iff.1 hH).1
      have hat : E.at k = some g := by simp [Env.at, e1, e2]
      have hgs : g < w.heap.size := heap_lt f2
      have hsize : (w.freeze ⟨g, cur.size, none⟩ 1).heap.size = w.heap.size := by unfold World.freeze; rw [if_neg (by decide)]; simp
      have hbel : Below lo w (w.freeze ⟨g, cur.size, none⟩ 1) := ⟨by unfold World.freeze; rw [if_neg (by decide)], by unfold World.freeze; rw [if_neg (by decide)], by unfold World.freeze; rw [if_neg (by decide)], by rw [hsize]; exact Nat.le_refl _, fun i hi => by rw [freeze_heap f2, if_neg (by omega)]⟩
      obtain ⟨k1, k2⟩ := hs.turn (E' := E) (w' := w.freeze ⟨g, cur.size, none⟩ 1) (o' := .dead) hbel hkl (fun q hq hne => by rw [freeze_heap f2, if_neg (fun e => hne (by rw [hat, e]))])
        (fun a ha => freeze_cell f2 a) (fun _ => rfl) (fun _ _ => rfl) (fun n b h => ⟨n, b, h, Nat.le_refl _, fun _ => rfl⟩) (fun _ h => h) (fun a ha => ⟨.inl ha, by rw [hsize]; exact hs.inI a ha⟩) (fun b h => .inl h)
        (fun hE => ⟨_, _, e1, e2, fun g' c' h => by cases h; exact ⟨f1, by rw [hsize]; exact hgs⟩⟩)
      refine ⟨_, ?_, ?_, k1, k2⟩
      · simp [convert, run_underlying hu, run_underlying he, markStringish, hsh]
      · exact (Rep.sl sz xs none (some ⟨g, 0, none⟩) cap us h1 h2 h3 h4 h5 h6 trivial).mono k2
theorem e_sound {own : Bool} {slot : Nat} {o : Oper} {q : EOp} {xs : List Operand} (hc : compOp P own o slot = some (.e q, xs)) (hs : SimH G lo E H w) {ρ : Operand → Value} {avs : List AV} (ha : Reps E w avs (xs.map ρ))
    {K : AV → List AObj → Prop} (h : esem q avs H K) : ∃ r H' nx v w' E', (execOp ρ o).run P w = .ok nx w' ∧ (nx = .value v ∨ nx = .skip ∧ v = undef) ∧ K r H' ∧ Rep E' w' r v ∧ SimH G lo E' H' w' ∧ Evo lo E w E' w' := by
  obtain ⟨dst, op, type, pos, after, guard⟩ := o
  cases op with
  | load t x =>
    simp only [compOp] at hc
    split at hc
    · split at hc <;> simp at hc
    · cases hc
  | move => simp [compOp] at hc
  | assign x =>
    simp only [compOp] at hc
    split at hc
    · simp only [Option.bind_eq_some_iff] at hc
      obtain ⟨n, _, hc⟩ := hc
      split at hc <;> simp at hc
    · simp at hc
  | mapEntry t x k =>
    simp only [compOp, Option.map_eq_some_iff, Prod.mk.injEq, Cls.e.injEq] at hc
    obtain ⟨⟨ks, zv⟩, hi, rfl, rfl⟩ := hc
    obtain ⟨m', k', rfl, hm, hk⟩ := reps_2 ha
    obtain ⟨id, rfl, h'⟩ := onMp_inv (show onMp m' _ from h)
    obtain ⟨ks', zv', es, hH, rfl, rfl, h''⟩ := onMap_inv h'
    obtain ⟨kv, hkv, hK⟩ := onSome_inv h''
    obtain ⟨e1, e2⟩ := keyVal_rep hkv hk
    obtain ⟨v, w', hr, h1, h2, h3⟩ := entry_run hs hi hH hm e2
    exact ⟨_, _, .value v, v, w', E, by simp [execOp, e1, hr], .inl rfl, hK, h1, h2, h3⟩
  | entryStore t x s y =>
    simp only [compOp, Option.map_eq_some_iff, Prod.mk.injEq, Cls.e.injEq] at hc
    obtain ⟨⟨ks, zv⟩, hi, rfl, rfl⟩ := hc
    obtain ⟨m', vs1, rfl, hm, ha⟩ := reps_c ha
    obtain ⟨s', vs2, rfl, hs', ha⟩ := reps_c ha
    obtain ⟨y', rfl, hy⟩ := reps_1 ha
    obtain ⟨id, rfl, h'⟩ := onMp_inv (show onMp m' _ from h)
    obtain ⟨k, n, rfl, h'⟩ := onInt_inv h'
    obtain ⟨ks', zv', es, hH, rfl, rfl, hv, h0, h''⟩ := onMap_inv h'
    obtain ⟨p, hp, hK⟩ := onSome_inv h''
    obtain ⟨w', hr, h2, h3⟩ := mstore_run (P := P) (t := t) hs hH hm (k := k) h0 hp hy hv
    exact ⟨_, _, _, undef, w', E, by simp [execOp, hs'.imm_inv, hr], .inr ⟨rfl, rfl⟩, hK, .junk _, h2, h3⟩
  | mapUpdate t x k y =>
    simp only [compOp, Option.map_eq_some_iff, Prod.mk.injEq, Cls.e.injEq] at hc
    obtain ⟨⟨ks, zv⟩, hi, rfl, rfl⟩ := hc
    obtain ⟨m', vs1, rfl, hm, ha⟩ := reps_c ha
    obtain ⟨k', vs2, rfl, hk, ha⟩ := reps_c ha
    obtain ⟨y', rfl, hy⟩ := reps_1 ha
    obtain ⟨id, rfl, h'⟩ := onMp_inv (show onMp m' _ from h)
    obtain ⟨ks', zv', es, hH, rfl, rfl, hv, h''⟩ := onMap_inv h'
    obtain ⟨kv, hkv, hK⟩ := onSome_inv h''
    obtain ⟨e1, e2⟩ := keyVal_rep hkv hk
    obtain ⟨w', hr, h2, h3⟩ := mupd_run hs hi hH hm e2 hy hv
    exact ⟨_, _, _, undef, w', E, by simp [execOp, e1, hr], .inr ⟨rfl, rfl⟩, hK, .junk _, h2, h3⟩
  | lookup => simp [compOp, Option.map_eq_some_iff] at hc
  | makeMap t r => cases r <;> simp [compOp, Option.map_eq_some_iff] at hc
  | pick => simp [compOp] at hc
  | alloc e =>
    simp only [compOp, Option.bind_eq_some_iff] at hc
    obtain ⟨i, _, z, _, hc⟩ := hc
    split at hc <;> simp at hc
  | box => simp [compOp] at hc
  | build t parts =>
    simp only [compOp] at hc
    split at hc
    · simp only [Option.bind_eq_some_iff] at hc
      obtain ⟨_, _, _, _, _, _, _, _, hc⟩ := hc
      split at hc <;> simp at hc
    · simp only [Option.bind_eq_some_iff] at hc
      obtain ⟨_, _, _, _, _, _, hc⟩ := hc
      split at hc <;> simp at hc
    · cases hc
  | buildSlice t len parts =>
    simp only [compOp] at hc
    split at hc
    · simp only [Option.bind_eq_some_iff] at hc
      obtain ⟨_, _, _, _, hc⟩ := hc
      split at hc
      · split at hc <;> simp at hc
      · cases hc
    · cases hc
  | store t a x =>
    simp only [compOp, Option.map_eq_some_iff, Prod.mk.injEq, Cls.e.injEq] at hc
    obtain ⟨n, hsz, rfl, rfl⟩ := hc
    obtain ⟨p, x', rfl, hp, hx⟩ := reps_2 ha
    have hcase : (∃ id ver size i, p = .rp id ver size i ∧ x'.isVal = true ∧ x'.cells.length = n ∧ onRow H[id]? fun e sz' ver' xs => sz' = size ∧ size = n ∧ ver' = ver ∧ i < xs.length ∧ K .junk (H.set id (.row e size ver (xs.set i x')))) ∨
        onPtr p fun id off => x'.isVal = true ∧ x'.cells.length = n ∧ (match H[id]? with
          | some (.box cs) => off + n ≤ cs.length ∧ K .junk (H.set id (.box (cs.take off ++ x'.cells ++ cs.drop (off + n))))
          | _ => False) := by
      cases p with
      | rp id ver size i => exact .inl ⟨_, _, _, _, rfl, h⟩
      | _ => exact .inr h
    rcases hcase with ⟨id, ver, size, i0, rfl, h1, h2, h⟩ | h
    · obtain ⟨e0, sz', ver', xs, hH, rfl, rfl, rfl, h3, hK⟩ := onRow_inv h
      obtain ⟨i, hi, hin⟩ := szOf_some hsz
      obtain ⟨B, e1, e2, e3⟩ := hs.objs id _ hH
      generalize hpv : ρ a = pv at hp
      cases hp with
      | rp _ _ _ _ A k =>
        obtain ⟨m, b, k1, k2, k3⟩ := k
        rw [e2] at k1
        cases k1
        have k4 := k3 rfl
        cases B with
        | none => exact k4.elim
        | some q =>
          obtain ⟨g, c⟩ := q
          obtain rfl : A = ⟨g, i0 * sz', none⟩ := k4
          obtain ⟨r1, r2⟩ := hx.cells h1
          obtain ⟨w', q1, q2, q3⟩ := row_patch (P := P) hs (lo0 := i0) (ys := [x']) hH e2 (by simp only [List.length_singleton]; omega) (fun y hy => by rw [List.mem_singleton.1 hy, h2]) (by simpa using r1) r2
          have hset : xs.take i0 ++ [x'] ++ xs.drop (i0 + [x'].length) = xs.set i0 x' := by
            rw [List.set_eq_take_append_cons_drop, if_pos h3]; simp
          rw [hset] at q2
          refine ⟨_, _, _, undef, w', E, ?_, .inr ⟨rfl, rfl⟩, hK, .junk _, q2, q3⟩
          have hcl : (ρ x).cells.toList.length = sz' := by rw [r1.length, h2]
          simp only [execOp, Sem.run_bind, hpv, Instr.storeAt, Instr.sureAddr, Sem.run_pure, Result.andThen_ok, storeVar, sizeOf, typeInfo, run_program, hi]
          rw [if_neg (by simp at hcl; simp [hcl, hin])]
          rw [q1]
          rfl
    obtain ⟨id, off, rfl, h⟩ := onPtr_inv h
    obtain ⟨h1, h2, h⟩ := h
    split at h
    · rename_i cs hH
      obtain ⟨h3, hK⟩ := h
      obtain ⟨i, hi, rfl⟩ := szOf_some hsz
      obtain ⟨b, ty, us, b1, b2, b3, b4, b5, b6, b7⟩ := hs.objs id _ hH
      have hat : E.at id = some b := by simp [Env.at, b1]
      generalize hpv : ρ a = pv at hp
      cases hp with
      | ptr _ _ b' hb' =>
        rw [b1] at hb'
        cases hb'
        obtain ⟨r1, r2⟩ := hx.cells h1
        have hl : (ρ x).cells.toList.length = i.size := by rw [r1.length, h2]
        have hul : us.length = cs.length := b5.length
        have hst := run_storeCells_at P b off ty (ρ x).cells.toList 0 us.toArray w b4 (by simp at hl ⊢; omega) r2
        simp only [Nat.add_zero, hl] at hst
        have hnew : Reps E w (cs.take off ++ x'.cells ++ cs.drop (off + i.size)) (us.take off ++ (ρ x).cells.toList ++ us.drop (off + i.size)) := ((b5.take _).append r1).append (b5.drop _)
        have hone : ∀ u ∈ us.take off ++ (ρ x).cells.toList ++ us.drop (off + i.size), u.oneCell' = true := fun u hu => by
          simp only [List.mem_append] at hu
          rcases hu with (hu | hu) | hu
          · exact b6 u (List.mem_of_mem_take hu)
          · exact r2 u hu
          · exact b6 u (List.mem_of_mem_drop hu)
        obtain ⟨k1, k2⟩ := hs.turn (E' := E) (w' := w.setRow b (us.take off ++ (ρ x).cells.toList ++ us.drop (off + i.size)).toArray) (heap_setRow_below hs.lo_le b3) (o' := .box (cs.take off ++ x'.cells ++ cs.drop (off + i.size))) (List.getElem?_eq_some_iff.1 hH).1
          (fun k _ hk => setRow_other w b k _ (fun e => hk (by rw [hat, e]))) (fun a ha => World.cell?_of_block (setRow_other w b a.block _ (b7 a ha))) (fun _ => rfl) (fun _ _ => rfl) (fun n b h => ⟨n, b, h, Nat.le_refl _, fun _ => rfl⟩)
          (fun _ h => h) (fun a ha => ⟨.inl ha, by rw [size_setRow]; exact hs.inI a ha⟩) (fun b h => .inl h) (fun hE => ⟨b, ty, _, b1, b2, b3, setRow_heap w b _ _ ty _ b4, hnew.mono hE, hone, b7⟩)
        refine ⟨_, _, _, undef, _, E, ?_, .inr ⟨rfl, rfl⟩, hK, .junk _, k1, k2⟩
        simp only [execOp, Sem.run_bind, hpv, Instr.storeAt, Instr.sureAddr, Sem.run_pure, Result.andThen_ok, storeVar, sizeOf, typeInfo, run_program, hi]
        rw [if_neg (by simp at hl; simp [hl])]
        rw [hst]
        rfl
    · exact h.elim
  | nilCheck => simp [compOp] at hc
  | binOp op t x y yt =>
    simp only [compOp] at hc
    split at hc
    · split at hc <;> simp at hc
    · split at hc <;> simp at hc
    · simp at hc
  | unOp => simp [compOp] at hc
  | convert src dst x =>
    simp only [compOp] at hc
    split at hc
    · simp at hc
    · split at hc <;> simp at hc
    · simp at hc
    · simp at hc
    · split at hc <;> simp at hc
    · rename_i e0 e1 e2 e3
      split at hc
      · rename_i hu8
        simp only [Option.some.injEq, Prod.mk.injEq, Cls.e.injEq] at hc
        obtain ⟨rfl, rfl⟩ := hc
        obtain ⟨rfl, hu8⟩ := hu8
        obtain ⟨x', rfl, hx⟩ := reps_1 ha
        obtain ⟨sz, xs, tok, rfl, h'⟩ := onSl_inv (show onSl x' _ from h)
        obtain ⟨k, rfl, h''⟩ := onSome_inv h'
        obtain ⟨e', tsz, n, hH, h1, h2, hK⟩ := onTok_inv h''
        obtain ⟨w', hr, k1, k2, k3⟩ := mark_sound (P := P) hs e3 (isU8_spec hu8) hH h1 h2 hx
        exact ⟨_, _, .value _, _, w', E, by simp [execOp, hr], .inl rfl, hK, k1, k2, k3⟩
      · cases hc
    · simp at hc
  | sliceToArrayPointer => simp only [compOp] at hc; split at hc <;> simp at hc
  | makeInterface => simp only [compOp] at hc; split at hc <;> simp at hc
  | makeFunc => simp [compOp] at hc
  | fieldAddr =>
    simp only [compOp] at hc
    split at hc
    · simp only [Option.bind_eq_some_iff] at hc
      obtain ⟨_, _, _, _, hc⟩ := hc
      split at hc <;> simp at hc
    · cases hc
  | field =>
    simp only [compOp] at hc
    split at hc
    · simp only [Option.bind_eq_some_iff, Option.map_eq_some_iff] at hc
      obtain ⟨_, _, _, _, _, _, hc⟩ := hc
      split at hc <;> simp at hc
    · cases hc
  | indexAddr =>
    simp only [compOp] at hc
    split at hc
    · simp only [Option.bind_eq_some_iff] at hc
      obtain ⟨_, _, hc⟩ := hc
      split at hc <;> simp at hc
    · simp [Option.map_eq_some_iff] at hc
    · cases hc
  | index =>
    simp only [compOp] at hc
    split at hc
    · simp at hc
    · simp only [Option.bind_eq_some_iff] at hc
      obtain ⟨_, _, _, _, hc⟩ := hc
      split at hc
      · simp at hc
      · split at hc <;> simp at hc
    · cases hc
  | slice t x l0 h0 mx =>
    simp only [compOp] at hc
    split at hc
    · split at hc <;> simp at hc
    · simp [Option.map_eq_some_iff] at hc
    · rename_i len e hu
      split at hc
      · cases hc
      · rename_i hm
        split at hc
        · rename_i hsz
          obtain ⟨hsz, hlen⟩ := hsz
          split at hc
          · simp at hc
          simp only [Option.some.injEq, Prod.mk.injEq, Cls.e.injEq] at hc
          obtain ⟨rfl, rfl⟩ := hc
          have hm' : mx = none := by cases mx <;> simp_all
          subst hm'
          obtain ⟨i, hi, hs1⟩ := szOf_some hsz
          simp only [List.map_cons, List.map_append, optList_map] at ha
          obtain ⟨x', bs, rfl, hx, hb⟩ := reps_c ha
          obtain ⟨id, off, rfl, h'⟩ := onPtr_inv (show onPtr x' _ from h)
          obtain ⟨cs, hH, h3, h4⟩ := onBox_inv h'
          rw [show l0.isSome = (l0.map ρ).isSome by cases l0 <;> rfl, show h0.isSome = (h0.map ρ).isSome by cases h0 <;> rfl] at h4
          obtain ⟨l, u, hK, hlu, hun, hr⟩ := bounds_run (P := P) h4 hb
          have hr2 := hr false len (Nat.le_refl _)
          generalize hpv : ρ x = pv at hx
          cases hx with
          | ptr _ _ b hb' =>
            have key : ∀ ty us, H[id]?.isSome → E.tk id = none → lo ≤ b → w.heap[b]? = some (.cells (List.toArray us) ty (0, 0)) → Reps E w cs us → (∀ u ∈ us, u.oneCell' = true) →
                ∃ r H' nx v w' E', (execOp ρ ⟨dst, .slice t x l0 h0 none, type, pos, after, guard⟩).run P w = .ok nx w' ∧ (nx = .value v ∨ nx = .skip ∧ v = undef) ∧ K r H' ∧ Rep E' w' r v ∧ SimH G lo E' H' w' ∧ Evo lo E w E' w' := by
              intro ty us hsm b2 b3 b4 b5 b6
              have hid : id < H.length := by
                rcases Nat.lt_or_ge id H.length with h | h
                · exact h
                · rw [List.getElem?_eq_none h] at hsm; simp at hsm
              have hat : E.at id = some b := by simp [Env.at, hb']
              have hul : us.length = cs.length := b5.length
              obtain ⟨k1, k2⟩ := hs.turn (E' := E.more fun a => ∃ j, j < us.length ∧ a = ⟨b, j, none⟩) (w' := w) (Below.refl _ _) (o' := .fbox cs) hid (fun _ _ _ => rfl) (fun _ _ => rfl) (fun _ => rfl) (fun _ _ => rfl)
                (fun n b h => ⟨n, b, h, Nat.le_refl _, fun _ => rfl⟩) (fun _ h => .inl h) (fun a ha => by
                  rcases ha with ha | ⟨j, hj, rfl⟩
                  · exact ⟨.inl ha, hs.inI a ha⟩
                  · exact ⟨.inr (.inl hat), heap_lt b4⟩) (fun b h => .inl h) (fun hE => ⟨b, ty, us, hb', b2, b3, b4, b5.mono hE, b6, fun j hj => .inr ⟨j, hj, rfl⟩⟩)
              refine ⟨_, _, _, .slice (some (if len = l then ⟨b, off, none⟩ else Addr.add ⟨b, off, none⟩ (l * 1))) (u - l) (len - l), w, _, ?_, .inl rfl, hK, ?_, k1, k2⟩
              · simp [execOp, hpv, Instr.sliceAt, run_underlying hu, Instr.sureAddr, hr2, sizeOf, typeInfo, hi, hs1]
              · have hcl : (((cs.drop off).take u).drop l).length = u - l := by rw [List.length_drop, List.length_take, List.length_drop]; omega
                have hone : ∀ c ∈ cs, c.cells.length = 1 := by
                  intro c hc
                  obtain ⟨j, hj, rfl⟩ := List.mem_iff_getElem.1 hc
                  obtain ⟨v, hv, hrep⟩ := b5.get j _ (List.getElem?_eq_getElem hj)
                  have h1 := b6 v (List.mem_of_getElem? hv)
                  generalize cs[j] = c at hrep
                  cases hrep <;> first | rfl | (simp [Value.oneCell'] at h1)
                have hcells : ∀ l : List AV, (∀ c ∈ l, c ∈ cs) → l.flatMap AV.cells = l := by
                  intro l
                  induction l with
                  | nil => intro _; rfl
                  | cons c l ih =>
                    intro h
                    have h1 := h c (by simp)
                    obtain ⟨j, hj, rfl⟩ := List.mem_iff_getElem.1 h1
                    obtain ⟨v, hv, hrep⟩ := b5.get j _ (List.getElem?_eq_getElem hj)
                    have h2 := b6 v (List.mem_of_getElem? hv)
                    rw [List.flatMap_cons, ih (fun d hd => h d (by simp [hd]))]
                    generalize cs[j] = c at hrep
                    cases hrep <;> first | rfl | (simp [Value.oneCell'] at h2)
                have hmem : ∀ c ∈ ((cs.drop off).take u).drop l, c ∈ cs := fun c hc => List.mem_of_mem_drop (List.mem_of_mem_take (List.mem_of_mem_drop hc))
                have h9 := Rep.sl (E := E.more fun a => ∃ j, j < us.length ∧ a = ⟨b, j, none⟩) (w := w) 1 (((cs.drop off).take u).drop l) none (some (if len = l then ⟨b, off, none⟩ else Addr.add ⟨b, off, none⟩ (l * 1))) (len - l) (((us.drop off).take u).drop l)
                  (by rw [hcl]; omega) (by unfold maxLen; omega) (fun c hc => hone c (hmem c hc)) (by rw [hcells _ hmem]; exact (((b5.drop _).take _).drop _).mono k2) (fun v hv => b6 v (List.mem_of_mem_drop (List.mem_of_mem_take (List.mem_of_mem_drop hv)))) (fun j v hv => by
                    rw [List.getElem?_drop] at hv
                    have hj : l + j < u := by
                      rcases Nat.lt_or_ge (l + j) u with h | h
                      · exact h
                      · rw [List.getElem?_eq_none (by rw [List.length_take]; omega)] at hv; cases hv
                    rw [List.getElem?_take_of_lt hj, List.getElem?_drop] at hv
                    rw [if_neg (by omega)]
                    refine ⟨_, rfl, ?_, .inr ⟨off + (l + j), (List.getElem?_eq_some_iff.1 hv).1, ?_⟩⟩
                    · rw [Addr.add_lit, Addr.add_lit, cell_of_row _ _ _ _ _ _ b4]
                      simp only [Nat.mul_one, Nat.add_assoc]
                      simpa using hv
                    · rw [Addr.add_lit, Addr.add_lit]; simp [Nat.add_assoc]) trivial
                rw [hcl] at h9
                exact h9
            rcases hH with hH | hH
            · obtain ⟨b', ty, us, e1, e2, e3, e4, e5, e6, e7⟩ := hs.objs id _ hH
              rw [hb'] at e1
              cases e1
              exact key ty us (by rw [hH]; rfl) e2 e3 e4 e5 e6
            · obtain ⟨b', ty, us, e1, e2, e3, e4, e5, e6, e7⟩ := hs.objs id _ hH
              rw [hb'] at e1
              cases e1
              exact key ty us (by rw [hH]; rfl) e2 e3 e4 e5 e6
        · cases hc
    · cases hc
  | makeSlice t l c =>
    simp only [compOp] at hc
    split at hc
    · simp only [Option.bind_eq_some_iff] at hc
      obtain ⟨_, _, _, _, hc⟩ := hc
      split at hc
      · split at hc <;> simp at hc
      · cases hc
    · cases hc
  | extract => simp [compOp] at hc
  | call c =>
    obtain ⟨callee, args, argTypes⟩ := c
    simp only [compOp] at hc
    split at hc
    · simp at hc
    · split at hc
      · split at hc
        · simp at hc
        · simp at hc
        · simp at hc
        · simp at hc
        · split at hc <;> simp at hc
        · cases hc
      · cases hc
    · split at hc
      · rename_i t u s x e1 e2
        obtain ⟨args⟩ := args
        obtain ⟨argTypes⟩ := argTypes
        simp only at e1 e2
        subst e1 e2
        split at hc
        · rename_i e e' hu hu'
          simp only [Option.bind_eq_some_iff] at hc
          obtain ⟨i, hi, z, hz, hc⟩ := hc
          split at hc
          · rename_i hzs
            simp only [Option.some.injEq, Prod.mk.injEq, Cls.e.injEq] at hc
            obtain ⟨rfl, rfl⟩ := hc
            obtain ⟨s', x', rfl, hsr, hxr⟩ := reps_2 ha
            obtain ⟨r, H', v, w', E', hr, hK, h1, h2, h3⟩ := append_sound (ty := type) hu hu' hi hz hzs hs hsr hxr h
            exact ⟨r, H', .value v, v, w', E', by simp [execOp, resolve, invoke, builtin, hr], .inl rfl, hK, h1, h2, h3⟩
          · cases hc
        · cases hc
      · cases hc
    · split at hc
      · rename_i t u d s e1 e2
        obtain ⟨args⟩ := args
        obtain ⟨argTypes⟩ := argTypes
        simp only at e1 e2
        subst e1 e2
        split at hc
        · rename_i e hu
          simp only [Option.map_eq_some_iff, Prod.mk.injEq, Cls.e.injEq] at hc
          obtain ⟨n, hsz, rfl, rfl⟩ := hc
          obtain ⟨d', x', rfl, hd, hx⟩ := reps_2 ha
          obtain ⟨r, H', v, w', E', hr, hK, h1, h2, h3⟩ := copy_sound (u := u) (ty := type) hu hsz hs hd hx h
          exact ⟨r, H', .value v, v, w', E', by simp [execOp, resolve, invoke, builtin, hr], .inl rfl, hK, h1, h2, h3⟩
        · cases hc
      · cases hc
    · split at hc
      · rename_i t x e1 e2
        obtain ⟨args⟩ := args
        obtain ⟨argTypes⟩ := argTypes
        simp only at e1 e2
        subst e1 e2
        split at hc
        · rename_i e hu
          simp only [Option.bind_eq_some_iff] at hc
          obtain ⟨i, hi, z, hz, hc⟩ := hc
          split at hc
          · rename_i hzo
            simp only [Option.some.injEq, Prod.mk.injEq, Cls.e.injEq] at hc
            obtain ⟨rfl, rfl⟩ := hc
            obtain ⟨x', rfl, hx⟩ := reps_1 ha
            obtain ⟨r, H', v, w', E', hr, hK, h1, h2, h3⟩ := clear_sound (ty := type) hu hi hz hzo hs hx h
            exact ⟨r, H', .value v, v, w', E', by simp [execOp, resolve, invoke, builtin, hr], .inl rfl, hK, h1, h2, h3⟩
          · cases hc
        · cases hc
      · cases hc
    · split at hc <;> simp at hc
    · split at hc <;> simp at hc
    · split at hc <;> simp at hc
    · split at hc <;> simp at hc
    · cases hc
  | _ => simp [compOp] at hc
end
end Go.AL
