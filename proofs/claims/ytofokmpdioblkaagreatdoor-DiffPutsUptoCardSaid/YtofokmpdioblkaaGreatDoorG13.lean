/- An element put into a row. -/
import Derived.Test.YtofokmpdioblkaaGreatDoorG12
import Derived.Laws.IdiomCopy
set_option linter.unusedSimpArgs false
set_option linter.unusedVariables false
namespace Go.AL
open Go Go.RowKit

/-- What is asked of the contract of slices.Insert of one element, at a type. -/
structure InsertsAt (P : Program) (f : FuncId) (t e : TypeId) (size bytes : Nat) : Prop where
  shift : ∀ (b n c i vb vc : Nat) (cs vs : List Value) (w : World), i < n → n + 1 ≤ c → c ≤ 9223372036854775807 → vb ≠ b → cs.length = n * size → vs.length = size →
    (∀ j v, cs[j]? = some v → w.cell? ⟨b, j, none⟩ = some v) → (∀ j, j < (n + 1) * size → (w.cell? ⟨b, j, none⟩).isSome = true) → (∀ j, j < (n + 1) * size → w.frozen? ⟨b, j, none⟩ = false) →
    (∀ j v, vs[j]? = some v → w.cell? ⟨vb, j, none⟩ = some v) → (∀ v ∈ cs, v.oneCell' = true) → (∀ v ∈ vs, v.oneCell' = true) →
    ∀ (tA tB : TypeId) (kA kB : Nat), w.shape? vb = some (tA, kA) → w.shape? b = some (tB, kB) → kB ≠ 0 → w.frozen? ⟨vb, 0, none⟩ = false → w.frozen? ⟨vb, kA, none⟩ = false →
    Calls P f #[.slice (some ⟨b, 0, none⟩) n c, .int .i64 i, .slice (some ⟨vb, 0, none⟩) 1 vc] w fun x w' =>
      x = .returned (.slice (some ⟨b, 0, none⟩) (n + 1) c) ∧ w' = (w.drew.setCells b ((i + 1) * size) (cs.drop (i * size))).setCells b (i * size) vs
  atEnd : ∀ (A : Option Addr) (n cap vc : Nat) (a : Addr) (v' : Value) (w w' : World), n ≤ cap → cap ≤ 9223372036854775807 → (∀ ty, (Builtin.append_ #[t, t] ty #[.slice A n cap, .slice (some a) 1 vc]).run P w = .ok v' w') →
    Calls P f #[.slice A n cap, .int .i64 n, .slice (some a) 1 vc] w fun x w'' => x = .returned v' ∧ w'' = w'
  grow : ∀ (b n c i vb vc : Nat) (cs vs : List Value) (w : World), i < n → n ≤ c → c < n + 1 → (n + 1) * bytes ≤ 140737488355328 → cs.length = n * size → vs.length = size →
    (∀ j v, cs[j]? = some v → w.cell? ⟨b, j, none⟩ = some v) → (∀ j v, vs[j]? = some v → w.cell? ⟨vb, j, none⟩ = some v) → (∀ v ∈ cs, v.oneCell' = true) → (∀ v ∈ vs, v.oneCell' = true) →
    ∃ z : Value, z.cells.size = size ∧ Calls P f #[.slice (some ⟨b, 0, none⟩) n c, .int .i64 i, .slice (some ⟨vb, 0, none⟩) 1 vc] w fun x w' =>
      x = .returned (.slice (some ⟨w.heap.size, 0, none⟩) (n + 1) (grownCap w (n + 1) c e)) ∧
      w' = (((w.alloc (.cells ((cs.take (i * size)).toArray ++ Builtin.zeroCells z.cells (n + 1 - i) ++ Builtin.zeroCells z.cells (grownCap w (n + 1) c e - (n + 1))) e)).drew.setCells w.heap.size (i * size) vs).drew).setCells w.heap.size ((i + 1) * size) (cs.drop (i * size))

section
variable {P : Program} {G : Nat → Option (List AV)}

theorem setCells_row (P : Program) {w : World} {g o : Nat} {t : TypeId} {cur : Array Value} {vs : List Value} (hg : w.heap[g]? = some (.cells cur t (0, 0))) (hl : o + vs.length ≤ cur.size) (h1 : ∀ v ∈ vs, v.oneCell' = true) :
    w.setCells g o vs = w.setRow g (cur.toList.take o ++ vs ++ cur.toList.drop (o + vs.length)).toArray := by
  have e1 := run_storeCells_at P g o t vs 0 cur w hg (by omega) h1
  have e2 := run_storeCells_cells (P := P) g o vs 0 w (fun j hj => by
    rw [Nat.add_zero, cell_of_row _ _ _ _ _ _ hg, Array.getElem?_eq_getElem (by omega)]; rfl) (fun j hj => by simp [World.frozen?, hg]) h1
  simp only [Nat.add_zero] at e1 e2
  rw [e1] at e2
  injection e2 with _ e2
  exact e2.symm

theorem ok_insert {f : FuncId} {fn : Func} {c : Code} (hf : P.funcs[f]? = some fn) (hb : fn.body = some c) (hn : (fn.name == "runtime.NumGoroutine") = false) {t e : TypeId} {size bytes : Nat} (hsz : 0 < size) (hc : InsertsAt P f t e size bytes)
    {ti : TypeInfo} {z : Value} (ht : P.underlying t = some (.slice e)) (hti : P.info? e = some ti) (htz : ti.zero = some z) (htn : ti.size = size) (htb : ti.bytes = bytes) (hzc : z.cells.size = size) (hbp : 0 < bytes)
    {xs : List AV} {x : AV} {i ver id k : Nat} {H : List AObj} (hby : (xs.length + 1) * bytes ≤ 140737488355328) (hx : x.cells.length = size) (hi : i ≤ xs.length) (hH : H[id]? = some (.row e size ver xs)) (hk : H[k]? = some (.tok e size 1)) :
    Ok P G f [.rs id ver size 0 xs.length, .imm (.int .i64 i), .sl size [x] (some k)] H (.rs id (ver + 1) size 0 (xs.length + 1)) (H.set id (.row e size (ver + 1) (xs.take i ++ [x] ++ xs.drop i))) := by
  intro lo E w cargs hs ha
  obtain ⟨v, vs1, rfl, hv, ha⟩ := ha.cons_inv
  obtain ⟨vi, vs2, rfl, hvi, ha⟩ := ha.cons_inv
  obtain ⟨vx, vs3, rfl, hvx, ha⟩ := ha.cons_inv
  obtain rfl := ha.nil_inv
  obtain rfl := hvi.imm_inv
  have hid := SimH.lt hH
  have hxl : xs.length + 1 ≤ 140737488355328 := Nat.le_trans (Nat.le_mul_of_pos_right _ hbp) hby
  obtain ⟨Bk, ek1, ek2, ek3⟩ := hs.objs k _ hk
  obtain ⟨B, e1, e2, e3⟩ := hs.objs id _ hH
  -- the element
  obtain ⟨gk, ck, rfl, vs, hlk, curk, hgk, hvl, hv1, hvc, hvr⟩ : ∃ gk ck, vx = .slice (some ⟨gk, 0, none⟩) 1 ck ∧ ∃ vs : List Value, Bk = some (gk, ck) ∧ ∃ curk, w.heap[gk]? = some (.cells curk e (0, 0)) ∧ vs.length = size ∧ (∀ u ∈ vs, u.oneCell' = true) ∧ (∀ j u, vs[j]? = some u → w.cell? ⟨gk, j, none⟩ = some u) ∧ Reps E w x.cells vs := by
    cases hvx with
    | sl _ _ _ A cap us h1 h2 h3 h4 h5 h6 h7 =>
      obtain ⟨m, b, k1, k2, k3⟩ := h7
      rw [ek2] at k1
      cases k1
      have k4 := k3 rfl
      have hul : us.length = size := by rw [h4.length, flat_length _ h3]; simp
      cases Bk with
      | none => exact absurd ek3 (by simp [TokBlk])
      | some p =>
        obtain ⟨gk, ck⟩ := p
        obtain ⟨rfl, rfl⟩ := k4
        obtain ⟨t1, cur, t2, _⟩ := ek3
        refine ⟨gk, cap, rfl, us, rfl, cur, t2, hul, h5, fun j u hu => ?_, by simpa using h4⟩
        obtain ⟨ad, q1, q2, q3⟩ := h6 j u hu
        cases q1
        rw [Addr.add_lit, Nat.zero_add] at q2
        exact q2
  subst hlk
  have hatk : E.at k = some gk := by simp [Env.at, ek1, ek2]
  have hxs' : ∀ (n : Nat), (∀ y ∈ xs, y.cells.length = size) → ∀ y ∈ xs.take n ++ [x] ++ xs.drop n, y.cells.length = size := by
    intro n h y hy
    simp only [List.mem_append, List.mem_singleton] at hy
    rcases hy with (hy | rfl) | hy
    · exact h y (List.mem_of_mem_take hy)
    · exact hx
    · exact h y (List.mem_of_mem_drop hy)
  have hlen : (xs.take i ++ [x] ++ xs.drop i).length = xs.length + 1 := by simp; omega
  -- the end of each road
  have fin : ∀ (w' : World) (g' c' : Nat) (cur' : Array Value) (us : List Value), Below lo w w' → (∀ q, q < w.heap.size → E.at id ≠ some q → w'.heap[q]? = w.heap[q]?) → (E.at id = some g' ∨ w.heap.size ≤ g') → lo ≤ g' →
      w'.heap[g']? = some (.cells cur' e (0, 0)) → cur'.size = c' * size → xs.length + 1 ≤ c' → c' ≤ maxLen → (∀ y ∈ xs, y.cells.length = size) → Reps E w (xs.flatMap AV.cells) us → (∀ u ∈ us, u.oneCell' = true) →
      (∀ (j : Nat) (u : Value), (us.take (i * size) ++ vs ++ us.drop (i * size))[j]? = some u → cur'[j]? = some u) → (∀ a, E.I a → E.at id ≠ some a.block) →
      ∃ E', Rep E' w' (.rs id (ver + 1) size 0 (xs.length + 1)) (.slice (some ⟨g', 0, none⟩) (xs.length + 1) c') ∧ SimH G lo E' (H.set id (.row e size (ver + 1) (xs.take i ++ [x] ++ xs.drop i))) w' ∧ Evo lo E w E' w' := by
    intro w' g' c' cur' us hB hblk hg' hlo hcur hsize hc1 hc2 hsz' hus hus1 hpre hnI
    have hRep : Reps E w ((xs.take i ++ [x] ++ xs.drop i).flatMap AV.cells) (us.take (i * size) ++ vs ++ us.drop (i * size)) := by
      rw [List.flatMap_append, List.flatMap_append, flat_take _ _ hsz', flat_drop _ _ hsz']
      exact ((hus.take _).append (by simpa using hvr)).append (hus.drop _)
    have hOne : ∀ u ∈ us.take (i * size) ++ vs ++ us.drop (i * size), u.oneCell' = true := by
      intro u hu
      simp only [List.mem_append] at hu
      rcases hu with (hu | hu) | hu
      · exact hus1 u (List.mem_of_mem_take hu)
      · exact hv1 u hu
      · exact hus1 u (List.mem_of_mem_drop hu)
    have hBlk : ∀ a, E.I a → a.block ≠ g' := by
      intro a ha he
      rcases hg' with h | h
      · exact hnI a ha (by rw [h, he])
      · have := hs.inI a ha; omega
    obtain ⟨k1, k2⟩ := hs.turn (E' := E.ver id (ver + 1) (some (g', c'))) (w' := w') (o' := .row e size (ver + 1) (xs.take i ++ [x] ++ xs.drop i)) hB hid hblk (fun a ha => World.cell?_of_block (hblk a.block (hs.inI a ha) (hnI a ha)))
      (fun _ => rfl) (fun j hj => by simp [Env.ver, hj]) (fun n b h => by rw [e2] at h; cases h; exact ⟨ver + 1, some (g', c'), by simp [Env.ver], Nat.le_succ _, fun h => absurd h (by omega)⟩) (fun _ h => h)
      (fun a ha => ⟨.inl ha, Nat.lt_of_lt_of_le (hs.inI a ha) hB.size⟩) (fun b h => by
        simp only [Env.at, Env.ver, e1, if_true, Option.bind_some, Option.map_some] at h
        cases h
        exact hg') (fun hE => ⟨some (g', c'), e1, by simp [Env.ver], hlo, cur', us.take (i * size) ++ vs ++ us.drop (i * size), hcur, hsize, by rw [hlen]; exact hc1, hc2, hRep.mono hE, hxs' i hsz', hOne, hpre, hBlk⟩)
    exact ⟨_, .rs _ _ _ _ _ _ _ hc1 hc2 (fun _ => ⟨_, rfl⟩) ⟨ver + 1, some (g', c'), by simp [Env.ver], Nat.le_refl _, fun _ => ⟨by omega, fun _ => by simp⟩⟩, k1, k2⟩
  -- the slice
  cases hv with
  | rs _ _ _ _ _ A cap q1 q2 q0 q3 =>
    obtain ⟨m, b, k1, k2, k3⟩ := q3
    rw [e2] at k1
    cases k1
    have k4 := k3 rfl
    cases B with
    | none =>
      obtain ⟨rfl, rfl⟩ := k4
      have hx0 : xs = [] := e3
      subst hx0
      obtain rfl : i = 0 := by simpa using hi
      have hr : ∀ ty, (Builtin.append_ #[t, t] ty #[.slice none 0 0, .slice (some ⟨gk, 0, none⟩) 1 ck]).run P w = _ := fun ty => run_append_nil (P := P) w t ty e ti z ht hti htz ⟨gk, 0, none⟩ 1 ck vs (by rw [hvl, htn]; omega) (fun j u hu => by rw [Addr.add_lit, Nat.zero_add]; exact hvc j u hu) (by decide) (by decide) (by rw [htb]; simp at hby; omega)
      refine callsX_body hf hb hn ((hc.atEnd none 0 0 ck ⟨gk, 0, none⟩ _ w _ (Nat.le_refl _) (by decide) hr).mono fun y w' ⟨hy, hw⟩ => ?_)
      subst hy hw
      have g1 := grownCap_ge w 1 0 e
      have g2 : grownCap w 1 0 e ≤ maxLen := grownCap_le_maxLen w 1 0 e (by unfold maxLen; omega)
      refine fin _ w.heap.size (grownCap w 1 0 e) _ [] ⟨rfl, rfl, rfl, by simp, fun q hq => heap_alloc_old w.drew _ q (by have := hs.lo_le; rw [heap_drew]; omega)⟩ (fun q hq _ => heap_alloc_old w.drew _ q hq) (.inr (Nat.le_refl _)) hs.lo_le (heap_alloc_new w.drew _) ?_ (by simpa using g1) g2 (fun y hy => by cases hy) (by simpa using Reps.nil) (fun u hu => by cases hu) (fun j u hu => ?_) (fun a ha h => ?_)
      · simp only [Array.size_append, List.size_toArray, size_zeroCells, hzc, hvl]
        have : grownCap w 1 0 e = 1 + (grownCap w 1 0 e - 1) := by omega
        rw [this, Nat.add_mul]; simp
      · have hu' : vs[j]? = some u := by simpa using hu
        rw [Array.getElem?_append_left (by simpa using (List.getElem?_eq_some_iff.1 hu').1)]
        simpa using hu'
      · have : E.at id = none := by simp [Env.at, e1, e2]
        rw [this] at h; cases h
    | some p =>
      obtain ⟨g, c0⟩ := p
      obtain ⟨hcc, hA⟩ := k4
      obtain rfl : A = some ⟨g, 0, none⟩ := by simpa using hA (.inr rfl)
      obtain rfl : cap = c0 := by omega
      obtain ⟨h4, cur, us, h5, h6, h7, h8, h9, h9a, h10, h11, h12⟩ := e3
      have hat : E.at id = some g := by simp [Env.at, e1, e2]
      have hnI : ∀ a, E.I a → E.at id ≠ some a.block := fun a ha h => by rw [hat] at h; exact h12 a ha (Option.some.inj h).symm
      have hne : gk ≠ g := fun h => by
        have := hs.inj k id g (by rw [hatk, h]) hat
        subst this
        rw [hk] at hH; cases hH
      have hul : us.length = xs.length * size := by rw [h9.length, flat_length xs h9a]
      have hcell : ∀ (j : Nat) (u : Value), us[j]? = some u → w.cell? ⟨g, j, none⟩ = some u := fun j u hu => by rw [cell_of_row _ _ _ _ _ _ h5]; exact h11 j u hu
      have hucl : us.length ≤ cur.size := by rw [h6, hul]; exact Nat.mul_le_mul_right _ h7
      have hus : us = cur.toList.take us.length := by
        apply List.ext_getElem?
        intro j
        by_cases hj : j < us.length
        · rw [List.getElem?_take_of_lt hj]
          have := h11 j _ (List.getElem?_eq_getElem hj)
          rw [List.getElem?_eq_getElem hj, Array.getElem?_toList, this]
        · rw [List.getElem?_eq_none (by omega), List.getElem?_eq_none (by rw [List.length_take]; omega)]
      have h63 : cap ≤ 9223372036854775807 := by unfold maxLen at h8; omega
      by_cases hlt : i < xs.length
      · by_cases hroom : xs.length + 1 ≤ cap
        · -- in place
          have hfit : (xs.length + 1) * size ≤ cur.size := by rw [h6]; exact Nat.mul_le_mul_right _ hroom
          obtain ⟨t1, curk', t2, t3, _⟩ := ek3
          have hsh := hc.shift g xs.length cap i gk ck us vs w hlt hroom h63 hne hul hvl hcell (fun j hj => by rw [cell_of_row _ _ _ _ _ _ h5, Array.getElem?_eq_getElem (by omega)]; rfl) (fun j hj => by simp [World.frozen?, h5]) hvc h10 hv1
            e e curk'.size cur.size (by simp [World.shape?, t2]) (by simp [World.shape?, h5]) (by have := Nat.mul_pos (show 0 < xs.length + 1 by omega) hsz; omega) (by simp [World.frozen?, t2]) (by simp [World.frozen?, t2])
          refine callsX_body hf hb hn (hsh.mono fun y w' ⟨hy, hw⟩ => ?_)
          subst hy
          have hdl : (us.drop (i * size)).length = (xs.length - i) * size := by rw [List.length_drop, hul, Nat.sub_mul]
          have hi1 : (i + 1) * size + (xs.length - i) * size = (xs.length + 1) * size := by rw [← Nat.add_mul]; congr 1; omega
          have hi2 : (i + 1) * size = i * size + size := by rw [Nat.add_mul, Nat.one_mul]
          have h5' : w.drew.heap[g]? = some (.cells cur e (0, 0)) := h5
          have r1 := setCells_row P (o := (i + 1) * size) (vs := us.drop (i * size)) h5' (by rw [hdl]; omega) (fun v hv => h10 v (List.mem_of_mem_drop hv))
          have hh1 := setRow_heap w.drew g cur (cur.toList.take ((i + 1) * size) ++ us.drop (i * size) ++ cur.toList.drop ((i + 1) * size + (us.drop (i * size)).length)).toArray e _ h5'
          obtain ⟨c1, hc1⟩ : ∃ c1 : Array Value, c1 = (cur.toList.take ((i + 1) * size) ++ us.drop (i * size) ++ cur.toList.drop ((i + 1) * size + (us.drop (i * size)).length)).toArray := ⟨_, rfl⟩
          rw [← hc1] at r1 hh1
          have hc1s : c1.size = cur.size := by
            rw [hc1]
            simp only [List.size_toArray, List.length_append, List.length_take, List.length_drop, Array.length_toList, hul]
            rw [hul, ← Nat.sub_mul] at *
            omega
          have r2 := setCells_row P (o := i * size) (vs := vs) hh1 (by rw [hvl, hc1s]; have := Nat.mul_le_mul_right size (show i + 1 ≤ xs.length + 1 by omega); omega) hv1
          rw [r1, r2] at hw
          have hw2 := hw.trans (setRow_setRow _ _ _ _)
          subst hw2
          refine fin _ g cap _ us ?_ ?_ (.inl hat) h4 (setRow_heap w.drew g cur _ e _ h5') ?_ hroom h8 h9a h9 h10 ?_ hnI
          · have hb := heap_setRow_below (b := g) (w := w.drew) (cs := (c1.toList.take (i * size) ++ vs ++ c1.toList.drop (i * size + vs.length)).toArray) hs.lo_le h4
            exact ⟨hb.os, hb.tape, hb.output, hb.size, hb.block⟩
          · intro q hq hqn
            exact setRow_other w.drew g q _ (fun h => hqn (by rw [hat, h]))
          · simp only [List.size_toArray, List.length_append, List.length_take, List.length_drop, Array.length_toList, hc1s, hvl]
            rw [h6] at hfit ⊢
            omega
          · intro j u hu
            have key : (c1.toList.take (i * size) ++ vs ++ c1.toList.drop (i * size + vs.length)) = us.take (i * size) ++ vs ++ us.drop (i * size) ++ cur.toList.drop ((i + 1) * size + (us.drop (i * size)).length) := by
              have q1 : c1.toList.take (i * size) = us.take (i * size) := by
                rw [hc1]
                simp only
                rw [List.append_assoc, List.take_append_of_le_length (by simp; omega), List.take_take, Nat.min_eq_left (by omega)]
                conv => rhs; rw [hus]
                rw [List.take_take, Nat.min_eq_left (by rw [hul]; exact Nat.mul_le_mul_right _ hi)]
              have q2 : c1.toList.drop (i * size + vs.length) = us.drop (i * size) ++ cur.toList.drop ((i + 1) * size + (us.drop (i * size)).length) := by
                rw [hc1, hvl, ← hi2]
                simp only
                rw [List.append_assoc, List.drop_append_of_le_length (by simp; omega), List.drop_of_length_le (by simp; omega), List.nil_append]
              rw [q1, q2, List.append_assoc, List.append_assoc, List.append_assoc]
            rw [List.getElem?_toArray, key, List.getElem?_append_left (List.getElem?_eq_some_iff.1 hu).1]
            exact hu
        · -- a new row
          obtain ⟨z', hz', hgr⟩ := hc.grow g xs.length cap i gk ck us vs w hlt h7 (by omega) hby hul hvl hcell hvc h10 hv1
          refine callsX_body hf hb hn (hgr.mono fun y w' ⟨hy, hw⟩ => ?_)
          subst hy
          have g1 := grownCap_ge w (xs.length + 1) cap e
          have g2 : grownCap w (xs.length + 1) cap e ≤ maxLen := grownCap_le_maxLen w (xs.length + 1) cap e (by unfold maxLen; omega)
          generalize grownCap w (xs.length + 1) cap e = gc at *
          obtain ⟨Z1, hZ1⟩ : ∃ Z1, Z1 = Builtin.zeroCells z'.cells (xs.length + 1 - i) := ⟨_, rfl⟩
          obtain ⟨Z2, hZ2⟩ : ∃ Z2, Z2 = Builtin.zeroCells z'.cells (gc - (xs.length + 1)) := ⟨_, rfl⟩
          have z1 : Z1.size = (xs.length + 1 - i) * size := by rw [hZ1, size_zeroCells, hz']
          have z2 : Z2.size = (gc - (xs.length + 1)) * size := by rw [hZ2, size_zeroCells, hz']
          rw [← hZ1, ← hZ2] at hw
          have htk : (us.take (i * size)).length = i * size := by rw [List.length_take, hul]; exact Nat.min_eq_left (Nat.mul_le_mul_right _ hi)
          have hdl : (us.drop (i * size)).length = (xs.length - i) * size := by rw [List.length_drop, hul, Nat.sub_mul]
          have m1 : (xs.length + 1 - i) * size = size + (xs.length - i) * size := by
            rw [show xs.length + 1 - i = 1 + (xs.length - i) by omega, Nat.add_mul, Nat.one_mul]
          have m2 : (i + 1) * size = i * size + size := by rw [Nat.add_mul, Nat.one_mul]
          have m3 : gc * size = i * size + (size + (xs.length - i) * size) + (gc - (xs.length + 1)) * size := by
            rw [← m1, ← Nat.add_mul, ← Nat.add_mul]; congr 1; omega
          obtain ⟨R0, hR0⟩ : ∃ R0 : Array Value, R0 = (us.take (i * size)).toArray ++ Z1 ++ Z2 := ⟨_, rfl⟩
          have hR0s : R0.size = gc * size := by
            rw [hR0]; simp only [Array.size_append, List.size_toArray, htk, z1, z2]; omega
          rw [← hR0] at hw
          have a0 : (w.alloc (.cells R0 e)).drew.heap[w.heap.size]? = some (.cells R0 e (0, 0)) := heap_alloc_new w _
          have r1 := setCells_row P (o := i * size) (vs := vs) a0 (by rw [hvl, hR0s]; omega) hv1
          have hh1 := setRow_heap (w.alloc (.cells R0 e)).drew w.heap.size R0 (R0.toList.take (i * size) ++ vs ++ R0.toList.drop (i * size + vs.length)).toArray e _ a0
          obtain ⟨c1, hc1⟩ : ∃ c1 : Array Value, c1 = (R0.toList.take (i * size) ++ vs ++ R0.toList.drop (i * size + vs.length)).toArray := ⟨_, rfl⟩
          rw [← hc1] at r1 hh1
          have hR0l : R0.toList = us.take (i * size) ++ (Z1.toList ++ Z2.toList) := by rw [hR0]; simp
          have q1 : c1.toList = us.take (i * size) ++ vs ++ R0.toList.drop (i * size + vs.length) := by
            rw [hc1, hR0l, List.take_append_of_le_length (by omega), List.take_of_length_le (by omega)]
          have hc1s : c1.size = R0.size := by
            rw [hc1]
            simp only [List.size_toArray, List.length_append, List.length_take, List.length_drop, Array.length_toList, hR0s, hvl]
            omega
          have r2 := setCells_row P (w := ((w.alloc (.cells R0 e)).drew.setRow w.heap.size c1).drew) (o := (i + 1) * size) (vs := us.drop (i * size)) hh1 (by rw [hdl, hc1s, hR0s]; omega) (fun v hv => h10 v (List.mem_of_mem_drop hv))
          rw [r1, r2] at hw
          have hheap := setRow_heap ((w.alloc (.cells R0 e)).drew.setRow w.heap.size c1).drew w.heap.size c1 (c1.toList.take ((i + 1) * size) ++ us.drop (i * size) ++ c1.toList.drop ((i + 1) * size + (us.drop (i * size)).length)).toArray e _ hh1
          rw [← hw] at hheap
          have hold : ∀ q, q < w.heap.size → w'.heap[q]? = w.heap[q]? := by
            intro q hq
            rw [hw]
            have e1 := setRow_other ((w.alloc (.cells R0 e)).drew.setRow w.heap.size c1).drew w.heap.size q (c1.toList.take ((i + 1) * size) ++ us.drop (i * size) ++ c1.toList.drop ((i + 1) * size + (us.drop (i * size)).length)).toArray (by omega)
            have e2 := setRow_other (w.alloc (.cells R0 e)).drew w.heap.size q c1 (by omega)
            exact e1.trans (e2.trans (heap_alloc_old w _ q hq))
          refine fin w' w.heap.size gc _ us ⟨by rw [hw]; rfl, by rw [hw]; rfl, by rw [hw]; rfl, by rw [hw, size_setRow]; show w.heap.size ≤ ((w.alloc (.cells R0 e)).drew.setRow w.heap.size c1).heap.size; rw [size_setRow]; simp, fun q hq => hold q (Nat.lt_of_lt_of_le hq hs.lo_le)⟩ (fun q hq _ => hold q hq) (.inr (Nat.le_refl _)) hs.lo_le hheap ?_ (by omega) g2 h9a h9 h10 ?_ hnI
          · have m5 : (xs.length - i) * size = xs.length * size - i * size := Nat.sub_mul _ _ _
            have m6 : i * size ≤ xs.length * size := Nat.mul_le_mul_right _ hi
            simp only [List.size_toArray, List.length_append, List.length_take, List.length_drop, Array.length_toList, hc1s, hR0s, hul]
            rw [m2]
            omega
          · intro j u hu
            have key : c1.toList.take ((i + 1) * size) = us.take (i * size) ++ vs := by
              rw [q1, List.take_append_of_le_length (by rw [List.length_append, htk, hvl]; omega), List.take_of_length_le (by rw [List.length_append, htk, hvl]; omega)]
            rw [List.getElem?_toArray, key, List.getElem?_append_left (List.getElem?_eq_some_iff.1 hu).1]
            exact hu
      · -- at the end
        obtain rfl : i = xs.length := by omega
        have htk : us.take (xs.length * size) = us := List.take_of_length_le (by omega)
        have hdr : us.drop (xs.length * size) = [] := List.drop_of_length_le (by omega)
        have hnews : ∀ j u, vs[j]? = some u → w.cell? ((⟨gk, 0, none⟩ : Addr).add j) = some u := fun j u hu => by rw [Addr.add_lit, Nat.zero_add]; exact hvc j u hu
        by_cases hroom : xs.length + 1 ≤ cap
        · have hfit : xs.length * size + vs.length ≤ cur.size := by
            rw [hvl, h6]
            have := Nat.mul_le_mul_right size hroom
            rw [Nat.add_mul, Nat.one_mul] at this
            exact this
          have hr : ∀ ty, (Builtin.append_ #[t, t] ty #[.slice (some ⟨g, 0, none⟩) xs.length cap, .slice (some ⟨gk, 0, none⟩) 1 ck]).run P w = _ := fun ty => run_append_room (P := P) w t ty e ti ht hti g xs.length cap cur h5 ⟨gk, 0, none⟩ 1 ck vs (by rw [hvl, htn]; omega) hnews hv1 hroom (by rw [htn]; exact hfit)
          refine callsX_body hf hb hn ((hc.atEnd _ xs.length cap ck ⟨gk, 0, none⟩ _ w _ h7 h63 hr).mono fun y w' ⟨hy, hw⟩ => ?_)
          subst hy hw
          rw [htn]
          refine fin _ g cap _ us (heap_setRow_below hs.lo_le h4) (fun q hq hqn => setRow_other w g q _ (fun h => hqn (by rw [hat, h]))) (.inl hat) h4 (setRow_heap w g cur _ e _ h5) ?_ hroom h8 h9a h9 h10 ?_ hnI
          · simp only [List.size_toArray, List.length_append, List.length_take, List.length_drop, Array.length_toList]
            rw [h6] at hfit ⊢
            omega
          · intro j u hu
            rw [htk, hdr, List.append_nil] at hu
            have q1 : cur.toList.take (xs.length * size) = us := by rw [← hul]; exact hus.symm
            rw [List.getElem?_toArray, q1, List.getElem?_append_left (List.getElem?_eq_some_iff.1 hu).1]
            exact hu
        · have hr : ∀ ty, (Builtin.append_ #[t, t] ty #[.slice (some ⟨g, 0, none⟩) xs.length cap, .slice (some ⟨gk, 0, none⟩) 1 ck]).run P w = _ := fun ty => run_append_grow (P := P) w t ty e ti z ht hti htz ⟨g, 0, none⟩ xs.length cap us (by rw [hul, htn]) (fun j u hu => by rw [Addr.add_lit, Nat.zero_add]; exact hcell j u hu) ⟨gk, 0, none⟩ 1 ck vs (by rw [hvl, htn]; omega) hnews (by omega) (by omega) (by rw [htb]; exact growslice_fits (by omega) hby)
          refine callsX_body hf hb hn ((hc.atEnd _ xs.length cap ck ⟨gk, 0, none⟩ _ w _ h7 h63 hr).mono fun y w' ⟨hy, hw⟩ => ?_)
          subst hy hw
          have g1 := grownCap_ge w (xs.length + 1) cap e
          have g2 : grownCap w (xs.length + 1) cap e ≤ maxLen := grownCap_le_maxLen w (xs.length + 1) cap e (by unfold maxLen; omega)
          generalize grownCap w (xs.length + 1) cap e = gc at *
          refine fin _ w.heap.size gc _ us ⟨rfl, rfl, rfl, by simp, fun q hq => heap_alloc_old w.drew _ q (by have := hs.lo_le; rw [heap_drew]; omega)⟩ (fun q hq _ => heap_alloc_old w.drew _ q hq) (.inr (Nat.le_refl _)) hs.lo_le (heap_alloc_new w.drew _) ?_ (by omega) g2 h9a h9 h10 ?_ hnI
          · simp only [Array.size_append, List.size_toArray, size_zeroCells, hzc, hvl, hul]
            have : gc = xs.length + 1 + (gc - (xs.length + 1)) := by omega
            conv => rhs; rw [this]
            rw [Nat.add_mul, Nat.add_mul, Nat.one_mul]
          · intro j u hu
            rw [htk, hdr, List.append_nil] at hu
            have hj := (List.getElem?_eq_some_iff.1 hu).1
            rw [Array.getElem?_append_left (by simpa using hj)]
            simpa using hu
end
end Go.AL

/- What mentions few boxes mentions few. -/
namespace Go.AL
open Go
mutual
theorem AV.low_mono {n m : Nat} (h : n ≤ m) : ∀ {a : AV}, a.low n → a.low m
  | .imm _, _ => trivial
  | .junk, _ => trivial
  | .agg cs, hl => lows_mono h (as := cs) hl
  | .tup cs, hl => lows_mono h (as := cs) hl
  | .sl _ xs _, hl => ⟨lows_mono h (as := xs) hl.1, fun k hk => Nat.lt_of_lt_of_le (hl.2 k hk) h⟩
  | .ptr id _, hl => Nat.lt_of_lt_of_le (show id < n from hl) h
  | .rptr cs _, hl => lows_mono h (as := cs) hl
  | .fn _ a b, hl => ⟨lows_mono h (as := a) hl.1, lows_mono h (as := b) hl.2⟩
  | .mp id, hl => Nat.lt_of_lt_of_le (show id < n from hl) h
  | .it id, hl => Nat.lt_of_lt_of_le (show id < n from hl) h
  | .rs id _ _ _ _, hl => Nat.lt_of_lt_of_le (show id < n from hl) h
  | .rp id _ _ _, hl => Nat.lt_of_lt_of_le (show id < n from hl) h
theorem lows_mono {n m : Nat} (h : n ≤ m) : ∀ {as : List AV}, lows n as → lows m as
  | [], _ => trivial
  | a :: as, hl => ⟨AV.low_mono h (a := a) hl.1, lows_mono h (as := as) hl.2⟩
end
theorem lows_any {n : Nat} {as : List AV} (h : lows 0 as) : lows n as := lows_mono (Nat.zero_le _) h
end Go.AL
