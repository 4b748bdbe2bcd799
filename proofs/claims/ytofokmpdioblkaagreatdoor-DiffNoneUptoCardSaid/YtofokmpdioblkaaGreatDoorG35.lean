/- The stable sort of a row. -/
import Derived.Test.YtofokmpdioblkaaGreatDoorG28
import Derived.Test.YtofokmpdioblkaaGreatDoorG33
import Derived.Test.YtofokmpdioblkaaGreatDoorG34
set_option linter.unusedSimpArgs false
set_option linter.unusedVariables false
set_option maxRecDepth 100000
namespace Go.AL.Path
open Go Go.RowKit Go.Proofs Go.AL
theorem told_sym58 : ∀ d, ToldT Tryz.prog G 58 (sym58 d)
  | 0 => by
    rintro args H K ⟨id, ver, te, l, P, X, Y, Q, rfl, h1, h2, h3, h4, h5, h6, h7, h8, _⟩
    omega
  | d + 1 => by
    rintro args H K ⟨id, ver, te, l, P, X, Y, Q, rfl, h1, h2, h3, h4, h5, h6, h7, h8, h9, h10, h11⟩
    by_cases hx : X.length = 1
    · obtain ⟨x, rfl⟩ := List.length_eq_one_iff.1 hx
      exact ⟨_, _, o58a h1 h2 h3 h4 (by rw [h5]; simp [insAt]) rfl (by simp) (by simp) h10 h7, h11⟩
    · by_cases hy : Y.length = 1
      · obtain ⟨y, rfl⟩ := List.length_eq_one_iff.1 hy
        exact ⟨_, _, o58b h1 h2 h3 h4 (by rw [h5]; simp [insAt]) rfl rfl (by simp) h9 (by omega), h11⟩
      · exact ⟨_, _, o58c (told_sym58 d) h1 h2 h3 h4 h5 rfl rfl rfl h9 h10 (by omega) (by omega) (by omega), h11⟩
def ins57 : TSp := fun args H K => ∃ (id ver te : Nat) (l P X Q : List Shw), args = [.rs id ver 36 0 l.length, i64 (P.length : Nat), i64 (P.length + X.length : Nat), cmpF] ∧ H[id]? = some (.row te 36 ver (l.map shwE.v)) ∧ (∀ o ∈ H, o.low H.length) ∧ shwE.all l ∧ l.length ≤ 1099511627 ∧ l = P ++ X ++ Q ∧ K (.tup []) (H.set id (.row te 36 ver ((P ++ sortS Shw.path X ++ Q).map shwE.v)))
theorem told_ins57 : ToldT Tryz.prog G 57 ins57 := by
  rintro args H K ⟨id, ver, te, l, P, X, Q, rfl, h1, h2, h3, h4, h5, h6⟩
  exact ⟨_, _, o57 h1 h2 h3 h4 h5 rfl rfl, h6⟩
theorem ask57R {H : List AObj} {id ver te : Nat} {c P X Q : List Shw} {a b : Int} {n : Nat} {K : AV → List AObj → Prop} (hid : id < H.length) (hlow : ∀ o ∈ H, o.low H.length) (ha : a = (P.length : Nat)) (hb : b = (P.length + X.length : Nat)) (hn : n = c.length) (ho : shwE.all c) (hs : c.length ≤ 1099511627) (hc : c = P ++ X ++ Q)
    (h : K (.tup []) (RowH H id (.row te 36 ver ((P ++ sortS Shw.path X ++ Q).map shwE.v)) [])) : askT ins57 [.rs id ver 36 0 n, i64 a, i64 b, .fn (.func 26) [] []] (RowH H id (.row te 36 ver (c.map shwE.v)) []) K := by
  subst hn ha hb
  exact ⟨id, ver, te, c, P, X, Q, rfl, RowH_id hid, rowH_low hlow c, ho, hs, hc, by rw [RowH_setId hid]; exact h⟩
abbrev FullS (bs : Nat) (L : List (List Shw)) : Prop := Full (key := Shw.path) bs L
theorem FullS.snoc {bs : Nat} {L : List (List Shw)} {x : List Shw} (h : FullS bs L) (hx : x.length = bs) (hs : Srt Shw.path x) : FullS bs (L ++ [x]) := fun y hy => by
  rcases List.mem_append.1 hy with hy | hy
  · exact h y hy
  · rw [List.mem_singleton.1 hy]; exact ⟨hx, hs⟩
theorem FullS.tail {bs : Nat} {L : List (List Shw)} {x : List Shw} (h : FullS bs (x :: L)) : FullS bs L := fun y hy => h y (List.mem_cons_of_mem _ hy)
theorem flat_snoc (L : List (List Shw)) (x : List Shw) : (L ++ [x]).flatten = L.flatten ++ x := by simp
/-- Of full blocks and a rest, the front: two blocks, one, or none. -/
theorem front_two {bs : Nat} {L : List (List Shw)} {T : List Shw} (hL : FullS bs L) (hT : T.length < bs) (h : 2 * bs ≤ L.flatten.length + T.length) : ∃ x y L', L = x :: y :: L' := by
  match L, hL, h with
  | [], _, h => simp at h; omega
  | [x], hL, h =>
    have := (hL x (List.mem_cons_self ..)).1
    simp at h; omega
  | x :: y :: L', _, _ => exact ⟨x, y, L', rfl⟩
theorem front_one {bs : Nat} {L : List (List Shw)} {T : List Shw} (hL : FullS bs L) (h : L.flatten.length + T.length < 2 * bs) : L = [] ∨ ∃ x, L = [x] := by
  match L, hL, h with
  | [], _, _ => exact .inl rfl
  | [x], _, _ => exact .inr ⟨x, rfl⟩
  | x :: y :: L', hL, h =>
    have h1 := (hL x (List.mem_cons_self ..)).1
    have h2 := (hL y (List.mem_cons_of_mem _ (List.mem_cons_self ..))).1
    simp at h; omega
theorem fin_sorted {bs : Nat} {l : List Shw} {L : List (List Shw)} {T : List Shw} (hL : FullS bs L) (hT : Srt Shw.path T) (hst : Stab Shw.path l (L.flatten ++ T)) (hn : l.length ≤ bs) (h0 : 0 < bs) : L.flatten ++ T = sortS Shw.path l := by
  refine sortS_uniq ?_ hst
  have hlen := hst.length
  rw [List.length_append] at hlen
  match L, hL with
  | [], _ => simpa using hT
  | x :: L', hL =>
    have h1 := hL x (List.mem_cons_self ..)
    rw [List.flatten_cons, List.length_append] at hlen
    have hT0 : T = [] := List.length_eq_zero_iff.1 (by omega)
    have hL0 : L'.flatten = [] := List.length_eq_zero_iff.1 (by omega)
    rw [List.flatten_cons, hT0, hL0]; simpa using h1.2
theorem stab_all {l m : List Shw} (h : Stab Shw.path l m) (ho : shwE.all l) : shwE.all m := fun x hx => ho x (h.symm.mem hx)
def symB : TSp := sym58 1099511627
theorem told_symB : ToldT Tryz.prog G 58 symB := told_sym58 _
set_option maxHeartbeats 8000000 in
theorem o45 {H : List AObj} {id ver te : Nat} {l : List Shw} (hH : H[id]? = some (.row te 36 ver (l.map shwE.v))) (hlow : ∀ o ∈ H, o.low H.length) (ho : shwE.all l) (hs : l.length ≤ 1099511627) :
    Ok Tryz.prog G 45 [.rs id ver 36 0 l.length, i64 l.length, cmpF] H (.tup []) (H.set id (.row te 36 ver ((sortS Shw.path l).map shwE.v))) := by
  have hid : id < H.length := SimH.lt hH
  have hself := RowH_self hH
  refine ok_of_code (S := sp [] [(57, ins57), (58, symB)]) hm hG (sp_holds .nil (.cons told_ins57 (.cons told_symB .nil))) fn45
    (St 10 63 [.rs id ver 36 0 l.length, i64 l.length, .fn (.func 26) [] [], .junk, .junk, .junk, .junk, .junk, .junk, .junk] []) (by kernel_rfl) (by simp [AV.low, lows, hid, cmpF]) (by simp) (by rw [List.length_set]; exact low_setR hlow _) ?_
  generalize hn0 : H.length = N
  rw [hself]
  simp (maxSteps := 2000000) -implicitDefEqProofs only [c45, RS, RX, Nat.reduceLT, ↓RP0, ↓RP1, ↓RP2, ↓RP3, RV, RW, ↓reduceIte, Nat.reduceAdd, Nat.reduceSub, Nat.reduceMul, Nat.reduceLeDiff, Nat.reduceEqDiff, Int.reduceLT, Int.reduceLE, Int.reduceEq, Int.reduceNe, Int.reduceAdd, Int.reduceSub, Int.reduceMul, Int.reduceNeg, Int.reduceToNat, reduceCtorEq]
  refine loopB (st := fun (z : List (List Shw) × List Shw) => (St 10 63 [.rs id ver 36 0 l.length, i64 l.length, .fn (.func 26) [] [], .junk, .junk, .junk, i64 20, i64 (z.1.flatten.length : Nat), i64 (z.1.flatten.length + 20 : Nat), .junk] [])) (hp := fun z => RowH H id (.row te 36 ver ((z.1.flatten ++ z.2).map shwE.v)) []) (I := fun z => FullS 20 z.1 ∧ Stab Shw.path l (z.1.flatten ++ z.2)) (m := fun z => z.2.length) ([], l) ⟨fun x hx => (by cases hx), Stab.refl _⟩ ?_ ?_
  · subst hn0
    refine weak_cutS H.length (Nat.le_refl _) ?_ ?_ ?_
    · rw [RowH_take, RowH_nil]; rfl
    · rw [RowH_nil]; exact low_setR hlow _
    · simp [WeakL, AV.low, lows, hid, cmpF]
  · rintro ⟨L, R⟩ ⟨hL, hst⟩
    dsimp only at hL hst ⊢
    have hlen := hst.length
    rw [List.length_append] at hlen
    have oc := stab_all hst ho
    by_cases hlt : 20 ≤ R.length
    · have e1 : (((L.flatten.length + 20 : Nat) : Int) ≤ (l.length : Int)) = True := eq_true (by omega)
      obtain ⟨R1, R2, rfl, lR1, lR2⟩ := split_at (n := 20) R hlt
      rw [List.length_append] at hlen
      simp (maxSteps := 2000000) -implicitDefEqProofs only [RS, RX, Nat.reduceLT, ↓RP0, ↓RP1, ↓RP2, ↓RP3, RV, RW, ↓reduceIte, Nat.reduceAdd, Nat.reduceSub, Nat.reduceMul, Nat.reduceLeDiff, Nat.reduceEqDiff, Int.reduceLT, Int.reduceLE, Int.reduceEq, Int.reduceNe, Int.reduceAdd, Int.reduceSub, Int.reduceMul, Int.reduceNeg, Int.reduceToNat, reduceCtorEq, e1]
      subst hn0
      refine ask57R (P := L.flatten) (X := R1) (Q := R2) hid hlow rfl (by rw [lR1]) (by rw [List.length_append, List.length_append]; omega) oc (by rw [List.length_append, List.length_append]; omega) (by simp) ?_
      have f1 : (L ++ [sortS Shw.path R1]).flatten = L.flatten ++ sortS Shw.path R1 := flat_snoc _ _
      have f2 : (L ++ [sortS Shw.path R1]).flatten.length = L.flatten.length + 20 := by rw [f1, List.length_append, sortS_length, lR1]
      rw [show (((L.flatten.length + 20 : Nat) : Int) + 20) = ((L.flatten.length + 20 + 20 : Nat) : Int) by omega]
      refine ⟨⟨by omega, by omega⟩, (L ++ [sortS Shw.path R1], R2), by dsimp only; rw [List.length_append]; omega, ⟨hL.snoc (by rw [sortS_length]; exact lR1) (sortS_srt _), ?_⟩, ?_⟩
      · dsimp only
        rw [f1]
        refine hst.trans ?_
        rw [← List.append_assoc]
        exact ((Stab.refl _).app (sortS_stab R1)).app (Stab.refl _)
      · dsimp only
        rw [f1, List.length_append, sortS_length, lR1]
        refine weak_cutS H.length (Nat.le_refl _) ?_ ?_ ?_
        · rw [RowH_take, RowH_nil]
        · rw [RowH_nil]; exact low_setR hlow _
        · simp [WeakL, AV.low, lows, hid, cmpF]
    · have e1 : (((L.flatten.length + 20 : Nat) : Int) ≤ (l.length : Int)) = False := eq_false (by omega)
      simp (maxSteps := 2000000) -implicitDefEqProofs only [RS, RX, Nat.reduceLT, ↓RP0, ↓RP1, ↓RP2, ↓RP3, RV, RW, ↓reduceIte, Nat.reduceAdd, Nat.reduceSub, Nat.reduceMul, Nat.reduceLeDiff, Nat.reduceEqDiff, Int.reduceLT, Int.reduceLE, Int.reduceEq, Int.reduceNe, Int.reduceAdd, Int.reduceSub, Int.reduceMul, Int.reduceNeg, Int.reduceToNat, reduceCtorEq, e1]
      subst hn0
      refine ask57R (P := L.flatten) (X := R) (Q := []) hid hlow rfl (by omega) (by rw [List.length_append]; omega) oc (by rw [List.length_append]; omega) (by simp) ?_
      rw [List.append_nil]
      have hst1 : Stab Shw.path l (L.flatten ++ sortS Shw.path R) := hst.trans ((Stab.refl _).app (sortS_stab R))
      refine loopB (st := fun (z : Nat × List (List Shw) × List Shw) => (St 10 63 [.rs id ver 36 0 l.length, i64 l.length, .fn (.func 26) [] [], .junk, .junk, .junk, i64 (z.1 : Nat), .junk, .junk, .junk] [])) (hp := fun z => RowH H id (.row te 36 ver ((z.2.1.flatten ++ z.2.2).map shwE.v)) []) (I := fun z => 1 ≤ z.1 ∧ z.1 ≤ 2199023256000 ∧ z.2.2.length < z.1 ∧ FullS z.1 z.2.1 ∧ Srt Shw.path z.2.2 ∧ Stab Shw.path l (z.2.1.flatten ++ z.2.2)) (m := fun z => l.length - z.1) (20, L, sortS Shw.path R) ⟨by dsimp only; omega, by dsimp only; omega, by dsimp only; rw [sortS_length]; omega, hL, sortS_srt R, hst1⟩ ?_ ?_
      · refine weak_cutS H.length (Nat.le_refl _) ?_ ?_ ?_
        · rw [RowH_take, RowH_nil]
        · rw [RowH_nil]; exact low_setR hlow _
        · simp [WeakL, AV.low, lows, hid, cmpF]
      · clear hL hst hst1 oc hlen hlt e1
        clear L R
        rintro ⟨bs, L, T⟩ ⟨hb1, hb2, hTl, hL, hT, hst⟩
        dsimp only at hb1 hb2 hTl hL hT hst ⊢
        have hlen := hst.length
        rw [List.length_append] at hlen
        by_cases hlt : bs < l.length
        · have e1 : ((bs : Int) < (l.length : Int)) = True := eq_true (by omega)
          have e2 : 2 * (bs : Int) = ((2 * bs : Nat) : Int) := by omega
          have e2' : (bs : Int) * 2 = ((2 * bs : Nat) : Int) := by omega
          simp (maxSteps := 2000000) -implicitDefEqProofs only [RS, RX, Nat.reduceLT, ↓RP0, ↓RP1, ↓RP2, ↓RP3, RV, RW, ↓reduceIte, Nat.reduceAdd, Nat.reduceSub, Nat.reduceMul, Nat.reduceLeDiff, Nat.reduceEqDiff, Int.reduceLT, Int.reduceLE, Int.reduceEq, Int.reduceNe, Int.reduceAdd, Int.reduceSub, Int.reduceMul, Int.reduceNeg, Int.reduceToNat, reduceCtorEq, e1, e2]
          refine ⟨⟨by omega, by omega⟩, ?_⟩
          refine loopB (st := fun (z : List (List Shw) × List (List Shw)) => (St 10 63 [.rs id ver 36 0 l.length, i64 l.length, .fn (.func 26) [] [], .junk, .junk, .junk, i64 (bs : Nat), i64 (z.1.flatten.length : Nat), i64 (z.1.flatten.length + 2 * bs : Nat), .junk] [])) (hp := fun z => RowH H id (.row te 36 ver ((z.1.flatten ++ (z.2.flatten ++ T)).map shwE.v)) []) (I := fun z => FullS (2 * bs) z.1 ∧ FullS bs z.2 ∧ Stab Shw.path l (z.1.flatten ++ (z.2.flatten ++ T))) (m := fun z => z.2.length) ([], L) ⟨fun x hx => (by cases hx), hL, hst⟩ ?_ ?_
          · refine weak_cutS H.length (Nat.le_refl _) ?_ ?_ ?_
            · rw [RowH_take, RowH_nil]; rfl
            · rw [RowH_nil]; exact low_setR hlow _
            · simp [WeakL, AV.low, lows, hid, cmpF]
          · clear hL hst hlen
            rintro ⟨M, L⟩ ⟨hM, hL, hst⟩
            dsimp only at hM hL hst ⊢
            have hlen := hst.length
            rw [List.length_append, List.length_append] at hlen
            have oc := stab_all hst ho
            by_cases hle : 2 * bs ≤ L.flatten.length + T.length
            · have e3 : (((M.flatten.length + 2 * bs : Nat) : Int) ≤ (l.length : Int)) = True := eq_true (by omega)
              obtain ⟨x, y, L', rfl⟩ := front_two hL hTl hle
              have hx := hL x (List.mem_cons_self ..)
              have hy := hL y (List.mem_cons_of_mem _ (List.mem_cons_self ..))
              have hL' := hL.tail.tail
              have ff : (x :: y :: L').flatten = x ++ (y ++ L'.flatten) := by simp
              rw [ff] at hlen hst oc ⊢
              simp only [List.length_append] at hlen
              simp (maxSteps := 2000000) -implicitDefEqProofs only [RS, RX, Nat.reduceLT, ↓RP0, ↓RP1, ↓RP2, ↓RP3, RV, RW, ↓reduceIte, Nat.reduceAdd, Nat.reduceSub, Nat.reduceMul, Nat.reduceLeDiff, Nat.reduceEqDiff, Int.reduceLT, Int.reduceLE, Int.reduceEq, Int.reduceNe, Int.reduceAdd, Int.reduceSub, Int.reduceMul, Int.reduceNeg, Int.reduceToNat, reduceCtorEq, e2, e3]
              refine ⟨⟨by omega, by omega⟩, ?_⟩
              refine ask58R (P := M.flatten) (X := x) (Y := y) (Q := L'.flatten ++ T) hid hlow rfl (by omega) (by omega) (by simp only [List.length_append]; omega) oc (by simp only [List.length_append]; omega) (by simp) (by omega) (by omega) (by omega) hx.2 hy.2 ?_
              have f1 : (M ++ [sortS Shw.path (x ++ y)]).flatten = M.flatten ++ sortS Shw.path (x ++ y) := flat_snoc _ _
              have f2 : (M ++ [sortS Shw.path (x ++ y)]).flatten.length = M.flatten.length + 2 * bs := by rw [f1, List.length_append, sortS_length, List.length_append]; omega
              rw [show (((M.flatten.length + 2 * bs : Nat) : Int) + ((2 * bs : Nat) : Int)) = ((M.flatten.length + 2 * bs + 2 * bs : Nat) : Int) by omega]
              refine ⟨⟨by omega, by omega⟩, ⟨by omega, by omega⟩, (M ++ [sortS Shw.path (x ++ y)], L'), by dsimp only [List.length_cons]; omega, ⟨hM.snoc (by rw [sortS_length, List.length_append]; omega) (sortS_srt _), hL', ?_⟩, ?_⟩
              · dsimp only
                rw [f1]
                refine hst.trans ?_
                rw [show x ++ (y ++ L'.flatten) ++ T = (x ++ y) ++ (L'.flatten ++ T) by simp, ← List.append_assoc]
                exact ((Stab.refl _).app (sortS_stab (x ++ y))).app (Stab.refl _)
              · dsimp only
                rw [f2, f1]
                refine weak_cutS H.length (Nat.le_refl _) ?_ ?_ ?_
                · rw [RowH_take, RowH_nil]
                · rw [RowH_nil]; exact low_setR hlow _
                · simp [WeakL, AV.low, lows, hid, cmpF]
            · have e3 : (((M.flatten.length + 2 * bs : Nat) : Int) ≤ (l.length : Int)) = False := eq_false (by omega)
              rcases front_one (T := T) hL (by omega) with rfl | ⟨x, rfl⟩
              · have f0 : ([] : List (List Shw)).flatten = [] := rfl
                rw [f0, List.nil_append] at hst oc ⊢
                rw [f0, List.length_nil] at hlen
                have e4 : ((M.flatten.length : Int) + (bs : Int) < (l.length : Int)) = False := eq_false (by omega)
                simp (maxSteps := 2000000) -implicitDefEqProofs only [RS, RX, Nat.reduceLT, ↓RP0, ↓RP1, ↓RP2, ↓RP3, RV, RW, ↓reduceIte, Nat.reduceAdd, Nat.reduceSub, Nat.reduceMul, Nat.reduceLeDiff, Nat.reduceEqDiff, Int.reduceLT, Int.reduceLE, Int.reduceEq, Int.reduceNe, Int.reduceAdd, Int.reduceSub, Int.reduceMul, Int.reduceNeg, Int.reduceToNat, reduceCtorEq, e2', e3, e4]
                refine ⟨⟨by omega, by omega⟩, ⟨by omega, by omega⟩, (2 * bs, M, T), by dsimp only; omega, ⟨by dsimp only; omega, by dsimp only; omega, by dsimp only; omega, hM, hT, hst⟩, ?_⟩
                dsimp only
                refine weak_cutS H.length (Nat.le_refl _) ?_ ?_ ?_
                · rw [RowH_take, RowH_nil]
                · rw [RowH_nil]; exact low_setR hlow _
                · simp [WeakL, AV.low, lows, hid, cmpF]
              · have hx := hL x (List.mem_cons_self ..)
                have f0 : [x].flatten = x := by simp
                rw [f0] at hst oc hlen hle ⊢
                by_cases hT0 : T.length = 0
                · have e4 : ((M.flatten.length : Int) + (bs : Int) < (l.length : Int)) = False := eq_false (by omega)
                  have hT1 : T = [] := List.length_eq_zero_iff.1 hT0
                  have hxT : x ++ T = x := by rw [hT1, List.append_nil]
                  rw [hxT] at hst ⊢
                  simp (maxSteps := 2000000) -implicitDefEqProofs only [RS, RX, Nat.reduceLT, ↓RP0, ↓RP1, ↓RP2, ↓RP3, RV, RW, ↓reduceIte, Nat.reduceAdd, Nat.reduceSub, Nat.reduceMul, Nat.reduceLeDiff, Nat.reduceEqDiff, Int.reduceLT, Int.reduceLE, Int.reduceEq, Int.reduceNe, Int.reduceAdd, Int.reduceSub, Int.reduceMul, Int.reduceNeg, Int.reduceToNat, reduceCtorEq, e2', e3, e4]
                  refine ⟨⟨by omega, by omega⟩, ⟨by omega, by omega⟩, (2 * bs, M, x), by dsimp only; omega, ⟨by dsimp only; omega, by dsimp only; omega, by dsimp only; omega, hM, hx.2, hst⟩, ?_⟩
                  dsimp only
                  refine weak_cutS H.length (Nat.le_refl _) ?_ ?_ ?_
                  · rw [RowH_take, RowH_nil]
                  · rw [RowH_nil]; exact low_setR hlow _
                  · simp [WeakL, AV.low, lows, hid, cmpF]
                · have e4 : ((M.flatten.length : Int) + (bs : Int) < (l.length : Int)) = True := eq_true (by omega)
                  simp (maxSteps := 2000000) -implicitDefEqProofs only [RS, RX, Nat.reduceLT, ↓RP0, ↓RP1, ↓RP2, ↓RP3, RV, RW, ↓reduceIte, Nat.reduceAdd, Nat.reduceSub, Nat.reduceMul, Nat.reduceLeDiff, Nat.reduceEqDiff, Int.reduceLT, Int.reduceLE, Int.reduceEq, Int.reduceNe, Int.reduceAdd, Int.reduceSub, Int.reduceMul, Int.reduceNeg, Int.reduceToNat, reduceCtorEq, e2', e3, e4]
                  refine ⟨⟨by omega, by omega⟩, ?_⟩
                  refine ask58R (P := M.flatten) (X := x) (Y := T) (Q := []) hid hlow rfl (by omega) (by omega) (by simp only [List.length_append]; omega) oc (by simp only [List.length_append]; omega) (by simp) (by omega) (by omega) (by omega) hx.2 hT ?_
                  rw [List.append_nil]
                  refine ⟨⟨by omega, by omega⟩, (2 * bs, M, sortS Shw.path (x ++ T)), by dsimp only; omega, ⟨by dsimp only; omega, by dsimp only; omega, by dsimp only; rw [sortS_length, List.length_append]; omega, hM, sortS_srt _, ?_⟩, ?_⟩
                  · exact hst.trans ((Stab.refl _).app (sortS_stab _))
                  dsimp only
                  refine weak_cutS H.length (Nat.le_refl _) ?_ ?_ ?_
                  · rw [RowH_take, RowH_nil]
                  · rw [RowH_nil]; exact low_setR hlow _
                  · simp [WeakL, AV.low, lows, hid, cmpF]
        · have e1 : ((bs : Int) < (l.length : Int)) = False := eq_false (by omega)
          have hfin := fin_sorted hL hT hst (by omega) (by omega)
          simp (maxSteps := 2000000) -implicitDefEqProofs only [RS, RX, Nat.reduceLT, ↓RP0, ↓RP1, ↓RP2, ↓RP3, RV, RW, ↓reduceIte, Nat.reduceAdd, Nat.reduceSub, Nat.reduceMul, Nat.reduceLeDiff, Nat.reduceEqDiff, Int.reduceLT, Int.reduceLE, Int.reduceEq, Int.reduceNe, Int.reduceAdd, Int.reduceSub, Int.reduceMul, Int.reduceNeg, Int.reduceToNat, reduceCtorEq, e1, retO_normal, retO_ret]
          rw [hfin, RowH_setId hid]
          exact List.take_length
def st45 : TSp := fun args H K => ∃ (id ver te : Nat) (l : List Shw), args = [.rs id ver 36 0 l.length, i64 l.length, cmpF] ∧ H[id]? = some (.row te 36 ver (l.map shwE.v)) ∧ (∀ o ∈ H, o.low H.length) ∧ shwE.all l ∧ l.length ≤ 1099511627 ∧ K (.tup []) (H.set id (.row te 36 ver ((sortS Shw.path l).map shwE.v)))
theorem told_st45 : ToldT Tryz.prog G 45 st45 := by
  rintro args H K ⟨id, ver, te, l, rfl, h1, h2, h3, h4, h5⟩
  exact ⟨_, _, o45 h1 h2 h3 h4, h5⟩
theorem o25 {H : List AObj} {id ver te : Nat} {l : List Shw} (hH : H[id]? = some (.row te 36 ver (l.map shwE.v))) (hlow : ∀ o ∈ H, o.low H.length) (ho : shwE.all l) (hs : l.length ≤ 1099511627) :
    Ok Tryz.prog G 25 [.rs id ver 36 0 l.length, cmpF] H (.tup []) (H.set id (.row te 36 ver ((sortS Shw.path l).map shwE.v))) := by
  have hid : id < H.length := SimH.lt hH
  refine ok_of_code (S := sp [] [(45, st45)]) hm hG (sp_holds .nil (.cons told_st45 .nil)) fn25
    (St 2 9 [.rs id ver 36 0 l.length, .fn (.func 26) [] []] []) (by kernel_rfl) (by simp [AV.low, lows, hid, cmpF]) (by simp) (by rw [List.length_set]; exact low_setR hlow _) ?_
  simp (maxSteps := 2000000) -implicitDefEqProofs only [c25, RS, RX, Nat.reduceLT, ↓RP0, ↓RP1, ↓RP2, ↓RP3, RV, RW, ↓reduceIte, Nat.reduceAdd, Nat.reduceSub, Nat.reduceMul, Nat.reduceLeDiff, Nat.reduceEqDiff, Int.reduceLT, Int.reduceLE, Int.reduceEq, Int.reduceNe, Int.reduceAdd, Int.reduceSub, Int.reduceMul, Int.reduceNeg, Int.reduceToNat, reduceCtorEq]
  refine ⟨id, ver, te, l, rfl, hH, hlow, ho, hs, ?_⟩
  simp only [retO_normal]
  exact ⟨rfl, List.take_length⟩
/-- **slices.SortStableFunc by path, on a row.** -/
def sortT : TSp := fun args H K => ∃ (id ver te : Nat) (l : List Shw), args = [.rs id ver 36 0 l.length, cmpF] ∧ H[id]? = some (.row te 36 ver (l.map shwE.v)) ∧ (∀ o ∈ H, o.low H.length) ∧ shwE.all l ∧ l.length ≤ 1099511627 ∧ K (.tup []) (H.set id (.row te 36 ver ((sortS Shw.path l).map shwE.v)))
theorem told_sortT : ToldT Tryz.prog G 25 sortT := by
  rintro args H K ⟨id, ver, te, l, rfl, h1, h2, h3, h4, h5⟩
  exact ⟨_, _, o25 h1 h2 h3 h4, h5⟩
end Go.AL.Path

/- What a user did: the program's. -/
set_option linter.unusedSimpArgs false
set_option linter.unusedVariables false
set_option maxRecDepth 100000
namespace Go.AL.Path
open Go Go.RowKit Go.Proofs Go.AL
def scanPV (l : List Shw) (t : List Fil) : AV := if mayP2 t = true then .tup [edsV (scanP (sortS Shw.path l) t), i64 0] else .tup [.sl 3 [] none, i64 9]
def wantP (S : List Shw) (f : Fil) : Bool := match S with
  | [] => ownP f.path
  | a :: _ => ownP f.path && (decide (f.path < a.path) || !fitS a f.data)
def dropS (f : Fil) (S : List Shw) : List Shw := S.dropWhile fun x => decide (x.path = f.path)
theorem scanP_t {S : List Shw} {f : Fil} {T2 : List Fil} (h : ∀ a S2, S = a :: S2 → ¬ a.path < f.path) : scanP S (f :: T2) = pick (wantP S f) (putE f) ++ scanP (dropS f S) T2 := by
  cases S with
  | nil => rw [scanP]; rfl
  | cons a S2 => rw [scanP, if_neg (h a S2 rfl)]; rfl
theorem scanP_s {a : Shw} {S2 : List Shw} {T : List Fil} (h : ∀ f T2, T = f :: T2 → a.path < f.path) : scanP (a :: S2) T = pick (ownP a.path) (delE a) ++ scanP S2 T := by
  cases T with
  | nil => rw [scanP]
  | cons f T2 => rw [scanP, if_pos (h f T2 rfl)]
theorem pick_len (b : Bool) (e : Edt) : (pick b e).length ≤ 1 := by unfold pick; split <;> simp
set_option maxHeartbeats 16000000 in
theorem p10 (l : List Shw) (t : List Fil) (hl : shwE.all l) (ho : filE.all t) (hs : l.length + t.length ≤ 1099511627) : Pure Tryz.prog G 10 [shwsV l, filsV t] (scanPV l t) := by
  refine pure_of_code' (S := sp [(19, fil1b mayP2), (28, ownS), (30, byId), (29, fitSp)] [(24, clnS), (25, sortT)]) hm hG
    (sp_holds (.cons (told_spOnB fun l h => p19c l h.1 h.2) (.cons (told_txt1b p28) (.cons told_byId (.cons told_fit29 .nil)))) (.cons told_clnS (.cons told_sortT .nil))) fn10
    (St 8 121 [shwsV l, filsV t, .junk, .junk, .junk, .junk, .junk, .junk] []) (by kernel_rfl) ⟨⟨lows_shws 0 l, fun k hk => by cases hk⟩, ⟨lows_fils 0 t, fun k hk => by cases hk⟩, trivial⟩ (by unfold scanPV; split <;> simp [AV.low, lows, lows_eds]) ?_
  have fo : Fils 1099511627 t := ⟨ho, by omega⟩
  cases hmay : mayP2 t with
  | false =>
    have q19 : ∀ K, ask (fil1b mayP2) [filsV t] K = K (bool false) := fun K => (ask_fil1b (f := mayP2) (K := K) fo).trans (by rw [hmay]; simp [splitB_eq, SplitP])
    have hv : scanPV l t = .tup [.sl 3 [] none, i64 9] := by unfold scanPV; rw [if_neg (by rw [hmay]; decide)]
    rw [hv]
    simp (maxSteps := 2000000) -implicitDefEqProofs only [c10, RS, RX, Nat.reduceLT, ↓RP0, ↓RP1, ↓RP2, ↓RP3, RV, RW, ↓reduceIte, Nat.reduceAdd, Nat.reduceSub, Nat.reduceMul, Nat.reduceLeDiff, Nat.reduceEqDiff, Int.reduceLT, Int.reduceLE, Int.reduceEq, Int.reduceNe, Int.reduceAdd, Int.reduceSub, Int.reduceMul, Int.reduceNeg, Int.reduceToNat, reduceCtorEq, ↓q19, q19]
  | true =>
    have q19 : ∀ K, ask (fil1b mayP2) [filsV t] K = K (bool true) := fun K => (ask_fil1b (f := mayP2) (K := K) fo).trans (by rw [hmay]; simp [splitB_eq, SplitP])
    have hv : scanPV l t = .tup [edsV (scanP (sortS Shw.path l) t), i64 0] := by unfold scanPV; rw [if_pos hmay]
    have q24 : ∀ H (K : AV → List AObj → Prop), askT clnS [shwsV l] H K = K (.rs H.length 0 36 0 l.length) (H ++ [.row 60 36 0 (l.map shwE.v)]) := fun H K => (show _ from askT_clone (T := shwE) (te := 60) (H := H) (K := K) hl).trans (eq_iff_iff.2 ⟨fun h => h.2, fun h => ⟨by omega, h⟩⟩)
    rw [hv]
    simp (maxSteps := 2000000) -implicitDefEqProofs only [c10, RS, RX, Nat.reduceLT, ↓RP0, ↓RP1, ↓RP2, ↓RP3, RV, RW, ↓reduceIte, Nat.reduceAdd, Nat.reduceSub, Nat.reduceMul, Nat.reduceLeDiff, Nat.reduceEqDiff, Int.reduceLT, Int.reduceLE, Int.reduceEq, Int.reduceNe, Int.reduceAdd, Int.reduceSub, Int.reduceMul, Int.reduceNeg, Int.reduceToNat, reduceCtorEq, ↓q19, q19, ↓q24, q24]
    have ls : (sortS Shw.path l).length = l.length := sortS_length l
    refine ⟨2, 0, 60, l, rfl, rfl, ?_, hl, by omega, ?_⟩
    · intro o ho'
      simp only [List.mem_cons, List.not_mem_nil, or_false] at ho'
      rcases ho' with rfl | rfl | rfl
      · trivial
      · trivial
      · exact shwE.low_vs _ l
    have lt : List.take l.length ((sortS Shw.path l).map shwE.v) = (sortS Shw.path l).map shwE.v := List.take_of_length_le (by rw [shws_len, ls]; exact Nat.le_refl _)
    generalize hz : scanP (sortS Shw.path l) t = Z
    refine loopB (st := fun (x : List Edt × List Shw × List Fil) => (St 8 121 [shwsV l, filsV x.2.2, .junk, .junk, .sl 3 [] (some 0), i64 0, .sl 3 (x.1.map edE.v) (some 1), shwsV x.2.1] [])) (hp := fun x => [.tok 37 3 0, .tok 37 3 x.1.length, .dead]) (I := fun x => shwE.all x.2.1 ∧ filE.all x.2.2 ∧ x.1 ++ scanP x.2.1 x.2.2 = Z ∧ x.1.length + x.2.1.length + x.2.2.length ≤ l.length + t.length) (m := fun x => x.2.1.length + x.2.2.length) ([], sortS Shw.path l, t) ⟨all_sort hl, ho, hz, by dsimp only; rw [ls]; simp⟩ ?_ ?_
    · refine weak_frzS 2 rfl (by decide) 3 (by decide) rfl ?_ ?_
      · simp [AObj.low]
      · simp [WeakL, AV.low, lows, frzV, lows_shws, lows_fils, ls, lt]
    · rintro ⟨out, S, T⟩ ⟨hS, hT, hout, hle⟩
      dsimp only at hS hT hout hle ⊢
      have hSc : S = [] ∨ ∃ a S2, S = a :: S2 := by cases S <;> simp
      have hTc : T = [] ∨ ∃ f T2, T = f :: T2 := by cases T <;> simp
      have oln : (out.map edE.v).length = out.length := eds_len out
      -- on to the next round
      have goOn : ∀ (ov : List (Nat × AV)) (o : List Edt) (S' : List Shw) (T' : List Fil) (R : List AObj), shwE.all S' → filE.all T' → o ++ scanP S' T' = Z → o.length + S'.length + T'.length ≤ l.length + t.length → S'.length + T'.length < S.length + T.length →
          Again 0 (fun (x : List Edt × List Shw × List Fil) => (St 8 121 [shwsV l, filsV x.2.2, .junk, .junk, .sl 3 [] (some 0), i64 0, .sl 3 (x.1.map edE.v) (some 1), shwsV x.2.1] [])) (fun x => [.tok 37 3 0, .tok 37 3 x.1.length, .dead]) (fun x => shwE.all x.2.1 ∧ filE.all x.2.2 ∧ x.1 ++ scanP x.2.1 x.2.2 = Z ∧ x.1.length + x.2.1.length + x.2.2.length ≤ l.length + t.length) (fun x => x.2.1.length + x.2.2.length) (out, S, T)
            (St 8 121 [shwsV l, filsV T', .junk, .junk, .sl 3 [] (some 0), i64 0, .sl 3 (o.map edE.v) (some 1), shwsV S'] ov) (.tok 37 3 0 :: .tok 37 3 o.length :: .dead :: R) := by
        intro ov o S' T' R h1 h2 h3 h4 h5
        refine ⟨(o, S', T'), h5, ⟨h1, h2, h3, h4⟩, ?_⟩
        refine weak_cutS 3 (by decide) (by simp) ?_ ?_
        · simp [AObj.low]
        · simp [WeakL, AV.low, lows, lows_shws, lows_fils, lows_eds]
      rcases hSc with hSe | ⟨a, S2, hSe⟩
      · have s1 : ((0 : Int) < (S.length : Int)) = False := eq_false (by rw [hSe]; decide)
        have s2 : ((S.length : Int) = 0) = True := eq_true (by rw [hSe]; rfl)
        rcases hTc with hTe | ⟨f, T2, hTe⟩
        · have t1 : ((0 : Int) < (T.length : Int)) = False := eq_false (by rw [hTe]; decide)
          have t2 : ((T.length : Int) = 0) = True := eq_true (by rw [hTe]; rfl)
          simp (maxSteps := 2000000) -implicitDefEqProofs only [RS, RX, Nat.reduceLT, ↓RP0, ↓RP1, ↓RP2, ↓RP3, RV, RW, ↓reduceIte, Nat.reduceAdd, Nat.reduceSub, Nat.reduceMul, Nat.reduceLeDiff, Nat.reduceEqDiff, Int.reduceLT, Int.reduceLE, Int.reduceEq, Int.reduceNe, Int.reduceAdd, Int.reduceSub, Int.reduceMul, Int.reduceNeg, Int.reduceToNat, reduceCtorEq, s1, t1, shws_len, fils_len, AV.cells]
          rw [← hout, hSe, hTe, scanP, List.append_nil]
        · have t1 : ((0 : Int) < (T.length : Int)) = True := eq_true (by rw [hTe, List.length_cons]; omega)
          have t2 : ((T.length : Int) = 0) = False := eq_false (by rw [hTe, List.length_cons]; omega)
          have t0 : (T.map filE.v).getD 0 .junk = .agg (filC f) := by rw [hTe]; rfl
          have td : List.drop 1 (List.take T.length (T.map filE.v)) = T2.map filE.v := by rw [List.take_of_length_le (by rw [fils_len]; exact Nat.le_refl _), hTe]; rfl
          have tl : T.length = T2.length + 1 := by rw [hTe]; rfl
          have of : FilOk f := hT f (by rw [hTe]; exact List.mem_cons_self ..)
          have hT2 : filE.all T2 := fun x hx => hT x (by rw [hTe]; exact List.mem_cons_of_mem _ hx)
          have hsc : scanP S T = pick (wantP S f) (putE f) ++ scanP (dropS f S) T2 := by rw [hTe]; exact scanP_t fun a S2 h => by rw [hSe] at h; cases h
          obtain ⟨o, hoo⟩ : ∃ o, out ++ pick (wantP S f) (putE f) = o := ⟨_, rfl⟩
          have ol : o.length ≤ out.length + 1 := by
            rw [← hoo, List.length_append]
            have := pick_len (wantP S f) (putE f); omega
          cases hown : ownP f.path with
          | true =>
            have hw : wantP S f = true := by rw [hSe]; exact hown
            have q28 : ∀ K, ask ownS [Go.AL.T f.path] K = K (bool true) := fun K => by rw [ownS, ask_txt1b, hown]; simp [splitB_eq, SplitP, of.path]
            have mP : List.map edE.v out ++ [AV.agg [i64 1, Go.AL.T f.path, bytesV f.data]] = List.map edE.v o := by rw [← hoo, hw]; simp [pick, edC_put]
            have mL : out.length + 1 = o.length := by rw [← hoo, hw]; simp [pick]
            have q30 : ∀ K, ask byId [bytesV f.data] K = K (bytesV f.data) := fun K => ask_byId.trans (eq_iff_iff.2 ⟨fun h => h.2, fun h => ⟨of.data, h⟩⟩)
            simp (maxSteps := 2000000) -implicitDefEqProofs only [RS, RX, Nat.reduceLT, ↓RP0, ↓RP1, ↓RP2, ↓RP3, RV, RW, ↓reduceIte, Nat.reduceAdd, Nat.reduceSub, Nat.reduceMul, Nat.reduceLeDiff, Nat.reduceEqDiff, Int.reduceLT, Int.reduceLE, Int.reduceEq, Int.reduceNe, Int.reduceAdd, Int.reduceSub, Int.reduceMul, Int.reduceNeg, Int.reduceToNat, reduceCtorEq, s1, s2, ↓q28, q28, ↓q30, q30, t1, t2, t0, fil_len, fil0, fil1', fil_take, fil_strip, bytes_len, oln, shws_len, fils_len, AV.cells]
            rw [mP, mL]
            refine ⟨(fun y hy => by rw [List.mem_singleton.1 hy]; exact ⟨rfl, rfl⟩), .inl trivial, .inl trivial, by omega, by omega, ?_⟩
            refine loopB (st := fun (y : List Shw) => (St 8 121 [shwsV l, filsV T, .junk, .junk, .sl 3 [] (some 0), i64 0, .sl 3 (o.map edE.v) (some 1), shwsV y] [])) (hp := fun _ => [.tok 37 3 0, .tok 37 3 o.length, .dead]) (I := fun y => shwE.all y ∧ dropS f y = dropS f S ∧ y.length ≤ S.length) (m := fun y => y.length) S ⟨hS, rfl, Nat.le_refl _⟩ ?_ ?_
            · refine weak_cutS 3 (by decide) (by simp) ?_ ?_
              · simp [AObj.low]
              · simp [WeakL, AV.low, lows, lows_shws, lows_fils, lows_eds]
            · rintro y ⟨hy1, hy2, hy3⟩
              have hyc : y = [] ∨ ∃ c y2, y = c :: y2 := by cases y <;> simp
              rcases hyc with hye | ⟨c, y2, hye⟩
              · have y1 : ((0 : Int) < (y.length : Int)) = False := eq_false (by rw [hye]; decide)
                have hdy : dropS f S = y := by rw [← hy2, hye]; rfl
                simp (maxSteps := 2000000) -implicitDefEqProofs only [RS, RX, Nat.reduceLT, ↓RP0, ↓RP1, ↓RP2, ↓RP3, RV, RW, ↓reduceIte, Nat.reduceAdd, Nat.reduceSub, Nat.reduceMul, Nat.reduceLeDiff, Nat.reduceEqDiff, Int.reduceLT, Int.reduceLE, Int.reduceEq, Int.reduceNe, Int.reduceAdd, Int.reduceSub, Int.reduceMul, Int.reduceNeg, Int.reduceToNat, reduceCtorEq, y1, t1, td, oln, shws_len, fils_len, AV.cells]
                exact ⟨.inl trivial, by omega, goOn _ _ _ _ [] hy1 hT2 (by rw [← hout, hsc, hdy, ← hoo]; simp) (by omega) (by omega)⟩
              · have y1 : ((0 : Int) < (y.length : Int)) = True := eq_true (by rw [hye, List.length_cons]; omega)
                have y0 : (y.map shwE.v).getD 0 .junk = .agg (shwC c) := by rw [hye]; rfl
                have yd : List.drop 1 (List.take y.length (y.map shwE.v)) = y2.map shwE.v := by rw [List.take_of_length_le (by rw [shws_len]; exact Nat.le_refl _), hye]; rfl
                have yl : y.length = y2.length + 1 := by rw [hye]; rfl
                have oc : ShwOk c := hy1 c (by rw [hye]; exact List.mem_cons_self ..)
                have lc := shw_len oc
                by_cases hcf : c.path = f.path
                · have c1 : (c.path = f.path) = True := eq_true hcf
                  simp (maxSteps := 2000000) -implicitDefEqProofs only [RS, RX, Nat.reduceLT, ↓RP0, ↓RP1, ↓RP2, ↓RP3, RV, RW, ↓reduceIte, Nat.reduceAdd, Nat.reduceSub, Nat.reduceMul, Nat.reduceLeDiff, Nat.reduceEqDiff, Int.reduceLT, Int.reduceLE, Int.reduceEq, Int.reduceNe, Int.reduceAdd, Int.reduceSub, Int.reduceMul, Int.reduceNeg, Int.reduceToNat, reduceCtorEq, y1, y0, yd, c1, t1, t0, lc, shw0, fil_len, fil0, fil1', fil_take, fil_strip, bytes_len, oln, shws_len, fils_len, AV.cells]
                  refine ⟨.inl trivial, by omega, y2, by dsimp only; omega, ⟨fun x hx => hy1 x (by rw [hye]; exact List.mem_cons_of_mem _ hx), ?_, by omega⟩, ?_⟩
                  · rw [← hy2, hye]; simp [dropS, List.dropWhile_cons, hcf]
                  · refine weak_cutS 3 (by decide) (by simp) ?_ ?_
                    · simp [AObj.low]
                    · simp [WeakL, AV.low, lows, lows_shws, lows_fils, lows_eds]
                · have c1 : (c.path = f.path) = False := eq_false hcf
                  have hdy : dropS f S = y := by rw [← hy2, hye]; simp [dropS, List.dropWhile_cons, hcf]
                  simp (maxSteps := 2000000) -implicitDefEqProofs only [RS, RX, Nat.reduceLT, ↓RP0, ↓RP1, ↓RP2, ↓RP3, RV, RW, ↓reduceIte, Nat.reduceAdd, Nat.reduceSub, Nat.reduceMul, Nat.reduceLeDiff, Nat.reduceEqDiff, Int.reduceLT, Int.reduceLE, Int.reduceEq, Int.reduceNe, Int.reduceAdd, Int.reduceSub, Int.reduceMul, Int.reduceNeg, Int.reduceToNat, reduceCtorEq, y1, y0, c1, t1, t0, td, lc, shw0, fil_len, fil0, fil1', fil_take, fil_strip, bytes_len, oln, shws_len, fils_len, AV.cells]
                  exact ⟨.inl trivial, by omega, goOn _ _ _ _ [] hy1 hT2 (by rw [← hout, hsc, hdy, ← hoo]; simp) (by omega) (by omega)⟩
          | false =>
            have hw : wantP S f = false := by rw [hSe]; exact hown
            have q28 : ∀ K, ask ownS [Go.AL.T f.path] K = K (bool false) := fun K => by rw [ownS, ask_txt1b, hown]; simp [splitB_eq, SplitP, of.path]
            have mP : List.map edE.v out = List.map edE.v o := by rw [← hoo, hw]; simp [pick]
            have mL : out.length = o.length := by rw [← hoo, hw]; simp [pick]
            simp (maxSteps := 2000000) -implicitDefEqProofs only [RS, RX, Nat.reduceLT, ↓RP0, ↓RP1, ↓RP2, ↓RP3, RV, RW, ↓reduceIte, Nat.reduceAdd, Nat.reduceSub, Nat.reduceMul, Nat.reduceLeDiff, Nat.reduceEqDiff, Int.reduceLT, Int.reduceLE, Int.reduceEq, Int.reduceNe, Int.reduceAdd, Int.reduceSub, Int.reduceMul, Int.reduceNeg, Int.reduceToNat, reduceCtorEq, s1, s2, ↓q28, q28, t1, t2, t0, fil_len, fil0, fil1', fil_take, fil_strip, bytes_len, oln, shws_len, fils_len, AV.cells]
            rw [mP, mL]
            refine loopB (st := fun (y : List Shw) => (St 8 121 [shwsV l, filsV T, .junk, .junk, .sl 3 [] (some 0), i64 0, .sl 3 (o.map edE.v) (some 1), shwsV y] [])) (hp := fun _ => [.tok 37 3 0, .tok 37 3 o.length, .dead]) (I := fun y => shwE.all y ∧ dropS f y = dropS f S ∧ y.length ≤ S.length) (m := fun y => y.length) S ⟨hS, rfl, Nat.le_refl _⟩ ?_ ?_
            · refine weak_cutS 3 (by decide) (by simp) ?_ ?_
              · simp [AObj.low]
              · simp [WeakL, AV.low, lows, lows_shws, lows_fils, lows_eds]
            · rintro y ⟨hy1, hy2, hy3⟩
              have hyc : y = [] ∨ ∃ c y2, y = c :: y2 := by cases y <;> simp
              rcases hyc with hye | ⟨c, y2, hye⟩
              · have y1 : ((0 : Int) < (y.length : Int)) = False := eq_false (by rw [hye]; decide)
                have hdy : dropS f S = y := by rw [← hy2, hye]; rfl
                simp (maxSteps := 2000000) -implicitDefEqProofs only [RS, RX, Nat.reduceLT, ↓RP0, ↓RP1, ↓RP2, ↓RP3, RV, RW, ↓reduceIte, Nat.reduceAdd, Nat.reduceSub, Nat.reduceMul, Nat.reduceLeDiff, Nat.reduceEqDiff, Int.reduceLT, Int.reduceLE, Int.reduceEq, Int.reduceNe, Int.reduceAdd, Int.reduceSub, Int.reduceMul, Int.reduceNeg, Int.reduceToNat, reduceCtorEq, y1, t1, td, oln, shws_len, fils_len, AV.cells]
                exact ⟨.inl trivial, by omega, goOn _ _ _ _ [] hy1 hT2 (by rw [← hout, hsc, hdy, ← hoo]; simp) (by omega) (by omega)⟩
              · have y1 : ((0 : Int) < (y.length : Int)) = True := eq_true (by rw [hye, List.length_cons]; omega)
                have y0 : (y.map shwE.v).getD 0 .junk = .agg (shwC c) := by rw [hye]; rfl
                have yd : List.drop 1 (List.take y.length (y.map shwE.v)) = y2.map shwE.v := by rw [List.take_of_length_le (by rw [shws_len]; exact Nat.le_refl _), hye]; rfl
                have yl : y.length = y2.length + 1 := by rw [hye]; rfl
                have oc : ShwOk c := hy1 c (by rw [hye]; exact List.mem_cons_self ..)
                have lc := shw_len oc
                by_cases hcf : c.path = f.path
                · have c1 : (c.path = f.path) = True := eq_true hcf
                  simp (maxSteps := 2000000) -implicitDefEqProofs only [RS, RX, Nat.reduceLT, ↓RP0, ↓RP1, ↓RP2, ↓RP3, RV, RW, ↓reduceIte, Nat.reduceAdd, Nat.reduceSub, Nat.reduceMul, Nat.reduceLeDiff, Nat.reduceEqDiff, Int.reduceLT, Int.reduceLE, Int.reduceEq, Int.reduceNe, Int.reduceAdd, Int.reduceSub, Int.reduceMul, Int.reduceNeg, Int.reduceToNat, reduceCtorEq, y1, y0, yd, c1, t1, t0, lc, shw0, fil_len, fil0, fil1', fil_take, fil_strip, bytes_len, oln, shws_len, fils_len, AV.cells]
                  refine ⟨.inl trivial, by omega, y2, by dsimp only; omega, ⟨fun x hx => hy1 x (by rw [hye]; exact List.mem_cons_of_mem _ hx), ?_, by omega⟩, ?_⟩
                  · rw [← hy2, hye]; simp [dropS, List.dropWhile_cons, hcf]
                  · refine weak_cutS 3 (by decide) (by simp) ?_ ?_
                    · simp [AObj.low]
                    · simp [WeakL, AV.low, lows, lows_shws, lows_fils, lows_eds]
                · have c1 : (c.path = f.path) = False := eq_false hcf
                  have hdy : dropS f S = y := by rw [← hy2, hye]; simp [dropS, List.dropWhile_cons, hcf]
                  simp (maxSteps := 2000000) -implicitDefEqProofs only [RS, RX, Nat.reduceLT, ↓RP0, ↓RP1, ↓RP2, ↓RP3, RV, RW, ↓reduceIte, Nat.reduceAdd, Nat.reduceSub, Nat.reduceMul, Nat.reduceLeDiff, Nat.reduceEqDiff, Int.reduceLT, Int.reduceLE, Int.reduceEq, Int.reduceNe, Int.reduceAdd, Int.reduceSub, Int.reduceMul, Int.reduceNeg, Int.reduceToNat, reduceCtorEq, y1, y0, c1, t1, t0, td, lc, shw0, fil_len, fil0, fil1', fil_take, fil_strip, bytes_len, oln, shws_len, fils_len, AV.cells]
                  exact ⟨.inl trivial, by omega, goOn _ _ _ _ [] hy1 hT2 (by rw [← hout, hsc, hdy, ← hoo]; simp) (by omega) (by omega)⟩
      · have s1 : ((0 : Int) < (S.length : Int)) = True := eq_true (by rw [hSe, List.length_cons]; omega)
        have s2 : ((S.length : Int) = 0) = False := eq_false (by rw [hSe, List.length_cons]; omega)
        have s0 : (S.map shwE.v).getD 0 .junk = .agg (shwC a) := by rw [hSe]; rfl
        have sd : List.drop 1 (List.take S.length (S.map shwE.v)) = S2.map shwE.v := by rw [List.take_of_length_le (by rw [shws_len]; exact Nat.le_refl _), hSe]; rfl
        have sl : S.length = S2.length + 1 := by rw [hSe]; rfl
        have oa : ShwOk a := hS a (by rw [hSe]; exact List.mem_cons_self ..)
        have hS2 : shwE.all S2 := fun x hx => hS x (by rw [hSe]; exact List.mem_cons_of_mem _ hx)
        have la := shw_len oa
        have ta := shw_take oa
        rcases hTc with hTe | ⟨f, T2, hTe⟩
        · have t1 : ((0 : Int) < (T.length : Int)) = False := eq_false (by rw [hTe]; decide)
          have t2 : ((T.length : Int) = 0) = True := eq_true (by rw [hTe]; rfl)
          have hsc := scanP_s (a := a) (S2 := S2) (T := T) (fun f T2 h => by rw [hTe] at h; cases h)
          cases hown : ownP a.path with
          | true =>
            have q28 : ∀ K, ask ownS [Go.AL.T a.path] K = K (bool true) := fun K => by rw [ownS, ask_txt1b, hown]; simp [splitB_eq, SplitP, oa.path]
            have hsc' : scanP S T = delE a :: scanP S2 T := by rw [hSe, hsc, hown]; rfl
            have mD : List.map edE.v out ++ [AV.agg [i64 2, Go.AL.T a.path, .sl 0 [] none]] = List.map edE.v (out ++ [delE a]) := by simp [edC_del]
            have mL : out.length + 1 = (out ++ [delE a]).length := by simp
            simp (maxSteps := 2000000) -implicitDefEqProofs only [RS, RX, Nat.reduceLT, ↓RP0, ↓RP1, ↓RP2, ↓RP3, RV, RW, ↓reduceIte, Nat.reduceAdd, Nat.reduceSub, Nat.reduceMul, Nat.reduceLeDiff, Nat.reduceEqDiff, Int.reduceLT, Int.reduceLE, Int.reduceEq, Int.reduceNe, Int.reduceAdd, Int.reduceSub, Int.reduceMul, Int.reduceNeg, Int.reduceToNat, reduceCtorEq, s1, s2, s0, sd, t1, t2, ↓q28, q28, la, shw0, oln, shws_len, fils_len, AV.cells]
            rw [mD, mL]
            exact ⟨(fun y hy => by rw [List.mem_singleton.1 hy]; exact ⟨rfl, rfl⟩), .inl trivial, .inl trivial, by omega, by omega, .inl trivial, by omega, goOn _ _ _ _ _ hS2 hT (by rw [← hout, hsc']; simp) (by rw [← mL]; omega) (by omega)⟩
          | false =>
            have q28 : ∀ K, ask ownS [Go.AL.T a.path] K = K (bool false) := fun K => by rw [ownS, ask_txt1b, hown]; simp [splitB_eq, SplitP, oa.path]
            have hsc' : scanP S T = scanP S2 T := by rw [hSe, hsc, hown]; rfl
            simp (maxSteps := 2000000) -implicitDefEqProofs only [RS, RX, Nat.reduceLT, ↓RP0, ↓RP1, ↓RP2, ↓RP3, RV, RW, ↓reduceIte, Nat.reduceAdd, Nat.reduceSub, Nat.reduceMul, Nat.reduceLeDiff, Nat.reduceEqDiff, Int.reduceLT, Int.reduceLE, Int.reduceEq, Int.reduceNe, Int.reduceAdd, Int.reduceSub, Int.reduceMul, Int.reduceNeg, Int.reduceToNat, reduceCtorEq, s1, s2, s0, sd, t1, t2, ↓q28, q28, la, shw0, oln, shws_len, fils_len, AV.cells]
            exact ⟨.inl trivial, by omega, goOn _ _ _ _ [] hS2 hT (by rw [← hout, hsc']) (by omega) (by omega)⟩
        · have t1 : ((0 : Int) < (T.length : Int)) = True := eq_true (by rw [hTe, List.length_cons]; omega)
          have t2 : ((T.length : Int) = 0) = False := eq_false (by rw [hTe, List.length_cons]; omega)
          have t0 : (T.map filE.v).getD 0 .junk = .agg (filC f) := by rw [hTe]; rfl
          have td : List.drop 1 (List.take T.length (T.map filE.v)) = T2.map filE.v := by rw [List.take_of_length_le (by rw [fils_len]; exact Nat.le_refl _), hTe]; rfl
          have tl : T.length = T2.length + 1 := by rw [hTe]; rfl
          have of : FilOk f := hT f (by rw [hTe]; exact List.mem_cons_self ..)
          have hT2 : filE.all T2 := fun x hx => hT x (by rw [hTe]; exact List.mem_cons_of_mem _ hx)
          cases hlt : Op.bytesLess a.path f.path with
          | true =>
            have hsc := scanP_s (a := a) (S2 := S2) (T := T) (fun f' T2' h => by rw [hTe] at h; injection h with h _; rw [← h]; exact (bl_lt _ _).1 hlt)
            cases hown : ownP a.path with
            | true =>
              have q28 : ∀ K, ask ownS [Go.AL.T a.path] K = K (bool true) := fun K => by rw [ownS, ask_txt1b, hown]; simp [splitB_eq, SplitP, oa.path]
              have hsc' : scanP S T = delE a :: scanP S2 T := by rw [hSe, hsc, hown]; rfl
              have mD : List.map edE.v out ++ [AV.agg [i64 2, Go.AL.T a.path, .sl 0 [] none]] = List.map edE.v (out ++ [delE a]) := by simp [edC_del]
              have mL : out.length + 1 = (out ++ [delE a]).length := by simp
              simp (maxSteps := 2000000) -implicitDefEqProofs only [RS, RX, Nat.reduceLT, ↓RP0, ↓RP1, ↓RP2, ↓RP3, RV, RW, ↓reduceIte, Nat.reduceAdd, Nat.reduceSub, Nat.reduceMul, Nat.reduceLeDiff, Nat.reduceEqDiff, Int.reduceLT, Int.reduceLE, Int.reduceEq, Int.reduceNe, Int.reduceAdd, Int.reduceSub, Int.reduceMul, Int.reduceNeg, Int.reduceToNat, reduceCtorEq, s1, s2, s0, sd, t1, t2, t0, ↓binB_slss, binB_slss, hlt, fil_len, fil0, fil1', fil_take, fil_strip, bytes_len, ↓q28, q28, la, shw0, oln, shws_len, fils_len, AV.cells]
              rw [mD, mL]
              exact ⟨(fun y hy => by rw [List.mem_singleton.1 hy]; exact ⟨rfl, rfl⟩), .inl trivial, .inl trivial, by omega, by omega, .inl trivial, by omega, goOn _ _ _ _ _ hS2 hT (by rw [← hout, hsc']; simp) (by rw [← mL]; omega) (by omega)⟩
            | false =>
              have q28 : ∀ K, ask ownS [Go.AL.T a.path] K = K (bool false) := fun K => by rw [ownS, ask_txt1b, hown]; simp [splitB_eq, SplitP, oa.path]
              have hsc' : scanP S T = scanP S2 T := by rw [hSe, hsc, hown]; rfl
              simp (maxSteps := 2000000) -implicitDefEqProofs only [RS, RX, Nat.reduceLT, ↓RP0, ↓RP1, ↓RP2, ↓RP3, RV, RW, ↓reduceIte, Nat.reduceAdd, Nat.reduceSub, Nat.reduceMul, Nat.reduceLeDiff, Nat.reduceEqDiff, Int.reduceLT, Int.reduceLE, Int.reduceEq, Int.reduceNe, Int.reduceAdd, Int.reduceSub, Int.reduceMul, Int.reduceNeg, Int.reduceToNat, reduceCtorEq, s1, s2, s0, sd, t1, t2, t0, ↓binB_slss, binB_slss, hlt, fil_len, fil0, fil1', fil_take, fil_strip, bytes_len, ↓q28, q28, la, shw0, oln, shws_len, fils_len, AV.cells]
              exact ⟨.inl trivial, by omega, goOn _ _ _ _ [] hS2 hT (by rw [← hout, hsc']) (by omega) (by omega)⟩
          | false =>
            have hsc : scanP S T = pick (wantP S f) (putE f) ++ scanP (dropS f S) T2 := by
              rw [hTe]
              exact scanP_t fun a' S2' h => by
                rw [hSe] at h; injection h with h _; rw [← h]
                exact fun h => by rw [(bl_lt _ _).2 h] at hlt; cases hlt
            obtain ⟨o, hoo⟩ : ∃ o, out ++ pick (wantP S f) (putE f) = o := ⟨_, rfl⟩
            have ol : o.length ≤ out.length + 1 := by
              rw [← hoo, List.length_append]
              have := pick_len (wantP S f) (putE f); omega
            cases hgt : Op.bytesLess f.path a.path with
            | true =>
              have hgt' : decide (f.path < a.path) = true := decide_eq_true ((bl_lt _ _).1 hgt)
              cases hown : ownP f.path with
              | true =>
                have hw : wantP S f = true := by rw [hSe]; show (ownP f.path && (decide (f.path < a.path) || !fitS a f.data)) = true; rw [hown, hgt']; rfl
                have q28 : ∀ K, ask ownS [Go.AL.T f.path] K = K (bool true) := fun K => by rw [ownS, ask_txt1b, hown]; simp [splitB_eq, SplitP, of.path]
                have mP : List.map edE.v out ++ [AV.agg [i64 1, Go.AL.T f.path, bytesV f.data]] = List.map edE.v o := by rw [← hoo, hw]; simp [pick, edC_put]
                have mL : out.length + 1 = o.length := by rw [← hoo, hw]; simp [pick]
                have q30 : ∀ K, ask byId [bytesV f.data] K = K (bytesV f.data) := fun K => ask_byId.trans (eq_iff_iff.2 ⟨fun h => h.2, fun h => ⟨of.data, h⟩⟩)
                simp (maxSteps := 2000000) -implicitDefEqProofs only [RS, RX, Nat.reduceLT, ↓RP0, ↓RP1, ↓RP2, ↓RP3, RV, RW, ↓reduceIte, Nat.reduceAdd, Nat.reduceSub, Nat.reduceMul, Nat.reduceLeDiff, Nat.reduceEqDiff, Int.reduceLT, Int.reduceLE, Int.reduceEq, Int.reduceNe, Int.reduceAdd, Int.reduceSub, Int.reduceMul, Int.reduceNeg, Int.reduceToNat, reduceCtorEq, s1, s2, s0, la, ta, shw0, shw_strip, ↓binB_slss, binB_slss, hlt, hgt, ↓q28, q28, ↓q30, q30, t1, t2, t0, fil_len, fil0, fil1', fil_take, fil_strip, bytes_len, oln, shws_len, fils_len, AV.cells]
                rw [mP, mL]
                refine ⟨(fun y hy => by rw [List.mem_singleton.1 hy]; exact ⟨rfl, rfl⟩), .inl trivial, .inl trivial, by omega, by omega, ?_⟩
                refine loopB (st := fun (y : List Shw) => (St 8 121 [shwsV l, filsV T, .junk, .junk, .sl 3 [] (some 0), i64 0, .sl 3 (o.map edE.v) (some 1), shwsV y] [])) (hp := fun _ => [.tok 37 3 0, .tok 37 3 o.length, .dead]) (I := fun y => shwE.all y ∧ dropS f y = dropS f S ∧ y.length ≤ S.length) (m := fun y => y.length) S ⟨hS, rfl, Nat.le_refl _⟩ ?_ ?_
                · refine weak_cutS 3 (by decide) (by simp) ?_ ?_
                  · simp [AObj.low]
                  · simp [WeakL, AV.low, lows, lows_shws, lows_fils, lows_eds]
                · rintro y ⟨hy1, hy2, hy3⟩
                  have hyc : y = [] ∨ ∃ c y2, y = c :: y2 := by cases y <;> simp
                  rcases hyc with hye | ⟨c, y2, hye⟩
                  · have y1 : ((0 : Int) < (y.length : Int)) = False := eq_false (by rw [hye]; decide)
                    have hdy : dropS f S = y := by rw [← hy2, hye]; rfl
                    simp (maxSteps := 2000000) -implicitDefEqProofs only [RS, RX, Nat.reduceLT, ↓RP0, ↓RP1, ↓RP2, ↓RP3, RV, RW, ↓reduceIte, Nat.reduceAdd, Nat.reduceSub, Nat.reduceMul, Nat.reduceLeDiff, Nat.reduceEqDiff, Int.reduceLT, Int.reduceLE, Int.reduceEq, Int.reduceNe, Int.reduceAdd, Int.reduceSub, Int.reduceMul, Int.reduceNeg, Int.reduceToNat, reduceCtorEq, y1, t1, td, oln, shws_len, fils_len, AV.cells]
                    exact ⟨.inl trivial, by omega, goOn _ _ _ _ [] hy1 hT2 (by rw [← hout, hsc, hdy, ← hoo]; simp) (by omega) (by omega)⟩
                  · have y1 : ((0 : Int) < (y.length : Int)) = True := eq_true (by rw [hye, List.length_cons]; omega)
                    have y0 : (y.map shwE.v).getD 0 .junk = .agg (shwC c) := by rw [hye]; rfl
                    have yd : List.drop 1 (List.take y.length (y.map shwE.v)) = y2.map shwE.v := by rw [List.take_of_length_le (by rw [shws_len]; exact Nat.le_refl _), hye]; rfl
                    have yl : y.length = y2.length + 1 := by rw [hye]; rfl
                    have oc : ShwOk c := hy1 c (by rw [hye]; exact List.mem_cons_self ..)
                    have lc := shw_len oc
                    by_cases hcf : c.path = f.path
                    · have c1 : (c.path = f.path) = True := eq_true hcf
                      simp (maxSteps := 2000000) -implicitDefEqProofs only [RS, RX, Nat.reduceLT, ↓RP0, ↓RP1, ↓RP2, ↓RP3, RV, RW, ↓reduceIte, Nat.reduceAdd, Nat.reduceSub, Nat.reduceMul, Nat.reduceLeDiff, Nat.reduceEqDiff, Int.reduceLT, Int.reduceLE, Int.reduceEq, Int.reduceNe, Int.reduceAdd, Int.reduceSub, Int.reduceMul, Int.reduceNeg, Int.reduceToNat, reduceCtorEq, y1, y0, yd, c1, t1, t0, lc, shw0, fil_len, fil0, fil1', fil_take, fil_strip, bytes_len, oln, shws_len, fils_len, AV.cells]
                      refine ⟨.inl trivial, by omega, y2, by dsimp only; omega, ⟨fun x hx => hy1 x (by rw [hye]; exact List.mem_cons_of_mem _ hx), ?_, by omega⟩, ?_⟩
                      · rw [← hy2, hye]; simp [dropS, List.dropWhile_cons, hcf]
                      · refine weak_cutS 3 (by decide) (by simp) ?_ ?_
                        · simp [AObj.low]
                        · simp [WeakL, AV.low, lows, lows_shws, lows_fils, lows_eds]
                    · have c1 : (c.path = f.path) = False := eq_false hcf
                      have hdy : dropS f S = y := by rw [← hy2, hye]; simp [dropS, List.dropWhile_cons, hcf]
                      simp (maxSteps := 2000000) -implicitDefEqProofs only [RS, RX, Nat.reduceLT, ↓RP0, ↓RP1, ↓RP2, ↓RP3, RV, RW, ↓reduceIte, Nat.reduceAdd, Nat.reduceSub, Nat.reduceMul, Nat.reduceLeDiff, Nat.reduceEqDiff, Int.reduceLT, Int.reduceLE, Int.reduceEq, Int.reduceNe, Int.reduceAdd, Int.reduceSub, Int.reduceMul, Int.reduceNeg, Int.reduceToNat, reduceCtorEq, y1, y0, c1, t1, t0, td, lc, shw0, fil_len, fil0, fil1', fil_take, fil_strip, bytes_len, oln, shws_len, fils_len, AV.cells]
                      exact ⟨.inl trivial, by omega, goOn _ _ _ _ [] hy1 hT2 (by rw [← hout, hsc, hdy, ← hoo]; simp) (by omega) (by omega)⟩
              | false =>
                have hw : wantP S f = false := by rw [hSe]; show (ownP f.path && (decide (f.path < a.path) || !fitS a f.data)) = false; rw [hown]; rfl
                have q28 : ∀ K, ask ownS [Go.AL.T f.path] K = K (bool false) := fun K => by rw [ownS, ask_txt1b, hown]; simp [splitB_eq, SplitP, of.path]
                have mP : List.map edE.v out = List.map edE.v o := by rw [← hoo, hw]; simp [pick]
                have mL : out.length = o.length := by rw [← hoo, hw]; simp [pick]
                simp (maxSteps := 2000000) -implicitDefEqProofs only [RS, RX, Nat.reduceLT, ↓RP0, ↓RP1, ↓RP2, ↓RP3, RV, RW, ↓reduceIte, Nat.reduceAdd, Nat.reduceSub, Nat.reduceMul, Nat.reduceLeDiff, Nat.reduceEqDiff, Int.reduceLT, Int.reduceLE, Int.reduceEq, Int.reduceNe, Int.reduceAdd, Int.reduceSub, Int.reduceMul, Int.reduceNeg, Int.reduceToNat, reduceCtorEq, s1, s2, s0, la, ta, shw0, shw_strip, ↓binB_slss, binB_slss, hlt, hgt, ↓q28, q28, t1, t2, t0, fil_len, fil0, fil1', fil_take, fil_strip, bytes_len, oln, shws_len, fils_len, AV.cells]
                rw [mP, mL]
                refine loopB (st := fun (y : List Shw) => (St 8 121 [shwsV l, filsV T, .junk, .junk, .sl 3 [] (some 0), i64 0, .sl 3 (o.map edE.v) (some 1), shwsV y] [])) (hp := fun _ => [.tok 37 3 0, .tok 37 3 o.length, .dead]) (I := fun y => shwE.all y ∧ dropS f y = dropS f S ∧ y.length ≤ S.length) (m := fun y => y.length) S ⟨hS, rfl, Nat.le_refl _⟩ ?_ ?_
                · refine weak_cutS 3 (by decide) (by simp) ?_ ?_
                  · simp [AObj.low]
                  · simp [WeakL, AV.low, lows, lows_shws, lows_fils, lows_eds]
                · rintro y ⟨hy1, hy2, hy3⟩
                  have hyc : y = [] ∨ ∃ c y2, y = c :: y2 := by cases y <;> simp
                  rcases hyc with hye | ⟨c, y2, hye⟩
                  · have y1 : ((0 : Int) < (y.length : Int)) = False := eq_false (by rw [hye]; decide)
                    have hdy : dropS f S = y := by rw [← hy2, hye]; rfl
                    simp (maxSteps := 2000000) -implicitDefEqProofs only [RS, RX, Nat.reduceLT, ↓RP0, ↓RP1, ↓RP2, ↓RP3, RV, RW, ↓reduceIte, Nat.reduceAdd, Nat.reduceSub, Nat.reduceMul, Nat.reduceLeDiff, Nat.reduceEqDiff, Int.reduceLT, Int.reduceLE, Int.reduceEq, Int.reduceNe, Int.reduceAdd, Int.reduceSub, Int.reduceMul, Int.reduceNeg, Int.reduceToNat, reduceCtorEq, y1, t1, td, oln, shws_len, fils_len, AV.cells]
                    exact ⟨.inl trivial, by omega, goOn _ _ _ _ [] hy1 hT2 (by rw [← hout, hsc, hdy, ← hoo]; simp) (by omega) (by omega)⟩
                  · have y1 : ((0 : Int) < (y.length : Int)) = True := eq_true (by rw [hye, List.length_cons]; omega)
                    have y0 : (y.map shwE.v).getD 0 .junk = .agg (shwC c) := by rw [hye]; rfl
                    have yd : List.drop 1 (List.take y.length (y.map shwE.v)) = y2.map shwE.v := by rw [List.take_of_length_le (by rw [shws_len]; exact Nat.le_refl _), hye]; rfl
                    have yl : y.length = y2.length + 1 := by rw [hye]; rfl
                    have oc : ShwOk c := hy1 c (by rw [hye]; exact List.mem_cons_self ..)
                    have lc := shw_len oc
                    by_cases hcf : c.path = f.path
                    · have c1 : (c.path = f.path) = True := eq_true hcf
                      simp (maxSteps := 2000000) -implicitDefEqProofs only [RS, RX, Nat.reduceLT, ↓RP0, ↓RP1, ↓RP2, ↓RP3, RV, RW, ↓reduceIte, Nat.reduceAdd, Nat.reduceSub, Nat.reduceMul, Nat.reduceLeDiff, Nat.reduceEqDiff, Int.reduceLT, Int.reduceLE, Int.reduceEq, Int.reduceNe, Int.reduceAdd, Int.reduceSub, Int.reduceMul, Int.reduceNeg, Int.reduceToNat, reduceCtorEq, y1, y0, yd, c1, t1, t0, lc, shw0, fil_len, fil0, fil1', fil_take, fil_strip, bytes_len, oln, shws_len, fils_len, AV.cells]
                      refine ⟨.inl trivial, by omega, y2, by dsimp only; omega, ⟨fun x hx => hy1 x (by rw [hye]; exact List.mem_cons_of_mem _ hx), ?_, by omega⟩, ?_⟩
                      · rw [← hy2, hye]; simp [dropS, List.dropWhile_cons, hcf]
                      · refine weak_cutS 3 (by decide) (by simp) ?_ ?_
                        · simp [AObj.low]
                        · simp [WeakL, AV.low, lows, lows_shws, lows_fils, lows_eds]
                    · have c1 : (c.path = f.path) = False := eq_false hcf
                      have hdy : dropS f S = y := by rw [← hy2, hye]; simp [dropS, List.dropWhile_cons, hcf]
                      simp (maxSteps := 2000000) -implicitDefEqProofs only [RS, RX, Nat.reduceLT, ↓RP0, ↓RP1, ↓RP2, ↓RP3, RV, RW, ↓reduceIte, Nat.reduceAdd, Nat.reduceSub, Nat.reduceMul, Nat.reduceLeDiff, Nat.reduceEqDiff, Int.reduceLT, Int.reduceLE, Int.reduceEq, Int.reduceNe, Int.reduceAdd, Int.reduceSub, Int.reduceMul, Int.reduceNeg, Int.reduceToNat, reduceCtorEq, y1, y0, c1, t1, t0, td, lc, shw0, fil_len, fil0, fil1', fil_take, fil_strip, bytes_len, oln, shws_len, fils_len, AV.cells]
                      exact ⟨.inl trivial, by omega, goOn _ _ _ _ [] hy1 hT2 (by rw [← hout, hsc, hdy, ← hoo]; simp) (by omega) (by omega)⟩
            | false =>
              have hgt' : decide (f.path < a.path) = false := decide_eq_false fun h => by rw [(bl_lt _ _).2 h] at hgt; cases hgt
              cases hfit : fitS a f.data with
              | true =>
                have q29 : ∀ K, ask fitSp [.agg (shwC a), bytesV f.data] K = K (bool true) := fun K => by rw [ask_fitSp oa of.data, hfit]; simp [splitB_eq, SplitP]
                have hw : wantP S f = false := by rw [hSe]; show (ownP f.path && (decide (f.path < a.path) || !fitS a f.data)) = false; rw [hgt', hfit]; simp
                have mP : List.map edE.v out = List.map edE.v o := by rw [← hoo, hw]; simp [pick]
                have mL : out.length = o.length := by rw [← hoo, hw]; simp [pick]
                simp (maxSteps := 2000000) -implicitDefEqProofs only [RS, RX, Nat.reduceLT, ↓RP0, ↓RP1, ↓RP2, ↓RP3, RV, RW, ↓reduceIte, Nat.reduceAdd, Nat.reduceSub, Nat.reduceMul, Nat.reduceLeDiff, Nat.reduceEqDiff, Int.reduceLT, Int.reduceLE, Int.reduceEq, Int.reduceNe, Int.reduceAdd, Int.reduceSub, Int.reduceMul, Int.reduceNeg, Int.reduceToNat, reduceCtorEq, s1, s2, s0, la, ta, shw0, shw_strip, ↓binB_slss, binB_slss, hlt, hgt, ↓q29, q29, t1, t2, t0, fil_len, fil0, fil1', fil_take, fil_strip, bytes_len, oln, shws_len, fils_len, AV.cells]
                rw [mP, mL]
                refine loopB (st := fun (y : List Shw) => (St 8 121 [shwsV l, filsV T, .junk, .junk, .sl 3 [] (some 0), i64 0, .sl 3 (o.map edE.v) (some 1), shwsV y] [])) (hp := fun _ => [.tok 37 3 0, .tok 37 3 o.length, .dead]) (I := fun y => shwE.all y ∧ dropS f y = dropS f S ∧ y.length ≤ S.length) (m := fun y => y.length) S ⟨hS, rfl, Nat.le_refl _⟩ ?_ ?_
                · refine weak_cutS 3 (by decide) (by simp) ?_ ?_
                  · simp [AObj.low]
                  · simp [WeakL, AV.low, lows, lows_shws, lows_fils, lows_eds]
                · rintro y ⟨hy1, hy2, hy3⟩
                  have hyc : y = [] ∨ ∃ c y2, y = c :: y2 := by cases y <;> simp
                  rcases hyc with hye | ⟨c, y2, hye⟩
                  · have y1 : ((0 : Int) < (y.length : Int)) = False := eq_false (by rw [hye]; decide)
                    have hdy : dropS f S = y := by rw [← hy2, hye]; rfl
                    simp (maxSteps := 2000000) -implicitDefEqProofs only [RS, RX, Nat.reduceLT, ↓RP0, ↓RP1, ↓RP2, ↓RP3, RV, RW, ↓reduceIte, Nat.reduceAdd, Nat.reduceSub, Nat.reduceMul, Nat.reduceLeDiff, Nat.reduceEqDiff, Int.reduceLT, Int.reduceLE, Int.reduceEq, Int.reduceNe, Int.reduceAdd, Int.reduceSub, Int.reduceMul, Int.reduceNeg, Int.reduceToNat, reduceCtorEq, y1, t1, td, oln, shws_len, fils_len, AV.cells]
                    exact ⟨.inl trivial, by omega, goOn _ _ _ _ [] hy1 hT2 (by rw [← hout, hsc, hdy, ← hoo]; simp) (by omega) (by omega)⟩
                  · have y1 : ((0 : Int) < (y.length : Int)) = True := eq_true (by rw [hye, List.length_cons]; omega)
                    have y0 : (y.map shwE.v).getD 0 .junk = .agg (shwC c) := by rw [hye]; rfl
                    have yd : List.drop 1 (List.take y.length (y.map shwE.v)) = y2.map shwE.v := by rw [List.take_of_length_le (by rw [shws_len]; exact Nat.le_refl _), hye]; rfl
                    have yl : y.length = y2.length + 1 := by rw [hye]; rfl
                    have oc : ShwOk c := hy1 c (by rw [hye]; exact List.mem_cons_self ..)
                    have lc := shw_len oc
                    by_cases hcf : c.path = f.path
                    · have c1 : (c.path = f.path) = True := eq_true hcf
                      simp (maxSteps := 2000000) -implicitDefEqProofs only [RS, RX, Nat.reduceLT, ↓RP0, ↓RP1, ↓RP2, ↓RP3, RV, RW, ↓reduceIte, Nat.reduceAdd, Nat.reduceSub, Nat.reduceMul, Nat.reduceLeDiff, Nat.reduceEqDiff, Int.reduceLT, Int.reduceLE, Int.reduceEq, Int.reduceNe, Int.reduceAdd, Int.reduceSub, Int.reduceMul, Int.reduceNeg, Int.reduceToNat, reduceCtorEq, y1, y0, yd, c1, t1, t0, lc, shw0, fil_len, fil0, fil1', fil_take, fil_strip, bytes_len, oln, shws_len, fils_len, AV.cells]
                      refine ⟨.inl trivial, by omega, y2, by dsimp only; omega, ⟨fun x hx => hy1 x (by rw [hye]; exact List.mem_cons_of_mem _ hx), ?_, by omega⟩, ?_⟩
                      · rw [← hy2, hye]; simp [dropS, List.dropWhile_cons, hcf]
                      · refine weak_cutS 3 (by decide) (by simp) ?_ ?_
                        · simp [AObj.low]
                        · simp [WeakL, AV.low, lows, lows_shws, lows_fils, lows_eds]
                    · have c1 : (c.path = f.path) = False := eq_false hcf
                      have hdy : dropS f S = y := by rw [← hy2, hye]; simp [dropS, List.dropWhile_cons, hcf]
                      simp (maxSteps := 2000000) -implicitDefEqProofs only [RS, RX, Nat.reduceLT, ↓RP0, ↓RP1, ↓RP2, ↓RP3, RV, RW, ↓reduceIte, Nat.reduceAdd, Nat.reduceSub, Nat.reduceMul, Nat.reduceLeDiff, Nat.reduceEqDiff, Int.reduceLT, Int.reduceLE, Int.reduceEq, Int.reduceNe, Int.reduceAdd, Int.reduceSub, Int.reduceMul, Int.reduceNeg, Int.reduceToNat, reduceCtorEq, y1, y0, c1, t1, t0, td, lc, shw0, fil_len, fil0, fil1', fil_take, fil_strip, bytes_len, oln, shws_len, fils_len, AV.cells]
                      exact ⟨.inl trivial, by omega, goOn _ _ _ _ [] hy1 hT2 (by rw [← hout, hsc, hdy, ← hoo]; simp) (by omega) (by omega)⟩
              | false =>
                have q29 : ∀ K, ask fitSp [.agg (shwC a), bytesV f.data] K = K (bool false) := fun K => by rw [ask_fitSp oa of.data, hfit]; simp [splitB_eq, SplitP]
                cases hown : ownP f.path with
                | true =>
                  have hw : wantP S f = true := by rw [hSe]; show (ownP f.path && (decide (f.path < a.path) || !fitS a f.data)) = true; rw [hown, hfit]; simp
                  have q28 : ∀ K, ask ownS [Go.AL.T f.path] K = K (bool true) := fun K => by rw [ownS, ask_txt1b, hown]; simp [splitB_eq, SplitP, of.path]
                  have mP : List.map edE.v out ++ [AV.agg [i64 1, Go.AL.T f.path, bytesV f.data]] = List.map edE.v o := by rw [← hoo, hw]; simp [pick, edC_put]
                  have mL : out.length + 1 = o.length := by rw [← hoo, hw]; simp [pick]
                  have q30 : ∀ K, ask byId [bytesV f.data] K = K (bytesV f.data) := fun K => ask_byId.trans (eq_iff_iff.2 ⟨fun h => h.2, fun h => ⟨of.data, h⟩⟩)
                  simp (maxSteps := 2000000) -implicitDefEqProofs only [RS, RX, Nat.reduceLT, ↓RP0, ↓RP1, ↓RP2, ↓RP3, RV, RW, ↓reduceIte, Nat.reduceAdd, Nat.reduceSub, Nat.reduceMul, Nat.reduceLeDiff, Nat.reduceEqDiff, Int.reduceLT, Int.reduceLE, Int.reduceEq, Int.reduceNe, Int.reduceAdd, Int.reduceSub, Int.reduceMul, Int.reduceNeg, Int.reduceToNat, reduceCtorEq, s1, s2, s0, la, ta, shw0, shw_strip, ↓binB_slss, binB_slss, hlt, hgt, ↓q29, q29, ↓q28, q28, ↓q30, q30, t1, t2, t0, fil_len, fil0, fil1', fil_take, fil_strip, bytes_len, oln, shws_len, fils_len, AV.cells]
                  rw [mP, mL]
                  refine ⟨(fun y hy => by rw [List.mem_singleton.1 hy]; exact ⟨rfl, rfl⟩), .inl trivial, .inl trivial, by omega, by omega, ?_⟩
                  refine loopB (st := fun (y : List Shw) => (St 8 121 [shwsV l, filsV T, .junk, .junk, .sl 3 [] (some 0), i64 0, .sl 3 (o.map edE.v) (some 1), shwsV y] [])) (hp := fun _ => [.tok 37 3 0, .tok 37 3 o.length, .dead]) (I := fun y => shwE.all y ∧ dropS f y = dropS f S ∧ y.length ≤ S.length) (m := fun y => y.length) S ⟨hS, rfl, Nat.le_refl _⟩ ?_ ?_
                  · refine weak_cutS 3 (by decide) (by simp) ?_ ?_
                    · simp [AObj.low]
                    · simp [WeakL, AV.low, lows, lows_shws, lows_fils, lows_eds]
                  · rintro y ⟨hy1, hy2, hy3⟩
                    have hyc : y = [] ∨ ∃ c y2, y = c :: y2 := by cases y <;> simp
                    rcases hyc with hye | ⟨c, y2, hye⟩
                    · have y1 : ((0 : Int) < (y.length : Int)) = False := eq_false (by rw [hye]; decide)
                      have hdy : dropS f S = y := by rw [← hy2, hye]; rfl
                      simp (maxSteps := 2000000) -implicitDefEqProofs only [RS, RX, Nat.reduceLT, ↓RP0, ↓RP1, ↓RP2, ↓RP3, RV, RW, ↓reduceIte, Nat.reduceAdd, Nat.reduceSub, Nat.reduceMul, Nat.reduceLeDiff, Nat.reduceEqDiff, Int.reduceLT, Int.reduceLE, Int.reduceEq, Int.reduceNe, Int.reduceAdd, Int.reduceSub, Int.reduceMul, Int.reduceNeg, Int.reduceToNat, reduceCtorEq, y1, t1, td, oln, shws_len, fils_len, AV.cells]
                      exact ⟨.inl trivial, by omega, goOn _ _ _ _ [] hy1 hT2 (by rw [← hout, hsc, hdy, ← hoo]; simp) (by omega) (by omega)⟩
                    · have y1 : ((0 : Int) < (y.length : Int)) = True := eq_true (by rw [hye, List.length_cons]; omega)
                      have y0 : (y.map shwE.v).getD 0 .junk = .agg (shwC c) := by rw [hye]; rfl
                      have yd : List.drop 1 (List.take y.length (y.map shwE.v)) = y2.map shwE.v := by rw [List.take_of_length_le (by rw [shws_len]; exact Nat.le_refl _), hye]; rfl
                      have yl : y.length = y2.length + 1 := by rw [hye]; rfl
                      have oc : ShwOk c := hy1 c (by rw [hye]; exact List.mem_cons_self ..)
                      have lc := shw_len oc
                      by_cases hcf : c.path = f.path
                      · have c1 : (c.path = f.path) = True := eq_true hcf
                        simp (maxSteps := 2000000) -implicitDefEqProofs only [RS, RX, Nat.reduceLT, ↓RP0, ↓RP1, ↓RP2, ↓RP3, RV, RW, ↓reduceIte, Nat.reduceAdd, Nat.reduceSub, Nat.reduceMul, Nat.reduceLeDiff, Nat.reduceEqDiff, Int.reduceLT, Int.reduceLE, Int.reduceEq, Int.reduceNe, Int.reduceAdd, Int.reduceSub, Int.reduceMul, Int.reduceNeg, Int.reduceToNat, reduceCtorEq, y1, y0, yd, c1, t1, t0, lc, shw0, fil_len, fil0, fil1', fil_take, fil_strip, bytes_len, oln, shws_len, fils_len, AV.cells]
                        refine ⟨.inl trivial, by omega, y2, by dsimp only; omega, ⟨fun x hx => hy1 x (by rw [hye]; exact List.mem_cons_of_mem _ hx), ?_, by omega⟩, ?_⟩
                        · rw [← hy2, hye]; simp [dropS, List.dropWhile_cons, hcf]
                        · refine weak_cutS 3 (by decide) (by simp) ?_ ?_
                          · simp [AObj.low]
                          · simp [WeakL, AV.low, lows, lows_shws, lows_fils, lows_eds]
                      · have c1 : (c.path = f.path) = False := eq_false hcf
                        have hdy : dropS f S = y := by rw [← hy2, hye]; simp [dropS, List.dropWhile_cons, hcf]
                        simp (maxSteps := 2000000) -implicitDefEqProofs only [RS, RX, Nat.reduceLT, ↓RP0, ↓RP1, ↓RP2, ↓RP3, RV, RW, ↓reduceIte, Nat.reduceAdd, Nat.reduceSub, Nat.reduceMul, Nat.reduceLeDiff, Nat.reduceEqDiff, Int.reduceLT, Int.reduceLE, Int.reduceEq, Int.reduceNe, Int.reduceAdd, Int.reduceSub, Int.reduceMul, Int.reduceNeg, Int.reduceToNat, reduceCtorEq, y1, y0, c1, t1, t0, td, lc, shw0, fil_len, fil0, fil1', fil_take, fil_strip, bytes_len, oln, shws_len, fils_len, AV.cells]
                        exact ⟨.inl trivial, by omega, goOn _ _ _ _ [] hy1 hT2 (by rw [← hout, hsc, hdy, ← hoo]; simp) (by omega) (by omega)⟩
                | false =>
                  have hw : wantP S f = false := by rw [hSe]; show (ownP f.path && (decide (f.path < a.path) || !fitS a f.data)) = false; rw [hown]; rfl
                  have q28 : ∀ K, ask ownS [Go.AL.T f.path] K = K (bool false) := fun K => by rw [ownS, ask_txt1b, hown]; simp [splitB_eq, SplitP, of.path]
                  have mP : List.map edE.v out = List.map edE.v o := by rw [← hoo, hw]; simp [pick]
                  have mL : out.length = o.length := by rw [← hoo, hw]; simp [pick]
                  simp (maxSteps := 2000000) -implicitDefEqProofs only [RS, RX, Nat.reduceLT, ↓RP0, ↓RP1, ↓RP2, ↓RP3, RV, RW, ↓reduceIte, Nat.reduceAdd, Nat.reduceSub, Nat.reduceMul, Nat.reduceLeDiff, Nat.reduceEqDiff, Int.reduceLT, Int.reduceLE, Int.reduceEq, Int.reduceNe, Int.reduceAdd, Int.reduceSub, Int.reduceMul, Int.reduceNeg, Int.reduceToNat, reduceCtorEq, s1, s2, s0, la, ta, shw0, shw_strip, ↓binB_slss, binB_slss, hlt, hgt, ↓q29, q29, ↓q28, q28, t1, t2, t0, fil_len, fil0, fil1', fil_take, fil_strip, bytes_len, oln, shws_len, fils_len, AV.cells]
                  rw [mP, mL]
                  refine loopB (st := fun (y : List Shw) => (St 8 121 [shwsV l, filsV T, .junk, .junk, .sl 3 [] (some 0), i64 0, .sl 3 (o.map edE.v) (some 1), shwsV y] [])) (hp := fun _ => [.tok 37 3 0, .tok 37 3 o.length, .dead]) (I := fun y => shwE.all y ∧ dropS f y = dropS f S ∧ y.length ≤ S.length) (m := fun y => y.length) S ⟨hS, rfl, Nat.le_refl _⟩ ?_ ?_
                  · refine weak_cutS 3 (by decide) (by simp) ?_ ?_
                    · simp [AObj.low]
                    · simp [WeakL, AV.low, lows, lows_shws, lows_fils, lows_eds]
                  · rintro y ⟨hy1, hy2, hy3⟩
                    have hyc : y = [] ∨ ∃ c y2, y = c :: y2 := by cases y <;> simp
                    rcases hyc with hye | ⟨c, y2, hye⟩
                    · have y1 : ((0 : Int) < (y.length : Int)) = False := eq_false (by rw [hye]; decide)
                      have hdy : dropS f S = y := by rw [← hy2, hye]; rfl
                      simp (maxSteps := 2000000) -implicitDefEqProofs only [RS, RX, Nat.reduceLT, ↓RP0, ↓RP1, ↓RP2, ↓RP3, RV, RW, ↓reduceIte, Nat.reduceAdd, Nat.reduceSub, Nat.reduceMul, Nat.reduceLeDiff, Nat.reduceEqDiff, Int.reduceLT, Int.reduceLE, Int.reduceEq, Int.reduceNe, Int.reduceAdd, Int.reduceSub, Int.reduceMul, Int.reduceNeg, Int.reduceToNat, reduceCtorEq, y1, t1, td, oln, shws_len, fils_len, AV.cells]
                      exact ⟨.inl trivial, by omega, goOn _ _ _ _ [] hy1 hT2 (by rw [← hout, hsc, hdy, ← hoo]; simp) (by omega) (by omega)⟩
                    · have y1 : ((0 : Int) < (y.length : Int)) = True := eq_true (by rw [hye, List.length_cons]; omega)
                      have y0 : (y.map shwE.v).getD 0 .junk = .agg (shwC c) := by rw [hye]; rfl
                      have yd : List.drop 1 (List.take y.length (y.map shwE.v)) = y2.map shwE.v := by rw [List.take_of_length_le (by rw [shws_len]; exact Nat.le_refl _), hye]; rfl
                      have yl : y.length = y2.length + 1 := by rw [hye]; rfl
                      have oc : ShwOk c := hy1 c (by rw [hye]; exact List.mem_cons_self ..)
                      have lc := shw_len oc
                      by_cases hcf : c.path = f.path
                      · have c1 : (c.path = f.path) = True := eq_true hcf
                        simp (maxSteps := 2000000) -implicitDefEqProofs only [RS, RX, Nat.reduceLT, ↓RP0, ↓RP1, ↓RP2, ↓RP3, RV, RW, ↓reduceIte, Nat.reduceAdd, Nat.reduceSub, Nat.reduceMul, Nat.reduceLeDiff, Nat.reduceEqDiff, Int.reduceLT, Int.reduceLE, Int.reduceEq, Int.reduceNe, Int.reduceAdd, Int.reduceSub, Int.reduceMul, Int.reduceNeg, Int.reduceToNat, reduceCtorEq, y1, y0, yd, c1, t1, t0, lc, shw0, fil_len, fil0, fil1', fil_take, fil_strip, bytes_len, oln, shws_len, fils_len, AV.cells]
                        refine ⟨.inl trivial, by omega, y2, by dsimp only; omega, ⟨fun x hx => hy1 x (by rw [hye]; exact List.mem_cons_of_mem _ hx), ?_, by omega⟩, ?_⟩
                        · rw [← hy2, hye]; simp [dropS, List.dropWhile_cons, hcf]
                        · refine weak_cutS 3 (by decide) (by simp) ?_ ?_
                          · simp [AObj.low]
                          · simp [WeakL, AV.low, lows, lows_shws, lows_fils, lows_eds]
                      · have c1 : (c.path = f.path) = False := eq_false hcf
                        have hdy : dropS f S = y := by rw [← hy2, hye]; simp [dropS, List.dropWhile_cons, hcf]
                        simp (maxSteps := 2000000) -implicitDefEqProofs only [RS, RX, Nat.reduceLT, ↓RP0, ↓RP1, ↓RP2, ↓RP3, RV, RW, ↓reduceIte, Nat.reduceAdd, Nat.reduceSub, Nat.reduceMul, Nat.reduceLeDiff, Nat.reduceEqDiff, Int.reduceLT, Int.reduceLE, Int.reduceEq, Int.reduceNe, Int.reduceAdd, Int.reduceSub, Int.reduceMul, Int.reduceNeg, Int.reduceToNat, reduceCtorEq, y1, y0, c1, t1, t0, td, lc, shw0, fil_len, fil0, fil1', fil_take, fil_strip, bytes_len, oln, shws_len, fils_len, AV.cells]
                        exact ⟨.inl trivial, by omega, goOn _ _ _ _ [] hy1 hT2 (by rw [← hout, hsc, hdy, ← hoo]; simp) (by omega) (by omega)⟩
end Go.AL.Path

/- DiffApplies, walked; plain: what is found behind an edit; what rises. -/
set_option linter.unusedSimpArgs false
set_option linter.unusedVariables false
set_option maxRecDepth 100000
namespace Go.AL.Path
open Go Go.RowKit Go.Proofs Go.AL
theorem told_small : Told Tryz.prog G 8 (fil1b smallF) := told_spOnB fun l h => p8c l h.1 h.2
def c5 : ACode := (.seq (.reg false 1 [⟨(.some 3), none, (.m .box 0), [(.t 1)]⟩, ⟨(.some 4), none, (.q .mv), [(.c (.imm (.bool false)))]⟩]) (.seq (.reg false 0 [⟨(.some 6), none, (.call true), [(.c (.fn (.func 7) [] []))]⟩, ⟨(.some 5), none, (.q .mv), [(.t 6)]⟩]) (.seq (.seq (.reg false 0 [⟨(.some 7), none, (.q .mv), [(.t 0)]⟩, ⟨(.some 8), none, (.call true), [(.c (.fn (.func 8) [] [])), (.t 7)]⟩, ⟨(.some 9), none, (.q (.un .not)), [(.t 8)]⟩]) (.cond (.t 9) (.seq (.reg false 0 [⟨(.some 10), none, (.q .mv), [(.t 5)]⟩, ⟨(.some 4), none, (.q .mv), [(.t 10)]⟩]) .ret) .skip)) (.seq (.reg true 0 [⟨(.some 11), none, (.q .mv), [(.t 5)]⟩, ⟨(.some 12), none, (.q .mv), [(.t 11)]⟩, ⟨(.some 13), (.some (12, true)), (.q .mv), [(.t 0)]⟩, ⟨(.some 14), (.some (12, true)), (.l (.loadA 3)), [(.t 3)]⟩, ⟨(.some 15), (.some (12, true)), (.call false), [(.c (.fn (.func 22) [] [])), (.t 13), (.t 14)]⟩, ⟨(.some 16), (.some (12, true)), (.q .mv), [(.t 0)]⟩, ⟨(.some 17), (.some (12, true)), (.l (.loadA 3)), [(.t 3)]⟩, ⟨(.some 18), (.some (12, true)), (.call true), [(.c (.fn (.func 23) [] [])), (.t 16), (.t 17)]⟩, ⟨(.some 19), (.some (12, true)), (.call true), [(.c (.fn (.func 21) [] [])), (.t 15), (.t 18)]⟩, ⟨(.some 20), none, (.q .pick), [(.t 12), (.t 19), (.c (.imm (.bool false)))]⟩, ⟨(.some 4), none, (.q .mv), [(.t 20)]⟩]) .ret))))
end Go.AL.Path
