/- What a user did: the plain law of the two answers. -/
import Derived.Test.YtofokmpdioblkaaGreatDoorG28
import Derived.Test.YtofokmpdioblkaaGreatDoorG29
import Derived.Test.YtofokmpdioblkaaGreatDoorG31
set_option linter.unusedSimpArgs false
set_option linter.unusedVariables false
namespace Go.AL.Path
open Go Go.RowKit Go.Proofs Go.AL
theorem under_iff' (s d : List UInt8) : under s d = true ↔ ∃ r, r ≠ [] ∧ s = d ++ 47 :: r := by
  unfold under Lib.trimPrefix Lib.hasPrefix
  constructor
  · intro h
    simp only [Bool.and_eq_true] at h
    obtain ⟨h1, h2⟩ := h
    rw [if_pos h1] at h2
    obtain ⟨r, hr⟩ := List.isPrefixOf_iff_prefix.1 h1
    refine ⟨r, ?_, by rw [← hr]; simp⟩
    rintro rfl
    rw [← hr] at h2
    simp at h2
  · rintro ⟨r, hr, rfl⟩
    have h1 : (d ++ [47]).isPrefixOf (d ++ 47 :: r) = true := List.isPrefixOf_iff_prefix.2 ⟨r, by simp⟩
    rw [h1, if_pos rfl, show d ++ 47 :: r = (d ++ [47]) ++ r by simp, List.drop_left]
    cases r with
    | nil => exact absurd rfl hr
    | cons _ _ => rfl
theorem parentsTo_at (s : List UInt8) : ∀ (n j : Nat), j < n → s[j]? = some 47 → s.take j ∈ parentsTo s n
  | n + 1, j, hj, hs => by
    rw [parentsTo]
    by_cases e : j = n
    · subst e
      rw [if_pos hs]; simp
    · have h := parentsTo_at s n j (by omega) hs
      split
      · exact List.mem_append_left _ h
      · exact h
theorem under_mem' {s d : List UInt8} (h : under s d = true) : d ∈ parents s := by
  obtain ⟨r, _, rfl⟩ := (under_iff' s d).1 h
  have := parentsTo_at (d ++ 47 :: r) (d ++ 47 :: r).length d.length (by simp) (by simp)
  simpa [parents] using this
theorem upP_eq (t : List Fil) (f : Fil) : upP t f = t.any fun g => under f.path g.path := by
  unfold upP
  rw [Bool.eq_iff_iff, List.any_eq_true, List.any_eq_true]
  constructor
  · rintro ⟨p, hp, h⟩
    simp only [Bool.and_eq_true, decide_eq_true_eq] at h
    have h1 := h.1
    unfold cntP at h1
    have : 0 < (t.filter fun f => decide (f.path = p)).length := by omega
    obtain ⟨g, hg⟩ := List.exists_mem_of_length_pos this
    have := List.mem_filter.1 hg
    simp only [decide_eq_true_eq] at this
    exact ⟨g, this.1, by rw [this.2]; exact h.2⟩
  · rintro ⟨g, hg, h⟩
    refine ⟨g.path, under_mem' h, ?_⟩
    simp only [Bool.and_eq_true, decide_eq_true_eq]
    refine ⟨?_, h⟩
    unfold cntP
    have : g ∈ t.filter fun f => decide (f.path = g.path) := List.mem_filter.2 ⟨hg, by simp⟩
    have := List.length_pos_of_mem this
    omega
theorem may_eq (t : List Fil) : mayP2 t = mayR t := by
  unfold mayP2 mayR
  rw [Bool.and_assoc]
  congr 1
  rw [Bool.eq_iff_iff]
  simp only [Bool.and_eq_true, List.all_eq_true, List.mem_range, Bool.not_eq_true', upP_eq]
  constructor
  · rintro ⟨h1, h2⟩ i hi
    refine ⟨h1 i hi, fun g hg => ?_⟩
    have hm : t.getD i filE.d0 ∈ t := by rw [List.getD_eq_getElem?_getD, List.getElem?_eq_getElem hi]; exact List.getElem_mem hi
    have := h2 _ hm
    rw [List.any_eq_false] at this
    simpa using this g hg
  · intro h
    refine ⟨fun i hi => (h i hi).1, fun f hf => ?_⟩
    obtain ⟨i, hi, rfl⟩ := List.getElem_of_mem hf
    rw [List.any_eq_false]
    intro g hg
    have := (h i hi).2 g hg
    rw [List.getD_eq_getElem?_getD, List.getElem?_eq_getElem hi] at this
    simpa using this
/-- Rising by path. -/
def Ris (t : List Fil) : Prop := t.Pairwise fun a b => a.path < b.path
theorem ris_of {t : List Fil} (h : ∀ i, i < t.length → badAt t i = false) : Ris t := by
  have step : ∀ i, i + 1 < t.length → (t.getD i filE.d0).path < (t.getD (i + 1) filE.d0).path := by
    intro i hi
    have := h (i + 1) hi
    unfold badAt at this
    rw [Bool.or_eq_false_iff] at this
    have h2 := this.2
    simp only [Nat.zero_lt_succ, decide_true, Bool.true_and, Bool.not_eq_false'] at h2
    exact (bl_lt _ _).1 h2
  have far : ∀ k i, i + (k + 1) < t.length → (t.getD i filE.d0).path < (t.getD (i + (k + 1)) filE.d0).path := by
    intro k
    induction k with
    | zero => intro i hi; exact step i hi
    | succ k ih => intro i hi; exact k_trans (ih i (by omega)) (step (i + (k + 1)) (by omega))
  unfold Ris
  rw [List.pairwise_iff_getElem]
  intro i j hi hj hij
  have := far (j - i - 1) i (by omega)
  rw [show i + (j - i - 1 + 1) = j by omega] at this
  simpa [List.getD_eq_getElem?_getD, List.getElem?_eq_getElem hi, List.getElem?_eq_getElem hj] using this
theorem ris_of_may {t : List Fil} (h : mayR t = true) : Ris t := by
  unfold mayR at h
  simp only [Bool.and_eq_true, List.all_eq_true, List.mem_range, Bool.not_eq_true'] at h
  exact ris_of fun i hi => (h.2 i hi).1
def sumI (b : List UInt8) : List Int := (sumB b).map fun b => (b.toNat : Int)
def fitS (s : Shw) (d : List UInt8) : Bool := decide ((d.length : Int) = s.size) && decide (sumI d = s.sum)
def putE (f : Fil) : Edt := ⟨1, f.path, f.data⟩
def delE (s : Shw) : Edt := ⟨2, s.path, []⟩
def mainS (l : List Shw) (p : List UInt8) : Option Shw := l.find? fun s => decide (s.path = p)
def wants (l : List Shw) (f : Fil) : Bool := ownP f.path && match mainS l f.path with | some s => !fitS s f.data | none => true
def lost (t : List Fil) (s : Shw) : Bool := ownP s.path && (findF t s.path).isNone
def putsOf (l : List Shw) (t : List Fil) : List Edt := (t.filter (wants l)).map putE
def delsOf (l : List Shw) (t : List Fil) : List Edt := (l.filter (lost t)).map delE
def scanR (l : List Shw) (t : List Fil) : List Edt := sortS Edt.path (putsOf l t ++ delsOf l t)
def pick (b : Bool) (e : Edt) : List Edt := if b = true then [e] else []
def scanP : List Shw → List Fil → List Edt
  | [], [] => []
  | s :: l, [] => pick (ownP s.path) (delE s) ++ scanP l []
  | [], f :: t => pick (ownP f.path) (putE f) ++ scanP [] t
  | s :: l, f :: t =>
    if s.path < f.path then pick (ownP s.path) (delE s) ++ scanP l (f :: t)
    else pick (ownP f.path && (decide (f.path < s.path) || !fitS s f.data)) (putE f) ++ scanP ((s :: l).dropWhile fun x => decide (x.path = f.path)) t
termination_by l t => l.length + t.length
decreasing_by
  all_goals simp only [List.length_cons]
  all_goals try omega
  have : ((s :: l).dropWhile fun x => decide (x.path = f.path)).length ≤ (s :: l).length := (List.dropWhile_sublist _).length_le
  simp only [List.length_cons] at this
  omega
theorem pick_path {b : Bool} {e x : Edt} (h : x ∈ pick b e) : x = e := by
  unfold pick at h
  split at h
  · exact List.mem_singleton.1 h
  · cases h
theorem pick_srt {b : Bool} {e : Edt} {l : List Edt} (h : Srt Edt.path l) (h2 : ∀ x ∈ l, ¬ x.path < e.path) : Srt Edt.path (pick b e ++ l) := by
  refine Srt.app.2 ⟨?_, h, fun x hx y hy => ?_⟩
  · unfold pick
    split
    · exact List.pairwise_singleton _ _
    · exact List.Pairwise.nil
  · rw [pick_path hx]; exact h2 y hy
theorem mainS_cons_ne {s : Shw} {l : List Shw} {p : List UInt8} (h : ¬ s.path = p) : mainS (s :: l) p = mainS l p := by simp [mainS, List.find?_cons, h]
theorem findF_cons_ne {f : Fil} {t : List Fil} {p : List UInt8} (h : ¬ f.path = p) : findF (f :: t) p = findF t p := by simp [findF, List.find?_cons, h]
/-- The merge. -/
theorem scan_law : ∀ (l : List Shw) (t : List Fil), Srt Shw.path l → Ris t → Srt Edt.path (scanP l t) ∧ Stab Edt.path (putsOf l t ++ delsOf l t) (scanP l t) ∧ ∀ e ∈ scanP l t, e.path ∈ l.map Shw.path ∨ e.path ∈ t.map Fil.path
  | [], [], _, _ => by
    rw [scanP]
    exact ⟨List.Pairwise.nil, Stab.refl _, fun e he => by cases he⟩
  | s :: l, [], hl, ht => by
    have hl' := List.pairwise_cons.1 hl
    obtain ⟨h1, h2, h3⟩ := scan_law l [] hl'.2 ht
    rw [scanP]
    refine ⟨pick_srt h1 fun x hx => ?_, ?_, fun e he => ?_⟩
    · rcases h3 x hx with h | h
      · obtain ⟨y, hy, e⟩ := List.mem_map.1 h
        rw [← e]; exact hl'.1 y hy
      · cases h
    · have e1 : putsOf (s :: l) [] ++ delsOf (s :: l) [] = pick (ownP s.path) (delE s) ++ (putsOf l [] ++ delsOf l []) := by
        unfold putsOf delsOf pick
        rw [List.filter_cons]
        have : lost [] s = ownP s.path := by simp [lost, findF]
        rw [this]
        split <;> simp_all
      rw [e1]
      exact (Stab.refl _).app h2
    · rcases List.mem_append.1 he with he | he
      · rw [pick_path he]; left; simp [delE]
      · rcases h3 e he with h | h
        · left; simp only [List.map_cons]; exact List.mem_cons_of_mem _ h
        · cases h
  | [], f :: t, hl, ht => by
    have ht' := List.pairwise_cons.1 ht
    obtain ⟨h1, h2, h3⟩ := scan_law [] t hl ht'.2
    rw [scanP]
    refine ⟨pick_srt h1 fun x hx => ?_, ?_, fun e he => ?_⟩
    · rcases h3 x hx with h | h
      · cases h
      · obtain ⟨y, hy, e⟩ := List.mem_map.1 h
        rw [← e]; exact fun h => k_irr _ (k_trans h (ht'.1 y hy))
    · have e1 : putsOf [] (f :: t) ++ delsOf [] (f :: t) = pick (ownP f.path) (putE f) ++ (putsOf [] t ++ delsOf [] t) := by
        unfold putsOf delsOf pick
        rw [List.filter_cons]
        have : wants [] f = ownP f.path := by simp [wants, mainS]
        rw [this]
        split <;> simp_all
      rw [e1]
      exact (Stab.refl _).app h2
    · rcases List.mem_append.1 he with he | he
      · rw [pick_path he]; right; simp [putE]
      · rcases h3 e he with h | h
        · cases h
        · right; simp only [List.map_cons]; exact List.mem_cons_of_mem _ h
  | s :: l, f :: t, hl, ht => by
    have hl' := List.pairwise_cons.1 hl
    have ht' := List.pairwise_cons.1 ht
    by_cases hlt : s.path < f.path
    · obtain ⟨h1, h2, h3⟩ := scan_law l (f :: t) hl'.2 ht
      rw [scanP, if_pos hlt]
      have hnt : ∀ g ∈ f :: t, ¬ s.path = g.path := fun g hg e => by
        rcases List.mem_cons.1 hg with rfl | hg
        · rw [e] at hlt; exact k_irr _ hlt
        · have := k_trans hlt (ht'.1 g hg)
          rw [e] at this; exact k_irr _ this
      refine ⟨pick_srt h1 fun x hx => ?_, ?_, fun e he => ?_⟩
      · rcases h3 x hx with h | h
        · obtain ⟨y, hy, e⟩ := List.mem_map.1 h
          rw [← e]; exact hl'.1 y hy
        · obtain ⟨y, hy, e⟩ := List.mem_map.1 h
          rw [← e]
          rcases List.mem_cons.1 hy with rfl | hy
          · exact fun h => k_irr _ (k_trans h hlt)
          · exact fun h => k_irr _ (k_trans h (k_trans hlt (ht'.1 y hy)))
      · have e1 : putsOf (s :: l) (f :: t) = putsOf l (f :: t) := by
          unfold putsOf
          congr 1
          refine List.filter_congr fun g hg => ?_
          unfold wants
          rw [mainS_cons_ne (hnt g hg)]
        have e2 : delsOf (s :: l) (f :: t) = pick (ownP s.path) (delE s) ++ delsOf l (f :: t) := by
          unfold delsOf pick
          rw [List.filter_cons]
          have : lost (f :: t) s = ownP s.path := by
            unfold lost
            have : findF (f :: t) s.path = none := by
              unfold findF
              rw [List.find?_eq_none]
              intro g hg
              simpa using fun e => hnt g hg e.symm
            rw [this]; simp
          rw [this]
          split <;> simp_all
        rw [e1, e2]
        refine Stab.trans ?_ ((Stab.refl _).app h2)
        rw [← List.append_assoc, ← List.append_assoc]
        refine Stab.app (Stab.swap _ _ fun x hx y hy e => ?_) (Stab.refl _)
        rw [pick_path hy] at e
        unfold putsOf at hx
        obtain ⟨g, hg, rfl⟩ := List.mem_map.1 hx
        exact hnt g (List.mem_filter.1 hg).1 e.symm
      · rcases List.mem_append.1 he with he | he
        · rw [pick_path he]; left; simp [delE]
        · rcases h3 e he with h | h
          · left; simp only [List.map_cons]; exact List.mem_cons_of_mem _ h
          · exact .inr h
    · obtain ⟨D, hD⟩ : ∃ D, D = (s :: l).dropWhile fun x => decide (x.path = f.path) := ⟨_, rfl⟩
      have hDs : List.Sublist D (s :: l) := hD ▸ List.dropWhile_sublist _
      have hDl : D.length ≤ (s :: l).length := hDs.length_le
      simp only [List.length_cons] at hDl
      obtain ⟨h1, h2, h3⟩ := scan_law D t (hl.sublist hDs) ht'.2
      rw [scanP, if_neg hlt, ← hD]
      -- what is left stands behind f
      have hDgt : ∀ x ∈ D, f.path < x.path := by
        intro x hx
        cases hDc : D with
        | nil => rw [hDc] at hx; cases hx
        | cons d D' =>
          have hne : ¬ d.path = f.path := by
            have := List.head?_dropWhile_not (fun x : Shw => decide (x.path = f.path)) (s :: l)
            rw [← hD, hDc] at this
            simpa using this
          have hd : d ∈ s :: l := hDs.mem (by rw [hDc]; exact List.mem_cons_self ..)
          have hfd : ¬ d.path < f.path := by
            rcases List.mem_cons.1 hd with rfl | hd
            · exact hlt
            · intro h
              have := hl'.1 d hd
              by_cases e : s.path < d.path
              · exact hlt (k_trans e h)
              · exact hlt (by rw [k_tri e this]; exact h)
          have hfd2 : f.path < d.path := by
            by_cases e : f.path < d.path
            · exact e
            · exact absurd (k_tri hfd e) hne
          rw [hDc] at hx
          rcases List.mem_cons.1 hx with rfl | hx
          · exact hfd2
          · have hs := hl.sublist hDs
            rw [hDc] at hs
            exact lt_le hfd2 ((List.pairwise_cons.1 hs).1 x hx)
      obtain ⟨E, hE, hEp⟩ : ∃ E, s :: l = E ++ D ∧ ∀ x ∈ E, x.path = f.path := ⟨(s :: l).takeWhile fun x => decide (x.path = f.path), by rw [hD, List.takeWhile_append_dropWhile], fun x hx => by
        have := List.all_takeWhile (p := fun x : Shw => decide (x.path = f.path)) (l := s :: l)
        rw [List.all_eq_true] at this
        simpa using this x hx⟩
      refine ⟨pick_srt h1 fun x hx => ?_, ?_, fun e he => ?_⟩
      · rcases h3 x hx with h | h
        · obtain ⟨y, hy, e⟩ := List.mem_map.1 h
          rw [← e]; exact fun h => k_irr _ (k_trans h (hDgt y hy))
        · obtain ⟨y, hy, e⟩ := List.mem_map.1 h
          rw [← e]; exact fun h => k_irr _ (k_trans h (ht'.1 y hy))
      · have hmain : ∀ g ∈ t, mainS (s :: l) g.path = mainS D g.path := fun g hg => by
          unfold mainS
          rw [hE, List.find?_append]
          have : E.find? (fun s => decide (s.path = g.path)) = none := by
            rw [List.find?_eq_none]
            intro x hx
            have hfg := ht'.1 g hg
            simp only [decide_eq_true_eq, hEp x hx]
            intro e; rw [e] at hfg; exact k_irr _ hfg
          rw [this]; rfl
        have hw : wants (s :: l) f = (ownP f.path && (decide (f.path < s.path) || !fitS s f.data)) := by
          unfold wants
          congr 1
          by_cases e : s.path = f.path
          · have : mainS (s :: l) f.path = some s := by simp [mainS, List.find?_cons, e]
            rw [this, e]
            have : decide (f.path < f.path) = false := decide_eq_false (k_irr _)
            rw [this]; simp
          · have hfs : f.path < s.path := by
              by_cases e2 : f.path < s.path
              · exact e2
              · exact absurd (k_tri hlt e2) e
            have : mainS (s :: l) f.path = none := by
              unfold mainS
              rw [List.find?_eq_none]
              intro x hx
              have : f.path < x.path := by
                rcases List.mem_cons.1 hx with rfl | hx
                · exact hfs
                · exact lt_le hfs (hl'.1 x hx)
              simp only [decide_eq_true_eq]
              intro e; rw [e] at this; exact k_irr _ this
            rw [this]; simp [hfs]
        have e1 : putsOf (s :: l) (f :: t) = pick (ownP f.path && (decide (f.path < s.path) || !fitS s f.data)) (putE f) ++ putsOf D t := by
          unfold putsOf pick
          rw [List.filter_cons, hw]
          have : t.filter (wants (s :: l)) = t.filter (wants D) := List.filter_congr fun g hg => by unfold wants; rw [hmain g hg]
          rw [this]
          split <;> rfl
        have e2 : delsOf (s :: l) (f :: t) = delsOf D t := by
          unfold delsOf
          congr 1
          rw [hE, List.filter_append]
          have : E.filter (lost (f :: t)) = [] := by
            rw [List.filter_eq_nil_iff]
            intro x hx
            simp [lost, findF, List.find?_cons, hEp x hx]
          rw [this, List.nil_append]
          refine List.filter_congr fun x hx => ?_
          unfold lost
          rw [findF_cons_ne]
          intro e
          have := hDgt x hx
          rw [e] at this; exact k_irr _ this
        rw [e1, e2, List.append_assoc]
        exact (Stab.refl _).app h2
      · rcases List.mem_append.1 he with he | he
        · rw [pick_path he]; right; simp [putE]
        · rcases h3 e he with h | h
          · left
            obtain ⟨y, hy, e⟩ := List.mem_map.1 h
            rw [← e]
            exact List.mem_map_of_mem (hDs.mem hy)
          · right; simp only [List.map_cons]; exact List.mem_cons_of_mem _ h
termination_by l t => l.length + t.length
decreasing_by
  all_goals simp only [List.length_cons] at *
  all_goals omega
/-- In a stable order what stands first at a path is the same. -/
theorem mainS_stab {l m : List Shw} (h : Stab Shw.path l m) (p : List UInt8) : mainS l p = mainS m p := by
  unfold mainS
  rw [← List.head?_filter, ← List.head?_filter, h]
theorem dels_stab {l m : List Shw} (h : Stab Shw.path l m) (t : List Fil) : Stab Edt.path (delsOf l t) (delsOf m t) := by
  intro k
  have e : ∀ n : List Shw, (delsOf n t).filter (fun x => decide (x.path = k)) = ((n.filter fun x => decide (x.path = k)).filter (lost t)).map delE := fun n => by
    unfold delsOf
    rw [List.filter_map, List.filter_filter, List.filter_filter]
    congr 1
    refine List.filter_congr fun x _ => ?_
    simp only [Function.comp_def]
    rw [Bool.and_comm]
    rfl
  rw [e, e, h]
/-- **The program's merge of what is shown, in order, tells what the document does.** -/
theorem scan_eq (l : List Shw) {t : List Fil} (ht : Ris t) : scanP (sortS Shw.path l) t = scanR l t := by
  obtain ⟨h1, h2, _⟩ := scan_law (sortS Shw.path l) t (sortS_srt l) ht
  refine sortS_uniq h1 (Stab.trans ?_ h2)
  have : putsOf (sortS Shw.path l) t = putsOf l t := by
    unfold putsOf
    congr 1
    refine List.filter_congr fun g _ => ?_
    unfold wants
    rw [mainS_stab (sortS_stab l).symm]
  rw [this]
  exact (Stab.refl _).app (dels_stab (sortS_stab l) t)
end Go.AL.Path

/- Blocks of a row change places. -/
set_option linter.unusedSimpArgs false
set_option linter.unusedVariables false
set_option maxRecDepth 100000
namespace Go.AL.Path
open Go Go.RowKit Go.Proofs Go.AL
theorem getD_set' {α : Type} (l : List α) (i p : Nat) (x d : α) : (l.set i x).getD p d = if i = p ∧ i < l.length then x else l.getD p d := by
  rw [List.getD_eq_getElem?_getD, List.getElem?_set, List.getD_eq_getElem?_getD]
  by_cases h : i = p
  · subst h
    by_cases h2 : i < l.length
    · simp [h2]
    · simp [h2, List.getElem?_eq_none (Nat.le_of_not_lt h2)]
  · simp [h]
theorem ext_getD {α : Type} {l m : List α} (d : α) (h : l.length = m.length) (h2 : ∀ p, p < l.length → l.getD p d = m.getD p d) : l = m := by
  apply List.ext_getElem h
  intro p hp hq
  have := h2 p hp
  rwa [List.getD_eq_getElem?_getD, List.getD_eq_getElem?_getD, List.getElem?_eq_getElem hp, List.getElem?_eq_getElem hq] at this
def d36 : Shw := ⟨[], 0, 0, List.replicate 32 0, 0⟩
def swpAt (l : List Shw) (a b i p : Nat) : Shw := if a ≤ p ∧ p < a + i then l.getD (p - a + b) d36 else if b ≤ p ∧ p < b + i then l.getD (p - b + a) d36 else l.getD p d36
structure Swp (l : List Shw) (a b i : Nat) (m : List Shw) : Prop where
  len : m.length = l.length
  at' : ∀ p, m.getD p d36 = swpAt l a b i p
theorem Swp.zero (l : List Shw) (a b : Nat) : Swp l a b 0 l := ⟨rfl, fun p => by
  unfold swpAt
  rw [if_neg (by omega), if_neg (by omega)]⟩
theorem Swp.step {l m : List Shw} {a b i k : Nat} (h : Swp l a b i m) (hi : i < k) (hab : a + k ≤ b) (hb : b + k ≤ l.length) :
    Swp l a b (i + 1) ((m.set (a + i) (m.getD (b + i) d36)).set (b + i) (m.getD (a + i) d36)) := ⟨by simp [h.len], fun p => by
  rw [getD_set', getD_set', h.at', h.at', h.at', List.length_set, h.len]
  unfold swpAt
  by_cases h1 : b + i = p
  · subst h1
    rw [if_pos ⟨rfl, by omega⟩, if_neg (by omega), if_neg (by omega), if_neg (by omega), if_pos (by omega), show b + i - b + a = a + i by omega]
  · rw [if_neg (by omega)]
    by_cases h2 : a + i = p
    · subst h2
      rw [if_pos ⟨rfl, by omega⟩, if_neg (by omega), if_neg (by omega), if_pos (by omega), show a + i - a + b = b + i by omega]
    · rw [if_neg (by omega)]
      by_cases h3 : a ≤ p ∧ p < a + i
      · rw [if_pos h3, if_pos (by omega)]
      · by_cases h4 : b ≤ p ∧ p < b + i
        · rw [if_neg h3, if_pos h4, if_neg (by omega), if_pos (by omega)]
        · rw [if_neg h3, if_neg h4, if_neg (by omega), if_neg (by omega)]⟩
theorem Swp.all {l m : List Shw} {a b i : Nat} (h : Swp l a b i m) (ho : shwE.all l) (h0 : ShwOk d36) : shwE.all m := by
  intro x hx
  obtain ⟨p, hp, rfl⟩ := List.getElem_of_mem hx
  have hg : ∀ q, ShwOk (l.getD q d36) := fun q => by
    rw [List.getD_eq_getElem?_getD]
    by_cases hq : q < l.length
    · rw [List.getElem?_eq_getElem hq]; exact ho _ (List.getElem_mem hq)
    · rw [List.getElem?_eq_none (Nat.le_of_not_lt hq)]; exact h0
  have := h.at' p
  rw [List.getD_eq_getElem?_getD, List.getElem?_eq_getElem hp] at this
  change m[p] = _ at this
  rw [this]
  unfold swpAt
  split
  · exact hg _
  · split <;> exact hg _
theorem d36_ok : ShwOk d36 := ⟨by decide, by decide⟩
theorem blkSwap {α : Type} (d : α) (A X M Y B : List α) (hxy : X.length = Y.length) (p : Nat) (hp : p < (A ++ X ++ M ++ Y ++ B).length) :
  (if A.length ≤ p ∧ p < A.length + X.length then (A ++ X ++ M ++ Y ++ B).getD (p - A.length + (A ++ X ++ M).length) d else if (A ++ X ++ M).length ≤ p ∧ p < (A ++ X ++ M).length + X.length then (A ++ X ++ M ++ Y ++ B).getD (p - (A ++ X ++ M).length + A.length) d else (A ++ X ++ M ++ Y ++ B).getD p d) = (A ++ Y ++ M ++ X ++ B).getD p d := by
  simp only [List.getD_eq_getElem?_getD, List.length_append] at *
  simp only [List.getElem?_append, List.length_append]
  split
  · repeat' (first | (rw [if_pos (by omega)]) | (rw [if_neg (by omega)]))
    congr 2; omega
  · split
    · repeat' (first | (rw [if_pos (by omega)]) | (rw [if_neg (by omega)]))
      congr 2; omega
    · have hh : p < A.length ∨ (A.length + X.length ≤ p ∧ p < A.length + X.length + M.length) ∨ A.length + X.length + M.length + Y.length ≤ p := by omega
      rcases hh with hh | hh | hh
      all_goals
        repeat' (first | (rw [if_pos (by omega)]) | (rw [if_neg (by omega)]))
        try (first | rfl | (congr 2; omega))
/-- In blocks. -/
theorem Swp.blocks {A X M Y B m : List Shw} {a b k : Nat} (h : Swp (A ++ X ++ M ++ Y ++ B) a b k m) (ha : a = A.length) (hb : b = (A ++ X ++ M).length) (hk : k = X.length) (hxy : X.length = Y.length) : m = A ++ Y ++ M ++ X ++ B := by
  subst ha hb hk
  refine ext_getD d36 (by rw [h.len]; simp only [List.length_append]; omega) fun p hp => ?_
  rw [h.at']
  exact blkSwap d36 A X M Y B hxy p (by rw [← h.len]; exact hp)
theorem shws_len (l : List Shw) : (l.map shwE.v).length = l.length := List.length_map ..
theorem shws_get {l : List Shw} {p : Nat} (h : p < l.length) : (l.map shwE.v)[p]? = some (.agg (shwC (l.getD p d36))) := by
  rw [List.getElem?_map, List.getD_eq_getElem?_getD, List.getElem?_eq_getElem h]; rfl
theorem shws_set (l : List Shw) (p : Nat) (x : Shw) : (l.map shwE.v).set p (.agg (shwC x)) = (l.set p x).map shwE.v := by rw [List.map_set]
theorem shw_len {x : Shw} (h : ShwOk x) : (shwC x).length = 36 := shwE.len h
theorem shw_take {x : Shw} (h : ShwOk x) : (shwC x).take 36 = shwC x := List.take_of_length_le (by rw [shw_len h]; exact Nat.le_refl _)
theorem shw_getD {l : List Shw} (ho : shwE.all l) (p : Nat) : ShwOk (l.getD p d36) := by
  rw [List.getD_eq_getElem?_getD]
  by_cases hq : p < l.length
  · rw [List.getElem?_eq_getElem hq]; exact ho _ (List.getElem_mem hq)
  · rw [List.getElem?_eq_none (Nat.le_of_not_lt hq)]; exact d36_ok
theorem low_setR {H : List AObj} {id ver te : Nat} (hlow : ∀ o ∈ H, o.low H.length) (l : List Shw) : ∀ o ∈ H.set id (.row te 36 ver (l.map shwE.v)), o.low H.length := by
  intro o ho
  rcases List.mem_or_eq_of_mem_set ho with h | h
  · exact hlow o h
  · subst h; exact shwE.low_vs _ _
def c87 : ACode := (.seq (.reg false 0 [⟨(.some 10), none, (.q .mv), [(.c (.imm (.int .i64 0)))]⟩]) (.block 0 (.loop (.seq (.seq (.reg false 0 [⟨(.some 11), none, (.q .mv), [(.t 10)]⟩, ⟨(.some 12), none, (.q .mv), [(.t 3)]⟩, ⟨(.some 13), none, (.q (.bin .lss 3)), [(.t 11), (.t 12)]⟩]) (.cond (.t 13) .skip (.exit 0))) (.seq (.block 1 (.reg true 0 [⟨(.some 16), none, (.q .mv), [(.t 0)]⟩, ⟨(.some 17), none, (.q .mv), [(.t 1)]⟩, ⟨(.some 18), none, (.q .mv), [(.t 10)]⟩, ⟨(.some 19), none, (.q (.bin .add 3)), [(.t 17), (.t 18)]⟩, ⟨(.some 20), none, (.q .mv), [(.t 0)]⟩, ⟨(.some 21), none, (.q .mv), [(.t 2)]⟩, ⟨(.some 22), none, (.q .mv), [(.t 10)]⟩, ⟨(.some 23), none, (.q (.bin .add 3)), [(.t 21), (.t 22)]⟩, ⟨(.some 24), none, (.q .mv), [(.t 0)]⟩, ⟨(.some 25), none, (.q .mv), [(.t 2)]⟩, ⟨(.some 26), none, (.q .mv), [(.t 10)]⟩, ⟨(.some 27), none, (.q (.bin .add 3)), [(.t 25), (.t 26)]⟩, ⟨(.some 28), none, (.q (.iaddrS 36)), [(.t 24), (.t 27)]⟩, ⟨(.some 29), none, (.l (.loadA 36)), [(.t 28)]⟩, ⟨(.some 30), none, (.q .mv), [(.t 0)]⟩, ⟨(.some 31), none, (.q .mv), [(.t 1)]⟩, ⟨(.some 32), none, (.q .mv), [(.t 10)]⟩, ⟨(.some 33), none, (.q (.bin .add 3)), [(.t 31), (.t 32)]⟩, ⟨(.some 34), none, (.q (.iaddrS 36)), [(.t 30), (.t 33)]⟩, ⟨(.some 35), none, (.l (.loadA 36)), [(.t 34)]⟩, ⟨(.some 36), none, (.q (.iaddrS 36)), [(.t 16), (.t 19)]⟩, ⟨none, none, (.e (.store 36)), [(.t 36), (.t 29)]⟩, ⟨(.some 37), none, (.q (.iaddrS 36)), [(.t 20), (.t 23)]⟩, ⟨none, none, (.e (.store 36)), [(.t 37), (.t 35)]⟩])) (.reg false 0 [⟨(.some 14), none, (.q .mv), [(.t 10)]⟩, ⟨(.some 15), none, (.q (.bin .add 3)), [(.t 14), (.c (.imm (.int .i64 1)))]⟩, ⟨(.some 10), none, (.q .mv), [(.t 15)]⟩]))))))
theorem fn87 : IsFn Tryz.prog 87 [] c87 [] 38 := ⟨_, _, Tryz.func87, rfl, by decide +kernel, by kernel_rfl, rfl, rfl⟩
set_option maxHeartbeats 4000000 in
theorem o87 {H : List AObj} {id ver te : Nat} {l m : List Shw} {a b k : Nat} (hH : H[id]? = some (.row te 36 ver (l.map shwE.v))) (hlow : ∀ o ∈ H, o.low H.length) (ho : shwE.all l) (hs : l.length ≤ 1099511627) (hab : a + k ≤ b) (hb : b + k ≤ l.length)
    (hm' : Swp l a b k m) : Ok Tryz.prog G 87 [.rs id ver 36 0 l.length, i64 a, i64 b, i64 k, cmpF] H (.tup []) (H.set id (.row te 36 ver (m.map shwE.v))) := by
  have hid : id < H.length := SimH.lt hH
  have hself := RowH_self hH
  refine ok_of_code (S := sp [] []) hm hG (sp_holds .nil .nil) fn87
    (St 11 38 [.rs id ver 36 0 l.length, i64 a, i64 b, i64 k, cmpF, .junk, .junk, .junk, .junk, .junk, .junk] []) (by kernel_rfl) (by simp [AV.low, lows, hid, cmpF]) (by simp) (by rw [List.length_set]; exact low_setR hlow _) ?_
  have hle : ∀ o, ((RowH H id o []).length ≤ id) = False := fun o => eq_false (by rw [RowH_length]; simp; exact hid)
  generalize hn0 : H.length = N
  rw [hself]
  simp (maxSteps := 2000000) -implicitDefEqProofs only [c87, RS, RX, Nat.reduceLT, ↓RP0, ↓RP1, ↓RP2, ↓RP3, RV, RW, ↓reduceIte, Nat.reduceAdd, Nat.reduceSub, Nat.reduceMul, Nat.reduceLeDiff, Nat.reduceEqDiff, Int.reduceLT, Int.reduceLE, Int.reduceEq, Int.reduceNe, Int.reduceAdd, Int.reduceSub, Int.reduceMul, Int.reduceNeg, Int.reduceToNat, reduceCtorEq]
  refine loopB (st := fun (x : Nat × List Shw) => (St 11 38 [.rs id ver 36 0 l.length, i64 a, i64 b, i64 k, cmpF, .junk, .junk, .junk, .junk, .junk, i64 x.1] [])) (hp := fun x => RowH H id (.row te 36 ver (x.2.map shwE.v)) []) (I := fun x => x.1 ≤ k ∧ Swp l a b x.1 x.2) (m := fun x => k - x.1) (0, l) ⟨Nat.zero_le _, Swp.zero l a b⟩ ?_ ?_
  · subst hn0
    refine weak_cutS H.length (Nat.le_refl _) ?_ ?_ ?_
    · rw [RowH_take, RowH_nil]
    · rw [RowH_nil]; exact low_setR hlow _
    · simp [WeakL, AV.low, lows, hid, cmpF]
  · rintro ⟨i, c⟩ ⟨hi, hc⟩
    dsimp only at hi hc ⊢
    by_cases hlt : i < k
    · have e1 : ((i : Int) < (k : Int)) = True := eq_true (by omega)
      have lc := hc.len
      have oc := hc.all ho d36_ok
      have ga := shws_get (l := c) (p := a + i) (by omega)
      have gb := shws_get (l := c) (p := b + i) (by omega)
      have xa := shw_getD oc (a + i)
      have xb := shw_getD oc (b + i)
      have hst := hc.step hlt hab hb
      generalize c.getD (a + i) d36 = x at *
      generalize c.getD (b + i) d36 = y at *
      have l1 := shw_len xa
      have k1 := shw_take xa
      have l2 := shw_len xb
      have k2 := shw_take xb
      have i1 : ((a : Int) + (i : Int)).toNat = a + i := by omega
      have i2 : ((b : Int) + (i : Int)).toNat = b + i := by omega
      simp (maxSteps := 2000000) -implicitDefEqProofs only [RS, RX, Nat.reduceLT, ↓RP0, ↓RP1, ↓RP2, ↓RP3, RV, RW, ↓reduceIte, Nat.reduceAdd, Nat.reduceSub, Nat.reduceMul, Nat.reduceLeDiff, Nat.reduceEqDiff, Int.reduceLT, Int.reduceLE, Int.reduceEq, Int.reduceNe, Int.reduceAdd, Int.reduceSub, Int.reduceMul, Int.reduceNeg, Int.reduceToNat, reduceCtorEq, e1, ga, gb, i1, i2, l1, l2, k1, k2, shw_strip, shws_len, lc, RowH_id hid, RowH_setId hid, hle, AV.cells, shws_set, List.length_set]
      refine ⟨⟨by omega, by omega⟩, ⟨by omega, by omega⟩, ⟨by omega, by omega⟩, by omega, by omega, ⟨by omega, by omega⟩, by omega, by omega, by omega, by omega, by omega, by omega, by omega, by omega, ⟨by omega, by omega⟩, (i + 1, (c.set (a + i) y).set (b + i) x), by dsimp only; omega, ⟨by dsimp only; omega, hst⟩, ?_⟩
      dsimp only
      subst hn0
      refine weak_cutS H.length (Nat.le_refl _) ?_ ?_ ?_
      · rw [RowH_take, RowH_nil]
      · rw [RowH_nil]; exact low_setR hlow _
      · simp [WeakL, AV.low, lows, hid, cmpF]
    · obtain rfl : i = k := by omega
      have e1 : ((i : Int) < (i : Int)) = False := eq_false (by omega)
      obtain rfl : m = c := ext_getD d36 (by rw [hm'.len, hc.len]) fun p _ => by rw [hm'.at', hc.at']
      simp (maxSteps := 2000000) -implicitDefEqProofs only [RS, RX, Nat.reduceLT, ↓RP0, ↓RP1, ↓RP2, ↓RP3, RV, RW, ↓reduceIte, Nat.reduceAdd, Nat.reduceSub, Nat.reduceMul, Nat.reduceLeDiff, Nat.reduceEqDiff, Int.reduceLT, Int.reduceLE, Int.reduceEq, Int.reduceNe, Int.reduceAdd, Int.reduceSub, Int.reduceMul, Int.reduceNeg, Int.reduceToNat, reduceCtorEq, e1, retO_normal, retO_ret]
      rw [RowH_setId hid]
      exact List.take_length
def swp87 : TSp := fun args H K => ∃ (id ver te : Nat) (l m : List Shw) (a b k : Nat), args = [.rs id ver 36 0 l.length, i64 a, i64 b, i64 k, cmpF] ∧ H[id]? = some (.row te 36 ver (l.map shwE.v)) ∧ (∀ o ∈ H, o.low H.length) ∧ shwE.all l ∧ l.length ≤ 1099511627 ∧ a + k ≤ b ∧ b + k ≤ l.length ∧ Swp l a b k m ∧ K (.tup []) (H.set id (.row te 36 ver (m.map shwE.v)))
theorem told_swp87 : ToldT Tryz.prog G 87 swp87 := by
  rintro args H K ⟨id, ver, te, l, m, a, b, k, rfl, h1, h2, h3, h4, h5, h6, h7, h8⟩
  exact ⟨_, _, o87 h1 h2 h3 h4 h5 h6 h7, h8⟩
/-- What the exchange makes. -/
def swpL (l : List Shw) (a b k : Nat) : List Shw := (List.range l.length).map (swpAt l a b k)
theorem swpL_swp (l : List Shw) (a b k : Nat) (h : b + k ≤ l.length) (hab : a + k ≤ b) : Swp l a b k (swpL l a b k) := ⟨by simp [swpL], fun p => by
  unfold swpL
  rw [List.getD_eq_getElem?_getD, List.getElem?_map]
  by_cases hp : p < l.length
  · rw [List.getElem?_range hp]; rfl
  · rw [List.getElem?_eq_none (by simp; omega)]
    unfold swpAt
    rw [if_neg (by omega), if_neg (by omega), List.getD_eq_getElem?_getD, List.getElem?_eq_none (by omega)]
    rfl⟩
theorem askT_swp87 {H : List AObj} {id ver te : Nat} {l m : List Shw} {a b k n : Nat} {K : AV → List AObj → Prop} (hn : n = l.length) (hH : H[id]? = some (.row te 36 ver (l.map shwE.v))) (hlow : ∀ o ∈ H, o.low H.length) (ho : shwE.all l) (hs : l.length ≤ 1099511627) (hab : a + k ≤ b) (hb : b + k ≤ l.length) (hm' : Swp l a b k m)
    (h : K (.tup []) (H.set id (.row te 36 ver (m.map shwE.v)))) : askT swp87 [.rs id ver 36 0 n, i64 a, i64 b, i64 k, cmpF] H K := by
  subst hn
  exact ⟨id, ver, te, l, m, a, b, k, rfl, hH, hlow, ho, hs, hab, hb, hm', h⟩
section
variable {H : List AObj} {id ver te : Nat}
theorem rowH_low (hlow : ∀ o ∈ H, o.low H.length) (l : List Shw) : ∀ o ∈ RowH H id (.row te 36 ver (l.map shwE.v)) [], o.low (RowH H id (.row te 36 ver (l.map shwE.v)) []).length := by
  rw [RowH_length, RowH_nil]; exact low_setR hlow l
theorem ask87R {c m : List Shw} {a b k n : Nat} {x y z : Int} {K : AV → List AObj → Prop} (hid : id < H.length) (hlow : ∀ o ∈ H, o.low H.length) (hx : x = a) (hy : y = b) (hz : z = k) (hn : n = c.length) (ho : shwE.all c) (hs : c.length ≤ 1099511627) (hab : a + k ≤ b) (hb : b + k ≤ c.length) (hm' : Swp c a b k m)
    (h : K (.tup []) (RowH H id (.row te 36 ver (m.map shwE.v)) [])) : askT swp87 [.rs id ver 36 0 n, i64 x, i64 y, i64 z, cmpF] (RowH H id (.row te 36 ver (c.map shwE.v)) []) K := by
  subst hn hx hy hz
  exact askT_swp87 rfl (RowH_id hid) (rowH_low hlow c) ho hs hab hb hm' (by rw [RowH_setId hid]; exact h)
end
theorem Swp.fin {A X M Y B : List Shw} {c : List Shw} {a b k : Nat} (hc : c = A ++ X ++ M ++ Y ++ B) (ha : a = A.length) (hb : b = (A ++ X ++ M).length) (hk : k = X.length) (hxy : X.length = Y.length) : Swp c a b k (A ++ Y ++ M ++ X ++ B) := by
  have h := swpL_swp c a b k (by subst hc hb hk; simp only [List.length_append]; omega) (by subst ha hb hk; simp only [List.length_append]; omega)
  have h2 := h
  rw [hc] at h2
  rw [← h2.blocks ha hb hk hxy, ← hc]; exact h
theorem split_at {α : Type} {n : Nat} (X : List α) (h : n ≤ X.length) : ∃ X1 X2, X = X1 ++ X2 ∧ X1.length = n ∧ X2.length = X.length - n := ⟨X.take n, X.drop n, (List.take_append_drop n X).symm, by rw [List.length_take]; omega, List.length_drop ..⟩
structure RotI (t : List Shw) (m i j : Nat) (c A X Y B : List Shw) : Prop where
  hc : c = A ++ X ++ Y ++ B
  ht : t = A ++ Y ++ X ++ B
  hx : X.length = i
  hy : Y.length = j
  hm : A.length + i = m
  hi : 0 < i
  hj : 0 < j
def c71 : ACode := (.seq (.reg false 0 [⟨(.some 12), none, (.q .mv), [(.t 2)]⟩, ⟨(.some 13), none, (.q .mv), [(.t 1)]⟩, ⟨(.some 14), none, (.q (.bin .sub 3)), [(.t 12), (.t 13)]⟩, ⟨(.some 10), none, (.q .mv), [(.t 14)]⟩]) (.seq (.reg false 0 [⟨(.some 15), none, (.q .mv), [(.t 3)]⟩, ⟨(.some 16), none, (.q .mv), [(.t 2)]⟩, ⟨(.some 17), none, (.q (.bin .sub 3)), [(.t 15), (.t 16)]⟩, ⟨(.some 11), none, (.q .mv), [(.t 17)]⟩]) (.seq (.block 0 (.loop (.seq (.seq (.reg false 0 [⟨(.some 18), none, (.q .mv), [(.t 10)]⟩, ⟨(.some 19), none, (.q .mv), [(.t 11)]⟩, ⟨(.some 20), none, (.q (.bin .neq 3)), [(.t 18), (.t 19)]⟩]) (.cond (.t 20) .skip (.exit 0))) (.block 1 (.seq (.reg false 0 [⟨(.some 21), none, (.q .mv), [(.t 10)]⟩, ⟨(.some 22), none, (.q .mv), [(.t 11)]⟩, ⟨(.some 23), none, (.q (.bin .gtr 3)), [(.t 21), (.t 22)]⟩]) (.cond (.t 23) (.seq (.reg false 0 [⟨(.some 24), none, (.q .mv), [(.t 0)]⟩, ⟨(.some 25), none, (.q .mv), [(.t 2)]⟩, ⟨(.some 26), none, (.q .mv), [(.t 10)]⟩, ⟨(.some 27), none, (.q (.bin .sub 3)), [(.t 25), (.t 26)]⟩, ⟨(.some 28), none, (.q .mv), [(.t 2)]⟩, ⟨(.some 29), none, (.q .mv), [(.t 11)]⟩, ⟨(.some 30), none, (.q .mv), [(.t 4)]⟩, ⟨(.some 31), none, (.call true), [(.c (.fn (.func 87) [] [])), (.t 24), (.t 27), (.t 28), (.t 29), (.t 30)]⟩]) (.reg false 0 [⟨(.some 32), none, (.q .mv), [(.t 10)]⟩, ⟨(.some 33), none, (.q .mv), [(.t 11)]⟩, ⟨(.some 34), none, (.q (.bin .sub 3)), [(.t 32), (.t 33)]⟩, ⟨(.some 10), none, (.q .mv), [(.t 34)]⟩])) (.seq (.reg false 0 [⟨(.some 35), none, (.q .mv), [(.t 0)]⟩, ⟨(.some 36), none, (.q .mv), [(.t 2)]⟩, ⟨(.some 37), none, (.q .mv), [(.t 10)]⟩, ⟨(.some 38), none, (.q (.bin .sub 3)), [(.t 36), (.t 37)]⟩, ⟨(.some 39), none, (.q .mv), [(.t 2)]⟩, ⟨(.some 40), none, (.q .mv), [(.t 11)]⟩, ⟨(.some 41), none, (.q (.bin .add 3)), [(.t 39), (.t 40)]⟩, ⟨(.some 42), none, (.q .mv), [(.t 10)]⟩, ⟨(.some 43), none, (.q (.bin .sub 3)), [(.t 41), (.t 42)]⟩, ⟨(.some 44), none, (.q .mv), [(.t 10)]⟩, ⟨(.some 45), none, (.q .mv), [(.t 4)]⟩, ⟨(.some 46), none, (.call true), [(.c (.fn (.func 87) [] [])), (.t 35), (.t 38), (.t 43), (.t 44), (.t 45)]⟩]) (.reg false 0 [⟨(.some 47), none, (.q .mv), [(.t 11)]⟩, ⟨(.some 48), none, (.q .mv), [(.t 10)]⟩, ⟨(.some 49), none, (.q (.bin .sub 3)), [(.t 47), (.t 48)]⟩, ⟨(.some 11), none, (.q .mv), [(.t 49)]⟩])))))))) (.reg false 0 [⟨(.some 50), none, (.q .mv), [(.t 0)]⟩, ⟨(.some 51), none, (.q .mv), [(.t 2)]⟩, ⟨(.some 52), none, (.q .mv), [(.t 10)]⟩, ⟨(.some 53), none, (.q (.bin .sub 3)), [(.t 51), (.t 52)]⟩, ⟨(.some 54), none, (.q .mv), [(.t 2)]⟩, ⟨(.some 55), none, (.q .mv), [(.t 10)]⟩, ⟨(.some 56), none, (.q .mv), [(.t 4)]⟩, ⟨(.some 57), none, (.call true), [(.c (.fn (.func 87) [] [])), (.t 50), (.t 53), (.t 54), (.t 55), (.t 56)]⟩]))))
theorem fn71 : IsFn Tryz.prog 71 [] c71 [] 58 := ⟨_, _, Tryz.func71, rfl, by decide +kernel, by kernel_rfl, rfl, rfl⟩
set_option maxHeartbeats 4000000 in
theorem o71 {H : List AObj} {id ver te : Nat} {l t : List Shw} {a m b : Nat} {A X Y B : List Shw} (hH : H[id]? = some (.row te 36 ver (l.map shwE.v))) (hlow : ∀ o ∈ H, o.low H.length) (ho : shwE.all l) (hs : l.length ≤ 1099511627)
    (hl : l = A ++ X ++ Y ++ B) (ht : t = A ++ Y ++ X ++ B) (ha : A.length = a) (hm' : A.length + X.length = m) (hb : A.length + X.length + Y.length = b) (hx : 0 < X.length) (hy : 0 < Y.length) :
    Ok Tryz.prog G 71 [.rs id ver 36 0 l.length, i64 a, i64 m, i64 b, cmpF] H (.tup []) (H.set id (.row te 36 ver (t.map shwE.v))) := by
  have hid : id < H.length := SimH.lt hH
  have hself := RowH_self hH
  refine ok_of_code (S := sp [] [(87, swp87)]) hm hG (sp_holds .nil (.cons told_swp87 .nil)) fn71
    (St 12 58 [.rs id ver 36 0 l.length, i64 a, i64 m, i64 b, cmpF, .junk, .junk, .junk, .junk, .junk, .junk, .junk] []) (by kernel_rfl) (by simp [AV.low, lows, hid, cmpF]) (by simp) (by rw [List.length_set]; exact low_setR hlow _) ?_
  have hle : ∀ o, ((RowH H id o []).length ≤ id) = False := fun o => eq_false (by rw [RowH_length]; simp; exact hid)
  generalize hn0 : H.length = N
  rw [hself]
  simp (maxSteps := 2000000) -implicitDefEqProofs only [c71, RS, RX, Nat.reduceLT, ↓RP0, ↓RP1, ↓RP2, ↓RP3, RV, RW, ↓reduceIte, Nat.reduceAdd, Nat.reduceSub, Nat.reduceMul, Nat.reduceLeDiff, Nat.reduceEqDiff, Int.reduceLT, Int.reduceLE, Int.reduceEq, Int.reduceNe, Int.reduceAdd, Int.reduceSub, Int.reduceMul, Int.reduceNeg, Int.reduceToNat, reduceCtorEq]
  have hlen : A.length + X.length + Y.length + B.length = l.length := by rw [hl]; simp [Nat.add_assoc]
  refine ⟨⟨by omega, by omega⟩, ⟨by omega, by omega⟩, ?_⟩
  refine loopB (st := fun (x : Nat × Nat × List Shw) => (St 12 58 [.rs id ver 36 0 l.length, i64 a, i64 m, i64 b, cmpF, .junk, .junk, .junk, .junk, .junk, i64 x.1, i64 x.2.1] [])) (hp := fun x => RowH H id (.row te 36 ver (x.2.2.map shwE.v)) []) (I := fun x => x.2.2.length = l.length ∧ shwE.all x.2.2 ∧ ∃ A X Y B, RotI t m x.1 x.2.1 x.2.2 A X Y B) (m := fun x => x.1 + x.2.1) (X.length, Y.length, l) ⟨rfl, ho, A, X, Y, B, hl, ht, rfl, rfl, hm', hx, hy⟩ ?_ ?_
  · have i1 : ((m : Int) - a) = (X.length : Int) := by omega
    have i2 : ((b : Int) - m) = (Y.length : Int) := by omega
    rw [i1, i2]
    subst hn0
    refine weak_cutS H.length (Nat.le_refl _) ?_ ?_ ?_
    · rw [RowH_take, RowH_nil]
    · rw [RowH_nil]; exact low_setR hlow _
    · simp [WeakL, AV.low, lows, hid, cmpF]
  · rintro ⟨i, j, c⟩ ⟨lc, oc, A, X, Y, B, hI⟩
    dsimp only at lc oc hI ⊢
    have hlen : A.length + X.length + Y.length + B.length = l.length := by rw [← lc, hI.hc]; simp [Nat.add_assoc]
    have := hI.hx
    have := hI.hy
    have := hI.hm
    have := hI.hi
    have := hI.hj
    have cs : c.length ≤ 1099511627 := by omega
    by_cases hij : i = j
    · subst hij
      have e1 : ((i : Int) = (i : Int)) = True := eq_true rfl
      have hsw : Swp c (m - i) m i t := by
        rw [hI.ht]
        have := Swp.fin (A := A) (X := X) (M := []) (Y := Y) (B := B) (c := c) (a := m - i) (b := m) (k := i) (by rw [hI.hc]; simp) (by omega) (by simp; omega) (by omega) (by omega)
        simpa using this
      simp (maxSteps := 2000000) -implicitDefEqProofs only [RS, RX, Nat.reduceLT, ↓RP0, ↓RP1, ↓RP2, ↓RP3, RV, RW, ↓reduceIte, Nat.reduceAdd, Nat.reduceSub, Nat.reduceMul, Nat.reduceLeDiff, Nat.reduceEqDiff, Int.reduceLT, Int.reduceLE, Int.reduceEq, Int.reduceNe, Int.reduceAdd, Int.reduceSub, Int.reduceMul, Int.reduceNeg, Int.reduceToNat, reduceCtorEq, e1, retO_normal, retO_ret]
      refine ⟨⟨by omega, by omega⟩, ?_⟩
      subst hn0
      refine ask87R hid hlow (by omega) rfl rfl lc.symm oc cs (by omega) (by omega) hsw ?_
      rw [RowH_setId hid]
      exact List.take_length
    · have e1 : ((i : Int) = (j : Int)) = False := eq_false (by omega)
      by_cases hgt : j < i
      · have e2 : ((j : Int) < (i : Int)) = True := eq_true (by omega)
        obtain ⟨X1, X2, rfl, hX1, hX2⟩ := split_at (n := j) X (by omega)
        simp only [List.length_append] at *
        have hsw : Swp c (m - i) m j (A ++ Y ++ X2 ++ X1 ++ B) :=
          Swp.fin (A := A) (X := X1) (M := X2) (Y := Y) (B := B) (c := c) (a := m - i) (b := m) (k := j) (by rw [hI.hc]; simp) (by omega) (by simp; omega) (by omega) (by omega)
        simp (maxSteps := 2000000) -implicitDefEqProofs only [RS, RX, Nat.reduceLT, ↓RP0, ↓RP1, ↓RP2, ↓RP3, RV, RW, ↓reduceIte, Nat.reduceAdd, Nat.reduceSub, Nat.reduceMul, Nat.reduceLeDiff, Nat.reduceEqDiff, Int.reduceLT, Int.reduceLE, Int.reduceEq, Int.reduceNe, Int.reduceAdd, Int.reduceSub, Int.reduceMul, Int.reduceNeg, Int.reduceToNat, reduceCtorEq, e1, e2]
        refine ⟨⟨by omega, by omega⟩, ?_⟩
        subst hn0
        refine ask87R hid hlow (by omega) rfl rfl lc.symm oc cs (by omega) (by omega) hsw ?_
        have i1 : ((i : Int) - j) = ((i - j : Nat) : Int) := by omega
        rw [i1]
        refine ⟨⟨by omega, by omega⟩, (i - j, j, A ++ Y ++ X2 ++ X1 ++ B), by dsimp only; omega, ⟨by rw [← lc, hI.hc]; simp only [List.length_append]; omega, ?_, A ++ Y, X2, X1, B, ⟨rfl, by rw [hI.ht]; simp, by omega, by omega, by simp; omega, by omega, by omega⟩⟩, ?_⟩
        · intro y hy
          refine oc y ?_
          rw [hI.hc]
          dsimp only at hy
          simp only [List.mem_append] at hy ⊢
          rcases hy with (((h | h) | h) | h) | h <;> simp [h]
        dsimp only
        refine weak_cutS H.length (Nat.le_refl _) ?_ ?_ ?_
        · rw [RowH_take, RowH_nil]
        · rw [RowH_nil]; exact low_setR hlow _
        · simp [WeakL, AV.low, lows, hid, cmpF]
      · have e2 : ((j : Int) < (i : Int)) = False := eq_false (by omega)
        obtain ⟨Y1, Y2, rfl, hY1, hY2⟩ := split_at (n := j - i) Y (by omega)
        simp only [List.length_append] at *
        have hsw : Swp c (m - i) (m + j - i) i (A ++ Y2 ++ Y1 ++ X ++ B) :=
          Swp.fin (A := A) (X := X) (M := Y1) (Y := Y2) (B := B) (c := c) (a := m - i) (b := m + j - i) (k := i) (by rw [hI.hc]; simp) (by omega) (by simp; omega) (by omega) (by omega)
        simp (maxSteps := 2000000) -implicitDefEqProofs only [RS, RX, Nat.reduceLT, ↓RP0, ↓RP1, ↓RP2, ↓RP3, RV, RW, ↓reduceIte, Nat.reduceAdd, Nat.reduceSub, Nat.reduceMul, Nat.reduceLeDiff, Nat.reduceEqDiff, Int.reduceLT, Int.reduceLE, Int.reduceEq, Int.reduceNe, Int.reduceAdd, Int.reduceSub, Int.reduceMul, Int.reduceNeg, Int.reduceToNat, reduceCtorEq, e1, e2]
        refine ⟨⟨by omega, by omega⟩, ⟨by omega, by omega⟩, ⟨by omega, by omega⟩, ?_⟩
        subst hn0
        refine ask87R hid hlow (by omega) (by omega) rfl lc.symm oc cs (by omega) (by omega) hsw ?_
        have i1 : ((j : Int) - i) = ((j - i : Nat) : Int) := by omega
        rw [i1]
        refine ⟨⟨by omega, by omega⟩, (i, j - i, A ++ Y2 ++ Y1 ++ X ++ B), by dsimp only; omega, ⟨by rw [← lc, hI.hc]; simp only [List.length_append]; omega, ?_, A, Y2, Y1, X ++ B, ⟨by simp, by rw [hI.ht]; simp, by dsimp only; omega, by dsimp only; omega, by have := hI.hm; dsimp only; omega, by dsimp only; omega, by dsimp only; omega⟩⟩, ?_⟩
        · intro y hy
          refine oc y ?_
          rw [hI.hc]
          dsimp only at hy
          simp only [List.mem_append] at hy ⊢
          rcases hy with (((h | h) | h) | h) | h <;> simp [h]
        dsimp only
        refine weak_cutS H.length (Nat.le_refl _) ?_ ?_ ?_
        · rw [RowH_take, RowH_nil]
        · rw [RowH_nil]; exact low_setR hlow _
        · simp [WeakL, AV.low, lows, hid, cmpF]
end Go.AL.Path

/- Insertion on a row. -/
set_option linter.unusedSimpArgs false
set_option linter.unusedVariables false
set_option maxRecDepth 100000
namespace Go.AL.Path
open Go Go.RowKit Go.Proofs Go.AL
def cmpZ (a b : List UInt8) : Int := if Op.bytesLess a b = true then -1 else if Op.bytesLess b a = true then 1 else 0
theorem cmpZ_lt {a b : List UInt8} : cmpZ a b < 0 ↔ a < b := by
  rw [← bl_lt]
  unfold cmpZ
  split
  · simp [*]
  · split <;> simp [*]
def c46 : ACode := (.seq (.reg false 0 [⟨(.some 2), none, (.q .mv), [(.c (.imm (.bool false)))]⟩]) (.seq (.reg false 0 [⟨(.some 3), none, (.q .mv), [(.t 0)]⟩, ⟨(.some 4), none, (.q .mv), [(.t 0)]⟩, ⟨(.some 5), none, (.q (.bin .neq 9)), [(.t 3), (.t 4)]⟩, ⟨(.some 2), none, (.q .mv), [(.t 5)]⟩]) .ret))
theorem fn46 : IsFn Tryz.prog 46 [] c46 [2] 6 := ⟨_, _, Tryz.func46, rfl, by decide +kernel, by kernel_rfl, rfl, rfl⟩
theorem p46 (s : List UInt8) : Pure Tryz.prog G 46 [T s] (bool false) := by
  refine pure_of_code' (S := sp [] []) hm hG (sp_holds .nil .nil) fn46 (St 3 6 [T s, .junk, .junk] []) (by kernel_rfl) ⟨trivial, trivial⟩ (by simp [AV.low]) ?_
  simp (maxSteps := 2000000) -implicitDefEqProofs only [c46, RS, RX, Nat.reduceLT, ↓RP0, ↓RP1, ↓RP2, ↓RP3, RV, RW, ↓reduceIte, Nat.reduceAdd, Nat.reduceSub, Nat.reduceMul, Nat.reduceLeDiff, Nat.reduceEqDiff, Int.reduceLT, Int.reduceLE, Int.reduceEq, Int.reduceNe, Int.reduceAdd, Int.reduceSub, Int.reduceMul, Int.reduceNeg, Int.reduceToNat, reduceCtorEq]
def c27 : ACode := (.seq (.reg false 0 [⟨(.some 4), none, (.q .mv), [(.c (.imm (.int .i64 0)))]⟩]) (.seq (.reg false 0 [⟨(.some 7), none, (.q .mv), [(.t 0)]⟩, ⟨(.some 8), none, (.call true), [(.c (.fn (.func 46) [] [])), (.t 7)]⟩, ⟨(.some 5), none, (.q .mv), [(.t 8)]⟩]) (.seq (.reg false 0 [⟨(.some 9), none, (.q .mv), [(.t 1)]⟩, ⟨(.some 10), none, (.call true), [(.c (.fn (.func 46) [] [])), (.t 9)]⟩, ⟨(.some 6), none, (.q .mv), [(.t 10)]⟩]) (.seq (.seq (.reg false 0 [⟨(.some 11), none, (.q .mv), [(.t 5)]⟩]) (.cond (.t 11) (.seq (.seq (.reg false 0 [⟨(.some 12), none, (.q .mv), [(.t 6)]⟩]) (.cond (.t 12) (.seq (.reg false 0 [⟨(.some 4), none, (.q .mv), [(.c (.imm (.int .i64 0)))]⟩]) .ret) .skip)) (.seq (.reg false 0 [⟨(.some 4), none, (.q .mv), [(.c (.imm (.int .i64 (-1))))]⟩]) .ret)) .skip)) (.seq (.seq (.reg false 0 [⟨(.some 13), none, (.q .mv), [(.t 6)]⟩]) (.cond (.t 13) (.seq (.reg false 0 [⟨(.some 4), none, (.q .mv), [(.c (.imm (.int .i64 1)))]⟩]) .ret) .skip)) (.seq (.seq (.reg false 0 [⟨(.some 14), none, (.q .mv), [(.t 0)]⟩, ⟨(.some 15), none, (.q .mv), [(.t 1)]⟩, ⟨(.some 16), none, (.q (.bin .lss 9)), [(.t 14), (.t 15)]⟩]) (.cond (.t 16) (.seq (.reg false 0 [⟨(.some 4), none, (.q .mv), [(.c (.imm (.int .i64 (-1))))]⟩]) .ret) .skip)) (.seq (.seq (.reg false 0 [⟨(.some 17), none, (.q .mv), [(.t 0)]⟩, ⟨(.some 18), none, (.q .mv), [(.t 1)]⟩, ⟨(.some 19), none, (.q (.bin .gtr 9)), [(.t 17), (.t 18)]⟩]) (.cond (.t 19) (.seq (.reg false 0 [⟨(.some 4), none, (.q .mv), [(.c (.imm (.int .i64 1)))]⟩]) .ret) .skip)) (.seq (.reg false 0 [⟨(.some 4), none, (.q .mv), [(.c (.imm (.int .i64 0)))]⟩]) .ret))))))))
theorem fn27 : IsFn Tryz.prog 27 [] c27 [4] 20 := ⟨_, _, Tryz.func27, rfl, by decide +kernel, by kernel_rfl, rfl, rfl⟩
theorem p27 (a b : List UInt8) (ha : a.length ≤ 1099511627) (hb : b.length ≤ 1099511627) : Pure Tryz.prog G 27 [T a, T b] (i64 (cmpZ a b)) := by
  refine pure_of_code' (S := sp [(46, txt1b (fun _ => True) (fun _ => false))] []) hm hG (sp_holds (.cons (told_txt1b fun s _ => p46 s) .nil) .nil) fn27 (St 7 20 [T a, T b, .junk, .junk, .junk, .junk, .junk] []) (by kernel_rfl) ⟨trivial, trivial, trivial⟩ (by simp [AV.low]) ?_
  cases h1 : Op.bytesLess a b with
  | true =>
    have : cmpZ a b = -1 := by unfold cmpZ; rw [if_pos h1]
    rw [this]
    simp (maxSteps := 2000000) -implicitDefEqProofs only [c27, RS, RX, Nat.reduceLT, ↓RP0, ↓RP1, ↓RP2, ↓RP3, RV, RW, ↓reduceIte, Nat.reduceAdd, Nat.reduceSub, Nat.reduceMul, Nat.reduceLeDiff, Nat.reduceEqDiff, Int.reduceLT, Int.reduceLE, Int.reduceEq, Int.reduceNe, Int.reduceAdd, Int.reduceSub, Int.reduceMul, Int.reduceNeg, Int.reduceToNat, reduceCtorEq, ↓binB_slss, ↓binB_sgtr, h1]
  | false =>
    cases h2 : Op.bytesLess b a with
    | true =>
      have : cmpZ a b = 1 := by unfold cmpZ; rw [if_neg (by simp [h1]), if_pos h2]
      rw [this]
      simp (maxSteps := 2000000) -implicitDefEqProofs only [c27, RS, RX, Nat.reduceLT, ↓RP0, ↓RP1, ↓RP2, ↓RP3, RV, RW, ↓reduceIte, Nat.reduceAdd, Nat.reduceSub, Nat.reduceMul, Nat.reduceLeDiff, Nat.reduceEqDiff, Int.reduceLT, Int.reduceLE, Int.reduceEq, Int.reduceNe, Int.reduceAdd, Int.reduceSub, Int.reduceMul, Int.reduceNeg, Int.reduceToNat, reduceCtorEq, ↓binB_slss, ↓binB_sgtr, h1, h2]
    | false =>
      have : cmpZ a b = 0 := by unfold cmpZ; rw [if_neg (by simp [h1]), if_neg (by simp [h2])]
      rw [this]
      simp (maxSteps := 2000000) -implicitDefEqProofs only [c27, RS, RX, Nat.reduceLT, ↓RP0, ↓RP1, ↓RP2, ↓RP3, RV, RW, ↓reduceIte, Nat.reduceAdd, Nat.reduceSub, Nat.reduceMul, Nat.reduceLeDiff, Nat.reduceEqDiff, Int.reduceLT, Int.reduceLE, Int.reduceEq, Int.reduceNe, Int.reduceAdd, Int.reduceSub, Int.reduceMul, Int.reduceNeg, Int.reduceToNat, reduceCtorEq, ↓binB_slss, ↓binB_sgtr, h1, h2]
def cmp27 : PSp := fun args K => ∃ a b : List UInt8, args = [T a, T b] ∧ a.length ≤ 1099511627 ∧ b.length ≤ 1099511627 ∧ K (i64 (cmpZ a b))
theorem told_cmp27 : Told Tryz.prog G 27 cmp27 := by
  rintro args K ⟨a, b, rfl, h1, h2, h3⟩
  exact ⟨_, p27 a b h1 h2, h3⟩
theorem ask_cmp27 {a b : List UInt8} (ha : a.length ≤ 1099511627) (hb : b.length ≤ 1099511627) {K} : ask cmp27 [T a, T b] K = K (i64 (cmpZ a b)) := by
  show (∃ c d : List UInt8, [T a, T b] = [T c, T d] ∧ _) = _
  rw [eq_iff_iff]
  constructor
  · rintro ⟨c, d, h, _, _, h3⟩
    injection h with h1 h2
    injection h2 with h2 _
    rw [T_inj.1 h1, T_inj.1 h2]; exact h3
  · exact fun h => ⟨a, b, rfl, ha, hb, h⟩
def c26 : ACode := (.seq (.reg false 2 [⟨(.some 2), none, (.m .box 0), [(.t 0)]⟩, ⟨(.some 3), none, (.m .box 1), [(.t 1)]⟩, ⟨(.some 4), none, (.q .mv), [(.c (.imm (.int .i64 0)))]⟩]) (.seq (.reg false 0 [⟨(.some 5), none, (.q (.faddr 0)), [(.t 2)]⟩, ⟨(.some 6), none, (.l .load1), [(.t 5)]⟩, ⟨(.some 7), none, (.q (.faddr 0)), [(.t 3)]⟩, ⟨(.some 8), none, (.l .load1), [(.t 7)]⟩, ⟨(.some 9), none, (.call true), [(.c (.fn (.func 27) [] [])), (.t 6), (.t 8)]⟩, ⟨(.some 4), none, (.q .mv), [(.t 9)]⟩]) .ret))
theorem fn26 : IsFn Tryz.prog 26 [] c26 [4] 10 := ⟨_, _, Tryz.func26, rfl, by decide +kernel, by kernel_rfl, rfl, rfl⟩
theorem p26 (a b : Shw) (ha : ShwOk a) (hb : ShwOk b) : Pure Tryz.prog G 26 [shwV a, shwV b] (i64 (cmpZ a.path b.path)) := by
  refine pure_of_code' (S := sp [(27, cmp27)] []) hm hG (sp_holds (.cons told_cmp27 .nil) .nil) fn26 (St 5 10 [shwV a, shwV b, .junk, .junk, .junk] []) (by kernel_rfl) ⟨shwE.low 0 a, shwE.low 0 b, trivial⟩ (by simp [AV.low]) ?_
  have q : ∀ K, ask cmp27 [T a.path, T b.path] K = K (i64 (cmpZ a.path b.path)) := fun K => ask_cmp27 ha.path hb.path
  have la := shw_len ha
  have lb := shw_len hb
  simp (maxSteps := 2000000) -implicitDefEqProofs only [c26, RS, RX, Nat.reduceLT, ↓RP0, ↓RP1, ↓RP2, ↓RP3, RV, RW, ↓reduceIte, Nat.reduceAdd, Nat.reduceSub, Nat.reduceMul, Nat.reduceLeDiff, Nat.reduceEqDiff, Int.reduceLT, Int.reduceLE, Int.reduceEq, Int.reduceNe, Int.reduceAdd, Int.reduceSub, Int.reduceMul, Int.reduceNeg, Int.reduceToNat, reduceCtorEq, ↓q, q, la, lb, shw0, shw_strip, AV.cells]
def cmp26 : PSp := fun args K => ∃ a b : Shw, args = [shwV a, shwV b] ∧ ShwOk a ∧ ShwOk b ∧ K (i64 (cmpZ a.path b.path))
theorem told_cmp26 : Told Tryz.prog G 26 cmp26 := by
  rintro args K ⟨a, b, rfl, h1, h2, h3⟩
  exact ⟨_, p26 a b h1 h2, h3⟩
theorem ask_cmp26 {a b : Shw} (ha : ShwOk a) (hb : ShwOk b) {K} : ask cmp26 [.agg (shwC a), .agg (shwC b)] K = K (i64 (cmpZ a.path b.path)) := by
  show (∃ c d : Shw, [AV.agg (shwC a), AV.agg (shwC b)] = [shwV c, shwV d] ∧ _) = _
  rw [eq_iff_iff]
  constructor
  · rintro ⟨c, d, h, hc, hd, h3⟩
    injection h with h1 h2
    injection h2 with h2 _
    injection h1 with h1
    injection h2 with h2
    rw [shwE.inj ha hc h1, shwE.inj hb hd h2]; exact h3
  · exact fun h => ⟨a, b, rfl, ha, hb, h⟩
theorem all_sort {l : List Shw} (h : shwE.all l) : shwE.all (sortS Shw.path l) := fun x hx => h x (sortS_mem.1 hx)
/-- The row with one element under way. -/
def insAt (P S : List Shw) (x : Shw) (R : List Shw) (p : Nat) : List Shw := P ++ (S.take p ++ x :: S.drop p) ++ R
section
variable {P S R : List Shw} {x : Shw} {p : Nat}
theorem insAt_len (h : p ≤ S.length) : (insAt P S x R p).length = P.length + S.length + 1 + R.length := by
  simp [insAt]; omega
theorem insAt_x (h : p ≤ S.length) : (insAt P S x R p).getD (P.length + p) d36 = x := by
  unfold insAt
  have : P.length + p = (P ++ S.take p).length := by simp; omega
  rw [List.getD_eq_getElem?_getD, this, show P ++ (S.take p ++ x :: S.drop p) ++ R = (P ++ S.take p) ++ x :: (S.drop p ++ R) by simp, List.getElem?_append_right (Nat.le_refl _)]
  simp
theorem insAt_y (h : p + 1 ≤ S.length) : (insAt P S x R (p + 1)).getD (P.length + p) d36 = S.getD p d36 := by
  unfold insAt
  rw [List.getD_eq_getElem?_getD, List.append_assoc, List.getElem?_append_right (by omega), List.append_assoc, List.getElem?_append_left (by simp; omega), List.getElem?_take_of_lt (by omega), List.getD_eq_getElem?_getD]
  simp
theorem insAt_swap (h : p + 1 ≤ S.length) : ((insAt P S x R (p + 1)).set (P.length + (p + 1)) (S.getD p d36)).set (P.length + p) x = insAt P S x R p := by
  have e1 : S.take (p + 1) = S.take p ++ [S.getD p d36] := take_get (by omega)
  have e2 : S.drop p = S.getD p d36 :: S.drop (p + 1) := by
    rw [List.getD_eq_getElem?_getD, List.getElem?_eq_getElem (by omega)]
    exact List.drop_eq_getElem_cons (by omega)
  unfold insAt
  rw [e1, e2]
  generalize S.getD p d36 = y
  have hl : (P ++ S.take p).length = P.length + p := by simp; omega
  have a1 : P ++ (S.take p ++ [y] ++ x :: S.drop (p + 1)) ++ R = (P ++ S.take p) ++ y :: x :: (S.drop (p + 1) ++ R) := by simp
  rw [a1, ← hl, show P.length + (p + 1) = (P ++ S.take p).length + 1 by rw [hl]; omega]
  rw [List.set_append_right _ _ (by omega), List.set_append_right _ _ (by omega)]
  simp
theorem insAt_ok (hP : shwE.all P) (hS : shwE.all S) (hx : ShwOk x) (hR : shwE.all R) : shwE.all (insAt P S x R p) := fun y hy => by
  unfold insAt at hy
  simp only [List.mem_append, List.mem_cons] at hy
  rcases hy with (h | (h | h | h)) | h
  · exact hP y h
  · exact hS y (List.mem_of_mem_take h)
  · rw [h]; exact hx
  · exact hS y (List.mem_of_mem_drop h)
  · exact hR y h
end
def insTo (P X Q : List Shw) (k : Nat) : List Shw := P ++ sortS Shw.path (X.take k) ++ X.drop k ++ Q
set_option maxHeartbeats 4000000 in
theorem o57 {H : List AObj} {id ver te : Nat} {l P X Q : List Shw} {a b : Nat} (hH : H[id]? = some (.row te 36 ver (l.map shwE.v))) (hlow : ∀ o ∈ H, o.low H.length) (ho : shwE.all l) (hs : l.length ≤ 1099511627)
    (hl : l = P ++ X ++ Q) (ha : P.length = a) (hb : P.length + X.length = b) :
    Ok Tryz.prog G 57 [.rs id ver 36 0 l.length, i64 a, i64 b, cmpF] H (.tup []) (H.set id (.row te 36 ver ((P ++ sortS Shw.path X ++ Q).map shwE.v))) := by
  have hid : id < H.length := SimH.lt hH
  have hself := RowH_self hH
  refine ok_of_code (S := sp [(26, cmp26)] []) hm hG (sp_holds (.cons told_cmp26 .nil) .nil) fn57
    (St 10 53 [.rs id ver 36 0 l.length, i64 a, i64 b, .fn (.func 26) [] [], .junk, .junk, .junk, .junk, .junk, .junk] []) (by kernel_rfl) (by simp [AV.low, lows, hid, cmpF]) (by simp) (by rw [List.length_set]; exact low_setR hlow _) ?_
  have hle : ∀ o, ((RowH H id o []).length ≤ id) = False := fun o => eq_false (by rw [RowH_length]; simp; exact hid)
  have hlen : P.length + X.length + Q.length = l.length := by rw [hl]; simp [Nat.add_assoc]
  have oP : shwE.all P := fun y hy => ho y (by rw [hl]; simp [hy])
  have oX : shwE.all X := fun y hy => ho y (by rw [hl]; simp [hy])
  have oQ : shwE.all Q := fun y hy => ho y (by rw [hl]; simp [hy])
  have h1 : insTo P X Q 1 = l := by
    rw [hl]; unfold insTo
    have : sortS Shw.path (X.take 1) = X.take 1 := sortS_srt_eq (by
      cases X with
      | nil => exact List.Pairwise.nil
      | cons x X => exact List.pairwise_singleton _ _)
    rw [this, List.append_assoc P, List.take_append_drop]
  have hlow' := fun m : List Shw => @low_setR H id ver te hlow m
  generalize hn0 : H.length = N
  rw [hself]
  simp (maxSteps := 2000000) -implicitDefEqProofs only [c57, RS, RX, Nat.reduceLT, ↓RP0, ↓RP1, ↓RP2, ↓RP3, RV, RW, ↓reduceIte, Nat.reduceAdd, Nat.reduceSub, Nat.reduceMul, Nat.reduceLeDiff, Nat.reduceEqDiff, Int.reduceLT, Int.reduceLE, Int.reduceEq, Int.reduceNe, Int.reduceAdd, Int.reduceSub, Int.reduceMul, Int.reduceNeg, Int.reduceToNat, reduceCtorEq]
  refine ⟨⟨by omega, by omega⟩, ?_⟩
  refine loopB (st := fun (k : Nat) => (St 10 53 [.rs id ver 36 0 l.length, i64 a, i64 b, .fn (.func 26) [] [], .junk, .junk, .junk, .junk, i64 (a + k : Nat), .junk] [])) (hp := fun k => RowH H id (.row te 36 ver ((insTo P X Q k).map shwE.v)) []) (I := fun k => 1 ≤ k ∧ (k ≤ X.length ∨ k = 1)) (m := fun k => X.length - k) 1 ⟨Nat.le_refl _, .inr rfl⟩ ?_ ?_
  · rw [h1, show ((a : Int) + 1) = ((a + 1 : Nat) : Int) by omega]
    subst hn0
    refine weak_cutS H.length (Nat.le_refl _) ?_ ?_ ?_
    · rw [RowH_take, RowH_nil]
    · rw [RowH_nil]; exact low_setR hlow _
    · simp [WeakL, AV.low, lows, hid, cmpF]
  · rintro k ⟨hk1, hk⟩
    by_cases hlt : k < X.length
    · have e1 : (((a + k : Nat) : Int) < (b : Int)) = True := eq_true (by omega)
      have tk : X.take (k + 1) = X.take k ++ [X.getD k d36] := take_get (by omega)
      have dk : X.drop k = X.getD k d36 :: X.drop (k + 1) := by
        rw [List.getD_eq_getElem?_getD, List.getElem?_eq_getElem hlt]
        exact List.drop_eq_getElem_cons hlt
      have ox := shw_getD oX k
      obtain ⟨S, hS⟩ : ∃ S, sortS Shw.path (X.take k) = S := ⟨_, rfl⟩
      have hSl : S.length = k := by rw [← hS, sortS_length, List.length_take]; omega
      have oS : shwE.all S := hS ▸ all_sort fun y hy => oX y (List.mem_of_mem_take hy)
      have hSs : Srt Shw.path S := hS ▸ sortS_srt _
      have hSt : Stab Shw.path (X.take k) S := hS ▸ sortS_stab _
      have oR : shwE.all (X.drop (k + 1) ++ Q) := fun y hy => (List.mem_append.1 hy).elim (fun h => oX y (List.mem_of_mem_drop h)) (oQ y)
      obtain ⟨x, hx⟩ : ∃ x, X.getD k d36 = x := ⟨_, rfl⟩
      rw [hx] at tk dk ox
      have i0 : insTo P X Q k = insAt P S x (X.drop (k + 1) ++ Q) k := by
        unfold insTo insAt
        rw [hS, dk, List.take_of_length_le (l := S) (by omega), List.drop_of_length_le (l := S) (by omega)]; simp
      have iE : ∀ p, p ≤ k → (∀ s ∈ S.drop p, x.path < s.path) → (∀ s ∈ S.take p, Le Shw.path s x) → insAt P S x (X.drop (k + 1) ++ Q) p = insTo P X Q (k + 1) := by
        intro p hp h2 h1
        have := ins_end (key := Shw.path) (l := X.take k) (S1 := S.take p) (S2 := S.drop p) (x := x) (by rw [List.take_append_drop]; exact hSs) (by rw [List.take_append_drop]; exact hSt) h2 h1
        unfold insAt insTo
        rw [tk, this]; simp
      rw [i0]
      simp (maxSteps := 2000000) -implicitDefEqProofs only [RS, RX, Nat.reduceLT, ↓RP0, ↓RP1, ↓RP2, ↓RP3, RV, RW, ↓reduceIte, Nat.reduceAdd, Nat.reduceSub, Nat.reduceMul, Nat.reduceLeDiff, Nat.reduceEqDiff, Int.reduceLT, Int.reduceLE, Int.reduceEq, Int.reduceNe, Int.reduceAdd, Int.reduceSub, Int.reduceMul, Int.reduceNeg, Int.reduceToNat, reduceCtorEq, e1]
      refine loopB (st := fun (p : Nat) => (St 10 53 [.rs id ver 36 0 l.length, i64 a, i64 b, .fn (.func 26) [] [], .junk, .junk, .junk, .junk, i64 (a + k : Nat), i64 (a + p : Nat)] [])) (hp := fun p => RowH H id (.row te 36 ver ((insAt P S x (X.drop (k + 1) ++ Q) p).map shwE.v)) []) (I := fun p => p ≤ k ∧ ∀ s ∈ S.drop p, x.path < s.path) (m := fun p => p) k ⟨Nat.le_refl _, fun s hs => by rw [List.drop_of_length_le (by omega)] at hs; cases hs⟩ ?_ ?_
      · subst hn0
        refine weak_cutS H.length (Nat.le_refl _) ?_ ?_ ?_
        · rw [RowH_take, RowH_nil]
        · rw [RowH_nil]; exact low_setR hlow _
        · simp [WeakL, AV.low, lows, hid, cmpF]
      · rintro p ⟨hp, hpS⟩
        have hil : (insAt P S x (X.drop (k + 1) ++ Q) p).length = l.length := by rw [insAt_len (by omega)]; simp; omega
        cases p with
        | zero =>
          have hE := iE 0 (by omega) hpS (fun s hs => by simp at hs)
          simp (maxSteps := 2000000) -implicitDefEqProofs only [RS, RX, Nat.reduceLT, ↓RP0, ↓RP1, ↓RP2, ↓RP3, RV, RW, ↓reduceIte, Nat.reduceAdd, Nat.reduceSub, Nat.reduceMul, Nat.reduceLeDiff, Nat.reduceEqDiff, Int.reduceLT, Int.reduceLE, Int.reduceEq, Int.reduceNe, Int.reduceAdd, Int.reduceSub, Int.reduceMul, Int.reduceNeg, Int.reduceToNat, reduceCtorEq, Int.lt_irrefl, Nat.add_zero]
          rw [hE, show (((a + k : Nat) : Int) + 1) = ((a + (k + 1) : Nat) : Int) by omega]
          refine ⟨⟨by omega, by omega⟩, k + 1, by dsimp only; omega, ⟨by omega, .inl (by omega)⟩, ?_⟩
          dsimp only
          subst hn0
          refine weak_cutS H.length (Nat.le_refl _) ?_ ?_ ?_
          · rw [RowH_take, RowH_nil]
          · rw [RowH_nil]; exact low_setR hlow _
          · simp [WeakL, AV.low, lows, hid, cmpF]
        | succ p =>
          obtain ⟨j, hj⟩ : ∃ j, a + (p + 1) = j := ⟨_, rfl⟩
          obtain ⟨c, hc0⟩ : ∃ c, insAt P S x (X.drop (k + 1) ++ Q) (p + 1) = c := ⟨_, rfl⟩
          have e2 : ((a : Int) < (j : Int)) = True := eq_true (by omega)
          have oI := insAt_ok (p := p + 1) oP oS ox oR
          have gx := shws_get (l := insAt P S x (X.drop (k + 1) ++ Q) (p + 1)) (p := a + (p + 1)) (by omega)
          have gy := shws_get (l := insAt P S x (X.drop (k + 1) ++ Q) (p + 1)) (p := a + p) (by omega)
          have hsw := insAt_swap (P := P) (S := S) (R := X.drop (k + 1) ++ Q) (x := x) (p := p) (by omega)
          have i1 : ((j : Int) - 1).toNat = a + p := by omega
          rw [← ha, insAt_x (by omega), ha] at gx
          rw [← ha, insAt_y (by omega), ha] at gy
          rw [ha] at hsw
          rw [hj] at gx hsw ⊢
          rw [hc0] at gx gy hsw oI hil ⊢
          have oy := shw_getD oS p
          have hd : S.drop p = S.getD p d36 :: S.drop (p + 1) := by
            rw [List.getD_eq_getElem?_getD, List.getElem?_eq_getElem (by omega)]
            exact List.drop_eq_getElem_cons (by omega)
          have hty : S.take (p + 1) = S.take p ++ [S.getD p d36] := take_get (by omega)
          generalize S.getD p d36 = y at *
          have q : ∀ K, ask cmp26 [.agg (shwC x), .agg (shwC y)] K = K (i64 (cmpZ x.path y.path)) := fun K => ask_cmp26 ox oy
          have l1 := shw_len ox
          have l2 := shw_len oy
          have k1 := shw_take ox
          have k2 := shw_take oy
          by_cases hc : x.path < y.path
          · have e3 : (cmpZ x.path y.path < 0) = True := eq_true (cmpZ_lt.2 hc)
            simp (maxSteps := 2000000) -implicitDefEqProofs only [RS, RX, Nat.reduceLT, ↓RP0, ↓RP1, ↓RP2, ↓RP3, RV, RW, ↓reduceIte, Nat.reduceAdd, Nat.reduceSub, Nat.reduceMul, Nat.reduceLeDiff, Nat.reduceEqDiff, Int.reduceLT, Int.reduceLE, Int.reduceEq, Int.reduceNe, Int.reduceAdd, Int.reduceSub, Int.reduceMul, Int.reduceNeg, Int.reduceToNat, reduceCtorEq, e2, e3, ↓q, q, gx, gy, i1, l1, l2, k1, k2, shw_strip, shws_len, hil, RowH_id hid, RowH_setId hid, hle, AV.cells, shws_set, List.length_set]
            rw [hsw, show ((j : Int) - 1) = ((a + p : Nat) : Int) by omega]
            refine ⟨by omega, ⟨by omega, by omega⟩, by omega, by omega, ⟨by omega, by omega⟩, ⟨by omega, by omega⟩, by omega, by omega, by omega, by omega, by omega, by omega, by omega, by omega, ⟨by omega, by omega⟩, p, by dsimp only; omega, ⟨by omega, fun s hs => ?_⟩, ?_⟩
            · rw [hd] at hs
              rcases List.mem_cons.1 hs with rfl | hs
              · exact hc
              · exact hpS s hs
            dsimp only
            subst hn0
            refine weak_cutS H.length (Nat.le_refl _) ?_ ?_ ?_
            · rw [RowH_take, RowH_nil]
            · rw [RowH_nil]; exact low_setR hlow _
            · simp [WeakL, AV.low, lows, hid, cmpF]
          · have e3 : (cmpZ x.path y.path < 0) = False := eq_false (fun h => hc (cmpZ_lt.1 h))
            simp (maxSteps := 2000000) -implicitDefEqProofs only [RS, RX, Nat.reduceLT, ↓RP0, ↓RP1, ↓RP2, ↓RP3, RV, RW, ↓reduceIte, Nat.reduceAdd, Nat.reduceSub, Nat.reduceMul, Nat.reduceLeDiff, Nat.reduceEqDiff, Int.reduceLT, Int.reduceLE, Int.reduceEq, Int.reduceNe, Int.reduceAdd, Int.reduceSub, Int.reduceMul, Int.reduceNeg, Int.reduceToNat, reduceCtorEq, e2, e3, ↓q, q, gx, gy, i1, l1, l2, k1, k2, shw_strip, shws_len, hil, RowH_id hid, RowH_setId hid, hle, AV.cells, shws_set, List.length_set]
            have hE := iE (p + 1) hp hpS (fun s hs => by
              rw [hty] at hs
              rcases List.mem_append.1 hs with hs | hs
              · have hh := hSs
                rw [← List.take_append_drop p S, hd] at hh
                exact ((Srt.app.1 hh).2.2 s hs y (List.mem_cons_self ..)).trans hc
              · rw [List.mem_singleton.1 hs]; exact hc)
            rw [← hc0, hE, show (((a + k : Nat) : Int) + 1) = ((a + (k + 1) : Nat) : Int) by omega]
            refine ⟨by omega, ⟨by omega, by omega⟩, by omega, by omega, ⟨by omega, by omega⟩, k + 1, by dsimp only; omega, ⟨by omega, .inl (by omega)⟩, ?_⟩
            dsimp only
            subst hn0
            refine weak_cutS H.length (Nat.le_refl _) ?_ ?_ ?_
            · rw [RowH_take, RowH_nil]
            · rw [RowH_nil]; exact low_setR hlow _
            · simp [WeakL, AV.low, lows, hid, cmpF]
    · have e1 : (((a + k : Nat) : Int) < (b : Int)) = False := eq_false (by omega)
      have hE : insTo P X Q k = P ++ sortS Shw.path X ++ Q := by
        unfold insTo
        rw [List.take_of_length_le (l := X) (by omega), List.drop_of_length_le (l := X) (by omega)]; simp
      rw [hE]
      simp (maxSteps := 2000000) -implicitDefEqProofs only [RS, RX, Nat.reduceLT, ↓RP0, ↓RP1, ↓RP2, ↓RP3, RV, RW, ↓reduceIte, Nat.reduceAdd, Nat.reduceSub, Nat.reduceMul, Nat.reduceLeDiff, Nat.reduceEqDiff, Int.reduceLT, Int.reduceLE, Int.reduceEq, Int.reduceNe, Int.reduceAdd, Int.reduceSub, Int.reduceMul, Int.reduceNeg, Int.reduceToNat, reduceCtorEq, e1, retO_normal, retO_ret]
      rw [RowH_setId hid]
      exact List.take_length
end Go.AL.Path

/- The program's padding. -/
set_option linter.unusedSimpArgs false
set_option linter.unusedVariables false
set_option maxRecDepth 100000
namespace Go.AL.Path
open Go Go.RowKit Go.Proofs Go.AL
theorem pow_256 (k : Nat) : (2 : Nat) ^ (8 * k) = 256 ^ k := by rw [Nat.pow_mul]
theorem shift_byte {n j : Nat} (hj : j < 8) : IntKind.u8.wrap ((8 * (n : Int)).fdiv (2 ^ (min (8 * (7 - (j : Int))).toNat IntKind.i64.bits))) = ((padD n j).toNat : Int) := by
  have e1 : (8 * (7 - (j : Int))).toNat = 8 * (7 - j) := by omega
  have e2 : min (8 * (7 - j)) IntKind.i64.bits = 8 * (7 - j) := Nat.min_eq_left (by show 8 * (7 - j) ≤ 64; omega)
  rw [e1, e2]
  have e3 : (8 * (n : Int)) = ((8 * n : Nat) : Int) := by omega
  have e4 : ((2 : Int) ^ (8 * (7 - j))) = ((256 ^ (7 - j) : Nat) : Int) := by rw [← pow_256]; norm_cast
  rw [e3, e4, Int.fdiv_eq_ediv_of_nonneg _ (Int.natCast_nonneg _)]
  have e5 : (((8 * n : Nat) : Int) / ((256 ^ (7 - j) : Nat) : Int)) = ((8 * n / 256 ^ (7 - j) : Nat) : Int) := by norm_cast
  rw [e5]
  unfold padD
  simp [IntKind.wrap, IntKind.bits, IntKind.signed]
def c77 : ACode := (.seq (.reg false 1 [⟨(.some 2), none, (.m (.nilT 5 1) 0), []⟩]) (.seq (.seq (.reg false 0 [⟨(.some 6), none, (.q .mv), [(.t 0)]⟩, ⟨(.some 7), none, (.q (.bin .lss 2)), [(.t 6), (.c (.imm (.int .i64 0)))]⟩, ⟨(.some 8), none, (.q .mv), [(.t 7)]⟩, ⟨(.some 9), (.some (8, false)), (.q .mv), [(.t 0)]⟩, ⟨(.some 10), (.some (8, false)), (.q (.bin .gtr 2)), [(.t 9), (.c (.imm (.int .i64 1099511627776)))]⟩, ⟨(.some 11), none, (.q .pick), [(.t 8), (.c (.imm (.bool true))), (.t 10)]⟩]) (.cond (.t 11) (.seq (.reg false 1 [⟨(.some 2), none, (.m (.nilT 5 1) 0), []⟩]) .ret) .skip)) (.seq (.reg false 0 [⟨(.some 12), none, (.q .mv), [(.t 0)]⟩, ⟨(.some 13), none, (.q (.bin .rem 2)), [(.t 12), (.c (.imm (.int .i64 64)))]⟩, ⟨(.some 14), none, (.q (.bin .sub 2)), [(.c (.imm (.int .i64 119))), (.t 13)]⟩, ⟨(.some 15), none, (.q (.bin .rem 2)), [(.t 14), (.c (.imm (.int .i64 64)))]⟩, ⟨(.some 3), none, (.q .mv), [(.t 15)]⟩]) (.seq (.reg false 1 [⟨(.some 16), none, (.q .mv), [(.t 3)]⟩, ⟨(.some 17), none, (.q (.bin .add 2)), [(.c (.imm (.int .i64 1))), (.t 16)]⟩, ⟨(.some 18), none, (.m (.mkrow 5 1 1 (.imm (.int .u8 0))) 0), [(.t 17), (.t 17)]⟩, ⟨(.some 4), none, (.q .mv), [(.t 18)]⟩]) (.seq (.reg false 0 [⟨(.some 19), none, (.q .mv), [(.t 4)]⟩, ⟨(.some 20), none, (.q (.iaddrS 1)), [(.t 19), (.c (.imm (.int .i64 0)))]⟩, ⟨none, none, (.e (.store 1)), [(.t 20), (.c (.imm (.int .u8 128)))]⟩]) (.seq (.seq (.reg false 0 [⟨(.some 5), none, (.q .mv), [(.c (.imm (.int .i64 7)))]⟩]) (.block 0 (.loop (.seq (.seq (.reg false 0 [⟨(.some 21), none, (.q .mv), [(.t 5)]⟩, ⟨(.some 22), none, (.q (.bin .geq 3)), [(.t 21), (.c (.imm (.int .i64 0)))]⟩]) (.cond (.t 22) .skip (.exit 0))) (.seq (.block 1 (.reg false 1 [⟨(.some 25), none, (.q .mv), [(.t 4)]⟩, ⟨(.some 26), none, (.q .mv), [(.t 0)]⟩, ⟨(.some 27), none, (.q (.bin .mul 2)), [(.c (.imm (.int .i64 8))), (.t 26)]⟩, ⟨(.some 28), none, (.q .mv), [(.t 5)]⟩, ⟨(.some 29), none, (.q (.bin .mul 3)), [(.c (.imm (.int .i64 8))), (.t 28)]⟩, ⟨(.some 30), none, (.q (.convI .u64)), [(.t 29)]⟩, ⟨(.some 31), none, (.q (.bin .shr 2)), [(.t 27), (.t 30)]⟩, ⟨(.some 32), none, (.q (.convI .u8)), [(.t 31)]⟩, ⟨(.some 33), none, (.m (.bsliceO 5 1) 0), [(.t 32)]⟩, ⟨(.some 34), none, (.e (.append 5 1 1)), [(.t 25), (.t 33)]⟩, ⟨(.some 4), none, (.q .mv), [(.t 34)]⟩])) (.reg false 0 [⟨(.some 23), none, (.q .mv), [(.t 5)]⟩, ⟨(.some 24), none, (.q (.bin .sub 3)), [(.t 23), (.c (.imm (.int .i64 1)))]⟩, ⟨(.some 5), none, (.q .mv), [(.t 24)]⟩])))))) (.seq (.reg false 0 [⟨(.some 35), none, (.q .mv), [(.t 4)]⟩, ⟨(.some 2), none, (.q .mv), [(.t 35)]⟩]) .ret)))))))
theorem fn77 : IsFn Tryz.prog 77 (List.range 200) c77 [2] 36 := ⟨_, _, Tryz.func77, rfl, by decide +kernel, by kernel_rfl, rfl, rfl⟩
set_option maxHeartbeats 8000000 in
theorem o77 (n : Nat) (hn : n ≤ 1099511627776) : Ok Tryz.prog G 77 [i64 n] [] (.rs 1 8 1 0 (padB n).length) [.tok 5 1 0, .row 5 1 8 ((padB n).map byteAV)] := by
  refine ok_of_code (S := sp [] []) hm hG (sp_holds .nil .nil) fn77
    (St 6 36 [i64 n, .junk, .junk, .junk, .junk, .junk] []) (by kernel_rfl) (by simp [AV.low]) (by simp) (by simp [AObj.low, lows_bytes]) ?_
  have f1 : ((n : Int) < 0) = False := eq_false (by omega)
  have f2 : ((1099511627776 : Int) < (n : Int)) = False := eq_false (by omega)
  have hz := zeros_lt n
  have r1 : (n : Int).tmod 64 = ((n % 64 : Nat) : Int) := tm_nat n 64
  have r2 : ((119 : Int) - ((n % 64 : Nat) : Int)).tmod 64 = ((zeros n : Nat) : Int) := by
    have : (119 : Int) - ((n % 64 : Nat) : Int) = ((119 - n % 64 : Nat) : Int) := by omega
    rw [this]; exact tm_nat _ 64
  have r3 : ((1 : Int) + ((zeros n : Nat) : Int)).toNat = zeros n + 1 := by omega
  have r4 : (AV.imm (.int .u8 128) :: List.replicate (zeros n) (.imm (.int .u8 0))) = (padTo n 0).map byteAV := by simp [padTo, padZ, byteAV]
  simp (maxSteps := 2000000) -implicitDefEqProofs only [c77, RS, RX, Nat.reduceLT, ↓RP0, ↓RP1, ↓RP2, ↓RP3, RV, RW, ↓reduceIte, Nat.reduceAdd, Nat.reduceSub, Nat.reduceMul, Nat.reduceLeDiff, Nat.reduceEqDiff, Int.reduceLT, Int.reduceLE, Int.reduceEq, Int.reduceNe, Int.reduceAdd, Int.reduceSub, Int.reduceMul, Int.reduceNeg, Int.reduceToNat, reduceCtorEq, f1, f2, r1, r2, r3, r4]
  refine ⟨⟨by omega, by omega⟩, ⟨by omega, by omega⟩, by omega, by omega, by omega, by omega, by simp, ?_⟩
  refine loopB (st := fun (j : Nat) => (St 6 36 [i64 n, .junk, .sl 1 [] (some 0), .junk, .rs 1 j 1 0 (zeros n + 1 + j), i64 (7 - (j : Int))] [])) (hp := fun j => [.tok 5 1 0, .row 5 1 j ((padTo n j).map byteAV)]) (I := fun j => j ≤ 8) (m := fun j => 8 - j) (0 : Nat) (Nat.zero_le _) ?_ ?_
  · refine weak_sameS (by simp) ?_ ?_
    · simp [AObj.low, lows_bytes]
    · simp [WeakL, AV.low, lows]
  · intro j hj
    have ol : ((padTo n j).map byteAV).length = zeros n + 1 + j := by rw [bytes_len, padTo_len]
    by_cases hlt : j < 8
    · have e3 : ((0 : Int) ≤ 7 - (j : Int)) = True := eq_true (by omega)
      have w64 : IntKind.u64.wrap (8 * (7 - (j : Int))) = 8 * (7 - (j : Int)) := by
        simp [IntKind.wrap, IntKind.bits, IntKind.signed]; omega
      have sb := shift_byte (n := n) hlt
      have os : (padTo n j).map byteAV ++ [.imm (.int .u8 ((padD n j).toNat : Int))] = (padTo n (j + 1)).map byteAV := by
        rw [padTo_succ]; simp [byteAV]
      have nb : (0 : Int) ≤ 8 * (7 - (j : Int)) := by omega
      simp (maxSteps := 2000000) -implicitDefEqProofs only [RS, RX, Nat.reduceLT, ↓RP0, ↓RP1, ↓RP2, ↓RP3, RV, RW, ↓reduceIte, Nat.reduceAdd, Nat.reduceSub, Nat.reduceMul, Nat.reduceLeDiff, Nat.reduceEqDiff, Int.reduceLT, Int.reduceLE, Int.reduceEq, Int.reduceNe, Int.reduceAdd, Int.reduceSub, Int.reduceMul, Int.reduceNeg, Int.reduceToNat, reduceCtorEq, e3, w64, binB_shr, sb, ol, os]
      refine ⟨⟨by omega, by omega⟩, ⟨by omega, by omega⟩, nb, one8 _, ?_⟩
      refine ⟨.inl trivial, by omega, by omega, ⟨by omega, by omega⟩, j + 1, by dsimp only; omega, by omega, ?_⟩
      have hc1 : (7 : Int) - (j : Int) - 1 = 7 - ((j + 1 : Nat) : Int) := by omega
      dsimp only
      rw [hc1]
      refine weak_cutS 2 (by decide) (by simp) ?_ ?_
      · simp [AObj.low, lows_bytes]
      · simp [WeakL, AV.low, lows]; omega
    · obtain rfl : j = 8 := by omega
      have e3 : ((0 : Int) ≤ 7 - ((8 : Nat) : Int)) = False := eq_false (by omega)
      simp (maxSteps := 2000000) -implicitDefEqProofs only [RS, RX, Nat.reduceLT, ↓RP0, ↓RP1, ↓RP2, ↓RP3, RV, RW, ↓reduceIte, Nat.reduceAdd, Nat.reduceSub, Nat.reduceMul, Nat.reduceLeDiff, Nat.reduceEqDiff, Int.reduceLT, Int.reduceLE, Int.reduceEq, Int.reduceNe, Int.reduceAdd, Int.reduceSub, Int.reduceMul, Int.reduceNeg, Int.reduceToNat, reduceCtorEq, e3]
      have hl : (padB n).length = zeros n + 1 + 8 := padTo_len n 8
      rw [hl]
      exact ⟨.inr rfl, rfl, rfl⟩
theorem p77w (n : Nat) (hn : n ≤ 1099511627776) : Pure Tryz.prog G 77 [i64 n] (bytesV (padB n)) := by
  have h2 := ok_freeze (id := 1) (e := 5) (ver := 8) (xs := (padB n).map byteAV) (o77 n hn) (by simp) (by simp) (by decide)
  rw [List.drop_zero, List.take_of_length_le (by simp)] at h2
  exact pure_of_ok hG ⟨trivial, trivial⟩ (low_bytes 0 _) h2
theorem told_pad77 : Told Tryz.prog G 77 padS := by
  rintro args K ⟨n, rfl, h1, h2⟩
  exact ⟨_, p77w n h1, h2⟩
end Go.AL.Path
