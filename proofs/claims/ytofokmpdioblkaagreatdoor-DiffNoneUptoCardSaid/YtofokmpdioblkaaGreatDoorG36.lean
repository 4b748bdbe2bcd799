/- DiffScans. -/
import Derived.Test.YtofokmpdioblkaaGreatDoorG35
set_option linter.unusedSimpArgs false
set_option linter.unusedVariables false
set_option maxRecDepth 100000
namespace Go.AL.Path
open Go Go.RowKit Go.Proofs Go.AL
abbrev Both (x : List Shw × List Fil) : Prop := shwE.all x.1 ∧ filE.all x.2 ∧ x.1.length + x.2.length ≤ 1099511627
theorem both_inj (x y : List Shw × List Fil) (hx : Both x) (hy : Both y) (h : [shwsV x.1, filsV x.2] = [shwsV y.1, filsV y.2]) : x = y := by
  injection h with h1 h2
  injection h2 with h2 _
  exact Prod.ext (shwsV_inj hx.1 hy.1 h1) (fils_inj1 hx.2.1 hy.2.1 h2)
abbrev scSp (f : List Shw → List Fil → AV) : PSp := spOn (fun x : List Shw × List Fil => [shwsV x.1, filsV x.2]) Both (fun x => f x.1 x.2)
theorem told_sc10 : Told Tryz.prog G 10 (scSp scanPV) := told_spOn fun x h => p10 x.1 x.2 h.1 h.2.1 h.2.2
theorem ask_scSp {f} {l : List Shw} {t : List Fil} (hl : shwE.all l) (ho : filE.all t) (hs : l.length + t.length ≤ 1099511627) {K} : ask (scSp f) [shwsV l, filsV t] K = K (f l t) :=
  ask_spOn (x := (l, t)) both_inj ⟨hl, ho, hs⟩ rfl
theorem scanPV_eq (l : List Shw) (t : List Fil) : scanPV l t = if mayR t = true then .tup [edsV (scanR l t), i64 0] else .tup [.sl 3 [] none, i64 9] := by
  unfold scanPV
  rw [may_eq]
  split
  · rename_i h; rw [scan_eq l (ris_of_may h)]
  · rfl
def c4 : ACode := (.seq (.reg false 0 [⟨(.some 6), none, (.q .mv), [(.c (.imm (.bool false)))]⟩]) (.seq (.reg false 0 [⟨(.some 16), none, (.call true), [(.c (.fn (.func 7) [] []))]⟩, ⟨(.some 7), none, (.q .mv), [(.t 16)]⟩]) (.seq (.seq (.reg false 0 [⟨(.some 17), none, (.q .mv), [(.t 0)]⟩, ⟨(.some 18), none, (.q .lenL), [(.t 17)]⟩, ⟨(.some 19), none, (.q (.bin .gtr 3)), [(.t 18), (.c (.imm (.int .i64 40)))]⟩, ⟨(.some 20), none, (.q .mv), [(.t 19)]⟩, ⟨(.some 21), (.some (20, false)), (.q .mv), [(.t 1)]⟩, ⟨(.some 22), (.some (20, false)), (.call true), [(.c (.fn (.func 8) [] [])), (.t 21)]⟩, ⟨(.some 23), (.some (20, false)), (.q (.un .not)), [(.t 22)]⟩, ⟨(.some 24), none, (.q .pick), [(.t 20), (.c (.imm (.bool true))), (.t 23)]⟩]) (.cond (.t 24) (.seq (.reg false 0 [⟨(.some 25), none, (.q .mv), [(.t 7)]⟩, ⟨(.some 6), none, (.q .mv), [(.t 25)]⟩]) .ret) .skip)) (.seq (.reg false 0 [⟨(.some 27), none, (.q .mv), [(.t 0)]⟩, ⟨(.some 28), none, (.q .mv), [(.t 1)]⟩, ⟨(.some 29), none, (.call true), [(.c (.fn (.func 10) [] [])), (.t 27), (.t 28)]⟩, ⟨(.some 26), none, (.q .mv), [(.t 29)]⟩, ⟨(.some 30), none, (.q (.ext 0)), [(.t 26)]⟩, ⟨(.some 31), none, (.q (.ext 1)), [(.t 26)]⟩, ⟨(.some 8), none, (.q .mv), [(.t 30)]⟩, ⟨(.some 9), none, (.q .mv), [(.t 31)]⟩]) (.seq (.reg false 0 [⟨(.some 33), none, (.q .mv), [(.t 0)]⟩, ⟨(.some 34), none, (.call true), [(.c (.fn (.func 14) [] [])), (.t 33)]⟩, ⟨(.some 35), none, (.q .mv), [(.t 1)]⟩, ⟨(.some 36), none, (.call true), [(.c (.fn (.func 13) [] [])), (.t 34), (.t 35)]⟩, ⟨(.some 32), none, (.q .mv), [(.t 36)]⟩, ⟨(.some 37), none, (.q (.ext 0)), [(.t 32)]⟩, ⟨(.some 38), none, (.q (.ext 1)), [(.t 32)]⟩, ⟨(.some 10), none, (.q .mv), [(.t 37)]⟩, ⟨(.some 11), none, (.q .mv), [(.t 38)]⟩]) (.seq (.reg false 0 [⟨(.some 40), none, (.q .mv), [(.t 1)]⟩, ⟨(.some 41), none, (.q .mv), [(.t 2)]⟩, ⟨(.some 42), none, (.call true), [(.c (.fn (.func 15) [] [])), (.t 40), (.t 41)]⟩, ⟨(.some 39), none, (.q .mv), [(.t 42)]⟩, ⟨(.some 43), none, (.q (.ext 0)), [(.t 39)]⟩, ⟨(.some 44), none, (.q (.ext 1)), [(.t 39)]⟩, ⟨(.some 12), none, (.q .mv), [(.t 43)]⟩, ⟨(.some 13), none, (.q .mv), [(.t 44)]⟩]) (.seq (.reg false 0 [⟨(.some 46), none, (.q .mv), [(.t 1)]⟩, ⟨(.some 47), none, (.q .mv), [(.t 2)]⟩, ⟨(.some 48), none, (.call true), [(.c (.fn (.func 16) [] [])), (.t 46), (.t 47)]⟩, ⟨(.some 45), none, (.q .mv), [(.t 48)]⟩, ⟨(.some 49), none, (.q (.ext 0)), [(.t 45)]⟩, ⟨(.some 50), none, (.q (.ext 1)), [(.t 45)]⟩, ⟨(.some 14), none, (.q .mv), [(.t 49)]⟩, ⟨(.some 15), none, (.q .mv), [(.t 50)]⟩]) (.seq (.reg false 0 [⟨(.some 51), none, (.q .mv), [(.t 7)]⟩, ⟨(.some 52), none, (.q .mv), [(.t 51)]⟩, ⟨(.some 53), (.some (52, true)), (.q .mv), [(.t 8)]⟩, ⟨(.some 54), (.some (52, true)), (.call true), [(.c (.fn (.func 18) [] [])), (.t 53)]⟩, ⟨(.some 55), (.some (52, true)), (.q .mv), [(.t 10)]⟩, ⟨(.some 56), (.some (52, true)), (.call true), [(.c (.fn (.func 17) [] [])), (.t 54), (.t 55)]⟩, ⟨(.some 57), none, (.q .pick), [(.t 52), (.t 56), (.c (.imm (.bool false)))]⟩, ⟨(.some 58), none, (.q .mv), [(.t 57)]⟩, ⟨(.some 59), (.some (58, true)), (.q .mv), [(.t 9)]⟩, ⟨(.some 60), (.some (58, true)), (.q .mv), [(.t 11)]⟩, ⟨(.some 61), (.some (58, true)), (.q (.bin .eql 3)), [(.t 59), (.t 60)]⟩, ⟨(.some 62), none, (.q .pick), [(.t 58), (.t 61), (.c (.imm (.bool false)))]⟩, ⟨(.some 63), none, (.q .mv), [(.t 62)]⟩, ⟨(.some 64), (.some (63, true)), (.q .mv), [(.t 1)]⟩, ⟨(.some 65), (.some (63, true)), (.call true), [(.c (.fn (.func 19) [] [])), (.t 64)]⟩, ⟨(.some 66), (.some (63, true)), (.q .mv), [(.t 1)]⟩, ⟨(.some 67), (.some (63, true)), (.call true), [(.c (.fn (.func 20) [] [])), (.t 66)]⟩, ⟨(.some 68), (.some (63, true)), (.q (.eqBoo false)), [(.t 65), (.t 67)]⟩, ⟨(.some 69), none, (.q .pick), [(.t 63), (.t 68), (.c (.imm (.bool false)))]⟩, ⟨(.some 70), none, (.q .mv), [(.t 69)]⟩, ⟨(.some 71), (.some (70, true)), (.q .mv), [(.t 12)]⟩, ⟨(.some 72), (.some (70, true)), (.q .toStr), [(.t 71)]⟩, ⟨(.some 73), (.some (70, true)), (.q .mv), [(.t 14)]⟩, ⟨(.some 74), (.some (70, true)), (.q .toStr), [(.t 73)]⟩, ⟨(.some 75), (.some (70, true)), (.q (.bin .eql 9)), [(.t 72), (.t 74)]⟩, ⟨(.some 76), none, (.q .pick), [(.t 70), (.t 75), (.c (.imm (.bool false)))]⟩, ⟨(.some 77), none, (.q .mv), [(.t 76)]⟩, ⟨(.some 78), (.some (77, true)), (.q .mv), [(.t 13)]⟩, ⟨(.some 79), (.some (77, true)), (.q .mv), [(.t 15)]⟩, ⟨(.some 80), (.some (77, true)), (.q (.eqBoo false)), [(.t 78), (.t 79)]⟩, ⟨(.some 81), none, (.q .pick), [(.t 77), (.t 80), (.c (.imm (.bool false)))]⟩, ⟨(.some 6), none, (.q .mv), [(.t 81)]⟩]) .ret))))))))
end Go.AL.Path

/- A tree as it is shown: the plain law. -/
set_option linter.unusedSimpArgs false
set_option linter.unusedVariables false
namespace Go.AL.Path
open Go Go.RowKit Go.Proofs Go.AL
theorem may_iff (t : List Fil) : mayR t = true ↔ t.length ≤ 200 ∧ Ris t ∧ (∀ f ∈ t, f.data.length ≤ 65536) ∧ ∀ f ∈ t, ∀ g ∈ t, under f.path g.path = false := by
  constructor
  · intro h
    refine ⟨?_, ris_of_may h, fun f hf => ?_, fun f hf g hg => ?_⟩
    · unfold mayR at h
      simp only [Bool.and_eq_true, decide_eq_true_eq] at h
      exact h.1
    · obtain ⟨i, hi, rfl⟩ := List.getElem_of_mem hf
      unfold mayR at h
      simp only [Bool.and_eq_true, List.all_eq_true, List.mem_range, Bool.not_eq_true'] at h
      have := (h.2 i hi).1
      unfold badAt at this
      rw [Bool.or_eq_false_iff, List.getD_eq_getElem?_getD, List.getElem?_eq_getElem hi] at this
      have := this.1
      simp at this; exact this
    · obtain ⟨i, hi, rfl⟩ := List.getElem_of_mem hf
      unfold mayR at h
      simp only [Bool.and_eq_true, List.all_eq_true, List.mem_range, Bool.not_eq_true'] at h
      have := (h.2 i hi).2 g hg
      rw [List.getD_eq_getElem?_getD, List.getElem?_eq_getElem hi] at this
      simpa using this
  · rintro ⟨h1, h2, h3, h4⟩
    unfold mayR
    simp only [Bool.and_eq_true, decide_eq_true_eq, List.all_eq_true, List.mem_range, Bool.not_eq_true']
    refine ⟨h1, fun i hi => ⟨?_, fun g hg => ?_⟩⟩
    · unfold badAt
      rw [Bool.or_eq_false_iff]
      rw [List.getD_eq_getElem?_getD, List.getElem?_eq_getElem hi]
      refine ⟨decide_eq_false (by have := h3 _ (List.getElem_mem hi); simp; exact this), ?_⟩
      by_cases h0 : 0 < i
      · rw [decide_eq_true h0, Bool.true_and, Bool.not_eq_false', bl_lt]
        rw [List.getD_eq_getElem?_getD, List.getElem?_eq_getElem (show i - 1 < t.length by omega)]
        exact List.pairwise_iff_getElem.1 h2 (i - 1) i (by omega) hi (by omega)
      · rw [decide_eq_false h0]; rfl
    · rw [List.getD_eq_getElem?_getD, List.getElem?_eq_getElem hi]
      exact h4 _ (List.getElem_mem hi) g hg
theorem may_sub {t s : List Fil} (h : mayR t = true) (hs : List.Sublist s t) : mayR s = true := by
  obtain ⟨h1, h2, h3, h4⟩ := (may_iff t).1 h
  exact (may_iff s).2 ⟨Nat.le_trans hs.length_le h1, h2.sublist hs, fun f hf => h3 f (hs.mem hf), fun f hf g hg => h4 f (hs.mem hf) g (hs.mem hg)⟩
theorem tree_may (l : List Fil) : mayR (treeF l) = true := by
  have : ∀ (m s : List Fil), mayR s = true → mayR (m.foldl treeStep s) = true := by
    intro m
    induction m with
    | nil => exact fun s h => h
    | cons x m ih =>
      intro s h
      refine ih _ ?_
      unfold treeStep
      split
      · assumption
      · exact h
  exact this _ [] (by decide +kernel)
theorem fit_self (f : Fil) : fitS (shwOf f) f.data = true := by simp [fitS, shwOf]
/-- In a list that rises each path stands once. -/
theorem ris_find {t : List Fil} (h : Ris t) {f : Fil} (hf : f ∈ t) : findF t f.path = some f := by
  induction t with
  | nil => cases hf
  | cons g t ih =>
    have h' := List.pairwise_cons.1 h
    rcases List.mem_cons.1 hf with rfl | hf
    · simp [findF, List.find?_cons]
    · rw [findF_cons_ne, ih h'.2 hf]
      intro e
      have := h'.1 f hf
      rw [e] at this; exact k_irr _ this
theorem main_shown (t : List Fil) (p : List UInt8) : mainS (t.map shwOf) p = (findF t p).map shwOf := by
  unfold mainS findF
  rw [List.find?_map]
  rfl
theorem find_none' {t : List Fil} {p : List UInt8} (h : ∀ f ∈ t, f.path ≠ p) : findF t p = none := by
  unfold findF
  rw [List.find?_eq_none]
  intro f hf
  simpa using h f hf
theorem filter_nil {α : Type} {p : α → Bool} {l : List α} (h : ∀ x ∈ l, p x = false) : l.filter p = [] := List.filter_eq_nil_iff.2 fun x hx => by rw [h x hx]; decide
theorem wants_seen {t s : List Fil} (ht : Ris s) {f : Fil} (hf : f ∈ s) : wants (s.map shwOf) f = false := by
  unfold wants
  rw [main_shown, ris_find ht hf]
  simp [fit_self]
theorem lost_seen {t : List Fil} (ht : Ris t) {f : Fil} (hf : f ∈ t) : lost t (shwOf f) = false := by
  unfold lost
  rw [show (shwOf f).path = f.path from rfl, ris_find ht hf]
  simp
theorem scan_same {t : List Fil} (ht : Ris t) : scanR (t.map shwOf) t = [] := by
  have h1 : putsOf (t.map shwOf) t = [] := by unfold putsOf; rw [filter_nil fun f hf => wants_seen (t := t) ht hf]; rfl
  have h2 : delsOf (t.map shwOf) t = [] := by
    unfold delsOf
    rw [filter_nil fun s hs => by
      obtain ⟨f, hf, rfl⟩ := List.mem_map.1 hs
      exact lost_seen ht hf]
    rfl
  unfold scanR; rw [h1, h2]; rfl
theorem filter_one {α : Type} {p : α → Bool} {l1 l2 : List α} {x : α} (h1 : ∀ y ∈ l1, p y = false) (h2 : ∀ y ∈ l2, p y = false) : (l1 ++ x :: l2).filter p = if p x = true then [x] else [] := by
  rw [List.filter_append, List.filter_cons, filter_nil h1, filter_nil h2]
  split <;> rfl
section
variable {a b : List Fil} {x : Fil}
theorem ris_less (h : Ris (a ++ x :: b)) : Ris (a ++ b) ∧ (∀ f ∈ a ++ b, f.path ≠ x.path) := by
  have hh := List.pairwise_append.1 h
  have hx := List.pairwise_cons.1 hh.2.1
  refine ⟨h.sublist ((List.Sublist.refl a).append (List.sublist_cons_self x b)), fun f hf e => ?_⟩
  rcases List.mem_append.1 hf with hf | hf
  · have := hh.2.2 f hf x (List.mem_cons_self ..)
    rw [e] at this; exact k_irr _ this
  · have := hx.1 f hf
    rw [e] at this; exact k_irr _ this
/-- Shown without one of its files. -/
theorem scan_put (h : Ris (a ++ x :: b)) : scanR ((a ++ b).map shwOf) (a ++ x :: b) = pick (ownP x.path) (putE x) := by
  obtain ⟨h1, h2⟩ := ris_less h
  have hp : putsOf ((a ++ b).map shwOf) (a ++ x :: b) = pick (ownP x.path) (putE x) := by
    unfold putsOf
    rw [filter_one (fun y hy => wants_seen (t := a) h1 (List.mem_append_left _ hy)) (fun y hy => wants_seen (t := a) h1 (List.mem_append_right _ hy))]
    have : wants ((a ++ b).map shwOf) x = ownP x.path := by
      unfold wants
      rw [main_shown, find_none' h2]; simp
    rw [this]
    unfold pick
    split <;> rfl
  have hd : delsOf ((a ++ b).map shwOf) (a ++ x :: b) = [] := by
    unfold delsOf
    rw [filter_nil fun s hs => by
      obtain ⟨f, hf, rfl⟩ := List.mem_map.1 hs
      refine lost_seen h ?_
      rcases List.mem_append.1 hf with hf | hf <;> simp [hf]]
    rfl
  unfold scanR
  rw [hp, hd, List.append_nil]
  unfold pick; split <;> rfl
/-- Without a file that is shown. -/
theorem scan_del (h : Ris (a ++ x :: b)) : scanR ((a ++ x :: b).map shwOf) (a ++ b) = pick (ownP x.path) (delE (shwOf x)) := by
  obtain ⟨h1, h2⟩ := ris_less h
  have hp : putsOf ((a ++ x :: b).map shwOf) (a ++ b) = [] := by
    unfold putsOf
    rw [filter_nil fun f hf => wants_seen (t := a) h (by rcases List.mem_append.1 hf with hf | hf <;> simp [hf])]
    rfl
  have hd : delsOf ((a ++ x :: b).map shwOf) (a ++ b) = pick (ownP x.path) (delE (shwOf x)) := by
    unfold delsOf
    rw [List.map_append, List.map_cons, filter_one (fun s hs => by
      obtain ⟨f, hf, rfl⟩ := List.mem_map.1 hs
      exact lost_seen h1 (List.mem_append_left _ hf)) (fun s hs => by
      obtain ⟨f, hf, rfl⟩ := List.mem_map.1 hs
      exact lost_seen h1 (List.mem_append_right _ hf))]
    have : lost (a ++ b) (shwOf x) = ownP x.path := by
      unfold lost
      rw [show (shwOf x).path = x.path from rfl, find_none' h2]; simp
    rw [this]
    unfold pick
    split <;> rfl
  unfold scanR
  rw [hp, hd, List.nil_append]
  unfold pick; split <;> rfl
end
end Go.AL.Path

/- DiffNone. -/
set_option linter.unusedSimpArgs false
set_option linter.unusedVariables false
set_option maxRecDepth 100000
namespace Go.AL.Path
open Go Go.RowKit Go.Proofs Go.AL
abbrev shnSp : PSp := spOn (fun t : List Fil => [filsV t]) (Fils 1099511627) (fun t => shwsV (t.map shwOf))
theorem told_shown11 : Told Tryz.prog G 11 shnSp := told_spOn fun t h => p11 t h.1 h.2
theorem ask_shnSp {t : List Fil} (h : Fils 1099511627 t) {K} : ask shnSp [filsV t] K = K (shwsV (t.map shwOf)) :=
  ask_spOn (fun x y hx hy he => fils_inj1 hx.1 hy.1 (by injection he)) h rfl
theorem told_treeN : Told Tryz.prog G 9 (fil1 treeF) := told_spOn fun l h => p9c l h.1 h.2
theorem shown_all {t : List Fil} (h : filE.all t) : shwE.all (t.map shwOf) := fun s hs => by
  obtain ⟨f, hf, rfl⟩ := List.mem_map.1 hs
  exact shwOf_ok (h f hf)
theorem ask_scan {s t : List Fil} {R : List Edt} (hs : filE.all s) (ht : filE.all t) (hl : s.length + t.length ≤ 1099511627) (hm : mayR t = true) (hR : scanR (s.map shwOf) t = R) {K} : ask (scSp scanPV) [shwsV (s.map shwOf), filsV t] K = K (.tup [edsV R, i64 0]) := by
  rw [ask_scSp (shown_all hs) ht (by rw [List.length_map]; exact hl), scanPV_eq, if_pos hm, hR]
def c3 : ACode := (.seq (.reg false 0 [⟨(.some 4), none, (.q .mv), [(.c (.imm (.bool false)))]⟩]) (.seq (.reg false 0 [⟨(.some 16), none, (.call true), [(.c (.fn (.func 7) [] []))]⟩, ⟨(.some 5), none, (.q .mv), [(.t 16)]⟩]) (.seq (.seq (.reg false 0 [⟨(.some 17), none, (.q .mv), [(.t 0)]⟩, ⟨(.some 18), none, (.call true), [(.c (.fn (.func 8) [] [])), (.t 17)]⟩, ⟨(.some 19), none, (.q (.un .not)), [(.t 18)]⟩]) (.cond (.t 19) (.seq (.reg false 0 [⟨(.some 20), none, (.q .mv), [(.t 5)]⟩, ⟨(.some 4), none, (.q .mv), [(.t 20)]⟩]) .ret) .skip)) (.seq (.reg false 0 [⟨(.some 21), none, (.q .mv), [(.t 0)]⟩, ⟨(.some 22), none, (.call true), [(.c (.fn (.func 9) [] [])), (.t 21)]⟩, ⟨(.some 6), none, (.q .mv), [(.t 22)]⟩]) (.seq (.reg false 0 [⟨(.some 24), none, (.q .mv), [(.t 6)]⟩, ⟨(.some 25), none, (.call true), [(.c (.fn (.func 11) [] [])), (.t 24)]⟩, ⟨(.some 26), none, (.q .mv), [(.t 6)]⟩, ⟨(.some 27), none, (.call true), [(.c (.fn (.func 10) [] [])), (.t 25), (.t 26)]⟩, ⟨(.some 23), none, (.q .mv), [(.t 27)]⟩, ⟨(.some 28), none, (.q (.ext 0)), [(.t 23)]⟩, ⟨(.some 29), none, (.q (.ext 1)), [(.t 23)]⟩, ⟨(.some 7), none, (.q .mv), [(.t 28)]⟩, ⟨(.some 8), none, (.q .mv), [(.t 29)]⟩]) (.seq (.seq (.reg false 0 [⟨(.some 30), none, (.q .mv), [(.t 8)]⟩, ⟨(.some 31), none, (.q (.bin .neq 27)), [(.t 30), (.c (.imm (.int .i64 0)))]⟩, ⟨(.some 32), none, (.q .mv), [(.t 31)]⟩, ⟨(.some 33), (.some (32, false)), (.q .mv), [(.t 7)]⟩, ⟨(.some 34), (.some (32, false)), (.q .lenL), [(.t 33)]⟩, ⟨(.some 35), (.some (32, false)), (.q (.bin .gtr 3)), [(.t 34), (.c (.imm (.int .i64 0)))]⟩, ⟨(.some 36), none, (.q .pick), [(.t 32), (.c (.imm (.bool true))), (.t 35)]⟩]) (.cond (.t 36) (.seq (.reg false 0 [⟨(.some 4), none, (.q .mv), [(.c (.imm (.bool false)))]⟩]) .ret) .skip)) (.seq (.seq (.reg false 0 [⟨(.some 37), none, (.q .mv), [(.t 6)]⟩, ⟨(.some 38), none, (.q .lenL), [(.t 37)]⟩, ⟨(.some 39), none, (.q (.bin .eql 3)), [(.t 38), (.c (.imm (.int .i64 0)))]⟩]) (.cond (.t 39) (.seq (.reg false 0 [⟨(.some 40), none, (.q .mv), [(.t 5)]⟩, ⟨(.some 4), none, (.q .mv), [(.t 40)]⟩]) .ret) .skip)) (.seq (.reg false 0 [⟨(.some 41), none, (.q .mv), [(.t 1)]⟩, ⟨(.some 42), none, (.q (.convI .i64)), [(.t 41)]⟩, ⟨(.some 43), none, (.q .mv), [(.t 6)]⟩, ⟨(.some 44), none, (.q .lenL), [(.t 43)]⟩, ⟨(.some 45), none, (.q (.bin .rem 3)), [(.t 42), (.t 44)]⟩, ⟨(.some 9), none, (.q .mv), [(.t 45)]⟩]) (.seq (.reg true 1 [⟨(.some 46), none, (.m (.bsliceO 35 2) 0), []⟩, ⟨(.some 47), none, (.q .mv), [(.t 6)]⟩, ⟨(.some 48), none, (.q .mv), [(.t 9)]⟩, ⟨(.some 49), none, (.q (.sliceL 2 false true false)), [(.t 47), (.t 48)]⟩, ⟨(.some 50), none, (.e (.append 35 2 40)), [(.t 46), (.t 49)]⟩, ⟨(.some 51), none, (.q .mv), [(.t 6)]⟩, ⟨(.some 52), none, (.q .mv), [(.t 9)]⟩, ⟨(.some 53), none, (.q (.bin .add 3)), [(.t 52), (.c (.imm (.int .i64 1)))]⟩, ⟨(.some 54), none, (.q (.sliceL 2 true false false)), [(.t 51), (.t 53)]⟩, ⟨(.some 55), none, (.e (.append 35 2 40)), [(.t 50), (.t 54)]⟩, ⟨(.some 10), none, (.q .mv), [(.t 55)]⟩]) (.seq (.reg false 0 [⟨(.some 57), none, (.q .mv), [(.t 10)]⟩, ⟨(.some 58), none, (.call true), [(.c (.fn (.func 11) [] [])), (.t 57)]⟩, ⟨(.some 59), none, (.q .mv), [(.t 6)]⟩, ⟨(.some 60), none, (.call true), [(.c (.fn (.func 10) [] [])), (.t 58), (.t 59)]⟩, ⟨(.some 56), none, (.q .mv), [(.t 60)]⟩, ⟨(.some 61), none, (.q (.ext 0)), [(.t 56)]⟩, ⟨(.some 62), none, (.q (.ext 1)), [(.t 56)]⟩, ⟨(.some 11), none, (.q .mv), [(.t 61)]⟩, ⟨(.some 12), none, (.q .mv), [(.t 62)]⟩]) (.seq (.reg false 0 [⟨(.some 64), none, (.q .mv), [(.t 6)]⟩, ⟨(.some 65), none, (.call true), [(.c (.fn (.func 11) [] [])), (.t 64)]⟩, ⟨(.some 66), none, (.q .mv), [(.t 10)]⟩, ⟨(.some 67), none, (.call true), [(.c (.fn (.func 10) [] [])), (.t 65), (.t 66)]⟩, ⟨(.some 63), none, (.q .mv), [(.t 67)]⟩, ⟨(.some 68), none, (.q (.ext 0)), [(.t 63)]⟩, ⟨(.some 69), none, (.q (.ext 1)), [(.t 63)]⟩, ⟨(.some 13), none, (.q .mv), [(.t 68)]⟩, ⟨(.some 14), none, (.q .mv), [(.t 69)]⟩]) (.seq (.reg false 0 [⟨(.some 70), none, (.q .mv), [(.t 6)]⟩, ⟨(.some 71), none, (.q .mv), [(.t 9)]⟩, ⟨(.some 72), none, (.q (.iaddrS 2)), [(.t 70), (.t 71)]⟩, ⟨(.some 73), none, (.q (.faddr 0)), [(.t 72)]⟩, ⟨(.some 74), none, (.l .load1), [(.t 73)]⟩, ⟨(.some 75), none, (.call true), [(.c (.fn (.func 12) [] [])), (.t 74)]⟩, ⟨(.some 15), none, (.q .mv), [(.t 75)]⟩]) (.seq (.seq (.reg false 0 [⟨(.some 76), none, (.q .mv), [(.t 12)]⟩, ⟨(.some 77), none, (.q (.bin .neq 27)), [(.t 76), (.c (.imm (.int .i64 0)))]⟩, ⟨(.some 78), none, (.q .mv), [(.t 77)]⟩, ⟨(.some 79), (.some (78, false)), (.q .mv), [(.t 14)]⟩, ⟨(.some 80), (.some (78, false)), (.q (.bin .neq 27)), [(.t 79), (.c (.imm (.int .i64 0)))]⟩, ⟨(.some 81), none, (.q .pick), [(.t 78), (.c (.imm (.bool true))), (.t 80)]⟩, ⟨(.some 82), none, (.q .mv), [(.t 81)]⟩, ⟨(.some 83), (.some (82, false)), (.q .mv), [(.t 11)]⟩, ⟨(.some 84), (.some (82, false)), (.q .lenL), [(.t 83)]⟩, ⟨(.some 85), (.some (82, false)), (.q (.bin .eql 3)), [(.t 84), (.c (.imm (.int .i64 1)))]⟩, ⟨(.some 86), (.some (82, false)), (.q .mv), [(.t 15)]⟩, ⟨(.some 87), (.some (82, false)), (.q (.eqBoo true)), [(.t 85), (.t 86)]⟩, ⟨(.some 88), none, (.q .pick), [(.t 82), (.c (.imm (.bool true))), (.t 87)]⟩, ⟨(.some 89), none, (.q .mv), [(.t 88)]⟩, ⟨(.some 90), (.some (89, false)), (.q .mv), [(.t 13)]⟩, ⟨(.some 91), (.some (89, false)), (.q .lenL), [(.t 90)]⟩, ⟨(.some 92), (.some (89, false)), (.q (.bin .eql 3)), [(.t 91), (.c (.imm (.int .i64 1)))]⟩, ⟨(.some 93), (.some (89, false)), (.q .mv), [(.t 15)]⟩, ⟨(.some 94), (.some (89, false)), (.q (.eqBoo true)), [(.t 92), (.t 93)]⟩, ⟨(.some 95), none, (.q .pick), [(.t 89), (.c (.imm (.bool true))), (.t 94)]⟩, ⟨(.some 96), none, (.q .mv), [(.t 95)]⟩, ⟨(.some 97), (.some (96, false)), (.q .mv), [(.t 11)]⟩, ⟨(.some 98), (.some (96, false)), (.q .lenL), [(.t 97)]⟩, ⟨(.some 99), (.some (96, false)), (.q (.bin .gtr 3)), [(.t 98), (.c (.imm (.int .i64 1)))]⟩, ⟨(.some 100), none, (.q .pick), [(.t 96), (.c (.imm (.bool true))), (.t 99)]⟩, ⟨(.some 101), none, (.q .mv), [(.t 100)]⟩, ⟨(.some 102), (.some (101, false)), (.q .mv), [(.t 13)]⟩, ⟨(.some 103), (.some (101, false)), (.q .lenL), [(.t 102)]⟩, ⟨(.some 104), (.some (101, false)), (.q (.bin .gtr 3)), [(.t 103), (.c (.imm (.int .i64 1)))]⟩, ⟨(.some 105), none, (.q .pick), [(.t 101), (.c (.imm (.bool true))), (.t 104)]⟩]) (.cond (.t 105) (.seq (.reg false 0 [⟨(.some 4), none, (.q .mv), [(.c (.imm (.bool false)))]⟩]) .ret) .skip)) (.seq (.reg true 0 [⟨(.some 106), none, (.q .mv), [(.t 5)]⟩, ⟨(.some 107), none, (.q .mv), [(.t 106)]⟩, ⟨(.some 108), (.some (107, true)), (.q .mv), [(.t 15)]⟩, ⟨(.some 109), (.some (107, true)), (.q (.un .not)), [(.t 108)]⟩, ⟨(.some 110), (.some (107, true)), (.q .mv), [(.t 109)]⟩, ⟨(.some 111), (.some (110, false)), (.q .mv), [(.t 11)]⟩, ⟨(.some 112), (.some (110, false)), (.q (.iaddrS 3)), [(.t 111), (.c (.imm (.int .i64 0)))]⟩, ⟨(.some 113), (.some (110, false)), (.q (.faddr 0)), [(.t 112)]⟩, ⟨(.some 114), (.some (110, false)), (.l .load1), [(.t 113)]⟩, ⟨(.some 115), (.some (110, false)), (.q (.bin .eql 3)), [(.t 114), (.c (.imm (.int .i64 1)))]⟩, ⟨(.some 116), (.some (110, false)), (.q .mv), [(.t 115)]⟩, ⟨(.some 117), (.some (116, true)), (.q .mv), [(.t 11)]⟩, ⟨(.some 118), (.some (116, true)), (.q (.iaddrS 3)), [(.t 117), (.c (.imm (.int .i64 0)))]⟩, ⟨(.some 119), (.some (116, true)), (.q (.faddr 1)), [(.t 118)]⟩, ⟨(.some 120), (.some (116, true)), (.l .load1), [(.t 119)]⟩, ⟨(.some 121), (.some (116, true)), (.q .mv), [(.t 6)]⟩, ⟨(.some 122), (.some (116, true)), (.q .mv), [(.t 9)]⟩, ⟨(.some 123), (.some (116, true)), (.q (.iaddrS 2)), [(.t 121), (.t 122)]⟩, ⟨(.some 124), (.some (116, true)), (.q (.faddr 0)), [(.t 123)]⟩, ⟨(.some 125), (.some (116, true)), (.l .load1), [(.t 124)]⟩, ⟨(.some 126), (.some (116, true)), (.q (.bin .eql 9)), [(.t 120), (.t 125)]⟩, ⟨(.some 127), (.some (110, false)), (.q .pick), [(.t 116), (.t 126), (.c (.imm (.bool false)))]⟩, ⟨(.some 128), (.some (110, false)), (.q .mv), [(.t 127)]⟩, ⟨(.some 129), (.some (128, true)), (.q .mv), [(.t 13)]⟩, ⟨(.some 130), (.some (128, true)), (.q (.iaddrS 3)), [(.t 129), (.c (.imm (.int .i64 0)))]⟩, ⟨(.some 131), (.some (128, true)), (.q (.faddr 0)), [(.t 130)]⟩, ⟨(.some 132), (.some (128, true)), (.l .load1), [(.t 131)]⟩, ⟨(.some 133), (.some (128, true)), (.q (.bin .eql 3)), [(.t 132), (.c (.imm (.int .i64 2)))]⟩, ⟨(.some 134), (.some (110, false)), (.q .pick), [(.t 128), (.t 133), (.c (.imm (.bool false)))]⟩, ⟨(.some 135), (.some (110, false)), (.q .mv), [(.t 134)]⟩, ⟨(.some 136), (.some (135, true)), (.q .mv), [(.t 13)]⟩, ⟨(.some 137), (.some (135, true)), (.q (.iaddrS 3)), [(.t 136), (.c (.imm (.int .i64 0)))]⟩, ⟨(.some 138), (.some (135, true)), (.q (.faddr 1)), [(.t 137)]⟩, ⟨(.some 139), (.some (135, true)), (.l .load1), [(.t 138)]⟩, ⟨(.some 140), (.some (135, true)), (.q .mv), [(.t 6)]⟩, ⟨(.some 141), (.some (135, true)), (.q .mv), [(.t 9)]⟩, ⟨(.some 142), (.some (135, true)), (.q (.iaddrS 2)), [(.t 140), (.t 141)]⟩, ⟨(.some 143), (.some (135, true)), (.q (.faddr 0)), [(.t 142)]⟩, ⟨(.some 144), (.some (135, true)), (.l .load1), [(.t 143)]⟩, ⟨(.some 145), (.some (135, true)), (.q (.bin .eql 9)), [(.t 139), (.t 144)]⟩, ⟨(.some 146), (.some (110, false)), (.q .pick), [(.t 135), (.t 145), (.c (.imm (.bool false)))]⟩, ⟨(.some 147), (.some (107, true)), (.q .pick), [(.t 110), (.c (.imm (.bool true))), (.t 146)]⟩, ⟨(.some 148), none, (.q .pick), [(.t 107), (.t 147), (.c (.imm (.bool false)))]⟩, ⟨(.some 4), none, (.q .mv), [(.t 148)]⟩]) .ret))))))))))))))
theorem fn3 : IsFn Tryz.prog 3 (List.range 200) c3 [4] 149 := ⟨_, _, Tryz.func3, rfl, by decide +kernel, by kernel_rfl, rfl, rfl⟩
set_option maxHeartbeats 16000000 in
theorem p3 (l : List Fil) (z : Int) (ho : filE.all l) (hs : l.length ≤ 1048576) (hz : 0 ≤ z ∧ z ≤ 255) : Pure Tryz.prog G 3 [filsV l, u8 z] (bool true) := by
  refine pure_of_code' (S := sp [(7, none0 (bool true)), (8, fil1b smallF), (9, fil1 treeF), (11, shnSp), (10, scSp scanPV), (12, ownS)] []) hm hG
    (sp_holds (.cons (told_none0 p7s) (.cons told_small (.cons told_treeN (.cons told_shown11 (.cons told_sc10 (.cons (told_txt1b p12) .nil)))))) .nil) fn3 (St 16 149 [filsV l, u8 z, .junk, .junk, .junk, .junk, .junk, .junk, .junk, .junk, .junk, .junk, .junk, .junk, .junk, .junk] []) (by kernel_rfl) ⟨⟨lows_fils 0 l, fun k hk => by cases hk⟩, trivial, trivial⟩ (by simp [AV.low]) ?_
  have q8 : ∀ K, ask (fil1b smallF) [filsV l] K = splitB (smallF l) K := fun K => ask_fil1b ⟨ho, by omega⟩
  have hzz : u8 z = .imm (.int .u8 z) := rfl
  rw [hzz]
  cases hb : smallF l with
  | false => simp (maxSteps := 2000000) -implicitDefEqProofs only [c3, RS, RX, Nat.reduceLT, ↓RP0, ↓RP1, ↓RP2, ↓RP3, RV, RW, ↓reduceIte, Nat.reduceAdd, Nat.reduceSub, Nat.reduceMul, Nat.reduceLeDiff, Nat.reduceEqDiff, Int.reduceLT, Int.reduceLE, Int.reduceEq, Int.reduceNe, Int.reduceAdd, Int.reduceSub, Int.reduceMul, Int.reduceNeg, Int.reduceToNat, reduceCtorEq, ↓q8, q8, hb]
  | true =>
    have q9 : ∀ K, ask (fil1 treeF) [filsV l] K = K (filsV (treeF l)) := fun K => ask_fil1 ⟨ho, by omega⟩
    obtain ⟨to, tl⟩ := treeTo_ok ho 30
    change filE.all (treeF l) at to
    change (treeF l).length ≤ 30 at tl
    have tm := tree_may l
    have tr := ris_of_may tm
    generalize treeF l = t at *
    have q11 : ∀ K, ask shnSp [filsV t] K = K (shwsV (t.map shwOf)) := fun K => ask_shnSp ⟨to, by omega⟩
    have q10 : ∀ K, ask (scSp scanPV) [shwsV (t.map shwOf), filsV t] K = K (.tup [.sl 3 [] none, i64 0]) := fun K => ask_scan to to (by omega) tm (scan_same tr)
    by_cases h0 : t.length = 0
    · have e0 : ((t.length : Int) = 0) = True := eq_true (by omega)
      simp (maxSteps := 2000000) -implicitDefEqProofs only [c3, RS, RX, Nat.reduceLT, ↓RP0, ↓RP1, ↓RP2, ↓RP3, RV, RW, ↓reduceIte, Nat.reduceAdd, Nat.reduceSub, Nat.reduceMul, Nat.reduceLeDiff, Nat.reduceEqDiff, Int.reduceLT, Int.reduceLE, Int.reduceEq, Int.reduceNe, Int.reduceAdd, Int.reduceSub, Int.reduceMul, Int.reduceNeg, Int.reduceToNat, reduceCtorEq, ↓q8, q8, hb, ↓q9, q9, ↓q11, q11, ↓q10, q10, e0, fils_len]
    · have e0 : ((t.length : Int) = 0) = False := eq_false (by omega)
      have w1 : IntKind.i64.wrap z = z := In64.wrap ⟨by omega, by omega⟩
      obtain ⟨k, hk, hkl⟩ : ∃ k : Nat, z.tmod (t.length : Int) = (k : Int) ∧ k < t.length := by
        refine ⟨z.toNat % t.length, ?_, Nat.mod_lt _ (by omega)⟩
        rw [Int.tmod_eq_emod_of_nonneg hz.1, Int.natCast_emod, Int.toNat_of_nonneg hz.1]
      have e1 := filE.vs_get hkl
      have ox : FilOk (t.getD k filE.d0) := filE.all_getD to hkl
      have hsp : t = t.take k ++ t.getD k filE.d0 :: t.drop (k + 1) := by
        have := List.take_append_drop k t
        rw [List.drop_eq_getElem_cons hkl] at this
        rw [List.getD_eq_getElem?_getD, List.getElem?_eq_getElem hkl]
        exact this.symm
      obtain ⟨x, hx⟩ : ∃ x, t.getD k filE.d0 = x := ⟨_, rfl⟩
      rw [hx] at e1 ox hsp
      change _ = AV.agg (filC x) at e1
      obtain ⟨s, hs'⟩ : ∃ s, t.take k ++ t.drop (k + 1) = s := ⟨_, rfl⟩
      have hss : List.Sublist s t := by
        rw [← hs']
        have := (List.Sublist.refl (t.take k)).append (List.sublist_cons_self x (t.drop (k + 1)))
        rwa [← hsp] at this
      have so : filE.all s := fun f hf => to f (hss.mem hf)
      have sl : s.length ≤ t.length := hss.length_le
      have sm := may_sub tm hss
      have q11' : ∀ K, ask shnSp [filsV s] K = K (shwsV (s.map shwOf)) := fun K => ask_shnSp ⟨so, by omega⟩
      have tr' := tr
      rw [hsp] at tr'
      have qb : ∀ K, ask (scSp scanPV) [shwsV (s.map shwOf), filsV t] K = K (.tup [edsV (pick (ownP x.path) (putE x)), i64 0]) := fun K => ask_scan so to (by omega) tm (by rw [← hs']; have := scan_put tr'; rw [← hsp] at this; exact this)
      have qc : ∀ K, ask (scSp scanPV) [shwsV (t.map shwOf), filsV s] K = K (.tup [edsV (pick (ownP x.path) (delE (shwOf x))), i64 0]) := fun K => ask_scan to so (by omega) sm (by rw [← hs']; have := scan_del tr'; rw [← hsp] at this; exact this)
      have mS : List.take k (List.map filE.v t) ++ List.drop (k + 1) (List.take t.length (List.map filE.v t)) = List.map filE.v s := by
        have lt4 : List.take t.length (List.map filE.v t) = List.map filE.v t := List.take_of_length_le (by rw [fils_len]; exact Nat.le_refl _)
        rw [← hs', lt4]; simp [List.map_take, List.map_drop]
      have tl1 : (List.take k (List.map filE.v t)).length = k := by rw [List.length_take, fils_len]; omega
      have tl2 : (List.drop (k + 1) (List.take t.length (List.map filE.v t))).length ≤ t.length := by rw [List.length_drop, List.length_take, fils_len]; omega
      have kt : ((k : Int) + 1).toNat = k + 1 := by omega
      have pP : edsV (pick true (putE x)) = .sl 3 [.agg (edC (putE x))] none := rfl
      have pD : edsV (pick true (delE (shwOf x))) = .sl 3 [.agg (edC (delE (shwOf x)))] none := rfl
      have p0 : ∀ e, edsV (pick false e) = .sl 3 [] none := fun e => rfl
      have dp : (delE (shwOf x)).path = x.path := rfl
      have pp : (putE x).path = x.path := rfl
      have pk : (putE x).kind = 1 := rfl
      have dk : (delE (shwOf x)).kind = 2 := rfl
      have n1 : ((1 : Nat) : Int) = 1 := rfl
      have n0 : ((0 : Nat) : Int) = 0 := rfl
      cases hown : ownP x.path with
      | true =>
        have q12 : ∀ K, ask ownS [T x.path] K = K (bool true) := fun K => by rw [ownS, ask_txt1b, hown]; simp [splitB_eq, SplitP, ox.path]
        rw [hown, pP] at qb
        rw [hown, pD] at qc
        simp (maxSteps := 2000000) -implicitDefEqProofs only [c3, RS, RX, Nat.reduceLT, ↓RP0, ↓RP1, ↓RP2, ↓RP3, RV, RW, ↓reduceIte, Nat.reduceAdd, Nat.reduceSub, Nat.reduceMul, Nat.reduceLeDiff, Nat.reduceEqDiff, Int.reduceLT, Int.reduceLE, Int.reduceEq, Int.reduceNe, Int.reduceAdd, Int.reduceSub, Int.reduceMul, Int.reduceNeg, Int.reduceToNat, reduceCtorEq, ↓q8, q8, hb, ↓q9, q9, ↓q11, q11, ↓q10, q10, ↓q11', q11', ↓qb, qb, ↓qc, qc, ↓q12, q12, mS, e0, w1, hk, e1, kt, pp, dp, pk, dk, n1, n0, List.getD_cons_zero, List.length_singleton, ed0, ed1, ed_len, ed_take, fils_len, fil_len, fil0, fil1', fil_take, fil_strip, AV.cells]
        refine ⟨(fun y hy => by cases hy), .inl trivial, by omega, .inl trivial, .inl trivial, by omega, by omega, ⟨by omega, by omega⟩, .inl trivial, by omega, by omega, .inl trivial, .inl trivial, by omega, by omega, by omega, by omega, by omega⟩
      | false =>
        have q12 : ∀ K, ask ownS [T x.path] K = K (bool false) := fun K => by rw [ownS, ask_txt1b, hown]; simp [splitB_eq, SplitP, ox.path]
        rw [hown, p0] at qb qc
        simp (maxSteps := 2000000) -implicitDefEqProofs only [c3, RS, RX, Nat.reduceLT, ↓RP0, ↓RP1, ↓RP2, ↓RP3, RV, RW, ↓reduceIte, Nat.reduceAdd, Nat.reduceSub, Nat.reduceMul, Nat.reduceLeDiff, Nat.reduceEqDiff, Int.reduceLT, Int.reduceLE, Int.reduceEq, Int.reduceNe, Int.reduceAdd, Int.reduceSub, Int.reduceMul, Int.reduceNeg, Int.reduceToNat, reduceCtorEq, ↓q8, q8, hb, ↓q9, q9, ↓q11, q11, ↓q10, q10, ↓q11', q11', ↓qb, qb, ↓qc, qc, ↓q12, q12, mS, e0, w1, hk, e1, kt, n1, n0, fils_len, fil_len, fil0, fil1', fil_take, fil_strip, AV.cells]
        refine ⟨(fun y hy => by cases hy), .inl trivial, by omega, .inl trivial, .inl trivial, by omega, by omega, ⟨by omega, by omega⟩, .inl trivial, by omega, by omega, .inl trivial, .inl trivial, by omega, by omega, by omega⟩
end Go.AL.Path
