/- Plain: the order of events; rising lists. -/
import Derived.Test.YtcppnhnomemphaaGreatDoorG26
import Derived.Test.YtcppnhnomemphaaGreatDoorG33
import Derived.Test.YtcppnhnomemphaaGreatDoorG34
import Derived.Test.YtcppnhnomemphaaGreatDoorG35
import Derived.Sort.Walk0
set_option linter.unusedSimpArgs false
set_option linter.unusedVariables false
set_option maxRecDepth 100000
namespace Go.AL.Path
open Go Go.RowKit Go.Proofs Go.AL

theorem bl_lt (a b : List UInt8) : Op.bytesLess a b = true ↔ a < b := by rw [Go.Proofs.bytesLess_eq]; simp
theorem cmpEv_neg (e f : Ev) : cmpEv e f < 0 ↔ e.path < f.path ∨ e.path = f.path ∧ (e.r < f.r ∨ e.r = f.r ∧ e.q < f.q) := by
  unfold cmpEv
  by_cases h : Op.bytesLess e.path f.path = true
  · rw [if_pos h]
    exact ⟨fun _ => .inl ((bl_lt _ _).1 h), fun _ => by decide⟩
  · rw [if_neg h]
    have hn : ¬ e.path < f.path := fun h1 => h ((bl_lt _ _).2 h1)
    by_cases hp : e.path = f.path
    · rw [if_pos hp]
      unfold cmpDot
      have hi : ¬ f.path < f.path := List.lt_irrefl _
      simp only [hp, hi, false_or, true_and]
      split
      · rename_i h0
        constructor
        · intro h1; omega
        · intro h1; omega
      · split
        · rename_i h0 h1; exact ⟨fun _ => h1, fun _ => by decide⟩
        · rename_i h0 h1; exact ⟨fun h2 => absurd h2 (by decide), fun h2 => absurd h2 h1⟩
    · rw [if_neg hp]
      simp [hn, hp]
theorem cmpEv_pos (e f : Ev) : 0 < cmpEv e f ↔ cmpEv f e < 0 := by
  rw [cmpEv_neg]
  unfold cmpEv
  by_cases h : Op.bytesLess e.path f.path = true
  · rw [if_pos h]
    have h1 := (bl_lt _ _).1 h
    refine ⟨fun h2 => absurd h2 (by decide), fun h2 => ?_⟩
    rcases h2 with h2 | ⟨h2, _⟩
    · exact absurd h1 (List.lt_asymm h2)
    · rw [h2] at h1; exact absurd h1 (List.lt_irrefl _)
  · rw [if_neg h]
    have hn : ¬ e.path < f.path := fun h1 => h ((bl_lt _ _).2 h1)
    by_cases hp : e.path = f.path
    · rw [if_pos hp]
      have hi : ¬ f.path < f.path := List.lt_irrefl _
      simp only [hp, hi, false_or, true_and]
      unfold cmpDot
      split
      · constructor <;> intro h1 <;> omega
      · split
        · constructor <;> intro h1 <;> omega
        · exact ⟨fun _ => by omega, fun _ => by decide⟩
    · rw [if_neg hp]
      refine ⟨fun _ => .inl ?_, fun _ => by decide⟩
      rcases List.le_total f.path e.path with h2 | h2
      · rcases Classical.em (f.path < e.path) with h3 | h3
        · exact h3
        · exact absurd (List.le_antisymm (List.not_lt.1 h3) h2) hp
      · exact absurd (List.le_antisymm h2 (List.not_lt.1 hn)) hp
theorem lt_self (e : Ev) : ¬ cmpEv e e < 0 := by
  rw [cmpEv_neg]
  rintro (h | ⟨_, h⟩)
  · exact List.lt_irrefl _ h
  · omega
theorem lt_trans' {a b c : Ev} (h1 : cmpEv a b < 0) (h2 : cmpEv b c < 0) : cmpEv a c < 0 := by
  rw [cmpEv_neg] at *
  rcases h1 with h1 | ⟨p1, d1⟩
  · rcases h2 with h2 | ⟨p2, d2⟩
    · exact .inl (List.lt_trans h1 h2)
    · exact .inl (p2 ▸ h1)
  · rcases h2 with h2 | ⟨p2, d2⟩
    · exact .inl (p1 ▸ h2)
    · exact .inr ⟨p1.trans p2, by omega⟩
theorem lt_tri (a b : Ev) : cmpEv a b < 0 ∨ cmpEv b a < 0 ∨ a.path = b.path ∧ a.r = b.r ∧ a.q = b.q := by
  rcases Classical.em (a.path < b.path) with h | h
  · exact .inl ((cmpEv_neg _ _).2 (.inl h))
  · rcases Classical.em (b.path < a.path) with h' | h'
    · exact .inr (.inl ((cmpEv_neg _ _).2 (.inl h')))
    · have hp : a.path = b.path := List.le_antisymm (List.not_lt.1 h') (List.not_lt.1 h)
      by_cases h1 : a.r < b.r ∨ a.r = b.r ∧ a.q < b.q
      · exact .inl ((cmpEv_neg _ _).2 (.inr ⟨hp, h1⟩))
      · by_cases h2 : b.r < a.r ∨ b.r = a.r ∧ b.q < a.q
        · exact .inr (.inl ((cmpEv_neg _ _).2 (.inr ⟨hp.symm, h2⟩)))
        · exact .inr (.inr ⟨hp, by omega, by omega⟩)

/-- Strictly rising. -/
def Rises (l : List Ev) : Prop := l.Pairwise fun a b => cmpEv a b < 0
theorem rises_ext : ∀ {a b : List Ev}, Rises a → Rises b → (∀ x, x ∈ a ↔ x ∈ b) → a = b
  | [], [], _, _, _ => rfl
  | [], y :: b, _, _, h => by have := (h y).2 List.mem_cons_self; cases this
  | x :: a, [], _, _, h => by have := (h x).1 List.mem_cons_self; cases this
  | x :: a, y :: b, ha, hb, h => by
    obtain ⟨ha1, ha2⟩ := List.pairwise_cons.1 ha
    obtain ⟨hb1, hb2⟩ := List.pairwise_cons.1 hb
    have hxy : x = y := by
      rcases List.mem_cons.1 ((h x).1 List.mem_cons_self) with e | hx
      · exact e
      · rcases List.mem_cons.1 ((h y).2 List.mem_cons_self) with e | hy
        · exact e.symm
        · exact absurd (lt_trans' (ha1 y hy) (hb1 x hx)) (lt_self _)
    subst hxy
    rw [rises_ext ha2 hb2 fun z => ?_]
    constructor
    · intro hz
      rcases List.mem_cons.1 ((h z).1 (List.mem_cons_of_mem _ hz)) with rfl | hz'
      · exact absurd (ha1 z hz) (lt_self _)
      · exact hz'
    · intro hz
      rcases List.mem_cons.1 ((h z).2 (List.mem_cons_of_mem _ hz)) with rfl | hz'
      · exact absurd (hb1 z hz) (lt_self _)
      · exact hz'
/-- One more, behind those that are less and ahead of those that are greater. -/
theorem rises_put {a b : List Ev} {e : Ev} (h : Rises (a ++ b)) (ha : ∀ x ∈ a, cmpEv x e < 0) (hb : ∀ x ∈ b, cmpEv e x < 0) : Rises (a ++ [e] ++ b) := by
  obtain ⟨h1, h2, h3⟩ := List.pairwise_append.1 h
  refine List.pairwise_append.2 ⟨List.pairwise_append.2 ⟨h1, by simp, ?_⟩, h2, ?_⟩
  · intro x hx y hy; rw [List.mem_singleton.1 hy]; exact ha x hx
  · intro x hx y hy
    rcases List.mem_append.1 hx with hx | hx
    · exact h3 x hx y hy
    · rw [List.mem_singleton.1 hx]; exact hb y hy
end Go.AL.Path

/- Plain: heads are those that none at their path knows. -/
set_option linter.unusedSimpArgs false
set_option linter.unusedVariables false
set_option maxRecDepth 100000
namespace Go.AL.Path
open Go Go.RowKit Go.Proofs Go.AL

structure Causal (U : Ev → Prop) : Prop where
  dot : ∀ a b, U a → U b → a.r = b.r → a.q = b.q → a = b
  irr : ∀ a, U a → knows a a = false
  trans : ∀ a b c, U a → U b → U c → knows a b = true → knows b c = true → knows a c = true
/-- f, at e's path, knows it. -/
def Above (f e : Ev) : Prop := f.path = e.path ∧ knows f e = true
instance (f e : Ev) : Decidable (Above f e) := inferInstanceAs (Decidable (_ ∧ _))
def Mx (l : List Ev) (e : Ev) : Prop := e ∈ l ∧ ∀ f ∈ l, ¬ Above f e

theorem countP_lt {α : Type} {p q : α → Bool} : ∀ {l : List α}, (∀ x ∈ l, p x = true → q x = true) → (∃ x ∈ l, q x = true ∧ p x = false) → l.countP p < l.countP q
  | [], _, h => by obtain ⟨x, hx, _⟩ := h; cases hx
  | a :: l, h1, h2 => by
    have hle : l.countP p ≤ l.countP q := List.countP_mono_left fun x hx => h1 x (List.mem_cons_of_mem _ hx)
    rw [List.countP_cons, List.countP_cons]
    obtain ⟨x, hx, hq, hp⟩ := h2
    rcases List.mem_cons.1 hx with rfl | hx
    · simp only [hq, hp, if_true, Bool.false_eq_true, if_false]; omega
    · have := countP_lt (l := l) (fun x hx => h1 x (List.mem_cons_of_mem _ hx)) ⟨x, hx, hq, hp⟩
      by_cases ha : p a = true
      · simp only [ha, h1 a List.mem_cons_self ha, if_true]; omega
      · simp only [ha, Bool.false_eq_true, if_false]; omega

section
variable {U : Ev → Prop} (hU : Causal U)
include hU
theorem above_trans {a b c : Ev} (ha : U a) (hb : U b) (hc : U c) (h1 : Above a b) (h2 : Above b c) : Above a c := ⟨h1.1.trans h2.1, hU.trans a b c ha hb hc h1.2 h2.2⟩
theorem above_irr {a : Ev} (ha : U a) : ¬ Above a a := fun h => by have := hU.irr a ha; rw [h.2] at this; cases this
theorem exists_top {l : List Ev} (hl : ∀ x ∈ l, U x) : ∀ (n : Nat) (f : Ev), f ∈ l → l.countP (fun g => decide (Above g f)) ≤ n → ∃ g, Mx l g ∧ (g = f ∨ Above g f) := by
  intro n
  induction n with
  | zero =>
    intro f hf hn
    refine ⟨f, ⟨hf, fun g hg hab => ?_⟩, .inl rfl⟩
    have := List.countP_eq_zero.1 (Nat.le_zero.1 hn) g hg
    simp [hab] at this
  | succ n ih =>
    intro f hf hn
    by_cases h : ∃ g ∈ l, Above g f
    · obtain ⟨g, hg, hab⟩ := h
      have hlt : l.countP (fun x => decide (Above x g)) < l.countP (fun x => decide (Above x f)) := by
        refine countP_lt (fun x hx h1 => ?_) ⟨g, hg, by simp [hab], ?_⟩
        · have := above_trans hU (hl x hx) (hl g hg) (hl f hf) (of_decide_eq_true h1) hab
          simp [this]
        · have := above_irr hU (hl g hg)
          simp [this]
      obtain ⟨t, ht, h2⟩ := ih g hg (by omega)
      refine ⟨t, ht, .inr ?_⟩
      rcases h2 with rfl | h2
      · exact hab
      · exact above_trans hU (hl t ht.1) (hl g hg) (hl f hf) h2 hab
    · exact ⟨f, ⟨hf, fun g hg hab => h ⟨g, hg, hab⟩⟩, .inl rfl⟩
theorem has_top {l : List Ev} (hl : ∀ x ∈ l, U x) {f : Ev} (hf : f ∈ l) : ∃ g, Mx l g ∧ (g = f ∨ Above g f) := exists_top hU hl _ f hf (Nat.le_refl _)
end

/-! One more. -/
theorem covers_iff (e f : Ev) : covers e f = true ↔ f.path = e.path ∧ ((f.r = e.r ∧ f.q = e.q) ∨ knows f e = true) := by simp [covers]
theorem gone_iff (e f : Ev) : gone e f = true ↔ Above e f := by
  unfold gone Above
  simp only [Bool.and_eq_true, decide_eq_true_eq]
  exact ⟨fun h => ⟨h.1.symm, h.2⟩, fun h => ⟨h.1.symm, h.2⟩⟩
theorem addRef_cov {h : List Ev} {e : Ev} (hc : h.any (covers e) = true) : addRef h e = h := by unfold addRef; rw [if_pos hc]
theorem addRef_new {h : List Ev} {e : Ev} (hc : ¬ h.any (covers e) = true) : ∃ i, i ≤ (h.filter fun f => !gone e f).length ∧ addRef h e = (h.filter fun f => !gone e f).take i ++ [e] ++ (h.filter fun f => !gone e f).drop i ∧
    (∀ x ∈ (h.filter fun f => !gone e f).take i, ¬ 0 < cmpEv x e) ∧ (i < (h.filter fun f => !gone e f).length → ∃ y, (h.filter fun f => !gone e f)[i]? = some y ∧ 0 < cmpEv y e) := by
  rw [← addP_eq]
  unfold addP
  rw [if_neg hc]
  dsimp only
  generalize (h.filter fun f => !gone e f) = out
  unfold idxOf
  by_cases ha : out.any (fun f => decide (0 < cmpEv f e)) = true
  · rw [if_pos ha]
    have h0 : ¬ ((out.findIdx (fun f => decide (0 < cmpEv f e)) : Nat) : Int) < 0 := by omega
    rw [if_neg h0, Int.toNat_natCast]
    have hlt : out.findIdx (fun f => decide (0 < cmpEv f e)) < out.length := by
      rw [List.findIdx_lt_length]
      obtain ⟨x, hx, hp⟩ := List.any_eq_true.1 ha
      exact ⟨x, hx, hp⟩
    refine ⟨_, by omega, rfl, fun x hx hp => ?_, fun hi => ?_⟩
    · obtain ⟨j, hj, rfl⟩ := List.mem_take_iff_getElem.1 hx
      have := List.not_of_lt_findIdx (p := fun f => decide (0 < cmpEv f e)) (xs := out) (i := j) (by omega)
      simp [hp] at this
    · refine ⟨out[out.findIdx (fun f => decide (0 < cmpEv f e))], List.getElem?_eq_getElem hlt, ?_⟩
      have := List.findIdx_getElem (p := fun f => decide (0 < cmpEv f e)) (w := hlt)
      simpa using this
  · rw [if_neg ha]
    have h0 : (-1 : Int) < 0 := by decide
    rw [if_pos h0]
    refine ⟨out.length, Nat.le_refl _, rfl, fun x hx hp => ?_, fun hi => absurd hi (Nat.lt_irrefl _)⟩
    exact ha (List.any_eq_true.2 ⟨x, List.mem_of_mem_take hx, by simp [hp]⟩)
theorem addRef_mem {h : List Ev} {e : Ev} (hc : ¬ h.any (covers e) = true) (x : Ev) : x ∈ addRef h e ↔ x = e ∨ x ∈ h ∧ ¬ Above e x := by
  obtain ⟨i, _, he, _⟩ := addRef_new hc
  rw [he]
  have : x ∈ (h.filter fun f => !gone e f) ↔ x ∈ h ∧ ¬ Above e x := by
    rw [List.mem_filter, ← gone_iff]; simp
  rw [← this]
  generalize (h.filter fun f => !gone e f) = out
  rw [List.mem_append, List.mem_append, List.mem_singleton]
  constructor
  · rintro ((h | h) | h)
    · exact .inr (List.mem_of_mem_take h)
    · exact .inl h
    · exact .inr (List.mem_of_mem_drop h)
  · rintro (h | h)
    · exact .inl (.inr h)
    · rw [← List.take_append_drop i out] at h
      rcases List.mem_append.1 h with h | h
      · exact .inl (.inl h)
      · exact .inr h
theorem addRef_rises {h : List Ev} {e : Ev} (hr : Rises h) : Rises (addRef h e) := by
  by_cases hc : h.any (covers e) = true
  · rw [addRef_cov hc]; exact hr
  · obtain ⟨i, hi, he, h1, h2⟩ := addRef_new hc
    have ho : Rises (h.filter fun f => !gone e f) := hr.filter _
    have hn : ∀ x ∈ (h.filter fun f => !gone e f), ¬ (x.path = e.path ∧ x.r = e.r ∧ x.q = e.q) := fun x hx hs => by
      refine hc (List.any_eq_true.2 ⟨x, (List.mem_filter.1 hx).1, ?_⟩)
      rw [covers_iff]; exact ⟨hs.1, .inl hs.2⟩
    rw [he]
    generalize (h.filter fun f => !gone e f) = out at *
    refine rises_put (by rw [List.take_append_drop]; exact ho) (fun x hx => ?_) (fun x hx => ?_)
    · have hx1 := h1 x hx
      rw [cmpEv_pos] at hx1
      rcases lt_tri x e with h | h | h
      · exact h
      · exact absurd h hx1
      · exact absurd h (hn x (List.mem_of_mem_take hx))
    · have hil : i < out.length := by
        rcases Nat.lt_or_ge i out.length with h | h
        · exact h
        · rw [List.drop_of_length_le h] at hx; cases hx
      obtain ⟨y, hy, hp⟩ := h2 hil
      rw [cmpEv_pos] at hp
      rw [List.drop_eq_getElem_cons hil] at hx
      rw [List.getElem?_eq_getElem hil] at hy
      have hy' : out[i] = y := Option.some.inj hy
      rcases List.mem_cons.1 hx with rfl | hx
      · rw [hy']; exact hp
      · have hd : Rises (out.drop i) := List.Pairwise.drop ho
        rw [List.drop_eq_getElem_cons hil] at hd
        exact lt_trans' (by rw [hy']; exact hp) ((List.pairwise_cons.1 hd).1 x hx)
end Go.AL.Path

/- Plain: heads of a list, in whatever order; the reference's Last. -/
set_option linter.unusedSimpArgs false
set_option linter.unusedVariables false
set_option maxRecDepth 100000
namespace Go.AL.Path
open Go Go.RowKit Go.Proofs Go.AL

section
variable {U : Ev → Prop} (hU : Causal U)
include hU
theorem add_Mx {l h : List Ev} {e : Ev} (hl : ∀ x ∈ l, U x) (he : U e) (hh : ∀ x, x ∈ h ↔ Mx l x) (x : Ev) : x ∈ addRef h e ↔ Mx (l ++ [e]) x := by
  have hhU : ∀ x ∈ h, U x := fun x hx => hl x ((hh x).1 hx).1
  by_cases hc : h.any (covers e) = true
  · rw [addRef_cov hc, hh]
    obtain ⟨f, hf, hcf⟩ := List.any_eq_true.1 hc
    rw [covers_iff] at hcf
    have hfM := (hh f).1 hf
    have hfU := hhU f hf
    constructor
    · rintro ⟨hx, hn⟩
      refine ⟨List.mem_append_left _ hx, fun g hg hab => ?_⟩
      rcases List.mem_append.1 hg with hg | hg
      · exact hn g hg hab
      · rw [List.mem_singleton.1 hg] at hab
        rcases hcf.2 with hd | hk
        · rw [hU.dot f e hfU he hd.1 hd.2] at hfM; exact hn e hfM.1 hab
        · exact hn f hfM.1 (above_trans hU hfU he (hl x hx) ⟨hcf.1, hk⟩ hab)
    · rintro ⟨hx, hn⟩
      refine ⟨?_, fun g hg => hn g (List.mem_append_left _ hg)⟩
      rcases List.mem_append.1 hx with hx | hx
      · exact hx
      · have hxe := List.mem_singleton.1 hx
        subst hxe
        rcases hcf.2 with hd | hk
        · rw [← hU.dot f x hfU he hd.1 hd.2]; exact hfM.1
        · exact absurd ⟨hcf.1, hk⟩ (hn f (List.mem_append_left _ hfM.1))
  · rw [addRef_mem hc, hh]
    have hnc : ∀ f ∈ h, ¬ (f.path = e.path ∧ ((f.r = e.r ∧ f.q = e.q) ∨ knows f e = true)) := fun f hf hcf => hc (List.any_eq_true.2 ⟨f, hf, (covers_iff _ _).2 hcf⟩)
    have hne : ∀ f ∈ l, ¬ Above f e := fun f hf hab => by
      obtain ⟨g, hg, h2⟩ := has_top hU hl hf
      refine hnc g ((hh g).2 hg) ?_
      rcases h2 with rfl | h2
      · exact ⟨hab.1, .inr hab.2⟩
      · have := above_trans hU (hl g hg.1) (hl f hf) he h2 hab
        exact ⟨this.1, .inr this.2⟩
    constructor
    · rintro (rfl | ⟨hx, hg⟩)
      · refine ⟨List.mem_append_right _ (List.mem_singleton.2 rfl), fun f hf hab => ?_⟩
        rcases List.mem_append.1 hf with hf | hf
        · exact hne f hf hab
        · rw [List.mem_singleton.1 hf] at hab; exact above_irr hU he hab
      · refine ⟨List.mem_append_left _ hx.1, fun f hf hab => ?_⟩
        rcases List.mem_append.1 hf with hf | hf
        · exact hx.2 f hf hab
        · rw [List.mem_singleton.1 hf] at hab; exact hg hab
    · rintro ⟨hx, hn⟩
      rcases List.mem_append.1 hx with hx | hx
      · exact .inr ⟨⟨hx, fun f hf => hn f (List.mem_append_left _ hf)⟩, hn e (List.mem_append_right _ (List.mem_singleton.2 rfl))⟩
      · exact .inl (List.mem_singleton.1 hx)
theorem fold_Mx : ∀ {k l h : List Ev}, (∀ x ∈ l, U x) → (∀ x ∈ k, U x) → (∀ x, x ∈ h ↔ Mx l x) → ∀ x, x ∈ k.foldl addRef h ↔ Mx (l ++ k) x
  | [], l, h, _, _, hh, x => by rw [List.append_nil]; exact hh x
  | e :: k, l, h, hl, hk, hh, x => by
    have he := hk e List.mem_cons_self
    have := fold_Mx (k := k) (l := l ++ [e]) (h := addRef h e) (fun x hx => by
      rcases List.mem_append.1 hx with hx | hx
      · exact hl x hx
      · rw [List.mem_singleton.1 hx]; exact he) (fun x hx => hk x (List.mem_cons_of_mem _ hx)) (add_Mx hU hl he hh) x
    rw [List.foldl_cons, this]
    simp
omit hU in
theorem fold_rises : ∀ {k h : List Ev}, Rises h → Rises (k.foldl addRef h)
  | [], h, hr => hr
  | e :: k, h, hr => fold_rises (k := k) (h := addRef h e) (addRef_rises hr)
omit hU in
/-- Heads of the same events are the same. -/
theorem Mx_congr {l m : List Ev} (h : ∀ x, x ∈ l ↔ x ∈ m) (x : Ev) : Mx l x ↔ Mx m x := by
  unfold Mx
  rw [h]
  exact ⟨fun ⟨a, b⟩ => ⟨a, fun f hf => b f ((h f).2 hf)⟩, fun ⟨a, b⟩ => ⟨a, fun f hf => b f ((h f).1 hf)⟩⟩
/-- Of a part its heads alone are enough. -/
theorem Mx_part {l m k : List Ev} (hl : ∀ x ∈ l, U x) (hk : ∀ x ∈ k, U x) (hm : ∀ x, x ∈ m ↔ Mx k x) (x : Ev) : Mx (l ++ m) x ↔ Mx (l ++ k) x := by
  have hmk : ∀ y ∈ m, y ∈ k := fun y hy => ((hm y).1 hy).1
  constructor
  · rintro ⟨hx, hn⟩
    refine ⟨?_, fun f hf hab => ?_⟩
    · rcases List.mem_append.1 hx with hx | hx
      · exact List.mem_append_left _ hx
      · exact List.mem_append_right _ (hmk x hx)
    · rcases List.mem_append.1 hf with hf | hf
      · exact hn f (List.mem_append_left _ hf) hab
      · obtain ⟨g, hg, h2⟩ := has_top hU hk hf
        have hxU : U x := by
          rcases List.mem_append.1 hx with hx | hx
          · exact hl x hx
          · exact hk x (hmk x hx)
        refine hn g (List.mem_append_right _ ((hm g).2 hg)) ?_
        rcases h2 with rfl | h2
        · exact hab
        · exact above_trans hU (hk g hg.1) (hk f hf) hxU h2 hab
  · rintro ⟨hx, hn⟩
    refine ⟨?_, fun f hf hab => ?_⟩
    · rcases List.mem_append.1 hx with hx | hx
      · exact List.mem_append_left _ hx
      · exact List.mem_append_right _ ((hm x).2 ⟨hx, fun f hf => hn f (List.mem_append_right _ hf)⟩)
    · rcases List.mem_append.1 hf with hf | hf
      · exact hn f (List.mem_append_left _ hf) hab
      · exact hn f (List.mem_append_right _ (hmk f hf)) hab
end
end Go.AL.Path

/- Plain: the reference's Last is the heads, rising. -/
set_option linter.unusedSimpArgs false
set_option linter.unusedVariables false
set_option maxRecDepth 100000
namespace Go.AL.Path
open Go Go.RowKit Go.Proofs Go.AL

theorem insLast_mem (out : List Ev) (x y : Ev) : y ∈ insLast out x ↔ y = x ∨ y ∈ out := by
  unfold insLast
  rw [List.mem_append, List.mem_append, List.mem_singleton]
  constructor
  · rintro ((h | h) | h)
    · exact .inr (List.mem_of_mem_take h)
    · exact .inl h
    · exact .inr (List.mem_of_mem_drop h)
  · rintro (h | h)
    · exact .inl (.inr h)
    · rw [← List.take_append_drop (posIn x out) out] at h
      rcases List.mem_append.1 h with h | h
      · exact .inl (.inl h)
      · exact .inr h
theorem posIn_lt {x : Ev} : ∀ {l : List Ev}, ∀ y ∈ l.take (posIn x l), cmpEv y x < 0
  | [], y, h => by simp [posIn] at h
  | z :: l, y, h => by
    unfold posIn at h
    by_cases hc : cmpEv z x < 0
    · rw [if_pos hc, List.take_succ_cons] at h
      rcases List.mem_cons.1 h with rfl | h
      · exact hc
      · exact posIn_lt y h
    · rw [if_neg hc] at h; cases h
theorem posIn_stop {x : Ev} : ∀ {l : List Ev}, posIn x l < l.length → ∃ y, l[posIn x l]? = some y ∧ ¬ cmpEv y x < 0
  | [], h => by cases h
  | z :: l, h => by
    unfold posIn at h ⊢
    by_cases hc : cmpEv z x < 0
    · rw [if_pos hc] at h ⊢
      obtain ⟨y, h1, h2⟩ := posIn_stop (x := x) (l := l) (by simpa using h)
      exact ⟨y, by simpa using h1, h2⟩
    · rw [if_neg hc]
      exact ⟨z, rfl, hc⟩
theorem insLast_rises {out : List Ev} {x : Ev} (ho : Rises out) (hn : ∀ y ∈ out, ¬ (y.path = x.path ∧ y.r = x.r ∧ y.q = x.q)) : Rises (insLast out x) := by
  unfold insLast
  refine rises_put (by rw [List.take_append_drop]; exact ho) (fun y hy => posIn_lt y hy) (fun y hy => ?_)
  have hil : posIn x out < out.length := by
    rcases Nat.lt_or_ge (posIn x out) out.length with h | h
    · exact h
    · rw [List.drop_of_length_le h] at hy; cases hy
  obtain ⟨z, hz, hp⟩ := posIn_stop hil
  rw [List.getElem?_eq_getElem hil] at hz
  have hz' : out[posIn x out] = z := Option.some.inj hz
  have hzm : z ∈ out := by rw [← hz']; exact List.getElem_mem hil
  have hzx : cmpEv x z < 0 := by
    rcases lt_tri z x with h | h | h
    · exact absurd h hp
    · exact h
    · exact absurd h (hn z hzm)
  have hd : Rises (out.drop (posIn x out)) := List.Pairwise.drop ho
  rw [List.drop_eq_getElem_cons hil] at hd hy
  rcases List.mem_cons.1 hy with rfl | hy
  · rw [hz']; exact hzx
  · exact lt_trans' (by rw [hz']; exact hzx) ((List.pairwise_cons.1 hd).1 y hy)
theorem lastTo_mem (l : List Ev) (x : Ev) : ∀ i, x ∈ lastTo l i ↔ ∃ j, j < i ∧ isLast l j = true ∧ x = l.getD j ev0d
  | 0 => by simp [lastTo]
  | i + 1 => by
    rw [lastTo_succ]
    unfold lastStep
    by_cases h : isLast l i = true
    · rw [if_pos h, insLast_mem, lastTo_mem l x i]
      constructor
      · rintro (h1 | ⟨j, h1, h2, h3⟩)
        · exact ⟨i, by omega, h, h1⟩
        · exact ⟨j, by omega, h2, h3⟩
      · rintro ⟨j, h1, h2, h3⟩
        by_cases hj : j = i
        · subst hj; exact .inl h3
        · exact .inr ⟨j, by omega, h2, h3⟩
    · rw [if_neg h, lastTo_mem l x i]
      constructor
      · rintro ⟨j, h1, h2, h3⟩; exact ⟨j, by omega, h2, h3⟩
      · rintro ⟨j, h1, h2, h3⟩
        by_cases hj : j = i
        · subst hj; exact absurd h2 h
        · exact ⟨j, by omega, h2, h3⟩
theorem cmpDot_zero (r q r' q' : Int) : cmpDot r q r' q' = 0 ↔ r = r' ∧ q = q' := by
  unfold cmpDot
  split
  · rename_i h; exact ⟨fun _ => h, fun _ => rfl⟩
  · rename_i h
    split
    · exact ⟨fun h1 => absurd h1 (by decide), fun h1 => absurd h1 h⟩
    · exact ⟨fun h1 => absurd h1 (by decide), fun h1 => absurd h1 h⟩
theorem isLast_iff (l : List Ev) (i : Nat) : isLast l i = true ↔ ∀ k, k < l.length → ¬ Above (l.getD k ev0d) (l.getD i ev0d) ∧ (i ≤ k ∨ ¬ ((l.getD k ev0d).r = (l.getD i ev0d).r ∧ (l.getD k ev0d).q = (l.getD i ev0d).q)) := by
  unfold isLast
  rw [List.all_eq_true]
  constructor
  · intro h k hk
    have := h k (List.mem_range.2 hk)
    unfold lets at this
    simp only [Bool.and_eq_true, Bool.or_eq_true, Bool.not_eq_true', decide_eq_true_eq, decide_eq_false_iff_not, cmpDot_zero] at this
    refine ⟨fun hab => ?_, this.2⟩
    rcases this.1 with h1 | h1
    · exact h1 hab.1
    · rw [hab.2] at h1; cases h1
  · intro h k hk
    have := h k (List.mem_range.1 hk)
    unfold lets
    simp only [Bool.and_eq_true, Bool.or_eq_true, Bool.not_eq_true', decide_eq_true_eq, decide_eq_false_iff_not, cmpDot_zero]
    refine ⟨?_, this.2⟩
    by_cases hp : (l.getD k ev0d).path = (l.getD i ev0d).path
    · refine .inr ?_
      cases hb : knows (l.getD k ev0d) (l.getD i ev0d) with
      | false => rfl
      | true => exact absurd ⟨hp, hb⟩ this.1
    · exact .inl hp
theorem lastTo_rises (l : List Ev) : ∀ i, i ≤ l.length → Rises (lastTo l i)
  | 0, _ => List.Pairwise.nil
  | i + 1, hi => by
    rw [lastTo_succ]
    unfold lastStep
    by_cases h : isLast l i = true
    · rw [if_pos h]
      refine insLast_rises (lastTo_rises l i (by omega)) fun y hy hs => ?_
      obtain ⟨j, h1, h2, h3⟩ := (lastTo_mem l y i).1 hy
      rcases ((isLast_iff l i).1 h j (by omega)).2 with h4 | h4
      · omega
      · rw [← h3] at h4; exact h4 hs.2
    · rw [if_neg h]; exact lastTo_rises l i (by omega)
theorem getD_mem' {l : List Ev} {i : Nat} (h : i < l.length) : l.getD i ev0d ∈ l := by rw [List.getD_eq_getElem?_getD, List.getElem?_eq_getElem h]; exact List.getElem_mem h
theorem last_Mx {U : Ev → Prop} (hU : Causal U) {l : List Ev} (hl : ∀ x ∈ l, U x) (x : Ev) : x ∈ lastL l ↔ Mx l x := by
  unfold lastL
  rw [lastTo_mem]
  constructor
  · rintro ⟨j, h1, h2, rfl⟩
    refine ⟨getD_mem' h1, fun f hf hab => ?_⟩
    obtain ⟨k, hk, rfl⟩ := List.mem_iff_getElem.1 hf
    have := ((isLast_iff l j).1 h2 k hk).1
    rw [List.getD_eq_getElem?_getD, List.getElem?_eq_getElem hk] at this
    exact this hab
  · rintro ⟨hx, hn⟩
    have hj : l.idxOf x < l.length := List.idxOf_lt_length_of_mem hx
    have hjx : l.getD (l.idxOf x) ev0d = x := by
      rw [List.getD_eq_getElem?_getD, List.getElem?_eq_getElem hj]
      exact List.getElem_idxOf hj
    refine ⟨l.idxOf x, hj, (isLast_iff _ _).2 fun k hk => ?_, hjx.symm⟩
    rw [hjx]
    refine ⟨hn _ (getD_mem' hk), ?_⟩
    by_cases hkj : l.idxOf x ≤ k
    · exact .inl hkj
    · refine .inr fun hd => ?_
      have he := hU.dot _ _ (hl _ (getD_mem' hk)) (hl x hx) hd.1 hd.2
      have : l.idxOf x ≤ k := by
        unfold List.idxOf
        have hg : l[k] = x := by rw [← he, List.getD_eq_getElem?_getD, List.getElem?_eq_getElem hk]; rfl
        rcases Nat.lt_or_ge k (l.findIdx (· == x)) with h | h
        · have := List.not_of_lt_findIdx h
          rw [hg] at this; simp at this
        · exact h
      exact hkj this
theorem last_rises (l : List Ev) : Rises (lastL l) := lastTo_rises l _ (Nat.le_refl _)
end Go.AL.Path

/- Plain: vectors, counted. -/
set_option linter.unusedSimpArgs false
set_option linter.unusedVariables false
set_option maxRecDepth 100000
namespace Go.AL.Path
open Go Go.RowKit Go.Proofs Go.AL

theorem cnt_snoc (v : Vec) (d : Int × Int) : cnt (v ++ [d]) = step (cnt v) d := by unfold cnt; rw [List.foldl_append]; rfl
def Fits (f : Nat → Int) : Prop := ∀ i, 0 ≤ f i ∧ f i ≤ 1099511627776
theorem cnt_ofTo {f : Nat → Int} (h : Fits f) : ∀ n, n ≤ 32 → ∀ i, cnt (ofTo f n) i = if i < n then f i else 0
  | 0, _, i => by simp [ofTo, cnt]
  | n + 1, hn, i => by
    have ih := cnt_ofTo h n (by omega)
    have hf := h n
    rw [ofTo]
    by_cases h0 : 0 < f n
    · rw [if_pos h0, cnt_snoc]
      unfold step
      have hd : dotOk (n : Int) (f n) = true := by simp [dotOk]; omega
      simp only [hd, true_and, ih]
      by_cases hi : i = n
      · subst hi; simp [h0]
      · have : ¬ (n : Int) = (i : Int) := by omega
        simp only [this, false_and, if_false]
        by_cases h1 : i < n
        · rw [if_pos h1, if_pos (by omega)]
        · rw [if_neg h1, if_neg (by omega)]
    · rw [if_neg h0, ih]
      by_cases hi : i = n
      · subst hi; simp; omega
      · by_cases h1 : i < n
        · rw [if_pos h1, if_pos (by omega)]
        · rw [if_neg h1, if_neg (by omega)]
theorem cnt_ofP {f : Nat → Int} (h : Fits f) (i : Nat) : cnt (ofP f) i = if i < 32 then f i else 0 := cnt_ofTo h 32 (Nat.le_refl _) i
theorem cnt_high (v : Vec) {i : Nat} (h : 32 ≤ i) : cnt v i = 0 := by
  unfold cnt
  have : ∀ (v : Vec) (f : Nat → Int), f i = 0 → v.foldl step f i = 0 := by
    intro v
    induction v with
    | nil => intro f hf; exact hf
    | cons d v ih =>
      intro f hf
      refine ih _ ?_
      unfold step
      rw [if_neg]
      · exact hf
      · rintro ⟨h1, h2, _⟩
        simp [dotOk] at h1
        omega
  exact this v _ rfl
theorem canon {f : Nat → Int} (h : Fits f) : ofP f = ofP (cnt (ofP f)) := by
  unfold ofP
  exact ofTo_congr (fun i hi => by have := cnt_ofP h i; rw [if_pos hi] at this; exact this.symm) 32 (Nat.le_refl _)
theorem cnt_join {a b : Vec} (ha : Fits (cnt a)) (hb : Fits (cnt b)) (i : Nat) : cnt (joinV2 a b) i = max (cnt a i) (cnt b i) := by
  unfold joinV2
  rw [cnt_ofP (fun i => ⟨by have := (ha i).1; omega, by have := (ha i).2; have := (hb i).2; omega⟩)]
  by_cases h : i < 32
  · rw [if_pos h]
  · rw [if_neg h, cnt_high a (by omega), cnt_high b (by omega)]; rfl
theorem cnt_with {a : Vec} (ha : Fits (cnt a)) {w : Nat} (hw : w < 32) (hb : cnt a w + 1 ≤ 1099511627776) (i : Nat) : cnt (withV a (w : Int) (cnt a w + 1)) i = if i = w then cnt a w + 1 else cnt a i := by
  have hd : dotOk (w : Int) (cnt a w + 1) = true := by have := (ha w).1; simp [dotOk]; omega
  have hs : ∀ i, step (cnt a) ((w : Int), cnt a w + 1) i = if i = w then cnt a w + 1 else cnt a i := by
    intro i
    unfold step
    simp only [hd, true_and]
    by_cases h : i = w
    · subst h; simp; omega
    · have : ¬ (w : Int) = (i : Int) := by omega
      simp [this, h]
  unfold withV
  rw [cnt_ofP]
  · by_cases h : i < 32
    · rw [if_pos h, hs]
    · rw [if_neg h, if_neg (by omega), cnt_high a (by omega)]
  · intro j
    rw [hs]
    have := ha j
    have := ha w
    split <;> omega
end Go.AL.Path

/- Plain: what holds of a history. -/
set_option linter.unusedSimpArgs false
set_option linter.unusedVariables false
set_option maxRecDepth 100000
namespace Go.AL.Path
open Go Go.RowKit Go.Proofs Go.AL

/-- How many of i's events w knows. -/
def kn (s : List Vec × List Ev) (w i : Nat) : Int := cnt (s.1.getD w []) i
structure HI (s : List Vec × List Ev) : Prop where
  ok : HistOk s
  small : s.2.length ≤ 1099511627776
  canon : ∀ w, w < 3 → s.1.getD w [] = ofP (cnt (s.1.getD w []))
  own : ∀ w i, w < 3 → i < 3 → kn s w i ≤ kn s i i
  out : ∀ w i, w < 3 → 3 ≤ i → kn s w i = 0
  ev : ∀ e ∈ s.2, ∃ w, w < 3 ∧ e.r = ((w : Nat) : Int) ∧ 1 ≤ e.q ∧ e.q ≤ kn s w w ∧ cnt e.deps w = e.q - 1
  may : ∀ e ∈ s.2, mayEv e = true
  evk : ∀ e ∈ s.2, ∀ i, i < 3 → cnt e.deps i ≤ kn s i i
  up : ∀ e ∈ s.2, ∀ u, u < 3 → e.q ≤ kn s u e.r.toNat → ∀ i, cnt e.deps i ≤ kn s u i
  upe : ∀ e ∈ s.2, ∀ f ∈ s.2, e.q ≤ cnt f.deps e.r.toNat → ∀ i, cnt e.deps i ≤ cnt f.deps i
  dist : ∀ e ∈ s.2, ∀ f ∈ s.2, e.r = f.r → e.q = f.q → e = f
theorem HI.low {s : List Vec × List Ev} (h : HI s) {w : Nat} (hw : w < 3) (i : Nat) : 0 ≤ kn s w i ∧ kn s w i ≤ s.2.length :=
  cnt_low (Int.natCast_nonneg _) _ (h.ok.low _ (getD_mem (by rw [h.ok.three]; exact hw))).2 i
theorem HI.fits {s : List Vec × List Ev} (h : HI s) {w : Nat} (hw : w < 3) : Fits (cnt (s.1.getD w [])) := fun i => by
  have h1 := h.low hw i
  have h2 := h.small
  unfold kn at h1
  omega
theorem hi_start : HI ([[], [], []], []) := by
  have k0 : ∀ w i, w < 3 → kn (([[], [], []], []) : List Vec × List Ev) w i = 0 := fun w i hw => by
    have : (([[], [], []] : List Vec).getD w []) = [] := by
      match w, hw with
      | 0, _ => rfl
      | 1, _ => rfl
      | 2, _ => rfl
    unfold kn; rw [this]; rfl
  refine ⟨hist_ok [], by decide, fun w hw => ?_, fun w i hw hi => by rw [k0 w i hw, k0 i i hi]; exact Int.le_refl _, fun w i hw _ => k0 w i hw, (fun e he => by cases he), (fun e he => by cases he), (fun e he => by cases he), (fun e he => by cases he), (fun e he => by cases he), (fun e he => by cases he)⟩
  match w, hw with
  | 0, _ => decide
  | 1, _ => decide
  | 2, _ => decide
theorem getD_set {k : List Vec} {w v : Nat} {x : Vec} (hw : w < k.length) : (k.set w x).getD v [] = if v = w then x else k.getD v [] := by
  rw [List.getD_eq_getElem?_getD, List.getElem?_set, List.getD_eq_getElem?_getD]
  by_cases h : w = v
  · subst h; simp [hw]
  · have : ¬ v = w := fun e => h e.symm
    simp [h, this]
theorem hi_learn {s : List Vec × List Ev} (h : HI s) {w u : Nat} (hw : w < 3) (hu : u < 3) (ho : HistOk (s.1.set w (joinV2 (s.1.getD w []) (s.1.getD u [])), s.2)) : HI (s.1.set w (joinV2 (s.1.getD w []) (s.1.getD u [])), s.2) := by
  have hl : w < s.1.length := by rw [h.ok.three]; exact hw
  have kk : ∀ v i, kn (s.1.set w (joinV2 (s.1.getD w []) (s.1.getD u [])), s.2) v i = if v = w then max (kn s w i) (kn s u i) else kn s v i := fun v i => by
    unfold kn
    dsimp only
    rw [getD_set hl]
    by_cases hv : v = w
    · rw [if_pos hv, if_pos hv, cnt_join (h.fits hw) (h.fits hu)]
    · rw [if_neg hv, if_neg hv]
  have kii : ∀ i, i < 3 → kn (s.1.set w (joinV2 (s.1.getD w []) (s.1.getD u [])), s.2) i i = kn s i i := fun i hi => by
    rw [kk]
    by_cases hv : i = w
    · subst hv
      have := h.own u i hu hi
      rw [if_pos rfl]; omega
    · rw [if_neg hv]
  refine ⟨ho, h.small, fun v hv => ?_, fun v i hv hi => ?_, fun v i hv hi => ?_, fun e he => ?_, h.may, fun e he i hi => ?_, fun e he v hv hq i => ?_, h.upe, h.dist⟩
  · dsimp only
    rw [getD_set hl]
    by_cases hvw : v = w
    · rw [if_pos hvw]
      exact canon fun i => ⟨by have := (h.fits hw i).1; omega, by have := (h.fits hw i).2; have := (h.fits hu i).2; omega⟩
    · rw [if_neg hvw]; exact h.canon v hv
  · rw [kii i hi, kk]
    split
    · have := h.own w i hw hi
      have := h.own u i hu hi
      omega
    · exact h.own v i hv hi
  · rw [kk]
    split
    · rw [h.out w i hw hi, h.out u i hu hi]; rfl
    · exact h.out v i hv hi
  · obtain ⟨x, h1, h2, h3, h4, h5⟩ := h.ev e he
    exact ⟨x, h1, h2, h3, by rw [kii x h1]; exact h4, h5⟩
  · rw [kii i hi]; exact h.evk e he i hi
  · rw [kk] at hq ⊢
    by_cases hvw : v = w
    · rw [if_pos hvw] at hq ⊢
      rcases Int.le_total (kn s w e.r.toNat) (kn s u e.r.toNat) with hm | hm
      · have := h.up e he u hu (by omega) i; omega
      · have := h.up e he w hw (by omega) i; omega
    · rw [if_neg hvw] at hq ⊢
      exact h.up e he v hv hq i
end Go.AL.Path

/- Plain: what holds of a history, on: an event more. -/
set_option linter.unusedSimpArgs false
set_option linter.unusedVariables false
set_option maxRecDepth 100000
namespace Go.AL.Path
open Go Go.RowKit Go.Proofs Go.AL

theorem path_own {n : Nat} (h : n < 4) : ownP (pathAt n) = true := by
  match n, h with
  | 0, _ => decide +kernel
  | 1, _ => decide +kernel
  | 2, _ => decide +kernel
  | 3, _ => decide +kernel
theorem getV_nat {v : Vec} {w : Nat} (h : w < 32) : getV v (w : Int) = cnt v w := by
  unfold getV
  rw [if_pos (by omega), Int.toNat_natCast]
theorem deedEv_may {w : Nat} {v : Vec} {d : Deed} (hw : w < 3) (hv : v = ofP (cnt v)) (hf : Fits (cnt v)) (hb : cnt v w + 1 ≤ 1099511627776) (hd : DeedOk d) : mayEv (deedEv w v d) = true := by
  have h0 := (hf w).1
  have hg := getV_nat (v := v) (w := w) (by omega)
  have hp := path_own (n := d.path.toNat % 4) (Nat.mod_lt _ (by decide))
  have hq : nextQ v w = cnt v w + 1 := by unfold nextQ; rw [hg]
  have hdot : dotOk (w : Int) (cnt v w + 1) = true := by simp [dotOk]; omega
  have hb1 : mayBase (deedEv w v d) = true := by
    unfold mayBase deedEv
    dsimp only
    rw [hq, hg, hdot, hp]
    have : decide (v = ofP (cnt v)) = true := by simpa using hv
    rw [this]
    simp
  unfold mayEv
  rw [hb1]
  unfold deedEv
  have h1 := hd.size
  cases hgn : d.gone with
  | true => simp
  | false =>
    simp
    omega
theorem hi_event {s : List Vec × List Ev} (h : HI s) {w : Nat} (hw : w < 3) {d : Deed} (hd : DeedOk d) (hs : s.2.length + 1 ≤ 1099511627776)
    (ho : HistOk (s.1.set w (withV (s.1.getD w []) (w : Int) (nextQ (s.1.getD w []) w)), s.2 ++ [deedEv w (s.1.getD w []) d])) :
    HI (s.1.set w (withV (s.1.getD w []) (w : Int) (nextQ (s.1.getD w []) w)), s.2 ++ [deedEv w (s.1.getD w []) d]) := by
  have hl : w < s.1.length := by rw [h.ok.three]; exact hw
  have hlow := fun v (hv : v < 3) i => h.low hv i
  have hq : nextQ (s.1.getD w []) w = kn s w w + 1 := by unfold nextQ kn; rw [getV_nat (by omega)]
  have hb : cnt (s.1.getD w []) w + 1 ≤ 1099511627776 := by have := (hlow w hw w).2; unfold kn at this; omega
  have eD : ∀ i, cnt (deedEv w (s.1.getD w []) d).deps i = kn s w i := fun i => rfl
  have er : (deedEv w (s.1.getD w []) d).r = (w : Int) := rfl
  have eq' : (deedEv w (s.1.getD w []) d).q = kn s w w + 1 := hq
  have em := deedEv_may hw (h.canon w hw) (h.fits hw) hb hd
  generalize deedEv w (s.1.getD w []) d = e at *
  have kk : ∀ v i, kn (s.1.set w (withV (s.1.getD w []) (w : Int) (nextQ (s.1.getD w []) w)), s.2 ++ [e]) v i = if v = w ∧ i = w then kn s w w + 1 else kn s v i := fun v i => by
    rw [hq]
    unfold kn
    dsimp only
    rw [getD_set hl]
    by_cases hv : v = w
    · subst hv
      rw [if_pos rfl, cnt_with (h.fits hw) (by omega) hb]
      by_cases hi : i = v
      · simp [hi]
      · simp [hi]
    · rw [if_neg hv]; simp [hv]
  have kle : ∀ v i, kn s v i ≤ kn (s.1.set w (withV (s.1.getD w []) (w : Int) (nextQ (s.1.getD w []) w)), s.2 ++ [e]) v i := fun v i => by
    rw [kk]; split
    · rename_i hvi; rw [hvi.1, hvi.2]; omega
    · exact Int.le_refl _
  have old : ∀ f ∈ s.2, ¬ (f.r = (w : Int) ∧ kn s w w + 1 ≤ f.q) := fun f hf hr => by
    obtain ⟨x, hx, h1, h2, h3, _⟩ := h.ev f hf
    have : x = w := by rw [h1] at hr; omega
    subst this; omega
  have nobody : ∀ v, v < 3 → ∀ g, g = kn s v w → ¬ kn s w w + 1 ≤ g := fun v hv g hg => by
    have := h.own v w hv hw; omega
  have wt : e.r.toNat = w := by rw [er]; simp
  generalize hst : (s.1.set w (withV (s.1.getD w []) (w : Int) (nextQ (s.1.getD w []) w))) = k' at *
  have mem : ∀ f, f ∈ s.2 ++ [e] → f ∈ s.2 ∨ f = e := fun f hf => by
    rcases List.mem_append.1 hf with hf | hf
    · exact .inl hf
    · exact .inr (List.mem_singleton.1 hf)
  refine ⟨ho, by simpa using hs, fun v hv => ?_, fun v i hv hi => ?_, fun v i hv hi => ?_, fun f hf => ?_, fun f hf => ?_, fun f hf i hi => ?_, fun f hf v hv hq' i => ?_, fun f hf g hg hq' i => ?_, fun f hf g hg hr hq' => ?_⟩
  · rw [← hst]
    dsimp only
    rw [getD_set hl]
    by_cases hvw : v = w
    · rw [if_pos hvw]
      refine canon fun i => ?_
      have h1 := cnt_with (h.fits hw) (w := w) (by omega) hb
      have hs' : ∀ i, step (cnt (s.1.getD w [])) ((w : Int), nextQ (s.1.getD w []) w) i = if i = w then kn s w w + 1 else kn s w i := fun i => by
        have hdk : dotOk (w : Int) (kn s w w + 1) = true := by have := (hlow w hw w).1; have := (hlow w hw w).2; simp [dotOk]; omega
        rw [hq]
        unfold step
        simp only [hdk, true_and]
        by_cases hi : i = w
        · subst hi; unfold kn; simp; omega
        · have : ¬ (w : Int) = (i : Int) := by omega
          unfold kn; simp [this, hi]
      rw [hs']
      have := hlow w hw i
      have := hlow w hw w
      split <;> omega
    · rw [if_neg hvw]; exact h.canon v hv
  · rw [kk, kk]
    by_cases hiw : i = w
    · subst hiw
      by_cases hvw : v = i
      · simp [hvw]
      · have := h.own v i hv hi
        simp [hvw]; omega
    · simp [hiw]; exact h.own v i hv hi
  · rw [kk, if_neg (by omega)]; exact h.out v i hv hi
  · rcases mem f hf with hf | rfl
    · obtain ⟨x, h1, h2, h3, h4, h5⟩ := h.ev f hf
      exact ⟨x, h1, h2, h3, Int.le_trans h4 (kle x x), h5⟩
    · have := (hlow w hw w).1
      exact ⟨w, hw, er, by omega, by rw [kk, if_pos ⟨rfl, rfl⟩]; omega, by rw [eD]; omega⟩
  · rcases mem f hf with hf | rfl
    · exact h.may f hf
    · exact em
  · rcases mem f hf with hf | rfl
    · exact Int.le_trans (h.evk f hf i hi) (kle i i)
    · rw [eD]; exact Int.le_trans (h.own w i hw hi) (kle i i)
  · rcases mem f hf with hf | rfl
    · have hold : f.q ≤ kn s v f.r.toNat := by
        rw [kk] at hq'
        split at hq'
        · rename_i hvi
          obtain ⟨x, hx, h1, h2, h3, _⟩ := h.ev f hf
          have hxw : x = w := by have := hvi.2; rw [h1] at this; simpa using this
          subst hxw
          rw [hvi.1, hvi.2]; exact h3
        · exact hq'
      exact Int.le_trans (h.up f hf v hv hold i) (kle v i)
    · rw [wt, eq', kk] at hq'
      split at hq'
      · rename_i hvi
        rw [eD, hvi.1]; exact kle w i
      · exact absurd hq' (nobody v hv _ rfl)
  · rcases mem f hf with hf1 | rfl
    · rcases mem g hg with hg1 | rfl
      · exact h.upe f hf1 g hg1 hq' i
      · rw [eD] at hq' ⊢; exact h.up f hf1 w hw hq' i
    · rcases mem g hg with hg | rfl
      · rw [wt, eq'] at hq'
        have := h.evk g hg w hw
        omega
      · exact Int.le_refl _
  · rcases mem f hf with hf1 | rfl
    · rcases mem g hg with hg1 | rfl
      · exact h.dist f hf1 g hg1 hr hq'
      · exact absurd ⟨hr.trans er, by omega⟩ (old f hf1)
    · rcases mem g hg with hg | rfl
      · exact absurd ⟨hr.symm.trans er, by omega⟩ (old g hg)
      · rfl
end Go.AL.Path

/- Plain: the events of a history are causal. -/
set_option linter.unusedSimpArgs false
set_option linter.unusedVariables false
set_option maxRecDepth 100000
namespace Go.AL.Path
open Go Go.RowKit Go.Proofs Go.AL

theorem hi_step {s : List Vec × List Ev} (h : HI s) {d : Deed} (hd : DeedOk d) (hs : s.2.length + 1 ≤ 1099511627776) : HI (hstep s d) := by
  have ho := hstep_ok h.ok d
  have hw : d.who.toNat % 3 < 3 := Nat.mod_lt _ (by decide)
  have hu : d.other.toNat % 3 < 3 := Nat.mod_lt _ (by decide)
  unfold hstep at ho ⊢
  by_cases hl : d.learns = true
  · rw [if_pos hl] at ho ⊢; exact hi_learn h hw hu ho
  · rw [if_neg hl] at ho ⊢; exact hi_event h hw hd hs ho
theorem hi_fold : ∀ (l : List Deed) (s : List Vec × List Ev), HI s → AllDeed l → s.2.length + l.length ≤ 1099511627776 → HI (l.foldl hstep s)
  | [], _, h, _, _ => h
  | d :: l, s, h, hd, hs => by
    have := hstep_len s d
    simp only [List.length_cons] at hs
    exact hi_fold l _ (hi_step h (hd d List.mem_cons_self) (by omega)) (fun x hx => hd x (List.mem_cons_of_mem _ hx)) (by omega)
theorem hi_hist {l : List Deed} (hd : AllDeed l) : HI (hist (l.take 40)) :=
  hi_fold _ _ hi_start (fun x hx => hd x (List.mem_of_mem_take hx)) (by simp; omega)

/-- An event knows what it knows. -/
theorem knows_iff {s : List Vec × List Ev} (h : HI s) {e f : Ev} (he : e ∈ s.2) (hf : f ∈ s.2) : knows f e = true ↔ e.q ≤ cnt f.deps e.r.toNat := by
  obtain ⟨w, hw, h1, h2, h3, h4⟩ := h.ev e he
  have hb := (h.low hw w).2
  have hs := h.small
  have hd : dotOk e.r e.q = true := by rw [h1]; simp [dotOk]; omega
  unfold knows hasP
  rw [hd, Bool.true_and, decide_eq_true_eq, h1, getV_nat (by omega), Int.toNat_natCast]
theorem hi_causal {s : List Vec × List Ev} (h : HI s) : Causal (fun e => e ∈ s.2) := by
  refine ⟨fun a b ha hb h1 h2 => h.dist a ha b hb h1 h2, fun a ha => ?_, fun a b c ha hb hc h1 h2 => ?_⟩
  · cases hk : knows a a with
    | false => rfl
    | true =>
      rw [knows_iff h ha ha] at hk
      obtain ⟨w, hw, e1, h2, h3, h4⟩ := h.ev a ha
      rw [e1, Int.toNat_natCast, h4] at hk
      omega
  · rw [knows_iff h hb ha] at h1
    rw [knows_iff h hc hb] at h2
    rw [knows_iff h hc ha]
    exact Int.le_trans h2 (h.upe b hb a ha h1 _)
end Go.AL.Path

/- Plain: heads of parts of a history. -/
set_option linter.unusedSimpArgs false
set_option linter.unusedVariables false
set_option maxRecDepth 100000
namespace Go.AL.Path
open Go Go.RowKit Go.Proofs Go.AL

theorem shuf_perm (o : List Int) : ∀ (n i : Nat) (l : List Ev), n = l.length → (shuf o n i l).Perm l
  | 0, i, l, h => by
    have : l = [] := List.length_eq_zero_iff.1 h.symm
    subst this; exact List.Perm.refl _
  | n + 1, i, l, h => by
    have hp : pickAt o i l.length < l.length := pickAt_lt (by omega)
    unfold shuf
    generalize pickAt o i l.length = a at *
    have hlen : n = (l.take a ++ l.drop (a + 1)).length := by simp; omega
    refine ((shuf_perm o n (i + 1) _ hlen).cons _).trans ?_
    have hd : l.drop a = l.getD a ev0d :: l.drop (a + 1) := by
      rw [List.drop_eq_getElem_cons hp, List.getD_eq_getElem?_getD, List.getElem?_eq_getElem hp]; rfl
    have : l = l.take a ++ (l.getD a ev0d :: l.drop (a + 1)) := by rw [← hd, List.take_append_drop]
    calc l.getD a ev0d :: (l.take a ++ l.drop (a + 1)) |>.Perm (l.take a ++ (l.getD a ev0d :: l.drop (a + 1))) := List.perm_middle.symm
      _ = l := this.symm
theorem shuf_mem (o : List Int) (l : List Ev) (x : Ev) : x ∈ shuf o l.length 0 l ↔ x ∈ l := (shuf_perm o _ 0 l rfl).mem_iff

section
variable {U : Ev → Prop} (hU : Causal U)
include hU
/-- Heads of a list, however it is told. -/
theorem heads_is {k : List Ev} (hk : ∀ x ∈ k, U x) : k.foldl addRef [] = lastL k := by
  refine rises_ext (fold_rises List.Pairwise.nil) (last_rises k) fun x => ?_
  rw [fold_Mx hU (l := []) (fun x hx => by cases hx) hk (fun x => ⟨(fun h => by cases h), (fun h => by cases h.1)⟩), List.nil_append, last_Mx hU hk]
theorem heads_add {l k : List Ev} (hl : ∀ x ∈ l, U x) (hk : ∀ x ∈ k, U x) : k.foldl addRef (lastL l) = lastL (l ++ k) := by
  have hlk : ∀ x ∈ l ++ k, U x := fun x hx => (List.mem_append.1 hx).elim (hl x) (hk x)
  refine rises_ext (fold_rises (last_rises l)) (last_rises _) fun x => ?_
  rw [fold_Mx hU hl hk (last_Mx hU hl), last_Mx hU hlk]
theorem last_congr {l m : List Ev} (hl : ∀ x ∈ l, U x) (h : ∀ x, x ∈ l ↔ x ∈ m) : lastL l = lastL m := by
  refine rises_ext (last_rises l) (last_rises m) fun x => ?_
  rw [last_Mx hU hl, last_Mx hU (fun x hx => hl x ((h x).2 hx)), Mx_congr h]
/-- Joined with heads of a part. -/
theorem heads_part {l k : List Ev} (hl : ∀ x ∈ l, U x) (hk : ∀ x ∈ k, U x) : (lastL k).foldl addRef (lastL l) = lastL (l ++ k) := by
  have hm := last_Mx hU hk
  have hmU : ∀ x ∈ lastL k, U x := fun x hx => hk x ((hm x).1 hx).1
  have hlk : ∀ x ∈ l ++ k, U x := fun x hx => (List.mem_append.1 hx).elim (hl x) (hk x)
  refine rises_ext (fold_rises (last_rises l)) (last_rises _) fun x => ?_
  rw [fold_Mx hU hl hmU (last_Mx hU hl), last_Mx hU hlk, Mx_part hU hl hk hm]
end
end Go.AL.Path

/- Plain: what is left of heads are heads. -/
set_option linter.unusedSimpArgs false
set_option linter.unusedVariables false
set_option maxRecDepth 100000
namespace Go.AL.Path
open Go Go.RowKit Go.Proofs Go.AL

theorem rises_get {l : List Ev} (h : Rises l) {i k : Nat} (hik : i < k) (hk : k < l.length) : cmpEv (l.getD i ev0d) (l.getD k ev0d) < 0 := by
  have := List.pairwise_iff_getElem.1 h i k (by omega) hk hik
  rw [List.getD_eq_getElem?_getD, List.getElem?_eq_getElem (by omega : i < l.length), List.getD_eq_getElem?_getD, List.getElem?_eq_getElem hk]
  exact this
theorem rises_ne {l : List Ev} (h : Rises l) {i k : Nat} (hi : i < l.length) (hk : k < l.length) (hik : ¬ i = k) : ¬ l.getD i ev0d = l.getD k ev0d := fun he => by
  rcases Nat.lt_or_gt_of_ne hik with h1 | h1
  · have := rises_get h h1 hk; rw [he] at this; exact lt_self _ this
  · have := rises_get h h1 hi; rw [he] at this; exact lt_self _ this
theorem may_of {l : List Ev} (h1 : ∀ x ∈ l, mayEv x = true) (h2 : Rises l) (h3 : ∀ x ∈ l, ∀ z ∈ l, ¬ x = z → pairBad x z = false) : mayRef l = true := by
  unfold mayRef
  rw [List.all_eq_true]
  intro i hi
  have hi := List.mem_range.1 hi
  unfold okR
  simp only [Bool.and_eq_true, Bool.not_eq_true', List.all_eq_true, List.mem_range]
  refine ⟨⟨h1 _ (getD_mem' hi), ?_⟩, fun k hk => ?_⟩
  · by_cases h0 : 0 < i
    · have := rises_get h2 (show i - 1 < i by omega) hi
      have h4 : ¬ 0 ≤ cmpEv (l.getD (i - 1) ev0d) (l.getD i ev0d) := by omega
      simp only [h0, h4, decide_true, decide_false, Bool.and_false]
    · simp only [h0, decide_false, Bool.false_and]
  · by_cases hik : i = k
    · simp [hik]
    · rw [h3 _ (getD_mem' hi) _ (getD_mem' hk) (rises_ne h2 hi hk hik)]; simp
theorem may_part {U : Ev → Prop} (hU : Causal U) {l m : List Ev} (hl : ∀ x ∈ l, U x) (hm : ∀ x ∈ l, mayEv x = true) (hr : Rises m) (hs : ∀ x ∈ m, Mx l x) : mayRef m = true := by
  refine may_of (fun x hx => hm x (hs x hx).1) hr fun x hx z hz hne => ?_
  unfold pairBad
  rw [Bool.or_eq_false_iff]
  refine ⟨?_, ?_⟩
  · rw [decide_eq_false_iff_not]
    exact fun h => hne (hU.dot x z (hl x (hs x hx).1) (hl z (hs z hz).1) h.1 h.2)
  · by_cases hp : x.path = z.path
    · cases hk : knows x z with
      | false => simp
      | true => exact absurd ⟨hp, hk⟩ ((hs z hz).2 x (hs x hx).1)
    · simp [hp]

/-! What is dropped. -/
def dropP (v : Vec) (l : List Ev) : List Ev := l.filter fun e => !(decide (e.kind = 2) && hasP v e.r e.q)
theorem drop_twice (v : Vec) (l : List Ev) : dropP v (dropP v l) = dropP v l := by unfold dropP; rw [List.filter_filter]; simp
theorem drop_none (l : List Ev) : dropP [] l = l := by
  unfold dropP
  rw [List.filter_eq_self]
  intro e _
  have : hasP [] e.r e.q = false := by
    unfold hasP
    have h0 : getV [] e.r = 0 := by unfold getV; split <;> rfl
    rw [h0]
    cases hd : dotOk e.r e.q with
    | false => rfl
    | true =>
      have : 1 ≤ e.q := by simp [dotOk] at hd; omega
      simp; omega
  rw [this]; simp
/-- The first entry of a vector that counts. -/
theorem seq_ofTo {f : Nat → Int} (h : Fits f) : ∀ n, n ≤ 32 → ∀ r : Nat, seqV (ofTo f n) (r : Int) = if r < n then f r else 0
  | 0, _, r => by simp [ofTo, seqV]
  | n + 1, hn, r => by
    have ih := seq_ofTo h n (by omega) r
    have app : ∀ (v : Vec) (d : Int × Int), (∀ x ∈ v, ¬ x.1 = d.1) → seqV (v ++ [d]) (r : Int) = if d.1 = (r : Int) then d.2 else seqV v (r : Int) := by
      intro v d
      induction v with
      | nil => intro _; simp [seqV]
      | cons x v ih2 =>
        intro hx
        simp only [List.cons_append, seqV]
        by_cases h1 : x.1 = (r : Int)
        · rw [if_pos h1, if_pos h1, if_neg]
          have := hx x List.mem_cons_self
          intro h2; exact this (h1.trans h2.symm)
        · rw [if_neg h1, if_neg h1, ih2 fun y hy => hx y (List.mem_cons_of_mem _ hy)]
    have hf := h n
    rw [ofTo]
    by_cases h0 : 0 < f n
    · rw [if_pos h0, app _ _ (fun x hx => by
        obtain ⟨i, h1, h2, _⟩ := ofTo_mem hx
        rw [h2]; simp; omega), ih]
      by_cases hr : r = n
      · subst hr; simp
      · have : ¬ (n : Int) = (r : Int) := by omega
        simp only [this, if_false]
        by_cases h1 : r < n
        · rw [if_pos h1, if_pos (by omega)]
        · rw [if_neg h1, if_neg (by omega)]
    · rw [if_neg h0, ih]
      by_cases hr : r = n
      · subst hr; simp; omega
      · by_cases h1 : r < n
        · rw [if_pos h1, if_pos (by omega)]
        · rw [if_neg h1, if_neg (by omega)]
theorem seq_canon {v : Vec} (hv : v = ofP (cnt v)) (hf : Fits (cnt v)) {r : Nat} (hr : r < 32) : seqV v (r : Int) = getV v (r : Int) := by
  rw [getV_nat hr]
  conv => lhs; rw [hv]
  unfold ofP
  rw [seq_ofTo hf 32 (Nat.le_refl _), if_pos hr]
end Go.AL.Path

/- Plain: heads of a history, in any order, of any parts, without the deletes that are known; nil among arguments. -/
set_option linter.unusedSimpArgs false
set_option linter.unusedVariables false
set_option maxRecDepth 100000
namespace Go.AL.Path
open Go Go.RowKit Go.Proofs Go.AL

/-! An empty slice is one of any size. -/
def fixNil (n : Nat) : AV → AV
  | .sl 0 [] none => .sl n [] none
  | a => a
theorem fixNil_rep {n : Nat} {E : Env} {w : World} {a : AV} {v : Value} (h : Rep E w a v) : Rep E w (fixNil n a) v := by
  unfold fixNil
  split
  · cases h with
    | sl size xs tok A cap us h1 h2 h3 h4 h5 h6 h7 =>
      exact .sl n [] none A cap us h1 h2 (fun x hx => by cases hx) h4 h5 h6 trivial
  · exact h
theorem fixNil_reps {n : Nat} {E : Env} {w : World} : ∀ {us : List AV} {vs : List Value}, Reps E w us vs → Reps E w (us.map (fixNil n)) vs
  | _, _, .nil => .nil
  | _, _, .cons a v us vs h h1 => .cons _ _ _ _ (fixNil_rep h) (fixNil_reps h1)
def nilS (n : Nat) (p : PSp) : PSp := fun args K => p (args.map (fixNil n)) K
theorem told_nilS {P : Program} {G : Nat → Option (List AV)} {F : FuncId} {n : Nat} {p : PSp} (h : Told P G F p) : Told P G F (nilS n p) := by
  intro args K hk
  obtain ⟨r, h1, h2⟩ := h _ _ hk
  exact ⟨r, fun H lo E w cargs hs ha => h1 H lo E w cargs hs (fixNil_reps ha), h2⟩
theorem ask_nilS {n : Nat} {p : PSp} {args : List AV} {K} : ask (nilS n p) args K = ask p (args.map (fixNil n)) K := rfl

section
variable {s : List Vec × List Ev} (h : HI s)
include h
theorem hi_all : AllOk s.2 := h.ok.evs
/-- Of any events of a history, however often they come, the heads, and what comes of these and more. -/
theorem order_heads {l : List Ev} (hl : ∀ x ∈ l, x ∈ s.2) : l.foldl addRef [] = lastL l := heads_is (hi_causal h) hl
theorem order_again {l m : List Ev} (hl : ∀ x ∈ l, x ∈ s.2) (hm : ∀ x, x ∈ m ↔ x ∈ l) : m.foldl addRef (lastL l) = lastL l := by
  rw [heads_add (hi_causal h) hl (fun x hx => hl x ((hm x).1 hx))]
  refine (last_congr (hi_causal h) hl fun x => ?_).symm
  rw [List.mem_append, hm]; exact ⟨.inl, fun h => h.elim id id⟩
theorem order_may {l : List Ev} (hl : ∀ x ∈ l, x ∈ s.2) : mayRef (lastL l) = true :=
  may_part (hi_causal h) hl (fun x hx => h.may x (hl x hx)) (last_rises l) fun x hx => (last_Mx (hi_causal h) hl x).1 hx
theorem parts_join {a b l : List Ev} (hl : ∀ x ∈ l, x ∈ s.2) (ha : ∀ x, x ∈ a ++ b ↔ x ∈ l) : (lastL b).foldl addRef (lastL a) = lastL l := by
  have h1 : ∀ x ∈ a, x ∈ s.2 := fun x hx => hl x ((ha x).1 (List.mem_append_left _ hx))
  have h2 : ∀ x ∈ b, x ∈ s.2 := fun x hx => hl x ((ha x).1 (List.mem_append_right _ hx))
  rw [heads_part (hi_causal h) h1 h2]
  exact (last_congr (hi_causal h) hl fun x => (ha x).symm).symm
theorem drops_may (v : Vec) : mayRef (dropP v (lastL s.2)) = true :=
  may_part (hi_causal h) (fun x hx => hx) (fun x hx => h.may x hx) (List.Pairwise.filter _ (last_rises _)) fun x hx => (last_Mx (hi_causal h) (fun x hx => hx) x).1 (List.mem_filter.1 hx).1
theorem drops_seq {w : Nat} (hw : w < 3) {e : Ev} (he : e ∈ lastL s.2) : hasP (s.1.getD w []) e.r e.q = decide (e.q ≤ seqV (s.1.getD w []) e.r) := by
  have hm := ((last_Mx (hi_causal h) (fun x hx => hx) e).1 he).1
  obtain ⟨u, hu, h1, h2, h3, h4⟩ := h.ev e hm
  have hb := (h.low hu u).2
  have hs := h.small
  have hd : dotOk e.r e.q = true := by rw [h1]; simp [dotOk]; omega
  unfold hasP
  rw [hd, Bool.true_and, h1, seq_canon (h.canon w hw) (h.fits hw) (by omega)]
end
theorem lastL_ok {l : List Ev} (ho : AllOk l) : AllOk (lastL l) := lastTo_ok ho _
theorem lastL_len (l : List Ev) : (lastL l).length ≤ l.length := lastTo_len l _
theorem shuf_len (o : List Int) (l : List Ev) : (shuf o l.length 0 l).length = l.length := (shuf_perm o _ 0 l rfl).length_eq
/-- One more of those that stay. -/
theorem drop_take {v : Vec} {l : List Ev} {i : Nat} (hi : i < l.length) : dropP v (l.take (i + 1)) = dropP v (l.take i) ++ (if (decide ((l.getD i ev0d).kind = 2) && hasP v (l.getD i ev0d).r (l.getD i ev0d).q) = true then [] else [l.getD i ev0d]) := by
  unfold dropP
  rw [evs_take hi, List.filter_append]
  congr 1
  by_cases hb : (decide ((l.getD i ev0d).kind = 2) && hasP v (l.getD i ev0d).r (l.getD i ev0d).q) = true
  · rw [if_pos hb, List.filter_cons_of_neg (by rw [hb]; decide)]; rfl
  · rw [if_neg hb, List.filter_cons_of_pos (by simp only [Bool.not_eq_true] at hb; rw [hb]; rfl)]; rfl
theorem drop_at {v : Vec} {l : List Ev} {i : Nat} (hi : i < l.length) (hb : ¬ (decide ((l.getD i ev0d).kind = 2) && hasP v (l.getD i ev0d).r (l.getD i ev0d).q) = true) :
    (dropP v (l.take i)).length < (dropP v l).length ∧ (dropP v l).getD (dropP v (l.take i)).length ev0d = l.getD i ev0d := by
  have h1 : dropP v l = dropP v (l.take i) ++ ([l.getD i ev0d] ++ dropP v (l.drop (i + 1))) := by
    have h2 : dropP v l = dropP v (l.take (i + 1)) ++ dropP v (l.drop (i + 1)) := by
      unfold dropP; rw [← List.filter_append, List.take_append_drop]
    rw [h2, drop_take hi, if_neg hb, List.append_assoc]
  rw [h1]
  generalize dropP v (l.take i) = a
  generalize dropP v (l.drop (i + 1)) = b
  generalize l.getD i ev0d = e
  refine ⟨by simp, ?_⟩
  rw [List.getD_eq_getElem?_getD]; simp
end Go.AL.Path
