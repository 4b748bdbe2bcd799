/- Steps that commute; a region of open order goes one way: that of the text. -/
import Derived.Test.YtfilcbnobmnopaaDoorA13
set_option linter.unusedSimpArgs false
set_option linter.unusedVariables false
namespace Go.AL
open Go Go.RowKit

section
variable {P : Program} {G : Nat → Option (List AV)} {draw : Bool} {base : Nat}

/-- What an operation does, of given arguments and a given guard's value. -/
def Does (P : Program) (G : Nat → Option (List AV)) (draw : Bool) (base : Nat) (o : AOper) (gv : AV) (args : List AV) (H : List AObj) (r : AV) (H1 : List AObj) : Prop :=
  match o.guard with
  | none => core P G draw base o.cls args H (· = (r, H1))
  | some (_, want) => ∃ b, guardVal gv = some b ∧ ((b = some want ∧ core P G draw base o.cls args H (· = (r, H1))) ∨ (b ≠ some want ∧ r = .tup [] ∧ H1 = H))

def AOper.gv (o : AOper) (ts : List AV) : AV := match o.guard with | some (t, _) => ts.getD t .junk | none => .junk

theorem does_of_step {o : AOper} {s s1 : ASt} (h : astep P G draw base o s (· = s1)) :
    ∃ r H1, Does P G draw base o (o.gv s.tmps) (o.args.map (aeval G s.tmps)) s.H r H1 ∧ s1 = ASt.put ⟨s.tmps, H1⟩ o.dst r := by
  unfold astep at h
  split at h
  · rename_i hg
    obtain ⟨p, h1, h2⟩ := det_core P G draw base _ _ _ _ h
    exact ⟨p.1, p.2, by unfold Does; rw [hg]; exact h2 _ rfl, h1.symm⟩
  · rename_i t want hg
    obtain ⟨b, hb, h1, h2⟩ := onGuard_inv h
    have hgv : guardVal (o.gv s.tmps) = some b := by unfold AOper.gv; rw [hg]; exact hb
    by_cases hbw : b = some want
    · obtain ⟨p, h3, h4⟩ := det_core P G draw base _ _ _ _ (h1 hbw)
      exact ⟨p.1, p.2, by unfold Does; rw [hg]; exact ⟨b, hgv, .inl ⟨hbw, h4 _ rfl⟩⟩, h3.symm⟩
    · exact ⟨.tup [], s.H, by unfold Does; rw [hg]; exact ⟨b, hgv, .inr ⟨hbw, rfl, rfl⟩⟩, (h2 hbw).symm⟩

theorem core_mono {c : Cls} {args : List AV} {H : List AObj} {K K' : AV × List AObj → Prop} (hk : ∀ p, K p → K' p) (h : core P G draw base c args H K) : core P G draw base c args H K' := by
  obtain ⟨r, h1, h2⟩ := det_core P G draw base _ _ _ _ h
  exact h2 _ (hk r h1)

theorem step_of_does {o : AOper} {s : ASt} {r : AV} {H1 : List AObj} (h : Does P G draw base o (o.gv s.tmps) (o.args.map (aeval G s.tmps)) s.H r H1) :
    astep P G draw base o s (· = ASt.put ⟨s.tmps, H1⟩ o.dst r) := by
  unfold Does at h
  unfold astep
  split at h
  · rename_i hg
    rw [hg]
    exact core_mono (fun p hp => by rw [hp]) h
  · rename_i t want hg
    rw [hg]
    have hgv : o.gv s.tmps = s.tmps.getD t .junk := by unfold AOper.gv; rw [hg]
    obtain ⟨b, hb, h⟩ := h
    rw [hgv] at hb
    simp only [onGuard, hb]
    rcases h with ⟨h1, h2⟩ | ⟨h1, rfl, rfl⟩
    · exact ⟨fun _ => core_mono (fun p hp => by rw [hp]) h2, fun h => absurd h1 h⟩
    · exact ⟨fun h => absurd h h1, fun _ => rfl⟩

/-- What touches no box. -/
theorem core0 {c : Cls} (hc : c.touch = 0) {args : List AV} {H : List AObj} {p : AV × List AObj} (h : core P G draw base c args H (· = p)) : p.2 = H ∧ ∀ H', core P G draw base c args H' (· = (p.1, H')) := by
  cases c with
  | q q =>
    obtain ⟨r, h1, h2⟩ := det_qsem _ _ _ h
    subst h1
    exact ⟨rfl, fun H' => h2 _ rfl⟩
  | call pin =>
    cases pin with
    | true => simp [Cls.touch] at hc
    | false =>
      obtain ⟨f, rest, rfl, h⟩ := onCons_inv h
      obtain ⟨fid, first, cap, rfl, h⟩ := onFn_inv h
      rcases h with ⟨r, h1, h2⟩ | ⟨h1, _⟩
      · subst h2
        exact ⟨rfl, fun H' => .inl ⟨r, h1, rfl⟩⟩
      · cases h1
  | l => simp [Cls.touch] at hc
  | m => simp [Cls.touch] at hc
  | e => simp [Cls.touch] at hc

theorem does0 {o : AOper} (hc : o.cls.touch = 0) {gv : AV} {args : List AV} {H H1 : List AObj} {r : AV} (h : Does P G draw base o gv args H r H1) : H1 = H ∧ ∀ H', Does P G draw base o gv args H' r H' := by
  unfold Does at h ⊢
  split at h
  · obtain ⟨h1, h2⟩ := core0 hc h
    exact ⟨h1, fun H' => h2 H'⟩
  · obtain ⟨b, hb, h⟩ := h
    rcases h with ⟨h1, h2⟩ | ⟨h1, rfl, rfl⟩
    · obtain ⟨h3, h4⟩ := core0 hc h2
      exact ⟨h3, fun H' => ⟨b, hb, .inl ⟨h1, h4 H'⟩⟩⟩
    · exact ⟨rfl, fun H' => ⟨b, hb, .inr ⟨h1, rfl, rfl⟩⟩⟩

/-- What looks, or makes one box: what it does to the boxes, wherever these look alike. -/
def HAct (draw : Bool) (base : Nat) (o : AOper) (H : List AObj) (f : List AObj → List AObj) (ok : List AObj → Prop) : Prop :=
  (o.cls.touch = 1 ∧ f = id ∧ ok = fun H' => lookIn draw base H' = lookIn draw base H) ∨
  (∃ q slot ob, o.cls = .m q slot ∧ ((f = fun H' => H'.set (base + slot) ob) ∧ ok = fun H' => H'[base + slot]? = some .hole) ∨ (∃ q slot, o.cls = .m q slot ∧ f = id ∧ ok = fun _ => True))

theorem does12 {o : AOper} (hc : o.cls.touch = 1 ∨ o.cls.touch = 2) {gv : AV} {args : List AV} {H H1 : List AObj} {r : AV} (h : Does P G draw base o gv args H r H1) :
    ∃ (f : List AObj → List AObj) (ok : List AObj → Prop), H1 = f H ∧ ok H ∧ (∀ H', ok H' → Does P G draw base o gv args H' r (f H')) ∧
      ((f = id ∧ (ok = (fun _ => True) ∨ ok = fun H' => lookIn draw base H' = lookIn draw base H)) ∨ ∃ q slot ob, o.cls = .m q slot ∧ (f = fun H' => H'.set (base + slot) ob) ∧ ok = fun H' => H'[base + slot]? = some .hole) := by
  have hcore : ∀ {p : AV × List AObj}, core P G draw base o.cls args H (· = p) → ∃ (f : List AObj → List AObj) (ok : List AObj → Prop), p.2 = f H ∧ ok H ∧ (∀ H', ok H' → core P G draw base o.cls args H' (· = (p.1, f H'))) ∧
      ((f = id ∧ (ok = (fun _ => True) ∨ ok = fun H' => lookIn draw base H' = lookIn draw base H)) ∨ ∃ q slot ob, o.cls = .m q slot ∧ (f = fun H' => H'.set (base + slot) ob) ∧ ok = fun H' => H'[base + slot]? = some .hole) := by
    intro p h
    cases hcl : o.cls with
    | q => rw [hcl] at hc; simp [Cls.touch] at hc
    | e => rw [hcl] at hc; simp [Cls.touch] at hc
    | call pin => rw [hcl] at hc; cases pin <;> simp [Cls.touch] at hc
    | l l =>
      rw [hcl] at h
      have h' : lsem l args (lookIn draw base H) fun r => (r, H) = p := h
      obtain ⟨r, h1, h2⟩ := det_lsem _ _ _ _ h'
      subst h1
      refine ⟨id, fun H' => lookIn draw base H' = lookIn draw base H, rfl, rfl, fun H' hH' => ?_, .inl ⟨rfl, .inr rfl⟩⟩
      show lsem l args (lookIn draw base H') fun r' => (r', H') = (r, id H')
      rw [hH']
      exact h2 _ rfl
    | m q slot =>
      rw [hcl] at h
      obtain ⟨h0, h⟩ := (show H[base + slot]? = some .hole ∧ msem q args (base + slot) fun r ob => (r, H.set (base + slot) ob) = p from h)
      obtain ⟨⟨r, ob⟩, h1, h2⟩ := det_msem q args (base + slot) (fun x => (x.1, H.set (base + slot) x.2) = p) h
      simp only at h1
      subst h1
      refine ⟨fun H' => H'.set (base + slot) ob, fun H' => H'[base + slot]? = some .hole, rfl, h0, fun H' hH' => ?_, .inr ⟨q, slot, ob, rfl, rfl, rfl⟩⟩
      exact ⟨hH', h2 (fun x => (x.1, H'.set (base + slot) x.2) = (r, H'.set (base + slot) ob)) rfl⟩
  unfold Does at h ⊢
  split at h
  · obtain ⟨f, ok, h1, h2, h3, h4⟩ := hcore h
    exact ⟨f, ok, h1, h2, h3, h4⟩
  · obtain ⟨b, hb, h⟩ := h
    rcases h with ⟨h1, h2⟩ | ⟨h1, rfl, rfl⟩
    · obtain ⟨f, ok, k1, k2, k3, k4⟩ := hcore h2
      exact ⟨f, ok, k1, k2, fun H' hH' => ⟨b, hb, .inl ⟨h1, k3 H' hH'⟩⟩, k4⟩
    · exact ⟨id, fun _ => True, rfl, trivial, fun H' _ => ⟨b, hb, .inr ⟨h1, rfl, rfl⟩⟩, .inl ⟨rfl, .inl rfl⟩⟩

theorem lookIn_set {H : List AObj} {slot : Nat} {ob : AObj} (hd : draw = true) : lookIn draw base (H.set (base + slot) ob) = lookIn draw base H := by
  funext id
  unfold lookIn
  by_cases h : base ≤ id
  · simp [hd, h]
  · simp [hd, h]
    rw [List.getElem?_set_ne (by omega)]

theorem does_swap (hd : draw = true) {x y : AOper} (ht : x.cls.touch = 0 ∨ y.cls.touch = 0 ∨ (x.cls.touch < 3 ∧ y.cls.touch < 3)) (hs : ∀ q a q' b, x.cls = .m q a → y.cls = .m q' b → a ≠ b)
    {gx gy : AV} {ax ay : List AV} {H H1 H2 : List AObj} {r r' : AV} (h1 : Does P G draw base x gx ax H r H1) (h2 : Does P G draw base y gy ay H1 r' H2) :
    ∃ H1', Does P G draw base y gy ay H r' H1' ∧ Does P G draw base x gx ax H1' r H2 := by
  by_cases hx0 : x.cls.touch = 0
  · obtain ⟨rfl, h3⟩ := does0 hx0 h1
    exact ⟨H2, h2, h3 H2⟩
  by_cases hy0 : y.cls.touch = 0
  · obtain ⟨rfl, h3⟩ := does0 hy0 h2
    exact ⟨H, h3 H, h1⟩
  obtain ⟨hx3, hy3⟩ := (ht.resolve_left hx0).resolve_left hy0
  obtain ⟨f, ok, rfl, k1, k2, k3⟩ := does12 (by omega) h1
  obtain ⟨g, ok', rfl, m1, m2, m3⟩ := does12 (by omega) h2
  have key : ok' H ∧ ok (g H) ∧ g (f H) = f (g H) := by
    rcases k3 with ⟨rfl, hk⟩ | ⟨q, a, ob, hxm, rfl, rfl⟩
    · rcases m3 with ⟨rfl, hm⟩ | ⟨q', b, ob', hym, rfl, rfl⟩
      · exact ⟨m1, k1, rfl⟩
      · refine ⟨m1, ?_, rfl⟩
        rcases hk with rfl | rfl
        · trivial
        · exact lookIn_set hd
    · rcases m3 with ⟨rfl, hm⟩ | ⟨q', b, ob', hym, rfl, rfl⟩
      · refine ⟨?_, k1, rfl⟩
        rcases hm with rfl | rfl
        · trivial
        · exact (lookIn_set hd).symm
      · have hab := hs q a q' b hxm hym
        refine ⟨?_, ?_, ?_⟩
        · have m1' : (H.set (base + a) ob)[base + b]? = some .hole := m1
          rw [List.getElem?_set_ne (by omega)] at m1'
          exact m1'
        · show (H.set (base + b) ob')[base + a]? = some .hole
          rw [List.getElem?_set_ne (by omega)]
          exact k1
        · show (H.set (base + a) ob).set (base + b) ob' = (H.set (base + b) ob').set (base + a) ob
          exact List.set_comm _ _ (by omega)
  obtain ⟨e1, e2, e3⟩ := key
  exact ⟨g H, m2 H e1, by rw [e3]; exact k2 _ e2⟩

theorem aeval_set {ts : List AV} {d : Nat} {a : AV} {x : AOpd} (h : d ∉ x.reads) : aeval G (ts.set d a) x = aeval G ts x := by
  cases x with
  | t n =>
    simp only [AOpd.reads, List.mem_singleton] at h
    simp only [aeval, List.getD_eq_getElem?_getD]
    rw [List.getElem?_set_ne (fun e => h e)]
  | c => rfl
  | g => rfl

theorem args_put {o : AOper} {s : ASt} {dst : Option Nat} {a : AV} (h : ∀ d, dst = some d → d ∉ o.reads) :
    o.args.map (aeval G (s.put dst a).tmps) = o.args.map (aeval G s.tmps) ∧ o.gv (s.put dst a).tmps = o.gv s.tmps := by
  cases dst with
  | none => exact ⟨rfl, rfl⟩
  | some d =>
    have hd := h d rfl
    unfold AOper.reads at hd
    rw [List.mem_append] at hd
    refine ⟨List.map_congr_left fun x hx => aeval_set fun hr => hd (.inl (List.mem_flatMap.2 ⟨x, hx, hr⟩)), ?_⟩
    unfold AOper.gv
    cases hg : o.guard with
    | none => rfl
    | some p =>
      obtain ⟨t, want⟩ := p
      rw [hg] at hd
      have hne : d ≠ t := fun e => hd (.inr (by simp [e]))
      simp only [ASt.put, List.getD_eq_getElem?_getD]
      rw [List.getElem?_set_ne hne]

theorem put_H (s : ASt) (d : Option Nat) (a : AV) : (s.put d a).H = s.H := by cases d <;> rfl

theorem step_swap (hd : draw = true) {x y : AOper} (hc : commutes x y = true) {s s1 s2 : ASt} (h1 : astep P G draw base x s (· = s1)) (h2 : astep P G draw base y s1 (· = s2)) :
    ∃ s1', astep P G draw base y s (· = s1') ∧ astep P G draw base x s1' (· = s2) := by
  simp only [commutes, Bool.and_eq_true, Bool.or_eq_true, beq_iff_eq, decide_eq_true_eq] at hc
  obtain ⟨⟨⟨c1, c2⟩, c3⟩, c4⟩ := hc
  have hx : ∀ d, x.dst = some d → d ∉ y.reads ∧ y.dst ≠ some d := by
    intro d hd'
    rw [hd'] at c1
    simpa using c1
  have hy : ∀ d, y.dst = some d → d ∉ x.reads := by
    intro d hd'
    rw [hd'] at c2
    simpa using c2
  obtain ⟨r, H1, d1, rfl⟩ := does_of_step h1
  obtain ⟨r', H2, d2, rfl⟩ := does_of_step h2
  obtain ⟨e1, e2⟩ := args_put (G := G) (o := y) (s := ⟨s.tmps, H1⟩) (dst := x.dst) (a := r) (fun d hd' => (hx d hd').1)
  rw [e1, e2, put_H] at d2
  have hth : x.cls.touch = 0 ∨ y.cls.touch = 0 ∨ (x.cls.touch < 3 ∧ y.cls.touch < 3) := by
    rcases c3 with (h | h) | h
    · exact .inl h
    · exact .inr (.inl h)
    · exact .inr (.inr h)
  obtain ⟨H1', d3, d4⟩ := does_swap hd hth (fun q a q' b hq hq' e => by rw [hq, hq'] at c4; simp [e] at c4) d1 d2
  refine ⟨_, step_of_does d3, ?_⟩
  obtain ⟨e3, e4⟩ := args_put (G := G) (o := x) (s := ⟨s.tmps, H1'⟩) (dst := y.dst) (a := r') hy
  have h9 := step_of_does (o := x) (s := ASt.put ⟨s.tmps, H1'⟩ y.dst r') (r := r) (H1 := H2) (by rw [e3, e4, put_H]; exact d4)
  have h10 : ASt.put ⟨(ASt.put ⟨s.tmps, H1'⟩ y.dst r').tmps, H2⟩ x.dst r = ASt.put ⟨(ASt.put ⟨s.tmps, H1⟩ x.dst r).tmps, H2⟩ y.dst r' := by
    cases hxd : x.dst with
    | none => cases y.dst <;> rfl
    | some d =>
      cases hyd : y.dst with
      | none => rfl
      | some e =>
        have hne : d ≠ e := fun h => (hx d hxd).2 (by rw [hyd, h])
        simp only [ASt.put]
        rw [List.set_comm _ _ hne]
  rw [h10] at h9
  exact h9

/-- An operation that commutes with all ahead of it comes first. -/
theorem path_front (hd : draw = true) {as : List AOper} {i : Nat} {x : AOper} (hx : as[i]? = some x) : ∀ (pre post : List Nat) (s s' : ASt), (∀ j ∈ pre, ∀ y, as[j]? = some y → commutes y x = true) →
    Path P G draw base as (pre ++ i :: post) s s' → Path P G draw base as (i :: (pre ++ post)) s s'
  | [], post, s, s', _, h => h
  | j :: pre, post, s, s', hc, h => by
    obtain ⟨y, s1, hy, h1, h2⟩ := h
    obtain ⟨x', s2, hx', h3, h4⟩ := path_front hd hx pre post s1 s' (fun k hk => hc k (by simp [hk])) h2
    rw [hx] at hx'
    cases hx'
    obtain ⟨s1', h5, h6⟩ := step_swap hd (hc j (by simp) y hy) h1 h3
    exact ⟨x, s1', hx, h5, y, s2, hy, h6, h4⟩

end
end Go.AL
