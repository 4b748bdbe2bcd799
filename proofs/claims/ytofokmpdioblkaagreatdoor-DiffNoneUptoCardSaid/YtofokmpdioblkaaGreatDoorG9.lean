/- Steps that commute; a region of open order goes one way: that of the text. -/
import Derived.Test.YtofokmpdioblkaaGreatDoorG8
set_option linter.unusedSimpArgs false
set_option linter.unusedVariables false
namespace Go.AL
open Go Go.RowKit
section
variable {P : Program} {G : Nat → Option (List AV)} {draw : Bool} {base : Nat}
/-- What an operation does, of given arguments and a given guard's value. -/
def Does (P : Program) (G : Nat → Option (List AV)) (draw : Bool) (base : Nat) (o : AOper) (gv : AV) (args : List AV) (H : List AObj) (r : AV) (H1 : List AObj) : Prop :=
  match o.guard with
  | none => core P G draw base o.cls args H (· = (r, H1))
  | some (_, want) => ∃ b, guardVal gv = some b ∧ ((b = some want ∧ core P G draw base o.cls args H (· = (r, H1))) ∨ (b ≠ some want ∧ r = .tup [] ∧ H1 = H))
def AOper.gv (o : AOper) (ts : List AV) : AV := match o.guard with | some (t, _) => ts.getD t .junk | none => .junk
theorem does_of_step {o : AOper} {s s1 : ASt} (h : astep P G draw base o s (· = s1)) :
    ∃ r H1, Does P G draw base o (o.gv s.tmps) (o.args.map (aeval G s.tmps)) s.H r H1 ∧ s1 = ASt.put ⟨s.tmps, H1⟩ o.dst r := by
  unfold astep at h
  split at h
  · rename_i hg
    obtain ⟨p, h1, h2⟩ := det_core P G draw base _ _ _ _ h
    exact ⟨p.1, p.2, by unfold Does; rw [hg]; exact h2 _ rfl, h1.symm⟩
  · rename_i t want hg
    obtain ⟨b, hb, h1, h2⟩ := onGuard_inv h
    have hgv : guardVal (o.gv s.tmps) = some b := by unfold AOper.gv; rw [hg]; exact hb
    by_cases hbw : b = some want
    · obtain ⟨p, h3, h4⟩ := det_core P G draw base _ _ _ _ (h1 hbw)
      exact ⟨p.1, p.2, by unfold Does; rw [hg]; exact ⟨b, hgv, .inl ⟨hbw, h4 _ rfl⟩⟩, h3.symm⟩
    · exact ⟨.tup [], s.H, by unfold Does; rw [hg]; exact ⟨b, hgv, .inr ⟨hbw, rfl, rfl⟩⟩, (h2 hbw).symm⟩
theorem core_mono {c : Cls} {args : List AV} {H : List AObj} {K K' : AV × List AObj → Prop} (hk : ∀ p, K p → K' p) (h : core P G draw base c args H K) : core P G draw base c args H K' := by
  obtain ⟨r, h1, h2⟩ := det_core P G draw base _ _ _ _ h
  exact h2 _ (hk r h1)
theorem step_of_does {o : AOper} {s : ASt} {r : AV} {H1 : List AObj} (h : Does P G draw base o (o.gv s.tmps) (o.args.map (aeval G s.tmps)) s.H r H1) :
    astep P G draw base o s (· = ASt.put ⟨s.tmps, H1⟩ o.dst r) := by
  unfold Does at h
  unfold astep
  split at h
  · rename_i hg
    rw [hg]
    exact core_mono (fun p hp => by rw [hp]) h
  · rename_i t want hg
    rw [hg]
    have hgv : o.gv s.tmps = s.tmps.getD t .junk := by unfold AOper.gv; rw [hg]
    obtain ⟨b, hb, h⟩ := h
    rw [hgv] at hb
    simp only [onGuard, hb]
    rcases h with ⟨h1, h2⟩ | ⟨h1, rfl, rfl⟩
    · exact ⟨fun _ => core_mono (fun p hp => by rw [hp]) h2, fun h => absurd h1 h⟩
    · exact ⟨fun h => absurd h h1, fun _ => rfl⟩
/-- What touches no box. -/
theorem core0 {c : Cls} (hc : c.touch = 0) {args : List AV} {H : List AObj} {p : AV × List AObj} (h : core P G draw base c args H (· = p)) : p.2 = H ∧ ∀ H', core P G draw base c args H' (· = (p.1, H')) := by
  cases c with
  | q q =>
    obtain ⟨r, h1, h2⟩ := det_qsem _ _ _ h
    subst h1
    exact ⟨rfl, fun H' => h2 _ rfl⟩
  | call pin =>
    cases pin with
    | true => simp [Cls.touch] at hc
    | false =>
      obtain ⟨f, rest, rfl, h⟩ := onCons_inv h
      obtain ⟨fid, first, cap, rfl, h⟩ := onFn_inv h
      rcases h with ⟨r, h1, h2⟩ | ⟨h1, _⟩
      · subst h2
        exact ⟨rfl, fun H' => .inl ⟨r, h1, rfl⟩⟩
      · cases h1
  | l => simp [Cls.touch] at hc
  | m => simp [Cls.touch] at hc
  | e => simp [Cls.touch] at hc
theorem does0 {o : AOper} (hc : o.cls.touch = 0) {gv : AV} {args : List AV} {H H1 : List AObj} {r : AV} (h : Does P G draw base o gv args H r H1) : H1 = H ∧ ∀ H', Does P G draw base o gv args H' r H' := by
  unfold Does at h ⊢
  split at h
  · obtain ⟨h1, h2⟩ := core0 hc h
    exact ⟨h1, fun H' => h2 H'⟩
  · obtain ⟨b, hb, h⟩ := h
    rcases h with ⟨h1, h2⟩ | ⟨h1, rfl, rfl⟩
    · obtain ⟨h3, h4⟩ := core0 hc h2
      exact ⟨h3, fun H' => ⟨b, hb, .inl ⟨h1, h4 H'⟩⟩⟩
    · exact ⟨rfl, fun H' => ⟨b, hb, .inr ⟨h1, rfl, rfl⟩⟩⟩
theorem does12 {o : AOper} (hc : o.cls.touch = 1 ∨ o.cls.touch = 2) {gv : AV} {args : List AV} {H H1 : List AObj} {r : AV} (h : Does P G draw base o gv args H r H1) :
    ∃ (f : List AObj → List AObj) (ok : List AObj → Prop), H1 = f H ∧ ok H ∧ (∀ H', ok H' → Does P G draw base o gv args H' r (f H')) ∧
      ((f = id ∧ (ok = (fun _ => True) ∨ ok = fun H' => lookIn draw base H' = lookIn draw base H)) ∨ ∃ q slot ob, o.cls = .m q slot ∧ (f = fun H' => H'.set (base + slot) ob) ∧ ok = fun H' => H'[base + slot]? = some .hole) := by
  have hcore : ∀ {p : AV × List AObj}, core P G draw base o.cls args H (· = p) → ∃ (f : List AObj → List AObj) (ok : List AObj → Prop), p.2 = f H ∧ ok H ∧ (∀ H', ok H' → core P G draw base o.cls args H' (· = (p.1, f H'))) ∧
      ((f = id ∧ (ok = (fun _ => True) ∨ ok = fun H' => lookIn draw base H' = lookIn draw base H)) ∨ ∃ q slot ob, o.cls = .m q slot ∧ (f = fun H' => H'.set (base + slot) ob) ∧ ok = fun H' => H'[base + slot]? = some .hole) := by
    intro p h
    cases hcl : o.cls with
    | q => rw [hcl] at hc; simp [Cls.touch] at hc
    | e => rw [hcl] at hc; simp [Cls.touch] at hc
    | call pin => rw [hcl] at hc; cases pin <;> simp [Cls.touch] at hc
    | l l =>
      rw [hcl] at h
      have h' : lsem l args (lookIn draw base H) fun r => (r, H) = p := h
      obtain ⟨r, h1, h2⟩ := det_lsem _ _ _ _ h'
      subst h1
      refine ⟨id, fun H' => lookIn draw base H' = lookIn draw base H, rfl, rfl, fun H' hH' => ?_, .inl ⟨rfl, .inr rfl⟩⟩
      show lsem l args (lookIn draw base H') fun r' => (r', H') = (r, id H')
      rw [hH']
      exact h2 _ rfl
    | m q slot =>
      rw [hcl] at h
      obtain ⟨h0, h⟩ := (show H[base + slot]? = some .hole ∧ msem q args (base + slot) fun r ob => (r, H.set (base + slot) ob) = p from h)
      obtain ⟨⟨r, ob⟩, h1, h2⟩ := det_msem q args (base + slot) (fun x => (x.1, H.set (base + slot) x.2) = p) h
      simp only at h1
      subst h1
      refine ⟨fun H' => H'.set (base + slot) ob, fun H' => H'[base + slot]? = some .hole, rfl, h0, fun H' hH' => ?_, .inr ⟨q, slot, ob, rfl, rfl, rfl⟩⟩
      exact ⟨hH', h2 (fun x => (x.1, H'.set (base + slot) x.2) = (r, H'.set (base + slot) ob)) rfl⟩
  unfold Does at h ⊢
  split at h
  · obtain ⟨f, ok, h1, h2, h3, h4⟩ := hcore h
    exact ⟨f, ok, h1, h2, h3, h4⟩
  · obtain ⟨b, hb, h⟩ := h
    rcases h with ⟨h1, h2⟩ | ⟨h1, rfl, rfl⟩
    · obtain ⟨f, ok, k1, k2, k3, k4⟩ := hcore h2
      exact ⟨f, ok, k1, k2, fun H' hH' => ⟨b, hb, .inl ⟨h1, k3 H' hH'⟩⟩, k4⟩
    · exact ⟨id, fun _ => True, rfl, trivial, fun H' _ => ⟨b, hb, .inr ⟨h1, rfl, rfl⟩⟩, .inl ⟨rfl, .inl rfl⟩⟩
theorem lookIn_set {H : List AObj} {slot : Nat} {ob : AObj} (hd : draw = true) : lookIn draw base (H.set (base + slot) ob) = lookIn draw base H := by
  funext id
  unfold lookIn
  by_cases h : base ≤ id
  · simp [hd, h]
  · simp [hd, h]
    rw [List.getElem?_set_ne (by omega)]
theorem does_cases {o : AOper} {gv : AV} {args : List AV} {H H1 : List AObj} {r : AV} (h : Does P G draw base o gv args H r H1) :
    (core P G draw base o.cls args H (· = (r, H1)) ∧ ∀ r' H' H1', core P G draw base o.cls args H' (· = (r', H1')) → Does P G draw base o gv args H' r' H1') ∨ (r = .tup [] ∧ H1 = H ∧ ∀ H', Does P G draw base o gv args H' (.tup []) H') := by
  unfold Does at h ⊢
  cases hg : o.guard with
  | none => rw [hg] at h; exact .inl ⟨h, fun _ _ _ h' => h'⟩
  | some p =>
    obtain ⟨t, want⟩ := p
    rw [hg] at h
    obtain ⟨b, hb, h⟩ := h
    rcases h with ⟨h1, h2⟩ | ⟨h1, h2, h3⟩
    · exact .inl ⟨h2, fun r' H' H1' h' => ⟨b, hb, .inl ⟨h1, h'⟩⟩⟩
    · exact .inr ⟨h2, h3, fun H' => ⟨b, hb, .inr ⟨h1, rfl, rfl⟩⟩⟩
theorem mfind_append {es : List (Value × Option AV)} {q : Value × Option AV} {k : Value} : ∀ (i : Nat), mfind (es ++ [q]) k i = match mfind es k i with | some x => some x | none => mfind [q] k (i + es.length) := by
  induction es with
  | nil => intro i; rfl
  | cons p es ih =>
    intro i
    obtain ⟨a, b⟩ := p
    rw [List.cons_append]
    unfold mfind
    by_cases h : a = k
    · rw [if_pos h, if_pos h]
    · rw [if_neg h, if_neg h, ih (i + 1), List.length_cons, Nat.add_assoc, Nat.add_comm 1 es.length]
      rfl
theorem mval_mroom (zv : Value) (es : List (Value × Option AV)) (k' k : Value) : mval zv (mroom es k') k = mval zv es k := by
  unfold mroom
  cases hf : mfind es k' 0 with
  | some x => rfl
  | none =>
    simp only
    unfold mval
    rw [mfind_append]
    cases hk : mfind es k 0 with
    | some x => rfl
    | none =>
      simp only
      unfold mfind
      by_cases h : k' = k
      · rw [if_pos h]; rfl
      · rw [if_neg h]; rfl
/-- A look at a map, and a place made in one: whichever comes first. -/
theorem look_entry {ks ks' : KShape} {zv zv' : Value} {ax ay : List AV} {H H2 : List AObj} {r r' : AV} (h2 : core P G draw base (.e (.mentry ks' zv')) ay H (· = (r', H2))) :
    (core P G draw base (.l (.mlook ks zv false)) ax H (· = (r, H)) ↔ core P G draw base (.l (.mlook ks zv false)) ax H2 (· = (r, H2))) := by
  have h2' : esem (.mentry ks' zv') ay H fun a b => (a, b) = (r', H2) := h2
  unfold esem at h2'
  split at h2'
  all_goals try exact h2'.elim
  all_goals rename_i he
  all_goals try (cases he)
  rename_i m k
  obtain ⟨id', rfl, h3⟩ := onMp_inv h2'
  obtain ⟨a, b, es', hH', rfl, rfl, h4⟩ := onMap_inv h3
  obtain ⟨kv', hkv', h5⟩ := onSome_inv h4
  injection h5 with h5 h6
  subst h6
  have key : ∀ id, lookIn draw base (H.set id' (.map a b (mroom es' kv'))) id = if id = id' then (lookIn draw base H id).map fun _ => .map a b (mroom es' kv') else lookIn draw base H id := by
    intro id
    unfold lookIn
    by_cases hd : draw = true ∧ base ≤ id
    · rw [if_pos hd, if_pos hd]; simp
    · rw [if_neg hd, if_neg hd]
      by_cases e : id = id'
      · subst e
        rw [if_pos rfl, List.getElem?_set_self (List.getElem?_eq_some_iff.1 hH').1, hH']; rfl
      · rw [if_neg e, List.getElem?_set_ne (Ne.symm e)]
  have at' : ∀ id, id = id' → ∀ o, lookIn draw base H id = some o → o = .map a b es' := by
    rintro id rfl o ho
    unfold lookIn at ho
    split at ho
    · cases ho
    · rw [hH'] at ho; exact (Option.some.inj ho).symm
  have go : ∀ (H3 : List AObj) (C : AV → Prop), lsem (.mlook ks zv false) ax (lookIn draw base H) C ↔ lsem (.mlook ks zv false) ax (lookIn draw base (H.set id' (.map a b (mroom es' kv')))) C := by
    intro H3 C
    unfold lsem
    split
    all_goals rename_i he2
    all_goals try (cases he2)
    · rename_i m2 k2
      constructor
      · intro h
        obtain ⟨id, rfl, g1⟩ := onMp_inv h
        obtain ⟨c, d, es, g2, rfl, rfl, g3⟩ := onMap_inv g1
        obtain ⟨kv, g4, g5⟩ := onSome_inv g3
        show onMap (lookIn draw base _ id) _
        rw [key id]
        by_cases e : id = id'
        · have := at' id e _ g2
          injection this with q1 q2 q3
          subst q1 q2 q3
          rw [if_pos e, g2]
          refine ⟨rfl, rfl, ?_⟩
          rw [g4]
          show C _
          simpa [mval_mroom] using g5
        · rw [if_neg e, g2]
          exact ⟨rfl, rfl, by rw [g4]; exact g5⟩
      · intro h
        obtain ⟨id, rfl, g1⟩ := onMp_inv h
        obtain ⟨c, d, es, g2, rfl, rfl, g3⟩ := onMap_inv g1
        obtain ⟨kv, g4, g5⟩ := onSome_inv g3
        show onMap (lookIn draw base H id) _
        rw [key id] at g2
        by_cases e : id = id'
        · rw [if_pos e, Option.map_eq_some_iff] at g2
          obtain ⟨o, g6, g7⟩ := g2
          have := at' id e _ g6
          subst this
          injection g7 with q1 q2 q3
          subst q1 q2 q3
          rw [g6]
          refine ⟨rfl, rfl, ?_⟩
          rw [g4]
          show C _
          simpa [mval_mroom] using g5
        · rw [if_neg e] at g2
          rw [g2]
          exact ⟨rfl, rfl, by rw [g4]; exact g5⟩
    · exact Iff.rfl
  constructor
  · intro h
    have h : lsem (.mlook ks zv false) ax (lookIn draw base H) fun x => (x, H) = (r, H) := h
    show lsem (.mlook ks zv false) ax (lookIn draw base _) fun x => (x, _) = (r, _)
    rw [← go []]
    obtain ⟨x, g1, g2⟩ := det_lsem _ _ _ _ h
    exact g2 _ (by injection g1 with g1 _; rw [g1])
  · intro h
    have h : lsem (.mlook ks zv false) ax (lookIn draw base (H.set id' (.map a b (mroom es' kv')))) fun x => (x, H.set id' (.map a b (mroom es' kv'))) = (r, H.set id' (.map a b (mroom es' kv'))) := h
    show lsem (.mlook ks zv false) ax (lookIn draw base H) fun x => (x, H) = (r, H)
    rw [go []]
    obtain ⟨x, g1, g2⟩ := det_lsem _ _ _ _ h
    exact g2 _ (by injection g1 with g1 _; rw [g1])
theorem lookEntry_inv {c c' : Cls} (h : lookEntry c c' = true) : ∃ ks zv ks' zv', c = .l (.mlook ks zv false) ∧ c' = .e (.mentry ks' zv') := by
  unfold lookEntry at h
  split at h
  · exact ⟨_, _, _, _, rfl, rfl⟩
  · cases h
theorem look_same {ks : KShape} {zv : Value} {ok : Bool} {args : List AV} {H H1 : List AObj} {r : AV} (h : core P G draw base (.l (.mlook ks zv ok)) args H (· = (r, H1))) : H1 = H := by
  obtain ⟨x, g1, _⟩ := det_lsem _ _ _ _ (show lsem (.mlook ks zv ok) args (lookIn draw base H) fun x => (x, H) = (r, H1) from h)
  injection g1 with _ g1
  exact g1.symm
theorem does_swap (hd : draw = true) {x y : AOper} (ht0 : (x.cls.touch = 0 ∨ y.cls.touch = 0 ∨ (x.cls.touch < 3 ∧ y.cls.touch < 3)) ∨ lookEntry x.cls y.cls = true ∨ lookEntry y.cls x.cls = true) (hs : ∀ q a q' b, x.cls = .m q a → y.cls = .m q' b → a ≠ b)
    {gx gy : AV} {ax ay : List AV} {H H1 H2 : List AObj} {r r' : AV} (h1 : Does P G draw base x gx ax H r H1) (h2 : Does P G draw base y gy ay H1 r' H2) :
    ∃ H1', Does P G draw base y gy ay H r' H1' ∧ Does P G draw base x gx ax H1' r H2 := by
  rcases ht0 with ht | hle | hle
  rotate_left
  · obtain ⟨ks, zv, ks', zv', hx, hy⟩ := lookEntry_inv hle
    rcases does_cases h1 with ⟨c1, k1⟩ | ⟨rfl, rfl, k1⟩
    · rcases does_cases h2 with ⟨c2, k2⟩ | ⟨rfl, rfl, k2⟩
      · rw [hx] at c1 k1
        rw [hy] at c2
        obtain rfl := look_same c1
        exact ⟨H2, h2, k1 _ _ _ ((look_entry c2).1 c1)⟩
      · rw [hx] at c1
        obtain rfl := look_same c1
        exact ⟨_, k2 _, h1⟩
    · exact ⟨_, h2, k1 _⟩
  · obtain ⟨ks, zv, ks', zv', hy, hx⟩ := lookEntry_inv hle
    rcases does_cases h2 with ⟨c2, k2⟩ | ⟨rfl, rfl, k2⟩
    · rw [hy] at c2 k2
      obtain rfl := look_same c2
      rcases does_cases h1 with ⟨c1, k1⟩ | ⟨rfl, rfl, k1⟩
      · rw [hx] at c1
        exact ⟨H, k2 _ _ _ ((look_entry c1).2 c2), h1⟩
      · exact ⟨_, h2, k1 _⟩
    · exact ⟨_, k2 _, h1⟩
  by_cases hx0 : x.cls.touch = 0
  · obtain ⟨rfl, h3⟩ := does0 hx0 h1
    exact ⟨H2, h2, h3 H2⟩
  by_cases hy0 : y.cls.touch = 0
  · obtain ⟨rfl, h3⟩ := does0 hy0 h2
    exact ⟨H, h3 H, h1⟩
  obtain ⟨hx3, hy3⟩ := (ht.resolve_left hx0).resolve_left hy0
  obtain ⟨f, ok, rfl, k1, k2, k3⟩ := does12 (by omega) h1
  obtain ⟨g, ok', rfl, m1, m2, m3⟩ := does12 (by omega) h2
  have key : ok' H ∧ ok (g H) ∧ g (f H) = f (g H) := by
    rcases k3 with ⟨rfl, hk⟩ | ⟨q, a, ob, hxm, rfl, rfl⟩
    · rcases m3 with ⟨rfl, hm⟩ | ⟨q', b, ob', hym, rfl, rfl⟩
      · exact ⟨m1, k1, rfl⟩
      · refine ⟨m1, ?_, rfl⟩
        rcases hk with rfl | rfl
        · trivial
        · exact lookIn_set hd
    · rcases m3 with ⟨rfl, hm⟩ | ⟨q', b, ob', hym, rfl, rfl⟩
      · refine ⟨?_, k1, rfl⟩
        rcases hm with rfl | rfl
        · trivial
        · exact (lookIn_set hd).symm
      · have hab := hs q a q' b hxm hym
        refine ⟨?_, ?_, ?_⟩
        · have m1' : (H.set (base + a) ob)[base + b]? = some .hole := m1
          rw [List.getElem?_set_ne (by omega)] at m1'
          exact m1'
        · show (H.set (base + b) ob')[base + a]? = some .hole
          rw [List.getElem?_set_ne (by omega)]
          exact k1
        · show (H.set (base + a) ob).set (base + b) ob' = (H.set (base + b) ob').set (base + a) ob
          exact List.set_comm _ _ (by omega)
  obtain ⟨e1, e2, e3⟩ := key
  exact ⟨g H, m2 H e1, by rw [e3]; exact k2 _ e2⟩
theorem aeval_set {ts : List AV} {d : Nat} {a : AV} {x : AOpd} (h : d ∉ x.reads) : aeval G (ts.set d a) x = aeval G ts x := by
  cases x with
  | t n =>
    simp only [AOpd.reads, List.mem_singleton] at h
    simp only [aeval, List.getD_eq_getElem?_getD]
    rw [List.getElem?_set_ne (fun e => h e)]
  | c => rfl
  | g => rfl
theorem args_put {o : AOper} {s : ASt} {dst : Option Nat} {a : AV} (h : ∀ d, dst = some d → d ∉ o.reads) :
    o.args.map (aeval G (s.put dst a).tmps) = o.args.map (aeval G s.tmps) ∧ o.gv (s.put dst a).tmps = o.gv s.tmps := by
  cases dst with
  | none => exact ⟨rfl, rfl⟩
  | some d =>
    have hd := h d rfl
    unfold AOper.reads at hd
    rw [List.mem_append] at hd
    refine ⟨List.map_congr_left fun x hx => aeval_set fun hr => hd (.inl (List.mem_flatMap.2 ⟨x, hx, hr⟩)), ?_⟩
    unfold AOper.gv
    cases hg : o.guard with
    | none => rfl
    | some p =>
      obtain ⟨t, want⟩ := p
      rw [hg] at hd
      have hne : d ≠ t := fun e => hd (.inr (by simp [e]))
      simp only [ASt.put, List.getD_eq_getElem?_getD]
      rw [List.getElem?_set_ne hne]
theorem put_H (s : ASt) (d : Option Nat) (a : AV) : (s.put d a).H = s.H := by cases d <;> rfl
theorem step_swap (hd : draw = true) {x y : AOper} (hc : commutes x y = true) {s s1 s2 : ASt} (h1 : astep P G draw base x s (· = s1)) (h2 : astep P G draw base y s1 (· = s2)) :
    ∃ s1', astep P G draw base y s (· = s1') ∧ astep P G draw base x s1' (· = s2) := by
  simp only [commutes, Bool.and_eq_true, Bool.or_eq_true, beq_iff_eq, decide_eq_true_eq] at hc
  obtain ⟨⟨⟨c1, c2⟩, c3⟩, c4⟩ := hc
  have hx : ∀ d, x.dst = some d → d ∉ y.reads ∧ y.dst ≠ some d := by
    intro d hd'
    rw [hd'] at c1
    simpa using c1
  have hy : ∀ d, y.dst = some d → d ∉ x.reads := by
    intro d hd'
    rw [hd'] at c2
    simpa using c2
  obtain ⟨r, H1, d1, rfl⟩ := does_of_step h1
  obtain ⟨r', H2, d2, rfl⟩ := does_of_step h2
  obtain ⟨e1, e2⟩ := args_put (G := G) (o := y) (s := ⟨s.tmps, H1⟩) (dst := x.dst) (a := r) (fun d hd' => (hx d hd').1)
  rw [e1, e2, put_H] at d2
  have hth : (x.cls.touch = 0 ∨ y.cls.touch = 0 ∨ (x.cls.touch < 3 ∧ y.cls.touch < 3)) ∨ lookEntry x.cls y.cls = true ∨ lookEntry y.cls x.cls = true := by
    rcases c3 with (((h | h) | h) | h) | h
    · exact .inl (.inl h)
    · exact .inl (.inr (.inl h))
    · exact .inl (.inr (.inr h))
    · exact .inr (.inl h)
    · exact .inr (.inr h)
  obtain ⟨H1', d3, d4⟩ := does_swap hd hth (fun q a q' b hq hq' e => by rw [hq, hq'] at c4; simp [e] at c4) d1 d2
  refine ⟨_, step_of_does d3, ?_⟩
  obtain ⟨e3, e4⟩ := args_put (G := G) (o := x) (s := ⟨s.tmps, H1'⟩) (dst := y.dst) (a := r') hy
  have h9 := step_of_does (o := x) (s := ASt.put ⟨s.tmps, H1'⟩ y.dst r') (r := r) (H1 := H2) (by rw [e3, e4, put_H]; exact d4)
  have h10 : ASt.put ⟨(ASt.put ⟨s.tmps, H1'⟩ y.dst r').tmps, H2⟩ x.dst r = ASt.put ⟨(ASt.put ⟨s.tmps, H1⟩ x.dst r).tmps, H2⟩ y.dst r' := by
    cases hxd : x.dst with
    | none => cases y.dst <;> rfl
    | some d =>
      cases hyd : y.dst with
      | none => rfl
      | some e =>
        have hne : d ≠ e := fun h => (hx d hxd).2 (by rw [hyd, h])
        simp only [ASt.put]
        rw [List.set_comm _ _ hne]
  rw [h10] at h9
  exact h9
/-- An operation that commutes with all ahead of it comes first. -/
theorem path_front (hd : draw = true) {as : List AOper} {i : Nat} {x : AOper} (hx : as[i]? = some x) : ∀ (pre post : List Nat) (s s' : ASt), (∀ j ∈ pre, ∀ y, as[j]? = some y → commutes y x = true) →
    Path P G draw base as (pre ++ i :: post) s s' → Path P G draw base as (i :: (pre ++ post)) s s'
  | [], post, s, s', _, h => h
  | j :: pre, post, s, s', hc, h => by
    obtain ⟨y, s1, hy, h1, h2⟩ := h
    obtain ⟨x', s2, hx', h3, h4⟩ := path_front hd hx pre post s1 s' (fun k hk => hc k (by simp [hk])) h2
    rw [hx] at hx'
    cases hx'
    obtain ⟨s1', h5, h6⟩ := step_swap hd (hc j (by simp) y hy) h1 h3
    exact ⟨x, s1', hx, h5, y, s2, hy, h6, h4⟩
end
end Go.AL

/- One operation, concretely. -/
set_option linter.unusedSimpArgs false
set_option linter.unusedVariables false
namespace Go.AL
open Go Go.RowKit
structure Sim (G : Nat → Option (List AV)) (lo : Nat) (E : Env) (s : ASt) (a : Act) (w : World) : Prop where
  heap : SimH G lo E s.H w
  tmps : Reps E w s.tmps a.tmps.toList
  defers : a.defers = []
section
variable {P : Program} {G : Nat → Option (List AV)} {lo : Nat} {E : Env} {w : World}
theorem const_rep {v : Value} (h : constOk v = true) : Rep E w (constAV v) v := by
  obtain ⟨h1, h2⟩ := zero_rep (E := E) (w := w) h
  cases v with
  | agg cs =>
    have := Rep.agg _ _ h1 h2
    simpa [constAV, AV.cells, Value.cells] using this
  | tuple vs => simp [constOk] at h
  | slice a n m =>
    simp only [constAV, Value.cells] at h1 ⊢
    have e : (cellAV (.slice a n m)).cells = [cellAV (.slice a n m)] := by unfold cellAV; split <;> simp_all [AV.cells]
    rw [e] at h1
    obtain ⟨x, e1, hx⟩ := reps_1 (by simpa using h1)
    simp at e1
    rw [e1]
    exact hx
  | _ => exact .imm _ rfl
theorem opd_rep {s : ASt} {a : Act} (hs : Sim G lo E s a w) {x : Operand} {y : AOpd} (h : copd x = some y) : Rep E w (aeval G s.tmps y) (a.eval x) := by
  cases x with
  | tmp t =>
    simp only [copd, Option.some.injEq] at h
    subst h
    simp only [aeval, Act.eval]
    rcases Nat.lt_or_ge t s.tmps.length with hl | hl
    · obtain ⟨v, hv, hr⟩ := hs.tmps.get t _ (List.getElem?_eq_getElem hl)
      rw [List.getD_eq_getElem?_getD, List.getElem?_eq_getElem hl]
      have : a.tmps.getD t undef = v := by
        rw [Array.getD_eq_getD_getElem?, ← Array.getElem?_toList, hv]
        rfl
      rw [this]
      exact hr
    · rw [List.getD_eq_getElem?_getD, List.getElem?_eq_none hl]
      exact .junk _
  | const v =>
    simp only [copd] at h
    split at h
    · rename_i hok
      cases h
      exact const_rep hok
    · cases h
  | global g =>
    simp only [copd, Option.some.injEq] at h
    subst h
    simp only [aeval, Act.eval]
    cases hg : G g with
    | none => exact .junk _
    | some cs =>
      obtain ⟨us, h1, h2, h3, _⟩ := hs.heap.glob g cs hg
      have := Rep.rptr (E := E) (w := w) cs 0 ⟨g, 0, none⟩ us h1 h2 (fun j u hu => by rw [Addr.add_lit, Nat.zero_add]; exact h3 j u hu)
      rw [Addr.add_zero'] at this
      exact this
  | func f =>
    simp only [copd, Option.some.injEq] at h
    subst h
    exact .fn _ [] [] [] [] .nil .nil
theorem args_rep {s : ASt} {a : Act} (hs : Sim G lo E s a w) : ∀ {xs : List Operand} {ys : List AOpd}, copds xs = some ys → Reps E w (ys.map (aeval G s.tmps)) (xs.map a.eval)
  | [], ys, h => by simp [copds] at h; subst h; exact .nil
  | x :: xs, ys, h => by
    simp only [copds, List.mapM_cons, Option.bind_eq_bind, Option.pure_def, Option.bind_eq_some_iff, Option.some.injEq] at h
    obtain ⟨y, h1, ys', h2, rfl⟩ := h
    exact .cons _ _ _ _ (opd_rep hs h1) (args_rep hs h2)
theorem Sim.put {s : ASt} {a : Act} {E' : Env} {w' : World} {H' : List AObj} (hs : Sim G lo E s a w) (hE : Evo lo E w E' w') (hH : SimH G lo E' H' w') {r : AV} {v : Value} (hr : Rep E' w' r v) (d : Option Nat) :
    Sim G lo E' (ASt.put ⟨s.tmps, H'⟩ d r) (a.put d v) w' := by
  cases d with
  | none => exact ⟨hH, hs.tmps.mono hE, hs.defers⟩
  | some d =>
    refine ⟨hH, ?_, hs.defers⟩
    simp only [ASt.put, Act.put, Array.toList_setIfInBounds]
    exact Reps.set hr d (hs.tmps.mono hE)
theorem call_inv {own : Bool} {slot : Nat} {o : Oper} {pin : Bool} {xs : List Operand} (hc : compOp P own o slot = some (.call pin, xs)) : pin = false ∧ ∃ f args ts, o.op = .call ⟨.value f, args, ts⟩ ∧ xs = f :: args.toList := by
  obtain ⟨dst, op, type, pos, after, guard⟩ := o
  cases op with
  | load t x =>
    simp only [compOp] at hc
    split at hc
    · split at hc <;> simp at hc
    · cases hc
  | move => simp [compOp] at hc
  | assign x =>
    simp only [compOp] at hc
    split at hc
    · simp only [Option.bind_eq_some_iff] at hc
      obtain ⟨n, _, hc⟩ := hc
      split at hc <;> simp at hc
    · simp at hc
  | pick => simp [compOp] at hc
  | alloc e =>
    simp only [compOp, Option.bind_eq_some_iff] at hc
    obtain ⟨i, _, z, _, hc⟩ := hc
    split at hc <;> simp at hc
  | box => simp [compOp] at hc
  | build t parts =>
    simp only [compOp] at hc
    split at hc
    · simp only [Option.bind_eq_some_iff] at hc
      obtain ⟨_, _, _, _, _, _, _, _, hc⟩ := hc
      split at hc <;> simp at hc
    · simp only [Option.bind_eq_some_iff] at hc
      obtain ⟨_, _, _, _, _, _, hc⟩ := hc
      split at hc <;> simp at hc
    · cases hc
  | buildSlice t len parts =>
    simp only [compOp] at hc
    split at hc
    · simp only [Option.bind_eq_some_iff] at hc
      obtain ⟨_, _, _, _, hc⟩ := hc
      split at hc
      · split at hc <;> simp at hc
      · cases hc
    · cases hc
  | store => simp [compOp, Option.map_eq_some_iff] at hc
  | nilCheck => simp [compOp] at hc
  | binOp op t x y yt =>
    simp only [compOp] at hc
    split at hc
    · split at hc <;> simp at hc
    · split at hc <;> simp at hc
    · simp at hc
  | unOp => simp [compOp] at hc
  | convert src dst x =>
    simp only [compOp] at hc
    split at hc
    · simp at hc
    · split at hc <;> simp at hc
    · simp at hc
    · simp at hc
    · split at hc <;> simp at hc
    · split at hc <;> simp at hc
    · simp at hc
  | sliceToArrayPointer => simp only [compOp] at hc; split at hc <;> simp at hc
  | makeInterface => simp only [compOp] at hc; split at hc <;> simp at hc
  | makeFunc => simp [compOp] at hc
  | fieldAddr =>
    simp only [compOp] at hc
    split at hc
    · simp only [Option.bind_eq_some_iff] at hc
      obtain ⟨_, _, _, _, hc⟩ := hc
      split at hc <;> simp at hc
    · cases hc
  | field =>
    simp only [compOp] at hc
    split at hc
    · simp only [Option.bind_eq_some_iff, Option.map_eq_some_iff] at hc
      obtain ⟨_, _, _, _, _, _, hc⟩ := hc
      split at hc <;> simp at hc
    · cases hc
  | indexAddr =>
    simp only [compOp] at hc
    split at hc
    · simp only [Option.bind_eq_some_iff] at hc
      obtain ⟨_, _, hc⟩ := hc
      split at hc <;> simp at hc
    · simp [Option.map_eq_some_iff] at hc
    · cases hc
  | index =>
    simp only [compOp] at hc
    split at hc
    · simp at hc
    · simp only [Option.bind_eq_some_iff] at hc
      obtain ⟨_, _, _, _, hc⟩ := hc
      split at hc
      · simp at hc
      · split at hc <;> simp at hc
    · cases hc
  | slice =>
    simp only [compOp] at hc
    split at hc
    · split at hc <;> simp at hc
    · simp [Option.map_eq_some_iff] at hc
    · split at hc
      · cases hc
      · split at hc
        · split at hc <;> simp at hc
        · cases hc
    · cases hc
  | makeSlice t l c =>
    simp only [compOp] at hc
    split at hc
    · simp only [Option.bind_eq_some_iff] at hc
      obtain ⟨_, _, _, _, hc⟩ := hc
      split at hc
      · split at hc <;> simp at hc
      · cases hc
    · cases hc
  | extract => simp [compOp] at hc
  | call c =>
    obtain ⟨callee, args, argTypes⟩ := c
    simp only [compOp] at hc
    split at hc
    · simp only [Option.some.injEq, Prod.mk.injEq, Cls.call.injEq] at hc
      obtain ⟨rfl, rfl⟩ := hc
      exact ⟨rfl, _, _, _, rfl, rfl⟩
    · split at hc
      · split at hc
        · simp at hc
        · simp at hc
        · simp at hc
        · simp at hc
        · split at hc <;> simp at hc
        · cases hc
      · cases hc
    · split at hc
      · split at hc
        · simp only [Option.bind_eq_some_iff] at hc
          obtain ⟨_, _, _, _, hc⟩ := hc
          split at hc <;> simp at hc
        · cases hc
      · cases hc
    · split at hc
      · split at hc
        · simp [Option.map_eq_some_iff] at hc
        · cases hc
      · cases hc
    · split at hc
      · split at hc
        · simp only [Option.bind_eq_some_iff] at hc
          obtain ⟨_, _, _, _, hc⟩ := hc
          split at hc <;> simp at hc
        · cases hc
      · cases hc
    · split at hc <;> simp at hc
    · split at hc <;> simp at hc
    · split at hc <;> simp at hc
    · split at hc <;> simp at hc
    · cases hc
  | lookup => simp [compOp, Option.map_eq_some_iff] at hc
  | mapEntry => simp [compOp, Option.map_eq_some_iff] at hc
  | entryStore => simp [compOp, Option.map_eq_some_iff] at hc
  | mapUpdate => simp [compOp, Option.map_eq_some_iff] at hc
  | makeMap t r => cases r <;> simp [compOp, Option.map_eq_some_iff] at hc
  | _ => simp [compOp] at hc
theorem call_upon {o : Oper} {a : Act} {f : FuncId} {args : Array Value} {R : Value → World → Prop} {K : Act → World → Prop} {Q : Exit → Act → World → Prop} (h : CallsX P f args w R) (hK : ∀ v w', R v w' → K (a.put o.dst v) w') :
    o.upon P a K Q ((callFunc f args).run P w) := by
  unfold CallsX at h
  split at h
  · rename_i f' args' w' e
    rw [e, Oper.upon_enter]
    refine h.mono fun e w'' he => ?_
    cases e with
    | returned v => exact hK v w'' he
    | panicked => exact he.elim
    | outgrown => exact he.elim
  · rename_i v w' e
    rw [e, Oper.upon_value]
    exact hK v w' h
  · exact h.elim
/-- An abstract operation is the compiled one, but that a call may be one that turns boxes. -/
theorem compOp1_inv {own : Bool} {o : Oper} {slot : Nat} {c : Cls} {xs : List Operand} (h : compOp1 P own o slot = some (c, xs)) : compOp P own o slot = some (c, xs) ∨ (c = .q .stuck ∧ xs = []) := by
  unfold compOp1 at h
  split at h
  · rename_i c' xs' e
    split at h
    · exact .inl (e.trans h)
    · simp only [Option.some.injEq, Prod.mk.injEq] at h; exact .inr ⟨h.1.symm, h.2.symm⟩
  · simp only [Option.some.injEq, Prod.mk.injEq] at h; exact .inr ⟨h.1.symm, h.2.symm⟩
def Cls.fits (c c' : Cls) : Prop := c' = c ∨ (c = .call false ∧ ∃ p, c' = .call p)
theorem op_sound {draw : Bool} {base : Nat} {own : Bool} {ops : Array Oper} {slot i : Nat} {o : Oper} {ao : AOper} {c : Cls} {xs : List Operand} (ho : ops[i]? = some o) (hc1 : compOp1 P own o slot = some (c, xs)) (hfit : c.fits ao.cls)
    (hargs : copds xs = some ao.args) (hg : guardOf ops o = some ao.guard) (hdst : ao.dst = o.dst) {s s1 : ASt} {a : Act} (hs : Sim G lo E s a w) (h : astep P G draw base ao s (· = s1))
    {K : Act → World → Prop} {Q : Exit → Act → World → Prop} (hK : ∀ a' w' E', Sim G lo E' s1 a' w' → Evo lo E w E' w' → K a' w') : wpOp P ops Q i K a w := by
  have hrep := args_rep hs hargs
  -- the operation itself
  have main : core P G draw base ao.cls (ao.args.map (aeval G s.tmps)) s.H (fun p => ASt.put ⟨s.tmps, p.2⟩ ao.dst p.1 = s1) → o.wp P a w K Q := by
    intro h
    rcases compOp1_inv hc1 with hc | ⟨rfl, rfl⟩
    case inr =>
      rcases hfit with e | ⟨e, _⟩
      · rw [e] at h; exact h.elim
      · cases e
    have fin : ∀ r H' nx v w' E', (execOp a.eval o).run P w = .ok nx w' → (nx = .value v ∨ nx = .skip ∧ v = undef) → ASt.put ⟨s.tmps, H'⟩ ao.dst r = s1 → Rep E' w' r v → SimH G lo E' H' w' → Evo lo E w E' w' → o.wp P a w K Q := by
      intro r H' nx v w' E' h1 h2 h3 h4 h5 h6
      unfold Oper.wp
      rw [h1]
      rcases h2 with rfl | ⟨rfl, rfl⟩
      · rw [Oper.upon_value, ← hdst]
        exact hK _ _ E' (by rw [← h3]; exact hs.put h6 h5 h4 _) h6
      · rw [Oper.upon_skip, ← hdst]
        exact hK _ _ E' (by rw [← h3]; exact hs.put h6 h5 h4 _) h6
    have callcase : ∀ p, ao.cls = .call p → compOp P own o slot = some (.call false, xs) → o.wp P a w K Q := by
      intro p hcls hc
      obtain ⟨_, f, args, ts, hop, rfl⟩ := call_inv hc
      rw [hcls] at h
      obtain ⟨fa, rest, e1, h⟩ := onCons_inv h
      obtain ⟨fid, first, cap, rfl, h⟩ := onFn_inv h
      rw [e1] at hrep
      rw [List.map_cons] at hrep
      cases hrep with
      | cons _ _ _ _ hf hrest =>
        generalize hfv : a.eval f = fv at hf
        cases hf with
        | fn _ _ _ us vs hus hvs =>
          have hall := (hus.append hrest).append hvs
          have hrun : (execOp a.eval o).run P w = (callFunc fid (us ++ args.toList.map a.eval ++ vs).toArray).run P w := by
            obtain ⟨dst, op, type, pos, after, guard⟩ := o
            simp only at hop
            subst hop
            have e2 : (us.toArray ++ args.map a.eval) ++ vs.toArray = (us ++ args.toList.map a.eval ++ vs).toArray := by
              apply Array.ext'; simp
            simp only [execOp, resolve, hfv, Deferred.ofValue, Sem.run_bind, Sem.run_pure, Result.andThen_ok, invoke]
            rw [e2]
          unfold Oper.wp
          rw [hrun]
          rcases h with ⟨r, hp, hs1⟩ | ⟨_, r, H', hp, hs1⟩
          · have hx := hp s.H lo E w _ hs.heap hall.strip
            refine call_upon hx fun v w' ⟨E', k1, k2, k3⟩ => ?_
            rw [← hdst]
            exact hK _ _ E' (by rw [← hs1]; exact hs.put k3 k2 k1 _) k3
          · have hx := hp lo E w _ hs.heap hall
            refine call_upon hx fun v w' ⟨E', k1, k2, k3⟩ => ?_
            rw [← hdst]
            exact hK _ _ E' (by rw [← hs1]; exact hs.put k3 k2 k1 _) k3
    rcases hfit with hcls | ⟨rfl, p, hcls⟩
    · cases c with
      | q q =>
        rw [hcls] at h
        obtain ⟨r, v, w', E', h1, h2, h3, h4, h5⟩ := q_sound hc hs.heap hrep (show qsem q _ fun r => ASt.put ⟨s.tmps, s.H⟩ ao.dst r = s1 from h)
        exact fin r s.H _ v w' E' h1 (.inl rfl) h2 h3 h4 h5
      | l l =>
        rw [hcls] at h
        obtain ⟨r, v, w', E', h1, h2, h3, h4, h5⟩ := l_sound hc hs.heap hrep (look := lookIn draw base s.H) (fun id ob hl => by unfold lookIn at hl; split at hl <;> simp_all) (show lsem l _ _ fun r => ASt.put ⟨s.tmps, s.H⟩ ao.dst r = s1 from h)
        exact fin r s.H _ v w' E' h1 (.inl rfl) h2 h3 h4 h5
      | m m slot' =>
        rw [hcls] at h
        obtain ⟨h0, h⟩ := h
        obtain ⟨r, ob, v, w', E', h1, h2, h3, h4, h5⟩ := m_sound hc hs.heap h0 (fun _ => rfl) hrep h
        exact fin r _ _ v w' E' h1 (.inl rfl) h2 h3 h4 h5
      | e e =>
        rw [hcls] at h
        obtain ⟨r, H', nx, v, w', E', h1, h2, h3, h4, h5, h6⟩ := e_sound hc hs.heap hrep (show esem e _ s.H fun r H' => ASt.put ⟨s.tmps, H'⟩ ao.dst r = s1 from h)
        exact fin r H' nx v w' E' h1 h2 h3 h4 h5 h6
      | call pin =>
        obtain ⟨rfl, _⟩ := call_inv hc
        exact callcase _ hcls hc
    · exact callcase _ hcls hc
  unfold wpOp
  rw [ho]
  simp only
  unfold astep at h
  unfold guardOf at hg
  cases hgd : o.guard with
  | none =>
    rw [hgd] at hg
    simp only [Option.some.injEq] at hg
    rw [← hg] at h
    have hw : Region.wanted o (yielded ops a.tmps) = true := by simp [Region.wanted, hgd]
    rw [if_pos hw]
    exact .inl (main h)
  | some p =>
    obtain ⟨j, want⟩ := p
    rw [hgd] at hg
    simp only [Option.map_eq_some_iff] at hg
    obtain ⟨t, ht, hg⟩ := hg
    rw [← hg] at h
    obtain ⟨b, hb, h1, h2⟩ := onGuard_inv h
    have htl : t < s.tmps.length := by
      rcases Nat.lt_or_ge t s.tmps.length with hl | hl
      · exact hl
      · rw [List.getD_eq_getElem?_getD, List.getElem?_eq_none hl] at hb; cases hb
    have htv : s.tmps[t]? = some (s.tmps.getD t .junk) := by
      rw [List.getD_eq_getElem?_getD, List.getElem?_eq_getElem htl]; rfl
    obtain ⟨v, hv, hr⟩ := hs.tmps.get t _ htv
    have hy : yielded ops a.tmps j = b := by
      unfold yielded
      rw [ht]
      simp only [Option.bind_some]
      rw [← Array.getElem?_toList, hv]
      rcases guardVal_cases hb with ⟨c, hc, rfl⟩ | ⟨hc, rfl⟩
      · rw [hc] at hr; cases hr.imm_inv; rfl
      · rw [hc] at hr
        cases hr with
        | tup cs us h => cases h; rfl
    have hw : Region.wanted o (yielded ops a.tmps) = (b == some want) := by
      simp only [Region.wanted, hgd, hy]
    by_cases hbw : b = some want
    · rw [if_pos (by rw [hw]; simpa using hbw)]
      exact .inl (main (h1 hbw))
    · rw [if_neg (by rw [hw]; simpa using hbw), ← hdst]
      refine hK _ _ E ?_ (Evo.refl _ _ _)
      rw [← h2 hbw]
      exact hs.put (Evo.refl _ _ _) hs.heap (.tup [] [] .nil) _
end
end Go.AL

/- Regions. -/
set_option linter.unusedSimpArgs false
set_option linter.unusedVariables false
namespace Go.AL
open Go Go.RowKit
section
variable {P : Program} {G : Nat → Option (List AV)} {lo : Nat}
/-- What the compiled operation in place i has to do with the operation. -/
def Fits (P : Program) (own : Bool) (ops : Array Oper) (o : Oper) (ao : AOper) : Prop :=
  ∃ slot c xs, compOp1 P own o slot = some (c, xs) ∧ copds xs = some ao.args ∧ guardOf ops o = some ao.guard ∧ ao.dst = o.dst ∧ c.fits ao.cls
theorem compOpers_get {own : Bool} {ops : Array Oper} : ∀ {l : List Oper} {k : Nat} {as : List AOper}, compOpers P own ops k l = some as → as.length = l.length ∧
    ∀ (i : Nat) (o : Oper), l[i]? = some o → ∃ ao : AOper, as[i]? = some ao ∧ ∃ slot c xs, compOp1 P own o slot = some (c, xs) ∧ copds xs = some ao.args ∧ guardOf ops o = some ao.guard ∧ ao.dst = o.dst ∧ ao.cls = c
  | [], k, as, h => by simp only [compOpers, Option.some.injEq] at h; subst h; exact ⟨rfl, fun i o h => by simp at h⟩
  | o :: l, k, as, h => by
    simp only [compOpers, Option.bind_eq_some_iff, Option.map_eq_some_iff] at h
    obtain ⟨ao, h1, as', h2, rfl⟩ := h
    obtain ⟨g1, g2⟩ := compOpers_get h2
    refine ⟨by simp [g1], fun i x hx => ?_⟩
    cases i with
    | zero =>
      simp at hx
      subst hx
      simp only [compOper, Option.bind_eq_some_iff, Option.map_eq_some_iff] at h1
      obtain ⟨⟨c, xs⟩, h3, args, h4, g, h5, rfl⟩ := h1
      exact ⟨_, rfl, k, c, xs, h3, h4, h5, rfl, rfl⟩
    | succ i =>
      simp at hx
      obtain ⟨ao', e1, e2⟩ := g2 i x hx
      exact ⟨ao', by simpa using e1, e2⟩
theorem pins_fit {own draw : Bool} {ops : Array Oper} {as : List AOper} (h : compOpers P own ops 0 ops.toList = some as) : (pins draw ops as).length = ops.size ∧
    ∀ (i : Nat) (o : Oper), ops[i]? = some o → ∃ ao : AOper, (pins draw ops as)[i]? = some ao ∧ Fits P own ops o ao := by
  obtain ⟨h1, h2⟩ := compOpers_get h
  refine ⟨by simp [pins, h1], fun i o ho => ?_⟩
  obtain ⟨ao, e1, slot, c, xs, e2, e3, e4, e5, e6⟩ := h2 i o (by rw [Array.getElem?_toList]; exact ho)
  unfold pins
  rw [List.getElem?_map, List.getElem?_zipIdx, e1]
  simp only [Option.map_some, Nat.zero_add]
  refine ⟨_, rfl, slot, c, xs, e2, ?_⟩
  cases hc : ao.cls with
  | call p =>
    have hcc : c = .call p := by rw [← e6, hc]
    subst hcc
    obtain ⟨rfl, _⟩ := call_inv ((compOp1_inv e2).resolve_right (by rintro ⟨h, _⟩; cases h))
    exact ⟨e3, e4, e5, .inr ⟨rfl, _, rfl⟩⟩
  | q => simp only; exact ⟨e3, e4, e5, .inl e6⟩
  | l => simp only; exact ⟨e3, e4, e5, .inl e6⟩
  | m => simp only; exact ⟨e3, e4, e5, .inl e6⟩
  | e => simp only; exact ⟨e3, e4, e5, .inl e6⟩
theorem masksGo_spec : ∀ (l : List Oper) (acc : List Nat), ∃ rest, masksGo l acc = acc ++ rest ∧ ∀ (i : Nat) (o : Oper), l[i]? = some o → (acc ++ rest).getD (acc.length + i) 0 = maskOf ((acc ++ rest).take (acc.length + i)) o.after.toList
  | [], acc => ⟨[], by simp [masksGo], fun i o h => by simp at h⟩
  | o :: l, acc => by
    obtain ⟨rest, h1, h2⟩ := masksGo_spec l (acc ++ [maskOf acc o.after.toList])
    refine ⟨maskOf acc o.after.toList :: rest, by rw [masksGo, h1]; simp, fun i x hx => ?_⟩
    cases i with
    | zero =>
      simp at hx
      subst hx
      simp [List.getD_eq_getElem?_getD, List.getElem?_append, List.take_append]
    | succ i =>
      simp at hx
      have := h2 i x hx
      simp only [List.length_append, List.length_cons, List.length_nil, List.append_assoc, List.cons_append, List.nil_append] at this
      rw [show acc.length + (i + 1) = acc.length + (0 + 1) + i by omega]
      exact this
theorem maskOf_bit (acc : List Nat) (j : Nat) : ∀ (es : List Edge), (maskOf acc es).testBit j = true → ∃ e ∈ es, Region.binds .any e = true ∧ (j = e.on ∨ (acc.getD e.on 0).testBit j = true)
  | [], h => by simp [maskOf] at h
  | e :: es, h => by
    unfold maskOf at h
    split at h
    · rename_i hb
      rw [Nat.testBit_or, Nat.testBit_or, Bool.or_eq_true, Bool.or_eq_true] at h
      rcases h with (h | h) | h
      · refine ⟨e, by simp, hb, .inl ?_⟩
        rw [Nat.testBit_two_pow] at h
        simpa using (of_decide_eq_true h).symm
      · exact ⟨e, by simp, hb, .inr h⟩
      · obtain ⟨e', h1, h2⟩ := maskOf_bit acc j es h
        exact ⟨e', by simp [h1], h2⟩
    · obtain ⟨e', h1, h2⟩ := maskOf_bit acc j es h
      exact ⟨e', by simp [h1], h2⟩
theorem masks_bit {ops : Array Oper} {i j : Nat} {o : Oper} (ho : ops[i]? = some o) (h : ((masks ops).getD i 0).testBit j = true) :
    ∃ e ∈ o.after.toList, Region.binds .any e = true ∧ (j = e.on ∨ (e.on < i ∧ ((masks ops).getD e.on 0).testBit j = true)) := by
  obtain ⟨rest, h1, h2⟩ := masksGo_spec ops.toList []
  simp only [List.nil_append, List.length_nil, Nat.zero_add] at h1 h2
  have h3 := h2 i o (by rw [Array.getElem?_toList]; exact ho)
  unfold masks at h ⊢
  rw [h1] at h ⊢
  rw [h3] at h
  obtain ⟨e, e1, e2, e3⟩ := maskOf_bit _ _ _ h
  refine ⟨e, e1, e2, ?_⟩
  rcases e3 with e3 | e3
  · exact .inl e3
  · rcases Nat.lt_or_ge e.on i with hl | hl
    · refine .inr ⟨hl, ?_⟩
      rw [List.getD_eq_getElem?_getD, List.getElem?_take_of_lt hl] at e3
      rw [List.getD_eq_getElem?_getD]
      exact e3
    · rw [List.getD_eq_getElem?_getD, List.getElem?_eq_none (by rw [List.length_take]; omega)] at e3
      simp at e3
def Down (ops : Array Oper) (listed : Array Bool) : Prop := ∀ (k : Nat) (o : Oper), listed.getD k false = true → ops[k]? = some o → ∀ e ∈ o.after.toList, Region.binds .any e = true → listed.getD e.on false = true
theorem waits_listed {ops : Array Oper} {listed : Array Bool} (hsz : listed.size = ops.size) (hd : Down ops listed) (j : Nat) : ∀ (i : Nat) (o : Oper), ops[i]? = some o → (∀ e ∈ o.after.toList, Region.binds .any e = true → listed.getD e.on false = true) →
    ((masks ops).getD i 0).testBit j = true → listed.getD j false = true := by
  intro i
  induction i using Nat.strongRecOn with
  | _ i ih =>
    intro o ho hl h
    obtain ⟨e, e1, e2, e3⟩ := masks_bit ho h
    have h1 := hl e e1 e2
    rcases e3 with rfl | ⟨e3, e4⟩
    · exact h1
    · have hlt : e.on < ops.size := by
        rw [← hsz]
        rcases Nat.lt_or_ge e.on listed.size with h | h
        · exact h
        · rw [Array.getD_eq_getD_getElem?, Array.getElem?_eq_none h] at h1; cases h1
      exact ih e.on e3 ops[e.on] (Array.getElem?_eq_getElem hlt) (hd e.on _ h1 (Array.getElem?_eq_getElem hlt)) e4
theorem drawOk_spec {ops : Array Oper} {as : List AOper} (h : drawOk ops as = true) :
    (∀ (i : Nat) (o : Oper), ops[i]? = some o → ∀ e ∈ o.after.toList, Region.binds .any e = true → e.on < i) ∧
    ∀ (i j : Nat) (x y : AOper), as[i]? = some x → as[j]? = some y → i < j → ((masks ops).getD j 0).testBit i = true ∨ commutes x y = true := by
  simp only [drawOk, Bool.and_eq_true, List.all_eq_true] at h
  obtain ⟨h1, h2⟩ := h
  refine ⟨fun i o ho e he hb => ?_, fun i j x y hx hy hij => ?_⟩
  · have := h1 (o, i) (List.mk_mem_zipIdx_iff_getElem?.2 (by rw [Array.getElem?_toList]; exact ho))
    rw [Array.all_eq_true_iff_forall_mem] at this
    have := this e (by simpa using he)
    simpa [hb] using this
  · have := h2 (y, j) (List.mk_mem_zipIdx_iff_getElem?.2 hy) (x, i) (List.mk_mem_zipIdx_iff_getElem?.2 hx)
    simpa [hij] using this
variable {base : Nat} {own : Bool} {ops : Array Oper} {as : List AOper} {Q : Exit → Act → World → Prop}
theorem draw_go (hfit : ∀ (i : Nat) (o : Oper), ops[i]? = some o → ∃ ao : AOper, as[i]? = some ao ∧ Fits P own ops o ao) (hok : drawOk ops as = true) {s' : ASt} : ∀ (fuel : Nat) (listed : Array Bool) (l : List Nat) (s : ASt) (E : Env) (a : Act) (w : World),
    listed.size = ops.size → l = (List.range ops.size).filter (fun i => !listed.getD i true) → l.length ≤ fuel → Down ops listed → Path P G true base as l s s' → Sim G lo E s a w →
    (∀ a' w' E', Sim G lo E' s' a' w' → Evo lo E w E' w' → Q .normal a' w') → wpAny P .any ops Q fuel listed a w := by
  obtain ⟨ok1, ok2⟩ := drawOk_spec hok
  have rdy : ∀ {listed : Array Bool} {i : Nat}, listed.size = ops.size → i ∈ Region.ready .any ops listed → i < ops.size ∧ listed.getD i true = false ∧ ∀ o, ops[i]? = some o → ∀ e ∈ o.after.toList, Region.binds .any e = true → listed.getD e.on false = true := by
    intro listed i hsz h
    unfold Region.ready at h
    rw [List.mem_filter] at h
    obtain ⟨h1, h2⟩ := h
    have hi : i < ops.size := by simpa using h1
    rw [Bool.and_eq_true] at h2
    refine ⟨hi, by simpa using h2.1, fun o ho e he hb => ?_⟩
    have h3 := h2.2
    rw [ho] at h3
    simp only [Option.map_some, Option.getD_some] at h3
    rw [Array.all_eq_true_iff_forall_mem] at h3
    have h4 := h3 e (by simpa using he)
    simpa [hb] using h4
  have mk : ∀ {listed : Array Bool} {i : Nat}, i < ops.size → listed.getD i true = false → (∀ o, ops[i]? = some o → ∀ e ∈ o.after.toList, Region.binds .any e = true → listed.getD e.on false = true) → i ∈ Region.ready .any ops listed := by
    intro listed i h1 h2 h3
    unfold Region.ready
    rw [List.mem_filter]
    refine ⟨by simpa using h1, ?_⟩
    rw [Bool.and_eq_true]
    refine ⟨by simpa using h2, ?_⟩
    rw [Array.getElem?_eq_getElem h1]
    simp only [Option.map_some, Option.getD_some]
    rw [Array.all_eq_true_iff_forall_mem]
    intro e he
    cases hb : Region.binds .any e with
    | false => rfl
    | true => simpa using h3 _ (Array.getElem?_eq_getElem h1) e (by simpa using he) hb
  have none_left : ∀ {listed : Array Bool} {l : List Nat}, listed.size = ops.size → l = (List.range ops.size).filter (fun i => !listed.getD i true) → Region.ready .any ops listed = [] → l = [] := by
    intro listed l hsz hl hr
    cases l with
    | nil => rfl
    | cons i l =>
      exfalso
      have hmem : i ∈ (List.range ops.size).filter (fun i => !listed.getD i true) := by rw [← hl]; simp
      rw [List.mem_filter] at hmem
      have hi : i < ops.size := by simpa using hmem.1
      have hpw : ((List.range ops.size).filter (fun i => !listed.getD i true)).Pairwise (· < ·) := List.Pairwise.filter _ List.pairwise_lt_range
      rw [← hl] at hpw
      have hmin := (List.pairwise_cons.1 hpw).1
      have : i ∈ Region.ready .any ops listed := by
        refine mk hi (by simpa using hmem.2) fun o ho e he hb => ?_
        have hlt := ok1 i o ho e he hb
        cases hg : listed.getD e.on true with
        | true =>
          have hsz' : e.on < listed.size := by omega
          simp only [Array.getD_eq_getD_getElem?, Array.getElem?_eq_getElem hsz', Option.getD_some] at hg ⊢
          exact hg
        | false =>
          exfalso
          have hm : e.on ∈ i :: l := by
            rw [hl, List.mem_filter]
            exact ⟨by simp; omega, by simp [hg]⟩
          rcases List.mem_cons.1 hm with h | h
          · omega
          · have := hmin _ h; omega
      rw [hr] at this
      cases this
  intro fuel
  induction fuel with
  | zero =>
    intro listed l s E a w hsz hl hle hdn hp hs hQ
    have h0 : l = [] := List.eq_nil_of_length_eq_zero (by omega)
    subst h0
    refine ⟨?_, ?_⟩
    · cases hr : Region.ready .any ops listed with
      | nil => rfl
      | cons i r =>
        exfalso
        obtain ⟨h1, h2, _⟩ := rdy hsz (show i ∈ Region.ready .any ops listed by rw [hr]; simp)
        have : i ∈ (List.range ops.size).filter (fun i => !listed.getD i true) := List.mem_filter.2 ⟨by simpa using h1, by simp [h2]⟩
        rw [← hl] at this
        cases this
    · have : s = s' := hp
      subst this
      exact hQ a w E hs (Evo.refl _ _ _)
  | succ fuel ih =>
    intro listed l s E a w hsz hl hle hdn hp hs hQ
    refine ⟨fun hr => ?_, fun i hi => ?_⟩
    · have h0 := none_left hsz hl hr
      subst h0
      have : s = s' := hp
      subst this
      exact hQ a w E hs (Evo.refl _ _ _)
    · obtain ⟨h1, h2, h3⟩ := rdy hsz hi
      have hmem : i ∈ l := by rw [hl, List.mem_filter]; exact ⟨by simpa using h1, by simp [h2]⟩
      have hpw : l.Pairwise (· < ·) := by rw [hl]; exact List.Pairwise.filter _ List.pairwise_lt_range
      obtain ⟨pre, post, hsplit⟩ := List.append_of_mem hmem
      rw [hsplit] at hpw hp
      have hpre : ∀ j ∈ pre, j < i := fun j hj => (List.pairwise_append.1 hpw).2.2 j hj i (by simp)
      have hpost : ∀ j ∈ post, i < j := fun j hj => (List.pairwise_cons.1 (List.pairwise_append.1 hpw).2.1).1 j hj
      have hoi := Array.getElem?_eq_getElem h1
      obtain ⟨ao, hao, slot, c, xs, f1, f2, f3, f4, f5⟩ := hfit i _ hoi
      have hcom : ∀ j ∈ pre, ∀ y, as[j]? = some y → commutes y ao = true := by
        intro j hj y hy
        rcases ok2 j i y ao hy hao (hpre j hj) with hb | hc
        · exfalso
          have h4 := waits_listed hsz hdn j i _ hoi (h3 _ hoi) hb
          have hjl : j ∈ l := by rw [hsplit]; simp [hj]
          rw [hl, List.mem_filter] at hjl
          have h5 : listed.getD j true = false := by simpa using hjl.2
          have hjs : j < listed.size := by rw [hsz]; simpa using hjl.1
          simp only [Array.getD_eq_getD_getElem?, Array.getElem?_eq_getElem hjs, Option.getD_some] at h4 h5
          rw [h4] at h5
          cases h5
        · exact hc
      obtain ⟨ao', s1, hao', hst, hp'⟩ := path_front rfl hao pre post s s' hcom hp
      rw [hao] at hao'
      cases hao'
      refine op_sound hoi f1 f5 f2 f3 f4 hs hst fun a' w' E' hs' hE' => ?_
      have hget : ∀ k, (listed.setIfInBounds i true).getD k true = if k = i then true else listed.getD k true := by
        intro k
        simp only [Array.getD_eq_getD_getElem?, Array.getElem?_setIfInBounds]
        by_cases hk : i = k
        · subst hk; simp [hsz, h1]
        · simp [hk, Ne.symm hk]
      have hget' : ∀ k, listed.getD k false = true → (listed.setIfInBounds i true).getD k false = true := by
        intro k hk
        simp only [Array.getD_eq_getD_getElem?, Array.getElem?_setIfInBounds] at hk ⊢
        by_cases hki : i = k
        · subst hki; simp [hsz, h1]
        · simpa [hki] using hk
      refine ih (listed.setIfInBounds i true) (pre ++ post) s1 E' a' w' (by simpa using hsz) ?_ ?_ ?_ hp' hs' (fun a2 w2 E2 k1 k2 => hQ a2 w2 E2 k1 (hE'.trans k2))
      · have e1 : (List.range ops.size).filter (fun k => !(listed.setIfInBounds i true).getD k true) = l.filter (fun k => decide (k ≠ i)) := by
          rw [hl, List.filter_filter]
          apply List.filter_congr
          intro k _
          rw [hget k]
          by_cases hk : k = i <;> simp [hk]
        rw [e1, hsplit, List.filter_append, List.filter_cons]
        simp only [ne_eq, not_true_eq_false, decide_false, Bool.false_eq_true, if_false]
        rw [List.filter_eq_self.2 (fun k hk => by have := hpre k hk; simp; omega), List.filter_eq_self.2 (fun k hk => by have := hpost k hk; simp; omega)]
      · rw [hsplit] at hle
        simp only [List.length_append, List.length_cons] at hle ⊢
        omega
      · intro k o hk hko e he hb
        by_cases hki : k = i
        · subst hki
          exact hget' _ (h3 o hko e he hb)
        · refine hget' _ (hdn k o ?_ hko e he hb)
          simp only [Array.getD_eq_getD_getElem?, Array.getElem?_setIfInBounds] at hk ⊢
          simpa [Ne.symm hki] using hk
/-- A region of open order. -/
theorem region_draw {id : Nat} (hm : P.follows .mixedOrders = true) (hfit : ∀ (i : Nat) (o : Oper), ops[i]? = some o → ∃ ao : AOper, as[i]? = some ao ∧ Fits P own ops o ao) (hok : drawOk ops as = true) {s s' : ASt} {E : Env} {a : Act} {w : World}
    (hp : Path P G true base as (List.range ops.size) s s') (hs : Sim G lo E s a w) (hQ : ∀ a' w' E', Sim G lo E' s' a' w' → Evo lo E w E' w' → Q .normal a' w') : (Code.region id ops true).wp P Q a w := by
  refine wp_region_any hm ?_
  have hb : Below w.heap.size w { w with drawn := w.drawn + 1 } := ⟨rfl, rfl, rfl, Nat.le_refl _, fun _ _ => rfl⟩
  obtain ⟨k1, k2⟩ := hs.heap.grow hb (fun _ => False) (fun a h => h.elim)
  refine draw_go hfit hok ops.size (Array.replicate ops.size false) (List.range ops.size) s _ a _ (by simp) ?_ (by simp) ?_ hp ⟨k1, hs.tmps.mono k2, hs.defers⟩ (fun a' w' E' h1 h2 => hQ a' w' E' h1 (k2.trans h2))
  · symm
    rw [List.filter_eq_self]
    intro k hk
    have hk' : k < ops.size := by simpa using hk
    simp [Array.getD_eq_getD_getElem?, hk']
  · intro k o hk
    exfalso
    rw [Array.getD_eq_getD_getElem?, Array.getElem?_replicate] at hk
    split at hk <;> simp at hk
/-- A region that goes in the order of the text. -/
theorem region_text {id : Nat} {draw : Bool} (hfit : ∀ (i : Nat) (o : Oper), ops[i]? = some o → ∃ ao : AOper, as[i]? = some ao ∧ Fits P own ops o ao) {s s' : ASt} {E : Env} {a : Act} {w : World}
    (hp : Path P G draw base as (List.range ops.size) s s') (hs : Sim G lo E s a w) (hQ : ∀ a' w' E', Sim G lo E' s' a' w' → Evo lo E w E' w' → Q .normal a' w') : (Code.region id ops false).wp P Q a w := by
  refine wp_region ?_
  have key : ∀ (l : List Nat), (∀ i ∈ l, i < ops.size) → ∀ s E a w, Path P G draw base as l s s' → Sim G lo E s a w → (∀ a' w' E', Sim G lo E' s' a' w' → Evo lo E w E' w' → Q .normal a' w') → wpOps P ops Q l a w := by
    intro l
    induction l with
    | nil =>
      intro _ s E a w hp hs hQ
      have : s = s' := hp
      subst this
      exact hQ a w E hs (Evo.refl _ _ _)
    | cons i l ih =>
      intro hl s E a w hp hs hQ
      obtain ⟨ao', s1, hao', hst, hp'⟩ := hp
      have hoi := Array.getElem?_eq_getElem (hl i (by simp))
      obtain ⟨ao, hao, slot, c, xs, f1, f2, f3, f4, f5⟩ := hfit i _ hoi
      rw [hao] at hao'
      cases hao'
      rw [wpOps_cons]
      exact op_sound hoi f1 f5 f2 f3 f4 hs hst fun a' w' E' hs' hE' => ih (fun k hk => hl k (by simp [hk])) s1 E' a' w' hp' hs' (fun a2 w2 E2 k1 k2 => hQ a2 w2 E2 k1 (hE'.trans k2))
  exact key _ (fun i hi => by simpa using hi) s E a w hp hs hQ
end
end Go.AL

/- Code, and functions. -/
set_option linter.unusedSimpArgs false
set_option linter.unusedVariables false
namespace Go.AL
open Go Go.RowKit
mutual
def AV.low (n : Nat) : AV → Prop
  | .imm _ => True
  | .junk => True
  | .agg cs => lows n cs
  | .tup cs => lows n cs
  | .sl _ xs tok => lows n xs ∧ (∀ k, tok = some k → k < n)
  | .ptr id _ => id < n
  | .rptr cs _ => lows n cs
  | .fn _ a b => lows n a ∧ lows n b
  | .mp id => id < n
  | .bs id _ _ => id < n
  | .rs id _ _ _ _ => id < n
  | .rp id _ _ _ => id < n
def lows (n : Nat) : List AV → Prop
  | [] => True
  | a :: as => a.low n ∧ lows n as
end
theorem lows_iff (n : Nat) : ∀ (as : List AV), lows n as ↔ ∀ a ∈ as, a.low n
  | [] => by simp [lows]
  | a :: as => by simp [lows, lows_iff n as]
def AObj.low (n : Nat) : AObj → Prop
  | .box cs => lows n cs
  | .fbox cs => lows n cs
  | .row _ _ _ xs => lows n xs
  | .map _ _ es => ∀ p ∈ es, ∀ a, p.2 = some a → a.low n
  | _ => True
def Env.cut (E : Env) (n : Nat) : Env := { E with bx := fun k => if k < n then E.bx k else none, tk := fun k => if k < n then E.tk k else none }
theorem lows_cells {n : Nat} {a : AV} (h : a.low n) : lows n a.cells := by
  cases a <;> simp_all [AV.cells, AV.low, lows]
theorem lows_flat {n : Nat} : ∀ {xs : List AV}, lows n xs → lows n (xs.flatMap AV.cells)
  | [], _ => trivial
  | x :: xs, h => by
    rw [List.flatMap_cons, lows_iff]
    intro a ha
    rcases List.mem_append.1 ha with h1 | h1
    · exact (lows_iff n _).1 (lows_cells h.1) a h1
    · exact (lows_iff n _).1 (lows_flat h.2) a h1
mutual
theorem Rep.cut {n : Nat} {E E' : Env} {w : World} (hI : ∀ a, E.I a → E'.I a) (hbx : ∀ k, k < n → E'.bx k = E.bx k) (htk : ∀ k, k < n → E'.tk k = E.tk k) : ∀ {a : AV} {v : Value}, Rep E w a v → a.low n → Rep E' w a v
  | _, _, .imm v h, _ => .imm v h
  | _, _, .junk v, _ => .junk v
  | _, _, .agg cs us h h1, hl => .agg cs us (Reps.cut hI hbx htk h hl) h1
  | _, _, .tup cs us h, hl => .tup cs us (Reps.cut hI hbx htk h hl)
  | _, _, .sl size xs tok A cap us h1 h2 h3 h4 h5 h6 h7, hl =>
    .sl size xs tok A cap us h1 h2 h3 (Reps.cut hI hbx htk h4 (lows_flat hl.1)) h5 (fun j u hu => by
      obtain ⟨ad, e1, e2, e3⟩ := h6 j u hu
      exact ⟨ad, e1, e2, hI _ e3⟩) (by
      cases tok with
      | none => trivial
      | some k =>
        obtain ⟨m, b, e1, e2⟩ := h7
        exact ⟨m, b, (htk k (hl.2 k rfl)).trans e1, e2⟩)
  | _, _, .ptr id off b h, hl => .ptr id off b ((hbx id hl).trans h)
  | _, _, .rptr cs off ad us h h1 h2, hl => .rptr cs off ad us (Reps.cut hI hbx htk h hl) h1 (fun j u hu => ⟨(h2 j u hu).1, hI _ (h2 j u hu).2⟩)
  | _, _, .fn f first cap us vs h h1, hl => .fn f first cap us vs (Reps.cut hI hbx htk h hl.1) (Reps.cut hI hbx htk h1 hl.2)
  | _, _, .mp id b h, hl => .mp id b ((hbx id hl).trans h)
  | _, _, .bs id off m b A cap h h1 h2 h3, hl => .bs id off m b A cap ((hbx id hl).trans h) h1 h2 h3
  | _, _, .rs id ver size lo m A cap h1 h2 h0 h3, hl => .rs id ver size lo m A cap h1 h2 h0 (by
      obtain ⟨m, b, e1, e2⟩ := h3
      exact ⟨m, b, (htk id hl).trans e1, e2⟩)
  | _, _, .rp id ver size i A h, hl => .rp id ver size i A (by
      obtain ⟨m, b, e1, e2⟩ := h
      exact ⟨m, b, (htk id hl).trans e1, e2⟩)
theorem Reps.cut {n : Nat} {E E' : Env} {w : World} (hI : ∀ a, E.I a → E'.I a) (hbx : ∀ k, k < n → E'.bx k = E.bx k) (htk : ∀ k, k < n → E'.tk k = E.tk k) : ∀ {as : List AV} {vs : List Value}, Reps E w as vs → lows n as → Reps E' w as vs
  | _, _, .nil, _ => .nil
  | _, _, .cons a v as vs h h1, hl => .cons a v as vs (Rep.cut hI hbx htk h hl.1) (Reps.cut hI hbx htk h1 hl.2)
end
section
variable {P : Program} {G : Nat → Option (List AV)} {lo : Nat} {E : Env} {w : World}
theorem cut_at {n k b : Nat} (h : (E.cut n).at k = some b) : k < n ∧ E.at k = some b := by
  unfold Env.at Env.cut at h
  by_cases hk : k < n
  · simp only [hk, if_true] at h
    exact ⟨hk, h⟩
  · simp [hk] at h
/-- Boxes that nothing mentions any more are forgotten. -/
theorem SimH.cut (hG : ∀ g cs, G g = some cs → lows 0 cs) {H : List AObj} (h : SimH G lo E H w) (n : Nat) (hl : ∀ o ∈ H.take n, o.low n) : SimH G lo (E.cut n) (H.take n) w := by
  have hI : ∀ a, E.I a → (E.cut n).I a := fun _ h => h
  have hbx : ∀ k, k < n → (E.cut n).bx k = E.bx k := fun k hk => if_pos hk
  have htk : ∀ k, k < n → (E.cut n).tk k = E.tk k := fun k hk => if_pos hk
  refine ⟨h.lo_le, h.inI, ?_, ?_, ?_, ?_⟩
  · intro id o ho
    have hid : id < n := by
      rcases Nat.lt_or_ge id n with h1 | h1
      · exact h1
      · rw [List.getElem?_eq_none (by rw [List.length_take]; omega)] at ho; cases ho
    have hol := hl o (List.mem_of_getElem? ho)
    rw [List.getElem?_take_of_lt hid] at ho
    have h1 := h.objs id o ho
    cases o with
    | hole => exact ⟨(hbx id hid).trans h1.1, (htk id hid).trans h1.2⟩
    | box cs => obtain ⟨b, ty, us, e1, e2, e3, e4, e5, e6⟩ := h1; exact ⟨b, ty, us, (hbx id hid).trans e1, (htk id hid).trans e2, e3, e4, Reps.cut hI hbx htk e5 hol, e6⟩
    | fbox cs => obtain ⟨b, ty, us, e1, e2, e3, e4, e5, e6⟩ := h1; exact ⟨b, ty, us, (hbx id hid).trans e1, (htk id hid).trans e2, e3, e4, Reps.cut hI hbx htk e5 hol, e6⟩
    | tok e size m => obtain ⟨B, e1, e2, e3⟩ := h1; exact ⟨B, (hbx id hid).trans e1, (htk id hid).trans e2, e3⟩
    | row e size ver xs =>
      obtain ⟨B, e1, e2, e3⟩ := h1
      refine ⟨B, (hbx id hid).trans e1, (htk id hid).trans e2, ?_⟩
      cases B with
      | none => exact e3
      | some p =>
        obtain ⟨h4, cur, us, h5, h6, h7, h8, h9, h10⟩ := e3
        exact ⟨h4, cur, us, h5, h6, h7, h8, Reps.cut hI hbx htk h9 (lows_flat hol), h10⟩
    | map ks zv es =>
      obtain ⟨b, ents, e1, e2, e3, e4, e5, e6⟩ := h1
      refine ⟨b, ents, (hbx id hid).trans e1, (htk id hid).trans e2, e3, e4, ⟨e5.1, e5.2.1, fun i p e hp he => ?_⟩, e6⟩
      obtain ⟨g1, g2, g3, g4⟩ := e5.2.2 i p e hp he
      refine ⟨g1, g2, g3, ?_⟩
      split at g4
      · rename_i a ha
        exact ⟨Rep.cut hI hbx htk g4.1 (hol p (List.mem_of_getElem? hp) a ha), g4.2⟩
      · exact g4
    | dead => obtain ⟨m, B, e1, e2, e3⟩ := h1; exact ⟨m, B, (hbx id hid).trans e1, (htk id hid).trans e2, e3⟩
    | obj o => obtain ⟨b, e1, e2, e3⟩ := h1; exact ⟨b, (hbx id hid).trans e1, (htk id hid).trans e2, e3⟩
  · intro id hid
    rw [List.length_take] at hid
    by_cases hn : id < n
    · have h1 := h.dom id (by omega)
      exact ⟨(hbx id hn).trans h1.1, (htk id hn).trans h1.2⟩
    · exact ⟨if_neg hn, if_neg hn⟩
  · intro i j b hi hj
    exact h.inj i j b (cut_at hi).2 (cut_at hj).2
  · intro g cs hg
    obtain ⟨us, h1, h2⟩ := h.glob g cs hg
    exact ⟨us, Reps.cut (n := 0) hI (fun k hk => absurd hk (Nat.not_lt_zero k)) (fun k hk => absurd hk (Nat.not_lt_zero k)) h1 (hG g cs hg), h2⟩
theorem Evo.cut {E0 : Env} {w0 : World} {n n0 : Nat} (h : Evo lo E0 w0 E w) (hn : n0 ≤ n) (h0 : ∀ k, n0 ≤ k → E0.bx k = none ∧ E0.tk k = none) : Evo lo E0 w0 (E.cut n) w :=
  ⟨h.below, h.I, fun id b hb => by
    have hid : id < n := by
      rcases Nat.lt_or_ge id n0 with h1 | h1
      · omega
      · rw [(h0 id h1).1] at hb; cases hb
    show (if id < n then E.bx id else none) = some b
    rw [if_pos hid]; exact h.bx id b hb, fun id m b hb => by
    have hid : id < n := by
      rcases Nat.lt_or_ge id n0 with h1 | h1
      · omega
      · rw [(h0 id h1).2] at hb; cases hb
    obtain ⟨n', b', h1, h2⟩ := h.tk id m b hb
    refine ⟨n', b', ?_, h2⟩
    show (if id < n then E.tk id else none) = some (n', b')
    rw [if_pos hid]; exact h1, h.newI⟩
/-- Temporaries that are given up, or kept. -/
def WeakL (n : Nat) : List AV → List AV → Prop
  | [], [] => True
  | a :: as, b :: bs => (b = .junk ∨ (b = a ∧ a.low n) ∨ (b = a.strip ∧ b.low n)) ∧ WeakL n as bs
  | _, _ => False
/-- Empty slices are alike, whatever their elements. -/
def NilEq (a b : AV) : Prop := b = a ∨ ∃ m m', a = .sl m [] none ∧ b = .sl m' [] none
def NilEqs : List AV → List AV → Prop
  | [], [] => True
  | a :: as, b :: bs => NilEq a b ∧ NilEqs as bs
  | _, _ => False
def BoxEq (o o' : AObj) : Prop := o' = o ∨ ∃ cs cs', o = .box cs ∧ o' = .box cs' ∧ NilEqs cs cs'
def HeapEq : List AObj → List AObj → Prop
  | [], [] => True
  | a :: as, b :: bs => BoxEq a b ∧ HeapEq as bs
  | _, _ => False
theorem HeapEq.refl : ∀ H : List AObj, HeapEq H H
  | [] => trivial
  | _ :: H => ⟨.inl rfl, HeapEq.refl H⟩
theorem NilEq.rep {E : Env} {w : World} {a b : AV} {v : Value} (h : NilEq a b) (hr : Rep E w a v) : Rep E w b v := by
  rcases h with rfl | ⟨m, m', rfl, rfl⟩
  · exact hr
  · cases hr with
    | sl _ _ _ A cap us h1 h2 h3 h4 h5 h6 h7 => exact .sl m' [] none A cap us h1 h2 (fun x hx => by cases hx) h4 h5 h6 h7
theorem NilEqs.reps {E : Env} {w : World} : ∀ {as bs : List AV} {vs : List Value}, NilEqs as bs → Reps E w as vs → Reps E w bs vs
  | [], [], _, _, h => h
  | [], _ :: _, _, h, _ => h.elim
  | _ :: _, [], _, h, _ => h.elim
  | _ :: _, b :: bs, _, h, hr => by
    cases hr with
    | cons a v as vs h1 h2 => exact .cons _ _ _ _ (h.1.rep h1) (NilEqs.reps h.2 h2)
theorem NilEq.low {n : Nat} {a b : AV} (h : NilEq a b) (hl : b.low n) : a.low n := by
  rcases h with rfl | ⟨m, m', rfl, rfl⟩
  · exact hl
  · exact ⟨trivial, fun k hk => by cases hk⟩
theorem NilEqs.lows {n : Nat} : ∀ {as bs : List AV}, NilEqs as bs → AL.lows n bs → AL.lows n as
  | [], [], _, h => h
  | [], _ :: _, h, _ => h.elim
  | _ :: _, [], h, _ => h.elim
  | _ :: _, _ :: _, h, h1 => ⟨h.1.low h1.1, NilEqs.lows h.2 h1.2⟩
theorem BoxEq.low {n : Nat} {o o' : AObj} (h : BoxEq o o') (hl : o'.low n) : o.low n := by
  rcases h with rfl | ⟨cs, cs', rfl, rfl, h⟩
  · exact hl
  · exact h.lows hl
theorem HeapEq.low {n : Nat} : ∀ {H H' : List AObj}, HeapEq H H' → (∀ o ∈ H', o.low n) → ∀ o ∈ H, o.low n
  | [], [], _, _ => fun o ho => by cases ho
  | [], _ :: _, h, _ => h.elim
  | _ :: _, [], h, _ => h.elim
  | a :: as, b :: bs, h, hl => fun o ho => by
    rcases List.mem_cons.1 ho with rfl | ho
    · exact h.1.low (hl b List.mem_cons_self)
    · exact HeapEq.low h.2 (fun o ho => hl o (List.mem_cons_of_mem _ ho)) o ho
theorem HeapEq.len : ∀ {H H' : List AObj}, HeapEq H H' → H'.length = H.length
  | [], [], _ => rfl
  | [], _ :: _, h => h.elim
  | _ :: _, [], h => h.elim
  | _ :: _, _ :: _, h => by simp [HeapEq.len h.2]
theorem HeapEq.get : ∀ {H H' : List AObj} {id : Nat} {o' : AObj}, HeapEq H H' → H'[id]? = some o' → ∃ o, H[id]? = some o ∧ BoxEq o o'
  | [], [], _, _, _, h => by simp at h
  | [], _ :: _, _, _, h, _ => h.elim
  | _ :: _, [], _, _, h, _ => h.elim
  | a :: as, b :: bs, 0, o', h, ho => by
    simp only [List.getElem?_cons_zero, Option.some.injEq] at ho
    subst ho; exact ⟨a, rfl, h.1⟩
  | a :: as, b :: bs, id + 1, o', h, ho => by
    simp only [List.getElem?_cons_succ] at ho ⊢
    exact HeapEq.get h.2 ho
theorem SimH.heapEq {H H' : List AObj} (h : SimH G lo E H w) (hh : HeapEq H H') : SimH G lo E H' w := by
  refine ⟨h.lo_le, h.inI, fun id o' ho' => ?_, fun id hid => h.dom id (by rw [← hh.len]; exact hid), h.inj, h.glob⟩
  obtain ⟨o, ho, he⟩ := hh.get ho'
  have h1 := h.objs id o ho
  rcases he with rfl | ⟨cs, cs', rfl, rfl, he⟩
  · exact h1
  · obtain ⟨b, ty, us, e1, e2, e3, e4, e5, e6⟩ := h1
    exact ⟨b, ty, us, e1, e2, e3, e4, he.reps e5, e6⟩
/-- What is given up: temporaries; boxes from n on (n0: those that were there when the call began stay); what elements an empty slice in a box has none of. -/
def Weak0 (n0 : Nat) (s s' : ASt) : Prop := ∃ n, n0 ≤ n ∧ HeapEq (s.H.take n) s'.H ∧ (∀ o ∈ s'.H, o.low n) ∧ WeakL n s.tmps s'.tmps
theorem WeakL.reps {n : Nat} {E E' : Env} {w : World} (hI : ∀ a, E.I a → E'.I a) (hbx : ∀ k, k < n → E'.bx k = E.bx k) (htk : ∀ k, k < n → E'.tk k = E.tk k) : ∀ {as bs : List AV} {vs : List Value}, Reps E w as vs → WeakL n as bs → Reps E' w bs vs
  | [], [], _, .nil, _ => .nil
  | [], _ :: _, _, .nil, h => h.elim
  | _ :: _, [], _, .cons a v as vs h1 h2, h => h.elim
  | _ :: _, b :: bs, _, .cons a v as vs h1 h2, h => by
    obtain ⟨hb, h⟩ := h
    refine .cons b v bs vs ?_ (WeakL.reps hI hbx htk h2 h)
    rcases hb with rfl | ⟨rfl, hl⟩ | ⟨rfl, hl⟩
    · exact .junk v
    · exact h1.cut hI hbx htk hl
    · exact h1.strip.cut hI hbx htk hl
theorem Weak0.sim (hG : ∀ g cs, G g = some cs → lows 0 cs) {n0 : Nat} {s s' : ASt} (h : Weak0 n0 s s') {a : Act} (hs : Sim G lo E s a w) {E0 : Env} {w0 : World} (hE : Evo lo E0 w0 E w) (h0 : ∀ k, n0 ≤ k → E0.bx k = none ∧ E0.tk k = none) :
    ∃ E', Sim G lo E' s' a w ∧ Evo lo E0 w0 E' w := by
  obtain ⟨n, h1, h2, h3, h4⟩ := h
  refine ⟨E.cut n, ⟨?_, WeakL.reps (E := E) (E' := E.cut n) (n := n) (fun _ h => h) (fun k hk => if_pos hk) (fun k hk => if_pos hk) hs.tmps h4, hs.defers⟩, hE.cut h1 h0⟩
  exact (hs.heap.cut hG n (h2.low h3)).heapEq h2
/-- A row that nobody writes any more: what it holds is for good. -/
theorem SimH.freeze {H : List AObj} (h2 : SimH G lo E H w) {id : Nat} {e : TypeId} {sz ver : Nat} {xs : List AV} (hH : H[id]? = some (.row e sz ver xs)) (hsz : 0 < sz) :
    ∃ E', SimH G lo E' (H.set id .dead) w ∧ Evo lo E w E' w ∧ ∀ (lo0 n : Nat) (v : Value), lo0 + n ≤ xs.length → Rep E w (.rs id ver sz lo0 n) v → Rep E' w (.sl sz ((xs.drop lo0).take n) none) v := by
  obtain ⟨B, e1, e2, e3⟩ := h2.objs id _ hH
  have hid : id < H.length := (List.getElem?_eq_some_iff.1 hH).1
  cases B with
  | none =>
    obtain ⟨q1, q2⟩ := h2.turn (E' := E) (w' := w) (o' := .dead) (Below.refl _ _) hid (fun _ _ _ => rfl) (fun _ _ => rfl) (fun _ => rfl) (fun _ _ => rfl) (fun n b h => ⟨n, b, h, Nat.le_refl _, fun _ => rfl⟩) (fun _ h => h) (fun a ha => ⟨.inl ha, h2.inI a ha⟩) (fun b h => .inl h) (fun hE => ⟨_, none, e1, e2, fun g c h => by cases h⟩)
    refine ⟨E, q1, q2, fun lo0 n v hn h1 => ?_⟩
    cases h1 with
    | rs _ _ _ _ _ A cap g1 g2 g0 g3 =>
      obtain ⟨m, b, k1, k2, k3⟩ := g3
      rw [e2] at k1
      cases k1
      have k4 := k3 rfl
      have : cap = 0 := k4.1
      obtain rfl : n = 0 := by omega
      have := Rep.sl (E := E) (w := w) sz ((xs.drop lo0).take 0) none A cap [] (by simp) g2 (fun x hx => by simp at hx) (by simpa using Reps.nil) (fun u hu => by cases hu) (fun j u hu => by simp at hu) trivial
      simpa using this
  | some p =>
    obtain ⟨g, c⟩ := p
    obtain ⟨h4, cur, us, h5, h6, h7, h8, h9, h9a, h10, h11, h12⟩ := e3
    have hat : E.at id = some g := by simp [Env.at, e1, e2]
    obtain ⟨q1, q2⟩ := h2.turn (E' := E.more fun a => a.block = g) (w' := w) (o' := .dead) (Below.refl _ _) hid (fun _ _ _ => rfl) (fun _ _ => rfl) (fun _ => rfl) (fun _ _ => rfl) (fun n b h => ⟨n, b, h, Nat.le_refl _, fun _ => rfl⟩) (fun _ h => .inl h)
      (fun a ha => by
        rcases ha with ha | ha
        · exact ⟨.inl ha, h2.inI a ha⟩
        · exact ⟨.inr (.inl (by rw [hat, ha])), by rw [ha]; exact heap_lt h5⟩) (fun b h => .inl h) (fun hE => ⟨_, some (g, c), e1, e2, fun g' c' h => by cases h; exact ⟨h4, heap_lt h5⟩⟩)
    refine ⟨_, q1, q2, fun lo0 n v hn h1 => ?_⟩
    have hlen : ((xs.drop lo0).take n).length = n := by rw [List.length_take, List.length_drop]; omega
    cases h1 with
    | rs _ _ _ _ _ A cap g1 g2 g0 g3 =>
      obtain ⟨m, b, k1, k2, k3⟩ := g3
      rw [e2] at k1
      cases k1
      have k4 := k3 rfl
      obtain ⟨_, k5⟩ := k4
      have := Rep.sl (E := E.more fun a => a.block = g) (w := w) sz ((xs.drop lo0).take n) none A cap ((us.drop (lo0 * sz)).take (n * sz)) (by rw [hlen]; exact g1) g2 (fun x hx => h9a x (List.mem_of_mem_drop (List.mem_of_mem_take hx)))
        (by
          rw [flat_take _ _ (fun x hx => h9a x (List.mem_of_mem_drop hx)), flat_drop _ _ h9a]
          exact ((h9.drop _).take _).mono q2) (fun u hu => h10 u (List.mem_of_mem_drop (List.mem_of_mem_take hu))) (fun j u hu => by
          have hj : j < n * sz := by
            have := (List.getElem?_eq_some_iff.1 hu).1
            rw [List.length_take] at this
            omega
          have hn0 : 0 < n := by
            rcases Nat.eq_zero_or_pos n with h | h
            · subst h; simp at hj
            · exact h
          rw [List.getElem?_take_of_lt hj, List.getElem?_drop] at hu
          refine ⟨_, k5 (.inl (by omega)), ?_, .inr ?_⟩
          · rw [Addr.add_lit, cell_of_row _ _ _ _ _ _ h5]; exact h11 _ u hu
          · rw [Addr.add_lit]) trivial
      rw [hlen] at this
      exact this
def frzV (id ver sz : Nat) (xs : List AV) : AV → AV
  | .rs id' ver' sz' lo n => if id' = id ∧ ver' = ver ∧ sz' = sz ∧ lo + n ≤ xs.length then .sl sz ((xs.drop lo).take n) none else .rs id' ver' sz' lo n
  | a => a
def Frz (s s1 : ASt) : Prop := s1 = s ∨ ∃ id e sz ver xs, s.H[id]? = some (.row e sz ver xs) ∧ 0 < sz ∧ s1 = ⟨s.tmps.map (frzV id ver sz xs), s.H.set id .dead⟩
theorem frzV_rep {E E' : Env} {w : World} {id ver sz : Nat} {xs : List AV} (hE : Evo lo E w E' w) (hf : ∀ (lo0 n : Nat) (v : Value), lo0 + n ≤ xs.length → Rep E w (.rs id ver sz lo0 n) v → Rep E' w (.sl sz ((xs.drop lo0).take n) none) v) {a : AV} {v : Value} (h : Rep E w a v) : Rep E' w (frzV id ver sz xs a) v := by
  unfold frzV
  split
  · split
    · rename_i hc
      obtain ⟨rfl, rfl, rfl, hc⟩ := hc
      exact hf _ _ _ hc h
    · exact h.mono hE
  · exact h.mono hE
theorem frzV_reps {E E' : Env} {w : World} {id ver sz : Nat} {xs : List AV} (hE : Evo lo E w E' w) (hf : ∀ (lo0 n : Nat) (v : Value), lo0 + n ≤ xs.length → Rep E w (.rs id ver sz lo0 n) v → Rep E' w (.sl sz ((xs.drop lo0).take n) none) v) : ∀ {us : List AV} {vs : List Value}, Reps E w us vs → Reps E' w (us.map (frzV id ver sz xs)) vs
  | _, _, .nil => .nil
  | _, _, .cons a v us vs h h1 => .cons _ _ _ _ (frzV_rep hE hf h) (frzV_reps hE hf h1)
/-- What may be forgotten, or told in another way, at a loop's entry and between its rounds. -/
def Weak (n0 : Nat) (s s' : ASt) : Prop := ∃ s1, Frz s s1 ∧ Weak0 n0 s1 s'
theorem Weak.sim (hG : ∀ g cs, G g = some cs → lows 0 cs) {n0 : Nat} {s s' : ASt} (h : Weak n0 s s') {a : Act} (hs : Sim G lo E s a w) {E0 : Env} {w0 : World} (hE : Evo lo E0 w0 E w) (h0 : ∀ k, n0 ≤ k → E0.bx k = none ∧ E0.tk k = none) :
    ∃ E', Sim G lo E' s' a w ∧ Evo lo E0 w0 E' w := by
  obtain ⟨s1, hf, h⟩ := h
  rcases hf with rfl | ⟨id, e, sz, ver, xs, hH, hsz, rfl⟩
  · exact h.sim hG hs hE h0
  · obtain ⟨E1, k1, k2, k3⟩ := hs.heap.freeze hH hsz
    exact h.sim hG ⟨k1, frzV_reps k2 k3 hs.tmps, hs.defers⟩ (hE.trans k2) h0
/-- The abstract weakest precondition. -/
def awp (P : Program) (G : Nat → Option (List AV)) (n0 : Nat) : ACode → (Exit → ASt → Prop) → ASt → Prop
  | .skip, Q, s => Q .normal s
  | .reg draw nA ops, Q, s => aops P G draw s.H.length ops (Q .normal) ⟨s.tmps, s.H ++ List.replicate nA AObj.hole⟩
  | .seq a b, Q, s => awp P G n0 a (fun e s' => match e with | .normal => awp P G n0 b Q s' | e => Q e s') s
  | .cond c a b, Q, s => onBool (aeval G s.tmps c) fun t => (t = true → awp P G n0 a Q s) ∧ (t = false → awp P G n0 b Q s)
  | .block id c, Q, s => awp P G n0 c (fun e s' => match e with | .exit id' => if id' = id then Q .normal s' else Q (.exit id') s' | e => Q e s') s
  | .loop c, Q, s => ∃ Inv : Nat → ASt → Prop, (∃ n s1, Weak n0 s s1 ∧ Inv n s1) ∧
      ∀ n s, Inv n s → awp P G n0 c (fun e s' => match e with | .normal => ∃ n' s'', n' < n ∧ Weak n0 s' s'' ∧ Inv n' s'' | e => Q e s') s
  | .exit id, Q, s => Q (.exit id) s
  | .goto l, Q, s => Q (.goto l) s
  | .scope c, Q, s => awp P G n0 c (fun e s' => match e with | .goto _ => False | e => Q e s') s
  | .stuck, _, _ => False
  | .ret, Q, s => Q .ret s
theorem SimH.pad {H : List AObj} (h : SimH G lo E H w) (n : Nat) : SimH G lo E (H ++ List.replicate n .hole) w := by
  refine ⟨h.lo_le, h.inI, ?_, ?_, h.inj, h.glob⟩
  · intro id o ho
    rcases Nat.lt_or_ge id H.length with hl | hl
    · rw [List.getElem?_append_left hl] at ho
      exact h.objs id o ho
    · rw [List.getElem?_append_right hl, List.getElem?_replicate] at ho
      split at ho
      · cases ho; exact h.dom id hl
      · cases ho
  · intro id hid
    rw [List.length_append] at hid
    exact h.dom id (by omega)
/-- What the machine's exit is to come to. -/
def lift (G : Nat → Option (List AV)) (lo : Nat) (E0 : Env) (w0 : World) (Q : Exit → ASt → Prop) (e : Exit) (a : Act) (w : World) : Prop :=
  match e with
  | .normal | .exit _ | .ret | .goto _ => ∃ s E, Q e s ∧ Sim G lo E s a w ∧ Evo lo E0 w0 E w
  | _ => False
theorem awp_sound {own : List Nat} (hm : P.follows .mixedOrders = true) (hG : ∀ g cs, G g = some cs → lows 0 cs) {n0 : Nat} {E0 : Env} {w0 : World} (h0 : ∀ k, n0 ≤ k → E0.bx k = none ∧ E0.tk k = none) :
    ∀ (c : Code) (ac : ACode), comp P own c = some ac → ∀ (Q : Exit → ASt → Prop) (s : ASt) (E : Env) (a : Act) (w : World), awp P G n0 ac Q s → Sim G lo E s a w → Evo lo E0 w0 E w →
      c.wp P (lift G lo E0 w0 Q) a w := by
  intro c
  induction c with
  | skip =>
    intro ac hc Q s E a w h hs hE
    simp only [comp, Option.some.injEq] at hc
    subst hc
    exact wp_skip ⟨s, E, h, hs, hE⟩
  | region id ops draw =>
    intro ac hc Q s E a w h hs hE
    simp only [comp, Option.bind_eq_some_iff] at hc
    obtain ⟨as, has, hc⟩ := hc
    split at hc
    · rename_i hok
      simp only [Option.some.injEq] at hc
      subst hc
      obtain ⟨hlen, hfit⟩ := pins_fit (draw := draw) has
      obtain ⟨s', hp, hQ⟩ := path_of_aops P G draw s.H.length (pins draw ops as) (pins draw ops as) 0 ⟨s.tmps, s.H ++ List.replicate (countM as) AObj.hole⟩ (Q .normal) (fun j => by simp) h
      rw [hlen, ← List.range_eq_range'] at hp
      have hs' : Sim G lo E ⟨s.tmps, s.H ++ List.replicate (countM as) AObj.hole⟩ a w := ⟨hs.heap.pad _, hs.tmps, hs.defers⟩
      cases draw with
      | false => exact region_text hfit hp hs' fun a' w' E' h1 h2 => ⟨s', E', hQ, h1, hE.trans h2⟩
      | true => exact region_draw hm hfit (by simpa using hok) hp hs' fun a' w' E' h1 h2 => ⟨s', E', hQ, h1, hE.trans h2⟩
    · cases hc
  | seq x y ihx ihy =>
    intro ac hc Q s E a w h hs hE
    simp only [comp, Option.bind_eq_some_iff, Option.map_eq_some_iff] at hc
    obtain ⟨ax, hx, ay, hy, rfl⟩ := hc
    refine wp_seq (wp_mono (ihx ax hx _ s E a w h hs hE) fun e a' w' hq => ?_)
    cases e with
    | normal =>
      obtain ⟨s', E', h1, h2, h3⟩ := hq
      exact ihy ay hy Q s' E' a' w' h1 h2 h3
    | exit id => exact hq
    | ret => exact hq
    | goto l => exact hq
    | panic c => exact hq
    | outgrown => exact hq
  | cond c x y ihx ihy =>
    intro ac hc Q s E a w h hs hE
    simp only [comp, Option.bind_eq_some_iff, Option.map_eq_some_iff] at hc
    obtain ⟨o, ho, ax, hx, ay, hy, rfl⟩ := hc
    obtain ⟨t, ht, h1, h2⟩ := onBool_inv h
    have hr := opd_rep hs ho
    rw [ht] at hr
    have hv := hr.imm_inv
    cases t with
    | true => exact wp_cond_true hv (ihx ax hx Q s E a w (h1 rfl) hs hE)
    | false => exact wp_cond_false hv (ihy ay hy Q s E a w (h2 rfl) hs hE)
  | block id c ih =>
    intro ac hc Q s E a w h hs hE
    simp only [comp, Option.map_eq_some_iff] at hc
    obtain ⟨ac, hc, rfl⟩ := hc
    refine wp_block (wp_mono (ih ac hc _ s E a w h hs hE) fun e a' w' hq => ?_)
    cases e with
    | normal => exact hq
    | exit id' =>
      obtain ⟨s', E', h1, h2, h3⟩ := hq
      simp only [Exit.inBlock]
      by_cases hi : id' = id
      · simp only [hi, if_true] at h1 ⊢; exact ⟨s', E', h1, h2, h3⟩
      · simp only [hi, if_false] at h1 ⊢; exact ⟨s', E', h1, h2, h3⟩
    | ret => exact hq
    | goto l => exact hq
    | panic c => exact hq
    | outgrown => exact hq
  | loop c ih =>
    intro ac hc Q s E a w h hs hE
    simp only [comp, Option.map_eq_some_iff] at hc
    obtain ⟨ac, hc, rfl⟩ := hc
    obtain ⟨Inv, ⟨n, s1, hw, hi⟩, hround⟩ := h
    obtain ⟨E1, hs1, hE1⟩ := hw.sim hG hs hE h0
    let I : Act → World → Prop := fun a w => ∃ n s E, Inv n s ∧ Sim G lo E s a w ∧ Evo lo E0 w0 E w
    let good : Act → World → Nat → Prop := fun a w n => ∃ s E, Inv n s ∧ Sim G lo E s a w ∧ Evo lo E0 w0 E w
    have hex : ∀ a w, I a w → ∃ n, good a w n ∧ ∀ m, good a w m → n ≤ m := by
      rintro a w ⟨n, hn⟩
      have := Nat.strongRecOn (motive := fun n => good a w n → ∃ n, good a w n ∧ ∀ m, good a w m → n ≤ m) n (fun n ih hn => by
        by_cases hlt : ∃ m, m < n ∧ good a w m
        · obtain ⟨m, h1, h2⟩ := hlt
          exact ih m h1 h2
        · exact ⟨n, hn, fun m hm => by
            rcases Nat.lt_or_ge m n with h | h
            · exact absurd ⟨m, h, hm⟩ hlt
            · exact h⟩)
      exact this hn
    classical
    let μ : Act → World → Nat := fun a w => if h : I a w then Classical.choose (hex a w h) else 0
    have hμ : ∀ a w (h : I a w), good a w (μ a w) ∧ ∀ m, good a w m → μ a w ≤ m := by
      intro a w h
      have e : μ a w = Classical.choose (hex a w h) := dif_pos h
      rw [e]
      exact Classical.choose_spec (hex a w h)
    refine wp_loop I μ ⟨n, s1, E1, hi, hs1, hE1⟩ fun a w hI => ?_
    obtain ⟨⟨s2, E2, k1, k2, k3⟩, _⟩ := hμ a w hI
    refine wp_mono (ih ac hc _ s2 E2 a w (hround _ s2 k1) k2 k3) fun e a' w' hq => ?_
    cases e with
    | normal =>
      obtain ⟨s', E', ⟨n', s'', h1, h2, h3⟩, h4, h5⟩ := hq
      obtain ⟨E'', h6, h7⟩ := h2.sim hG h4 h5 h0
      have hI' : I a' w' := ⟨n', s'', E'', h3, h6, h7⟩
      exact ⟨hI', Nat.lt_of_le_of_lt ((hμ a' w' hI').2 n' ⟨s'', E'', h3, h6, h7⟩) h1⟩
    | exit id => exact hq
    | ret => exact hq
    | goto l => exact hq
    | panic c => exact hq
    | outgrown => exact hq
  | exit id =>
    intro ac hc Q s E a w h hs hE
    simp only [comp, Option.some.injEq] at hc
    subst hc
    exact wp_exit ⟨s, E, h, hs, hE⟩
  | ret =>
    intro ac hc Q s E a w h hs hE
    simp only [comp, Option.some.injEq] at hc
    subst hc
    exact wp_ret ⟨s, E, h, hs, hE⟩
  | rangeFunc => intro ac hc Q s E a w h; simp only [comp, Option.some.injEq] at hc; subst hc; exact h.elim
  | scope c ih =>
    intro ac hc Q s E a w h hs hE
    simp only [comp, Option.map_eq_some_iff] at hc
    obtain ⟨ac, hc, rfl⟩ := hc
    refine wp_scope_straight (wp_mono (ih ac hc _ s E a w h hs hE) fun e a' w' hq => ?_)
    cases e with
    | normal => exact hq
    | exit id' => exact hq
    | ret => exact hq
    | goto l => obtain ⟨_, _, h, _⟩ := hq; exact h.elim
    | panic c => exact hq
    | outgrown => exact hq
  | label =>
    intro ac hc Q s E a w h hs hE
    simp only [comp, Option.some.injEq] at hc
    subst hc
    exact wp_label ⟨s, E, h, hs, hE⟩
  | goto =>
    intro ac hc Q s E a w h hs hE
    simp only [comp, Option.some.injEq] at hc
    subst hc
    exact wp_goto ⟨s, E, h, hs, hE⟩
  | refuse => intro ac hc Q s E a w h; simp only [comp, Option.some.injEq] at hc; subst hc; exact h.elim
end
end Go.AL
