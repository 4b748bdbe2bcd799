/- Code, and functions. -/
import Derived.Test.YtfilcbnobmnopaaDoorA16
set_option linter.unusedSimpArgs false
set_option linter.unusedVariables false
namespace Go.AL
open Go Go.RowKit

/- Values, and boxes, that mention no box from n on. -/
mutual
def AV.low (n : Nat) : AV → Prop
  | .imm _ => True
  | .junk => True
  | .agg cs => lows n cs
  | .tup cs => lows n cs
  | .sl _ xs tok => lows n xs ∧ (∀ k, tok = some k → k < n)
  | .ptr id _ => id < n
  | .rptr cs _ => lows n cs
  | .fn _ a b => lows n a ∧ lows n b
  | .mp id => id < n
  | .it id => id < n
def lows (n : Nat) : List AV → Prop
  | [] => True
  | a :: as => a.low n ∧ lows n as
end

theorem lows_iff (n : Nat) : ∀ (as : List AV), lows n as ↔ ∀ a ∈ as, a.low n
  | [] => by simp [lows]
  | a :: as => by simp [lows, lows_iff n as]

def AObj.low (n : Nat) : AObj → Prop
  | .box cs => lows n cs
  | .fbox cs => lows n cs
  | _ => True

def Env.cut (E : Env) (n : Nat) : Env := { E with bx := fun k => if k < n then E.bx k else none, tk := fun k => if k < n then E.tk k else none }

theorem lows_cells {n : Nat} {a : AV} (h : a.low n) : lows n a.cells := by
  cases a <;> simp_all [AV.cells, AV.low, lows]

theorem lows_flat {n : Nat} : ∀ {xs : List AV}, lows n xs → lows n (xs.flatMap AV.cells)
  | [], _ => trivial
  | x :: xs, h => by
    rw [List.flatMap_cons, lows_iff]
    intro a ha
    rcases List.mem_append.1 ha with h1 | h1
    · exact (lows_iff n _).1 (lows_cells h.1) a h1
    · exact (lows_iff n _).1 (lows_flat h.2) a h1

/- A value that mentions no box from n on reads the same where there are none. -/
mutual
theorem Rep.cut {n : Nat} {E E' : Env} {w : World} (hI : ∀ a, E.I a → E'.I a) (hbx : ∀ k, k < n → E'.bx k = E.bx k) (htk : ∀ k, k < n → E'.tk k = E.tk k) : ∀ {a : AV} {v : Value}, Rep E w a v → a.low n → Rep E' w a v
  | _, _, .imm v h, _ => .imm v h
  | _, _, .junk v, _ => .junk v
  | _, _, .agg cs us h h1, hl => .agg cs us (Reps.cut hI hbx htk h hl) h1
  | _, _, .tup cs us h, hl => .tup cs us (Reps.cut hI hbx htk h hl)
  | _, _, .sl size xs tok A cap us h1 h2 h3 h4 h5 h6 h7, hl =>
    .sl size xs tok A cap us h1 h2 h3 (Reps.cut hI hbx htk h4 (lows_flat hl.1)) h5 (fun j u hu => by
      obtain ⟨ad, e1, e2, e3⟩ := h6 j u hu
      exact ⟨ad, e1, e2, hI _ e3⟩) (by
      cases tok with
      | none => trivial
      | some k =>
        obtain ⟨m, b, e1, e2⟩ := h7
        exact ⟨m, b, (htk k (hl.2 k rfl)).trans e1, e2⟩)
  | _, _, .ptr id off b h, hl => .ptr id off b ((hbx id hl).trans h)
  | _, _, .rptr cs off ad us h h1 h2, hl => .rptr cs off ad us (Reps.cut hI hbx htk h hl) h1 (fun j u hu => ⟨(h2 j u hu).1, hI _ (h2 j u hu).2⟩)
  | _, _, .fn f first cap us vs h h1, hl => .fn f first cap us vs (Reps.cut hI hbx htk h hl.1) (Reps.cut hI hbx htk h1 hl.2)
  | _, _, .mp id b h, hl => .mp id b ((hbx id hl).trans h)
  | _, _, .it id b h, hl => .it id b ((hbx id hl).trans h)
theorem Reps.cut {n : Nat} {E E' : Env} {w : World} (hI : ∀ a, E.I a → E'.I a) (hbx : ∀ k, k < n → E'.bx k = E.bx k) (htk : ∀ k, k < n → E'.tk k = E.tk k) : ∀ {as : List AV} {vs : List Value}, Reps E w as vs → lows n as → Reps E' w as vs
  | _, _, .nil, _ => .nil
  | _, _, .cons a v as vs h h1, hl => .cons a v as vs (Rep.cut hI hbx htk h hl.1) (Reps.cut hI hbx htk h1 hl.2)
end

section
variable {P : Program} {G : Nat → Option (List AV)} {lo : Nat} {E : Env} {w : World}

theorem cut_at {n k b : Nat} (h : (E.cut n).at k = some b) : k < n ∧ E.at k = some b := by
  unfold Env.at Env.cut at h
  by_cases hk : k < n
  · simp only [hk, if_true] at h
    exact ⟨hk, h⟩
  · simp [hk] at h

/-- Boxes that nothing mentions any more are forgotten. -/
theorem SimH.cut (hG : ∀ g cs, G g = some cs → lows 0 cs) {H : List AObj} (h : SimH G lo E H w) (n : Nat) (hl : ∀ o ∈ H.take n, o.low n) : SimH G lo (E.cut n) (H.take n) w := by
  have hI : ∀ a, E.I a → (E.cut n).I a := fun _ h => h
  have hbx : ∀ k, k < n → (E.cut n).bx k = E.bx k := fun k hk => if_pos hk
  have htk : ∀ k, k < n → (E.cut n).tk k = E.tk k := fun k hk => if_pos hk
  refine ⟨h.lo_le, h.inI, ?_, ?_, ?_, ?_⟩
  · intro id o ho
    have hid : id < n := by
      rcases Nat.lt_or_ge id n with h1 | h1
      · exact h1
      · rw [List.getElem?_eq_none (by rw [List.length_take]; omega)] at ho; cases ho
    have hol := hl o (List.mem_of_getElem? ho)
    rw [List.getElem?_take_of_lt hid] at ho
    have h1 := h.objs id o ho
    cases o with
    | hole => exact ⟨(hbx id hid).trans h1.1, (htk id hid).trans h1.2⟩
    | box cs => obtain ⟨b, ty, us, e1, e2, e3, e4, e5, e6⟩ := h1; exact ⟨b, ty, us, (hbx id hid).trans e1, (htk id hid).trans e2, e3, e4, Reps.cut hI hbx htk e5 hol, e6⟩
    | fbox cs => obtain ⟨b, ty, us, e1, e2, e3, e4, e5, e6⟩ := h1; exact ⟨b, ty, us, (hbx id hid).trans e1, (htk id hid).trans e2, e3, e4, Reps.cut hI hbx htk e5 hol, e6⟩
    | tok e size m => obtain ⟨B, e1, e2, e3⟩ := h1; exact ⟨B, (hbx id hid).trans e1, (htk id hid).trans e2, e3⟩
    | obj o => obtain ⟨b, e1, e2, e3⟩ := h1; exact ⟨b, (hbx id hid).trans e1, (htk id hid).trans e2, e3⟩
  · intro id hid
    rw [List.length_take] at hid
    by_cases hn : id < n
    · have h1 := h.dom id (by omega)
      exact ⟨(hbx id hn).trans h1.1, (htk id hn).trans h1.2⟩
    · exact ⟨if_neg hn, if_neg hn⟩
  · intro i j b hi hj
    exact h.inj i j b (cut_at hi).2 (cut_at hj).2
  · intro g cs hg
    obtain ⟨us, h1, h2⟩ := h.glob g cs hg
    exact ⟨us, Reps.cut (n := 0) hI (fun k hk => absurd hk (Nat.not_lt_zero k)) (fun k hk => absurd hk (Nat.not_lt_zero k)) h1 (hG g cs hg), h2⟩

theorem Evo.cut {E0 : Env} {w0 : World} {n n0 : Nat} (h : Evo lo E0 w0 E w) (hn : n0 ≤ n) (h0 : ∀ k, n0 ≤ k → E0.bx k = none ∧ E0.tk k = none) : Evo lo E0 w0 (E.cut n) w :=
  ⟨h.below, h.I, fun id b hb => by
    have hid : id < n := by
      rcases Nat.lt_or_ge id n0 with h1 | h1
      · omega
      · rw [(h0 id h1).1] at hb; cases hb
    show (if id < n then E.bx id else none) = some b
    rw [if_pos hid]; exact h.bx id b hb, fun id m b hb => by
    have hid : id < n := by
      rcases Nat.lt_or_ge id n0 with h1 | h1
      · omega
      · rw [(h0 id h1).2] at hb; cases hb
    obtain ⟨n', b', h1, h2⟩ := h.tk id m b hb
    refine ⟨n', b', ?_, h2⟩
    show (if id < n then E.tk id else none) = some (n', b')
    rw [if_pos hid]; exact h1, h.newI⟩

/-- Temporaries that are given up, or kept. -/
def WeakL (n : Nat) : List AV → List AV → Prop
  | [], [] => True
  | a :: as, b :: bs => (b = .junk ∨ (b = a ∧ a.low n)) ∧ WeakL n as bs
  | _, _ => False

/-- What is given up: temporaries; boxes from n on (n0: those that were there when the call began stay). -/
def Weak (n0 : Nat) (s s' : ASt) : Prop := ∃ n, n0 ≤ n ∧ s'.H = s.H.take n ∧ (∀ o ∈ s'.H, o.low n) ∧ WeakL n s.tmps s'.tmps

theorem WeakL.reps {n : Nat} {E E' : Env} {w : World} (hI : ∀ a, E.I a → E'.I a) (hbx : ∀ k, k < n → E'.bx k = E.bx k) (htk : ∀ k, k < n → E'.tk k = E.tk k) : ∀ {as bs : List AV} {vs : List Value}, Reps E w as vs → WeakL n as bs → Reps E' w bs vs
  | [], [], _, .nil, _ => .nil
  | [], _ :: _, _, .nil, h => h.elim
  | _ :: _, [], _, .cons a v as vs h1 h2, h => h.elim
  | _ :: _, b :: bs, _, .cons a v as vs h1 h2, h => by
    obtain ⟨hb, h⟩ := h
    refine .cons b v bs vs ?_ (WeakL.reps hI hbx htk h2 h)
    rcases hb with rfl | ⟨rfl, hl⟩
    · exact .junk v
    · exact h1.cut hI hbx htk hl

theorem Weak.sim (hG : ∀ g cs, G g = some cs → lows 0 cs) {n0 : Nat} {s s' : ASt} (h : Weak n0 s s') {a : Act} (hs : Sim G lo E s a w) {E0 : Env} {w0 : World} (hE : Evo lo E0 w0 E w) (h0 : ∀ k, n0 ≤ k → E0.bx k = none ∧ E0.tk k = none) :
    ∃ E', Sim G lo E' s' a w ∧ Evo lo E0 w0 E' w := by
  obtain ⟨n, h1, h2, h3, h4⟩ := h
  refine ⟨E.cut n, ⟨?_, WeakL.reps (E := E) (E' := E.cut n) (n := n) (fun _ h => h) (fun k hk => if_pos hk) (fun k hk => if_pos hk) hs.tmps h4, hs.defers⟩, hE.cut h1 h0⟩
  rw [h2] at h3 ⊢
  exact hs.heap.cut hG n h3

/-- The abstract weakest precondition. -/
def awp (P : Program) (G : Nat → Option (List AV)) (n0 : Nat) : ACode → (Exit → ASt → Prop) → ASt → Prop
  | .skip, Q, s => Q .normal s
  | .reg draw nA ops, Q, s => aops P G draw s.H.length ops (Q .normal) ⟨s.tmps, s.H ++ List.replicate nA AObj.hole⟩
  | .seq a b, Q, s => awp P G n0 a (fun e s' => match e with | .normal => awp P G n0 b Q s' | e => Q e s') s
  | .cond c a b, Q, s => onBool (aeval G s.tmps c) fun t => (t = true → awp P G n0 a Q s) ∧ (t = false → awp P G n0 b Q s)
  | .block id c, Q, s => awp P G n0 c (fun e s' => match e with | .exit id' => if id' = id then Q .normal s' else Q (.exit id') s' | e => Q e s') s
  | .loop c, Q, s => ∃ Inv : Nat → ASt → Prop, (∃ n s1, Weak n0 s s1 ∧ Inv n s1) ∧
      ∀ n s, Inv n s → awp P G n0 c (fun e s' => match e with | .normal => ∃ n' s'', n' < n ∧ Weak n0 s' s'' ∧ Inv n' s'' | e => Q e s') s
  | .exit id, Q, s => Q (.exit id) s
  | .goto l, Q, s => Q (.goto l) s
  | .scope c, Q, s => awp P G n0 c (fun e s' => match e with | .goto _ => False | e => Q e s') s
  | .stuck, _, _ => False
  | .ret, Q, s => Q .ret s

theorem SimH.pad {H : List AObj} (h : SimH G lo E H w) (n : Nat) : SimH G lo E (H ++ List.replicate n .hole) w := by
  refine ⟨h.lo_le, h.inI, ?_, ?_, h.inj, h.glob⟩
  · intro id o ho
    rcases Nat.lt_or_ge id H.length with hl | hl
    · rw [List.getElem?_append_left hl] at ho
      exact h.objs id o ho
    · rw [List.getElem?_append_right hl, List.getElem?_replicate] at ho
      split at ho
      · cases ho; exact h.dom id hl
      · cases ho
  · intro id hid
    rw [List.length_append] at hid
    exact h.dom id (by omega)

/-- What the machine's exit is to come to. -/
def lift (G : Nat → Option (List AV)) (lo : Nat) (E0 : Env) (w0 : World) (Q : Exit → ASt → Prop) (e : Exit) (a : Act) (w : World) : Prop :=
  match e with
  | .normal | .exit _ | .ret | .goto _ => ∃ s E, Q e s ∧ Sim G lo E s a w ∧ Evo lo E0 w0 E w
  | _ => False

theorem awp_sound {own : List Nat} (hm : P.follows .mixedOrders = true) (hG : ∀ g cs, G g = some cs → lows 0 cs) {n0 : Nat} {E0 : Env} {w0 : World} (h0 : ∀ k, n0 ≤ k → E0.bx k = none ∧ E0.tk k = none) :
    ∀ (c : Code) (ac : ACode), comp P own c = some ac → ∀ (Q : Exit → ASt → Prop) (s : ASt) (E : Env) (a : Act) (w : World), awp P G n0 ac Q s → Sim G lo E s a w → Evo lo E0 w0 E w →
      c.wp P (lift G lo E0 w0 Q) a w := by
  intro c
  induction c with
  | skip =>
    intro ac hc Q s E a w h hs hE
    simp only [comp, Option.some.injEq] at hc
    subst hc
    exact wp_skip ⟨s, E, h, hs, hE⟩
  | region id ops draw =>
    intro ac hc Q s E a w h hs hE
    simp only [comp, Option.bind_eq_some_iff] at hc
    obtain ⟨as, has, hc⟩ := hc
    split at hc
    · rename_i hok
      simp only [Option.some.injEq] at hc
      subst hc
      obtain ⟨hlen, hfit⟩ := pins_fit (draw := draw) has
      obtain ⟨s', hp, hQ⟩ := path_of_aops P G draw s.H.length (pins draw ops as) (pins draw ops as) 0 ⟨s.tmps, s.H ++ List.replicate (countM as) AObj.hole⟩ (Q .normal) (fun j => by simp) h
      rw [hlen, ← List.range_eq_range'] at hp
      have hs' : Sim G lo E ⟨s.tmps, s.H ++ List.replicate (countM as) AObj.hole⟩ a w := ⟨hs.heap.pad _, hs.tmps, hs.defers⟩
      cases draw with
      | false => exact region_text hfit hp hs' fun a' w' E' h1 h2 => ⟨s', E', hQ, h1, hE.trans h2⟩
      | true => exact region_draw hm hfit (by simpa using hok) hp hs' fun a' w' E' h1 h2 => ⟨s', E', hQ, h1, hE.trans h2⟩
    · cases hc
  | seq x y ihx ihy =>
    intro ac hc Q s E a w h hs hE
    simp only [comp, Option.bind_eq_some_iff, Option.map_eq_some_iff] at hc
    obtain ⟨ax, hx, ay, hy, rfl⟩ := hc
    refine wp_seq (wp_mono (ihx ax hx _ s E a w h hs hE) fun e a' w' hq => ?_)
    cases e with
    | normal =>
      obtain ⟨s', E', h1, h2, h3⟩ := hq
      exact ihy ay hy Q s' E' a' w' h1 h2 h3
    | exit id => exact hq
    | ret => exact hq
    | goto l => exact hq
    | panic c => exact hq
    | outgrown => exact hq
  | cond c x y ihx ihy =>
    intro ac hc Q s E a w h hs hE
    simp only [comp, Option.bind_eq_some_iff, Option.map_eq_some_iff] at hc
    obtain ⟨o, ho, ax, hx, ay, hy, rfl⟩ := hc
    obtain ⟨t, ht, h1, h2⟩ := onBool_inv h
    have hr := opd_rep hs ho
    rw [ht] at hr
    have hv := hr.imm_inv
    cases t with
    | true => exact wp_cond_true hv (ihx ax hx Q s E a w (h1 rfl) hs hE)
    | false => exact wp_cond_false hv (ihy ay hy Q s E a w (h2 rfl) hs hE)
  | block id c ih =>
    intro ac hc Q s E a w h hs hE
    simp only [comp, Option.map_eq_some_iff] at hc
    obtain ⟨ac, hc, rfl⟩ := hc
    refine wp_block (wp_mono (ih ac hc _ s E a w h hs hE) fun e a' w' hq => ?_)
    cases e with
    | normal => exact hq
    | exit id' =>
      obtain ⟨s', E', h1, h2, h3⟩ := hq
      simp only [Exit.inBlock]
      by_cases hi : id' = id
      · simp only [hi, if_true] at h1 ⊢; exact ⟨s', E', h1, h2, h3⟩
      · simp only [hi, if_false] at h1 ⊢; exact ⟨s', E', h1, h2, h3⟩
    | ret => exact hq
    | goto l => exact hq
    | panic c => exact hq
    | outgrown => exact hq
  | loop c ih =>
    intro ac hc Q s E a w h hs hE
    simp only [comp, Option.map_eq_some_iff] at hc
    obtain ⟨ac, hc, rfl⟩ := hc
    obtain ⟨Inv, ⟨n, s1, hw, hi⟩, hround⟩ := h
    obtain ⟨E1, hs1, hE1⟩ := hw.sim hG hs hE h0
    let I : Act → World → Prop := fun a w => ∃ n s E, Inv n s ∧ Sim G lo E s a w ∧ Evo lo E0 w0 E w
    let good : Act → World → Nat → Prop := fun a w n => ∃ s E, Inv n s ∧ Sim G lo E s a w ∧ Evo lo E0 w0 E w
    have hex : ∀ a w, I a w → ∃ n, good a w n ∧ ∀ m, good a w m → n ≤ m := by
      rintro a w ⟨n, hn⟩
      have := Nat.strongRecOn (motive := fun n => good a w n → ∃ n, good a w n ∧ ∀ m, good a w m → n ≤ m) n (fun n ih hn => by
        by_cases hlt : ∃ m, m < n ∧ good a w m
        · obtain ⟨m, h1, h2⟩ := hlt
          exact ih m h1 h2
        · exact ⟨n, hn, fun m hm => by
            rcases Nat.lt_or_ge m n with h | h
            · exact absurd ⟨m, h, hm⟩ hlt
            · exact h⟩)
      exact this hn
    classical
    let μ : Act → World → Nat := fun a w => if h : I a w then Classical.choose (hex a w h) else 0
    have hμ : ∀ a w (h : I a w), good a w (μ a w) ∧ ∀ m, good a w m → μ a w ≤ m := by
      intro a w h
      have e : μ a w = Classical.choose (hex a w h) := dif_pos h
      rw [e]
      exact Classical.choose_spec (hex a w h)
    refine wp_loop I μ ⟨n, s1, E1, hi, hs1, hE1⟩ fun a w hI => ?_
    obtain ⟨⟨s2, E2, k1, k2, k3⟩, _⟩ := hμ a w hI
    refine wp_mono (ih ac hc _ s2 E2 a w (hround _ s2 k1) k2 k3) fun e a' w' hq => ?_
    cases e with
    | normal =>
      obtain ⟨s', E', ⟨n', s'', h1, h2, h3⟩, h4, h5⟩ := hq
      obtain ⟨E'', h6, h7⟩ := h2.sim hG h4 h5 h0
      have hI' : I a' w' := ⟨n', s'', E'', h3, h6, h7⟩
      exact ⟨hI', Nat.lt_of_le_of_lt ((hμ a' w' hI').2 n' ⟨s'', E'', h3, h6, h7⟩) h1⟩
    | exit id => exact hq
    | ret => exact hq
    | goto l => exact hq
    | panic c => exact hq
    | outgrown => exact hq
  | exit id =>
    intro ac hc Q s E a w h hs hE
    simp only [comp, Option.some.injEq] at hc
    subst hc
    exact wp_exit ⟨s, E, h, hs, hE⟩
  | ret =>
    intro ac hc Q s E a w h hs hE
    simp only [comp, Option.some.injEq] at hc
    subst hc
    exact wp_ret ⟨s, E, h, hs, hE⟩
  | rangeFunc => intro ac hc Q s E a w h; simp only [comp, Option.some.injEq] at hc; subst hc; exact h.elim
  | scope c ih =>
    intro ac hc Q s E a w h hs hE
    simp only [comp, Option.map_eq_some_iff] at hc
    obtain ⟨ac, hc, rfl⟩ := hc
    refine wp_scope_straight (wp_mono (ih ac hc _ s E a w h hs hE) fun e a' w' hq => ?_)
    cases e with
    | normal => exact hq
    | exit id' => exact hq
    | ret => exact hq
    | goto l => obtain ⟨_, _, h, _⟩ := hq; exact h.elim
    | panic c => exact hq
    | outgrown => exact hq
  | label =>
    intro ac hc Q s E a w h hs hE
    simp only [comp, Option.some.injEq] at hc
    subst hc
    exact wp_label ⟨s, E, h, hs, hE⟩
  | goto =>
    intro ac hc Q s E a w h hs hE
    simp only [comp, Option.some.injEq] at hc
    subst hc
    exact wp_goto ⟨s, E, h, hs, hE⟩
  | refuse => intro ac hc Q s E a w h; simp only [comp, Option.some.injEq] at hc; subst hc; exact h.elim

end
end Go.AL
