/- Code, and functions. -/
import Derived.Test.YtofokmpdioblkaaGreatDoorG8
set_option linter.unusedSimpArgs false
set_option linter.unusedVariables false
namespace Go.AL
open Go Go.RowKit

/- Values, and boxes, that mention no box from n on. -/
mutual
def AV.low (n : Nat) : AV → Prop
  | .imm _ => True
  | .junk => True
  | .agg cs => lows n cs
  | .tup cs => lows n cs
  | .sl _ xs tok => lows n xs ∧ (∀ k, tok = some k → k < n)
  | .ptr id _ => id < n
  | .rptr cs _ => lows n cs
  | .fn _ a b => lows n a ∧ lows n b
  | .mp id => id < n
  | .it id => id < n
  | .rs id _ _ _ _ => id < n
  | .rp id _ _ _ => id < n
def lows (n : Nat) : List AV → Prop
  | [] => True
  | a :: as => a.low n ∧ lows n as
end

theorem lows_iff (n : Nat) : ∀ (as : List AV), lows n as ↔ ∀ a ∈ as, a.low n
  | [] => by simp [lows]
  | a :: as => by simp [lows, lows_iff n as]

def AObj.low (n : Nat) : AObj → Prop
  | .box cs => lows n cs
  | .fbox cs => lows n cs
  | .row _ _ _ xs => lows n xs
  | .map _ _ es => ∀ p ∈ es, ∀ a, p.2 = some a → a.low n
  | _ => True

def Env.cut (E : Env) (n : Nat) : Env := { E with bx := fun k => if k < n then E.bx k else none, tk := fun k => if k < n then E.tk k else none }

theorem lows_cells {n : Nat} {a : AV} (h : a.low n) : lows n a.cells := by
  cases a <;> simp_all [AV.cells, AV.low, lows]

theorem lows_flat {n : Nat} : ∀ {xs : List AV}, lows n xs → lows n (xs.flatMap AV.cells)
  | [], _ => trivial
  | x :: xs, h => by
    rw [List.flatMap_cons, lows_iff]
    intro a ha
    rcases List.mem_append.1 ha with h1 | h1
    · exact (lows_iff n _).1 (lows_cells h.1) a h1
    · exact (lows_iff n _).1 (lows_flat h.2) a h1

/- A value that mentions no box from n on reads the same where there are none. -/
mutual
theorem Rep.cut {n : Nat} {E E' : Env} {w : World} (hI : ∀ a, E.I a → E'.I a) (hbx : ∀ k, k < n → E'.bx k = E.bx k) (htk : ∀ k, k < n → E'.tk k = E.tk k) : ∀ {a : AV} {v : Value}, Rep E w a v → a.low n → Rep E' w a v
  | _, _, .imm v h, _ => .imm v h
  | _, _, .junk v, _ => .junk v
  | _, _, .agg cs us h h1, hl => .agg cs us (Reps.cut hI hbx htk h hl) h1
  | _, _, .tup cs us h, hl => .tup cs us (Reps.cut hI hbx htk h hl)
  | _, _, .sl size xs tok A cap us h1 h2 h3 h4 h5 h6 h7, hl =>
    .sl size xs tok A cap us h1 h2 h3 (Reps.cut hI hbx htk h4 (lows_flat hl.1)) h5 (fun j u hu => by
      obtain ⟨ad, e1, e2, e3⟩ := h6 j u hu
      exact ⟨ad, e1, e2, hI _ e3⟩) (by
      cases tok with
      | none => trivial
      | some k =>
        obtain ⟨m, b, e1, e2⟩ := h7
        exact ⟨m, b, (htk k (hl.2 k rfl)).trans e1, e2⟩)
  | _, _, .ptr id off b h, hl => .ptr id off b ((hbx id hl).trans h)
  | _, _, .rptr cs off ad us h h1 h2, hl => .rptr cs off ad us (Reps.cut hI hbx htk h hl) h1 (fun j u hu => ⟨(h2 j u hu).1, hI _ (h2 j u hu).2⟩)
  | _, _, .fn f first cap us vs h h1, hl => .fn f first cap us vs (Reps.cut hI hbx htk h hl.1) (Reps.cut hI hbx htk h1 hl.2)
  | _, _, .mp id b h, hl => .mp id b ((hbx id hl).trans h)
  | _, _, .it id b h, hl => .it id b ((hbx id hl).trans h)
  | _, _, .rs id ver size lo m A cap h1 h2 h0 h3, hl => .rs id ver size lo m A cap h1 h2 h0 (by
      obtain ⟨m, b, e1, e2⟩ := h3
      exact ⟨m, b, (htk id hl).trans e1, e2⟩)
  | _, _, .rp id ver size i A h, hl => .rp id ver size i A (by
      obtain ⟨m, b, e1, e2⟩ := h
      exact ⟨m, b, (htk id hl).trans e1, e2⟩)
theorem Reps.cut {n : Nat} {E E' : Env} {w : World} (hI : ∀ a, E.I a → E'.I a) (hbx : ∀ k, k < n → E'.bx k = E.bx k) (htk : ∀ k, k < n → E'.tk k = E.tk k) : ∀ {as : List AV} {vs : List Value}, Reps E w as vs → lows n as → Reps E' w as vs
  | _, _, .nil, _ => .nil
  | _, _, .cons a v as vs h h1, hl => .cons a v as vs (Rep.cut hI hbx htk h hl.1) (Reps.cut hI hbx htk h1 hl.2)
end

section
variable {P : Program} {G : Nat → Option (List AV)} {lo : Nat} {E : Env} {w : World}

theorem cut_at {n k b : Nat} (h : (E.cut n).at k = some b) : k < n ∧ E.at k = some b := by
  unfold Env.at Env.cut at h
  by_cases hk : k < n
  · simp only [hk, if_true] at h
    exact ⟨hk, h⟩
  · simp [hk] at h

/-- Boxes that nothing mentions any more are forgotten. -/
theorem SimH.cut (hG : ∀ g cs, G g = some cs → lows 0 cs) {H : List AObj} (h : SimH G lo E H w) (n : Nat) (hl : ∀ o ∈ H.take n, o.low n) : SimH G lo (E.cut n) (H.take n) w := by
  have hI : ∀ a, E.I a → (E.cut n).I a := fun _ h => h
  have hbx : ∀ k, k < n → (E.cut n).bx k = E.bx k := fun k hk => if_pos hk
  have htk : ∀ k, k < n → (E.cut n).tk k = E.tk k := fun k hk => if_pos hk
  refine ⟨h.lo_le, h.inI, ?_, ?_, ?_, ?_⟩
  · intro id o ho
    have hid : id < n := by
      rcases Nat.lt_or_ge id n with h1 | h1
      · exact h1
      · rw [List.getElem?_eq_none (by rw [List.length_take]; omega)] at ho; cases ho
    have hol := hl o (List.mem_of_getElem? ho)
    rw [List.getElem?_take_of_lt hid] at ho
    have h1 := h.objs id o ho
    cases o with
    | hole => exact ⟨(hbx id hid).trans h1.1, (htk id hid).trans h1.2⟩
    | box cs => obtain ⟨b, ty, us, e1, e2, e3, e4, e5, e6⟩ := h1; exact ⟨b, ty, us, (hbx id hid).trans e1, (htk id hid).trans e2, e3, e4, Reps.cut hI hbx htk e5 hol, e6⟩
    | fbox cs => obtain ⟨b, ty, us, e1, e2, e3, e4, e5, e6⟩ := h1; exact ⟨b, ty, us, (hbx id hid).trans e1, (htk id hid).trans e2, e3, e4, Reps.cut hI hbx htk e5 hol, e6⟩
    | tok e size m => obtain ⟨B, e1, e2, e3⟩ := h1; exact ⟨B, (hbx id hid).trans e1, (htk id hid).trans e2, e3⟩
    | row e size ver xs =>
      obtain ⟨B, e1, e2, e3⟩ := h1
      refine ⟨B, (hbx id hid).trans e1, (htk id hid).trans e2, ?_⟩
      cases B with
      | none => exact e3
      | some p =>
        obtain ⟨h4, cur, us, h5, h6, h7, h8, h9, h10⟩ := e3
        exact ⟨h4, cur, us, h5, h6, h7, h8, Reps.cut hI hbx htk h9 (lows_flat hol), h10⟩
    | map ks zv es =>
      obtain ⟨b, ents, e1, e2, e3, e4, e5, e6⟩ := h1
      refine ⟨b, ents, (hbx id hid).trans e1, (htk id hid).trans e2, e3, e4, ⟨e5.1, e5.2.1, fun i p e hp he => ?_⟩, e6⟩
      obtain ⟨g1, g2, g3, g4⟩ := e5.2.2 i p e hp he
      refine ⟨g1, g2, g3, ?_⟩
      split at g4
      · rename_i a ha
        exact ⟨Rep.cut hI hbx htk g4.1 (hol p (List.mem_of_getElem? hp) a ha), g4.2⟩
      · exact g4
    | dead => obtain ⟨m, B, e1, e2, e3⟩ := h1; exact ⟨m, B, (hbx id hid).trans e1, (htk id hid).trans e2, e3⟩
    | obj o => obtain ⟨b, e1, e2, e3⟩ := h1; exact ⟨b, (hbx id hid).trans e1, (htk id hid).trans e2, e3⟩
  · intro id hid
    rw [List.length_take] at hid
    by_cases hn : id < n
    · have h1 := h.dom id (by omega)
      exact ⟨(hbx id hn).trans h1.1, (htk id hn).trans h1.2⟩
    · exact ⟨if_neg hn, if_neg hn⟩
  · intro i j b hi hj
    exact h.inj i j b (cut_at hi).2 (cut_at hj).2
  · intro g cs hg
    obtain ⟨us, h1, h2⟩ := h.glob g cs hg
    exact ⟨us, Reps.cut (n := 0) hI (fun k hk => absurd hk (Nat.not_lt_zero k)) (fun k hk => absurd hk (Nat.not_lt_zero k)) h1 (hG g cs hg), h2⟩

theorem Evo.cut {E0 : Env} {w0 : World} {n n0 : Nat} (h : Evo lo E0 w0 E w) (hn : n0 ≤ n) (h0 : ∀ k, n0 ≤ k → E0.bx k = none ∧ E0.tk k = none) : Evo lo E0 w0 (E.cut n) w :=
  ⟨h.below, h.I, fun id b hb => by
    have hid : id < n := by
      rcases Nat.lt_or_ge id n0 with h1 | h1
      · omega
      · rw [(h0 id h1).1] at hb; cases hb
    show (if id < n then E.bx id else none) = some b
    rw [if_pos hid]; exact h.bx id b hb, fun id m b hb => by
    have hid : id < n := by
      rcases Nat.lt_or_ge id n0 with h1 | h1
      · omega
      · rw [(h0 id h1).2] at hb; cases hb
    obtain ⟨n', b', h1, h2⟩ := h.tk id m b hb
    refine ⟨n', b', ?_, h2⟩
    show (if id < n then E.tk id else none) = some (n', b')
    rw [if_pos hid]; exact h1, h.newI⟩

/-- Temporaries that are given up, or kept. -/
def WeakL (n : Nat) : List AV → List AV → Prop
  | [], [] => True
  | a :: as, b :: bs => (b = .junk ∨ (b = a ∧ a.low n) ∨ (b = a.strip ∧ b.low n)) ∧ WeakL n as bs
  | _, _ => False

/-- Empty slices are alike, whatever their elements. -/
def NilEq (a b : AV) : Prop := b = a ∨ ∃ m m', a = .sl m [] none ∧ b = .sl m' [] none
def NilEqs : List AV → List AV → Prop
  | [], [] => True
  | a :: as, b :: bs => NilEq a b ∧ NilEqs as bs
  | _, _ => False
def BoxEq (o o' : AObj) : Prop := o' = o ∨ ∃ cs cs', o = .box cs ∧ o' = .box cs' ∧ NilEqs cs cs'
def HeapEq : List AObj → List AObj → Prop
  | [], [] => True
  | a :: as, b :: bs => BoxEq a b ∧ HeapEq as bs
  | _, _ => False
theorem HeapEq.refl : ∀ H : List AObj, HeapEq H H
  | [] => trivial
  | _ :: H => ⟨.inl rfl, HeapEq.refl H⟩
theorem NilEq.rep {E : Env} {w : World} {a b : AV} {v : Value} (h : NilEq a b) (hr : Rep E w a v) : Rep E w b v := by
  rcases h with rfl | ⟨m, m', rfl, rfl⟩
  · exact hr
  · cases hr with
    | sl _ _ _ A cap us h1 h2 h3 h4 h5 h6 h7 => exact .sl m' [] none A cap us h1 h2 (fun x hx => by cases hx) h4 h5 h6 h7
theorem NilEqs.reps {E : Env} {w : World} : ∀ {as bs : List AV} {vs : List Value}, NilEqs as bs → Reps E w as vs → Reps E w bs vs
  | [], [], _, _, h => h
  | [], _ :: _, _, h, _ => h.elim
  | _ :: _, [], _, h, _ => h.elim
  | _ :: _, b :: bs, _, h, hr => by
    cases hr with
    | cons a v as vs h1 h2 => exact .cons _ _ _ _ (h.1.rep h1) (NilEqs.reps h.2 h2)
theorem NilEq.low {n : Nat} {a b : AV} (h : NilEq a b) (hl : b.low n) : a.low n := by
  rcases h with rfl | ⟨m, m', rfl, rfl⟩
  · exact hl
  · exact ⟨trivial, fun k hk => by cases hk⟩
theorem NilEqs.lows {n : Nat} : ∀ {as bs : List AV}, NilEqs as bs → AL.lows n bs → AL.lows n as
  | [], [], _, h => h
  | [], _ :: _, h, _ => h.elim
  | _ :: _, [], h, _ => h.elim
  | _ :: _, _ :: _, h, h1 => ⟨h.1.low h1.1, NilEqs.lows h.2 h1.2⟩
theorem BoxEq.low {n : Nat} {o o' : AObj} (h : BoxEq o o') (hl : o'.low n) : o.low n := by
  rcases h with rfl | ⟨cs, cs', rfl, rfl, h⟩
  · exact hl
  · exact h.lows hl
theorem HeapEq.low {n : Nat} : ∀ {H H' : List AObj}, HeapEq H H' → (∀ o ∈ H', o.low n) → ∀ o ∈ H, o.low n
  | [], [], _, _ => fun o ho => by cases ho
  | [], _ :: _, h, _ => h.elim
  | _ :: _, [], h, _ => h.elim
  | a :: as, b :: bs, h, hl => fun o ho => by
    rcases List.mem_cons.1 ho with rfl | ho
    · exact h.1.low (hl b List.mem_cons_self)
    · exact HeapEq.low h.2 (fun o ho => hl o (List.mem_cons_of_mem _ ho)) o ho
theorem HeapEq.len : ∀ {H H' : List AObj}, HeapEq H H' → H'.length = H.length
  | [], [], _ => rfl
  | [], _ :: _, h => h.elim
  | _ :: _, [], h => h.elim
  | _ :: _, _ :: _, h => by simp [HeapEq.len h.2]
theorem HeapEq.get : ∀ {H H' : List AObj} {id : Nat} {o' : AObj}, HeapEq H H' → H'[id]? = some o' → ∃ o, H[id]? = some o ∧ BoxEq o o'
  | [], [], _, _, _, h => by simp at h
  | [], _ :: _, _, _, h, _ => h.elim
  | _ :: _, [], _, _, h, _ => h.elim
  | a :: as, b :: bs, 0, o', h, ho => by
    simp only [List.getElem?_cons_zero, Option.some.injEq] at ho
    subst ho; exact ⟨a, rfl, h.1⟩
  | a :: as, b :: bs, id + 1, o', h, ho => by
    simp only [List.getElem?_cons_succ] at ho ⊢
    exact HeapEq.get h.2 ho
theorem SimH.heapEq {H H' : List AObj} (h : SimH G lo E H w) (hh : HeapEq H H') : SimH G lo E H' w := by
  refine ⟨h.lo_le, h.inI, fun id o' ho' => ?_, fun id hid => h.dom id (by rw [← hh.len]; exact hid), h.inj, h.glob⟩
  obtain ⟨o, ho, he⟩ := hh.get ho'
  have h1 := h.objs id o ho
  rcases he with rfl | ⟨cs, cs', rfl, rfl, he⟩
  · exact h1
  · obtain ⟨b, ty, us, e1, e2, e3, e4, e5, e6⟩ := h1
    exact ⟨b, ty, us, e1, e2, e3, e4, he.reps e5, e6⟩

/-- What is given up: temporaries; boxes from n on (n0: those that were there when the call began stay); what elements an empty slice in a box has none of. -/
def Weak0 (n0 : Nat) (s s' : ASt) : Prop := ∃ n, n0 ≤ n ∧ HeapEq (s.H.take n) s'.H ∧ (∀ o ∈ s'.H, o.low n) ∧ WeakL n s.tmps s'.tmps

theorem WeakL.reps {n : Nat} {E E' : Env} {w : World} (hI : ∀ a, E.I a → E'.I a) (hbx : ∀ k, k < n → E'.bx k = E.bx k) (htk : ∀ k, k < n → E'.tk k = E.tk k) : ∀ {as bs : List AV} {vs : List Value}, Reps E w as vs → WeakL n as bs → Reps E' w bs vs
  | [], [], _, .nil, _ => .nil
  | [], _ :: _, _, .nil, h => h.elim
  | _ :: _, [], _, .cons a v as vs h1 h2, h => h.elim
  | _ :: _, b :: bs, _, .cons a v as vs h1 h2, h => by
    obtain ⟨hb, h⟩ := h
    refine .cons b v bs vs ?_ (WeakL.reps hI hbx htk h2 h)
    rcases hb with rfl | ⟨rfl, hl⟩ | ⟨rfl, hl⟩
    · exact .junk v
    · exact h1.cut hI hbx htk hl
    · exact h1.strip.cut hI hbx htk hl

theorem Weak0.sim (hG : ∀ g cs, G g = some cs → lows 0 cs) {n0 : Nat} {s s' : ASt} (h : Weak0 n0 s s') {a : Act} (hs : Sim G lo E s a w) {E0 : Env} {w0 : World} (hE : Evo lo E0 w0 E w) (h0 : ∀ k, n0 ≤ k → E0.bx k = none ∧ E0.tk k = none) :
    ∃ E', Sim G lo E' s' a w ∧ Evo lo E0 w0 E' w := by
  obtain ⟨n, h1, h2, h3, h4⟩ := h
  refine ⟨E.cut n, ⟨?_, WeakL.reps (E := E) (E' := E.cut n) (n := n) (fun _ h => h) (fun k hk => if_pos hk) (fun k hk => if_pos hk) hs.tmps h4, hs.defers⟩, hE.cut h1 h0⟩
  exact (hs.heap.cut hG n (h2.low h3)).heapEq h2

/-- A row that nobody writes any more: what it holds is for good. -/
theorem SimH.freeze {H : List AObj} (h2 : SimH G lo E H w) {id : Nat} {e : TypeId} {sz ver : Nat} {xs : List AV} (hH : H[id]? = some (.row e sz ver xs)) (hsz : 0 < sz) :
    ∃ E', SimH G lo E' (H.set id .dead) w ∧ Evo lo E w E' w ∧ ∀ (lo0 n : Nat) (v : Value), lo0 + n ≤ xs.length → Rep E w (.rs id ver sz lo0 n) v → Rep E' w (.sl sz ((xs.drop lo0).take n) none) v := by
  obtain ⟨B, e1, e2, e3⟩ := h2.objs id _ hH
  have hid : id < H.length := (List.getElem?_eq_some_iff.1 hH).1
  cases B with
  | none =>
    obtain ⟨q1, q2⟩ := h2.turn (E' := E) (w' := w) (o' := .dead) (Below.refl _ _) hid (fun _ _ _ => rfl) (fun _ _ => rfl) (fun _ => rfl) (fun _ _ => rfl) (fun n b h => ⟨n, b, h, Nat.le_refl _, fun _ => rfl⟩) (fun _ h => h) (fun a ha => ⟨.inl ha, h2.inI a ha⟩) (fun b h => .inl h) (fun hE => ⟨_, none, e1, e2, fun g c h => by cases h⟩)
    refine ⟨E, q1, q2, fun lo0 n v hn h1 => ?_⟩
    cases h1 with
    | rs _ _ _ _ _ A cap g1 g2 g0 g3 =>
      obtain ⟨m, b, k1, k2, k3⟩ := g3
      rw [e2] at k1
      cases k1
      have k4 := k3 rfl
      have : cap = 0 := k4.1
      obtain rfl : n = 0 := by omega
      have := Rep.sl (E := E) (w := w) sz ((xs.drop lo0).take 0) none A cap [] (by simp) g2 (fun x hx => by simp at hx) (by simpa using Reps.nil) (fun u hu => by cases hu) (fun j u hu => by simp at hu) trivial
      simpa using this
  | some p =>
    obtain ⟨g, c⟩ := p
    obtain ⟨h4, cur, us, h5, h6, h7, h8, h9, h9a, h10, h11, h12⟩ := e3
    have hat : E.at id = some g := by simp [Env.at, e1, e2]
    obtain ⟨q1, q2⟩ := h2.turn (E' := E.more fun a => a.block = g) (w' := w) (o' := .dead) (Below.refl _ _) hid (fun _ _ _ => rfl) (fun _ _ => rfl) (fun _ => rfl) (fun _ _ => rfl) (fun n b h => ⟨n, b, h, Nat.le_refl _, fun _ => rfl⟩) (fun _ h => .inl h)
      (fun a ha => by
        rcases ha with ha | ha
        · exact ⟨.inl ha, h2.inI a ha⟩
        · exact ⟨.inr (.inl (by rw [hat, ha])), by rw [ha]; exact heap_lt h5⟩) (fun b h => .inl h) (fun hE => ⟨_, some (g, c), e1, e2, fun g' c' h => by cases h; exact ⟨h4, heap_lt h5⟩⟩)
    refine ⟨_, q1, q2, fun lo0 n v hn h1 => ?_⟩
    have hlen : ((xs.drop lo0).take n).length = n := by rw [List.length_take, List.length_drop]; omega
    cases h1 with
    | rs _ _ _ _ _ A cap g1 g2 g0 g3 =>
      obtain ⟨m, b, k1, k2, k3⟩ := g3
      rw [e2] at k1
      cases k1
      have k4 := k3 rfl
      obtain ⟨_, k5⟩ := k4
      have := Rep.sl (E := E.more fun a => a.block = g) (w := w) sz ((xs.drop lo0).take n) none A cap ((us.drop (lo0 * sz)).take (n * sz)) (by rw [hlen]; exact g1) g2 (fun x hx => h9a x (List.mem_of_mem_drop (List.mem_of_mem_take hx)))
        (by
          rw [flat_take _ _ (fun x hx => h9a x (List.mem_of_mem_drop hx)), flat_drop _ _ h9a]
          exact ((h9.drop _).take _).mono q2) (fun u hu => h10 u (List.mem_of_mem_drop (List.mem_of_mem_take hu))) (fun j u hu => by
          have hj : j < n * sz := by
            have := (List.getElem?_eq_some_iff.1 hu).1
            rw [List.length_take] at this
            omega
          have hn0 : 0 < n := by
            rcases Nat.eq_zero_or_pos n with h | h
            · subst h; simp at hj
            · exact h
          rw [List.getElem?_take_of_lt hj, List.getElem?_drop] at hu
          refine ⟨_, k5 (.inl (by omega)), ?_, .inr ?_⟩
          · rw [Addr.add_lit, cell_of_row _ _ _ _ _ _ h5]; exact h11 _ u hu
          · rw [Addr.add_lit]) trivial
      rw [hlen] at this
      exact this
def frzV (id ver sz : Nat) (xs : List AV) : AV → AV
  | .rs id' ver' sz' lo n => if id' = id ∧ ver' = ver ∧ sz' = sz ∧ lo + n ≤ xs.length then .sl sz ((xs.drop lo).take n) none else .rs id' ver' sz' lo n
  | a => a
def Frz (s s1 : ASt) : Prop := s1 = s ∨ ∃ id e sz ver xs, s.H[id]? = some (.row e sz ver xs) ∧ 0 < sz ∧ s1 = ⟨s.tmps.map (frzV id ver sz xs), s.H.set id .dead⟩
theorem frzV_rep {E E' : Env} {w : World} {id ver sz : Nat} {xs : List AV} (hE : Evo lo E w E' w) (hf : ∀ (lo0 n : Nat) (v : Value), lo0 + n ≤ xs.length → Rep E w (.rs id ver sz lo0 n) v → Rep E' w (.sl sz ((xs.drop lo0).take n) none) v) {a : AV} {v : Value} (h : Rep E w a v) : Rep E' w (frzV id ver sz xs a) v := by
  unfold frzV
  split
  · split
    · rename_i hc
      obtain ⟨rfl, rfl, rfl, hc⟩ := hc
      exact hf _ _ _ hc h
    · exact h.mono hE
  · exact h.mono hE
theorem frzV_reps {E E' : Env} {w : World} {id ver sz : Nat} {xs : List AV} (hE : Evo lo E w E' w) (hf : ∀ (lo0 n : Nat) (v : Value), lo0 + n ≤ xs.length → Rep E w (.rs id ver sz lo0 n) v → Rep E' w (.sl sz ((xs.drop lo0).take n) none) v) : ∀ {us : List AV} {vs : List Value}, Reps E w us vs → Reps E' w (us.map (frzV id ver sz xs)) vs
  | _, _, .nil => .nil
  | _, _, .cons a v us vs h h1 => .cons _ _ _ _ (frzV_rep hE hf h) (frzV_reps hE hf h1)
/-- What may be forgotten, or told in another way, at a loop's entry and between its rounds. -/
def Weak (n0 : Nat) (s s' : ASt) : Prop := ∃ s1, Frz s s1 ∧ Weak0 n0 s1 s'
theorem Weak.sim (hG : ∀ g cs, G g = some cs → lows 0 cs) {n0 : Nat} {s s' : ASt} (h : Weak n0 s s') {a : Act} (hs : Sim G lo E s a w) {E0 : Env} {w0 : World} (hE : Evo lo E0 w0 E w) (h0 : ∀ k, n0 ≤ k → E0.bx k = none ∧ E0.tk k = none) :
    ∃ E', Sim G lo E' s' a w ∧ Evo lo E0 w0 E' w := by
  obtain ⟨s1, hf, h⟩ := h
  rcases hf with rfl | ⟨id, e, sz, ver, xs, hH, hsz, rfl⟩
  · exact h.sim hG hs hE h0
  · obtain ⟨E1, k1, k2, k3⟩ := hs.heap.freeze hH hsz
    exact h.sim hG ⟨k1, frzV_reps k2 k3 hs.tmps, hs.defers⟩ (hE.trans k2) h0

/-- The abstract weakest precondition. -/
def awp (P : Program) (G : Nat → Option (List AV)) (n0 : Nat) : ACode → (Exit → ASt → Prop) → ASt → Prop
  | .skip, Q, s => Q .normal s
  | .reg draw nA ops, Q, s => aops P G draw s.H.length ops (Q .normal) ⟨s.tmps, s.H ++ List.replicate nA AObj.hole⟩
  | .seq a b, Q, s => awp P G n0 a (fun e s' => match e with | .normal => awp P G n0 b Q s' | e => Q e s') s
  | .cond c a b, Q, s => onBool (aeval G s.tmps c) fun t => (t = true → awp P G n0 a Q s) ∧ (t = false → awp P G n0 b Q s)
  | .block id c, Q, s => awp P G n0 c (fun e s' => match e with | .exit id' => if id' = id then Q .normal s' else Q (.exit id') s' | e => Q e s') s
  | .loop c, Q, s => ∃ Inv : Nat → ASt → Prop, (∃ n s1, Weak n0 s s1 ∧ Inv n s1) ∧
      ∀ n s, Inv n s → awp P G n0 c (fun e s' => match e with | .normal => ∃ n' s'', n' < n ∧ Weak n0 s' s'' ∧ Inv n' s'' | e => Q e s') s
  | .exit id, Q, s => Q (.exit id) s
  | .goto l, Q, s => Q (.goto l) s
  | .scope c, Q, s => awp P G n0 c (fun e s' => match e with | .goto _ => False | e => Q e s') s
  | .stuck, _, _ => False
  | .ret, Q, s => Q .ret s

theorem SimH.pad {H : List AObj} (h : SimH G lo E H w) (n : Nat) : SimH G lo E (H ++ List.replicate n .hole) w := by
  refine ⟨h.lo_le, h.inI, ?_, ?_, h.inj, h.glob⟩
  · intro id o ho
    rcases Nat.lt_or_ge id H.length with hl | hl
    · rw [List.getElem?_append_left hl] at ho
      exact h.objs id o ho
    · rw [List.getElem?_append_right hl, List.getElem?_replicate] at ho
      split at ho
      · cases ho; exact h.dom id hl
      · cases ho
  · intro id hid
    rw [List.length_append] at hid
    exact h.dom id (by omega)

/-- What the machine's exit is to come to. -/
def lift (G : Nat → Option (List AV)) (lo : Nat) (E0 : Env) (w0 : World) (Q : Exit → ASt → Prop) (e : Exit) (a : Act) (w : World) : Prop :=
  match e with
  | .normal | .exit _ | .ret | .goto _ => ∃ s E, Q e s ∧ Sim G lo E s a w ∧ Evo lo E0 w0 E w
  | _ => False

theorem awp_sound {own : List Nat} (hm : P.follows .mixedOrders = true) (hG : ∀ g cs, G g = some cs → lows 0 cs) {n0 : Nat} {E0 : Env} {w0 : World} (h0 : ∀ k, n0 ≤ k → E0.bx k = none ∧ E0.tk k = none) :
    ∀ (c : Code) (ac : ACode), comp P own c = some ac → ∀ (Q : Exit → ASt → Prop) (s : ASt) (E : Env) (a : Act) (w : World), awp P G n0 ac Q s → Sim G lo E s a w → Evo lo E0 w0 E w →
      c.wp P (lift G lo E0 w0 Q) a w := by
  intro c
  induction c with
  | skip =>
    intro ac hc Q s E a w h hs hE
    simp only [comp, Option.some.injEq] at hc
    subst hc
    exact wp_skip ⟨s, E, h, hs, hE⟩
  | region id ops draw =>
    intro ac hc Q s E a w h hs hE
    simp only [comp, Option.bind_eq_some_iff] at hc
    obtain ⟨as, has, hc⟩ := hc
    split at hc
    · rename_i hok
      simp only [Option.some.injEq] at hc
      subst hc
      obtain ⟨hlen, hfit⟩ := pins_fit (draw := draw) has
      obtain ⟨s', hp, hQ⟩ := path_of_aops P G draw s.H.length (pins draw ops as) (pins draw ops as) 0 ⟨s.tmps, s.H ++ List.replicate (countM as) AObj.hole⟩ (Q .normal) (fun j => by simp) h
      rw [hlen, ← List.range_eq_range'] at hp
      have hs' : Sim G lo E ⟨s.tmps, s.H ++ List.replicate (countM as) AObj.hole⟩ a w := ⟨hs.heap.pad _, hs.tmps, hs.defers⟩
      cases draw with
      | false => exact region_text hfit hp hs' fun a' w' E' h1 h2 => ⟨s', E', hQ, h1, hE.trans h2⟩
      | true => exact region_draw hm hfit (by simpa using hok) hp hs' fun a' w' E' h1 h2 => ⟨s', E', hQ, h1, hE.trans h2⟩
    · cases hc
  | seq x y ihx ihy =>
    intro ac hc Q s E a w h hs hE
    simp only [comp, Option.bind_eq_some_iff, Option.map_eq_some_iff] at hc
    obtain ⟨ax, hx, ay, hy, rfl⟩ := hc
    refine wp_seq (wp_mono (ihx ax hx _ s E a w h hs hE) fun e a' w' hq => ?_)
    cases e with
    | normal =>
      obtain ⟨s', E', h1, h2, h3⟩ := hq
      exact ihy ay hy Q s' E' a' w' h1 h2 h3
    | exit id => exact hq
    | ret => exact hq
    | goto l => exact hq
    | panic c => exact hq
    | outgrown => exact hq
  | cond c x y ihx ihy =>
    intro ac hc Q s E a w h hs hE
    simp only [comp, Option.bind_eq_some_iff, Option.map_eq_some_iff] at hc
    obtain ⟨o, ho, ax, hx, ay, hy, rfl⟩ := hc
    obtain ⟨t, ht, h1, h2⟩ := onBool_inv h
    have hr := opd_rep hs ho
    rw [ht] at hr
    have hv := hr.imm_inv
    cases t with
    | true => exact wp_cond_true hv (ihx ax hx Q s E a w (h1 rfl) hs hE)
    | false => exact wp_cond_false hv (ihy ay hy Q s E a w (h2 rfl) hs hE)
  | block id c ih =>
    intro ac hc Q s E a w h hs hE
    simp only [comp, Option.map_eq_some_iff] at hc
    obtain ⟨ac, hc, rfl⟩ := hc
    refine wp_block (wp_mono (ih ac hc _ s E a w h hs hE) fun e a' w' hq => ?_)
    cases e with
    | normal => exact hq
    | exit id' =>
      obtain ⟨s', E', h1, h2, h3⟩ := hq
      simp only [Exit.inBlock]
      by_cases hi : id' = id
      · simp only [hi, if_true] at h1 ⊢; exact ⟨s', E', h1, h2, h3⟩
      · simp only [hi, if_false] at h1 ⊢; exact ⟨s', E', h1, h2, h3⟩
    | ret => exact hq
    | goto l => exact hq
    | panic c => exact hq
    | outgrown => exact hq
  | loop c ih =>
    intro ac hc Q s E a w h hs hE
    simp only [comp, Option.map_eq_some_iff] at hc
    obtain ⟨ac, hc, rfl⟩ := hc
    obtain ⟨Inv, ⟨n, s1, hw, hi⟩, hround⟩ := h
    obtain ⟨E1, hs1, hE1⟩ := hw.sim hG hs hE h0
    let I : Act → World → Prop := fun a w => ∃ n s E, Inv n s ∧ Sim G lo E s a w ∧ Evo lo E0 w0 E w
    let good : Act → World → Nat → Prop := fun a w n => ∃ s E, Inv n s ∧ Sim G lo E s a w ∧ Evo lo E0 w0 E w
    have hex : ∀ a w, I a w → ∃ n, good a w n ∧ ∀ m, good a w m → n ≤ m := by
      rintro a w ⟨n, hn⟩
      have := Nat.strongRecOn (motive := fun n => good a w n → ∃ n, good a w n ∧ ∀ m, good a w m → n ≤ m) n (fun n ih hn => by
        by_cases hlt : ∃ m, m < n ∧ good a w m
        · obtain ⟨m, h1, h2⟩ := hlt
          exact ih m h1 h2
        · exact ⟨n, hn, fun m hm => by
            rcases Nat.lt_or_ge m n with h | h
            · exact absurd ⟨m, h, hm⟩ hlt
            · exact h⟩)
      exact this hn
    classical
    let μ : Act → World → Nat := fun a w => if h : I a w then Classical.choose (hex a w h) else 0
    have hμ : ∀ a w (h : I a w), good a w (μ a w) ∧ ∀ m, good a w m → μ a w ≤ m := by
      intro a w h
      have e : μ a w = Classical.choose (hex a w h) := dif_pos h
      rw [e]
      exact Classical.choose_spec (hex a w h)
    refine wp_loop I μ ⟨n, s1, E1, hi, hs1, hE1⟩ fun a w hI => ?_
    obtain ⟨⟨s2, E2, k1, k2, k3⟩, _⟩ := hμ a w hI
    refine wp_mono (ih ac hc _ s2 E2 a w (hround _ s2 k1) k2 k3) fun e a' w' hq => ?_
    cases e with
    | normal =>
      obtain ⟨s', E', ⟨n', s'', h1, h2, h3⟩, h4, h5⟩ := hq
      obtain ⟨E'', h6, h7⟩ := h2.sim hG h4 h5 h0
      have hI' : I a' w' := ⟨n', s'', E'', h3, h6, h7⟩
      exact ⟨hI', Nat.lt_of_le_of_lt ((hμ a' w' hI').2 n' ⟨s'', E'', h3, h6, h7⟩) h1⟩
    | exit id => exact hq
    | ret => exact hq
    | goto l => exact hq
    | panic c => exact hq
    | outgrown => exact hq
  | exit id =>
    intro ac hc Q s E a w h hs hE
    simp only [comp, Option.some.injEq] at hc
    subst hc
    exact wp_exit ⟨s, E, h, hs, hE⟩
  | ret =>
    intro ac hc Q s E a w h hs hE
    simp only [comp, Option.some.injEq] at hc
    subst hc
    exact wp_ret ⟨s, E, h, hs, hE⟩
  | rangeFunc => intro ac hc Q s E a w h; simp only [comp, Option.some.injEq] at hc; subst hc; exact h.elim
  | scope c ih =>
    intro ac hc Q s E a w h hs hE
    simp only [comp, Option.map_eq_some_iff] at hc
    obtain ⟨ac, hc, rfl⟩ := hc
    refine wp_scope_straight (wp_mono (ih ac hc _ s E a w h hs hE) fun e a' w' hq => ?_)
    cases e with
    | normal => exact hq
    | exit id' => exact hq
    | ret => exact hq
    | goto l => obtain ⟨_, _, h, _⟩ := hq; exact h.elim
    | panic c => exact hq
    | outgrown => exact hq
  | label =>
    intro ac hc Q s E a w h hs hE
    simp only [comp, Option.some.injEq] at hc
    subst hc
    exact wp_label ⟨s, E, h, hs, hE⟩
  | goto =>
    intro ac hc Q s E a w h hs hE
    simp only [comp, Option.some.injEq] at hc
    subst hc
    exact wp_goto ⟨s, E, h, hs, hE⟩
  | refuse => intro ac hc Q s E a w h; simp only [comp, Option.some.injEq] at hc; subst hc; exact h.elim

end
end Go.AL

/- Contracts of functions. -/
set_option linter.unusedSimpArgs false
set_option linter.unusedVariables false
namespace Go.AL
open Go Go.RowKit

/-- What a function answers, out of its temporaries. -/
def ares (res : List Nat) (ts : List AV) : AV :=
  match res with
  | [t] => ts.getD t .junk
  | _ => .tup (res.map fun t => ts.getD t .junk)

def AV.stripR : AV → AV
  | .tup vs => .tup (vs.map AV.strip)
  | v => v.strip

section
variable {P : Program} {G : Nat → Option (List AV)} {lo : Nat} {E : Env} {w : World}

theorem Rep.stripR {x : AV} {v : Value} (h : Rep E w x v) : Rep E w x.stripR v := by
  cases h with
  | tup cs us h => exact .tup _ us h.strip
  | imm v h => exact (Rep.imm v h).strip
  | junk v => exact (Rep.junk v).strip
  | agg cs us h h1 => exact (Rep.agg cs us h h1).strip
  | sl size xs tok A cap us h1 h2 h3 h4 h5 h6 h7 => exact (Rep.sl size xs tok A cap us h1 h2 h3 h4 h5 h6 h7).strip
  | ptr id off b h => exact .ptr id off b h
  | rptr cs off ad us h h1 h2 => exact .rptr cs off ad us h h1 h2
  | fn f first cap us vs h h1 => exact .fn f first cap us vs h h1
  | mp id b h => exact .mp id b h
  | it id b h => exact .it id b h
  | rs id ver size lo n A cap h1 h2 h0 h3 => exact .rs id ver size lo n A cap h1 h2 h0 h3
  | rp id ver size i A h => exact .rp id ver size i A h

theorem getD_rep {ts : List AV} {us : List Value} (h : Reps E w ts us) (t : Nat) : Rep E w (ts.getD t .junk) (us.toArray.getD t undef) := by
  rcases Nat.lt_or_ge t ts.length with hl | hl
  · obtain ⟨v, hv, hr⟩ := h.get t _ (List.getElem?_eq_getElem hl)
    rw [List.getD_eq_getElem?_getD, List.getElem?_eq_getElem hl]
    have : us.toArray.getD t undef = v := by
      rw [Array.getD_eq_getD_getElem?]
      simp [hv]
    rw [this]
    exact hr
  · rw [List.getD_eq_getElem?_getD, List.getElem?_eq_none hl]
    exact .junk _

theorem run_resM (tmps : Array Value) : ∀ (res : List Nat), ((res.map ResultVar.tmp).mapM (fun r : ResultVar => match r with | .tmp t => (pure (tmps.getD t undef) : Sem Value) | .cell a t => do loadVar t (← asAddr (tmps.getD a undef)))).run P w = .ok (res.map fun t => tmps.getD t undef) w
  | [] => by simp
  | r :: res => by
    rw [List.map_cons, List.mapM_cons]
    simp only [Sem.run_bind, Sem.run_pure, Result.andThen_ok, run_resM tmps res, List.map_cons]

/-- What it answers, concretely. -/
def cres (res : List Nat) (tmps : Array Value) : Value :=
  match res with
  | [t] => tmps.getD t undef
  | _ => .tuple (res.map fun t => tmps.getD t undef).toArray

theorem cres_eq (res : List Nat) (tmps : Array Value) : (if h : (res.map fun t => tmps.getD t undef).toArray.size = 1 then (res.map fun t => tmps.getD t undef).toArray[0] else .tuple (res.map fun t => tmps.getD t undef).toArray) = cres res tmps := by
  match res with
  | [] => rfl
  | [t] => rfl
  | t :: u :: rest => simp [cres]

theorem results_run {fn : Func} {res : List Nat} (hr : fn.results = (res.map ResultVar.tmp).toArray) (tmps : Array Value) : (results fn tmps).run P w = .ok (cres res tmps) w := by
  have h := run_resM (P := P) (w := w) tmps res
  unfold results
  rw [Sem.run_bind, hr, Array.mapM_eq_mapM_toList, Sem.run_map]
  exact (congrArg (fun r : Result (List Value) => (r.andThen fun a w' => Result.ok a.toArray w').andThen fun vs w' => (pure (if h : vs.size = 1 then vs[0] else .tuple vs) : Sem Value).run P w') h).trans (by rw [← cres_eq]; rfl)

theorem ares_rep {res : List Nat} {ts : List AV} {us : Array Value} (h : Reps E w ts us.toList) : Rep E w (ares res ts) (cres res us) := by
  have key : ∀ (res : List Nat), Reps E w (res.map fun t => ts.getD t .junk) (res.map fun t => us.getD t undef) := by
    intro res
    induction res with
    | nil => exact .nil
    | cons t res ih => exact .cons _ _ _ _ (by have := getD_rep h t; simpa using this) ih
  match res with
  | [] => exact .tup _ _ (key [])
  | [t] => have := getD_rep h t; simpa [ares, cres] using this
  | t :: u :: rest => exact .tup _ _ (key (t :: u :: rest))

/-- What is asked where a function comes back. -/
def retQ (res : List Nat) (n0 : Nat) (r : AV) (H' : List AObj) (e : Exit) (s : ASt) : Prop :=
  (e = .normal ∨ e = .ret) ∧ (ares res s.tmps).stripR = r ∧ r.low H'.length ∧ s.H.take H'.length = H' ∧ n0 ≤ H'.length ∧ ∀ o ∈ H', o.low H'.length

/-- Of a function: its code is compiled to this, it answers these temporaries, and has so many. -/
structure IsFn (P : Program) (f : FuncId) (own : List Nat) (ac : ACode) (res : List Nat) (nt : Nat) : Prop where
  ex : ∃ fn c, P.funcs[f]? = some fn ∧ fn.body = some c ∧ (fn.name == "runtime.NumGoroutine") = false ∧ comp P own c = some ac ∧ fn.results = (res.map ResultVar.tmp).toArray ∧ fn.ntmps = nt

theorem callsX_body {f : FuncId} {fn : Func} {c : Code} (hf : P.funcs[f]? = some fn) (hb : fn.body = some c) (hn : (fn.name == "runtime.NumGoroutine") = false) {args : Array Value} {R : Value → World → Prop}
    (h : Calls P f args w fun e w' => match e with | .returned v => R v w' | _ => False) : CallsX P f args w R := by
  unfold CallsX
  have : (callFunc f args).run P w = .ok (.enter f args) w := by
    have hn' : ¬ fn.name = "runtime.NumGoroutine" := by simpa using hn
    simp [callFunc, hf, hn', hb]
  rw [this]
  exact h

theorem ok_of_awp (hm : P.follows .mixedOrders = true) (hG : ∀ g cs, G g = some cs → lows 0 cs) {f : FuncId} {own : List Nat} {ac : ACode} {res : List Nat} {nt : Nat} (hfn : IsFn P f own ac res nt) {args : List AV} {H H' : List AObj} {r : AV}
    (h : awp P G H.length ac (retQ res H.length r H') ⟨args ++ List.replicate (nt - args.length) .junk, H⟩) : Ok P G f args H r H' := by
  intro lo E w cargs hs ha
  obtain ⟨fn, c, hf, hb, hn, hc, hr, hnt⟩ := hfn.ex
  refine callsX_body hf hb hn (calls_of_wp hf hb ?_)
  have hlen := ha.length
  have hsim : Sim G lo E ⟨args ++ List.replicate (nt - args.length) .junk, H⟩ { tmps := cargs.toArray ++ Array.replicate (fn.ntmps - cargs.toArray.size) undef, defers := [] } w := by
    refine ⟨hs, ?_, rfl⟩
    simp only [Array.toList_append, Array.toList_replicate, List.size_toArray]
    refine ha.append ?_
    rw [hlen, hnt]
    have : ∀ n, Reps E w (List.replicate n .junk) (List.replicate n undef) := by
      intro n
      induction n with
      | zero => exact .nil
      | succ n ih => exact .cons _ _ _ _ (.junk _) ih
    exact this _
  refine wp_mono (awp_sound hm hG (n0 := H.length) (E0 := E) (w0 := w) (fun k hk => hs.dom k hk) c ac hc _ _ E _ w h hsim (Evo.refl _ _ _)) fun e a' w' hq => ?_
  have fin : ∀ s E', retQ res H.length r H' e s → Sim G lo E' s a' w' → Evo lo E w E' w' → (e = .normal ∨ e = .ret) → bodyPost P fn (fun e w'' => match e with | .returned v => ∃ E', Rep E' w'' r v ∧ SimH G lo E' H' w'' ∧ Evo lo E w E' w'' | _ => False) e a' w' := by
    intro s E' h1 h2 h3 he
    obtain ⟨_, h4, h5, h6, h7, h8⟩ := h1
    have h9 := results_run (P := P) (w := w') hr a'.tmps
    have hrep : Rep E' w' r (cres res a'.tmps) := by
      rw [← h4]; exact (ares_rep h2.tmps).stripR
    have hres : ∃ E', Rep E' w' r (cres res a'.tmps) ∧ SimH G lo E' H' w' ∧ Evo lo E w E' w' := by
      refine ⟨E'.cut H'.length, Rep.cut (E := E') (E' := E'.cut H'.length) (n := H'.length) (fun _ h => h) (fun k hk => if_pos hk) (fun k hk => if_pos hk) hrep h5, ?_, h3.cut h7 (fun k hk => hs.dom k hk)⟩
      have := h2.heap.cut hG H'.length (by rw [h6]; exact h8)
      rw [h6] at this
      exact this
    rcases he with rfl | rfl
    · exact ⟨h2.defers, _, h9, hres⟩
    · exact ⟨h2.defers, _, h9, hres⟩
  cases e with
  | normal => obtain ⟨s, E', h1, h2, h3⟩ := hq; exact fin s E' h1 h2 h3 (.inl rfl)
  | ret => obtain ⟨s, E', h1, h2, h3⟩ := hq; exact fin s E' h1 h2 h3 (.inr rfl)
  | exit id => obtain ⟨s, E', h1, h2, h3⟩ := hq; rcases h1.1 with h | h <;> cases h
  | goto l => obtain ⟨s, E', h1, h2, h3⟩ := hq; rcases h1.1 with h | h <;> cases h
  | panic c => exact hq.elim
  | outgrown => exact hq.elim

theorem CallsX.mono {f : FuncId} {args : Array Value} {R R' : Value → World → Prop} (h : CallsX P f args w R) (hr : ∀ v w', R v w' → R' v w') : CallsX P f args w R' := by
  unfold CallsX at h ⊢
  cases e : (callFunc f args).run P w with
  | halt x w1 => rw [e] at h; exact h.elim
  | ok n w1 =>
    rw [e] at h
    cases n with
    | enter f' args' =>
      refine Calls.mono h fun e w'' he => ?_
      cases e with
      | returned v => exact hr v w'' he
      | panicked => exact he
      | outgrown => exact he
    | value v => exact hr _ _ h
    | _ => exact h.elim

/-- A function of closed arguments that turns nothing, whatever boxes there are beside. -/
theorem pure_of_ok (hG : ∀ g cs, G g = some cs → lows 0 cs) {f : FuncId} {args : List AV} {r : AV} {H' : List AObj} (ha : lows 0 args) (hr : r.low 0) (h : Ok P G f args [] r H') : Pure P G f args r := by
  intro H lo E w cargs hs hargs
  let E0 : Env := { I := E.I, bx := fun _ => none, tk := fun _ => none }
  have hs0 : SimH G w.heap.size E0 [] w := by
    refine ⟨Nat.le_refl _, hs.inI, fun id o ho => by simp at ho, fun id _ => ⟨rfl, rfl⟩, fun i j b hi _ => by simp [Env.at, E0] at hi, fun g cs hg => ?_⟩
    obtain ⟨us, h1, h2, h3, ty, fz, h4, h5⟩ := hs.glob g cs hg
    exact ⟨us, Reps.cut (E := E) (E' := E0) (n := 0) (fun _ h => h) (fun k hk => absurd hk (Nat.not_lt_zero k)) (fun k hk => absurd hk (Nat.not_lt_zero k)) h1 (hG g cs hg), h2, h3, ty, fz, Nat.lt_of_lt_of_le h4 hs.lo_le, h5⟩
  have hargs0 : Reps E0 w args cargs := Reps.cut (E := E) (E' := E0) (n := 0) (fun _ h => h) (fun k hk => absurd hk (Nat.not_lt_zero k)) (fun k hk => absurd hk (Nat.not_lt_zero k)) hargs ha
  refine (h w.heap.size E0 w cargs hs0 hargs0).mono fun v w' ⟨E', h1, h2, h3⟩ => ?_
  obtain ⟨k1, k2⟩ := hs.grow h3.below (fun a => E'.I a ∧ w.heap.size ≤ a.block) (fun a ha => ⟨ha.2, h2.inI a ha.1⟩)
  refine ⟨_, h1.cut (n := 0) (fun a ha => ?_) (fun k hk => absurd hk (Nat.not_lt_zero k)) (fun k hk => absurd hk (Nat.not_lt_zero k)) hr, k1, k2⟩
  rcases h3.newI a ha with h4 | h4
  · exact .inl h4
  · exact .inr ⟨ha, h4⟩

theorem core_mono' {draw : Bool} {base : Nat} {o : AOper} {s : ASt} {K K' : ASt → Prop} (hk : ∀ s, K s → K' s) (h : astep P G draw base o s K) : astep P G draw base o s K' := by
  obtain ⟨r, h1, h2⟩ := det_astep P G draw base o s K h
  exact h2 _ (hk r h1)

theorem aops_mono {draw : Bool} {base : Nat} : ∀ (l : List AOper) (s : ASt) (K K' : ASt → Prop), (∀ s, K s → K' s) → aops P G draw base l K s → aops P G draw base l K' s
  | [], s, K, K', hk, h => hk s h
  | o :: l, s, K, K', hk, h => core_mono' (fun s1 h1 => aops_mono l s1 K K' hk h1) h

theorem awp_mono {n0 : Nat} : ∀ (ac : ACode) (Q Q' : Exit → ASt → Prop) (s : ASt), (∀ e s, Q e s → Q' e s) → awp P G n0 ac Q s → awp P G n0 ac Q' s
  | .skip, Q, Q', s, hq, h => hq _ _ h
  | .reg draw nA ops, Q, Q', s, hq, h => aops_mono ops _ _ _ (fun s1 h1 => hq _ _ h1) h
  | .seq a b, Q, Q', s, hq, h => awp_mono a _ _ s (fun e s1 h1 => by
      cases e with
      | normal => exact awp_mono b Q Q' s1 hq h1
      | _ => exact hq _ _ h1) h
  | .cond c a b, Q, Q', s, hq, h => by
    obtain ⟨t, ht, h1, h2⟩ := onBool_inv h
    show onBool (aeval G s.tmps c) _
    rw [ht]
    exact ⟨fun e => awp_mono a Q Q' s hq (h1 e), fun e => awp_mono b Q Q' s hq (h2 e)⟩
  | .block id c, Q, Q', s, hq, h => awp_mono c _ _ s (fun e s1 h1 => by
      cases e with
      | exit id' =>
        simp only at h1 ⊢
        split
        · rename_i hi; rw [if_pos hi] at h1; exact hq _ _ h1
        · rename_i hi; rw [if_neg hi] at h1; exact hq _ _ h1
      | _ => exact hq _ _ h1) h
  | .loop c, Q, Q', s, hq, h => by
    obtain ⟨Inv, h1, h2⟩ := h
    exact ⟨Inv, h1, fun n s1 hi => awp_mono c _ _ s1 (fun e s2 h3 => by
      cases e with
      | normal => exact h3
      | _ => exact hq _ _ h3) (h2 n s1 hi)⟩
  | .exit id, Q, Q', s, hq, h => hq _ _ h
  | .goto l, Q, Q', s, hq, h => hq _ _ h
  | .stuck, Q, Q', s, hq, h => h.elim
  | .scope c, Q, Q', s, hq, h => awp_mono c _ _ s (fun e s1 h1 => by
      cases e with
      | goto l => exact h1
      | _ => exact hq _ _ h1) h
  | .ret, Q, Q', s, hq, h => hq _ _ h

theorem pure_of_awp (hm : P.follows .mixedOrders = true) (hG : ∀ g cs, G g = some cs → lows 0 cs) {f : FuncId} {own : List Nat} {ac : ACode} {res : List Nat} {nt : Nat} (hfn : IsFn P f own ac res nt) {args : List AV} {r : AV} (ha : lows 0 args) (hr : r.low 0)
    (h : awp P G 0 ac (fun e s => (e = .normal ∨ e = .ret) ∧ (ares res s.tmps).stripR = r) ⟨args ++ List.replicate (nt - args.length) .junk, []⟩) : Pure P G f args r :=
  pure_of_ok hG ha hr (ok_of_awp (H := []) (H' := []) hm hG hfn (awp_mono ac _ _ _ (fun e s ⟨h1, h2⟩ => ⟨h1, h2, hr, by simp, Nat.le_refl _, fun o ho => by cases ho⟩) h))

end
end Go.AL

/- The same weakest precondition in a form that simp can go through: specifications in place of contracts, comparisons that split. -/
set_option linter.unusedSimpArgs false
set_option linter.unusedVariables false
namespace Go.AL
open Go Go.RowKit

/-- A text of these bytes. -/
def B (l : List UInt8) : ByteArray := ⟨l.toArray⟩
abbrev T (l : List UInt8) : AV := .imm (.string (B l))
abbrev i64 (n : Int) : AV := .imm (.int .i64 n)
/-- Byte i. -/
def at' (l : List UInt8) (i : Int) : Int := ((l.getD i.toNat 0).toNat : Int)

theorem B_size (l : List UInt8) : (B l).size = l.length := rfl
theorem B_data (l : List UInt8) : (B l).data.toList = l := rfl
theorem B_of (s : ByteArray) : B s.data.toList = s := rfl
theorem B_inj {l m : List UInt8} : B l = B m ↔ l = m := ⟨fun h => by rw [← B_data l, h, B_data], fun h => h ▸ rfl⟩
theorem B_app (l m : List UInt8) : B l ++ B m = B (l ++ m) := by
  apply ByteArray.ext
  simp [B, ByteArray.data_append]
theorem bt_B (l : List UInt8) (i : Int) : bt (B l) i = at' l i := rfl

/-- Two ways on, by what holds. -/
def SplitP (p X Y : Prop) : Prop := (p → X) ∧ (¬ p → Y)
theorem SplitP_eq {p X Y : Prop} : SplitP p X Y = ((p → X) ∧ (¬ p → Y)) := rfl
theorem SplitP_lt {a b : Int} {X Y : Prop} : SplitP (a < b) X Y = ((a < b → X) ∧ (¬ a < b → Y)) := rfl
theorem SplitP_le {a b : Int} {X Y : Prop} : SplitP (a ≤ b) X Y = ((a ≤ b → X) ∧ (¬ a ≤ b → Y)) := rfl
theorem SplitP_ltN {a b : Nat} {X Y : Prop} : SplitP (a < b) X Y = ((a < b → X) ∧ (¬ a < b → Y)) := rfl
theorem SplitP_leN {a b : Nat} {X Y : Prop} : SplitP (a ≤ b) X Y = ((a ≤ b → X) ∧ (¬ a ≤ b → Y)) := rfl
theorem SplitP_same {α : Type} {a b : α} {X Y : Prop} : SplitP (a = b) X Y = ((a = b → X) ∧ (¬ a = b → Y)) := rfl
theorem SplitP_and {p q X Y : Prop} : SplitP (p ∧ q) X Y = ((p ∧ q → X) ∧ (¬ (p ∧ q) → Y)) := rfl
theorem SplitP_or {p q X Y : Prop} : SplitP (p ∨ q) X Y = ((p ∨ q → X) ∧ (¬ (p ∨ q) → Y)) := rfl
theorem SplitP_not {p X Y : Prop} : SplitP (¬ p) X Y = ((¬ p → X) ∧ (¬ ¬ p → Y)) := rfl
theorem SplitP_true {X Y : Prop} : SplitP True X Y = X := by simp [SplitP]
theorem SplitP_false {X Y : Prop} : SplitP False X Y = Y := by simp [SplitP]
theorem SplitP_congr {p p' X Y : Prop} (h : p = p') : SplitP p X Y = SplitP p' X Y := by rw [h]
attribute [congr] SplitP_congr

structure Spec where
  pure : FuncId → List AV → (AV → Prop) → Prop
  turn : FuncId → List AV → List AObj → (AV → List AObj → Prop) → Prop
  turns : FuncId → Bool

/-- The specifications of the functions that are called. -/
structure Spec.Holds (S : Spec) (P : Program) (G : Nat → Option (List AV)) : Prop where
  pure : ∀ f args K, S.pure f args K → ∃ r, Pure P G f args r ∧ K r
  turn : ∀ f args H K, S.turn f args H K → ∃ r H', Ok P G f args H r H' ∧ K r H'

def In64 (n : Int) : Prop := -9223372036854775808 ≤ n ∧ n ≤ 9223372036854775807
theorem In64.wrap {n : Int} (h : In64 n) : IntKind.i64.wrap n = n := by
  obtain ⟨h1, h2⟩ := h
  simp only [IntKind.wrap, IntKind.bits, IntKind.signed]
  simp
  omega

def binB (op : BinOp) (t : TypeId) (x y : AV) (K : AV → Prop) : Prop :=
  match op, x, y with
  | .add, .imm (.int .i64 a), .imm (.int .i64 b) => In64 (a + b) ∧ K (i64 (a + b))
  | .sub, .imm (.int .i64 a), .imm (.int .i64 b) => In64 (a - b) ∧ K (i64 (a - b))
  | .mul, .imm (.int .i64 a), .imm (.int .i64 b) => In64 (a * b) ∧ K (i64 (a * b))
  | .quo, .imm (.int .i64 a), .imm (.int .i64 b) => b ≠ 0 ∧ In64 (a.tdiv b) ∧ K (i64 (a.tdiv b))
  | op, x, y => binsem op t x y K

def qB (o : QOp) (args : List AV) (K : AV → Prop) : Prop :=
  match o, args with
  | .bin op t, [x, y] => binB op t x y K
  | o, args => qsem o args K

section
variable {op : BinOp} {t : TypeId} {x y : AV} {K : AV → Prop}

theorem binB_to (h : binB op t x y K) : binsem op t x y K := by
  unfold binB at h
  split at h
  · exact ⟨rfl, by show K _; rw [h.1.wrap]; exact h.2⟩
  · exact ⟨rfl, by show K _; rw [h.1.wrap]; exact h.2⟩
  · exact ⟨rfl, by show K _; rw [h.1.wrap]; exact h.2⟩
  · exact ⟨rfl, h.1, by rw [h.2.1.wrap]; exact h.2.2⟩
  · exact h

theorem qB_to {o : QOp} {args : List AV} (h : qB o args K) : qsem o args K := by
  unfold qB at h
  split at h
  · exact binB_to h
  · exact h

theorem split_bool {p : Prop} [Decidable p] {K : Bool → Prop} : K (decide p) = ((p → K true) ∧ (¬ p → K false)) := by
  by_cases h : p <;> simp [h]
theorem split_beq {α : Type} [BEq α] [LawfulBEq α] {a b : α} {K : Bool → Prop} : K (a == b) = ((a = b → K true) ∧ (¬ a = b → K false)) := by
  by_cases h : a = b
  · simp [h]
  · simp [h, beq_eq_false_iff_ne.mpr h]
theorem split_bne {α : Type} [BEq α] [LawfulBEq α] {a b : α} {K : Bool → Prop} : K (a != b) = ((a = b → K false) ∧ (¬ a = b → K true)) := by
  by_cases h : a = b
  · simp [h]
  · simp [h, bne, beq_eq_false_iff_ne.mpr h]

variable {k : IntKind} {a b : Int} {l m : List UInt8}
theorem binB_lss0 : binB .lss t (.imm (.int k a)) (.imm (.int k b)) K = ((a < b → K (bool true)) ∧ (¬ a < b → K (bool false))) := by
  rw [← split_bool (K := fun b => K (bool b))]; simp [binB, binsem, binInt]
theorem binB_leq0 : binB .leq t (.imm (.int k a)) (.imm (.int k b)) K = ((a ≤ b → K (bool true)) ∧ (¬ a ≤ b → K (bool false))) := by
  rw [← split_bool (K := fun b => K (bool b))]; simp [binB, binsem, binInt]
theorem binB_gtr0 : binB .gtr t (.imm (.int k a)) (.imm (.int k b)) K = ((b < a → K (bool true)) ∧ (¬ b < a → K (bool false))) := by
  rw [← split_bool (K := fun b => K (bool b))]; simp [binB, binsem, binInt]
theorem binB_geq0 : binB .geq t (.imm (.int k a)) (.imm (.int k b)) K = ((b ≤ a → K (bool true)) ∧ (¬ b ≤ a → K (bool false))) := by
  rw [← split_bool (K := fun b => K (bool b))]; simp [binB, binsem, binInt]
theorem binB_eql0 : binB .eql t (.imm (.int k a)) (.imm (.int k b)) K = ((a = b → K (bool true)) ∧ (¬ a = b → K (bool false))) := by
  rw [← split_beq (K := fun b => K (bool b))]; simp [binB, binsem, binInt]
theorem binB_neq0 : binB .neq t (.imm (.int k a)) (.imm (.int k b)) K = ((a = b → K (bool false)) ∧ (¬ a = b → K (bool true))) := by
  rw [← split_bne (K := fun b => K (bool b))]; simp [binB, binsem, binInt]
theorem binB_add : binB .add t (.imm (.int .i64 a)) (.imm (.int .i64 b)) K = (In64 (a + b) ∧ K (i64 (a + b))) := rfl
theorem binB_sub : binB .sub t (.imm (.int .i64 a)) (.imm (.int .i64 b)) K = (In64 (a - b) ∧ K (i64 (a - b))) := rfl
theorem binB_mul : binB .mul t (.imm (.int .i64 a)) (.imm (.int .i64 b)) K = (In64 (a * b) ∧ K (i64 (a * b))) := rfl
theorem binB_quo : binB .quo t (.imm (.int .i64 a)) (.imm (.int .i64 b)) K = (b ≠ 0 ∧ In64 (a.tdiv b) ∧ K (i64 (a.tdiv b))) := rfl
theorem binB_rem : binB .rem t (.imm (.int k a)) (.imm (.int k b)) K = (b ≠ 0 ∧ K (.imm (.int k (a.tmod b)))) := by simp [binB, binsem, binInt]
theorem binB_quok (h : k ≠ .i64) : binB .quo t (.imm (.int k a)) (.imm (.int k b)) K = (b ≠ 0 ∧ K (.imm (.int k (k.wrap (a.tdiv b))))) := by cases k <;> first | exact absurd rfl h | simp [binB, binsem, binInt]
theorem binB_addk (h : k ≠ .i64) : binB .add t (.imm (.int k a)) (.imm (.int k b)) K = K (.imm (.int k (k.wrap (a + b)))) := by cases k <;> first | exact absurd rfl h | simp [binB, binsem, binInt]
theorem binB_subk (h : k ≠ .i64) : binB .sub t (.imm (.int k a)) (.imm (.int k b)) K = K (.imm (.int k (k.wrap (a - b)))) := by cases k <;> first | exact absurd rfl h | simp [binB, binsem, binInt]
theorem binB_mulk (h : k ≠ .i64) : binB .mul t (.imm (.int k a)) (.imm (.int k b)) K = K (.imm (.int k (k.wrap (a * b)))) := by cases k <;> first | exact absurd rfl h | simp [binB, binsem, binInt]
theorem binB_and : binB .and t (.imm (.int k a)) (.imm (.int k b)) K = K (.imm (.int k (bits .and k a b))) := by simp [binB, binsem, binInt]
theorem binB_or : binB .or t (.imm (.int k a)) (.imm (.int k b)) K = K (.imm (.int k (bits .or k a b))) := by simp [binB, binsem, binInt]
theorem binB_xor : binB .xor t (.imm (.int k a)) (.imm (.int k b)) K = K (.imm (.int k (bits .xor k a b))) := by simp [binB, binsem, binInt]
theorem binB_andNot : binB .andNot t (.imm (.int k a)) (.imm (.int k b)) K = K (.imm (.int k (bits .andNot k a b))) := by simp [binB, binsem, binInt]
theorem binB_shl {k'} : binB .shl t (.imm (.int k a)) (.imm (.int k' b)) K = (0 ≤ b ∧ K (.imm (.int k (k.wrap (a * 2 ^ (min b.toNat k.bits)))))) := by simp [binB, binsem, binSh]
theorem binB_shr {k'} : binB .shr t (.imm (.int k a)) (.imm (.int k' b)) K = (0 ≤ b ∧ K (.imm (.int k (a.fdiv (2 ^ (min b.toNat k.bits)))))) := by simp [binB, binsem, binSh]
theorem binB_sadd : binB .add t (T l) (T m) K = (((l.length + m.length : Nat) : Int) ≤ 9223372036854775807 ∧ K (T (l ++ m))) := by
  simp [binB, binsem, binStr, B_size, B_app]
theorem toList_B (l : List UInt8) : (B l).toList = l := by
  rw [ByteArray.toList_eq]; rfl
theorem binB_seql0 : binB .eql t (T l) (T m) K = ((l = m → K (bool true)) ∧ (¬ l = m → K (bool false))) := by
  rw [← split_beq (K := fun b => K (bool b))]; simp [binB, binsem, binStr, toList_B]
theorem binB_sneq0 : binB .neq t (T l) (T m) K = ((l = m → K (bool false)) ∧ (¬ l = m → K (bool true))) := by
  rw [← split_bne (K := fun b => K (bool b))]; simp [binB, binsem, binStr, toList_B, bne]
theorem binB_lss : binB .lss t (.imm (.int k a)) (.imm (.int k b)) K = SplitP (a < b) (K (bool true)) (K (bool false)) := binB_lss0
theorem binB_leq : binB .leq t (.imm (.int k a)) (.imm (.int k b)) K = SplitP (a ≤ b) (K (bool true)) (K (bool false)) := binB_leq0
theorem binB_gtr : binB .gtr t (.imm (.int k a)) (.imm (.int k b)) K = SplitP (b < a) (K (bool true)) (K (bool false)) := binB_gtr0
theorem binB_geq : binB .geq t (.imm (.int k a)) (.imm (.int k b)) K = SplitP (b ≤ a) (K (bool true)) (K (bool false)) := binB_geq0
theorem binB_eql : binB .eql t (.imm (.int k a)) (.imm (.int k b)) K = SplitP (a = b) (K (bool true)) (K (bool false)) := binB_eql0
theorem binB_neq : binB .neq t (.imm (.int k a)) (.imm (.int k b)) K = SplitP (a = b) (K (bool false)) (K (bool true)) := binB_neq0
theorem binB_seql : binB .eql t (T l) (T m) K = SplitP (l = m) (K (bool true)) (K (bool false)) := binB_seql0
theorem binB_sneq : binB .neq t (T l) (T m) K = SplitP (l = m) (K (bool false)) (K (bool true)) := binB_sneq0
end
end Go.AL

/- Code in the form that simp can go through, and that it is sound. -/
set_option linter.unusedSimpArgs false
set_option linter.unusedVariables false
namespace Go.AL
open Go Go.RowKit

section
variable (G : Nat → Option (List AV)) (S : Spec)

def callB (pin : Bool) (args : List AV) (H : List AObj) (K : AV → List AObj → Prop) : Prop :=
  onCons args fun f rest => onFn f fun fid first cap =>
    if S.turns fid = true then pin = true ∧ S.turn fid (first ++ rest ++ cap) H K else S.pure fid ((first ++ rest ++ cap).map AV.strip) fun r => K r H

def mB (m : MOp) (args : List AV) (id : Nat) (H : List AObj) (K : AV → List AObj → Prop) : Prop := H[id]? = some .hole ∧ msem m args id fun r ob => K r (H.set id ob)

def coreB (draw : Bool) (base : Nat) (c : Cls) (args : List AV) (H : List AObj) (K : AV → List AObj → Prop) : Prop :=
  match c with
  | .q q => qB q args fun r => K r H
  | .l l => lsem l args (lookIn draw base H) fun r => K r H
  | .m m slot => mB m args (base + slot) H K
  | .e e => esem e args H K
  | .call pin => callB S pin args H K

def putL (ts : List AV) (d : Option Nat) (a : AV) : List AV :=
  match d with
  | some d => ts.set d a
  | none => ts

def getL (ts : List AV) (n : Nat) : AV := ts.getD n .junk

def evalB (ts : List AV) : AOpd → AV
  | .t n => getL ts n
  | .c a => a
  | .g n => match G n with | some cs => .rptr cs 0 | none => .junk

def evalsB (ts : List AV) : List AOpd → List AV
  | [] => []
  | o :: r => evalB G ts o :: evalsB ts r

def stepB (draw : Bool) (base : Nat) (g : Option (Nat × Bool)) (d : Option Nat) (c : Cls) (args : List AOpd) (ts : List AV) (H : List AObj) (K : List AV → List AObj → Prop) : Prop :=
  match g with
  | none => coreB S draw base c (evalsB G ts args) H fun r H' => K (putL ts d r) H'
  | some (t, want) => onGuard (getL ts t) fun b => if b = some want then coreB S draw base c (evalsB G ts args) H fun r H' => K (putL ts d r) H' else K (putL ts d (.tup [])) H

def opsB (draw : Bool) (base : Nat) : List AOper → (List AV → List AObj → Prop) → List AV → List AObj → Prop
  | [], K, ts, H => K ts H
  | ⟨d, g, c, args⟩ :: rest, K, ts, H => stepB G S draw base g d c args ts H (opsB draw base rest K)

def seqQ (b : (Exit → List AV → List AObj → Prop) → List AV → List AObj → Prop) (Q : Exit → List AV → List AObj → Prop) (e : Exit) (ts : List AV) (H : List AObj) : Prop :=
  match e with | .normal => b Q ts H | e => Q e ts H
def blockQ (id : Nat) (Q : Exit → List AV → List AObj → Prop) (e : Exit) (ts : List AV) (H : List AObj) : Prop :=
  match e with | .exit id' => if id' = id then Q .normal ts H else Q (.exit id') ts H | e => Q e ts H
def scopeQ (Q : Exit → List AV → List AObj → Prop) (e : Exit) (ts : List AV) (H : List AObj) : Prop :=
  match e with | .goto _ => False | e => Q e ts H
def loopQ (again : List AV → List AObj → Prop) (Q : Exit → List AV → List AObj → Prop) (e : Exit) (ts : List AV) (H : List AObj) : Prop :=
  match e with | .normal => again ts H | e => Q e ts H

def codeB (n0 : Nat) : ACode → (Exit → List AV → List AObj → Prop) → List AV → List AObj → Prop
  | .skip, Q, ts, H => Q .normal ts H
  | .reg draw nA ops, Q, ts, H => opsB G S draw H.length ops (Q .normal) ts (H ++ List.replicate nA AObj.hole)
  | .seq a b, Q, ts, H => codeB n0 a (seqQ (codeB n0 b) Q) ts H
  | .cond c a b, Q, ts, H => onBool (evalB G ts c) fun t => if t = true then codeB n0 a Q ts H else codeB n0 b Q ts H
  | .block id c, Q, ts, H => codeB n0 c (blockQ id Q) ts H
  | .loop c, Q, ts, H => ∃ (Inv : Nat → List AV → List AObj → Prop), (∃ n ts1 H1, Weak n0 ⟨ts, H⟩ ⟨ts1, H1⟩ ∧ Inv n ts1 H1) ∧
      ∀ n ts H, Inv n ts H → codeB n0 c (loopQ (fun ts' H' => ∃ n' ts'' H'', n' < n ∧ Weak n0 ⟨ts', H'⟩ ⟨ts'', H''⟩ ∧ Inv n' ts'' H'') Q) ts H
  | .exit id, Q, ts, H => Q (.exit id) ts H
  | .goto l, Q, ts, H => Q (.goto l) ts H
  | .scope c, Q, ts, H => codeB n0 c (scopeQ Q) ts H
  | .stuck, _, _, _ => False
  | .ret, Q, ts, H => Q .ret ts H
end

section
variable {P : Program} {G : Nat → Option (List AV)} {S : Spec}

theorem evalB_eq (ts : List AV) (o : AOpd) : evalB G ts o = aeval G ts o := by cases o <;> rfl
theorem evalsB_eq (ts : List AV) : ∀ l : List AOpd, evalsB G ts l = l.map (aeval G ts)
  | [] => rfl
  | o :: l => by rw [evalsB, evalsB_eq ts l, evalB_eq]; rfl

theorem core_of {draw base c args H} {K : AV → List AObj → Prop} (hS : S.Holds P G) (h : coreB S draw base c args H K) : core P G draw base c args H (fun p => K p.1 p.2) := by
  unfold coreB at h
  unfold core
  split at h
  · exact qB_to h
  · exact h
  · exact h
  · exact h
  · rename_i pin
    unfold callB at h
    obtain ⟨f, rest, rfl, ha⟩ := onCons_inv h
    obtain ⟨fid, first, cap, rfl, hb⟩ := onFn_inv ha
    clear h ha
    show (∃ r, _) ∨ _
    split at hb
    · obtain ⟨hp, h⟩ := hb
      obtain ⟨r, H', h1, h2⟩ := hS.turn _ _ _ _ h
      exact .inr ⟨hp, r, H', h1, h2⟩
    · obtain ⟨r, h1, h2⟩ := hS.pure _ _ _ hb
      exact .inl ⟨r, h1, h2⟩

theorem put_eq (ts : List AV) (H : List AObj) (d : Option Nat) (a : AV) : ASt.put ⟨ts, H⟩ d a = ⟨putL ts d a, H⟩ := by cases d <;> rfl

theorem step_of {draw base d g c args ts H} {K : List AV → List AObj → Prop} (hS : S.Holds P G) (h : stepB G S draw base g d c args ts H K) : astep P G draw base ⟨d, g, c, args⟩ ⟨ts, H⟩ (fun s => K s.tmps s.H) := by
  unfold stepB at h
  unfold astep
  cases g with
  | none =>
    have := core_of hS h
    rw [evalsB_eq] at this
    simp only [put_eq]
    exact this
  | some p =>
    obtain ⟨t, want⟩ := p
    obtain ⟨b, hb, h⟩ := onGuard_inv h
    have hb : guardVal (ts.getD t .junk) = some b := hb
    simp only [onGuard, hb]
    refine ⟨fun e => ?_, fun e => ?_⟩
    · rw [if_pos e] at h
      have := core_of hS h
      rw [evalsB_eq] at this
      simp only [put_eq]
      exact this
    · rw [if_neg e] at h
      simp only [put_eq]
      exact h

theorem ops_of {draw base} (hS : S.Holds P G) : ∀ (ops : List AOper) {ts H} {K : List AV → List AObj → Prop}, opsB G S draw base ops K ts H → aops P G draw base ops (fun s => K s.tmps s.H) ⟨ts, H⟩
  | [], ts, H, K, h => h
  | ⟨d, g, c, args⟩ :: rest, ts, H, K, h => core_mono' (fun s h => ops_of hS rest h) (step_of hS h)

theorem code_of {n0 : Nat} (hS : S.Holds P G) : ∀ (c : ACode) (Q : Exit → List AV → List AObj → Prop) (ts H), codeB G S n0 c Q ts H → awp P G n0 c (fun e s => Q e s.tmps s.H) ⟨ts, H⟩
  | .skip, Q, ts, H, h => h
  | .reg draw nA ops, Q, ts, H, h => ops_of hS ops h
  | .seq a b, Q, ts, H, h => awp_mono a _ _ _ (fun e s h1 => by
      cases e with
      | normal => exact code_of hS b Q s.tmps s.H h1
      | _ => exact h1) (code_of hS a _ ts H h)
  | .cond c a b, Q, ts, H, h => by
    obtain ⟨t, ht, h⟩ := onBool_inv h
    rw [evalB_eq] at ht
    show onBool (aeval G ts c) _
    rw [ht]
    refine ⟨fun e => ?_, fun e => ?_⟩
    · rw [if_pos e] at h; exact code_of hS a Q ts H h
    · rw [if_neg (by simp [e])] at h; exact code_of hS b Q ts H h
  | .block id c, Q, ts, H, h => awp_mono c _ _ _ (fun e s h1 => by
      cases e with
      | exit id' => exact h1
      | _ => exact h1) (code_of hS c _ ts H h)
  | .loop c, Q, ts, H, h => by
    obtain ⟨Inv, ⟨n, ts1, H1, h1, h2⟩, h3⟩ := h
    refine ⟨fun n s => Inv n s.tmps s.H, ⟨n, ⟨ts1, H1⟩, h1, h2⟩, fun n s hi => awp_mono c _ _ _ (fun e s1 h4 => ?_) (code_of hS c _ s.tmps s.H (h3 n s.tmps s.H hi))⟩
    cases e with
    | normal =>
      obtain ⟨n', ts'', H'', h5, h6, h7⟩ := h4
      exact ⟨n', ⟨ts'', H''⟩, h5, h6, h7⟩
    | _ => exact h4
  | .exit id, Q, ts, H, h => h
  | .goto l, Q, ts, H, h => h
  | .stuck, Q, ts, H, h => h.elim
  | .scope c, Q, ts, H, h => awp_mono c _ _ _ (fun e s h1 => by
      cases e with
      | goto l => exact h1
      | _ => exact h1) (code_of hS c _ ts H h)
  | .ret, Q, ts, H, h => h

/-- What remains of a round that comes to its end. -/
def Again {X : Type} (n0 : Nat) (st : X → List AV) (hp : X → List AObj) (I : X → Prop) (m : X → Nat) (x : X) (ts : List AV) (H : List AObj) : Prop :=
  ∃ x', m x' < m x ∧ I x' ∧ Weak n0 ⟨ts, H⟩ ⟨st x', hp x'⟩

theorem loopB {X : Type} (st : X → List AV) (hp : X → List AObj) (I : X → Prop) (m : X → Nat) (x0 : X) {n0 : Nat} {c : ACode} {Q : Exit → List AV → List AObj → Prop} {ts : List AV} {H : List AObj}
    (hI : I x0) (hw : Weak n0 ⟨ts, H⟩ ⟨st x0, hp x0⟩) (step : ∀ x, I x → codeB G S n0 c (loopQ (Again n0 st hp I m x) Q) (st x) (hp x)) : codeB G S n0 (.loop c) Q ts H := by
  refine ⟨fun n ts H => ∃ x, n = m x ∧ I x ∧ ts = st x ∧ H = hp x, ⟨m x0, st x0, hp x0, hw, x0, rfl, hI, rfl, rfl⟩, ?_⟩
  rintro n ts H ⟨x, rfl, hx, rfl, rfl⟩
  have := step x hx
  have heq : (loopQ (Again n0 st hp I m x) Q) = (loopQ (fun ts' H' => ∃ n' ts'' H'', n' < m x ∧ Weak n0 ⟨ts', H'⟩ ⟨ts'', H''⟩ ∧ ∃ x, n' = m x ∧ I x ∧ ts'' = st x ∧ H'' = hp x) Q) := by
    congr 1
    funext ts' H'
    simp only [Again, eq_iff_iff]
    constructor
    · rintro ⟨x', h1, h2, h3⟩
      exact ⟨m x', st x', hp x', h1, h3, x', rfl, h2, rfl, rfl⟩
    · rintro ⟨n', ts'', H'', h1, h2, x', rfl, h3, rfl, rfl⟩
      exact ⟨x', h1, h3, h2⟩
  rw [← heq]
  exact this

theorem weak_same {n0 : Nat} {ts ts' : List AV} {H : List AObj} (hn : n0 ≤ H.length) (hH : ∀ o ∈ H, o.low H.length) (h : WeakL H.length ts ts') : Weak n0 ⟨ts, H⟩ ⟨ts', H⟩ :=
  ⟨_, .inl rfl, H.length, hn, by simpa using HeapEq.refl H, hH, h⟩
theorem weak_nil {ts ts' : List AV} (h : WeakL 0 ts ts') : Weak 0 ⟨ts, []⟩ ⟨ts', []⟩ := weak_same (Nat.le_refl _) (fun o ho => by cases ho) h

/-- The contract of a pure function. -/
def Told (P : Program) (G : Nat → Option (List AV)) (f : FuncId) (spec : List AV → (AV → Prop) → Prop) : Prop := ∀ args K, spec args K → ∃ r, Pure P G f args r ∧ K r

def ask (spec : List AV → (AV → Prop) → Prop) (args : List AV) (K : AV → Prop) : Prop := spec args K

def retB (res : List Nat) (r : AV) (e : Exit) (ts : List AV) (H : List AObj) : Prop := (e = .normal ∨ e = .ret) ∧ (ares res ts).stripR = r

theorem pure_of_code (hm : P.follows .mixedOrders = true) (hG : ∀ g cs, G g = some cs → lows 0 cs) (hS : S.Holds P G) {f : FuncId} {own : List Nat} {ac : ACode} {res : List Nat} {nt : Nat} (hfn : IsFn P f own ac res nt) {args : List AV} {r : AV} (ha : lows 0 args) (hr : r.low 0)
    (h : codeB G S 0 ac (retB res r) (args ++ List.replicate (nt - args.length) .junk) []) : Pure P G f args r :=
  pure_of_awp hm hG hfn ha hr (awp_mono ac _ _ _ (fun e s h => h) (code_of hS ac _ _ _ h))
end
end Go.AL
