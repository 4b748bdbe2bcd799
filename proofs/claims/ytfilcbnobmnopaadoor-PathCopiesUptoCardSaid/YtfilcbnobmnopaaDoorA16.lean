/- Regions. -/
import Derived.Test.YtfilcbnobmnopaaDoorA15
set_option linter.unusedSimpArgs false
set_option linter.unusedVariables false
namespace Go.AL
open Go Go.RowKit

section
variable {P : Program} {G : Nat → Option (List AV)} {lo : Nat}

/-- What the compiled operation in place i has to do with the operation. -/
def Fits (P : Program) (own : Bool) (ops : Array Oper) (o : Oper) (ao : AOper) : Prop :=
  ∃ slot c xs, compOp1 P own o slot = some (c, xs) ∧ copds xs = some ao.args ∧ guardOf ops o = some ao.guard ∧ ao.dst = o.dst ∧ c.fits ao.cls

theorem compOpers_get {own : Bool} {ops : Array Oper} : ∀ {l : List Oper} {k : Nat} {as : List AOper}, compOpers P own ops k l = some as → as.length = l.length ∧
    ∀ (i : Nat) (o : Oper), l[i]? = some o → ∃ ao : AOper, as[i]? = some ao ∧ ∃ slot c xs, compOp1 P own o slot = some (c, xs) ∧ copds xs = some ao.args ∧ guardOf ops o = some ao.guard ∧ ao.dst = o.dst ∧ ao.cls = c
  | [], k, as, h => by simp only [compOpers, Option.some.injEq] at h; subst h; exact ⟨rfl, fun i o h => by simp at h⟩
  | o :: l, k, as, h => by
    simp only [compOpers, Option.bind_eq_some_iff, Option.map_eq_some_iff] at h
    obtain ⟨ao, h1, as', h2, rfl⟩ := h
    obtain ⟨g1, g2⟩ := compOpers_get h2
    refine ⟨by simp [g1], fun i x hx => ?_⟩
    cases i with
    | zero =>
      simp at hx
      subst hx
      simp only [compOper, Option.bind_eq_some_iff, Option.map_eq_some_iff] at h1
      obtain ⟨⟨c, xs⟩, h3, args, h4, g, h5, rfl⟩ := h1
      exact ⟨_, rfl, k, c, xs, h3, h4, h5, rfl, rfl⟩
    | succ i =>
      simp at hx
      obtain ⟨ao', e1, e2⟩ := g2 i x hx
      exact ⟨ao', by simpa using e1, e2⟩

theorem pins_fit {own draw : Bool} {ops : Array Oper} {as : List AOper} (h : compOpers P own ops 0 ops.toList = some as) : (pins draw ops as).length = ops.size ∧
    ∀ (i : Nat) (o : Oper), ops[i]? = some o → ∃ ao : AOper, (pins draw ops as)[i]? = some ao ∧ Fits P own ops o ao := by
  obtain ⟨h1, h2⟩ := compOpers_get h
  refine ⟨by simp [pins, h1], fun i o ho => ?_⟩
  obtain ⟨ao, e1, slot, c, xs, e2, e3, e4, e5, e6⟩ := h2 i o (by rw [Array.getElem?_toList]; exact ho)
  unfold pins
  rw [List.getElem?_map, List.getElem?_zipIdx, e1]
  simp only [Option.map_some, Nat.zero_add]
  refine ⟨_, rfl, slot, c, xs, e2, ?_⟩
  cases hc : ao.cls with
  | call p =>
    have hcc : c = .call p := by rw [← e6, hc]
    subst hcc
    obtain ⟨rfl, _⟩ := call_inv ((compOp1_inv e2).resolve_right (by rintro ⟨h, _⟩; cases h))
    exact ⟨e3, e4, e5, .inr ⟨rfl, _, rfl⟩⟩
  | q => simp only; exact ⟨e3, e4, e5, .inl e6⟩
  | l => simp only; exact ⟨e3, e4, e5, .inl e6⟩
  | m => simp only; exact ⟨e3, e4, e5, .inl e6⟩
  | e => simp only; exact ⟨e3, e4, e5, .inl e6⟩

theorem masksGo_spec : ∀ (l : List Oper) (acc : List Nat), ∃ rest, masksGo l acc = acc ++ rest ∧ ∀ (i : Nat) (o : Oper), l[i]? = some o → (acc ++ rest).getD (acc.length + i) 0 = maskOf ((acc ++ rest).take (acc.length + i)) o.after.toList
  | [], acc => ⟨[], by simp [masksGo], fun i o h => by simp at h⟩
  | o :: l, acc => by
    obtain ⟨rest, h1, h2⟩ := masksGo_spec l (acc ++ [maskOf acc o.after.toList])
    refine ⟨maskOf acc o.after.toList :: rest, by rw [masksGo, h1]; simp, fun i x hx => ?_⟩
    cases i with
    | zero =>
      simp at hx
      subst hx
      simp [List.getD_eq_getElem?_getD, List.getElem?_append, List.take_append]
    | succ i =>
      simp at hx
      have := h2 i x hx
      simp only [List.length_append, List.length_cons, List.length_nil, List.append_assoc, List.cons_append, List.nil_append] at this
      rw [show acc.length + (i + 1) = acc.length + (0 + 1) + i by omega]
      exact this

theorem maskOf_bit (acc : List Nat) (j : Nat) : ∀ (es : List Edge), (maskOf acc es).testBit j = true → ∃ e ∈ es, Region.binds .any e = true ∧ (j = e.on ∨ (acc.getD e.on 0).testBit j = true)
  | [], h => by simp [maskOf] at h
  | e :: es, h => by
    unfold maskOf at h
    split at h
    · rename_i hb
      rw [Nat.testBit_or, Nat.testBit_or, Bool.or_eq_true, Bool.or_eq_true] at h
      rcases h with (h | h) | h
      · refine ⟨e, by simp, hb, .inl ?_⟩
        rw [Nat.testBit_two_pow] at h
        simpa using (of_decide_eq_true h).symm
      · exact ⟨e, by simp, hb, .inr h⟩
      · obtain ⟨e', h1, h2⟩ := maskOf_bit acc j es h
        exact ⟨e', by simp [h1], h2⟩
    · obtain ⟨e', h1, h2⟩ := maskOf_bit acc j es h
      exact ⟨e', by simp [h1], h2⟩

theorem masks_bit {ops : Array Oper} {i j : Nat} {o : Oper} (ho : ops[i]? = some o) (h : ((masks ops).getD i 0).testBit j = true) :
    ∃ e ∈ o.after.toList, Region.binds .any e = true ∧ (j = e.on ∨ (e.on < i ∧ ((masks ops).getD e.on 0).testBit j = true)) := by
  obtain ⟨rest, h1, h2⟩ := masksGo_spec ops.toList []
  simp only [List.nil_append, List.length_nil, Nat.zero_add] at h1 h2
  have h3 := h2 i o (by rw [Array.getElem?_toList]; exact ho)
  unfold masks at h ⊢
  rw [h1] at h ⊢
  rw [h3] at h
  obtain ⟨e, e1, e2, e3⟩ := maskOf_bit _ _ _ h
  refine ⟨e, e1, e2, ?_⟩
  rcases e3 with e3 | e3
  · exact .inl e3
  · rcases Nat.lt_or_ge e.on i with hl | hl
    · refine .inr ⟨hl, ?_⟩
      rw [List.getD_eq_getElem?_getD, List.getElem?_take_of_lt hl] at e3
      rw [List.getD_eq_getElem?_getD]
      exact e3
    · rw [List.getD_eq_getElem?_getD, List.getElem?_eq_none (by rw [List.length_take]; omega)] at e3
      simp at e3

def Down (ops : Array Oper) (listed : Array Bool) : Prop := ∀ (k : Nat) (o : Oper), listed.getD k false = true → ops[k]? = some o → ∀ e ∈ o.after.toList, Region.binds .any e = true → listed.getD e.on false = true

theorem waits_listed {ops : Array Oper} {listed : Array Bool} (hsz : listed.size = ops.size) (hd : Down ops listed) (j : Nat) : ∀ (i : Nat) (o : Oper), ops[i]? = some o → (∀ e ∈ o.after.toList, Region.binds .any e = true → listed.getD e.on false = true) →
    ((masks ops).getD i 0).testBit j = true → listed.getD j false = true := by
  intro i
  induction i using Nat.strongRecOn with
  | _ i ih =>
    intro o ho hl h
    obtain ⟨e, e1, e2, e3⟩ := masks_bit ho h
    have h1 := hl e e1 e2
    rcases e3 with rfl | ⟨e3, e4⟩
    · exact h1
    · have hlt : e.on < ops.size := by
        rw [← hsz]
        rcases Nat.lt_or_ge e.on listed.size with h | h
        · exact h
        · rw [Array.getD_eq_getD_getElem?, Array.getElem?_eq_none h] at h1; cases h1
      exact ih e.on e3 ops[e.on] (Array.getElem?_eq_getElem hlt) (hd e.on _ h1 (Array.getElem?_eq_getElem hlt)) e4

theorem drawOk_spec {ops : Array Oper} {as : List AOper} (h : drawOk ops as = true) :
    (∀ (i : Nat) (o : Oper), ops[i]? = some o → ∀ e ∈ o.after.toList, Region.binds .any e = true → e.on < i) ∧
    ∀ (i j : Nat) (x y : AOper), as[i]? = some x → as[j]? = some y → i < j → ((masks ops).getD j 0).testBit i = true ∨ commutes x y = true := by
  simp only [drawOk, Bool.and_eq_true, List.all_eq_true] at h
  obtain ⟨h1, h2⟩ := h
  refine ⟨fun i o ho e he hb => ?_, fun i j x y hx hy hij => ?_⟩
  · have := h1 (o, i) (List.mk_mem_zipIdx_iff_getElem?.2 (by rw [Array.getElem?_toList]; exact ho))
    rw [Array.all_eq_true_iff_forall_mem] at this
    have := this e (by simpa using he)
    simpa [hb] using this
  · have := h2 (y, j) (List.mk_mem_zipIdx_iff_getElem?.2 hy) (x, i) (List.mk_mem_zipIdx_iff_getElem?.2 hx)
    simpa [hij] using this

variable {base : Nat} {own : Bool} {ops : Array Oper} {as : List AOper} {Q : Exit → Act → World → Prop}

theorem draw_go (hfit : ∀ (i : Nat) (o : Oper), ops[i]? = some o → ∃ ao : AOper, as[i]? = some ao ∧ Fits P own ops o ao) (hok : drawOk ops as = true) {s' : ASt} : ∀ (fuel : Nat) (listed : Array Bool) (l : List Nat) (s : ASt) (E : Env) (a : Act) (w : World),
    listed.size = ops.size → l = (List.range ops.size).filter (fun i => !listed.getD i true) → l.length ≤ fuel → Down ops listed → Path P G true base as l s s' → Sim G lo E s a w →
    (∀ a' w' E', Sim G lo E' s' a' w' → Evo lo E w E' w' → Q .normal a' w') → wpAny P .any ops Q fuel listed a w := by
  obtain ⟨ok1, ok2⟩ := drawOk_spec hok
  have rdy : ∀ {listed : Array Bool} {i : Nat}, listed.size = ops.size → i ∈ Region.ready .any ops listed → i < ops.size ∧ listed.getD i true = false ∧ ∀ o, ops[i]? = some o → ∀ e ∈ o.after.toList, Region.binds .any e = true → listed.getD e.on false = true := by
    intro listed i hsz h
    unfold Region.ready at h
    rw [List.mem_filter] at h
    obtain ⟨h1, h2⟩ := h
    have hi : i < ops.size := by simpa using h1
    rw [Bool.and_eq_true] at h2
    refine ⟨hi, by simpa using h2.1, fun o ho e he hb => ?_⟩
    have h3 := h2.2
    rw [ho] at h3
    simp only [Option.map_some, Option.getD_some] at h3
    rw [Array.all_eq_true_iff_forall_mem] at h3
    have h4 := h3 e (by simpa using he)
    simpa [hb] using h4
  have mk : ∀ {listed : Array Bool} {i : Nat}, i < ops.size → listed.getD i true = false → (∀ o, ops[i]? = some o → ∀ e ∈ o.after.toList, Region.binds .any e = true → listed.getD e.on false = true) → i ∈ Region.ready .any ops listed := by
    intro listed i h1 h2 h3
    unfold Region.ready
    rw [List.mem_filter]
    refine ⟨by simpa using h1, ?_⟩
    rw [Bool.and_eq_true]
    refine ⟨by simpa using h2, ?_⟩
    rw [Array.getElem?_eq_getElem h1]
    simp only [Option.map_some, Option.getD_some]
    rw [Array.all_eq_true_iff_forall_mem]
    intro e he
    cases hb : Region.binds .any e with
    | false => rfl
    | true => simpa using h3 _ (Array.getElem?_eq_getElem h1) e (by simpa using he) hb
  have none_left : ∀ {listed : Array Bool} {l : List Nat}, listed.size = ops.size → l = (List.range ops.size).filter (fun i => !listed.getD i true) → Region.ready .any ops listed = [] → l = [] := by
    intro listed l hsz hl hr
    cases l with
    | nil => rfl
    | cons i l =>
      exfalso
      have hmem : i ∈ (List.range ops.size).filter (fun i => !listed.getD i true) := by rw [← hl]; simp
      rw [List.mem_filter] at hmem
      have hi : i < ops.size := by simpa using hmem.1
      have hpw : ((List.range ops.size).filter (fun i => !listed.getD i true)).Pairwise (· < ·) := List.Pairwise.filter _ List.pairwise_lt_range
      rw [← hl] at hpw
      have hmin := (List.pairwise_cons.1 hpw).1
      have : i ∈ Region.ready .any ops listed := by
        refine mk hi (by simpa using hmem.2) fun o ho e he hb => ?_
        have hlt := ok1 i o ho e he hb
        cases hg : listed.getD e.on true with
        | true =>
          have hsz' : e.on < listed.size := by omega
          simp only [Array.getD_eq_getD_getElem?, Array.getElem?_eq_getElem hsz', Option.getD_some] at hg ⊢
          exact hg
        | false =>
          exfalso
          have hm : e.on ∈ i :: l := by
            rw [hl, List.mem_filter]
            exact ⟨by simp; omega, by simp [hg]⟩
          rcases List.mem_cons.1 hm with h | h
          · omega
          · have := hmin _ h; omega
      rw [hr] at this
      cases this
  intro fuel
  induction fuel with
  | zero =>
    intro listed l s E a w hsz hl hle hdn hp hs hQ
    have h0 : l = [] := List.eq_nil_of_length_eq_zero (by omega)
    subst h0
    refine ⟨?_, ?_⟩
    · cases hr : Region.ready .any ops listed with
      | nil => rfl
      | cons i r =>
        exfalso
        obtain ⟨h1, h2, _⟩ := rdy hsz (show i ∈ Region.ready .any ops listed by rw [hr]; simp)
        have : i ∈ (List.range ops.size).filter (fun i => !listed.getD i true) := List.mem_filter.2 ⟨by simpa using h1, by simp [h2]⟩
        rw [← hl] at this
        cases this
    · have : s = s' := hp
      subst this
      exact hQ a w E hs (Evo.refl _ _ _)
  | succ fuel ih =>
    intro listed l s E a w hsz hl hle hdn hp hs hQ
    refine ⟨fun hr => ?_, fun i hi => ?_⟩
    · have h0 := none_left hsz hl hr
      subst h0
      have : s = s' := hp
      subst this
      exact hQ a w E hs (Evo.refl _ _ _)
    · obtain ⟨h1, h2, h3⟩ := rdy hsz hi
      have hmem : i ∈ l := by rw [hl, List.mem_filter]; exact ⟨by simpa using h1, by simp [h2]⟩
      have hpw : l.Pairwise (· < ·) := by rw [hl]; exact List.Pairwise.filter _ List.pairwise_lt_range
      obtain ⟨pre, post, hsplit⟩ := List.append_of_mem hmem
      rw [hsplit] at hpw hp
      have hpre : ∀ j ∈ pre, j < i := fun j hj => (List.pairwise_append.1 hpw).2.2 j hj i (by simp)
      have hpost : ∀ j ∈ post, i < j := fun j hj => (List.pairwise_cons.1 (List.pairwise_append.1 hpw).2.1).1 j hj
      have hoi := Array.getElem?_eq_getElem h1
      obtain ⟨ao, hao, slot, c, xs, f1, f2, f3, f4, f5⟩ := hfit i _ hoi
      have hcom : ∀ j ∈ pre, ∀ y, as[j]? = some y → commutes y ao = true := by
        intro j hj y hy
        rcases ok2 j i y ao hy hao (hpre j hj) with hb | hc
        · exfalso
          have h4 := waits_listed hsz hdn j i _ hoi (h3 _ hoi) hb
          have hjl : j ∈ l := by rw [hsplit]; simp [hj]
          rw [hl, List.mem_filter] at hjl
          have h5 : listed.getD j true = false := by simpa using hjl.2
          have hjs : j < listed.size := by rw [hsz]; simpa using hjl.1
          simp only [Array.getD_eq_getD_getElem?, Array.getElem?_eq_getElem hjs, Option.getD_some] at h4 h5
          rw [h4] at h5
          cases h5
        · exact hc
      obtain ⟨ao', s1, hao', hst, hp'⟩ := path_front rfl hao pre post s s' hcom hp
      rw [hao] at hao'
      cases hao'
      refine op_sound hoi f1 f5 f2 f3 f4 hs hst fun a' w' E' hs' hE' => ?_
      have hget : ∀ k, (listed.setIfInBounds i true).getD k true = if k = i then true else listed.getD k true := by
        intro k
        simp only [Array.getD_eq_getD_getElem?, Array.getElem?_setIfInBounds]
        by_cases hk : i = k
        · subst hk; simp [hsz, h1]
        · simp [hk, Ne.symm hk]
      have hget' : ∀ k, listed.getD k false = true → (listed.setIfInBounds i true).getD k false = true := by
        intro k hk
        simp only [Array.getD_eq_getD_getElem?, Array.getElem?_setIfInBounds] at hk ⊢
        by_cases hki : i = k
        · subst hki; simp [hsz, h1]
        · simpa [hki] using hk
      refine ih (listed.setIfInBounds i true) (pre ++ post) s1 E' a' w' (by simpa using hsz) ?_ ?_ ?_ hp' hs' (fun a2 w2 E2 k1 k2 => hQ a2 w2 E2 k1 (hE'.trans k2))
      · have e1 : (List.range ops.size).filter (fun k => !(listed.setIfInBounds i true).getD k true) = l.filter (fun k => decide (k ≠ i)) := by
          rw [hl, List.filter_filter]
          apply List.filter_congr
          intro k _
          rw [hget k]
          by_cases hk : k = i <;> simp [hk]
        rw [e1, hsplit, List.filter_append, List.filter_cons]
        simp only [ne_eq, not_true_eq_false, decide_false, Bool.false_eq_true, if_false]
        rw [List.filter_eq_self.2 (fun k hk => by have := hpre k hk; simp; omega), List.filter_eq_self.2 (fun k hk => by have := hpost k hk; simp; omega)]
      · rw [hsplit] at hle
        simp only [List.length_append, List.length_cons] at hle ⊢
        omega
      · intro k o hk hko e he hb
        by_cases hki : k = i
        · subst hki
          exact hget' _ (h3 o hko e he hb)
        · refine hget' _ (hdn k o ?_ hko e he hb)
          simp only [Array.getD_eq_getD_getElem?, Array.getElem?_setIfInBounds] at hk ⊢
          simpa [Ne.symm hki] using hk

/-- A region of open order. -/
theorem region_draw {id : Nat} (hm : P.follows .mixedOrders = true) (hfit : ∀ (i : Nat) (o : Oper), ops[i]? = some o → ∃ ao : AOper, as[i]? = some ao ∧ Fits P own ops o ao) (hok : drawOk ops as = true) {s s' : ASt} {E : Env} {a : Act} {w : World}
    (hp : Path P G true base as (List.range ops.size) s s') (hs : Sim G lo E s a w) (hQ : ∀ a' w' E', Sim G lo E' s' a' w' → Evo lo E w E' w' → Q .normal a' w') : (Code.region id ops true).wp P Q a w := by
  refine wp_region_any hm ?_
  have hb : Below w.heap.size w { w with drawn := w.drawn + 1 } := ⟨rfl, rfl, rfl, Nat.le_refl _, fun _ _ => rfl⟩
  obtain ⟨k1, k2⟩ := hs.heap.grow hb (fun _ => False) (fun a h => h.elim)
  refine draw_go hfit hok ops.size (Array.replicate ops.size false) (List.range ops.size) s _ a _ (by simp) ?_ (by simp) ?_ hp ⟨k1, hs.tmps.mono k2, hs.defers⟩ (fun a' w' E' h1 h2 => hQ a' w' E' h1 (k2.trans h2))
  · symm
    rw [List.filter_eq_self]
    intro k hk
    have hk' : k < ops.size := by simpa using hk
    simp [Array.getD_eq_getD_getElem?, hk']
  · intro k o hk
    exfalso
    rw [Array.getD_eq_getD_getElem?, Array.getElem?_replicate] at hk
    split at hk <;> simp at hk

/-- A region that goes in the order of the text. -/
theorem region_text {id : Nat} {draw : Bool} (hfit : ∀ (i : Nat) (o : Oper), ops[i]? = some o → ∃ ao : AOper, as[i]? = some ao ∧ Fits P own ops o ao) {s s' : ASt} {E : Env} {a : Act} {w : World}
    (hp : Path P G draw base as (List.range ops.size) s s') (hs : Sim G lo E s a w) (hQ : ∀ a' w' E', Sim G lo E' s' a' w' → Evo lo E w E' w' → Q .normal a' w') : (Code.region id ops false).wp P Q a w := by
  refine wp_region ?_
  have key : ∀ (l : List Nat), (∀ i ∈ l, i < ops.size) → ∀ s E a w, Path P G draw base as l s s' → Sim G lo E s a w → (∀ a' w' E', Sim G lo E' s' a' w' → Evo lo E w E' w' → Q .normal a' w') → wpOps P ops Q l a w := by
    intro l
    induction l with
    | nil =>
      intro _ s E a w hp hs hQ
      have : s = s' := hp
      subst this
      exact hQ a w E hs (Evo.refl _ _ _)
    | cons i l ih =>
      intro hl s E a w hp hs hQ
      obtain ⟨ao', s1, hao', hst, hp'⟩ := hp
      have hoi := Array.getElem?_eq_getElem (hl i (by simp))
      obtain ⟨ao, hao, slot, c, xs, f1, f2, f3, f4, f5⟩ := hfit i _ hoi
      rw [hao] at hao'
      cases hao'
      rw [wpOps_cons]
      exact op_sound hoi f1 f5 f2 f3 f4 hs hst fun a' w' E' hs' hE' => ih (fun k hk => hl k (by simp [hk])) s1 E' a' w' hp' hs' (fun a2 w2 E2 k1 k2 => hQ a2 w2 E2 k1 (hE'.trans k2))
  exact key _ (fun i hi => by simpa using hi) s E a w hp hs hQ

end
end Go.AL
