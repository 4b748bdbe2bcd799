/- heads.May. -/
import Derived.Test.YtcppnhnomemphaaGreatDoorG31
set_option linter.unusedSimpArgs false
set_option linter.unusedVariables false
set_option maxRecDepth 100000
namespace Go.AL.Path
open Go Go.RowKit Go.Proofs Go.AL

/-! Dots, counted. -/
def dk (r q : Int) : Value := .agg #[.int .i64 r, .int .i64 q]
abbrev Cnt := List ((Int × Int) × Int)
def toEs (d : Cnt) : List (Value × Option AV) := d.map fun x => (dk x.1.1 x.1.2, some (i64 x.2))
def dget : Cnt → Int × Int → Int
  | [], _ => 0
  | (k, n) :: d, x => if k = x then n else dget d x
def dput : Cnt → Int × Int → Cnt
  | [], x => [(x, 1)]
  | (k, n) :: d, x => if k = x then (k, n + 1) :: d else (k, n) :: dput d x
theorem dk_inj {r q r' q' : Int} : dk r q = dk r' q' ↔ (r, q) = (r', q') := by simp [dk]
theorem mfind_toEs (d : Cnt) (r q : Int) : ∀ i, mfind (toEs d) (dk r q) i = (d.findIdx? fun x => decide (x.1 = (r, q))).map fun j => (i + j, some (i64 (dget d (r, q)))) := by
  induction d with
  | nil => intro i; rfl
  | cons a d ih =>
    intro i
    obtain ⟨⟨a, b⟩, n⟩ := a
    show mfind ((dk a b, some (i64 n)) :: toEs d) (dk r q) i = _
    unfold mfind
    rw [List.findIdx?_cons]
    by_cases h : (a, b) = (r, q)
    · rw [if_pos (dk_inj.2 h)]
      simp [h, dget]
    · rw [if_neg (fun h' => h (dk_inj.1 h')), ih]
      simp only [h, decide_false, Bool.false_eq_true, if_false, dget]
      cases d.findIdx? fun x => decide (x.1 = (r, q)) with
      | none => rfl
      | some j => simp [Nat.add_assoc, Nat.add_comm 1 j]
theorem dget_none {d : Cnt} {x : Int × Int} (h : (d.findIdx? fun y => decide (y.1 = x)) = none) : dget d x = 0 := by
  induction d with
  | nil => rfl
  | cons a d ih =>
    obtain ⟨k, n⟩ := a
    rw [List.findIdx?_cons] at h
    by_cases hk : k = x
    · simp [hk] at h
    · simp only [hk, decide_false, Bool.false_eq_true, if_false, Option.map_eq_none_iff] at h
      unfold dget
      rw [if_neg hk]
      exact ih h
theorem mval_toEs (d : Cnt) (r q : Int) : mval (.int .i64 0) (toEs d) (dk r q) = i64 (dget d (r, q)) := by
  unfold mval
  rw [mfind_toEs]
  cases h : d.findIdx? fun x => decide (x.1 = (r, q)) with
  | none => rw [dget_none h]; rfl
  | some j => rfl
theorem dput_none {d : Cnt} {x : Int × Int} (h : (d.findIdx? fun y => decide (y.1 = x)) = none) : dput d x = d ++ [(x, 1)] := by
  induction d with
  | nil => rfl
  | cons a d ih =>
    obtain ⟨k, n⟩ := a
    rw [List.findIdx?_cons] at h
    by_cases hk : k = x
    · simp [hk] at h
    · simp only [hk, decide_false, Bool.false_eq_true, if_false, Option.map_eq_none_iff] at h
      unfold dput
      rw [if_neg hk, ih h]; rfl
theorem dput_some {d : Cnt} {x : Int × Int} {j : Nat} (h : (d.findIdx? fun y => decide (y.1 = x)) = some j) : dput d x = d.set j (x, dget d x + 1) ∧ ∃ n, d[j]? = some (x, n) := by
  induction d generalizing j with
  | nil => simp at h
  | cons a d ih =>
    obtain ⟨k, n⟩ := a
    rw [List.findIdx?_cons] at h
    by_cases hk : k = x
    · simp only [hk, decide_true, if_true, Option.some.injEq] at h
      subst h hk
      exact ⟨by simp [dput, dget], n, rfl⟩
    · simp only [hk, decide_false, Bool.false_eq_true, if_false, Option.map_eq_some_iff] at h
      obtain ⟨i, h1, rfl⟩ := h
      obtain ⟨h2, n', h3⟩ := ih h1
      refine ⟨?_, n', by simpa using h3⟩
      unfold dput dget
      rw [if_neg hk, if_neg hk, h2]; rfl
/-- A dot is counted once more. -/
theorem bump_toEs (d : Cnt) (r q : Int) : ∃ o, (mroom (toEs d) (dk r q))[mplace (toEs d) (dk r q)]? = some (dk r q, o) ∧ (mroom (toEs d) (dk r q)).set (mplace (toEs d) (dk r q)) (dk r q, some (i64 (dget d (r, q) + 1))) = toEs (dput d (r, q)) := by
  have hf := mfind_toEs d r q 0
  cases h : d.findIdx? fun x => decide (x.1 = (r, q)) with
  | none =>
    rw [h] at hf
    have e1 : mroom (toEs d) (dk r q) = toEs d ++ [(dk r q, none)] := by unfold mroom; rw [hf]; rfl
    have e2 : mplace (toEs d) (dk r q) = (toEs d).length := by unfold mplace; rw [hf]; rfl
    rw [e1, e2]
    refine ⟨none, by simp, ?_⟩
    rw [dput_none h, dget_none h, List.set_append_right _ _ (Nat.le_refl _)]
    simp [toEs]
  | some j =>
    rw [h] at hf
    simp only [Option.map_some, Nat.zero_add] at hf
    obtain ⟨h1, n, h2⟩ := dput_some h
    have e1 : mroom (toEs d) (dk r q) = toEs d := by unfold mroom; rw [hf]
    have e2 : mplace (toEs d) (dk r q) = j := by unfold mplace; rw [hf]
    rw [e1, e2]
    refine ⟨some (i64 n), by simp [toEs, h2], ?_⟩
    rw [h1]
    simp [toEs, List.map_set]
def dm (h : List Ev) : Cnt := h.foldl (fun d e => dput d (e.r, e.q)) []
theorem dm_take {h : List Ev} {i : Nat} (hi : i < h.length) : dm (h.take (i + 1)) = dput (dm (h.take i)) ((h.getD i ev0d).r, (h.getD i ev0d).q) := by
  unfold dm
  rw [evs_take hi, List.foldl_append]; rfl
theorem dput_bound {d : Cnt} {x : Int × Int} {B : Int} (hB : 0 ≤ B) (h : ∀ y ∈ d, 0 ≤ y.2 ∧ y.2 ≤ B) : ∀ y ∈ dput d x, 0 ≤ y.2 ∧ y.2 ≤ B + 1 := by
  induction d with
  | nil => intro y hy; simp [dput] at hy; subst hy; exact ⟨by show (0 : Int) ≤ 1; omega, by show (1 : Int) ≤ _; omega⟩
  | cons a d ih =>
    obtain ⟨k, n⟩ := a
    have h0 := h (k, n) List.mem_cons_self
    intro y hy
    unfold dput at hy
    split at hy
    · rcases List.mem_cons.1 hy with rfl | hy
      · simp only at h0 ⊢; omega
      · have := h y (List.mem_cons_of_mem _ hy); omega
    · rcases List.mem_cons.1 hy with rfl | hy
      · simp only at h0 ⊢; omega
      · exact ih (fun z hz => h z (List.mem_cons_of_mem _ hz)) y hy
theorem dget_bound {d : Cnt} {x : Int × Int} {B : Int} (hB : 0 ≤ B) (h : ∀ y ∈ d, 0 ≤ y.2 ∧ y.2 ≤ B) : 0 ≤ dget d x ∧ dget d x ≤ B := by
  induction d with
  | nil => exact ⟨Int.le_refl 0, hB⟩
  | cons a d ih =>
    obtain ⟨k, n⟩ := a
    unfold dget
    split
    · exact h (k, n) List.mem_cons_self
    · exact ih fun z hz => h z (List.mem_cons_of_mem _ hz)
theorem dm_bound (h : List Ev) : ∀ y ∈ dm h, 0 ≤ y.2 ∧ y.2 ≤ h.length := by
  have : ∀ (l : List Ev) (d : Cnt) (B : Int), 0 ≤ B → (∀ y ∈ d, 0 ≤ y.2 ∧ y.2 ≤ B) → ∀ y ∈ l.foldl (fun d e => dput d (e.r, e.q)) d, 0 ≤ y.2 ∧ y.2 ≤ B + l.length := by
    intro l
    induction l with
    | nil => intro d B _ hd y hy; have := hd y hy; simp; omega
    | cons e l ih =>
      intro d B hB hd y hy
      have := ih (dput d (e.r, e.q)) (B + 1) (by omega) (dput_bound hB hd) y hy
      simp only [List.length_cons]; omega
  intro y hy
  have := this h [] 0 (by omega) (by simp) y hy
  omega
theorem dput_len (d : Cnt) (x : Int × Int) : (dput d x).length = if x ∈ d.map (·.1) then d.length else d.length + 1 := by
  induction d with
  | nil => simp [dput]
  | cons a d ih =>
    obtain ⟨k, n⟩ := a
    unfold dput
    by_cases h : k = x
    · simp [h]
    · have h' : ¬ x = k := fun e => h e.symm
      rw [if_neg h]
      simp only [List.length_cons, ih, List.map_cons, List.mem_cons, h', false_or]
      split <;> rfl
theorem dm_len (h : List Ev) : (dm h).length ≤ h.length := by
  have : ∀ (l : List Ev) (d : Cnt), (l.foldl (fun d e => dput d (e.r, e.q)) d).length ≤ d.length + l.length := by
    intro l
    induction l with
    | nil => intro d; simp
    | cons e l ih =>
      intro d
      have h1 := ih (dput d (e.r, e.q))
      have h2 := dput_len d (e.r, e.q)
      simp only [List.foldl_cons, List.length_cons]
      split at h2 <;> omega
  have := this h []
  simpa [dm] using this

def badAt (h : List Ev) (i : Nat) : Bool := !mayEv (h.getD i ev0d) || h.any (beaten (h.getD i ev0d)) || (decide (0 < i) && decide (0 ≤ cmpEv (h.getD (i - 1) ev0d) (h.getD i ev0d)))
def mayHeads (h : List Ev) : Bool := ((List.range h.length).all fun i => !badAt h i) && decide ((dm h).length = h.length)

def evsFnX (g : Nat) (f : Ev → List Ev → Bool) : PSp := fun args K => ∃ l e, args = [evsV l, .fn (.func g) [] [.rptr (evCells e) 0]] ∧ AllOk l ∧ EvOk e ∧ l.length ≤ 1099511627776 ∧ splitB (f e l) K
theorem ask_evsFnX {g f} {l : List Ev} {e : Ev} {K} (ho : AllOk l) (he : EvOk e) : ask (evsFnX g f) [evsV l, .fn (.func g) [] [.rptr (evCells e) 0]] K = (l.length ≤ 1099511627776 ∧ splitB (f e l) K) := by
  show (∃ l' e', [evsV l, .fn (.func g) [] [.rptr (evCells e) 0]] = [evsV l', .fn (.func g) [] [.rptr (evCells e') 0]] ∧ AllOk l' ∧ EvOk e' ∧ l'.length ≤ 1099511627776 ∧ splitB (f e' l') K) = _
  simp only [eq_iff_iff]
  constructor
  · rintro ⟨l', e', h1, h2, he', h3, h4⟩
    injection h1 with h1 h6
    have h5 : l.map evV = l'.map evV := by injection h1
    obtain rfl := evs_inj ho h2 h5
    injection h6 with h6 _
    injection h6 with _ _ h6
    injection h6 with h6 _
    injection h6 with h6 _
    have h13 := evOf_cells he.len
    rw [h6, evOf_cells he'.len] at h13
    cases h13
    exact ⟨h3, h4⟩
  · exact fun h => ⟨l, e, rfl, ho, he, h⟩
theorem told_evsFnX {F g f} (h : ∀ l e, AllOk l → EvOk e → l.length ≤ 1099511627776 → Pure Tryz.prog G F [evsV l, .fn (.func g) [] [.rptr (evCells e) 0]] (bool (f e l))) : Told Tryz.prog G F (evsFnX g f) := by
  rintro args K ⟨l, e, rfl, h1, h2, h3, h4⟩
  exact ⟨_, h _ _ h1 h2 h3, splitB_of h4⟩

theorem toEs_low (n : Nat) (d : Cnt) : ∀ p ∈ toEs d, ∀ a, p.2 = some a → a.low n := by
  intro p hp a ha
  simp only [toEs, List.mem_map] at hp
  obtain ⟨x, _, rfl⟩ := hp
  cases ha
  trivial

abbrev AllIn (h : List Ev) : Prop := ∀ e ∈ h, In64 e.r ∧ In64 e.q
theorem evs_in {l : List Ev} (hi : AllIn l) (i : Nat) : In64 (l.getD i ev0d).r ∧ In64 (l.getD i ev0d).q := by
  rw [List.getD_eq_getElem?_getD]
  by_cases h : i < l.length
  · rw [List.getElem?_eq_getElem h]; exact hi _ (List.getElem_mem h)
  · rw [List.getElem?_eq_none (by omega)]; exact ⟨⟨by decide, by decide⟩, ⟨by decide, by decide⟩⟩
def ev1i (f : Ev → Bool) : PSp := fun args K => ∃ e, args = [evV e] ∧ EvOk e ∧ In64 e.r ∧ In64 e.q ∧ splitB (f e) K
theorem ask_ev1i {f} {e : Ev} {K} (he : EvOk e) (h : In64 e.r ∧ In64 e.q) : ask (ev1i f) [evV e] K = splitB (f e) K := by
  show (∃ e', [evV e] = [evV e'] ∧ EvOk e' ∧ In64 e'.r ∧ In64 e'.q ∧ splitB (f e') K) = _
  simp only [eq_iff_iff]
  constructor
  · rintro ⟨e', h1, h2, _, _, h3⟩
    injection h1 with h1 _
    injection h1 with h1
    have h13 := evOf_cells he.len
    rw [h1, evOf_cells h2.len] at h13
    cases h13
    exact h3
  · exact fun hK => ⟨e, rfl, he, h.1, h.2, hK⟩
theorem told_ev1i {F f} (h : ∀ e, EvOk e → In64 e.r → In64 e.q → Pure Tryz.prog G F [evV e] (bool (f e))) : Told Tryz.prog G F (ev1i f) := by
  rintro args K ⟨e, rfl, h1, h2, h3, h4⟩
  exact ⟨_, h _ h1 h2 h3, splitB_of h4⟩

def c10 : ACode := (.seq (.reg false 0 [⟨(.some 2), none, (.q .mv), [(.c (.imm (.bool false)))]⟩]) (.seq (.reg false 1 [⟨(.some 7), none, (.m (.mkmap (.ints [.i64, .i64]) (.int .i64 0)) 0), []⟩, ⟨(.some 3), none, (.q .mv), [(.t 7)]⟩]) (.seq (.seq (.reg false 0 [⟨(.some 8), none, (.q .mv), [(.t 0)]⟩, ⟨(.some 9), none, (.q .lenL), [(.t 8)]⟩, ⟨(.some 10), none, (.q .mv), [(.c (.imm (.int .i64 0)))]⟩]) (.block 0 (.loop (.seq (.reg false 0 [⟨(.some 11), none, (.q (.bin .lss 3)), [(.t 10), (.t 9)]⟩]) (.seq (.cond (.t 11) .skip (.exit 0)) (.seq (.block 1 (.seq (.reg false 1 [⟨(.some 12), none, (.q .mv), [(.t 10)]⟩, ⟨(.some 13), none, (.q (.iaddrS 38)), [(.t 8), (.t 10)]⟩, ⟨(.some 14), none, (.l (.loadA 38)), [(.t 13)]⟩, ⟨(.some 5), none, (.m (.alloc [(.imm (.int .i64 0)), (.imm (.int .i64 0)), (.sl 0 [] none), (.imm (.int .i64 0)), (.imm (.string (B []))), (.imm (.int .u8 0)), (.imm (.int .u8 0)), (.imm (.int .u8 0)), (.imm (.int .u8 0)), (.imm (.int .u8 0)), (.imm (.int .u8 0)), (.imm (.int .u8 0)), (.imm (.int .u8 0)), (.imm (.int .u8 0)), (.imm (.int .u8 0)), (.imm (.int .u8 0)), (.imm (.int .u8 0)), (.imm (.int .u8 0)), (.imm (.int .u8 0)), (.imm (.int .u8 0)), (.imm (.int .u8 0)), (.imm (.int .u8 0)), (.imm (.int .u8 0)), (.imm (.int .u8 0)), (.imm (.int .u8 0)), (.imm (.int .u8 0)), (.imm (.int .u8 0)), (.imm (.int .u8 0)), (.imm (.int .u8 0)), (.imm (.int .u8 0)), (.imm (.int .u8 0)), (.imm (.int .u8 0)), (.imm (.int .u8 0)), (.imm (.int .u8 0)), (.imm (.int .u8 0)), (.imm (.int .u8 0)), (.imm (.int .u8 0)), (.imm (.int .i64 0))] false) 0), []⟩, ⟨(.some 4), none, (.q .mv), [(.t 12)]⟩, ⟨none, none, (.e (.store 38)), [(.t 5), (.t 14)]⟩]) (.seq (.reg true 0 [⟨(.some 15), none, (.q .mv), [(.t 3)]⟩, ⟨(.some 16), none, (.q (.faddr 0)), [(.t 5)]⟩, ⟨(.some 17), none, (.l (.loadA 2)), [(.t 16)]⟩, ⟨(.some 18), none, (.l (.mlook (.ints [.i64, .i64]) (.int .i64 0) false)), [(.t 15), (.t 17)]⟩, ⟨(.some 19), none, (.q (.bin .add 3)), [(.t 18), (.c (.imm (.int .i64 1)))]⟩, ⟨(.some 20), none, (.e (.mentry (.ints [.i64, .i64]) (.int .i64 0))), [(.t 15), (.t 17)]⟩, ⟨(.some 21), none, (.q (.ext 1)), [(.t 20)]⟩, ⟨none, none, (.e (.mstore (.ints [.i64, .i64]) (.int .i64 0))), [(.t 15), (.t 21), (.t 19)]⟩]) (.seq (.reg false 0 [⟨(.some 22), none, (.q .mv), [(.t 0)]⟩, ⟨(.some 23), none, (.q (.mkfn (.func 26) 0)), [(.t 5)]⟩, ⟨(.some 24), none, (.call true), [(.c (.fn (.func 25) [] [])), (.t 22), (.t 23)]⟩, ⟨(.some 6), none, (.q .mv), [(.t 24)]⟩]) (.seq (.reg true 0 [⟨(.some 25), none, (.l (.loadA 38)), [(.t 5)]⟩, ⟨(.some 26), none, (.call true), [(.c (.fn (.func 28) [] [])), (.t 25)]⟩, ⟨(.some 27), none, (.q (.un .not)), [(.t 26)]⟩, ⟨(.some 28), none, (.q .mv), [(.t 27)]⟩, ⟨(.some 29), (.some (28, false)), (.q .mv), [(.t 6)]⟩, ⟨(.some 30), none, (.q .pick), [(.t 28), (.c (.imm (.bool true))), (.t 29)]⟩, ⟨(.some 31), none, (.q .mv), [(.t 30)]⟩, ⟨(.some 32), (.some (31, false)), (.q .mv), [(.t 4)]⟩, ⟨(.some 33), (.some (31, false)), (.q (.bin .gtr 3)), [(.t 32), (.c (.imm (.int .i64 0)))]⟩, ⟨(.some 34), (.some (31, false)), (.q .mv), [(.t 33)]⟩, ⟨(.some 35), (.some (34, true)), (.q .mv), [(.t 0)]⟩, ⟨(.some 36), (.some (34, true)), (.q .mv), [(.t 4)]⟩, ⟨(.some 37), (.some (34, true)), (.q (.bin .sub 3)), [(.t 36), (.c (.imm (.int .i64 1)))]⟩, ⟨(.some 38), (.some (34, true)), (.q (.iaddrS 38)), [(.t 35), (.t 37)]⟩, ⟨(.some 39), (.some (34, true)), (.l (.loadA 38)), [(.t 38)]⟩, ⟨(.some 40), (.some (34, true)), (.l (.loadA 38)), [(.t 5)]⟩, ⟨(.some 41), (.some (34, true)), (.call true), [(.c (.fn (.func 29) [] [])), (.t 39), (.t 40)]⟩, ⟨(.some 42), (.some (34, true)), (.q (.bin .geq 3)), [(.t 41), (.c (.imm (.int .i64 0)))]⟩, ⟨(.some 43), (.some (31, false)), (.q .pick), [(.t 34), (.t 42), (.c (.imm (.bool false)))]⟩, ⟨(.some 44), none, (.q .pick), [(.t 31), (.c (.imm (.bool true))), (.t 43)]⟩]) (.cond (.t 44) (.seq (.reg false 0 [⟨(.some 2), none, (.q .mv), [(.c (.imm (.bool false)))]⟩]) .ret) .skip)))))) (.reg false 0 [⟨(.some 45), none, (.q (.bin .add 3)), [(.t 10), (.c (.imm (.int .i64 1)))]⟩, ⟨(.some 10), none, (.q .mv), [(.t 45)]⟩]))))))) (.seq (.reg false 0 [⟨(.some 46), none, (.q .mv), [(.t 3)]⟩, ⟨(.some 47), none, (.l .mlen), [(.t 46)]⟩, ⟨(.some 48), none, (.q .mv), [(.t 0)]⟩, ⟨(.some 49), none, (.q .lenL), [(.t 48)]⟩, ⟨(.some 50), none, (.q (.bin .eql 3)), [(.t 47), (.t 49)]⟩, ⟨(.some 2), none, (.q .mv), [(.t 50)]⟩]) .ret))))
theorem fn10 : IsFn Tryz.prog 10 [] c10 [2] 51 := ⟨_, _, Tryz.func10, rfl, by decide +kernel, by kernel_rfl, rfl, rfl⟩
set_option maxHeartbeats 8000000 in
theorem p10c (h : List Ev) (ho : AllOk h) (hin : AllIn h) (hs : h.length ≤ 1099511627) : Pure Tryz.prog G 10 [evsV h] (bool (mayHeads h)) := by
  refine pure_of_code' (S := sp [(28, ev1i mayEv), (29, ev2n cmpEv)] [(25, lendT (evsFnX 26 fun e l => l.any (beaten e)))]) hm hG
    (sp_holds (.cons (told_ev1i p28m) (.cons (told_ev2n p29c) .nil)) (.cons (toldT_lend hG (told_evsFnX fun l e h1 h2 h3 => p25c (show lows 0 [AV.rptr (evCells e) 0] from ⟨lows_ev 0 e, trivial⟩) rfl (fun f hf => p26c e f h2 hf) l h1 h3)) .nil)) fn10 (St 11 51 [evsV h, .junk, .junk, .junk, .junk, .junk, .junk, .junk, .junk, .junk, .junk] []) (by kernel_rfl) (by simp [lows, AV.low, lows_evs]) (by simp [AV.low]) ?_
  simp (maxSteps := 2000000) -implicitDefEqProofs only [c10, RS, RX, Nat.reduceLT, ↓RP0, ↓RP1, ↓RP2, ↓RP3, RV, RW, ↓reduceIte, Nat.reduceAdd, Nat.reduceSub, Nat.reduceMul, Nat.reduceLeDiff, Nat.reduceEqDiff, Int.reduceLT, Int.reduceLE, Int.reduceEq, Int.reduceNe, Int.reduceAdd, Int.reduceSub, Int.reduceMul, Int.reduceNeg, Int.reduceToNat, reduceCtorEq, evs_len, eq_self]
  refine loopB (st := fun (i : Nat) => (St 11 51 [evsV h, .junk, .imm (.bool false), .mp 0, .junk, .junk, .junk, .junk, evsV h, i64 h.length, i64 i] [])) (hp := fun i => [.map (.ints [.i64, .i64]) (.int .i64 0) (toEs (dm (h.take i)))]) (I := fun i => i ≤ h.length ∧ ((List.range i).all fun j => !badAt h j) = true) (m := fun i => h.length - i) (0 : Nat) ⟨Nat.zero_le _, rfl⟩ ?_ ?_
  · refine weak_sameS (by simp) ?_ ?_
    · simp [AObj.low, dm, toEs]
    · simp [WeakL, AV.low, lows, lows_evs]
  · rintro i ⟨hi, hn⟩
    by_cases hlt : i < h.length
    · have e1 := evs_get hlt
      have e3 : (i : Int) < (h.length : Int) := by omega
      have o1 := evs_ok ho i
      have o0 := evs_ok ho (i - 1)
      have i1 := evs_in hin i
      have t1 := dm_take hlt
      have hbad : badAt h i = (!mayEv (h.getD i ev0d) || h.any (beaten (h.getD i ev0d)) || (decide (0 < i) && decide (0 ≤ cmpEv (h.getD (i - 1) ev0d) (h.getD i ev0d)))) := rfl
      have e1' : 0 < i → (h.map evV).getD (i - 1) .junk = evV (h.getD (i - 1) ev0d) := fun _ => evs_get (by omega)
      have hb := dm_bound (h.take i)
      generalize hx : h.getD i ev0d = x at *
      generalize hy : h.getD (i - 1) ev0d = y at *
      generalize hd : dm (h.take i) = d at *
      have l1 := ev_len o1.len
      have k1 := take38 o1
      have l0 := ev_len o0.len
      have k0 := take38 o0
      have hbnd := dget_bound (d := d) (x := (x.r, x.q)) (B := i) (by omega) (fun z hz => by have := hb z hz; rw [List.length_take] at this; omega)
      have mv := mval_toEs d x.r x.q
      obtain ⟨o, mg, ms⟩ := bump_toEs d x.r x.q
      have kv : keyVal (.ints [.i64, .i64]) (.agg [i64 x.r, i64 x.q]) = some (dk x.r x.q) := rfl
      have q1 : ∀ K, ask (ev1i mayEv) [.agg (evCells x)] K = splitB (mayEv x) K := fun K => ask_ev1i o1 i1
      have q2 : ∀ K, ask (ev2n cmpEv) [.agg (evCells y), .agg (evCells x)] K = K (i64 (cmpEv y x)) := fun K => ask_ev2n o0 o1
      have q3 : ∀ K, ask (evsFnX 26 fun e l => l.any (beaten e)) [.sl 38 (h.map evV) none, .fn (.func 26) [] [.rptr (evCells x) 0]] K = (h.length ≤ 1099511627776 ∧ splitB (h.any (beaten x)) K) := fun K => ask_evsFnX ho o1
      have lw : lows 0 [AV.sl 38 (h.map evV) none, AV.fn (.func 26) [] [.rptr (evCells x) 0]] = True := eq_true (by simp [lows, AV.low, lows_evs, lows_ev])
      have hall : ∀ b, badAt h i = b → ((List.range (i + 1)).all fun j => !badAt h j) = !b := fun b hb => by rw [List.range_succ, List.all_append, hn]; simp [hb]
      have hfalse : badAt h i = true → mayHeads h = false := fun hb => by
        have : ((List.range h.length).all fun j => !badAt h j) = false := by
          rw [List.all_eq_false]
          exact ⟨i, List.mem_range.2 hlt, by simp [hb]⟩
        simp [mayHeads, this]
      cases b1 : mayEv x with
      | false =>
        have hf := hfalse (by rw [hbad, b1]; rfl)
        simp (maxSteps := 2000000) -implicitDefEqProofs only [RS, RX, Nat.reduceLT, ↓RP0, ↓RP1, ↓RP2, ↓RP3, RV, RW, ↓reduceIte, Nat.reduceAdd, Nat.reduceSub, Nat.reduceMul, Nat.reduceLeDiff, Nat.reduceEqDiff, Int.reduceLT, Int.reduceLE, Int.reduceEq, Int.reduceNe, Int.reduceAdd, Int.reduceSub, Int.reduceMul, Int.reduceNeg, Int.reduceToNat, reduceCtorEq, ↓q1, q1, ↓q2, q2, ↓q3, q3, ↓askT_lend, askT_lend, lendV_rs, lendV_fn, lendV_sl, lend1_ptr, lendP_box, lw, e1, e3, evs_len, l1, k1, l0, k0, ev_strip, ev_take, mv, mg, ms, kv, b1, hf, AV.cells, eq_self]
        exact ⟨⟨by omega, by omega⟩, by omega⟩
      | true =>
        cases b2 : h.any (beaten x) with
        | true =>
          have hf := hfalse (by rw [hbad, b1, b2]; rfl)
          simp (maxSteps := 2000000) -implicitDefEqProofs only [RS, RX, Nat.reduceLT, ↓RP0, ↓RP1, ↓RP2, ↓RP3, RV, RW, ↓reduceIte, Nat.reduceAdd, Nat.reduceSub, Nat.reduceMul, Nat.reduceLeDiff, Nat.reduceEqDiff, Int.reduceLT, Int.reduceLE, Int.reduceEq, Int.reduceNe, Int.reduceAdd, Int.reduceSub, Int.reduceMul, Int.reduceNeg, Int.reduceToNat, reduceCtorEq, ↓q1, q1, ↓q2, q2, ↓q3, q3, ↓askT_lend, askT_lend, lendV_rs, lendV_fn, lendV_sl, lend1_ptr, lendP_box, lw, e1, e3, evs_len, l1, k1, l0, k0, ev_strip, ev_take, mv, mg, ms, kv, b1, b2, hf, AV.cells, eq_self]
          exact ⟨⟨by omega, by omega⟩, by omega⟩
        | false =>
          by_cases h0 : 0 < i
          · have e0 : ((0 : Int) < (i : Int)) = True := eq_true (by omega)
            have e2 := e1' h0
            have e4 : ((i : Int) - 1).toNat = i - 1 := by omega
            by_cases hc : 0 ≤ cmpEv y x
            · have hf := hfalse (by rw [hbad, b1, b2]; simp [h0, hc])
              have hc' : (0 ≤ cmpEv y x) = True := eq_true hc
              simp (maxSteps := 2000000) -implicitDefEqProofs only [RS, RX, Nat.reduceLT, ↓RP0, ↓RP1, ↓RP2, ↓RP3, RV, RW, ↓reduceIte, Nat.reduceAdd, Nat.reduceSub, Nat.reduceMul, Nat.reduceLeDiff, Nat.reduceEqDiff, Int.reduceLT, Int.reduceLE, Int.reduceEq, Int.reduceNe, Int.reduceAdd, Int.reduceSub, Int.reduceMul, Int.reduceNeg, Int.reduceToNat, reduceCtorEq, ↓q1, q1, ↓q2, q2, ↓q3, q3, ↓askT_lend, askT_lend, lendV_rs, lendV_fn, lendV_sl, lend1_ptr, lendP_box, lw, e0, e1, e2, e3, e4, hc', evs_len, l1, k1, l0, k0, ev_strip, ev_take, mv, mg, ms, kv, b1, b2, hf, AV.cells, eq_self]
              exact ⟨⟨by omega, by omega⟩, by omega, ⟨by omega, by omega⟩, by omega, by omega⟩
            · have hc' : (0 ≤ cmpEv y x) = False := eq_false hc
              have hg := hall false (by rw [hbad, b1, b2]; simp [hc])
              simp (maxSteps := 2000000) -implicitDefEqProofs only [RS, RX, Nat.reduceLT, ↓RP0, ↓RP1, ↓RP2, ↓RP3, RV, RW, ↓reduceIte, Nat.reduceAdd, Nat.reduceSub, Nat.reduceMul, Nat.reduceLeDiff, Nat.reduceEqDiff, Int.reduceLT, Int.reduceLE, Int.reduceEq, Int.reduceNe, Int.reduceAdd, Int.reduceSub, Int.reduceMul, Int.reduceNeg, Int.reduceToNat, reduceCtorEq, ↓q1, q1, ↓q2, q2, ↓q3, q3, ↓askT_lend, askT_lend, lendV_rs, lendV_fn, lendV_sl, lend1_ptr, lendP_box, lw, e0, e1, e2, e3, e4, hc', evs_len, l1, k1, l0, k0, ev_strip, ev_take, mv, mg, ms, kv, b1, b2, AV.cells, eq_self]
              refine ⟨⟨by omega, by omega⟩, by omega, ⟨by omega, by omega⟩, by omega, by omega, ⟨by omega, by omega⟩, i + 1, by dsimp only; omega, ⟨by omega, hg⟩, ?_⟩
              dsimp only
              rw [t1]
              refine weak_cutS 1 (by decide) (by simp) ?_ ?_
              · intro o ho
                rw [List.mem_singleton.1 ho]
                exact toEs_low _ _
              · simp [WeakL, AV.low, lows, lows_evs]
          · have e0 : ((0 : Int) < (i : Int)) = False := eq_false (by omega)
            have hg := hall false (by rw [hbad, b1, b2]; simp [h0])
            simp (maxSteps := 2000000) -implicitDefEqProofs only [RS, RX, Nat.reduceLT, ↓RP0, ↓RP1, ↓RP2, ↓RP3, RV, RW, ↓reduceIte, Nat.reduceAdd, Nat.reduceSub, Nat.reduceMul, Nat.reduceLeDiff, Nat.reduceEqDiff, Int.reduceLT, Int.reduceLE, Int.reduceEq, Int.reduceNe, Int.reduceAdd, Int.reduceSub, Int.reduceMul, Int.reduceNeg, Int.reduceToNat, reduceCtorEq, ↓q1, q1, ↓q2, q2, ↓q3, q3, ↓askT_lend, askT_lend, lendV_rs, lendV_fn, lendV_sl, lend1_ptr, lendP_box, lw, e0, e1, e3, evs_len, l1, k1, l0, k0, ev_strip, ev_take, mv, mg, ms, kv, b1, b2, AV.cells, eq_self]
            refine ⟨⟨by omega, by omega⟩, by omega, ⟨by omega, by omega⟩, i + 1, by dsimp only; omega, ⟨by omega, hg⟩, ?_⟩
            dsimp only
            rw [t1]
            refine weak_cutS 1 (by decide) (by simp) ?_ ?_
            · intro o ho
              rw [List.mem_singleton.1 ho]
              exact toEs_low _ _
            · simp [WeakL, AV.low, lows, lows_evs]
    · obtain rfl : i = h.length := by omega
      rw [List.take_length] at *
      simp (maxSteps := 2000000) -implicitDefEqProofs only [RS, RX, Nat.reduceLT, ↓RP0, ↓RP1, ↓RP2, ↓RP3, RV, RW, ↓reduceIte, Nat.reduceAdd, Nat.reduceSub, Nat.reduceMul, Nat.reduceLeDiff, Nat.reduceEqDiff, Int.reduceLT, Int.reduceLE, Int.reduceEq, Int.reduceNe, Int.reduceAdd, Int.reduceSub, Int.reduceMul, Int.reduceNeg, Int.reduceToNat, reduceCtorEq, evs_len, Int.lt_irrefl]
      have hl : (toEs (dm h)).length = (dm h).length := List.length_map _
      rw [hl]
      refine ⟨fun h1 => ?_, fun h1 => ?_⟩
      · have : (dm h).length = h.length := by omega
        simp [mayHeads, hn, this]
      · have : ¬ (dm h).length = h.length := by omega
        simp [mayHeads, this]
end Go.AL.Path

/- The reference's May of heads; small; how many events of a replica a vector has. -/
set_option linter.unusedSimpArgs false
set_option linter.unusedVariables false
set_option maxRecDepth 100000
namespace Go.AL.Path
open Go Go.RowKit Go.Proofs Go.AL

/-- Two of them may not both be heads. -/
def pairBad (x z : Ev) : Bool := decide (x.r = z.r ∧ x.q = z.q) || (decide (x.path = z.path) && knows x z)
def okR (h : List Ev) (i : Nat) : Bool := mayEv (h.getD i ev0d) && !(decide (0 < i) && decide (0 ≤ cmpEv (h.getD (i - 1) ev0d) (h.getD i ev0d))) && (List.range h.length).all fun k => !(decide (¬ i = k) && pairBad (h.getD i ev0d) (h.getD k ev0d))
def mayRef (h : List Ev) : Bool := (List.range h.length).all fun i => okR h i

theorem mayRef_no {h : List Ev} {i : Nat} (hi : i < h.length) (hb : okR h i = false) : mayRef h = false := by
  unfold mayRef
  rw [List.all_eq_false]
  exact ⟨i, List.mem_range.2 hi, by simp [hb]⟩

def c20 : ACode := (.seq (.reg false 0 [⟨(.some 2), none, (.q .mv), [(.c (.imm (.bool false)))]⟩]) (.seq (.seq (.reg false 0 [⟨(.some 3), none, (.q .mv), [(.c (.imm (.int .i64 0)))]⟩]) (.block 0 (.loop (.seq (.seq (.reg false 0 [⟨(.some 5), none, (.q .mv), [(.t 3)]⟩, ⟨(.some 6), none, (.q .mv), [(.t 0)]⟩, ⟨(.some 7), none, (.q .lenL), [(.t 6)]⟩, ⟨(.some 8), none, (.q (.bin .lss 3)), [(.t 5), (.t 7)]⟩]) (.cond (.t 8) .skip (.exit 0))) (.seq (.block 1 (.seq (.seq (.reg true 0 [⟨(.some 11), none, (.q .mv), [(.t 0)]⟩, ⟨(.some 12), none, (.q .mv), [(.t 3)]⟩, ⟨(.some 13), none, (.q (.iaddrS 38)), [(.t 11), (.t 12)]⟩, ⟨(.some 14), none, (.l (.loadA 38)), [(.t 13)]⟩, ⟨(.some 15), none, (.call true), [(.c (.fn (.func 48) [] [])), (.t 14)]⟩, ⟨(.some 16), none, (.q (.un .not)), [(.t 15)]⟩, ⟨(.some 17), none, (.q .mv), [(.t 16)]⟩, ⟨(.some 18), (.some (17, false)), (.q .mv), [(.t 3)]⟩, ⟨(.some 19), (.some (17, false)), (.q (.bin .gtr 3)), [(.t 18), (.c (.imm (.int .i64 0)))]⟩, ⟨(.some 20), (.some (17, false)), (.q .mv), [(.t 19)]⟩, ⟨(.some 21), (.some (20, true)), (.q .mv), [(.t 0)]⟩, ⟨(.some 22), (.some (20, true)), (.q .mv), [(.t 3)]⟩, ⟨(.some 23), (.some (20, true)), (.q (.bin .sub 3)), [(.t 22), (.c (.imm (.int .i64 1)))]⟩, ⟨(.some 24), (.some (20, true)), (.q (.iaddrS 38)), [(.t 21), (.t 23)]⟩, ⟨(.some 25), (.some (20, true)), (.l (.loadA 38)), [(.t 24)]⟩, ⟨(.some 26), (.some (20, true)), (.q .mv), [(.t 0)]⟩, ⟨(.some 27), (.some (20, true)), (.q .mv), [(.t 3)]⟩, ⟨(.some 28), (.some (20, true)), (.q (.iaddrS 38)), [(.t 26), (.t 27)]⟩, ⟨(.some 29), (.some (20, true)), (.l (.loadA 38)), [(.t 28)]⟩, ⟨(.some 30), (.some (20, true)), (.call true), [(.c (.fn (.func 45) [] [])), (.t 25), (.t 29)]⟩, ⟨(.some 31), (.some (20, true)), (.q (.bin .geq 3)), [(.t 30), (.c (.imm (.int .i64 0)))]⟩, ⟨(.some 32), (.some (17, false)), (.q .pick), [(.t 20), (.t 31), (.c (.imm (.bool false)))]⟩, ⟨(.some 33), none, (.q .pick), [(.t 17), (.c (.imm (.bool true))), (.t 32)]⟩]) (.cond (.t 33) (.seq (.reg false 0 [⟨(.some 2), none, (.q .mv), [(.c (.imm (.bool false)))]⟩]) .ret) .skip)) (.seq (.reg false 0 [⟨(.some 4), none, (.q .mv), [(.c (.imm (.int .i64 0)))]⟩]) (.block 2 (.loop (.seq (.seq (.reg false 0 [⟨(.some 34), none, (.q .mv), [(.t 4)]⟩, ⟨(.some 35), none, (.q .mv), [(.t 0)]⟩, ⟨(.some 36), none, (.q .lenL), [(.t 35)]⟩, ⟨(.some 37), none, (.q (.bin .lss 3)), [(.t 34), (.t 36)]⟩]) (.cond (.t 37) .skip (.exit 2))) (.seq (.block 3 (.seq (.reg true 0 [⟨(.some 40), none, (.q .mv), [(.t 3)]⟩, ⟨(.some 41), none, (.q .mv), [(.t 4)]⟩, ⟨(.some 42), none, (.q (.bin .neq 3)), [(.t 40), (.t 41)]⟩, ⟨(.some 43), none, (.q .mv), [(.t 42)]⟩, ⟨(.some 44), (.some (43, true)), (.q .mv), [(.t 0)]⟩, ⟨(.some 45), (.some (43, true)), (.q .mv), [(.t 3)]⟩, ⟨(.some 46), (.some (43, true)), (.q (.iaddrS 38)), [(.t 44), (.t 45)]⟩, ⟨(.some 47), (.some (43, true)), (.q (.faddr 0)), [(.t 46)]⟩, ⟨(.some 48), (.some (43, true)), (.l (.loadA 2)), [(.t 47)]⟩, ⟨(.some 49), (.some (43, true)), (.q .mv), [(.t 0)]⟩, ⟨(.some 50), (.some (43, true)), (.q .mv), [(.t 4)]⟩, ⟨(.some 51), (.some (43, true)), (.q (.iaddrS 38)), [(.t 49), (.t 50)]⟩, ⟨(.some 52), (.some (43, true)), (.q (.faddr 0)), [(.t 51)]⟩, ⟨(.some 53), (.some (43, true)), (.l (.loadA 2)), [(.t 52)]⟩, ⟨(.some 54), (.some (43, true)), (.q (.eqA false 2)), [(.t 48), (.t 53)]⟩, ⟨(.some 55), (.some (43, true)), (.q .mv), [(.t 54)]⟩, ⟨(.some 56), (.some (55, false)), (.q .mv), [(.t 0)]⟩, ⟨(.some 57), (.some (55, false)), (.q .mv), [(.t 3)]⟩, ⟨(.some 58), (.some (55, false)), (.q (.iaddrS 38)), [(.t 56), (.t 57)]⟩, ⟨(.some 59), (.some (55, false)), (.q (.faddr 4)), [(.t 58)]⟩, ⟨(.some 60), (.some (55, false)), (.l .load1), [(.t 59)]⟩, ⟨(.some 61), (.some (55, false)), (.q .mv), [(.t 0)]⟩, ⟨(.some 62), (.some (55, false)), (.q .mv), [(.t 4)]⟩, ⟨(.some 63), (.some (55, false)), (.q (.iaddrS 38)), [(.t 61), (.t 62)]⟩, ⟨(.some 64), (.some (55, false)), (.q (.faddr 4)), [(.t 63)]⟩, ⟨(.some 65), (.some (55, false)), (.l .load1), [(.t 64)]⟩, ⟨(.some 66), (.some (55, false)), (.q (.bin .eql 9)), [(.t 60), (.t 65)]⟩, ⟨(.some 67), (.some (55, false)), (.q .mv), [(.t 66)]⟩, ⟨(.some 68), (.some (67, true)), (.q .mv), [(.t 0)]⟩, ⟨(.some 69), (.some (67, true)), (.q .mv), [(.t 3)]⟩, ⟨(.some 70), (.some (67, true)), (.q (.iaddrS 38)), [(.t 68), (.t 69)]⟩, ⟨(.some 71), (.some (67, true)), (.l (.loadA 38)), [(.t 70)]⟩, ⟨(.some 72), (.some (67, true)), (.q .mv), [(.t 0)]⟩, ⟨(.some 73), (.some (67, true)), (.q .mv), [(.t 4)]⟩, ⟨(.some 74), (.some (67, true)), (.q (.iaddrS 38)), [(.t 72), (.t 73)]⟩, ⟨(.some 75), (.some (67, true)), (.l (.loadA 38)), [(.t 74)]⟩, ⟨(.some 76), (.some (67, true)), (.call true), [(.c (.fn (.func 12) [] [])), (.t 71), (.t 75)]⟩, ⟨(.some 77), (.some (55, false)), (.q .pick), [(.t 67), (.t 76), (.c (.imm (.bool false)))]⟩, ⟨(.some 78), (.some (43, true)), (.q .pick), [(.t 55), (.c (.imm (.bool true))), (.t 77)]⟩, ⟨(.some 79), none, (.q .pick), [(.t 43), (.t 78), (.c (.imm (.bool false)))]⟩]) (.cond (.t 79) (.seq (.reg false 0 [⟨(.some 2), none, (.q .mv), [(.c (.imm (.bool false)))]⟩]) .ret) .skip))) (.reg false 0 [⟨(.some 38), none, (.q .mv), [(.t 4)]⟩, ⟨(.some 39), none, (.q (.bin .add 3)), [(.t 38), (.c (.imm (.int .i64 1)))]⟩, ⟨(.some 4), none, (.q .mv), [(.t 39)]⟩])))))))) (.reg false 0 [⟨(.some 9), none, (.q .mv), [(.t 3)]⟩, ⟨(.some 10), none, (.q (.bin .add 3)), [(.t 9), (.c (.imm (.int .i64 1)))]⟩, ⟨(.some 3), none, (.q .mv), [(.t 10)]⟩])))))) (.seq (.reg false 0 [⟨(.some 2), none, (.q .mv), [(.c (.imm (.bool true)))]⟩]) .ret)))
theorem fn20 : IsFn Tryz.prog 20 [] c20 [2] 80 := ⟨_, _, Tryz.func20, rfl, by decide +kernel, by kernel_rfl, rfl, rfl⟩
set_option maxHeartbeats 8000000 in
theorem p20' (h : List Ev) (ho : AllOk h) (hin : AllIn h) (hs : h.length ≤ 1099511627) : Pure Tryz.prog G 20 [evsV h] (bool (mayRef h)) := by
  refine pure_of_code' (S := sp [(48, ev1i mayEv), (45, ev2n cmpEv), (12, ev2b knows)] []) hm hG
    (sp_holds (.cons (told_ev1i p48') (.cons (told_ev2n p45') (.cons (told_ev2b p12') .nil))) .nil) fn20 (St 5 80 [evsV h, .junk, .junk, .junk, .junk] []) (by kernel_rfl) (by simp [lows, AV.low, lows_evs]) (by simp [AV.low]) ?_
  simp (maxSteps := 2000000) -implicitDefEqProofs only [c20, RS, RX, Nat.reduceLT, ↓RP0, ↓RP1, ↓RP2, ↓RP3, RV, RW, ↓reduceIte, Nat.reduceAdd, Nat.reduceSub, Nat.reduceMul, Nat.reduceLeDiff, Nat.reduceEqDiff, Int.reduceLT, Int.reduceLE, Int.reduceEq, Int.reduceNe, Int.reduceAdd, Int.reduceSub, Int.reduceMul, Int.reduceNeg, Int.reduceToNat, reduceCtorEq, evs_len]
  refine loopB (st := fun (i : Nat) => (St 5 80 [evsV h, .junk, .imm (.bool false), i64 i, .junk] [])) (hp := fun i => []) (I := fun i => i ≤ h.length ∧ ((List.range i).all fun j => okR h j) = true) (m := fun i => h.length - i) (0 : Nat) ⟨Nat.zero_le _, rfl⟩ ?_ ?_
  · refine weak_nilS ?_; simp [WeakL, AV.low, lows, lows_evs]
  · rintro i ⟨hi, hn⟩
    by_cases hlt : i < h.length
    · have e1 := evs_get hlt
      have e3 : (i : Int) < (h.length : Int) := by omega
      have o1 := evs_ok ho i
      have i1 := evs_in hin i
      have o0 := evs_ok ho (i - 1)
      have hok : okR h i = (mayEv (h.getD i ev0d) && !(decide (0 < i) && decide (0 ≤ cmpEv (h.getD (i - 1) ev0d) (h.getD i ev0d))) && (List.range h.length).all fun k => !(decide (¬ i = k) && pairBad (h.getD i ev0d) (h.getD k ev0d))) := rfl
      have e1' : 0 < i → (h.map evV).getD (i - 1) .junk = evV (h.getD (i - 1) ev0d) := fun _ => evs_get (by omega)
      have hno := mayRef_no (h := h) hlt
      have hall : okR h i = true → ((List.range (i + 1)).all fun j => okR h j) = true := fun hb => by rw [List.range_succ, List.all_append, hn]; simp [hb]
      generalize hx : h.getD i ev0d = x at *
      generalize hy : h.getD (i - 1) ev0d = y at *
      have l1 := ev_len o1.len
      have k1 := take38 o1
      have l0 := ev_len o0.len
      have k0 := take38 o0
      have q1 : ∀ K, ask (ev1i mayEv) [.agg (evCells x)] K = splitB (mayEv x) K := fun K => ask_ev1i o1 i1
      have q2 : ∀ K, ask (ev2n cmpEv) [.agg (evCells y), .agg (evCells x)] K = K (i64 (cmpEv y x)) := fun K => ask_ev2n o0 o1
      -- the inner round
      have inner : ∀ (b1 : mayEv x = true) (b2 : (decide (0 < i) && decide (0 ≤ cmpEv y x)) = false), ∀ (k : Nat), k ≤ h.length ∧ ((List.range k).all fun k => !(decide (¬ i = k) && pairBad x (h.getD k ev0d))) = true → k < h.length →
          pairBad x (h.getD k ev0d) = true → ¬ i = k → mayRef h = false := fun b1 b2 k hk hkl hp hik => hno (by
        rw [hok]
        have : ((List.range h.length).all fun k => !(decide (¬ i = k) && pairBad x (h.getD k ev0d))) = false := by
          rw [List.all_eq_false]
          exact ⟨k, List.mem_range.2 hkl, by simp only [hp, hik, not_false_eq_true, decide_true, Bool.and_true, Bool.not_true, Bool.false_eq_true]⟩
        rw [this, Bool.and_false])
      cases b1 : mayEv x with
      | false =>
        have hf := hno (by rw [hok, b1]; rfl)
        simp (maxSteps := 2000000) -implicitDefEqProofs only [RS, RX, Nat.reduceLT, ↓RP0, ↓RP1, ↓RP2, ↓RP3, RV, RW, ↓reduceIte, Nat.reduceAdd, Nat.reduceSub, Nat.reduceMul, Nat.reduceLeDiff, Nat.reduceEqDiff, Int.reduceLT, Int.reduceLE, Int.reduceEq, Int.reduceNe, Int.reduceAdd, Int.reduceSub, Int.reduceMul, Int.reduceNeg, Int.reduceToNat, reduceCtorEq, ↓q1, q1, ↓q2, q2, e1, e3, evs_len, l1, k1, l0, k0, ev_strip, b1, hf, AV.cells]
      | true =>
        by_cases h0 : 0 < i
        · have e0 : ((0 : Int) < (i : Int)) = True := eq_true (by omega)
          have e2 := e1' h0
          have e4 : ((i : Int) - 1).toNat = i - 1 := by omega
          by_cases hc : 0 ≤ cmpEv y x
          · have hf := hno (by rw [hok, b1]; simp [h0, hc])
            have hc' : (0 ≤ cmpEv y x) = True := eq_true hc
            simp (maxSteps := 2000000) -implicitDefEqProofs only [RS, RX, Nat.reduceLT, ↓RP0, ↓RP1, ↓RP2, ↓RP3, RV, RW, ↓reduceIte, Nat.reduceAdd, Nat.reduceSub, Nat.reduceMul, Nat.reduceLeDiff, Nat.reduceEqDiff, Int.reduceLT, Int.reduceLE, Int.reduceEq, Int.reduceNe, Int.reduceAdd, Int.reduceSub, Int.reduceMul, Int.reduceNeg, Int.reduceToNat, reduceCtorEq, ↓q1, q1, ↓q2, q2, e0, e1, e2, e3, e4, hc', evs_len, l1, k1, l0, k0, ev_strip, b1, hf, AV.cells]
            exact ⟨⟨by omega, by omega⟩, by omega, by omega⟩
          · have hc' : (0 ≤ cmpEv y x) = False := eq_false hc
            simp (maxSteps := 2000000) -implicitDefEqProofs only [RS, RX, Nat.reduceLT, ↓RP0, ↓RP1, ↓RP2, ↓RP3, RV, RW, ↓reduceIte, Nat.reduceAdd, Nat.reduceSub, Nat.reduceMul, Nat.reduceLeDiff, Nat.reduceEqDiff, Int.reduceLT, Int.reduceLE, Int.reduceEq, Int.reduceNe, Int.reduceAdd, Int.reduceSub, Int.reduceMul, Int.reduceNeg, Int.reduceToNat, reduceCtorEq, ↓q1, q1, ↓q2, q2, e0, e1, e2, e3, e4, hc', evs_len, l1, k1, l0, k0, ev_strip, b1, AV.cells]
            have b2 : (decide (0 < i) && decide (0 ≤ cmpEv y x)) = false := by simp [hc]
            refine ⟨⟨by omega, by omega⟩, by omega, by omega, ?_⟩
            refine loopB (st := fun (k : Nat) => (St 5 80 [evsV h, .junk, .imm (.bool false), i64 i, i64 k] [])) (hp := fun k => []) (I := fun k => k ≤ h.length ∧ ((List.range k).all fun k => !(decide (¬ i = k) && pairBad x (h.getD k ev0d))) = true) (m := fun k => h.length - k) (0 : Nat) ⟨Nat.zero_le _, rfl⟩ ?_ ?_
            · refine weak_nilS ?_; simp [WeakL, AV.low, lows, lows_evs]
            · rintro k ⟨hk, hkn⟩
              by_cases hkl : k < h.length
              · have e1k := evs_get hkl
                have e3k : (k : Int) < (h.length : Int) := by omega
                have oz := evs_ok ho k
                have hin2 := inner b1 b2 k ⟨hk, hkn⟩ hkl
                have hgo : (decide (¬ i = k) && pairBad x (h.getD k ev0d)) = false → ((List.range (k + 1)).all fun k => !(decide (¬ i = k) && pairBad x (h.getD k ev0d))) = true := fun hb => by
                  rw [List.range_succ, List.all_append, hkn]; simp only [List.all_cons, List.all_nil, hb]; rfl
                generalize hz : h.getD k ev0d = z at *
                have lz := ev_len oz.len
                have kz := take38 oz
                have q3 : ∀ K, ask (ev2b knows) [.agg (evCells x), .agg (evCells z)] K = splitB (knows x z) K := fun K => ask_ev2b o1 oz
                have again : (decide (¬ i = k) && pairBad x z) = false → ∀ ov, Again 0 (fun (k : Nat) => (St 5 80 [evsV h, .junk, .imm (.bool false), i64 i, i64 k] [])) (fun k => []) (fun k => k ≤ h.length ∧ ((List.range k).all fun k => !(decide (¬ i = k) && pairBad x (h.getD k ev0d))) = true) (fun k => h.length - k) k (St 5 80 [evsV h, .junk, .imm (.bool false), i64 i, i64 ((k : Int) + 1)] ov) [] := fun hb ov => by
                  refine ⟨k + 1, by dsimp only; omega, ⟨by omega, hgo hb⟩, ?_⟩
                  refine weak_nilS ?_; simp [WeakL, AV.low, lows, lows_evs]
                by_cases hik : i = k
                · have hik' : ((i : Int) = (k : Int)) = True := eq_true (by omega)
                  simp (maxSteps := 2000000) -implicitDefEqProofs only [RS, RX, Nat.reduceLT, ↓RP0, ↓RP1, ↓RP2, ↓RP3, RV, RW, ↓reduceIte, Nat.reduceAdd, Nat.reduceSub, Nat.reduceMul, Nat.reduceLeDiff, Nat.reduceEqDiff, Int.reduceLT, Int.reduceLE, Int.reduceEq, Int.reduceNe, Int.reduceAdd, Int.reduceSub, Int.reduceMul, Int.reduceNeg, Int.reduceToNat, reduceCtorEq, ↓q3, q3, ↓qB_eqA2, qB_eqA2, hik', e1, e1k, e3, e3k, evs_len, l1, k1, lz, kz, ev4, ev_take, ev_strip, AV.cells]
                  exact ⟨⟨by omega, by omega⟩, again (by simp [hik]) _⟩
                · have hik' : ((i : Int) = (k : Int)) = False := eq_false (by omega)
                  by_cases hdot : x.r = z.r ∧ x.q = z.q
                  · have hf := hin2 (by simp [pairBad, hdot]) hik
                    have hd' : (x.r = z.r ∧ x.q = z.q) = True := eq_true hdot
                    simp (maxSteps := 2000000) -implicitDefEqProofs only [RS, RX, Nat.reduceLT, ↓RP0, ↓RP1, ↓RP2, ↓RP3, RV, RW, ↓reduceIte, Nat.reduceAdd, Nat.reduceSub, Nat.reduceMul, Nat.reduceLeDiff, Nat.reduceEqDiff, Int.reduceLT, Int.reduceLE, Int.reduceEq, Int.reduceNe, Int.reduceAdd, Int.reduceSub, Int.reduceMul, Int.reduceNeg, Int.reduceToNat, reduceCtorEq, ↓q3, q3, ↓qB_eqA2, qB_eqA2, hik', hd', e1, e1k, e3, e3k, evs_len, l1, k1, lz, kz, ev4, ev_take, ev_strip, AV.cells]
                    first | done | exact ⟨by omega, by omega, by omega, by omega, by rw [hf]⟩ | rw [hf]
                  · have hd' : (x.r = z.r ∧ x.q = z.q) = False := eq_false hdot
                    by_cases hp : x.path = z.path
                    · have hp' : (x.path = z.path) = True := eq_true hp
                      cases b3 : knows x z with
                      | true =>
                        have hf := hin2 (by simp [pairBad, hp, b3]) hik
                        simp (maxSteps := 2000000) -implicitDefEqProofs only [RS, RX, Nat.reduceLT, ↓RP0, ↓RP1, ↓RP2, ↓RP3, RV, RW, ↓reduceIte, Nat.reduceAdd, Nat.reduceSub, Nat.reduceMul, Nat.reduceLeDiff, Nat.reduceEqDiff, Int.reduceLT, Int.reduceLE, Int.reduceEq, Int.reduceNe, Int.reduceAdd, Int.reduceSub, Int.reduceMul, Int.reduceNeg, Int.reduceToNat, reduceCtorEq, ↓q3, q3, ↓qB_eqA2, qB_eqA2, hik', hd', hp', b3, e1, e1k, e3, e3k, evs_len, l1, k1, lz, kz, ev4, ev_take, ev_strip, AV.cells]
                        rw [hf]
                      | false =>
                        simp (maxSteps := 2000000) -implicitDefEqProofs only [RS, RX, Nat.reduceLT, ↓RP0, ↓RP1, ↓RP2, ↓RP3, RV, RW, ↓reduceIte, Nat.reduceAdd, Nat.reduceSub, Nat.reduceMul, Nat.reduceLeDiff, Nat.reduceEqDiff, Int.reduceLT, Int.reduceLE, Int.reduceEq, Int.reduceNe, Int.reduceAdd, Int.reduceSub, Int.reduceMul, Int.reduceNeg, Int.reduceToNat, reduceCtorEq, ↓q3, q3, ↓qB_eqA2, qB_eqA2, hik', hd', hp', b3, e1, e1k, e3, e3k, evs_len, l1, k1, lz, kz, ev4, ev_take, ev_strip, AV.cells]
                        exact ⟨⟨by omega, by omega⟩, again (by simp [pairBad, hd', b3]) _⟩
                    · have hp' : (x.path = z.path) = False := eq_false hp
                      simp (maxSteps := 2000000) -implicitDefEqProofs only [RS, RX, Nat.reduceLT, ↓RP0, ↓RP1, ↓RP2, ↓RP3, RV, RW, ↓reduceIte, Nat.reduceAdd, Nat.reduceSub, Nat.reduceMul, Nat.reduceLeDiff, Nat.reduceEqDiff, Int.reduceLT, Int.reduceLE, Int.reduceEq, Int.reduceNe, Int.reduceAdd, Int.reduceSub, Int.reduceMul, Int.reduceNeg, Int.reduceToNat, reduceCtorEq, ↓q3, q3, ↓qB_eqA2, qB_eqA2, hik', hd', hp', e1, e1k, e3, e3k, evs_len, l1, k1, lz, kz, ev4, ev_take, ev_strip, AV.cells]
                      exact ⟨⟨by omega, by omega⟩, again (by simp [pairBad, hd', hp']) _⟩
              · obtain rfl : k = h.length := by omega
                simp (maxSteps := 2000000) -implicitDefEqProofs only [RS, RX, Nat.reduceLT, ↓RP0, ↓RP1, ↓RP2, ↓RP3, RV, RW, ↓reduceIte, Nat.reduceAdd, Nat.reduceSub, Nat.reduceMul, Nat.reduceLeDiff, Nat.reduceEqDiff, Int.reduceLT, Int.reduceLE, Int.reduceEq, Int.reduceNe, Int.reduceAdd, Int.reduceSub, Int.reduceMul, Int.reduceNeg, Int.reduceToNat, reduceCtorEq, evs_len, Int.lt_irrefl]
                refine ⟨⟨by omega, by omega⟩, i + 1, by dsimp only; omega, ⟨by omega, hall (by rw [hok, b1, b2, hkn]; rfl)⟩, ?_⟩
                refine weak_nilS ?_; simp [WeakL, AV.low, lows, lows_evs]
        · have e0 : ((0 : Int) < (i : Int)) = False := eq_false (by omega)
          simp (maxSteps := 2000000) -implicitDefEqProofs only [RS, RX, Nat.reduceLT, ↓RP0, ↓RP1, ↓RP2, ↓RP3, RV, RW, ↓reduceIte, Nat.reduceAdd, Nat.reduceSub, Nat.reduceMul, Nat.reduceLeDiff, Nat.reduceEqDiff, Int.reduceLT, Int.reduceLE, Int.reduceEq, Int.reduceNe, Int.reduceAdd, Int.reduceSub, Int.reduceMul, Int.reduceNeg, Int.reduceToNat, reduceCtorEq, ↓q1, q1, ↓q2, q2, e0, e1, e3, evs_len, l1, k1, l0, k0, ev_strip, b1, AV.cells]
          have b2 : (decide (0 < i) && decide (0 ≤ cmpEv y x)) = false := by simp [h0]
          refine loopB (st := fun (k : Nat) => (St 5 80 [evsV h, .junk, .imm (.bool false), i64 i, i64 k] [])) (hp := fun k => []) (I := fun k => k ≤ h.length ∧ ((List.range k).all fun k => !(decide (¬ i = k) && pairBad x (h.getD k ev0d))) = true) (m := fun k => h.length - k) (0 : Nat) ⟨Nat.zero_le _, rfl⟩ ?_ ?_
          · refine weak_nilS ?_; simp [WeakL, AV.low, lows, lows_evs]
          · rintro k ⟨hk, hkn⟩
            by_cases hkl : k < h.length
            · have e1k := evs_get hkl
              have e3k : (k : Int) < (h.length : Int) := by omega
              have oz := evs_ok ho k
              have hin2 := inner b1 b2 k ⟨hk, hkn⟩ hkl
              have hgo : (decide (¬ i = k) && pairBad x (h.getD k ev0d)) = false → ((List.range (k + 1)).all fun k => !(decide (¬ i = k) && pairBad x (h.getD k ev0d))) = true := fun hb => by
                rw [List.range_succ, List.all_append, hkn]; simp only [List.all_cons, List.all_nil, hb]; rfl
              generalize hz : h.getD k ev0d = z at *
              have lz := ev_len oz.len
              have kz := take38 oz
              have q3 : ∀ K, ask (ev2b knows) [.agg (evCells x), .agg (evCells z)] K = splitB (knows x z) K := fun K => ask_ev2b o1 oz
              have again : (decide (¬ i = k) && pairBad x z) = false → ∀ ov, Again 0 (fun (k : Nat) => (St 5 80 [evsV h, .junk, .imm (.bool false), i64 i, i64 k] [])) (fun k => []) (fun k => k ≤ h.length ∧ ((List.range k).all fun k => !(decide (¬ i = k) && pairBad x (h.getD k ev0d))) = true) (fun k => h.length - k) k (St 5 80 [evsV h, .junk, .imm (.bool false), i64 i, i64 ((k : Int) + 1)] ov) [] := fun hb ov => by
                refine ⟨k + 1, by dsimp only; omega, ⟨by omega, hgo hb⟩, ?_⟩
                refine weak_nilS ?_; simp [WeakL, AV.low, lows, lows_evs]
              by_cases hik : i = k
              · have hik' : ((i : Int) = (k : Int)) = True := eq_true (by omega)
                simp (maxSteps := 2000000) -implicitDefEqProofs only [RS, RX, Nat.reduceLT, ↓RP0, ↓RP1, ↓RP2, ↓RP3, RV, RW, ↓reduceIte, Nat.reduceAdd, Nat.reduceSub, Nat.reduceMul, Nat.reduceLeDiff, Nat.reduceEqDiff, Int.reduceLT, Int.reduceLE, Int.reduceEq, Int.reduceNe, Int.reduceAdd, Int.reduceSub, Int.reduceMul, Int.reduceNeg, Int.reduceToNat, reduceCtorEq, ↓q3, q3, ↓qB_eqA2, qB_eqA2, hik', e1, e1k, e3, e3k, evs_len, l1, k1, lz, kz, ev4, ev_take, ev_strip, AV.cells]
                exact ⟨⟨by omega, by omega⟩, again (by simp [hik]) _⟩
              · have hik' : ((i : Int) = (k : Int)) = False := eq_false (by omega)
                by_cases hdot : x.r = z.r ∧ x.q = z.q
                · have hf := hin2 (by simp [pairBad, hdot]) hik
                  have hd' : (x.r = z.r ∧ x.q = z.q) = True := eq_true hdot
                  simp (maxSteps := 2000000) -implicitDefEqProofs only [RS, RX, Nat.reduceLT, ↓RP0, ↓RP1, ↓RP2, ↓RP3, RV, RW, ↓reduceIte, Nat.reduceAdd, Nat.reduceSub, Nat.reduceMul, Nat.reduceLeDiff, Nat.reduceEqDiff, Int.reduceLT, Int.reduceLE, Int.reduceEq, Int.reduceNe, Int.reduceAdd, Int.reduceSub, Int.reduceMul, Int.reduceNeg, Int.reduceToNat, reduceCtorEq, ↓q3, q3, ↓qB_eqA2, qB_eqA2, hik', hd', e1, e1k, e3, e3k, evs_len, l1, k1, lz, kz, ev4, ev_take, ev_strip, AV.cells]
                  first | done | exact ⟨by omega, by omega, by omega, by omega, by rw [hf]⟩ | rw [hf]
                · have hd' : (x.r = z.r ∧ x.q = z.q) = False := eq_false hdot
                  by_cases hp : x.path = z.path
                  · have hp' : (x.path = z.path) = True := eq_true hp
                    cases b3 : knows x z with
                    | true =>
                      have hf := hin2 (by simp [pairBad, hp, b3]) hik
                      simp (maxSteps := 2000000) -implicitDefEqProofs only [RS, RX, Nat.reduceLT, ↓RP0, ↓RP1, ↓RP2, ↓RP3, RV, RW, ↓reduceIte, Nat.reduceAdd, Nat.reduceSub, Nat.reduceMul, Nat.reduceLeDiff, Nat.reduceEqDiff, Int.reduceLT, Int.reduceLE, Int.reduceEq, Int.reduceNe, Int.reduceAdd, Int.reduceSub, Int.reduceMul, Int.reduceNeg, Int.reduceToNat, reduceCtorEq, ↓q3, q3, ↓qB_eqA2, qB_eqA2, hik', hd', hp', b3, e1, e1k, e3, e3k, evs_len, l1, k1, lz, kz, ev4, ev_take, ev_strip, AV.cells]
                      rw [hf]
                    | false =>
                      simp (maxSteps := 2000000) -implicitDefEqProofs only [RS, RX, Nat.reduceLT, ↓RP0, ↓RP1, ↓RP2, ↓RP3, RV, RW, ↓reduceIte, Nat.reduceAdd, Nat.reduceSub, Nat.reduceMul, Nat.reduceLeDiff, Nat.reduceEqDiff, Int.reduceLT, Int.reduceLE, Int.reduceEq, Int.reduceNe, Int.reduceAdd, Int.reduceSub, Int.reduceMul, Int.reduceNeg, Int.reduceToNat, reduceCtorEq, ↓q3, q3, ↓qB_eqA2, qB_eqA2, hik', hd', hp', b3, e1, e1k, e3, e3k, evs_len, l1, k1, lz, kz, ev4, ev_take, ev_strip, AV.cells]
                      exact ⟨⟨by omega, by omega⟩, again (by simp [pairBad, hd', b3]) _⟩
                  · have hp' : (x.path = z.path) = False := eq_false hp
                    simp (maxSteps := 2000000) -implicitDefEqProofs only [RS, RX, Nat.reduceLT, ↓RP0, ↓RP1, ↓RP2, ↓RP3, RV, RW, ↓reduceIte, Nat.reduceAdd, Nat.reduceSub, Nat.reduceMul, Nat.reduceLeDiff, Nat.reduceEqDiff, Int.reduceLT, Int.reduceLE, Int.reduceEq, Int.reduceNe, Int.reduceAdd, Int.reduceSub, Int.reduceMul, Int.reduceNeg, Int.reduceToNat, reduceCtorEq, ↓q3, q3, ↓qB_eqA2, qB_eqA2, hik', hd', hp', e1, e1k, e3, e3k, evs_len, l1, k1, lz, kz, ev4, ev_take, ev_strip, AV.cells]
                    exact ⟨⟨by omega, by omega⟩, again (by simp [pairBad, hd', hp']) _⟩
            · obtain rfl : k = h.length := by omega
              simp (maxSteps := 2000000) -implicitDefEqProofs only [RS, RX, Nat.reduceLT, ↓RP0, ↓RP1, ↓RP2, ↓RP3, RV, RW, ↓reduceIte, Nat.reduceAdd, Nat.reduceSub, Nat.reduceMul, Nat.reduceLeDiff, Nat.reduceEqDiff, Int.reduceLT, Int.reduceLE, Int.reduceEq, Int.reduceNe, Int.reduceAdd, Int.reduceSub, Int.reduceMul, Int.reduceNeg, Int.reduceToNat, reduceCtorEq, evs_len, Int.lt_irrefl]
              refine ⟨⟨by omega, by omega⟩, i + 1, by dsimp only; omega, ⟨by omega, hall (by rw [hok, b1, b2, hkn]; rfl)⟩, ?_⟩
              refine weak_nilS ?_; simp [WeakL, AV.low, lows, lows_evs]
    · obtain rfl : i = h.length := by omega
      simp (maxSteps := 2000000) -implicitDefEqProofs only [RS, RX, Nat.reduceLT, ↓RP0, ↓RP1, ↓RP2, ↓RP3, RV, RW, ↓reduceIte, Nat.reduceAdd, Nat.reduceSub, Nat.reduceMul, Nat.reduceLeDiff, Nat.reduceEqDiff, Int.reduceLT, Int.reduceLE, Int.reduceEq, Int.reduceNe, Int.reduceAdd, Int.reduceSub, Int.reduceMul, Int.reduceNeg, Int.reduceToNat, reduceCtorEq, evs_len, Int.lt_irrefl]
      rw [mayRef, hn]
end Go.AL.Path
