/- Path: copies of paths. -/
import Derived.Test.YtfilcbnobmnopaaDoorP11
import Derived.Test.YtfilcbnobmnopaaDoorPF
set_option linter.unusedSimpArgs false
set_option linter.unusedVariables false
namespace Go.AL.Path
open Go Go.RowKit Go.Proofs Go.AL

/-! Numbers as texts -/
theorem digits_all (u : Nat) : ∀ b ∈ Lib.decDigits u, 48 ≤ b.toNat ∧ b.toNat ≤ 57 := by
  induction u using Nat.strongRecOn with
  | ind u ih =>
    intro b hb
    rw [Lib.decDigits] at hb
    split at hb
    · simp at hb
      subst hb
      simp; omega
    · rename_i h
      rcases List.mem_append.1 hb with hb | hb
      · exact ih (u / 10) (by omega) b hb
      · simp at hb
        subst hb
        simp; omega
def numOf (l : List UInt8) : Nat := l.foldl (fun a c => a * 10 + (c.toNat - 48)) 0
theorem numOf_digits (u : Nat) : numOf (Lib.decDigits u) = u := by
  induction u using Nat.strongRecOn with
  | ind u ih =>
    rw [Lib.decDigits]
    split
    · simp [numOf]; omega
    · have := ih (u / 10) (by omega)
      unfold numOf at this ⊢
      rw [List.foldl_append, this]
      simp; omega
theorem digits_inj {u v : Nat} (h : Lib.decDigits u = Lib.decDigits v) : u = v := by rw [← numOf_digits u, h, numOf_digits]
theorem digits_length : ∀ (k u : Nat), u < 10 ^ (k + 1) → (Lib.decDigits u).length ≤ k + 1
  | 0, u, hu => by rw [Lib.decDigits_one (by simpa using hu)]; simp
  | k + 1, u, hu => by
    rw [Lib.decDigits]
    split
    · simp
    · have := digits_length k (u / 10) (by rw [Nat.div_lt_iff_lt_mul (by decide), ← Nat.pow_succ]; exact hu)
      simp; omega
theorem digits_pos (u : Nat) : 1 ≤ (Lib.decDigits u).length := by
  rw [Lib.decDigits]
  split <;> simp

theorem itoa_head (n : Int) : ∃ c t, Lib.itoa n = c :: t ∧ (45 : UInt8) ∉ t ∧ (∀ b ∈ c :: t, b = 45 ∨ (48 ≤ b.toNat ∧ b.toNat ≤ 57)) := by
  unfold Lib.itoa
  have h45 : ∀ u, (45 : UInt8) ∉ Lib.decDigits u := fun u h => by have := (digits_all u 45 h).1; simp at this
  split
  · exact ⟨45, Lib.decDigits n.natAbs, rfl, h45 _, fun b hb => by
      rcases List.mem_cons.1 hb with rfl | hb
      · exact .inl rfl
      · exact .inr (digits_all _ b hb)⟩
  · have hp := digits_pos n.toNat
    have ha := digits_all n.toNat
    have hn := h45 n.toNat
    cases hd : Lib.decDigits n.toNat with
    | nil => rw [hd] at hp; simp at hp
    | cons c t =>
      rw [hd] at ha hn
      exact ⟨c, t, rfl, fun h => hn (List.mem_cons_of_mem _ h), fun b hb => .inr (ha b hb)⟩
theorem itoa_inj {m n : Int} (h : Lib.itoa m = Lib.itoa n) : m = n := by
  have h45 : ∀ u v, Lib.decDigits u ≠ 45 :: v := fun u v h => by have := (digits_all u 45 (by rw [h]; exact List.mem_cons_self)).1; simp at this
  unfold Lib.itoa at h
  by_cases hm : m < 0 <;> by_cases hn : n < 0
  · rw [if_pos hm, if_pos hn] at h
    have := digits_inj (List.cons.inj h).2
    omega
  · rw [if_pos hm, if_neg hn] at h
    exact absurd h.symm (h45 _ _)
  · rw [if_neg hm, if_pos hn] at h
    exact absurd h (h45 _ _)
  · rw [if_neg hm, if_neg hn] at h
    have := digits_inj h
    omega

theorem split_first {x : UInt8} : ∀ (l l' m m' : List UInt8), x ∉ l → x ∉ l' → l ++ x :: m = l' ++ x :: m' → l = l' ∧ m = m'
  | [], [], m, m', _, _, h => ⟨rfl, by simpa using h⟩
  | [], c :: l', m, m', _, h2, h => by simp at h; exact absurd h.1 (fun e => h2 (by simp [e]))
  | c :: l, [], m, m', h1, _, h => by simp at h; exact absurd h.1 (fun e => h1 (by simp [e]))
  | c :: l, c' :: l', m, m', h1, h2, h => by
    simp only [List.cons_append, List.cons.injEq] at h
    obtain ⟨e1, e2⟩ := split_first l l' m m' (fun h => h1 (List.mem_cons_of_mem _ h)) (fun h => h2 (List.mem_cons_of_mem _ h)) h.2
    exact ⟨by rw [h.1, e1], e2⟩

/-- What a copy's path has more. -/
def tailW (r q : Int) : List UInt8 := 126 :: (Lib.itoa r ++ 45 :: Lib.itoa q)
theorem copyP_eq (s : List UInt8) (r q : Int) : copyP s r q = s ++ tailW r q := by simp [copyP, tailW]
theorem longest_tail : longest = tailW 31 1099511627776 := by simp [longest, tailW]
theorem tailW_all (r q : Int) : ∀ b ∈ tailW r q, b = 126 ∨ b = 45 ∨ (48 ≤ b.toNat ∧ b.toNat ≤ 57) := by
  obtain ⟨c, t, h1, _, h2⟩ := itoa_head r
  obtain ⟨c', t', h1', _, h2'⟩ := itoa_head q
  intro b hb
  unfold tailW at hb
  rw [h1, h1'] at hb
  rcases List.mem_cons.1 hb with rfl | hb
  · exact .inl rfl
  · rcases List.mem_append.1 hb with hb | hb
    · exact .inr (h2 b hb)
    · rcases List.mem_cons.1 hb with rfl | hb
      · exact .inr (.inl rfl)
      · exact .inr (h2' b hb)
theorem tailW_letter (r q : Int) : ∀ b ∈ tailW r q, letterI b.toNat = true := by
  intro b hb
  rcases tailW_all r q b hb with rfl | rfl | h
  · decide
  · decide
  · exact (letterI_iff _).2 (by omega)
theorem tailW_slash (r q : Int) : (47 : UInt8) ∉ tailW r q := by
  intro h
  rcases tailW_all r q 47 h with h | h | h
  · exact absurd h (by decide)
  · exact absurd h (by decide)
  · simp at h
theorem tailW_len (r q : Int) : (tailW r q).length = (Lib.itoa r).length + (Lib.itoa q).length + 2 := by simp [tailW]; omega
theorem tailW_pos (r q : Int) : 4 ≤ (tailW r q).length := by
  obtain ⟨c, t, h1, _⟩ := itoa_head r
  obtain ⟨c', t', h1', _⟩ := itoa_head q
  rw [tailW_len, h1, h1']; simp; omega
theorem tailW_small {r q : Int} (h0 : 0 ≤ r) (h1 : r < 32) (h2 : 1 ≤ q) (h3 : q ≤ 1099511627776) : (tailW r q).length ≤ 17 := by
  have e1 : (Lib.itoa r).length ≤ 2 := by
    unfold Lib.itoa; rw [if_neg (by omega)]; exact digits_length 1 _ (by omega)
  have e2 : (Lib.itoa q).length ≤ 13 := by
    unfold Lib.itoa; rw [if_neg (by omega)]; exact digits_length 12 _ (by omega)
  rw [tailW_len]; omega
theorem longest_len : longest.length = 17 := by decide +kernel
theorem tailW_inj {r q r' q' : Int} (h : tailW r q = tailW r' q') : r = r' ∧ q = q' := by
  obtain ⟨c, t, h1, h2, _⟩ := itoa_head r
  obtain ⟨c', t', h1', h2', _⟩ := itoa_head r'
  unfold tailW at h
  have h := (List.cons.inj h).2
  rw [h1, h1', List.cons_append, List.cons_append] at h
  obtain ⟨e1, e2⟩ := List.cons.inj h
  obtain ⟨e3, e4⟩ := split_first t t' _ _ h2 h2' e2
  exact ⟨itoa_inj (by rw [h1, h1', e1, e3]), itoa_inj e4⟩
theorem copyP_inj {a b : List UInt8} {r q r' q' : Int} (ha : (126 : UInt8) ∉ a) (hb : (126 : UInt8) ∉ b) : copyP a r q = copyP b r' q' ↔ a = b ∧ r = r' ∧ q = q' := by
  constructor
  · intro h
    rw [copyP_eq, copyP_eq] at h
    obtain ⟨e1, e2⟩ := split_first (x := 126) a b (Lib.itoa r ++ 45 :: Lib.itoa q) (Lib.itoa r' ++ 45 :: Lib.itoa q') ha hb h
    exact ⟨e1, tailW_inj (by unfold tailW; rw [e2])⟩
  · rintro ⟨rfl, rfl, rfl⟩; rfl

theorem goParts_plain : ∀ (w cur : List UInt8), (47 : UInt8) ∉ w → goParts cur w = partOk (cur ++ w)
  | [], cur, _ => by simp [goParts]
  | c :: w, cur, h => by
    rw [goParts, if_neg (fun e => h (by simp [e])), goParts_plain w _ (fun e => h (List.mem_cons_of_mem _ e))]
    simp
theorem goParts_turn {w w' : List UInt8} (hw : (47 : UInt8) ∉ w) (hw' : (47 : UInt8) ∉ w') {N : Nat} (h : ∀ c : List UInt8, c.length ≤ N → partOk (c ++ w') = true → partOk (c ++ w) = true) :
    ∀ (a cur : List UInt8), cur.length + a.length ≤ N → goParts cur (a ++ w') = true → goParts cur (a ++ w) = true
  | [], cur, hl, hg => by
    rw [List.nil_append, goParts_plain _ _ hw'] at hg
    rw [List.nil_append, goParts_plain _ _ hw]
    exact h cur (by simpa using hl) hg
  | c :: a, cur, hl, hg => by
    rw [List.cons_append, goParts] at hg ⊢
    split
    · rename_i hc
      rw [if_pos hc, Bool.and_eq_true] at hg
      rw [Bool.and_eq_true]
      exact ⟨hg.1, goParts_turn hw hw' h a [] (by simp at hl ⊢; omega) hg.2⟩
    · rename_i hc
      rw [if_neg hc] at hg
      exact goParts_turn hw hw' h a _ (by simp at hl ⊢; omega) hg

theorem partOk_turn {c : List UInt8} {r q r' q' : Int} (h : partOk (c ++ tailW r' q') = true) (hl : (c ++ tailW r q).length ≤ 100) : partOk (c ++ tailW r q) = true := by
  have hp := tailW_pos r q
  simp only [partOk, Bool.and_eq_true, Bool.not_eq_true', decide_eq_true_eq, decide_eq_false_iff_not, List.all_append, List.all_eq_true] at h ⊢
  refine ⟨⟨⟨⟨⟨h.1.1.1.1.1, tailW_letter r q⟩, by simp; omega⟩, hl⟩, fun e => ?_⟩, fun e => ?_⟩
  · have := congrArg List.length e; simp at this; omega
  · have := congrArg List.length e; simp at this; omega

theorem ownP_parts {a : List UInt8} (h : ownP a = true) : (126 : UInt8) ∉ a ∧ mayP a = true ∧ a.length ≤ 200 ∧ mayP (a ++ longest) = true := by
  simp only [ownP, Bool.and_eq_true, Bool.not_eq_true', decide_eq_true_eq] at h
  refine ⟨?_, h.1.1.2, h.1.2, h.2⟩
  intro e
  have := List.contains_iff_mem.2 e
  rw [this] at h; cases h.1.1.1
theorem mayP_copy {a : List UInt8} {r q : Int} (h : ownP a = true) (hl : (copyP a r q).length ≤ 100 ∨ (tailW r q).length ≤ 17) : mayP (copyP a r q) = true := by
  obtain ⟨_, _, h200, hm⟩ := ownP_parts h
  obtain ⟨m1, m2, m3⟩ := (mayP_iff _).1 hm
  rw [copyP_eq] at hl ⊢
  rw [List.length_append, longest_len] at m2 m3
  rw [List.length_append] at hl
  rw [longest_tail] at m1
  have p1 : partsOk (a ++ tailW r q) = true := by
    unfold partsOk at m1 ⊢
    refine goParts_turn (tailW_slash _ _) (tailW_slash _ _) (N := a.length) (fun c hc hok => partOk_turn hok ?_) a [] (by simp) m1
    have hk := partOk_length hok
    rw [← longest_tail, List.length_append, longest_len] at hk
    rw [List.length_append]
    omega
  refine (mayP_iff _).2 ⟨p1, by rw [List.length_append]; omega, ?_⟩
  rcases hl with hl | hl
  · exact .inl (by rw [List.length_append]; exact hl)
  · rcases m3 with m3 | ⟨k, k1, k2, k3⟩
    · exact .inl (by rw [List.length_append]; omega)
    · right
      have hka : k < a.length := by
        by_cases hka : k < a.length
        · exact hka
        · rw [List.getElem?_append_right (by omega), longest_tail] at k1
          exact absurd (List.mem_of_getElem? k1) (tailW_slash _ _)
      rw [List.getElem?_append_left hka] at k1
      exact ⟨k, by rw [List.getElem?_append_left hka]; exact k1, by rw [List.length_append]; omega, k3⟩
theorem ownP_copy (a : List UInt8) (r q : Int) : ownP (copyP a r q) = false := by
  cases h : ownP (copyP a r q)
  · rfl
  · exact absurd (by rw [copyP_eq]; simp [tailW]) (ownP_parts h).1
theorem copyP_len (a : List UInt8) (r q : Int) : (copyP a r q).length = a.length + (tailW r q).length := by rw [copyP_eq, List.length_append]
end Go.AL.Path
