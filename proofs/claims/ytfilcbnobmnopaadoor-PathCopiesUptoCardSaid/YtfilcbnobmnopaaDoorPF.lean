/- Path: what a path lies below. -/
import Derived.Test.YtfilcbnobmnopaaDoorP10
set_option linter.unusedSimpArgs false
set_option linter.unusedVariables false
namespace Go.AL.Path
open Go Go.RowKit Go.Proofs Go.AL

theorem parentsTo_take (s : List UInt8) (m : Nat) : ∀ j, j ≤ m → parentsTo (s.take m) j = parentsTo s j
  | 0, _ => rfl
  | j + 1, h => by
    have h1 : (s.take m)[j]? = s[j]? := by rw [List.getElem?_take, if_pos (by omega)]
    have h2 : (s.take m).take j = s.take j := by rw [List.take_take, Nat.min_eq_left (by omega)]
    rw [parentsTo, parentsTo, h1, h2, parentsTo_take s m j (by omega)]

theorem parentsTo_get (s : List UInt8) : ∀ (n i : Nat) (p : List UInt8), (parentsTo s n)[i]? = some p → ∃ j, j < n ∧ s[j]? = some 47 ∧ p = s.take j ∧ (parentsTo s j).length = i
  | 0, i, p, h => by simp [parentsTo] at h
  | n + 1, i, p, h => by
    rw [parentsTo] at h
    split at h
    · rename_i hs
      by_cases hi : i < (parentsTo s n).length
      · rw [List.getElem?_append_left hi] at h
        obtain ⟨j, h1, h2, h3, h4⟩ := parentsTo_get s n i p h
        exact ⟨j, by omega, h2, h3, h4⟩
      · rw [List.getElem?_append_right (by omega)] at h
        have : i - (parentsTo s n).length = 0 := by
          by_cases h0 : i - (parentsTo s n).length = 0
          · exact h0
          · rw [List.getElem?_eq_none (by simp; omega)] at h; cases h
        rw [this] at h
        simp at h
        exact ⟨n, by omega, hs, h.symm, by omega⟩
    · obtain ⟨j, h1, h2, h3, h4⟩ := parentsTo_get s n i p h
      exact ⟨j, by omega, h2, h3, h4⟩
theorem parents_get {s : List UInt8} {i : Nat} {p : List UInt8} (h : (parents s)[i]? = some p) : ∃ j, j < s.length ∧ s[j]? = some 47 ∧ p = s.take j ∧ (parentsTo s j).length = i ∧ (parents p).length = i := by
  obtain ⟨j, h1, h2, h3, h4⟩ := parentsTo_get s _ i p h
  refine ⟨j, h1, h2, h3, h4, ?_⟩
  have : p.length = j := by rw [h3]; simp; omega
  rw [parents, this, h3, parentsTo_take s j j (Nat.le_refl _), h4]
theorem parentsTo_mem (s : List UInt8) : ∀ (n j : Nat), j < n → s[j]? = some 47 → (parentsTo s n)[(parentsTo s j).length]? = some (s.take j)
  | n + 1, j, hj, hs => by
    rw [parentsTo]
    by_cases e : j = n
    · subst e
      rw [if_pos hs, List.getElem?_append_right (Nat.le_refl _)]; simp
    · have h := parentsTo_mem s n j (by omega) hs
      split
      · have hl := (List.getElem?_eq_some_iff.1 h).1
        rw [List.getElem?_append_left hl]; exact h
      · exact h
theorem parentsTo_mono (s : List UInt8) : ∀ (n j : Nat), j < n → s[j]? = some 47 → (parentsTo s j).length < (parentsTo s n).length
  | n, j, hj, hs => (List.getElem?_eq_some_iff.1 (parentsTo_mem s n j hj hs)).1

/-- The text of parts, joined of two at a slash. -/
theorem goParts_append : ∀ (l cur r : List UInt8), goParts cur (l ++ 47 :: r) = (goParts cur l && goParts [] r)
  | [], cur, r => by simp [goParts]
  | c :: l, cur, r => by
    rw [List.cons_append, goParts, goParts]
    split
    · rw [goParts_append l [] r, Bool.and_assoc]
    · exact goParts_append l _ r

theorem partOk_length {x : List UInt8} (h : partOk x = true) : x.length ≤ 100 := by
  simp [partOk] at h
  omega
theorem goParts_last : ∀ (l cur : List UInt8), goParts cur l = true → cur.length + l.length ≤ 100 ∨ ∃ k, l[k]? = some 47 ∧ l.length ≤ k + 101
  | [], cur, h => by
    rw [goParts] at h
    exact .inl (by simpa using partOk_length h)
  | c :: r, cur, h => by
    rw [goParts] at h
    split at h
    · rename_i hc
      simp only [Bool.and_eq_true] at h
      rcases goParts_last r [] h.2 with h1 | ⟨k, h1, h2⟩
      · exact .inr ⟨0, by simp [hc], by simp at h1 ⊢; omega⟩
      · exact .inr ⟨k + 1, by simpa using h1, by simp; omega⟩
    · rcases goParts_last r _ h with h1 | ⟨k, h1, h2⟩
      · exact .inl (by simp at h1 ⊢; omega)
      · exact .inr ⟨k + 1, by simpa using h1, by simp; omega⟩

theorem mayP_iff (s : List UInt8) : mayP s = true ↔ partsOk s = true ∧ s.length ≤ 254 ∧ (s.length ≤ 100 ∨ ∃ k, s[k]? = some 47 ∧ s.length ≤ k + 101 ∧ k ≤ 155) := by
  unfold mayP splitP
  by_cases h0 : partsOk s = false ∨ 254 < s.length
  · rw [if_pos h0]
    constructor
    · intro h; simp at h
    · rintro ⟨h1, h2, _⟩
      rcases h0 with h0 | h0
      · rw [h0] at h1; cases h1
      · omega
  · rw [if_neg h0]
    have h1 : partsOk s = true := by cases h : partsOk s; exact absurd (.inl h) h0; rfl
    have h2 : s.length ≤ 254 := by omega
    by_cases h3 : s.length ≤ 100
    · rw [if_pos h3]; simp [h1, h2, h3]
    · rw [if_neg h3]
      dsimp only
      generalize hn : Lib.indexByte (s.drop (s.length - 101)) 47 = n
      split
      · rename_i hc
        constructor
        · intro h; simp at h
        · rintro ⟨_, _, h4 | ⟨k, h4, h5, h6⟩⟩
          · omega
          · exfalso
            have hge := Lib.indexByte_ge (s.drop (s.length - 101)) 47
            rw [hn] at hge
            have hk : (s.drop (s.length - 101))[k - (s.length - 101)]? = some 47 := by
              rw [List.getElem?_drop, show s.length - 101 + (k - (s.length - 101)) = k by omega]; exact h4
            by_cases hm : n = -1
            · subst hm
              exact Lib.indexByte_none hn _ hk
            · obtain ⟨o, rfl⟩ : ∃ o : Nat, n = (o : Int) := ⟨n.toNat, by omega⟩
              have := (Lib.indexByte_some hn).2 (k - (s.length - 101))
              by_cases hlt : k - (s.length - 101) < o
              · exact this hlt hk
              · omega
      · rename_i hc
        constructor
        · intro _
          refine ⟨h1, h2, .inr ?_⟩
          obtain ⟨o, rfl⟩ : ∃ o : Nat, n = (o : Int) := ⟨n.toNat, by omega⟩
          have := (Lib.indexByte_some hn).1
          rw [List.getElem?_drop] at this
          exact ⟨_, this, by omega, by omega⟩
        · intro _; rfl

theorem mayP_take {s : List UInt8} {j : Nat} (h : mayP s = true) (hj : s[j]? = some 47) : mayP (s.take j) = true := by
  obtain ⟨h1, h2, h3⟩ := (mayP_iff s).1 h
  obtain ⟨hl, he⟩ := List.getElem?_eq_some_iff.1 hj
  have hs : s = s.take j ++ 47 :: s.drop (j + 1) := by
    have := List.take_append_drop j s
    rw [List.drop_eq_getElem_cons hl, he] at this
    exact this.symm
  have h4 : partsOk (s.take j) = true := by
    unfold partsOk at h1 ⊢
    rw [hs, goParts_append] at h1
    simp only [Bool.and_eq_true] at h1
    exact h1.1
  have h5 : (s.take j).length = j := by simp; omega
  refine (mayP_iff _).2 ⟨h4, by omega, ?_⟩
  by_cases h6 : j ≤ 100
  · exact .inl (by omega)
  · right
    rcases h3 with h3 | ⟨K, k1, k2, k3⟩
    · omega
    · rcases goParts_last _ _ h4 with h7 | ⟨k, h7, h8⟩
      · simp at h7; omega
      · have hk : k < j := by have := (List.getElem?_eq_some_iff.1 h7).1; omega
        by_cases hk2 : k ≤ 155
        · exact ⟨k, h7, h8, hk2⟩
        · exact ⟨K, by rw [List.getElem?_take, if_pos (by omega)]; exact k1, by omega, k3⟩

/-! Under -/
theorem under_iff (s d : List UInt8) : under s d = true ↔ ∃ r, r ≠ [] ∧ s = d ++ 47 :: r := by
  unfold under Lib.trimPrefix Lib.hasPrefix
  constructor
  · intro h
    simp only [Bool.and_eq_true] at h
    obtain ⟨h1, h2⟩ := h
    rw [if_pos h1] at h2
    obtain ⟨r, hr⟩ := List.isPrefixOf_iff_prefix.1 h1
    refine ⟨r, ?_, by rw [← hr]; simp⟩
    rintro rfl
    rw [← hr] at h2
    simp at h2
  · rintro ⟨r, hr, rfl⟩
    have h1 : (d ++ [47]).isPrefixOf (d ++ 47 :: r) = true := List.isPrefixOf_iff_prefix.2 ⟨r, by simp⟩
    rw [h1, if_pos rfl, show d ++ 47 :: r = (d ++ [47]) ++ r by simp, List.drop_left]
    cases r with
    | nil => exact absurd rfl hr
    | cons _ _ => rfl
theorem under_self (s : List UInt8) : under s s = false := by
  cases h : under s s
  · rfl
  · obtain ⟨r, _, hs⟩ := (under_iff s s).1 h
    have := congrArg List.length hs
    simp at this
theorem under_mem {s d : List UInt8} (h : under s d = true) : d ∈ parents s := by
  obtain ⟨r, _, rfl⟩ := (under_iff s d).1 h
  have := parentsTo_mem (d ++ 47 :: r) (d ++ 47 :: r).length d.length (by simp) (by simp)
  exact List.mem_of_getElem? (this.trans (by simp))
theorem under_trans {s d o : List UInt8} (h : under s d = true) (k : under d o = true) : under s o = true := by
  obtain ⟨r, hr, rfl⟩ := (under_iff s d).1 h
  obtain ⟨q, hq, rfl⟩ := (under_iff d o).1 k
  exact (under_iff _ _).2 ⟨q ++ 47 :: r, by simp, by simp⟩
theorem take_slash {s : List UInt8} {j : Nat} (hj : s[j]? = some 47) : s = s.take j ++ 47 :: s.drop (j + 1) := by
  obtain ⟨hl, he⟩ := List.getElem?_eq_some_iff.1 hj
  have := List.take_append_drop j s
  rw [List.drop_eq_getElem_cons hl, he] at this
  exact this.symm
theorem under_take {s : List UInt8} {j : Nat} (hj : s[j]? = some 47) (h : j + 1 < s.length) : under s (s.take j) = true := by
  refine (under_iff _ _).2 ⟨s.drop (j + 1), fun e => ?_, take_slash hj⟩
  have := congrArg List.length e
  simp at this; omega
/-- Each parent's length, and what lies below it. -/
theorem parents_rise {s : List UInt8} {i : Nat} {p q : List UInt8} (hp : (parents s)[i + 1]? = some p) (hq : (parents s)[i]? = some q) : under (p ++ [47, 120]) q = true := by
  obtain ⟨j, h1, h2, h3, h4, _⟩ := parents_get hp
  obtain ⟨k, k1, k2, k3, k4, _⟩ := parents_get hq
  have hkj : k < j := by
    by_cases e : k < j
    · exact e
    · by_cases e2 : k = j
      · subst e2; omega
      · have := parentsTo_mono s k j (by omega) h2
        omega
  have hk : (s.take j)[k]? = some 47 := by rw [List.getElem?_take, if_pos hkj]; exact k2
  have ht := take_slash hk
  rw [List.take_take, Nat.min_eq_left (by omega)] at ht
  refine (under_iff _ _).2 ⟨(s.take j).drop (k + 1) ++ [47, 120], by simp, ?_⟩
  rw [h3, k3]
  conv => lhs; rw [ht]
  simp
theorem parents_under {s : List UInt8} {i : Nat} {p : List UInt8} (hp : (parents s)[i]? = some p) (h : p.length + 1 < s.length) : under s p = true := by
  obtain ⟨j, h1, h2, h3, h4, _⟩ := parents_get hp
  have : p.length = j := by rw [h3]; simp; omega
  rw [h3]
  exact under_take h2 (by omega)
theorem parents_len {s : List UInt8} {i : Nat} {p : List UInt8} (hp : (parents s)[i]? = some p) : p.length < s.length := by
  obtain ⟨j, h1, h2, h3, h4, _⟩ := parents_get hp
  rw [h3]; simp; omega
theorem parents_small (s : List UInt8) : (parents s).length ≤ s.length := parentsTo_length s _
theorem getD_get {l : List (List UInt8)} {i : Nat} (h : i < l.length) : l[i]? = some (l.getD i []) := by
  rw [List.getD_eq_getElem?_getD, List.getElem?_eq_getElem h]; rfl
end Go.AL.Path
