/- symMerge with one element on a side. -/
import Derived.Test.YtofokmpdioblkaaGreatDoorG32
set_option linter.unusedSimpArgs false
set_option linter.unusedVariables false
set_option maxRecDepth 100000
namespace Go.AL.Path
open Go Go.RowKit Go.Proofs Go.AL
theorem insAt_y' {P S R : List Shw} {x : Shw} {p : Nat} (h : p < S.length) : (insAt P S x R p).getD (P.length + p + 1) d36 = S.getD p d36 := by
  unfold insAt
  have hl : (P ++ S.take p).length = P.length + p := by simp; omega
  have e2 : S.drop p = S.getD p d36 :: S.drop (p + 1) := by
    rw [List.getD_eq_getElem?_getD, List.getElem?_eq_getElem h]
    exact List.drop_eq_getElem_cons h
  rw [e2, List.getD_eq_getElem?_getD, show P ++ (S.take p ++ x :: S.getD p d36 :: S.drop (p + 1)) ++ R = (P ++ S.take p) ++ x :: S.getD p d36 :: (S.drop (p + 1) ++ R) by simp, ← hl, List.getElem?_append_right (by omega)]
  simp
theorem insAt_up {P S R : List Shw} {x : Shw} {p : Nat} (h : p < S.length) : ((insAt P S x R p).set (P.length + p) (S.getD p d36)).set (P.length + p + 1) x = insAt P S x R (p + 1) := by
  have e1 : S.take (p + 1) = S.take p ++ [S.getD p d36] := take_get (by omega)
  have e2 : S.drop p = S.getD p d36 :: S.drop (p + 1) := by
    rw [List.getD_eq_getElem?_getD, List.getElem?_eq_getElem (by omega)]
    exact List.drop_eq_getElem_cons (by omega)
  unfold insAt
  rw [e1, e2]
  generalize S.getD p d36 = y
  have hl : (P ++ S.take p).length = P.length + p := by simp; omega
  have a1 : P ++ (S.take p ++ x :: y :: S.drop (p + 1)) ++ R = (P ++ S.take p) ++ x :: y :: (S.drop (p + 1) ++ R) := by simp
  rw [a1, ← hl]
  rw [List.set_append_right _ _ (by omega), List.set_append_right _ _ (by omega)]
  simp
theorem insAt_s {P S R : List Shw} {x : Shw} {q : Nat} (h : q < S.length) : (insAt P S x R 0).getD (P.length + 1 + q) d36 = S.getD q d36 := by
  unfold insAt
  rw [List.getD_eq_getElem?_getD, show P ++ (S.take 0 ++ x :: S.drop 0) ++ R = (P ++ [x]) ++ (S ++ R) by simp, List.getElem?_append_right (by simp <;> omega), List.getElem?_append_left (by simp <;> omega), List.getD_eq_getElem?_getD]
  simp
theorem insAt_e {P S R : List Shw} {x : Shw} {q : Nat} (h : q < S.length) : (insAt P S x R S.length).getD (P.length + q) d36 = S.getD q d36 := by
  unfold insAt
  rw [List.getD_eq_getElem?_getD, show P ++ (S.take S.length ++ x :: S.drop S.length) ++ R = P ++ (S ++ (x :: R)) by simp, List.getElem?_append_right (by simp), List.getElem?_append_left (by simp; omega), List.getD_eq_getElem?_getD]
  simp
theorem srt_get {S : List Shw} (h : Srt Shw.path S) {i j : Nat} (hij : i ≤ j) (hj : j < S.length) : Le Shw.path (S.getD i d36) (S.getD j d36) := by
  rw [List.getD_eq_getElem?_getD, List.getD_eq_getElem?_getD, List.getElem?_eq_getElem (by omega), List.getElem?_eq_getElem hj]
  rcases Nat.lt_or_eq_of_le hij with h1 | h1
  · exact List.pairwise_iff_getElem.1 h i j (by omega) hj h1
  · subst h1; exact Le.refl _
theorem le_lt {a b c : Shw} (h : Le Shw.path a b) (h' : b.path < c.path) : a.path < c.path := by
  by_cases e : a.path < b.path
  · exact k_trans e h'
  · rw [k_tri e h]; exact h'
theorem mem_getD {S : List Shw} {s : Shw} (h : s ∈ S) : ∃ q, q < S.length ∧ s = S.getD q d36 := by
  obtain ⟨q, hq, rfl⟩ := List.getElem_of_mem h
  exact ⟨q, hq, by rw [List.getD_eq_getElem?_getD, List.getElem?_eq_getElem hq]; rfl⟩
theorem mem_take_getD {S : List Shw} {s : Shw} {n : Nat} (h : s ∈ S.take n) : ∃ q, q < S.length ∧ q < n ∧ s = S.getD q d36 := by
  obtain ⟨q, hq, rfl⟩ := List.getElem_of_mem h
  rw [List.length_take] at hq
  exact ⟨q, by omega, by omega, by rw [List.getD_eq_getElem?_getD, List.getElem?_eq_getElem (by omega)]; simp⟩
theorem mem_drop_getD {S : List Shw} {s : Shw} {n : Nat} (h : s ∈ S.drop n) : ∃ q, q < S.length ∧ n ≤ q ∧ s = S.getD q d36 := by
  obtain ⟨q, hq, rfl⟩ := List.getElem_of_mem h
  rw [List.length_drop] at hq
  exact ⟨n + q, by omega, by omega, by rw [List.getD_eq_getElem?_getD, List.getElem?_eq_getElem (by omega)]; simp⟩
theorem sort_first {Y : List Shw} {x : Shw} {t : Nat} (hY : Srt Shw.path Y) (h1 : ∀ q, q < Y.length → q < t → (Y.getD q d36).path < x.path) (h2 : ∀ q, q < Y.length → t ≤ q → ¬ (Y.getD q d36).path < x.path) :
    Y.take t ++ x :: Y.drop t = sortS Shw.path ([x] ++ Y) := by
  have hh := hY
  rw [← List.take_append_drop t Y] at hh
  have hh := Srt.app.1 hh
  have g1 : ∀ s ∈ Y.take t, s.path < x.path := fun s hs => by
    obtain ⟨q, hq, hqt, rfl⟩ := mem_take_getD hs
    exact h1 q hq hqt
  have g2 : ∀ s ∈ Y.drop t, Le Shw.path x s := fun s hs => by
    obtain ⟨q, hq, hqt, rfl⟩ := mem_drop_getD hs
    exact h2 q hq hqt
  refine sortS_uniq ?_ ?_
  · refine Srt.app.2 ⟨hh.1, List.pairwise_cons.2 ⟨g2, hh.2.1⟩, fun y hy z hz => ?_⟩
    rcases List.mem_cons.1 hz with rfl | hz
    · exact Le.of_lt (g1 y hy)
    · exact hh.2.2 y hy z hz
  · have e1 : [x] ++ Y = ([x] ++ Y.take t) ++ Y.drop t := by rw [List.append_assoc, List.take_append_drop]
    have e2 : Y.take t ++ x :: Y.drop t = (Y.take t ++ [x]) ++ Y.drop t := by simp
    rw [e1, e2]
    refine Stab.app (Stab.swap _ _ fun y hy z hz e => ?_) (Stab.refl _)
    rw [List.mem_singleton.1 hy] at e
    have := g1 z hz
    rw [e] at this
    exact k_irr _ this
theorem half_eq {i j : Nat} (h : i + j ≤ 4611686018427387904) : IntKind.i64.wrap ((IntKind.u64.wrap ((i : Int) + (j : Int))).fdiv (2 ^ min 1 IntKind.u64.bits)) = (((i + j) / 2 : Nat) : Int) := by
  have h1 : IntKind.u64.wrap ((i : Int) + (j : Int)) = ((i + j : Nat) : Int) := by
    simp only [IntKind.wrap, IntKind.bits, IntKind.signed]
    simp
    omega
  rw [h1]
  have h2 : (((i + j : Nat) : Int)).fdiv (2 ^ min 1 IntKind.u64.bits) = (((i + j) / 2 : Nat) : Int) := by
    have : min 1 IntKind.u64.bits = 1 := rfl
    rw [this, Int.fdiv_eq_ediv_of_nonneg _ (by decide)]
    simp
  rw [h2, In64.wrap ⟨by omega, by omega⟩]
def c58 : ACode := (.seq (.seq (.reg false 0 [⟨(.some 25), none, (.q .mv), [(.t 2)]⟩, ⟨(.some 26), none, (.q .mv), [(.t 1)]⟩, ⟨(.some 27), none, (.q (.bin .sub 3)), [(.t 25), (.t 26)]⟩, ⟨(.some 28), none, (.q (.bin .eql 3)), [(.t 27), (.c (.imm (.int .i64 1)))]⟩]) (.cond (.t 28) (.seq (.reg false 0 [⟨(.some 29), none, (.q .mv), [(.t 2)]⟩, ⟨(.some 10), none, (.q .mv), [(.t 29)]⟩]) (.seq (.reg false 0 [⟨(.some 30), none, (.q .mv), [(.t 3)]⟩, ⟨(.some 11), none, (.q .mv), [(.t 30)]⟩]) (.seq (.block 0 (.loop (.seq (.seq (.reg false 0 [⟨(.some 31), none, (.q .mv), [(.t 10)]⟩, ⟨(.some 32), none, (.q .mv), [(.t 11)]⟩, ⟨(.some 33), none, (.q (.bin .lss 3)), [(.t 31), (.t 32)]⟩]) (.cond (.t 33) .skip (.exit 0))) (.block 1 (.seq (.reg false 0 [⟨(.some 34), none, (.q .mv), [(.t 10)]⟩, ⟨(.some 35), none, (.q .mv), [(.t 11)]⟩, ⟨(.some 36), none, (.q (.bin .add 3)), [(.t 34), (.t 35)]⟩, ⟨(.some 37), none, (.q (.convI .u64)), [(.t 36)]⟩, ⟨(.some 38), none, (.q (.bin .shr 106)), [(.t 37), (.c (.imm (.int .u64 1)))]⟩, ⟨(.some 39), none, (.q (.convI .i64)), [(.t 38)]⟩, ⟨(.some 12), none, (.q .mv), [(.t 39)]⟩]) (.seq (.reg true 0 [⟨(.some 40), none, (.q .mv), [(.t 4)]⟩, ⟨(.some 41), none, (.q .mv), [(.t 0)]⟩, ⟨(.some 42), none, (.q .mv), [(.t 12)]⟩, ⟨(.some 43), none, (.q (.iaddrS 36)), [(.t 41), (.t 42)]⟩, ⟨(.some 44), none, (.l (.loadA 36)), [(.t 43)]⟩, ⟨(.some 45), none, (.q .mv), [(.t 0)]⟩, ⟨(.some 46), none, (.q .mv), [(.t 1)]⟩, ⟨(.some 47), none, (.q (.iaddrS 36)), [(.t 45), (.t 46)]⟩, ⟨(.some 48), none, (.l (.loadA 36)), [(.t 47)]⟩, ⟨(.some 49), none, (.call true), [(.t 40), (.t 44), (.t 48)]⟩, ⟨(.some 50), none, (.q (.bin .lss 3)), [(.t 49), (.c (.imm (.int .i64 0)))]⟩]) (.cond (.t 50) (.reg false 0 [⟨(.some 51), none, (.q .mv), [(.t 12)]⟩, ⟨(.some 52), none, (.q (.bin .add 3)), [(.t 51), (.c (.imm (.int .i64 1)))]⟩, ⟨(.some 10), none, (.q .mv), [(.t 52)]⟩]) (.reg false 0 [⟨(.some 53), none, (.q .mv), [(.t 12)]⟩, ⟨(.some 11), none, (.q .mv), [(.t 53)]⟩])))))))) (.seq (.seq (.reg false 0 [⟨(.some 54), none, (.q .mv), [(.t 1)]⟩, ⟨(.some 13), none, (.q .mv), [(.t 54)]⟩]) (.block 2 (.loop (.seq (.seq (.reg false 0 [⟨(.some 55), none, (.q .mv), [(.t 13)]⟩, ⟨(.some 56), none, (.q .mv), [(.t 10)]⟩, ⟨(.some 57), none, (.q (.bin .sub 3)), [(.t 56), (.c (.imm (.int .i64 1)))]⟩, ⟨(.some 58), none, (.q (.bin .lss 3)), [(.t 55), (.t 57)]⟩]) (.cond (.t 58) .skip (.exit 2))) (.seq (.block 3 (.reg true 0 [⟨(.some 61), none, (.q .mv), [(.t 0)]⟩, ⟨(.some 62), none, (.q .mv), [(.t 13)]⟩, ⟨(.some 63), none, (.q .mv), [(.t 0)]⟩, ⟨(.some 64), none, (.q .mv), [(.t 13)]⟩, ⟨(.some 65), none, (.q (.bin .add 3)), [(.t 64), (.c (.imm (.int .i64 1)))]⟩, ⟨(.some 66), none, (.q .mv), [(.t 0)]⟩, ⟨(.some 67), none, (.q .mv), [(.t 13)]⟩, ⟨(.some 68), none, (.q (.bin .add 3)), [(.t 67), (.c (.imm (.int .i64 1)))]⟩, ⟨(.some 69), none, (.q (.iaddrS 36)), [(.t 66), (.t 68)]⟩, ⟨(.some 70), none, (.l (.loadA 36)), [(.t 69)]⟩, ⟨(.some 71), none, (.q .mv), [(.t 0)]⟩, ⟨(.some 72), none, (.q .mv), [(.t 13)]⟩, ⟨(.some 73), none, (.q (.iaddrS 36)), [(.t 71), (.t 72)]⟩, ⟨(.some 74), none, (.l (.loadA 36)), [(.t 73)]⟩, ⟨(.some 75), none, (.q (.iaddrS 36)), [(.t 61), (.t 62)]⟩, ⟨none, none, (.e (.store 36)), [(.t 75), (.t 70)]⟩, ⟨(.some 76), none, (.q (.iaddrS 36)), [(.t 63), (.t 65)]⟩, ⟨none, none, (.e (.store 36)), [(.t 76), (.t 74)]⟩])) (.reg false 0 [⟨(.some 59), none, (.q .mv), [(.t 13)]⟩, ⟨(.some 60), none, (.q (.bin .add 3)), [(.t 59), (.c (.imm (.int .i64 1)))]⟩, ⟨(.some 13), none, (.q .mv), [(.t 60)]⟩])))))) .ret)))) .skip)) (.seq (.seq (.reg false 0 [⟨(.some 77), none, (.q .mv), [(.t 3)]⟩, ⟨(.some 78), none, (.q .mv), [(.t 2)]⟩, ⟨(.some 79), none, (.q (.bin .sub 3)), [(.t 77), (.t 78)]⟩, ⟨(.some 80), none, (.q (.bin .eql 3)), [(.t 79), (.c (.imm (.int .i64 1)))]⟩]) (.cond (.t 80) (.seq (.reg false 0 [⟨(.some 81), none, (.q .mv), [(.t 1)]⟩, ⟨(.some 14), none, (.q .mv), [(.t 81)]⟩]) (.seq (.reg false 0 [⟨(.some 82), none, (.q .mv), [(.t 2)]⟩, ⟨(.some 15), none, (.q .mv), [(.t 82)]⟩]) (.seq (.block 4 (.loop (.seq (.seq (.reg false 0 [⟨(.some 83), none, (.q .mv), [(.t 14)]⟩, ⟨(.some 84), none, (.q .mv), [(.t 15)]⟩, ⟨(.some 85), none, (.q (.bin .lss 3)), [(.t 83), (.t 84)]⟩]) (.cond (.t 85) .skip (.exit 4))) (.block 5 (.seq (.reg false 0 [⟨(.some 86), none, (.q .mv), [(.t 14)]⟩, ⟨(.some 87), none, (.q .mv), [(.t 15)]⟩, ⟨(.some 88), none, (.q (.bin .add 3)), [(.t 86), (.t 87)]⟩, ⟨(.some 89), none, (.q (.convI .u64)), [(.t 88)]⟩, ⟨(.some 90), none, (.q (.bin .shr 106)), [(.t 89), (.c (.imm (.int .u64 1)))]⟩, ⟨(.some 91), none, (.q (.convI .i64)), [(.t 90)]⟩, ⟨(.some 16), none, (.q .mv), [(.t 91)]⟩]) (.seq (.reg true 0 [⟨(.some 92), none, (.q .mv), [(.t 4)]⟩, ⟨(.some 93), none, (.q .mv), [(.t 0)]⟩, ⟨(.some 94), none, (.q .mv), [(.t 2)]⟩, ⟨(.some 95), none, (.q (.iaddrS 36)), [(.t 93), (.t 94)]⟩, ⟨(.some 96), none, (.l (.loadA 36)), [(.t 95)]⟩, ⟨(.some 97), none, (.q .mv), [(.t 0)]⟩, ⟨(.some 98), none, (.q .mv), [(.t 16)]⟩, ⟨(.some 99), none, (.q (.iaddrS 36)), [(.t 97), (.t 98)]⟩, ⟨(.some 100), none, (.l (.loadA 36)), [(.t 99)]⟩, ⟨(.some 101), none, (.call true), [(.t 92), (.t 96), (.t 100)]⟩, ⟨(.some 102), none, (.q (.bin .lss 3)), [(.t 101), (.c (.imm (.int .i64 0)))]⟩, ⟨(.some 103), none, (.q (.un .not)), [(.t 102)]⟩]) (.cond (.t 103) (.reg false 0 [⟨(.some 104), none, (.q .mv), [(.t 16)]⟩, ⟨(.some 105), none, (.q (.bin .add 3)), [(.t 104), (.c (.imm (.int .i64 1)))]⟩, ⟨(.some 14), none, (.q .mv), [(.t 105)]⟩]) (.reg false 0 [⟨(.some 106), none, (.q .mv), [(.t 16)]⟩, ⟨(.some 15), none, (.q .mv), [(.t 106)]⟩])))))))) (.seq (.seq (.reg false 0 [⟨(.some 107), none, (.q .mv), [(.t 2)]⟩, ⟨(.some 17), none, (.q .mv), [(.t 107)]⟩]) (.block 6 (.loop (.seq (.seq (.reg false 0 [⟨(.some 108), none, (.q .mv), [(.t 17)]⟩, ⟨(.some 109), none, (.q .mv), [(.t 14)]⟩, ⟨(.some 110), none, (.q (.bin .gtr 3)), [(.t 108), (.t 109)]⟩]) (.cond (.t 110) .skip (.exit 6))) (.seq (.block 7 (.reg true 0 [⟨(.some 113), none, (.q .mv), [(.t 0)]⟩, ⟨(.some 114), none, (.q .mv), [(.t 17)]⟩, ⟨(.some 115), none, (.q .mv), [(.t 0)]⟩, ⟨(.some 116), none, (.q .mv), [(.t 17)]⟩, ⟨(.some 117), none, (.q (.bin .sub 3)), [(.t 116), (.c (.imm (.int .i64 1)))]⟩, ⟨(.some 118), none, (.q .mv), [(.t 0)]⟩, ⟨(.some 119), none, (.q .mv), [(.t 17)]⟩, ⟨(.some 120), none, (.q (.bin .sub 3)), [(.t 119), (.c (.imm (.int .i64 1)))]⟩, ⟨(.some 121), none, (.q (.iaddrS 36)), [(.t 118), (.t 120)]⟩, ⟨(.some 122), none, (.l (.loadA 36)), [(.t 121)]⟩, ⟨(.some 123), none, (.q .mv), [(.t 0)]⟩, ⟨(.some 124), none, (.q .mv), [(.t 17)]⟩, ⟨(.some 125), none, (.q (.iaddrS 36)), [(.t 123), (.t 124)]⟩, ⟨(.some 126), none, (.l (.loadA 36)), [(.t 125)]⟩, ⟨(.some 127), none, (.q (.iaddrS 36)), [(.t 113), (.t 114)]⟩, ⟨none, none, (.e (.store 36)), [(.t 127), (.t 122)]⟩, ⟨(.some 128), none, (.q (.iaddrS 36)), [(.t 115), (.t 117)]⟩, ⟨none, none, (.e (.store 36)), [(.t 128), (.t 126)]⟩])) (.reg false 0 [⟨(.some 111), none, (.q .mv), [(.t 17)]⟩, ⟨(.some 112), none, (.q (.bin .sub 3)), [(.t 111), (.c (.imm (.int .i64 1)))]⟩, ⟨(.some 17), none, (.q .mv), [(.t 112)]⟩])))))) .ret)))) .skip)) (.seq (.reg false 0 [⟨(.some 129), none, (.q .mv), [(.t 1)]⟩, ⟨(.some 130), none, (.q .mv), [(.t 3)]⟩, ⟨(.some 131), none, (.q (.bin .add 3)), [(.t 129), (.t 130)]⟩, ⟨(.some 132), none, (.q (.convI .u64)), [(.t 131)]⟩, ⟨(.some 133), none, (.q (.bin .shr 106)), [(.t 132), (.c (.imm (.int .u64 1)))]⟩, ⟨(.some 134), none, (.q (.convI .i64)), [(.t 133)]⟩, ⟨(.some 18), none, (.q .mv), [(.t 134)]⟩]) (.seq (.reg false 0 [⟨(.some 135), none, (.q .mv), [(.t 18)]⟩, ⟨(.some 136), none, (.q .mv), [(.t 2)]⟩, ⟨(.some 137), none, (.q (.bin .add 3)), [(.t 135), (.t 136)]⟩, ⟨(.some 19), none, (.q .mv), [(.t 137)]⟩]) (.seq (.reg false 0 [⟨(.some 20), none, (.q .mv), [(.c (.imm (.int .i64 0)))]⟩, ⟨(.some 21), none, (.q .mv), [(.c (.imm (.int .i64 0)))]⟩]) (.seq (.seq (.reg false 0 [⟨(.some 138), none, (.q .mv), [(.t 2)]⟩, ⟨(.some 139), none, (.q .mv), [(.t 18)]⟩, ⟨(.some 140), none, (.q (.bin .gtr 3)), [(.t 138), (.t 139)]⟩]) (.cond (.t 140) (.seq (.reg false 0 [⟨(.some 141), none, (.q .mv), [(.t 19)]⟩, ⟨(.some 142), none, (.q .mv), [(.t 3)]⟩, ⟨(.some 143), none, (.q (.bin .sub 3)), [(.t 141), (.t 142)]⟩, ⟨(.some 20), none, (.q .mv), [(.t 143)]⟩]) (.reg false 0 [⟨(.some 144), none, (.q .mv), [(.t 18)]⟩, ⟨(.some 21), none, (.q .mv), [(.t 144)]⟩])) (.seq (.reg false 0 [⟨(.some 145), none, (.q .mv), [(.t 1)]⟩, ⟨(.some 20), none, (.q .mv), [(.t 145)]⟩]) (.reg false 0 [⟨(.some 146), none, (.q .mv), [(.t 2)]⟩, ⟨(.some 21), none, (.q .mv), [(.t 146)]⟩])))) (.seq (.reg false 0 [⟨(.some 147), none, (.q .mv), [(.t 19)]⟩, ⟨(.some 148), none, (.q (.bin .sub 3)), [(.t 147), (.c (.imm (.int .i64 1)))]⟩, ⟨(.some 22), none, (.q .mv), [(.t 148)]⟩]) (.seq (.block 8 (.loop (.seq (.seq (.reg false 0 [⟨(.some 149), none, (.q .mv), [(.t 20)]⟩, ⟨(.some 150), none, (.q .mv), [(.t 21)]⟩, ⟨(.some 151), none, (.q (.bin .lss 3)), [(.t 149), (.t 150)]⟩]) (.cond (.t 151) .skip (.exit 8))) (.block 9 (.seq (.reg false 0 [⟨(.some 152), none, (.q .mv), [(.t 20)]⟩, ⟨(.some 153), none, (.q .mv), [(.t 21)]⟩, ⟨(.some 154), none, (.q (.bin .add 3)), [(.t 152), (.t 153)]⟩, ⟨(.some 155), none, (.q (.convI .u64)), [(.t 154)]⟩, ⟨(.some 156), none, (.q (.bin .shr 106)), [(.t 155), (.c (.imm (.int .u64 1)))]⟩, ⟨(.some 157), none, (.q (.convI .i64)), [(.t 156)]⟩, ⟨(.some 23), none, (.q .mv), [(.t 157)]⟩]) (.seq (.reg true 0 [⟨(.some 158), none, (.q .mv), [(.t 4)]⟩, ⟨(.some 159), none, (.q .mv), [(.t 0)]⟩, ⟨(.some 160), none, (.q .mv), [(.t 22)]⟩, ⟨(.some 161), none, (.q .mv), [(.t 23)]⟩, ⟨(.some 162), none, (.q (.bin .sub 3)), [(.t 160), (.t 161)]⟩, ⟨(.some 163), none, (.q (.iaddrS 36)), [(.t 159), (.t 162)]⟩, ⟨(.some 164), none, (.l (.loadA 36)), [(.t 163)]⟩, ⟨(.some 165), none, (.q .mv), [(.t 0)]⟩, ⟨(.some 166), none, (.q .mv), [(.t 23)]⟩, ⟨(.some 167), none, (.q (.iaddrS 36)), [(.t 165), (.t 166)]⟩, ⟨(.some 168), none, (.l (.loadA 36)), [(.t 167)]⟩, ⟨(.some 169), none, (.call true), [(.t 158), (.t 164), (.t 168)]⟩, ⟨(.some 170), none, (.q (.bin .lss 3)), [(.t 169), (.c (.imm (.int .i64 0)))]⟩, ⟨(.some 171), none, (.q (.un .not)), [(.t 170)]⟩]) (.cond (.t 171) (.reg false 0 [⟨(.some 172), none, (.q .mv), [(.t 23)]⟩, ⟨(.some 173), none, (.q (.bin .add 3)), [(.t 172), (.c (.imm (.int .i64 1)))]⟩, ⟨(.some 20), none, (.q .mv), [(.t 173)]⟩]) (.reg false 0 [⟨(.some 174), none, (.q .mv), [(.t 23)]⟩, ⟨(.some 21), none, (.q .mv), [(.t 174)]⟩])))))))) (.seq (.reg false 0 [⟨(.some 175), none, (.q .mv), [(.t 19)]⟩, ⟨(.some 176), none, (.q .mv), [(.t 20)]⟩, ⟨(.some 177), none, (.q (.bin .sub 3)), [(.t 175), (.t 176)]⟩, ⟨(.some 24), none, (.q .mv), [(.t 177)]⟩]) (.seq (.seq (.reg false 0 [⟨(.some 178), none, (.q .mv), [(.t 20)]⟩, ⟨(.some 179), none, (.q .mv), [(.t 2)]⟩, ⟨(.some 180), none, (.q (.bin .lss 3)), [(.t 178), (.t 179)]⟩, ⟨(.some 181), none, (.q .mv), [(.t 180)]⟩, ⟨(.some 182), (.some (181, true)), (.q .mv), [(.t 2)]⟩, ⟨(.some 183), (.some (181, true)), (.q .mv), [(.t 24)]⟩, ⟨(.some 184), (.some (181, true)), (.q (.bin .lss 3)), [(.t 182), (.t 183)]⟩, ⟨(.some 185), none, (.q .pick), [(.t 181), (.t 184), (.c (.imm (.bool false)))]⟩]) (.cond (.t 185) (.reg false 0 [⟨(.some 186), none, (.q .mv), [(.t 0)]⟩, ⟨(.some 187), none, (.q .mv), [(.t 20)]⟩, ⟨(.some 188), none, (.q .mv), [(.t 2)]⟩, ⟨(.some 189), none, (.q .mv), [(.t 24)]⟩, ⟨(.some 190), none, (.q .mv), [(.t 4)]⟩, ⟨(.some 191), none, (.call true), [(.c (.fn (.func 71) [] [])), (.t 186), (.t 187), (.t 188), (.t 189), (.t 190)]⟩]) .skip)) (.seq (.seq (.reg false 0 [⟨(.some 192), none, (.q .mv), [(.t 1)]⟩, ⟨(.some 193), none, (.q .mv), [(.t 20)]⟩, ⟨(.some 194), none, (.q (.bin .lss 3)), [(.t 192), (.t 193)]⟩, ⟨(.some 195), none, (.q .mv), [(.t 194)]⟩, ⟨(.some 196), (.some (195, true)), (.q .mv), [(.t 20)]⟩, ⟨(.some 197), (.some (195, true)), (.q .mv), [(.t 18)]⟩, ⟨(.some 198), (.some (195, true)), (.q (.bin .lss 3)), [(.t 196), (.t 197)]⟩, ⟨(.some 199), none, (.q .pick), [(.t 195), (.t 198), (.c (.imm (.bool false)))]⟩]) (.cond (.t 199) (.reg false 0 [⟨(.some 200), none, (.q .mv), [(.t 0)]⟩, ⟨(.some 201), none, (.q .mv), [(.t 1)]⟩, ⟨(.some 202), none, (.q .mv), [(.t 20)]⟩, ⟨(.some 203), none, (.q .mv), [(.t 18)]⟩, ⟨(.some 204), none, (.q .mv), [(.t 4)]⟩, ⟨(.some 205), none, (.call true), [(.c (.fn (.func 58) [] [])), (.t 200), (.t 201), (.t 202), (.t 203), (.t 204)]⟩]) .skip)) (.seq (.reg false 0 [⟨(.some 206), none, (.q .mv), [(.t 18)]⟩, ⟨(.some 207), none, (.q .mv), [(.t 24)]⟩, ⟨(.some 208), none, (.q (.bin .lss 3)), [(.t 206), (.t 207)]⟩, ⟨(.some 209), none, (.q .mv), [(.t 208)]⟩, ⟨(.some 210), (.some (209, true)), (.q .mv), [(.t 24)]⟩, ⟨(.some 211), (.some (209, true)), (.q .mv), [(.t 3)]⟩, ⟨(.some 212), (.some (209, true)), (.q (.bin .lss 3)), [(.t 210), (.t 211)]⟩, ⟨(.some 213), none, (.q .pick), [(.t 209), (.t 212), (.c (.imm (.bool false)))]⟩]) (.cond (.t 213) (.reg false 0 [⟨(.some 214), none, (.q .mv), [(.t 0)]⟩, ⟨(.some 215), none, (.q .mv), [(.t 18)]⟩, ⟨(.some 216), none, (.q .mv), [(.t 24)]⟩, ⟨(.some 217), none, (.q .mv), [(.t 3)]⟩, ⟨(.some 218), none, (.q .mv), [(.t 4)]⟩, ⟨(.some 219), none, (.call true), [(.c (.fn (.func 58) [] [])), (.t 214), (.t 215), (.t 216), (.t 217), (.t 218)]⟩]) .skip)))))))))))))
theorem fn58 : IsFn Tryz.prog 58 [] c58 [] 220 := ⟨_, _, Tryz.func58, rfl, by decide +kernel, by kernel_rfl, rfl, rfl⟩
set_option maxHeartbeats 4000000 in
theorem o58a {H : List AObj} {id ver te : Nat} {l P Y Q : List Shw} {x : Shw} {a m b : Nat} (hH : H[id]? = some (.row te 36 ver (l.map shwE.v))) (hlow : ∀ o ∈ H, o.low H.length) (ho : shwE.all l) (hs : l.length ≤ 1099511627)
    (hl : l = insAt P Y x Q 0) (ha : P.length = a) (hm' : P.length + 1 = m) (hb : P.length + 1 + Y.length = b) (hY : Srt Shw.path Y) (hY0 : 0 < Y.length) :
    Ok Tryz.prog G 58 [.rs id ver 36 0 l.length, i64 a, i64 m, i64 b, cmpF] H (.tup []) (H.set id (.row te 36 ver ((P ++ sortS Shw.path ([x] ++ Y) ++ Q).map shwE.v))) := by
  have hid : id < H.length := SimH.lt hH
  have hself := RowH_self hH
  refine ok_of_code (S := sp [(26, cmp26)] []) hm hG (sp_holds (.cons told_cmp26 .nil) .nil) fn58
    (St 25 220 [.rs id ver 36 0 l.length, i64 a, i64 m, i64 b, .fn (.func 26) [] [], .junk, .junk, .junk, .junk, .junk, .junk, .junk, .junk, .junk, .junk, .junk, .junk, .junk, .junk, .junk, .junk, .junk, .junk, .junk, .junk] []) (by kernel_rfl) (by simp [AV.low, lows, hid, cmpF]) (by simp) (by rw [List.length_set]; exact low_setR hlow _) ?_
  have hle : ∀ o, ((RowH H id o []).length ≤ id) = False := fun o => eq_false (by rw [RowH_length]; simp; exact hid)
  have hlen : P.length + 1 + Y.length + Q.length = l.length := by rw [hl, insAt_len (by omega)]; omega
  have ox : ShwOk x := ho x (by rw [hl]; simp [insAt])
  have oY : shwE.all Y := fun y hy => ho y (by rw [hl]; simp [insAt, hy])
  have oP : shwE.all P := fun y hy => ho y (by rw [hl]; simp [insAt, hy])
  have oQ : shwE.all Q := fun y hy => ho y (by rw [hl]; simp [insAt, hy])
  generalize hn0 : H.length = N
  rw [hself]
  have e1 : ((m : Int) - (a : Int)) = 1 := by omega
  have in1 : In64 1 := ⟨by decide, by decide⟩
  simp (maxSteps := 2000000) -implicitDefEqProofs only [c58, RS, RX, Nat.reduceLT, ↓RP0, ↓RP1, ↓RP2, ↓RP3, RV, RW, ↓reduceIte, Nat.reduceAdd, Nat.reduceSub, Nat.reduceMul, Nat.reduceLeDiff, Nat.reduceEqDiff, Int.reduceLT, Int.reduceLE, Int.reduceEq, Int.reduceNe, Int.reduceAdd, Int.reduceSub, Int.reduceMul, Int.reduceNeg, Int.reduceToNat, reduceCtorEq, e1, in1]
  refine loopB (st := fun (z : Nat × Nat) => (St 25 220 [.rs id ver 36 0 l.length, i64 a, i64 m, i64 b, .fn (.func 26) [] [], .junk, .junk, .junk, .junk, .junk, i64 z.1, i64 z.2, .junk, .junk, .junk, .junk, .junk, .junk, .junk, .junk, .junk, .junk, .junk, .junk, .junk] [])) (hp := fun _ => RowH H id (.row te 36 ver (l.map shwE.v)) []) (I := fun z => m ≤ z.1 ∧ z.1 ≤ z.2 ∧ z.2 ≤ b ∧ (∀ q, q < Y.length → m + q < z.1 → (Y.getD q d36).path < x.path) ∧ (∀ q, q < Y.length → z.2 ≤ m + q → ¬ (Y.getD q d36).path < x.path)) (m := fun x => x.2 - x.1) (m, b) ⟨Nat.le_refl _, by omega, Nat.le_refl _, fun q _ h => by dsimp only at h; omega, fun q h1 h => by dsimp only at h; omega⟩ ?_ ?_
  · subst hn0
    refine weak_cutS H.length (Nat.le_refl _) ?_ ?_ ?_
    · rw [RowH_take, RowH_nil]
    · rw [RowH_nil]; exact low_setR hlow _
    · simp [WeakL, AV.low, lows, hid, cmpF]
  · rintro ⟨i, j⟩ ⟨h1, h2, h3, h4, h5⟩
    dsimp only at h1 h2 h3 h4 h5 ⊢
    by_cases hlt : i < j
    · have e2 : ((i : Int) < (j : Int)) = True := eq_true (by omega)
      obtain ⟨h, hh⟩ : ∃ h, (i + j) / 2 = h := ⟨_, rfl⟩
      have hw := half_eq (i := i) (j := j) (by omega)
      rw [hh] at hw
      have gx := shws_get (l := l) (p := a) (by omega)
      have gy := shws_get (l := l) (p := h) (by omega)
      have vx : l.getD a d36 = x := by rw [hl, ← ha]; exact insAt_x (Nat.zero_le _)
      have vy : l.getD h d36 = Y.getD (h - m) d36 := by
        have := insAt_s (P := P) (S := Y) (R := Q) (x := x) (q := h - m) (by omega)
        rw [← hl, show P.length + 1 + (h - m) = h by omega] at this
        exact this
      rw [vx] at gx
      rw [vy] at gy
      have oy := shw_getD oY (h - m)
      have mono : ∀ q, q < Y.length → q ≤ h - m → Le Shw.path (Y.getD q d36) (Y.getD (h - m) d36) := fun q hq hqh => srt_get hY hqh (by omega)
      have mono2 : ∀ q, q < Y.length → h - m ≤ q → Le Shw.path (Y.getD (h - m) d36) (Y.getD q d36) := fun q hq hqh => srt_get hY hqh hq
      generalize Y.getD (h - m) d36 = y at *
      have q : ∀ K, ask cmp26 [.agg (shwC y), .agg (shwC x)] K = K (i64 (cmpZ y.path x.path)) := fun K => ask_cmp26 oy ox
      have l1 := shw_len ox
      have l2 := shw_len oy
      have k1 := shw_take ox
      have k2 := shw_take oy
      by_cases hc : y.path < x.path
      · have e3 : (cmpZ y.path x.path < 0) = True := eq_true (cmpZ_lt.2 hc)
        simp (maxSteps := 2000000) -implicitDefEqProofs only [RS, RX, Nat.reduceLT, ↓RP0, ↓RP1, ↓RP2, ↓RP3, RV, RW, ↓reduceIte, Nat.reduceAdd, Nat.reduceSub, Nat.reduceMul, Nat.reduceLeDiff, Nat.reduceEqDiff, Int.reduceLT, Int.reduceLE, Int.reduceEq, Int.reduceNe, Int.reduceAdd, Int.reduceSub, Int.reduceMul, Int.reduceNeg, Int.reduceToNat, reduceCtorEq, e2, e3, ↓q, q, gx, gy, hw, l1, l2, k1, k2, shw_strip, shws_len, RowH_id hid, hle, AV.cells]
        rw [show ((h : Int) + 1) = ((h + 1 : Nat) : Int) by omega]
        refine ⟨⟨by omega, by omega⟩, by omega, by omega, ⟨by omega, by omega⟩, (h + 1, j), by dsimp only; omega, ⟨by dsimp only; omega, by dsimp only; omega, h3, fun q hq hqi => ?_, h5⟩, ?_⟩
        · dsimp only at hqi
          exact le_lt (mono q hq (by omega)) hc
        dsimp only
        subst hn0
        refine weak_cutS H.length (Nat.le_refl _) ?_ ?_ ?_
        · rw [RowH_take, RowH_nil]
        · rw [RowH_nil]; exact low_setR hlow _
        · simp [WeakL, AV.low, lows, hid, cmpF]
      · have e3 : (cmpZ y.path x.path < 0) = False := eq_false (fun h => hc (cmpZ_lt.1 h))
        simp (maxSteps := 2000000) -implicitDefEqProofs only [RS, RX, Nat.reduceLT, ↓RP0, ↓RP1, ↓RP2, ↓RP3, RV, RW, ↓reduceIte, Nat.reduceAdd, Nat.reduceSub, Nat.reduceMul, Nat.reduceLeDiff, Nat.reduceEqDiff, Int.reduceLT, Int.reduceLE, Int.reduceEq, Int.reduceNe, Int.reduceAdd, Int.reduceSub, Int.reduceMul, Int.reduceNeg, Int.reduceToNat, reduceCtorEq, e2, e3, ↓q, q, gx, gy, hw, l1, l2, k1, k2, shw_strip, shws_len, RowH_id hid, hle, AV.cells]
        refine ⟨⟨by omega, by omega⟩, by omega, by omega, (i, h), by dsimp only; omega, ⟨h1, by dsimp only; omega, by dsimp only; omega, h4, fun q hq hqi hlt' => ?_⟩, ?_⟩
        · dsimp only at hqi
          exact hc (le_lt (mono2 q hq (by omega)) hlt')
        dsimp only
        subst hn0
        refine weak_cutS H.length (Nat.le_refl _) ?_ ?_ ?_
        · rw [RowH_take, RowH_nil]
        · rw [RowH_nil]; exact low_setR hlow _
        · simp [WeakL, AV.low, lows, hid, cmpF]
    · have e2 : ((i : Int) < (j : Int)) = False := eq_false (by omega)
      obtain rfl : i = j := by omega
      simp (maxSteps := 2000000) -implicitDefEqProofs only [RS, RX, Nat.reduceLT, ↓RP0, ↓RP1, ↓RP2, ↓RP3, RV, RW, ↓reduceIte, Nat.reduceAdd, Nat.reduceSub, Nat.reduceMul, Nat.reduceLeDiff, Nat.reduceEqDiff, Int.reduceLT, Int.reduceLE, Int.reduceEq, Int.reduceNe, Int.reduceAdd, Int.reduceSub, Int.reduceMul, Int.reduceNeg, Int.reduceToNat, reduceCtorEq, e2]
      obtain ⟨t, rfl⟩ : ∃ t, i = m + t := ⟨i - m, by omega⟩
      refine loopB (st := fun (p : Nat) => (St 25 220 [.rs id ver 36 0 l.length, i64 a, i64 m, i64 b, .fn (.func 26) [] [], .junk, .junk, .junk, .junk, .junk, i64 (m + t : Nat), i64 (m + t : Nat), .junk, i64 (a + p : Nat), .junk, .junk, .junk, .junk, .junk, .junk, .junk, .junk, .junk, .junk, .junk] [])) (hp := fun p => RowH H id (.row te 36 ver ((insAt P Y x Q p).map shwE.v)) []) (I := fun p => p ≤ t) (m := fun p => t - p) 0 (Nat.zero_le _) ?_ ?_
      · rw [← hl]
        subst hn0
        refine weak_cutS H.length (Nat.le_refl _) ?_ ?_ ?_
        · rw [RowH_take, RowH_nil]
        · rw [RowH_nil]; exact low_setR hlow _
        · simp [WeakL, AV.low, lows, hid, cmpF]
      · intro p hp
        have hil : (insAt P Y x Q p).length = l.length := by rw [insAt_len (by omega)]; omega
        by_cases hpt : p < t
        · have e2 : (((a + p : Nat) : Int) < ((m + t : Nat) : Int) - 1) = True := eq_true (by omega)
          have oI := insAt_ok (p := p) oP oY ox oQ
          obtain ⟨c, hc0⟩ : ∃ c, insAt P Y x Q p = c := ⟨_, rfl⟩
          obtain ⟨k, hk⟩ : ∃ k, a + p = k := ⟨_, rfl⟩
          have gx := shws_get (l := insAt P Y x Q p) (p := k) (by omega)
          have gy := shws_get (l := insAt P Y x Q p) (p := k + 1) (by omega)
          have vx : (insAt P Y x Q p).getD k d36 = x := by rw [← hk, ← ha]; exact insAt_x (by omega)
          have vy : (insAt P Y x Q p).getD (k + 1) d36 = Y.getD p d36 := by rw [← hk, ← ha]; exact insAt_y' (by omega)
          have hsw := insAt_up (P := P) (S := Y) (R := Q) (x := x) (p := p) (by omega)
          rw [ha, hk] at hsw
          rw [vx] at gx
          rw [vy] at gy
          rw [hc0] at gx gy hsw oI hil
          have oy := shw_getD oY p
          generalize Y.getD p d36 = y at *
          have l1 := shw_len ox
          have l2 := shw_len oy
          have k1 := shw_take ox
          have k2 := shw_take oy
          have i1 : ((k : Int) + 1).toNat = k + 1 := by omega
          rw [hk] at e2
          rw [hc0, hk]
          simp (maxSteps := 2000000) -implicitDefEqProofs only [RS, RX, Nat.reduceLT, ↓RP0, ↓RP1, ↓RP2, ↓RP3, RV, RW, ↓reduceIte, Nat.reduceAdd, Nat.reduceSub, Nat.reduceMul, Nat.reduceLeDiff, Nat.reduceEqDiff, Int.reduceLT, Int.reduceLE, Int.reduceEq, Int.reduceNe, Int.reduceAdd, Int.reduceSub, Int.reduceMul, Int.reduceNeg, Int.reduceToNat, reduceCtorEq, e2, gx, gy, i1, l1, l2, k1, k2, shw_strip, shws_len, hil, RowH_id hid, RowH_setId hid, hle, AV.cells, shws_set, List.length_set]
          rw [hsw, show ((k : Int) + 1) = ((a + (p + 1) : Nat) : Int) by omega]
          refine ⟨⟨by omega, by omega⟩, ⟨by omega, by omega⟩, ⟨by omega, by omega⟩, by omega, by omega, by omega, by omega, by omega, by omega, by omega, by omega, ⟨by omega, by omega⟩, p + 1, by dsimp only; omega, by dsimp only; omega, ?_⟩
          dsimp only
          subst hn0
          refine weak_cutS H.length (Nat.le_refl _) ?_ ?_ ?_
          · rw [RowH_take, RowH_nil]
          · rw [RowH_nil]; exact low_setR hlow _
          · simp [WeakL, AV.low, lows, hid, cmpF]
        · have e2 : (((a + p : Nat) : Int) < ((m + t : Nat) : Int) - 1) = False := eq_false (by omega)
          obtain rfl : p = t := by omega
          simp (maxSteps := 2000000) -implicitDefEqProofs only [RS, RX, Nat.reduceLT, ↓RP0, ↓RP1, ↓RP2, ↓RP3, RV, RW, ↓reduceIte, Nat.reduceAdd, Nat.reduceSub, Nat.reduceMul, Nat.reduceLeDiff, Nat.reduceEqDiff, Int.reduceLT, Int.reduceLE, Int.reduceEq, Int.reduceNe, Int.reduceAdd, Int.reduceSub, Int.reduceMul, Int.reduceNeg, Int.reduceToNat, reduceCtorEq, e2, retO_normal, retO_ret]
          refine ⟨⟨by omega, by omega⟩, ?_⟩
          have hfin : insAt P Y x Q p = P ++ sortS Shw.path (x :: Y) ++ Q := by
            unfold insAt
            rw [sort_first hY (fun q hq hqp => h4 q hq (by omega)) (fun q hq hqp => h5 q hq (by omega))]
            rfl
          rw [hfin, RowH_setId hid]
          exact List.take_length
end Go.AL.Path

/- symMerge with one element on the right. -/
set_option linter.unusedSimpArgs false
set_option linter.unusedVariables false
set_option maxRecDepth 100000
namespace Go.AL.Path
open Go Go.RowKit Go.Proofs Go.AL
theorem insAt_top {P S R : List Shw} {x : Shw} : (insAt P S x R S.length).getD (P.length + S.length) d36 = x := insAt_x (Nat.le_refl _)
set_option maxHeartbeats 4000000 in
theorem o58b {H : List AObj} {id ver te : Nat} {l P X Q : List Shw} {y : Shw} {a m b : Nat} (hH : H[id]? = some (.row te 36 ver (l.map shwE.v))) (hlow : ∀ o ∈ H, o.low H.length) (ho : shwE.all l) (hs : l.length ≤ 1099511627)
    (hl : l = insAt P X y Q X.length) (ha : P.length = a) (hm' : P.length + X.length = m) (hb : P.length + X.length + 1 = b) (hX : Srt Shw.path X) (hX1 : 1 < X.length) :
    Ok Tryz.prog G 58 [.rs id ver 36 0 l.length, i64 a, i64 m, i64 b, cmpF] H (.tup []) (H.set id (.row te 36 ver ((P ++ sortS Shw.path (X ++ [y]) ++ Q).map shwE.v))) := by
  have hid : id < H.length := SimH.lt hH
  have hself := RowH_self hH
  refine ok_of_code (S := sp [(26, cmp26)] []) hm hG (sp_holds (.cons told_cmp26 .nil) .nil) fn58
    (St 25 220 [.rs id ver 36 0 l.length, i64 a, i64 m, i64 b, .fn (.func 26) [] [], .junk, .junk, .junk, .junk, .junk, .junk, .junk, .junk, .junk, .junk, .junk, .junk, .junk, .junk, .junk, .junk, .junk, .junk, .junk, .junk] []) (by kernel_rfl) (by simp [AV.low, lows, hid, cmpF]) (by simp) (by rw [List.length_set]; exact low_setR hlow _) ?_
  have hle : ∀ o, ((RowH H id o []).length ≤ id) = False := fun o => eq_false (by rw [RowH_length]; simp; exact hid)
  have hlen : P.length + 1 + X.length + Q.length = l.length := by rw [hl, insAt_len (by omega)]; omega
  have oy : ShwOk y := ho y (by rw [hl]; simp [insAt])
  have oX : shwE.all X := fun z hz => ho z (by rw [hl]; simp [insAt, hz])
  have oP : shwE.all P := fun z hz => ho z (by rw [hl]; simp [insAt, hz])
  have oQ : shwE.all Q := fun z hz => ho z (by rw [hl]; simp [insAt, hz])
  generalize hn0 : H.length = N
  rw [hself]
  have e0 : ((m : Int) - (a : Int) = 1) = False := eq_false (by omega)
  have e1 : ((b : Int) - (m : Int)) = 1 := by omega
  have in1 : In64 1 := ⟨by decide, by decide⟩
  simp (maxSteps := 2000000) -implicitDefEqProofs only [c58, RS, RX, Nat.reduceLT, ↓RP0, ↓RP1, ↓RP2, ↓RP3, RV, RW, ↓reduceIte, Nat.reduceAdd, Nat.reduceSub, Nat.reduceMul, Nat.reduceLeDiff, Nat.reduceEqDiff, Int.reduceLT, Int.reduceLE, Int.reduceEq, Int.reduceNe, Int.reduceAdd, Int.reduceSub, Int.reduceMul, Int.reduceNeg, Int.reduceToNat, reduceCtorEq, e0, e1, in1]
  refine ⟨⟨by omega, by omega⟩, ?_⟩
  refine loopB (st := fun (z : Nat × Nat) => (St 25 220 [.rs id ver 36 0 l.length, i64 a, i64 m, i64 b, .fn (.func 26) [] [], .junk, .junk, .junk, .junk, .junk, .junk, .junk, .junk, .junk, i64 z.1, i64 z.2, .junk, .junk, .junk, .junk, .junk, .junk, .junk, .junk, .junk] [])) (hp := fun _ => RowH H id (.row te 36 ver (l.map shwE.v)) []) (I := fun z => a ≤ z.1 ∧ z.1 ≤ z.2 ∧ z.2 ≤ m ∧ (∀ q, q < X.length → a + q < z.1 → ¬ y.path < (X.getD q d36).path) ∧ (∀ q, q < X.length → z.2 ≤ a + q → y.path < (X.getD q d36).path)) (m := fun z => z.2 - z.1) (a, m) ⟨Nat.le_refl _, by omega, Nat.le_refl _, fun q _ h => by dsimp only at h; omega, fun q h1 h => by dsimp only at h; omega⟩ ?_ ?_
  · subst hn0
    refine weak_cutS H.length (Nat.le_refl _) ?_ ?_ ?_
    · rw [RowH_take, RowH_nil]
    · rw [RowH_nil]; exact low_setR hlow _
    · simp [WeakL, AV.low, lows, hid, cmpF]
  · rintro ⟨i, j⟩ ⟨h1, h2, h3, h4, h5⟩
    dsimp only at h1 h2 h3 h4 h5 ⊢
    by_cases hlt : i < j
    · have e2 : ((i : Int) < (j : Int)) = True := eq_true (by omega)
      obtain ⟨h, hh⟩ : ∃ h, (i + j) / 2 = h := ⟨_, rfl⟩
      have hw := half_eq (i := i) (j := j) (by omega)
      rw [hh] at hw
      have gy := shws_get (l := l) (p := m) (by omega)
      have gx := shws_get (l := l) (p := h) (by omega)
      have vy : l.getD m d36 = y := by rw [hl, ← hm']; exact insAt_top
      have vx : l.getD h d36 = X.getD (h - a) d36 := by
        have := insAt_e (P := P) (S := X) (R := Q) (x := y) (q := h - a) (by omega)
        rw [← hl, show P.length + (h - a) = h by omega] at this
        exact this
      rw [vx] at gx
      rw [vy] at gy
      have ox := shw_getD oX (h - a)
      have mono : ∀ q, q < X.length → q ≤ h - a → Le Shw.path (X.getD q d36) (X.getD (h - a) d36) := fun q hq hqh => srt_get hX hqh (by omega)
      have mono2 : ∀ q, q < X.length → h - a ≤ q → Le Shw.path (X.getD (h - a) d36) (X.getD q d36) := fun q hq hqh => srt_get hX hqh hq
      generalize X.getD (h - a) d36 = x at *
      have q : ∀ K, ask cmp26 [.agg (shwC y), .agg (shwC x)] K = K (i64 (cmpZ y.path x.path)) := fun K => ask_cmp26 oy ox
      have l1 := shw_len ox
      have l2 := shw_len oy
      have k1 := shw_take ox
      have k2 := shw_take oy
      by_cases hc : y.path < x.path
      · have e3 : (cmpZ y.path x.path < 0) = True := eq_true (cmpZ_lt.2 hc)
        simp (maxSteps := 2000000) -implicitDefEqProofs only [RS, RX, Nat.reduceLT, ↓RP0, ↓RP1, ↓RP2, ↓RP3, RV, RW, ↓reduceIte, Nat.reduceAdd, Nat.reduceSub, Nat.reduceMul, Nat.reduceLeDiff, Nat.reduceEqDiff, Int.reduceLT, Int.reduceLE, Int.reduceEq, Int.reduceNe, Int.reduceAdd, Int.reduceSub, Int.reduceMul, Int.reduceNeg, Int.reduceToNat, reduceCtorEq, e2, e3, ↓q, q, gx, gy, hw, l1, l2, k1, k2, shw_strip, shws_len, RowH_id hid, hle, AV.cells]
        refine ⟨⟨by omega, by omega⟩, by omega, by omega, (i, h), by dsimp only; omega, ⟨h1, by dsimp only; omega, by dsimp only; omega, h4, fun q hq hqi => ?_⟩, ?_⟩
        · dsimp only at hqi
          exact lt_le hc (mono2 q hq (by omega))
        dsimp only
        subst hn0
        refine weak_cutS H.length (Nat.le_refl _) ?_ ?_ ?_
        · rw [RowH_take, RowH_nil]
        · rw [RowH_nil]; exact low_setR hlow _
        · simp [WeakL, AV.low, lows, hid, cmpF]
      · have e3 : (cmpZ y.path x.path < 0) = False := eq_false (fun h => hc (cmpZ_lt.1 h))
        simp (maxSteps := 2000000) -implicitDefEqProofs only [RS, RX, Nat.reduceLT, ↓RP0, ↓RP1, ↓RP2, ↓RP3, RV, RW, ↓reduceIte, Nat.reduceAdd, Nat.reduceSub, Nat.reduceMul, Nat.reduceLeDiff, Nat.reduceEqDiff, Int.reduceLT, Int.reduceLE, Int.reduceEq, Int.reduceNe, Int.reduceAdd, Int.reduceSub, Int.reduceMul, Int.reduceNeg, Int.reduceToNat, reduceCtorEq, e2, e3, ↓q, q, gx, gy, hw, l1, l2, k1, k2, shw_strip, shws_len, RowH_id hid, hle, AV.cells]
        rw [show ((h : Int) + 1) = ((h + 1 : Nat) : Int) by omega]
        refine ⟨⟨by omega, by omega⟩, by omega, by omega, ⟨by omega, by omega⟩, (h + 1, j), by dsimp only; omega, ⟨by dsimp only; omega, by dsimp only; omega, h3, fun q hq hqi hyx => ?_, h5⟩, ?_⟩
        · dsimp only at hqi
          exact hc (lt_le hyx (mono q hq (by omega)))
        dsimp only
        subst hn0
        refine weak_cutS H.length (Nat.le_refl _) ?_ ?_ ?_
        · rw [RowH_take, RowH_nil]
        · rw [RowH_nil]; exact low_setR hlow _
        · simp [WeakL, AV.low, lows, hid, cmpF]
    · have e2 : ((i : Int) < (j : Int)) = False := eq_false (by omega)
      obtain rfl : i = j := by omega
      obtain ⟨t, rfl⟩ : ∃ t, i = a + t := ⟨i - a, by omega⟩
      simp (maxSteps := 2000000) -implicitDefEqProofs only [RS, RX, Nat.reduceLT, ↓RP0, ↓RP1, ↓RP2, ↓RP3, RV, RW, ↓reduceIte, Nat.reduceAdd, Nat.reduceSub, Nat.reduceMul, Nat.reduceLeDiff, Nat.reduceEqDiff, Int.reduceLT, Int.reduceLE, Int.reduceEq, Int.reduceNe, Int.reduceAdd, Int.reduceSub, Int.reduceMul, Int.reduceNeg, Int.reduceToNat, reduceCtorEq, e2]
      refine loopB (st := fun (p : Nat) => (St 25 220 [.rs id ver 36 0 l.length, i64 a, i64 m, i64 b, .fn (.func 26) [] [], .junk, .junk, .junk, .junk, .junk, .junk, .junk, .junk, .junk, i64 (a + t : Nat), i64 (a + t : Nat), .junk, i64 (a + p : Nat), .junk, .junk, .junk, .junk, .junk, .junk, .junk] [])) (hp := fun p => RowH H id (.row te 36 ver ((insAt P X y Q p).map shwE.v)) []) (I := fun p => t ≤ p ∧ p ≤ X.length) (m := fun p => p) X.length ⟨by omega, Nat.le_refl _⟩ ?_ ?_
      · rw [← hl, show a + X.length = m by omega]
        subst hn0
        refine weak_cutS H.length (Nat.le_refl _) ?_ ?_ ?_
        · rw [RowH_take, RowH_nil]
        · rw [RowH_nil]; exact low_setR hlow _
        · simp [WeakL, AV.low, lows, hid, cmpF]
      · rintro p ⟨hp1, hp2⟩
        have hil : (insAt P X y Q p).length = l.length := by rw [insAt_len (by omega)]; omega
        by_cases hpt : t < p
        · obtain ⟨p, rfl⟩ : ∃ p', p = p' + 1 := ⟨p - 1, by omega⟩
          have e2 : (((a + t : Nat) : Int) < ((a + (p + 1) : Nat) : Int)) = True := eq_true (by omega)
          have oI := insAt_ok (p := p + 1) oP oX oy oQ
          obtain ⟨c, hc0⟩ : ∃ c, insAt P X y Q (p + 1) = c := ⟨_, rfl⟩
          obtain ⟨k, hk⟩ : ∃ k, a + (p + 1) = k := ⟨_, rfl⟩
          have gy := shws_get (l := insAt P X y Q (p + 1)) (p := k) (by omega)
          have gx := shws_get (l := insAt P X y Q (p + 1)) (p := a + p) (by omega)
          have vy : (insAt P X y Q (p + 1)).getD k d36 = y := by rw [← hk, ← ha]; exact insAt_x (by omega)
          have vx : (insAt P X y Q (p + 1)).getD (a + p) d36 = X.getD p d36 := by rw [← ha]; exact insAt_y (by omega)
          have hsw := insAt_swap (P := P) (S := X) (R := Q) (x := y) (p := p) (by omega)
          rw [ha, hk] at hsw
          rw [vx] at gx
          rw [vy] at gy
          rw [hc0] at gx gy hsw oI hil
          have ox := shw_getD oX p
          generalize X.getD p d36 = x at *
          have l1 := shw_len ox
          have l2 := shw_len oy
          have k1 := shw_take ox
          have k2 := shw_take oy
          have i1 : ((k : Int) - 1).toNat = a + p := by omega
          rw [hk] at e2
          rw [hc0, hk]
          simp (maxSteps := 2000000) -implicitDefEqProofs only [RS, RX, Nat.reduceLT, ↓RP0, ↓RP1, ↓RP2, ↓RP3, RV, RW, ↓reduceIte, Nat.reduceAdd, Nat.reduceSub, Nat.reduceMul, Nat.reduceLeDiff, Nat.reduceEqDiff, Int.reduceLT, Int.reduceLE, Int.reduceEq, Int.reduceNe, Int.reduceAdd, Int.reduceSub, Int.reduceMul, Int.reduceNeg, Int.reduceToNat, reduceCtorEq, e2, gx, gy, i1, l1, l2, k1, k2, shw_strip, shws_len, hil, RowH_id hid, RowH_setId hid, hle, AV.cells, shws_set, List.length_set]
          rw [hsw, show ((k : Int) - 1) = ((a + p : Nat) : Int) by omega]
          refine ⟨⟨by omega, by omega⟩, ⟨by omega, by omega⟩, by omega, by omega, by omega, by omega, by omega, by omega, by omega, by omega, ⟨by omega, by omega⟩, p, by dsimp only; omega, by dsimp only; omega, ?_⟩
          dsimp only
          subst hn0
          refine weak_cutS H.length (Nat.le_refl _) ?_ ?_ ?_
          · rw [RowH_take, RowH_nil]
          · rw [RowH_nil]; exact low_setR hlow _
          · simp [WeakL, AV.low, lows, hid, cmpF]
        · have e2 : (((a + t : Nat) : Int) < ((a + p : Nat) : Int)) = False := eq_false (by omega)
          obtain rfl : p = t := by omega
          have hfin : insAt P X y Q p = P ++ sortS Shw.path (X ++ [y]) ++ Q := by
            unfold insAt
            rw [ins_end (key := Shw.path) (l := X) (by rw [List.take_append_drop]; exact hX) (by rw [List.take_append_drop]; exact Stab.refl _) (fun s hs => by
              obtain ⟨q, hq, hqt, rfl⟩ := mem_drop_getD hs
              exact h5 q hq (by omega)) (fun s hs => by
              obtain ⟨q, hq, hqt, rfl⟩ := mem_take_getD hs
              exact h4 q hq (by omega))]
          simp (maxSteps := 2000000) -implicitDefEqProofs only [RS, RX, Nat.reduceLT, ↓RP0, ↓RP1, ↓RP2, ↓RP3, RV, RW, ↓reduceIte, Nat.reduceAdd, Nat.reduceSub, Nat.reduceMul, Nat.reduceLeDiff, Nat.reduceEqDiff, Int.reduceLT, Int.reduceLE, Int.reduceEq, Int.reduceNe, Int.reduceAdd, Int.reduceSub, Int.reduceMul, Int.reduceNeg, Int.reduceToNat, reduceCtorEq, Int.lt_irrefl, retO_normal, retO_ret]
          rw [hfin, RowH_setId hid]
          exact List.take_length
end Go.AL.Path

/- symMerge. -/
set_option linter.unusedSimpArgs false
set_option linter.unusedVariables false
set_option maxRecDepth 100000
namespace Go.AL.Path
open Go Go.RowKit Go.Proofs Go.AL
def rot71 : TSp := fun args H K => ∃ (id ver te : Nat) (l A X Y B : List Shw), args = [.rs id ver 36 0 l.length, i64 (A.length : Nat), i64 (A.length + X.length : Nat), i64 (A.length + X.length + Y.length : Nat), cmpF] ∧ H[id]? = some (.row te 36 ver (l.map shwE.v)) ∧ (∀ o ∈ H, o.low H.length) ∧ shwE.all l ∧ l.length ≤ 1099511627 ∧ l = A ++ X ++ Y ++ B ∧ 0 < X.length ∧ 0 < Y.length ∧ K (.tup []) (H.set id (.row te 36 ver ((A ++ Y ++ X ++ B).map shwE.v)))
theorem told_rot71 : ToldT Tryz.prog G 71 rot71 := by
  rintro args H K ⟨id, ver, te, l, A, X, Y, B, rfl, h1, h2, h3, h4, h5, h6, h7, h8⟩
  exact ⟨_, _, o71 h1 h2 h3 h4 h5 rfl rfl rfl rfl h6 h7, h8⟩
theorem ask71R {H : List AObj} {id ver te : Nat} {c A X Y B : List Shw} {a m b : Int} {n : Nat} {K : AV → List AObj → Prop} (hid : id < H.length) (hlow : ∀ o ∈ H, o.low H.length) (ha : a = (A.length : Nat)) (hm' : m = (A.length + X.length : Nat)) (hb : b = (A.length + X.length + Y.length : Nat)) (hn : n = c.length) (ho : shwE.all c) (hs : c.length ≤ 1099511627) (hc : c = A ++ X ++ Y ++ B) (hx : 0 < X.length) (hy : 0 < Y.length)
    (h : K (.tup []) (RowH H id (.row te 36 ver ((A ++ Y ++ X ++ B).map shwE.v)) [])) : askT rot71 [.rs id ver 36 0 n, i64 a, i64 m, i64 b, .fn (.func 26) [] []] (RowH H id (.row te 36 ver (c.map shwE.v)) []) K := by
  subst hn ha hm' hb
  exact ⟨id, ver, te, c, A, X, Y, B, rfl, RowH_id hid, rowH_low hlow c, ho, hs, hc, hx, hy, by rw [RowH_setId hid]; exact h⟩
def sym58 (d : Nat) : TSp := fun args H K => ∃ (id ver te : Nat) (l P X Y Q : List Shw), args = [.rs id ver 36 0 l.length, i64 (P.length : Nat), i64 (P.length + X.length : Nat), i64 (P.length + X.length + Y.length : Nat), cmpF] ∧ H[id]? = some (.row te 36 ver (l.map shwE.v)) ∧ (∀ o ∈ H, o.low H.length) ∧ shwE.all l ∧ l.length ≤ 1099511627 ∧ l = P ++ X ++ Y ++ Q ∧ 0 < X.length ∧ 0 < Y.length ∧ X.length + Y.length ≤ d ∧ Srt Shw.path X ∧ Srt Shw.path Y ∧ K (.tup []) (H.set id (.row te 36 ver ((P ++ sortS Shw.path (X ++ Y) ++ Q).map shwE.v)))
theorem ask58R {d : Nat} {H : List AObj} {id ver te : Nat} {c P X Y Q : List Shw} {a m b : Int} {n : Nat} {K : AV → List AObj → Prop} (hid : id < H.length) (hlow : ∀ o ∈ H, o.low H.length) (ha : a = (P.length : Nat)) (hm' : m = (P.length + X.length : Nat)) (hb : b = (P.length + X.length + Y.length : Nat)) (hn : n = c.length) (ho : shwE.all c) (hs : c.length ≤ 1099511627) (hc : c = P ++ X ++ Y ++ Q) (hx : 0 < X.length) (hy : 0 < Y.length) (hd : X.length + Y.length ≤ d) (hX : Srt Shw.path X) (hY : Srt Shw.path Y)
    (h : K (.tup []) (RowH H id (.row te 36 ver ((P ++ sortS Shw.path (X ++ Y) ++ Q).map shwE.v)) [])) : askT (sym58 d) [.rs id ver 36 0 n, i64 a, i64 m, i64 b, .fn (.func 26) [] []] (RowH H id (.row te 36 ver (c.map shwE.v)) []) K := by
  subst hn ha hm' hb
  exact ⟨id, ver, te, c, P, X, Y, Q, rfl, RowH_id hid, rowH_low hlow c, ho, hs, hc, hx, hy, hd, hX, hY, by rw [RowH_setId hid]; exact h⟩
theorem getD_mid {P X R : List Shw} {q : Nat} (h : q < X.length) : (P ++ X ++ R).getD (P.length + q) d36 = X.getD q d36 := by
  rw [List.getD_eq_getElem?_getD, List.append_assoc, List.getElem?_append_right (by omega), List.getElem?_append_left (by omega), List.getD_eq_getElem?_getD]
  simp
set_option maxHeartbeats 4000000 in
theorem o58c {d : Nat} (hrec : ToldT Tryz.prog G 58 (sym58 d)) {H : List AObj} {id ver te : Nat} {l P X Y Q : List Shw} {a m b : Nat} (hH : H[id]? = some (.row te 36 ver (l.map shwE.v))) (hlow : ∀ o ∈ H, o.low H.length) (ho : shwE.all l) (hs : l.length ≤ 1099511627)
    (hl : l = P ++ X ++ Y ++ Q) (ha : P.length = a) (hm' : P.length + X.length = m) (hb : P.length + X.length + Y.length = b) (hX : Srt Shw.path X) (hY : Srt Shw.path Y) (hX1 : 1 < X.length) (hY1 : 1 < Y.length) (hd : X.length + Y.length ≤ d + 1) :
    Ok Tryz.prog G 58 [.rs id ver 36 0 l.length, i64 a, i64 m, i64 b, cmpF] H (.tup []) (H.set id (.row te 36 ver ((P ++ sortS Shw.path (X ++ Y) ++ Q).map shwE.v))) := by
  have hid : id < H.length := SimH.lt hH
  have hself := RowH_self hH
  refine ok_of_code (S := sp [(26, cmp26)] [(71, rot71), (58, sym58 d)]) hm hG (sp_holds (.cons told_cmp26 .nil) (.cons told_rot71 (.cons hrec .nil))) fn58
    (St 25 220 [.rs id ver 36 0 l.length, i64 a, i64 m, i64 b, .fn (.func 26) [] [], .junk, .junk, .junk, .junk, .junk, .junk, .junk, .junk, .junk, .junk, .junk, .junk, .junk, .junk, .junk, .junk, .junk, .junk, .junk, .junk] []) (by kernel_rfl) (by simp [AV.low, lows, hid, cmpF]) (by simp) (by rw [List.length_set]; exact low_setR hlow _) ?_
  have hle : ∀ o, ((RowH H id o []).length ≤ id) = False := fun o => eq_false (by rw [RowH_length]; simp; exact hid)
  have hlen : P.length + X.length + Y.length + Q.length = l.length := by rw [hl]; simp [Nat.add_assoc]
  have gX : ∀ c, a ≤ c → c < m → l.getD c d36 = X.getD (c - a) d36 := fun c h1 h2 => by
    have := getD_mid (P := P) (X := X) (R := Y ++ Q) (q := c - a) (by omega)
    rw [show P.length + (c - a) = c by omega] at this
    rw [hl, ← this]; simp
  have gY : ∀ c, m ≤ c → c < b → l.getD c d36 = Y.getD (c - m) d36 := fun c h1 h2 => by
    have := getD_mid (P := P ++ X) (X := Y) (R := Q) (q := c - m) (by omega)
    rw [show (P ++ X).length + (c - m) = c by rw [List.length_append]; omega] at this
    rw [hl, ← this]
  have mX : ∀ c c', a ≤ c → c ≤ c' → c' < m → Le Shw.path (l.getD c d36) (l.getD c' d36) := fun c c' h1 h2 h3 => by
    rw [gX c h1 (by omega), gX c' (by omega) h3]; exact srt_get hX (by omega) (by omega)
  have mY : ∀ c c', m ≤ c → c ≤ c' → c' < b → Le Shw.path (l.getD c d36) (l.getD c' d36) := fun c c' h1 h2 h3 => by
    rw [gY c h1 (by omega), gY c' (by omega) h3]; exact srt_get hY (by omega) (by omega)
  generalize hn0 : H.length = N
  rw [hself]
  have e0 : ((m : Int) - (a : Int) = 1) = False := eq_false (by omega)
  have e1 : ((b : Int) - (m : Int) = 1) = False := eq_false (by omega)
  obtain ⟨mid, hmid⟩ : ∃ mid, (a + b) / 2 = mid := ⟨_, rfl⟩
  have hw0 := half_eq (i := a) (j := b) (by omega)
  rw [hmid] at hw0
  obtain ⟨n, hn⟩ : ∃ n, mid + m = n := ⟨_, rfl⟩
  obtain ⟨p1, hp1⟩ : ∃ p1, n = p1 + 1 := ⟨n - 1, by omega⟩
  have hnI : (mid : Int) + (m : Int) = (n : Int) := by omega
  have hpI : (n : Int) - 1 = (p1 : Int) := by omega
  -- the search, from wherever it begins
  obtain ⟨s0, r0, hs0, hbr⟩ : ∃ s0 r0 : Nat, (a ≤ s0 ∧ s0 ≤ r0 ∧ r0 ≤ m ∧ m ≤ n - r0 ∧ n - s0 ≤ b ∧ s0 ≤ n ∧ r0 ≤ n ∧ (s0 = a ∨ n - s0 = b) ∧ (r0 = m ∨ n - r0 = m)) ∧ ((mid < m ∧ (n : Int) - b = (s0 : Int) ∧ r0 = mid) ∨ (m ≤ mid ∧ s0 = a ∧ r0 = m)) := by
    by_cases h : mid < m
    · exact ⟨mid + m - b, mid, ⟨by omega, by omega, by omega, by omega, by omega, by omega, by omega, by omega, by omega⟩, .inl ⟨h, by omega, rfl⟩⟩
    · exact ⟨a, m, ⟨by omega, by omega, by omega, by omega, by omega, by omega, by omega, by omega, by omega⟩, .inr ⟨by omega, rfl, rfl⟩⟩
  obtain ⟨f1, f2, f3, f4, f5, f6, f7, f8, f9⟩ := hs0
  rcases hbr with ⟨hb1, hb2, hb3⟩ | ⟨hb1, hb2, hb3⟩
  case' inl =>
    have e2 : ((mid : Int) < (m : Int)) = True := eq_true (by omega)
    simp (maxSteps := 2000000) -implicitDefEqProofs only [c58, RS, RX, Nat.reduceLT, ↓RP0, ↓RP1, ↓RP2, ↓RP3, RV, RW, ↓reduceIte, Nat.reduceAdd, Nat.reduceSub, Nat.reduceMul, Nat.reduceLeDiff, Nat.reduceEqDiff, Int.reduceLT, Int.reduceLE, Int.reduceEq, Int.reduceNe, Int.reduceAdd, Int.reduceSub, Int.reduceMul, Int.reduceNeg, Int.reduceToNat, reduceCtorEq, e0, e1, hw0, e2, hnI, hpI, hb2]
    refine ⟨⟨by omega, by omega⟩, ⟨by omega, by omega⟩, ⟨by omega, by omega⟩, ⟨by omega, by omega⟩, ⟨by omega, by omega⟩, ⟨by omega, by omega⟩, ?_⟩
  case' inr =>
    have e2 : ((mid : Int) < (m : Int)) = False := eq_false (by omega)
    simp (maxSteps := 2000000) -implicitDefEqProofs only [c58, RS, RX, Nat.reduceLT, ↓RP0, ↓RP1, ↓RP2, ↓RP3, RV, RW, ↓reduceIte, Nat.reduceAdd, Nat.reduceSub, Nat.reduceMul, Nat.reduceLeDiff, Nat.reduceEqDiff, Int.reduceLT, Int.reduceLE, Int.reduceEq, Int.reduceNe, Int.reduceAdd, Int.reduceSub, Int.reduceMul, Int.reduceNeg, Int.reduceToNat, reduceCtorEq, e0, e1, hw0, e2, hnI, hpI]
    refine ⟨⟨by omega, by omega⟩, ⟨by omega, by omega⟩, ⟨by omega, by omega⟩, ⟨by omega, by omega⟩, ⟨by omega, by omega⟩, ?_⟩
  all_goals
    refine loopB (st := fun (z : Nat × Nat) => (St 25 220 [.rs id ver 36 0 l.length, i64 a, i64 m, i64 b, .fn (.func 26) [] [], .junk, .junk, .junk, .junk, .junk, .junk, .junk, .junk, .junk, .junk, .junk, .junk, .junk, i64 mid, i64 n, i64 z.1, i64 z.2, i64 p1, .junk, .junk] [])) (hp := fun _ => RowH H id (.row te 36 ver (l.map shwE.v)) []) (I := fun z => s0 ≤ z.1 ∧ z.1 ≤ z.2 ∧ z.2 ≤ r0 ∧ (∀ c, s0 ≤ c → c < z.1 → ¬ (l.getD (p1 - c) d36).path < (l.getD c d36).path) ∧ (∀ c, z.2 ≤ c → c < r0 → (l.getD (p1 - c) d36).path < (l.getD c d36).path)) (m := fun z => z.2 - z.1) (s0, r0) ⟨Nat.le_refl _, f2, Nat.le_refl _, fun c h1 h2 => by dsimp only at h2; omega, fun c h1 h2 => by dsimp only at h1; omega⟩ ?_ ?_
    · subst hn0
      refine weak_cutS H.length (Nat.le_refl _) ?_ ?_ ?_
      · rw [RowH_take, RowH_nil]
      · rw [RowH_nil]; exact low_setR hlow _
      · simp [WeakL, AV.low, lows, hid, cmpF, hb2, hb3]
    · rintro ⟨i, j⟩ ⟨h1, h2, h3, h4, h5⟩
      dsimp only at h1 h2 h3 h4 h5 ⊢
      by_cases hlt : i < j
      · have e3 : ((i : Int) < (j : Int)) = True := eq_true (by omega)
        obtain ⟨h, hh⟩ : ∃ h, (i + j) / 2 = h := ⟨_, rfl⟩
        have hw := half_eq (i := i) (j := j) (by omega)
        rw [hh] at hw
        obtain ⟨g, hg⟩ : ∃ g, p1 - h = g := ⟨_, rfl⟩
        have hgI : (p1 : Int) - (h : Int) = (g : Int) := by omega
        have gx := shws_get (l := l) (p := h) (by omega)
        have gy := shws_get (l := l) (p := g) (by omega)
        have ox := shw_getD ho h
        have oy := shw_getD ho g
        have q : ∀ K, ask cmp26 [.agg (shwC (l.getD g d36)), .agg (shwC (l.getD h d36))] K = K (i64 (cmpZ (l.getD g d36).path (l.getD h d36).path)) := fun K => ask_cmp26 oy ox
        have l1 := shw_len ox
        have l2 := shw_len oy
        have k1 := shw_take ox
        have k2 := shw_take oy
        have mx1 : ∀ c, s0 ≤ c → c ≤ h → Le Shw.path (l.getD c d36) (l.getD h d36) := fun c h1 h2 => mX c h (by omega) h2 (by omega)
        have mx2 : ∀ c, h ≤ c → c < r0 → Le Shw.path (l.getD h d36) (l.getD c d36) := fun c h1 h2 => mX h c (by omega) h1 (by omega)
        have my1 : ∀ c, s0 ≤ c → c ≤ h → Le Shw.path (l.getD g d36) (l.getD (p1 - c) d36) := fun c h1 h2 => mY g (p1 - c) (by omega) (by omega) (by omega)
        have my2 : ∀ c, h ≤ c → c < r0 → Le Shw.path (l.getD (p1 - c) d36) (l.getD g d36) := fun c h1 h2 => mY (p1 - c) g (by omega) (by omega) (by omega)
        generalize l.getD g d36 = y at *
        generalize l.getD h d36 = x at *
        by_cases hc : y.path < x.path
        · have e4 : (cmpZ y.path x.path < 0) = True := eq_true (cmpZ_lt.2 hc)
          simp (maxSteps := 2000000) -implicitDefEqProofs only [RS, RX, Nat.reduceLT, ↓RP0, ↓RP1, ↓RP2, ↓RP3, RV, RW, ↓reduceIte, Nat.reduceAdd, Nat.reduceSub, Nat.reduceMul, Nat.reduceLeDiff, Nat.reduceEqDiff, Int.reduceLT, Int.reduceLE, Int.reduceEq, Int.reduceNe, Int.reduceAdd, Int.reduceSub, Int.reduceMul, Int.reduceNeg, Int.reduceToNat, reduceCtorEq, e3, e4, ↓q, q, gx, gy, hw, hgI, l1, l2, k1, k2, shw_strip, shws_len, RowH_id hid, hle, AV.cells]
          refine ⟨⟨by omega, by omega⟩, ⟨by omega, by omega⟩, by omega, by omega, (i, h), by dsimp only; omega, ⟨h1, by dsimp only; omega, by dsimp only; omega, h4, fun c hc1 hc2 => ?_⟩, ?_⟩
          · dsimp only at hc1
            exact le_lt (my2 c hc1 hc2) (lt_le hc (mx2 c hc1 hc2))
          dsimp only
          subst hn0
          refine weak_cutS H.length (Nat.le_refl _) ?_ ?_ ?_
          · rw [RowH_take, RowH_nil]
          · rw [RowH_nil]; exact low_setR hlow _
          · simp [WeakL, AV.low, lows, hid, cmpF]
        · have e4 : (cmpZ y.path x.path < 0) = False := eq_false (fun h => hc (cmpZ_lt.1 h))
          simp (maxSteps := 2000000) -implicitDefEqProofs only [RS, RX, Nat.reduceLT, ↓RP0, ↓RP1, ↓RP2, ↓RP3, RV, RW, ↓reduceIte, Nat.reduceAdd, Nat.reduceSub, Nat.reduceMul, Nat.reduceLeDiff, Nat.reduceEqDiff, Int.reduceLT, Int.reduceLE, Int.reduceEq, Int.reduceNe, Int.reduceAdd, Int.reduceSub, Int.reduceMul, Int.reduceNeg, Int.reduceToNat, reduceCtorEq, e3, e4, ↓q, q, gx, gy, hw, hgI, l1, l2, k1, k2, shw_strip, shws_len, RowH_id hid, hle, AV.cells]
          rw [show ((h : Int) + 1) = ((h + 1 : Nat) : Int) by omega]
          refine ⟨⟨by omega, by omega⟩, ⟨by omega, by omega⟩, by omega, by omega, ⟨by omega, by omega⟩, (h + 1, j), by dsimp only; omega, ⟨by dsimp only; omega, by dsimp only; omega, h3, fun c hc1 hc2 hcl => ?_, h5⟩, ?_⟩
          · dsimp only at hc2
            exact hc (le_lt (my1 c hc1 (by omega)) (lt_le hcl (mx1 c hc1 (by omega))))
          dsimp only
          subst hn0
          refine weak_cutS H.length (Nat.le_refl _) ?_ ?_ ?_
          · rw [RowH_take, RowH_nil]
          · rw [RowH_nil]; exact low_setR hlow _
          · simp [WeakL, AV.low, lows, hid, cmpF]
      · obtain rfl : i = j := by omega
        have e3 : ((i : Int) < (i : Int)) = False := eq_false (by omega)
        obtain ⟨e, he⟩ : ∃ e, n - i = e := ⟨_, rfl⟩
        have heI : (n : Int) - (i : Int) = (e : Int) := by omega
        obtain ⟨X1, X2, rfl, lX1, lX2⟩ := split_at (n := i - a) X (by omega)
        obtain ⟨Y1, Y2, rfl, lY1, lY2⟩ := split_at (n := e - m) Y (by omega)
        simp only [List.length_append] at hm' hb hlen hX1 hY1 hd lX2 lY2
        have g1 := Srt.app.1 hX
        have g2 := Srt.app.1 hY
        have vX1 : ∀ q, q < X1.length → X1.getD q d36 = l.getD (a + q) d36 := fun q hq => by
          rw [hl, ← ha, ← getD_mid (P := P) (R := X2 ++ (Y1 ++ Y2) ++ Q) hq]; simp
        have vX2 : ∀ q, q < X2.length → X2.getD q d36 = l.getD (i + q) d36 := fun q hq => by
          rw [hl, show i = (P ++ X1).length by rw [List.length_append]; omega, ← getD_mid (P := P ++ X1) (R := (Y1 ++ Y2) ++ Q) hq]; simp
        have vY1 : ∀ q, q < Y1.length → Y1.getD q d36 = l.getD (m + q) d36 := fun q hq => by
          rw [hl, show m = (P ++ (X1 ++ X2)).length by simp only [List.length_append]; omega, ← getD_mid (P := P ++ (X1 ++ X2)) (R := Y2 ++ Q) hq]; simp
        have vY2 : ∀ q, q < Y2.length → Y2.getD q d36 = l.getD (e + q) d36 := fun q hq => by
          rw [hl, show e = (P ++ (X1 ++ X2) ++ Y1).length by simp only [List.length_append]; omega, ← getD_mid (P := P ++ (X1 ++ X2) ++ Y1) (R := Q) hq]; simp
        have hmg := merge_end (key := Shw.path) hX hY (fun x hx y hy => by
          obtain ⟨q, hq, rfl⟩ := mem_getD hx
          obtain ⟨q', hq', rfl⟩ := mem_getD hy
          rw [vX2 q hq, vY1 q' hq']
          have k5 := h5 i (Nat.le_refl _) (by omega)
          exact le_lt (mY (m + q') (p1 - i) (by omega) (by omega) (by omega)) (lt_le k5 (mX i (i + q) (by omega) (by omega) (by omega)))) (fun x hx y hy => by
          obtain ⟨q, hq, rfl⟩ := mem_getD hx
          obtain ⟨q', hq', rfl⟩ := mem_getD hy
          rw [vX1 q hq, vY2 q' hq']
          have k4 := h4 (i - 1) (by omega) (by omega)
          rw [show p1 - (i - 1) = e by omega] at k4
          exact (mX (a + q) (i - 1) (by omega) (by omega) (by omega)).trans (Le.trans k4 (mY e (e + q') (by omega) (by omega) (by omega))))
        obtain ⟨L1, hL1⟩ : ∃ L1, L1 = P ++ X1 ++ Y1 ++ X2 ++ Y2 ++ Q := ⟨_, rfl⟩
        obtain ⟨L2, hL2⟩ : ∃ L2, L2 = P ++ sortS Shw.path (X1 ++ Y1) ++ X2 ++ Y2 ++ Q := ⟨_, rfl⟩
        have hcx : i = a ∨ i = m ∨ (a < i ∧ i < m) := by omega
        have hcy : e = m ∨ e = b ∨ (m < e ∧ e < b) := by omega
        rcases hcx with hcx | hcx | hcx <;> rcases hcy with hcy | hcy | hcy
        · -- no X1; no Y1
          have c1 : ((i : Int) < (m : Int)) = True := eq_true (by omega)
          have c2 : ((m : Int) < (e : Int)) = False := eq_false (by omega)
          have c3 : ((a : Int) < (i : Int)) = False := eq_false (by omega)
          have c4 : ((i : Int) < (mid : Int)) = False := eq_false (by omega)
          have c5 : ((mid : Int) < (e : Int)) = True := eq_true (by omega)
          have c6 : ((e : Int) < (b : Int)) = True := eq_true (by omega)
          have zX1 : X1 = [] := List.length_eq_zero_iff.1 (by omega)
          have zY1 : Y1 = [] := List.length_eq_zero_iff.1 (by omega)
          simp (maxSteps := 2000000) -implicitDefEqProofs only [RS, RX, Nat.reduceLT, ↓RP0, ↓RP1, ↓RP2, ↓RP3, RV, RW, ↓reduceIte, Nat.reduceAdd, Nat.reduceSub, Nat.reduceMul, Nat.reduceLeDiff, Nat.reduceEqDiff, Int.reduceLT, Int.reduceLE, Int.reduceEq, Int.reduceNe, Int.reduceAdd, Int.reduceSub, Int.reduceMul, Int.reduceNeg, Int.reduceToNat, reduceCtorEq, Int.lt_irrefl, heI, c1, c2, c3, c4, c5, c6, retO_normal, retO_ret]
          refine ⟨⟨by omega, by omega⟩, ?_⟩
          have hl1 : l = L1 := by rw [hl, hL1]; simp [zX1, zY1]
          have o1 : shwE.all L1 := hl1 ▸ ho
          have n1 : L1.length = l.length := by rw [hl1]
          rw [show (l.map shwE.v) = L1.map shwE.v by rw [hl1]]
          have h12 : L1 = L2 := by rw [hL1, hL2, sortS_srt_eq (by rw [zX1]; exact g2.1)]; simp
          have o2 : shwE.all L2 := h12 ▸ o1
          have n2 : L2.length = l.length := h12 ▸ n1
          rw [h12]
          refine ask58R (P := P ++ sortS Shw.path (X1 ++ Y1)) (X := X2) (Y := Y2) (Q := Q) hid hlow (by simp only [List.length_append, sortS_length]; omega) (by simp only [List.length_append, sortS_length]; omega) (by simp only [List.length_append, sortS_length]; omega) n2.symm o2 (by omega) (by rw [hL2]) (by omega) (by omega) (by omega) g1.2.1 g2.2.1 ?_
          rw [show P ++ sortS Shw.path (X1 ++ Y1) ++ sortS Shw.path (X2 ++ Y2) ++ Q = P ++ sortS Shw.path (X1 ++ X2 ++ (Y1 ++ Y2)) ++ Q by rw [← hmg]; simp]
          rw [RowH_setId hid]
          exact List.take_length
        · -- no X1; no Y2
          have c1 : ((i : Int) < (m : Int)) = True := eq_true (by omega)
          have c2 : ((m : Int) < (e : Int)) = True := eq_true (by omega)
          have c3 : ((a : Int) < (i : Int)) = False := eq_false (by omega)
          have c4 : ((i : Int) < (mid : Int)) = True := eq_true (by omega)
          have c5 : ((mid : Int) < (e : Int)) = True := eq_true (by omega)
          have c6 : ((e : Int) < (b : Int)) = False := eq_false (by omega)
          have zX1 : X1 = [] := List.length_eq_zero_iff.1 (by omega)
          have zY2 : Y2 = [] := List.length_eq_zero_iff.1 (by omega)
          simp (maxSteps := 2000000) -implicitDefEqProofs only [RS, RX, Nat.reduceLT, ↓RP0, ↓RP1, ↓RP2, ↓RP3, RV, RW, ↓reduceIte, Nat.reduceAdd, Nat.reduceSub, Nat.reduceMul, Nat.reduceLeDiff, Nat.reduceEqDiff, Int.reduceLT, Int.reduceLE, Int.reduceEq, Int.reduceNe, Int.reduceAdd, Int.reduceSub, Int.reduceMul, Int.reduceNeg, Int.reduceToNat, reduceCtorEq, Int.lt_irrefl, heI, c1, c2, c3, c4, c5, c6, retO_normal, retO_ret]
          refine ⟨⟨by omega, by omega⟩, ?_⟩
          refine ask71R (A := P ++ X1) (X := X2) (Y := Y1) (B := Y2 ++ Q) hid hlow (by simp only [List.length_append]; omega) (by simp only [List.length_append]; omega) (by simp only [List.length_append]; omega) rfl ho hs (by rw [hl]; simp) (by omega) (by omega) ?_
          have o1 : shwE.all ((P ++ X1) ++ Y1 ++ X2 ++ (Y2 ++ Q)) := fun z hz => ho z (by rw [hl]; simp only [List.mem_append] at hz ⊢; rcases hz with (((h | h) | h) | h) | (h | h) <;> simp [h])
          have n1 : ((P ++ X1) ++ Y1 ++ X2 ++ (Y2 ++ Q)).length = l.length := by rw [hl]; simp only [List.length_append]; omega
          rw [show (P ++ X1) ++ Y1 ++ X2 ++ (Y2 ++ Q) = L1 by rw [hL1]; simp] at o1 n1 ⊢
          have h12 : L1 = L2 := by rw [hL1, hL2, sortS_srt_eq (by rw [zX1]; exact g2.1)]; simp
          have o2 : shwE.all L2 := h12 ▸ o1
          have n2 : L2.length = l.length := h12 ▸ n1
          have h2f : L2 = P ++ sortS Shw.path (X1 ++ X2 ++ (Y1 ++ Y2)) ++ Q := by rw [hL2, ← hmg, sortS_srt_eq (l := X2 ++ Y2) (by rw [zY2, List.append_nil]; exact g1.2.1)]; simp
          rw [h12]
          rw [h2f]
          rw [RowH_setId hid]
          exact List.take_length
        · -- no X1; Y1, Y2
          have c1 : ((i : Int) < (m : Int)) = True := eq_true (by omega)
          have c2 : ((m : Int) < (e : Int)) = True := eq_true (by omega)
          have c3 : ((a : Int) < (i : Int)) = False := eq_false (by omega)
          have c4 : ((i : Int) < (mid : Int)) = True := eq_true (by omega)
          have c5 : ((mid : Int) < (e : Int)) = True := eq_true (by omega)
          have c6 : ((e : Int) < (b : Int)) = True := eq_true (by omega)
          have zX1 : X1 = [] := List.length_eq_zero_iff.1 (by omega)
          simp (maxSteps := 2000000) -implicitDefEqProofs only [RS, RX, Nat.reduceLT, ↓RP0, ↓RP1, ↓RP2, ↓RP3, RV, RW, ↓reduceIte, Nat.reduceAdd, Nat.reduceSub, Nat.reduceMul, Nat.reduceLeDiff, Nat.reduceEqDiff, Int.reduceLT, Int.reduceLE, Int.reduceEq, Int.reduceNe, Int.reduceAdd, Int.reduceSub, Int.reduceMul, Int.reduceNeg, Int.reduceToNat, reduceCtorEq, Int.lt_irrefl, heI, c1, c2, c3, c4, c5, c6, retO_normal, retO_ret]
          refine ⟨⟨by omega, by omega⟩, ?_⟩
          refine ask71R (A := P ++ X1) (X := X2) (Y := Y1) (B := Y2 ++ Q) hid hlow (by simp only [List.length_append]; omega) (by simp only [List.length_append]; omega) (by simp only [List.length_append]; omega) rfl ho hs (by rw [hl]; simp) (by omega) (by omega) ?_
          have o1 : shwE.all ((P ++ X1) ++ Y1 ++ X2 ++ (Y2 ++ Q)) := fun z hz => ho z (by rw [hl]; simp only [List.mem_append] at hz ⊢; rcases hz with (((h | h) | h) | h) | (h | h) <;> simp [h])
          have n1 : ((P ++ X1) ++ Y1 ++ X2 ++ (Y2 ++ Q)).length = l.length := by rw [hl]; simp only [List.length_append]; omega
          rw [show (P ++ X1) ++ Y1 ++ X2 ++ (Y2 ++ Q) = L1 by rw [hL1]; simp] at o1 n1 ⊢
          have h12 : L1 = L2 := by rw [hL1, hL2, sortS_srt_eq (by rw [zX1]; exact g2.1)]; simp
          have o2 : shwE.all L2 := h12 ▸ o1
          have n2 : L2.length = l.length := h12 ▸ n1
          rw [h12]
          refine ask58R (P := P ++ sortS Shw.path (X1 ++ Y1)) (X := X2) (Y := Y2) (Q := Q) hid hlow (by simp only [List.length_append, sortS_length]; omega) (by simp only [List.length_append, sortS_length]; omega) (by simp only [List.length_append, sortS_length]; omega) n2.symm o2 (by omega) (by rw [hL2]) (by omega) (by omega) (by omega) g1.2.1 g2.2.1 ?_
          rw [show P ++ sortS Shw.path (X1 ++ Y1) ++ sortS Shw.path (X2 ++ Y2) ++ Q = P ++ sortS Shw.path (X1 ++ X2 ++ (Y1 ++ Y2)) ++ Q by rw [← hmg]; simp]
          rw [RowH_setId hid]
          exact List.take_length
        · -- no X2; no Y1
          have c1 : ((i : Int) < (m : Int)) = False := eq_false (by omega)
          have c2 : ((m : Int) < (e : Int)) = False := eq_false (by omega)
          have c3 : ((a : Int) < (i : Int)) = True := eq_true (by omega)
          have c4 : ((i : Int) < (mid : Int)) = False := eq_false (by omega)
          have c5 : ((mid : Int) < (e : Int)) = False := eq_false (by omega)
          have c6 : ((e : Int) < (b : Int)) = True := eq_true (by omega)
          have zX2 : X2 = [] := List.length_eq_zero_iff.1 (by omega)
          have zY1 : Y1 = [] := List.length_eq_zero_iff.1 (by omega)
          simp (maxSteps := 2000000) -implicitDefEqProofs only [RS, RX, Nat.reduceLT, ↓RP0, ↓RP1, ↓RP2, ↓RP3, RV, RW, ↓reduceIte, Nat.reduceAdd, Nat.reduceSub, Nat.reduceMul, Nat.reduceLeDiff, Nat.reduceEqDiff, Int.reduceLT, Int.reduceLE, Int.reduceEq, Int.reduceNe, Int.reduceAdd, Int.reduceSub, Int.reduceMul, Int.reduceNeg, Int.reduceToNat, reduceCtorEq, Int.lt_irrefl, heI, c1, c2, c3, c4, c5, c6, retO_normal, retO_ret]
          refine ⟨⟨by omega, by omega⟩, ?_⟩
          have hl1 : l = L1 := by rw [hl, hL1]; simp [zX2, zY1]
          have o1 : shwE.all L1 := hl1 ▸ ho
          have n1 : L1.length = l.length := by rw [hl1]
          have h12 : L1 = L2 := by rw [hL1, hL2, sortS_srt_eq (by rw [zY1, List.append_nil]; exact g1.1)]; simp
          have o2 : shwE.all L2 := h12 ▸ o1
          have n2 : L2.length = l.length := h12 ▸ n1
          have h2f : L2 = P ++ sortS Shw.path (X1 ++ X2 ++ (Y1 ++ Y2)) ++ Q := by rw [hL2, ← hmg, sortS_srt_eq (l := X2 ++ Y2) (by rw [zX2]; exact g2.2.1)]; simp
          rw [show (l.map shwE.v) = L2.map shwE.v by rw [hl1, h12]]
          rw [h2f]
          rw [RowH_setId hid]
          exact List.take_length
        · -- no X2; no Y2
          have c1 : ((i : Int) < (m : Int)) = False := eq_false (by omega)
          have c2 : ((m : Int) < (e : Int)) = True := eq_true (by omega)
          have c3 : ((a : Int) < (i : Int)) = True := eq_true (by omega)
          have c4 : ((i : Int) < (mid : Int)) = True := eq_true (by omega)
          have c5 : ((mid : Int) < (e : Int)) = False := eq_false (by omega)
          have c6 : ((e : Int) < (b : Int)) = False := eq_false (by omega)
          have zX2 : X2 = [] := List.length_eq_zero_iff.1 (by omega)
          have zY2 : Y2 = [] := List.length_eq_zero_iff.1 (by omega)
          simp (maxSteps := 2000000) -implicitDefEqProofs only [RS, RX, Nat.reduceLT, ↓RP0, ↓RP1, ↓RP2, ↓RP3, RV, RW, ↓reduceIte, Nat.reduceAdd, Nat.reduceSub, Nat.reduceMul, Nat.reduceLeDiff, Nat.reduceEqDiff, Int.reduceLT, Int.reduceLE, Int.reduceEq, Int.reduceNe, Int.reduceAdd, Int.reduceSub, Int.reduceMul, Int.reduceNeg, Int.reduceToNat, reduceCtorEq, Int.lt_irrefl, heI, c1, c2, c3, c4, c5, c6, retO_normal, retO_ret]
          refine ⟨⟨by omega, by omega⟩, ?_⟩
          have hl1 : l = L1 := by rw [hl, hL1]; simp [zX2, zY2]
          have o1 : shwE.all L1 := hl1 ▸ ho
          have n1 : L1.length = l.length := by rw [hl1]
          rw [show (l.map shwE.v) = L1.map shwE.v by rw [hl1]]
          refine ask58R (P := P) (X := X1) (Y := Y1) (Q := X2 ++ Y2 ++ Q) hid hlow (by omega) (by omega) (by omega) n1.symm o1 (by omega) (by rw [hL1]; simp) (by omega) (by omega) (by omega) g1.1 g2.1 ?_
          rw [show P ++ sortS Shw.path (X1 ++ Y1) ++ (X2 ++ Y2 ++ Q) = L2 by rw [hL2]; simp]
          have n2 : L2.length = l.length := by rw [hL2, hl]; simp only [List.length_append, sortS_length]; omega
          have o2 : shwE.all L2 := fun z hz => ho z (by rw [hL2] at hz; rw [hl]; simp only [List.mem_append, sortS_mem] at hz ⊢; rcases hz with (((h | (h | h)) | h) | h) | h <;> simp [h])
          have h2f : L2 = P ++ sortS Shw.path (X1 ++ X2 ++ (Y1 ++ Y2)) ++ Q := by rw [hL2, ← hmg, sortS_srt_eq (l := X2 ++ Y2) (by rw [zX2]; exact g2.2.1)]; simp
          rw [h2f]
          rw [RowH_setId hid]
          exact List.take_length
        · -- no X2; Y1, Y2
          have c1 : ((i : Int) < (m : Int)) = False := eq_false (by omega)
          have c2 : ((m : Int) < (e : Int)) = True := eq_true (by omega)
          have c3 : ((a : Int) < (i : Int)) = True := eq_true (by omega)
          have c4 : ((i : Int) < (mid : Int)) = True := eq_true (by omega)
          have c5 : ((mid : Int) < (e : Int)) = False := eq_false (by omega)
          have c6 : ((e : Int) < (b : Int)) = True := eq_true (by omega)
          have zX2 : X2 = [] := List.length_eq_zero_iff.1 (by omega)
          simp (maxSteps := 2000000) -implicitDefEqProofs only [RS, RX, Nat.reduceLT, ↓RP0, ↓RP1, ↓RP2, ↓RP3, RV, RW, ↓reduceIte, Nat.reduceAdd, Nat.reduceSub, Nat.reduceMul, Nat.reduceLeDiff, Nat.reduceEqDiff, Int.reduceLT, Int.reduceLE, Int.reduceEq, Int.reduceNe, Int.reduceAdd, Int.reduceSub, Int.reduceMul, Int.reduceNeg, Int.reduceToNat, reduceCtorEq, Int.lt_irrefl, heI, c1, c2, c3, c4, c5, c6, retO_normal, retO_ret]
          refine ⟨⟨by omega, by omega⟩, ?_⟩
          have hl1 : l = L1 := by rw [hl, hL1]; simp [zX2]
          have o1 : shwE.all L1 := hl1 ▸ ho
          have n1 : L1.length = l.length := by rw [hl1]
          rw [show (l.map shwE.v) = L1.map shwE.v by rw [hl1]]
          refine ask58R (P := P) (X := X1) (Y := Y1) (Q := X2 ++ Y2 ++ Q) hid hlow (by omega) (by omega) (by omega) n1.symm o1 (by omega) (by rw [hL1]; simp) (by omega) (by omega) (by omega) g1.1 g2.1 ?_
          rw [show P ++ sortS Shw.path (X1 ++ Y1) ++ (X2 ++ Y2 ++ Q) = L2 by rw [hL2]; simp]
          have n2 : L2.length = l.length := by rw [hL2, hl]; simp only [List.length_append, sortS_length]; omega
          have o2 : shwE.all L2 := fun z hz => ho z (by rw [hL2] at hz; rw [hl]; simp only [List.mem_append, sortS_mem] at hz ⊢; rcases hz with (((h | (h | h)) | h) | h) | h <;> simp [h])
          have h2f : L2 = P ++ sortS Shw.path (X1 ++ X2 ++ (Y1 ++ Y2)) ++ Q := by rw [hL2, ← hmg, sortS_srt_eq (l := X2 ++ Y2) (by rw [zX2]; exact g2.2.1)]; simp
          rw [h2f]
          rw [RowH_setId hid]
          exact List.take_length
        · -- X1, X2; no Y1
          have c1 : ((i : Int) < (m : Int)) = True := eq_true (by omega)
          have c2 : ((m : Int) < (e : Int)) = False := eq_false (by omega)
          have c3 : ((a : Int) < (i : Int)) = True := eq_true (by omega)
          have c4 : ((i : Int) < (mid : Int)) = False := eq_false (by omega)
          have c5 : ((mid : Int) < (e : Int)) = True := eq_true (by omega)
          have c6 : ((e : Int) < (b : Int)) = True := eq_true (by omega)
          have zY1 : Y1 = [] := List.length_eq_zero_iff.1 (by omega)
          simp (maxSteps := 2000000) -implicitDefEqProofs only [RS, RX, Nat.reduceLT, ↓RP0, ↓RP1, ↓RP2, ↓RP3, RV, RW, ↓reduceIte, Nat.reduceAdd, Nat.reduceSub, Nat.reduceMul, Nat.reduceLeDiff, Nat.reduceEqDiff, Int.reduceLT, Int.reduceLE, Int.reduceEq, Int.reduceNe, Int.reduceAdd, Int.reduceSub, Int.reduceMul, Int.reduceNeg, Int.reduceToNat, reduceCtorEq, Int.lt_irrefl, heI, c1, c2, c3, c4, c5, c6, retO_normal, retO_ret]
          refine ⟨⟨by omega, by omega⟩, ?_⟩
          have hl1 : l = L1 := by rw [hl, hL1]; simp [zY1]
          have o1 : shwE.all L1 := hl1 ▸ ho
          have n1 : L1.length = l.length := by rw [hl1]
          rw [show (l.map shwE.v) = L1.map shwE.v by rw [hl1]]
          have h12 : L1 = L2 := by rw [hL1, hL2, sortS_srt_eq (by rw [zY1, List.append_nil]; exact g1.1)]; simp
          have o2 : shwE.all L2 := h12 ▸ o1
          have n2 : L2.length = l.length := h12 ▸ n1
          rw [h12]
          refine ask58R (P := P ++ sortS Shw.path (X1 ++ Y1)) (X := X2) (Y := Y2) (Q := Q) hid hlow (by simp only [List.length_append, sortS_length]; omega) (by simp only [List.length_append, sortS_length]; omega) (by simp only [List.length_append, sortS_length]; omega) n2.symm o2 (by omega) (by rw [hL2]) (by omega) (by omega) (by omega) g1.2.1 g2.2.1 ?_
          rw [show P ++ sortS Shw.path (X1 ++ Y1) ++ sortS Shw.path (X2 ++ Y2) ++ Q = P ++ sortS Shw.path (X1 ++ X2 ++ (Y1 ++ Y2)) ++ Q by rw [← hmg]; simp]
          rw [RowH_setId hid]
          exact List.take_length
        · -- X1, X2; no Y2
          have c1 : ((i : Int) < (m : Int)) = True := eq_true (by omega)
          have c2 : ((m : Int) < (e : Int)) = True := eq_true (by omega)
          have c3 : ((a : Int) < (i : Int)) = True := eq_true (by omega)
          have c4 : ((i : Int) < (mid : Int)) = True := eq_true (by omega)
          have c5 : ((mid : Int) < (e : Int)) = True := eq_true (by omega)
          have c6 : ((e : Int) < (b : Int)) = False := eq_false (by omega)
          have zY2 : Y2 = [] := List.length_eq_zero_iff.1 (by omega)
          simp (maxSteps := 2000000) -implicitDefEqProofs only [RS, RX, Nat.reduceLT, ↓RP0, ↓RP1, ↓RP2, ↓RP3, RV, RW, ↓reduceIte, Nat.reduceAdd, Nat.reduceSub, Nat.reduceMul, Nat.reduceLeDiff, Nat.reduceEqDiff, Int.reduceLT, Int.reduceLE, Int.reduceEq, Int.reduceNe, Int.reduceAdd, Int.reduceSub, Int.reduceMul, Int.reduceNeg, Int.reduceToNat, reduceCtorEq, Int.lt_irrefl, heI, c1, c2, c3, c4, c5, c6, retO_normal, retO_ret]
          refine ⟨⟨by omega, by omega⟩, ?_⟩
          refine ask71R (A := P ++ X1) (X := X2) (Y := Y1) (B := Y2 ++ Q) hid hlow (by simp only [List.length_append]; omega) (by simp only [List.length_append]; omega) (by simp only [List.length_append]; omega) rfl ho hs (by rw [hl]; simp) (by omega) (by omega) ?_
          have o1 : shwE.all ((P ++ X1) ++ Y1 ++ X2 ++ (Y2 ++ Q)) := fun z hz => ho z (by rw [hl]; simp only [List.mem_append] at hz ⊢; rcases hz with (((h | h) | h) | h) | (h | h) <;> simp [h])
          have n1 : ((P ++ X1) ++ Y1 ++ X2 ++ (Y2 ++ Q)).length = l.length := by rw [hl]; simp only [List.length_append]; omega
          rw [show (P ++ X1) ++ Y1 ++ X2 ++ (Y2 ++ Q) = L1 by rw [hL1]; simp] at o1 n1 ⊢
          refine ask58R (P := P) (X := X1) (Y := Y1) (Q := X2 ++ Y2 ++ Q) hid hlow (by omega) (by omega) (by omega) n1.symm o1 (by omega) (by rw [hL1]; simp) (by omega) (by omega) (by omega) g1.1 g2.1 ?_
          rw [show P ++ sortS Shw.path (X1 ++ Y1) ++ (X2 ++ Y2 ++ Q) = L2 by rw [hL2]; simp]
          have n2 : L2.length = l.length := by rw [hL2, hl]; simp only [List.length_append, sortS_length]; omega
          have o2 : shwE.all L2 := fun z hz => ho z (by rw [hL2] at hz; rw [hl]; simp only [List.mem_append, sortS_mem] at hz ⊢; rcases hz with (((h | (h | h)) | h) | h) | h <;> simp [h])
          have h2f : L2 = P ++ sortS Shw.path (X1 ++ X2 ++ (Y1 ++ Y2)) ++ Q := by rw [hL2, ← hmg, sortS_srt_eq (l := X2 ++ Y2) (by rw [zY2, List.append_nil]; exact g1.2.1)]; simp
          rw [h2f]
          rw [RowH_setId hid]
          exact List.take_length
        · -- X1, X2; Y1, Y2
          have c1 : ((i : Int) < (m : Int)) = True := eq_true (by omega)
          have c2 : ((m : Int) < (e : Int)) = True := eq_true (by omega)
          have c3 : ((a : Int) < (i : Int)) = True := eq_true (by omega)
          have c4 : ((i : Int) < (mid : Int)) = True := eq_true (by omega)
          have c5 : ((mid : Int) < (e : Int)) = True := eq_true (by omega)
          have c6 : ((e : Int) < (b : Int)) = True := eq_true (by omega)
          simp (maxSteps := 2000000) -implicitDefEqProofs only [RS, RX, Nat.reduceLT, ↓RP0, ↓RP1, ↓RP2, ↓RP3, RV, RW, ↓reduceIte, Nat.reduceAdd, Nat.reduceSub, Nat.reduceMul, Nat.reduceLeDiff, Nat.reduceEqDiff, Int.reduceLT, Int.reduceLE, Int.reduceEq, Int.reduceNe, Int.reduceAdd, Int.reduceSub, Int.reduceMul, Int.reduceNeg, Int.reduceToNat, reduceCtorEq, Int.lt_irrefl, heI, c1, c2, c3, c4, c5, c6, retO_normal, retO_ret]
          refine ⟨⟨by omega, by omega⟩, ?_⟩
          refine ask71R (A := P ++ X1) (X := X2) (Y := Y1) (B := Y2 ++ Q) hid hlow (by simp only [List.length_append]; omega) (by simp only [List.length_append]; omega) (by simp only [List.length_append]; omega) rfl ho hs (by rw [hl]; simp) (by omega) (by omega) ?_
          have o1 : shwE.all ((P ++ X1) ++ Y1 ++ X2 ++ (Y2 ++ Q)) := fun z hz => ho z (by rw [hl]; simp only [List.mem_append] at hz ⊢; rcases hz with (((h | h) | h) | h) | (h | h) <;> simp [h])
          have n1 : ((P ++ X1) ++ Y1 ++ X2 ++ (Y2 ++ Q)).length = l.length := by rw [hl]; simp only [List.length_append]; omega
          rw [show (P ++ X1) ++ Y1 ++ X2 ++ (Y2 ++ Q) = L1 by rw [hL1]; simp] at o1 n1 ⊢
          refine ask58R (P := P) (X := X1) (Y := Y1) (Q := X2 ++ Y2 ++ Q) hid hlow (by omega) (by omega) (by omega) n1.symm o1 (by omega) (by rw [hL1]; simp) (by omega) (by omega) (by omega) g1.1 g2.1 ?_
          rw [show P ++ sortS Shw.path (X1 ++ Y1) ++ (X2 ++ Y2 ++ Q) = L2 by rw [hL2]; simp]
          have n2 : L2.length = l.length := by rw [hL2, hl]; simp only [List.length_append, sortS_length]; omega
          have o2 : shwE.all L2 := fun z hz => ho z (by rw [hL2] at hz; rw [hl]; simp only [List.mem_append, sortS_mem] at hz ⊢; rcases hz with (((h | (h | h)) | h) | h) | h <;> simp [h])
          refine ask58R (P := P ++ sortS Shw.path (X1 ++ Y1)) (X := X2) (Y := Y2) (Q := Q) hid hlow (by simp only [List.length_append, sortS_length]; omega) (by simp only [List.length_append, sortS_length]; omega) (by simp only [List.length_append, sortS_length]; omega) n2.symm o2 (by omega) (by rw [hL2]) (by omega) (by omega) (by omega) g1.2.1 g2.2.1 ?_
          rw [show P ++ sortS Shw.path (X1 ++ Y1) ++ sortS Shw.path (X2 ++ Y2) ++ Q = P ++ sortS Shw.path (X1 ++ X2 ++ (Y1 ++ Y2)) ++ Q by rw [← hmg]; simp]
          rw [RowH_setId hid]
          exact List.take_length
end Go.AL.Path
