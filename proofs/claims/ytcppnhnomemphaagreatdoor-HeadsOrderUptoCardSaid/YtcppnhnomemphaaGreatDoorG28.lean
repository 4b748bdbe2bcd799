/- Whole numbers as floats of 64 bits: their differences are exact, and stand to each other as the numbers do. -/
import GoSem.Core.Float
set_option linter.unusedVariables false
set_option linter.unusedSimpArgs false
set_option exponentiation.threshold 2000
set_option maxRecDepth 20000
namespace Go.AL.Fl
open Ieee

theorem log2_mul (d e : Nat) (hd : 0 < d) : (d * 2 ^ e).log2 = d.log2 + e := by
  have h1 : 2 ^ d.log2 ≤ d := Nat.log2_self_le (by omega)
  have h2 : d < 2 ^ (d.log2 + 1) := Nat.lt_log2_self
  have hp : 0 < 2 ^ e := Nat.two_pow_pos e
  refine (Nat.log2_eq_iff (Nat.ne_of_gt (Nat.mul_pos hd hp))).2 ⟨?_, ?_⟩
  · rw [Nat.pow_add]; exact Nat.mul_le_mul_right _ h1
  · rw [show d.log2 + e + 1 = (d.log2 + 1) + e by omega, Nat.pow_add]; exact Nat.mul_lt_mul_of_pos_right h2 hp

theorem cut_exact (neg : Bool) (n drop : Nat) (hd : drop ≤ (n * 2 ^ drop).log2 + 2) : Toward.even.cut neg (n * 2 ^ drop) drop = n := by
  unfold Toward.cut
  rw [Nat.min_eq_left hd, Nat.one_shiftLeft]
  have hp : 0 < 2 ^ drop := Nat.two_pow_pos drop
  simp only [Nat.mul_mod_left, Nat.mul_div_cancel _ hp, Nat.mul_zero]
  have h1 : (decide (2 ^ drop < 0)) = false := by simp
  have h2 : (2 ^ drop == 0) = false := by simp
  simp [h2]

/-- The rung of a whole number. -/
def rung (d : Nat) : Nat := (d.log2 + 1022) * 4503599627370496 + d * 2 ^ (52 - d.log2)

theorem mant {d : Nat} (h0 : 0 < d) (h1 : d < 2 ^ 53) : d.log2 ≤ 52 ∧ 4503599627370496 ≤ d * 2 ^ (52 - d.log2) ∧ d * 2 ^ (52 - d.log2) < 9007199254740992 := by
  have a1 : 2 ^ d.log2 ≤ d := Nat.log2_self_le (by omega)
  have a2 : d < 2 ^ (d.log2 + 1) := Nat.lt_log2_self
  have a3 : d.log2 ≤ 52 := by
    have : d.log2 < 53 := (Nat.pow_lt_pow_iff_right (by decide)).1 (Nat.lt_of_le_of_lt a1 h1)
    omega
  have hp : 0 < 2 ^ (52 - d.log2) := Nat.two_pow_pos _
  refine ⟨a3, ?_, ?_⟩
  · calc 4503599627370496 = 2 ^ 52 := by decide
      _ = 2 ^ d.log2 * 2 ^ (52 - d.log2) := by rw [← Nat.pow_add]; congr 1; omega
      _ ≤ _ := Nat.mul_le_mul_right _ a1
  · calc d * 2 ^ (52 - d.log2) < 2 ^ (d.log2 + 1) * 2 ^ (52 - d.log2) := Nat.mul_lt_mul_of_pos_right a2 hp
      _ = 2 ^ 53 := by rw [← Nat.pow_add]; congr 1; omega
      _ = 9007199254740992 := by decide

theorem nearest_small (s : Bool) {d : Nat} (e : Nat) (h0 : 0 < d) (h1 : d < 2 ^ 53) : double.nearest s (d * 2 ^ e) (-(e : Int)) = double.word s (rung d) := by
  obtain ⟨a1, a2, a3⟩ := mant h0 h1
  have hp : 0 < 2 ^ e := Nat.two_pow_pos e
  have hm : ¬ d * 2 ^ e = 0 := Nat.ne_of_gt (Nat.mul_pos h0 hp)
  unfold Format.nearest
  dsimp only
  rw [if_neg hm, log2_mul d e h0]
  have hlp : double.leastPlace = -1074 := by decide
  have hfb : (double.fractionBits : Int) = 52 := rfl
  have hbn : double.binade = 4503599627370496 := by decide
  have hir : double.infRung = 9218868437227405312 := by decide
  have hlast : max (-(e : Int) + ((d.log2 + e : Nat) : Int) - (double.fractionBits : Int)) double.leastPlace = (d.log2 : Int) - 52 := by
    rw [hlp, hfb]; omega
  rw [hlast, hlp, hbn, hir]
  have hk : Toward.even.cut s ((d * 2 ^ e) <<< (-(e : Int) - ((d.log2 : Int) - 52)).toNat) (((d.log2 : Int) - 52) - -(e : Int)).toNat = d * 2 ^ (52 - d.log2) := by
    rw [Nat.shiftLeft_eq]
    by_cases he : e ≤ 52 - d.log2
    · have e1 : (-(e : Int) - ((d.log2 : Int) - 52)).toNat = 52 - d.log2 - e := by omega
      have e2 : (((d.log2 : Int) - 52) - -(e : Int)).toNat = 0 := by omega
      rw [e1, e2, Nat.mul_assoc, ← Nat.pow_add, show e + (52 - d.log2 - e) = 52 - d.log2 by omega]
      have := cut_exact s (d * 2 ^ (52 - d.log2)) 0 (by omega)
      simpa using this
    · have e1 : (-(e : Int) - ((d.log2 : Int) - 52)).toNat = 0 := by omega
      have e2 : (((d.log2 : Int) - 52) - -(e : Int)).toNat = e - (52 - d.log2) := by omega
      rw [e1, e2, Nat.pow_zero, Nat.mul_one]
      have e3 : d * 2 ^ e = d * 2 ^ (52 - d.log2) * 2 ^ (e - (52 - d.log2)) := by
        rw [Nat.mul_assoc, ← Nat.pow_add]; congr 2; omega
      rw [e3]
      exact cut_exact s _ _ (by rw [← e3, log2_mul d e h0]; omega)
  rw [hk]
  congr 1
  unfold rung
  have e4 : ((d.log2 : Int) - 52 - -1074).toNat = d.log2 + 1022 := by omega
  rw [e4]
  apply Nat.min_eq_left
  omega

theorem read_rung (s : Bool) {d : Nat} (h0 : 0 < d) (h1 : d < 2 ^ 53) : double.read (double.word s (rung d)) = .number s (d * 2 ^ (52 - d.log2)) ((d.log2 : Int) - 52) := by
  obtain ⟨a1, a2, a3⟩ := mant h0 h1
  unfold rung
  generalize d * 2 ^ (52 - d.log2) = M at *
  generalize d.log2 = k at *
  have hsw : double.signWeight = 9223372036854775808 := by decide
  have hlp : double.leastPlace = -1074 := by decide
  have hbn : double.binade = 4503599627370496 := by decide
  have hir : double.infRung = 9218868437227405312 := by decide
  have hr : (k + 1022) * 4503599627370496 + M < 9218868437227405312 := by omega
  have hq : ((k + 1022) * 4503599627370496 + M) / 4503599627370496 = k + 1023 := by omega
  have hm : ((k + 1022) * 4503599627370496 + M) % 4503599627370496 = M - 4503599627370496 := by omega
  have hge : ¬ (k + 1022) * 4503599627370496 + M < 4503599627370496 := by omega
  generalize hR : (k + 1022) * 4503599627370496 + M = R at *
  have hw : double.word s R = if s then 9223372036854775808 + R else R := by unfold Format.word; rw [hsw]
  have hneg : (double.word s R / double.signWeight % 2 == 1) = s := by
    rw [hsw, hw]
    cases s
    · have : (if (false : Bool) = true then 9223372036854775808 + R else R) / 9223372036854775808 % 2 = 0 := by simp; omega
      rw [this]; rfl
    · have : (if (true : Bool) = true then 9223372036854775808 + R else R) / 9223372036854775808 % 2 = 1 := by simp; omega
      rw [this]; rfl
  have hrg : double.word s R % double.signWeight = R := by
    rw [hsw, hw]
    cases s
    · simp; omega
    · simp; omega
  unfold Format.read
  simp only [hneg, hrg]
  rw [hbn, hir, hlp, if_neg hge, if_pos hr, hq, hm]
  have e1 : 4503599627370496 + (M - 4503599627370496) = M := by omega
  have e2 : (-1074 : Int) + ((k + 1023 - 1 : Nat) : Int) = (k : Int) - 52 := by omega
  rw [e1, e2]

theorem signed_up (s : Bool) (M u : Nat) : signed s M u = signed s M 0 * 2 ^ u := by
  unfold signed
  simp only [Nat.shiftLeft_eq, Nat.pow_zero, Nat.mul_one]
  cases s
  · simp
  · simp [Int.neg_mul]

/-- The word w stands for the whole number a. -/
def Reads (w : Nat) (a : Int) : Prop := ∃ (s : Bool) (M e : Nat), double.read w = .number s M (-(e : Int)) ∧ signed s M 0 = a * 2 ^ e

theorem reads_zero (s : Bool) : Reads (double.word s 0) 0 := by
  refine ⟨s, 0, 1074, ?_, ?_⟩
  · cases s <;> decide
  · cases s <;> simp [signed]

theorem reads_write (s : Bool) (a : Int) (g : Nat) (h : a.natAbs < 2 ^ 53) (hs : a ≠ 0 → (s = true ↔ a < 0)) : Reads (double.nearest s (a.natAbs * 2 ^ g) (-(g : Int))) a := by
  by_cases h0 : a = 0
  · subst h0
    have : double.nearest s ((0 : Int).natAbs * 2 ^ g) (-(g : Int)) = double.word s 0 := by simp [Format.nearest]
    rw [this]; exact reads_zero s
  · rw [nearest_small s g (by omega) h]
    obtain ⟨a1, _, _⟩ := mant (d := a.natAbs) (by omega) h
    refine ⟨s, a.natAbs * 2 ^ (52 - a.natAbs.log2), 52 - a.natAbs.log2, ?_, ?_⟩
    · rw [read_rung s (by omega) h]; congr 1; omega
    · have hs := hs h0
      unfold signed
      rw [Nat.shiftLeft_eq, Nat.pow_zero, Nat.mul_one]
      cases s with
      | true =>
        have : a < 0 := hs.1 rfl
        simp only [if_true]
        push_cast
        rw [show ((a.natAbs : Nat) : Int) = -a by omega, Int.neg_mul, Int.neg_neg]
      | false =>
        have : ¬ a < 0 := fun h => by have := hs.2 h; cases this
        simp only [Bool.false_eq_true, if_false]
        push_cast
        rw [show ((a.natAbs : Nat) : Int) = a by omega]

theorem reads_nearest (a : Int) (h : a.natAbs < 2 ^ 53) : Reads (FloatKind.nearest .f64 a) a := by
  have := reads_write (decide (a < 0)) a 0 h (by simp)
  simpa [FloatKind.nearest, FloatKind.encode, FloatKind.format, Format.write] using this

theorem reads_sub {x y : Nat} {a b : Int} (hx : Reads x a) (hy : Reads y b) (h : (a - b).natAbs < 2 ^ 53) : ∃ w, double.sub x y = some w ∧ Reads w (a - b) := by
  obtain ⟨s, M, e, h1, h2⟩ := hx
  obtain ⟨t, N, f, h3, h4⟩ := hy
  unfold Format.sub
  rw [h1, h3]
  simp only [Datum.opposite, Datum.sum, Option.map_some, Option.some.injEq, exists_eq_left', Format.write]
  obtain ⟨g, hg⟩ : ∃ g : Nat, g = max e f := ⟨_, rfl⟩
  have hb : min (-(e : Int)) (-(f : Int)) = -(g : Int) := by omega
  rw [hb]
  have e1 : (-(e : Int) - -(g : Int)).toNat = g - e := by omega
  have e2 : (-(f : Int) - -(g : Int)).toNat = g - f := by omega
  rw [e1, e2, signed_up s M, signed_up (!t) N]
  have h5 : signed (!t) N 0 = -(signed t N 0) := by cases t <;> simp [signed]
  rw [h5, h2, h4]
  have e3 : a * 2 ^ e * 2 ^ (g - e) = a * 2 ^ g := by rw [Int.mul_assoc, ← Int.pow_add]; congr 2; omega
  have e4 : -(b * 2 ^ f) * 2 ^ (g - f) = -(b * 2 ^ g) := by rw [Int.neg_mul, Int.mul_assoc, ← Int.pow_add]; congr 3; omega
  rw [e3, e4]
  have e5 : a * 2 ^ g + -(b * 2 ^ g) = (a - b) * 2 ^ g := by rw [Int.sub_mul]; omega
  rw [e5, Int.natAbs_mul]
  have hpg : (2 ^ g : Int).natAbs = 2 ^ g := by rw [Int.natAbs_pow]; rfl
  rw [hpg]
  have hpos : (0 : Int) < 2 ^ g := by
    have : (0 : Int) < ((2 ^ g : Nat) : Int) := by exact_mod_cast Nat.two_pow_pos g
    simpa using this
  refine reads_write _ _ g h fun h0 => ?_
  rw [if_neg (by
    intro hz
    rcases Int.mul_eq_zero.1 hz with hz | hz
    · exact h0 hz
    · omega)]
  simp only [decide_eq_true_eq]
  constructor
  · intro hn
    by_cases hc : a - b < 0
    · exact hc
    · have := Int.mul_nonneg (show 0 ≤ a - b by omega) (Int.le_of_lt hpos)
      omega
  · intro hn
    exact Int.mul_neg_of_neg_of_pos hn hpos

theorem reads_order {x y : Nat} {a b : Int} (hx : Reads x a) (hy : Reads y b) : double.order x y = some (compare a b) := by
  obtain ⟨s, M, e, h1, h2⟩ := hx
  obtain ⟨t, N, f, h3, h4⟩ := hy
  unfold Format.order
  rw [h1, h3]
  simp only [Datum.order, Option.some.injEq]
  obtain ⟨g, hg⟩ : ∃ g : Nat, g = max e f := ⟨_, rfl⟩
  have hb : min (-(e : Int)) (-(f : Int)) = -(g : Int) := by omega
  rw [hb]
  have e1 : (-(e : Int) - -(g : Int)).toNat = g - e := by omega
  have e2 : (-(f : Int) - -(g : Int)).toNat = g - f := by omega
  rw [e1, e2, signed_up s M, signed_up t N, h2, h4]
  have e3 : a * 2 ^ e * 2 ^ (g - e) = a * 2 ^ g := by rw [Int.mul_assoc, ← Int.pow_add]; congr 2; omega
  have e4 : b * 2 ^ f * 2 ^ (g - f) = b * 2 ^ g := by rw [Int.mul_assoc, ← Int.pow_add]; congr 2; omega
  rw [e3, e4]
  have hpos : (0 : Int) < 2 ^ g := by
    have : (0 : Int) < ((2 ^ g : Nat) : Int) := by exact_mod_cast Nat.two_pow_pos g
    simpa using this
  have hlt : ∀ u v : Int, u * 2 ^ g < v * 2 ^ g ↔ u < v := fun u v => Int.mul_lt_mul_right hpos
  simp only [compare, compareOfLessAndEq]
  by_cases c1 : a < b
  · rw [if_pos ((hlt a b).2 c1), if_pos c1]
  · rw [if_neg (fun h => c1 ((hlt a b).1 h)), if_neg c1]
    by_cases c2 : a = b
    · rw [if_pos (by rw [c2]), if_pos c2]
    · rw [if_neg (fun h => c2 (Int.eq_of_mul_eq_mul_right (by omega) h)), if_neg c2]
end Go.AL.Fl
