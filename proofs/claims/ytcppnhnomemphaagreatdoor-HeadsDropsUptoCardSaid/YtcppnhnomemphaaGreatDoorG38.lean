/- HeadsOrder, walked. -/
import Derived.Test.YtcppnhnomemphaaGreatDoorG35
import Derived.Test.YtcppnhnomemphaaGreatDoorG37
set_option linter.unusedSimpArgs false
set_option linter.unusedVariables false
set_option maxRecDepth 100000
namespace Go.AL.Path
open Go Go.RowKit Go.Proofs Go.AL

theorem u8s_inj : ∀ {a b : List Int}, a.map u8 = b.map u8 → a = b
  | [], [], _ => rfl
  | [], _ :: _, h => by cases h
  | _ :: _, [], h => by cases h
  | x :: a, y :: b, h => by
    injection h with h1 h2
    injection h1 with h1
    injection h1 with _ h1
    rw [h1, u8s_inj h2]
/-- Events in some order. -/
def shufS : PSp := spOn (fun x : List Ev × List Int => [evsV x.1, u8sV x.2]) (fun x => Evs 1099511627 x.1 ∧ AllU8 x.2) fun x => evsV (shuf x.2 x.1.length 0 x.1)
theorem ask_shufS {l : List Ev} {o : List Int} (h : Evs 1099511627 l) (ho : AllU8 o) {K} : ask shufS [evsV l, u8sV o] K = K (evsV (shuf o l.length 0 l)) :=
  ask_spOn (x := (l, o)) (fun x y hx hy he => by
    obtain ⟨x1, x2⟩ := x
    obtain ⟨y1, y2⟩ := y
    injection he with h1 h2
    have a : x1 = y1 := e1_inj hx.1.1 hy.1.1 (by rw [e1, e1, h1])
    have b : x2 = y2 := by
      injection h2 with h2 _
      injection h2 with _ h2 _
      exact u8s_inj h2
    rw [a, b]) ⟨h, ho⟩ rfl
theorem told_shufS : Told Tryz.prog G 24 shufS := told_spOn fun x hx => p24s x.1 x.2 hx.1.1 hx.2 hx.1.2

theorem shuf_ok {l : List Ev} (ho : AllOk l) (o : List Int) : AllOk (shuf o l.length 0 l) := fun x hx => ho x ((shuf_mem o l x).1 hx)
theorem mayEv_in {e : Ev} (h : mayEv e = true) : In64 e.r ∧ In64 e.q := by
  unfold mayEv mayBase at h
  simp only [Bool.and_eq_true] at h
  have h1 := h.1.1.1.1
  simp [dotOk] at h1
  exact ⟨⟨by omega, by omega⟩, ⟨by omega, by omega⟩⟩
theorem hi_in {s : List Vec × List Ev} (h : HI s) {l : List Ev} (hl : ∀ x ∈ l, x ∈ s.2) : AllIn l := fun e he => mayEv_in (h.may e (hl e he))
abbrev joinS : PSp := nilS 38 (evs2 fun l m => m.foldl addRef l)
theorem told_joinS : Told Tryz.prog G 22 joinS := told_nilS (told_evs2 p22r)
theorem ask_joinS {l m : List Ev} (h : Evs 1099511 l) (h' : Evs 1099511 m) {K} : ask joinS [evsV l, evsV m] K = K (evsV (m.foldl addRef l)) := ask_evs2 h h'
theorem ask_joinN {m : List Ev} (h' : Evs 1099511 m) {K} : ask joinS [.sl 0 [] none, evsV m] K = K (evsV (m.foldl addRef [])) := ask_evs2 (l := []) ⟨(fun x hx => by cases hx), by simp⟩ h'

def c6 : ACode := (.seq (.reg false 0 [⟨(.some 6), none, (.q .mv), [(.c (.imm (.bool false)))]⟩]) (.seq (.reg false 0 [⟨(.some 14), none, (.call true), [(.c (.fn (.func 8) [] []))]⟩, ⟨(.some 7), none, (.q .mv), [(.t 14)]⟩]) (.seq (.reg false 1 [⟨(.some 16), none, (.q .mv), [(.t 0)]⟩, ⟨(.some 17), none, (.call true), [(.c (.fn (.func 15) [] [])), (.t 16)]⟩, ⟨(.some 15), none, (.q .mv), [(.t 17)]⟩, ⟨(.some 18), none, (.q (.ext 0)), [(.t 15)]⟩, ⟨(.some 19), none, (.q (.ext 1)), [(.t 15)]⟩, ⟨(.some 9), none, (.m (.alloc [(.sl 0 [] none), (.sl 0 [] none), (.sl 0 [] none)] false) 0), []⟩, ⟨(.some 8), none, (.q .mv), [(.t 18)]⟩, ⟨none, none, (.e (.store 3)), [(.t 9), (.t 19)]⟩]) (.seq (.reg false 0 [⟨(.some 20), none, (.q .mv), [(.t 8)]⟩, ⟨(.some 21), none, (.q .mv), [(.t 1)]⟩, ⟨(.some 22), none, (.call true), [(.c (.fn (.func 24) [] [])), (.t 20), (.t 21)]⟩, ⟨(.some 10), none, (.q .mv), [(.t 22)]⟩]) (.seq (.reg false 0 [⟨(.some 23), none, (.q .mv), [(.t 10)]⟩, ⟨(.some 24), none, (.q .mv), [(.t 10)]⟩, ⟨(.some 25), none, (.q .lenL), [(.t 24)]⟩, ⟨(.some 26), none, (.q .mv), [(.t 2)]⟩, ⟨(.some 27), none, (.q (.convI .i64)), [(.t 26)]⟩, ⟨(.some 28), none, (.q .mv), [(.t 10)]⟩, ⟨(.some 29), none, (.q .lenL), [(.t 28)]⟩, ⟨(.some 30), none, (.q (.bin .add 3)), [(.t 29), (.c (.imm (.int .i64 1)))]⟩, ⟨(.some 31), none, (.q (.bin .rem 3)), [(.t 27), (.t 30)]⟩, ⟨(.some 32), none, (.q (.bin .sub 3)), [(.t 25), (.t 31)]⟩, ⟨(.some 33), none, (.q (.sliceL 38 false true false)), [(.t 23), (.t 32)]⟩, ⟨(.some 10), none, (.q .mv), [(.t 33)]⟩]) (.seq (.reg false 0 [⟨(.some 34), none, (.q .mv), [(.t 10)]⟩, ⟨(.some 35), none, (.call true), [(.c (.fn (.func 22) [] [])), (.c (.sl 0 [] none)), (.t 34)]⟩, ⟨(.some 11), none, (.q .mv), [(.t 35)]⟩]) (.seq (.reg false 0 [⟨(.some 36), none, (.q .mv), [(.t 11)]⟩, ⟨(.some 37), none, (.q .mv), [(.t 10)]⟩, ⟨(.some 38), none, (.q .mv), [(.t 1)]⟩, ⟨(.some 39), none, (.call true), [(.c (.fn (.func 24) [] [])), (.t 37), (.t 38)]⟩, ⟨(.some 40), none, (.call true), [(.c (.fn (.func 22) [] [])), (.t 36), (.t 39)]⟩, ⟨(.some 12), none, (.q .mv), [(.t 40)]⟩]) (.seq (.reg false 0 [⟨(.some 41), none, (.q .mv), [(.t 10)]⟩, ⟨(.some 42), none, (.call true), [(.c (.fn (.func 16) [] [])), (.t 41)]⟩, ⟨(.some 13), none, (.q .mv), [(.t 42)]⟩]) (.seq (.reg false 0 [⟨(.some 43), none, (.q .mv), [(.t 7)]⟩, ⟨(.some 44), none, (.q .mv), [(.t 43)]⟩, ⟨(.some 45), (.some (44, true)), (.q .mv), [(.t 11)]⟩, ⟨(.some 46), (.some (44, true)), (.q .mv), [(.t 13)]⟩, ⟨(.some 47), (.some (44, true)), (.call true), [(.c (.fn (.func 19) [] [])), (.t 45), (.t 46)]⟩, ⟨(.some 48), none, (.q .pick), [(.t 44), (.t 47), (.c (.imm (.bool false)))]⟩, ⟨(.some 49), none, (.q .mv), [(.t 48)]⟩, ⟨(.some 50), (.some (49, true)), (.q .mv), [(.t 12)]⟩, ⟨(.some 51), (.some (49, true)), (.q .mv), [(.t 13)]⟩, ⟨(.some 52), (.some (49, true)), (.call true), [(.c (.fn (.func 19) [] [])), (.t 50), (.t 51)]⟩, ⟨(.some 53), none, (.q .pick), [(.t 49), (.t 52), (.c (.imm (.bool false)))]⟩, ⟨(.some 54), none, (.q .mv), [(.t 53)]⟩, ⟨(.some 55), (.some (54, true)), (.q .mv), [(.t 11)]⟩, ⟨(.some 56), (.some (54, true)), (.call true), [(.c (.fn (.func 10) [] [])), (.t 55)]⟩, ⟨(.some 57), none, (.q .pick), [(.t 54), (.t 56), (.c (.imm (.bool false)))]⟩, ⟨(.some 6), none, (.q .mv), [(.t 57)]⟩]) .ret)))))))))
theorem fn6 : IsFn Tryz.prog 6 [] c6 [6] 58 := ⟨_, _, Tryz.func6, rfl, by decide +kernel, by kernel_rfl, rfl, rfl⟩
set_option maxHeartbeats 8000000 in
theorem p6s (l : List Deed) (o : List Int) (m : Int) (hd : AllDeed l) (ho : AllU8 o) (hm8 : 0 ≤ m ∧ m ≤ 255) : Pure Tryz.prog G 6 [deedsV l, u8sV o, u8 m] (bool true) := by
  refine pure_of_code' (S := sp [(8, none0 (bool true)), (15, histS), (24, shufS), (22, joinS), (16, evs1 lastL), (19, evs2b fun a b => decide (a = b)), (10, mayS mayRef)] []) hm hG
    (sp_holds (.cons (told_none0 p8s) (.cons told_histS (.cons told_shufS (.cons told_joinS (.cons (told_evs1 fun l h => p16s l h.1 h.2) (.cons (told_evs2b p19') (.cons (told_mayS p10r) .nil))))))) .nil)
    fn6 (St 14 58 [deedsV l, u8sV o, u8 m, .junk, .junk, .junk, .junk, .junk, .junk, .junk, .junk, .junk, .junk, .junk] []) (by kernel_rfl) (by simp [lows, AV.low, lows_deeds, lows_u8s, u8]) (by simp [AV.low]) ?_
  have hi := hi_hist hd
  have hlen := hist_len (l.take 40)
  rw [List.length_take] at hlen
  have q15 : ∀ K, ask histS [deedsV l] K = K (histAV l) := fun K => ask_histS hd
  unfold histAV at q15
  generalize hist (l.take 40) = s at *
  have e0 := hi_all hi
  have l0 : s.2.length ≤ 40 := by omega
  have n1 := shuf_len o s.2
  have q24 : ∀ K, ask shufS [evsV s.2, u8sV o] K = K (evsV (shuf o s.2.length 0 s.2)) := fun K => ask_shufS ⟨e0, by omega⟩ ho
  have m1 := shuf_mem o s.2
  have e1' := shuf_ok e0 o
  generalize shuf o s.2.length 0 s.2 = sh at *
  have w1 : IntKind.i64.wrap m = m := In64.wrap ⟨by omega, by omega⟩
  obtain ⟨k, hk⟩ : ∃ k : Nat, (m.tmod ((sh.length : Int) + 1)) = (k : Int) := ⟨_, (Int.toNat_of_nonneg (Int.tmod_nonneg _ hm8.1)).symm⟩
  have hk1 : k ≤ sh.length := by
    have := Int.tmod_lt_of_pos m (show (0 : Int) < (sh.length : Int) + 1 by omega)
    omega
  have d1 : ¬ ((sh.length : Int) + 1 = 0) := by omega
  have t1 : ((sh.length : Int) - (k : Int)).toNat = sh.length - k := by omega
  obtain ⟨L, hL⟩ : ∃ L, sh.take (sh.length - k) = L := ⟨_, rfl⟩
  have tk : (sh.map evV).take (sh.length - k) = L.map evV := by rw [← List.map_take, hL]
  have hLU : ∀ x ∈ L, x ∈ s.2 := fun x hx => (m1 x).1 (by rw [← hL] at hx; exact List.mem_of_mem_take hx)
  have eL : AllOk L := fun x hx => e0 x (hLU x hx)
  have nL : L.length ≤ 40 := by rw [← hL, List.length_take]; omega
  have h1 := order_heads hi hLU
  have nn1 := lastL_len L
  have e2 := lastL_ok eL
  have h2 := order_again hi hLU (shuf_mem o L)
  have h3 := order_may hi hLU
  have e3 := shuf_ok eL o
  have n3 := shuf_len o L
  have q24' : ∀ K, ask shufS [evsV L, u8sV o] K = K (evsV (shuf o L.length 0 L)) := fun K => ask_shufS ⟨eL, by omega⟩ ho
  generalize shuf o L.length 0 L = sh2 at *
  have q22 : ∀ K, ask joinS [.sl 0 [] none, evsV L] K = K (evsV (lastL L)) := fun K => by rw [ask_joinN ⟨eL, by omega⟩, h1]
  have q22' : ∀ K, ask joinS [evsV (lastL L), evsV sh2] K = K (evsV (lastL L)) := fun K => by rw [ask_joinS ⟨e2, by omega⟩ ⟨e3, by omega⟩, h2]
  have q16 : ∀ K, ask (evs1 lastL) [evsV L] K = K (evsV (lastL L)) := fun K => ask_evs1 ⟨eL, by omega⟩
  have hx : ∀ x ∈ lastL L, x ∈ s.2 := fun x hx => hLU x ((last_Mx (hi_causal hi) hLU x).1 hx).1
  have q10 : ∀ K, ask (mayS mayRef) [evsV (lastL L)] K = K (bool true) := fun K => by rw [ask_mayS ⟨e2, hi_in hi hx, by omega⟩, h3]; simp [splitB_eq, SplitP]
  generalize lastL L = h at *
  have q19 : ∀ K, ask (evs2b fun a b => decide (a = b)) [evsV h, evsV h] K = K (bool true) := fun K => ask_same e2 (by omega)
  have z3 : ([AV.sl 0 [] none, AV.sl 0 [] none, AV.sl 0 [] none] : List AV).length = 3 := rfl
  simp (maxSteps := 2000000) -implicitDefEqProofs only [c6, RS, RX, Nat.reduceLT, ↓RP0, ↓RP1, ↓RP2, ↓RP3, RV, RW, ↓reduceIte, Nat.reduceAdd, Nat.reduceSub, Nat.reduceMul, Nat.reduceLeDiff, Nat.reduceEqDiff, Int.reduceLT, Int.reduceLE, Int.reduceEq, Int.reduceNe, Int.reduceAdd, Int.reduceSub, Int.reduceMul, Int.reduceNeg, Int.reduceToNat, reduceCtorEq, u8, ↓q15, q15, ↓q24, q24, ↓q24', q24', ↓q22, q22, ↓q22', q22', ↓q16, q16, ↓q10, q10, ↓q19, q19, w1, hk, d1, t1, tk, evs_len, AV.cells, knowC_len, hi.ok.three]
  exact ⟨⟨by omega, by omega⟩, ⟨by omega, by omega⟩, .inl trivial, by omega, by omega⟩
end Go.AL.Path

/- HeadsParts, walked. -/
set_option linter.unusedSimpArgs false
set_option linter.unusedVariables false
set_option maxRecDepth 100000
namespace Go.AL.Path
open Go Go.RowKit Go.Proofs Go.AL

def c7 : ACode := (.seq (.reg false 0 [⟨(.some 6), none, (.q .mv), [(.c (.imm (.bool false)))]⟩]) (.seq (.reg false 0 [⟨(.some 15), none, (.call true), [(.c (.fn (.func 8) [] []))]⟩, ⟨(.some 7), none, (.q .mv), [(.t 15)]⟩]) (.seq (.reg false 1 [⟨(.some 17), none, (.q .mv), [(.t 0)]⟩, ⟨(.some 18), none, (.call true), [(.c (.fn (.func 15) [] [])), (.t 17)]⟩, ⟨(.some 16), none, (.q .mv), [(.t 18)]⟩, ⟨(.some 19), none, (.q (.ext 0)), [(.t 16)]⟩, ⟨(.some 20), none, (.q (.ext 1)), [(.t 16)]⟩, ⟨(.some 9), none, (.m (.alloc [(.sl 0 [] none), (.sl 0 [] none), (.sl 0 [] none)] false) 0), []⟩, ⟨(.some 8), none, (.q .mv), [(.t 19)]⟩, ⟨none, none, (.e (.store 3)), [(.t 9), (.t 20)]⟩]) (.seq (.reg false 0 [⟨(.some 21), none, (.q .mv), [(.t 8)]⟩, ⟨(.some 22), none, (.q .mv), [(.t 1)]⟩, ⟨(.some 23), none, (.call true), [(.c (.fn (.func 24) [] [])), (.t 21), (.t 22)]⟩, ⟨(.some 10), none, (.q .mv), [(.t 23)]⟩]) (.seq (.reg false 0 [⟨(.some 24), none, (.q .mv), [(.t 2)]⟩, ⟨(.some 25), none, (.q (.convI .i64)), [(.t 24)]⟩, ⟨(.some 26), none, (.q .mv), [(.t 10)]⟩, ⟨(.some 27), none, (.q .lenL), [(.t 26)]⟩, ⟨(.some 28), none, (.q (.bin .add 3)), [(.t 27), (.c (.imm (.int .i64 1)))]⟩, ⟨(.some 29), none, (.q (.bin .rem 3)), [(.t 25), (.t 28)]⟩, ⟨(.some 11), none, (.q .mv), [(.t 29)]⟩]) (.seq (.reg false 0 [⟨(.some 30), none, (.q .mv), [(.t 10)]⟩, ⟨(.some 31), none, (.q .mv), [(.t 11)]⟩, ⟨(.some 32), none, (.q (.sliceL 38 false true false)), [(.t 30), (.t 31)]⟩, ⟨(.some 33), none, (.call true), [(.c (.fn (.func 22) [] [])), (.c (.sl 0 [] none)), (.t 32)]⟩, ⟨(.some 12), none, (.q .mv), [(.t 33)]⟩]) (.seq (.reg false 0 [⟨(.some 34), none, (.q .mv), [(.t 10)]⟩, ⟨(.some 35), none, (.q .mv), [(.t 11)]⟩, ⟨(.some 36), none, (.q (.sliceL 38 true false false)), [(.t 34), (.t 35)]⟩, ⟨(.some 37), none, (.call true), [(.c (.fn (.func 22) [] [])), (.c (.sl 0 [] none)), (.t 36)]⟩, ⟨(.some 13), none, (.q .mv), [(.t 37)]⟩]) (.seq (.reg false 0 [⟨(.some 38), none, (.q .mv), [(.t 10)]⟩, ⟨(.some 39), none, (.call true), [(.c (.fn (.func 16) [] [])), (.t 38)]⟩, ⟨(.some 14), none, (.q .mv), [(.t 39)]⟩]) (.seq (.reg false 0 [⟨(.some 40), none, (.q .mv), [(.t 7)]⟩, ⟨(.some 41), none, (.q .mv), [(.t 40)]⟩, ⟨(.some 42), (.some (41, true)), (.q .mv), [(.t 12)]⟩, ⟨(.some 43), (.some (41, true)), (.q .mv), [(.t 13)]⟩, ⟨(.some 44), (.some (41, true)), (.call true), [(.c (.fn (.func 22) [] [])), (.t 42), (.t 43)]⟩, ⟨(.some 45), (.some (41, true)), (.q .mv), [(.t 14)]⟩, ⟨(.some 46), (.some (41, true)), (.call true), [(.c (.fn (.func 19) [] [])), (.t 44), (.t 45)]⟩, ⟨(.some 47), none, (.q .pick), [(.t 41), (.t 46), (.c (.imm (.bool false)))]⟩, ⟨(.some 48), none, (.q .mv), [(.t 47)]⟩, ⟨(.some 49), (.some (48, true)), (.q .mv), [(.t 13)]⟩, ⟨(.some 50), (.some (48, true)), (.q .mv), [(.t 12)]⟩, ⟨(.some 51), (.some (48, true)), (.call true), [(.c (.fn (.func 22) [] [])), (.t 49), (.t 50)]⟩, ⟨(.some 52), (.some (48, true)), (.q .mv), [(.t 14)]⟩, ⟨(.some 53), (.some (48, true)), (.call true), [(.c (.fn (.func 19) [] [])), (.t 51), (.t 52)]⟩, ⟨(.some 54), none, (.q .pick), [(.t 48), (.t 53), (.c (.imm (.bool false)))]⟩, ⟨(.some 55), none, (.q .mv), [(.t 54)]⟩, ⟨(.some 56), (.some (55, true)), (.q .mv), [(.t 12)]⟩, ⟨(.some 57), (.some (55, true)), (.q .mv), [(.t 12)]⟩, ⟨(.some 58), (.some (55, true)), (.call true), [(.c (.fn (.func 22) [] [])), (.t 56), (.t 57)]⟩, ⟨(.some 59), (.some (55, true)), (.q .mv), [(.t 12)]⟩, ⟨(.some 60), (.some (55, true)), (.call true), [(.c (.fn (.func 19) [] [])), (.t 58), (.t 59)]⟩, ⟨(.some 61), none, (.q .pick), [(.t 55), (.t 60), (.c (.imm (.bool false)))]⟩, ⟨(.some 6), none, (.q .mv), [(.t 61)]⟩]) .ret)))))))))
theorem fn7 : IsFn Tryz.prog 7 [] c7 [6] 62 := ⟨_, _, Tryz.func7, rfl, by decide +kernel, by kernel_rfl, rfl, rfl⟩
set_option maxHeartbeats 8000000 in
theorem p7s (l : List Deed) (o : List Int) (m : Int) (hd : AllDeed l) (ho : AllU8 o) (hm8 : 0 ≤ m ∧ m ≤ 255) : Pure Tryz.prog G 7 [deedsV l, u8sV o, u8 m] (bool true) := by
  refine pure_of_code' (S := sp [(8, none0 (bool true)), (15, histS), (24, shufS), (22, joinS), (16, evs1 lastL), (19, evs2b fun a b => decide (a = b))] []) hm hG
    (sp_holds (.cons (told_none0 p8s) (.cons told_histS (.cons told_shufS (.cons told_joinS (.cons (told_evs1 fun l h => p16s l h.1 h.2) (.cons (told_evs2b p19') .nil)))))) .nil)
    fn7 (St 15 62 [deedsV l, u8sV o, u8 m, .junk, .junk, .junk, .junk, .junk, .junk, .junk, .junk, .junk, .junk, .junk, .junk] []) (by kernel_rfl) (by simp [lows, AV.low, lows_deeds, lows_u8s, u8]) (by simp [AV.low]) ?_
  have hi := hi_hist hd
  have hlen := hist_len (l.take 40)
  rw [List.length_take] at hlen
  have q15 : ∀ K, ask histS [deedsV l] K = K (histAV l) := fun K => ask_histS hd
  unfold histAV at q15
  generalize hist (l.take 40) = s at *
  have e0 := hi_all hi
  have l0 : s.2.length ≤ 40 := by omega
  have n1 := shuf_len o s.2
  have q24 : ∀ K, ask shufS [evsV s.2, u8sV o] K = K (evsV (shuf o s.2.length 0 s.2)) := fun K => ask_shufS ⟨e0, by omega⟩ ho
  have m1 := shuf_mem o s.2
  have e1' := shuf_ok e0 o
  generalize shuf o s.2.length 0 s.2 = sh at *
  have w1 : IntKind.i64.wrap m = m := In64.wrap ⟨by omega, by omega⟩
  obtain ⟨k, hk⟩ : ∃ k : Nat, (m.tmod ((sh.length : Int) + 1)) = (k : Int) := ⟨_, (Int.toNat_of_nonneg (Int.tmod_nonneg _ hm8.1)).symm⟩
  have hk1 : k ≤ sh.length := by
    have := Int.tmod_lt_of_pos m (show (0 : Int) < (sh.length : Int) + 1 by omega)
    omega
  have d1 : ¬ ((sh.length : Int) + 1 = 0) := by omega
  have hU : ∀ x ∈ sh, x ∈ s.2 := fun x hx => (m1 x).1 hx
  have mt : List.take sh.length (sh.map evV) = sh.map evV := List.take_of_length_le (by simp)
  have tk : List.take k (sh.map evV) = (sh.take k).map evV := List.map_take.symm
  have dk : List.drop k (sh.map evV) = (sh.drop k).map evV := List.map_drop.symm
  have happ := List.take_append_drop k sh
  have nA : (sh.take k).length ≤ 40 := by rw [List.length_take]; omega
  have nB : (sh.drop k).length ≤ 40 := by rw [List.length_drop]; omega
  have hA : ∀ x ∈ sh.take k, x ∈ s.2 := fun x hx => hU x (List.mem_of_mem_take hx)
  have hB : ∀ x ∈ sh.drop k, x ∈ s.2 := fun x hx => hU x (List.mem_of_mem_drop hx)
  generalize sh.take k = A at *
  generalize sh.drop k = B at *
  have eA : AllOk A := fun x hx => e0 x (hA x hx)
  have eB : AllOk B := fun x hx => e0 x (hB x hx)
  have h1 := order_heads hi hA
  have h2 := order_heads hi hB
  have h3 : (lastL B).foldl addRef (lastL A) = lastL sh := parts_join hi hU fun x => by rw [happ]
  have h4 : (lastL A).foldl addRef (lastL B) = lastL sh := parts_join hi hU fun x => by rw [← happ, List.mem_append, List.mem_append]; exact Or.comm
  have h5 : (lastL A).foldl addRef (lastL A) = lastL A := parts_join hi hA fun x => by rw [List.mem_append]; exact ⟨fun h => h.elim id id, .inl⟩
  have q22a : ∀ K, ask joinS [.sl 0 [] none, evsV A] K = K (evsV (lastL A)) := fun K => by rw [ask_joinN ⟨eA, by omega⟩, h1]
  have q22b : ∀ K, ask joinS [.sl 0 [] none, evsV B] K = K (evsV (lastL B)) := fun K => by rw [ask_joinN ⟨eB, by omega⟩, h2]
  have q16 : ∀ K, ask (evs1 lastL) [evsV sh] K = K (evsV (lastL sh)) := fun K => ask_evs1 ⟨e1', by omega⟩
  have lA := lastL_len A
  have lB := lastL_len B
  have lS := lastL_len sh
  have oA := lastL_ok eA
  have oB := lastL_ok eB
  have oS := lastL_ok e1'
  generalize lastL A = a at *
  generalize lastL B = b at *
  generalize lastL sh = w at *
  have q22c : ∀ K, ask joinS [evsV a, evsV b] K = K (evsV w) := fun K => by rw [ask_joinS ⟨oA, by omega⟩ ⟨oB, by omega⟩, h3]
  have q22d : ∀ K, ask joinS [evsV b, evsV a] K = K (evsV w) := fun K => by rw [ask_joinS ⟨oB, by omega⟩ ⟨oA, by omega⟩, h4]
  have q22e : ∀ K, ask joinS [evsV a, evsV a] K = K (evsV a) := fun K => by rw [ask_joinS ⟨oA, by omega⟩ ⟨oA, by omega⟩, h5]
  have q19 : ∀ K, ask (evs2b fun a b => decide (a = b)) [evsV w, evsV w] K = K (bool true) := fun K => ask_same oS (by omega)
  have q19' : ∀ K, ask (evs2b fun a b => decide (a = b)) [evsV a, evsV a] K = K (bool true) := fun K => ask_same oA (by omega)
  simp (maxSteps := 2000000) -implicitDefEqProofs only [c7, RS, RX, Nat.reduceLT, ↓RP0, ↓RP1, ↓RP2, ↓RP3, RV, RW, ↓reduceIte, Nat.reduceAdd, Nat.reduceSub, Nat.reduceMul, Nat.reduceLeDiff, Nat.reduceEqDiff, Int.reduceLT, Int.reduceLE, Int.reduceEq, Int.reduceNe, Int.reduceAdd, Int.reduceSub, Int.reduceMul, Int.reduceNeg, Int.reduceToNat, reduceCtorEq, u8, ↓q15, q15, ↓q24, q24, ↓q22a, q22a, ↓q22b, q22b, ↓q22c, q22c, ↓q22d, q22d, ↓q22e, q22e, ↓q16, q16, ↓q19, q19, ↓q19', q19', w1, hk, d1, mt, tk, dk, evs_len, AV.cells, knowC_len, hi.ok.three]
  exact ⟨⟨by omega, by omega⟩, .inl trivial, by omega, .inl trivial, by omega⟩
end Go.AL.Path

/- HeadsDrops, walked. -/
set_option linter.unusedSimpArgs false
set_option linter.unusedVariables false
set_option maxRecDepth 100000
namespace Go.AL.Path
open Go Go.RowKit Go.Proofs Go.AL

/-- Those that stay. -/
def dropS : PSp := spOn (fun x : List Ev × Vec => [evsV x.1, vecV x.2]) (fun x => Evs 1099511627 x.1 ∧ Small x.2) fun x => evsV (dropP x.2 x.1)
theorem ask_dropS {l : List Ev} {v : Vec} (h : Evs 1099511627 l) (hv : Small v) {K} : ask (nilS 2 dropS) [evsV l, vecV v] K = K (evsV (dropP v l)) :=
  ask_spOn (x := (l, v)) (fun x y hx hy he => by
    obtain ⟨x1, x2⟩ := x
    obtain ⟨y1, y2⟩ := y
    injection he with h1 h2
    have a : x1 = y1 := e1_inj hx.1.1 hy.1.1 (by rw [e1, e1, h1])
    have b : x2 = y2 := by
      injection h2 with h2 _
      injection h2 with _ h2 _
      exact vdots_inj h2
    rw [a, b]) ⟨h, hv⟩ rfl
theorem ask_dropN {l : List Ev} (h : Evs 1099511627 l) {K} : ask (nilS 2 dropS) [evsV l, .sl 0 [] none] K = K (evsV (dropP [] l)) := ask_dropS (v := []) h (by simp [Small])
theorem told_dropS : Told Tryz.prog G 17 (nilS 2 dropS) := told_nilS (told_spOn fun x hx => p17c x.1 x.2 hx.1.1 hx.2 hx.1.2)

def c4 : ACode := (.seq (.reg false 0 [⟨(.some 4), none, (.q .mv), [(.c (.imm (.bool false)))]⟩]) (.seq (.reg false 0 [⟨(.some 14), none, (.call true), [(.c (.fn (.func 8) [] []))]⟩, ⟨(.some 5), none, (.q .mv), [(.t 14)]⟩]) (.seq (.reg false 1 [⟨(.some 16), none, (.q .mv), [(.t 0)]⟩, ⟨(.some 17), none, (.call true), [(.c (.fn (.func 15) [] [])), (.t 16)]⟩, ⟨(.some 15), none, (.q .mv), [(.t 17)]⟩, ⟨(.some 18), none, (.q (.ext 0)), [(.t 15)]⟩, ⟨(.some 19), none, (.q (.ext 1)), [(.t 15)]⟩, ⟨(.some 7), none, (.m (.alloc [(.sl 0 [] none), (.sl 0 [] none), (.sl 0 [] none)] false) 0), []⟩, ⟨(.some 6), none, (.q .mv), [(.t 18)]⟩, ⟨none, none, (.e (.store 3)), [(.t 7), (.t 19)]⟩]) (.seq (.reg false 0 [⟨(.some 20), none, (.q .mv), [(.t 6)]⟩, ⟨(.some 21), none, (.call true), [(.c (.fn (.func 16) [] [])), (.t 20)]⟩, ⟨(.some 8), none, (.q .mv), [(.t 21)]⟩]) (.seq (.reg false 0 [⟨(.some 22), none, (.q .mv), [(.t 1)]⟩, ⟨(.some 23), none, (.q (.convI .i64)), [(.t 22)]⟩, ⟨(.some 24), none, (.q (.bin .rem 3)), [(.t 23), (.c (.imm (.int .i64 3)))]⟩, ⟨(.some 25), none, (.q (.iaddrA 3 1)), [(.t 7), (.t 24)]⟩, ⟨(.some 26), none, (.l .load1), [(.t 25)]⟩, ⟨(.some 9), none, (.q .mv), [(.t 26)]⟩]) (.seq (.reg false 0 [⟨(.some 27), none, (.q .mv), [(.t 8)]⟩, ⟨(.some 28), none, (.q .mv), [(.t 9)]⟩, ⟨(.some 29), none, (.call true), [(.c (.fn (.func 17) [] [])), (.t 27), (.t 28)]⟩, ⟨(.some 10), none, (.q .mv), [(.t 29)]⟩]) (.seq (.reg false 0 [⟨(.some 11), none, (.q .mv), [(.c (.imm (.int .i64 0)))]⟩]) (.seq (.seq (.reg false 0 [⟨(.some 12), none, (.q .mv), [(.c (.imm (.int .i64 0)))]⟩]) (.block 0 (.loop (.seq (.seq (.reg false 0 [⟨(.some 30), none, (.q .mv), [(.t 12)]⟩, ⟨(.some 31), none, (.q .mv), [(.t 8)]⟩, ⟨(.some 32), none, (.q .lenL), [(.t 31)]⟩, ⟨(.some 33), none, (.q (.bin .lss 3)), [(.t 30), (.t 32)]⟩]) (.cond (.t 33) .skip (.exit 0))) (.seq (.block 1 (.seq (.reg true 0 [⟨(.some 36), none, (.q .mv), [(.t 8)]⟩, ⟨(.some 37), none, (.q .mv), [(.t 12)]⟩, ⟨(.some 38), none, (.q (.iaddrS 38)), [(.t 36), (.t 37)]⟩, ⟨(.some 39), none, (.q (.faddr 3)), [(.t 38)]⟩, ⟨(.some 40), none, (.l .load1), [(.t 39)]⟩, ⟨(.some 41), none, (.q (.bin .eql 3)), [(.t 40), (.c (.imm (.int .i64 2)))]⟩, ⟨(.some 42), none, (.q .mv), [(.t 41)]⟩, ⟨(.some 43), (.some (42, true)), (.q .mv), [(.t 8)]⟩, ⟨(.some 44), (.some (42, true)), (.q .mv), [(.t 12)]⟩, ⟨(.some 45), (.some (42, true)), (.q (.iaddrS 38)), [(.t 43), (.t 44)]⟩, ⟨(.some 46), (.some (42, true)), (.q (.faddr 0)), [(.t 45)]⟩, ⟨(.some 47), (.some (42, true)), (.q (.faddr 1)), [(.t 46)]⟩, ⟨(.some 48), (.some (42, true)), (.l .load1), [(.t 47)]⟩, ⟨(.some 49), (.some (42, true)), (.q .mv), [(.t 9)]⟩, ⟨(.some 50), (.some (42, true)), (.q .mv), [(.t 8)]⟩, ⟨(.some 51), (.some (42, true)), (.q .mv), [(.t 12)]⟩, ⟨(.some 52), (.some (42, true)), (.q (.iaddrS 38)), [(.t 50), (.t 51)]⟩, ⟨(.some 53), (.some (42, true)), (.q (.faddr 0)), [(.t 52)]⟩, ⟨(.some 54), (.some (42, true)), (.q (.faddr 0)), [(.t 53)]⟩, ⟨(.some 55), (.some (42, true)), (.l .load1), [(.t 54)]⟩, ⟨(.some 56), (.some (42, true)), (.call false), [(.c (.fn (.func 18) [] [])), (.t 49), (.t 55)]⟩, ⟨(.some 57), (.some (42, true)), (.q (.bin .leq 2)), [(.t 48), (.t 56)]⟩, ⟨(.some 58), none, (.q .pick), [(.t 42), (.t 57), (.c (.imm (.bool false)))]⟩, ⟨(.some 13), none, (.q .mv), [(.t 58)]⟩]) (.seq (.seq (.reg false 0 [⟨(.some 59), none, (.q .mv), [(.t 13)]⟩]) (.cond (.t 59) (.exit 1) .skip)) (.seq (.seq (.reg true 0 [⟨(.some 60), none, (.q .mv), [(.t 11)]⟩, ⟨(.some 61), none, (.q .mv), [(.t 10)]⟩, ⟨(.some 62), none, (.q .lenL), [(.t 61)]⟩, ⟨(.some 63), none, (.q (.bin .geq 3)), [(.t 60), (.t 62)]⟩, ⟨(.some 64), none, (.q .mv), [(.t 63)]⟩, ⟨(.some 65), (.some (64, false)), (.q .mv), [(.t 10)]⟩, ⟨(.some 66), (.some (64, false)), (.q .mv), [(.t 11)]⟩, ⟨(.some 67), (.some (64, false)), (.q (.iaddrS 38)), [(.t 65), (.t 66)]⟩, ⟨(.some 68), (.some (64, false)), (.l (.loadA 38)), [(.t 67)]⟩, ⟨(.some 69), (.some (64, false)), (.q .mv), [(.t 8)]⟩, ⟨(.some 70), (.some (64, false)), (.q .mv), [(.t 12)]⟩, ⟨(.some 71), (.some (64, false)), (.q (.iaddrS 38)), [(.t 69), (.t 70)]⟩, ⟨(.some 72), (.some (64, false)), (.l (.loadA 38)), [(.t 71)]⟩, ⟨(.some 73), (.some (64, false)), (.call true), [(.c (.fn (.func 14) [] [])), (.t 68), (.t 72)]⟩, ⟨(.some 74), (.some (64, false)), (.q (.un .not)), [(.t 73)]⟩, ⟨(.some 75), none, (.q .pick), [(.t 64), (.c (.imm (.bool true))), (.t 74)]⟩]) (.cond (.t 75) (.seq (.reg false 0 [⟨(.some 4), none, (.q .mv), [(.c (.imm (.bool false)))]⟩]) .ret) .skip)) (.reg false 0 [⟨(.some 76), none, (.q .mv), [(.t 11)]⟩, ⟨(.some 77), none, (.q (.bin .add 3)), [(.t 76), (.c (.imm (.int .i64 1)))]⟩, ⟨(.some 11), none, (.q .mv), [(.t 77)]⟩]))))) (.reg false 0 [⟨(.some 34), none, (.q .mv), [(.t 12)]⟩, ⟨(.some 35), none, (.q (.bin .add 3)), [(.t 34), (.c (.imm (.int .i64 1)))]⟩, ⟨(.some 12), none, (.q .mv), [(.t 35)]⟩])))))) (.seq (.reg false 0 [⟨(.some 78), none, (.q .mv), [(.t 5)]⟩, ⟨(.some 79), none, (.q .mv), [(.t 78)]⟩, ⟨(.some 80), (.some (79, true)), (.q .mv), [(.t 11)]⟩, ⟨(.some 81), (.some (79, true)), (.q .mv), [(.t 10)]⟩, ⟨(.some 82), (.some (79, true)), (.q .lenL), [(.t 81)]⟩, ⟨(.some 83), (.some (79, true)), (.q (.bin .eql 3)), [(.t 80), (.t 82)]⟩, ⟨(.some 84), none, (.q .pick), [(.t 79), (.t 83), (.c (.imm (.bool false)))]⟩, ⟨(.some 85), none, (.q .mv), [(.t 84)]⟩, ⟨(.some 86), (.some (85, true)), (.q .mv), [(.t 10)]⟩, ⟨(.some 87), (.some (85, true)), (.call true), [(.c (.fn (.func 10) [] [])), (.t 86)]⟩, ⟨(.some 88), none, (.q .pick), [(.t 85), (.t 87), (.c (.imm (.bool false)))]⟩, ⟨(.some 89), none, (.q .mv), [(.t 88)]⟩, ⟨(.some 90), (.some (89, true)), (.q .mv), [(.t 10)]⟩, ⟨(.some 91), (.some (89, true)), (.q .mv), [(.t 9)]⟩, ⟨(.some 92), (.some (89, true)), (.call true), [(.c (.fn (.func 17) [] [])), (.t 90), (.t 91)]⟩, ⟨(.some 93), (.some (89, true)), (.q .mv), [(.t 10)]⟩, ⟨(.some 94), (.some (89, true)), (.call true), [(.c (.fn (.func 19) [] [])), (.t 92), (.t 93)]⟩, ⟨(.some 95), none, (.q .pick), [(.t 89), (.t 94), (.c (.imm (.bool false)))]⟩, ⟨(.some 96), none, (.q .mv), [(.t 95)]⟩, ⟨(.some 97), (.some (96, true)), (.q .mv), [(.t 8)]⟩, ⟨(.some 98), (.some (96, true)), (.call true), [(.c (.fn (.func 17) [] [])), (.t 97), (.c (.sl 0 [] none))]⟩, ⟨(.some 99), (.some (96, true)), (.q .mv), [(.t 8)]⟩, ⟨(.some 100), (.some (96, true)), (.call true), [(.c (.fn (.func 19) [] [])), (.t 98), (.t 99)]⟩, ⟨(.some 101), none, (.q .pick), [(.t 96), (.t 100), (.c (.imm (.bool false)))]⟩, ⟨(.some 4), none, (.q .mv), [(.t 101)]⟩]) .ret)))))))))
theorem fn4 : IsFn Tryz.prog 4 [] c4 [4] 102 := ⟨_, _, Tryz.func4, rfl, by decide +kernel, by kernel_rfl, rfl, rfl⟩
set_option maxHeartbeats 8000000 in
theorem p4s (l : List Deed) (m : Int) (hd : AllDeed l) (hm8 : 0 ≤ m ∧ m ≤ 255) : Pure Tryz.prog G 4 [deedsV l, u8 m] (bool true) := by
  refine pure_of_code' (S := sp [(8, none0 (bool true)), (15, histS), (16, evs1 lastL), (17, nilS 2 dropS), (18, vecInt fun v r => i64 (seqV v r)), (14, ev2b sameP), (19, evs2b fun a b => decide (a = b)), (10, mayS mayRef)] []) hm hG
    (sp_holds (.cons (told_none0 p8s) (.cons told_histS (.cons (told_evs1 fun l h => p16s l h.1 h.2) (.cons told_dropS (.cons (told_vecInt fun v r h => p18s v r h) (.cons (told_ev2b p14') (.cons (told_evs2b p19') (.cons (told_mayS p10r) .nil)))))))) .nil)
    fn4 (St 14 102 [deedsV l, u8 m, .junk, .junk, .junk, .junk, .junk, .junk, .junk, .junk, .junk, .junk, .junk, .junk] []) (by kernel_rfl) (by simp [lows, AV.low, lows_deeds, u8]) (by simp [AV.low]) ?_
  have hi := hi_hist hd
  have hlen := hist_len (l.take 40)
  rw [List.length_take] at hlen
  have q15 : ∀ K, ask histS [deedsV l] K = K (histAV l) := fun K => ask_histS hd
  unfold histAV at q15
  generalize hist (l.take 40) = s at *
  have e0 := hi_all hi
  have l0 : s.2.length ≤ 40 := by omega
  have q16 : ∀ K, ask (evs1 lastL) [evsV s.2] K = K (evsV (lastL s.2)) := fun K => ask_evs1 ⟨e0, by omega⟩
  have k3 := hi.ok.three
  have kl := knowC_len s.1
  rw [k3] at kl
  obtain ⟨w, hw⟩ : ∃ w, m.toNat % 3 = w := ⟨_, rfl⟩
  have hw3 : w < 3 := by omega
  have m1 := mod3 hm8.1
  rw [hw] at m1
  have w1 : IntKind.i64.wrap m = m := In64.wrap ⟨by omega, by omega⟩
  have iw : ((w : Int) < 3) = True := eq_true (by omega)
  have gw := knowC_get (k := s.1) (w := w) (by omega)
  have kt : List.take 3 (knowC s.1) = knowC s.1 := List.take_of_length_le (by omega)
  have vs := (hi.ok.low _ (getD_mem (l := s.1) (w := w) (by omega))).small
  have hseq := fun e he => drops_seq hi hw3 (e := e) he
  have hmay := drops_may hi (s.1.getD w [])
  generalize s.1.getD w [] = v at *
  have eL := lastL_ok e0
  have nL := lastL_len s.2
  have hLs : ∀ x ∈ lastL s.2, x ∈ s.2 := fun x hx => ((last_Mx (hi_causal hi) (fun x hx => hx) x).1 hx).1
  have hin := hi_in hi hLs
  generalize lastL s.2 = h at *
  have q17 : ∀ K, ask (nilS 2 dropS) [evsV h, vecV v] K = K (evsV (dropP v h)) := fun K => ask_dropS ⟨eL, by omega⟩ vs
  have q17n : ∀ K, ask (nilS 2 dropS) [evsV h, .sl 0 [] none] K = K (evsV h) := fun K => by rw [ask_dropN ⟨eL, by omega⟩, drop_none]
  have xo : AllOk (dropP v h) := filter_ok eL
  have xi : AllIn (dropP v h) := fun e he => hin e (List.mem_filter.1 he).1
  have xl : (dropP v h).length ≤ h.length := List.length_filter_le _ _
  have q17x : ∀ K, ask (nilS 2 dropS) [evsV (dropP v h), vecV v] K = K (evsV (dropP v h)) := fun K => by rw [ask_dropS ⟨xo, by omega⟩ vs, drop_twice]
  have q10 : ∀ K, ask (mayS mayRef) [evsV (dropP v h)] K = K (bool true) := fun K => by rw [ask_mayS ⟨xo, xi, by omega⟩, hmay]; simp [splitB_eq, SplitP]
  have dt := fun i (hi : i < h.length) => drop_take (v := v) hi
  have da := fun i (hi : i < h.length) hb => drop_at (v := v) hi hb
  have dl : dropP v (h.take h.length) = dropP v h := by rw [List.take_length]
  have dn : ∀ i, (dropP v (h.take i)).length ≤ i := fun i => Nat.le_trans (List.length_filter_le _ _) (by rw [List.length_take]; omega)
  have d0 : dropP v (h.take 0) = [] := rfl
  have q19 : ∀ K, ask (evs2b fun a b => decide (a = b)) [evsV (dropP v h), evsV (dropP v h)] K = K (bool true) := fun K => ask_same xo (by omega)
  have q19' : ∀ K, ask (evs2b fun a b => decide (a = b)) [evsV h, evsV h] K = K (bool true) := fun K => ask_same eL (by omega)
  generalize dropP v h = x at *
  simp (maxSteps := 2000000) -implicitDefEqProofs only [c4, RS, RX, Nat.reduceLT, ↓RP0, ↓RP1, ↓RP2, ↓RP3, RV, RW, ↓reduceIte, Nat.reduceAdd, Nat.reduceSub, Nat.reduceMul, Nat.reduceLeDiff, Nat.reduceEqDiff, Int.reduceLT, Int.reduceLE, Int.reduceEq, Int.reduceNe, Int.reduceAdd, Int.reduceSub, Int.reduceMul, Int.reduceNeg, Int.reduceToNat, reduceCtorEq, u8, ↓q15, q15, ↓q16, q16, ↓q17, q17, ↓q17n, q17n, ↓q17x, q17x, ↓q10, q10, ↓q19, q19, ↓q19', q19', w1, m1, iw, gw, kl, kt, evs_len, AV.cells, Nat.mul_one]
  refine ⟨by omega, ?_⟩
  refine loopB (st := fun (i : Nat) => (St 14 102 [deedsV l, u8 m, .junk, .junk, bool false, bool true, evsV s.2, .ptr 0 0, evsV h, vecV v, evsV x, i64 (dropP v (h.take i)).length, i64 i, .junk] [])) (hp := fun i => [.box (knowC s.1)]) (I := fun i => i ≤ h.length) (m := fun i => h.length - i) (0 : Nat) (Nat.zero_le _) ?_ ?_
  · refine weak_cutS 1 (by decide) (by simp) ?_ ?_
    · simp [AObj.low, lows, AV.low, lows_know]
    · simp [WeakL, AV.low, lows, lows_deeds, lows_evs, lows_vdots, lows_know, AV.strip, AV.strip1, dropP, u8]
  · intro i hi'
    by_cases hlt : i < h.length
    · have g1 := evs_get hlt
      have g3 : ((i : Int) < (h.length : Int)) = True := eq_true (by omega)
      have o1 := evs_ok eL i
      have t1 := dt i hlt
      have a1 := da i hlt
      have s1 := hseq _ (getD_mem' hlt)
      have n1 := dn i
      have n2 := dn (i + 1)
      have goOn : ∀ (ov : List (Nat × AV)) (b : Bool) (n : Nat), (dropP v (h.take (i + 1))).length = n → Again 0 (fun (i : Nat) => (St 14 102 [deedsV l, u8 m, .junk, .junk, bool false, bool true, evsV s.2, .ptr 0 0, evsV h, vecV v, evsV x, i64 (dropP v (h.take i)).length, i64 i, .junk] [])) (fun i => [.box (knowC s.1)]) (fun i => i ≤ h.length) (fun i => h.length - i) i
          (St 14 102 [deedsV l, u8 m, .junk, .junk, bool false, bool true, evsV s.2, .ptr 0 0, evsV h, vecV v, evsV x, i64 (n : Int), i64 ((i : Int) + 1), bool b] ov) [.box (knowC s.1)] := by
        intro ov b n hn
        refine ⟨i + 1, by dsimp only; omega, by omega, ?_⟩
        dsimp only
        rw [hn]
        refine weak_cutS 1 (by decide) (by simp) ?_ ?_
        · simp [AObj.low, lows, AV.low, lows_know]
        · simp [WeakL, AV.low, lows, lows_deeds, lows_evs, lows_vdots, lows_know, AV.strip, AV.strip1, u8]
      rw [s1] at t1 a1
      rw [t1] at n2 goOn
      clear t1 s1
      generalize h.getD i ev0d = y at *
      generalize dropP v (h.take i) = z at *
      have l1 := ev_len o1.len
      have k1 := take38 o1
      by_cases hk : y.kind = 2
      · by_cases hq : y.q ≤ seqV v y.r
        · simp (maxSteps := 2000000) -implicitDefEqProofs only [RS, RX, Nat.reduceLT, ↓RP0, ↓RP1, ↓RP2, ↓RP3, RV, RW, ↓reduceIte, Nat.reduceAdd, Nat.reduceSub, Nat.reduceMul, Nat.reduceLeDiff, Nat.reduceEqDiff, Int.reduceLT, Int.reduceLE, Int.reduceEq, Int.reduceNe, Int.reduceAdd, Int.reduceSub, Int.reduceMul, Int.reduceNeg, Int.reduceToNat, reduceCtorEq, ↓ask_vecInt, ask_vecInt, g1, g3, hk, hq, vs, evs_len, l1, k1, ev0, ev1, ev2, ev3, ev4, ev_strip, AV.cells]
          refine ⟨⟨by omega, by omega⟩, goOn _ true z.length (by simp [hk, hq])⟩
        · obtain ⟨b1, b2⟩ := a1 (by simp [hk, hq])
          have g4 := evs_get b1
          rw [b2] at g4
          have g5 : ((x.length : Int) ≤ (z.length : Int)) = False := eq_false (by omega)
          have g6 : ((z.length : Int) < (x.length : Int)) = True := eq_true (by omega)
          have q14 : ∀ K, ask (ev2b sameP) [.agg (evCells y), .agg (evCells y)] K = splitB (sameP y y) K := fun K => ask_ev2b o1 o1
          have q14b : sameP y y = true := by simp [sameP]
          simp (maxSteps := 2000000) -implicitDefEqProofs only [RS, RX, Nat.reduceLT, ↓RP0, ↓RP1, ↓RP2, ↓RP3, RV, RW, ↓reduceIte, Nat.reduceAdd, Nat.reduceSub, Nat.reduceMul, Nat.reduceLeDiff, Nat.reduceEqDiff, Int.reduceLT, Int.reduceLE, Int.reduceEq, Int.reduceNe, Int.reduceAdd, Int.reduceSub, Int.reduceMul, Int.reduceNeg, Int.reduceToNat, reduceCtorEq, ↓ask_vecInt, ask_vecInt, ↓q14, q14, q14b, g1, g3, g4, g5, g6, hk, hq, vs, evs_len, l1, k1, ev0, ev1, ev2, ev3, ev4, ev_strip, AV.cells]
          refine ⟨⟨by omega, by omega⟩, ⟨by omega, by omega⟩, goOn _ false (z.length + 1) (by simp [hk, hq])⟩
      · obtain ⟨b1, b2⟩ := a1 (by simp [hk])
        have g4 := evs_get b1
        rw [b2] at g4
        have g5 : ((x.length : Int) ≤ (z.length : Int)) = False := eq_false (by omega)
        have g6 : ((z.length : Int) < (x.length : Int)) = True := eq_true (by omega)
        have q14 : ∀ K, ask (ev2b sameP) [.agg (evCells y), .agg (evCells y)] K = splitB (sameP y y) K := fun K => ask_ev2b o1 o1
        have q14b : sameP y y = true := by simp [sameP]
        simp (maxSteps := 2000000) -implicitDefEqProofs only [RS, RX, Nat.reduceLT, ↓RP0, ↓RP1, ↓RP2, ↓RP3, RV, RW, ↓reduceIte, Nat.reduceAdd, Nat.reduceSub, Nat.reduceMul, Nat.reduceLeDiff, Nat.reduceEqDiff, Int.reduceLT, Int.reduceLE, Int.reduceEq, Int.reduceNe, Int.reduceAdd, Int.reduceSub, Int.reduceMul, Int.reduceNeg, Int.reduceToNat, reduceCtorEq, ↓q14, q14, q14b, g1, g3, g4, g5, g6, hk, vs, evs_len, l1, k1, ev0, ev1, ev2, ev3, ev4, ev_strip, AV.cells]
        refine ⟨⟨by omega, by omega⟩, ⟨by omega, by omega⟩, goOn _ false (z.length + 1) (by simp [hk])⟩
    · obtain rfl : i = h.length := by omega
      rw [dl]
      simp (maxSteps := 2000000) -implicitDefEqProofs only [RS, RX, Nat.reduceLT, ↓RP0, ↓RP1, ↓RP2, ↓RP3, RV, RW, ↓reduceIte, Nat.reduceAdd, Nat.reduceSub, Nat.reduceMul, Nat.reduceLeDiff, Nat.reduceEqDiff, Int.reduceLT, Int.reduceLE, Int.reduceEq, Int.reduceNe, Int.reduceAdd, Int.reduceSub, Int.reduceMul, Int.reduceNeg, Int.reduceToNat, reduceCtorEq, ↓q17, q17, ↓q17n, q17n, ↓q17x, q17x, ↓q10, q10, ↓q19, q19, ↓q19', q19', evs_len, Int.lt_irrefl]
end Go.AL.Path
