/- A block, compressed. -/
import Derived.Test.YtofokmpdioblkaaGreatDoorG26
import Derived.Test.YtofokmpdioblkaaGreatDoorG30
set_option linter.unusedSimpArgs false
set_option linter.unusedVariables false
set_option maxRecDepth 100000
namespace Go.AL.Path
open Go Go.RowKit Go.Proofs Go.AL
def compTo (h : List Wd) (b : List UInt8) : Nat → List Wd
  | 0 => h
  | t + 1 => roundW (compTo h b t) (kW t) ((schedW b).getD t 0)
theorem compTo_len {h : List Wd} (b : List UInt8) (hl : h.length = 8) : ∀ t, (compTo h b t).length = 8
  | 0 => hl
  | t + 1 => roundW_len _ _ (compTo_len b hl t)
/-- The first i words, each of them and its own of another list. -/
def addP (x h : List Wd) (i : Nat) : List Wd := (List.range 8).map fun j => if j < i then x.getD j 0 + h.getD j 0 else x.getD j 0
def compressW (h : List Wd) (b : List UInt8) : List Wd := addP (compTo h b 64) h 8
theorem addP_len (x h : List Wd) (i : Nat) : (addP x h i).length = 8 := by simp [addP]
theorem addP_zero {x : List Wd} (h : List Wd) (hl : x.length = 8) : addP x h 0 = x := by
  apply List.ext_getElem (by rw [addP_len, hl])
  intro j h1 h2
  simp [addP, List.getD_eq_getElem?_getD, h2]
theorem addP_get (x h : List Wd) {i j : Nat} (hj : j < 8) : ((addP x h i).map w32)[j]? = some (w32 (if j < i then x.getD j 0 + h.getD j 0 else x.getD j 0)) := by
  rw [List.getElem?_map]
  simp [addP, hj]
theorem addP_set (x h : List Wd) {i : Nat} (hi : i < 8) : ((addP x h i).map w32).take i ++ [w32 (x.getD i 0 + h.getD i 0)] ++ ((addP x h i).map w32).drop (i + 1) = (addP x h (i + 1)).map w32 := by
  apply List.ext_getElem?
  intro j
  have hl : ((addP x h i).map w32).length = 8 := by rw [ws_len, addP_len]
  rcases Nat.lt_or_ge j 8 with hj | hj
  · rw [addP_get x h hj]
    rcases Nat.lt_trichotomy j i with h1 | h1 | h1
    · rw [List.append_assoc, List.getElem?_append_left (by rw [List.length_take]; omega), List.getElem?_take, if_pos h1, addP_get x h hj, if_pos h1, if_pos (by omega)]
    · subst h1
      rw [List.append_assoc, List.getElem?_append_right (by rw [List.length_take]; omega), List.length_take, hl, Nat.min_eq_left (by omega), Nat.sub_self, if_pos (by omega)]; rfl
    · rw [List.getElem?_append_right (by simp; omega), List.getElem?_drop]
      have : (List.take i ((addP x h i).map w32) ++ [w32 (x.getD i 0 + h.getD i 0)]).length = i + 1 := by rw [List.length_append, List.length_take, hl, Nat.min_eq_left (by omega)]; rfl
      rw [this, show i + 1 + (j - (i + 1)) = j by omega, addP_get x h hj, if_neg (by omega), if_neg (by omega)]
  · have h1 : (List.take i ((addP x h i).map w32) ++ [w32 (x.getD i 0 + h.getD i 0)] ++ List.drop (i + 1) ((addP x h i).map w32)).length = 8 := by
      rw [List.length_append, List.length_append, List.length_take, List.length_drop, hl]; simp; omega
    rw [List.getElem?_eq_none (by rw [h1]; exact hj), List.getElem?_eq_none (by rw [ws_len, addP_len]; exact hj)]
def kS : PSp := fun args K => ∃ n : Nat, args = [i64 (n : Nat)] ∧ n < 64 ∧ K (w32 (kW n))
theorem told_kS : Told Tryz.prog G 97 kS := by
  rintro args K ⟨n, rfl, h1, h2⟩
  exact ⟨_, p97w n h1, h2⟩
theorem ask_kS {n : Nat} (hn : n < 64) {K} : ask kS [i64 (n : Nat)] K = K (w32 (kW n)) := by
  show (∃ n' : Nat, _ ∧ n' < 64 ∧ K _) = _
  simp only [eq_iff_iff]
  constructor
  · rintro ⟨n', h1, h2, h3⟩
    injection h1 with h1 _; injection h1 with h1; injection h1 with _ h1
    obtain rfl : n = n' := by omega
    exact h3
  · exact fun h => ⟨n, rfl, hn, h⟩
theorem told_sched95 : Told Tryz.prog G 95 (bytesS schedW) := by
  rintro args K ⟨b, rfl, h1, h2⟩
  exact ⟨_, p95w b h1, h2⟩
theorem told_sched65 : Told Tryz.prog G 65 (bytesS schedW) := by
  rintro args K ⟨b, rfl, h1, h2⟩
  exact ⟨_, p65w b h1, h2⟩
theorem sched_get {b : List UInt8} {i : Nat} (h : i < 64) : ((schedW b).map w32)[i]? = some (w32 ((schedW b).getD i 0)) := by
  have hl : (schedW b).length = 64 := schedTo_len b 64
  rw [List.getElem?_map, List.getD_eq_getElem?_getD, List.getElem?_eq_getElem (by omega)]; rfl
theorem ws_get {l : List Wd} {i : Nat} (h : i < l.length) : (l.map w32)[i]? = some (w32 (l.getD i 0)) := by
  rw [List.getElem?_map, List.getD_eq_getElem?_getD, List.getElem?_eq_getElem h]; rfl
theorem ws_take {l : List Wd} {n : Nat} (h : l.length = n) : (l.map w32).take n = l.map w32 := List.take_of_length_le (by rw [ws_len]; omega)
theorem ws_drop {l : List Wd} {n : Nat} (h : l.length = n) : (l.map w32).drop n = [] := List.drop_of_length_le (by rw [ws_len]; omega)
theorem ws_strip (l : List Wd) : (l.map w32).map AV.strip1 = l.map w32 := by simp [AV.strip1]
def c76 : ACode := (.seq (.reg false 3 [⟨(.some 2), none, (.m .box 0), [(.t 0)]⟩, ⟨(.some 3), none, (.m .box 1), [(.t 1)]⟩, ⟨(.some 4), none, (.m (.alloc [(.imm (.int .u32 0)), (.imm (.int .u32 0)), (.imm (.int .u32 0)), (.imm (.int .u32 0)), (.imm (.int .u32 0)), (.imm (.int .u32 0)), (.imm (.int .u32 0)), (.imm (.int .u32 0))] false) 2), []⟩]) (.seq (.reg false 1 [⟨(.some 9), none, (.l (.loadA 8)), [(.t 2)]⟩, ⟨(.some 5), none, (.m (.alloc [(.imm (.int .u32 0)), (.imm (.int .u32 0)), (.imm (.int .u32 0)), (.imm (.int .u32 0)), (.imm (.int .u32 0)), (.imm (.int .u32 0)), (.imm (.int .u32 0)), (.imm (.int .u32 0))] false) 0), []⟩, ⟨none, none, (.e (.store 8)), [(.t 5), (.t 9)]⟩]) (.seq (.seq (.reg false 0 [⟨(.some 10), none, (.l (.loadA 64)), [(.t 3)]⟩, ⟨(.some 11), none, (.call true), [(.c (.fn (.func 95) [] [])), (.t 10)]⟩, ⟨(.some 12), none, (.q .mv), [(.c (.imm (.int .i64 0)))]⟩]) (.block 0 (.loop (.seq (.reg false 0 [⟨(.some 13), none, (.q (.bin .lss 3)), [(.t 12), (.c (.imm (.int .i64 64)))]⟩]) (.seq (.cond (.t 13) .skip (.exit 0)) (.seq (.block 1 (.seq (.reg false 0 [⟨(.some 14), none, (.q .mv), [(.t 12)]⟩, ⟨(.some 15), none, (.q (.idx1 64)), [(.t 11), (.t 12)]⟩, ⟨(.some 6), none, (.q .mv), [(.t 14)]⟩, ⟨(.some 7), none, (.q .mv), [(.t 15)]⟩]) (.reg true 0 [⟨(.some 16), none, (.l (.loadA 8)), [(.t 5)]⟩, ⟨(.some 17), none, (.q .mv), [(.t 6)]⟩, ⟨(.some 18), none, (.call false), [(.c (.fn (.func 97) [] [])), (.t 17)]⟩, ⟨(.some 19), none, (.q .mv), [(.t 7)]⟩, ⟨(.some 20), none, (.call true), [(.c (.fn (.func 96) [] [])), (.t 16), (.t 18), (.t 19)]⟩, ⟨none, none, (.e (.store 8)), [(.t 5), (.t 20)]⟩]))) (.reg false 0 [⟨(.some 21), none, (.q (.bin .add 3)), [(.t 12), (.c (.imm (.int .i64 1)))]⟩, ⟨(.some 12), none, (.q .mv), [(.t 21)]⟩]))))))) (.seq (.seq (.reg false 0 [⟨(.some 22), none, (.q .mv), [(.c (.imm (.int .i64 0)))]⟩]) (.block 2 (.loop (.seq (.reg false 0 [⟨(.some 23), none, (.q (.bin .lss 3)), [(.t 22), (.c (.imm (.int .i64 8)))]⟩]) (.seq (.cond (.t 23) .skip (.exit 2)) (.seq (.block 3 (.seq (.reg false 0 [⟨(.some 24), none, (.q .mv), [(.t 22)]⟩, ⟨(.some 8), none, (.q .mv), [(.t 24)]⟩]) (.reg true 0 [⟨(.some 25), none, (.q .mv), [(.t 8)]⟩, ⟨(.some 26), none, (.q (.iaddrA 8 1)), [(.t 5), (.t 25)]⟩, ⟨(.some 27), none, (.l .load1), [(.t 26)]⟩, ⟨(.some 28), none, (.q .mv), [(.t 8)]⟩, ⟨(.some 29), none, (.q (.iaddrA 8 1)), [(.t 2), (.t 28)]⟩, ⟨(.some 30), none, (.l .load1), [(.t 29)]⟩, ⟨(.some 31), none, (.q (.bin .add 84)), [(.t 27), (.t 30)]⟩, ⟨(.some 32), none, (.q (.iaddrA 8 1)), [(.t 5), (.t 25)]⟩, ⟨none, none, (.e (.store 1)), [(.t 32), (.t 31)]⟩]))) (.reg false 0 [⟨(.some 33), none, (.q (.bin .add 3)), [(.t 22), (.c (.imm (.int .i64 1)))]⟩, ⟨(.some 22), none, (.q .mv), [(.t 33)]⟩]))))))) (.seq (.reg false 0 [⟨(.some 34), none, (.l (.loadA 8)), [(.t 5)]⟩, ⟨none, none, (.e (.store 8)), [(.t 4), (.t 34)]⟩]) .ret)))))
theorem fn76 : IsFnC Tryz.prog 76 [] c76 [(4, some (85, .loadA 8))] 35 := ⟨⟨_, _, Tryz.func76, rfl, by decide +kernel, by kernel_rfl, rfl, rfl⟩, by intro r hr; simp only [List.mem_cons, List.not_mem_nil, or_false] at hr; first | (subst hr; kernel_rfl) | (rcases hr with rfl | rfl <;> kernel_rfl)⟩
set_option maxHeartbeats 8000000 in
theorem p76w (h : List Wd) (b : List UInt8) (hh : h.length = 8) (hb : b.length = 64) : Pure Tryz.prog G 76 [wsV h, .agg (b.map byteAV)] (wsV (compressW h b)) := by
  refine pure_of_codeC (S := sp [(95, bytesS schedW), (97, kS), (96, roundS)] []) hm hG (sp_holds (.cons told_sched95 (.cons told_kS (.cons told_round96 .nil))) .nil) fn76
    (St 23 35 [wsV h, .agg (b.map byteAV), .junk, .junk, .junk, .junk, .junk, .junk, .junk, .junk, .junk, .junk, .junk, .junk, .junk, .junk, .junk, .junk, .junk, .junk, .junk, .junk, .junk] []) (by kernel_rfl) (by simp [lows, AV.low, lows_bytes, lows_ws]) (by simp [AV.low, lows_ws]) ?_
  have n84 : (IntKind.u32 ≠ .i64) := by decide
  have n64 : ((64 : Nat) : Int) = 64 := rfl
  have n8 : ((8 : Nat) : Int) = 8 := rfl
  have bl := bytes_len b
  have bstrip : (b.map byteAV).map AV.strip1 = b.map byteAV := by simp [byteAV, AV.strip1]
  have btake : (b.map byteAV).take 64 = b.map byteAV := List.take_of_length_le (by rw [bl, hb]; exact Nat.le_refl _)
  have q95 : ∀ K, ask (bytesS schedW) [.agg (b.map byteAV)] K = K (wsV (schedW b)) := fun K => ask_bytesS hb
  have hstr := ws_strip h
  have htk := ws_take hh
  have hdr := ws_drop hh
  simp (maxSteps := 2000000) -implicitDefEqProofs only [c76, RS, RX, Nat.reduceLT, ↓RP0, ↓RP1, ↓RP2, ↓RP3, RV, RW, ↓reduceIte, Nat.reduceAdd, Nat.reduceSub, Nat.reduceMul, Nat.reduceLeDiff, Nat.reduceEqDiff, Int.reduceLT, Int.reduceLE, Int.reduceEq, Int.reduceNe, Int.reduceAdd, Int.reduceSub, Int.reduceMul, Int.reduceNeg, Int.reduceToNat, reduceCtorEq, ↓q95, q95, bl, hb, bstrip, btake, ws_len, hh, hstr, htk, hdr]
  have lz : ∀ n, lows n [.imm (.int .u32 0), .imm (.int .u32 0), .imm (.int .u32 0), .imm (.int .u32 0), .imm (.int .u32 0), .imm (.int .u32 0), .imm (.int .u32 0), .imm (.int .u32 0)] := fun n => by simp [lows, AV.low]
  refine loopB (st := fun (i : Nat) => (St 23 35 [wsV h, .agg (b.map byteAV), .ptr 0 0, .ptr 1 0, .ptr 2 0, .ptr 3 0, .junk, .junk, .junk, .junk, .junk, wsV (schedW b), i64 i, .junk, .junk, .junk, .junk, .junk, .junk, .junk, .junk, .junk, .junk] [])) (hp := fun i => [.box (h.map w32), .box (b.map byteAV), .box [.imm (.int .u32 0), .imm (.int .u32 0), .imm (.int .u32 0), .imm (.int .u32 0), .imm (.int .u32 0), .imm (.int .u32 0), .imm (.int .u32 0), .imm (.int .u32 0)], .box ((compTo h b i).map w32)]) (I := fun i => i ≤ 64) (m := fun i => 64 - i) (0 : Nat) (Nat.zero_le _) ?_ ?_
  · refine weak_cutS 4 (by decide) (by simp [compTo]) ?_ ?_
    · simp [AObj.low, lows_bytes, lows_ws, lows, AV.low]
    · simp [WeakL, AV.low, lows, lows_bytes, lows_ws]
  · intro i hi
    have cl := compTo_len b hh i
    by_cases hlt : i < 64
    · have e3 : ((i : Int) < 64) = True := eq_true (by omega)
      have ib : In64 ((i : Int) + 1) := ⟨by omega, by omega⟩
      have gs := sched_get (b := b) hlt
      have hs : compTo h b (i + 1) = roundW (compTo h b i) (kW i) ((schedW b).getD i 0) := rfl
      have rl := roundW_len (kW i) ((schedW b).getD i 0) cl
      have q97 : ∀ K, ask kS [i64 (i : Nat)] K = K (w32 (kW i)) := fun K => ask_kS hlt
      generalize (schedW b).getD i 0 = w at *
      have q96 : ∀ K, ask roundS [wsV (compTo h b i), w32 (kW i), w32 w] K = K (wsV (roundW (compTo h b i) (kW i) w)) := fun K => ask_roundS cl
      generalize kW i = k at *
      have ctk := ws_take cl
      have cdr := ws_drop cl
      have cst := ws_strip (compTo h b i)
      have rst := ws_strip (roundW (compTo h b i) k w)
      generalize roundW (compTo h b i) k w = R at *
      generalize compTo h b i = C at *
      simp (maxSteps := 2000000) -implicitDefEqProofs only [RS, RX, Nat.reduceLT, ↓RP0, ↓RP1, ↓RP2, ↓RP3, RV, RW, ↓reduceIte, Nat.reduceAdd, Nat.reduceSub, Nat.reduceMul, Nat.reduceLeDiff, Nat.reduceEqDiff, Int.reduceLT, Int.reduceLE, Int.reduceEq, Int.reduceNe, Int.reduceAdd, Int.reduceSub, Int.reduceMul, Int.reduceNeg, Int.reduceToNat, reduceCtorEq, ↓q97, q97, ↓q96, q96, gs, e3, n64, ws_len, cl, rl, ctk, cdr, cst, rst]
      refine ⟨ib, i + 1, by dsimp only; omega, by omega, ?_⟩
      dsimp only
      rw [hs]
      refine weak_cutS 4 (by decide) (by simp) ?_ ?_
      · simp [AObj.low, lows_bytes, lows_ws, lows, AV.low]
      · simp [WeakL, AV.low, lows, lows_bytes, lows_ws]
    · obtain rfl : i = 64 := by omega
      simp (maxSteps := 2000000) -implicitDefEqProofs only [RS, RX, Nat.reduceLT, ↓RP0, ↓RP1, ↓RP2, ↓RP3, RV, RW, ↓reduceIte, Nat.reduceAdd, Nat.reduceSub, Nat.reduceMul, Nat.reduceLeDiff, Nat.reduceEqDiff, Int.reduceLT, Int.reduceLE, Int.reduceEq, Int.reduceNe, Int.reduceAdd, Int.reduceSub, Int.reduceMul, Int.reduceNeg, Int.reduceToNat, reduceCtorEq, n64, Int.lt_irrefl]
      have hx : ∃ x, compTo h b 64 = x := ⟨_, rfl⟩
      have hres : compressW h b = addP (compTo h b 64) h 8 := rfl
      rw [hres]
      generalize compTo h b 64 = x at *
      have a0 := addP_zero h cl
      refine loopB (st := fun (i : Nat) => (St 23 35 [wsV h, .agg (b.map byteAV), .ptr 0 0, .ptr 1 0, .ptr 2 0, .ptr 3 0, .junk, .junk, .junk, .junk, .junk, .junk, .junk, .junk, .junk, .junk, .junk, .junk, .junk, .junk, .junk, .junk, i64 i] [])) (hp := fun i => [.box (h.map w32), .box (b.map byteAV), .box [.imm (.int .u32 0), .imm (.int .u32 0), .imm (.int .u32 0), .imm (.int .u32 0), .imm (.int .u32 0), .imm (.int .u32 0), .imm (.int .u32 0), .imm (.int .u32 0)], .box ((addP x h i).map w32)]) (I := fun i => i ≤ 8) (m := fun i => 8 - i) (0 : Nat) (Nat.zero_le _) ?_ ?_
      · refine weak_cutS 4 (by decide) (by simp [a0]) ?_ ?_
        · simp [AObj.low, lows_bytes, lows_ws, lows, AV.low]
        · simp [WeakL, AV.low, lows, lows_bytes, lows_ws]
      · intro i hi
        have al := addP_len x h i
        by_cases hlt : i < 8
        · have e3 : ((i : Int) < 8) = True := eq_true (by omega)
          have ib : In64 ((i : Int) + 1) := ⟨by omega, by omega⟩
          have ga := addP_get x h (i := i) hlt
          rw [if_neg (Nat.lt_irrefl i)] at ga
          have gh := ws_get (l := h) (i := i) (by omega)
          have hset := addP_set x h hlt
          generalize x.getD i 0 = u at *
          generalize h.getD i 0 = v at *
          generalize addP x h i = A0 at *
          simp (maxSteps := 2000000) -implicitDefEqProofs only [RS, RX, Nat.reduceLT, ↓RP0, ↓RP1, ↓RP2, ↓RP3, RV, RW, ↓reduceIte, Nat.reduceAdd, Nat.reduceSub, Nat.reduceMul, Nat.reduceLeDiff, Nat.reduceEqDiff, Int.reduceLT, Int.reduceLE, Int.reduceEq, Int.reduceNe, Int.reduceAdd, Int.reduceSub, Int.reduceMul, Int.reduceNeg, Int.reduceToNat, reduceCtorEq, ga, gh, e3, n8, ws_len, al, hh, binB_addk n84, r_add, hset, Nat.mul_one]
          refine ⟨by omega, ib, i + 1, by dsimp only; omega, by omega, ?_⟩
          dsimp only
          refine weak_cutS 4 (by decide) (by simp) ?_ ?_
          · simp [AObj.low, lows_bytes, lows_ws, lows, AV.low]
          · simp [WeakL, AV.low, lows, lows_bytes, lows_ws]
        · obtain rfl : i = 8 := by omega
          have ast := ws_strip (addP x h 8)
          have atk := ws_take al
          simp (maxSteps := 2000000) -implicitDefEqProofs only [RS, RX, Nat.reduceLT, ↓RP0, ↓RP1, ↓RP2, ↓RP3, RV, RW, ↓reduceIte, Nat.reduceAdd, Nat.reduceSub, Nat.reduceMul, Nat.reduceLeDiff, Nat.reduceEqDiff, Int.reduceLT, Int.reduceLE, Int.reduceEq, Int.reduceNe, Int.reduceAdd, Int.reduceSub, Int.reduceMul, Int.reduceNeg, Int.reduceToNat, reduceCtorEq, n8, Int.lt_irrefl, ws_len, al, atk, ast]
def c52 : ACode := (.seq (.reg false 3 [⟨(.some 2), none, (.m .box 0), [(.t 0)]⟩, ⟨(.some 3), none, (.m .box 1), [(.t 1)]⟩, ⟨(.some 4), none, (.m (.alloc [(.imm (.int .u32 0)), (.imm (.int .u32 0)), (.imm (.int .u32 0)), (.imm (.int .u32 0)), (.imm (.int .u32 0)), (.imm (.int .u32 0)), (.imm (.int .u32 0)), (.imm (.int .u32 0))] false) 2), []⟩]) (.seq (.reg false 1 [⟨(.some 10), none, (.l (.loadA 64)), [(.t 3)]⟩, ⟨(.some 11), none, (.call true), [(.c (.fn (.func 65) [] [])), (.t 10)]⟩, ⟨(.some 5), none, (.m (.alloc [(.imm (.int .u32 0)), (.imm (.int .u32 0)), (.imm (.int .u32 0)), (.imm (.int .u32 0)), (.imm (.int .u32 0)), (.imm (.int .u32 0)), (.imm (.int .u32 0)), (.imm (.int .u32 0)), (.imm (.int .u32 0)), (.imm (.int .u32 0)), (.imm (.int .u32 0)), (.imm (.int .u32 0)), (.imm (.int .u32 0)), (.imm (.int .u32 0)), (.imm (.int .u32 0)), (.imm (.int .u32 0)), (.imm (.int .u32 0)), (.imm (.int .u32 0)), (.imm (.int .u32 0)), (.imm (.int .u32 0)), (.imm (.int .u32 0)), (.imm (.int .u32 0)), (.imm (.int .u32 0)), (.imm (.int .u32 0)), (.imm (.int .u32 0)), (.imm (.int .u32 0)), (.imm (.int .u32 0)), (.imm (.int .u32 0)), (.imm (.int .u32 0)), (.imm (.int .u32 0)), (.imm (.int .u32 0)), (.imm (.int .u32 0)), (.imm (.int .u32 0)), (.imm (.int .u32 0)), (.imm (.int .u32 0)), (.imm (.int .u32 0)), (.imm (.int .u32 0)), (.imm (.int .u32 0)), (.imm (.int .u32 0)), (.imm (.int .u32 0)), (.imm (.int .u32 0)), (.imm (.int .u32 0)), (.imm (.int .u32 0)), (.imm (.int .u32 0)), (.imm (.int .u32 0)), (.imm (.int .u32 0)), (.imm (.int .u32 0)), (.imm (.int .u32 0)), (.imm (.int .u32 0)), (.imm (.int .u32 0)), (.imm (.int .u32 0)), (.imm (.int .u32 0)), (.imm (.int .u32 0)), (.imm (.int .u32 0)), (.imm (.int .u32 0)), (.imm (.int .u32 0)), (.imm (.int .u32 0)), (.imm (.int .u32 0)), (.imm (.int .u32 0)), (.imm (.int .u32 0)), (.imm (.int .u32 0)), (.imm (.int .u32 0)), (.imm (.int .u32 0)), (.imm (.int .u32 0))] false) 0), []⟩, ⟨none, none, (.e (.store 64)), [(.t 5), (.t 11)]⟩]) (.seq (.reg false 1 [⟨(.some 12), none, (.call true), [(.c (.fn (.func 66) [] []))]⟩, ⟨(.some 6), none, (.m (.alloc [(.imm (.int .u32 0)), (.imm (.int .u32 0)), (.imm (.int .u32 0)), (.imm (.int .u32 0)), (.imm (.int .u32 0)), (.imm (.int .u32 0)), (.imm (.int .u32 0)), (.imm (.int .u32 0)), (.imm (.int .u32 0)), (.imm (.int .u32 0)), (.imm (.int .u32 0)), (.imm (.int .u32 0)), (.imm (.int .u32 0)), (.imm (.int .u32 0)), (.imm (.int .u32 0)), (.imm (.int .u32 0)), (.imm (.int .u32 0)), (.imm (.int .u32 0)), (.imm (.int .u32 0)), (.imm (.int .u32 0)), (.imm (.int .u32 0)), (.imm (.int .u32 0)), (.imm (.int .u32 0)), (.imm (.int .u32 0)), (.imm (.int .u32 0)), (.imm (.int .u32 0)), (.imm (.int .u32 0)), (.imm (.int .u32 0)), (.imm (.int .u32 0)), (.imm (.int .u32 0)), (.imm (.int .u32 0)), (.imm (.int .u32 0)), (.imm (.int .u32 0)), (.imm (.int .u32 0)), (.imm (.int .u32 0)), (.imm (.int .u32 0)), (.imm (.int .u32 0)), (.imm (.int .u32 0)), (.imm (.int .u32 0)), (.imm (.int .u32 0)), (.imm (.int .u32 0)), (.imm (.int .u32 0)), (.imm (.int .u32 0)), (.imm (.int .u32 0)), (.imm (.int .u32 0)), (.imm (.int .u32 0)), (.imm (.int .u32 0)), (.imm (.int .u32 0)), (.imm (.int .u32 0)), (.imm (.int .u32 0)), (.imm (.int .u32 0)), (.imm (.int .u32 0)), (.imm (.int .u32 0)), (.imm (.int .u32 0)), (.imm (.int .u32 0)), (.imm (.int .u32 0)), (.imm (.int .u32 0)), (.imm (.int .u32 0)), (.imm (.int .u32 0)), (.imm (.int .u32 0)), (.imm (.int .u32 0)), (.imm (.int .u32 0)), (.imm (.int .u32 0)), (.imm (.int .u32 0))] false) 0), []⟩, ⟨none, none, (.e (.store 64)), [(.t 6), (.t 12)]⟩]) (.seq (.reg false 1 [⟨(.some 13), none, (.l (.loadA 8)), [(.t 2)]⟩, ⟨(.some 7), none, (.m (.alloc [(.imm (.int .u32 0)), (.imm (.int .u32 0)), (.imm (.int .u32 0)), (.imm (.int .u32 0)), (.imm (.int .u32 0)), (.imm (.int .u32 0)), (.imm (.int .u32 0)), (.imm (.int .u32 0))] false) 0), []⟩, ⟨none, none, (.e (.store 8)), [(.t 7), (.t 13)]⟩]) (.seq (.seq (.reg false 0 [⟨(.some 8), none, (.q .mv), [(.c (.imm (.int .i64 0)))]⟩]) (.block 0 (.loop (.seq (.seq (.reg false 0 [⟨(.some 14), none, (.q .mv), [(.t 8)]⟩, ⟨(.some 15), none, (.q (.bin .lss 3)), [(.t 14), (.c (.imm (.int .i64 64)))]⟩]) (.cond (.t 15) .skip (.exit 0))) (.seq (.block 1 (.reg true 0 [⟨(.some 18), none, (.l (.loadA 8)), [(.t 7)]⟩, ⟨(.some 19), none, (.q .mv), [(.t 8)]⟩, ⟨(.some 20), none, (.q (.iaddrA 64 1)), [(.t 6), (.t 19)]⟩, ⟨(.some 21), none, (.l .load1), [(.t 20)]⟩, ⟨(.some 22), none, (.q .mv), [(.t 8)]⟩, ⟨(.some 23), none, (.q (.iaddrA 64 1)), [(.t 5), (.t 22)]⟩, ⟨(.some 24), none, (.l .load1), [(.t 23)]⟩, ⟨(.some 25), none, (.call true), [(.c (.fn (.func 67) [] [])), (.t 18), (.t 21), (.t 24)]⟩, ⟨none, none, (.e (.store 8)), [(.t 7), (.t 25)]⟩])) (.reg false 0 [⟨(.some 16), none, (.q .mv), [(.t 8)]⟩, ⟨(.some 17), none, (.q (.bin .add 3)), [(.t 16), (.c (.imm (.int .i64 1)))]⟩, ⟨(.some 8), none, (.q .mv), [(.t 17)]⟩])))))) (.seq (.seq (.reg false 0 [⟨(.some 9), none, (.q .mv), [(.c (.imm (.int .i64 0)))]⟩]) (.block 2 (.loop (.seq (.seq (.reg false 0 [⟨(.some 26), none, (.q .mv), [(.t 9)]⟩, ⟨(.some 27), none, (.q (.bin .lss 3)), [(.t 26), (.c (.imm (.int .i64 8)))]⟩]) (.cond (.t 27) .skip (.exit 2))) (.seq (.block 3 (.reg true 0 [⟨(.some 30), none, (.q .mv), [(.t 9)]⟩, ⟨(.some 31), none, (.q .mv), [(.t 9)]⟩, ⟨(.some 32), none, (.q (.iaddrA 8 1)), [(.t 7), (.t 31)]⟩, ⟨(.some 33), none, (.l .load1), [(.t 32)]⟩, ⟨(.some 34), none, (.q .mv), [(.t 9)]⟩, ⟨(.some 35), none, (.q (.iaddrA 8 1)), [(.t 2), (.t 34)]⟩, ⟨(.some 36), none, (.l .load1), [(.t 35)]⟩, ⟨(.some 37), none, (.q (.bin .add 84)), [(.t 33), (.t 36)]⟩, ⟨(.some 38), none, (.q (.iaddrA 8 1)), [(.t 7), (.t 30)]⟩, ⟨none, none, (.e (.store 1)), [(.t 38), (.t 37)]⟩])) (.reg false 0 [⟨(.some 28), none, (.q .mv), [(.t 9)]⟩, ⟨(.some 29), none, (.q (.bin .add 3)), [(.t 28), (.c (.imm (.int .i64 1)))]⟩, ⟨(.some 9), none, (.q .mv), [(.t 29)]⟩])))))) (.seq (.reg false 0 [⟨(.some 39), none, (.l (.loadA 8)), [(.t 7)]⟩, ⟨none, none, (.e (.store 8)), [(.t 4), (.t 39)]⟩]) .ret)))))))
theorem fn52 : IsFnC Tryz.prog 52 [] c52 [(4, some (85, .loadA 8))] 40 := ⟨⟨_, _, Tryz.func52, rfl, by decide +kernel, by kernel_rfl, rfl, rfl⟩, by intro r hr; simp only [List.mem_cons, List.not_mem_nil, or_false] at hr; first | (subst hr; kernel_rfl) | (rcases hr with rfl | rfl <;> kernel_rfl)⟩
set_option maxHeartbeats 8000000 in
theorem p52w (h : List Wd) (b : List UInt8) (hh : h.length = 8) (hb : b.length = 64) : Pure Tryz.prog G 52 [wsV h, .agg (b.map byteAV)] (wsV (compressW h b)) := by
  refine pure_of_codeC (S := sp [(65, bytesS schedW), (66, none0 (wsV kL)), (67, roundS)] []) hm hG (sp_holds (.cons told_sched65 (.cons (told_none0 p66w) (.cons told_round67 .nil))) .nil) fn52
    (St 10 40 [wsV h, .agg (b.map byteAV), .junk, .junk, .junk, .junk, .junk, .junk, .junk, .junk] []) (by kernel_rfl) (by simp [lows, AV.low, lows_bytes, lows_ws]) (by simp [AV.low, lows_ws]) ?_
  have n84 : (IntKind.u32 ≠ .i64) := by decide
  have n64 : ((64 : Nat) : Int) = 64 := rfl
  have n8 : ((8 : Nat) : Int) = 8 := rfl
  have bl := bytes_len b
  have bstrip : (b.map byteAV).map AV.strip1 = b.map byteAV := by simp [byteAV, AV.strip1]
  have btake : (b.map byteAV).take 64 = b.map byteAV := List.take_of_length_le (by rw [bl, hb]; exact Nat.le_refl _)
  have q95 : ∀ K, ask (bytesS schedW) [.agg (b.map byteAV)] K = K (wsV (schedW b)) := fun K => ask_bytesS hb
  have hstr := ws_strip h
  have htk := ws_take hh
  have hdr := ws_drop hh
  have sl : (schedW b).length = 64 := schedTo_len b 64
  have sst := ws_strip (schedW b)
  have stk := ws_take sl
  have sdr := ws_drop sl
  have kst := kL_strip
  have ktk := kL_take
  have kln := kL_len
  simp (maxSteps := 2000000) -implicitDefEqProofs only [c52, RS, RX, Nat.reduceLT, ↓RP0, ↓RP1, ↓RP2, ↓RP3, RV, RW, ↓reduceIte, Nat.reduceAdd, Nat.reduceSub, Nat.reduceMul, Nat.reduceLeDiff, Nat.reduceEqDiff, Int.reduceLT, Int.reduceLE, Int.reduceEq, Int.reduceNe, Int.reduceAdd, Int.reduceSub, Int.reduceMul, Int.reduceNeg, Int.reduceToNat, reduceCtorEq, ↓ask_none0, ask_none0, sl, sst, stk, sdr, kst, ktk, kln, ↓q95, q95, bl, hb, bstrip, btake, ws_len, hh, hstr, htk, hdr]
  have lz : ∀ n, lows n [.imm (.int .u32 0), .imm (.int .u32 0), .imm (.int .u32 0), .imm (.int .u32 0), .imm (.int .u32 0), .imm (.int .u32 0), .imm (.int .u32 0), .imm (.int .u32 0)] := fun n => by simp [lows, AV.low]
  refine loopB (st := fun (i : Nat) => (St 10 40 [wsV h, .agg (b.map byteAV), .ptr 0 0, .ptr 1 0, .ptr 2 0, .ptr 3 0, .ptr 4 0, .ptr 5 0, i64 i, .junk] [])) (hp := fun i => [.box (h.map w32), .box (b.map byteAV), .box [.imm (.int .u32 0), .imm (.int .u32 0), .imm (.int .u32 0), .imm (.int .u32 0), .imm (.int .u32 0), .imm (.int .u32 0), .imm (.int .u32 0), .imm (.int .u32 0)], .box ((schedW b).map w32), .box (kL.map w32), .box ((compTo h b i).map w32)]) (I := fun i => i ≤ 64) (m := fun i => 64 - i) (0 : Nat) (Nat.zero_le _) ?_ ?_
  · refine weak_cutS 6 (by decide) (by simp [compTo]) ?_ ?_
    · simp [AObj.low, lows_bytes, lows_ws, lows, AV.low]
    · simp [WeakL, AV.low, lows, lows_bytes, lows_ws]
  · intro i hi
    have cl := compTo_len b hh i
    by_cases hlt : i < 64
    · have e3 : ((i : Int) < 64) = True := eq_true (by omega)
      have ib : In64 ((i : Int) + 1) := ⟨by omega, by omega⟩
      have gs := sched_get (b := b) hlt
      have hs : compTo h b (i + 1) = roundW (compTo h b i) (kW i) ((schedW b).getD i 0) := rfl
      have rl := roundW_len (kW i) ((schedW b).getD i 0) cl
      have q97 := kL_get hlt
      generalize (schedW b).getD i 0 = w at *
      have q96 : ∀ K, ask roundS [wsV (compTo h b i), w32 (kW i), w32 w] K = K (wsV (roundW (compTo h b i) (kW i) w)) := fun K => ask_roundS cl
      generalize kW i = k at *
      have ctk := ws_take cl
      have cdr := ws_drop cl
      have cst := ws_strip (compTo h b i)
      have rst := ws_strip (roundW (compTo h b i) k w)
      generalize roundW (compTo h b i) k w = R at *
      generalize compTo h b i = C at *
      simp (maxSteps := 2000000) -implicitDefEqProofs only [RS, RX, Nat.reduceLT, ↓RP0, ↓RP1, ↓RP2, ↓RP3, RV, RW, ↓reduceIte, Nat.reduceAdd, Nat.reduceSub, Nat.reduceMul, Nat.reduceLeDiff, Nat.reduceEqDiff, Int.reduceLT, Int.reduceLE, Int.reduceEq, Int.reduceNe, Int.reduceAdd, Int.reduceSub, Int.reduceMul, Int.reduceNeg, Int.reduceToNat, reduceCtorEq, q97, ↓q96, q96, gs, e3, n64, Nat.mul_one, sl, kln, ws_len, cl, rl, ctk, cdr, cst, rst]
      refine ⟨ib, i + 1, by dsimp only; omega, by omega, ?_⟩
      dsimp only
      rw [hs]
      refine weak_cutS 6 (by decide) (by simp) ?_ ?_
      · simp [AObj.low, lows_bytes, lows_ws, lows, AV.low]
      · simp [WeakL, AV.low, lows, lows_bytes, lows_ws]
    · obtain rfl : i = 64 := by omega
      simp (maxSteps := 2000000) -implicitDefEqProofs only [RS, RX, Nat.reduceLT, ↓RP0, ↓RP1, ↓RP2, ↓RP3, RV, RW, ↓reduceIte, Nat.reduceAdd, Nat.reduceSub, Nat.reduceMul, Nat.reduceLeDiff, Nat.reduceEqDiff, Int.reduceLT, Int.reduceLE, Int.reduceEq, Int.reduceNe, Int.reduceAdd, Int.reduceSub, Int.reduceMul, Int.reduceNeg, Int.reduceToNat, reduceCtorEq, n64, Int.lt_irrefl]
      have hx : ∃ x, compTo h b 64 = x := ⟨_, rfl⟩
      have hres : compressW h b = addP (compTo h b 64) h 8 := rfl
      rw [hres]
      generalize compTo h b 64 = x at *
      have a0 := addP_zero h cl
      refine loopB (st := fun (i : Nat) => (St 10 40 [wsV h, .agg (b.map byteAV), .ptr 0 0, .ptr 1 0, .ptr 2 0, .ptr 3 0, .ptr 4 0, .ptr 5 0, .junk, i64 i] [])) (hp := fun i => [.box (h.map w32), .box (b.map byteAV), .box [.imm (.int .u32 0), .imm (.int .u32 0), .imm (.int .u32 0), .imm (.int .u32 0), .imm (.int .u32 0), .imm (.int .u32 0), .imm (.int .u32 0), .imm (.int .u32 0)], .box ((schedW b).map w32), .box (kL.map w32), .box ((addP x h i).map w32)]) (I := fun i => i ≤ 8) (m := fun i => 8 - i) (0 : Nat) (Nat.zero_le _) ?_ ?_
      · refine weak_cutS 6 (by decide) (by simp [a0]) ?_ ?_
        · simp [AObj.low, lows_bytes, lows_ws, lows, AV.low]
        · simp [WeakL, AV.low, lows, lows_bytes, lows_ws]
      · intro i hi
        have al := addP_len x h i
        by_cases hlt : i < 8
        · have e3 : ((i : Int) < 8) = True := eq_true (by omega)
          have ib : In64 ((i : Int) + 1) := ⟨by omega, by omega⟩
          have ga := addP_get x h (i := i) hlt
          rw [if_neg (Nat.lt_irrefl i)] at ga
          have gh := ws_get (l := h) (i := i) (by omega)
          have hset := addP_set x h hlt
          generalize x.getD i 0 = u at *
          generalize h.getD i 0 = v at *
          generalize addP x h i = A0 at *
          simp (maxSteps := 2000000) -implicitDefEqProofs only [RS, RX, Nat.reduceLT, ↓RP0, ↓RP1, ↓RP2, ↓RP3, RV, RW, ↓reduceIte, Nat.reduceAdd, Nat.reduceSub, Nat.reduceMul, Nat.reduceLeDiff, Nat.reduceEqDiff, Int.reduceLT, Int.reduceLE, Int.reduceEq, Int.reduceNe, Int.reduceAdd, Int.reduceSub, Int.reduceMul, Int.reduceNeg, Int.reduceToNat, reduceCtorEq, ga, gh, e3, n8, ws_len, al, hh, binB_addk n84, r_add, hset, Nat.mul_one]
          refine ⟨by omega, ib, i + 1, by dsimp only; omega, by omega, ?_⟩
          dsimp only
          refine weak_cutS 6 (by decide) (by simp) ?_ ?_
          · simp [AObj.low, lows_bytes, lows_ws, lows, AV.low]
          · simp [WeakL, AV.low, lows, lows_bytes, lows_ws]
        · obtain rfl : i = 8 := by omega
          have ast := ws_strip (addP x h 8)
          have atk := ws_take al
          simp (maxSteps := 2000000) -implicitDefEqProofs only [RS, RX, Nat.reduceLT, ↓RP0, ↓RP1, ↓RP2, ↓RP3, RV, RW, ↓reduceIte, Nat.reduceAdd, Nat.reduceSub, Nat.reduceMul, Nat.reduceLeDiff, Nat.reduceEqDiff, Int.reduceLT, Int.reduceLE, Int.reduceEq, Int.reduceNe, Int.reduceAdd, Int.reduceSub, Int.reduceMul, Int.reduceNeg, Int.reduceToNat, reduceCtorEq, n8, Int.lt_irrefl, ws_len, al, atk, ast]
end Go.AL.Path

/- The document's padding. -/
set_option linter.unusedSimpArgs false
set_option linter.unusedVariables false
set_option maxRecDepth 100000
namespace Go.AL.Path
open Go Go.RowKit Go.Proofs Go.AL
def zeros (n : Nat) : Nat := (119 - n % 64) % 64
def padD (n i : Nat) : UInt8 := UInt8.ofNat (8 * n / 256 ^ (7 - i) % 256)
def padZ (n : Nat) : List UInt8 := 128 :: List.replicate (zeros n) 0
def padTo (n i : Nat) : List UInt8 := padZ n ++ (List.range i).map (padD n)
def padB (n : Nat) : List UInt8 := padTo n 8
theorem padTo_len (n i : Nat) : (padTo n i).length = zeros n + 1 + i := by simp [padTo, padZ]; omega
theorem padTo_succ (n i : Nat) : padTo n (i + 1) = padTo n i ++ [padD n i] := by unfold padTo; rw [List.range_succ]; simp
theorem zeros_lt (n : Nat) : zeros n < 64 := Nat.mod_lt _ (by decide)
theorem padB_len (n : Nat) : (padB n).length = zeros n + 9 := padTo_len n 8
theorem pad_whole (n : Nat) : (n + (padB n).length) % 64 = 0 := by rw [padB_len]; unfold zeros; omega
theorem td_nat (x d : Nat) : (x : Int).tdiv (d : Int) = ((x / d : Nat) : Int) := by rw [Int.tdiv_eq_ediv_of_nonneg (by omega)]; rfl
theorem tm_nat (x d : Nat) : (x : Int).tmod (d : Int) = ((x % d : Nat) : Int) := by rw [Int.tmod_eq_emod_of_nonneg (by omega)]; rfl
theorem wrap_byte {x : Nat} (h : x < 256) : IntKind.u8.wrap (x : Int) = ((UInt8.ofNat x).toNat : Int) := by
  simp [IntKind.wrap, IntKind.bits, IntKind.signed]
theorem one8 (x : Int) : ∀ y : AV, y ∈ [AV.imm (.int .u8 x)] → y.isVal = true ∧ y.cells.length = 1 := fun y hy => by rw [List.mem_singleton.1 hy]; exact ⟨rfl, rfl⟩
def c51 : ACode := (.seq (.reg false 1 [⟨(.some 2), none, (.m (.nilT 5 1) 0), []⟩]) (.seq (.seq (.reg false 0 [⟨(.some 8), none, (.q .mv), [(.t 0)]⟩, ⟨(.some 9), none, (.q (.bin .lss 2)), [(.t 8), (.c (.imm (.int .i64 0)))]⟩, ⟨(.some 10), none, (.q .mv), [(.t 9)]⟩, ⟨(.some 11), (.some (10, false)), (.q .mv), [(.t 0)]⟩, ⟨(.some 12), (.some (10, false)), (.q (.bin .gtr 2)), [(.t 11), (.c (.imm (.int .i64 1099511627776)))]⟩, ⟨(.some 13), none, (.q .pick), [(.t 10), (.c (.imm (.bool true))), (.t 12)]⟩]) (.cond (.t 13) (.seq (.reg false 1 [⟨(.some 2), none, (.m (.nilT 5 1) 0), []⟩]) .ret) .skip)) (.seq (.reg false 1 [⟨(.some 14), none, (.m (.bsliceO 5 1) 0), [(.c (.imm (.int .u8 128)))]⟩, ⟨(.some 3), none, (.q .mv), [(.t 14)]⟩]) (.seq (.block 0 (.loop (.seq (.seq (.reg false 0 [⟨(.some 15), none, (.q .mv), [(.t 0)]⟩, ⟨(.some 16), none, (.q .mv), [(.t 3)]⟩, ⟨(.some 17), none, (.q .lenL), [(.t 16)]⟩, ⟨(.some 18), none, (.q (.bin .add 2)), [(.t 15), (.t 17)]⟩, ⟨(.some 19), none, (.q (.bin .add 2)), [(.t 18), (.c (.imm (.int .i64 8)))]⟩, ⟨(.some 20), none, (.q (.bin .rem 2)), [(.t 19), (.c (.imm (.int .i64 64)))]⟩, ⟨(.some 21), none, (.q (.bin .neq 2)), [(.t 20), (.c (.imm (.int .i64 0)))]⟩]) (.cond (.t 21) .skip (.exit 0))) (.block 1 (.reg false 1 [⟨(.some 22), none, (.q .mv), [(.t 3)]⟩, ⟨(.some 23), none, (.m (.bsliceO 5 1) 0), [(.c (.imm (.int .u8 0)))]⟩, ⟨(.some 24), none, (.e (.append 5 1 1)), [(.t 22), (.t 23)]⟩, ⟨(.some 3), none, (.q .mv), [(.t 24)]⟩]))))) (.seq (.reg false 0 [⟨(.some 25), none, (.q .mv), [(.t 0)]⟩, ⟨(.some 26), none, (.q (.bin .mul 2)), [(.c (.imm (.int .i64 8))), (.t 25)]⟩, ⟨(.some 4), none, (.q .mv), [(.t 26)]⟩]) (.seq (.seq (.reg false 0 [⟨(.some 5), none, (.q .mv), [(.c (.imm (.int .i64 0)))]⟩]) (.block 2 (.loop (.seq (.seq (.reg false 0 [⟨(.some 27), none, (.q .mv), [(.t 5)]⟩, ⟨(.some 28), none, (.q (.bin .lss 3)), [(.t 27), (.c (.imm (.int .i64 8)))]⟩]) (.cond (.t 28) .skip (.exit 2))) (.seq (.block 3 (.seq (.reg false 0 [⟨(.some 31), none, (.q .mv), [(.t 4)]⟩, ⟨(.some 6), none, (.q .mv), [(.t 31)]⟩]) (.seq (.seq (.reg false 0 [⟨(.some 32), none, (.q .mv), [(.t 5)]⟩, ⟨(.some 7), none, (.q .mv), [(.t 32)]⟩]) (.block 4 (.loop (.seq (.seq (.reg false 0 [⟨(.some 33), none, (.q .mv), [(.t 7)]⟩, ⟨(.some 34), none, (.q (.bin .lss 3)), [(.t 33), (.c (.imm (.int .i64 7)))]⟩]) (.cond (.t 34) .skip (.exit 4))) (.seq (.block 5 (.reg false 0 [⟨(.some 37), none, (.q .mv), [(.t 6)]⟩, ⟨(.some 38), none, (.q (.bin .quo 2)), [(.t 37), (.c (.imm (.int .i64 256)))]⟩, ⟨(.some 6), none, (.q .mv), [(.t 38)]⟩])) (.reg false 0 [⟨(.some 35), none, (.q .mv), [(.t 7)]⟩, ⟨(.some 36), none, (.q (.bin .add 3)), [(.t 35), (.c (.imm (.int .i64 1)))]⟩, ⟨(.some 7), none, (.q .mv), [(.t 36)]⟩])))))) (.reg false 1 [⟨(.some 39), none, (.q .mv), [(.t 3)]⟩, ⟨(.some 40), none, (.q .mv), [(.t 6)]⟩, ⟨(.some 41), none, (.q (.bin .rem 2)), [(.t 40), (.c (.imm (.int .i64 256)))]⟩, ⟨(.some 42), none, (.q (.convI .u8)), [(.t 41)]⟩, ⟨(.some 43), none, (.m (.bsliceO 5 1) 0), [(.t 42)]⟩, ⟨(.some 44), none, (.e (.append 5 1 1)), [(.t 39), (.t 43)]⟩, ⟨(.some 3), none, (.q .mv), [(.t 44)]⟩])))) (.reg false 0 [⟨(.some 29), none, (.q .mv), [(.t 5)]⟩, ⟨(.some 30), none, (.q (.bin .add 3)), [(.t 29), (.c (.imm (.int .i64 1)))]⟩, ⟨(.some 5), none, (.q .mv), [(.t 30)]⟩])))))) (.seq (.reg false 0 [⟨(.some 45), none, (.q .mv), [(.t 3)]⟩, ⟨(.some 2), none, (.q .mv), [(.t 45)]⟩]) .ret)))))))
theorem fn51 : IsFn Tryz.prog 51 (List.range 200) c51 [2] 46 := ⟨_, _, Tryz.func51, rfl, by decide +kernel, by kernel_rfl, rfl, rfl⟩
set_option maxHeartbeats 8000000 in
theorem p51w (n : Nat) (hn : n ≤ 1099511627776) : Pure Tryz.prog G 51 [i64 n] (bytesV (padB n)) := by
  refine pure_of_code' (S := sp [] []) hm hG (sp_holds .nil .nil) fn51
    (St 8 46 [i64 n, .junk, .junk, .junk, .junk, .junk, .junk, .junk] []) (by kernel_rfl) (by simp [lows, AV.low]) (by simp [AV.low, lows_bytes]) ?_
  have f1 : ((n : Int) < 0) = False := eq_false (by omega)
  have f2 : ((1099511627776 : Int) < (n : Int)) = False := eq_false (by omega)
  have hz := zeros_lt n
  simp (maxSteps := 2000000) -implicitDefEqProofs only [c51, RS, RX, Nat.reduceLT, ↓RP0, ↓RP1, ↓RP2, ↓RP3, RV, RW, ↓reduceIte, Nat.reduceAdd, Nat.reduceSub, Nat.reduceMul, Nat.reduceLeDiff, Nat.reduceEqDiff, Int.reduceLT, Int.reduceLE, Int.reduceEq, Int.reduceNe, Int.reduceAdd, Int.reduceSub, Int.reduceMul, Int.reduceNeg, Int.reduceToNat, reduceCtorEq, f1, f2]
  refine ⟨(fun y hy => by rw [List.mem_singleton.1 hy]; exact ⟨rfl, rfl⟩), ?_⟩
  refine loopB (st := fun (z : Nat) => (St 8 46 [i64 n, .junk, .sl 1 [] (some 0), .sl 1 ((128 :: List.replicate z 0 : List UInt8).map byteAV) (some 1), .junk, .junk, .junk, .junk] [])) (hp := fun z => [.tok 5 1 0, .tok 5 1 (z + 1)]) (I := fun z => z ≤ zeros n) (m := fun z => zeros n - z) (0 : Nat) (Nat.zero_le _) ?_ ?_
  · refine weak_sameS (by simp) ?_ ?_
    · simp [AObj.low, lows, AV.low]
    · simp [WeakL, AV.low, lows, byteAV]
  · intro z hle
    have ol : ((128 :: List.replicate z 0 : List UInt8).map byteAV).length = z + 1 := by simp
    have os : ((128 :: List.replicate z 0 : List UInt8).map byteAV) ++ [.imm (.int .u8 0)] = ((128 :: List.replicate (z + 1) 0 : List UInt8).map byteAV) := by
      rw [List.replicate_succ']; simp [byteAV]
    by_cases hlt : z < zeros n
    · have e1 : (((n : Int) + ((z + 1 : Nat) : Int) + 8).tmod 64 = 0) = False := by
        refine eq_false ?_
        have : (n : Int) + ((z + 1 : Nat) : Int) + 8 = ((n + (z + 1) + 8 : Nat) : Int) := by omega
        rw [this]
        have : ((n + (z + 1) + 8 : Nat) : Int).tmod 64 = (((n + (z + 1) + 8) % 64 : Nat) : Int) := tm_nat _ 64
        rw [this]
        unfold zeros at hlt
        omega
      generalize List.map byteAV (128 :: List.replicate z 0) = o at *
      simp (maxSteps := 2000000) -implicitDefEqProofs only [RS, RX, Nat.reduceLT, ↓RP0, ↓RP1, ↓RP2, ↓RP3, RV, RW, ↓reduceIte, Nat.reduceAdd, Nat.reduceSub, Nat.reduceMul, Nat.reduceLeDiff, Nat.reduceEqDiff, Int.reduceLT, Int.reduceLE, Int.reduceEq, Int.reduceNe, Int.reduceAdd, Int.reduceSub, Int.reduceMul, Int.reduceNeg, Int.reduceToNat, reduceCtorEq, e1, ol]
      refine ⟨⟨by omega, by omega⟩, ⟨by omega, by omega⟩, one8 _, .inl trivial, .inl trivial, by omega, by omega, z + 1, by dsimp only; omega, by omega, ?_⟩
      dsimp only
      rw [os]
      refine weak_cutS 2 (by decide) (by simp) ?_ ?_
      · simp [AObj.low, lows, AV.low]
      · have lz := lows_bytes 2 (List.replicate (z + 1) 0)
        generalize List.replicate (z + 1) (0 : UInt8) = R at *
        have l8 : AV.low 2 (byteAV 128) := trivial
        simp [WeakL, AV.low, lows, lz, l8]
    · obtain rfl : z = zeros n := by omega
      have e1 : (((n : Int) + ((zeros n + 1 : Nat) : Int) + 8).tmod 64 = 0) = True := by
        refine eq_true ?_
        have : (n : Int) + ((zeros n + 1 : Nat) : Int) + 8 = ((n + (zeros n + 1) + 8 : Nat) : Int) := by omega
        rw [this]
        have : ((n + (zeros n + 1) + 8 : Nat) : Int).tmod 64 = (((n + (zeros n + 1) + 8) % 64 : Nat) : Int) := tm_nat _ 64
        rw [this]
        unfold zeros
        omega
      have om : ((128 :: List.replicate (zeros n) 0 : List UInt8).map byteAV) = (padTo n 0).map byteAV := by simp [padTo, padZ]
      rw [om] at ol ⊢
      simp (maxSteps := 2000000) -implicitDefEqProofs only [RS, RX, Nat.reduceLT, ↓RP0, ↓RP1, ↓RP2, ↓RP3, RV, RW, ↓reduceIte, Nat.reduceAdd, Nat.reduceSub, Nat.reduceMul, Nat.reduceLeDiff, Nat.reduceEqDiff, Int.reduceLT, Int.reduceLE, Int.reduceEq, Int.reduceNe, Int.reduceAdd, Int.reduceSub, Int.reduceMul, Int.reduceNeg, Int.reduceToNat, reduceCtorEq, e1, ol]
      refine ⟨⟨by omega, by omega⟩, ⟨by omega, by omega⟩, ⟨by omega, by omega⟩, ?_⟩
      refine loopB (st := fun (i : Nat) => (St 8 46 [i64 n, .junk, .sl 1 [] (some 0), .sl 1 ((padTo n i).map byteAV) (some 1), i64 (8 * (n : Int)), i64 i, .junk, .junk] [])) (hp := fun i => [.tok 5 1 0, .tok 5 1 (zeros n + 1 + i)]) (I := fun i => i ≤ 8) (m := fun i => 8 - i) (0 : Nat) (Nat.zero_le _) ?_ ?_
      · refine weak_cutS 2 (by decide) (by simp) ?_ ?_
        · simp [AObj.low, lows, AV.low]
        · simp [WeakL, AV.low, lows, lows_bytes]
      · intro i hi
        have ol : ((padTo n i).map byteAV).length = zeros n + 1 + i := by rw [bytes_len, padTo_len]
        by_cases hlt : i < 8
        · have e3 : ((i : Int) < 8) = True := eq_true (by omega)
          have ib : In64 ((i : Int) + 1) := ⟨by omega, by omega⟩
          have os : ∀ b, b = padD n i → (padTo n i).map byteAV ++ [byteAV b] = (padTo n (i + 1)).map byteAV := by
            rintro b rfl; rw [padTo_succ]; simp
          simp (maxSteps := 2000000) -implicitDefEqProofs only [RS, RX, Nat.reduceLT, ↓RP0, ↓RP1, ↓RP2, ↓RP3, RV, RW, ↓reduceIte, Nat.reduceAdd, Nat.reduceSub, Nat.reduceMul, Nat.reduceLeDiff, Nat.reduceEqDiff, Int.reduceLT, Int.reduceLE, Int.reduceEq, Int.reduceNe, Int.reduceAdd, Int.reduceSub, Int.reduceMul, Int.reduceNeg, Int.reduceToNat, reduceCtorEq, e3]
          refine loopB (st := fun (k : Nat) => (St 8 46 [i64 n, .junk, .sl 1 [] (some 0), .sl 1 ((padTo n i).map byteAV) (some 1), i64 (8 * (n : Int)), i64 i, i64 ((8 * n / 256 ^ (k - i) : Nat) : Int), i64 k] [])) (hp := fun k => [.tok 5 1 0, .tok 5 1 (zeros n + 1 + i)]) (I := fun k => i ≤ k ∧ k ≤ 7) (m := fun k => 7 - k) (i : Nat) ⟨Nat.le_refl _, by omega⟩ ?_ ?_
          · refine weak_cutS 2 (by decide) (by simp) ?_ ?_
            · simp [AObj.low, lows, AV.low]
            · simp [WeakL, AV.low, lows, lows_bytes]
          · rintro k ⟨hk1, hk2⟩
            by_cases hkl : k < 7
            · have f3 : ((k : Int) < 7) = True := eq_true (by omega)
              have kb : In64 ((k : Int) + 1) := ⟨by omega, by omega⟩
              have hp : 8 * n / 256 ^ (k + 1 - i) = 8 * n / 256 ^ (k - i) / 256 := by
                rw [show k + 1 - i = (k - i) + 1 by omega, Nat.pow_succ, Nat.div_div_eq_div_mul]
              have hxb : 8 * n / 256 ^ (k - i) ≤ 8 * n := Nat.div_le_self _ _
              generalize 8 * n / 256 ^ (k - i) = x at *
              have tx : (x : Int).tdiv 256 = ((x / 256 : Nat) : Int) := td_nat x 256
              simp (maxSteps := 2000000) -implicitDefEqProofs only [RS, RX, Nat.reduceLT, ↓RP0, ↓RP1, ↓RP2, ↓RP3, RV, RW, ↓reduceIte, Nat.reduceAdd, Nat.reduceSub, Nat.reduceMul, Nat.reduceLeDiff, Nat.reduceEqDiff, Int.reduceLT, Int.reduceLE, Int.reduceEq, Int.reduceNe, Int.reduceAdd, Int.reduceSub, Int.reduceMul, Int.reduceNeg, Int.reduceToNat, reduceCtorEq, f3, tx]
              have hx2 : x / 256 ≤ x := Nat.div_le_self _ _
              refine ⟨⟨by omega, by omega⟩, kb, k + 1, by dsimp only; omega, ⟨by omega, by omega⟩, ?_⟩
              dsimp only
              rw [hp]
              refine weak_cutS 2 (by decide) (by simp) ?_ ?_
              · simp [AObj.low, lows, AV.low]
              · simp [WeakL, AV.low, lows, lows_bytes]
            · obtain rfl : k = 7 := by omega
              have n7 : ((7 : Nat) : Int) = 7 := rfl
              have hb : padD n i = UInt8.ofNat (8 * n / 256 ^ (7 - i) % 256) := rfl
              generalize 8 * n / 256 ^ (7 - i) = x at *
              have tx : (x : Int).tmod 256 = ((x % 256 : Nat) : Int) := tm_nat x 256
              have wx := wrap_byte (x := x % 256) (Nat.mod_lt _ (by decide))
              simp (maxSteps := 2000000) -implicitDefEqProofs only [RS, RX, Nat.reduceLT, ↓RP0, ↓RP1, ↓RP2, ↓RP3, RV, RW, ↓reduceIte, Nat.reduceAdd, Nat.reduceSub, Nat.reduceMul, Nat.reduceLeDiff, Nat.reduceEqDiff, Int.reduceLT, Int.reduceLE, Int.reduceEq, Int.reduceNe, Int.reduceAdd, Int.reduceSub, Int.reduceMul, Int.reduceNeg, Int.reduceToNat, reduceCtorEq, n7, Int.lt_irrefl, tx, wx]
              refine ⟨one8 _, ol.symm, .inl trivial, .inl trivial, by rw [ol]; omega, by rw [ol]; omega, ib, i + 1, by dsimp only; omega, by omega, ?_⟩
              dsimp only
              rw [ol]
              have os3 : List.map byteAV (padTo n i) ++ [AV.imm (Value.int IntKind.u8 ↑(UInt8.ofNat (x % 256)).toNat)] = (padTo n (i + 1)).map byteAV := os _ hb.symm
              rw [os3]
              refine weak_cutS 2 (by decide) (by simp; omega) ?_ ?_
              · simp [AObj.low, lows, AV.low]
              · simp [WeakL, AV.low, lows, lows_bytes]
        · obtain rfl : i = 8 := by omega
          have n8 : ((8 : Nat) : Int) = 8 := rfl
          simp (maxSteps := 2000000) -implicitDefEqProofs only [RS, RX, Nat.reduceLT, ↓RP0, ↓RP1, ↓RP2, ↓RP3, RV, RW, ↓reduceIte, Nat.reduceAdd, Nat.reduceSub, Nat.reduceMul, Nat.reduceLeDiff, Nat.reduceEqDiff, Int.reduceLT, Int.reduceLE, Int.reduceEq, Int.reduceNe, Int.reduceAdd, Int.reduceSub, Int.reduceMul, Int.reduceNeg, Int.reduceToNat, reduceCtorEq, n8, Int.lt_irrefl]
          rfl
end Go.AL.Path

/- The document's digest. -/
set_option linter.unusedSimpArgs false
set_option linter.unusedVariables false
set_option maxRecDepth 100000
namespace Go.AL.Path
open Go Go.RowKit Go.Proofs Go.AL
def blk (l : List UInt8) (k : Nat) : List UInt8 := (l.drop (64 * k)).take 64
def hashTo (l : List UInt8) : Nat → List Wd
  | 0 => firstL
  | k + 1 => compressW (hashTo l k) (blk l k)
def digD (h : List Wd) (j : Nat) : UInt8 := UInt8.ofNat ((h.getD (j / 4) 0).toNat / 256 ^ (3 - j % 4) % 256)
def digB (h : List Wd) : List UInt8 := (List.range 32).map (digD h)
def allB (b : List UInt8) : List UInt8 := b ++ padB b.length
def sumB (b : List UInt8) : List UInt8 := digB (hashTo (allB b) ((allB b).length / 64))
theorem compress_len {h : List Wd} {b : List UInt8} : (compressW h b).length = 8 := addP_len _ _ _
theorem hashTo_len (l : List UInt8) : ∀ k, (hashTo l k).length = 8
  | 0 => rfl
  | k + 1 => compress_len
theorem blk_len {l : List UInt8} {k : Nat} (h : 64 * k + 64 ≤ l.length) : (blk l k).length = 64 := by
  unfold blk; rw [List.length_take, List.length_drop]; omega
theorem all_whole (b : List UInt8) : (allB b).length % 64 = 0 := by
  unfold allB; rw [List.length_append]; exact pad_whole b.length
theorem digB_len (h : List Wd) : (digB h).length = 32 := by simp [digB]
def digTo (h : List Wd) (j : Nat) : List UInt8 := (List.range j).map (digD h)
theorem digTo_len (h : List Wd) (j : Nat) : (digTo h j).length = j := by simp [digTo]
theorem digTo_succ (h : List Wd) (j : Nat) : digTo h (j + 1) = digTo h j ++ [digD h j] := by unfold digTo; rw [List.range_succ]; simp
theorem wrap_u32 {x : Nat} (h : x < 2 ^ 32) : IntKind.u32.wrap (x : Int) = (x : Int) := by
  simp [IntKind.wrap, IntKind.bits, IntKind.signed]; omega
def padS : PSp := fun args K => ∃ n : Nat, args = [i64 n] ∧ n ≤ 1099511627776 ∧ K (bytesV (padB n))
theorem told_padS : Told Tryz.prog G 51 padS := by
  rintro args K ⟨n, rfl, h1, h2⟩
  exact ⟨_, p51w n h1, h2⟩
theorem ask_padS {n : Nat} (hn : n ≤ 1099511627776) {K} : ask padS [i64 (n : Nat)] K = K (bytesV (padB n)) := by
  show (∃ n' : Nat, _ ∧ n' ≤ _ ∧ K _) = _
  simp only [eq_iff_iff]
  constructor
  · rintro ⟨n', h1, h2, h3⟩
    injection h1 with h1 _; injection h1 with h1; injection h1 with _ h1
    obtain rfl : n = n' := by omega
    exact h3
  · exact fun h => ⟨n, rfl, hn, h⟩
/-- Bytes laid into a block of zeros. -/
def padY (l : List UInt8) (n : Nat) : List AV := l.map byteAV ++ List.replicate (n - l.length) (byteAV 0)
theorem padY_len {l : List UInt8} {n : Nat} (h : l.length ≤ n) : (padY l n).length = n := by simp [padY]; omega
theorem padY_set {l : List UInt8} {n : Nat} (h : l.length < n) (x : UInt8) : (padY l n).take l.length ++ [byteAV x] ++ (padY l n).drop (l.length + 1) = padY (l ++ [x]) n := by
  unfold padY
  have e1 : List.replicate (n - l.length) (byteAV 0) = byteAV 0 :: List.replicate (n - (l ++ [x]).length) (byteAV 0) := by
    rw [← List.replicate_succ]; congr 1; simp; omega
  have h1 : (l.map byteAV).length = l.length := List.length_map ..
  rw [e1, List.take_left' h1]
  generalize List.replicate (n - (l ++ [x]).length) (byteAV 0) = R
  have : (l.map byteAV ++ byteAV 0 :: R).drop (l.length + 1) = R := by
    rw [← h1, List.drop_append, List.drop_of_length_le (by omega)]; simp
  rw [this]; simp
theorem padY_full {l : List UInt8} {n : Nat} (h : l.length = n) : padY l n = l.map byteAV := by simp [padY, h]
theorem lows_padY (k : Nat) (l : List UInt8) (n : Nat) : lows k (padY l n) := by
  unfold padY
  have : ∀ m, lows k (List.replicate m (byteAV 0)) := fun m => by induction m with | zero => trivial | succ m ih => exact ⟨trivial, ih⟩
  have h2 : ∀ a b : List AV, lows k a → lows k b → lows k (a ++ b) := fun a b ha hb => by
    induction a with | nil => exact hb | cons x a ih => exact ⟨ha.1, ih ha.2⟩
  exact h2 _ _ (lows_bytes k l) (this _)
theorem all_len {b : List UInt8} (hb : b.length ≤ 1099511627) : (allB b).length ≤ 1099511800 := by
  unfold allB; rw [List.length_append, padB_len]; have := zeros_lt b.length; omega
/-- A block's compressing, as a specification. -/
def compS : PSp := fun args K => ∃ (h : List Wd) (b : List UInt8), args = [wsV h, .agg (b.map byteAV)] ∧ h.length = 8 ∧ b.length = 64 ∧ K (wsV (compressW h b))
theorem told_comp52 : Told Tryz.prog G 52 compS := by
  rintro args K ⟨h, b, rfl, h1, h2, h3⟩
  exact ⟨_, p52w h b h1 h2, h3⟩
theorem told_comp76 : Told Tryz.prog G 76 compS := by
  rintro args K ⟨h, b, rfl, h1, h2, h3⟩
  exact ⟨_, p76w h b h1 h2, h3⟩
theorem ask_compS {h : List Wd} {b : List UInt8} (hh : h.length = 8) (hb : b.length = 64) {K} : ask compS [wsV h, .agg (b.map byteAV)] K = K (wsV (compressW h b)) := by
  show (∃ (h' : List Wd) (b' : List UInt8), _ ∧ _ ∧ _ ∧ K _) = _
  simp only [eq_iff_iff]
  constructor
  · rintro ⟨h', b', h1, h2, h3, h4⟩
    injection h1 with h1 h5; injection h1 with h1; injection h5 with h5 _; injection h5 with h5
    rw [bytes_inj h5, ws_inj h1]; exact h4
  · exact fun h' => ⟨h, b, rfl, hh, hb, h'⟩
def c31 : ACode := (.seq (.reg false 1 [⟨(.some 2), none, (.m (.alloc [(.imm (.int .u8 0)), (.imm (.int .u8 0)), (.imm (.int .u8 0)), (.imm (.int .u8 0)), (.imm (.int .u8 0)), (.imm (.int .u8 0)), (.imm (.int .u8 0)), (.imm (.int .u8 0)), (.imm (.int .u8 0)), (.imm (.int .u8 0)), (.imm (.int .u8 0)), (.imm (.int .u8 0)), (.imm (.int .u8 0)), (.imm (.int .u8 0)), (.imm (.int .u8 0)), (.imm (.int .u8 0)), (.imm (.int .u8 0)), (.imm (.int .u8 0)), (.imm (.int .u8 0)), (.imm (.int .u8 0)), (.imm (.int .u8 0)), (.imm (.int .u8 0)), (.imm (.int .u8 0)), (.imm (.int .u8 0)), (.imm (.int .u8 0)), (.imm (.int .u8 0)), (.imm (.int .u8 0)), (.imm (.int .u8 0)), (.imm (.int .u8 0)), (.imm (.int .u8 0)), (.imm (.int .u8 0)), (.imm (.int .u8 0))] false) 0), []⟩]) (.seq (.reg false 1 [⟨(.some 12), none, (.m (.bsliceO 5 1) 0), []⟩, ⟨(.some 13), none, (.q .mv), [(.t 0)]⟩, ⟨(.some 14), none, (.e (.append 5 1 1)), [(.t 12), (.t 13)]⟩, ⟨(.some 3), none, (.q .mv), [(.t 14)]⟩]) (.seq (.reg false 0 [⟨(.some 15), none, (.q .mv), [(.t 3)]⟩, ⟨(.some 16), none, (.q .mv), [(.t 0)]⟩, ⟨(.some 17), none, (.q .lenL), [(.t 16)]⟩, ⟨(.some 18), none, (.call true), [(.c (.fn (.func 51) [] [])), (.t 17)]⟩, ⟨(.some 19), none, (.e (.append 5 1 1)), [(.t 15), (.t 18)]⟩, ⟨(.some 3), none, (.q .mv), [(.t 19)]⟩]) (.seq (.reg false 1 [⟨(.some 20), none, (.q (.build [(.imm (.int .u32 0)), (.imm (.int .u32 0)), (.imm (.int .u32 0)), (.imm (.int .u32 0)), (.imm (.int .u32 0)), (.imm (.int .u32 0)), (.imm (.int .u32 0)), (.imm (.int .u32 0))] [(0, 1), (1, 1), (2, 1), (3, 1), (4, 1), (5, 1), (6, 1), (7, 1)])), [(.c (.imm (.int .u32 1779033703))), (.c (.imm (.int .u32 3144134277))), (.c (.imm (.int .u32 1013904242))), (.c (.imm (.int .u32 2773480762))), (.c (.imm (.int .u32 1359893119))), (.c (.imm (.int .u32 2600822924))), (.c (.imm (.int .u32 528734635))), (.c (.imm (.int .u32 1541459225)))]⟩, ⟨(.some 4), none, (.m (.alloc [(.imm (.int .u32 0)), (.imm (.int .u32 0)), (.imm (.int .u32 0)), (.imm (.int .u32 0)), (.imm (.int .u32 0)), (.imm (.int .u32 0)), (.imm (.int .u32 0)), (.imm (.int .u32 0))] false) 0), []⟩, ⟨none, none, (.e (.store 8)), [(.t 4), (.t 20)]⟩]) (.seq (.seq (.reg false 0 [⟨(.some 5), none, (.q .mv), [(.c (.imm (.int .i64 0)))]⟩]) (.block 0 (.loop (.seq (.seq (.reg false 0 [⟨(.some 21), none, (.q .mv), [(.t 5)]⟩, ⟨(.some 22), none, (.q .mv), [(.t 3)]⟩, ⟨(.some 23), none, (.q .lenL), [(.t 22)]⟩, ⟨(.some 24), none, (.q (.bin .lss 3)), [(.t 21), (.t 23)]⟩]) (.cond (.t 24) .skip (.exit 0))) (.seq (.block 1 (.seq (.reg false 1 [⟨(.some 6), none, (.m (.alloc [(.imm (.int .u8 0)), (.imm (.int .u8 0)), (.imm (.int .u8 0)), (.imm (.int .u8 0)), (.imm (.int .u8 0)), (.imm (.int .u8 0)), (.imm (.int .u8 0)), (.imm (.int .u8 0)), (.imm (.int .u8 0)), (.imm (.int .u8 0)), (.imm (.int .u8 0)), (.imm (.int .u8 0)), (.imm (.int .u8 0)), (.imm (.int .u8 0)), (.imm (.int .u8 0)), (.imm (.int .u8 0)), (.imm (.int .u8 0)), (.imm (.int .u8 0)), (.imm (.int .u8 0)), (.imm (.int .u8 0)), (.imm (.int .u8 0)), (.imm (.int .u8 0)), (.imm (.int .u8 0)), (.imm (.int .u8 0)), (.imm (.int .u8 0)), (.imm (.int .u8 0)), (.imm (.int .u8 0)), (.imm (.int .u8 0)), (.imm (.int .u8 0)), (.imm (.int .u8 0)), (.imm (.int .u8 0)), (.imm (.int .u8 0)), (.imm (.int .u8 0)), (.imm (.int .u8 0)), (.imm (.int .u8 0)), (.imm (.int .u8 0)), (.imm (.int .u8 0)), (.imm (.int .u8 0)), (.imm (.int .u8 0)), (.imm (.int .u8 0)), (.imm (.int .u8 0)), (.imm (.int .u8 0)), (.imm (.int .u8 0)), (.imm (.int .u8 0)), (.imm (.int .u8 0)), (.imm (.int .u8 0)), (.imm (.int .u8 0)), (.imm (.int .u8 0)), (.imm (.int .u8 0)), (.imm (.int .u8 0)), (.imm (.int .u8 0)), (.imm (.int .u8 0)), (.imm (.int .u8 0)), (.imm (.int .u8 0)), (.imm (.int .u8 0)), (.imm (.int .u8 0)), (.imm (.int .u8 0)), (.imm (.int .u8 0)), (.imm (.int .u8 0)), (.imm (.int .u8 0)), (.imm (.int .u8 0)), (.imm (.int .u8 0)), (.imm (.int .u8 0)), (.imm (.int .u8 0))] false) 0), []⟩]) (.seq (.seq (.reg false 0 [⟨(.some 7), none, (.q .mv), [(.c (.imm (.int .i64 0)))]⟩]) (.block 2 (.loop (.seq (.seq (.reg false 0 [⟨(.some 27), none, (.q .mv), [(.t 7)]⟩, ⟨(.some 28), none, (.q (.bin .lss 3)), [(.t 27), (.c (.imm (.int .i64 64)))]⟩]) (.cond (.t 28) .skip (.exit 2))) (.seq (.block 3 (.reg false 0 [⟨(.some 31), none, (.q .mv), [(.t 7)]⟩, ⟨(.some 32), none, (.q .mv), [(.t 3)]⟩, ⟨(.some 33), none, (.q .mv), [(.t 5)]⟩, ⟨(.some 34), none, (.q .mv), [(.t 7)]⟩, ⟨(.some 35), none, (.q (.bin .add 3)), [(.t 33), (.t 34)]⟩, ⟨(.some 36), none, (.q (.iaddrS 1)), [(.t 32), (.t 35)]⟩, ⟨(.some 37), none, (.l .load1), [(.t 36)]⟩, ⟨(.some 38), none, (.q (.iaddrA 64 1)), [(.t 6), (.t 31)]⟩, ⟨none, none, (.e (.store 1)), [(.t 38), (.t 37)]⟩])) (.reg false 0 [⟨(.some 29), none, (.q .mv), [(.t 7)]⟩, ⟨(.some 30), none, (.q (.bin .add 3)), [(.t 29), (.c (.imm (.int .i64 1)))]⟩, ⟨(.some 7), none, (.q .mv), [(.t 30)]⟩])))))) (.reg false 0 [⟨(.some 39), none, (.l (.loadA 8)), [(.t 4)]⟩, ⟨(.some 40), none, (.l (.loadA 64)), [(.t 6)]⟩, ⟨(.some 41), none, (.call true), [(.c (.fn (.func 52) [] [])), (.t 39), (.t 40)]⟩, ⟨none, none, (.e (.store 8)), [(.t 4), (.t 41)]⟩])))) (.reg false 0 [⟨(.some 25), none, (.q .mv), [(.t 5)]⟩, ⟨(.some 26), none, (.q (.bin .add 3)), [(.t 25), (.c (.imm (.int .i64 64)))]⟩, ⟨(.some 5), none, (.q .mv), [(.t 26)]⟩])))))) (.seq (.reg false 1 [⟨(.some 8), none, (.m (.alloc [(.imm (.int .u8 0)), (.imm (.int .u8 0)), (.imm (.int .u8 0)), (.imm (.int .u8 0)), (.imm (.int .u8 0)), (.imm (.int .u8 0)), (.imm (.int .u8 0)), (.imm (.int .u8 0)), (.imm (.int .u8 0)), (.imm (.int .u8 0)), (.imm (.int .u8 0)), (.imm (.int .u8 0)), (.imm (.int .u8 0)), (.imm (.int .u8 0)), (.imm (.int .u8 0)), (.imm (.int .u8 0)), (.imm (.int .u8 0)), (.imm (.int .u8 0)), (.imm (.int .u8 0)), (.imm (.int .u8 0)), (.imm (.int .u8 0)), (.imm (.int .u8 0)), (.imm (.int .u8 0)), (.imm (.int .u8 0)), (.imm (.int .u8 0)), (.imm (.int .u8 0)), (.imm (.int .u8 0)), (.imm (.int .u8 0)), (.imm (.int .u8 0)), (.imm (.int .u8 0)), (.imm (.int .u8 0)), (.imm (.int .u8 0))] false) 0), []⟩]) (.seq (.seq (.reg false 0 [⟨(.some 9), none, (.q .mv), [(.c (.imm (.int .i64 0)))]⟩]) (.block 4 (.loop (.seq (.seq (.reg false 0 [⟨(.some 42), none, (.q .mv), [(.t 9)]⟩, ⟨(.some 43), none, (.q (.bin .lss 3)), [(.t 42), (.c (.imm (.int .i64 32)))]⟩]) (.cond (.t 43) .skip (.exit 4))) (.seq (.block 5 (.seq (.reg false 0 [⟨(.some 46), none, (.q .mv), [(.t 9)]⟩, ⟨(.some 47), none, (.q (.bin .quo 3)), [(.t 46), (.c (.imm (.int .i64 4)))]⟩, ⟨(.some 48), none, (.q (.iaddrA 8 1)), [(.t 4), (.t 47)]⟩, ⟨(.some 49), none, (.l .load1), [(.t 48)]⟩, ⟨(.some 10), none, (.q .mv), [(.t 49)]⟩]) (.seq (.seq (.reg false 0 [⟨(.some 50), none, (.q .mv), [(.t 9)]⟩, ⟨(.some 51), none, (.q (.bin .rem 3)), [(.t 50), (.c (.imm (.int .i64 4)))]⟩, ⟨(.some 11), none, (.q .mv), [(.t 51)]⟩]) (.block 6 (.loop (.seq (.seq (.reg false 0 [⟨(.some 52), none, (.q .mv), [(.t 11)]⟩, ⟨(.some 53), none, (.q (.bin .lss 3)), [(.t 52), (.c (.imm (.int .i64 3)))]⟩]) (.cond (.t 53) .skip (.exit 6))) (.seq (.block 7 (.reg false 0 [⟨(.some 56), none, (.q .mv), [(.t 10)]⟩, ⟨(.some 57), none, (.q (.bin .quo 84)), [(.t 56), (.c (.imm (.int .u32 256)))]⟩, ⟨(.some 10), none, (.q .mv), [(.t 57)]⟩])) (.reg false 0 [⟨(.some 54), none, (.q .mv), [(.t 11)]⟩, ⟨(.some 55), none, (.q (.bin .add 3)), [(.t 54), (.c (.imm (.int .i64 1)))]⟩, ⟨(.some 11), none, (.q .mv), [(.t 55)]⟩])))))) (.reg false 0 [⟨(.some 58), none, (.q .mv), [(.t 9)]⟩, ⟨(.some 59), none, (.q .mv), [(.t 10)]⟩, ⟨(.some 60), none, (.q (.bin .rem 84)), [(.t 59), (.c (.imm (.int .u32 256)))]⟩, ⟨(.some 61), none, (.q (.convI .u8)), [(.t 60)]⟩, ⟨(.some 62), none, (.q (.iaddrA 32 1)), [(.t 8), (.t 58)]⟩, ⟨none, none, (.e (.store 1)), [(.t 62), (.t 61)]⟩])))) (.reg false 0 [⟨(.some 44), none, (.q .mv), [(.t 9)]⟩, ⟨(.some 45), none, (.q (.bin .add 3)), [(.t 44), (.c (.imm (.int .i64 1)))]⟩, ⟨(.some 9), none, (.q .mv), [(.t 45)]⟩])))))) (.seq (.reg false 0 [⟨(.some 63), none, (.l (.loadA 32)), [(.t 8)]⟩, ⟨none, none, (.e (.store 32)), [(.t 2), (.t 63)]⟩]) .ret))))))))
theorem fn31 : IsFnC Tryz.prog 31 (List.range 200) c31 [(2, some (58, .loadA 32))] 64 := ⟨⟨_, _, Tryz.func31, rfl, by decide +kernel, by kernel_rfl, rfl, rfl⟩, by intro r hr; simp only [List.mem_cons, List.not_mem_nil, or_false] at hr; first | (subst hr; kernel_rfl) | (rcases hr with rfl | rfl <;> kernel_rfl)⟩
set_option maxHeartbeats 8000000 in
theorem p31w (b : List UInt8) (hb : b.length ≤ 1099511627) : Pure Tryz.prog G 31 [bytesV b] (.agg ((sumB b).map byteAV)) := by
  refine pure_of_codeC (S := sp [(51, padS), (52, compS)] []) hm hG (sp_holds (.cons told_padS (.cons told_comp52 .nil)) .nil) fn31
    (St 12 64 [bytesV b, .junk, .junk, .junk, .junk, .junk, .junk, .junk, .junk, .junk, .junk, .junk] []) (by kernel_rfl) (by simp [lows, AV.low, lows_bytes]) (by simp [AV.low, lows_bytes]) ?_
  have n84 : (IntKind.u32 ≠ .i64) := by decide
  have n64 : ((64 : Nat) : Int) = 64 := rfl
  have n8 : ((8 : Nat) : Int) = 8 := rfl
  have bl := bytes_len b
  have q51 : ∀ K, ask padS [i64 (b.length : Nat)] K = K (bytesV (padB b.length)) := fun K => ask_padS (by omega)
  have pl := padB_len b.length
  have zl := zeros_lt b.length
  have pl2 := bytes_len (padB b.length)
  have os : b.map byteAV ++ (padB b.length).map byteAV = (allB b).map byteAV := by simp [allB]
  have ol : b.length + (padB b.length).length = (allB b).length := by simp [allB]
  have hal := all_len hb
  generalize padB b.length = pb at *
  simp (maxSteps := 2000000) -implicitDefEqProofs only [c31, RS, RX, Nat.reduceLT, ↓RP0, ↓RP1, ↓RP2, ↓RP3, RV, RW, ↓reduceIte, Nat.reduceAdd, Nat.reduceSub, Nat.reduceMul, Nat.reduceLeDiff, Nat.reduceEqDiff, Int.reduceLT, Int.reduceLE, Int.reduceEq, Int.reduceNe, Int.reduceAdd, Int.reduceSub, Int.reduceMul, Int.reduceNeg, Int.reduceToNat, reduceCtorEq, ↓q51, q51, bl, pl2, os, ol]
  refine ⟨(by simp), .inl trivial, .inl trivial, by omega, by omega, .inl trivial, .inl trivial, by omega, by omega, ?_⟩
  have hw := all_whole b
  have hres : sumB b = digB (hashTo (allB b) ((allB b).length / 64)) := rfl
  rw [hres]
  generalize hAL : allB b = al at *
  refine loopB (st := fun (k : Nat) => (St 12 64 [bytesV b, .junk, .ptr 0 0, .sl 1 (al.map byteAV) (some 1), .ptr 2 0, i64 ((64 * k : Nat) : Int), .junk, .junk, .junk, .junk, .junk, .junk] [])) (hp := fun k => [.box (padY [] 32), .tok 5 1 al.length, .box ((hashTo al k).map w32)]) (I := fun k => 64 * k ≤ al.length) (m := fun k => al.length - 64 * k) (0 : Nat) (Nat.zero_le _) ?_ ?_
  · refine weak_cutS 3 (by decide) (by kernel_rfl) ?_ ?_
    · simp [AObj.low, lows, lows_padY, lows_ws, AV.low]
    · simp [WeakL, AV.low, lows, lows_bytes]
  · intro k hk
    have hlen := hashTo_len al k
    have al2 := bytes_len al
    by_cases hlt : 64 * k < al.length
    · have e3 : (((64 * k : Nat) : Int) < (al.length : Int)) = True := eq_true (by omega)
      have ib : In64 (((64 * k : Nat) : Int) + 64) := ⟨by omega, by omega⟩
      have bl64 : (blk al k).length = 64 := blk_len (by omega)
      simp (maxSteps := 2000000) -implicitDefEqProofs only [RS, RX, Nat.reduceLT, ↓RP0, ↓RP1, ↓RP2, ↓RP3, RV, RW, ↓reduceIte, Nat.reduceAdd, Nat.reduceSub, Nat.reduceMul, Nat.reduceLeDiff, Nat.reduceEqDiff, Int.reduceLT, Int.reduceLE, Int.reduceEq, Int.reduceNe, Int.reduceAdd, Int.reduceSub, Int.reduceMul, Int.reduceNeg, Int.reduceToNat, reduceCtorEq, e3, al2]
      refine loopB (st := fun (i : Nat) => (St 12 64 [bytesV b, .junk, .ptr 0 0, .sl 1 (al.map byteAV) (some 1), .ptr 2 0, i64 ((64 * k : Nat) : Int), .ptr 3 0, i64 i, .junk, .junk, .junk, .junk] [])) (hp := fun i => [.box (padY [] 32), .tok 5 1 al.length, .box ((hashTo al k).map w32), .box (padY ((blk al k).take i) 64)]) (I := fun i => i ≤ 64) (m := fun i => 64 - i) (0 : Nat) (Nat.zero_le _) ?_ ?_
      · refine weak_cutS 4 (by decide) (by kernel_rfl) ?_ ?_
        · simp [AObj.low, lows, lows_padY, lows_ws, AV.low]
        · simp [WeakL, AV.low, lows, lows_bytes]
      · intro i hi
        have tl : ((blk al k).take i).length = i := by rw [List.length_take]; omega
        by_cases hil : i < 64
        · have f3 : ((i : Int) < 64) = True := eq_true (by omega)
          have jb : In64 ((i : Int) + 1) := ⟨by omega, by omega⟩
          have c1 : (((64 * k : Nat) : Int) + (i : Int)).toNat = 64 * k + i := by omega
          have ga : (al.map byteAV).getD (64 * k + i) .junk = byteAV (al.getD (64 * k + i) 0) := by
            rw [List.getD_eq_getElem?_getD, List.getElem?_map, List.getD_eq_getElem?_getD, List.getElem?_eq_getElem (by omega)]; rfl
          have gt : (blk al k).take (i + 1) = (blk al k).take i ++ [al.getD (64 * k + i) 0] := by
            have h0 : (blk al k)[i]? = some (al.getD (64 * k + i) 0) := by
              unfold blk
              rw [List.getElem?_take, if_pos hil, List.getElem?_drop, List.getD_eq_getElem?_getD, List.getElem?_eq_getElem (by omega)]; rfl
            rw [List.take_add_one, h0]; rfl
          have hset := padY_set (l := (blk al k).take i) (n := 64) (by omega) (al.getD (64 * k + i) 0)
          have pl := padY_len (l := (blk al k).take i) (n := 64) (by omega)
          rw [tl] at hset
          rw [← gt] at hset
          generalize al.getD (64 * k + i) 0 = x at *
          have hset2 : List.take i (padY (List.take i (blk al k)) 64) ++ [AV.imm (.int .u8 (x.toNat : Int))] ++ List.drop (i + 1) (padY (List.take i (blk al k)) 64) = padY (List.take (i + 1) (blk al k)) 64 := hset
          simp (maxSteps := 2000000) -implicitDefEqProofs only [RS, RX, Nat.reduceLT, ↓RP0, ↓RP1, ↓RP2, ↓RP3, RV, RW, ↓reduceIte, Nat.reduceAdd, Nat.reduceSub, Nat.reduceMul, Nat.reduceLeDiff, Nat.reduceEqDiff, Int.reduceLT, Int.reduceLE, Int.reduceEq, Int.reduceNe, Int.reduceAdd, Int.reduceSub, Int.reduceMul, Int.reduceNeg, Int.reduceToNat, reduceCtorEq, e3, f3, n64, al2, c1, ga, pl, byteAV_eq, hset2, Nat.mul_one]
          refine ⟨⟨by omega, by omega⟩, by omega, by omega, by omega, jb, i + 1, by dsimp only; omega, by omega, ?_⟩
          refine weak_cutS 4 (by decide) (by simp) ?_ ?_
          · simp [AObj.low, lows, lows_padY, lows_ws, AV.low]
          · simp [WeakL, AV.low, lows, lows_bytes]
        · obtain rfl : i = 64 := by omega
          have q52 : ∀ K, ask compS [wsV (hashTo al k), .agg ((blk al k).map byteAV)] K = K (wsV (hashTo al (k + 1))) := fun K => ask_compS hlen bl64
          have pf := padY_full (l := (blk al k).take 64) (n := 64) tl
          have tk : (blk al k).take 64 = blk al k := List.take_of_length_le (by omega)
          rw [tk] at pf
          rw [tk, pf]
          have bst : ((blk al k).map byteAV).map AV.strip1 = (blk al k).map byteAV := by simp [byteAV, AV.strip1]
          have btk : ((blk al k).map byteAV).take 64 = (blk al k).map byteAV := List.take_of_length_le (by rw [bytes_len]; omega)
          have bln := bytes_len (blk al k)
          have htk := ws_take hlen
          have hdr := ws_drop hlen
          have hst := ws_strip (hashTo al k)
          have hlen1 := hashTo_len al (k + 1)
          have hst1 := ws_strip (hashTo al (k + 1))
          generalize hH1 : hashTo al (k + 1) = H1 at *
          simp (maxSteps := 2000000) -implicitDefEqProofs only [RS, RX, Nat.reduceLT, ↓RP0, ↓RP1, ↓RP2, ↓RP3, RV, RW, ↓reduceIte, Nat.reduceAdd, Nat.reduceSub, Nat.reduceMul, Nat.reduceLeDiff, Nat.reduceEqDiff, Int.reduceLT, Int.reduceLE, Int.reduceEq, Int.reduceNe, Int.reduceAdd, Int.reduceSub, Int.reduceMul, Int.reduceNeg, Int.reduceToNat, reduceCtorEq, n64, ↓q52, q52, Int.lt_irrefl, bst, btk, bln, bl64, ws_len, hlen, hlen1, htk, hdr, hst, hst1]
          have hk1 : ((64 * k : Nat) : Int) + 64 = ((64 * (k + 1) : Nat) : Int) := by omega
          rw [hk1] at ib ⊢
          refine ⟨ib, k + 1, by dsimp only; omega, by omega, ?_⟩
          dsimp only
          rw [hH1]
          refine weak_cutS 3 (by decide) (by simp) ?_ ?_
          · simp [AObj.low, lows, lows_padY, lows_ws, AV.low]
          · simp [WeakL, AV.low, lows, lows_bytes]
    · obtain hk2 : al.length = 64 * k := by omega
      have hk3 : al.length / 64 = k := by omega
      rw [hk3]
      have e3 : (((64 * k : Nat) : Int) < (al.length : Int)) = False := eq_false (by omega)
      simp (maxSteps := 2000000) -implicitDefEqProofs only [RS, RX, Nat.reduceLT, ↓RP0, ↓RP1, ↓RP2, ↓RP3, RV, RW, ↓reduceIte, Nat.reduceAdd, Nat.reduceSub, Nat.reduceMul, Nat.reduceLeDiff, Nat.reduceEqDiff, Int.reduceLT, Int.reduceLE, Int.reduceEq, Int.reduceNe, Int.reduceAdd, Int.reduceSub, Int.reduceMul, Int.reduceNeg, Int.reduceToNat, reduceCtorEq, e3, al2]
      have wl : (hashTo al k).length = 8 := hlen
      generalize hashTo al k = w at *
      refine loopB (st := fun (j : Nat) => (St 12 64 [bytesV b, .junk, .ptr 0 0, .junk, .ptr 2 0, .junk, .junk, .junk, .ptr 3 0, i64 j, .junk, .junk] [])) (hp := fun j => [.box (padY [] 32), .tok 5 1 al.length, .box (w.map w32), .box (padY (digTo w j) 32)]) (I := fun j => j ≤ 32) (m := fun j => 32 - j) (0 : Nat) (Nat.zero_le _) ?_ ?_
      · refine weak_cutS 4 (by decide) (by kernel_rfl) ?_ ?_
        · simp [AObj.low, lows, lows_padY, lows_ws, AV.low]
        · simp [WeakL, AV.low, lows, lows_bytes]
      · intro j hj
        have n32 : ((32 : Nat) : Int) = 32 := rfl
        have tl := digTo_len w j
        by_cases hjl : j < 32
        · have f3 : ((j : Int) < 32) = True := eq_true (by omega)
          have jb : In64 ((j : Int) + 1) := ⟨by omega, by omega⟩
          have tq : (j : Int).tdiv 4 = ((j / 4 : Nat) : Int) := td_nat j 4
          have tr : (j : Int).tmod 4 = ((j % 4 : Nat) : Int) := tm_nat j 4
          have gw := ws_get (l := w) (i := j / 4) (by omega)
          have hd : digD w j = UInt8.ofNat ((w.getD (j / 4) 0).toNat / 256 ^ (3 - j % 4) % 256) := rfl
          have hs := digTo_succ w j
          have hset := padY_set (l := digTo w j) (n := 32) (by omega) (digD w j)
          rw [tl, ← hs] at hset
          have pl := padY_len (l := digTo w j) (n := 32) (by omega)
          have xb := (w.getD (j / 4) 0).isLt
          generalize w.getD (j / 4) 0 = x0 at *
          simp (maxSteps := 2000000) -implicitDefEqProofs only [RS, RX, Nat.reduceLT, ↓RP0, ↓RP1, ↓RP2, ↓RP3, RV, RW, ↓reduceIte, Nat.reduceAdd, Nat.reduceSub, Nat.reduceMul, Nat.reduceLeDiff, Nat.reduceEqDiff, Int.reduceLT, Int.reduceLE, Int.reduceEq, Int.reduceNe, Int.reduceAdd, Int.reduceSub, Int.reduceMul, Int.reduceNeg, Int.reduceToNat, reduceCtorEq, f3, tq, tr, gw, ws_len, wl, Nat.mul_one]
          refine ⟨⟨by omega, by omega⟩, by omega, ?_⟩
          refine loopB (st := fun (k : Nat) => (St 12 64 [bytesV b, .junk, .ptr 0 0, .junk, .ptr 2 0, .junk, .junk, .junk, .ptr 3 0, i64 j, .imm (.int .u32 ((x0.toNat / 256 ^ (k - j % 4) : Nat) : Int)), i64 k] [])) (hp := fun k => [.box (padY [] 32), .tok 5 1 al.length, .box (w.map w32), .box (padY (digTo w j) 32)]) (I := fun k => j % 4 ≤ k ∧ k ≤ 3) (m := fun k => 3 - k) (j % 4 : Nat) ⟨Nat.le_refl _, by omega⟩ ?_ ?_
          · refine weak_cutS 4 (by decide) (by simp) ?_ ?_
            · simp [AObj.low, lows, lows_padY, lows_ws, AV.low]
            · simp [WeakL, AV.low, lows, lows_bytes]
          · rintro k ⟨hk1, hk2⟩
            by_cases hkl : k < 3
            · have g3 : ((k : Int) < 3) = True := eq_true (by omega)
              have kb : In64 ((k : Int) + 1) := ⟨by omega, by omega⟩
              have hp : x0.toNat / 256 ^ (k + 1 - j % 4) = x0.toNat / 256 ^ (k - j % 4) / 256 := by
                rw [show k + 1 - j % 4 = (k - j % 4) + 1 by omega, Nat.pow_succ, Nat.div_div_eq_div_mul]
              have hxb : x0.toNat / 256 ^ (k - j % 4) ≤ x0.toNat := Nat.div_le_self _ _
              generalize x0.toNat / 256 ^ (k - j % 4) = y at *
              have ty : (y : Int).tdiv 256 = ((y / 256 : Nat) : Int) := td_nat y 256
              have hy2 : y / 256 ≤ y := Nat.div_le_self _ _
              have wy : IntKind.u32.wrap ((y / 256 : Nat) : Int) = ((y / 256 : Nat) : Int) := wrap_u32 (by omega)
              simp (maxSteps := 2000000) -implicitDefEqProofs only [RS, RX, Nat.reduceLT, ↓RP0, ↓RP1, ↓RP2, ↓RP3, RV, RW, ↓reduceIte, Nat.reduceAdd, Nat.reduceSub, Nat.reduceMul, Nat.reduceLeDiff, Nat.reduceEqDiff, Int.reduceLT, Int.reduceLE, Int.reduceEq, Int.reduceNe, Int.reduceAdd, Int.reduceSub, Int.reduceMul, Int.reduceNeg, Int.reduceToNat, reduceCtorEq, g3, binB_quok n84, ty, wy]
              refine ⟨kb, k + 1, by dsimp only; omega, ⟨by omega, by omega⟩, ?_⟩
              dsimp only
              rw [hp]
              refine weak_cutS 4 (by decide) (by simp) ?_ ?_
              · simp [AObj.low, lows, lows_padY, lows_ws, AV.low]
              · simp [WeakL, AV.low, lows, lows_bytes]
            · obtain rfl : k = 3 := by omega
              have n3 : ((3 : Nat) : Int) = 3 := rfl
              rw [hd] at hset
              generalize x0.toNat / 256 ^ (3 - j % 4) = y at *
              have ty : (y : Int).tmod 256 = ((y % 256 : Nat) : Int) := tm_nat y 256
              have wy := wrap_byte (x := y % 256) (Nat.mod_lt _ (by decide))
              have hset2 : List.take j (padY (digTo w j) 32) ++ [AV.imm (.int .u8 ((UInt8.ofNat (y % 256)).toNat : Int))] ++ List.drop (j + 1) (padY (digTo w j) 32) = padY (digTo w (j + 1)) 32 := hset
              simp (maxSteps := 2000000) -implicitDefEqProofs only [RS, RX, Nat.reduceLT, ↓RP0, ↓RP1, ↓RP2, ↓RP3, RV, RW, ↓reduceIte, Nat.reduceAdd, Nat.reduceSub, Nat.reduceMul, Nat.reduceLeDiff, Nat.reduceEqDiff, Int.reduceLT, Int.reduceLE, Int.reduceEq, Int.reduceNe, Int.reduceAdd, Int.reduceSub, Int.reduceMul, Int.reduceNeg, Int.reduceToNat, reduceCtorEq, n3, n32, f3, Int.lt_irrefl, ty, wy, pl, hset2, Nat.mul_one]
              refine ⟨by omega, jb, j + 1, by dsimp only; omega, by omega, ?_⟩
              refine weak_cutS 4 (by decide) (by simp) ?_ ?_
              · simp [AObj.low, lows, lows_padY, lows_ws, AV.low]
              · simp [WeakL, AV.low, lows, lows_bytes]
        · obtain rfl : j = 32 := by omega
          have hf : padY (digTo w 32) 32 = (digB w).map byteAV := padY_full tl
          rw [hf]
          have dl := digB_len w
          have dst : ((digB w).map byteAV).map AV.strip1 = (digB w).map byteAV := by simp [byteAV, AV.strip1]
          have dtk : ((digB w).map byteAV).take 32 = (digB w).map byteAV := List.take_of_length_le (by rw [bytes_len]; omega)
          have dln := bytes_len (digB w)
          have ptk : List.drop 32 (padY [] 32) = [] := List.drop_of_length_le (by rw [padY_len (by decide)]; decide)
          have pln := padY_len (l := []) (n := 32) (by decide)
          generalize digB w = d at *
          simp (maxSteps := 2000000) -implicitDefEqProofs only [RS, RX, Nat.reduceLT, ↓RP0, ↓RP1, ↓RP2, ↓RP3, RV, RW, ↓reduceIte, Nat.reduceAdd, Nat.reduceSub, Nat.reduceMul, Nat.reduceLeDiff, Nat.reduceEqDiff, Int.reduceLT, Int.reduceLE, Int.reduceEq, Int.reduceNe, Int.reduceAdd, Int.reduceSub, Int.reduceMul, Int.reduceNeg, Int.reduceToNat, reduceCtorEq, n32, Int.lt_irrefl, dst, dtk, dln, dl, ptk, pln]
end Go.AL.Path
