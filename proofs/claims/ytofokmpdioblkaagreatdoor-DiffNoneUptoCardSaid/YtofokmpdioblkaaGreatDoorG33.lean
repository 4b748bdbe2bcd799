/- A digest under way, byte by byte: the plain law. -/
import Derived.Test.YtofokmpdioblkaaGreatDoorG31
import Derived.Test.YtofokmpdioblkaaGreatDoorG32
set_option linter.unusedSimpArgs false
set_option linter.unusedVariables false
namespace Go.AL.Path
open Go Go.RowKit Go.Proofs Go.AL
structure HSt where
  w : List Wd
  p : List UInt8
  n : Nat
def feed1 (s : HSt) (b : UInt8) : HSt :=
  ⟨if (s.n + 1) % 64 = 0 then compressW s.w (s.p.set (s.n % 64) b) else s.w, s.p.set (s.n % 64) b, s.n + 1⟩
def feed (s : HSt) (l : List UInt8) : HSt := l.foldl feed1 s
def hst0 : HSt := ⟨firstL, List.replicate 64 0, 0⟩
theorem feed_nil (s : HSt) : feed s [] = s := rfl
theorem feed_cons (s : HSt) (b : UInt8) (l : List UInt8) : feed s (b :: l) = feed (feed1 s b) l := rfl
theorem feed_app (s : HSt) (a b : List UInt8) : feed s (a ++ b) = feed (feed s a) b := by unfold feed; rw [List.foldl_append]
theorem feed_n (l : List UInt8) : ∀ s, (feed s l).n = s.n + l.length := by
  induction l with
  | nil => intro s; rfl
  | cons b l ih => intro s; rw [feed_cons, ih]; simp [feed1]; omega
theorem feed_p (l : List UInt8) : ∀ s, (feed s l).p.length = s.p.length := by
  induction l with
  | nil => intro s; rfl
  | cons b l ih => intro s; rw [feed_cons, ih]; simp [feed1]
theorem feed_w (l : List UInt8) : ∀ s : HSt, s.w.length = 8 → (feed s l).w.length = 8 := by
  induction l with
  | nil => intro s h; exact h
  | cons b l ih =>
    intro s h
    rw [feed_cons]
    refine ih _ ?_
    unfold feed1
    dsimp only
    split
    · exact compress_len
    · exact h
/-- Bytes that end with the block, or ahead of its end. -/
theorem feed_seg (l : List UInt8) : ∀ s : HSt, l ≠ [] → s.p.length = 64 → s.n % 64 + l.length ≤ 64 →
    feed s l = ⟨if (s.n + l.length) % 64 = 0 then compressW s.w (s.p.take (s.n % 64) ++ l ++ s.p.drop (s.n % 64 + l.length)) else s.w, s.p.take (s.n % 64) ++ l ++ s.p.drop (s.n % 64 + l.length), s.n + l.length⟩ := by
  induction l with
  | nil => intro s h; exact absurd rfl h
  | cons b l ih =>
    intro s _ hp hl
    rw [List.length_cons] at hl
    have hset : s.p.set (s.n % 64) b = s.p.take (s.n % 64) ++ b :: s.p.drop (s.n % 64 + 1) := by
      rw [List.set_eq_take_append_cons_drop, if_pos (by omega)]
    rw [feed_cons]
    by_cases hn : l = []
    · subst hn
      rw [feed_nil]
      unfold feed1
      rw [hset]
      simp
    · have hpos : 0 < l.length := List.length_pos_iff.2 hn
      have h1 : (s.n + 1) % 64 ≠ 0 := by omega
      have h2 : (s.n + 1) % 64 = s.n % 64 + 1 := by omega
      rw [ih (feed1 s b) hn (by simp [feed1, hp]) (by simp only [feed1]; omega)]
      have e : (s.p.set (s.n % 64) b).take (s.n % 64 + 1) ++ l ++ (s.p.set (s.n % 64) b).drop (s.n % 64 + 1 + l.length) = s.p.take (s.n % 64) ++ b :: l ++ s.p.drop (s.n % 64 + (b :: l).length) := by
        rw [hset]
        have ht : (s.p.take (s.n % 64)).length = s.n % 64 := by rw [List.length_take]; omega
        have e1 : (s.p.take (s.n % 64) ++ b :: s.p.drop (s.n % 64 + 1)).take (s.n % 64 + 1) = s.p.take (s.n % 64) ++ [b] := by
          rw [List.take_append, ht, List.take_of_length_le (by omega)]
          simp
        have e2 : (s.p.take (s.n % 64) ++ b :: s.p.drop (s.n % 64 + 1)).drop (s.n % 64 + 1 + l.length) = s.p.drop (s.n % 64 + 1 + l.length) := by
          rw [List.drop_append, ht, List.drop_of_length_le (by omega)]
          have : s.n % 64 + 1 + l.length - s.n % 64 = l.length + 1 := by omega
          rw [this, List.drop_succ_cons, List.drop_drop]
          simp
        rw [e1, e2, List.length_cons]
        simp [Nat.add_assoc, Nat.add_comm 1 l.length]
      simp only [feed1, if_neg h1]
      rw [h2]
      rw [e]
      simp only [List.length_cons]
      have h3 : s.n + 1 + l.length = s.n + (l.length + 1) := by omega
      rw [h3]
theorem hashTo_app (l m : List UInt8) : ∀ k, 64 * k ≤ l.length → hashTo (l ++ m) k = hashTo l k
  | 0, _ => rfl
  | k + 1, h => by
    have hb : blk (l ++ m) k = blk l k := by
      unfold blk
      rw [List.drop_append_of_le_length (by omega), List.take_append_of_le_length (by rw [List.length_drop]; omega)]
    rw [hashTo, hashTo, hb, hashTo_app l m k (by omega)]
theorem snoc_ind {α : Type} {P : List α → Prop} (h0 : P []) (h1 : ∀ l a, P l → P (l ++ [a])) (l : List α) : P l := by
  have : ∀ n (l : List α), l.length = n → P l := by
    intro n
    induction n with
    | zero => intro l h; rw [List.length_eq_zero_iff.1 h]; exact h0
    | succ n ih =>
      intro l h
      have hn : l ≠ [] := by rintro rfl; simp at h
      rw [← List.dropLast_concat_getLast hn]
      exact h1 _ _ (ih _ (by rw [List.length_dropLast]; omega))
  exact this _ l rfl
theorem feed_hash (l : List UInt8) : (feed hst0 l).w = hashTo l (l.length / 64) ∧ (feed hst0 l).p.take (l.length % 64) = l.drop (64 * (l.length / 64)) := by
  refine snoc_ind (P := fun l => (feed hst0 l).w = hashTo l (l.length / 64) ∧ (feed hst0 l).p.take (l.length % 64) = l.drop (64 * (l.length / 64))) ⟨rfl, rfl⟩ ?_ l
  · rintro l b ⟨ih1, ih2⟩
    have hn : (feed hst0 l).n = l.length := by rw [feed_n]; simp [hst0]
    have hp : (feed hst0 l).p.length = 64 := by rw [feed_p]; rfl
    rw [feed_app, feed_cons, feed_nil]
    unfold feed1
    rw [hn, List.length_append, List.length_singleton]
    dsimp only
    generalize feed hst0 l = s at *
    have hset : s.p.set (l.length % 64) b = s.p.take (l.length % 64) ++ b :: s.p.drop (l.length % 64 + 1) := by
      rw [List.set_eq_take_append_cons_drop, if_pos (by omega)]
    by_cases h : (l.length + 1) % 64 = 0
    · have hd : (l.length + 1) / 64 = l.length / 64 + 1 := by omega
      have hlb : blk (l ++ [b]) (l.length / 64) = s.p.set (l.length % 64) b := by
        unfold blk
        rw [hset, ih2, List.drop_append_of_le_length (by omega), List.drop_of_length_le (l := s.p) (by omega)]
        exact List.take_of_length_le (by rw [List.length_append, List.length_drop, List.length_singleton]; omega)
      rw [if_pos h, hd]
      refine ⟨?_, ?_⟩
      · rw [hashTo, hlb, hashTo_app _ _ _ (by omega), ih1]
      · rw [h, List.take_zero, List.drop_of_length_le (by rw [List.length_append, List.length_singleton]; omega)]
    · have hd : (l.length + 1) / 64 = l.length / 64 := by omega
      have hm : (l.length + 1) % 64 = l.length % 64 + 1 := by omega
      rw [if_neg h, hd, hm]
      refine ⟨?_, ?_⟩
      · rw [ih1, hashTo_app _ _ _ (by omega)]
      · have ht : (s.p.take (l.length % 64)).length = l.length % 64 := by rw [List.length_take]; omega
        rw [hset, List.take_append, ht, List.take_of_length_le (by omega), ih2, List.drop_append_of_le_length (by omega)]
        simp
theorem feed_sum (b : List UInt8) : digB (feed (feed hst0 b) (padB b.length)).w = sumB b := by
  rw [← feed_app]
  unfold sumB
  rw [(feed_hash (b ++ padB b.length)).1]; rfl
end Go.AL.Path

/- Bytes written into a digest under way. -/
set_option linter.unusedSimpArgs false
set_option linter.unusedVariables false
set_option maxRecDepth 100000
namespace Go.AL.Path
open Go Go.RowKit Go.Proofs Go.AL
def hashC3 (w : List Wd) (p : List UInt8) (n : Nat) : List AV := w.map w32 ++ (p.map byteAV ++ [i64 (n : Nat)])
def hashC (s : HSt) : List AV := hashC3 s.w s.p s.n
section
variable {w : List Wd} {p : List UInt8} {n : Nat}
theorem hashC3_len (hw : w.length = 8) (hp : p.length = 64) : (hashC3 w p n).length = 73 := by simp [hashC3, hw, hp]
theorem hashC3_n (hw : w.length = 8) (hp : p.length = 64) : (hashC3 w p n)[72]? = some (i64 (n : Nat)) := by
  unfold hashC3
  rw [List.getElem?_append_right (by simp [hw]), List.getElem?_append_right (by simp [hw, hp])]
  simp [hw, hp]
theorem hashC3_w (hw : w.length = 8) : (hashC3 w p n).take 8 = w.map w32 := by unfold hashC3; rw [List.take_left' (by simp [hw])]
theorem hashC3_p (hw : w.length = 8) (hp : p.length = 64) : ((hashC3 w p n).drop 8).take 64 = p.map byteAV := by unfold hashC3; rw [List.drop_left' (by simp [hw]), List.take_left' (by simp [hp])]
theorem hashC3_setN (hw : w.length = 8) (hp : p.length = 64) (m : Nat) : (hashC3 w p n).take 72 ++ [i64 (m : Nat)] ++ (hashC3 w p n).drop 73 = hashC3 w p m := by
  have e : ∀ k : Nat, hashC3 w p k = (w.map w32 ++ p.map byteAV) ++ [i64 (k : Nat)] := fun k => by simp [hashC3]
  have hl : (w.map w32 ++ p.map byteAV).length = 72 := by simp [hw, hp]
  rw [e, e, List.take_left' hl, List.drop_of_length_le (by simp [hw, hp])]
  simp
theorem hashC3_setW (hw : w.length = 8) (v : List Wd) : (hashC3 w p n).take 0 ++ v.map w32 ++ (hashC3 w p n).drop (0 + 8) = hashC3 v p n := by
  unfold hashC3; rw [List.drop_left' (by simp [hw])]; simp
theorem hashC3_seg (hw : w.length = 8) (hp : p.length = 64) {at0 : Nat} {seg : List UInt8} (hs : at0 + seg.length ≤ 64) :
    (hashC3 w p n).take (8 + at0) ++ seg.map byteAV ++ (hashC3 w p n).drop (8 + at0 + seg.length) = hashC3 w (p.take at0 ++ seg ++ p.drop (at0 + seg.length)) n := by
  unfold hashC3
  have hl : (w.map w32).length = 8 := by simp [hw]
  rw [List.take_append, List.drop_append, hl, List.take_of_length_le (by omega), List.drop_of_length_le (by omega)]
  have e1 : 8 + at0 - 8 = at0 := by omega
  have e2 : 8 + at0 + seg.length - 8 = at0 + seg.length := by omega
  rw [e1, e2, List.take_append_of_le_length (by simp; omega), List.drop_append_of_le_length (by simp; omega)]
  simp [List.map_take, List.map_drop]
theorem lows_hash (k : Nat) : lows k (hashC3 w p n) := by
  have h2 : ∀ a b : List AV, lows k a → lows k b → lows k (a ++ b) := fun a b ha hb => by
    induction a with | nil => exact hb | cons x a ih => exact ⟨ha.1, ih ha.2⟩
  exact h2 _ _ (lows_ws k w) (h2 _ _ (lows_bytes k p) ⟨trivial, trivial⟩)
end
theorem flat_bytesA (l : List UInt8) : (l.map byteAV).flatMap AV.cells = l.map byteAV := by
  induction l with
  | nil => rfl
  | cons b l ih => rw [List.map_cons, List.flatMap_cons, ih]; rfl
def c63 : ACode := (.seq (.seq (.reg false 0 [⟨(.some 6), none, (.q .mv), [(.t 0)]⟩, ⟨(.some 7), none, (.q (.pnil false)), [(.t 6), (.c (.imm (.pointer none)))]⟩]) (.cond (.t 7) .ret .skip)) (.block 0 (.loop (.seq (.seq (.reg false 0 [⟨(.some 8), none, (.q .mv), [(.t 1)]⟩, ⟨(.some 9), none, (.q .lenL), [(.t 8)]⟩, ⟨(.some 10), none, (.q (.bin .gtr 3)), [(.t 9), (.c (.imm (.int .i64 0)))]⟩]) (.cond (.t 10) .skip (.exit 0))) (.block 1 (.seq (.reg false 0 [⟨(.some 11), none, (.q .mv), [(.t 0)]⟩, ⟨(.some 12), none, (.q .nilchk), [(.t 11)]⟩, ⟨(.some 13), none, (.q (.faddr 72)), [(.t 12)]⟩, ⟨(.some 14), none, (.l .load1), [(.t 13)]⟩, ⟨(.some 15), none, (.q (.bin .rem 2)), [(.t 14), (.c (.imm (.int .i64 64)))]⟩, ⟨(.some 4), none, (.q .mv), [(.t 15)]⟩]) (.seq (.reg false 0 [⟨(.some 16), none, (.q .mv), [(.t 0)]⟩, ⟨(.some 17), none, (.q .nilchk), [(.t 16)]⟩, ⟨(.some 18), none, (.q (.faddr 8)), [(.t 17)]⟩, ⟨(.some 19), none, (.q .mv), [(.t 4)]⟩, ⟨(.some 20), none, (.q (.slArrW 64 true false)), [(.t 18), (.t 19)]⟩, ⟨(.some 21), none, (.q .mv), [(.t 1)]⟩, ⟨(.some 22), none, (.e (.copy 1)), [(.t 20), (.t 21)]⟩, ⟨(.some 5), none, (.q .mv), [(.t 22)]⟩]) (.seq (.reg false 0 [⟨(.some 23), none, (.q .mv), [(.t 1)]⟩, ⟨(.some 24), none, (.q .mv), [(.t 5)]⟩, ⟨(.some 25), none, (.q (.sliceL 1 true false false)), [(.t 23), (.t 24)]⟩, ⟨(.some 1), none, (.q .mv), [(.t 25)]⟩]) (.seq (.reg false 0 [⟨(.some 26), none, (.q .mv), [(.t 0)]⟩, ⟨(.some 27), none, (.q .nilchk), [(.t 26)]⟩, ⟨(.some 28), none, (.q (.faddr 72)), [(.t 27)]⟩, ⟨(.some 29), none, (.l .load1), [(.t 28)]⟩, ⟨(.some 30), none, (.q .mv), [(.t 5)]⟩, ⟨(.some 31), none, (.q (.bin .add 2)), [(.t 29), (.t 30)]⟩, ⟨(.some 32), none, (.q .nilchk), [(.t 26)]⟩, ⟨(.some 33), none, (.q (.faddr 72)), [(.t 32)]⟩, ⟨none, none, (.e (.store 1)), [(.t 33), (.t 31)]⟩]) (.seq (.reg false 0 [⟨(.some 34), none, (.q .mv), [(.t 0)]⟩, ⟨(.some 35), none, (.q .nilchk), [(.t 34)]⟩, ⟨(.some 36), none, (.q (.faddr 72)), [(.t 35)]⟩, ⟨(.some 37), none, (.l .load1), [(.t 36)]⟩, ⟨(.some 38), none, (.q (.bin .rem 2)), [(.t 37), (.c (.imm (.int .i64 64)))]⟩, ⟨(.some 39), none, (.q (.bin .eql 2)), [(.t 38), (.c (.imm (.int .i64 0)))]⟩]) (.cond (.t 39) (.reg true 0 [⟨(.some 40), none, (.q .mv), [(.t 0)]⟩, ⟨(.some 41), none, (.q .mv), [(.t 0)]⟩, ⟨(.some 42), none, (.q .nilchk), [(.t 41)]⟩, ⟨(.some 43), none, (.q (.faddr 0)), [(.t 42)]⟩, ⟨(.some 44), none, (.l (.loadA 8)), [(.t 43)]⟩, ⟨(.some 45), none, (.q .mv), [(.t 0)]⟩, ⟨(.some 46), none, (.q .nilchk), [(.t 45)]⟩, ⟨(.some 47), none, (.q (.faddr 8)), [(.t 46)]⟩, ⟨(.some 48), none, (.l (.loadA 64)), [(.t 47)]⟩, ⟨(.some 49), none, (.call true), [(.c (.fn (.func 76) [] [])), (.t 44), (.t 48)]⟩, ⟨(.some 50), none, (.q .nilchk), [(.t 40)]⟩, ⟨(.some 51), none, (.q (.faddr 0)), [(.t 50)]⟩, ⟨none, none, (.e (.store 8)), [(.t 51), (.t 49)]⟩]) .skip)))))))))))
theorem fn63 : IsFn Tryz.prog 63 (List.range 200) c63 [] 52 := ⟨_, _, Tryz.func63, rfl, by decide +kernel, by kernel_rfl, rfl, rfl⟩
set_option maxHeartbeats 8000000 in
theorem o63 (s : HSt) (l : List UInt8) (hw : s.w.length = 8) (hp : s.p.length = 64) (hn : s.n + l.length ≤ 1125899906842624) {H : List AObj} {id : Nat} (hH : H[id]? = some (.box (hashC s))) (hlow : ∀ o ∈ H, o.low H.length) :
    Ok Tryz.prog G 63 [.ptr id 0, bytesV l] H (.tup []) (H.set id (.box (hashC (feed s l)))) := by
  have hid : id < H.length := SimH.lt hH
  have hself := RowH_self hH
  have lowH : ∀ s : HSt, ∀ o ∈ H.set id (.box (hashC s)), o.low H.length := by
    intro s o ho'
    rcases List.mem_or_eq_of_mem_set ho' with h | h
    · exact hlow o h
    · subst h; exact lows_hash _
  refine ok_of_code (S := sp [(76, compS)] []) hm hG (sp_holds (.cons told_comp76 .nil) .nil) fn63
    (St 6 52 [.ptr id 0, bytesV l, .junk, .junk, .junk, .junk] []) (by kernel_rfl) (by simp [AV.low, lows]) (by simp) (by rw [List.length_set]; exact lowH _) ?_
  generalize hn0 : H.length = N
  rw [hself]
  simp (maxSteps := 2000000) -implicitDefEqProofs only [c63, RS, RX, Nat.reduceLT, ↓RP0, ↓RP1, ↓RP2, ↓RP3, RV, RW, ↓reduceIte, Nat.reduceAdd, Nat.reduceSub, Nat.reduceMul, Nat.reduceLeDiff, Nat.reduceEqDiff, Int.reduceLT, Int.reduceLE, Int.reduceEq, Int.reduceNe, Int.reduceAdd, Int.reduceSub, Int.reduceMul, Int.reduceNeg, Int.reduceToNat, reduceCtorEq, RowH_id hid]
  refine loopB (st := fun (i : Nat) => (St 6 52 [.ptr id 0, bytesV (l.drop i), .junk, .junk, .junk, .junk] [])) (hp := fun i => RowH H id (.box (hashC (feed s (l.take i)))) []) (I := fun i => i ≤ l.length) (m := fun i => l.length - i) (0 : Nat) (Nat.zero_le _) ?_ ?_
  · subst hn0
    refine weak_cutS H.length (Nat.le_refl _) ?_ ?_ ?_
    · rw [RowH_take, RowH_nil]; rfl
    · rw [RowH_nil]; exact lowH _
    · simp [WeakL, AV.low, lows, lows_bytes, hid]
  · intro i hi
    have wl := feed_w (l.take i) s hw
    have pl : (feed s (l.take i)).p.length = 64 := by rw [feed_p, hp]
    have nl : (feed s (l.take i)).n = s.n + i := by rw [feed_n, List.length_take, Nat.min_eq_left hi]
    have ll : ((l.drop i).map byteAV).length = l.length - i := by simp
    by_cases hlt : i < l.length
    · have e1 : ((0 : Int) < ((l.length - i : Nat) : Int)) = True := eq_true (by omega)
      have hrest : feed s (l.take (i + min (l.length - i) (64 - (s.n + i) % 64))) = feed (feed s (l.take i)) ((l.drop i).take (min (l.length - i) (64 - (s.n + i) % 64))) := by
        rw [← feed_app]; congr 1
        rw [List.take_add]
      have hk0 : min (l.length - i) (64 - (s.n + i) % 64) ≤ l.length - i := Nat.min_le_left _ _
      have hk1 : min (l.length - i) (64 - (s.n + i) % 64) ≤ 64 - (s.n + i) % 64 := Nat.min_le_right _ _
      have hkp : 0 < min (l.length - i) (64 - (s.n + i) % 64) := by omega
      have htk : ((l.drop i).map byteAV).take (64 - (s.n + i) % 64) = ((l.drop i).take (min (l.length - i) (64 - (s.n + i) % 64))).map byteAV := by
        rw [← List.map_take]
        congr 1
        rcases Nat.le_total (l.length - i) (64 - (s.n + i) % 64) with h | h
        · rw [Nat.min_eq_left h, List.take_of_length_le (by rw [List.length_drop]; exact h), List.take_of_length_le (by rw [List.length_drop]; exact Nat.le_refl _)]
        · rw [Nat.min_eq_right h]
      generalize hk : min (l.length - i) (64 - (s.n + i) % 64) = k at *
      have segl : ((l.drop i).take k).length = k := by rw [List.length_take, List.length_drop]; omega
      have hseg := feed_seg ((l.drop i).take k) (feed s (l.take i)) (by intro h; rw [h] at segl; simp at segl; omega) pl (by rw [segl, nl]; omega)
      rw [segl, nl] at hseg
      rw [hseg] at hrest
      have hdrop : ((l.drop i).map byteAV).drop k = (l.drop (i + k)).map byteAV := by rw [← List.map_drop, List.drop_drop]
      have htake : ((l.drop i).map byteAV).take (l.length - i) = (l.drop i).map byteAV := List.take_of_length_le (by rw [ll]; exact Nat.le_refl _)
      generalize hS : feed s (l.take i) = S at *
      have hC : hashC S = hashC3 S.w S.p (s.n + i) := by rw [hashC, nl]
      have hat : (s.n + i) % 64 < 64 := Nat.mod_lt _ (by decide)
      have hpart := hashC3_seg (n := s.n + i) wl pl (at0 := (s.n + i) % 64) (seg := (l.drop i).take k) (by rw [segl]; omega)
      rw [segl] at hpart
      have hpl' : (S.p.take ((s.n + i) % 64) ++ (l.drop i).take k ++ S.p.drop ((s.n + i) % 64 + k)).length = 64 := by
        rw [List.length_append, List.length_append, segl, List.length_take, List.length_drop, pl]
        omega
      generalize hp' : S.p.take ((s.n + i) % 64) ++ (l.drop i).take k ++ S.p.drop ((s.n + i) % 64 + k) = p' at *
      have g72 := hashC3_n (n := s.n + i) wl pl
      have g72' := hashC3_n (n := s.n + i) wl hpl'
      have g72'' := hashC3_n (n := s.n + i + k) wl hpl'
      have hl1 := hashC3_len (n := s.n + i) wl pl
      have hl2 := hashC3_len (n := s.n + i) wl hpl'
      have hl3 := hashC3_len (n := s.n + i + k) wl hpl'
      have hst := hashC3_setN (n := s.n + i) wl hpl' (s.n + i + k)
      have r1 : ((s.n + i : Nat) : Int).tmod 64 = (((s.n + i) % 64 : Nat) : Int) := tm_nat _ 64
      have r2 : ((s.n + i + k : Nat) : Int).tmod 64 = (((s.n + i + k) % 64 : Nat) : Int) := tm_nat _ 64
      have a1 : ((s.n + i : Nat) : Int) + (k : Int) = ((s.n + i + k : Nat) : Int) := by omega
      have hkz : (k = 0) = False := eq_false (by omega)
      have hkz' : (0 < k) = True := eq_true hkp
      have flb := flat_bytesA ((l.drop i).take k)
      rw [hC]
      by_cases hm0 : (s.n + i + k) % 64 = 0
      · have e2 : ((((s.n + i + k) % 64 : Nat) : Int) = 0) = True := eq_true (by omega)
        have rl : ∀ o, ((RowH H id o []).length ≤ id) = False := fun o => eq_false (by rw [RowH_length]; simp; exact hid)
        have tw := hashC3_w (p := p') (n := s.n + i + k) wl
        have tp := hashC3_p (n := s.n + i + k) wl hpl'
        have sw := ws_strip S.w
        have sp' : (p'.map byteAV).map AV.strip1 = p'.map byteAV := by simp [byteAV, AV.strip1]
        have q76 : ∀ K, ask compS [wsV S.w, .agg (p'.map byteAV)] K = K (wsV (compressW S.w p')) := fun K => ask_compS wl hpl'
        have cl : ((compressW S.w p').map w32).length = 8 := by rw [ws_len, compress_len]
        have hsw : (compressW S.w p').map w32 ++ (hashC3 S.w p' (s.n + i + k)).drop 8 = hashC3 (compressW S.w p') p' (s.n + i + k) := by
          have := hashC3_setW (p := p') (n := s.n + i + k) wl (compressW S.w p')
          simpa using this
        simp (maxSteps := 2000000) -implicitDefEqProofs only [RS, RX, Nat.reduceLT, ↓RP0, ↓RP1, ↓RP2, ↓RP3, RV, RW, ↓reduceIte, Nat.reduceAdd, Nat.reduceSub, Nat.reduceMul, Nat.reduceLeDiff, Nat.reduceEqDiff, Int.reduceLT, Int.reduceLE, Int.reduceEq, Int.reduceNe, Int.reduceAdd, Int.reduceSub, Int.reduceMul, Int.reduceNeg, Int.reduceToNat, reduceCtorEq, rl, ↓reduceIte, if_false, tw, tp, sw, sp', ↓q76, q76, cl, hsw, e1, ll, RowH_id hid, RowH_setId hid, g72, g72', g72'', r1, r2, htk, flb, hpart, hk, hkz, hkz', false_and, false_or, hl1, hl2, hl3, hst, a1, hdrop, htake, e2, Int.toNat_natCast]
        refine ⟨by omega, .inl trivial, by omega, .inl trivial, by omega, ⟨by omega, by omega⟩, i + k, by dsimp only; omega, by omega, ?_⟩
        dsimp only
        rw [hrest, if_pos hm0]
        subst hn0
        refine weak_cutS H.length (Nat.le_refl _) ?_ ?_ ?_
        · rw [RowH_take, RowH_nil]; rfl
        · rw [RowH_nil]; exact lowH _
        · have lb := lows_bytes H.length (l.drop (i + k))
          generalize l.drop (i + k) = L at *
          simp [WeakL, AV.low, lows, lb, hid]
      · have e2 : ((((s.n + i + k) % 64 : Nat) : Int) = 0) = False := eq_false (by omega)
        simp (maxSteps := 2000000) -implicitDefEqProofs only [RS, RX, Nat.reduceLT, ↓RP0, ↓RP1, ↓RP2, ↓RP3, RV, RW, ↓reduceIte, Nat.reduceAdd, Nat.reduceSub, Nat.reduceMul, Nat.reduceLeDiff, Nat.reduceEqDiff, Int.reduceLT, Int.reduceLE, Int.reduceEq, Int.reduceNe, Int.reduceAdd, Int.reduceSub, Int.reduceMul, Int.reduceNeg, Int.reduceToNat, reduceCtorEq, e1, ll, RowH_id hid, RowH_setId hid, g72, g72', g72'', r1, r2, htk, flb, hpart, hk, hkz, hkz', false_and, false_or, hl1, hl2, hl3, hst, a1, hdrop, htake, e2, Int.toNat_natCast]
        refine ⟨by omega, .inl trivial, by omega, .inl trivial, by omega, ⟨by omega, by omega⟩, i + k, by dsimp only; omega, by omega, ?_⟩
        dsimp only
        rw [hrest, if_neg hm0]
        subst hn0
        refine weak_cutS H.length (Nat.le_refl _) ?_ ?_ ?_
        · rw [RowH_take, RowH_nil]; rfl
        · rw [RowH_nil]; exact lowH _
        · have lb := lows_bytes H.length (l.drop (i + k))
          generalize l.drop (i + k) = L at *
          simp [WeakL, AV.low, lows, lb, hid]
    · obtain rfl : i = l.length := by omega
      have e1 : ((0 : Int) < ((l.length - l.length : Nat) : Int)) = False := eq_false (by omega)
      rw [List.take_length]
      simp (maxSteps := 2000000) -implicitDefEqProofs only [RS, RX, Nat.reduceLT, ↓RP0, ↓RP1, ↓RP2, ↓RP3, RV, RW, ↓reduceIte, Nat.reduceAdd, Nat.reduceSub, Nat.reduceMul, Nat.reduceLeDiff, Nat.reduceEqDiff, Int.reduceLT, Int.reduceLE, Int.reduceEq, Int.reduceNe, Int.reduceAdd, Int.reduceSub, Int.reduceMul, Int.reduceNeg, Int.reduceToNat, reduceCtorEq, e1, ll, RowH_id hid]
      rw [retO_normal, RowH_setId hid]
      exact ⟨rfl, List.take_length⟩
/-- Write, as a specification. -/
def writeT : TSp := fun args H K => ∃ (id : Nat) (s : HSt) (l : List UInt8), args = [.ptr id 0, bytesV l] ∧ H[id]? = some (.box (hashC s)) ∧ (s.w.length = 8 ∧ s.p.length = 64 ∧ s.n + l.length ≤ 1125899906842624) ∧ (∀ o ∈ H, o.low H.length) ∧ K (.tup []) (H.set id (.box (hashC (feed s l))))
theorem toldT_write : ToldT Tryz.prog G 63 writeT := by
  rintro args H K ⟨id, s, l, rfl, h1, ⟨h2, h3, h4⟩, h5, h6⟩
  exact ⟨_, _, o63 s l h2 h3 h4 h1 h5, h6⟩
end Go.AL.Path

/- A digest, told. -/
set_option linter.unusedSimpArgs false
set_option linter.unusedVariables false
set_option maxRecDepth 100000
namespace Go.AL.Path
open Go Go.RowKit Go.Proofs Go.AL
def c62 : ACode := (.seq (.reg false 0 [⟨(.some 0), none, (.q .mv), [(.c (.imm (.pointer none)))]⟩]) (.seq (.reg false 1 [⟨(.some 1), none, (.call true), [(.c (.fn (.func 75) [] []))]⟩, ⟨(.some 2), none, (.q (.build [(.imm (.int .u32 0)), (.imm (.int .u32 0)), (.imm (.int .u32 0)), (.imm (.int .u32 0)), (.imm (.int .u32 0)), (.imm (.int .u32 0)), (.imm (.int .u32 0)), (.imm (.int .u32 0)), (.imm (.int .u8 0)), (.imm (.int .u8 0)), (.imm (.int .u8 0)), (.imm (.int .u8 0)), (.imm (.int .u8 0)), (.imm (.int .u8 0)), (.imm (.int .u8 0)), (.imm (.int .u8 0)), (.imm (.int .u8 0)), (.imm (.int .u8 0)), (.imm (.int .u8 0)), (.imm (.int .u8 0)), (.imm (.int .u8 0)), (.imm (.int .u8 0)), (.imm (.int .u8 0)), (.imm (.int .u8 0)), (.imm (.int .u8 0)), (.imm (.int .u8 0)), (.imm (.int .u8 0)), (.imm (.int .u8 0)), (.imm (.int .u8 0)), (.imm (.int .u8 0)), (.imm (.int .u8 0)), (.imm (.int .u8 0)), (.imm (.int .u8 0)), (.imm (.int .u8 0)), (.imm (.int .u8 0)), (.imm (.int .u8 0)), (.imm (.int .u8 0)), (.imm (.int .u8 0)), (.imm (.int .u8 0)), (.imm (.int .u8 0)), (.imm (.int .u8 0)), (.imm (.int .u8 0)), (.imm (.int .u8 0)), (.imm (.int .u8 0)), (.imm (.int .u8 0)), (.imm (.int .u8 0)), (.imm (.int .u8 0)), (.imm (.int .u8 0)), (.imm (.int .u8 0)), (.imm (.int .u8 0)), (.imm (.int .u8 0)), (.imm (.int .u8 0)), (.imm (.int .u8 0)), (.imm (.int .u8 0)), (.imm (.int .u8 0)), (.imm (.int .u8 0)), (.imm (.int .u8 0)), (.imm (.int .u8 0)), (.imm (.int .u8 0)), (.imm (.int .u8 0)), (.imm (.int .u8 0)), (.imm (.int .u8 0)), (.imm (.int .u8 0)), (.imm (.int .u8 0)), (.imm (.int .u8 0)), (.imm (.int .u8 0)), (.imm (.int .u8 0)), (.imm (.int .u8 0)), (.imm (.int .u8 0)), (.imm (.int .u8 0)), (.imm (.int .u8 0)), (.imm (.int .u8 0)), (.imm (.int .i64 0))] [(0, 8)])), [(.t 1)]⟩, ⟨(.some 3), none, (.m .box 0), [(.t 2)]⟩, ⟨(.some 0), none, (.q .mv), [(.t 3)]⟩]) .ret))
theorem fn62 : IsFn Tryz.prog 62 [] c62 [0] 4 := ⟨_, _, Tryz.func62, rfl, by decide +kernel, by kernel_rfl, rfl, rfl⟩
set_option maxHeartbeats 8000000 in
theorem o62 (o : List AV) (ho : ∀ n, lows n o) : Ok Tryz.prog G 62 [] [.box o] (.ptr 1 0) [.box o, .box (hashC hst0)] := by
  refine ok_of_code (S := sp [(75, none0 (wsV firstL))] []) hm hG (sp_holds (.cons (told_none0 p75w) .nil) .nil) fn62
    (St 1 4 [.junk] []) (by kernel_rfl) (by simp [AV.low]) (by simp) (by simp [AObj.low, ho]; exact lows_hash _) ?_
  have fl : (firstL.map w32).length = 8 := by rw [ws_len]; rfl
  have fs := ws_strip firstL
  have hc : firstL.map w32 ++ (List.replicate 64 (AV.imm (.int .u8 0)) ++ [AV.imm (.int .i64 0)]) = hashC hst0 := by kernel_rfl
  simp (maxSteps := 2000000) -implicitDefEqProofs only [c62, RS, RX, Nat.reduceLT, ↓RP0, ↓RP1, ↓RP2, ↓RP3, RV, RW, ↓reduceIte, Nat.reduceAdd, Nat.reduceSub, Nat.reduceMul, Nat.reduceLeDiff, Nat.reduceEqDiff, Int.reduceLT, Int.reduceLE, Int.reduceEq, Int.reduceNe, Int.reduceAdd, Int.reduceSub, Int.reduceMul, Int.reduceNeg, Int.reduceToNat, reduceCtorEq, ↓ask_none0, ask_none0, fl, fs]
  rw [retO_ret]
  exact ⟨rfl, by kernel_rfl⟩
def newT : TSp := fun args H K => ∃ o : List AV, args = [] ∧ H = [.box o] ∧ (∀ n, lows n o) ∧ K (.ptr 1 0) [.box o, .box (hashC hst0)]
theorem toldT_new : ToldT Tryz.prog G 62 newT := by
  rintro args H K ⟨o, rfl, rfl, h1, h2⟩
  exact ⟨_, _, o62 o h1, h2⟩
theorem hashC_len {s : HSt} (hw : s.w.length = 8) (hp : s.p.length = 64) : (hashC s).length = 73 := hashC3_len hw hp
theorem askT_write {id : Nat} {s : HSt} {l : List UInt8} {H : List AObj} {K : AV → List AObj → Prop} (h1 : H[id]? = some (.box (hashC s))) (h2 : s.w.length = 8 ∧ s.p.length = 64 ∧ s.n + l.length ≤ 1125899906842624) (h3 : ∀ o ∈ H, o.low H.length)
    (h : K (.tup []) (H.set id (.box (hashC (feed s l))))) : askT writeT [.ptr id 0, bytesV l] H K := ⟨id, s, l, rfl, h1, h2, h3, h⟩
theorem shift_word {x k : Nat} (hk : k < 4) : IntKind.u8.wrap ((x : Int).fdiv (2 ^ (min (8 * (3 - (k : Int))).toNat IntKind.u32.bits))) = ((UInt8.ofNat (x / 256 ^ (3 - k) % 256)).toNat : Int) := by
  have e1 : (8 * (3 - (k : Int))).toNat = 8 * (3 - k) := by omega
  have e2 : min (8 * (3 - k)) IntKind.u32.bits = 8 * (3 - k) := Nat.min_eq_left (by show 8 * (3 - k) ≤ 32; omega)
  rw [e1, e2]
  have e4 : ((2 : Int) ^ (8 * (3 - k))) = ((256 ^ (3 - k) : Nat) : Int) := by rw [← pow_256]; norm_cast
  rw [e4, Int.fdiv_eq_ediv_of_nonneg _ (Int.natCast_nonneg _)]
  have e5 : ((x : Int) / ((256 ^ (3 - k) : Nat) : Int)) = ((x / 256 ^ (3 - k) : Nat) : Int) := by norm_cast
  rw [e5]
  simp [IntKind.wrap, IntKind.bits, IntKind.signed]
def c64 : ACode := (.seq (.reg false 1 [⟨(.some 2), none, (.m (.alloc [(.imm (.int .u8 0)), (.imm (.int .u8 0)), (.imm (.int .u8 0)), (.imm (.int .u8 0)), (.imm (.int .u8 0)), (.imm (.int .u8 0)), (.imm (.int .u8 0)), (.imm (.int .u8 0)), (.imm (.int .u8 0)), (.imm (.int .u8 0)), (.imm (.int .u8 0)), (.imm (.int .u8 0)), (.imm (.int .u8 0)), (.imm (.int .u8 0)), (.imm (.int .u8 0)), (.imm (.int .u8 0)), (.imm (.int .u8 0)), (.imm (.int .u8 0)), (.imm (.int .u8 0)), (.imm (.int .u8 0)), (.imm (.int .u8 0)), (.imm (.int .u8 0)), (.imm (.int .u8 0)), (.imm (.int .u8 0)), (.imm (.int .u8 0)), (.imm (.int .u8 0)), (.imm (.int .u8 0)), (.imm (.int .u8 0)), (.imm (.int .u8 0)), (.imm (.int .u8 0)), (.imm (.int .u8 0)), (.imm (.int .u8 0))] false) 0), []⟩]) (.seq (.reg false 1 [⟨(.some 3), none, (.m (.alloc [(.imm (.int .u8 0)), (.imm (.int .u8 0)), (.imm (.int .u8 0)), (.imm (.int .u8 0)), (.imm (.int .u8 0)), (.imm (.int .u8 0)), (.imm (.int .u8 0)), (.imm (.int .u8 0)), (.imm (.int .u8 0)), (.imm (.int .u8 0)), (.imm (.int .u8 0)), (.imm (.int .u8 0)), (.imm (.int .u8 0)), (.imm (.int .u8 0)), (.imm (.int .u8 0)), (.imm (.int .u8 0)), (.imm (.int .u8 0)), (.imm (.int .u8 0)), (.imm (.int .u8 0)), (.imm (.int .u8 0)), (.imm (.int .u8 0)), (.imm (.int .u8 0)), (.imm (.int .u8 0)), (.imm (.int .u8 0)), (.imm (.int .u8 0)), (.imm (.int .u8 0)), (.imm (.int .u8 0)), (.imm (.int .u8 0)), (.imm (.int .u8 0)), (.imm (.int .u8 0)), (.imm (.int .u8 0)), (.imm (.int .u8 0))] false) 0), []⟩]) (.seq (.seq (.reg false 0 [⟨(.some 8), none, (.q .mv), [(.t 0)]⟩, ⟨(.some 9), none, (.q (.pnil false)), [(.t 8), (.c (.imm (.pointer none)))]⟩]) (.cond (.t 9) (.seq (.reg false 0 [⟨(.some 10), none, (.l (.loadA 32)), [(.t 3)]⟩, ⟨none, none, (.e (.store 32)), [(.t 2), (.t 10)]⟩]) .ret) .skip)) (.seq (.reg false 1 [⟨(.some 11), none, (.q .mv), [(.t 0)]⟩, ⟨(.some 12), none, (.q .nilchk), [(.t 11)]⟩, ⟨(.some 13), none, (.l (.loadA 73)), [(.t 12)]⟩, ⟨(.some 4), none, (.m (.alloc [(.imm (.int .u32 0)), (.imm (.int .u32 0)), (.imm (.int .u32 0)), (.imm (.int .u32 0)), (.imm (.int .u32 0)), (.imm (.int .u32 0)), (.imm (.int .u32 0)), (.imm (.int .u32 0)), (.imm (.int .u8 0)), (.imm (.int .u8 0)), (.imm (.int .u8 0)), (.imm (.int .u8 0)), (.imm (.int .u8 0)), (.imm (.int .u8 0)), (.imm (.int .u8 0)), (.imm (.int .u8 0)), (.imm (.int .u8 0)), (.imm (.int .u8 0)), (.imm (.int .u8 0)), (.imm (.int .u8 0)), (.imm (.int .u8 0)), (.imm (.int .u8 0)), (.imm (.int .u8 0)), (.imm (.int .u8 0)), (.imm (.int .u8 0)), (.imm (.int .u8 0)), (.imm (.int .u8 0)), (.imm (.int .u8 0)), (.imm (.int .u8 0)), (.imm (.int .u8 0)), (.imm (.int .u8 0)), (.imm (.int .u8 0)), (.imm (.int .u8 0)), (.imm (.int .u8 0)), (.imm (.int .u8 0)), (.imm (.int .u8 0)), (.imm (.int .u8 0)), (.imm (.int .u8 0)), (.imm (.int .u8 0)), (.imm (.int .u8 0)), (.imm (.int .u8 0)), (.imm (.int .u8 0)), (.imm (.int .u8 0)), (.imm (.int .u8 0)), (.imm (.int .u8 0)), (.imm (.int .u8 0)), (.imm (.int .u8 0)), (.imm (.int .u8 0)), (.imm (.int .u8 0)), (.imm (.int .u8 0)), (.imm (.int .u8 0)), (.imm (.int .u8 0)), (.imm (.int .u8 0)), (.imm (.int .u8 0)), (.imm (.int .u8 0)), (.imm (.int .u8 0)), (.imm (.int .u8 0)), (.imm (.int .u8 0)), (.imm (.int .u8 0)), (.imm (.int .u8 0)), (.imm (.int .u8 0)), (.imm (.int .u8 0)), (.imm (.int .u8 0)), (.imm (.int .u8 0)), (.imm (.int .u8 0)), (.imm (.int .u8 0)), (.imm (.int .u8 0)), (.imm (.int .u8 0)), (.imm (.int .u8 0)), (.imm (.int .u8 0)), (.imm (.int .u8 0)), (.imm (.int .u8 0)), (.imm (.int .i64 0))] false) 0), []⟩, ⟨none, none, (.e (.store 73)), [(.t 4), (.t 13)]⟩]) (.seq (.reg false 0 [⟨(.some 14), none, (.q .mv), [(.t 0)]⟩, ⟨(.some 15), none, (.q .nilchk), [(.t 14)]⟩, ⟨(.some 16), none, (.q (.faddr 72)), [(.t 15)]⟩, ⟨(.some 17), none, (.l .load1), [(.t 16)]⟩, ⟨(.some 18), none, (.call true), [(.c (.fn (.func 77) [] [])), (.t 17)]⟩, ⟨(.some 19), none, (.call true), [(.c (.fn (.func 63) [] [])), (.t 4), (.t 18)]⟩]) (.seq (.seq (.reg false 0 [⟨(.some 20), none, (.q (.faddr 0)), [(.t 4)]⟩, ⟨(.some 21), none, (.l (.loadA 8)), [(.t 20)]⟩, ⟨(.some 22), none, (.q .mv), [(.c (.imm (.int .i64 0)))]⟩]) (.block 0 (.loop (.seq (.reg false 0 [⟨(.some 23), none, (.q (.bin .lss 3)), [(.t 22), (.c (.imm (.int .i64 8)))]⟩]) (.seq (.cond (.t 23) .skip (.exit 0)) (.seq (.block 1 (.seq (.reg false 0 [⟨(.some 24), none, (.q .mv), [(.t 22)]⟩, ⟨(.some 25), none, (.q (.idx1 8)), [(.t 21), (.t 22)]⟩, ⟨(.some 5), none, (.q .mv), [(.t 24)]⟩, ⟨(.some 6), none, (.q .mv), [(.t 25)]⟩]) (.seq (.reg false 0 [⟨(.some 26), none, (.q .mv), [(.c (.imm (.int .i64 0)))]⟩]) (.block 2 (.loop (.seq (.reg false 0 [⟨(.some 27), none, (.q (.bin .lss 3)), [(.t 26), (.c (.imm (.int .i64 4)))]⟩]) (.seq (.cond (.t 27) .skip (.exit 2)) (.seq (.block 3 (.seq (.reg false 0 [⟨(.some 28), none, (.q .mv), [(.t 26)]⟩, ⟨(.some 7), none, (.q .mv), [(.t 28)]⟩]) (.reg false 0 [⟨(.some 29), none, (.q .mv), [(.t 5)]⟩, ⟨(.some 30), none, (.q (.bin .mul 3)), [(.c (.imm (.int .i64 4))), (.t 29)]⟩, ⟨(.some 31), none, (.q .mv), [(.t 7)]⟩, ⟨(.some 32), none, (.q (.bin .add 3)), [(.t 30), (.t 31)]⟩, ⟨(.some 33), none, (.q .mv), [(.t 6)]⟩, ⟨(.some 34), none, (.q .mv), [(.t 7)]⟩, ⟨(.some 35), none, (.q (.bin .sub 3)), [(.c (.imm (.int .i64 3))), (.t 34)]⟩, ⟨(.some 36), none, (.q (.bin .mul 3)), [(.c (.imm (.int .i64 8))), (.t 35)]⟩, ⟨(.some 37), none, (.q (.convI .u64)), [(.t 36)]⟩, ⟨(.some 38), none, (.q (.bin .shr 84)), [(.t 33), (.t 37)]⟩, ⟨(.some 39), none, (.q (.convI .u8)), [(.t 38)]⟩, ⟨(.some 40), none, (.q (.iaddrA 32 1)), [(.t 3), (.t 32)]⟩, ⟨none, none, (.e (.store 1)), [(.t 40), (.t 39)]⟩]))) (.reg false 0 [⟨(.some 41), none, (.q (.bin .add 3)), [(.t 26), (.c (.imm (.int .i64 1)))]⟩, ⟨(.some 26), none, (.q .mv), [(.t 41)]⟩]))))))))) (.reg false 0 [⟨(.some 42), none, (.q (.bin .add 3)), [(.t 22), (.c (.imm (.int .i64 1)))]⟩, ⟨(.some 22), none, (.q .mv), [(.t 42)]⟩]))))))) (.seq (.reg false 0 [⟨(.some 43), none, (.l (.loadA 32)), [(.t 3)]⟩, ⟨none, none, (.e (.store 32)), [(.t 2), (.t 43)]⟩]) .ret)))))))
theorem fn64 : IsFnC Tryz.prog 64 [] c64 [(2, some (58, .loadA 32))] 44 := ⟨⟨_, _, Tryz.func64, rfl, by decide +kernel, by kernel_rfl, rfl, rfl⟩, by intro r hr; simp only [List.mem_cons, List.not_mem_nil, or_false] at hr; first | (subst hr; kernel_rfl) | (rcases hr with rfl | rfl <;> kernel_rfl)⟩
set_option maxHeartbeats 8000000 in
theorem p64w (s : HSt) (hw : s.w.length = 8) (hp : s.p.length = 64) (hn : s.n ≤ 1099511627776) : Pure Tryz.prog G 64 [.rptr (hashC s) 0] (.agg ((digB (feed s (padB s.n)).w).map byteAV)) := by
  refine pure_of_codeC (S := sp [(77, padS)] [(63, writeT)]) hm hG (sp_holds (.cons told_pad77 .nil) (.cons toldT_write .nil)) fn64
    (St 27 44 [.rptr (hashC s) 0, .junk, .junk, .junk, .junk, .junk, .junk, .junk, .junk, .junk, .junk, .junk, .junk, .junk, .junk, .junk, .junk, .junk, .junk, .junk, .junk, .junk, .junk, .junk, .junk, .junk, .junk] []) (by kernel_rfl) (by simp [lows, AV.low]; exact lows_hash 0) (by simp [AV.low, lows_bytes]) ?_
  have hl := hashC_len hw hp
  have g72 : (hashC s)[72]? = some (i64 (s.n : Nat)) := hashC3_n hw hp
  have q77 : ∀ K, ask padS [i64 (s.n : Nat)] K = K (bytesV (padB s.n)) := fun K => ask_padS hn
  have htk : (hashC s).take 73 = hashC s := List.take_of_length_le (by omega)
  have hdr : (hashC s).drop 73 = [] := List.drop_of_length_le (by omega)
  have hst : (hashC s).map AV.strip1 = hashC s := by
    have h1 := ws_strip s.w
    have h2 : (s.p.map byteAV).map AV.strip1 = s.p.map byteAV := by simp [byteAV, AV.strip1]
    unfold hashC hashC3
    rw [List.map_append, List.map_append, h1, h2]; rfl
  have hpl := padB_len s.n
  have hzl := zeros_lt s.n
  simp (maxSteps := 2000000) -implicitDefEqProofs only [c64, RS, RX, Nat.reduceLT, ↓RP0, ↓RP1, ↓RP2, ↓RP3, RV, RW, ↓reduceIte, Nat.reduceAdd, Nat.reduceSub, Nat.reduceMul, Nat.reduceLeDiff, Nat.reduceEqDiff, Int.reduceLT, Int.reduceLE, Int.reduceEq, Int.reduceNe, Int.reduceAdd, Int.reduceSub, Int.reduceMul, Int.reduceNeg, Int.reduceToNat, reduceCtorEq, hl, g72, ↓q77, q77, htk, hdr, hst]
  refine askT_write rfl ⟨hw, hp, by omega⟩ (by simp [AObj.low, lows, AV.low]; exact lows_hash _) ?_
  have fw := feed_w (padB s.n) s hw
  have fp : (feed s (padB s.n)).p.length = 64 := by rw [feed_p, hp]
  generalize feed s (padB s.n) = F at *
  have hl2 := hashC_len fw fp
  have tw : (hashC F).take 8 = F.w.map w32 := hashC3_w fw
  have sw := ws_strip F.w
  have lh : lows 2 (hashC s) := lows_hash 2
  simp (maxSteps := 2000000) -implicitDefEqProofs only [RS, RX, Nat.reduceLT, ↓RP0, ↓RP1, ↓RP2, ↓RP3, RV, RW, ↓reduceIte, Nat.reduceAdd, Nat.reduceSub, Nat.reduceMul, Nat.reduceLeDiff, Nat.reduceEqDiff, Int.reduceLT, Int.reduceLE, Int.reduceEq, Int.reduceNe, Int.reduceAdd, Int.reduceSub, Int.reduceMul, Int.reduceNeg, Int.reduceToNat, reduceCtorEq, hl2, tw, sw, ws_len, fw]
  refine loopB (st := fun (i : Nat) => (St 27 44 [.rptr (hashC s) 0, .junk, .ptr 0 0, .ptr 1 0, .junk, .junk, .junk, .junk, .junk, .junk, .junk, .junk, .junk, .junk, .junk, .junk, .junk, .junk, .junk, .junk, .junk, wsV F.w, i64 i, .junk, .junk, .junk, .junk] [])) (hp := fun i => [.box (padY [] 32), .box (padY (digTo F.w (4 * i)) 32)]) (I := fun i => i ≤ 8) (m := fun i => 8 - i) (0 : Nat) (Nat.zero_le _) ?_ ?_
  · refine weak_cutS 2 (by decide) (by kernel_rfl) ?_ ?_
    · simp [AObj.low, lows_padY]
    · simp [WeakL, AV.low, lows, lows_ws, lh]
  · intro i hi
    have n8 : ((8 : Nat) : Int) = 8 := rfl
    by_cases hlt : i < 8
    · have e3 : ((i : Int) < 8) = True := eq_true (by omega)
      have gw := ws_get (l := F.w) (i := i) (by omega)
      generalize hx0 : F.w.getD i 0 = x0 at *
      have ib : In64 ((i : Int) + 1) := ⟨by omega, by omega⟩
      simp (maxSteps := 2000000) -implicitDefEqProofs only [RS, RX, Nat.reduceLT, ↓RP0, ↓RP1, ↓RP2, ↓RP3, RV, RW, ↓reduceIte, Nat.reduceAdd, Nat.reduceSub, Nat.reduceMul, Nat.reduceLeDiff, Nat.reduceEqDiff, Int.reduceLT, Int.reduceLE, Int.reduceEq, Int.reduceNe, Int.reduceAdd, Int.reduceSub, Int.reduceMul, Int.reduceNeg, Int.reduceToNat, reduceCtorEq, e3, n8, gw]
      refine loopB (st := fun (k : Nat) => (St 27 44 [.rptr (hashC s) 0, .junk, .ptr 0 0, .ptr 1 0, .junk, i64 i, w32 x0, .junk, .junk, .junk, .junk, .junk, .junk, .junk, .junk, .junk, .junk, .junk, .junk, .junk, .junk, wsV F.w, i64 i, .junk, .junk, .junk, i64 k] [])) (hp := fun k => [.box (padY [] 32), .box (padY (digTo F.w (4 * i + k)) 32)]) (I := fun k => k ≤ 4) (m := fun k => 4 - k) (0 : Nat) (Nat.zero_le _) ?_ ?_
      · refine weak_cutS 2 (by decide) (by simp) ?_ ?_
        · simp [AObj.low, lows_padY]
        · simp [WeakL, AV.low, lows, lows_ws, lh]
      · intro k hk
        by_cases hkl : k < 4
        · have f3 : ((k : Int) < 4) = True := eq_true (by omega)
          have kb : In64 ((k : Int) + 1) := ⟨by omega, by omega⟩
          have tl := digTo_len F.w (4 * i + k)
          have hs := digTo_succ F.w (4 * i + k)
          have hset := padY_set (l := digTo F.w (4 * i + k)) (n := 32) (by omega) (digD F.w (4 * i + k))
          rw [tl, ← hs] at hset
          have pl := padY_len (l := digTo F.w (4 * i + k)) (n := 32) (by omega)
          have hd : digD F.w (4 * i + k) = UInt8.ofNat (x0.toNat / 256 ^ (3 - k) % 256) := by
            unfold digD
            rw [show (4 * i + k) / 4 = i by omega, show (4 * i + k) % 4 = k by omega, hx0]
          have w64 : IntKind.u64.wrap (8 * (3 - (k : Int))) = 8 * (3 - (k : Int)) := by
            simp [IntKind.wrap, IntKind.bits, IntKind.signed]; omega
          have sb := shift_word (x := x0.toNat) hkl
          have c1 : (4 * (i : Int) + (k : Int)).toNat = 4 * i + k := by omega
          have n32 : ((32 : Nat) : Int) = 32 := rfl
          have nb : (0 : Int) ≤ 8 * (3 - (k : Int)) := by omega
          rw [hd] at hset
          have hset2 : List.take (4 * i + k) (padY (digTo F.w (4 * i + k)) 32) ++ [AV.imm (.int .u8 ((UInt8.ofNat (x0.toNat / 256 ^ (3 - k) % 256)).toNat : Int))] ++ List.drop (4 * i + k + 1) (padY (digTo F.w (4 * i + k)) 32) = padY (digTo F.w (4 * i + k + 1)) 32 := hset
          simp (maxSteps := 2000000) -implicitDefEqProofs only [RS, RX, Nat.reduceLT, ↓RP0, ↓RP1, ↓RP2, ↓RP3, RV, RW, ↓reduceIte, Nat.reduceAdd, Nat.reduceSub, Nat.reduceMul, Nat.reduceLeDiff, Nat.reduceEqDiff, Int.reduceLT, Int.reduceLE, Int.reduceEq, Int.reduceNe, Int.reduceAdd, Int.reduceSub, Int.reduceMul, Int.reduceNeg, Int.reduceToNat, reduceCtorEq, f3, w64, binB_shr, sb, c1, n32, pl, hset2, Nat.mul_one]
          refine ⟨⟨by omega, by omega⟩, ⟨by omega, by omega⟩, ⟨by omega, by omega⟩, ⟨by omega, by omega⟩, nb, by omega, by omega, by omega, kb, k + 1, by dsimp only; omega, by omega, ?_⟩
          refine weak_cutS 2 (by decide) (by simp [Nat.add_assoc]) ?_ ?_
          · simp [AObj.low, lows_padY]
          · simp [WeakL, AV.low, lows, lows_ws, lh]
        · obtain rfl : k = 4 := by omega
          have n4 : ((4 : Nat) : Int) = 4 := rfl
          simp (maxSteps := 2000000) -implicitDefEqProofs only [RS, RX, Nat.reduceLT, ↓RP0, ↓RP1, ↓RP2, ↓RP3, RV, RW, ↓reduceIte, Nat.reduceAdd, Nat.reduceSub, Nat.reduceMul, Nat.reduceLeDiff, Nat.reduceEqDiff, Int.reduceLT, Int.reduceLE, Int.reduceEq, Int.reduceNe, Int.reduceAdd, Int.reduceSub, Int.reduceMul, Int.reduceNeg, Int.reduceToNat, reduceCtorEq, n4, Int.lt_irrefl]
          refine ⟨ib, i + 1, by dsimp only; omega, by omega, ?_⟩
          refine weak_cutS 2 (by decide) (by simp [Nat.mul_add]) ?_ ?_
          · simp [AObj.low, lows_padY]
          · simp [WeakL, AV.low, lows, lows_ws, lh]
    · obtain rfl : i = 8 := by omega
      have hf : padY (digTo F.w (4 * 8)) 32 = (digB F.w).map byteAV := padY_full (digTo_len _ _)
      rw [hf]
      have dl := digB_len F.w
      have dst : ((digB F.w).map byteAV).map AV.strip1 = (digB F.w).map byteAV := by simp [byteAV, AV.strip1]
      have dtk : ((digB F.w).map byteAV).take 32 = (digB F.w).map byteAV := List.take_of_length_le (by rw [bytes_len]; omega)
      have dln := bytes_len (digB F.w)
      have ptk : List.drop 32 (padY [] 32) = [] := List.drop_of_length_le (by rw [padY_len (by decide)]; decide)
      have pln := padY_len (l := []) (n := 32) (by decide)
      generalize digB F.w = d at *
      simp (maxSteps := 2000000) -implicitDefEqProofs only [RS, RX, Nat.reduceLT, ↓RP0, ↓RP1, ↓RP2, ↓RP3, RV, RW, ↓reduceIte, Nat.reduceAdd, Nat.reduceSub, Nat.reduceMul, Nat.reduceLeDiff, Nat.reduceEqDiff, Int.reduceLT, Int.reduceLE, Int.reduceEq, Int.reduceNe, Int.reduceAdd, Int.reduceSub, Int.reduceMul, Int.reduceNeg, Int.reduceToNat, reduceCtorEq, n8, Int.lt_irrefl, dst, dtk, dln, dl, ptk, pln]
end Go.AL.Path

/- A digest at once. -/
set_option linter.unusedSimpArgs false
set_option linter.unusedVariables false
set_option maxRecDepth 100000
namespace Go.AL.Path
open Go Go.RowKit Go.Proofs Go.AL
theorem reps_plain {E E' : Env} {w w' : World} : ∀ {l : List UInt8} {us : List Value}, Reps E w (l.map byteAV) us → Reps E' w' (l.map byteAV) us
  | [], _, .nil => .nil
  | b :: l, _, .cons _ _ _ _ h h1 => .cons _ _ _ _ (by cases h with | imm _ hv => exact .imm _ hv) (reps_plain h1)
/-- A function that answers bytes, of lent arguments. -/
theorem ok_of_lendA {P : Program} {G : Nat → Option (List AV)} {H : List AObj} (hG : ∀ g cs, G g = some cs → lows 0 cs) {f : FuncId} {args : List AV} {l : List UInt8} (hl : lows 0 (args.map (lendV H))) (hp : Pure P G f (args.map (lendV H)) (.agg (l.map byteAV))) : Ok P G f args H (.agg (l.map byteAV)) H := by
  intro lo E w cargs hs ha
  refine (hp [] w.heap.size (E.all w) w cargs (hs.toAll hG) (lendVs_rep hs ha hl)).mono fun u w' ⟨E', h1, h2, h3⟩ => ?_
  obtain ⟨k1, k2⟩ := hs.grow h3.below (fun _ => False) (fun _ h => h.elim)
  cases h1 with
  | agg _ us h4 h5 => exact ⟨_, .agg _ us (reps_plain h4) h5, k1, k2⟩
/-- Told, as a specification. -/
def toldS : TSp := fun args H K => ∃ (o : List AV) (s : HSt), args = [.ptr 1 0] ∧ H = [.box o, .box (hashC s)] ∧ (s.w.length = 8 ∧ s.p.length = 64 ∧ s.n ≤ 1099511627776) ∧ K (.agg ((digB (feed s (padB s.n)).w).map byteAV)) H
theorem toldT_told : ToldT Tryz.prog G 64 toldS := by
  rintro args H K ⟨o, s, rfl, rfl, ⟨h1, h2, h3⟩, h4⟩
  refine ⟨_, _, ok_of_lendA hG (l := digB (feed s (padB s.n)).w) ?_ ?_, h4⟩
  · exact ⟨lows_hash 0, trivial⟩
  · exact p64w s h1 h2 h3
def c50 : ACode := (.seq (.reg false 1 [⟨(.some 2), none, (.m (.alloc [(.imm (.int .u8 0)), (.imm (.int .u8 0)), (.imm (.int .u8 0)), (.imm (.int .u8 0)), (.imm (.int .u8 0)), (.imm (.int .u8 0)), (.imm (.int .u8 0)), (.imm (.int .u8 0)), (.imm (.int .u8 0)), (.imm (.int .u8 0)), (.imm (.int .u8 0)), (.imm (.int .u8 0)), (.imm (.int .u8 0)), (.imm (.int .u8 0)), (.imm (.int .u8 0)), (.imm (.int .u8 0)), (.imm (.int .u8 0)), (.imm (.int .u8 0)), (.imm (.int .u8 0)), (.imm (.int .u8 0)), (.imm (.int .u8 0)), (.imm (.int .u8 0)), (.imm (.int .u8 0)), (.imm (.int .u8 0)), (.imm (.int .u8 0)), (.imm (.int .u8 0)), (.imm (.int .u8 0)), (.imm (.int .u8 0)), (.imm (.int .u8 0)), (.imm (.int .u8 0)), (.imm (.int .u8 0)), (.imm (.int .u8 0))] false) 0), []⟩]) (.seq (.reg false 0 [⟨(.some 4), none, (.call true), [(.c (.fn (.func 62) [] []))]⟩, ⟨(.some 3), none, (.q .mv), [(.t 4)]⟩]) (.seq (.reg false 0 [⟨(.some 5), none, (.q .mv), [(.t 3)]⟩, ⟨(.some 6), none, (.q .mv), [(.t 0)]⟩, ⟨(.some 7), none, (.call true), [(.c (.fn (.func 63) [] [])), (.t 5), (.t 6)]⟩]) (.seq (.reg false 0 [⟨(.some 8), none, (.q .mv), [(.t 3)]⟩, ⟨(.some 9), none, (.call true), [(.c (.fn (.func 64) [] [])), (.t 8)]⟩, ⟨none, none, (.e (.store 32)), [(.t 2), (.t 9)]⟩]) .ret))))
theorem fn50 : IsFnC Tryz.prog 50 [] c50 [(2, some (58, .loadA 32))] 10 := ⟨⟨_, _, Tryz.func50, rfl, by decide +kernel, by kernel_rfl, rfl, rfl⟩, by intro r hr; simp only [List.mem_cons, List.not_mem_nil, or_false] at hr; first | (subst hr; kernel_rfl) | (rcases hr with rfl | rfl <;> kernel_rfl)⟩
set_option maxHeartbeats 8000000 in
theorem p50w (b : List UInt8) (hb : b.length ≤ 1099511627) : Pure Tryz.prog G 50 [bytesV b] (.agg ((sumB b).map byteAV)) := by
  refine pure_of_codeC (S := sp [] [(62, newT), (63, writeT), (64, toldS)]) hm hG (sp_holds .nil (.cons toldT_new (.cons toldT_write (.cons toldT_told .nil)))) fn50
    (St 4 10 [bytesV b, .junk, .junk, .junk] []) (by kernel_rfl) (by simp [lows, AV.low, lows_bytes]) (by simp [AV.low, lows_bytes]) ?_
  simp (maxSteps := 2000000) -implicitDefEqProofs only [c50, RS, RX, Nat.reduceLT, ↓RP0, ↓RP1, ↓RP2, ↓RP3, RV, RW, ↓reduceIte, Nat.reduceAdd, Nat.reduceSub, Nat.reduceMul, Nat.reduceLeDiff, Nat.reduceEqDiff, Int.reduceLT, Int.reduceLE, Int.reduceEq, Int.reduceNe, Int.reduceAdd, Int.reduceSub, Int.reduceMul, Int.reduceNeg, Int.reduceToNat, reduceCtorEq, ]
  have fn : (feed hst0 b).n = b.length := by rw [feed_n]; simp [hst0]
  have fw : (feed hst0 b).w.length = 8 := feed_w b hst0 rfl
  have fp : (feed hst0 b).p.length = 64 := by rw [feed_p]; rfl
  refine ⟨padY [] 32, rfl, by kernel_rfl, fun n => lows_padY n [] 32, ?_⟩
  refine askT_write (id := 1) rfl ⟨rfl, rfl, by simp [hst0]; omega⟩ (by simp [AObj.low, lows_padY]; exact lows_hash _) ?_
  refine ⟨padY [] 32, feed hst0 b, rfl, rfl, ⟨fw, fp, by omega⟩, ?_⟩
  have hsum : digB (feed (feed hst0 b) (padB (feed hst0 b).n)).w = sumB b := by rw [fn]; exact feed_sum b
  rw [hsum]
  have dl : (sumB b).length = 32 := digB_len _
  have dst : ((sumB b).map byteAV).map AV.strip1 = (sumB b).map byteAV := by simp [byteAV, AV.strip1]
  have dtk : ((sumB b).map byteAV).take 32 = (sumB b).map byteAV := List.take_of_length_le (by rw [bytes_len]; omega)
  have dln := bytes_len (sumB b)
  have pln := padY_len (l := []) (n := 32) (by decide)
  have ptk : List.drop 32 (padY [] 32) = [] := List.drop_of_length_le (by omega)
  generalize sumB b = d at *
  refine ⟨rfl, by show (d.map byteAV).length = 32; omega, ?_⟩
  show 32 ≤ (padY [] 32).length ∧ 32 ≤ (d.map byteAV ++ List.drop 32 (padY [] 32)).length ∧ AV.agg (List.map AV.strip1 (List.take 32 (d.map byteAV ++ List.drop 32 (padY [] 32)))) = _
  rw [ptk, List.append_nil, dtk, dst, dln, dl, pln]
  exact ⟨by decide, by decide, rfl⟩
end Go.AL.Path

/- Is a file as it is shown? The first shown at a path. -/
set_option linter.unusedSimpArgs false
set_option linter.unusedVariables false
set_option maxRecDepth 100000
namespace Go.AL.Path
open Go Go.RowKit Go.Proofs Go.AL
theorem eqCells_u8 : ∀ (xs ys : List Int), xs.length = ys.length → eqCells (xs.map u8) (ys.map u8) = some (decide (xs = ys))
  | [], [], _ => rfl
  | [], y :: ys, h => by simp at h
  | x :: xs, [], h => by simp at h
  | x :: xs, y :: ys, h => by
    have ih := eqCells_u8 xs ys (by simpa using h)
    simp only [List.map_cons, eqCells, u8] at ih ⊢
    rw [ih]
    change some ((x == y) && decide (xs = ys)) = _
    by_cases h1 : x = y <;> by_cases h2 : xs = ys <;> simp [h1, h2]
theorem qB_eqA_u8 {xs ys : List Int} {n : Nat} (hx : xs.length = n) (hy : ys.length = n) {K : AV → Prop} : qB (.eqA false n) [.agg (xs.map u8), .agg (ys.map u8)] K = SplitP (xs = ys) (K (bool true)) (K (bool false)) := by
  show ((xs.map u8).length = n ∧ onSome (eqCells (xs.map u8) (ys.map u8)) fun b => K (bool (if false then !b else b))) = _
  rw [eqCells_u8 xs ys (by omega)]
  by_cases h : xs = ys <;> simp [SplitP, h, hx, hy, onSome]
abbrev sumSp : PSp := spOn (fun b : List UInt8 => [bytesV b]) (fun b => b.length ≤ 1099511627) (fun b => .agg ((sumB b).map byteAV))
theorem told_sum50 : Told Tryz.prog G 50 sumSp := told_spOn fun b h => p50w b h
theorem told_sum31 : Told Tryz.prog G 31 sumSp := told_spOn fun b h => p31w b h
theorem ask_sumSp {b : List UInt8} (h : b.length ≤ 1099511627) {K} : ask sumSp [bytesV b] K = K (.agg ((sumB b).map byteAV)) :=
  ask_spOn (fun x y _ _ he => bytes_inj (by injection he with he; injection he)) h rfl
theorem sumI_u8 (b : List UInt8) : (sumB b).map byteAV = (sumI b).map u8 := by unfold sumI; rw [List.map_map]; rfl
theorem sumB_len (b : List UInt8) : (sumB b).length = 32 := by simp [sumB, digB]
theorem sumI_len (b : List UInt8) : (sumI b).length = 32 := by unfold sumI; rw [List.length_map, sumB_len]
theorem shw35 {s : Shw} (h : ShwOk s) : (shwC s)[35]? = some (i64 s.size) := by
  unfold shwC
  rw [List.getElem?_append_right (by simp [h.len])]
  simp [h.len]
theorem shw_sum {s : Shw} (h : ShwOk s) : ((shwC s).drop 3).take 32 = s.sum.map u8 := by
  unfold shwC
  rw [List.append_assoc]
  show List.take 32 (s.sum.map u8 ++ [i64 s.size]) = _
  rw [List.take_append_of_le_length (by simp [h.len]), List.take_of_length_le (by simp [h.len])]
def c29 : ACode := (.seq (.reg false 1 [⟨(.some 2), none, (.m .box 0), [(.t 0)]⟩, ⟨(.some 4), none, (.q .mv), [(.c (.imm (.bool false)))]⟩]) (.seq (.reg true 0 [⟨(.some 5), none, (.q .mv), [(.t 1)]⟩, ⟨(.some 6), none, (.q .lenL), [(.t 5)]⟩, ⟨(.some 7), none, (.q (.faddr 35)), [(.t 2)]⟩, ⟨(.some 8), none, (.l .load1), [(.t 7)]⟩, ⟨(.some 9), none, (.q (.bin .eql 3)), [(.t 6), (.t 8)]⟩, ⟨(.some 10), none, (.q .mv), [(.t 9)]⟩, ⟨(.some 11), (.some (10, true)), (.q .mv), [(.t 1)]⟩, ⟨(.some 12), (.some (10, true)), (.call false), [(.c (.fn (.func 50) [] [])), (.t 11)]⟩, ⟨(.some 13), (.some (10, true)), (.q (.faddr 3)), [(.t 2)]⟩, ⟨(.some 14), (.some (10, true)), (.l (.loadA 32)), [(.t 13)]⟩, ⟨(.some 15), (.some (10, true)), (.q (.eqA false 32)), [(.t 12), (.t 14)]⟩, ⟨(.some 16), none, (.q .pick), [(.t 10), (.t 15), (.c (.imm (.bool false)))]⟩, ⟨(.some 4), none, (.q .mv), [(.t 16)]⟩]) .ret))
theorem fn29 : IsFn Tryz.prog 29 [] c29 [4] 17 := ⟨_, _, Tryz.func29, rfl, by decide +kernel, by kernel_rfl, rfl, rfl⟩
theorem p29 (s : Shw) (d : List UInt8) (hs : ShwOk s) (hd : d.length ≤ 1099511627) : Pure Tryz.prog G 29 [shwV s, bytesV d] (bool (fitS s d)) := by
  refine pure_of_code' (S := sp [(50, sumSp)] []) hm hG (sp_holds (.cons told_sum50 .nil) .nil) fn29 (St 5 17 [shwV s, bytesV d, .junk, .junk, .junk] []) (by kernel_rfl) ⟨shwE.low 0 s, ⟨lows_bytes 0 d, fun k hk => by cases hk⟩, trivial⟩ (by simp [AV.low]) ?_
  have q : ∀ K, ask sumSp [bytesV d] K = K (.agg ((sumI d).map u8)) := fun K => (ask_sumSp hd).trans (by rw [sumI_u8])
  have q2 : ∀ K, qB (.eqA false 32) [.agg ((sumI d).map u8), .agg (s.sum.map u8)] K = SplitP (sumI d = s.sum) (K (bool true)) (K (bool false)) := fun K => qB_eqA_u8 (sumI_len d) hs.len
  have l1 := shw_len hs
  have l2 := shw35 hs
  have l3 := shw_sum hs
  have l4 : ((sumI d).map u8).length = 32 := by rw [List.length_map, sumI_len]
  have l5 : (s.sum.map u8).length = 32 := by rw [List.length_map, hs.len]
  by_cases h1 : (d.length : Int) = s.size
  · have e1 : ((d.length : Int) = s.size) = True := eq_true h1
    by_cases h2 : sumI d = s.sum
    · have e2 : (sumI d = s.sum) = True := eq_true h2
      have hf : fitS s d = true := by unfold fitS; rw [decide_eq_true h1, decide_eq_true h2]; rfl
      rw [hf]
      simp (maxSteps := 2000000) -implicitDefEqProofs only [c29, RS, RX, Nat.reduceLT, ↓RP0, ↓RP1, ↓RP2, ↓RP3, RV, RW, ↓reduceIte, Nat.reduceAdd, Nat.reduceSub, Nat.reduceMul, Nat.reduceLeDiff, Nat.reduceEqDiff, Int.reduceLT, Int.reduceLE, Int.reduceEq, Int.reduceNe, Int.reduceAdd, Int.reduceSub, Int.reduceMul, Int.reduceNeg, Int.reduceToNat, reduceCtorEq, e1, e2, ↓q, q, ↓q2, q2, l1, l2, l3, l4, l5, bytes_len, AV.cells]
    · have e2 : (sumI d = s.sum) = False := eq_false h2
      have hf : fitS s d = false := by unfold fitS; rw [decide_eq_false h2]; simp
      rw [hf]
      simp (maxSteps := 2000000) -implicitDefEqProofs only [c29, RS, RX, Nat.reduceLT, ↓RP0, ↓RP1, ↓RP2, ↓RP3, RV, RW, ↓reduceIte, Nat.reduceAdd, Nat.reduceSub, Nat.reduceMul, Nat.reduceLeDiff, Nat.reduceEqDiff, Int.reduceLT, Int.reduceLE, Int.reduceEq, Int.reduceNe, Int.reduceAdd, Int.reduceSub, Int.reduceMul, Int.reduceNeg, Int.reduceToNat, reduceCtorEq, e1, e2, ↓q, q, ↓q2, q2, l1, l2, l3, l4, l5, bytes_len, AV.cells]
  · have e1 : ((d.length : Int) = s.size) = False := eq_false h1
    have hf : fitS s d = false := by unfold fitS; rw [decide_eq_false h1]; simp
    rw [hf]
    simp (maxSteps := 2000000) -implicitDefEqProofs only [c29, RS, RX, Nat.reduceLT, ↓RP0, ↓RP1, ↓RP2, ↓RP3, RV, RW, ↓reduceIte, Nat.reduceAdd, Nat.reduceSub, Nat.reduceMul, Nat.reduceLeDiff, Nat.reduceEqDiff, Int.reduceLT, Int.reduceLE, Int.reduceEq, Int.reduceNe, Int.reduceAdd, Int.reduceSub, Int.reduceMul, Int.reduceNeg, Int.reduceToNat, reduceCtorEq, e1, l1, l2, l3, bytes_len, AV.cells]
theorem shws_inj {l m : List Shw} (hl : shwE.all l) (hm' : shwE.all m) (h : l.map shwE.v = m.map shwE.v) : l = m := by
  induction l generalizing m with
  | nil => cases m with
    | nil => rfl
    | cons y m => simp at h
  | cons x l ih => cases m with
    | nil => simp at h
    | cons y m =>
      simp only [List.map_cons, List.cons.injEq] at h
      have h1 : shwC x = shwC y := by have := h.1; injection this
      rw [shwE.inj (hl x (List.mem_cons_self ..)) (hm' y (List.mem_cons_self ..)) h1, ih (fun z hz => hl z (List.mem_cons_of_mem _ hz)) (fun z hz => hm' z (List.mem_cons_of_mem _ hz)) h.2]
theorem shwsV_inj {l m : List Shw} (hl : shwE.all l) (hm' : shwE.all m) (h : shwsV l = shwsV m) : l = m := shws_inj hl hm' (by injection h)
abbrev fitSp : PSp := spOnB (fun x : Shw × List UInt8 => [shwV x.1, bytesV x.2]) (fun x => ShwOk x.1 ∧ x.2.length ≤ 1099511627) (fun x => fitS x.1 x.2)
theorem told_fit29 : Told Tryz.prog G 29 fitSp := told_spOnB fun x h => p29 x.1 x.2 h.1 h.2
theorem ask_fitSp {s : Shw} {d : List UInt8} (hs : ShwOk s) (hd : d.length ≤ 1099511627) {K} : ask fitSp [shwV s, bytesV d] K = splitB (fitS s d) K :=
  ask_spOnB (x := (s, d)) (fun x y hx hy he => by
    injection he with h1 h2
    injection h2 with h2 _
    injection h1 with h1
    injection h2 with _ h2
    exact Prod.ext (shwE.inj hx.1 hy.1 h1) (bytes_inj h2)) ⟨hs, hd⟩ rfl
end Go.AL.Path

/- Edits as they are told: a Delete's contents are nil. -/
set_option linter.unusedSimpArgs false
set_option linter.unusedVariables false
set_option maxRecDepth 100000
namespace Go.AL.Path
open Go Go.RowKit Go.Proofs Go.AL
def dataV (e : Edt) : AV := if e.kind = 1 then bytesV e.data else .sl 0 [] none
def edC (e : Edt) : List AV := [i64 e.kind, T e.path, dataV e]
structure EdOk (e : Edt) : Prop where
  path : e.path.length ≤ 1099511627
  data : e.data.length ≤ 1099511627
  del : e.kind ≠ 1 → e.data = []
theorem dataV_low (n : Nat) (e : Edt) : (dataV e).low n := by unfold dataV; split <;> simp [AV.low, lows, lows_bytes]
abbrev edE : Elem Edt where
  sz := 3
  cells := edC
  ok := EdOk
  d0 := ⟨0, [], []⟩
  len := fun _ => rfl
  inj := fun {x y} hx hy h => by
    unfold edC at h
    injection h with h0 h
    injection h0 with h0
    injection h0 with _ h0
    injection h with h1 h2
    injection h2 with h2 _
    have hd : x.data = y.data := by
      unfold dataV at h2
      rw [h0] at h2
      by_cases hk : y.kind = 1
      · rw [if_pos hk, if_pos hk] at h2
        injection h2 with _ h2 _
        exact bytes_inj h2
      · rw [hx.del (by rw [h0]; exact hk), hy.del hk]
    cases x; cases y
    rw [Edt.mk.injEq]; exact ⟨h0, T_inj.1 h1, hd⟩
  low := fun n x => ⟨trivial, trivial, dataV_low n x, trivial⟩
  strip := by
    intro x
    show [i64 x.kind, T x.path, (dataV x).strip1] = edC x
    unfold edC
    congr 2
    unfold dataV; split <;> rfl
abbrev edsV (l : List Edt) : AV := .sl 3 (l.map edE.v) none
theorem lows_eds (n : Nat) (l : List Edt) : lows n (l.map edE.v) := edE.low_vs n l
theorem ed_len (e : Edt) : (edC e).length = 3 := rfl
theorem ed0 {e : Edt} : (edC e)[0]? = some (i64 e.kind) := rfl
theorem ed1 {e : Edt} : (edC e)[1]? = some (T e.path) := rfl
theorem ed_take {e : Edt} : (edC e).take 3 = edC e := rfl
theorem eds_len (l : List Edt) : (l.map edE.v).length = l.length := List.length_map ..
theorem edC_put (f : Fil) : edC (putE f) = [i64 1, T f.path, bytesV f.data] := rfl
theorem edC_del (s : Shw) : edC (delE s) = [i64 2, T s.path, .sl 0 [] none] := rfl
end Go.AL.Path

/- Lists turned, and compared. -/
set_option linter.unusedSimpArgs false
set_option linter.unusedVariables false
set_option maxRecDepth 100000
namespace Go.AL.Path
open Go Go.RowKit Go.Proofs Go.AL
/-- A file, as it is shown. -/
def shwOf (f : Fil) : Shw := ⟨f.path, 0, 0, sumI f.data, (f.data.length : Int)⟩
theorem shwOf_ok {f : Fil} (h : FilOk f) : ShwOk (shwOf f) := ⟨h.path, sumI_len _⟩
def c11 : ACode := (.seq (.reg false 1 [⟨(.some 2), none, (.m (.nilT 60 36) 0), []⟩]) (.seq (.reg false 1 [⟨(.some 3), none, (.m (.nilT 60 36) 0), []⟩]) (.seq (.seq (.reg false 0 [⟨(.some 4), none, (.q .mv), [(.c (.imm (.int .i64 0)))]⟩]) (.block 0 (.loop (.seq (.seq (.reg false 0 [⟨(.some 5), none, (.q .mv), [(.t 4)]⟩, ⟨(.some 6), none, (.q .mv), [(.t 0)]⟩, ⟨(.some 7), none, (.q .lenL), [(.t 6)]⟩, ⟨(.some 8), none, (.q (.bin .lss 3)), [(.t 5), (.t 7)]⟩]) (.cond (.t 8) .skip (.exit 0))) (.seq (.block 1 (.reg true 1 [⟨(.some 11), none, (.q .mv), [(.t 3)]⟩, ⟨(.some 12), none, (.q .mv), [(.t 0)]⟩, ⟨(.some 13), none, (.q .mv), [(.t 4)]⟩, ⟨(.some 14), none, (.q (.iaddrS 2)), [(.t 12), (.t 13)]⟩, ⟨(.some 15), none, (.q (.faddr 0)), [(.t 14)]⟩, ⟨(.some 16), none, (.l .load1), [(.t 15)]⟩, ⟨(.some 17), none, (.q .mv), [(.t 0)]⟩, ⟨(.some 18), none, (.q .mv), [(.t 4)]⟩, ⟨(.some 19), none, (.q (.iaddrS 2)), [(.t 17), (.t 18)]⟩, ⟨(.some 20), none, (.q (.faddr 1)), [(.t 19)]⟩, ⟨(.some 21), none, (.l .load1), [(.t 20)]⟩, ⟨(.some 22), none, (.call false), [(.c (.fn (.func 31) [] [])), (.t 21)]⟩, ⟨(.some 23), none, (.q .mv), [(.t 0)]⟩, ⟨(.some 24), none, (.q .mv), [(.t 4)]⟩, ⟨(.some 25), none, (.q (.iaddrS 2)), [(.t 23), (.t 24)]⟩, ⟨(.some 26), none, (.q (.faddr 1)), [(.t 25)]⟩, ⟨(.some 27), none, (.l .load1), [(.t 26)]⟩, ⟨(.some 28), none, (.q .lenL), [(.t 27)]⟩, ⟨(.some 29), none, (.q (.build [(.imm (.string (B []))), (.imm (.int .i64 0)), (.imm (.int .i64 0)), (.imm (.int .u8 0)), (.imm (.int .u8 0)), (.imm (.int .u8 0)), (.imm (.int .u8 0)), (.imm (.int .u8 0)), (.imm (.int .u8 0)), (.imm (.int .u8 0)), (.imm (.int .u8 0)), (.imm (.int .u8 0)), (.imm (.int .u8 0)), (.imm (.int .u8 0)), (.imm (.int .u8 0)), (.imm (.int .u8 0)), (.imm (.int .u8 0)), (.imm (.int .u8 0)), (.imm (.int .u8 0)), (.imm (.int .u8 0)), (.imm (.int .u8 0)), (.imm (.int .u8 0)), (.imm (.int .u8 0)), (.imm (.int .u8 0)), (.imm (.int .u8 0)), (.imm (.int .u8 0)), (.imm (.int .u8 0)), (.imm (.int .u8 0)), (.imm (.int .u8 0)), (.imm (.int .u8 0)), (.imm (.int .u8 0)), (.imm (.int .u8 0)), (.imm (.int .u8 0)), (.imm (.int .u8 0)), (.imm (.int .u8 0)), (.imm (.int .i64 0))] [(0, 1), (3, 32), (35, 1)])), [(.t 16), (.t 22), (.t 28)]⟩, ⟨(.some 30), none, (.m (.bsliceO 60 36) 0), [(.t 29)]⟩, ⟨(.some 31), none, (.e (.append 60 36 72)), [(.t 11), (.t 30)]⟩, ⟨(.some 3), none, (.q .mv), [(.t 31)]⟩])) (.reg false 0 [⟨(.some 9), none, (.q .mv), [(.t 4)]⟩, ⟨(.some 10), none, (.q (.bin .add 3)), [(.t 9), (.c (.imm (.int .i64 1)))]⟩, ⟨(.some 4), none, (.q .mv), [(.t 10)]⟩])))))) (.seq (.reg false 0 [⟨(.some 32), none, (.q .mv), [(.t 3)]⟩, ⟨(.some 2), none, (.q .mv), [(.t 32)]⟩]) .ret))))
theorem fn11 : IsFn Tryz.prog 11 (List.range 200) c11 [2] 33 := ⟨_, _, Tryz.func11, rfl, by decide +kernel, by kernel_rfl, rfl, rfl⟩
set_option maxHeartbeats 4000000 in
theorem p11 (t : List Fil) (ho : filE.all t) (hs : t.length ≤ 1099511627) : Pure Tryz.prog G 11 [filsV t] (shwsV (t.map shwOf)) := by
  refine pure_of_code' (S := sp [(31, sumSp)] []) hm hG (sp_holds (.cons told_sum31 .nil) .nil) fn11 (St 5 33 [filsV t, .junk, .junk, .junk, .junk] []) (by kernel_rfl) ⟨⟨lows_fils 0 t, fun k hk => by cases hk⟩, trivial⟩ (by simp [AV.low, lows_shws, -List.map_map]) ?_
  simp (maxSteps := 2000000) -implicitDefEqProofs only [c11, RS, RX, Nat.reduceLT, ↓RP0, ↓RP1, ↓RP2, ↓RP3, RV, RW, ↓reduceIte, Nat.reduceAdd, Nat.reduceSub, Nat.reduceMul, Nat.reduceLeDiff, Nat.reduceEqDiff, Int.reduceLT, Int.reduceLE, Int.reduceEq, Int.reduceNe, Int.reduceAdd, Int.reduceSub, Int.reduceMul, Int.reduceNeg, Int.reduceToNat, reduceCtorEq, fils_len]
  refine loopB (st := fun (i : Nat) => (St 5 33 [filsV t, .junk, .sl 36 [] (some 0), .sl 36 (((t.take i).map shwOf).map shwE.v) (some 1), i64 i] [])) (hp := fun i => [.tok 60 36 0, .tok 60 36 i]) (I := fun i => i ≤ t.length) (m := fun i => t.length - i) (0 : Nat) (Nat.zero_le _) ?_ ?_
  · refine weak_cutS 2 (by decide) rfl ?_ ?_
    · simp [AObj.low]
    · simp [WeakL, AV.low, lows, lows_fils]
  · intro i hi
    have tl : (((t.take i).map shwOf).map shwE.v).length = i := by rw [shws_len, List.length_map, List.length_take]; omega
    by_cases hlt : i < t.length
    · have e1 := filE.vs_get hlt
      have e3 : ((i : Int) < (t.length : Int)) = True := eq_true (by omega)
      have ox : FilOk (t.getD i filE.d0) := filE.all_getD ho hlt
      have tk : t.take (i + 1) = t.take i ++ [t.getD i filE.d0] := take_get hlt
      generalize t.getD i filE.d0 = x at *
      change _ = AV.agg (filC x) at e1
      have q : ∀ K, ask sumSp [bytesV x.data] K = K (.agg ((sumI x.data).map u8)) := fun K => (ask_sumSp ox.data).trans (by rw [sumI_u8])
      have l4 : ((sumI x.data).map u8).length = 32 := by rw [List.length_map, sumI_len]
      have lA : ((sumI x.data).map u8 ++ [AV.imm (.int .i64 0)]).length = 33 := by rw [List.length_append, l4]; rfl
      have tA : List.take 32 ((sumI x.data).map u8 ++ [AV.imm (.int .i64 0)]) = (sumI x.data).map u8 := List.take_left' l4
      have dA : List.drop 33 ((sumI x.data).map u8 ++ [AV.imm (.int .i64 0)]) = [] := List.drop_of_length_le (by rw [lA]; exact Nat.le_refl _)
      have hcs : (T x.path :: AV.imm (.int .i64 0) :: AV.imm (.int .i64 0) :: ((sumI x.data).map u8 ++ [i64 (x.data.length : Nat)])) = shwC (shwOf x) := rfl
      have l1 := shw_len (shwOf_ok ox)
      simp (maxSteps := 2000000) -implicitDefEqProofs only [RS, RX, Nat.reduceLT, ↓RP0, ↓RP1, ↓RP2, ↓RP3, RV, RW, ↓reduceIte, Nat.reduceAdd, Nat.reduceSub, Nat.reduceMul, Nat.reduceLeDiff, Nat.reduceEqDiff, Int.reduceLT, Int.reduceLE, Int.reduceEq, Int.reduceNe, Int.reduceAdd, Int.reduceSub, Int.reduceMul, Int.reduceNeg, Int.reduceToNat, reduceCtorEq, e1, e3, tl, ↓q, q, l4, lA, tA, dA, hcs, l1, shw_take (shwOf_ok ox), shw_strip, fil_len, fil0, fil1', fil_take, fil_strip, fils_len, bytes_len, AV.cells]
      rw [show List.map shwE.v (List.map shwOf (t.take i)) ++ [AV.agg (shwC (shwOf x))] = List.map shwE.v (List.map shwOf (t.take (i + 1))) by rw [tk]; simp]
      refine ⟨(fun y hy => by rw [List.mem_singleton.1 hy]; exact ⟨rfl, l1⟩), .inl trivial, .inl trivial, by omega, by omega, ⟨by omega, by omega⟩, i + 1, by dsimp only; omega, by dsimp only; omega, ?_⟩
      refine weak_cutS 2 (by decide) rfl ?_ ?_
      · simp [AObj.low]
      · simp [WeakL, AV.low, lows, lows_fils, lows_shws, -List.map_take, -List.map_map]
    · obtain rfl : i = t.length := by omega
      simp (maxSteps := 2000000) -implicitDefEqProofs only [RS, RX, Nat.reduceLT, ↓RP0, ↓RP1, ↓RP2, ↓RP3, RV, RW, ↓reduceIte, Nat.reduceAdd, Nat.reduceSub, Nat.reduceMul, Nat.reduceLeDiff, Nat.reduceEqDiff, Int.reduceLT, Int.reduceLE, Int.reduceEq, Int.reduceNe, Int.reduceAdd, Int.reduceSub, Int.reduceMul, Int.reduceNeg, Int.reduceToNat, reduceCtorEq, Int.lt_irrefl, tl, fils_len]
      rw [List.take_length]
end Go.AL.Path

/- What a user did: the reference's. -/
set_option linter.unusedSimpArgs false
set_option linter.unusedVariables false
set_option maxRecDepth 100000
namespace Go.AL.Path
open Go Go.RowKit Go.Proofs Go.AL
end Go.AL.Path
