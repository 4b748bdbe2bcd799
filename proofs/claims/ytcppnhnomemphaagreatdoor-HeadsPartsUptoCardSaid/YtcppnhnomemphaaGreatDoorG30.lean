/- slices.Clone at events. -/
import Derived.Test.YtcppnhnomemphaaGreatDoorG15
import Derived.Test.YtcppnhnomemphaaGreatDoorG29
import Derived.WalkKit
import Derived.WalkSpells
import Derived.WalkLawsBesides
import Derived.Lib.SliceRun
import Derived.Lib.Walk
import Derived.Deep.LoopGhost
import Derived.Shelf.RegionOpenPlain
set_option linter.unusedSimpArgs false
set_option linter.unusedVariables false
set_option maxRecDepth 100000
namespace Go.AL.Path
open Go Go.RowKit Go.Proofs Go.AL

theorem info30 : ∃ i z, Tryz.prog.info? 30 = some i ∧ i.zero = some z ∧ i.size = 38 ∧ i.bytes = 104 ∧ z.cells.size = 38 := ⟨_, _, rfl, rfl, rfl, rfl, rfl⟩

set_option maxHeartbeats 2000000 in
theorem c31 (a : Addr) (n c : Nat) (news : List Value) (w : World) (hl : news.length = n * 38) (hn : n ≤ maxLen) (hbig : n * 104 ≤ 140737488355328)
    (hc : ∀ j u, news[j]? = some u → w.cell? (a.add j) = some u) (h1 : ∀ u ∈ news, u.oneCell' = true) :
    Calls Tryz.prog 31 #[.slice (some a) n c] w fun e w' => ∃ v', e = .returned v' ∧ w'.ownsRow w.heap.size 30 38 v' n news ∧ Below w.heap.size w w' := by
  obtain ⟨i0, z, hi, hz0, hz1, hz2, hzs⟩ := info30
  have q22 : ∀ (w : World) (a : Option Addr) (n c n' c' : Nat), (binOp .eql 22 (.slice a n c) (.slice none n' c')).run Tryz.prog w = .ok (.bool a.isNone) w := fun w a n c n' c' => Lib.run_eql_slice_nil w _ _ a n c n' c' Tryz.underlying22
  have A : Aside (∀ j u, news[j]? = some u → w.cell? (a.add j) = some u) := hc
  clear hc
  go_enter Tryz.func31, Tryz.ntmps31
  go_wp2_with (at_builtin; refine wpList_append_own _ rfl _ _ 22 rfl w.heap.size 30 i0 z 38 104 Tryz.underlying22 hi hz0 hz1 hz2 hzs (by decide) _ _ _ rfl (World.ownsRow_made w #[] 0 (Nat.le_refl _) (Nat.zero_le _) (by simp)) a n c news rfl ?qc1 ?qc2 ?qc3 ?qc4 ?qc5 ?qc6 ?_)
  case qc1 => exact hl
  case qc2 =>
    intro j u hj
    exact Lib.cell?_alloc_some _ (A.out j u hj)
  case qc3 => exact h1
  case qc4 => rw [Nat.zero_add]; exact hn
  case qc5 => rw [Nat.zero_add]; exact hbig
  case qc6 => simp
  intro v' w1 hown hgrow hnil
  go_wp2
  go_ret
  refine ⟨v', rfl, by simpa using hown, ?_⟩
  exact ((Below.refl _ w).alloc (Nat.le_refl _) _).grown hgrow (by simp) (by intro k hk; simp [Value.ownBlock] at hk; omega)

set_option maxHeartbeats 1000000 in
theorem c31n (n c : Nat) (w : World) : Calls Tryz.prog 31 #[.slice none n c] w fun e w' => e = .returned (.slice none 0 0) ∧ w' = w := by
  have q22 : ∀ (w : World) (a : Option Addr) (n c n' c' : Nat), (binOp .eql 22 (.slice a n c) (.slice none n' c')).run Tryz.prog w = .ok (.bool a.isNone) w := fun w a n c n' c' => Lib.run_eql_slice_nil w _ _ a n c n' c' Tryz.underlying22
  go_enter Tryz.func31, Tryz.ntmps31
  go_wp2
  go_ret
  exact ⟨rfl, rfl⟩
end Go.AL.Path

/- slices.DeleteFunc at events: in a row of one's own. -/
set_option linter.unusedSimpArgs false
set_option linter.unusedVariables false
set_option maxRecDepth 100000
namespace Go.AL.Path
open Go Go.RowKit Go.Proofs Go.AL

theorem clones31 : ClonesAt Tryz.prog 31 30 38 104 := ⟨c31n, c31⟩
theorem p31c (l : List Ev) (hs : l.length ≤ 1099511627) : Pure Tryz.prog G 31 [evsV l] (evsV l) :=
  pure_clone hG Tryz.func31 rfl (by decide +kernel) (by decide) clones31 (by rw [evs_len]; omega) (by simp [lows_evs])
theorem o31c (l : List Ev) (hs : l.length ≤ 1099511627) (H : List AObj) : Ok Tryz.prog G 31 [evsV l] H (.rs H.length 0 38 0 l.length) (H ++ [.row 30 38 0 (l.map evV)]) := by
  have := ok_clone (G := G) Tryz.func31 rfl (by decide +kernel) (by decide) clones31 (xs := l.map evV) (tok := none) (by rw [evs_len]; omega) H
  rwa [evs_len] at this

theorem idxOf_some {α : Type} {p : α → Bool} {l : List α} (d : α) (h : l.any p = true) : ∃ k, k < l.length ∧ idxOf p l = (k : Int) ∧ (l.take k).any p = false ∧ p (l.getD k d) = true := by
  obtain ⟨x, hx, hp⟩ := List.any_eq_true.1 h
  have hlt : l.findIdx p < l.length := List.findIdx_lt_length_of_exists ⟨x, hx, hp⟩
  refine ⟨l.findIdx p, hlt, by unfold idxOf; rw [if_pos h], ?_, ?_⟩
  · rw [List.any_eq_false]
    intro y hy
    rw [List.mem_take_iff_getElem] at hy
    obtain ⟨j, hj, rfl⟩ := hy
    have := List.not_of_lt_findIdx (p := p) (xs := l) (i := j) (by omega)
    simpa using this
  · rw [List.getD_eq_getElem?_getD, List.getElem?_eq_getElem hlt]
    exact List.findIdx_getElem (w := hlt)

/-- What stays of the first j. -/
def kept {α : Type} (p : α → Bool) (l : List α) (j : Nat) : List α := (l.take j).filter fun x => !p x
theorem kept_le {α : Type} (p : α → Bool) (l : List α) (j : Nat) : (kept p l j).length ≤ j := Nat.le_trans (List.length_filter_le _ _) (by rw [List.length_take]; omega)
theorem kept_step {p : Ev → Bool} {l : List Ev} {j : Nat} (h : j < l.length) : kept p l (j + 1) = if p (l.getD j ev0d) = true then kept p l j else kept p l j ++ [l.getD j ev0d] := by
  unfold kept
  rw [evs_take h, List.filter_append]
  generalize l.getD j ev0d = x
  cases hp : p x <;> simp [hp]
theorem kept_none {α : Type} {p : α → Bool} {l : List α} {k : Nat} (h : (l.take k).any p = false) : kept p l k = l.take k := by
  unfold kept
  rw [List.filter_eq_self]
  intro a ha
  rw [List.any_eq_false] at h
  simpa using h a ha
/-- The row while it is gone through. -/
def row32 (p : Ev → Bool) (l : List Ev) (j : Nat) : List Ev := kept p l j ++ l.drop (kept p l j).length
theorem row32_len {p : Ev → Bool} {l : List Ev} {j : Nat} (h : j ≤ l.length) : (row32 p l j).length = l.length := by
  have := kept_le p l j
  simp [row32]; omega
theorem row32_get {p : Ev → Bool} {l : List Ev} {j : Nat} (h : j < l.length) : ((row32 p l j).map evV)[j]? = some (evV (l.getD j ev0d)) := by
  have := kept_le p l j
  unfold row32
  rw [List.getElem?_map, List.getElem?_append_right this, List.getElem?_drop, show (kept p l j).length + (j - (kept p l j).length) = j by omega, List.getD_eq_getElem?_getD, List.getElem?_eq_getElem h]
  rfl
theorem row32_set {p : Ev → Bool} {l : List Ev} {j : Nat} (h : j < l.length) (hp : p (l.getD j ev0d) = false) : ((row32 p l j).map evV).set (kept p l j).length (evV (l.getD j ev0d)) = (row32 p l (j + 1)).map evV := by
  have hk := kept_step (p := p) h
  have hle := kept_le p l j
  rw [hp] at hk
  simp only [Bool.false_eq_true, if_false] at hk
  unfold row32
  rw [hk]
  generalize kept p l j = a at *
  generalize l.getD j ev0d = x at *
  rw [List.map_append, List.set_append_right _ _ (by simp)]
  simp only [List.length_map, Nat.sub_self, List.map_append, List.map_cons, List.map_nil, List.length_append, List.length_singleton, List.append_assoc, List.singleton_append]
  congr 1
  rw [List.drop_eq_getElem_cons (show a.length < l.length by omega)]
  rfl
theorem row32_skip {p : Ev → Bool} {l : List Ev} {j : Nat} (h : j < l.length) (hp : p (l.getD j ev0d) = true) : row32 p l (j + 1) = row32 p l j := by
  unfold row32
  rw [kept_step h, if_pos hp]
theorem kept_ok {p : Ev → Bool} {l : List Ev} {j : Nat} (ho : AllOk l) : AllOk (kept p l j) := fun e he => ho e (List.mem_of_mem_take (List.mem_filter.1 he).1)

def zEv : AV := .agg ([.imm (.int .i64 0), .imm (.int .i64 0), .sl 0 [] none, .imm (.int .i64 0), .imm (.string ⟨#[]⟩)] ++ List.replicate 32 (.imm (.int .u8 0)) ++ [.imm (.int .i64 0)])
theorem zEv_low (n : Nat) : zEv.low n := by
  show lows n _
  simp [lows, AV.low, List.replicate]
theorem zEv_isVal : zEv.isVal = true := rfl
theorem zEv_cells : zEv.cells.length = 38 := rfl

def c32 : ACode := (.seq (.reg false 0 [⟨(.some 4), none, (.q .mv), [(.c (.sl 0 [] none))]⟩]) (.seq (.reg false 0 [⟨(.some 8), none, (.q .mv), [(.t 0)]⟩, ⟨(.some 9), none, (.q .mv), [(.t 1)]⟩, ⟨(.some 10), none, (.call true), [(.c (.fn (.func 34) [] [])), (.t 8), (.t 9)]⟩, ⟨(.some 5), none, (.q .mv), [(.t 10)]⟩]) (.seq (.seq (.reg false 0 [⟨(.some 11), none, (.q .mv), [(.t 5)]⟩, ⟨(.some 12), none, (.q (.bin .eql 3)), [(.t 11), (.c (.imm (.int .i64 (-1))))]⟩]) (.cond (.t 12) (.seq (.reg false 0 [⟨(.some 13), none, (.q .mv), [(.t 0)]⟩, ⟨(.some 4), none, (.q .mv), [(.t 13)]⟩]) .ret) .skip)) (.seq (.seq (.reg false 0 [⟨(.some 14), none, (.q .mv), [(.t 5)]⟩, ⟨(.some 15), none, (.q (.bin .add 3)), [(.t 14), (.c (.imm (.int .i64 1)))]⟩, ⟨(.some 6), none, (.q .mv), [(.t 15)]⟩]) (.block 0 (.loop (.seq (.seq (.reg false 0 [⟨(.some 16), none, (.q .mv), [(.t 6)]⟩, ⟨(.some 17), none, (.q .mv), [(.t 0)]⟩, ⟨(.some 18), none, (.q .lenL), [(.t 17)]⟩, ⟨(.some 19), none, (.q (.bin .lss 3)), [(.t 16), (.t 18)]⟩]) (.cond (.t 19) .skip (.exit 0))) (.seq (.block 1 (.seq (.reg false 1 [⟨(.some 22), none, (.q .mv), [(.t 0)]⟩, ⟨(.some 23), none, (.q .mv), [(.t 6)]⟩, ⟨(.some 24), none, (.q (.iaddrS 38)), [(.t 22), (.t 23)]⟩, ⟨(.some 25), none, (.l (.loadA 38)), [(.t 24)]⟩, ⟨(.some 7), none, (.m (.alloc [(.imm (.int .i64 0)), (.imm (.int .i64 0)), (.sl 0 [] none), (.imm (.int .i64 0)), (.imm (.string (B []))), (.imm (.int .u8 0)), (.imm (.int .u8 0)), (.imm (.int .u8 0)), (.imm (.int .u8 0)), (.imm (.int .u8 0)), (.imm (.int .u8 0)), (.imm (.int .u8 0)), (.imm (.int .u8 0)), (.imm (.int .u8 0)), (.imm (.int .u8 0)), (.imm (.int .u8 0)), (.imm (.int .u8 0)), (.imm (.int .u8 0)), (.imm (.int .u8 0)), (.imm (.int .u8 0)), (.imm (.int .u8 0)), (.imm (.int .u8 0)), (.imm (.int .u8 0)), (.imm (.int .u8 0)), (.imm (.int .u8 0)), (.imm (.int .u8 0)), (.imm (.int .u8 0)), (.imm (.int .u8 0)), (.imm (.int .u8 0)), (.imm (.int .u8 0)), (.imm (.int .u8 0)), (.imm (.int .u8 0)), (.imm (.int .u8 0)), (.imm (.int .u8 0)), (.imm (.int .u8 0)), (.imm (.int .u8 0)), (.imm (.int .u8 0)), (.imm (.int .i64 0))] false) 0), []⟩, ⟨none, none, (.e (.store 38)), [(.t 7), (.t 25)]⟩]) (.seq (.reg false 0 [⟨(.some 26), none, (.q .mv), [(.t 1)]⟩, ⟨(.some 27), none, (.l (.loadA 38)), [(.t 7)]⟩, ⟨(.some 28), none, (.call true), [(.t 26), (.t 27)]⟩, ⟨(.some 29), none, (.q (.un .not)), [(.t 28)]⟩]) (.cond (.t 29) (.seq (.reg false 0 [⟨(.some 30), none, (.q .mv), [(.t 0)]⟩, ⟨(.some 31), none, (.q .mv), [(.t 5)]⟩, ⟨(.some 32), none, (.l (.loadA 38)), [(.t 7)]⟩, ⟨(.some 33), none, (.q (.iaddrS 38)), [(.t 30), (.t 31)]⟩, ⟨none, none, (.e (.store 38)), [(.t 33), (.t 32)]⟩]) (.reg false 0 [⟨(.some 34), none, (.q .mv), [(.t 5)]⟩, ⟨(.some 35), none, (.q (.bin .add 3)), [(.t 34), (.c (.imm (.int .i64 1)))]⟩, ⟨(.some 5), none, (.q .mv), [(.t 35)]⟩])) .skip)))) (.reg false 0 [⟨(.some 20), none, (.q .mv), [(.t 6)]⟩, ⟨(.some 21), none, (.q (.bin .add 3)), [(.t 20), (.c (.imm (.int .i64 1)))]⟩, ⟨(.some 6), none, (.q .mv), [(.t 21)]⟩])))))) (.seq (.reg false 0 [⟨(.some 36), none, (.q .mv), [(.t 0)]⟩, ⟨(.some 37), none, (.q .mv), [(.t 5)]⟩, ⟨(.some 38), none, (.q (.sliceL 38 true false false)), [(.t 36), (.t 37)]⟩, ⟨none, none, (.e (.clear (.agg [(.imm (.int .i64 0)), (.imm (.int .i64 0)), (.sl 0 [] none), (.imm (.int .i64 0)), (.imm (.string (B []))), (.imm (.int .u8 0)), (.imm (.int .u8 0)), (.imm (.int .u8 0)), (.imm (.int .u8 0)), (.imm (.int .u8 0)), (.imm (.int .u8 0)), (.imm (.int .u8 0)), (.imm (.int .u8 0)), (.imm (.int .u8 0)), (.imm (.int .u8 0)), (.imm (.int .u8 0)), (.imm (.int .u8 0)), (.imm (.int .u8 0)), (.imm (.int .u8 0)), (.imm (.int .u8 0)), (.imm (.int .u8 0)), (.imm (.int .u8 0)), (.imm (.int .u8 0)), (.imm (.int .u8 0)), (.imm (.int .u8 0)), (.imm (.int .u8 0)), (.imm (.int .u8 0)), (.imm (.int .u8 0)), (.imm (.int .u8 0)), (.imm (.int .u8 0)), (.imm (.int .u8 0)), (.imm (.int .u8 0)), (.imm (.int .u8 0)), (.imm (.int .u8 0)), (.imm (.int .u8 0)), (.imm (.int .u8 0)), (.imm (.int .u8 0)), (.imm (.int .i64 0))]))), [(.t 38)]⟩]) (.seq (.reg false 0 [⟨(.some 39), none, (.q .mv), [(.t 0)]⟩, ⟨(.some 40), none, (.q .mv), [(.t 5)]⟩, ⟨(.some 41), none, (.q (.sliceL 38 false true false)), [(.t 39), (.t 40)]⟩, ⟨(.some 4), none, (.q .mv), [(.t 41)]⟩]) .ret))))))
theorem fn32 : IsFn Tryz.prog 32 [] c32 [4] 42 := ⟨_, _, Tryz.func32, rfl, by decide +kernel, by kernel_rfl, rfl, rfl⟩
set_option maxHeartbeats 4000000 in
theorem o32 {g : Nat} {caps caps' : List AV} {p : Ev → Bool} {H : List AObj} {id ver : Nat} {l : List Ev} (hg : ∀ e, EvOk e → Pure Tryz.prog G g (evV e :: caps') (bool (p e))) (hc' : lows 0 caps') (hst' : caps'.map AV.strip = caps')
    (hcap : ∀ o L, caps.map (lendV (RowH H id o L)) = caps') (hcap1 : ∀ o L, caps.map (lend1 (RowH H id o L)) = caps') (hcl : lows H.length caps) (hst : caps.map AV.strip = caps) (hne : ¬ 34 = g)
    (hH : H[id]? = some (.row 30 38 ver (l.map evV))) (hlow : ∀ o ∈ H, o.low H.length) (ho : AllOk l) (hs : l.length ≤ 1099511627) :
    Ok Tryz.prog G 32 [.rs id ver 38 0 l.length, .fn (.func g) [] caps] H (.rs id ver 38 0 (l.filter fun x => !p x).length) (H.set id (.row 30 38 ver ((l.filter fun x => !p x).map evV ++ List.replicate (l.length - (l.filter fun x => !p x).length) zEv))) := by
  have hid : id < H.length := SimH.lt hH
  have hself := RowH_self hH
  have hkn : kept p l l.length = l.filter fun x => !p x := by unfold kept; rw [List.take_length]
  have lowH : ∀ (xs : List AV), lows H.length xs → ∀ o ∈ H.set id (.row 30 38 ver xs), o.low H.length := by
    intro xs hx o ho'
    rcases List.mem_or_eq_of_mem_set ho' with h | h
    · exact hlow o h
    · subst h; exact hx
  have lowE : ∀ (n : Nat) (m : List Ev), lows n (m.map evV) := fun n m => lows_evs n m
  refine ok_of_code (S := sp [] [(34, lendT (evsFn g caps' fun l => i64 (idxOf p l))), (g, predT evV caps (fun H => caps.map (lendV H) = caps') EvOk p)]) hm hG
    (sp_holds .nil (.cons (toldT_lend hG (told_evsFn fun l h1 h2 => p34c hc' hst' hg l h1 h2)) (.cons (toldT_pred hG (fun a H _ => rfl) (fun a _ => lows_ev 0 a) hc' hg) .nil))) fn32
    (St 8 42 [.rs id ver 38 0 l.length, .fn (.func g) [] caps, .junk, .junk, .junk, .junk, .junk, .junk] []) (by kernel_rfl) (by simp [AV.low, hid]) (by simp) ?_ ?_
  · rw [List.length_set]
    refine lowH _ ?_
    rw [lows_append']
    refine ⟨lowE _ _, ?_⟩
    rw [lows_iff]
    intro a ha
    rw [List.eq_of_mem_replicate ha]
    exact zEv_low _
  have qi : ∀ K, ask (evsFn g caps' fun l => i64 (idxOf p l)) [.sl 38 (l.map evV) none, .fn (.func g) [] caps'] K = (l.length ≤ 1099511627776 ∧ K (i64 (idxOf p l))) := fun K => ask_evsFn ho
  have hr : lendR ver 38 0 l.length (some (.row 30 38 ver (l.map evV))) = .sl 38 (l.map evV) none := lendR_all (evs_len l)
  have lw : (lows 0 [AV.sl 38 (l.map evV) none, AV.fn (.func g) [] caps']) = True := eq_true (by simp [lows, AV.low, lowE, hc'])
  have inj : ∀ a b, EvOk a → EvOk b → evV a = evV b → a = b := fun a b ha hb h => by
    have h4 : evCells a = evCells b := by injection h
    have h5 := evOf_cells ha.len
    rw [h4, evOf_cells hb.len] at h5
    exact (Option.some.inj h5).symm
  generalize hn0 : H.length = N
  rw [hself]
  by_cases hany : l.any p = true
  · obtain ⟨k, hk, hidx, hnone, hpk⟩ := idxOf_some ev0d hany
    have d1 : ((k : Int) = -1) = False := eq_false (by omega)
    simp (maxSteps := 2000000) -implicitDefEqProofs only [c32, RS, Nat.reduceLT, ↓RP0, ↓RP1, ↓RP2, ↓RP3, RV, RW, ↓reduceIte, Nat.reduceAdd, Nat.reduceSub, Nat.reduceMul, Nat.reduceLeDiff, Nat.reduceEqDiff, Int.reduceLT, Int.reduceLE, Int.reduceEq, Int.reduceNe, Int.reduceAdd, Int.reduceSub, Int.reduceMul, Int.reduceNeg, Int.reduceToNat, reduceCtorEq, ↓askT_lend, askT_lend, lendV_rs, lendV_fn, RowH_id hid, hr, hcap1, lw, ↓qi, qi, hne, hidx, d1, evs_len]
    have kk : kept p l (k + 1) = l.take k := by rw [kept_step hk, if_pos hpk, kept_none hnone]
    have kl : (kept p l (k + 1)).length = k := by rw [kk, List.length_take]; omega
    have hr0 : row32 p l (k + 1) = l := by unfold row32; rw [kk, List.length_take, Nat.min_eq_left (by omega), List.take_append_drop]
    have hc1 : ((k : Int) + 1) = ((k + 1 : Nat) : Int) := by omega
    refine ⟨by omega, ⟨by omega, by omega⟩, ?_⟩
    refine loopB (st := fun (j : Nat) => (St 8 42 [.rs id ver 38 0 l.length, .fn (.func g) [] caps, .junk, .junk, .sl 0 [] none, i64 (kept p l j).length, i64 j, .junk] [])) (hp := fun j => RowH H id (.row 30 38 ver ((row32 p l j).map evV)) []) (I := fun j => j ≤ l.length) (m := fun j => l.length - j) (k + 1) (by omega) ?_ ?_
    · rw [kl, hr0, hc1]
      refine weak_cutS H.length (by omega) ?_ ?_ ?_
      · rw [RowH_take, RowH_nil]
      · rw [RowH_nil]; exact lowH _ (lowE _ _)
      · simp [WeakL, AV.low, lows, hid, hcl]
    · intro j hj
      by_cases hlt : j < l.length
      · have e3 : (j : Int) < (l.length : Int) := by omega
        have gx := row32_get (p := p) hlt
        have gs := row32_set (p := p) hlt
        have gk := kept_step (p := p) hlt
        have gq := row32_skip (p := p) hlt
        have rl := row32_len (p := p) hj
        have rl' := row32_len (p := p) (show j + 1 ≤ l.length by omega)
        have kj := kept_le p l j
        have o1 := evs_ok ho j
        generalize l.getD j ev0d = x at *
        have l1 := ev_len o1.len
        have k1 := take38 o1
        have q : ∀ H' (K : AV → List AObj → Prop), askT (predT evV caps (fun H => caps.map (lendV H) = caps') EvOk p) (.agg (evCells x) :: caps) H' K = (caps.map (lendV H') = caps' ∧ splitB (p x) fun r => K r H') := fun H' K => askT_pred inj o1 rfl
        cases hpx : p x with
        | true =>
          rw [hpx] at gk
          simp only [if_true] at gk
          simp (maxSteps := 2000000) -implicitDefEqProofs only [RS, Nat.reduceLT, ↓RP0, ↓RP1, ↓RP2, ↓RP3, RV, RW, ↓reduceIte, Nat.reduceAdd, Nat.reduceSub, Nat.reduceMul, Nat.reduceLeDiff, Nat.reduceEqDiff, Int.reduceLT, Int.reduceLE, Int.reduceEq, Int.reduceNe, Int.reduceAdd, Int.reduceSub, Int.reduceMul, Int.reduceNeg, Int.reduceToNat, reduceCtorEq, ↓q, q, hcap, hpx, e3, evs_len, l1, k1, ev_strip, hst, RowH_id hid, RowH_length, RowH_append, RowH_get0, RowH_set0, gx, rl, AV.cells, hne]
          refine ⟨⟨by omega, by omega⟩, j + 1, by dsimp only; omega, by omega, ?_⟩
          dsimp only
          rw [gk, gq hpx]
          refine weak_cutS H.length (by omega) ?_ ?_ ?_
          · rw [RowH_take, RowH_nil]
          · rw [RowH_nil]; exact lowH _ (lowE _ _)
          · simp [WeakL, AV.low, lows, hid, hcl]
        | false =>
          rw [hpx] at gk
          simp only [Bool.false_eq_true, if_false] at gk
          simp (maxSteps := 2000000) -implicitDefEqProofs only [RS, Nat.reduceLT, ↓RP0, ↓RP1, ↓RP2, ↓RP3, RV, RW, ↓reduceIte, Nat.reduceAdd, Nat.reduceSub, Nat.reduceMul, Nat.reduceLeDiff, Nat.reduceEqDiff, Int.reduceLT, Int.reduceLE, Int.reduceEq, Int.reduceNe, Int.reduceAdd, Int.reduceSub, Int.reduceMul, Int.reduceNeg, Int.reduceToNat, reduceCtorEq, ↓q, q, hcap, hpx, e3, evs_len, l1, k1, ev_strip, hst, RowH_id hid, RowH_length, RowH_append, RowH_get0, RowH_set0, RowH_setId hid, gx, rl, AV.cells, hne]
          refine ⟨by omega, by omega, ⟨by omega, by omega⟩, ⟨by omega, by omega⟩, j + 1, by dsimp only; omega, by omega, ?_⟩
          dsimp only
          rw [gk, ← gs hpx]
          refine weak_cutS H.length (by omega) ?_ ?_ ?_
          · rw [RowH_take, RowH_nil]
          · rw [RowH_nil, gs hpx]; exact lowH _ (lowE _ _)
          · simp [WeakL, AV.low, lows, hid, hcl]
      · obtain rfl : j = l.length := by omega
        have hkl := kept_le p l l.length
        have r9 : row32 p l l.length = (l.filter fun x => !p x) ++ l.drop (l.filter fun x => !p x).length := by unfold row32; rw [hkn]
        rw [hkn] at hkl
        simp (maxSteps := 2000000) -implicitDefEqProofs only [RS, Nat.reduceLT, ↓RP0, ↓RP1, ↓RP2, ↓RP3, RV, RW, ↓reduceIte, Nat.reduceAdd, Nat.reduceSub, Nat.reduceMul, Nat.reduceLeDiff, Nat.reduceEqDiff, Int.reduceLT, Int.reduceLE, Int.reduceEq, Int.reduceNe, Int.reduceAdd, Int.reduceSub, Int.reduceMul, Int.reduceNeg, Int.reduceToNat, reduceCtorEq, evs_len, Int.lt_irrefl, RowH_id hid, RowH_setId hid, retO_ret, hkn, r9]
        generalize (l.filter fun x => !p x) = F at *
        have key : List.map evV F ++ List.replicate (l.length - F.length) zEv = List.take F.length (List.map evV (F ++ List.drop F.length l)) ++ List.replicate (l.length - F.length) zEv ++ List.drop (F.length + (l.length - F.length)) (List.map evV (F ++ List.drop F.length l)) := by
          rw [List.map_append, List.take_append_of_le_length (by simp), List.take_of_length_le (by simp), List.drop_of_length_le (by simp), List.append_nil]
        have tk : ∀ o, List.take (RowH H id o []).length (RowH H id o []) = RowH H id o [] := fun o => List.take_length
        have tl : ∀ o o', (RowH H id o []).length = (RowH H id o' []).length := fun o o' => by simp [RowH_length]
        refine ⟨by omega, ?_⟩
        rcases Nat.eq_zero_or_pos (l.length - F.length) with h0 | h0
        · refine .inl ⟨h0, by omega, by simp, ?_⟩
          have hdn : List.drop F.length l = [] := List.drop_of_length_le (by omega)
          rw [h0, hdn, List.replicate_zero, List.append_nil, List.append_nil]
          exact tk _
        · refine .inr ⟨h0, by simp <;> omega, by omega, by simp, ?_⟩
          rw [tl _ (.row 30 38 ver (List.take F.length (List.map evV (F ++ List.drop F.length l)) ++ List.replicate (l.length - F.length) zEv ++ List.drop (F.length + (l.length - F.length)) (List.map evV (F ++ List.drop F.length l)))), key]
          exact tk _
  · have hnn : l.any p = false := by simpa using hany
    have hidx := idxOf_none hnn
    have hfil : (l.filter fun x => !p x) = l := by
      rw [List.filter_eq_self]
      intro a ha
      rw [List.any_eq_false] at hnn
      simpa using hnn a ha
    simp (maxSteps := 2000000) -implicitDefEqProofs only [c32, RS, Nat.reduceLT, ↓RP0, ↓RP1, ↓RP2, ↓RP3, RV, RW, ↓reduceIte, Nat.reduceAdd, Nat.reduceSub, Nat.reduceMul, Nat.reduceLeDiff, Nat.reduceEqDiff, Int.reduceLT, Int.reduceLE, Int.reduceEq, Int.reduceNe, Int.reduceAdd, Int.reduceSub, Int.reduceMul, Int.reduceNeg, Int.reduceToNat, reduceCtorEq, ↓askT_lend, askT_lend, lendV_rs, lendV_fn, RowH_id hid, hr, hcap1, lw, ↓qi, qi, hne, hidx, evs_len, RowH_setId hid, retO_ret]
    rw [hfil]
    refine ⟨by omega, rfl, ?_⟩
    rw [Nat.sub_self, List.replicate_zero, List.append_nil]
    exact List.take_length
end Go.AL.Path
