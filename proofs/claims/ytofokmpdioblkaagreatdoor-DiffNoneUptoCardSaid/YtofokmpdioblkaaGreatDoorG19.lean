/- The texts between slashes, as strings.SplitSeq hands them out one by one. -/
import Derived.Test.YtofokmpdioblkaaGreatDoorG11
import Derived.Test.YtofokmpdioblkaaGreatDoorG18
import Derived.RangeFuncNested
import Derived.RangeFuncBound
import Derived.RangeFuncCalls
import Derived.RangeFuncLeaves
import Derived.Shelf.Abstract
import Derived.Shelf.RegionOpen
import Derived.WalkKit
import Derived.WalkSpells
import Derived.OwnWalkIn
import Derived.TacticsInMore
import Derived.LoopNIn
import Derived.LoopIn
import Derived.Lib.IndexLaws
set_option linter.unusedSimpArgs false
set_option linter.unusedVariables false
set_option maxRecDepth 100000
namespace Go.AL.Path
open Go Go.RowKit Go.Proofs Go.AL Go.Shelf
attribute [local go_sem] Oper.semAt_some
def pieces : List UInt8 → List UInt8 → List (List UInt8)
  | cur, [] => [cur]
  | cur, c :: r => if c = 47 then cur :: pieces [] r else pieces (cur ++ [c]) r
theorem pieces_none : ∀ (s cur : List UInt8), Lib.indexByte s 47 = -1 → pieces cur s = [cur ++ s]
  | [], cur, _ => by simp [pieces]
  | c :: r, cur, h => by
    unfold Lib.indexByte at h
    by_cases hc : c = 47
    · simp [hc] at h
    · have hr : Lib.indexByte r 47 = -1 := by
        simp [hc] at h
        by_cases h2 : Lib.indexByte r 47 = -1
        · exact h2
        · have h3 := h h2
          have := Lib.indexByte_ge r 47
          omega
      rw [pieces, if_neg hc, pieces_none r _ hr]
      simp
theorem pieces_some : ∀ (s cur : List UInt8) (o : Nat), Lib.indexByte s 47 = (o : Int) → o < s.length ∧ pieces cur s = (cur ++ s.take o) :: pieces [] (s.drop (o + 1))
  | [], cur, o, h => by unfold Lib.indexByte at h; omega
  | c :: r, cur, o, h => by
    unfold Lib.indexByte at h
    by_cases hc : c = 47
    · simp [hc] at h
      obtain rfl : o = 0 := by omega
      simp [pieces, hc]
    · simp [hc] at h
      by_cases h2 : Lib.indexByte r 47 = -1
      · rw [if_pos h2] at h; omega
      · rw [if_neg h2] at h
        have := Lib.indexByte_ge r 47
        obtain ⟨k, rfl⟩ : ∃ k, o = k + 1 := ⟨o - 1, by omega⟩
        obtain ⟨h3, h4⟩ := pieces_some r (cur ++ [c]) k (by omega)
        refine ⟨by simpa using h3, ?_⟩
        rw [pieces, if_neg hc, h4]
        simp
theorem B_take (s : List UInt8) (k : Nat) : (B s).extract 0 k = B (s.take k) := by
  simp [B, ByteArray.ext_iff, ByteArray.data_extract, List.extract_eq_take_drop]
theorem B_drop (s : List UInt8) (k : Nat) : (B s).extract k s.length = B (s.drop k) := by
  simp [B, ByteArray.ext_iff, ByteArray.data_extract, List.extract_eq_take_drop]
  rw [← List.length_drop, List.take_length]
theorem sl_to (rest : List UInt8) {o : Nat} (h : o ≤ rest.length) (wx : World) : (Instr.slice 9 (.string (B rest)) none (some (.int .i64 (o : Int))) none).run Tryz.prog wx = .ok (.string (B (rest.take o))) wx := by
  have hsz : (B rest).size = rest.length := rfl
  rw [run_slice_string_to_if wx 9 (B rest) .i64 (o : Int) Tryz.underlying9, if_pos (by rw [hsz]; omega), Int.toNat_natCast, B_take]
theorem sl_from (rest : List UInt8) {o : Nat} (h : o + 1 ≤ rest.length) (wx : World) : (Instr.slice 9 (.string (B rest)) (some (.int .i64 ((o : Int) + 1))) none none).run Tryz.prog wx = .ok (.string (B (rest.drop (o + 1)))) wx := by
  have hsz : (B rest).size = rest.length := rfl
  rw [run_slice_string_from_if wx 9 (B rest) .i64 ((o : Int) + 1) Tryz.underlying9, if_pos (by rw [hsz]; omega), show ((o : Int) + 1).toNat = o + 1 by omega, hsz, B_drop]
theorem w64 (n : Int) (h : 0 ≤ n) (h' : n ≤ 1099511627777) : wrap64 n = n := by unfold wrap64; omega
theorem rest_facts (rest : List UInt8) (m : Nat) (hlen : rest.length ≤ m) (hs : m ≤ 1099511627776) :
    (Lib.indexByte rest 47 = -1 ∧ pieces [] rest = [rest]) ∨
    (∃ o : Nat, Lib.indexByte rest 47 = (o : Int) ∧ pieces [] rest = rest.take o :: pieces [] (rest.drop (o + 1)) ∧ (rest.take o).length ≤ m ∧ (rest.drop (o + 1)).length ≤ m ∧ (rest.drop (o + 1)).length < rest.length ∧ wrap64 (o : Int) = o ∧ wrap64 ((o : Int) + 1) = o + 1 ∧ (decide ((o : Int) < 0) = false) ∧
      (∀ wx, (Instr.slice 9 (.string (B rest)) none (some (.int .i64 (o : Int))) none).run Tryz.prog wx = .ok (.string (B (rest.take o))) wx) ∧
      (∀ wx, (Instr.slice 9 (.string (B rest)) (some (.int .i64 ((o : Int) + 1))) none none).run Tryz.prog wx = .ok (.string (B (rest.drop (o + 1)))) wx)) := by
  have hge := Lib.indexByte_ge rest 47
  by_cases hm : Lib.indexByte rest 47 = -1
  · exact .inl ⟨hm, by rw [pieces_none rest [] hm]; rfl⟩
  · obtain ⟨o, ho⟩ : ∃ o : Nat, Lib.indexByte rest 47 = (o : Int) := ⟨(Lib.indexByte rest 47).toNat, by omega⟩
    obtain ⟨ho1, ho2⟩ := pieces_some rest [] o ho
    exact .inr ⟨o, ho, by rw [ho2]; rfl, by simp; omega, by simp; omega, by simp; omega, w64 _ (by omega) (by omega), w64 _ (by omega) (by omega), by simp, sl_to rest (by omega), sl_from rest (by omega)⟩
theorem hix_of (rest : List UInt8) : ∀ w, Calls Tryz.prog 61 #[.string (B rest), .string ⟨#[47]⟩] w fun e w' => e = .returned (.int .i64 (Lib.indexByte rest 47)) ∧ w' = w := Tryz.strings_Index_one (B rest) 47
set_option maxHeartbeats 2000000 in
theorem seq71 (F : Fence) (n : Nat) (hF : F = Fence.wide) (l Bs Bp Bv n₀ : Nat) (s : List UInt8) (hs : s.length ≤ 1099511627776) (hBp : Bp < n₀) (hBv : Bv < n₀) (hBs : Bs < n₀) (hne : Bp ≠ Bs) (hne' : Bv ≠ Bs) (J Jx : List (List UInt8) → World → Prop)
    (hJ : ∀ pre W v, J pre W → J pre (W.setCell ⟨Bs, 0, none⟩ v))
    (hY : ∀ pre x W, J pre W → x.length ≤ s.length → YieldAt F (n - 1) Tryz.prog l #[.string (B x)] W fun e W' =>
      (e = .returned (.bool true) ∧ J (pre ++ [x]) W' ∧ Below n₀ W W') ∨ (e = .returned (.bool false) ∧ Jx (pre ++ [x]) W'))
    (W : World) (hb : W.cell? ⟨Bs, 0, none⟩ = some (.string (B s))) (hf : W.frozen? ⟨Bs, 0, none⟩ = false) (hp : W.cell? ⟨Bp, 0, none⟩ = some (.string (B [47]))) (hv : W.cell? ⟨Bv, 0, none⟩ = some (.int .i64 0)) (h0 : J [] W) :
    CallsIn F n Tryz.prog 135 #[.func (.yield l) #[] #[], .pointer (some ⟨Bp, 0, none⟩), .pointer (some ⟨Bs, 0, none⟩), .pointer (some ⟨Bv, 0, none⟩)] W fun e W' => (∃ v, e = .returned v) ∧
      (J (pieces [] s) W' ∨ Jx (pieces [] s) W' ∨ (∃ pre, pre <+: pieces [] s ∧ Jx pre W')) := by
  have hro : F.round = none := by rw [hF]; rfl
  have hdep : F.depth.isSome = false := by rw [hF]; rfl
  refine callsIn_of_wp Tryz.func135 rfl (by rw [hF]; trivial) ?_ hro
  simp only [Tryz.ntmps135, List.size_toArray, List.length_cons, List.length_nil, Nat.reduceAdd, Nat.reduceSub, Array.replicate_succ, Array.replicate_zero, List.push_toArray, List.append_toArray, List.nil_append, List.cons_append]
  subst hF
  have h47 : (((B [47]).size : Nat) : Int) = 1 := rfl
  gi_wp2
  gi_loopw [7] (fun _ wr => ∃ (pre : List (List UInt8)) (rest : List UInt8), pieces [] s = pre ++ pieces [] rest ∧ rest.length ≤ s.length ∧ wr.cell? ⟨Bs, 0, none⟩ = some (.string (B rest)) ∧ wr.frozen? ⟨Bs, 0, none⟩ = false ∧
      wr.cell? ⟨Bp, 0, none⟩ = some (.string (B [47])) ∧ wr.cell? ⟨Bv, 0, none⟩ = some (.int .i64 0) ∧ J pre wr)
    (fun _ wr => match wr.cell? ⟨Bs, 0, none⟩ with | some (.string r) => r.size | _ => 0)
  case atStart => exact ⟨[], s, rfl, Nat.le_refl _, hb, hf, hp, hv, h0⟩
  case round =>
    obtain ⟨pre, rest, hpc, hlen, hb, hf, hp, hv, h0⟩ := hrel
    have hix := hix_of rest
    rcases rest_facts rest s.length hlen hs with ⟨hm, hp1⟩ | ⟨o, ho, ho2, hl1, hl2, hl3, hw0, hw1, hd0, hsl, hsr⟩
    · rw [hm] at hix
      obtain ⟨fn, tmps, assign, body, hy, hR⟩ := hY pre rest wr h0 hlen
      clear hY
      gi_wp2_with (refine ⟨trivial, ?_⟩; gi_at_call 61; refine (callsIn_wide.2 (hix _)).mono ?_; rintro e w' ⟨rfl, rfl⟩)
      refine hR.mono ?_
      rintro e W3 (⟨rfl, hJ3, hk3⟩ | ⟨rfl, hJx3⟩)
      · gi_wp2
        refine bodyPost_end (results_none rfl _ _ _) rfl ?_
        exact ⟨⟨_, rfl⟩, .inl (by rw [hpc, hp1]; exact hJ3)⟩
      · gi_wp2
        refine bodyPost_end (results_none rfl _ _ _) rfl ?_
        exact ⟨⟨_, rfl⟩, .inr (.inl (by rw [hpc, hp1]; exact hJx3))⟩
    · rw [ho] at hix
      obtain ⟨fn, tmps, assign, body, hy, hR⟩ := hY pre (rest.take o) wr h0 hl1
      have hpc2 : pieces [] s = (pre ++ [rest.take o]) ++ pieces [] (rest.drop (o + 1)) := by rw [hpc, ho2]; simp
      have hpre : pre ++ [rest.take o] <+: pieces [] s := ⟨pieces [] (rest.drop (o + 1)), by rw [hpc2]⟩
      clear hY hl1 ho2 hlen hpc ho hs
      gi_wp2_with (refine ⟨trivial, ?_⟩; gi_at_call 61; refine (callsIn_wide.2 (hix _)).mono ?_; rintro e w' ⟨rfl, rfl⟩)
      refine hR.mono ?_
      rintro e W3 (⟨rfl, hJ3, hk3⟩ | ⟨rfl, hJx3⟩)
      · have hb3 : W3.cell? ⟨Bs, 0, none⟩ = some (.string (B rest)) := (hk3.cell (p := ⟨Bs, 0, none⟩) hBs).trans hb
        have hf3 : W3.frozen? ⟨Bs, 0, none⟩ = false := (hk3.frozen (p := ⟨Bs, 0, none⟩) hBs).trans hf
        have hp3 : W3.cell? ⟨Bp, 0, none⟩ = some (.string (B [47])) := (hk3.cell (p := ⟨Bp, 0, none⟩) hBp).trans hp
        have hv3 : W3.cell? ⟨Bv, 0, none⟩ = some (.int .i64 0) := (hk3.cell (p := ⟨Bv, 0, none⟩) hBv).trans hv
        have hfin : (∃ (p : List (List UInt8)) (r : List UInt8), pieces [] s = p ++ pieces [] r ∧ r.length ≤ s.length ∧ (W3.setCell ⟨Bs, 0, none⟩ (.string (B (rest.drop (o + 1))))).cell? ⟨Bs, 0, none⟩ = some (.string (B r)) ∧ (W3.setCell ⟨Bs, 0, none⟩ (.string (B (rest.drop (o + 1))))).frozen? ⟨Bs, 0, none⟩ = false ∧
            (W3.setCell ⟨Bs, 0, none⟩ (.string (B (rest.drop (o + 1))))).cell? ⟨Bp, 0, none⟩ = some (.string (B [47])) ∧ (W3.setCell ⟨Bs, 0, none⟩ (.string (B (rest.drop (o + 1))))).cell? ⟨Bv, 0, none⟩ = some (.int .i64 0) ∧ J p (W3.setCell ⟨Bs, 0, none⟩ (.string (B (rest.drop (o + 1)))))) :=
          ⟨pre ++ [rest.take o], rest.drop (o + 1), hpc2, hl2, World.cell?_setCell_same' _ _ _ (by rw [hb3]; rfl), by rw [World.frozen?_setCell]; exact hf3, (World.cell?_setCell_other W3 ⟨Bs, 0, none⟩ ⟨Bp, 0, none⟩ _ (fun e => hne (by injection e with e1; exact e1.symm))).trans hp3, (World.cell?_setCell_other W3 ⟨Bs, 0, none⟩ ⟨Bv, 0, none⟩ _ (fun e => hne' (by injection e with e1; exact e1.symm))).trans hv3, hJ _ _ _ hJ3⟩
        have hms : (W3.setCell ⟨Bs, 0, none⟩ (.string (B (rest.drop (o + 1))))).cell? ⟨Bs, 0, none⟩ = some (.string (B (rest.drop (o + 1)))) := World.cell?_setCell_same' _ _ _ (by rw [hb3]; rfl)
        clear hJ hJ3 h0 hk3 hpc2 hpre hl2
        gi_wp2
        go_roundw
        case rel => exact hfin
        case measure => rw [hms, hb]; exact hl3
      · clear hpc2
        gi_wp2
        refine bodyPost_ret (results_none rfl _ _ _) rfl ?_
        exact ⟨⟨_, rfl⟩, .inr (.inr ⟨_, hpre, hJx3⟩)⟩
end Go.AL.Path
