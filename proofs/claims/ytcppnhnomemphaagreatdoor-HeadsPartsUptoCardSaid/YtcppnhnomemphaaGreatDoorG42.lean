/- HeadsParts: the row and the card. -/
import Derived.Test.YtcppnhnomemphaaGreatDoorG36
import Derived.Test.YtcppnhnomemphaaGreatDoorG38
set_option linter.unusedSimpArgs false
set_option linter.unusedVariables false
set_option maxRecDepth 100000
namespace Go.AL.Path
open Go Go.RowKit Go.Proofs Go.AL Go.ChangeShapes Go.WideShapes Go.ChangeAt Go.ChangeMaps
open Go.Proofs.YtcppnhnomemphaaGreatDoor

set_option maxHeartbeats 2000000 in
theorem parts_contract (H : Type) (enc : TypeId × Value → H) (W : World) (base : Nat) (args : Array Value) (ds gs : List (DataW H)) (before : List MemPlace)
    (hval : ∀ (j : Nat) t v, Tryz.f7.params[j]? = some t → args[j]? = some v → Value.okWide Tryz.prog W .any base t v)
    (hW : DataW.Whole enc Tryz.prog Tryz.f7.params.toList Rows.headsPartsSpec.vars false W args.toList ds gs before) (hL : laidMetH Tryz.prog Rows.headsPartsUptoRow.laid W)
    (hk : Rows.uptoSmall H (ds ++ gs) = true) :
    Calls Tryz.prog 7 args W fun e W' => ∃ v, e = .returned v ∧ Rows.headsPartsSpec.post enc Tryz.prog Tryz.f7 false true false false W args v W' := by
  have hW' := hW
  obtain ⟨p, q, hA0, hV, rfl, hfz, hnd⟩ := hW
  have hA : DataW.TrodAll enc Tryz.prog W 0 (fun _ => true) true Tryz.f7.params.toList args.toList ds p := hA0
  rw [Tryz.params7] at hA hval
  obtain ⟨v0, vs0, d0, ds0, p0, q0, hargs, rfl, rfl, h0, r0⟩ := trodAll_cons hA
  obtain ⟨v1, vs1, d1, ds1, p1, q1, rfl, rfl, rfl, h1, r1⟩ := trodAll_cons r0
  obtain ⟨v2, vs2, d2, ds2, p2, q2, rfl, rfl, rfl, h2, r2⟩ := trodAll_cons r1
  obtain ⟨rfl, rfl, rfl⟩ := trodAll_nil r2
  obtain rfl : args = #[v0, v1, v2] := by cases args; simp_all
  obtain ⟨rfl, rfl⟩ := trodVars_none hV
  obtain ⟨c0, o0, s0, u0⟩ := arg_open 3 (by kernel_rfl) h0 (bulk_le hk (by simp))
  obtain ⟨a0, rfl, y0⟩ := opened_deeds (m := 0) o0
  have w0 := rep_sl Tryz.underlying37 (hval 0 37 v0 rfl rfl) s0
  obtain ⟨c1, o1, s1, u1⟩ := arg_open 2 (by kernel_rfl) h1 (bulk_le hk (by simp))
  obtain ⟨a1, rfl, y1⟩ := opened_u8s (m := 0) o1
  have w1 := rep_sl Tryz.underlying48 (hval 1 48 v1 rfl rfl) s1
  obtain ⟨c2, o2, s2, u2⟩ := arg_open 1 (by kernel_rfl) h2 (bulk_le hk (by simp))
  obtain ⟨a2, rfl, y2⟩ := opened_int (m := 0) Tryz.underlying5 o2
  have w2 := rep_int Tryz.underlying5 (hval 2 5 v2 rfl rfl) s2
  have hp := p7s a0 a1 a2 y0.1 y1.1 (wf_u8 y2)
  have hrep : Reps (start W) W [deedsV a0, u8sV a1, u8 a2] [v0, v1, v2] := .cons _ _ _ _ w0 (.cons _ _ _ _ w1 (.cons _ _ _ _ w2 .nil))
  refine (calls_start Tryz.func7 rfl (by decide +kernel) hp (table hL rfl (by simp [Rows.headsPartsUptoRow])) hrep).mono fun e W' ⟨he, hb⟩ => ?_
  exact ⟨_, he, post_below (bt := 4) hlaid (by rw [Tryz.params7]; intro t ht; simp only [List.mem_cons, List.not_mem_nil, or_false] at ht; rcases ht with rfl | rfl | rfl <;> exact ⟨by kernel_rfl, by decide +kernel⟩) rfl rfl Tryz.underlying4 rfl hW' hb⟩

def partsArgs : Array Value := #[.slice none 0 0, .slice none 0 0, .int .u8 0]
theorem parts_laid (os : Os) : laidMet Tryz.prog Rows.headsPartsUptoRow.laid ((laidWorld os).forCall (fun _ _ => 0) ⟨#[], partsArgs, []⟩).memory :=
  laidMet_of_run' 8 (by kernel_rfl) (by kernel_rfl)
theorem parts_reads (os : Os) {H : Type} (enc : TypeId × Value → H) : ∃ places, DataW.whole enc Tryz.prog ((laidWorld os).forCall (fun _ _ => 0) ⟨#[], partsArgs, []⟩).memory Tryz.f7.params.toList Rows.headsPartsSpec.vars false partsArgs.toList 8 = some ([.nil, .nil, .lit (.int .u8 0)], [], places) :=
  ⟨[], by kernel_rfl⟩
set_option maxRecDepth 100000 in
theorem parts_lifted (os : Os) (started : os.Started) (H : Type) (enc : TypeId × Value → H) (F : Stop.Interp) :
    ReturnsInHanded {} Tryz.checked os 7 .any ((Rows.OpenSpec.upto Rows.headsPartsSpec).preRow enc Tryz.prog Tryz.f7 Rows.headsPartsUptoRow.domain false Rows.headsPartsUptoRow.laid) (((Rows.OpenSpec.upto Rows.headsPartsSpec).at F).post enc Tryz.prog Tryz.f7 false true false false) := by
  obtain ⟨places, hx⟩ := parts_reads os enc
  refine returnsInHanded_of_row (C := Tryz.checked) (s := Rows.OpenSpec.upto Rows.headsPartsSpec) own started (by kernel_rfl) Tryz.func7
    (witness_row_at (enc := enc) (C := Tryz.checked) false (laidWorld os) partsArgs rfl (by kernel_rfl) (by kernel_rfl) (by kernel_rfl)
      (OpenSpec.preRow_of_cond 8 hx (by kernel_rfl) (fun k hk => by cases hk; kernel_rfl) (by kernel_rfl) (parts_laid os))) ?_
  intro W base args ds gs before hval hW _ hcond _ hL _ _
  exact parts_contract H enc W base args ds gs before hval hW hL (hcond _ rfl)

theorem parts_said : Rows.HeadsPartsUptoSaid :=
  OpenClaim.holds_of_cond 7 Tryz.f7 rfl rfl rfl rfl rfl rfl rfl ⟨rfl, rfl, rfl, rfl, rfl⟩ rfl rfl rfl rfl rfl (by kernel_rfl) Tryz.func7 (by kernel_rfl)
    (of_decide_eq_true (by kernel_rfl)) (by unfold Func.isWrapper; first | (rw [if_pos (by decide +kernel)]; kernel_rfl) | (rw [if_neg (by decide +kernel)]; exact ⟨rfl, rfl⟩))
    (fun os started H enc _ F => by rw [OpenClaim.pre_eq_preRow]; exact parts_lifted os started H enc F)

theorem parts_plain (f : FuncId) (fn : Func) (hf : Tryz.pinned.checked.prog.funcNamed "bindle/bindlelaw13.HeadsParts" = some f) (hfn : Tryz.pinned.checked.prog.funcs[f]? = some fn) :
    false = Tryz.pinned.checked.prog.looks [] ∧ ∀ (j : Nat) t, fn.params[j]? = some t → Tryz.pinned.checked.prog.wantsStandIn t = false := by
  obtain rfl : f = 7 := Option.some.inj ((show Tryz.prog.funcNamed "bindle/bindlelaw13.HeadsParts" = some 7 by kernel_rfl).symm.trans hf) |>.symm
  obtain rfl : fn = Tryz.f7 := (Option.some.inj (Tryz.func7.symm.trans hfn)).symm
  refine ⟨by kernel_rfl, fun j t ht => ?_⟩
  rw [Tryz.params7] at ht
  have hm := Array.mem_of_getElem? ht
  simp only [List.mem_toArray, List.mem_cons, List.not_mem_nil, or_false] at hm
  rcases hm with rfl | rfl | rfl <;> exact (show Tryz.prog.wantsStandIn _ = false by kernel_rfl)

theorem parts_card : Rows.HeadsPartsUptoCardSaid :=
  Claim7.holds_tied_plain_at .later [] _ _ _ _ parts_said (fun _ h => by cases h) (by kernel_rfl) (fun _ h => by cases h) headsPartsUpto_row_tie rfl ⟨rfl, rfl⟩ (by kernel_rfl) rfl parts_plain (by kernel_rfl)
end Go.AL.Path
