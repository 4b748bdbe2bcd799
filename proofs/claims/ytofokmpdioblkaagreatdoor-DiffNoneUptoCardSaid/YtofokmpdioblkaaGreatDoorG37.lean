/- DiffNone: the row and the card. -/
import Derived.Test.YtofokmpdioblkaaGreatDoorG29
import Derived.Test.YtofokmpdioblkaaGreatDoorG36
set_option linter.unusedSimpArgs false
set_option linter.unusedVariables false
set_option maxRecDepth 100000
namespace Go.AL.Path
open Go Go.RowKit Go.Proofs Go.AL Go.ChangeShapes Go.WideShapes Go.ChangeAt Go.ChangeMaps
open Go.Proofs.YtofokmpdioblkaaGreatDoor
set_option maxHeartbeats 2000000 in
theorem none_contract (H : Type) (enc : TypeId × Value → H) (W : World) (base : Nat) (args : Array Value) (ds gs : List (DataW H)) (before : List MemPlace)
    (hval : ∀ (j : Nat) t v, Tryz.f3.params[j]? = some t → args[j]? = some v → Value.okWide Tryz.prog W .any base t v)
    (hW : DataW.Whole enc Tryz.prog Tryz.f3.params.toList Rows.diffNoneSpec.vars false W args.toList ds gs before) (hL : laidMetH Tryz.prog Rows.diffNoneUptoRow.laid W)
    (hk : Rows.uptoSmall H (ds ++ gs) = true) :
    Calls Tryz.prog 3 args W fun e W' => ∃ v, e = .returned v ∧ Rows.diffNoneSpec.post enc Tryz.prog Tryz.f3 false true false false W args v W' := by
  have hW' := hW
  obtain ⟨p, q, hA0, hV, rfl, hfz, hnd⟩ := hW
  have hA : DataW.TrodAll enc Tryz.prog W 0 (fun _ => true) true Tryz.f3.params.toList args.toList ds p := hA0
  rw [Tryz.params3] at hA hval
  obtain ⟨v0, vs0, d0, ds0, p0, q0, hargs, rfl, rfl, h0, r0⟩ := trodAll_cons hA
  obtain ⟨v1, vs1, d1, ds1, p1, q1, rfl, rfl, rfl, h1, r1⟩ := trodAll_cons r0
  obtain ⟨rfl, rfl, rfl⟩ := trodAll_nil r1
  obtain rfl : args = #[v0, v1] := by cases args; simp_all
  obtain ⟨rfl, rfl⟩ := trodVars_none hV
  obtain ⟨c0, o0, s0, u0⟩ := arg_open 4 (by kernel_rfl) h0 (bulk_le hk (by simp))
  obtain ⟨a0, rfl, y0⟩ := opened_fils (m := 0) o0
  have w0 := rep_sl Tryz.underlying22 (hval 0 22 v0 rfl rfl) s0
  obtain ⟨c1, o1, s1, u1⟩ := arg_open 1 (by kernel_rfl) h1 (bulk_le hk (by simp))
  obtain ⟨a1, rfl, y1⟩ := opened_int (m := 0) Tryz.underlying5 o1
  have w1 := rep_int Tryz.underlying5 (hval 1 5 v1 rfl rfl) s1
  have hp := p3 a0 a1 y0.1 y0.2 (wf_u8 y1)
  have hrep : Reps (start W) W [filsV a0, u8 a1] [v0, v1] := .cons _ _ _ _ w0 (.cons _ _ _ _ w1 .nil)
  refine (calls_start Tryz.func3 rfl (by decide +kernel) hp (table hL rfl (by simp [Rows.diffNoneUptoRow])) hrep).mono fun e W' ⟨he, hb⟩ => ?_
  exact ⟨_, he, post_below (bt := 4) hlaid (by rw [Tryz.params3]; intro t ht; simp only [List.mem_cons, List.not_mem_nil, or_false] at ht; rcases ht with rfl | rfl <;> exact ⟨by kernel_rfl, by decide +kernel⟩) rfl rfl Tryz.underlying4 rfl hW' hb⟩
def noneArgs : Array Value := #[.slice none 0 0, .int .u8 0]
theorem none_laid (os : Os) : laidMet Tryz.prog Rows.diffNoneUptoRow.laid ((laidWorld os).forCall (fun _ _ => 0) ⟨#[], noneArgs, []⟩).memory :=
  laidMet_of_run' 8 (by kernel_rfl) (by kernel_rfl)
theorem none_reads (os : Os) {H : Type} (enc : TypeId × Value → H) : ∃ places, DataW.whole enc Tryz.prog ((laidWorld os).forCall (fun _ _ => 0) ⟨#[], noneArgs, []⟩).memory Tryz.f3.params.toList Rows.diffNoneSpec.vars false noneArgs.toList 8 = some ([.nil, .lit (.int .u8 0)], [], places) :=
  ⟨[], by kernel_rfl⟩
set_option maxRecDepth 100000 in
theorem none_lifted (os : Os) (started : os.Started) (H : Type) (enc : TypeId × Value → H) (F : Stop.Interp) :
    ReturnsInHanded {} Tryz.checked os 3 .any ((Rows.OpenSpec.upto Rows.diffNoneSpec).preRow enc Tryz.prog Tryz.f3 Rows.diffNoneUptoRow.domain false Rows.diffNoneUptoRow.laid) (((Rows.OpenSpec.upto Rows.diffNoneSpec).at F).post enc Tryz.prog Tryz.f3 false true false false) := by
  obtain ⟨places, hx⟩ := none_reads os enc
  refine returnsInHanded_of_row (C := Tryz.checked) (s := Rows.OpenSpec.upto Rows.diffNoneSpec) own started (by kernel_rfl) Tryz.func3
    (witness_row_at (enc := enc) (C := Tryz.checked) false (laidWorld os) noneArgs rfl (by kernel_rfl) (by kernel_rfl) (by kernel_rfl)
      (OpenSpec.preRow_of_cond 8 hx (by kernel_rfl) (fun k hk => by cases hk; kernel_rfl) (by kernel_rfl) (none_laid os))) ?_
  intro W base args ds gs before hval hW _ hcond _ hL _ _
  exact none_contract H enc W base args ds gs before hval hW hL (hcond _ rfl)
theorem none_said : Rows.DiffNoneUptoSaid :=
  OpenClaim.holds_of_cond 3 Tryz.f3 rfl rfl rfl rfl rfl rfl rfl ⟨rfl, rfl, rfl, rfl, rfl⟩ rfl rfl rfl rfl rfl (by kernel_rfl) Tryz.func3 (by kernel_rfl)
    (of_decide_eq_true (by kernel_rfl)) (by unfold Func.isWrapper; first | (rw [if_pos (by decide +kernel)]; kernel_rfl) | (rw [if_neg (by decide +kernel)]; exact ⟨rfl, rfl⟩))
    (fun os started H enc _ F => by rw [OpenClaim.pre_eq_preRow]; exact none_lifted os started H enc F)
theorem none_plain (f : FuncId) (fn : Func) (hf : Tryz.pinned.checked.prog.funcNamed "bindle/bindlelaw15.DiffNone" = some f) (hfn : Tryz.pinned.checked.prog.funcs[f]? = some fn) :
    false = Tryz.pinned.checked.prog.looks [] ∧ ∀ (j : Nat) t, fn.params[j]? = some t → Tryz.pinned.checked.prog.wantsStandIn t = false := by
  obtain rfl : f = 3 := Option.some.inj ((show Tryz.prog.funcNamed "bindle/bindlelaw15.DiffNone" = some 3 by kernel_rfl).symm.trans hf) |>.symm
  obtain rfl : fn = Tryz.f3 := (Option.some.inj (Tryz.func3.symm.trans hfn)).symm
  refine ⟨by kernel_rfl, fun j t ht => ?_⟩
  rw [Tryz.params3] at ht
  have hm := Array.mem_of_getElem? ht
  simp only [List.mem_toArray, List.mem_cons, List.not_mem_nil, or_false] at hm
  rcases hm with rfl | rfl <;> exact (show Tryz.prog.wantsStandIn _ = false by kernel_rfl)
theorem none_card : Rows.DiffNoneUptoCardSaid :=
  Claim7.holds_tied_plain_at .later [] _ _ _ _ none_said (fun _ h => by cases h) (by kernel_rfl) (fun _ h => by cases h) diffNoneUpto_row_tie rfl ⟨rfl, rfl⟩ (by kernel_rfl) rfl none_plain (by kernel_rfl)
end Go.AL.Path
