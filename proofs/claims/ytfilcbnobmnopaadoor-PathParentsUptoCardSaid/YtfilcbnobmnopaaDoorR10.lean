/- PathParents: the row and the card. -/
import Derived.Test.YtfilcbnobmnopaaDoorR4
import Derived.Test.YtfilcbnobmnopaaDoorP12
set_option linter.unusedSimpArgs false
set_option linter.unusedVariables false
set_option maxRecDepth 100000
namespace Go.AL.Path
open Go Go.RowKit Go.Proofs Go.AL Go.ChangeShapes Go.WideShapes Go.ChangeAt Go.ChangeMaps
open Go.Proofs.YtfilcbnobmnopaaDoor

set_option maxHeartbeats 2000000 in
theorem parents_contract (H : Type) (enc : TypeId × Value → H) (W : World) (base : Nat) (args : Array Value) (ds gs : List (DataW H)) (before : List MemPlace)
    (hval : ∀ (j : Nat) t v, Tryd.f6.params[j]? = some t → args[j]? = some v → Value.okWide Tryd.prog W .any base t v)
    (hW : DataW.Whole enc Tryd.prog Tryd.f6.params.toList Rows.pathParentsSpec.vars false W args.toList ds gs before) (hL : laidMetH Tryd.prog Rows.pathParentsUptoRow.laid W)
    (hk : Rows.uptoSmall H (ds ++ gs) = true) :
    Calls Tryd.prog 6 args W fun e W' => ∃ v, e = .returned v ∧ Rows.pathParentsSpec.post enc Tryd.prog Tryd.f6 false true false false W args v W' := by
  have hW' := hW
  obtain ⟨p, q, hA0, hV, rfl, hfz, hnd⟩ := hW
  have hA : DataW.TrodAll enc Tryd.prog W 0 (fun _ => true) true Tryd.f6.params.toList args.toList ds p := hA0
  rw [Tryd.params6] at hA hval
  obtain ⟨v0, vs0, d0, ds0, p0, q0, hargs, rfl, rfl, h0, r0⟩ := trodAll_cons hA
  obtain ⟨rfl, rfl, rfl⟩ := trodAll_nil r0
  obtain rfl : args = #[v0] := by cases args; simp_all
  obtain ⟨rfl, rfl⟩ := trodVars_none hV
  obtain ⟨s, rfl, rfl, rfl, ws⟩ := open_string Tryd.underlying9 (hval 0 9 v0 rfl rfl) h0
  have ls : s.data.toList.length ≤ 1048576 := by
    have := bulk_le hk (d := .lit (.string s.data.toList)) (by simp)
    rw [bulk_str] at this; omega
  have hp := p6 s.data.toList (by omega)
  have hrep : Reps (start W) W [T s.data.toList] [.string s] :=
    .cons _ _ _ _ (.imm _ rfl) .nil
  refine (calls_start Tryd.func6 rfl (by decide +kernel) hp (table hL rfl (by simp [Rows.pathParentsUptoRow])) hrep).mono fun e W' ⟨he, hb⟩ => ?_
  exact ⟨_, he, post_below (bt := 4) hlaid (by rw [Tryd.params6]; intro t ht; simp only [List.mem_cons, List.not_mem_nil, or_false] at ht; subst ht; exact ⟨by kernel_rfl, by decide +kernel⟩) rfl rfl Tryd.underlying4 rfl hW' hb⟩

def parentsArgs : Array Value := #[.string ⟨#[]⟩]
theorem parents_laid (os : Os) : laidMet Tryd.prog Rows.pathParentsUptoRow.laid ((laidWorld os).forCall (fun _ _ => 0) ⟨#[], parentsArgs, []⟩).memory :=
  laidMet_of_run' 8 (by kernel_rfl) (by kernel_rfl)
theorem parents_reads (os : Os) {H : Type} (enc : TypeId × Value → H) : ∃ places, DataW.whole enc Tryd.prog ((laidWorld os).forCall (fun _ _ => 0) ⟨#[], parentsArgs, []⟩).memory Tryd.f6.params.toList Rows.pathParentsSpec.vars false parentsArgs.toList 8 = some ([.lit (.string [])], [], places) :=
  ⟨[], by kernel_rfl⟩
set_option maxRecDepth 100000 in
theorem parents_lifted (os : Os) (started : os.Started) (H : Type) (enc : TypeId × Value → H) (F : Stop.Interp) :
    ReturnsInHanded {} Tryd.checked os 6 .any ((Rows.OpenSpec.upto Rows.pathParentsSpec).preRow enc Tryd.prog Tryd.f6 Rows.pathParentsUptoRow.domain false Rows.pathParentsUptoRow.laid) (((Rows.OpenSpec.upto Rows.pathParentsSpec).at F).post enc Tryd.prog Tryd.f6 false true false false) := by
  obtain ⟨places, hx⟩ := parents_reads os enc
  refine returnsInHanded_of_row (C := Tryd.checked) (s := Rows.OpenSpec.upto Rows.pathParentsSpec) own started (by kernel_rfl) Tryd.func6
    (witness_row_at (enc := enc) (C := Tryd.checked) false (laidWorld os) parentsArgs rfl (by kernel_rfl) (by kernel_rfl) (by kernel_rfl)
      (OpenSpec.preRow_of_cond 8 hx (by kernel_rfl) (fun k hk => by cases hk; kernel_rfl) (by kernel_rfl) (parents_laid os))) ?_
  intro W base args ds gs before hval hW _ hcond _ hL _ _
  exact parents_contract H enc W base args ds gs before hval hW hL (hcond _ rfl)

theorem parents_said : Rows.PathParentsUptoSaid :=
  OpenClaim.holds_of_cond 6 Tryd.f6 rfl rfl rfl rfl rfl rfl rfl ⟨rfl, rfl, rfl, rfl, rfl⟩ rfl rfl rfl rfl rfl (by kernel_rfl) Tryd.func6 (by kernel_rfl)
    (of_decide_eq_true (by kernel_rfl)) (by unfold Func.isWrapper; first | (rw [if_pos (by decide +kernel)]; kernel_rfl) | (rw [if_neg (by decide +kernel)]; exact ⟨rfl, rfl⟩))
    (fun os started H enc _ F => by rw [OpenClaim.pre_eq_preRow]; exact parents_lifted os started H enc F)

theorem parents_plain (f : FuncId) (fn : Func) (hf : Tryd.pinned.checked.prog.funcNamed "bindle/bindlelaw06.PathParents" = some f) (hfn : Tryd.pinned.checked.prog.funcs[f]? = some fn) :
    false = Tryd.pinned.checked.prog.looks [] ∧ ∀ (j : Nat) t, fn.params[j]? = some t → Tryd.pinned.checked.prog.wantsStandIn t = false := by
  obtain rfl : f = 6 := Option.some.inj ((show Tryd.prog.funcNamed "bindle/bindlelaw06.PathParents" = some 6 by kernel_rfl).symm.trans hf) |>.symm
  obtain rfl : fn = Tryd.f6 := (Option.some.inj (Tryd.func6.symm.trans hfn)).symm
  refine ⟨by kernel_rfl, fun j t ht => ?_⟩
  rw [Tryd.params6] at ht
  have hm := Array.mem_of_getElem? ht
  simp only [List.mem_toArray, List.mem_cons, List.not_mem_nil, or_false] at hm
  subst hm; exact (show Tryd.prog.wantsStandIn _ = false by kernel_rfl)

theorem parents_card : Rows.PathParentsUptoCardSaid :=
  Claim7.holds_tied_plain_at .later [] _ _ _ _ parents_said (fun _ h => by cases h) (by kernel_rfl) (fun _ h => by cases h) pathParentsUpto_row_tie rfl ⟨rfl, rfl⟩ (by kernel_rfl) rfl parents_plain (by kernel_rfl)
end Go.AL.Path
