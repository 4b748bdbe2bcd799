/- PathBelow: the row and the card. -/
import Derived.Test.YtfilcbnobmnopaaDoorR4
import Derived.Test.YtfilcbnobmnopaaDoorP14
set_option linter.unusedSimpArgs false
set_option linter.unusedVariables false
set_option maxRecDepth 100000
namespace Go.AL.Path
open Go Go.RowKit Go.Proofs Go.AL Go.ChangeShapes Go.WideShapes Go.ChangeAt Go.ChangeMaps
open Go.Proofs.YtfilcbnobmnopaaDoor

set_option maxHeartbeats 2000000 in
theorem below_contract (H : Type) (enc : TypeId × Value → H) (W : World) (base : Nat) (args : Array Value) (ds gs : List (DataW H)) (before : List MemPlace)
    (hval : ∀ (j : Nat) t v, Tryd.f5.params[j]? = some t → args[j]? = some v → Value.okWide Tryd.prog W .any base t v)
    (hW : DataW.Whole enc Tryd.prog Tryd.f5.params.toList Rows.pathBelowSpec.vars false W args.toList ds gs before) (hL : laidMetH Tryd.prog Rows.pathBelowUptoRow.laid W)
    (hk : Rows.uptoSmall H (ds ++ gs) = true) :
    Calls Tryd.prog 5 args W fun e W' => ∃ v, e = .returned v ∧ Rows.pathBelowSpec.post enc Tryd.prog Tryd.f5 false true false false W args v W' := by
  have hW' := hW
  obtain ⟨p, q, hA0, hV, rfl, hfz, hnd⟩ := hW
  have hA : DataW.TrodAll enc Tryd.prog W 0 (fun _ => true) true Tryd.f5.params.toList args.toList ds p := hA0
  rw [Tryd.params5] at hA hval
  obtain ⟨v0, vs0, d0, ds0, p0, q0, hargs, rfl, rfl, h0, r0⟩ := trodAll_cons hA
  obtain ⟨v1, vs1, d1, ds1, p1, q1, rfl, rfl, rfl, h1, r1⟩ := trodAll_cons r0
  obtain ⟨v2, vs2, d2, ds2, p2, q2, rfl, rfl, rfl, h2, r2⟩ := trodAll_cons r1
  obtain ⟨rfl, rfl, rfl⟩ := trodAll_nil r2
  obtain rfl : args = #[v0, v1, v2] := by cases args; simp_all
  obtain ⟨rfl, rfl⟩ := trodVars_none hV
  obtain ⟨s, rfl, rfl, rfl, ws⟩ := open_string Tryd.underlying9 (hval 0 9 v0 rfl rfl) h0
  obtain ⟨t, rfl, rfl, rfl, wt⟩ := open_string Tryd.underlying9 (hval 1 9 v1 rfl rfl) h1
  obtain ⟨u, rfl, rfl, rfl, wu⟩ := open_string Tryd.underlying9 (hval 2 9 v2 rfl rfl) h2
  have ls : s.data.toList.length ≤ 1048576 := by
    have := bulk_le hk (d := .lit (.string s.data.toList)) (by simp)
    rw [bulk_str] at this; omega
  have lt : t.data.toList.length ≤ 1048576 := by
    have := bulk_le hk (d := .lit (.string t.data.toList)) (by simp)
    rw [bulk_str] at this; omega
  have lu : u.data.toList.length ≤ 1048576 := by
    have := bulk_le hk (d := .lit (.string u.data.toList)) (by simp)
    rw [bulk_str] at this; omega
  have hp := p5 s.data.toList t.data.toList u.data.toList (by omega) (by omega) (by omega)
  have hrep : Reps (start W) W [T s.data.toList, T t.data.toList, T u.data.toList] [.string s, .string t, .string u] :=
    .cons _ _ _ _ (.imm _ rfl) (.cons _ _ _ _ (.imm _ rfl) (.cons _ _ _ _ (.imm _ rfl) .nil))
  refine (calls_start Tryd.func5 rfl (by decide +kernel) hp (table hL rfl (by simp [Rows.pathBelowUptoRow])) hrep).mono fun e W' ⟨he, hb⟩ => ?_
  exact ⟨_, he, post_below (bt := 4) hlaid (by rw [Tryd.params5]; intro t ht; simp only [List.mem_cons, List.not_mem_nil, or_false] at ht; rcases ht with rfl | rfl | rfl <;> exact ⟨by kernel_rfl, by decide +kernel⟩) rfl rfl Tryd.underlying4 rfl hW' hb⟩

def belowArgs : Array Value := #[.string ⟨#[]⟩, .string ⟨#[]⟩, .string ⟨#[]⟩]
theorem below_laid (os : Os) : laidMet Tryd.prog Rows.pathBelowUptoRow.laid ((laidWorld os).forCall (fun _ _ => 0) ⟨#[], belowArgs, []⟩).memory :=
  laidMet_of_run' 8 (by kernel_rfl) (by kernel_rfl)
theorem below_reads (os : Os) {H : Type} (enc : TypeId × Value → H) : ∃ places, DataW.whole enc Tryd.prog ((laidWorld os).forCall (fun _ _ => 0) ⟨#[], belowArgs, []⟩).memory Tryd.f5.params.toList Rows.pathBelowSpec.vars false belowArgs.toList 8 = some ([.lit (.string []), .lit (.string []), .lit (.string [])], [], places) :=
  ⟨[], by kernel_rfl⟩
set_option maxRecDepth 100000 in
theorem below_lifted (os : Os) (started : os.Started) (H : Type) (enc : TypeId × Value → H) (F : Stop.Interp) :
    ReturnsInHanded {} Tryd.checked os 5 .any ((Rows.OpenSpec.upto Rows.pathBelowSpec).preRow enc Tryd.prog Tryd.f5 Rows.pathBelowUptoRow.domain false Rows.pathBelowUptoRow.laid) (((Rows.OpenSpec.upto Rows.pathBelowSpec).at F).post enc Tryd.prog Tryd.f5 false true false false) := by
  obtain ⟨places, hx⟩ := below_reads os enc
  refine returnsInHanded_of_row (C := Tryd.checked) (s := Rows.OpenSpec.upto Rows.pathBelowSpec) own started (by kernel_rfl) Tryd.func5
    (witness_row_at (enc := enc) (C := Tryd.checked) false (laidWorld os) belowArgs rfl (by kernel_rfl) (by kernel_rfl) (by kernel_rfl)
      (OpenSpec.preRow_of_cond 8 hx (by kernel_rfl) (fun k hk => by cases hk; kernel_rfl) (by kernel_rfl) (below_laid os))) ?_
  intro W base args ds gs before hval hW _ hcond _ hL _ _
  exact below_contract H enc W base args ds gs before hval hW hL (hcond _ rfl)

theorem below_said : Rows.PathBelowUptoSaid :=
  OpenClaim.holds_of_cond 5 Tryd.f5 rfl rfl rfl rfl rfl rfl rfl ⟨rfl, rfl, rfl, rfl, rfl⟩ rfl rfl rfl rfl rfl (by kernel_rfl) Tryd.func5 (by kernel_rfl)
    (of_decide_eq_true (by kernel_rfl)) (by unfold Func.isWrapper; first | (rw [if_pos (by decide +kernel)]; kernel_rfl) | (rw [if_neg (by decide +kernel)]; exact ⟨rfl, rfl⟩))
    (fun os started H enc _ F => by rw [OpenClaim.pre_eq_preRow]; exact below_lifted os started H enc F)

theorem below_plain (f : FuncId) (fn : Func) (hf : Tryd.pinned.checked.prog.funcNamed "bindle/bindlelaw06.PathBelow" = some f) (hfn : Tryd.pinned.checked.prog.funcs[f]? = some fn) :
    false = Tryd.pinned.checked.prog.looks [] ∧ ∀ (j : Nat) t, fn.params[j]? = some t → Tryd.pinned.checked.prog.wantsStandIn t = false := by
  obtain rfl : f = 5 := Option.some.inj ((show Tryd.prog.funcNamed "bindle/bindlelaw06.PathBelow" = some 5 by kernel_rfl).symm.trans hf) |>.symm
  obtain rfl : fn = Tryd.f5 := (Option.some.inj (Tryd.func5.symm.trans hfn)).symm
  refine ⟨by kernel_rfl, fun j t ht => ?_⟩
  rw [Tryd.params5] at ht
  have hm := Array.mem_of_getElem? ht
  simp only [List.mem_toArray, List.mem_cons, List.not_mem_nil, or_false] at hm
  rcases hm with rfl | rfl | rfl <;> exact (show Tryd.prog.wantsStandIn _ = false by kernel_rfl)

theorem below_card : Rows.PathBelowUptoCardSaid :=
  Claim7.holds_tied_plain_at .later [] _ _ _ _ below_said (fun _ h => by cases h) (by kernel_rfl) (fun _ h => by cases h) pathBelowUpto_row_tie rfl ⟨rfl, rfl⟩ (by kernel_rfl) rfl below_plain (by kernel_rfl)
end Go.AL.Path
