/- PathCopies: the row and the card. -/
import Derived.Test.YtfilcbnobmnopaaDoorR4
import Derived.Test.YtfilcbnobmnopaaDoorP17
set_option linter.unusedSimpArgs false
set_option linter.unusedVariables false
set_option maxRecDepth 100000
namespace Go.AL.Path
open Go Go.RowKit Go.Proofs Go.AL Go.ChangeShapes Go.WideShapes Go.ChangeAt Go.ChangeMaps
open Go.Proofs.YtfilcbnobmnopaaDoor

theorem trod_dot {H : Type} {enc : TypeId × Value → H} {W : World} {base : Nat} {sp : Nat → Bool} {held : Bool} {fuel : Nat} {u v : Value} {x : DataW H × List MemPlace} (hf : DataW.trod enc Tryd.prog W base sp held fuel 23 [u, v] = some x) :
    ∃ r q : Int, u = .int .i64 r ∧ v = .int .i64 q ∧ In64 r ∧ In64 q := by
  obtain ⟨y0, y1, n, _, hl, h0, h1⟩ := trod_struct2 Tryd.underlying23 hf
  obtain ⟨r, e0, _, w0⟩ := DataW.trod_int Tryd.underlying3 h0
  obtain ⟨q, e1, _, w1⟩ := DataW.trod_int Tryd.underlying2 h1
  have c3 : Tryd.prog.cellsOf 3 = 1 := by kernel_rfl
  have c2 : Tryd.prog.cellsOf 2 = 1 := by kernel_rfl
  simp only [Value.cells, c3, c2] at e0 e1
  simp at e0 e1
  refine ⟨r, q, e0, e1, ?_, ?_⟩
  · simp [Lit.wf, IntKind.min, IntKind.max, IntKind.bits, IntKind.signed] at w0; exact ⟨by omega, by omega⟩
  · simp [Lit.wf, IntKind.min, IntKind.max, IntKind.bits, IntKind.signed] at w1; exact ⟨by omega, by omega⟩

theorem open_two {H : Type} {enc : TypeId × Value → H} {W : World} {base b0 : Nat} {sp : Nat → Bool} {held : Bool} {v : Value} {d : DataW H} {ps : List MemPlace} (hval : Value.okWide Tryd.prog W .any b0 25 v) (hd : DataW.Trod enc Tryd.prog W base sp held 25 v d ps) :
    ∃ (a b : ByteArray) (r q r' q' : Int), v = .agg #[.string a, .string b, .int .i64 r, .int .i64 q, .int .i64 r', .int .i64 q'] ∧ In64 r ∧ In64 q ∧ In64 r' ∧ In64 q' ∧ a.data.toList.length ≤ Rows.uptoBulk d ∧ b.data.toList.length ≤ Rows.uptoBulk d := by
  obtain ⟨cs, rfl, hsz⟩ := okWide_struct Tryd.underlying25 hval
  obtain ⟨fuel, hf⟩ := hd
  obtain ⟨xs, n, _, hx, hl, hlen, hfs⟩ := DataW.trod_struct Tryd.underlying25 hf
  have c9 : Tryd.prog.cellsOf 9 = 1 := by kernel_rfl
  have c23 : Tryd.prog.cellsOf 23 = 2 := by kernel_rfl
  have c25 : Tryd.prog.cellsOf 25 = 6 := by kernel_rfl
  match xs, hlen with
  | [y0, y1, y2, y3], _ =>
    simp only [Value.cells, c25] at hl
    obtain ⟨u0, u1, u2, u3, u4, u5, hab⟩ : ∃ u0 u1 u2 u3 u4 u5, cs.toList = [u0, u1, u2, u3, u4, u5] := by
      match h : cs.toList, hl with
      | [u0, u1, u2, u3, u4, u5], _ => exact ⟨u0, u1, u2, u3, u4, u5, rfl⟩
    have f0 : DataW.trod enc Tryd.prog W base sp held n 9 [u0] = some y0 := by
      have := hfs 0 _ rfl; simpa [Value.cells, c9, hab] using this
    have f1 : DataW.trod enc Tryd.prog W base sp held n 9 [u1] = some y1 := by
      have := hfs 1 _ rfl; simpa [Value.cells, c9, hab] using this
    have f2 : DataW.trod enc Tryd.prog W base sp held n 23 [u2, u3] = some y2 := by
      have := hfs 2 _ rfl; simpa [Value.cells, c23, hab] using this
    have f3 : DataW.trod enc Tryd.prog W base sp held n 23 [u4, u5] = some y3 := by
      have := hfs 3 _ rfl; simpa [Value.cells, c23, hab] using this
    obtain ⟨a, e0, rfl, _⟩ := DataW.trod_string Tryd.underlying9 f0
    obtain ⟨b, e1, rfl, _⟩ := DataW.trod_string Tryd.underlying9 f1
    obtain ⟨r, q, rfl, rfl, i1, i2⟩ := trod_dot f2
    obtain ⟨r', q', rfl, rfl, i3, i4⟩ := trod_dot f3
    simp only [List.cons.injEq, and_true] at e0 e1
    subst e0 e1
    simp only [List.map_cons, List.map_nil, Prod.mk.injEq] at hx
    obtain ⟨rfl, _⟩ := hx
    refine ⟨a, b, r, q, r', q', by rw [← hab], i1, i2, i3, i4, ?_, ?_⟩
    · simp only [Rows.uptoBulk, Rows.uptoBulkAll]; omega
    · simp only [Rows.uptoBulk, Rows.uptoBulkAll]; omega

set_option maxHeartbeats 2000000 in
theorem copies_contract (H : Type) (enc : TypeId × Value → H) (W : World) (base : Nat) (args : Array Value) (ds gs : List (DataW H)) (before : List MemPlace)
    (hval : ∀ (j : Nat) t v, Tryd.f3.params[j]? = some t → args[j]? = some v → Value.okWide Tryd.prog W .any base t v)
    (hW : DataW.Whole enc Tryd.prog Tryd.f3.params.toList Rows.pathCopiesSpec.vars false W args.toList ds gs before) (hL : laidMetH Tryd.prog Rows.pathCopiesUptoRow.laid W)
    (hk : Rows.uptoSmall H (ds ++ gs) = true) :
    Calls Tryd.prog 3 args W fun e W' => ∃ v, e = .returned v ∧ Rows.pathCopiesSpec.post enc Tryd.prog Tryd.f3 false true false false W args v W' := by
  have hW' := hW
  obtain ⟨p, q, hA0, hV, rfl, hfz, hnd⟩ := hW
  have hA : DataW.TrodAll enc Tryd.prog W 0 (fun _ => true) true Tryd.f3.params.toList args.toList ds p := hA0
  rw [Tryd.params3] at hA hval
  obtain ⟨v0, vs0, d0, ds0, p0, q0, hargs, rfl, rfl, h0, r0⟩ := trodAll_cons hA
  obtain ⟨rfl, rfl, rfl⟩ := trodAll_nil r0
  obtain rfl : args = #[v0] := by cases args; simp_all
  obtain ⟨rfl, rfl⟩ := trodVars_none hV
  obtain ⟨a, b, r, q, r', q', rfl, i1, i2, i3, i4, la, lb⟩ := open_two (hval 0 25 v0 rfl rfl) h0
  have lk := bulk_le hk (d := d0) (by simp)
  have hp := p3 a.data.toList b.data.toList r q r' q' (by omega) (by omega) i1 i2 i3 i4
  have hrep : Reps (start W) W [.agg [T a.data.toList, T b.data.toList, i64 r, i64 q, i64 r', i64 q']] [.agg #[.string a, .string b, .int .i64 r, .int .i64 q, .int .i64 r', .int .i64 q']] :=
    .cons _ _ _ _ (.agg _ [.string a, .string b, .int .i64 r, .int .i64 q, .int .i64 r', .int .i64 q'] (.cons _ _ _ _ (.imm _ rfl) (.cons _ _ _ _ (.imm _ rfl) (.cons _ _ _ _ (.imm _ rfl) (.cons _ _ _ _ (.imm _ rfl) (.cons _ _ _ _ (.imm _ rfl) (.cons _ _ _ _ (.imm _ rfl) .nil)))))) (by simp [Value.oneCell'])) .nil
  refine (calls_start Tryd.func3 rfl (by decide +kernel) hp (table hL rfl (by simp [Rows.pathCopiesUptoRow])) hrep).mono fun e W' ⟨he, hb⟩ => ?_
  exact ⟨_, he, post_below (bt := 4) hlaid (by rw [Tryd.params3]; intro t ht; simp only [List.mem_cons, List.not_mem_nil, or_false] at ht; subst ht; exact ⟨by kernel_rfl, by decide +kernel⟩) rfl rfl Tryd.underlying4 rfl hW' hb⟩

def copiesArgs : Array Value := #[.agg #[.string ⟨#[]⟩, .string ⟨#[]⟩, .int .i64 0, .int .i64 0, .int .i64 0, .int .i64 0]]
theorem copies_laid (os : Os) : laidMet Tryd.prog Rows.pathCopiesUptoRow.laid ((laidWorld os).forCall (fun _ _ => 0) ⟨#[], copiesArgs, []⟩).memory :=
  laidMet_of_run' 8 (by kernel_rfl) (by kernel_rfl)
theorem copies_reads (os : Os) {H : Type} (enc : TypeId × Value → H) : ∃ places, DataW.whole enc Tryd.prog ((laidWorld os).forCall (fun _ _ => 0) ⟨#[], copiesArgs, []⟩).memory Tryd.f3.params.toList Rows.pathCopiesSpec.vars false copiesArgs.toList 8 = some ([.agg [.lit (.string []), .lit (.string []), .agg [.lit (.int .i64 0), .lit (.int .i64 0)], .agg [.lit (.int .i64 0), .lit (.int .i64 0)]]], [], places) :=
  ⟨[], by kernel_rfl⟩
set_option maxRecDepth 100000 in
theorem copies_lifted (os : Os) (started : os.Started) (H : Type) (enc : TypeId × Value → H) (F : Stop.Interp) :
    ReturnsInHanded {} Tryd.checked os 3 .any ((Rows.OpenSpec.upto Rows.pathCopiesSpec).preRow enc Tryd.prog Tryd.f3 Rows.pathCopiesUptoRow.domain false Rows.pathCopiesUptoRow.laid) (((Rows.OpenSpec.upto Rows.pathCopiesSpec).at F).post enc Tryd.prog Tryd.f3 false true false false) := by
  obtain ⟨places, hx⟩ := copies_reads os enc
  refine returnsInHanded_of_row (C := Tryd.checked) (s := Rows.OpenSpec.upto Rows.pathCopiesSpec) own started (by kernel_rfl) Tryd.func3
    (witness_row_at (enc := enc) (C := Tryd.checked) false (laidWorld os) copiesArgs rfl (by kernel_rfl) (by kernel_rfl) (by kernel_rfl)
      (OpenSpec.preRow_of_cond 8 hx (by kernel_rfl) (fun k hk => by cases hk; kernel_rfl) (by kernel_rfl) (copies_laid os))) ?_
  intro W base args ds gs before hval hW _ hcond _ hL _ _
  exact copies_contract H enc W base args ds gs before hval hW hL (hcond _ rfl)

theorem copies_said : Rows.PathCopiesUptoSaid :=
  OpenClaim.holds_of_cond 3 Tryd.f3 rfl rfl rfl rfl rfl rfl rfl ⟨rfl, rfl, rfl, rfl, rfl⟩ rfl rfl rfl rfl rfl (by kernel_rfl) Tryd.func3 (by kernel_rfl)
    (of_decide_eq_true (by kernel_rfl)) (by unfold Func.isWrapper; first | (rw [if_pos (by decide +kernel)]; kernel_rfl) | (rw [if_neg (by decide +kernel)]; exact ⟨rfl, rfl⟩))
    (fun os started H enc _ F => by rw [OpenClaim.pre_eq_preRow]; exact copies_lifted os started H enc F)

theorem copies_plain (f : FuncId) (fn : Func) (hf : Tryd.pinned.checked.prog.funcNamed "bindle/bindlelaw06.PathCopies" = some f) (hfn : Tryd.pinned.checked.prog.funcs[f]? = some fn) :
    false = Tryd.pinned.checked.prog.looks [] ∧ ∀ (j : Nat) t, fn.params[j]? = some t → Tryd.pinned.checked.prog.wantsStandIn t = false := by
  obtain rfl : f = 3 := Option.some.inj ((show Tryd.prog.funcNamed "bindle/bindlelaw06.PathCopies" = some 3 by kernel_rfl).symm.trans hf) |>.symm
  obtain rfl : fn = Tryd.f3 := (Option.some.inj (Tryd.func3.symm.trans hfn)).symm
  refine ⟨by kernel_rfl, fun j t ht => ?_⟩
  rw [Tryd.params3] at ht
  have hm := Array.mem_of_getElem? ht
  simp only [List.mem_toArray, List.mem_cons, List.not_mem_nil, or_false] at hm
  subst hm; exact (show Tryd.prog.wantsStandIn _ = false by kernel_rfl)

theorem copies_card : Rows.PathCopiesUptoCardSaid :=
  Claim7.holds_tied_plain_at .later [] _ _ _ _ copies_said (fun _ h => by cases h) (by kernel_rfl) (fun _ h => by cases h) pathCopiesUpto_row_tie rfl ⟨rfl, rfl⟩ (by kernel_rfl) rfl copies_plain (by kernel_rfl)
end Go.AL.Path
