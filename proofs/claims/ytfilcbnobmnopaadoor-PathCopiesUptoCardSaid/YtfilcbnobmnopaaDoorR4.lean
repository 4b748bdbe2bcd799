/- PathLies: the row and the card. -/
import Derived.Test.YtfilcbnobmnopaaDoorR1
import Derived.Test.YtfilcbnobmnopaaDoorP10
import Derived.ChangeMaps5
set_option linter.unusedSimpArgs false
set_option linter.unusedVariables false
set_option maxRecDepth 100000
namespace Go.AL.Path
open Go Go.RowKit Go.Proofs Go.AL Go.ChangeShapes Go.WideShapes Go.ChangeAt Go.ChangeMaps
open Go.Proofs.YtfilcbnobmnopaaDoor

theorem own : ownKnob Tryd.prog.godebug = none := by kernel_rfl
theorem hlaid : laidOutB Tryd.prog = true := by kernel_rfl

/-- What the table holds, where the row's list is met. -/
theorem table {W : World} {l : List (String × DataW Unit)} (h : laidMetH Tryd.prog l W) (hh : (l.filter fun x => x.2.handleName?.isSome) = []) (hm : ("internal/strconv.uint64pow10", Rows.laid_internal_strconv_uint64pow10) ∈ l) :
    ∀ g cs, G g = some cs → ∃ us ty fz, Imms cs us ∧ (∀ u ∈ us, u.oneCell' = true) ∧ W.heap[g]? = some (.cells us.toArray ty fz) := by
  unfold laidMetH at h
  rw [hh] at h
  obtain ⟨ps, h1, _⟩ := h
  obtain ⟨g0, t, cs0, fuel, p, hg0, ht, hv, hd⟩ := laid_mem h1 hm
  have e1 : g0 = 1 := by
    have : Tryd.prog.globalNamed "internal/strconv.uint64pow10" = some 1 := by kernel_rfl
    rw [this] at hg0; exact (Option.some.inj hg0).symm
  subst e1
  have e2 : cs0.toList = Lib.pow10Tab.map fun z => Value.int .u64 z := by
    have ht1 : (Tryd.prog.globals[1]?).map (·.type) = some 84 := by kernel_rfl
    rw [ht1] at ht
    cases ht
    rw [show (Rows.laid_internal_strconv_uint64pow10 : DataW Unit) = Lib.tabData .u64 Lib.pow10Tab by kernel_rfl] at hd
    exact Lib.cells_of_tab (n := 20) (e := 65) (by kernel_rfl) (by kernel_rfl) (by kernel_rfl) (by kernel_rfl) hd
  intro g cs hgc
  unfold G at hgc
  split at hgc
  · rename_i hg1
    subst hg1
    cases hgc
    unfold World.var? at hv
    rw [hg0] at hv
    simp only [Option.bind_some] at hv
    split at hv
    · rename_i c ty fz hcell
      cases hv
      refine ⟨Lib.pow10Tab.map fun z => Value.int .u64 z, ty, fz, ?_, ?_, ?_⟩
      · have himm : ∀ l : List Int, Imms (l.map fun z => AV.imm (.int .u64 z)) (l.map fun z => Value.int .u64 z) := by
          intro l; induction l with
          | nil => exact .nil
          | cons x l ih => exact .cons ih
        exact himm _
      · intro u hu
        obtain ⟨z, _, rfl⟩ := List.mem_map.1 hu
        rfl
      · rw [hcell, ← e2]
    · cases hv
  · cases hgc

theorem open_dot {H : Type} {enc : TypeId × Value → H} {W : World} {base b0 : Nat} {sp : Nat → Bool} {held : Bool} {v : Value} {d : DataW H} {ps : List MemPlace} (hval : Value.okWide Tryd.prog W .any b0 23 v) (hd : DataW.Trod enc Tryd.prog W base sp held 23 v d ps) :
    ∃ r q : Int, v = .agg #[.int .i64 r, .int .i64 q] ∧ In64 r ∧ In64 q := by
  obtain ⟨cs, rfl, hsz⟩ := okWide_struct Tryd.underlying23 hval
  obtain ⟨fuel, hf⟩ := hd
  obtain ⟨y0, y1, n, _, hl, h0, h1⟩ := trod_struct2 Tryd.underlying23 hf
  obtain ⟨r, e0, _, w0⟩ := DataW.trod_int Tryd.underlying3 h0
  obtain ⟨q, e1, _, w1⟩ := DataW.trod_int Tryd.underlying2 h1
  have c3 : Tryd.prog.cellsOf 3 = 1 := by kernel_rfl
  have c2 : Tryd.prog.cellsOf 2 = 1 := by kernel_rfl
  have c23 : Tryd.prog.cellsOf 23 = 2 := by kernel_rfl
  simp only [Value.cells, c3, c2, c23] at e0 e1 hl
  obtain ⟨a, b, hab⟩ : ∃ a b, cs.toList = [a, b] := by
    match h : cs.toList, hl with
    | [a, b], _ => exact ⟨a, b, rfl⟩
  rw [hab] at e0 e1
  simp at e0 e1
  rw [e0, e1] at hab
  refine ⟨r, q, by rw [← hab], ?_, ?_⟩
  · simp [Lit.wf, IntKind.min, IntKind.max, IntKind.bits, IntKind.signed] at w0; exact ⟨by omega, by omega⟩
  · simp [Lit.wf, IntKind.min, IntKind.max, IntKind.bits, IntKind.signed] at w1; exact ⟨by omega, by omega⟩

theorem bulk_le {H : Type} {l : List (DataW H)} (h : Rows.uptoSmall H l = true) {d : DataW H} (hd : d ∈ l) : Rows.uptoBulk d ≤ 1048576 := by
  have h1 : Rows.uptoBulkAll l ≤ 1048576 := of_decide_eq_true h
  have h2 : ∀ (l : List (DataW H)), d ∈ l → Rows.uptoBulk d ≤ Rows.uptoBulkAll l := by
    intro l
    induction l with
    | nil => intro h; cases h
    | cons x r ih =>
      intro hm
      simp only [Rows.uptoBulkAll]
      cases hm with
      | head => omega
      | tail _ hm => have := ih hm; omega
  exact Nat.le_trans (h2 l hd) h1
theorem bulk_str {H : Type} {b : List UInt8} : Rows.uptoBulk (DataW.lit (H := H) (.string b)) = b.length + 1 := by simp [Rows.uptoBulk]

set_option maxHeartbeats 2000000 in
theorem lies_contract (H : Type) (enc : TypeId × Value → H) (W : World) (base : Nat) (args : Array Value) (ds gs : List (DataW H)) (before : List MemPlace)
    (hval : ∀ (j : Nat) t v, Tryd.f4.params[j]? = some t → args[j]? = some v → Value.okWide Tryd.prog W .any base t v)
    (hW : DataW.Whole enc Tryd.prog Tryd.f4.params.toList Rows.pathLiesSpec.vars false W args.toList ds gs before) (hL : laidMetH Tryd.prog Rows.pathLiesUptoRow.laid W)
    (hk : Rows.uptoSmall H (ds ++ gs) = true) :
    Calls Tryd.prog 4 args W fun e W' => ∃ v, e = .returned v ∧ Rows.pathLiesSpec.post enc Tryd.prog Tryd.f4 false true false false W args v W' := by
  have hW' := hW
  obtain ⟨p, q, hA0, hV, rfl, hfz, hnd⟩ := hW
  have hA : DataW.TrodAll enc Tryd.prog W 0 (fun _ => true) true Tryd.f4.params.toList args.toList ds p := hA0
  rw [Tryd.params4] at hA hval
  obtain ⟨v0, vs0, d0, ds0, p0, q0, hargs, rfl, rfl, h0, r0⟩ := trodAll_cons hA
  obtain ⟨v1, vs1, d1, ds1, p1, q1, rfl, rfl, rfl, h1, r1⟩ := trodAll_cons r0
  obtain ⟨v2, vs2, d2, ds2, p2, q2, rfl, rfl, rfl, h2, r2⟩ := trodAll_cons r1
  obtain ⟨rfl, rfl, rfl⟩ := trodAll_nil r2
  obtain rfl : args = #[v0, v1, v2] := by cases args; simp_all
  obtain ⟨rfl, rfl⟩ := trodVars_none hV
  obtain ⟨s, rfl, rfl, rfl, ws⟩ := open_string Tryd.underlying9 (hval 0 9 v0 rfl rfl) h0
  obtain ⟨t, rfl, rfl, rfl, wt⟩ := open_string Tryd.underlying9 (hval 1 9 v1 rfl rfl) h1
  obtain ⟨r, q, rfl, hr, hq⟩ := open_dot (hval 2 23 v2 rfl rfl) h2
  have ls : s.data.toList.length ≤ 1048576 := by
    have := bulk_le hk (d := .lit (.string s.data.toList)) (by simp)
    rw [bulk_str] at this; omega
  have lt : t.data.toList.length ≤ 1048576 := by
    have := bulk_le hk (d := .lit (.string t.data.toList)) (by simp)
    rw [bulk_str] at this; omega
  have hp := p4 s.data.toList t.data.toList r q (by omega) (by omega) hr hq
  have hrep : Reps (start W) W [T s.data.toList, T t.data.toList, .agg [i64 r, i64 q]] [.string s, .string t, .agg #[.int .i64 r, .int .i64 q]] :=
    .cons _ _ _ _ (.imm _ rfl) (.cons _ _ _ _ (.imm _ rfl) (.cons _ _ _ _ (.agg _ [.int .i64 r, .int .i64 q] (.cons _ _ _ _ (.imm _ rfl) (.cons _ _ _ _ (.imm _ rfl) .nil)) (by simp [Value.oneCell'])) .nil))
  refine (calls_start Tryd.func4 rfl (by decide +kernel) hp (table hL rfl (by simp [Rows.pathLiesUptoRow])) hrep).mono fun e W' ⟨he, hb⟩ => ?_
  exact ⟨_, he, post_below (bt := 4) hlaid (by rw [Tryd.params4]; intro t ht; simp only [List.mem_cons, List.not_mem_nil, or_false] at ht; rcases ht with rfl | rfl | rfl <;> exact ⟨by kernel_rfl, by decide +kernel⟩) rfl rfl Tryd.underlying4 rfl hW' hb⟩

mutual
def vals : DataW Unit → List Value
  | .lit (.int k n) => [.int k n]
  | .agg l => valsAll l
  | _ => []
def valsAll : List (DataW Unit) → List Value
  | [] => []
  | d :: r => vals d ++ valsAll r
end
def setCells (vs : Array Value) : Obj → Obj
  | .cells _ t frozen => .cells vs t frozen
  | o => o
noncomputable def layOne (h : Array Obj) (x : String × DataW Unit) : Array Obj :=
  match Tryd.prog.globalNamed x.1 with
  | some g => h.modify g (setCells (vals x.2).toArray)
  | none => h
/-- A world for the witness: each listed variable holds what the list says. -/
noncomputable def laidWorld (os : Os) : World :=
  { World.holding Tryd.prog os ⟨#[], #[], []⟩ with heap := Rows.pathLiesUptoRow.laid.foldl layOne (World.holding Tryd.prog os ⟨#[], #[], []⟩).heap }
def liesArgs : Array Value := #[.string ⟨#[]⟩, .string ⟨#[]⟩, .agg #[.int .i64 0, .int .i64 0]]
theorem lies_laid (os : Os) : laidMet Tryd.prog Rows.pathLiesUptoRow.laid ((laidWorld os).forCall (fun _ _ => 0) ⟨#[], liesArgs, []⟩).memory :=
  laidMet_of_run' 8 (by kernel_rfl) (by kernel_rfl)
theorem lies_reads (os : Os) {H : Type} (enc : TypeId × Value → H) : ∃ places, DataW.whole enc Tryd.prog ((laidWorld os).forCall (fun _ _ => 0) ⟨#[], liesArgs, []⟩).memory Tryd.f4.params.toList Rows.pathLiesSpec.vars false liesArgs.toList 8 = some ([.lit (.string []), .lit (.string []), .agg [.lit (.int .i64 0), .lit (.int .i64 0)]], [], places) :=
  ⟨[], by kernel_rfl⟩
end Go.AL.Path
