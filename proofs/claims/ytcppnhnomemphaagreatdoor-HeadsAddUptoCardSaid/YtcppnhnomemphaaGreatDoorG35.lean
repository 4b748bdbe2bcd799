/- Rows of heads: arguments that were trodden, as events, deeds and numbers. -/
import Derived.Test.YtcppnhnomemphaaGreatDoorG14
import Derived.Test.YtcppnhnomemphaaGreatDoorG34
import Derived.Test.YtcppnhnomemphaaGreatDoorCards
import Derived.Test.YtcppnhnomemphaaGreatDoorTie
set_option linter.unusedSimpArgs false
set_option linter.unusedVariables false
set_option maxRecDepth 100000
namespace Go.AL.Path
open Go Go.RowKit Go.Proofs Go.AL Go.ChangeShapes Go.WideShapes Go.ChangeAt Go.ChangeMaps
open Go.Proofs.YtcppnhnomemphaaGreatDoor

theorem own : ownKnob Tryz.prog.godebug = none := by kernel_rfl
theorem hlaid : laidOutB Tryz.prog = true := by kernel_rfl

/-- What the table holds, where the row's list is met. -/
theorem table {W : World} {l : List (String × DataW Unit)} (h : laidMetH Tryz.prog l W) (hh : (l.filter fun x => x.2.handleName?.isSome) = []) (hm : ("internal/strconv.uint64pow10", Rows.laid_internal_strconv_uint64pow10) ∈ l) :
    ∀ g cs, G g = some cs → ∃ us ty fz, Imms cs us ∧ (∀ u ∈ us, u.oneCell' = true) ∧ W.heap[g]? = some (.cells us.toArray ty fz) := by
  unfold laidMetH at h
  rw [hh] at h
  obtain ⟨ps, h1, _⟩ := h
  obtain ⟨g0, t, cs0, fuel, p, hg0, ht, hv, hd⟩ := laid_mem h1 hm
  have e1 : g0 = 1 := by
    have : Tryz.prog.globalNamed "internal/strconv.uint64pow10" = some 1 := by kernel_rfl
    rw [this] at hg0; exact (Option.some.inj hg0).symm
  subst e1
  have e2 : cs0.toList = Lib.pow10Tab.map fun z => Value.int .u64 z := by
    have ht1 : (Tryz.prog.globals[1]?).map (·.type) = some 122 := by kernel_rfl
    rw [ht1] at ht
    cases ht
    rw [show (Rows.laid_internal_strconv_uint64pow10 : DataW Unit) = Lib.tabData .u64 Lib.pow10Tab by kernel_rfl] at hd
    exact Lib.cells_of_tab (n := 20) (e := 107) (by kernel_rfl) (by kernel_rfl) (by kernel_rfl) (by kernel_rfl) hd
  intro g cs hgc
  unfold G at hgc
  split at hgc
  · rename_i hg1
    subst hg1
    cases hgc
    unfold World.var? at hv
    rw [hg0] at hv
    simp only [Option.bind_some] at hv
    split at hv
    · rename_i c ty fz hcell
      cases hv
      refine ⟨Lib.pow10Tab.map fun z => Value.int .u64 z, ty, fz, ?_, ?_, ?_⟩
      · have himm : ∀ l : List Int, Imms (l.map fun z => AV.imm (.int .u64 z)) (l.map fun z => Value.int .u64 z) := by
          intro l; induction l with
          | nil => exact .nil
          | cons x l ih => exact .cons ih
        exact himm _
      · intro u hu
        obtain ⟨z, _, rfl⟩ := List.mem_map.1 hu
        rfl
      · rw [hcell, ← e2]
    · cases hv
  · cases hgc

theorem bulkLaw {H : Type} : BulkLaw (Rows.uptoBulk (H := H)) Rows.uptoBulkAll := by
  refine ⟨fun b => ?_, fun ps => ?_, fun es rs => ?_, fun d r => ?_, ?_, fun d => ?_⟩
  · simp [Rows.uptoBulk]
  · simp [Rows.uptoBulk]
  · simp [Rows.uptoBulk]
  · simp [Rows.uptoBulkAll]
  · simp [Rows.uptoBulkAll]
  · cases d with
    | lit l => cases l <;> simp [Rows.uptoBulk]
    | _ => simp [Rows.uptoBulk]
theorem bulk_le {H : Type} {l : List (DataW H)} (h : Rows.uptoSmall H l = true) {d : DataW H} (hd : d ∈ l) : Rows.uptoBulk d ≤ 1048576 :=
  Nat.le_trans (bulkLaw.mem hd) (of_decide_eq_true h)

/-- An argument. -/
theorem arg_open {H : Type} {enc : TypeId × Value → H} {W : World} {base : Nat} {sp : Nat → Bool} {held : Bool} {t : TypeId} {v : Value} {d : DataW H} {ps : List MemPlace} (m : Nat) (ho : opn Tryz.prog m t = true)
    (hd : DataW.Trod enc Tryz.prog W base sp held t v d ps) (hB : Rows.uptoBulk d ≤ 1048576) : ∃ avs, Opened Tryz.prog 1048576 m t avs ∧ Reps (start W) W avs v.cells.toList ∧ ∀ u ∈ v.cells.toList, u.oneCell' = true := by
  obtain ⟨fuel, hf⟩ := hd
  exact open_all bulkLaw m fuel t _ _ ho hf hB

theorem rep_one {W : World} {a : AV} {v : Value} (hv : v.cells = #[v]) (h : Reps (start W) W [a] v.cells.toList) : Rep (start W) W a v := by
  rw [hv] at h
  cases h with
  | cons _ _ _ _ h1 _ => exact h1
theorem rep_sl {W : World} {base : Nat} {t e : TypeId} {a : AV} {v : Value} (hu : Tryz.prog.underlying t = some (.slice e)) (hval : Value.okWide Tryz.prog W .any base t v) (h : Reps (start W) W [a] v.cells.toList) : Rep (start W) W a v := by
  obtain ⟨A, len, cap, rfl⟩ := okWide_slice hu hval
  exact rep_one rfl h
theorem rep_int {W : World} {base : Nat} {t : TypeId} {k : IntKind} {a : AV} {v : Value} (hu : Tryz.prog.underlying t = some (.int k)) (hval : Value.okWide Tryz.prog W .any base t v) (h : Reps (start W) W [a] v.cells.toList) : Rep (start W) W a v := by
  obtain ⟨n, rfl⟩ := okWide_int hu hval
  exact rep_one rfl h
theorem rep_struct {W : World} {base : Nat} {t : TypeId} {fs : Array Field} {cs : List AV} {v : Value} (hu : Tryz.prog.underlying t = some (.struct fs)) (hval : Value.okWide Tryz.prog W .any base t v) (h : Reps (start W) W cs v.cells.toList) (h1 : ∀ u ∈ v.cells.toList, u.oneCell' = true) : Rep (start W) W (.agg cs) v := by
  obtain ⟨us, rfl, _⟩ := okWide_struct hu hval
  have h2 : Rep (start W) W (.agg cs) (.agg us.toList.toArray) := .agg _ _ h h1
  simpa using h2

section
variable {B m : Nat} {avs : List AV}
theorem opened_int {t : TypeId} {k : IntKind} (hu : Tryz.prog.underlying t = some (.int k)) (h : Opened Tryz.prog B (m + 1) t avs) : ∃ n, avs = [.imm (.int k n)] ∧ (Lit.int k n).wf = true := by
  unfold Opened at h; rw [hu] at h; exact h
theorem opened_bool {t : TypeId} (hu : Tryz.prog.underlying t = some .bool) (h : Opened Tryz.prog B (m + 1) t avs) : ∃ b, avs = [.imm (.bool b)] := by
  unfold Opened at h; rw [hu] at h; exact h
theorem opened_str {t : TypeId} (hu : Tryz.prog.underlying t = some .string) (h : Opened Tryz.prog B (m + 1) t avs) : ∃ s : ByteArray, avs = [.imm (.string s)] ∧ s.data.toList.length ≤ B := by
  unfold Opened at h; rw [hu] at h; exact h
theorem opened_sl {t e : TypeId} (hu : Tryz.prog.underlying t = some (.slice e)) (h : Opened Tryz.prog B (m + 1) t avs) : ∃ xs : List (List AV), avs = [.sl (Tryz.prog.cellsOf e) (xs.map (avOf Tryz.prog e)) none] ∧ xs.length ≤ B ∧ ∀ x ∈ xs, Opened Tryz.prog B m e x := by
  unfold Opened at h; rw [hu] at h; exact h
theorem opened_arr {t e : TypeId} {n : Nat} (hu : Tryz.prog.underlying t = some (.array n e)) (h : Opened Tryz.prog B (m + 1) t avs) : ∃ cs : List (List AV), avs = cs.flatten ∧ cs.length = n ∧ ∀ c ∈ cs, Opened Tryz.prog B m e c := by
  unfold Opened at h; rw [hu] at h; exact h
theorem wf_i64 {n : Int} (h : (Lit.int .i64 n).wf = true) : In64 n := by
  simp [Lit.wf, IntKind.min, IntKind.max, IntKind.bits, IntKind.signed] at h; exact ⟨by omega, by omega⟩
theorem wf_u8 {n : Int} (h : (Lit.int .u8 n).wf = true) : 0 ≤ n ∧ n ≤ 255 := by
  simp [Lit.wf, IntKind.min, IntKind.max, IntKind.bits, IntKind.signed] at h; omega
theorem opened_dot (h : Opened Tryz.prog B (m + 2) 24 avs) : ∃ r q : Int, avs = [i64 r, i64 q] ∧ In64 r ∧ In64 q := by
  unfold Opened at h
  rw [Tryz.underlying24] at h
  obtain ⟨cs, rfl, hl, hf⟩ := h
  match cs, hl with
  | [a, b], _ =>
    obtain ⟨r, rfl, h1⟩ := opened_int Tryz.underlying3 (hf 0 _ a rfl rfl)
    obtain ⟨q, rfl, h2⟩ := opened_int Tryz.underlying2 (hf 1 _ b rfl rfl)
    exact ⟨r, q, rfl, wf_i64 h1, wf_i64 h2⟩
theorem dots_of : ∀ {xs : List (List AV)}, (∀ x ∈ xs, Opened Tryz.prog B (m + 2) 24 x) → ∃ v : Vec, xs.map (avOf Tryz.prog 24) = vdots v
  | [], _ => ⟨[], rfl⟩
  | x :: xs, h => by
    obtain ⟨v, hv⟩ := dots_of (xs := xs) fun y hy => h y (List.mem_cons_of_mem _ hy)
    obtain ⟨r, q, rfl, _, _⟩ := opened_dot (h x List.mem_cons_self)
    refine ⟨(r, q) :: v, ?_⟩
    rw [List.map_cons, hv]
    have : avOf Tryz.prog 24 [i64 r, i64 q] = dotV r q := by unfold avOf; rw [Tryz.underlying24]
    rw [this]; rfl
theorem bytes_of : ∀ {cs : List (List AV)}, (∀ x ∈ cs, Opened Tryz.prog B (m + 1) 5 x) → ∃ l : List Int, cs.flatten = l.map u8 ∧ l.length = cs.length ∧ AllU8 l
  | [], _ => ⟨[], rfl, rfl, fun x hx => by cases hx⟩
  | c :: cs, h => by
    obtain ⟨l, hl, hn, hu⟩ := bytes_of (cs := cs) fun y hy => h y (List.mem_cons_of_mem _ hy)
    obtain ⟨n, rfl, hw⟩ := opened_int Tryz.underlying5 (h c List.mem_cons_self)
    refine ⟨n :: l, by rw [List.flatten_cons, hl]; rfl, by simp [hn], fun x hx => ?_⟩
    rcases List.mem_cons.1 hx with rfl | hx
    · exact wf_u8 hw
    · exact hu x hx
theorem opened_ev (h : Opened Tryz.prog 1048576 (m + 4) 30 avs) : ∃ e : Ev, avs = evCells e ∧ EvOk e ∧ In64 e.r ∧ In64 e.q ∧ e.deps.length ≤ 1048576 := by
  unfold Opened at h
  rw [Tryz.underlying30] at h
  obtain ⟨cs, rfl, hl, hf⟩ := h
  match cs, hl with
  | [a, b, c, d, e, f], _ =>
    obtain ⟨r, q, rfl, i1, i2⟩ := opened_dot (hf 0 _ a rfl rfl)
    obtain ⟨xs, rfl, hx, hxs⟩ := opened_sl Tryz.underlying26 (hf 1 _ b rfl rfl)
    obtain ⟨v, hv⟩ := dots_of hxs
    obtain ⟨k, rfl, _⟩ := opened_int Tryz.underlying3 (hf 2 _ c rfl rfl)
    obtain ⟨p, rfl, hp⟩ := opened_str Tryz.underlying9 (hf 3 _ d rfl rfl)
    obtain ⟨cs, rfl, hc, hcs⟩ := opened_arr Tryz.underlying28 (hf 4 _ e rfl rfl)
    obtain ⟨su, hsu, hn, _⟩ := bytes_of hcs
    obtain ⟨z, rfl, _⟩ := opened_int Tryz.underlying3 (hf 5 _ f rfl rfl)
    have c24 : Tryz.prog.cellsOf 24 = 2 := by kernel_rfl
    have lv : v.length = xs.length := by rw [← vdots_len, ← hv, List.length_map]
    refine ⟨⟨r, q, v, k, p.data.toList, su, z⟩, ?_, ⟨?_, by rw [hn, hc], by show p.data.toList.length ≤ _; omega⟩, i1, i2, by show v.length ≤ _; omega⟩
    · rw [hsu, hv, c24]
      have hB : B p.data.toList = p := B_of p
      simp [evCells, List.flatten, hB]
    · show v.length ≤ _; omega
theorem evs_of : ∀ {xs : List (List AV)}, (∀ x ∈ xs, Opened Tryz.prog 1048576 (m + 4) 30 x) → ∃ l : List Ev, xs.map (avOf Tryz.prog 30) = l.map evV ∧ AllOk l ∧ AllIn l ∧ l.length = xs.length
  | [], _ => ⟨[], rfl, (fun x hx => by cases hx), (fun x hx => by cases hx), rfl⟩
  | x :: xs, h => by
    obtain ⟨l, hl, h1, h2, h3⟩ := evs_of (xs := xs) fun y hy => h y (List.mem_cons_of_mem _ hy)
    obtain ⟨e, rfl, he, i1, i2, _⟩ := opened_ev (h x List.mem_cons_self)
    refine ⟨e :: l, ?_, fun y hy => ?_, fun y hy => ?_, by simp [h3]⟩
    · rw [List.map_cons, List.map_cons, hl]
      have : avOf Tryz.prog 30 (evCells e) = evV e := by unfold avOf; rw [Tryz.underlying30]
      rw [this]
    · rcases List.mem_cons.1 hy with rfl | hy
      · exact he
      · exact h1 y hy
    · rcases List.mem_cons.1 hy with rfl | hy
      · exact ⟨i1, i2⟩
      · exact h2 y hy
theorem opened_evs (h : Opened Tryz.prog 1048576 (m + 5) 22 avs) : ∃ l : List Ev, avs = [evsV l] ∧ EvsIn 1048576 l := by
  obtain ⟨xs, rfl, hx, hxs⟩ := opened_sl Tryz.underlying22 h
  obtain ⟨l, hl, h1, h2, h3⟩ := evs_of hxs
  have c30 : Tryz.prog.cellsOf 30 = 38 := by kernel_rfl
  exact ⟨l, by rw [hl, c30], h1, h2, by omega⟩
theorem opened_u8s (h : Opened Tryz.prog 1048576 (m + 2) 48 avs) : ∃ l : List Int, avs = [u8sV l] ∧ AllU8 l ∧ l.length ≤ 1048576 := by
  obtain ⟨xs, rfl, hx, hxs⟩ := opened_sl Tryz.underlying48 h
  have c5 : Tryz.prog.cellsOf 5 = 1 := by kernel_rfl
  have : ∀ {xs : List (List AV)}, (∀ x ∈ xs, Opened Tryz.prog 1048576 (m + 1) 5 x) → ∃ l : List Int, xs.map (avOf Tryz.prog 5) = l.map u8 ∧ AllU8 l ∧ l.length = xs.length := by
    intro xs
    induction xs with
    | nil => exact fun _ => ⟨[], rfl, (fun x hx => by cases hx), rfl⟩
    | cons x xs ih =>
      intro h
      obtain ⟨l, hl, h1, h2⟩ := ih fun y hy => h y (List.mem_cons_of_mem _ hy)
      obtain ⟨n, rfl, hw⟩ := opened_int Tryz.underlying5 (h x List.mem_cons_self)
      refine ⟨n :: l, ?_, fun y hy => ?_, by simp [h2]⟩
      · rw [List.map_cons, List.map_cons, hl]
        have : avOf Tryz.prog 5 [.imm (.int .u8 n)] = u8 n := by unfold avOf; rw [Tryz.underlying5]; rfl
        rw [this]
      · rcases List.mem_cons.1 hy with rfl | hy
        · exact wf_u8 hw
        · exact h1 y hy
  obtain ⟨l, hl, h1, h2⟩ := this hxs
  exact ⟨l, by rw [hl, c5], h1, by omega⟩
theorem opened_deed (h : Opened Tryz.prog B (m + 2) 52 avs) : ∃ d : Deed, avs = deedC d ∧ DeedOk d := by
  unfold Opened at h
  rw [Tryz.underlying52] at h
  obtain ⟨cs, rfl, hl, hf⟩ := h
  match cs, hl with
  | [a, b, c, d, e, f], _ =>
    obtain ⟨n1, rfl, w1⟩ := opened_int Tryz.underlying5 (hf 0 _ a rfl rfl)
    obtain ⟨n2, rfl, w2⟩ := opened_int Tryz.underlying5 (hf 1 _ b rfl rfl)
    obtain ⟨n3, rfl, w3⟩ := opened_int Tryz.underlying5 (hf 2 _ c rfl rfl)
    obtain ⟨b1, rfl⟩ := opened_bool Tryz.underlying4 (hf 3 _ d rfl rfl)
    obtain ⟨b2, rfl⟩ := opened_bool Tryz.underlying4 (hf 4 _ e rfl rfl)
    obtain ⟨n4, rfl, w4⟩ := opened_int Tryz.underlying5 (hf 5 _ f rfl rfl)
    exact ⟨⟨n1, n2, n3, b1, b2, n4⟩, rfl, ⟨wf_u8 w1, wf_u8 w2, wf_u8 w3, wf_u8 w4⟩⟩
theorem opened_deeds (h : Opened Tryz.prog 1048576 (m + 3) 37 avs) : ∃ l : List Deed, avs = [deedsV l] ∧ AllDeed l ∧ l.length ≤ 1048576 := by
  obtain ⟨xs, rfl, hx, hxs⟩ := opened_sl Tryz.underlying37 h
  have c52 : Tryz.prog.cellsOf 52 = 6 := by kernel_rfl
  have : ∀ {xs : List (List AV)}, (∀ x ∈ xs, Opened Tryz.prog 1048576 (m + 2) 52 x) → ∃ l : List Deed, xs.map (avOf Tryz.prog 52) = l.map deedV ∧ AllDeed l ∧ l.length = xs.length := by
    intro xs
    induction xs with
    | nil => exact fun _ => ⟨[], rfl, (fun x hx => by cases hx), rfl⟩
    | cons x xs ih =>
      intro h
      obtain ⟨l, hl, h1, h2⟩ := ih fun y hy => h y (List.mem_cons_of_mem _ hy)
      obtain ⟨d, rfl, hd⟩ := opened_deed (h x List.mem_cons_self)
      refine ⟨d :: l, ?_, fun y hy => ?_, by simp [h2]⟩
      · rw [List.map_cons, List.map_cons, hl]
        have : avOf Tryz.prog 52 (deedC d) = deedV d := by unfold avOf; rw [Tryz.underlying52]
        rw [this]
      · rcases List.mem_cons.1 hy with rfl | hy
        · exact hd
        · exact h1 y hy
  obtain ⟨l, hl, h1, h2⟩ := this hxs
  exact ⟨l, by rw [hl, c52], h1, by omega⟩
end

mutual
def vals : DataW Unit → List Value
  | .lit (.int k n) => [.int k n]
  | .agg l => valsAll l
  | _ => []
def valsAll : List (DataW Unit) → List Value
  | [] => []
  | d :: r => vals d ++ valsAll r
end
def setCells (vs : Array Value) : Obj → Obj
  | .cells _ t frozen => .cells vs t frozen
  | o => o
noncomputable def layOne (h : Array Obj) (x : String × DataW Unit) : Array Obj :=
  match Tryz.prog.globalNamed x.1 with
  | some g => h.modify g (setCells (vals x.2).toArray)
  | none => h
/-- A world for the witness: each listed variable holds what the list says. -/
noncomputable def laidWorld (os : Os) : World :=
  { World.holding Tryz.prog os ⟨#[], #[], []⟩ with heap := Rows.headsAddUptoRow.laid.foldl layOne (World.holding Tryz.prog os ⟨#[], #[], []⟩).heap }
end Go.AL.Path

/- HeadsAdd: the row and the card. -/
set_option linter.unusedSimpArgs false
set_option linter.unusedVariables false
set_option maxRecDepth 100000
namespace Go.AL.Path
open Go Go.RowKit Go.Proofs Go.AL Go.ChangeShapes Go.WideShapes Go.ChangeAt Go.ChangeMaps
open Go.Proofs.YtcppnhnomemphaaGreatDoor

set_option maxHeartbeats 2000000 in
theorem add_contract (H : Type) (enc : TypeId × Value → H) (W : World) (base : Nat) (args : Array Value) (ds gs : List (DataW H)) (before : List MemPlace)
    (hval : ∀ (j : Nat) t v, Tryz.f5.params[j]? = some t → args[j]? = some v → Value.okWide Tryz.prog W .any base t v)
    (hW : DataW.Whole enc Tryz.prog Tryz.f5.params.toList Rows.headsAddSpec.vars false W args.toList ds gs before) (hL : laidMetH Tryz.prog Rows.headsAddUptoRow.laid W)
    (hk : Rows.uptoSmall H (ds ++ gs) = true) :
    Calls Tryz.prog 5 args W fun e W' => ∃ v, e = .returned v ∧ Rows.headsAddSpec.post enc Tryz.prog Tryz.f5 false true false false W args v W' := by
  have hW' := hW
  obtain ⟨p, q, hA0, hV, rfl, hfz, hnd⟩ := hW
  have hA : DataW.TrodAll enc Tryz.prog W 0 (fun _ => true) true Tryz.f5.params.toList args.toList ds p := hA0
  rw [Tryz.params5] at hA hval
  obtain ⟨v0, vs0, d0, ds0, p0, q0, hargs, rfl, rfl, h0, r0⟩ := trodAll_cons hA
  obtain ⟨v1, vs1, d1, ds1, p1, q1, rfl, rfl, rfl, h1, r1⟩ := trodAll_cons r0
  obtain ⟨v2, vs2, d2, ds2, p2, q2, rfl, rfl, rfl, h2, r2⟩ := trodAll_cons r1
  obtain ⟨rfl, rfl, rfl⟩ := trodAll_nil r2
  obtain rfl : args = #[v0, v1, v2] := by cases args; simp_all
  obtain ⟨rfl, rfl⟩ := trodVars_none hV
  obtain ⟨c0, o0, s0, u0⟩ := arg_open 5 (by kernel_rfl) h0 (bulk_le hk (by simp))
  obtain ⟨a0, rfl, y0⟩ := opened_evs (m := 0) o0
  have w0 := rep_sl Tryz.underlying22 (hval 0 22 v0 rfl rfl) s0
  obtain ⟨c1, o1, s1, u1⟩ := arg_open 5 (by kernel_rfl) h1 (bulk_le hk (by simp))
  obtain ⟨a1, rfl, y1⟩ := opened_evs (m := 0) o1
  have w1 := rep_sl Tryz.underlying22 (hval 1 22 v1 rfl rfl) s1
  obtain ⟨c2, o2, s2, u2⟩ := arg_open 4 (by kernel_rfl) h2 (bulk_le hk (by simp))
  obtain ⟨a2, rfl, y2⟩ := opened_ev (m := 0) o2
  have w2 := rep_struct Tryz.underlying30 (hval 2 30 v2 rfl rfl) s2 u2
  have hp := p5s a0 a1 a2 ⟨y0.1, y0.2.1, by have := y0.2.2; omega⟩ ⟨y1.1, by have := y1.2.2; omega⟩ y2.1
  have hrep : Reps (start W) W [evsV a0, evsV a1, evV a2] [v0, v1, v2] := .cons _ _ _ _ w0 (.cons _ _ _ _ w1 (.cons _ _ _ _ w2 .nil))
  refine (calls_start Tryz.func5 rfl (by decide +kernel) hp (table hL rfl (by simp [Rows.headsAddUptoRow])) hrep).mono fun e W' ⟨he, hb⟩ => ?_
  exact ⟨_, he, post_below (bt := 4) hlaid (by rw [Tryz.params5]; intro t ht; simp only [List.mem_cons, List.not_mem_nil, or_false] at ht; rcases ht with rfl | rfl | rfl <;> exact ⟨by kernel_rfl, by decide +kernel⟩) rfl rfl Tryz.underlying4 rfl hW' hb⟩

def addArgs : Array Value := #[.slice none 0 0, .slice none 0 0, .agg #[.int .i64 0, .int .i64 0, .slice none 0 0, .int .i64 0, .string ⟨#[]⟩, .int .u8 0, .int .u8 0, .int .u8 0, .int .u8 0, .int .u8 0, .int .u8 0, .int .u8 0, .int .u8 0, .int .u8 0, .int .u8 0, .int .u8 0, .int .u8 0, .int .u8 0, .int .u8 0, .int .u8 0, .int .u8 0, .int .u8 0, .int .u8 0, .int .u8 0, .int .u8 0, .int .u8 0, .int .u8 0, .int .u8 0, .int .u8 0, .int .u8 0, .int .u8 0, .int .u8 0, .int .u8 0, .int .u8 0, .int .u8 0, .int .u8 0, .int .u8 0, .int .i64 0]]
theorem add_laid (os : Os) : laidMet Tryz.prog Rows.headsAddUptoRow.laid ((laidWorld os).forCall (fun _ _ => 0) ⟨#[], addArgs, []⟩).memory :=
  laidMet_of_run' 8 (by kernel_rfl) (by kernel_rfl)
theorem add_reads (os : Os) {H : Type} (enc : TypeId × Value → H) : ∃ places, DataW.whole enc Tryz.prog ((laidWorld os).forCall (fun _ _ => 0) ⟨#[], addArgs, []⟩).memory Tryz.f5.params.toList Rows.headsAddSpec.vars false addArgs.toList 8 = some ([.nil, .nil, .agg [.agg [.lit (.int .i64 0), .lit (.int .i64 0)], .nil, .lit (.int .i64 0), .lit (.string []), .agg [.lit (.int .u8 0), .lit (.int .u8 0), .lit (.int .u8 0), .lit (.int .u8 0), .lit (.int .u8 0), .lit (.int .u8 0), .lit (.int .u8 0), .lit (.int .u8 0), .lit (.int .u8 0), .lit (.int .u8 0), .lit (.int .u8 0), .lit (.int .u8 0), .lit (.int .u8 0), .lit (.int .u8 0), .lit (.int .u8 0), .lit (.int .u8 0), .lit (.int .u8 0), .lit (.int .u8 0), .lit (.int .u8 0), .lit (.int .u8 0), .lit (.int .u8 0), .lit (.int .u8 0), .lit (.int .u8 0), .lit (.int .u8 0), .lit (.int .u8 0), .lit (.int .u8 0), .lit (.int .u8 0), .lit (.int .u8 0), .lit (.int .u8 0), .lit (.int .u8 0), .lit (.int .u8 0), .lit (.int .u8 0)], .lit (.int .i64 0)]], [], places) :=
  ⟨[], by kernel_rfl⟩
set_option maxRecDepth 100000 in
theorem add_lifted (os : Os) (started : os.Started) (H : Type) (enc : TypeId × Value → H) (F : Stop.Interp) :
    ReturnsInHanded {} Tryz.checked os 5 .any ((Rows.OpenSpec.upto Rows.headsAddSpec).preRow enc Tryz.prog Tryz.f5 Rows.headsAddUptoRow.domain false Rows.headsAddUptoRow.laid) (((Rows.OpenSpec.upto Rows.headsAddSpec).at F).post enc Tryz.prog Tryz.f5 false true false false) := by
  obtain ⟨places, hx⟩ := add_reads os enc
  refine returnsInHanded_of_row (C := Tryz.checked) (s := Rows.OpenSpec.upto Rows.headsAddSpec) own started (by kernel_rfl) Tryz.func5
    (witness_row_at (enc := enc) (C := Tryz.checked) false (laidWorld os) addArgs rfl (by kernel_rfl) (by kernel_rfl) (by kernel_rfl)
      (OpenSpec.preRow_of_cond 8 hx (by kernel_rfl) (fun k hk => by cases hk; kernel_rfl) (by kernel_rfl) (add_laid os))) ?_
  intro W base args ds gs before hval hW _ hcond _ hL _ _
  exact add_contract H enc W base args ds gs before hval hW hL (hcond _ rfl)

theorem add_said : Rows.HeadsAddUptoSaid :=
  OpenClaim.holds_of_cond 5 Tryz.f5 rfl rfl rfl rfl rfl rfl rfl ⟨rfl, rfl, rfl, rfl, rfl⟩ rfl rfl rfl rfl rfl (by kernel_rfl) Tryz.func5 (by kernel_rfl)
    (of_decide_eq_true (by kernel_rfl)) (by unfold Func.isWrapper; first | (rw [if_pos (by decide +kernel)]; kernel_rfl) | (rw [if_neg (by decide +kernel)]; exact ⟨rfl, rfl⟩))
    (fun os started H enc _ F => by rw [OpenClaim.pre_eq_preRow]; exact add_lifted os started H enc F)

theorem add_plain (f : FuncId) (fn : Func) (hf : Tryz.pinned.checked.prog.funcNamed "bindle/bindlelaw13.HeadsAdd" = some f) (hfn : Tryz.pinned.checked.prog.funcs[f]? = some fn) :
    false = Tryz.pinned.checked.prog.looks [] ∧ ∀ (j : Nat) t, fn.params[j]? = some t → Tryz.pinned.checked.prog.wantsStandIn t = false := by
  obtain rfl : f = 5 := Option.some.inj ((show Tryz.prog.funcNamed "bindle/bindlelaw13.HeadsAdd" = some 5 by kernel_rfl).symm.trans hf) |>.symm
  obtain rfl : fn = Tryz.f5 := (Option.some.inj (Tryz.func5.symm.trans hfn)).symm
  refine ⟨by kernel_rfl, fun j t ht => ?_⟩
  rw [Tryz.params5] at ht
  have hm := Array.mem_of_getElem? ht
  simp only [List.mem_toArray, List.mem_cons, List.not_mem_nil, or_false] at hm
  rcases hm with rfl | rfl | rfl <;> exact (show Tryz.prog.wantsStandIn _ = false by kernel_rfl)

theorem add_card : Rows.HeadsAddUptoCardSaid :=
  Claim7.holds_tied_plain_at .later [] _ _ _ _ add_said (fun _ h => by cases h) (by kernel_rfl) (fun _ h => by cases h) headsAddUpto_row_tie rfl ⟨rfl, rfl⟩ (by kernel_rfl) rfl add_plain (by kernel_rfl)
end Go.AL.Path
