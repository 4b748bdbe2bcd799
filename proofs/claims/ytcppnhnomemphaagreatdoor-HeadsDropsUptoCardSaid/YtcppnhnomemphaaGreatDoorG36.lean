/- Rows of heads: arguments that were trodden, as events, deeds and numbers. -/
import Derived.Test.YtcppnhnomemphaaGreatDoorG18
import Derived.Test.YtcppnhnomemphaaGreatDoorG35
import Derived.Test.YtcppnhnomemphaaGreatDoorCards
import Derived.Test.YtcppnhnomemphaaGreatDoorTie
set_option linter.unusedSimpArgs false
set_option linter.unusedVariables false
set_option maxRecDepth 100000
namespace Go.AL.Path
open Go Go.RowKit Go.Proofs Go.AL Go.ChangeShapes Go.WideShapes Go.ChangeAt Go.ChangeMaps
open Go.Proofs.YtcppnhnomemphaaGreatDoor

theorem own : ownKnob Tryz.prog.godebug = none := by kernel_rfl
theorem hlaid : laidOutB Tryz.prog = true := by kernel_rfl

/-- What the table holds, where the row's list is met. -/
theorem table {W : World} {l : List (String × DataW Unit)} (h : laidMetH Tryz.prog l W) (hh : (l.filter fun x => x.2.handleName?.isSome) = []) (hm : ("internal/strconv.uint64pow10", Rows.laid_internal_strconv_uint64pow10) ∈ l) :
    ∀ g cs, G g = some cs → ∃ us ty fz, Imms cs us ∧ (∀ u ∈ us, u.oneCell' = true) ∧ W.heap[g]? = some (.cells us.toArray ty fz) := by
  unfold laidMetH at h
  rw [hh] at h
  obtain ⟨ps, h1, _⟩ := h
  obtain ⟨g0, t, cs0, fuel, p, hg0, ht, hv, hd⟩ := laid_mem h1 hm
  have e1 : g0 = 1 := by
    have : Tryz.prog.globalNamed "internal/strconv.uint64pow10" = some 1 := by kernel_rfl
    rw [this] at hg0; exact (Option.some.inj hg0).symm
  subst e1
  have e2 : cs0.toList = Lib.pow10Tab.map fun z => Value.int .u64 z := by
    have ht1 : (Tryz.prog.globals[1]?).map (·.type) = some 122 := by kernel_rfl
    rw [ht1] at ht
    cases ht
    rw [show (Rows.laid_internal_strconv_uint64pow10 : DataW Unit) = Lib.tabData .u64 Lib.pow10Tab by kernel_rfl] at hd
    exact Lib.cells_of_tab (n := 20) (e := 107) (by kernel_rfl) (by kernel_rfl) (by kernel_rfl) (by kernel_rfl) hd
  intro g cs hgc
  unfold G at hgc
  split at hgc
  · rename_i hg1
    subst hg1
    cases hgc
    unfold World.var? at hv
    rw [hg0] at hv
    simp only [Option.bind_some] at hv
    split at hv
    · rename_i c ty fz hcell
      cases hv
      refine ⟨Lib.pow10Tab.map fun z => Value.int .u64 z, ty, fz, ?_, ?_, ?_⟩
      · have himm : ∀ l : List Int, Imms (l.map fun z => AV.imm (.int .u64 z)) (l.map fun z => Value.int .u64 z) := by
          intro l; induction l with
          | nil => exact .nil
          | cons x l ih => exact .cons ih
        exact himm _
      · intro u hu
        obtain ⟨z, _, rfl⟩ := List.mem_map.1 hu
        rfl
      · rw [hcell, ← e2]
    · cases hv
  · cases hgc

theorem bulkLaw {H : Type} : BulkLaw (Rows.uptoBulk (H := H)) Rows.uptoBulkAll := by
  refine ⟨fun b => ?_, fun ps => ?_, fun es rs => ?_, fun d r => ?_, ?_, fun d => ?_⟩
  · simp [Rows.uptoBulk]
  · simp [Rows.uptoBulk]
  · simp [Rows.uptoBulk]
  · simp [Rows.uptoBulkAll]
  · simp [Rows.uptoBulkAll]
  · cases d with
    | lit l => cases l <;> simp [Rows.uptoBulk]
    | _ => simp [Rows.uptoBulk]
theorem bulk_le {H : Type} {l : List (DataW H)} (h : Rows.uptoSmall H l = true) {d : DataW H} (hd : d ∈ l) : Rows.uptoBulk d ≤ 1048576 :=
  Nat.le_trans (bulkLaw.mem hd) (of_decide_eq_true h)

/-- An argument. -/
theorem arg_open {H : Type} {enc : TypeId × Value → H} {W : World} {base : Nat} {sp : Nat → Bool} {held : Bool} {t : TypeId} {v : Value} {d : DataW H} {ps : List MemPlace} (m : Nat) (ho : opn Tryz.prog m t = true)
    (hd : DataW.Trod enc Tryz.prog W base sp held t v d ps) (hB : Rows.uptoBulk d ≤ 1048576) : ∃ avs, Opened Tryz.prog 1048576 m t avs ∧ Reps (start W) W avs v.cells.toList ∧ ∀ u ∈ v.cells.toList, u.oneCell' = true := by
  obtain ⟨fuel, hf⟩ := hd
  exact open_all bulkLaw m fuel t _ _ ho hf hB

theorem rep_one {W : World} {a : AV} {v : Value} (hv : v.cells = #[v]) (h : Reps (start W) W [a] v.cells.toList) : Rep (start W) W a v := by
  rw [hv] at h
  cases h with
  | cons _ _ _ _ h1 _ => exact h1
theorem rep_sl {W : World} {base : Nat} {t e : TypeId} {a : AV} {v : Value} (hu : Tryz.prog.underlying t = some (.slice e)) (hval : Value.okWide Tryz.prog W .any base t v) (h : Reps (start W) W [a] v.cells.toList) : Rep (start W) W a v := by
  obtain ⟨A, len, cap, rfl⟩ := okWide_slice hu hval
  exact rep_one rfl h
theorem rep_int {W : World} {base : Nat} {t : TypeId} {k : IntKind} {a : AV} {v : Value} (hu : Tryz.prog.underlying t = some (.int k)) (hval : Value.okWide Tryz.prog W .any base t v) (h : Reps (start W) W [a] v.cells.toList) : Rep (start W) W a v := by
  obtain ⟨n, rfl⟩ := okWide_int hu hval
  exact rep_one rfl h
theorem rep_struct {W : World} {base : Nat} {t : TypeId} {fs : Array Field} {cs : List AV} {v : Value} (hu : Tryz.prog.underlying t = some (.struct fs)) (hval : Value.okWide Tryz.prog W .any base t v) (h : Reps (start W) W cs v.cells.toList) (h1 : ∀ u ∈ v.cells.toList, u.oneCell' = true) : Rep (start W) W (.agg cs) v := by
  obtain ⟨us, rfl, _⟩ := okWide_struct hu hval
  have h2 : Rep (start W) W (.agg cs) (.agg us.toList.toArray) := .agg _ _ h h1
  simpa using h2

section
variable {B m : Nat} {avs : List AV}
theorem opened_int {t : TypeId} {k : IntKind} (hu : Tryz.prog.underlying t = some (.int k)) (h : Opened Tryz.prog B (m + 1) t avs) : ∃ n, avs = [.imm (.int k n)] ∧ (Lit.int k n).wf = true := by
  unfold Opened at h; rw [hu] at h; exact h
theorem opened_bool {t : TypeId} (hu : Tryz.prog.underlying t = some .bool) (h : Opened Tryz.prog B (m + 1) t avs) : ∃ b, avs = [.imm (.bool b)] := by
  unfold Opened at h; rw [hu] at h; exact h
theorem opened_str {t : TypeId} (hu : Tryz.prog.underlying t = some .string) (h : Opened Tryz.prog B (m + 1) t avs) : ∃ s : ByteArray, avs = [.imm (.string s)] ∧ s.data.toList.length ≤ B := by
  unfold Opened at h; rw [hu] at h; exact h
theorem opened_sl {t e : TypeId} (hu : Tryz.prog.underlying t = some (.slice e)) (h : Opened Tryz.prog B (m + 1) t avs) : ∃ xs : List (List AV), avs = [.sl (Tryz.prog.cellsOf e) (xs.map (avOf Tryz.prog e)) none] ∧ xs.length ≤ B ∧ ∀ x ∈ xs, Opened Tryz.prog B m e x := by
  unfold Opened at h; rw [hu] at h; exact h
theorem opened_arr {t e : TypeId} {n : Nat} (hu : Tryz.prog.underlying t = some (.array n e)) (h : Opened Tryz.prog B (m + 1) t avs) : ∃ cs : List (List AV), avs = cs.flatten ∧ cs.length = n ∧ ∀ c ∈ cs, Opened Tryz.prog B m e c := by
  unfold Opened at h; rw [hu] at h; exact h
theorem wf_i64 {n : Int} (h : (Lit.int .i64 n).wf = true) : In64 n := by
  simp [Lit.wf, IntKind.min, IntKind.max, IntKind.bits, IntKind.signed] at h; exact ⟨by omega, by omega⟩
theorem wf_u8 {n : Int} (h : (Lit.int .u8 n).wf = true) : 0 ≤ n ∧ n ≤ 255 := by
  simp [Lit.wf, IntKind.min, IntKind.max, IntKind.bits, IntKind.signed] at h; omega
theorem opened_dot (h : Opened Tryz.prog B (m + 2) 24 avs) : ∃ r q : Int, avs = [i64 r, i64 q] ∧ In64 r ∧ In64 q := by
  unfold Opened at h
  rw [Tryz.underlying24] at h
  obtain ⟨cs, rfl, hl, hf⟩ := h
  match cs, hl with
  | [a, b], _ =>
    obtain ⟨r, rfl, h1⟩ := opened_int Tryz.underlying3 (hf 0 _ a rfl rfl)
    obtain ⟨q, rfl, h2⟩ := opened_int Tryz.underlying2 (hf 1 _ b rfl rfl)
    exact ⟨r, q, rfl, wf_i64 h1, wf_i64 h2⟩
theorem dots_of : ∀ {xs : List (List AV)}, (∀ x ∈ xs, Opened Tryz.prog B (m + 2) 24 x) → ∃ v : Vec, xs.map (avOf Tryz.prog 24) = vdots v
  | [], _ => ⟨[], rfl⟩
  | x :: xs, h => by
    obtain ⟨v, hv⟩ := dots_of (xs := xs) fun y hy => h y (List.mem_cons_of_mem _ hy)
    obtain ⟨r, q, rfl, _, _⟩ := opened_dot (h x List.mem_cons_self)
    refine ⟨(r, q) :: v, ?_⟩
    rw [List.map_cons, hv]
    have : avOf Tryz.prog 24 [i64 r, i64 q] = dotV r q := by unfold avOf; rw [Tryz.underlying24]
    rw [this]; rfl
theorem bytes_of : ∀ {cs : List (List AV)}, (∀ x ∈ cs, Opened Tryz.prog B (m + 1) 5 x) → ∃ l : List Int, cs.flatten = l.map u8 ∧ l.length = cs.length ∧ AllU8 l
  | [], _ => ⟨[], rfl, rfl, fun x hx => by cases hx⟩
  | c :: cs, h => by
    obtain ⟨l, hl, hn, hu⟩ := bytes_of (cs := cs) fun y hy => h y (List.mem_cons_of_mem _ hy)
    obtain ⟨n, rfl, hw⟩ := opened_int Tryz.underlying5 (h c List.mem_cons_self)
    refine ⟨n :: l, by rw [List.flatten_cons, hl]; rfl, by simp [hn], fun x hx => ?_⟩
    rcases List.mem_cons.1 hx with rfl | hx
    · exact wf_u8 hw
    · exact hu x hx
theorem opened_ev (h : Opened Tryz.prog 1048576 (m + 4) 30 avs) : ∃ e : Ev, avs = evCells e ∧ EvOk e ∧ In64 e.r ∧ In64 e.q ∧ e.deps.length ≤ 1048576 := by
  unfold Opened at h
  rw [Tryz.underlying30] at h
  obtain ⟨cs, rfl, hl, hf⟩ := h
  match cs, hl with
  | [a, b, c, d, e, f], _ =>
    obtain ⟨r, q, rfl, i1, i2⟩ := opened_dot (hf 0 _ a rfl rfl)
    obtain ⟨xs, rfl, hx, hxs⟩ := opened_sl Tryz.underlying26 (hf 1 _ b rfl rfl)
    obtain ⟨v, hv⟩ := dots_of hxs
    obtain ⟨k, rfl, _⟩ := opened_int Tryz.underlying3 (hf 2 _ c rfl rfl)
    obtain ⟨p, rfl, hp⟩ := opened_str Tryz.underlying9 (hf 3 _ d rfl rfl)
    obtain ⟨cs, rfl, hc, hcs⟩ := opened_arr Tryz.underlying28 (hf 4 _ e rfl rfl)
    obtain ⟨su, hsu, hn, _⟩ := bytes_of hcs
    obtain ⟨z, rfl, _⟩ := opened_int Tryz.underlying3 (hf 5 _ f rfl rfl)
    have c24 : Tryz.prog.cellsOf 24 = 2 := by kernel_rfl
    have lv : v.length = xs.length := by rw [← vdots_len, ← hv, List.length_map]
    refine ⟨⟨r, q, v, k, p.data.toList, su, z⟩, ?_, ⟨?_, by rw [hn, hc], by show p.data.toList.length ≤ _; omega⟩, i1, i2, by show v.length ≤ _; omega⟩
    · rw [hsu, hv, c24]
      have hB : B p.data.toList = p := B_of p
      simp [evCells, List.flatten, hB]
    · show v.length ≤ _; omega
theorem evs_of : ∀ {xs : List (List AV)}, (∀ x ∈ xs, Opened Tryz.prog 1048576 (m + 4) 30 x) → ∃ l : List Ev, xs.map (avOf Tryz.prog 30) = l.map evV ∧ AllOk l ∧ AllIn l ∧ l.length = xs.length
  | [], _ => ⟨[], rfl, (fun x hx => by cases hx), (fun x hx => by cases hx), rfl⟩
  | x :: xs, h => by
    obtain ⟨l, hl, h1, h2, h3⟩ := evs_of (xs := xs) fun y hy => h y (List.mem_cons_of_mem _ hy)
    obtain ⟨e, rfl, he, i1, i2, _⟩ := opened_ev (h x List.mem_cons_self)
    refine ⟨e :: l, ?_, fun y hy => ?_, fun y hy => ?_, by simp [h3]⟩
    · rw [List.map_cons, List.map_cons, hl]
      have : avOf Tryz.prog 30 (evCells e) = evV e := by unfold avOf; rw [Tryz.underlying30]
      rw [this]
    · rcases List.mem_cons.1 hy with rfl | hy
      · exact he
      · exact h1 y hy
    · rcases List.mem_cons.1 hy with rfl | hy
      · exact ⟨i1, i2⟩
      · exact h2 y hy
theorem opened_evs (h : Opened Tryz.prog 1048576 (m + 5) 22 avs) : ∃ l : List Ev, avs = [evsV l] ∧ EvsIn 1048576 l := by
  obtain ⟨xs, rfl, hx, hxs⟩ := opened_sl Tryz.underlying22 h
  obtain ⟨l, hl, h1, h2, h3⟩ := evs_of hxs
  have c30 : Tryz.prog.cellsOf 30 = 38 := by kernel_rfl
  exact ⟨l, by rw [hl, c30], h1, h2, by omega⟩
theorem opened_u8s (h : Opened Tryz.prog 1048576 (m + 2) 48 avs) : ∃ l : List Int, avs = [u8sV l] ∧ AllU8 l ∧ l.length ≤ 1048576 := by
  obtain ⟨xs, rfl, hx, hxs⟩ := opened_sl Tryz.underlying48 h
  have c5 : Tryz.prog.cellsOf 5 = 1 := by kernel_rfl
  have : ∀ {xs : List (List AV)}, (∀ x ∈ xs, Opened Tryz.prog 1048576 (m + 1) 5 x) → ∃ l : List Int, xs.map (avOf Tryz.prog 5) = l.map u8 ∧ AllU8 l ∧ l.length = xs.length := by
    intro xs
    induction xs with
    | nil => exact fun _ => ⟨[], rfl, (fun x hx => by cases hx), rfl⟩
    | cons x xs ih =>
      intro h
      obtain ⟨l, hl, h1, h2⟩ := ih fun y hy => h y (List.mem_cons_of_mem _ hy)
      obtain ⟨n, rfl, hw⟩ := opened_int Tryz.underlying5 (h x List.mem_cons_self)
      refine ⟨n :: l, ?_, fun y hy => ?_, by simp [h2]⟩
      · rw [List.map_cons, List.map_cons, hl]
        have : avOf Tryz.prog 5 [.imm (.int .u8 n)] = u8 n := by unfold avOf; rw [Tryz.underlying5]; rfl
        rw [this]
      · rcases List.mem_cons.1 hy with rfl | hy
        · exact wf_u8 hw
        · exact h1 y hy
  obtain ⟨l, hl, h1, h2⟩ := this hxs
  exact ⟨l, by rw [hl, c5], h1, by omega⟩
theorem opened_deed (h : Opened Tryz.prog B (m + 2) 52 avs) : ∃ d : Deed, avs = deedC d ∧ DeedOk d := by
  unfold Opened at h
  rw [Tryz.underlying52] at h
  obtain ⟨cs, rfl, hl, hf⟩ := h
  match cs, hl with
  | [a, b, c, d, e, f], _ =>
    obtain ⟨n1, rfl, w1⟩ := opened_int Tryz.underlying5 (hf 0 _ a rfl rfl)
    obtain ⟨n2, rfl, w2⟩ := opened_int Tryz.underlying5 (hf 1 _ b rfl rfl)
    obtain ⟨n3, rfl, w3⟩ := opened_int Tryz.underlying5 (hf 2 _ c rfl rfl)
    obtain ⟨b1, rfl⟩ := opened_bool Tryz.underlying4 (hf 3 _ d rfl rfl)
    obtain ⟨b2, rfl⟩ := opened_bool Tryz.underlying4 (hf 4 _ e rfl rfl)
    obtain ⟨n4, rfl, w4⟩ := opened_int Tryz.underlying5 (hf 5 _ f rfl rfl)
    exact ⟨⟨n1, n2, n3, b1, b2, n4⟩, rfl, ⟨wf_u8 w1, wf_u8 w2, wf_u8 w3, wf_u8 w4⟩⟩
theorem opened_deeds (h : Opened Tryz.prog 1048576 (m + 3) 37 avs) : ∃ l : List Deed, avs = [deedsV l] ∧ AllDeed l ∧ l.length ≤ 1048576 := by
  obtain ⟨xs, rfl, hx, hxs⟩ := opened_sl Tryz.underlying37 h
  have c52 : Tryz.prog.cellsOf 52 = 6 := by kernel_rfl
  have : ∀ {xs : List (List AV)}, (∀ x ∈ xs, Opened Tryz.prog 1048576 (m + 2) 52 x) → ∃ l : List Deed, xs.map (avOf Tryz.prog 52) = l.map deedV ∧ AllDeed l ∧ l.length = xs.length := by
    intro xs
    induction xs with
    | nil => exact fun _ => ⟨[], rfl, (fun x hx => by cases hx), rfl⟩
    | cons x xs ih =>
      intro h
      obtain ⟨l, hl, h1, h2⟩ := ih fun y hy => h y (List.mem_cons_of_mem _ hy)
      obtain ⟨d, rfl, hd⟩ := opened_deed (h x List.mem_cons_self)
      refine ⟨d :: l, ?_, fun y hy => ?_, by simp [h2]⟩
      · rw [List.map_cons, List.map_cons, hl]
        have : avOf Tryz.prog 52 (deedC d) = deedV d := by unfold avOf; rw [Tryz.underlying52]
        rw [this]
      · rcases List.mem_cons.1 hy with rfl | hy
        · exact hd
        · exact h1 y hy
  obtain ⟨l, hl, h1, h2⟩ := this hxs
  exact ⟨l, by rw [hl, c52], h1, by omega⟩
end

mutual
def vals : DataW Unit → List Value
  | .lit (.int k n) => [.int k n]
  | .agg l => valsAll l
  | _ => []
def valsAll : List (DataW Unit) → List Value
  | [] => []
  | d :: r => vals d ++ valsAll r
end
def setCells (vs : Array Value) : Obj → Obj
  | .cells _ t frozen => .cells vs t frozen
  | o => o
noncomputable def layOne (h : Array Obj) (x : String × DataW Unit) : Array Obj :=
  match Tryz.prog.globalNamed x.1 with
  | some g => h.modify g (setCells (vals x.2).toArray)
  | none => h
/-- A world for the witness: each listed variable holds what the list says. -/
noncomputable def laidWorld (os : Os) : World :=
  { World.holding Tryz.prog os ⟨#[], #[], []⟩ with heap := Rows.headsAddUptoRow.laid.foldl layOne (World.holding Tryz.prog os ⟨#[], #[], []⟩).heap }
end Go.AL.Path

/- HeadsLive, walked. -/
set_option linter.unusedSimpArgs false
set_option linter.unusedVariables false
set_option maxRecDepth 100000
namespace Go.AL.Path
open Go Go.RowKit Go.Proofs Go.AL

/-- Those at a path. -/
def atP (d : List UInt8) (l : List Ev) : List Ev := l.filter fun e => decide (e.path = d)
def atS : PSp := spOn (fun x : List Ev × List UInt8 => [evsV x.1, T x.2]) (fun x => Evs 1099511627 x.1) fun x => evsV (atP x.2 x.1)
theorem ask_atS {l : List Ev} {d : List UInt8} (h : Evs 1099511627 l) {K} : ask atS [evsV l, T d] K = K (evsV (atP d l)) :=
  ask_spOn (x := (l, d)) (fun x y hx hy he => by
    obtain ⟨x1, x2⟩ := x
    obtain ⟨y1, y2⟩ := y
    injection he with h1 h2
    have a : x1 = y1 := e1_inj hx.1 hy.1 (by rw [e1]; rw [e1]; rw [h1])
    have b : x2 = y2 := by
      injection h2 with h2 _
      injection h2 with h2
      injection h2 with h2
      exact B_inj.1 h2
    rw [a, b]) h rfl
theorem told_atS : Told Tryz.prog G 13 atS := told_spOn fun x hx => p13c x.1 x.2 hx.1 hx.2

/-! An event that is added. -/
theorem covers_self (e : Ev) : covers e e = true := by simp [covers]
theorem live_found (h : List Ev) (e : Ev) : (addRef h e).any (covers e) = true := by
  rw [← addP_eq]
  unfold addP
  by_cases hc : h.any (covers e) = true
  · rw [if_pos hc]; exact hc
  · rw [if_neg hc]
    dsimp only
    simp [covers_self]
/-- One more event changes nothing of those at other paths. -/
theorem add_others (h : List Ev) (e : Ev) : (addRef h e).filter (fun f => !decide (f.path = e.path)) = h.filter fun f => !decide (f.path = e.path) := by
  rw [← addP_eq]
  unfold addP
  by_cases hc : h.any (covers e) = true
  · rw [if_pos hc]
  · rw [if_neg hc]
    dsimp only
    generalize (if idxOf (fun f => decide (0 < cmpEv f e)) (h.filter fun f => !gone e f) < 0 then (h.filter fun f => !gone e f).length else (idxOf (fun f => decide (0 < cmpEv f e)) (h.filter fun f => !gone e f)).toNat) = i
    rw [List.filter_append, List.filter_append]
    have he : [e].filter (fun f => !decide (f.path = e.path)) = [] := by simp
    rw [he, List.append_nil, ← List.filter_append, List.take_append_drop, List.filter_filter]
    apply List.filter_congr
    intro f _
    unfold gone
    by_cases hp : f.path = e.path <;> simp [hp]
theorem live_stays {h : List Ev} {e f : Ev} (hf : f ∈ h) (hp : ¬ f.path = e.path) : f ∈ atP f.path (addRef h e) := by
  have : f ∈ (addRef h e).filter fun f => !decide (f.path = e.path) := by
    rw [add_others]; simp [hf, hp]
  unfold atP
  simp only [List.mem_filter] at this ⊢
  exact ⟨this.1, by simp⟩
theorem live_len (h : List Ev) (e : Ev) : (addRef h e).length = (h.filter fun f => !decide (f.path = e.path)).length + (atP e.path (addRef h e)).length := by
  rw [← add_others h e]
  unfold atP
  generalize addRef h e = x
  induction x with
  | nil => rfl
  | cons a x ih =>
    by_cases hp : a.path = e.path <;> simp [hp] <;> omega
end Go.AL.Path

/- HeadsLive, walked. -/
set_option linter.unusedSimpArgs false
set_option linter.unusedVariables false
set_option maxRecDepth 100000
namespace Go.AL.Path
open Go Go.RowKit Go.Proofs Go.AL

def c3 : ACode := (.seq (.reg false 1 [⟨(.some 3), none, (.m .box 0), [(.t 1)]⟩, ⟨(.some 4), none, (.q .mv), [(.c (.imm (.bool false)))]⟩]) (.seq (.reg false 0 [⟨(.some 14), none, (.call true), [(.c (.fn (.func 8) [] []))]⟩, ⟨(.some 5), none, (.q .mv), [(.t 14)]⟩]) (.seq (.seq (.reg false 0 [⟨(.some 15), none, (.q .mv), [(.t 0)]⟩, ⟨(.some 16), none, (.call true), [(.c (.fn (.func 9) [] [])), (.t 15)]⟩, ⟨(.some 17), none, (.q (.un .not)), [(.t 16)]⟩, ⟨(.some 18), none, (.q .mv), [(.t 17)]⟩, ⟨(.some 19), (.some (18, false)), (.q (.faddr 2)), [(.t 3)]⟩, ⟨(.some 20), (.some (18, false)), (.l .load1), [(.t 19)]⟩, ⟨(.some 21), (.some (18, false)), (.q .lenL), [(.t 20)]⟩, ⟨(.some 22), (.some (18, false)), (.q (.bin .gtr 3)), [(.t 21), (.c (.imm (.int .i64 60)))]⟩, ⟨(.some 23), none, (.q .pick), [(.t 18), (.c (.imm (.bool true))), (.t 22)]⟩, ⟨(.some 24), none, (.q .mv), [(.t 23)]⟩, ⟨(.some 25), (.some (24, false)), (.q .mv), [(.t 0)]⟩, ⟨(.some 26), (.some (24, false)), (.call true), [(.c (.fn (.func 10) [] [])), (.t 25)]⟩, ⟨(.some 27), (.some (24, false)), (.q (.un .not)), [(.t 26)]⟩, ⟨(.some 28), none, (.q .pick), [(.t 24), (.c (.imm (.bool true))), (.t 27)]⟩]) (.cond (.t 28) (.seq (.reg false 0 [⟨(.some 29), none, (.q .mv), [(.t 5)]⟩, ⟨(.some 4), none, (.q .mv), [(.t 29)]⟩]) .ret) .skip)) (.seq (.reg false 0 [⟨(.some 30), none, (.q .mv), [(.t 0)]⟩, ⟨(.some 31), none, (.l (.loadA 38)), [(.t 3)]⟩, ⟨(.some 32), none, (.call true), [(.c (.fn (.func 11) [] [])), (.t 30), (.t 31)]⟩, ⟨(.some 6), none, (.q .mv), [(.t 32)]⟩]) (.seq (.reg false 0 [⟨(.some 7), none, (.q .mv), [(.c (.imm (.bool false)))]⟩]) (.seq (.seq (.reg false 0 [⟨(.some 8), none, (.q .mv), [(.c (.imm (.int .i64 0)))]⟩]) (.block 0 (.loop (.seq (.seq (.reg false 0 [⟨(.some 33), none, (.q .mv), [(.t 8)]⟩, ⟨(.some 34), none, (.q .mv), [(.t 6)]⟩, ⟨(.some 35), none, (.q .lenL), [(.t 34)]⟩, ⟨(.some 36), none, (.q (.bin .lss 3)), [(.t 33), (.t 35)]⟩]) (.cond (.t 36) .skip (.exit 0))) (.seq (.block 1 (.reg true 0 [⟨(.some 39), none, (.q .mv), [(.t 7)]⟩, ⟨(.some 40), none, (.q .mv), [(.t 39)]⟩, ⟨(.some 41), (.some (40, false)), (.q .mv), [(.t 6)]⟩, ⟨(.some 42), (.some (40, false)), (.q .mv), [(.t 8)]⟩, ⟨(.some 43), (.some (40, false)), (.q (.iaddrS 38)), [(.t 41), (.t 42)]⟩, ⟨(.some 44), (.some (40, false)), (.q (.faddr 4)), [(.t 43)]⟩, ⟨(.some 45), (.some (40, false)), (.l .load1), [(.t 44)]⟩, ⟨(.some 46), (.some (40, false)), (.q (.faddr 4)), [(.t 3)]⟩, ⟨(.some 47), (.some (40, false)), (.l .load1), [(.t 46)]⟩, ⟨(.some 48), (.some (40, false)), (.q (.bin .eql 9)), [(.t 45), (.t 47)]⟩, ⟨(.some 49), (.some (40, false)), (.q .mv), [(.t 48)]⟩, ⟨(.some 50), (.some (49, true)), (.q .mv), [(.t 6)]⟩, ⟨(.some 51), (.some (49, true)), (.q .mv), [(.t 8)]⟩, ⟨(.some 52), (.some (49, true)), (.q (.iaddrS 38)), [(.t 50), (.t 51)]⟩, ⟨(.some 53), (.some (49, true)), (.q (.faddr 0)), [(.t 52)]⟩, ⟨(.some 54), (.some (49, true)), (.l (.loadA 2)), [(.t 53)]⟩, ⟨(.some 55), (.some (49, true)), (.q (.faddr 0)), [(.t 3)]⟩, ⟨(.some 56), (.some (49, true)), (.l (.loadA 2)), [(.t 55)]⟩, ⟨(.some 57), (.some (49, true)), (.q (.eqA false 2)), [(.t 54), (.t 56)]⟩, ⟨(.some 58), (.some (49, true)), (.q .mv), [(.t 57)]⟩, ⟨(.some 59), (.some (58, false)), (.q .mv), [(.t 6)]⟩, ⟨(.some 60), (.some (58, false)), (.q .mv), [(.t 8)]⟩, ⟨(.some 61), (.some (58, false)), (.q (.iaddrS 38)), [(.t 59), (.t 60)]⟩, ⟨(.some 62), (.some (58, false)), (.l (.loadA 38)), [(.t 61)]⟩, ⟨(.some 63), (.some (58, false)), (.l (.loadA 38)), [(.t 3)]⟩, ⟨(.some 64), (.some (58, false)), (.call true), [(.c (.fn (.func 12) [] [])), (.t 62), (.t 63)]⟩, ⟨(.some 65), (.some (49, true)), (.q .pick), [(.t 58), (.c (.imm (.bool true))), (.t 64)]⟩, ⟨(.some 66), (.some (40, false)), (.q .pick), [(.t 49), (.t 65), (.c (.imm (.bool false)))]⟩, ⟨(.some 67), none, (.q .pick), [(.t 40), (.c (.imm (.bool true))), (.t 66)]⟩, ⟨(.some 7), none, (.q .mv), [(.t 67)]⟩])) (.reg false 0 [⟨(.some 37), none, (.q .mv), [(.t 8)]⟩, ⟨(.some 38), none, (.q (.bin .add 3)), [(.t 37), (.c (.imm (.int .i64 1)))]⟩, ⟨(.some 8), none, (.q .mv), [(.t 38)]⟩])))))) (.seq (.reg false 0 [⟨(.some 9), none, (.q .mv), [(.c (.imm (.int .i64 0)))]⟩]) (.seq (.seq (.reg false 0 [⟨(.some 10), none, (.q .mv), [(.c (.imm (.int .i64 0)))]⟩]) (.block 2 (.loop (.seq (.seq (.reg false 0 [⟨(.some 68), none, (.q .mv), [(.t 10)]⟩, ⟨(.some 69), none, (.q .mv), [(.t 0)]⟩, ⟨(.some 70), none, (.q .lenL), [(.t 69)]⟩, ⟨(.some 71), none, (.q (.bin .lss 3)), [(.t 68), (.t 70)]⟩]) (.cond (.t 71) .skip (.exit 2))) (.seq (.block 3 (.seq (.seq (.reg true 0 [⟨(.some 74), none, (.q .mv), [(.t 0)]⟩, ⟨(.some 75), none, (.q .mv), [(.t 10)]⟩, ⟨(.some 76), none, (.q (.iaddrS 38)), [(.t 74), (.t 75)]⟩, ⟨(.some 77), none, (.q (.faddr 4)), [(.t 76)]⟩, ⟨(.some 78), none, (.l .load1), [(.t 77)]⟩, ⟨(.some 79), none, (.q (.faddr 4)), [(.t 3)]⟩, ⟨(.some 80), none, (.l .load1), [(.t 79)]⟩, ⟨(.some 81), none, (.q (.bin .eql 9)), [(.t 78), (.t 80)]⟩]) (.cond (.t 81) (.exit 3) .skip)) (.seq (.reg false 0 [⟨(.some 82), none, (.q .mv), [(.t 9)]⟩, ⟨(.some 83), none, (.q (.bin .add 3)), [(.t 82), (.c (.imm (.int .i64 1)))]⟩, ⟨(.some 9), none, (.q .mv), [(.t 83)]⟩]) (.seq (.reg false 0 [⟨(.some 84), none, (.q .mv), [(.t 6)]⟩, ⟨(.some 85), none, (.q .mv), [(.t 0)]⟩, ⟨(.some 86), none, (.q .mv), [(.t 10)]⟩, ⟨(.some 87), none, (.q (.iaddrS 38)), [(.t 85), (.t 86)]⟩, ⟨(.some 88), none, (.q (.faddr 4)), [(.t 87)]⟩, ⟨(.some 89), none, (.l .load1), [(.t 88)]⟩, ⟨(.some 90), none, (.call true), [(.c (.fn (.func 13) [] [])), (.t 84), (.t 89)]⟩, ⟨(.some 11), none, (.q .mv), [(.t 90)]⟩]) (.seq (.reg false 0 [⟨(.some 12), none, (.q .mv), [(.c (.imm (.bool false)))]⟩]) (.seq (.seq (.reg false 0 [⟨(.some 13), none, (.q .mv), [(.c (.imm (.int .i64 0)))]⟩]) (.block 4 (.loop (.seq (.seq (.reg false 0 [⟨(.some 91), none, (.q .mv), [(.t 13)]⟩, ⟨(.some 92), none, (.q .mv), [(.t 11)]⟩, ⟨(.some 93), none, (.q .lenL), [(.t 92)]⟩, ⟨(.some 94), none, (.q (.bin .lss 3)), [(.t 91), (.t 93)]⟩]) (.cond (.t 94) .skip (.exit 4))) (.seq (.block 5 (.reg true 0 [⟨(.some 97), none, (.q .mv), [(.t 12)]⟩, ⟨(.some 98), none, (.q .mv), [(.t 97)]⟩, ⟨(.some 99), (.some (98, false)), (.q .mv), [(.t 11)]⟩, ⟨(.some 100), (.some (98, false)), (.q .mv), [(.t 13)]⟩, ⟨(.some 101), (.some (98, false)), (.q (.iaddrS 38)), [(.t 99), (.t 100)]⟩, ⟨(.some 102), (.some (98, false)), (.l (.loadA 38)), [(.t 101)]⟩, ⟨(.some 103), (.some (98, false)), (.q .mv), [(.t 0)]⟩, ⟨(.some 104), (.some (98, false)), (.q .mv), [(.t 10)]⟩, ⟨(.some 105), (.some (98, false)), (.q (.iaddrS 38)), [(.t 103), (.t 104)]⟩, ⟨(.some 106), (.some (98, false)), (.l (.loadA 38)), [(.t 105)]⟩, ⟨(.some 107), (.some (98, false)), (.call true), [(.c (.fn (.func 14) [] [])), (.t 102), (.t 106)]⟩, ⟨(.some 108), none, (.q .pick), [(.t 98), (.c (.imm (.bool true))), (.t 107)]⟩, ⟨(.some 12), none, (.q .mv), [(.t 108)]⟩])) (.reg false 0 [⟨(.some 95), none, (.q .mv), [(.t 13)]⟩, ⟨(.some 96), none, (.q (.bin .add 3)), [(.t 95), (.c (.imm (.int .i64 1)))]⟩, ⟨(.some 13), none, (.q .mv), [(.t 96)]⟩])))))) (.seq (.reg false 0 [⟨(.some 109), none, (.q .mv), [(.t 12)]⟩, ⟨(.some 110), none, (.q (.un .not)), [(.t 109)]⟩]) (.cond (.t 110) (.seq (.reg false 0 [⟨(.some 4), none, (.q .mv), [(.c (.imm (.bool false)))]⟩]) .ret) .skip)))))))) (.reg false 0 [⟨(.some 72), none, (.q .mv), [(.t 10)]⟩, ⟨(.some 73), none, (.q (.bin .add 3)), [(.t 72), (.c (.imm (.int .i64 1)))]⟩, ⟨(.some 10), none, (.q .mv), [(.t 73)]⟩])))))) (.seq (.reg false 0 [⟨(.some 111), none, (.q .mv), [(.t 5)]⟩, ⟨(.some 112), none, (.q .mv), [(.t 111)]⟩, ⟨(.some 113), (.some (112, true)), (.q .mv), [(.t 7)]⟩, ⟨(.some 114), none, (.q .pick), [(.t 112), (.t 113), (.c (.imm (.bool false)))]⟩, ⟨(.some 115), none, (.q .mv), [(.t 114)]⟩, ⟨(.some 116), (.some (115, true)), (.q .mv), [(.t 6)]⟩, ⟨(.some 117), (.some (115, true)), (.q .lenL), [(.t 116)]⟩, ⟨(.some 118), (.some (115, true)), (.q .mv), [(.t 9)]⟩, ⟨(.some 119), (.some (115, true)), (.q .mv), [(.t 6)]⟩, ⟨(.some 120), (.some (115, true)), (.q (.faddr 4)), [(.t 3)]⟩, ⟨(.some 121), (.some (115, true)), (.l .load1), [(.t 120)]⟩, ⟨(.some 122), (.some (115, true)), (.call true), [(.c (.fn (.func 13) [] [])), (.t 119), (.t 121)]⟩, ⟨(.some 123), (.some (115, true)), (.q .lenL), [(.t 122)]⟩, ⟨(.some 124), (.some (115, true)), (.q (.bin .add 3)), [(.t 118), (.t 123)]⟩, ⟨(.some 125), (.some (115, true)), (.q (.bin .eql 3)), [(.t 117), (.t 124)]⟩, ⟨(.some 126), none, (.q .pick), [(.t 115), (.t 125), (.c (.imm (.bool false)))]⟩, ⟨(.some 4), none, (.q .mv), [(.t 126)]⟩]) .ret)))))))))
theorem fn3 : IsFn Tryz.prog 3 [] c3 [4] 127 := ⟨_, _, Tryz.func3, rfl, by decide +kernel, by kernel_rfl, rfl, rfl⟩
set_option maxHeartbeats 16000000 in
theorem p3s (h : List Ev) (e : Ev) (hh : EvsIn 1099511 h) (he : EvOk e) : Pure Tryz.prog G 3 [evsV h, evV e] (bool true) := by
  have h1 := hh.2.2
  have ho := hh.1
  refine pure_of_code' (S := sp [(8, none0 (bool true)), (9, evs1b smallB), (10, mayS mayRef), (11, evs1e addRef), (12, ev2b knows), (13, atS), (14, ev2b sameP)] []) hm hG
    (sp_holds (.cons (told_none0 p8s) (.cons (told_evs1b fun l hl => p9s l hl.1 hl.2) (.cons (told_mayS p10r) (.cons (told_evs1e p11r) (.cons (told_ev2b p12') (.cons told_atS (.cons (told_ev2b p14') .nil))))))) .nil)
    fn3 (St 14 127 [evsV h, evV e, .junk, .junk, .junk, .junk, .junk, .junk, .junk, .junk, .junk, .junk, .junk, .junk] []) (by kernel_rfl) (by simp [lows, AV.low, lows_evs, lows_ev]) (by simp [AV.low]) ?_
  have le := ev_len he.len
  have ke := take38 he
  have te : (evCells e).map AV.strip1 = evCells e := ev_strip
  have q9 : ∀ K, ask (evs1b smallB) [evsV h] K = splitB (smallB h) K := fun K => ask_evs1b ⟨hh.1, by omega⟩
  have q10 : ∀ K, ask (mayS mayRef) [evsV h] K = splitB (mayRef h) K := fun K => ask_mayS ⟨hh.1, hh.2.1, by omega⟩
  have q11 : ∀ K, ask (evs1e addRef) [evsV h, .agg (evCells e)] K = K (evsV (addRef h e)) := fun K => (ask_evs1e hh.1 he).trans (eq_iff_iff.2 ⟨fun h => h.2, fun h => ⟨by omega, h⟩⟩)
  have ev2' : (evCells e)[2]? = some (vecV e.deps) := ev2
  cases b1 : smallB h with
  | false =>
    simp (maxSteps := 2000000) -implicitDefEqProofs only [c3, RS, RX, Nat.reduceLT, ↓RP0, ↓RP1, ↓RP2, ↓RP3, RV, RW, ↓reduceIte, Nat.reduceAdd, Nat.reduceSub, Nat.reduceMul, Nat.reduceLeDiff, Nat.reduceEqDiff, Int.reduceLT, Int.reduceLE, Int.reduceEq, Int.reduceNe, Int.reduceAdd, Int.reduceSub, Int.reduceMul, Int.reduceNeg, Int.reduceToNat, reduceCtorEq, ↓q9, q9, le, ke, te, b1, AV.cells]
  | true =>
    by_cases hd : 60 < e.deps.length
    · have hd' : ((60 : Int) < (e.deps.length : Int)) = True := eq_true (by omega)
      simp (maxSteps := 2000000) -implicitDefEqProofs only [c3, RS, RX, Nat.reduceLT, ↓RP0, ↓RP1, ↓RP2, ↓RP3, RV, RW, ↓reduceIte, Nat.reduceAdd, Nat.reduceSub, Nat.reduceMul, Nat.reduceLeDiff, Nat.reduceEqDiff, Int.reduceLT, Int.reduceLE, Int.reduceEq, Int.reduceNe, Int.reduceAdd, Int.reduceSub, Int.reduceMul, Int.reduceNeg, Int.reduceToNat, reduceCtorEq, ↓q9, q9, le, ke, te, b1, ev2', hd', vdots_len, AV.cells]
    · have hd' : ((60 : Int) < (e.deps.length : Int)) = False := eq_false (by omega)
      cases b3 : mayRef h with
      | false =>
        simp (maxSteps := 2000000) -implicitDefEqProofs only [c3, RS, RX, Nat.reduceLT, ↓RP0, ↓RP1, ↓RP2, ↓RP3, RV, RW, ↓reduceIte, Nat.reduceAdd, Nat.reduceSub, Nat.reduceMul, Nat.reduceLeDiff, Nat.reduceEqDiff, Int.reduceLT, Int.reduceLE, Int.reduceEq, Int.reduceNe, Int.reduceAdd, Int.reduceSub, Int.reduceMul, Int.reduceNeg, Int.reduceToNat, reduceCtorEq, ↓q9, q9, ↓q10, q10, le, ke, te, b1, b3, ev2', hd', vdots_len, AV.cells]
      | true =>
        have lf := live_found h e
        have ls := fun f hf hp => live_stays (h := h) (e := e) (f := f) hf hp
        have ll := live_len h e
        have xo : AllOk (addRef h e) := addRef_ok ho he
        have xl := addRef_len h e
        simp (maxSteps := 2000000) -implicitDefEqProofs only [c3, RS, RX, Nat.reduceLT, ↓RP0, ↓RP1, ↓RP2, ↓RP3, RV, RW, ↓reduceIte, Nat.reduceAdd, Nat.reduceSub, Nat.reduceMul, Nat.reduceLeDiff, Nat.reduceEqDiff, Int.reduceLT, Int.reduceLE, Int.reduceEq, Int.reduceNe, Int.reduceAdd, Int.reduceSub, Int.reduceMul, Int.reduceNeg, Int.reduceToNat, reduceCtorEq, ↓q9, q9, ↓q10, q10, ↓q11, q11, le, ke, te, b1, b3, ev2', hd', vdots_len, AV.cells]
        generalize addRef h e = x at *
        refine loopB (st := fun (i : Nat) => (St 14 127 [evsV h, .junk, .junk, .ptr 0 0, .junk, bool true, evsV x, bool ((x.take i).any (covers e)), i64 i, .junk, .junk, .junk, .junk, .junk] [])) (hp := fun i => [.box (evCells e)]) (I := fun i => i ≤ x.length) (m := fun i => x.length - i) (0 : Nat) (Nat.zero_le _) ?_ ?_
        · refine weak_cutS 1 (by decide) (by simp) ?_ ?_
          · simp [AObj.low, lows, AV.low, lows_ev]
          · simp [WeakL, AV.low, lows, lows_evs, lows_ev, AV.strip, AV.strip1]
        · intro i hi
          by_cases hlt : i < x.length
          · have e1 := evs_get hlt
            have e3 : ((i : Int) < (x.length : Int)) = True := eq_true (by omega)
            have o1 := evs_ok xo i
            have t1 := evs_take hlt
            have hany : (x.take (i + 1)).any (covers e) = ((x.take i).any (covers e) || covers e (x.getD i ev0d)) := by rw [t1]; simp
            generalize x.getD i ev0d = y at *
            generalize (x.take i).any (covers e) = b at *
            have l1 := ev_len o1.len
            have k1 := take38 o1
            have q12 : ∀ K, ask (ev2b knows) [.agg (evCells y), .agg (evCells e)] K = splitB (knows y e) K := fun K => ask_ev2b o1 he
            have goOn : ∀ (ov : List (Nat × AV)) (b' : Bool), (b || covers e y) = b' → Again 0 (fun (i : Nat) => (St 14 127 [evsV h, .junk, .junk, .ptr 0 0, .junk, bool true, evsV x, bool ((x.take i).any (covers e)), i64 i, .junk, .junk, .junk, .junk, .junk] [])) (fun i => [.box (evCells e)]) (fun i => i ≤ x.length) (fun i => x.length - i) i
                (St 14 127 [evsV h, .junk, .junk, .ptr 0 0, .junk, bool true, evsV x, bool b', i64 ((i : Int) + 1), .junk, .junk, .junk, .junk, .junk] ov) [.box (evCells e)] := by
              intro ov b' hb
              refine ⟨i + 1, by dsimp only; omega, by omega, ?_⟩
              dsimp only
              rw [hany, hb]
              refine weak_cutS 1 (by decide) (by simp) ?_ ?_
              · simp [AObj.low, lows, AV.low, lows_ev]
              · simp [WeakL, AV.low, lows, lows_evs, lows_ev, AV.strip, AV.strip1]
            cases b with
            | true =>
              simp (maxSteps := 2000000) -implicitDefEqProofs only [RS, RX, Nat.reduceLT, ↓RP0, ↓RP1, ↓RP2, ↓RP3, RV, RW, ↓reduceIte, Nat.reduceAdd, Nat.reduceSub, Nat.reduceMul, Nat.reduceLeDiff, Nat.reduceEqDiff, Int.reduceLT, Int.reduceLE, Int.reduceEq, Int.reduceNe, Int.reduceAdd, Int.reduceSub, Int.reduceMul, Int.reduceNeg, Int.reduceToNat, reduceCtorEq, e3, evs_len, AV.cells]
              exact ⟨⟨by omega, by omega⟩, goOn _ true rfl⟩
            | false =>
              simp (maxSteps := 2000000) -implicitDefEqProofs only [RS, RX, Nat.reduceLT, ↓RP0, ↓RP1, ↓RP2, ↓RP3, RV, RW, ↓reduceIte, Nat.reduceAdd, Nat.reduceSub, Nat.reduceMul, Nat.reduceLeDiff, Nat.reduceEqDiff, Int.reduceLT, Int.reduceLE, Int.reduceEq, Int.reduceNe, Int.reduceAdd, Int.reduceSub, Int.reduceMul, Int.reduceNeg, Int.reduceToNat, reduceCtorEq, ↓q12, q12, ↓qB_eqA2, qB_eqA2, e1, e3, evs_len, l1, k1, le, ke, te, ev4, ev_take, ev_strip, AV.cells]
              have i64' : In64 ((i : Int) + 1) := ⟨by omega, by omega⟩
              refine ⟨fun h1 => ⟨fun h2 => ⟨i64', goOn _ true ?_⟩, fun h2 => ⟨fun h3 => ⟨i64', goOn _ true ?_⟩, fun h3 => ⟨i64', goOn _ false ?_⟩⟩⟩, fun h1 => ⟨i64', goOn _ false ?_⟩⟩
              · simp [covers, h1, h2]
              · simp [covers, h1, h3]
              · simp only [covers, h3, Bool.or_false, Bool.false_or, Bool.and_eq_false_iff, decide_eq_false_iff_not]; exact .inr h2
              · simp [covers, h1]
          · obtain rfl : i = x.length := by omega
            rw [List.take_length, lf]
            simp (maxSteps := 2000000) -implicitDefEqProofs only [RS, RX, Nat.reduceLT, ↓RP0, ↓RP1, ↓RP2, ↓RP3, RV, RW, ↓reduceIte, Nat.reduceAdd, Nat.reduceSub, Nat.reduceMul, Nat.reduceLeDiff, Nat.reduceEqDiff, Int.reduceLT, Int.reduceLE, Int.reduceEq, Int.reduceNe, Int.reduceAdd, Int.reduceSub, Int.reduceMul, Int.reduceNeg, Int.reduceToNat, reduceCtorEq, evs_len, Int.lt_irrefl]
            have al : (atP e.path x).length ≤ x.length := List.length_filter_le _ _
            have q13 : ∀ (d : List UInt8) K, ask atS [evsV x, T d] K = K (evsV (atP d x)) := fun d K => ask_atS ⟨xo, by omega⟩
            have ao : ∀ d, AllOk (atP d x) := fun d y hy => xo y (List.mem_filter.1 hy).1
            have an : ∀ d, (atP d x).length ≤ x.length := fun d => List.length_filter_le _ _
            have fl : ∀ i, ((h.take i).filter fun f => !decide (f.path = e.path)).length ≤ i := fun i => Nat.le_trans (List.length_filter_le _ _) (by rw [List.length_take]; omega)
            refine loopB (st := fun (i : Nat) => (St 14 127 [evsV h, .junk, .junk, .ptr 0 0, .junk, bool true, evsV x, bool true, .junk, i64 ((h.take i).filter fun f => !decide (f.path = e.path)).length, i64 i, .junk, .junk, .junk] [])) (hp := fun i => [.box (evCells e)]) (I := fun i => i ≤ h.length) (m := fun i => h.length - i) (0 : Nat) (Nat.zero_le _) ?_ ?_
            · refine weak_cutS 1 (by decide) (by simp) ?_ ?_
              · simp [AObj.low, lows, AV.low, lows_ev]
              · simp [WeakL, AV.low, lows, lows_evs, lows_ev, AV.strip, AV.strip1]
            · intro i hi
              by_cases hlt : i < h.length
              · have e1 := evs_get hlt
                have e3 : ((i : Int) < (h.length : Int)) = True := eq_true (by omega)
                have o1 := evs_ok ho i
                have t1 := evs_take hlt
                have hfl := fl i
                have hmem : h.getD i ev0d ∈ h := by rw [List.getD_eq_getElem?_getD, List.getElem?_eq_getElem hlt]; exact List.getElem_mem hlt
                have hcount : ((h.take (i + 1)).filter fun f => !decide (f.path = e.path)).length = ((h.take i).filter fun f => !decide (f.path = e.path)).length + (if (h.getD i ev0d).path = e.path then 0 else 1) := by
                  rw [t1, List.filter_append, List.length_append]
                  by_cases hp : (h.getD i ev0d).path = e.path
                  · simp only [List.getD_eq_getElem?_getD] at hp ⊢; simp [hp]
                  · simp only [List.getD_eq_getElem?_getD] at hp ⊢; simp [hp]
                have hst := ls _ hmem
                generalize h.getD i ev0d = y at *
                generalize ((h.take i).filter fun f => !decide (f.path = e.path)).length = c at *
                have l1 := ev_len o1.len
                have k1 := take38 o1
                have goOn : ∀ (ov : List (Nat × AV)) (X11 X12 X13 : AV) (c' : Nat), c + (if y.path = e.path then 0 else 1) = c' → Again 0 (fun (i : Nat) => (St 14 127 [evsV h, .junk, .junk, .ptr 0 0, .junk, bool true, evsV x, bool true, .junk, i64 ((h.take i).filter fun f => !decide (f.path = e.path)).length, i64 i, .junk, .junk, .junk] [])) (fun i => [.box (evCells e)]) (fun i => i ≤ h.length) (fun i => h.length - i) i
                    (St 14 127 [evsV h, .junk, .junk, .ptr 0 0, .junk, bool true, evsV x, bool true, .junk, i64 (c' : Int), i64 ((i : Int) + 1), X11, X12, X13] ov) [.box (evCells e)] := by
                  intro ov X11 X12 X13 c' hc
                  refine ⟨i + 1, by dsimp only; omega, by omega, ?_⟩
                  dsimp only
                  rw [hcount, hc]
                  refine weak_cutS 1 (by decide) (by simp) ?_ ?_
                  · simp [AObj.low, lows, AV.low, lows_ev]
                  · simp [WeakL, AV.low, lows, lows_evs, lows_ev, AV.strip, AV.strip1]
                by_cases hp : y.path = e.path
                · have hp' : (y.path = e.path) = True := eq_true hp
                  simp (maxSteps := 2000000) -implicitDefEqProofs only [RS, RX, Nat.reduceLT, ↓RP0, ↓RP1, ↓RP2, ↓RP3, RV, RW, ↓reduceIte, Nat.reduceAdd, Nat.reduceSub, Nat.reduceMul, Nat.reduceLeDiff, Nat.reduceEqDiff, Int.reduceLT, Int.reduceLE, Int.reduceEq, Int.reduceNe, Int.reduceAdd, Int.reduceSub, Int.reduceMul, Int.reduceNeg, Int.reduceToNat, reduceCtorEq, e1, e3, hp', evs_len, l1, k1, ev4, ev_strip, AV.cells]
                  refine ⟨⟨by omega, by omega⟩, ?_⟩
                  exact goOn _ _ _ _ c (by rw [if_pos hp]; rfl)
                · have hp' : (y.path = e.path) = False := eq_false hp
                  have hin := hst hp
                  simp (maxSteps := 2000000) -implicitDefEqProofs only [RS, RX, Nat.reduceLT, ↓RP0, ↓RP1, ↓RP2, ↓RP3, RV, RW, ↓reduceIte, Nat.reduceAdd, Nat.reduceSub, Nat.reduceMul, Nat.reduceLeDiff, Nat.reduceEqDiff, Int.reduceLT, Int.reduceLE, Int.reduceEq, Int.reduceNe, Int.reduceAdd, Int.reduceSub, Int.reduceMul, Int.reduceNeg, Int.reduceToNat, reduceCtorEq, ↓q13, q13, e1, e3, hp', evs_len, l1, k1, ev4, ev_strip, AV.cells]
                  have ao' := ao y.path
                  have an' := an y.path
                  generalize hsame : atP y.path x = same at *
                  have c64 : In64 ((c : Int) + 1) := ⟨by omega, by omega⟩
                  refine ⟨c64, ?_⟩
                  have hall : (same.take same.length).any (fun s => sameP s y) = true := by
                    rw [List.take_length, List.any_eq_true]
                    exact ⟨y, hin, by simp [sameP]⟩
                  refine loopB (st := fun (k : Nat) => (St 14 127 [evsV h, .junk, .junk, .ptr 0 0, .junk, bool true, evsV x, bool true, .junk, i64 ((c : Int) + 1), i64 i, evsV same, bool ((same.take k).any fun s => sameP s y), i64 k] [])) (hp := fun i => [.box (evCells e)]) (I := fun k => k ≤ same.length) (m := fun k => same.length - k) (0 : Nat) (Nat.zero_le _) ?_ ?_
                  · refine weak_cutS 1 (by decide) (by simp) ?_ ?_
                    · simp [AObj.low, lows, AV.low, lows_ev]
                    · simp [WeakL, AV.low, lows, lows_evs, lows_ev, AV.strip, AV.strip1]
                  · intro k hk
                    by_cases hkl : k < same.length
                    · have e1k := evs_get hkl
                      have e3k : ((k : Int) < (same.length : Int)) = True := eq_true (by omega)
                      have ok := evs_ok ao' k
                      have tk := evs_take hkl
                      have hany : (same.take (k + 1)).any (fun s => sameP s y) = ((same.take k).any (fun s => sameP s y) || sameP (same.getD k ev0d) y) := by rw [tk]; simp
                      generalize same.getD k ev0d = z at *
                      generalize (same.take k).any (fun s => sameP s y) = b at *
                      have l2 := ev_len ok.len
                      have k2 := take38 ok
                      have q14 : ∀ K, ask (ev2b sameP) [.agg (evCells z), .agg (evCells y)] K = splitB (sameP z y) K := fun K => ask_ev2b ok o1
                      have goIn : ∀ (ov : List (Nat × AV)) (b' : Bool), (b || sameP z y) = b' → Again 0 (fun (k : Nat) => (St 14 127 [evsV h, .junk, .junk, .ptr 0 0, .junk, bool true, evsV x, bool true, .junk, i64 ((c : Int) + 1), i64 i, evsV same, bool ((same.take k).any fun s => sameP s y), i64 k] [])) (fun i => [.box (evCells e)]) (fun k => k ≤ same.length) (fun k => same.length - k) k
                          (St 14 127 [evsV h, .junk, .junk, .ptr 0 0, .junk, bool true, evsV x, bool true, .junk, i64 ((c : Int) + 1), i64 (i : Int), evsV same, bool b', i64 ((k : Int) + 1)] ov) [.box (evCells e)] := by
                        intro ov b' hb
                        refine ⟨k + 1, by dsimp only; omega, by omega, ?_⟩
                        dsimp only
                        rw [hany, hb]
                        refine weak_cutS 1 (by decide) (by simp) ?_ ?_
                        · simp [AObj.low, lows, AV.low, lows_ev]
                        · simp [WeakL, AV.low, lows, lows_evs, lows_ev, AV.strip, AV.strip1]
                      have k64 : In64 ((k : Int) + 1) := ⟨by omega, by omega⟩
                      cases b with
                      | true =>
                        simp (maxSteps := 2000000) -implicitDefEqProofs only [RS, RX, Nat.reduceLT, ↓RP0, ↓RP1, ↓RP2, ↓RP3, RV, RW, ↓reduceIte, Nat.reduceAdd, Nat.reduceSub, Nat.reduceMul, Nat.reduceLeDiff, Nat.reduceEqDiff, Int.reduceLT, Int.reduceLE, Int.reduceEq, Int.reduceNe, Int.reduceAdd, Int.reduceSub, Int.reduceMul, Int.reduceNeg, Int.reduceToNat, reduceCtorEq, e3k, evs_len, AV.cells]
                        exact ⟨k64, goIn _ true rfl⟩
                      | false =>
                        simp (maxSteps := 2000000) -implicitDefEqProofs only [RS, RX, Nat.reduceLT, ↓RP0, ↓RP1, ↓RP2, ↓RP3, RV, RW, ↓reduceIte, Nat.reduceAdd, Nat.reduceSub, Nat.reduceMul, Nat.reduceLeDiff, Nat.reduceEqDiff, Int.reduceLT, Int.reduceLE, Int.reduceEq, Int.reduceNe, Int.reduceAdd, Int.reduceSub, Int.reduceMul, Int.reduceNeg, Int.reduceToNat, reduceCtorEq, ↓q14, q14, e1, e1k, e3, e3k, evs_len, l1, k1, l2, k2, ev_strip, AV.cells]
                        exact ⟨fun h1 => ⟨k64, goIn _ true (by rw [h1]; rfl)⟩, fun h1 => ⟨k64, goIn _ false (by rw [h1]; rfl)⟩⟩
                    · obtain rfl : k = same.length := by omega
                      rw [hall]
                      simp (maxSteps := 2000000) -implicitDefEqProofs only [RS, RX, Nat.reduceLT, ↓RP0, ↓RP1, ↓RP2, ↓RP3, RV, RW, ↓reduceIte, Nat.reduceAdd, Nat.reduceSub, Nat.reduceMul, Nat.reduceLeDiff, Nat.reduceEqDiff, Int.reduceLT, Int.reduceLE, Int.reduceEq, Int.reduceNe, Int.reduceAdd, Int.reduceSub, Int.reduceMul, Int.reduceNeg, Int.reduceToNat, reduceCtorEq, evs_len, Int.lt_irrefl]
                      exact ⟨⟨by omega, by omega⟩, goOn _ _ _ _ (c + 1) (by rw [if_neg hp])⟩
              · obtain rfl : i = h.length := by omega
                rw [List.take_length]
                simp (maxSteps := 2000000) -implicitDefEqProofs only [RS, RX, Nat.reduceLT, ↓RP0, ↓RP1, ↓RP2, ↓RP3, RV, RW, ↓reduceIte, Nat.reduceAdd, Nat.reduceSub, Nat.reduceMul, Nat.reduceLeDiff, Nat.reduceEqDiff, Int.reduceLT, Int.reduceLE, Int.reduceEq, Int.reduceNe, Int.reduceAdd, Int.reduceSub, Int.reduceMul, Int.reduceNeg, Int.reduceToNat, reduceCtorEq, ↓q13, q13, evs_len, Int.lt_irrefl, le, ke, te, ev4, AV.cells]
                refine ⟨⟨by omega, by omega⟩, fun hne => ?_⟩
                exact absurd (by omega) hne
end Go.AL.Path
