/- Rows of diff: arguments that were trodden, as files, edits and texts. -/
import Derived.Test.YtofokmpdioblkaaGreatDoorG15
import Derived.Test.YtofokmpdioblkaaGreatDoorG30
import Derived.Test.YtofokmpdioblkaaGreatDoorCards
import Derived.Test.YtofokmpdioblkaaGreatDoorTie
set_option linter.unusedSimpArgs false
set_option linter.unusedVariables false
set_option maxRecDepth 100000
namespace Go.AL.Path
open Go Go.RowKit Go.Proofs Go.AL Go.ChangeShapes Go.WideShapes Go.ChangeAt Go.ChangeMaps
open Go.Proofs.YtofokmpdioblkaaGreatDoor

theorem own : ownKnob Tryz.prog.godebug = none := by kernel_rfl
theorem hlaid : laidOutB Tryz.prog = true := by kernel_rfl

/-- What the table holds, where the row's list is met. -/
theorem table {W : World} {l : List (String × DataW Unit)} (h : laidMetH Tryz.prog l W) (hh : (l.filter fun x => x.2.handleName?.isSome) = []) (hm : ("internal/strconv.uint64pow10", Rows.laid_internal_strconv_uint64pow10) ∈ l) :
    ∀ g cs, G g = some cs → ∃ us ty fz, Imms cs us ∧ (∀ u ∈ us, u.oneCell' = true) ∧ W.heap[g]? = some (.cells us.toArray ty fz) := by
  unfold laidMetH at h
  rw [hh] at h
  obtain ⟨ps, h1, _⟩ := h
  obtain ⟨g0, t, cs0, fuel, p, hg0, ht, hv, hd⟩ := laid_mem h1 hm
  have e1 : g0 = 1 := by
    have : Tryz.prog.globalNamed "internal/strconv.uint64pow10" = some 1 := by kernel_rfl
    rw [this] at hg0; exact (Option.some.inj hg0).symm
  subst e1
  have e2 : cs0.toList = Lib.pow10Tab.map fun z => Value.int .u64 z := by
    have ht1 : (Tryz.prog.globals[1]?).map (·.type) = some 137 := by kernel_rfl
    rw [ht1] at ht
    cases ht
    rw [show (Rows.laid_internal_strconv_uint64pow10 : DataW Unit) = Lib.tabData .u64 Lib.pow10Tab by kernel_rfl] at hd
    exact Lib.cells_of_tab (n := 20) (e := 124) (by kernel_rfl) (by kernel_rfl) (by kernel_rfl) (by kernel_rfl) hd
  intro g cs hgc
  unfold G at hgc
  split at hgc
  · rename_i hg1
    subst hg1
    cases hgc
    unfold World.var? at hv
    rw [hg0] at hv
    simp only [Option.bind_some] at hv
    split at hv
    · rename_i c ty fz hcell
      cases hv
      refine ⟨Lib.pow10Tab.map fun z => Value.int .u64 z, ty, fz, ?_, ?_, ?_⟩
      · have himm : ∀ l : List Int, Imms (l.map fun z => AV.imm (.int .u64 z)) (l.map fun z => Value.int .u64 z) := by
          intro l; induction l with
          | nil => exact .nil
          | cons x l ih => exact .cons ih
        exact himm _
      · intro u hu
        obtain ⟨z, _, rfl⟩ := List.mem_map.1 hu
        rfl
      · rw [hcell, ← e2]
    · cases hv
  · cases hgc

theorem bulkLaw {H : Type} : BulkLaw (Rows.uptoBulk (H := H)) Rows.uptoBulkAll := by
  refine ⟨fun b => ?_, fun ps => ?_, fun es rs => ?_, fun d r => ?_, ?_, fun d => ?_⟩
  · simp [Rows.uptoBulk]
  · simp [Rows.uptoBulk]
  · simp [Rows.uptoBulk]
  · simp [Rows.uptoBulkAll]
  · simp [Rows.uptoBulkAll]
  · cases d with
    | lit l => cases l <;> simp [Rows.uptoBulk]
    | _ => simp [Rows.uptoBulk]
theorem bulk_le {H : Type} {l : List (DataW H)} (h : Rows.uptoSmall H l = true) {d : DataW H} (hd : d ∈ l) : Rows.uptoBulk d ≤ 1048576 :=
  Nat.le_trans (bulkLaw.mem hd) (of_decide_eq_true h)

/-- An argument. -/
theorem arg_open {H : Type} {enc : TypeId × Value → H} {W : World} {base : Nat} {sp : Nat → Bool} {held : Bool} {t : TypeId} {v : Value} {d : DataW H} {ps : List MemPlace} (m : Nat) (ho : opn Tryz.prog m t = true)
    (hd : DataW.Trod enc Tryz.prog W base sp held t v d ps) (hB : Rows.uptoBulk d ≤ 1048576) : ∃ avs, Opened Tryz.prog 1048576 m t avs ∧ Reps (start W) W avs v.cells.toList ∧ ∀ u ∈ v.cells.toList, u.oneCell' = true := by
  obtain ⟨fuel, hf⟩ := hd
  exact open_all bulkLaw m fuel t _ _ ho hf hB

theorem rep_one {W : World} {a : AV} {v : Value} (hv : v.cells = #[v]) (h : Reps (start W) W [a] v.cells.toList) : Rep (start W) W a v := by
  rw [hv] at h
  cases h with
  | cons _ _ _ _ h1 _ => exact h1
theorem rep_sl {W : World} {base : Nat} {t e : TypeId} {a : AV} {v : Value} (hu : Tryz.prog.underlying t = some (.slice e)) (hval : Value.okWide Tryz.prog W .any base t v) (h : Reps (start W) W [a] v.cells.toList) : Rep (start W) W a v := by
  obtain ⟨A, len, cap, rfl⟩ := okWide_slice hu hval
  exact rep_one rfl h
theorem rep_int {W : World} {base : Nat} {t : TypeId} {k : IntKind} {a : AV} {v : Value} (hu : Tryz.prog.underlying t = some (.int k)) (hval : Value.okWide Tryz.prog W .any base t v) (h : Reps (start W) W [a] v.cells.toList) : Rep (start W) W a v := by
  obtain ⟨n, rfl⟩ := okWide_int hu hval
  exact rep_one rfl h
theorem rep_struct {W : World} {base : Nat} {t : TypeId} {fs : Array Field} {cs : List AV} {v : Value} (hu : Tryz.prog.underlying t = some (.struct fs)) (hval : Value.okWide Tryz.prog W .any base t v) (h : Reps (start W) W cs v.cells.toList) (h1 : ∀ u ∈ v.cells.toList, u.oneCell' = true) : Rep (start W) W (.agg cs) v := by
  obtain ⟨us, rfl, _⟩ := okWide_struct hu hval
  have h2 : Rep (start W) W (.agg cs) (.agg us.toList.toArray) := .agg _ _ h h1
  simpa using h2

section
variable {B m : Nat} {avs : List AV}
theorem opened_int {t : TypeId} {k : IntKind} (hu : Tryz.prog.underlying t = some (.int k)) (h : Opened Tryz.prog B (m + 1) t avs) : ∃ n, avs = [.imm (.int k n)] ∧ (Lit.int k n).wf = true := by
  unfold Opened at h; rw [hu] at h; exact h
theorem opened_bool {t : TypeId} (hu : Tryz.prog.underlying t = some .bool) (h : Opened Tryz.prog B (m + 1) t avs) : ∃ b, avs = [.imm (.bool b)] := by
  unfold Opened at h; rw [hu] at h; exact h
theorem opened_str {t : TypeId} (hu : Tryz.prog.underlying t = some .string) (h : Opened Tryz.prog B (m + 1) t avs) : ∃ s : ByteArray, avs = [.imm (.string s)] ∧ s.data.toList.length ≤ B := by
  unfold Opened at h; rw [hu] at h; exact h
theorem opened_sl {t e : TypeId} (hu : Tryz.prog.underlying t = some (.slice e)) (h : Opened Tryz.prog B (m + 1) t avs) : ∃ xs : List (List AV), avs = [.sl (Tryz.prog.cellsOf e) (xs.map (avOf Tryz.prog e)) none] ∧ xs.length ≤ B ∧ ∀ x ∈ xs, Opened Tryz.prog B m e x := by
  unfold Opened at h; rw [hu] at h; exact h
theorem opened_arr {t e : TypeId} {n : Nat} (hu : Tryz.prog.underlying t = some (.array n e)) (h : Opened Tryz.prog B (m + 1) t avs) : ∃ cs : List (List AV), avs = cs.flatten ∧ cs.length = n ∧ ∀ c ∈ cs, Opened Tryz.prog B m e c := by
  unfold Opened at h; rw [hu] at h; exact h
theorem rep_str {W : World} {base : Nat} {t : TypeId} {a : AV} {v : Value} (hu : Tryz.prog.underlying t = some .string) (hval : Value.okWide Tryz.prog W .any base t v) (h : Reps (start W) W [a] v.cells.toList) : Rep (start W) W a v := by
  obtain ⟨s, rfl⟩ := okWide_string hu hval
  exact rep_one rfl h
theorem wf_i64 {n : Int} (h : (Lit.int .i64 n).wf = true) : In64 n := by
  simp [Lit.wf, IntKind.min, IntKind.max, IntKind.bits, IntKind.signed] at h; exact ⟨by omega, by omega⟩
theorem wf_u8 {n : Int} (h : (Lit.int .u8 n).wf = true) : 0 ≤ n ∧ n ≤ 255 := by
  simp [Lit.wf, IntKind.min, IntKind.max, IntKind.bits, IntKind.signed] at h; omega
theorem bytes_of : ∀ {xs : List (List AV)}, (∀ x ∈ xs, Opened Tryz.prog B (m + 1) 5 x) → ∃ l : List UInt8, xs.map (avOf Tryz.prog 5) = l.map byteAV ∧ l.length = xs.length
  | [], _ => ⟨[], rfl, rfl⟩
  | x :: xs, h => by
    obtain ⟨l, hl, hn⟩ := bytes_of (xs := xs) fun y hy => h y (List.mem_cons_of_mem _ hy)
    obtain ⟨n, rfl, hw⟩ := opened_int Tryz.underlying5 (h x List.mem_cons_self)
    have hb := wf_u8 hw
    refine ⟨UInt8.ofNat n.toNat :: l, ?_, by simp [hn]⟩
    rw [List.map_cons, List.map_cons, hl]
    have : avOf Tryz.prog 5 [.imm (.int .u8 n)] = byteAV (UInt8.ofNat n.toNat) := by
      have h1 : avOf Tryz.prog 5 [.imm (.int .u8 n)] = .imm (.int .u8 n) := by unfold avOf; rw [Tryz.underlying5]; rfl
      rw [h1]
      unfold byteAV
      have h2 : ((UInt8.ofNat n.toNat).toNat : Int) = n := by
        rw [UInt8.toNat_ofNat']; omega
      rw [h2]
    rw [this]
theorem opened_bytes (h : Opened Tryz.prog 1048576 (m + 2) 33 avs) : ∃ l : List UInt8, avs = [bytesV l] ∧ l.length ≤ 1048576 := by
  obtain ⟨xs, rfl, hx, hxs⟩ := opened_sl Tryz.underlying33 h
  obtain ⟨l, hl, hn⟩ := bytes_of hxs
  have c5 : Tryz.prog.cellsOf 5 = 1 := by kernel_rfl
  exact ⟨l, by rw [hl, c5], by omega⟩
theorem opened_txt (h : Opened Tryz.prog 1048576 (m + 1) 9 avs) : ∃ s : List UInt8, avs = [T s] ∧ s.length ≤ 1048576 := by
  obtain ⟨s, rfl, hs⟩ := opened_str Tryz.underlying9 h
  exact ⟨s.data.toList, by simp [T, B], hs⟩
theorem opened_fil (h : Opened Tryz.prog 1048576 (m + 3) 35 avs) : ∃ f : Fil, avs = filC f ∧ FilOk f := by
  unfold Opened at h
  rw [Tryz.underlying35] at h
  obtain ⟨cs, rfl, hl, hf⟩ := h
  match cs, hl with
  | [a, b], _ =>
    obtain ⟨p, rfl, hp⟩ := opened_txt (hf 0 _ a rfl rfl)
    obtain ⟨d, rfl, hd⟩ := opened_bytes (hf 1 _ b rfl rfl)
    exact ⟨⟨p, d⟩, rfl, ⟨by show p.length ≤ _; omega, by show d.length ≤ _; omega⟩⟩
theorem fils_of : ∀ {xs : List (List AV)}, (∀ x ∈ xs, Opened Tryz.prog 1048576 (m + 3) 35 x) → ∃ l : List Fil, xs.map (avOf Tryz.prog 35) = l.map filE.v ∧ filE.all l ∧ l.length = xs.length
  | [], _ => ⟨[], rfl, (fun x hx => by cases hx), rfl⟩
  | x :: xs, h => by
    obtain ⟨l, hl, h1, h3⟩ := fils_of (xs := xs) fun y hy => h y (List.mem_cons_of_mem _ hy)
    obtain ⟨e, rfl, he⟩ := opened_fil (h x List.mem_cons_self)
    refine ⟨e :: l, ?_, fun y hy => ?_, by simp [h3]⟩
    · rw [List.map_cons, List.map_cons, hl]
      have : avOf Tryz.prog 35 (filC e) = filV e := by unfold avOf; rw [Tryz.underlying35]
      rw [this]
    · rcases List.mem_cons.1 hy with rfl | hy
      · exact he
      · exact h1 y hy
theorem opened_fils (h : Opened Tryz.prog 1048576 (m + 4) 22 avs) : ∃ l : List Fil, avs = [filsV l] ∧ Fils 1048576 l := by
  obtain ⟨xs, rfl, hx, hxs⟩ := opened_sl Tryz.underlying22 h
  obtain ⟨l, hl, h1, h3⟩ := fils_of hxs
  have c : Tryz.prog.cellsOf 35 = 2 := by kernel_rfl
  exact ⟨l, by rw [hl, c], h1, by omega⟩
theorem opened_edt (h : Opened Tryz.prog 1048576 (m + 3) 37 avs) : ∃ e : Edt, avs = edtC e ∧ EdtOk e := by
  unfold Opened at h
  rw [Tryz.underlying37] at h
  obtain ⟨cs, rfl, hl, hf⟩ := h
  match cs, hl with
  | [k, a, b], _ =>
    obtain ⟨n, rfl, _⟩ := opened_int Tryz.underlying3 (hf 0 _ k rfl rfl)
    obtain ⟨p, rfl, hp⟩ := opened_txt (hf 1 _ a rfl rfl)
    obtain ⟨d, rfl, hd⟩ := opened_bytes (hf 2 _ b rfl rfl)
    exact ⟨⟨n, p, d⟩, rfl, ⟨by show p.length ≤ _; omega, by show d.length ≤ _; omega⟩⟩
end

mutual
def vals : DataW Unit → List Value
  | .lit (.int k n) => [.int k n]
  | .agg l => valsAll l
  | _ => []
def valsAll : List (DataW Unit) → List Value
  | [] => []
  | d :: r => vals d ++ valsAll r
end
def setCells (vs : Array Value) : Obj → Obj
  | .cells _ t frozen => .cells vs t frozen
  | o => o
noncomputable def layOne (h : Array Obj) (x : String × DataW Unit) : Array Obj :=
  match Tryz.prog.globalNamed x.1 with
  | some g => h.modify g (setCells (vals x.2).toArray)
  | none => h
/-- A world for the witness: each listed variable holds what the list says. -/
noncomputable def laidWorld (os : Os) : World :=
  { World.holding Tryz.prog os ⟨#[], #[], []⟩ with heap := Rows.diffPutsUptoRow.laid.foldl layOne (World.holding Tryz.prog os ⟨#[], #[], []⟩).heap }
end Go.AL.Path

/- DiffApplies, walked; plain: what is found behind an edit; what rises. -/
set_option linter.unusedSimpArgs false
set_option linter.unusedVariables false
set_option maxRecDepth 100000
namespace Go.AL.Path
open Go Go.RowKit Go.Proofs Go.AL

theorem p22r (t : List Fil) (e : Edt) (ho : filE.all t) (he : EdtOk e) (hs : t.length ≤ 1099511627) : Pure Tryz.prog G 22 [filsV t, edtV e] (filsV (applyRef t e)) := by rw [← applyP_eq]; exact p22c t e ho he hs
theorem told_apply : Told Tryz.prog G 22 (filEd applyRef) := told_spOn fun x h => p22r x.1 x.2 h.1.1 h.2 h.1.2
theorem told_small : Told Tryz.prog G 8 (fil1b smallF) := told_spOnB fun l h => p8c l h.1 h.2
theorem told_same : Told Tryz.prog G 21 (fil2b fun a b => decide (a = b)) := told_spOnB fun x h => p21c x.1 x.2 h.1.1 h.2.1 h.1.2
def c5 : ACode := (.seq (.reg false 1 [⟨(.some 3), none, (.m .box 0), [(.t 1)]⟩, ⟨(.some 4), none, (.q .mv), [(.c (.imm (.bool false)))]⟩]) (.seq (.reg false 0 [⟨(.some 6), none, (.call true), [(.c (.fn (.func 7) [] []))]⟩, ⟨(.some 5), none, (.q .mv), [(.t 6)]⟩]) (.seq (.seq (.reg false 0 [⟨(.some 7), none, (.q .mv), [(.t 0)]⟩, ⟨(.some 8), none, (.call true), [(.c (.fn (.func 8) [] [])), (.t 7)]⟩, ⟨(.some 9), none, (.q (.un .not)), [(.t 8)]⟩]) (.cond (.t 9) (.seq (.reg false 0 [⟨(.some 10), none, (.q .mv), [(.t 5)]⟩, ⟨(.some 4), none, (.q .mv), [(.t 10)]⟩]) .ret) .skip)) (.seq (.reg true 0 [⟨(.some 11), none, (.q .mv), [(.t 5)]⟩, ⟨(.some 12), none, (.q .mv), [(.t 11)]⟩, ⟨(.some 13), (.some (12, true)), (.q .mv), [(.t 0)]⟩, ⟨(.some 14), (.some (12, true)), (.l (.loadA 3)), [(.t 3)]⟩, ⟨(.some 15), (.some (12, true)), (.call false), [(.c (.fn (.func 22) [] [])), (.t 13), (.t 14)]⟩, ⟨(.some 16), (.some (12, true)), (.q .mv), [(.t 0)]⟩, ⟨(.some 17), (.some (12, true)), (.l (.loadA 3)), [(.t 3)]⟩, ⟨(.some 18), (.some (12, true)), (.call true), [(.c (.fn (.func 23) [] [])), (.t 16), (.t 17)]⟩, ⟨(.some 19), (.some (12, true)), (.call true), [(.c (.fn (.func 21) [] [])), (.t 15), (.t 18)]⟩, ⟨(.some 20), none, (.q .pick), [(.t 12), (.t 19), (.c (.imm (.bool false)))]⟩, ⟨(.some 4), none, (.q .mv), [(.t 20)]⟩]) .ret))))
theorem fn5 : IsFn Tryz.prog 5 [] c5 [4] 21 := ⟨_, _, Tryz.func5, rfl, by decide +kernel, by kernel_rfl, rfl, rfl⟩
set_option maxHeartbeats 4000000 in
theorem p5s (t : List Fil) (e : Edt) (ho : filE.all t) (he : EdtOk e) (hs : t.length ≤ 1048576) : Pure Tryz.prog G 5 [filsV t, edtV e] (bool true) := by
  refine pure_of_code' (S := sp [(7, none0 (bool true)), (8, fil1b smallF), (22, filEd applyRef), (23, filEd applyRef), (21, fil2b fun a b => decide (a = b))] []) hm hG
    (sp_holds (.cons (told_none0 p7s) (.cons told_small (.cons told_apply (.cons told_applyR (.cons told_same .nil))))) .nil) fn5 (St 6 21 [filsV t, edtV e, .junk, .junk, .junk, .junk] []) (by kernel_rfl) ⟨⟨lows_fils 0 t, fun k hk => by cases hk⟩, lows_edt 0 e, trivial⟩ (by simp [AV.low]) ?_
  have q8 : ∀ K, ask (fil1b smallF) [filsV t] K = splitB (smallF t) K := fun K => ask_fil1b ⟨ho, by omega⟩
  have q22 : ∀ K, ask (filEd applyRef) [filsV t, .agg (edtC e)] K = K (filsV (applyRef t e)) := fun K => ask_filEd ⟨ho, by omega⟩ he
  have ao := applyRef_ok ho he
  have al := applyRef_len t e
  generalize applyRef t e = R at *
  have q21 : ∀ K, ask (fil2b fun a b => decide (a = b)) [filsV R, filsV R] K = K (bool true) := fun K => by
    rw [ask_fil2b ⟨ao, by omega⟩ ⟨ao, by omega⟩]; simp [splitB_eq, SplitP]
  cases hb : smallF t with
  | false => simp (maxSteps := 2000000) -implicitDefEqProofs only [c5, RS, Nat.reduceLT, ↓RP0, ↓RP1, ↓RP2, ↓RP3, RV, RW, ↓reduceIte, Nat.reduceAdd, Nat.reduceSub, Nat.reduceMul, Nat.reduceLeDiff, Nat.reduceEqDiff, Int.reduceLT, Int.reduceLE, Int.reduceEq, Int.reduceNe, Int.reduceAdd, Int.reduceSub, Int.reduceMul, Int.reduceNeg, Int.reduceToNat, reduceCtorEq, ↓q8, q8, hb, edt_len, edt_take, edt_strip, AV.cells]
  | true => simp (maxSteps := 2000000) -implicitDefEqProofs only [c5, RS, Nat.reduceLT, ↓RP0, ↓RP1, ↓RP2, ↓RP3, RV, RW, ↓reduceIte, Nat.reduceAdd, Nat.reduceSub, Nat.reduceMul, Nat.reduceLeDiff, Nat.reduceEqDiff, Int.reduceLT, Int.reduceLE, Int.reduceEq, Int.reduceNe, Int.reduceAdd, Int.reduceSub, Int.reduceMul, Int.reduceNeg, Int.reduceToNat, reduceCtorEq, ↓q8, q8, ↓q22, q22, ↓q21, q21, hb, edt_len, edt_take, edt_strip, AV.cells]

/-! What is found. -/
theorem find_app {p : Fil → Bool} {x : Fil} {a b : List Fil} (h : p x = false) : (a ++ [x] ++ b).find? p = (a ++ b).find? p := by
  rw [List.find?_append, List.find?_append, List.find?_append]
  simp [h]
theorem found_new (t : List Fil) (e : Edt) (hk : e.kind = 1) : findF (applyRef t e) e.path = some ⟨e.path, e.data⟩ := by
  rw [← applyP_eq]
  unfold applyP findF
  rw [if_neg (by simp [hk])]
  dsimp only
  have hn : ∀ x ∈ t.filter (fun f => !here e f), decide (x.path = e.path) = false := fun x hx => by
    have := (List.mem_filter.1 hx).2
    simpa [here] using this
  generalize t.filter (fun f => !here e f) = out at *
  generalize (if idxOf (after e) out < 0 then out.length else (idxOf (after e) out).toNat) = i
  rw [List.find?_append, List.find?_append]
  have h1 : (out.take i).find? (fun f => decide (f.path = e.path)) = none := by
    rw [List.find?_eq_none]; intro x hx; rw [hn x (List.mem_of_mem_take hx)]; decide
  rw [h1]; simp
theorem found_gone (t : List Fil) (e : Edt) (hk : ¬ e.kind = 1) : findF (applyRef t e) e.path = none := by
  rw [← applyP_eq]
  unfold applyP findF
  rw [if_pos hk, List.find?_eq_none]
  intro x hx
  have := (List.mem_filter.1 hx).2
  simpa [here] using this
theorem find_filter {p q : Fil → Bool} : ∀ {l : List Fil}, (∀ x, p x = true → q x = true) → (l.filter q).find? p = l.find? p
  | [], _ => rfl
  | x :: l, h => by
    by_cases hq : q x = true
    · rw [List.filter_cons_of_pos hq]
      cases hp : p x with
      | true => rw [List.find?_cons_of_pos hp, List.find?_cons_of_pos hp]
      | false => rw [List.find?_cons_of_neg (by rw [hp]; decide), List.find?_cons_of_neg (by rw [hp]; decide), find_filter h]
    · rw [List.filter_cons_of_neg hq]
      have hp : ¬ p x = true := fun hp => hq (h x hp)
      rw [List.find?_cons_of_neg hp, find_filter h]
theorem found_else (t : List Fil) (e : Edt) {d : List UInt8} (hd : ¬ d = e.path) : findF (applyRef t e) d = findF t d := by
  rw [← applyP_eq]
  have hf : (t.filter fun f => !here e f).find? (fun f => decide (f.path = d)) = findF t d := find_filter fun x hx => by
    have h1 : x.path = d := of_decide_eq_true hx
    simp only [here, Bool.not_eq_true', decide_eq_false_iff_not]
    exact fun h2 => hd (h1.symm.trans h2)
  unfold applyP
  split
  · exact hf
  · dsimp only
    generalize (t.filter fun f => !here e f) = out at *
    rw [← hf]
    unfold findF
    rw [find_app (by simp; exact fun h => hd h.symm), List.take_append_drop]

/-! What rises. -/
def RisesF (t : List Fil) : Prop := t.Pairwise fun a b => a.path < b.path
theorem rises_of_may {t : List Fil} (h : mayR t = true) : RisesF t := by
  unfold mayR at h
  rw [Bool.and_eq_true, List.all_eq_true] at h
  have hadj : ∀ i (hi : i + 1 < t.length), t[i].path < t[i + 1].path := fun i hi => by
    have := h.2 (i + 1) (List.mem_range.2 hi)
    rw [Bool.and_eq_true, Bool.not_eq_true'] at this
    have hb := this.1
    unfold badAt at hb
    rw [Bool.or_eq_false_iff] at hb
    have h2 := hb.2
    simp only [Nat.zero_lt_succ, decide_true, Bool.true_and, Bool.not_eq_false', Nat.add_sub_cancel] at h2
    rw [bl_lt] at h2
    have g1 : t.getD i filE.d0 = t[i] := by rw [List.getD_eq_getElem?_getD, List.getElem?_eq_getElem (by omega)]; rfl
    have g2 : t.getD (i + 1) filE.d0 = t[i + 1] := by rw [List.getD_eq_getElem?_getD, List.getElem?_eq_getElem hi]; rfl
    rwa [g1, g2] at h2
  unfold RisesF
  rw [List.pairwise_iff_getElem]
  intro i j hi hj hij
  obtain ⟨k, rfl⟩ : ∃ k, j = i + 1 + k := ⟨j - (i + 1), by omega⟩
  clear hij
  induction k with
  | zero => exact hadj i hj
  | succ k ih =>
    have h1 := ih (by omega)
    have h2 := hadj (i + 1 + k) hj
    exact List.lt_trans h1 h2
theorem apply_rises {t : List Fil} (e : Edt) (h : RisesF t) : RisesF (applyRef t e) := by
  rw [← applyP_eq]
  unfold applyP
  have hf : RisesF (t.filter fun f => !here e f) := List.Pairwise.filter _ h
  split
  · exact hf
  · dsimp only
    have hn : ∀ x ∈ t.filter (fun f => !here e f), ¬ x.path = e.path := fun x hx => by
      have := (List.mem_filter.1 hx).2
      simpa [here] using this
    generalize t.filter (fun f => !here e f) = out at *
    have hlt : ∀ x ∈ out, after e x = false → x.path < e.path := fun x hx ha => by
      have h1 : ¬ e.path < x.path := by rw [← bl_lt]; unfold after at ha; rw [ha]; decide
      rcases Classical.em (x.path < e.path) with h2 | h2
      · exact h2
      · exact absurd (List.le_antisymm (List.not_lt.1 h1) (List.not_lt.1 h2)) (hn x hx)
    unfold RisesF at *
    by_cases ha : out.any (after e) = true
    · obtain ⟨k, hk, hidx, h1, h2⟩ := idxOf_some filE.d0 ha
      have hd1 : ¬ (idxOf (after e) out < 0) := by rw [hidx]; omega
      rw [if_neg hd1, hidx, Int.toNat_natCast]
      have hsp : out = out.take k ++ out.drop k := (List.take_append_drop k out).symm
      have hp : (out.take k ++ out.drop k).Pairwise fun a b : Fil => a.path < b.path := by rw [List.take_append_drop]; exact hf
      obtain ⟨p1, p2, p3⟩ := List.pairwise_append.1 hp
      have hl : ∀ x ∈ out.take k, x.path < e.path := fun x hx => hlt x (List.mem_of_mem_take hx) (by
        rw [List.any_eq_false] at h1
        simpa using h1 x hx)
      have hg : ∀ x ∈ out.drop k, e.path < x.path := fun x hx => by
        have hkx : e.path < (out.getD k filE.d0).path := by rw [← bl_lt]; exact h2
        rw [List.drop_eq_getElem_cons hk] at hx p2
        rw [List.getD_eq_getElem?_getD, List.getElem?_eq_getElem hk] at hkx
        rcases List.mem_cons.1 hx with rfl | hx
        · exact hkx
        · exact List.lt_trans hkx ((List.pairwise_cons.1 p2).1 x hx)
      refine List.pairwise_append.2 ⟨List.pairwise_append.2 ⟨p1, by simp, ?_⟩, p2, ?_⟩
      · intro x hx y hy; rw [List.mem_singleton.1 hy]; exact hl x hx
      · intro x hx y hy
        rcases List.mem_append.1 hx with hx | hx
        · exact p3 x hx y hy
        · rw [List.mem_singleton.1 hx]; exact hg y hy
    · have hidx := idxOf_none (by simpa using ha : out.any (after e) = false)
      rw [if_pos (by rw [hidx]; decide), List.take_length, List.drop_length, List.append_nil]
      refine List.pairwise_append.2 ⟨hf, by simp, ?_⟩
      intro x hx y hy
      rw [List.mem_singleton.1 hy]
      refine hlt x hx ?_
      have : out.any (after e) = false := by simpa using ha
      rw [List.any_eq_false] at this
      simpa using this x hx
theorem tree_rises (l : List Fil) : RisesF (treeF l) := by
  unfold treeF
  generalize 30 = i
  induction i with
  | zero => simp [treeTo, RisesF]
  | succ i ih =>
    rcases Nat.lt_or_ge i l.length with h | h
    · rw [treeTo_succ h]
      unfold treeStep
      split
      · rename_i hm; exact rises_of_may hm
      · exact ih
    · have : treeTo l (i + 1) = treeTo l i := by unfold treeTo; rw [List.take_of_length_le (by omega), List.take_of_length_le h]
      rw [this]; exact ih
theorem rises_at {t : List Fil} (h : RisesF t) {i : Nat} (h0 : 0 < i) (hi : i < t.length) : Op.bytesLess (t.getD (i - 1) filE.d0).path (t.getD i filE.d0).path = true := by
  rw [bl_lt]
  have := List.pairwise_iff_getElem.1 h (i - 1) i (by omega) hi (by omega)
  rw [List.getD_eq_getElem?_getD, List.getElem?_eq_getElem (by omega : i - 1 < t.length), List.getD_eq_getElem?_getD, List.getElem?_eq_getElem hi]
  exact this
end Go.AL.Path

/- DiffPuts, walked. -/
set_option linter.unusedSimpArgs false
set_option linter.unusedVariables false
set_option maxRecDepth 100000
namespace Go.AL.Path
open Go Go.RowKit Go.Proofs Go.AL

def findS : PSp := spOn (fun x : List Fil × List UInt8 => [filsV x.1, T x.2]) (fun x => Fils 1099511627 x.1) fun x => foundV x.1 x.2
theorem ask_findS {t : List Fil} {d : List UInt8} (h : Fils 1099511627 t) {K} : ask findS [filsV t, T d] K = K (foundV t d) :=
  ask_spOn (x := (t, d)) (fun x y hx hy he => by
    injection he with h1 h2; injection h2 with h2 _
    have a := fils_inj1 hx.1 hy.1 h1
    have b := T_inj.1 h2
    cases x; cases y; dsimp only at a b; rw [a, b]) h rfl
theorem told_findS : Told Tryz.prog G 15 findS := told_spOn fun x h => p15c x.1 x.2 h.1 h.2
theorem told_tree : Told Tryz.prog G 9 (fil1 treeF) := told_spOn fun l h => p9c l h.1 h.2
theorem foundV_form (t : List Fil) (d : List UInt8) : ∃ n xs b w, foundV t d = .tup [.sl n xs none, bool b] ∧ bytesOf xs = some w ∧ (∀ m, lows m xs) ∧ b = (findF t d).isSome ∧ w = dataOf t d := by
  unfold foundV dataOf
  cases findF t d with
  | none => exact ⟨_, _, _, _, rfl, rfl, fun m => trivial, rfl, rfl⟩
  | some f => exact ⟨_, _, _, _, rfl, bytesOf_map _, fun m => lows_bytes m _, rfl, rfl⟩
def c6 : ACode := (.seq (.reg false 1 [⟨(.some 4), none, (.m .box 0), [(.t 1)]⟩, ⟨(.some 6), none, (.q .mv), [(.c (.imm (.bool false)))]⟩]) (.seq (.reg false 0 [⟨(.some 17), none, (.call true), [(.c (.fn (.func 7) [] []))]⟩, ⟨(.some 7), none, (.q .mv), [(.t 17)]⟩]) (.seq (.seq (.reg false 0 [⟨(.some 18), none, (.q .mv), [(.t 0)]⟩, ⟨(.some 19), none, (.call true), [(.c (.fn (.func 8) [] [])), (.t 18)]⟩, ⟨(.some 20), none, (.q (.un .not)), [(.t 19)]⟩]) (.cond (.t 20) (.seq (.reg false 0 [⟨(.some 21), none, (.q .mv), [(.t 7)]⟩, ⟨(.some 6), none, (.q .mv), [(.t 21)]⟩]) .ret) .skip)) (.seq (.reg false 0 [⟨(.some 22), none, (.q .mv), [(.t 0)]⟩, ⟨(.some 23), none, (.call true), [(.c (.fn (.func 9) [] [])), (.t 22)]⟩, ⟨(.some 8), none, (.q .mv), [(.t 23)]⟩]) (.seq (.reg false 0 [⟨(.some 24), none, (.q .mv), [(.t 8)]⟩, ⟨(.some 25), none, (.l (.loadA 3)), [(.t 4)]⟩, ⟨(.some 26), none, (.call true), [(.c (.fn (.func 22) [] [])), (.t 24), (.t 25)]⟩, ⟨(.some 9), none, (.q .mv), [(.t 26)]⟩]) (.seq (.reg false 0 [⟨(.some 28), none, (.q .mv), [(.t 9)]⟩, ⟨(.some 29), none, (.q (.faddr 1)), [(.t 4)]⟩, ⟨(.some 30), none, (.l .load1), [(.t 29)]⟩, ⟨(.some 31), none, (.call true), [(.c (.fn (.func 15) [] [])), (.t 28), (.t 30)]⟩, ⟨(.some 27), none, (.q .mv), [(.t 31)]⟩, ⟨(.some 32), none, (.q (.ext 0)), [(.t 27)]⟩, ⟨(.some 33), none, (.q (.ext 1)), [(.t 27)]⟩, ⟨(.some 10), none, (.q .mv), [(.t 32)]⟩, ⟨(.some 11), none, (.q .mv), [(.t 33)]⟩]) (.seq (.reg false 0 [⟨(.some 35), none, (.q .mv), [(.t 8)]⟩, ⟨(.some 36), none, (.q .mv), [(.t 2)]⟩, ⟨(.some 37), none, (.call true), [(.c (.fn (.func 15) [] [])), (.t 35), (.t 36)]⟩, ⟨(.some 34), none, (.q .mv), [(.t 37)]⟩, ⟨(.some 38), none, (.q (.ext 0)), [(.t 34)]⟩, ⟨(.some 39), none, (.q (.ext 1)), [(.t 34)]⟩, ⟨(.some 12), none, (.q .mv), [(.t 38)]⟩, ⟨(.some 13), none, (.q .mv), [(.t 39)]⟩]) (.seq (.reg false 0 [⟨(.some 41), none, (.q .mv), [(.t 9)]⟩, ⟨(.some 42), none, (.q .mv), [(.t 2)]⟩, ⟨(.some 43), none, (.call true), [(.c (.fn (.func 15) [] [])), (.t 41), (.t 42)]⟩, ⟨(.some 40), none, (.q .mv), [(.t 43)]⟩, ⟨(.some 44), none, (.q (.ext 0)), [(.t 40)]⟩, ⟨(.some 45), none, (.q (.ext 1)), [(.t 40)]⟩, ⟨(.some 14), none, (.q .mv), [(.t 44)]⟩, ⟨(.some 15), none, (.q .mv), [(.t 45)]⟩]) (.seq (.seq (.reg false 0 [⟨(.some 16), none, (.q .mv), [(.c (.imm (.int .i64 1)))]⟩]) (.block 0 (.loop (.seq (.seq (.reg false 0 [⟨(.some 46), none, (.q .mv), [(.t 16)]⟩, ⟨(.some 47), none, (.q .mv), [(.t 9)]⟩, ⟨(.some 48), none, (.q .lenL), [(.t 47)]⟩, ⟨(.some 49), none, (.q (.bin .lss 3)), [(.t 46), (.t 48)]⟩]) (.cond (.t 49) .skip (.exit 0))) (.seq (.block 1 (.seq (.reg true 0 [⟨(.some 52), none, (.q .mv), [(.t 9)]⟩, ⟨(.some 53), none, (.q .mv), [(.t 16)]⟩, ⟨(.some 54), none, (.q (.iaddrS 2)), [(.t 52), (.t 53)]⟩, ⟨(.some 55), none, (.q (.faddr 0)), [(.t 54)]⟩, ⟨(.some 56), none, (.l .load1), [(.t 55)]⟩, ⟨(.some 57), none, (.q .mv), [(.t 9)]⟩, ⟨(.some 58), none, (.q .mv), [(.t 16)]⟩, ⟨(.some 59), none, (.q (.bin .sub 3)), [(.t 58), (.c (.imm (.int .i64 1)))]⟩, ⟨(.some 60), none, (.q (.iaddrS 2)), [(.t 57), (.t 59)]⟩, ⟨(.some 61), none, (.q (.faddr 0)), [(.t 60)]⟩, ⟨(.some 62), none, (.l .load1), [(.t 61)]⟩, ⟨(.some 63), none, (.q (.bin .leq 9)), [(.t 56), (.t 62)]⟩]) (.cond (.t 63) (.seq (.reg false 0 [⟨(.some 6), none, (.q .mv), [(.c (.imm (.bool false)))]⟩]) .ret) .skip))) (.reg false 0 [⟨(.some 50), none, (.q .mv), [(.t 16)]⟩, ⟨(.some 51), none, (.q (.bin .add 3)), [(.t 50), (.c (.imm (.int .i64 1)))]⟩, ⟨(.some 16), none, (.q .mv), [(.t 51)]⟩])))))) (.seq (.reg false 0 [⟨(.some 64), none, (.q .mv), [(.t 7)]⟩, ⟨(.some 65), none, (.q .mv), [(.t 64)]⟩, ⟨(.some 66), (.some (65, true)), (.q .mv), [(.t 11)]⟩, ⟨(.some 67), (.some (65, true)), (.q (.faddr 0)), [(.t 4)]⟩, ⟨(.some 68), (.some (65, true)), (.l .load1), [(.t 67)]⟩, ⟨(.some 69), (.some (65, true)), (.q (.bin .eql 3)), [(.t 68), (.c (.imm (.int .i64 1)))]⟩, ⟨(.some 70), (.some (65, true)), (.q (.eqBoo false)), [(.t 66), (.t 69)]⟩, ⟨(.some 71), none, (.q .pick), [(.t 65), (.t 70), (.c (.imm (.bool false)))]⟩, ⟨(.some 72), none, (.q .mv), [(.t 71)]⟩, ⟨(.some 73), (.some (72, true)), (.q .mv), [(.t 11)]⟩, ⟨(.some 74), (.some (72, true)), (.q (.un .not)), [(.t 73)]⟩, ⟨(.some 75), (.some (72, true)), (.q .mv), [(.t 74)]⟩, ⟨(.some 76), (.some (75, false)), (.q .mv), [(.t 10)]⟩, ⟨(.some 77), (.some (75, false)), (.q .toStr), [(.t 76)]⟩, ⟨(.some 78), (.some (75, false)), (.q (.faddr 2)), [(.t 4)]⟩, ⟨(.some 79), (.some (75, false)), (.l .load1), [(.t 78)]⟩, ⟨(.some 80), (.some (75, false)), (.q .toStr), [(.t 79)]⟩, ⟨(.some 81), (.some (75, false)), (.q (.bin .eql 9)), [(.t 77), (.t 80)]⟩, ⟨(.some 82), (.some (72, true)), (.q .pick), [(.t 75), (.c (.imm (.bool true))), (.t 81)]⟩, ⟨(.some 83), none, (.q .pick), [(.t 72), (.t 82), (.c (.imm (.bool false)))]⟩, ⟨(.some 84), none, (.q .mv), [(.t 83)]⟩, ⟨(.some 85), (.some (84, true)), (.q .mv), [(.t 2)]⟩, ⟨(.some 86), (.some (84, true)), (.q (.faddr 1)), [(.t 4)]⟩, ⟨(.some 87), (.some (84, true)), (.l .load1), [(.t 86)]⟩, ⟨(.some 88), (.some (84, true)), (.q (.bin .eql 9)), [(.t 85), (.t 87)]⟩, ⟨(.some 89), (.some (84, true)), (.q .mv), [(.t 88)]⟩, ⟨(.some 90), (.some (89, false)), (.q .mv), [(.t 13)]⟩, ⟨(.some 91), (.some (89, false)), (.q .mv), [(.t 15)]⟩, ⟨(.some 92), (.some (89, false)), (.q (.eqBoo false)), [(.t 90), (.t 91)]⟩, ⟨(.some 93), (.some (89, false)), (.q .mv), [(.t 92)]⟩, ⟨(.some 94), (.some (93, true)), (.q .mv), [(.t 12)]⟩, ⟨(.some 95), (.some (93, true)), (.q .toStr), [(.t 94)]⟩, ⟨(.some 96), (.some (93, true)), (.q .mv), [(.t 14)]⟩, ⟨(.some 97), (.some (93, true)), (.q .toStr), [(.t 96)]⟩, ⟨(.some 98), (.some (93, true)), (.q (.bin .eql 9)), [(.t 95), (.t 97)]⟩, ⟨(.some 99), (.some (89, false)), (.q .pick), [(.t 93), (.t 98), (.c (.imm (.bool false)))]⟩, ⟨(.some 100), (.some (84, true)), (.q .pick), [(.t 89), (.c (.imm (.bool true))), (.t 99)]⟩, ⟨(.some 101), none, (.q .pick), [(.t 84), (.t 100), (.c (.imm (.bool false)))]⟩, ⟨(.some 6), none, (.q .mv), [(.t 101)]⟩]) .ret))))))))))
theorem fn6 : IsFn Tryz.prog 6 [] c6 [6] 102 := ⟨_, _, Tryz.func6, rfl, by decide +kernel, by kernel_rfl, rfl, rfl⟩
set_option maxHeartbeats 16000000 in
theorem p6s (l : List Fil) (e : Edt) (d : List UInt8) (ho : filE.all l) (he : EdtOk e) (hs : l.length ≤ 1048576) : Pure Tryz.prog G 6 [filsV l, edtV e, T d] (bool true) := by
  refine pure_of_code' (S := sp [(7, none0 (bool true)), (8, fil1b smallF), (9, fil1 treeF), (22, filEd applyRef), (15, findS)] []) hm hG
    (sp_holds (.cons (told_none0 p7s) (.cons told_small (.cons told_tree (.cons told_apply (.cons told_findS .nil))))) .nil) fn6 (St 17 102 [filsV l, edtV e, T d, .junk, .junk, .junk, .junk, .junk, .junk, .junk, .junk, .junk, .junk, .junk, .junk, .junk, .junk] []) (by kernel_rfl) ⟨⟨lows_fils 0 l, fun k hk => by cases hk⟩, lows_edt 0 e, trivial, trivial⟩ (by simp [AV.low]) ?_
  have q8 : ∀ K, ask (fil1b smallF) [filsV l] K = splitB (smallF l) K := fun K => ask_fil1b ⟨ho, by omega⟩
  cases hb : smallF l with
  | false => simp (maxSteps := 2000000) -implicitDefEqProofs only [c6, RS, Nat.reduceLT, ↓RP0, ↓RP1, ↓RP2, ↓RP3, RV, RW, ↓reduceIte, Nat.reduceAdd, Nat.reduceSub, Nat.reduceMul, Nat.reduceLeDiff, Nat.reduceEqDiff, Int.reduceLT, Int.reduceLE, Int.reduceEq, Int.reduceNe, Int.reduceAdd, Int.reduceSub, Int.reduceMul, Int.reduceNeg, Int.reduceToNat, reduceCtorEq, ↓q8, q8, hb, edt_len, edt_take, edt_strip, AV.cells]
  | true =>
    have q9 : ∀ K, ask (fil1 treeF) [filsV l] K = K (filsV (treeF l)) := fun K => ask_fil1 ⟨ho, by omega⟩
    obtain ⟨to, tl⟩ := treeTo_ok ho 30
    change filE.all (treeF l) at to
    change (treeF l).length ≤ 30 at tl
    have tr := tree_rises l
    generalize treeF l = t at *
    have q22 : ∀ K, ask (filEd applyRef) [filsV t, .agg (edtC e)] K = K (filsV (applyRef t e)) := fun K => ask_filEd ⟨to, by omega⟩ he
    have ao := applyRef_ok to he
    have al := applyRef_len t e
    have ar := apply_rises e tr
    have g1 : (findF (applyRef t e) e.path).isSome = decide (e.kind = 1) ∧ (e.kind = 1 → dataOf (applyRef t e) e.path = e.data) := by
      unfold dataOf
      by_cases hk : e.kind = 1
      · rw [found_new t e hk]; exact ⟨by simp [hk], fun _ => rfl⟩
      · rw [found_gone t e hk]; exact ⟨by simp [hk], fun h => absurd h hk⟩
    have g2 : ¬ d = e.path → (findF (applyRef t e) d).isSome = (findF t d).isSome ∧ dataOf (applyRef t e) d = dataOf t d := fun h => by
      unfold dataOf; rw [found_else t e h]; exact ⟨rfl, rfl⟩
    obtain ⟨n1, xs1, b1, w1, h1, y1, l1, z1, v1⟩ := foundV_form (applyRef t e) e.path
    obtain ⟨n2, xs2, b2, w2, h2, y2, l2, z2, v2⟩ := foundV_form t d
    obtain ⟨n3, xs3, b3, w3, h3, y3, l3, z3, v3⟩ := foundV_form (applyRef t e) d
    rw [← z1, ← v1] at g1
    rw [← z3, ← v3, ← z2, ← v2] at g2
    have qa : ∀ K, ask findS [filsV (applyRef t e), T e.path] K = K (.tup [.sl n1 xs1 none, bool b1]) := fun K => by rw [ask_findS ⟨ao, by omega⟩, h1]
    have qb : ∀ K, ask findS [filsV t, T d] K = K (.tup [.sl n2 xs2 none, bool b2]) := fun K => by rw [ask_findS ⟨to, by omega⟩, h2]
    have qc : ∀ K, ask findS [filsV (applyRef t e), T d] K = K (.tup [.sl n3 xs3 none, bool b3]) := fun K => by rw [ask_findS ⟨ao, by omega⟩, h3]
    have hra := fun i h0 hi => rises_at ar (i := i) h0 hi
    generalize applyRef t e = x at *
    simp (maxSteps := 2000000) -implicitDefEqProofs only [c6, RS, Nat.reduceLT, ↓RP0, ↓RP1, ↓RP2, ↓RP3, RV, RW, ↓reduceIte, Nat.reduceAdd, Nat.reduceSub, Nat.reduceMul, Nat.reduceLeDiff, Nat.reduceEqDiff, Int.reduceLT, Int.reduceLE, Int.reduceEq, Int.reduceNe, Int.reduceAdd, Int.reduceSub, Int.reduceMul, Int.reduceNeg, Int.reduceToNat, reduceCtorEq, ↓q8, q8, ↓q9, q9, ↓q22, q22, ↓qa, qa, ↓qb, qb, ↓qc, qc, hb, edt_len, edt_take, edt_strip, edt0, edt1, edt2, AV.cells]
    refine loopB (st := fun (i : Nat) => (St 17 102 [filsV l, edtV e, T d, .junk, .ptr 0 0, .junk, bool false, bool true, filsV t, filsV x, .sl n1 xs1 none, bool b1, .sl n2 xs2 none, bool b2, .sl n3 xs3 none, bool b3, i64 i] [])) (hp := fun _ => [.box (edtC e)]) (I := fun i => 1 ≤ i ∧ (i ≤ x.length ∨ i = 1)) (m := fun i => x.length + 1 - i) (1 : Nat) ⟨Nat.le_refl _, .inr rfl⟩ ?_ ?_
    · refine weak_cutS 1 (by decide) (by simp) ?_ ?_
      · simp only [List.mem_singleton]; rintro o rfl; exact lows_edt 1 e
      · simp [WeakL, AV.low, lows, lows_fils, lows_edt, l1, l2, l3]
    · rintro i ⟨hi1, hi2⟩
      by_cases hlt : i < x.length
      · have e1 := filE.vs_get hlt
        have e2 := filE.vs_get (l := x) (i := i - 1) (by omega)
        have e3 : ((i : Int) < (x.length : Int)) = True := eq_true (by omega)
        have c4 : ((i : Int) - 1 < (x.length : Int)) = True := eq_true (by omega)
        have c5 : ((0 : Int) ≤ (i : Int) - 1) = True := eq_true (by omega)
        have i1 : ((i : Int) - 1).toNat = i - 1 := by omega
        have hr := hra i (by omega) hlt
        generalize x.getD i filE.d0 = y at *
        generalize x.getD (i - 1) filE.d0 = z at *
        change _ = AV.agg (filC y) at e1
        change _ = AV.agg (filC z) at e2
        simp (maxSteps := 2000000) -implicitDefEqProofs only [RS, Nat.reduceLT, ↓RP0, ↓RP1, ↓RP2, ↓RP3, RV, RW, ↓reduceIte, Nat.reduceAdd, Nat.reduceSub, Nat.reduceMul, Nat.reduceLeDiff, Nat.reduceEqDiff, Int.reduceLT, Int.reduceLE, Int.reduceEq, Int.reduceNe, Int.reduceAdd, Int.reduceSub, Int.reduceMul, Int.reduceNeg, Int.reduceToNat, reduceCtorEq, ↓binB_sleq, binB_sleq, hr, e1, e2, e3, c4, c5, i1, fil_len, fil0, fil1', fil_take, fil_strip, fils_len, AV.cells]
        refine ⟨⟨by omega, by omega⟩, ⟨by omega, by omega⟩, i + 1, by dsimp only; omega, ⟨by omega, .inl (by omega)⟩, ?_⟩
        refine weak_cutS 1 (by decide) (by simp) ?_ ?_
        · simp only [List.mem_singleton]; rintro o rfl; exact lows_edt 1 e
        · simp [WeakL, AV.low, lows, lows_fils, lows_edt, l1, l2, l3]
      · have e3 : ((i : Int) < (x.length : Int)) = False := eq_false (by omega)
        have y4 := bytesOf_map e.data
        by_cases hk : e.kind = 1
        · obtain ⟨g1a, g1b⟩ := g1
          obtain rfl : b1 = true := by rw [g1a]; simp [hk]
          have y5 : w1 = e.data := g1b hk
          by_cases hd : d = e.path
          · simp (maxSteps := 2000000) -implicitDefEqProofs only [RS, Nat.reduceLT, ↓RP0, ↓RP1, ↓RP2, ↓RP3, RV, RW, ↓reduceIte, Nat.reduceAdd, Nat.reduceSub, Nat.reduceMul, Nat.reduceLeDiff, Nat.reduceEqDiff, Int.reduceLT, Int.reduceLE, Int.reduceEq, Int.reduceNe, Int.reduceAdd, Int.reduceSub, Int.reduceMul, Int.reduceNeg, Int.reduceToNat, reduceCtorEq, e3, hk, hd, y1, y4, y5, fils_len, edt_len, edt0, edt1, edt2, edt_strip, onSome_some, AV.cells]
          · obtain ⟨g2a, g2b⟩ := g2 hd
            subst g2a
            cases b3 with
            | true => simp (maxSteps := 2000000) -implicitDefEqProofs only [RS, Nat.reduceLT, ↓RP0, ↓RP1, ↓RP2, ↓RP3, RV, RW, ↓reduceIte, Nat.reduceAdd, Nat.reduceSub, Nat.reduceMul, Nat.reduceLeDiff, Nat.reduceEqDiff, Int.reduceLT, Int.reduceLE, Int.reduceEq, Int.reduceNe, Int.reduceAdd, Int.reduceSub, Int.reduceMul, Int.reduceNeg, Int.reduceToNat, reduceCtorEq, e3, hk, hd, y1, y2, y3, y4, y5, g2b, fils_len, edt_len, edt0, edt1, edt2, edt_strip, onSome_some, AV.cells]
            | false => simp (maxSteps := 2000000) -implicitDefEqProofs only [RS, Nat.reduceLT, ↓RP0, ↓RP1, ↓RP2, ↓RP3, RV, RW, ↓reduceIte, Nat.reduceAdd, Nat.reduceSub, Nat.reduceMul, Nat.reduceLeDiff, Nat.reduceEqDiff, Int.reduceLT, Int.reduceLE, Int.reduceEq, Int.reduceNe, Int.reduceAdd, Int.reduceSub, Int.reduceMul, Int.reduceNeg, Int.reduceToNat, reduceCtorEq, e3, hk, hd, y1, y2, y3, y4, y5, g2b, fils_len, edt_len, edt0, edt1, edt2, edt_strip, onSome_some, AV.cells]
        · obtain ⟨g1a, g1b⟩ := g1
          obtain rfl : b1 = false := by rw [g1a]; simp [hk]
          by_cases hd : d = e.path
          · simp (maxSteps := 2000000) -implicitDefEqProofs only [RS, Nat.reduceLT, ↓RP0, ↓RP1, ↓RP2, ↓RP3, RV, RW, ↓reduceIte, Nat.reduceAdd, Nat.reduceSub, Nat.reduceMul, Nat.reduceLeDiff, Nat.reduceEqDiff, Int.reduceLT, Int.reduceLE, Int.reduceEq, Int.reduceNe, Int.reduceAdd, Int.reduceSub, Int.reduceMul, Int.reduceNeg, Int.reduceToNat, reduceCtorEq, e3, hk, hd, y1, y4, fils_len, edt_len, edt0, edt1, edt2, edt_strip, onSome_some, AV.cells]
          · obtain ⟨g2a, g2b⟩ := g2 hd
            subst g2a
            cases b3 with
            | true => simp (maxSteps := 2000000) -implicitDefEqProofs only [RS, Nat.reduceLT, ↓RP0, ↓RP1, ↓RP2, ↓RP3, RV, RW, ↓reduceIte, Nat.reduceAdd, Nat.reduceSub, Nat.reduceMul, Nat.reduceLeDiff, Nat.reduceEqDiff, Int.reduceLT, Int.reduceLE, Int.reduceEq, Int.reduceNe, Int.reduceAdd, Int.reduceSub, Int.reduceMul, Int.reduceNeg, Int.reduceToNat, reduceCtorEq, e3, hk, hd, y1, y2, y3, y4, g2b, fils_len, edt_len, edt0, edt1, edt2, edt_strip, onSome_some, AV.cells]
            | false => simp (maxSteps := 2000000) -implicitDefEqProofs only [RS, Nat.reduceLT, ↓RP0, ↓RP1, ↓RP2, ↓RP3, RV, RW, ↓reduceIte, Nat.reduceAdd, Nat.reduceSub, Nat.reduceMul, Nat.reduceLeDiff, Nat.reduceEqDiff, Int.reduceLT, Int.reduceLE, Int.reduceEq, Int.reduceNe, Int.reduceAdd, Int.reduceSub, Int.reduceMul, Int.reduceNeg, Int.reduceToNat, reduceCtorEq, e3, hk, hd, y1, y2, y3, y4, g2b, fils_len, edt_len, edt0, edt1, edt2, edt_strip, onSome_some, AV.cells]
end Go.AL.Path
