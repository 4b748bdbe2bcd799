/- Rows of diff: arguments that were trodden, as files, edits and texts. -/
import Derived.Test.YtofokmpdioblkaaGreatDoorG16
import Derived.Test.YtofokmpdioblkaaGreatDoorG22
import Derived.Test.YtofokmpdioblkaaGreatDoorG28
import Derived.Test.YtofokmpdioblkaaGreatDoorCards
import Derived.Test.YtofokmpdioblkaaGreatDoorTie
set_option linter.unusedSimpArgs false
set_option linter.unusedVariables false
set_option maxRecDepth 100000
namespace Go.AL.Path
open Go Go.RowKit Go.Proofs Go.AL Go.ChangeShapes Go.WideShapes Go.ChangeAt Go.ChangeMaps
open Go.Proofs.YtofokmpdioblkaaGreatDoor
theorem own : ownKnob Tryz.prog.godebug = none := by kernel_rfl
theorem hlaid : laidOutB Tryz.prog = true := by kernel_rfl
/-- What the table holds, where the row's list is met. -/
theorem table {W : World} {l : List (String × DataW Unit)} (h : laidMetH Tryz.prog l W) (hh : (l.filter fun x => x.2.handleName?.isSome) = []) (hm : ("internal/strconv.uint64pow10", Rows.laid_internal_strconv_uint64pow10) ∈ l) :
    ∀ g cs, G g = some cs → ∃ us ty fz, Imms cs us ∧ (∀ u ∈ us, u.oneCell' = true) ∧ W.heap[g]? = some (.cells us.toArray ty fz) := by
  unfold laidMetH at h
  rw [hh] at h
  obtain ⟨ps, h1, _⟩ := h
  obtain ⟨g0, t, cs0, fuel, p, hg0, ht, hv, hd⟩ := laid_mem h1 hm
  have e1 : g0 = 1 := by
    have : Tryz.prog.globalNamed "internal/strconv.uint64pow10" = some 1 := by kernel_rfl
    rw [this] at hg0; exact (Option.some.inj hg0).symm
  subst e1
  have e2 : cs0.toList = Lib.pow10Tab.map fun z => Value.int .u64 z := by
    have ht1 : (Tryz.prog.globals[1]?).map (·.type) = some 137 := by kernel_rfl
    rw [ht1] at ht
    cases ht
    rw [show (Rows.laid_internal_strconv_uint64pow10 : DataW Unit) = Lib.tabData .u64 Lib.pow10Tab by kernel_rfl] at hd
    exact Lib.cells_of_tab (n := 20) (e := 124) (by kernel_rfl) (by kernel_rfl) (by kernel_rfl) (by kernel_rfl) hd
  intro g cs hgc
  unfold G at hgc
  split at hgc
  · rename_i hg1
    subst hg1
    cases hgc
    unfold World.var? at hv
    rw [hg0] at hv
    simp only [Option.bind_some] at hv
    split at hv
    · rename_i c ty fz hcell
      cases hv
      refine ⟨Lib.pow10Tab.map fun z => Value.int .u64 z, ty, fz, ?_, ?_, ?_⟩
      · have himm : ∀ l : List Int, Imms (l.map fun z => AV.imm (.int .u64 z)) (l.map fun z => Value.int .u64 z) := by
          intro l; induction l with
          | nil => exact .nil
          | cons x l ih => exact .cons ih
        exact himm _
      · intro u hu
        obtain ⟨z, _, rfl⟩ := List.mem_map.1 hu
        rfl
      · rw [hcell, ← e2]
    · cases hv
  · cases hgc
theorem bulkLaw {H : Type} : BulkLaw (Rows.uptoBulk (H := H)) Rows.uptoBulkAll := by
  refine ⟨fun b => ?_, fun ps => ?_, fun es rs => ?_, fun d r => ?_, ?_, fun d => ?_⟩
  · simp [Rows.uptoBulk]
  · simp [Rows.uptoBulk]
  · simp [Rows.uptoBulk]
  · simp [Rows.uptoBulkAll]
  · simp [Rows.uptoBulkAll]
  · cases d with
    | lit l => cases l <;> simp [Rows.uptoBulk]
    | _ => simp [Rows.uptoBulk]
theorem bulk_le {H : Type} {l : List (DataW H)} (h : Rows.uptoSmall H l = true) {d : DataW H} (hd : d ∈ l) : Rows.uptoBulk d ≤ 1048576 :=
  Nat.le_trans (bulkLaw.mem hd) (of_decide_eq_true h)
/-- An argument. -/
theorem arg_open {H : Type} {enc : TypeId × Value → H} {W : World} {base : Nat} {sp : Nat → Bool} {held : Bool} {t : TypeId} {v : Value} {d : DataW H} {ps : List MemPlace} (m : Nat) (ho : opn Tryz.prog m t = true)
    (hd : DataW.Trod enc Tryz.prog W base sp held t v d ps) (hB : Rows.uptoBulk d ≤ 1048576) : ∃ avs, Opened Tryz.prog 1048576 m t avs ∧ Reps (start W) W avs v.cells.toList ∧ ∀ u ∈ v.cells.toList, u.oneCell' = true := by
  obtain ⟨fuel, hf⟩ := hd
  exact open_all bulkLaw m fuel t _ _ ho hf hB
theorem rep_one {W : World} {a : AV} {v : Value} (hv : v.cells = #[v]) (h : Reps (start W) W [a] v.cells.toList) : Rep (start W) W a v := by
  rw [hv] at h
  cases h with
  | cons _ _ _ _ h1 _ => exact h1
theorem rep_sl {W : World} {base : Nat} {t e : TypeId} {a : AV} {v : Value} (hu : Tryz.prog.underlying t = some (.slice e)) (hval : Value.okWide Tryz.prog W .any base t v) (h : Reps (start W) W [a] v.cells.toList) : Rep (start W) W a v := by
  obtain ⟨A, len, cap, rfl⟩ := okWide_slice hu hval
  exact rep_one rfl h
theorem rep_int {W : World} {base : Nat} {t : TypeId} {k : IntKind} {a : AV} {v : Value} (hu : Tryz.prog.underlying t = some (.int k)) (hval : Value.okWide Tryz.prog W .any base t v) (h : Reps (start W) W [a] v.cells.toList) : Rep (start W) W a v := by
  obtain ⟨n, rfl⟩ := okWide_int hu hval
  exact rep_one rfl h
section
variable {B m : Nat} {avs : List AV}
theorem opened_int {t : TypeId} {k : IntKind} (hu : Tryz.prog.underlying t = some (.int k)) (h : Opened Tryz.prog B (m + 1) t avs) : ∃ n, avs = [.imm (.int k n)] ∧ (Lit.int k n).wf = true := by
  unfold Opened at h; rw [hu] at h; exact h
theorem opened_str {t : TypeId} (hu : Tryz.prog.underlying t = some .string) (h : Opened Tryz.prog B (m + 1) t avs) : ∃ s : ByteArray, avs = [.imm (.string s)] ∧ s.data.toList.length ≤ B := by
  unfold Opened at h; rw [hu] at h; exact h
theorem opened_sl {t e : TypeId} (hu : Tryz.prog.underlying t = some (.slice e)) (h : Opened Tryz.prog B (m + 1) t avs) : ∃ xs : List (List AV), avs = [.sl (Tryz.prog.cellsOf e) (xs.map (avOf Tryz.prog e)) none] ∧ xs.length ≤ B ∧ ∀ x ∈ xs, Opened Tryz.prog B m e x := by
  unfold Opened at h; rw [hu] at h; exact h
theorem wf_u8 {n : Int} (h : (Lit.int .u8 n).wf = true) : 0 ≤ n ∧ n ≤ 255 := by
  simp [Lit.wf, IntKind.min, IntKind.max, IntKind.bits, IntKind.signed] at h; omega
theorem bytes_of : ∀ {xs : List (List AV)}, (∀ x ∈ xs, Opened Tryz.prog B (m + 1) 5 x) → ∃ l : List UInt8, xs.map (avOf Tryz.prog 5) = l.map byteAV ∧ l.length = xs.length
  | [], _ => ⟨[], rfl, rfl⟩
  | x :: xs, h => by
    obtain ⟨l, hl, hn⟩ := bytes_of (xs := xs) fun y hy => h y (List.mem_cons_of_mem _ hy)
    obtain ⟨n, rfl, hw⟩ := opened_int Tryz.underlying5 (h x List.mem_cons_self)
    have hb := wf_u8 hw
    refine ⟨UInt8.ofNat n.toNat :: l, ?_, by simp [hn]⟩
    rw [List.map_cons, List.map_cons, hl]
    have : avOf Tryz.prog 5 [.imm (.int .u8 n)] = byteAV (UInt8.ofNat n.toNat) := by
      have h1 : avOf Tryz.prog 5 [.imm (.int .u8 n)] = .imm (.int .u8 n) := by unfold avOf; rw [Tryz.underlying5]; rfl
      rw [h1]
      unfold byteAV
      have h2 : ((UInt8.ofNat n.toNat).toNat : Int) = n := by
        rw [UInt8.toNat_ofNat']; omega
      rw [h2]
    rw [this]
theorem opened_bytes (h : Opened Tryz.prog 1048576 (m + 2) 33 avs) : ∃ l : List UInt8, avs = [bytesV l] ∧ l.length ≤ 1048576 := by
  obtain ⟨xs, rfl, hx, hxs⟩ := opened_sl Tryz.underlying33 h
  obtain ⟨l, hl, hn⟩ := bytes_of hxs
  have c5 : Tryz.prog.cellsOf 5 = 1 := by kernel_rfl
  exact ⟨l, by rw [hl, c5], by omega⟩
theorem opened_txt (h : Opened Tryz.prog 1048576 (m + 1) 9 avs) : ∃ s : List UInt8, avs = [T s] ∧ s.length ≤ 1048576 := by
  obtain ⟨s, rfl, hs⟩ := opened_str Tryz.underlying9 h
  exact ⟨s.data.toList, by simp [T, B], hs⟩
theorem opened_fil (h : Opened Tryz.prog 1048576 (m + 3) 35 avs) : ∃ f : Fil, avs = filC f ∧ FilOk f := by
  unfold Opened at h
  rw [Tryz.underlying35] at h
  obtain ⟨cs, rfl, hl, hf⟩ := h
  match cs, hl with
  | [a, b], _ =>
    obtain ⟨p, rfl, hp⟩ := opened_txt (hf 0 _ a rfl rfl)
    obtain ⟨d, rfl, hd⟩ := opened_bytes (hf 1 _ b rfl rfl)
    exact ⟨⟨p, d⟩, rfl, ⟨by show p.length ≤ _; omega, by show d.length ≤ _; omega⟩⟩
theorem fils_of : ∀ {xs : List (List AV)}, (∀ x ∈ xs, Opened Tryz.prog 1048576 (m + 3) 35 x) → ∃ l : List Fil, xs.map (avOf Tryz.prog 35) = l.map filE.v ∧ filE.all l ∧ l.length = xs.length
  | [], _ => ⟨[], rfl, (fun x hx => by cases hx), rfl⟩
  | x :: xs, h => by
    obtain ⟨l, hl, h1, h3⟩ := fils_of (xs := xs) fun y hy => h y (List.mem_cons_of_mem _ hy)
    obtain ⟨e, rfl, he⟩ := opened_fil (h x List.mem_cons_self)
    refine ⟨e :: l, ?_, fun y hy => ?_, by simp [h3]⟩
    · rw [List.map_cons, List.map_cons, hl]
      have : avOf Tryz.prog 35 (filC e) = filV e := by unfold avOf; rw [Tryz.underlying35]
      rw [this]
    · rcases List.mem_cons.1 hy with rfl | hy
      · exact he
      · exact h1 y hy
theorem opened_fils (h : Opened Tryz.prog 1048576 (m + 4) 22 avs) : ∃ l : List Fil, avs = [filsV l] ∧ Fils 1048576 l := by
  obtain ⟨xs, rfl, hx, hxs⟩ := opened_sl Tryz.underlying22 h
  obtain ⟨l, hl, h1, h3⟩ := fils_of hxs
  have c : Tryz.prog.cellsOf 35 = 2 := by kernel_rfl
  exact ⟨l, by rw [hl, c], h1, by omega⟩
end
mutual
def vals : DataW Unit → List Value
  | .lit (.int k n) => [.int k n]
  | .agg l => valsAll l
  | _ => []
def valsAll : List (DataW Unit) → List Value
  | [] => []
  | d :: r => vals d ++ valsAll r
end
def setCells (vs : Array Value) : Obj → Obj
  | .cells _ t frozen => .cells vs t frozen
  | o => o
noncomputable def layOne (h : Array Obj) (x : String × DataW Unit) : Array Obj :=
  match Tryz.prog.globalNamed x.1 with
  | some g => h.modify g (setCells (vals x.2).toArray)
  | none => h
/-- A world for the witness: each listed variable holds what the list says. -/
noncomputable def laidWorld (os : Os) : World :=
  { World.holding Tryz.prog os ⟨#[], #[], []⟩ with heap := Rows.diffPutsUptoRow.laid.foldl layOne (World.holding Tryz.prog os ⟨#[], #[], []⟩).heap }
end Go.AL.Path

/- Stable sorting, as a plain law on lists. -/
namespace Go.AL.Path
section
variable {α : Type} (key : α → List UInt8)
/-- x may stand before y. -/
def Le (x y : α) : Prop := ¬ key y < key x
def Srt (l : List α) : Prop := l.Pairwise (Le key)
def Stab (l m : List α) : Prop := ∀ k, l.filter (fun x => decide (key x = k)) = m.filter (fun x => decide (key x = k))
def insR (x : α) : List α → List α
  | [] => [x]
  | y :: l => if key x < key y then x :: y :: l else y :: insR x l
def sortS (l : List α) : List α := l.foldl (fun acc x => insR key x acc) []
variable {key}
theorem k_irr (a : List UInt8) : ¬ a < a := List.lt_irrefl a
theorem k_trans {a b c : List UInt8} (h : a < b) (h' : b < c) : a < c := List.lt_trans h h'
theorem k_tri {a b : List UInt8} (h : ¬ a < b) (h' : ¬ b < a) : a = b := List.le_antisymm (List.not_lt.1 h') (List.not_lt.1 h)
theorem Le.refl (x : α) : Le key x x := k_irr _
theorem Le.trans {x y z : α} (h : Le key x y) (h' : Le key y z) : Le key x z := fun hz => by
  unfold Le at h h'
  have h1 : key x ≤ key y := List.not_lt.1 h
  have h2 : key y ≤ key z := List.not_lt.1 h'
  exact List.not_lt.2 (List.le_trans h1 h2) hz
theorem Le.of_lt {x y : α} (h : key x < key y) : Le key x y := fun h' => k_irr _ (k_trans h h')
theorem Stab.refl (l : List α) : Stab key l l := fun _ => rfl
theorem Stab.symm {l m : List α} (h : Stab key l m) : Stab key m l := fun k => (h k).symm
theorem Stab.trans {l m n : List α} (h : Stab key l m) (h' : Stab key m n) : Stab key l n := fun k => (h k).trans (h' k)
theorem Stab.app {l l' m m' : List α} (h : Stab key l l') (h' : Stab key m m') : Stab key (l ++ m) (l' ++ m') := fun k => by rw [List.filter_append, List.filter_append, h k, h' k]
theorem Stab.mem {l m : List α} (h : Stab key l m) {x : α} (hx : x ∈ l) : x ∈ m := by
  have h1 : x ∈ l.filter (fun y => decide (key y = key x)) := List.mem_filter.2 ⟨hx, by simp⟩
  rw [h] at h1
  exact (List.mem_filter.1 h1).1
theorem Stab.mem_iff {l m : List α} (h : Stab key l m) {x : α} : x ∈ l ↔ x ∈ m := ⟨h.mem, h.symm.mem⟩
/-- Two neighbouring blocks, no key in both, may change places. -/
theorem Stab.swap (X Y : List α) (h : ∀ x ∈ X, ∀ y ∈ Y, key x ≠ key y) : Stab key (X ++ Y) (Y ++ X) := fun k => by
  rw [List.filter_append, List.filter_append]
  by_cases hx : ∃ x ∈ X, key x = k
  · obtain ⟨x, hx, rfl⟩ := hx
    have : Y.filter (fun y => decide (key y = key x)) = [] := List.filter_eq_nil_iff.2 fun y hy => by simp; exact fun e => h x hx y hy e.symm
    rw [this]; simp
  · have : X.filter (fun y => decide (key y = k)) = [] := List.filter_eq_nil_iff.2 fun y hy => by simp; exact fun e => hx ⟨y, hy, e⟩
    rw [this]; simp
theorem Stab.length : ∀ {l m : List α}, Stab key l m → l.length = m.length := by
  intro l
  induction l with
  | nil =>
    intro m h
    cases m with
    | nil => rfl
    | cons y s => exact absurd (h.symm.mem (List.mem_cons_self ..)) (by simp)
  | cons x t ih =>
    intro m h
    have hx : x ∈ m := h.mem (List.mem_cons_self ..)
    obtain ⟨m1, m2, rfl, hn⟩ : ∃ m1 m2, m = m1 ++ x :: m2 ∧ ∀ y ∈ m1, key y ≠ key x := by
      have hk := h (key x)
      rw [List.filter_cons] at hk
      simp only [decide_true, if_true] at hk
      have := List.filter_eq_cons_iff.1 hk.symm
      obtain ⟨m1, m2, e, h1, h2, h3⟩ := this
      exact ⟨m1, m2, e, fun y hy => by have := h1 y hy; simpa using this⟩
    have h2 : Stab key t (m1 ++ m2) := fun k => by
      have hk := h k
      rw [List.filter_cons, List.filter_append, List.filter_cons] at hk
      rw [List.filter_append]
      by_cases e : key x = k
      · simp only [e, decide_true, if_true] at hk
        have : m1.filter (fun y => decide (key y = k)) = [] := List.filter_eq_nil_iff.2 fun y hy => by simp; exact fun e' => hn y hy (e'.trans e.symm)
        rw [this] at hk ⊢
        simpa using hk
      · simpa [e] using hk
    have := ih h2
    simp at this ⊢; omega
theorem Srt.uniq : ∀ {l m : List α}, Srt key l → Srt key m → Stab key l m → l = m
  | [], [], _, _, _ => rfl
  | [], y :: s, _, _, h => by have := h.length; simp at this
  | x :: t, [], _, _, h => by have := h.length; simp at this
  | x :: t, y :: s, hl, hm, h => by
    have hl' := List.pairwise_cons.1 hl
    have hm' := List.pairwise_cons.1 hm
    have e : key x = key y := by
      apply k_tri
      · rcases List.mem_cons.1 (h.mem (List.mem_cons_self ..)) with rfl | hx
        · exact k_irr _
        · exact hm'.1 x hx
      · rcases List.mem_cons.1 (h.symm.mem (List.mem_cons_self ..)) with rfl | hy
        · exact k_irr _
        · exact hl'.1 y hy
    have h1 := h (key x)
    rw [List.filter_cons, List.filter_cons] at h1
    simp only [decide_true, if_true, e] at h1
    injection h1 with h1 h2
    subst h1
    rw [Srt.uniq (l := t) (m := s) hl'.2 hm'.2 fun k => by
      have hk := h k
      rw [List.filter_cons, List.filter_cons] at hk
      by_cases e : key x = k
      · simpa [e] using hk
      · simpa [e] using hk]
theorem insR_mem {x z : α} : ∀ {l : List α}, z ∈ insR key x l → z = x ∨ z ∈ l
  | [], h => Or.inl (List.mem_singleton.1 h)
  | y :: l, h => by
    unfold insR at h
    split at h
    · simpa using h
    · rcases List.mem_cons.1 h with rfl | h
      · simp
      · rcases insR_mem h with rfl | h <;> simp [*]
theorem insR_srt {x : α} : ∀ {l : List α}, Srt key l → Srt key (insR key x l)
  | [], _ => List.pairwise_singleton _ _
  | y :: l, h => by
    have h' := List.pairwise_cons.1 h
    unfold insR
    split
    · rename_i hc
      refine List.pairwise_cons.2 ⟨fun z hz => ?_, h⟩
      rcases List.mem_cons.1 hz with rfl | hz
      · exact Le.of_lt hc
      · exact (Le.of_lt hc).trans (h'.1 z hz)
    · rename_i hc
      refine List.pairwise_cons.2 ⟨fun z hz => ?_, insR_srt h'.2⟩
      rcases insR_mem hz with rfl | hz
      · exact hc
      · exact h'.1 z hz
theorem lt_le {a b c : List UInt8} (h : a < b) (h' : ¬ c < b) : a < c := by
  by_cases e : b < c
  · exact k_trans h e
  · rw [← k_tri e h']; exact h
theorem insR_stab {x : α} : ∀ {l : List α}, Srt key l → Stab key (l ++ [x]) (insR key x l)
  | [], _ => Stab.refl _
  | y :: l, h => by
    have h' := List.pairwise_cons.1 h
    unfold insR
    split
    · rename_i hc
      refine Stab.swap (y :: l) [x] fun z hz w hw e => ?_
      rw [List.mem_singleton.1 hw] at e
      have : key x < key z := by
        rcases List.mem_cons.1 hz with rfl | hz
        · exact hc
        · exact lt_le hc (h'.1 z hz)
      rw [e] at this
      exact k_irr _ this
    · intro k
      have := insR_stab (x := x) h'.2 k
      rw [List.cons_append, List.filter_cons, List.filter_cons, this]
theorem sortS_snoc (l : List α) (x : α) : sortS key (l ++ [x]) = insR key x (sortS key l) := by
  simp [sortS, List.foldl_append]
theorem sortS_ok : ∀ n (l : List α), l.length = n → Srt key (sortS key l) ∧ Stab key l (sortS key l) := by
  intro n
  induction n with
  | zero => intro l h; rw [List.length_eq_zero_iff.1 h]; exact ⟨List.Pairwise.nil, Stab.refl _⟩
  | succ n ih =>
    intro l h
    obtain ⟨m, x, rfl⟩ : ∃ m x, l = m ++ [x] := ⟨l.dropLast, l.getLast (by intro e; simp [e] at h), (List.dropLast_concat_getLast _).symm⟩
    have := ih m (by simp at h; exact h)
    rw [sortS_snoc]
    exact ⟨insR_srt this.1, (this.2.app (Stab.refl [x])).trans (insR_stab this.1)⟩
theorem sortS_srt (l : List α) : Srt key (sortS key l) := (sortS_ok _ l rfl).1
theorem sortS_stab (l : List α) : Stab key l (sortS key l) := (sortS_ok _ l rfl).2
theorem sortS_length (l : List α) : (sortS key l).length = l.length := ((sortS_stab l).length).symm
theorem sortS_mem {l : List α} {x : α} : x ∈ sortS key l ↔ x ∈ l := (sortS_stab l).mem_iff.symm
theorem sortS_uniq {l m : List α} (h : Srt key m) (h' : Stab key l m) : m = sortS key l := h.uniq (sortS_srt l) (h'.symm.trans (sortS_stab l))
theorem sortS_srt_eq {l : List α} (h : Srt key l) : sortS key l = l := (sortS_uniq h (Stab.refl l)).symm
theorem sortS_congr {l m : List α} (h : Stab key l m) : sortS key l = sortS key m := (sortS_uniq (sortS_srt l) (h.symm.trans (sortS_stab l)))
theorem Srt.app {X Y : List α} : Srt key (X ++ Y) ↔ Srt key X ∧ Srt key Y ∧ ∀ x ∈ X, ∀ y ∈ Y, Le key x y := List.pairwise_append
theorem sortS_app {X Y : List α} (h : ∀ x ∈ X, ∀ y ∈ Y, Le key x y) : sortS key (X ++ Y) = sortS key X ++ sortS key Y :=
  (sortS_uniq (Srt.app.2 ⟨sortS_srt X, sortS_srt Y, fun x hx y hy => h x (sortS_mem.1 hx) y (sortS_mem.1 hy)⟩) ((sortS_stab X).app (sortS_stab Y))).symm
/-- The insertion under way: x between what stands ahead of it and what it has passed. -/
theorem ins_end {l S1 S2 : List α} {x : α} (hl : Srt key (S1 ++ S2)) (hst : Stab key l (S1 ++ S2)) (h2 : ∀ s ∈ S2, key x < key s) (h1 : ∀ s ∈ S1, Le key s x) : S1 ++ x :: S2 = sortS key (l ++ [x]) := by
  have hh := Srt.app.1 hl
  refine sortS_uniq ?_ ?_
  · refine Srt.app.2 ⟨hh.1, List.pairwise_cons.2 ⟨fun s hs => Le.of_lt (h2 s hs), hh.2.1⟩, fun a ha b hb => ?_⟩
    rcases List.mem_cons.1 hb with rfl | hb
    · exact h1 a ha
    · exact hh.2.2 a ha b hb
  · refine (hst.app (Stab.refl [x])).trans ?_
    rw [List.append_assoc]
    exact (Stab.refl S1).app (Stab.swap S2 [x] fun s hs y hy e => by
      rw [List.mem_singleton.1 hy] at e
      have := h2 s hs
      rw [e] at this
      exact k_irr _ this)
/-- Merging by halves. -/
theorem merge_end {X1 X2 Y1 Y2 : List α} (hX : Srt key (X1 ++ X2)) (hY : Srt key (Y1 ++ Y2)) (h1 : ∀ x ∈ X2, ∀ y ∈ Y1, key y < key x) (h2 : ∀ x ∈ X1, ∀ y ∈ Y2, Le key x y) :
    sortS key (X1 ++ Y1) ++ sortS key (X2 ++ Y2) = sortS key ((X1 ++ X2) ++ (Y1 ++ Y2)) := by
  have hx := Srt.app.1 hX
  have hy := Srt.app.1 hY
  rw [← sortS_app (X := X1 ++ Y1) (Y := X2 ++ Y2)]
  · refine sortS_congr ?_
    have e1 : (X1 ++ Y1) ++ (X2 ++ Y2) = X1 ++ ((Y1 ++ X2) ++ Y2) := by simp
    have e2 : (X1 ++ X2) ++ (Y1 ++ Y2) = X1 ++ ((X2 ++ Y1) ++ Y2) := by simp
    rw [e1, e2]
    exact (Stab.refl X1).app ((Stab.swap Y1 X2 fun y hy x hx e => by
      have := h1 x hx y hy
      rw [e] at this
      exact k_irr _ this).app (Stab.refl Y2))
  · intro a ha b hb
    rcases List.mem_append.1 ha with ha | ha <;> rcases List.mem_append.1 hb with hb | hb
    · exact hx.2.2 a ha b hb
    · exact h2 a ha b hb
    · exact Le.of_lt (h1 b hb a ha)
    · exact hy.2.2 a ha b hb
/-- Full blocks, each sorted. -/
def Full (bs : Nat) (L : List (List α)) : Prop := ∀ x ∈ L, x.length = bs ∧ Srt key x
theorem Full.length {bs : Nat} : ∀ {L : List (List α)}, Full (key := key) bs L → L.flatten.length = L.length * bs
  | [], _ => by simp
  | x :: L, h => by
    have := Full.length (L := L) fun y hy => h y (List.mem_cons_of_mem _ hy)
    rw [List.flatten_cons, List.length_append, this, (h x (List.mem_cons_self ..)).1, List.length_cons, Nat.succ_mul, Nat.add_comm]
end
end Go.AL.Path

/- Words: the functions that SHA-256 is made of, the program's and the document's. -/
set_option linter.unusedSimpArgs false
set_option linter.unusedVariables false
set_option maxRecDepth 100000
namespace Go.AL.Path
open Go Go.RowKit Go.Proofs Go.AL
abbrev Wd := BitVec 32
abbrev w32 (x : Wd) : AV := .imm (.int .u32 (x.toNat : Int))
theorem ofInt_toNat (x : Wd) : BitVec.ofInt 32 (x.toNat : Int) = x := by rw [BitVec.ofInt_natCast, BitVec.ofNat_toNat, BitVec.setWidth_eq]
theorem wrap_toNat (x : Wd) : IntKind.u32.wrap (x.toNat : Int) = x.toNat := by
  have := x.isLt
  simp [IntKind.wrap, IntKind.bits, IntKind.signed]
  omega
theorem r_and (x y : Wd) : bits .and .u32 (x.toNat : Int) (y.toNat : Int) = ((x &&& y).toNat : Int) := by
  show IntKind.u32.wrap ((BitVec.ofInt 32 (x.toNat : Int) &&& BitVec.ofInt 32 (y.toNat : Int)).toNat : Int) = _
  rw [ofInt_toNat, ofInt_toNat, wrap_toNat]
theorem r_or (x y : Wd) : bits .or .u32 (x.toNat : Int) (y.toNat : Int) = ((x ||| y).toNat : Int) := by
  show IntKind.u32.wrap ((BitVec.ofInt 32 (x.toNat : Int) ||| BitVec.ofInt 32 (y.toNat : Int)).toNat : Int) = _
  rw [ofInt_toNat, ofInt_toNat, wrap_toNat]
theorem r_xor (x y : Wd) : bits .xor .u32 (x.toNat : Int) (y.toNat : Int) = ((x ^^^ y).toNat : Int) := by
  show IntKind.u32.wrap ((BitVec.ofInt 32 (x.toNat : Int) ^^^ BitVec.ofInt 32 (y.toNat : Int)).toNat : Int) = _
  rw [ofInt_toNat, ofInt_toNat, wrap_toNat]
theorem r_not (x : Wd) : bits .xor .u32 4294967295 (x.toNat : Int) = ((~~~x).toNat : Int) := by
  show IntKind.u32.wrap ((BitVec.ofInt 32 4294967295 ^^^ BitVec.ofInt 32 (x.toNat : Int)).toNat : Int) = _
  rw [ofInt_toNat, show BitVec.ofInt 32 4294967295 = BitVec.allOnes 32 by decide, BitVec.allOnes_xor, wrap_toNat]
theorem r_add (x y : Wd) : IntKind.u32.wrap ((x.toNat : Int) + (y.toNat : Int)) = ((x + y).toNat : Int) := by
  rw [BitVec.toNat_add]
  simp [IntKind.wrap, IntKind.bits, IntKind.signed]
theorem r_shr (x : Wd) (n : Nat) : Int.fdiv (x.toNat : Int) (2 ^ n) = ((x >>> n).toNat : Int) := by
  rw [BitVec.toNat_ushiftRight, Nat.shiftRight_eq_div_pow, Int.fdiv_eq_ediv_of_nonneg _ (by exact Int.pow_nonneg (by decide))]
  simp
theorem r_shl (x : Wd) (n : Nat) : IntKind.u32.wrap ((x.toNat : Int) * 2 ^ n) = ((x <<< n).toNat : Int) := by
  rw [BitVec.toNat_shiftLeft, Nat.shiftLeft_eq]
  simp [IntKind.wrap, IntKind.bits, IntKind.signed]
theorem qB_xorU {n : Int} {K : AV → Prop} : qB (.un .xor) [.imm (.int .u32 n)] K = K (.imm (.int .u32 (bits .xor .u32 4294967295 n))) := rfl
def rotW (x : Wd) (n : Nat) : Wd := (x >>> n) ||| (x <<< (32 - n))
def chW (x y z : Wd) : Wd := (x &&& y) ^^^ (~~~x &&& z)
def majW (x y z : Wd) : Wd := (x &&& y) ^^^ (x &&& z) ^^^ (y &&& z)
def big0 (x : Wd) : Wd := rotW x 2 ^^^ rotW x 13 ^^^ rotW x 22
def big1 (x : Wd) : Wd := rotW x 6 ^^^ rotW x 11 ^^^ rotW x 25
def small0 (x : Wd) : Wd := rotW x 7 ^^^ rotW x 18 ^^^ (x >>> 3)
def small1 (x : Wd) : Wd := rotW x 17 ^^^ rotW x 19 ^^^ (x >>> 10)
theorem ch_or (x y z : Wd) : (x &&& y) ||| (~~~x &&& z) = chW x y z := by
  unfold chW
  ext i hi
  simp only [BitVec.getElem_or, BitVec.getElem_and, BitVec.getElem_not, BitVec.getElem_xor]
  cases x[i] <;> cases y[i] <;> cases z[i] <;> rfl
theorem maj_or (x y z : Wd) : (x &&& y) ||| (x &&& z) ||| (y &&& z) = majW x y z := by
  unfold majW
  ext i hi
  simp only [BitVec.getElem_or, BitVec.getElem_and, BitVec.getElem_xor]
  cases x[i] <;> cases y[i] <;> cases z[i] <;> rfl
/-- A word and a number. -/
def wrdN (k : IntKind) (f : Wd → Nat → Wd) : PSp := fun args K => ∃ (x : Wd) (n : Nat), args = [w32 x, .imm (.int k n)] ∧ n < 32 ∧ K (w32 (f x n))
theorem w32_inj {x y : Wd} (h : w32 x = w32 y) : x = y := by
  injection h with h; injection h with _ h
  exact BitVec.eq_of_toNat_eq (by omega)
theorem ask_wrdN {k f} {x : Wd} {n : Nat} {K} : ask (wrdN k f) [w32 x, .imm (.int k n)] K = (n < 32 ∧ K (w32 (f x n))) := by
  show (∃ (x' : Wd) (n' : Nat), _ ∧ n' < 32 ∧ K _) = _
  simp only [eq_iff_iff]
  constructor
  · rintro ⟨x', n', h1, h2, h3⟩
    injection h1 with h1 h4
    obtain rfl := w32_inj h1
    injection h4 with h4 _; injection h4 with h4; injection h4 with _ h4
    obtain rfl : n = n' := by omega
    exact ⟨h2, h3⟩
  · exact fun h => ⟨x, n, rfl, h⟩
theorem told_wrdN {F k f} (h : ∀ x n, n < 32 → Pure Tryz.prog G F [w32 x, .imm (.int k (n : Nat))] (w32 (f x n))) : Told Tryz.prog G F (wrdN k f) := by
  rintro args K ⟨x, n, rfl, h1, h2⟩
  exact ⟨_, h x n h1, h2⟩
theorem bits_31 {n : Nat} (h : n < 32) : bits .and .u64 (n : Int) 31 = n := by
  have : bits .and .u64 ((n : Nat) : Int) ((31 : Nat) : Int) = ((n &&& 31 : Nat) : Int) := bits_and_u64_nat n 31 (by omega) (by decide)
  rw [show ((31 : Nat) : Int) = 31 from rfl] at this
  rw [this]
  have h2 : n &&& 31 = n % 32 := Nat.and_two_pow_sub_one_eq_mod n 5
  rw [h2]; omega
def c132 : ACode := (.seq (.reg false 0 [⟨(.some 4), none, (.q .mv), [(.c (.imm (.int .u32 0)))]⟩]) (.seq (.reg false 0 [⟨(.some 6), none, (.q .mv), [(.t 1)]⟩, ⟨(.some 7), none, (.q (.convI .u64)), [(.t 6)]⟩, ⟨(.some 8), none, (.q (.bin .and 106)), [(.t 7), (.c (.imm (.int .u64 31)))]⟩, ⟨(.some 5), none, (.q .mv), [(.t 8)]⟩]) (.seq (.reg false 0 [⟨(.some 9), none, (.q .mv), [(.t 0)]⟩, ⟨(.some 10), none, (.q .mv), [(.t 5)]⟩, ⟨(.some 11), none, (.q (.bin .shr 84)), [(.t 9), (.t 10)]⟩, ⟨(.some 12), none, (.q .mv), [(.t 0)]⟩, ⟨(.some 13), none, (.q .mv), [(.t 5)]⟩, ⟨(.some 14), none, (.q (.bin .sub 106)), [(.c (.imm (.int .u64 32))), (.t 13)]⟩, ⟨(.some 15), none, (.q (.bin .shl 84)), [(.t 12), (.t 14)]⟩, ⟨(.some 16), none, (.q (.bin .or 84)), [(.t 11), (.t 15)]⟩, ⟨(.some 4), none, (.q .mv), [(.t 16)]⟩]) .ret)))
theorem fn132 : IsFn Tryz.prog 132 [] c132 [4] 17 := ⟨_, _, Tryz.func132, rfl, by decide +kernel, by kernel_rfl, rfl, rfl⟩
theorem p132 (x : Wd) (n : Nat) (hn : n < 32) : Pure Tryz.prog G 132 [w32 x, i64 (n : Nat)] (w32 (rotW x n)) := by
  refine pure_of_code' (S := sp [] []) hm hG (sp_holds .nil .nil) fn132 (St 6 17 [w32 x, i64 (n : Nat), .junk, .junk, .junk, .junk] []) (by kernel_rfl) (by simp [lows, AV.low]) (by simp [AV.low]) ?_
  have h1 : IntKind.u64.wrap (n : Int) = n := by rw [IntKind.wrap_u64]; omega
  have h2 := bits_31 hn
  have h3 : min ((n : Int).toNat) 32 = n := by omega
  have h4 : IntKind.u64.wrap (32 - (n : Int)) = ((32 - n : Nat) : Int) := by rw [IntKind.wrap_u64]; omega
  have h5 : min (((32 - n : Nat) : Int).toNat) 32 = 32 - n := by omega
  have h6 : IntKind.u32.bits = 32 := rfl
  simp (maxSteps := 2000000) -implicitDefEqProofs only [c132, RS, RX, Nat.reduceLT, ↓RP0, ↓RP1, ↓RP2, ↓RP3, RV, RW, ↓reduceIte, Nat.reduceAdd, Nat.reduceSub, Nat.reduceMul, Nat.reduceLeDiff, Nat.reduceEqDiff, Int.reduceLT, Int.reduceLE, Int.reduceEq, Int.reduceNe, Int.reduceAdd, Int.reduceSub, Int.reduceMul, Int.reduceNeg, Int.reduceToNat, reduceCtorEq, h1, h2, binB_subk (show IntKind.u64 ≠ .i64 by decide), h4, h6, h3, h5, r_shr, r_shl, r_or]
  rw [show min n 32 = n by omega, show min (32 - n) 32 = 32 - n by omega]
  rfl
def c98 : ACode := (.seq (.reg false 0 [⟨(.some 4), none, (.q .mv), [(.c (.imm (.int .u32 0)))]⟩]) (.seq (.reg false 0 [⟨(.some 5), none, (.q .mv), [(.t 0)]⟩, ⟨(.some 6), none, (.q .mv), [(.t 1)]⟩, ⟨(.some 7), none, (.q (.bin .shr 84)), [(.t 5), (.t 6)]⟩, ⟨(.some 8), none, (.q .mv), [(.t 0)]⟩, ⟨(.some 9), none, (.q .mv), [(.t 1)]⟩, ⟨(.some 10), none, (.q (.bin .sub 106)), [(.c (.imm (.int .u64 32))), (.t 9)]⟩, ⟨(.some 11), none, (.q (.bin .shl 84)), [(.t 8), (.t 10)]⟩, ⟨(.some 12), none, (.q (.bin .or 84)), [(.t 7), (.t 11)]⟩, ⟨(.some 4), none, (.q .mv), [(.t 12)]⟩]) .ret))
theorem fn98 : IsFn Tryz.prog 98 [] c98 [4] 13 := ⟨_, _, Tryz.func98, rfl, by decide +kernel, by kernel_rfl, rfl, rfl⟩
theorem p98 (x : Wd) (n : Nat) (hn : n < 32) : Pure Tryz.prog G 98 [w32 x, .imm (.int .u64 (n : Nat))] (w32 (rotW x n)) := by
  refine pure_of_code' (S := sp [] []) hm hG (sp_holds .nil .nil) fn98 (St 5 13 [w32 x, .imm (.int .u64 (n : Nat)), .junk, .junk, .junk] []) (by kernel_rfl) (by simp [lows, AV.low]) (by simp [AV.low]) ?_
  have h3 : min ((n : Int).toNat) 32 = n := by omega
  have h4 : IntKind.u64.wrap (32 - (n : Int)) = ((32 - n : Nat) : Int) := by rw [IntKind.wrap_u64]; omega
  have h5 : min (((32 - n : Nat) : Int).toNat) 32 = 32 - n := by omega
  have h6 : IntKind.u32.bits = 32 := rfl
  simp (maxSteps := 2000000) -implicitDefEqProofs only [c98, RS, RX, Nat.reduceLT, ↓RP0, ↓RP1, ↓RP2, ↓RP3, RV, RW, ↓reduceIte, Nat.reduceAdd, Nat.reduceSub, Nat.reduceMul, Nat.reduceLeDiff, Nat.reduceEqDiff, Int.reduceLT, Int.reduceLE, Int.reduceEq, Int.reduceNe, Int.reduceAdd, Int.reduceSub, Int.reduceMul, Int.reduceNeg, Int.reduceToNat, reduceCtorEq, binB_subk (show IntKind.u64 ≠ .i64 by decide), h4, h6, h3, h5, r_shr, r_shl, r_or]
  rw [show min n 32 = n by omega, show min (32 - n) 32 = 32 - n by omega]
  rfl
def wrd1 (f : Wd → Wd) : PSp := fun args K => ∃ x : Wd, args = [w32 x] ∧ K (w32 (f x))
theorem ask_wrd1 {f} {x : Wd} {K} : ask (wrd1 f) [w32 x] K = K (w32 (f x)) := by
  show (∃ x' : Wd, _ ∧ K _) = _
  simp only [eq_iff_iff]
  constructor
  · rintro ⟨x', h1, h2⟩
    injection h1 with h1 _
    obtain rfl := w32_inj h1
    exact h2
  · exact fun h => ⟨x, rfl, h⟩
theorem told_wrd1 {F f} (h : ∀ x, Pure Tryz.prog G F [w32 x] (w32 (f x))) : Told Tryz.prog G F (wrd1 f) := by
  rintro args K ⟨x, rfl, h2⟩
  exact ⟨_, h x, h2⟩
def wrd3 (f : Wd → Wd → Wd → Wd) : PSp := fun args K => ∃ x y z : Wd, args = [w32 x, w32 y, w32 z] ∧ K (w32 (f x y z))
theorem ask_wrd3 {f} {x y z : Wd} {K} : ask (wrd3 f) [w32 x, w32 y, w32 z] K = K (w32 (f x y z)) := by
  show (∃ x' y' z' : Wd, _ ∧ K _) = _
  simp only [eq_iff_iff]
  constructor
  · rintro ⟨x', y', z', h1, h2⟩
    injection h1 with h1 h3
    injection h3 with h3 h4
    injection h4 with h4 _
    obtain rfl := w32_inj h1
    obtain rfl := w32_inj h3
    obtain rfl := w32_inj h4
    exact h2
  · exact fun h => ⟨x, y, z, rfl, h⟩
theorem told_wrd3 {F f} (h : ∀ x y z, Pure Tryz.prog G F [w32 x, w32 y, w32 z] (w32 (f x y z))) : Told Tryz.prog G F (wrd3 f) := by
  rintro args K ⟨x, y, z, rfl, h2⟩
  exact ⟨_, h x y z, h2⟩
theorem ask_wrdC {k f} {x : Wd} {n : Int} {K} (m : Nat) (h : n = (m : Int)) (hm : m < 32) : ask (wrdN k f) [w32 x, .imm (.int k n)] K = K (w32 (f x m)) := by
  subst h; rw [ask_wrdN]; exact eq_iff_iff.2 ⟨fun h => h.2, fun h => ⟨hm, h⟩⟩
theorem sh3 (x : Wd) : Int.fdiv (x.toNat : Int) (2 ^ 3) = ((x >>> 3).toNat : Int) := r_shr x 3
theorem sh10 (x : Wd) : Int.fdiv (x.toNat : Int) (2 ^ 10) = ((x >>> 10).toNat : Int) := r_shr x 10
theorem sh3' (x : Wd) : Int.fdiv (x.toNat : Int) 8 = ((x >>> 3).toNat : Int) := r_shr x 3
theorem sh10' (x : Wd) : Int.fdiv (x.toNat : Int) 1024 = ((x >>> 10).toNat : Int) := r_shr x 10
def c115 : ACode := (.seq (.reg false 0 [⟨(.some 2), none, (.q .mv), [(.c (.imm (.int .u32 0)))]⟩]) (.seq (.reg false 0 [⟨(.some 3), none, (.q .mv), [(.t 0)]⟩, ⟨(.some 4), none, (.call true), [(.c (.fn (.func 132) [] [])), (.t 3), (.c (.imm (.int .i64 2)))]⟩, ⟨(.some 5), none, (.q .mv), [(.t 0)]⟩, ⟨(.some 6), none, (.call true), [(.c (.fn (.func 132) [] [])), (.t 5), (.c (.imm (.int .i64 13)))]⟩, ⟨(.some 7), none, (.q (.bin .xor 84)), [(.t 4), (.t 6)]⟩, ⟨(.some 8), none, (.q .mv), [(.t 0)]⟩, ⟨(.some 9), none, (.call true), [(.c (.fn (.func 132) [] [])), (.t 8), (.c (.imm (.int .i64 22)))]⟩, ⟨(.some 10), none, (.q (.bin .xor 84)), [(.t 7), (.t 9)]⟩, ⟨(.some 2), none, (.q .mv), [(.t 10)]⟩]) .ret))
theorem fn115 : IsFn Tryz.prog 115 [] c115 [2] 11 := ⟨_, _, Tryz.func115, rfl, by decide +kernel, by kernel_rfl, rfl, rfl⟩
theorem p115w (x : Wd) : Pure Tryz.prog G 115 [w32 x] (w32 (big0 x)) := by
  refine pure_of_code' (S := sp [(132, wrdN .i64 rotW)] []) hm hG (sp_holds (.cons (told_wrdN p132) .nil) .nil) fn115 (St 3 11 [w32 x, .junk, .junk] []) (by kernel_rfl) (by simp [lows, AV.low]) (by simp [AV.low]) ?_
  have q0 : ∀ K, ask (wrdN .i64 rotW) [w32 x, .imm (.int .i64 2)] K = K (w32 (rotW x 2)) := fun K => ask_wrdC 2 rfl (by decide)
  have q1 : ∀ K, ask (wrdN .i64 rotW) [w32 x, .imm (.int .i64 13)] K = K (w32 (rotW x 13)) := fun K => ask_wrdC 13 rfl (by decide)
  have q2 : ∀ K, ask (wrdN .i64 rotW) [w32 x, .imm (.int .i64 22)] K = K (w32 (rotW x 22)) := fun K => ask_wrdC 22 rfl (by decide)
  simp (maxSteps := 2000000) -implicitDefEqProofs only [c115, RS, RX, Nat.reduceLT, ↓RP0, ↓RP1, ↓RP2, ↓RP3, RV, RW, ↓reduceIte, Nat.reduceAdd, Nat.reduceSub, Nat.reduceMul, Nat.reduceLeDiff, Nat.reduceEqDiff, Int.reduceLT, Int.reduceLE, Int.reduceEq, Int.reduceNe, Int.reduceAdd, Int.reduceSub, Int.reduceMul, Int.reduceNeg, Int.reduceToNat, reduceCtorEq, ↓q0, q0, ↓q1, q1, ↓q2, q2, r_xor]
  first | done | rfl
def c113 : ACode := (.seq (.reg false 0 [⟨(.some 2), none, (.q .mv), [(.c (.imm (.int .u32 0)))]⟩]) (.seq (.reg false 0 [⟨(.some 3), none, (.q .mv), [(.t 0)]⟩, ⟨(.some 4), none, (.call true), [(.c (.fn (.func 132) [] [])), (.t 3), (.c (.imm (.int .i64 6)))]⟩, ⟨(.some 5), none, (.q .mv), [(.t 0)]⟩, ⟨(.some 6), none, (.call true), [(.c (.fn (.func 132) [] [])), (.t 5), (.c (.imm (.int .i64 11)))]⟩, ⟨(.some 7), none, (.q (.bin .xor 84)), [(.t 4), (.t 6)]⟩, ⟨(.some 8), none, (.q .mv), [(.t 0)]⟩, ⟨(.some 9), none, (.call true), [(.c (.fn (.func 132) [] [])), (.t 8), (.c (.imm (.int .i64 25)))]⟩, ⟨(.some 10), none, (.q (.bin .xor 84)), [(.t 7), (.t 9)]⟩, ⟨(.some 2), none, (.q .mv), [(.t 10)]⟩]) .ret))
theorem fn113 : IsFn Tryz.prog 113 [] c113 [2] 11 := ⟨_, _, Tryz.func113, rfl, by decide +kernel, by kernel_rfl, rfl, rfl⟩
theorem p113w (x : Wd) : Pure Tryz.prog G 113 [w32 x] (w32 (big1 x)) := by
  refine pure_of_code' (S := sp [(132, wrdN .i64 rotW)] []) hm hG (sp_holds (.cons (told_wrdN p132) .nil) .nil) fn113 (St 3 11 [w32 x, .junk, .junk] []) (by kernel_rfl) (by simp [lows, AV.low]) (by simp [AV.low]) ?_
  have q0 : ∀ K, ask (wrdN .i64 rotW) [w32 x, .imm (.int .i64 6)] K = K (w32 (rotW x 6)) := fun K => ask_wrdC 6 rfl (by decide)
  have q1 : ∀ K, ask (wrdN .i64 rotW) [w32 x, .imm (.int .i64 11)] K = K (w32 (rotW x 11)) := fun K => ask_wrdC 11 rfl (by decide)
  have q2 : ∀ K, ask (wrdN .i64 rotW) [w32 x, .imm (.int .i64 25)] K = K (w32 (rotW x 25)) := fun K => ask_wrdC 25 rfl (by decide)
  simp (maxSteps := 2000000) -implicitDefEqProofs only [c113, RS, RX, Nat.reduceLT, ↓RP0, ↓RP1, ↓RP2, ↓RP3, RV, RW, ↓reduceIte, Nat.reduceAdd, Nat.reduceSub, Nat.reduceMul, Nat.reduceLeDiff, Nat.reduceEqDiff, Int.reduceLT, Int.reduceLE, Int.reduceEq, Int.reduceNe, Int.reduceAdd, Int.reduceSub, Int.reduceMul, Int.reduceNeg, Int.reduceToNat, reduceCtorEq, ↓q0, q0, ↓q1, q1, ↓q2, q2, r_xor]
  first | done | rfl
def c112 : ACode := (.seq (.reg false 0 [⟨(.some 2), none, (.q .mv), [(.c (.imm (.int .u32 0)))]⟩]) (.seq (.reg false 0 [⟨(.some 3), none, (.q .mv), [(.t 0)]⟩, ⟨(.some 4), none, (.call true), [(.c (.fn (.func 132) [] [])), (.t 3), (.c (.imm (.int .i64 7)))]⟩, ⟨(.some 5), none, (.q .mv), [(.t 0)]⟩, ⟨(.some 6), none, (.call true), [(.c (.fn (.func 132) [] [])), (.t 5), (.c (.imm (.int .i64 18)))]⟩, ⟨(.some 7), none, (.q (.bin .xor 84)), [(.t 4), (.t 6)]⟩, ⟨(.some 8), none, (.q .mv), [(.t 0)]⟩, ⟨(.some 9), none, (.q (.bin .shr 84)), [(.t 8), (.c (.imm (.int .u64 3)))]⟩, ⟨(.some 10), none, (.q (.bin .xor 84)), [(.t 7), (.t 9)]⟩, ⟨(.some 2), none, (.q .mv), [(.t 10)]⟩]) .ret))
theorem fn112 : IsFn Tryz.prog 112 [] c112 [2] 11 := ⟨_, _, Tryz.func112, rfl, by decide +kernel, by kernel_rfl, rfl, rfl⟩
theorem p112w (x : Wd) : Pure Tryz.prog G 112 [w32 x] (w32 (small0 x)) := by
  refine pure_of_code' (S := sp [(132, wrdN .i64 rotW)] []) hm hG (sp_holds (.cons (told_wrdN p132) .nil) .nil) fn112 (St 3 11 [w32 x, .junk, .junk] []) (by kernel_rfl) (by simp [lows, AV.low]) (by simp [AV.low]) ?_
  have q0 : ∀ K, ask (wrdN .i64 rotW) [w32 x, .imm (.int .i64 7)] K = K (w32 (rotW x 7)) := fun K => ask_wrdC 7 rfl (by decide)
  have q1 : ∀ K, ask (wrdN .i64 rotW) [w32 x, .imm (.int .i64 18)] K = K (w32 (rotW x 18)) := fun K => ask_wrdC 18 rfl (by decide)
  simp (maxSteps := 2000000) -implicitDefEqProofs only [c112, RS, RX, Nat.reduceLT, ↓RP0, ↓RP1, ↓RP2, ↓RP3, RV, RW, ↓reduceIte, Nat.reduceAdd, Nat.reduceSub, Nat.reduceMul, Nat.reduceLeDiff, Nat.reduceEqDiff, Int.reduceLT, Int.reduceLE, Int.reduceEq, Int.reduceNe, Int.reduceAdd, Int.reduceSub, Int.reduceMul, Int.reduceNeg, Int.reduceToNat, reduceCtorEq, ↓q0, q0, ↓q1, q1, show IntKind.u32.bits = 32 from rfl, show min (3 : Nat) 32 = 3 from rfl, show min (10 : Nat) 32 = 10 from rfl, sh3, sh10, sh3', sh10', r_xor]
  first | done | rfl
def c111 : ACode := (.seq (.reg false 0 [⟨(.some 2), none, (.q .mv), [(.c (.imm (.int .u32 0)))]⟩]) (.seq (.reg false 0 [⟨(.some 3), none, (.q .mv), [(.t 0)]⟩, ⟨(.some 4), none, (.call true), [(.c (.fn (.func 132) [] [])), (.t 3), (.c (.imm (.int .i64 17)))]⟩, ⟨(.some 5), none, (.q .mv), [(.t 0)]⟩, ⟨(.some 6), none, (.call true), [(.c (.fn (.func 132) [] [])), (.t 5), (.c (.imm (.int .i64 19)))]⟩, ⟨(.some 7), none, (.q (.bin .xor 84)), [(.t 4), (.t 6)]⟩, ⟨(.some 8), none, (.q .mv), [(.t 0)]⟩, ⟨(.some 9), none, (.q (.bin .shr 84)), [(.t 8), (.c (.imm (.int .u64 10)))]⟩, ⟨(.some 10), none, (.q (.bin .xor 84)), [(.t 7), (.t 9)]⟩, ⟨(.some 2), none, (.q .mv), [(.t 10)]⟩]) .ret))
theorem fn111 : IsFn Tryz.prog 111 [] c111 [2] 11 := ⟨_, _, Tryz.func111, rfl, by decide +kernel, by kernel_rfl, rfl, rfl⟩
theorem p111w (x : Wd) : Pure Tryz.prog G 111 [w32 x] (w32 (small1 x)) := by
  refine pure_of_code' (S := sp [(132, wrdN .i64 rotW)] []) hm hG (sp_holds (.cons (told_wrdN p132) .nil) .nil) fn111 (St 3 11 [w32 x, .junk, .junk] []) (by kernel_rfl) (by simp [lows, AV.low]) (by simp [AV.low]) ?_
  have q0 : ∀ K, ask (wrdN .i64 rotW) [w32 x, .imm (.int .i64 17)] K = K (w32 (rotW x 17)) := fun K => ask_wrdC 17 rfl (by decide)
  have q1 : ∀ K, ask (wrdN .i64 rotW) [w32 x, .imm (.int .i64 19)] K = K (w32 (rotW x 19)) := fun K => ask_wrdC 19 rfl (by decide)
  simp (maxSteps := 2000000) -implicitDefEqProofs only [c111, RS, RX, Nat.reduceLT, ↓RP0, ↓RP1, ↓RP2, ↓RP3, RV, RW, ↓reduceIte, Nat.reduceAdd, Nat.reduceSub, Nat.reduceMul, Nat.reduceLeDiff, Nat.reduceEqDiff, Int.reduceLT, Int.reduceLE, Int.reduceEq, Int.reduceNe, Int.reduceAdd, Int.reduceSub, Int.reduceMul, Int.reduceNeg, Int.reduceToNat, reduceCtorEq, ↓q0, q0, ↓q1, q1, show IntKind.u32.bits = 32 from rfl, show min (3 : Nat) 32 = 3 from rfl, show min (10 : Nat) 32 = 10 from rfl, sh3, sh10, sh3', sh10', r_xor]
  first | done | rfl
def c82 : ACode := (.seq (.reg false 0 [⟨(.some 2), none, (.q .mv), [(.c (.imm (.int .u32 0)))]⟩]) (.seq (.reg false 0 [⟨(.some 3), none, (.q .mv), [(.t 0)]⟩, ⟨(.some 4), none, (.call true), [(.c (.fn (.func 98) [] [])), (.t 3), (.c (.imm (.int .u64 2)))]⟩, ⟨(.some 5), none, (.q .mv), [(.t 0)]⟩, ⟨(.some 6), none, (.call true), [(.c (.fn (.func 98) [] [])), (.t 5), (.c (.imm (.int .u64 13)))]⟩, ⟨(.some 7), none, (.q (.bin .xor 84)), [(.t 4), (.t 6)]⟩, ⟨(.some 8), none, (.q .mv), [(.t 0)]⟩, ⟨(.some 9), none, (.call true), [(.c (.fn (.func 98) [] [])), (.t 8), (.c (.imm (.int .u64 22)))]⟩, ⟨(.some 10), none, (.q (.bin .xor 84)), [(.t 7), (.t 9)]⟩, ⟨(.some 2), none, (.q .mv), [(.t 10)]⟩]) .ret))
theorem fn82 : IsFn Tryz.prog 82 [] c82 [2] 11 := ⟨_, _, Tryz.func82, rfl, by decide +kernel, by kernel_rfl, rfl, rfl⟩
theorem p82w (x : Wd) : Pure Tryz.prog G 82 [w32 x] (w32 (big0 x)) := by
  refine pure_of_code' (S := sp [(98, wrdN .u64 rotW)] []) hm hG (sp_holds (.cons (told_wrdN p98) .nil) .nil) fn82 (St 3 11 [w32 x, .junk, .junk] []) (by kernel_rfl) (by simp [lows, AV.low]) (by simp [AV.low]) ?_
  have q0 : ∀ K, ask (wrdN .u64 rotW) [w32 x, .imm (.int .u64 2)] K = K (w32 (rotW x 2)) := fun K => ask_wrdC 2 rfl (by decide)
  have q1 : ∀ K, ask (wrdN .u64 rotW) [w32 x, .imm (.int .u64 13)] K = K (w32 (rotW x 13)) := fun K => ask_wrdC 13 rfl (by decide)
  have q2 : ∀ K, ask (wrdN .u64 rotW) [w32 x, .imm (.int .u64 22)] K = K (w32 (rotW x 22)) := fun K => ask_wrdC 22 rfl (by decide)
  simp (maxSteps := 2000000) -implicitDefEqProofs only [c82, RS, RX, Nat.reduceLT, ↓RP0, ↓RP1, ↓RP2, ↓RP3, RV, RW, ↓reduceIte, Nat.reduceAdd, Nat.reduceSub, Nat.reduceMul, Nat.reduceLeDiff, Nat.reduceEqDiff, Int.reduceLT, Int.reduceLE, Int.reduceEq, Int.reduceNe, Int.reduceAdd, Int.reduceSub, Int.reduceMul, Int.reduceNeg, Int.reduceToNat, reduceCtorEq, ↓q0, q0, ↓q1, q1, ↓q2, q2, r_xor]
  first | done | rfl
def c80 : ACode := (.seq (.reg false 0 [⟨(.some 2), none, (.q .mv), [(.c (.imm (.int .u32 0)))]⟩]) (.seq (.reg false 0 [⟨(.some 3), none, (.q .mv), [(.t 0)]⟩, ⟨(.some 4), none, (.call true), [(.c (.fn (.func 98) [] [])), (.t 3), (.c (.imm (.int .u64 6)))]⟩, ⟨(.some 5), none, (.q .mv), [(.t 0)]⟩, ⟨(.some 6), none, (.call true), [(.c (.fn (.func 98) [] [])), (.t 5), (.c (.imm (.int .u64 11)))]⟩, ⟨(.some 7), none, (.q (.bin .xor 84)), [(.t 4), (.t 6)]⟩, ⟨(.some 8), none, (.q .mv), [(.t 0)]⟩, ⟨(.some 9), none, (.call true), [(.c (.fn (.func 98) [] [])), (.t 8), (.c (.imm (.int .u64 25)))]⟩, ⟨(.some 10), none, (.q (.bin .xor 84)), [(.t 7), (.t 9)]⟩, ⟨(.some 2), none, (.q .mv), [(.t 10)]⟩]) .ret))
theorem fn80 : IsFn Tryz.prog 80 [] c80 [2] 11 := ⟨_, _, Tryz.func80, rfl, by decide +kernel, by kernel_rfl, rfl, rfl⟩
theorem p80w (x : Wd) : Pure Tryz.prog G 80 [w32 x] (w32 (big1 x)) := by
  refine pure_of_code' (S := sp [(98, wrdN .u64 rotW)] []) hm hG (sp_holds (.cons (told_wrdN p98) .nil) .nil) fn80 (St 3 11 [w32 x, .junk, .junk] []) (by kernel_rfl) (by simp [lows, AV.low]) (by simp [AV.low]) ?_
  have q0 : ∀ K, ask (wrdN .u64 rotW) [w32 x, .imm (.int .u64 6)] K = K (w32 (rotW x 6)) := fun K => ask_wrdC 6 rfl (by decide)
  have q1 : ∀ K, ask (wrdN .u64 rotW) [w32 x, .imm (.int .u64 11)] K = K (w32 (rotW x 11)) := fun K => ask_wrdC 11 rfl (by decide)
  have q2 : ∀ K, ask (wrdN .u64 rotW) [w32 x, .imm (.int .u64 25)] K = K (w32 (rotW x 25)) := fun K => ask_wrdC 25 rfl (by decide)
  simp (maxSteps := 2000000) -implicitDefEqProofs only [c80, RS, RX, Nat.reduceLT, ↓RP0, ↓RP1, ↓RP2, ↓RP3, RV, RW, ↓reduceIte, Nat.reduceAdd, Nat.reduceSub, Nat.reduceMul, Nat.reduceLeDiff, Nat.reduceEqDiff, Int.reduceLT, Int.reduceLE, Int.reduceEq, Int.reduceNe, Int.reduceAdd, Int.reduceSub, Int.reduceMul, Int.reduceNeg, Int.reduceToNat, reduceCtorEq, ↓q0, q0, ↓q1, q1, ↓q2, q2, r_xor]
  first | done | rfl
def c79 : ACode := (.seq (.reg false 0 [⟨(.some 2), none, (.q .mv), [(.c (.imm (.int .u32 0)))]⟩]) (.seq (.reg false 0 [⟨(.some 3), none, (.q .mv), [(.t 0)]⟩, ⟨(.some 4), none, (.call true), [(.c (.fn (.func 98) [] [])), (.t 3), (.c (.imm (.int .u64 7)))]⟩, ⟨(.some 5), none, (.q .mv), [(.t 0)]⟩, ⟨(.some 6), none, (.call true), [(.c (.fn (.func 98) [] [])), (.t 5), (.c (.imm (.int .u64 18)))]⟩, ⟨(.some 7), none, (.q (.bin .xor 84)), [(.t 4), (.t 6)]⟩, ⟨(.some 8), none, (.q .mv), [(.t 0)]⟩, ⟨(.some 9), none, (.q (.bin .shr 84)), [(.t 8), (.c (.imm (.int .u64 3)))]⟩, ⟨(.some 10), none, (.q (.bin .xor 84)), [(.t 7), (.t 9)]⟩, ⟨(.some 2), none, (.q .mv), [(.t 10)]⟩]) .ret))
theorem fn79 : IsFn Tryz.prog 79 [] c79 [2] 11 := ⟨_, _, Tryz.func79, rfl, by decide +kernel, by kernel_rfl, rfl, rfl⟩
theorem p79w (x : Wd) : Pure Tryz.prog G 79 [w32 x] (w32 (small0 x)) := by
  refine pure_of_code' (S := sp [(98, wrdN .u64 rotW)] []) hm hG (sp_holds (.cons (told_wrdN p98) .nil) .nil) fn79 (St 3 11 [w32 x, .junk, .junk] []) (by kernel_rfl) (by simp [lows, AV.low]) (by simp [AV.low]) ?_
  have q0 : ∀ K, ask (wrdN .u64 rotW) [w32 x, .imm (.int .u64 7)] K = K (w32 (rotW x 7)) := fun K => ask_wrdC 7 rfl (by decide)
  have q1 : ∀ K, ask (wrdN .u64 rotW) [w32 x, .imm (.int .u64 18)] K = K (w32 (rotW x 18)) := fun K => ask_wrdC 18 rfl (by decide)
  simp (maxSteps := 2000000) -implicitDefEqProofs only [c79, RS, RX, Nat.reduceLT, ↓RP0, ↓RP1, ↓RP2, ↓RP3, RV, RW, ↓reduceIte, Nat.reduceAdd, Nat.reduceSub, Nat.reduceMul, Nat.reduceLeDiff, Nat.reduceEqDiff, Int.reduceLT, Int.reduceLE, Int.reduceEq, Int.reduceNe, Int.reduceAdd, Int.reduceSub, Int.reduceMul, Int.reduceNeg, Int.reduceToNat, reduceCtorEq, ↓q0, q0, ↓q1, q1, show IntKind.u32.bits = 32 from rfl, show min (3 : Nat) 32 = 3 from rfl, show min (10 : Nat) 32 = 10 from rfl, sh3, sh10, sh3', sh10', r_xor]
  first | done | rfl
def c78 : ACode := (.seq (.reg false 0 [⟨(.some 2), none, (.q .mv), [(.c (.imm (.int .u32 0)))]⟩]) (.seq (.reg false 0 [⟨(.some 3), none, (.q .mv), [(.t 0)]⟩, ⟨(.some 4), none, (.call true), [(.c (.fn (.func 98) [] [])), (.t 3), (.c (.imm (.int .u64 17)))]⟩, ⟨(.some 5), none, (.q .mv), [(.t 0)]⟩, ⟨(.some 6), none, (.call true), [(.c (.fn (.func 98) [] [])), (.t 5), (.c (.imm (.int .u64 19)))]⟩, ⟨(.some 7), none, (.q (.bin .xor 84)), [(.t 4), (.t 6)]⟩, ⟨(.some 8), none, (.q .mv), [(.t 0)]⟩, ⟨(.some 9), none, (.q (.bin .shr 84)), [(.t 8), (.c (.imm (.int .u64 10)))]⟩, ⟨(.some 10), none, (.q (.bin .xor 84)), [(.t 7), (.t 9)]⟩, ⟨(.some 2), none, (.q .mv), [(.t 10)]⟩]) .ret))
theorem fn78 : IsFn Tryz.prog 78 [] c78 [2] 11 := ⟨_, _, Tryz.func78, rfl, by decide +kernel, by kernel_rfl, rfl, rfl⟩
theorem p78w (x : Wd) : Pure Tryz.prog G 78 [w32 x] (w32 (small1 x)) := by
  refine pure_of_code' (S := sp [(98, wrdN .u64 rotW)] []) hm hG (sp_holds (.cons (told_wrdN p98) .nil) .nil) fn78 (St 3 11 [w32 x, .junk, .junk] []) (by kernel_rfl) (by simp [lows, AV.low]) (by simp [AV.low]) ?_
  have q0 : ∀ K, ask (wrdN .u64 rotW) [w32 x, .imm (.int .u64 17)] K = K (w32 (rotW x 17)) := fun K => ask_wrdC 17 rfl (by decide)
  have q1 : ∀ K, ask (wrdN .u64 rotW) [w32 x, .imm (.int .u64 19)] K = K (w32 (rotW x 19)) := fun K => ask_wrdC 19 rfl (by decide)
  simp (maxSteps := 2000000) -implicitDefEqProofs only [c78, RS, RX, Nat.reduceLT, ↓RP0, ↓RP1, ↓RP2, ↓RP3, RV, RW, ↓reduceIte, Nat.reduceAdd, Nat.reduceSub, Nat.reduceMul, Nat.reduceLeDiff, Nat.reduceEqDiff, Int.reduceLT, Int.reduceLE, Int.reduceEq, Int.reduceNe, Int.reduceAdd, Int.reduceSub, Int.reduceMul, Int.reduceNeg, Int.reduceToNat, reduceCtorEq, ↓q0, q0, ↓q1, q1, show IntKind.u32.bits = 32 from rfl, show min (3 : Nat) 32 = 3 from rfl, show min (10 : Nat) 32 = 10 from rfl, sh3, sh10, sh3', sh10', r_xor]
  first | done | rfl
def c114 : ACode := (.seq (.reg false 0 [⟨(.some 6), none, (.q .mv), [(.c (.imm (.int .u32 0)))]⟩]) (.seq (.reg false 0 [⟨(.some 7), none, (.q .mv), [(.t 0)]⟩, ⟨(.some 8), none, (.q .mv), [(.t 1)]⟩, ⟨(.some 9), none, (.q (.bin .and 84)), [(.t 7), (.t 8)]⟩, ⟨(.some 10), none, (.q .mv), [(.t 0)]⟩, ⟨(.some 11), none, (.q (.un .xor)), [(.t 10)]⟩, ⟨(.some 12), none, (.q .mv), [(.t 2)]⟩, ⟨(.some 13), none, (.q (.bin .and 84)), [(.t 11), (.t 12)]⟩, ⟨(.some 14), none, (.q (.bin .xor 84)), [(.t 9), (.t 13)]⟩, ⟨(.some 6), none, (.q .mv), [(.t 14)]⟩]) .ret))
theorem fn114 : IsFn Tryz.prog 114 [] c114 [6] 15 := ⟨_, _, Tryz.func114, rfl, by decide +kernel, by kernel_rfl, rfl, rfl⟩
theorem p114w (x y z : Wd) : Pure Tryz.prog G 114 [w32 x, w32 y, w32 z] (w32 (chW x y z)) := by
  refine pure_of_code' (S := sp [] []) hm hG (sp_holds .nil .nil) fn114 (St 7 15 [w32 x, w32 y, w32 z, .junk, .junk, .junk, .junk] []) (by kernel_rfl) (by simp [lows, AV.low]) (by simp [AV.low]) ?_
  simp (maxSteps := 2000000) -implicitDefEqProofs only [c114, RS, RX, Nat.reduceLT, ↓RP0, ↓RP1, ↓RP2, ↓RP3, RV, RW, ↓reduceIte, Nat.reduceAdd, Nat.reduceSub, Nat.reduceMul, Nat.reduceLeDiff, Nat.reduceEqDiff, Int.reduceLT, Int.reduceLE, Int.reduceEq, Int.reduceNe, Int.reduceAdd, Int.reduceSub, Int.reduceMul, Int.reduceNeg, Int.reduceToNat, reduceCtorEq, ↓qB_xorU, qB_xorU, r_not, r_and, r_or, r_xor]
  first | done | rfl
def c81 : ACode := (.seq (.reg false 0 [⟨(.some 6), none, (.q .mv), [(.c (.imm (.int .u32 0)))]⟩]) (.seq (.reg false 0 [⟨(.some 7), none, (.q .mv), [(.t 0)]⟩, ⟨(.some 8), none, (.q .mv), [(.t 1)]⟩, ⟨(.some 9), none, (.q (.bin .and 84)), [(.t 7), (.t 8)]⟩, ⟨(.some 10), none, (.q .mv), [(.t 0)]⟩, ⟨(.some 11), none, (.q (.un .xor)), [(.t 10)]⟩, ⟨(.some 12), none, (.q .mv), [(.t 2)]⟩, ⟨(.some 13), none, (.q (.bin .and 84)), [(.t 11), (.t 12)]⟩, ⟨(.some 14), none, (.q (.bin .or 84)), [(.t 9), (.t 13)]⟩, ⟨(.some 6), none, (.q .mv), [(.t 14)]⟩]) .ret))
theorem fn81 : IsFn Tryz.prog 81 [] c81 [6] 15 := ⟨_, _, Tryz.func81, rfl, by decide +kernel, by kernel_rfl, rfl, rfl⟩
theorem p81w (x y z : Wd) : Pure Tryz.prog G 81 [w32 x, w32 y, w32 z] (w32 (chW x y z)) := by
  refine pure_of_code' (S := sp [] []) hm hG (sp_holds .nil .nil) fn81 (St 7 15 [w32 x, w32 y, w32 z, .junk, .junk, .junk, .junk] []) (by kernel_rfl) (by simp [lows, AV.low]) (by simp [AV.low]) ?_
  simp (maxSteps := 2000000) -implicitDefEqProofs only [c81, RS, RX, Nat.reduceLT, ↓RP0, ↓RP1, ↓RP2, ↓RP3, RV, RW, ↓reduceIte, Nat.reduceAdd, Nat.reduceSub, Nat.reduceMul, Nat.reduceLeDiff, Nat.reduceEqDiff, Int.reduceLT, Int.reduceLE, Int.reduceEq, Int.reduceNe, Int.reduceAdd, Int.reduceSub, Int.reduceMul, Int.reduceNeg, Int.reduceToNat, reduceCtorEq, ↓qB_xorU, qB_xorU, r_not, r_and, r_or, r_xor, ch_or]
  first | done | rfl
def c116 : ACode := (.seq (.reg false 0 [⟨(.some 6), none, (.q .mv), [(.c (.imm (.int .u32 0)))]⟩]) (.seq (.reg false 0 [⟨(.some 7), none, (.q .mv), [(.t 0)]⟩, ⟨(.some 8), none, (.q .mv), [(.t 1)]⟩, ⟨(.some 9), none, (.q (.bin .and 84)), [(.t 7), (.t 8)]⟩, ⟨(.some 10), none, (.q .mv), [(.t 0)]⟩, ⟨(.some 11), none, (.q .mv), [(.t 2)]⟩, ⟨(.some 12), none, (.q (.bin .and 84)), [(.t 10), (.t 11)]⟩, ⟨(.some 13), none, (.q (.bin .xor 84)), [(.t 9), (.t 12)]⟩, ⟨(.some 14), none, (.q .mv), [(.t 1)]⟩, ⟨(.some 15), none, (.q .mv), [(.t 2)]⟩, ⟨(.some 16), none, (.q (.bin .and 84)), [(.t 14), (.t 15)]⟩, ⟨(.some 17), none, (.q (.bin .xor 84)), [(.t 13), (.t 16)]⟩, ⟨(.some 6), none, (.q .mv), [(.t 17)]⟩]) .ret))
theorem fn116 : IsFn Tryz.prog 116 [] c116 [6] 18 := ⟨_, _, Tryz.func116, rfl, by decide +kernel, by kernel_rfl, rfl, rfl⟩
theorem p116w (x y z : Wd) : Pure Tryz.prog G 116 [w32 x, w32 y, w32 z] (w32 (majW x y z)) := by
  refine pure_of_code' (S := sp [] []) hm hG (sp_holds .nil .nil) fn116 (St 7 18 [w32 x, w32 y, w32 z, .junk, .junk, .junk, .junk] []) (by kernel_rfl) (by simp [lows, AV.low]) (by simp [AV.low]) ?_
  simp (maxSteps := 2000000) -implicitDefEqProofs only [c116, RS, RX, Nat.reduceLT, ↓RP0, ↓RP1, ↓RP2, ↓RP3, RV, RW, ↓reduceIte, Nat.reduceAdd, Nat.reduceSub, Nat.reduceMul, Nat.reduceLeDiff, Nat.reduceEqDiff, Int.reduceLT, Int.reduceLE, Int.reduceEq, Int.reduceNe, Int.reduceAdd, Int.reduceSub, Int.reduceMul, Int.reduceNeg, Int.reduceToNat, reduceCtorEq, ↓qB_xorU, qB_xorU, r_not, r_and, r_or, r_xor]
  first | done | rfl
def c83 : ACode := (.seq (.reg false 0 [⟨(.some 6), none, (.q .mv), [(.c (.imm (.int .u32 0)))]⟩]) (.seq (.reg false 0 [⟨(.some 7), none, (.q .mv), [(.t 0)]⟩, ⟨(.some 8), none, (.q .mv), [(.t 1)]⟩, ⟨(.some 9), none, (.q (.bin .and 84)), [(.t 7), (.t 8)]⟩, ⟨(.some 10), none, (.q .mv), [(.t 0)]⟩, ⟨(.some 11), none, (.q .mv), [(.t 2)]⟩, ⟨(.some 12), none, (.q (.bin .and 84)), [(.t 10), (.t 11)]⟩, ⟨(.some 13), none, (.q (.bin .or 84)), [(.t 9), (.t 12)]⟩, ⟨(.some 14), none, (.q .mv), [(.t 1)]⟩, ⟨(.some 15), none, (.q .mv), [(.t 2)]⟩, ⟨(.some 16), none, (.q (.bin .and 84)), [(.t 14), (.t 15)]⟩, ⟨(.some 17), none, (.q (.bin .or 84)), [(.t 13), (.t 16)]⟩, ⟨(.some 6), none, (.q .mv), [(.t 17)]⟩]) .ret))
theorem fn83 : IsFn Tryz.prog 83 [] c83 [6] 18 := ⟨_, _, Tryz.func83, rfl, by decide +kernel, by kernel_rfl, rfl, rfl⟩
theorem p83w (x y z : Wd) : Pure Tryz.prog G 83 [w32 x, w32 y, w32 z] (w32 (majW x y z)) := by
  refine pure_of_code' (S := sp [] []) hm hG (sp_holds .nil .nil) fn83 (St 7 18 [w32 x, w32 y, w32 z, .junk, .junk, .junk, .junk] []) (by kernel_rfl) (by simp [lows, AV.low]) (by simp [AV.low]) ?_
  simp (maxSteps := 2000000) -implicitDefEqProofs only [c83, RS, RX, Nat.reduceLT, ↓RP0, ↓RP1, ↓RP2, ↓RP3, RV, RW, ↓reduceIte, Nat.reduceAdd, Nat.reduceSub, Nat.reduceMul, Nat.reduceLeDiff, Nat.reduceEqDiff, Int.reduceLT, Int.reduceLE, Int.reduceEq, Int.reduceNe, Int.reduceAdd, Int.reduceSub, Int.reduceMul, Int.reduceNeg, Int.reduceToNat, reduceCtorEq, ↓qB_xorU, qB_xorU, r_not, r_and, r_or, r_xor, maj_or]
  first | done | rfl
end Go.AL.Path

/- Rounds. -/
set_option linter.unusedSimpArgs false
set_option linter.unusedVariables false
set_option maxRecDepth 100000
namespace Go.AL.Path
open Go Go.RowKit Go.Proofs Go.AL
abbrev wsV (l : List Wd) : AV := .agg (l.map w32)
def roundW (h : List Wd) (k w : Wd) : List Wd := match h with
  | [a, b, c, d, e, f, g, i] => [i + big1 e + chW e f g + k + w + (big0 a + majW a b c), a, b, c, d + (i + big1 e + chW e f g + k + w), e, f, g]
  | h => h
theorem roundW_len {h : List Wd} (k w : Wd) (hl : h.length = 8) : (roundW h k w).length = 8 := by
  unfold roundW; split
  · rfl
  · exact hl
theorem ws_inj : ∀ {a b : List Wd}, a.map w32 = b.map w32 → a = b
  | [], [], _ => rfl
  | [], _ :: _, h => by cases h
  | _ :: _, [], h => by cases h
  | x :: a, y :: b, h => by
    injection h with h1 h2
    rw [w32_inj h1, ws_inj h2]
theorem lows_ws (n : Nat) : ∀ l : List Wd, lows n (l.map w32)
  | [] => trivial
  | _ :: l => ⟨trivial, lows_ws n l⟩
theorem ws_len (l : List Wd) : (l.map w32).length = l.length := List.length_map ..
def roundS : PSp := fun args K => ∃ (h : List Wd) (k w : Wd), args = [wsV h, w32 k, w32 w] ∧ h.length = 8 ∧ K (wsV (roundW h k w))
theorem ask_roundS {h : List Wd} {k w : Wd} (hl : h.length = 8) {K} : ask roundS [wsV h, w32 k, w32 w] K = K (wsV (roundW h k w)) := by
  show (∃ (h' : List Wd) (k' w' : Wd), _ ∧ h'.length = 8 ∧ K _) = _
  simp only [eq_iff_iff]
  constructor
  · rintro ⟨h', k', w', h1, h2, h3⟩
    injection h1 with h1 h4
    injection h4 with h4 h5
    injection h5 with h5 _
    injection h1 with h1
    obtain rfl := ws_inj h1
    obtain rfl := w32_inj h4
    obtain rfl := w32_inj h5
    exact h3
  · exact fun hK => ⟨h, k, w, rfl, hl, hK⟩
def c96 : ACode := (.seq (.reg false 2 [⟨(.some 3), none, (.m .box 0), [(.t 0)]⟩, ⟨(.some 6), none, (.m (.alloc [(.imm (.int .u32 0)), (.imm (.int .u32 0)), (.imm (.int .u32 0)), (.imm (.int .u32 0)), (.imm (.int .u32 0)), (.imm (.int .u32 0)), (.imm (.int .u32 0)), (.imm (.int .u32 0))] false) 1), []⟩]) (.seq (.reg true 0 [⟨(.some 9), none, (.q (.iaddrA 8 1)), [(.t 3), (.c (.imm (.int .i64 7)))]⟩, ⟨(.some 10), none, (.l .load1), [(.t 9)]⟩, ⟨(.some 11), none, (.q (.iaddrA 8 1)), [(.t 3), (.c (.imm (.int .i64 4)))]⟩, ⟨(.some 12), none, (.l .load1), [(.t 11)]⟩, ⟨(.some 13), none, (.call false), [(.c (.fn (.func 113) [] [])), (.t 12)]⟩, ⟨(.some 14), none, (.q (.bin .add 84)), [(.t 10), (.t 13)]⟩, ⟨(.some 15), none, (.q (.iaddrA 8 1)), [(.t 3), (.c (.imm (.int .i64 4)))]⟩, ⟨(.some 16), none, (.l .load1), [(.t 15)]⟩, ⟨(.some 17), none, (.q (.iaddrA 8 1)), [(.t 3), (.c (.imm (.int .i64 5)))]⟩, ⟨(.some 18), none, (.l .load1), [(.t 17)]⟩, ⟨(.some 19), none, (.q (.iaddrA 8 1)), [(.t 3), (.c (.imm (.int .i64 6)))]⟩, ⟨(.some 20), none, (.l .load1), [(.t 19)]⟩, ⟨(.some 21), none, (.call false), [(.c (.fn (.func 114) [] [])), (.t 16), (.t 18), (.t 20)]⟩, ⟨(.some 22), none, (.q (.bin .add 84)), [(.t 14), (.t 21)]⟩, ⟨(.some 23), none, (.q .mv), [(.t 1)]⟩, ⟨(.some 24), none, (.q (.bin .add 84)), [(.t 22), (.t 23)]⟩, ⟨(.some 25), none, (.q .mv), [(.t 2)]⟩, ⟨(.some 26), none, (.q (.bin .add 84)), [(.t 24), (.t 25)]⟩, ⟨(.some 7), none, (.q .mv), [(.t 26)]⟩]) (.seq (.reg true 0 [⟨(.some 27), none, (.q (.iaddrA 8 1)), [(.t 3), (.c (.imm (.int .i64 0)))]⟩, ⟨(.some 28), none, (.l .load1), [(.t 27)]⟩, ⟨(.some 29), none, (.call false), [(.c (.fn (.func 115) [] [])), (.t 28)]⟩, ⟨(.some 30), none, (.q (.iaddrA 8 1)), [(.t 3), (.c (.imm (.int .i64 0)))]⟩, ⟨(.some 31), none, (.l .load1), [(.t 30)]⟩, ⟨(.some 32), none, (.q (.iaddrA 8 1)), [(.t 3), (.c (.imm (.int .i64 1)))]⟩, ⟨(.some 33), none, (.l .load1), [(.t 32)]⟩, ⟨(.some 34), none, (.q (.iaddrA 8 1)), [(.t 3), (.c (.imm (.int .i64 2)))]⟩, ⟨(.some 35), none, (.l .load1), [(.t 34)]⟩, ⟨(.some 36), none, (.call true), [(.c (.fn (.func 116) [] [])), (.t 31), (.t 33), (.t 35)]⟩, ⟨(.some 37), none, (.q (.bin .add 84)), [(.t 29), (.t 36)]⟩, ⟨(.some 8), none, (.q .mv), [(.t 37)]⟩]) (.seq (.reg false 0 [⟨(.some 38), none, (.q (.iaddrA 8 1)), [(.t 3), (.c (.imm (.int .i64 6)))]⟩, ⟨(.some 39), none, (.l .load1), [(.t 38)]⟩, ⟨(.some 40), none, (.q (.iaddrA 8 1)), [(.t 3), (.c (.imm (.int .i64 5)))]⟩, ⟨(.some 41), none, (.l .load1), [(.t 40)]⟩, ⟨(.some 42), none, (.q (.iaddrA 8 1)), [(.t 3), (.c (.imm (.int .i64 4)))]⟩, ⟨(.some 43), none, (.l .load1), [(.t 42)]⟩, ⟨(.some 44), none, (.q (.iaddrA 8 1)), [(.t 3), (.c (.imm (.int .i64 3)))]⟩, ⟨(.some 45), none, (.l .load1), [(.t 44)]⟩, ⟨(.some 46), none, (.q .mv), [(.t 7)]⟩, ⟨(.some 47), none, (.q (.bin .add 84)), [(.t 45), (.t 46)]⟩, ⟨(.some 48), none, (.q (.iaddrA 8 1)), [(.t 3), (.c (.imm (.int .i64 2)))]⟩, ⟨(.some 49), none, (.l .load1), [(.t 48)]⟩, ⟨(.some 50), none, (.q (.iaddrA 8 1)), [(.t 3), (.c (.imm (.int .i64 1)))]⟩, ⟨(.some 51), none, (.l .load1), [(.t 50)]⟩, ⟨(.some 52), none, (.q (.iaddrA 8 1)), [(.t 3), (.c (.imm (.int .i64 0)))]⟩, ⟨(.some 53), none, (.l .load1), [(.t 52)]⟩, ⟨(.some 54), none, (.q .mv), [(.t 7)]⟩, ⟨(.some 55), none, (.q .mv), [(.t 8)]⟩, ⟨(.some 56), none, (.q (.bin .add 84)), [(.t 54), (.t 55)]⟩, ⟨(.some 57), none, (.q (.iaddrA 8 1)), [(.t 3), (.c (.imm (.int .i64 7)))]⟩, ⟨none, none, (.e (.store 1)), [(.t 57), (.t 39)]⟩, ⟨(.some 58), none, (.q (.iaddrA 8 1)), [(.t 3), (.c (.imm (.int .i64 6)))]⟩, ⟨none, none, (.e (.store 1)), [(.t 58), (.t 41)]⟩, ⟨(.some 59), none, (.q (.iaddrA 8 1)), [(.t 3), (.c (.imm (.int .i64 5)))]⟩, ⟨none, none, (.e (.store 1)), [(.t 59), (.t 43)]⟩, ⟨(.some 60), none, (.q (.iaddrA 8 1)), [(.t 3), (.c (.imm (.int .i64 4)))]⟩, ⟨none, none, (.e (.store 1)), [(.t 60), (.t 47)]⟩, ⟨(.some 61), none, (.q (.iaddrA 8 1)), [(.t 3), (.c (.imm (.int .i64 3)))]⟩, ⟨none, none, (.e (.store 1)), [(.t 61), (.t 49)]⟩, ⟨(.some 62), none, (.q (.iaddrA 8 1)), [(.t 3), (.c (.imm (.int .i64 2)))]⟩, ⟨none, none, (.e (.store 1)), [(.t 62), (.t 51)]⟩, ⟨(.some 63), none, (.q (.iaddrA 8 1)), [(.t 3), (.c (.imm (.int .i64 1)))]⟩, ⟨none, none, (.e (.store 1)), [(.t 63), (.t 53)]⟩, ⟨(.some 64), none, (.q (.iaddrA 8 1)), [(.t 3), (.c (.imm (.int .i64 0)))]⟩, ⟨none, none, (.e (.store 1)), [(.t 64), (.t 56)]⟩]) (.seq (.reg false 0 [⟨(.some 65), none, (.l (.loadA 8)), [(.t 3)]⟩, ⟨none, none, (.e (.store 8)), [(.t 6), (.t 65)]⟩]) .ret)))))
theorem fn96 : IsFnC Tryz.prog 96 [] c96 [(6, some (85, .loadA 8))] 66 := ⟨⟨_, _, Tryz.func96, rfl, by decide +kernel, by kernel_rfl, rfl, rfl⟩, by intro r hr; simp only [List.mem_cons, List.not_mem_nil, or_false] at hr; first | (subst hr; kernel_rfl) | (rcases hr with rfl | rfl <;> kernel_rfl)⟩
set_option maxHeartbeats 8000000 in
theorem p96w (a b c d e f g i k w : Wd) : Pure Tryz.prog G 96 [.agg [w32 a, w32 b, w32 c, w32 d, w32 e, w32 f, w32 g, w32 i], w32 k, w32 w] (.agg [w32 (i + big1 e + chW e f g + k + w + (big0 a + majW a b c)), w32 a, w32 b, w32 c, w32 (d + (i + big1 e + chW e f g + k + w)), w32 e, w32 f, w32 g]) := by
  refine pure_of_codeC (S := sp [(113, wrd1 big1), (114, wrd3 chW), (115, wrd1 big0), (116, wrd3 majW)] []) hm hG (sp_holds (.cons (told_wrd1 p113w) (.cons (told_wrd3 p114w) (.cons (told_wrd1 p115w) (.cons (told_wrd3 p116w) .nil)))) .nil) fn96
    (St 9 66 [.agg [w32 a, w32 b, w32 c, w32 d, w32 e, w32 f, w32 g, w32 i], w32 k, w32 w, .junk, .junk, .junk, .junk, .junk, .junk] []) (by kernel_rfl) (by simp [lows, AV.low]) (by simp [AV.low, lows]) ?_
  have n84 : (IntKind.u32 ≠ .i64) := by decide
  have n8 : ((8 : Nat) : Int) = 8 := rfl
  simp (maxSteps := 2000000) -implicitDefEqProofs only [c96, RS, RX, Nat.reduceLT, ↓RP0, ↓RP1, ↓RP2, ↓RP3, RV, RW, ↓reduceIte, Nat.reduceAdd, Nat.reduceSub, Nat.reduceMul, Nat.reduceLeDiff, Nat.reduceEqDiff, Int.reduceLT, Int.reduceLE, Int.reduceEq, Int.reduceNe, Int.reduceAdd, Int.reduceSub, Int.reduceMul, Int.reduceNeg, Int.reduceToNat, reduceCtorEq, n8, ↓ask_wrd1, ask_wrd1, ↓ask_wrd3, ask_wrd3, binB_addk n84, r_add]
def c67 : ACode := (.seq (.reg false 2 [⟨(.some 3), none, (.m .box 0), [(.t 0)]⟩, ⟨(.some 6), none, (.m (.alloc [(.imm (.int .u32 0)), (.imm (.int .u32 0)), (.imm (.int .u32 0)), (.imm (.int .u32 0)), (.imm (.int .u32 0)), (.imm (.int .u32 0)), (.imm (.int .u32 0)), (.imm (.int .u32 0))] false) 1), []⟩]) (.seq (.reg true 0 [⟨(.some 9), none, (.q (.iaddrA 8 1)), [(.t 3), (.c (.imm (.int .i64 7)))]⟩, ⟨(.some 10), none, (.l .load1), [(.t 9)]⟩, ⟨(.some 11), none, (.q (.iaddrA 8 1)), [(.t 3), (.c (.imm (.int .i64 4)))]⟩, ⟨(.some 12), none, (.l .load1), [(.t 11)]⟩, ⟨(.some 13), none, (.call false), [(.c (.fn (.func 80) [] [])), (.t 12)]⟩, ⟨(.some 14), none, (.q (.bin .add 84)), [(.t 10), (.t 13)]⟩, ⟨(.some 15), none, (.q (.iaddrA 8 1)), [(.t 3), (.c (.imm (.int .i64 4)))]⟩, ⟨(.some 16), none, (.l .load1), [(.t 15)]⟩, ⟨(.some 17), none, (.q (.iaddrA 8 1)), [(.t 3), (.c (.imm (.int .i64 5)))]⟩, ⟨(.some 18), none, (.l .load1), [(.t 17)]⟩, ⟨(.some 19), none, (.q (.iaddrA 8 1)), [(.t 3), (.c (.imm (.int .i64 6)))]⟩, ⟨(.some 20), none, (.l .load1), [(.t 19)]⟩, ⟨(.some 21), none, (.call false), [(.c (.fn (.func 81) [] [])), (.t 16), (.t 18), (.t 20)]⟩, ⟨(.some 22), none, (.q (.bin .add 84)), [(.t 14), (.t 21)]⟩, ⟨(.some 23), none, (.q .mv), [(.t 1)]⟩, ⟨(.some 24), none, (.q (.bin .add 84)), [(.t 22), (.t 23)]⟩, ⟨(.some 25), none, (.q .mv), [(.t 2)]⟩, ⟨(.some 26), none, (.q (.bin .add 84)), [(.t 24), (.t 25)]⟩, ⟨(.some 7), none, (.q .mv), [(.t 26)]⟩]) (.seq (.reg true 0 [⟨(.some 27), none, (.q (.iaddrA 8 1)), [(.t 3), (.c (.imm (.int .i64 0)))]⟩, ⟨(.some 28), none, (.l .load1), [(.t 27)]⟩, ⟨(.some 29), none, (.call false), [(.c (.fn (.func 82) [] [])), (.t 28)]⟩, ⟨(.some 30), none, (.q (.iaddrA 8 1)), [(.t 3), (.c (.imm (.int .i64 0)))]⟩, ⟨(.some 31), none, (.l .load1), [(.t 30)]⟩, ⟨(.some 32), none, (.q (.iaddrA 8 1)), [(.t 3), (.c (.imm (.int .i64 1)))]⟩, ⟨(.some 33), none, (.l .load1), [(.t 32)]⟩, ⟨(.some 34), none, (.q (.iaddrA 8 1)), [(.t 3), (.c (.imm (.int .i64 2)))]⟩, ⟨(.some 35), none, (.l .load1), [(.t 34)]⟩, ⟨(.some 36), none, (.call true), [(.c (.fn (.func 83) [] [])), (.t 31), (.t 33), (.t 35)]⟩, ⟨(.some 37), none, (.q (.bin .add 84)), [(.t 29), (.t 36)]⟩, ⟨(.some 8), none, (.q .mv), [(.t 37)]⟩]) (.seq (.reg false 0 [⟨(.some 38), none, (.q .mv), [(.t 7)]⟩, ⟨(.some 39), none, (.q .mv), [(.t 8)]⟩, ⟨(.some 40), none, (.q (.bin .add 84)), [(.t 38), (.t 39)]⟩, ⟨(.some 41), none, (.q (.iaddrA 8 1)), [(.t 3), (.c (.imm (.int .i64 0)))]⟩, ⟨(.some 42), none, (.l .load1), [(.t 41)]⟩, ⟨(.some 43), none, (.q (.iaddrA 8 1)), [(.t 3), (.c (.imm (.int .i64 1)))]⟩, ⟨(.some 44), none, (.l .load1), [(.t 43)]⟩, ⟨(.some 45), none, (.q (.iaddrA 8 1)), [(.t 3), (.c (.imm (.int .i64 2)))]⟩, ⟨(.some 46), none, (.l .load1), [(.t 45)]⟩, ⟨(.some 47), none, (.q (.iaddrA 8 1)), [(.t 3), (.c (.imm (.int .i64 3)))]⟩, ⟨(.some 48), none, (.l .load1), [(.t 47)]⟩, ⟨(.some 49), none, (.q .mv), [(.t 7)]⟩, ⟨(.some 50), none, (.q (.bin .add 84)), [(.t 48), (.t 49)]⟩, ⟨(.some 51), none, (.q (.iaddrA 8 1)), [(.t 3), (.c (.imm (.int .i64 4)))]⟩, ⟨(.some 52), none, (.l .load1), [(.t 51)]⟩, ⟨(.some 53), none, (.q (.iaddrA 8 1)), [(.t 3), (.c (.imm (.int .i64 5)))]⟩, ⟨(.some 54), none, (.l .load1), [(.t 53)]⟩, ⟨(.some 55), none, (.q (.iaddrA 8 1)), [(.t 3), (.c (.imm (.int .i64 6)))]⟩, ⟨(.some 56), none, (.l .load1), [(.t 55)]⟩, ⟨(.some 57), none, (.q (.build [(.imm (.int .u32 0)), (.imm (.int .u32 0)), (.imm (.int .u32 0)), (.imm (.int .u32 0)), (.imm (.int .u32 0)), (.imm (.int .u32 0)), (.imm (.int .u32 0)), (.imm (.int .u32 0))] [(0, 1), (1, 1), (2, 1), (3, 1), (4, 1), (5, 1), (6, 1), (7, 1)])), [(.t 40), (.t 42), (.t 44), (.t 46), (.t 50), (.t 52), (.t 54), (.t 56)]⟩, ⟨none, none, (.e (.store 8)), [(.t 6), (.t 57)]⟩]) .ret))))
theorem fn67 : IsFnC Tryz.prog 67 [] c67 [(6, some (85, .loadA 8))] 58 := ⟨⟨_, _, Tryz.func67, rfl, by decide +kernel, by kernel_rfl, rfl, rfl⟩, by intro r hr; simp only [List.mem_cons, List.not_mem_nil, or_false] at hr; first | (subst hr; kernel_rfl) | (rcases hr with rfl | rfl <;> kernel_rfl)⟩
set_option maxHeartbeats 8000000 in
theorem p67w (a b c d e f g i k w : Wd) : Pure Tryz.prog G 67 [.agg [w32 a, w32 b, w32 c, w32 d, w32 e, w32 f, w32 g, w32 i], w32 k, w32 w] (.agg [w32 (i + big1 e + chW e f g + k + w + (big0 a + majW a b c)), w32 a, w32 b, w32 c, w32 (d + (i + big1 e + chW e f g + k + w)), w32 e, w32 f, w32 g]) := by
  refine pure_of_codeC (S := sp [(80, wrd1 big1), (81, wrd3 chW), (82, wrd1 big0), (83, wrd3 majW)] []) hm hG (sp_holds (.cons (told_wrd1 p80w) (.cons (told_wrd3 p81w) (.cons (told_wrd1 p82w) (.cons (told_wrd3 p83w) .nil)))) .nil) fn67
    (St 9 58 [.agg [w32 a, w32 b, w32 c, w32 d, w32 e, w32 f, w32 g, w32 i], w32 k, w32 w, .junk, .junk, .junk, .junk, .junk, .junk] []) (by kernel_rfl) (by simp [lows, AV.low]) (by simp [AV.low, lows]) ?_
  have n84 : (IntKind.u32 ≠ .i64) := by decide
  have n8 : ((8 : Nat) : Int) = 8 := rfl
  simp (maxSteps := 2000000) -implicitDefEqProofs only [c67, RS, RX, Nat.reduceLT, ↓RP0, ↓RP1, ↓RP2, ↓RP3, RV, RW, ↓reduceIte, Nat.reduceAdd, Nat.reduceSub, Nat.reduceMul, Nat.reduceLeDiff, Nat.reduceEqDiff, Int.reduceLT, Int.reduceLE, Int.reduceEq, Int.reduceNe, Int.reduceAdd, Int.reduceSub, Int.reduceMul, Int.reduceNeg, Int.reduceToNat, reduceCtorEq, n8, ↓ask_wrd1, ask_wrd1, ↓ask_wrd3, ask_wrd3, binB_addk n84, r_add]
theorem told_round96 : Told Tryz.prog G 96 roundS := by
  rintro args K ⟨h, k, w, rfl, hl, hK⟩
  match h, hl with
  | [a, b, c, d, e, f, g, i], _ => exact ⟨_, p96w a b c d e f g i k w, hK⟩
theorem told_round67 : Told Tryz.prog G 67 roundS := by
  rintro args K ⟨h, k, w, rfl, hl, hK⟩
  match h, hl with
  | [a, b, c, d, e, f, g, i], _ => exact ⟨_, p67w a b c d e f g i k w, hK⟩
end Go.AL.Path
