/- Abstract steps, calls; every step is one of a certain outcome; two steps that commute. -/
import Derived.Test.YtofokmpdioblkaaGreatDoorG7
set_option linter.unusedSimpArgs false
set_option linter.unusedVariables false
namespace Go.AL
open Go Go.RowKit
/-- A rule that asks something, and then goes on with one outcome. -/
def Det {α : Type} (F : (α → Prop) → Prop) : Prop := ∀ K, F K → ∃ r, K r ∧ ∀ K', K' r → F K'
section
variable {α : Type}
theorem Det.false : Det (fun _ : α → Prop => False) := fun _ h => h.elim
theorem Det.now (r : α) : Det (fun K : α → Prop => K r) := fun _ h => ⟨r, h, fun _ h => h⟩
theorem Det.and {p : Prop} {F : (α → Prop) → Prop} (h : Det F) : Det (fun K => p ∧ F K) := fun K ⟨hp, hF⟩ => let ⟨r, h1, h2⟩ := h K hF; ⟨r, h1, fun K' hK' => ⟨hp, h2 K' hK'⟩⟩
theorem Det.onInt {x : AV} {F : IntKind → Int → (α → Prop) → Prop} (h : ∀ k n, Det (F k n)) : Det (fun K => onInt x fun k n => F k n K) := by
  intro K hK; obtain ⟨k, n, rfl, h1⟩ := onInt_inv hK; exact h k n K h1
theorem Det.onCx {x : AV} {F : FloatKind → Nat → Nat → (α → Prop) → Prop} (h : ∀ k a b, Det (F k a b)) : Det (fun K => onCx x fun k a b => F k a b K) := by
  intro K hK; obtain ⟨k, a, b, rfl, h1⟩ := onCx_inv hK; exact h k a b K h1
theorem Det.onBool {x : AV} {F : Bool → (α → Prop) → Prop} (h : ∀ k, Det (F k)) : Det (fun K => onBool x fun k => F k K) := by
  intro K hK; obtain ⟨k, rfl, h1⟩ := onBool_inv hK; exact h k K h1
theorem Det.onStr {x : AV} {F : ByteArray → (α → Prop) → Prop} (h : ∀ k, Det (F k)) : Det (fun K => onStr x fun k => F k K) := by
  intro K hK; obtain ⟨k, rfl, h1⟩ := onStr_inv hK; exact h k K h1
theorem Det.onAgg {x : AV} {F : List AV → (α → Prop) → Prop} (h : ∀ k, Det (F k)) : Det (fun K => onAgg x fun k => F k K) := by
  intro K hK; obtain ⟨k, rfl, h1⟩ := onAgg_inv hK; exact h k K h1
theorem Det.onTup {x : AV} {F : List AV → (α → Prop) → Prop} (h : ∀ k, Det (F k)) : Det (fun K => onTup x fun k => F k K) := by
  intro K hK; obtain ⟨k, rfl, h1⟩ := onTup_inv hK; exact h k K h1
theorem Det.onImm {x : AV} {F : Value → (α → Prop) → Prop} (h : ∀ k, Det (F k)) : Det (fun K => onImm x fun k => F k K) := by
  intro K hK; obtain ⟨k, rfl, h1⟩ := onImm_inv hK; exact h k K h1
theorem Det.onSl {x : AV} {F : Nat → List AV → Option Nat → (α → Prop) → Prop} (h : ∀ a b c, Det (F a b c)) : Det (fun K => onSl x fun a b c => F a b c K) := by
  intro K hK; obtain ⟨a, b, c, rfl, h1⟩ := onSl_inv hK; exact h a b c K h1
theorem Det.onPtr {x : AV} {F : Nat → Nat → (α → Prop) → Prop} (h : ∀ a b, Det (F a b)) : Det (fun K => onPtr x fun a b => F a b K) := by
  intro K hK; obtain ⟨a, b, rfl, h1⟩ := onPtr_inv hK; exact h a b K h1
theorem Det.onTok {x : Option AObj} {F : TypeId → Nat → Nat → (α → Prop) → Prop} (h : ∀ a b c, Det (F a b c)) : Det (fun K => onTok x fun a b c => F a b c K) := by
  intro K hK; obtain ⟨a, b, c, rfl, h1⟩ := onTok_inv hK; exact h a b c K h1
theorem Det.onRow {x : Option AObj} {F : TypeId → Nat → Nat → List AV → (α → Prop) → Prop} (h : ∀ a b c d, Det (F a b c d)) : Det (fun K => onRow x fun a b c d => F a b c d K) := by
  intro K hK; obtain ⟨a, b, c, d, rfl, h1⟩ := onRow_inv hK; exact h a b c d K h1
theorem Det.onRs {x : AV} {F : Nat → Nat → Nat → Nat → Nat → (α → Prop) → Prop} (h : ∀ a b c d e, Det (F a b c d e)) : Det (fun K => onRs x fun a b c d e => F a b c d e K) := by
  intro K hK; obtain ⟨a, b, c, d, e, rfl, h1⟩ := onRs_inv hK; exact h a b c d e K h1
theorem Det.onBox {x : Option AObj} {F : List AV → (α → Prop) → Prop} (h : ∀ a, Det (F a)) : Det (fun K => onBox x fun a => F a K) := by
  intro K hK; obtain ⟨a, hx, h1⟩ := onBox_inv hK
  rcases hx with rfl | rfl <;> exact h a K h1
theorem Det.onSome {β : Type} {x : Option β} {F : β → (α → Prop) → Prop} (h : ∀ a, Det (F a)) : Det (fun K => onSome x fun a => F a K) := by
  intro K hK; obtain ⟨a, rfl, h1⟩ := onSome_inv hK; exact h a K h1
theorem Det.map {β : Type} {F : (β → Prop) → Prop} (h : Det F) (f : β → α) : Det (fun K : α → Prop => F fun b => K (f b)) := by
  intro K hK; obtain ⟨r, h1, h2⟩ := h _ hK; exact ⟨f r, h1, fun K' hK' => h2 _ hK'⟩
theorem Det.ite {c : Prop} [Decidable c] {F F' : (α → Prop) → Prop} (h : Det F) (h' : Det F') : Det (fun K => if c then F K else F' K) := by
  intro K hK
  by_cases hc : c
  · simp only [hc, if_true] at hK ⊢; exact h K hK
  · simp only [hc, if_false] at hK ⊢; exact h' K hK
theorem Det.bind {β : Type} {F : (β → Prop) → Prop} {g : β → (α → Prop) → Prop} (h : Det F) (hg : ∀ b, Det (g b)) : Det (fun K : α → Prop => F fun b => g b K) := by
  intro K hK
  obtain ⟨b, h1, h2⟩ := h _ hK
  obtain ⟨r, h3, h4⟩ := hg b K h1
  exact ⟨r, h3, fun K' hK' => h2 _ (h4 K' hK')⟩
theorem Det.ex {β : Type} {F : β → (α → Prop) → Prop} (h : ∀ b, Det (F b)) : Det (fun K => ∃ b, F b K) := by
  rintro K ⟨b, hb⟩
  obtain ⟨r, h1, h2⟩ := h b K hb
  exact ⟨r, h1, fun K' hK' => ⟨b, h2 K' hK'⟩⟩
theorem Det.or {F F' : (α → Prop) → Prop} (h : Det F) (h' : Det F') : Det (fun K => F K ∨ F' K) := by
  rintro K (hK | hK)
  · obtain ⟨r, h1, h2⟩ := h K hK; exact ⟨r, h1, fun K' hK' => .inl (h2 K' hK')⟩
  · obtain ⟨r, h1, h2⟩ := h' K hK; exact ⟨r, h1, fun K' hK' => .inr (h2 K' hK')⟩
end
theorem det_faddr (off : Nat) (x : AV) : Det (faddrSem off x) := by
  unfold faddrSem
  cases x <;> first | exact Det.now _ | exact Det.false
theorem det_nilchk (x : AV) : Det (nilchkSem x) := by
  unfold nilchkSem
  cases x with
  | fn f a b => cases f <;> first | exact Det.now _ | exact Det.false
  | _ => first | exact Det.now _ | exact Det.false
theorem det_bounds (lo hi : Bool) (n : Nat) (bs : List AV) : Det (fun K : Nat × Nat → Prop => bounds lo hi n bs fun l h => K (l, h)) := by
  unfold bounds
  split
  · exact Det.now _
  · exact Det.onInt fun _ _ => .and (.and (.now _))
  · exact Det.onInt fun _ _ => .and (.and (.now _))
  · exact Det.onInt fun _ _ => .onInt fun _ _ => .and (.and (.and (.now _)))
  · exact Det.false
theorem det_bounds' {α : Type} (lo hi : Bool) (n : Nat) (bs : List AV) {g : Nat → Nat → (α → Prop) → Prop} (hg : ∀ l h, Det (g l h)) : Det (fun K => bounds lo hi n bs fun l h => g l h K) :=
  Det.bind (F := fun K => bounds lo hi n bs fun l h => K (l, h)) (g := fun p => g p.1 p.2) (det_bounds lo hi n bs) (fun p => hg p.1 p.2)
theorem det_three (n : Nat) (bs : List AV) : Det (three n bs) := by
  unfold three
  split
  · exact Det.onInt fun _ _ => .onInt fun _ _ => .and (.and (.and (.now _)))
  · exact Det.false
theorem det_binInt (op : BinOp) (k : IntKind) (x y : Int) : Det (binInt op k x y) := by
  unfold binInt
  cases op <;> first | exact Det.now _ | exact Det.and (.now _) | exact Det.false
theorem det_binsem (op : BinOp) (t : TypeId) (x y : AV) : Det (binsem op t x y) := by
  unfold binsem
  split
  · rename_i k a k' b
    split
    · exact Det.and (.now _)
    · exact Det.and (.now _)
    · exact Det.and (det_binInt op k a b)
  · rename_i a b
    unfold binStr
    cases op <;> first | exact Det.now _ | exact Det.and (.now _) | exact Det.false
  · unfold binAny
    exact Det.ex fun _ => .and (.and (.now _))
  · exact Det.false
theorem det_unsem (op : UnOp) (x : AV) : Det (unsem op x) := by
  unfold unsem
  split <;> first | exact Det.now _ | exact Det.false
theorem det_iaddr (size : Nat) (x : AV) (i : Int) : Det (iaddrSem size x i) := by
  unfold iaddrSem
  split
  · exact .and (.and (.and (.now _)))
  · exact .and (.and (.and (.now _)))
  · exact Det.false
theorem det_len (x : AV) : Det (lenSem x) := by
  unfold lenSem
  split <;> first | exact Det.now _ | exact Det.false
theorem det_qsem (o : QOp) (args : List AV) : Det (qsem o args) := by
  unfold qsem
  split
  · exact Det.now _
  · exact Det.onBool fun _ => .now _
  · exact det_binsem _ _ _ _
  · exact Det.onAgg fun _ => .onAgg fun _ => .and (.onSome fun _ => .now _)
  · exact det_unsem _ _
  · exact Det.onInt fun _ _ => .now _
  · exact Det.onSl fun _ _ _ => .onSome fun _ => .now _
  · exact Det.onBool fun _ => .onBool fun _ => .now _
  · exact Det.onInt fun _ _ => .now _
  · exact Det.onStr fun _ => .now _
  · exact Det.onStr fun _ => .and (.now _)
  · exact Det.onAgg fun _ => .onSome fun _ => .now _
  · exact Det.onAgg fun _ => .and (.now _)
  · exact det_faddr _ _
  · exact Det.onStr fun _ => .onInt fun _ _ => .and (.and (.now _))
  · exact Det.onAgg fun _ => .onInt fun _ _ => .and (.and (.onSome fun _ => .now _))
  · exact Det.onAgg fun _ => .onInt fun _ _ => .and (.and (.and (.now _)))
  · exact Det.onInt fun _ _ => det_iaddr _ _ _
  · exact Det.onInt fun _ _ => .and (.and (det_faddr _ _))
  · exact Det.onStr fun _ => det_bounds' _ _ _ _ fun _ _ => .now _
  · unfold sliceLsem
    split
    · exact .and (.ite (.and (.and (Det.map (det_three _ _) _))) (det_bounds' _ _ _ _ fun _ _ => .now _))
    · exact .and (.and (det_bounds' _ _ _ _ fun _ _ => .now _))
    · exact Det.false
  · exact det_nilchk _
  · exact Det.onTup fun _ => .onSome fun _ => .now _
  · exact Det.onStr fun _ => .now _
  · exact det_len _
  · exact Det.now _
  · exact Det.now _
  · exact Det.onSome fun _ => .now _
  · exact Det.and (.and (.now _))
  · exact Det.onInt fun _ _ => .onInt fun _ _ => .and (.now _)
  · exact Det.onInt fun _ _ => .onInt fun _ _ => .and (.now _)
  · exact Det.onCx fun _ _ _ => .now _
  · exact Det.onImm fun _ => .now _
  · exact Det.onSl fun _ _ _ => .and (.and (.and (.now _)))
  · unfold pnilSem
    split <;> first | exact Det.now _ | exact Det.false
  · exact Det.onPtr fun _ _ => det_bounds' _ _ _ _ fun _ _ => .now _
  · exact Det.false
theorem det_behind {α : Type} (x : AV) (look : Nat → Option AObj) {g : List AV → Nat → (α → Prop) → Prop} (hg : ∀ a b, Det (g a b)) : Det (fun K => behind x look fun a b => g a b K) := by
  unfold behind
  cases x <;> first | exact hg _ _ | exact Det.onBox fun _ => hg _ _ | exact Det.onRow fun _ _ _ _ => .and (.and (.onSome fun _ => hg _ _)) | exact Det.false
theorem Det.onMp {α : Type} {x : AV} {F : Nat → (α → Prop) → Prop} (h : ∀ a, Det (F a)) : Det (fun K => onMp x fun a => F a K) := by
  intro K hK; obtain ⟨a, rfl, h1⟩ := onMp_inv hK; exact h a K h1
theorem Det.onMap {α : Type} {x : Option AObj} {F : KShape → Value → List (Value × Option AV) → (α → Prop) → Prop} (h : ∀ a b c, Det (F a b c)) : Det (fun K => onMap x fun a b c => F a b c K) := by
  intro K hK; obtain ⟨a, b, c, rfl, h1⟩ := onMap_inv hK; exact h a b c K h1
theorem det_lsem (o : LOp) (args : List AV) (look : Nat → Option AObj) : Det (lsem o args look) := by
  unfold lsem
  split
  · exact det_behind _ _ fun _ _ => .onSome fun _ => .now _
  · exact det_behind _ _ fun _ _ => .and (.now _)
  · exact Det.onMp fun _ => .onMap fun _ _ _ => .and (.and (.onSome fun _ => .now _))
  · exact Det.onMp fun _ => .onMap fun _ _ _ => .now _
  · exact Det.false
theorem det_msem (o : MOp) (args : List AV) (id : Nat) : Det (fun K : AV × AObj → Prop => msem o args id fun a b => K (a, b)) := by
  unfold msem
  split
  · exact Det.and (.now _)
  · exact Det.now _
  · exact Det.now _
  · exact Det.and (.and (.and (.now _)))
  · exact Det.now _
  · exact Det.onInt fun _ _ => .onInt fun _ _ => .and (.and (.and (.and (.and (.now _)))))
  · exact Det.onInt fun _ _ => .onInt fun _ _ => .and (.and (.and (.and (.now _))))
  · exact Det.false
theorem Det.onSrc {α : Type} {x : AV} {F : Nat → List AV → (α → Prop) → Prop} (h : ∀ a b, Det (F a b)) : Det (fun K => onSrc x fun a b => F a b K) := by
  intro K hK
  rcases onSrc_inv hK with ⟨a, b, c, rfl, h1⟩ | ⟨s, rfl, h1⟩
  · exact h _ _ K h1
  · exact h _ _ K h1
theorem det_esem (o : EOp) (args : List AV) (H : List AObj) : Det (fun K : AV × List AObj → Prop => esem o args H fun a b => K (a, b)) := by
  unfold esem
  split
  · exact .and (.and (.onRow fun _ _ _ _ => .and (.and (.and (.and (.now _))))))
  · refine Det.onPtr fun id off => .and (.and ?_)
    split
    · exact Det.and (.now _)
    · exact Det.false
  · exact Det.onMp fun _ => .onMap fun _ _ _ => .and (.and (.onSome fun _ => .now _))
  · exact Det.onMp fun _ => .onInt fun _ _ => .onMap fun _ _ _ => .and (.and (.and (.and (.onSome fun _ => .now _))))
  · exact Det.onMp fun _ => .onMap fun _ _ _ => .and (.and (.and (.onSome fun _ => .now _)))
  · exact Det.onRs fun _ _ _ _ _ => .and (.and (.and (.or (.and (.now _)) (.and (.onRow fun _ _ _ _ => .and (.and (.and (.now _))))))))
  · exact Det.onSl fun _ _ _ => .onRow fun _ _ _ _ => .and (.and (.and (.and (.and (.and (.and (.and (.and (.and (.now _))))))))))
  · exact Det.onSl fun _ _ _ => .onSl fun _ _ _ => .onSome fun _ => .onTok fun _ _ _ => .and (.and (.and (.and (.and (.and (.and (.and (.now _))))))))
  · exact Det.onPtr fun _ _ => .onBox fun _ => .and (det_bounds' _ _ _ _ fun _ _ => .now _)
  · exact Det.onSrc fun _ _ => .and (.and (.and (.or (.and (.now _)) (.and (.onRow fun _ _ _ _ => .and (.and (.and (.now _))))))))
  · refine Det.onSrc fun _ _ => .and (.and (.or (.and (.now _)) (.and ?_)))
    split
    · exact Det.and (.now _)
    · exact Det.false
  · exact Det.onSl fun _ _ _ => .onSome fun _ => .onTok fun _ _ _ => .and (.and (.now _))
  · exact Det.false
/-- A call of a function: whether it has a body or not. -/
def CallsX (P : Program) (f : FuncId) (args : Array Value) (w : World) (R : Value → World → Prop) : Prop :=
  match (callFunc f args).run P w with
  | .ok (.enter f' args') w' => Calls P f' args' w' fun e w'' => match e with
    | .returned v => R v w''
    | _ => False
  | .ok (.value v) w' => R v w'
  | _ => False
/-- The contract of a function on abstract values: with these arguments, and such boxes, it answers r, and the boxes are H' behind it. -/
def Ok (P : Program) (G : Nat → Option (List AV)) (f : FuncId) (args : List AV) (H : List AObj) (r : AV) (H' : List AObj) : Prop :=
  ∀ lo E w cargs, SimH G lo E H w → Reps E w args cargs → CallsX P f cargs.toArray w fun v w' => ∃ E', Rep E' w' r v ∧ SimH G lo E' H' w' ∧ Evo lo E w E' w'
/-- A function that turns no box. -/
def Pure (P : Program) (G : Nat → Option (List AV)) (f : FuncId) (args : List AV) (r : AV) : Prop := ∀ H, Ok P G f args H r H
/-- The boxes that an operation may look at: in a region of open order those that were there ahead of it. -/
def lookIn (draw : Bool) (base : Nat) (H : List AObj) (id : Nat) : Option AObj := if draw = true ∧ base ≤ id then none else H[id]?
def onFn (x : AV) (K : FuncId → List AV → List AV → Prop) : Prop := match x with | .fn (.func f) a b => K f a b | _ => False
theorem onFn_inv {x : AV} {K : FuncId → List AV → List AV → Prop} (h : onFn x K) : ∃ f a b, x = .fn (.func f) a b ∧ K f a b := by
  unfold onFn at h; split at h
  · exact ⟨_, _, _, rfl, h⟩
  · exact h.elim
theorem Det.onFn {α : Type} {x : AV} {F : FuncId → List AV → List AV → (α → Prop) → Prop} (h : ∀ a b c, Det (F a b c)) : Det (fun K => onFn x fun a b c => F a b c K) := by
  intro K hK; obtain ⟨a, b, c, rfl, h1⟩ := onFn_inv hK; exact h a b c K h1
/-- What a guard's temporary says: yes or no, or that nothing stands there. -/
def guardVal : AV → Option (Option Bool)
  | .imm (.bool b) => some (some b)
  | .tup [] => some none
  | _ => none
def onGuard (x : AV) (K : Option Bool → Prop) : Prop := match guardVal x with | some g => K g | none => False
theorem onGuard_inv {x : AV} {K : Option Bool → Prop} (h : onGuard x K) : ∃ g, guardVal x = some g ∧ K g := by
  unfold onGuard at h; split at h
  · exact ⟨_, by assumption, h⟩
  · exact h.elim
theorem Det.onGuard {α : Type} {x : AV} {F : Option Bool → (α → Prop) → Prop} (h : ∀ a, Det (F a)) : Det (fun K => onGuard x fun a => F a K) := by
  intro K hK; obtain ⟨g, hg, h1⟩ := onGuard_inv hK
  obtain ⟨r, h2, h3⟩ := h g K h1
  exact ⟨r, h2, fun K' hK' => by show AL.onGuard x _; unfold AL.onGuard; rw [hg]; exact h3 K' hK'⟩
theorem guardVal_cases {x : AV} {g : Option Bool} (h : guardVal x = some g) : (∃ b, x = .imm (.bool b) ∧ g = some b) ∨ (x = .tup [] ∧ g = none) := by
  unfold guardVal at h
  split at h
  · cases h; exact .inl ⟨_, rfl, rfl⟩
  · cases h; exact .inr ⟨rfl, rfl⟩
  · cases h
def onCons (xs : List AV) (K : AV → List AV → Prop) : Prop := match xs with | x :: r => K x r | _ => False
theorem onCons_inv {xs : List AV} {K : AV → List AV → Prop} (h : onCons xs K) : ∃ x r, xs = x :: r ∧ K x r := by
  unfold onCons at h; split at h
  · exact ⟨_, _, rfl, h⟩
  · exact h.elim
theorem Det.onCons {α : Type} {xs : List AV} {F : AV → List AV → (α → Prop) → Prop} (h : ∀ a b, Det (F a b)) : Det (fun K => onCons xs fun a b => F a b K) := by
  intro K hK; obtain ⟨a, b, rfl, h1⟩ := onCons_inv hK; exact h a b K h1
section
variable (P : Program) (G : Nat → Option (List AV)) (draw : Bool) (base : Nat)
/-- What an operation does to the boxes, and what it answers. -/
def core (c : Cls) (args : List AV) (H : List AObj) (K : AV × List AObj → Prop) : Prop :=
  match c with
  | .q q => qsem q args fun r => K (r, H)
  | .l l => lsem l args (lookIn draw base H) fun r => K (r, H)
  | .m m slot => H[base + slot]? = some .hole ∧ msem m args (base + slot) fun r ob => K (r, H.set (base + slot) ob)
  | .e e => esem e args H fun r H' => K (r, H')
  | .call pin => onCons args fun f rest => onFn f fun fid first cap =>
      (∃ r, Pure P G fid ((first ++ rest ++ cap).map AV.strip) r ∧ K (r, H)) ∨ (pin = true ∧ ∃ r H', Ok P G fid (first ++ rest ++ cap) H r H' ∧ K (r, H'))
theorem det_core (c : Cls) (args : List AV) (H : List AObj) : Det (core P G draw base c args H) := by
  unfold core
  split
  · exact Det.map (det_qsem _ _) _
  · exact Det.map (det_lsem _ _ _) _
  · exact Det.and (Det.bind (F := fun K => msem _ args _ fun a b => K (a, b)) (g := fun p K => K (p.1, H.set _ p.2)) (det_msem _ _ _) fun p => .now _)
  · exact Det.bind (F := fun K => esem _ args H fun a b => K (a, b)) (g := fun p K => K (p.1, p.2)) (det_esem _ _ _) fun p => .now _
  · exact Det.onCons fun _ _ => .onFn fun _ _ _ => .or (.ex fun _ => .and (.now _)) (.and (.ex fun _ => .ex fun _ => .and (.now _)))
/-- One operation's step. -/
def astep (o : AOper) (s : ASt) (K : ASt → Prop) : Prop :=
  match o.guard with
  | none => core P G draw base o.cls (o.args.map (aeval G s.tmps)) s.H fun p => K (ASt.put ⟨s.tmps, p.2⟩ o.dst p.1)
  | some (t, want) => onGuard (s.tmps.getD t .junk) fun b =>
      (b = some want → core P G draw base o.cls (o.args.map (aeval G s.tmps)) s.H fun p => K (ASt.put ⟨s.tmps, p.2⟩ o.dst p.1)) ∧ (b ≠ some want → K (s.put o.dst (.tup [])))
theorem det_astep (o : AOper) (s : ASt) : Det (astep P G draw base o s) := by
  unfold astep
  split
  · exact Det.map (det_core _ _ _ _ _ _ _) _
  · rename_i t want _
    refine Det.onGuard fun b => ?_
    by_cases hb : b = some want
    · intro K hK
      obtain ⟨r, h1, h2⟩ := Det.map (det_core P G draw base o.cls (o.args.map (aeval G s.tmps)) s.H) (fun p => ASt.put ⟨s.tmps, p.2⟩ o.dst p.1) K (hK.1 hb)
      exact ⟨r, h1, fun K' hK' => ⟨fun _ => h2 K' hK', fun h => absurd hb h⟩⟩
    · exact fun K hK => ⟨_, hK.2 hb, fun K' hK' => ⟨fun h => absurd h hb, fun _ => hK'⟩⟩
/-- The operations of a region, in the order of the text. -/
def aops : List AOper → (ASt → Prop) → ASt → Prop
  | [], K, s => K s
  | o :: rest, K, s => astep P G draw base o s (aops rest K)
/-- A way through operations in some order. -/
def Path (as : List AOper) : List Nat → ASt → ASt → Prop
  | [], s, s' => s = s'
  | i :: l, s, s' => ∃ o s1, as[i]? = some o ∧ astep P G draw base o s (· = s1) ∧ Path as l s1 s'
theorem path_of_aops (as : List AOper) : ∀ (l : List AOper) (k : Nat) (s : ASt) (K : ASt → Prop), (∀ j, as[k + j]? = l[j]?) → aops P G draw base l K s → ∃ s', Path P G draw base as (List.range' k l.length) s s' ∧ K s'
  | [], k, s, K, _, h => ⟨s, rfl, h⟩
  | o :: l, k, s, K, hk, h => by
    obtain ⟨s1, h1, h2⟩ := det_astep P G draw base o s _ h
    obtain ⟨s', h3, h4⟩ := path_of_aops as l (k + 1) s1 K (fun j => by have := hk (j + 1); rw [List.getElem?_cons_succ] at this; rw [← this]; congr 1; omega) h1
    exact ⟨s', ⟨o, s1, by have := hk 0; simpa using this, h2 _ rfl, h3⟩, h4⟩
end
end Go.AL
