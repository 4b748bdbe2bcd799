/- slices.Clone at bytes. -/
import Derived.Test.YtofokmpdioblkaaGreatDoorG17
import Derived.Test.YtofokmpdioblkaaGreatDoorG25
import Derived.WalkKit
import Derived.WalkSpells
import Derived.WalkLawsBesides
import Derived.Lib.SliceRun
import Derived.Lib.Walk
import Derived.Deep.LoopGhost
import Derived.Shelf.RegionOpenPlain
set_option linter.unusedSimpArgs false
set_option linter.unusedVariables false
set_option maxRecDepth 100000
namespace Go.AL.Path
open Go Go.RowKit Go.Proofs Go.AL
theorem info5 : ∃ i z, Tryz.prog.info? 5 = some i ∧ i.zero = some z ∧ i.size = 1 ∧ i.bytes = 1 ∧ z.cells.size = 1 := ⟨_, _, rfl, rfl, rfl, rfl, rfl⟩
set_option maxHeartbeats 2000000 in
theorem c30 (a : Addr) (n c : Nat) (news : List Value) (w : World) (hl : news.length = n * 1) (hn : n ≤ maxLen) (hbig : n * 1 ≤ 140737488355328)
    (hc : ∀ j u, news[j]? = some u → w.cell? (a.add j) = some u) (h1 : ∀ u ∈ news, u.oneCell' = true) :
    Calls Tryz.prog 30 #[.slice (some a) n c] w fun e w' => ∃ v', e = .returned v' ∧ w'.ownsRow w.heap.size 5 1 v' n news ∧ Below w.heap.size w w' := by
  obtain ⟨i0, z, hi, hz0, hz1, hz2, hzs⟩ := info5
  have q22 : ∀ (w : World) (a : Option Addr) (n c n' c' : Nat), (binOp .eql 33 (.slice a n c) (.slice none n' c')).run Tryz.prog w = .ok (.bool a.isNone) w := fun w a n c n' c' => Lib.run_eql_slice_nil w _ _ a n c n' c' Tryz.underlying33
  have A : Aside (∀ j u, news[j]? = some u → w.cell? (a.add j) = some u) := hc
  clear hc
  go_enter Tryz.func30, Tryz.ntmps30
  go_wp2_with (at_builtin; refine wpList_append_own _ rfl _ _ 33 rfl w.heap.size 5 i0 z 1 1 Tryz.underlying33 hi hz0 hz1 hz2 hzs (by decide) _ _ _ rfl (World.ownsRow_made w #[] 0 (Nat.le_refl _) (Nat.zero_le _) (by simp)) a n c news rfl ?qc1 ?qc2 ?qc3 ?qc4 ?qc5 ?qc6 ?_)
  case qc1 => exact hl
  case qc2 =>
    intro j u hj
    exact Lib.cell?_alloc_some _ (A.out j u hj)
  case qc3 => exact h1
  case qc4 => rw [Nat.zero_add]; exact hn
  case qc5 => rw [Nat.zero_add]; exact hbig
  case qc6 => simp
  intro v' w1 hown hgrow hnil
  go_wp2
  go_ret
  refine ⟨v', rfl, by simpa using hown, ?_⟩
  exact ((Below.refl _ w).alloc (Nat.le_refl _) _).grown hgrow (by simp) (by intro k hk; simp [Value.ownBlock] at hk; omega)
set_option maxHeartbeats 1000000 in
theorem c30n (n c : Nat) (w : World) : Calls Tryz.prog 30 #[.slice none n c] w fun e w' => e = .returned (.slice none 0 0) ∧ w' = w := by
  have q22 : ∀ (w : World) (a : Option Addr) (n c n' c' : Nat), (binOp .eql 33 (.slice a n c) (.slice none n' c')).run Tryz.prog w = .ok (.bool a.isNone) w := fun w a n c n' c' => Lib.run_eql_slice_nil w _ _ a n c n' c' Tryz.underlying33
  go_enter Tryz.func30, Tryz.ntmps30
  go_wp2
  go_ret
  exact ⟨rfl, rfl⟩
end Go.AL.Path

/- Files, edits, what is shown: as abstract values. -/
set_option linter.unusedSimpArgs false
set_option linter.unusedVariables false
set_option maxRecDepth 100000
namespace Go.AL.Path
open Go Go.RowKit Go.Proofs Go.AL
theorem bytesOf_map : ∀ l : List UInt8, bytesOf (l.map byteAV) = some l
  | [] => rfl
  | b :: l => by
    show (bytesOf (l.map byteAV)).map (UInt8.ofNat (b.toNat : Int).toNat :: ·) = _
    rw [bytesOf_map l]; simp
abbrev bytesV (l : List UInt8) : AV := .sl 1 (l.map byteAV) none
theorem bytes_inj {a b : List UInt8} (h : a.map byteAV = b.map byteAV) : a = b := by
  have := bytesOf_map a
  rw [h, bytesOf_map b] at this
  exact (Option.some.inj this).symm
theorem bytes_len (l : List UInt8) : (l.map byteAV).length = l.length := List.length_map ..
theorem lows_bytes (n : Nat) : ∀ l : List UInt8, lows n (l.map byteAV)
  | [] => trivial
  | _ :: l => ⟨trivial, lows_bytes n l⟩
theorem low_bytes (n : Nat) (l : List UInt8) : (bytesV l).low n := ⟨lows_bytes n l, fun k hk => by cases hk⟩
structure Fil where
  path : List UInt8
  data : List UInt8
  deriving DecidableEq
def filC (f : Fil) : List AV := [T f.path, bytesV f.data]
structure FilOk (f : Fil) : Prop where
  path : f.path.length ≤ 1099511627
  data : f.data.length ≤ 1099511627
abbrev filE : Elem Fil where
  sz := 2
  cells := filC
  ok := FilOk
  d0 := ⟨[], []⟩
  len := fun _ => rfl
  inj := fun {x y} _ _ h => by
    unfold filC at h
    injection h with h1 h2
    injection h2 with h2 _
    injection h2 with _ h2 _
    cases x; cases y
    rw [Fil.mk.injEq]; exact ⟨T_inj.1 h1, bytes_inj h2⟩
  low := fun n x => ⟨trivial, low_bytes n _, trivial⟩
  strip := rfl
abbrev filV (f : Fil) : AV := .agg (filC f)
abbrev filsV (l : List Fil) : AV := .sl 2 (l.map filE.v) none
structure Edt where
  kind : Int
  path : List UInt8
  data : List UInt8
  deriving DecidableEq
def edtC (e : Edt) : List AV := [i64 e.kind, T e.path, bytesV e.data]
structure EdtOk (e : Edt) : Prop where
  path : e.path.length ≤ 1099511627
  data : e.data.length ≤ 1099511627
abbrev edtE : Elem Edt where
  sz := 3
  cells := edtC
  ok := EdtOk
  d0 := ⟨0, [], []⟩
  len := fun _ => rfl
  inj := fun {x y} _ _ h => by
    unfold edtC at h
    injection h with h0 h
    injection h0 with h0
    injection h0 with _ h0
    injection h with h1 h2
    injection h2 with h2 _
    injection h2 with _ h2 _
    cases x; cases y
    rw [Edt.mk.injEq]; exact ⟨h0, T_inj.1 h1, bytes_inj h2⟩
  low := fun n x => ⟨trivial, trivial, low_bytes n _, trivial⟩
  strip := rfl
abbrev edtV (e : Edt) : AV := .agg (edtC e)
theorem lows_edt (n : Nat) (e : Edt) : lows n (edtC e) := edtE.low n e
theorem lows_fils (n : Nat) (l : List Fil) : lows n (l.map filE.v) := filE.low_vs n l
section
variable {X : Type} {enc : X → List AV} {pre : X → Prop}
def spOn (enc : X → List AV) (pre : X → Prop) (f : X → AV) : PSp := fun args K => ∃ x, args = enc x ∧ pre x ∧ K (f x)
def spOnB (enc : X → List AV) (pre : X → Prop) (f : X → Bool) : PSp := fun args K => ∃ x, args = enc x ∧ pre x ∧ splitB (f x) K
theorem told_spOn {F} {f : X → AV} (h : ∀ x, pre x → Pure Tryz.prog G F (enc x) (f x)) : Told Tryz.prog G F (spOn enc pre f) := by
  rintro args K ⟨x, rfl, h1, h2⟩
  exact ⟨_, h x h1, h2⟩
theorem told_spOnB {F} {f : X → Bool} (h : ∀ x, pre x → Pure Tryz.prog G F (enc x) (bool (f x))) : Told Tryz.prog G F (spOnB enc pre f) := by
  rintro args K ⟨x, rfl, h1, h2⟩
  exact ⟨_, h x h1, splitB_of h2⟩
theorem ask_spOn {f : X → AV} (inj : ∀ x y, pre x → pre y → enc x = enc y → x = y) {x : X} (hx : pre x) {args K} (ha : args = enc x) : ask (spOn enc pre f) args K = K (f x) := by
  subst ha
  show (∃ y, enc x = enc y ∧ pre y ∧ K (f y)) = _
  simp only [eq_iff_iff]
  constructor
  · rintro ⟨y, h1, h2, h3⟩
    rw [inj x y hx h2 h1]; exact h3
  · exact fun h => ⟨x, rfl, hx, h⟩
theorem ask_spOnB {f : X → Bool} (inj : ∀ x y, pre x → pre y → enc x = enc y → x = y) {x : X} (hx : pre x) {args K} (ha : args = enc x) : ask (spOnB enc pre f) args K = splitB (f x) K := by
  subst ha
  show (∃ y, enc x = enc y ∧ pre y ∧ splitB (f y) K) = _
  simp only [eq_iff_iff]
  constructor
  · rintro ⟨y, h1, h2, h3⟩
    rw [inj x y hx h2 h1]; exact h3
  · exact fun h => ⟨x, rfl, hx, h⟩
end
abbrev Fils (n : Nat) (l : List Fil) : Prop := filE.all l ∧ l.length ≤ n
theorem fils_inj1 {a b : List Fil} (ha : filE.all a) (hb : filE.all b) (h : filsV a = filsV b) : a = b := filE.vs_inj ha hb (by injection h)
theorem edt_inj1 {a b : Edt} (ha : EdtOk a) (hb : EdtOk b) (h : edtV a = edtV b) : a = b := edtE.inj ha hb (by injection h)
def fil1b (f : List Fil → Bool) : PSp := spOnB (fun l => [filsV l]) (Fils 1099511627) f
theorem ask_fil1b {f} {l : List Fil} (h : Fils 1099511627 l) {K} : ask (fil1b f) [filsV l] K = splitB (f l) K := ask_spOnB (fun x y hx hy he => fils_inj1 hx.1 hy.1 (by injection he)) h rfl
def fil1 (f : List Fil → List Fil) : PSp := spOn (fun l => [filsV l]) (Fils 1099511627) fun l => filsV (f l)
theorem ask_fil1 {f} {l : List Fil} (h : Fils 1099511627 l) {K} : ask (fil1 f) [filsV l] K = K (filsV (f l)) := ask_spOn (fun x y hx hy he => fils_inj1 hx.1 hy.1 (by injection he)) h rfl
def filEd (f : List Fil → Edt → List Fil) : PSp := spOn (fun x : List Fil × Edt => [filsV x.1, edtV x.2]) (fun x => Fils 1099511627 x.1 ∧ EdtOk x.2) fun x => filsV (f x.1 x.2)
theorem ask_filEd {f} {l : List Fil} {e : Edt} (h : Fils 1099511627 l) (h' : EdtOk e) {K} : ask (filEd f) [filsV l, edtV e] K = K (filsV (f l e)) :=
  ask_spOn (x := (l, e)) (fun x y hx hy he => by
    injection he with h1 h2; injection h2 with h2 _
    have a := fils_inj1 hx.1.1 hy.1.1 h1
    have b := edt_inj1 hx.2 hy.2 h2
    cases x; cases y; dsimp only at a b; rw [a, b]) ⟨h, h'⟩ rfl
theorem clones30 : ClonesAt Tryz.prog 30 5 1 1 := ⟨c30n, c30⟩
def byId : PSp := fun args K => ∃ l : List UInt8, args = [bytesV l] ∧ l.length ≤ 1099511627 ∧ K (bytesV l)
theorem told_byId : Told Tryz.prog G 30 byId := by
  rintro args K ⟨l, rfl, h1, h2⟩
  exact ⟨_, pure_clone hG Tryz.func30 rfl (by decide +kernel) (by decide) clones30 (by rw [bytes_len]; omega) (lows_bytes 0 l), h2⟩
theorem ask_byId {l : List UInt8} {K} : ask byId [bytesV l] K = (l.length ≤ 1099511627 ∧ K (bytesV l)) := by
  show (∃ l', [bytesV l] = [bytesV l'] ∧ l'.length ≤ 1099511627 ∧ K (bytesV l')) = _
  simp only [eq_iff_iff]
  constructor
  · rintro ⟨l', h1, h2, h3⟩
    injection h1 with h1 _
    injection h1 with _ h1 _
    rw [bytes_inj h1]; exact ⟨h2, h3⟩
  · exact fun h => ⟨l, rfl, h⟩
end Go.AL.Path
