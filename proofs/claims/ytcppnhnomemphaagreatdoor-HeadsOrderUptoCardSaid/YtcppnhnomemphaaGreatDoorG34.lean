/- The reference's History: the events of deeds of three replicas, and what each knows at the end. -/
import Derived.Test.YtcppnhnomemphaaGreatDoorG33
set_option linter.unusedSimpArgs false
set_option linter.unusedVariables false
set_option maxRecDepth 100000
namespace Go.AL.Path
open Go Go.RowKit Go.Proofs Go.AL

structure Deed where
  who : Int
  other : Int
  path : Int
  learns : Bool
  gone : Bool
  size : Int
  deriving DecidableEq
def deedC (d : Deed) : List AV := [u8 d.who, u8 d.other, u8 d.path, bool d.learns, bool d.gone, u8 d.size]
abbrev deedV (d : Deed) : AV := .agg (deedC d)
abbrev deedsV (l : List Deed) : AV := .sl 6 (l.map deedV) none
def deed0 : Deed := ⟨0, 0, 0, false, false, 0⟩
structure DeedOk (d : Deed) : Prop where
  who : 0 ≤ d.who ∧ d.who ≤ 255
  other : 0 ≤ d.other ∧ d.other ≤ 255
  path : 0 ≤ d.path ∧ d.path ≤ 255
  size : 0 ≤ d.size ∧ d.size ≤ 255
def AllDeed (l : List Deed) : Prop := ∀ d ∈ l, DeedOk d

def pathAt (n : Nat) : List UInt8 := [[97], [97, 47, 98], [99], [100]].getD n []
def pathsL : List AV := [T [97], T [97, 47, 98], T [99], T [100]]
theorem pathsL_get {n : Nat} (h : n < 4) : pathsL.getD n .junk = T (pathAt n) := by
  match n, h with
  | 0, _ => rfl
  | 1, _ => rfl
  | 2, _ => rfl
  | 3, _ => rfl
theorem pathsL_len : pathsL.length = 4 := rfl

def nextQ (v : Vec) (w : Nat) : Int := getV v (w : Int) + 1
def deedEv (w : Nat) (v : Vec) (d : Deed) : Ev :=
  ⟨(w : Int), nextQ v w, v, if d.gone = true then 2 else 1, pathAt (d.path.toNat % 4), if d.gone = true then List.replicate 32 0 else d.size :: List.replicate 31 0, if d.gone = true then 0 else d.size⟩
def withV (v : Vec) (r q : Int) : Vec := ofP (step (cnt v) (r, q))
/-- What each knows, and the events; one deed more. -/
def hstep (s : List Vec × List Ev) (d : Deed) : List Vec × List Ev :=
  if d.learns = true then (s.1.set (d.who.toNat % 3) (joinV2 (s.1.getD (d.who.toNat % 3) []) (s.1.getD (d.other.toNat % 3) [])), s.2)
  else (s.1.set (d.who.toNat % 3) (withV (s.1.getD (d.who.toNat % 3) []) ((d.who.toNat % 3 : Nat) : Int) (nextQ (s.1.getD (d.who.toNat % 3) []) (d.who.toNat % 3))), s.2 ++ [deedEv (d.who.toNat % 3) (s.1.getD (d.who.toNat % 3) []) d])
def hist (l : List Deed) : List Vec × List Ev := l.foldl hstep ([[], [], []], [])

/-! A vector's entries are at most n. -/
def Low (n : Int) (v : Vec) : Prop := v.length ≤ 32 ∧ ∀ d ∈ v, d.2 ≤ n
theorem cnt_low {n : Int} (hn : 0 ≤ n) (v : Vec) (h : ∀ d ∈ v, d.2 ≤ n) (i : Nat) : 0 ≤ cnt v i ∧ cnt v i ≤ n := by
  unfold cnt
  have : ∀ (v : Vec) (f : Nat → Int), (∀ d ∈ v, d.2 ≤ n) → (∀ i, 0 ≤ f i ∧ f i ≤ n) → ∀ i, 0 ≤ v.foldl step f i ∧ v.foldl step f i ≤ n := by
    intro v
    induction v with
    | nil => intro f _ h; exact h
    | cons d v ih =>
      intro f hv hf
      refine ih (step f d) (fun d hd => hv d (List.mem_cons_of_mem _ hd)) fun i => ?_
      have h1 := hf i
      have h2 := hv d List.mem_cons_self
      unfold step
      split <;> omega
  exact this v _ h (fun i => ⟨Int.le_refl _, hn⟩) i
theorem getV_low {n : Int} (hn : 0 ≤ n) {v : Vec} (h : Low n v) (r : Int) : 0 ≤ getV v r ∧ getV v r ≤ n := by
  unfold getV
  split
  · exact cnt_low hn v h.2 _
  · omega
theorem ofTo_mem {f : Nat → Int} : ∀ {k : Nat} {d : Int × Int}, d ∈ ofTo f k → ∃ i : Nat, i < k ∧ d = ((i : Int), f i) ∧ 0 < f i
  | k + 1, d, h => by
    rw [ofTo] at h
    split at h
    · rename_i hk
      rcases List.mem_append.1 h with h | h
      · obtain ⟨i, h1, h2⟩ := ofTo_mem h; exact ⟨i, by omega, h2⟩
      · rw [List.mem_singleton.1 h]; exact ⟨k, by omega, rfl, by omega⟩
    · obtain ⟨i, h1, h2⟩ := ofTo_mem h; exact ⟨i, by omega, h2⟩
theorem ofP_low {n : Int} {f : Nat → Int} (h : ∀ i, i < 32 → f i ≤ n) : Low n (ofP f) := by
  refine ⟨ofTo_len f 32, fun d hd => ?_⟩
  obtain ⟨i, h1, h2, _⟩ := ofTo_mem hd
  rw [h2]; exact h i h1
theorem Low.mono {n m : Int} {v : Vec} (h : Low n v) (hn : n ≤ m) : Low m v := ⟨h.1, fun d hd => Int.le_trans (h.2 d hd) hn⟩
theorem join_low {n : Int} (hn : 0 ≤ n) {a b : Vec} (ha : Low n a) (hb : Low n b) : Low n (joinV2 a b) := by
  refine ofP_low fun i _ => ?_
  have := (cnt_low hn a ha.2 i).2
  have := (cnt_low hn b hb.2 i).2
  omega
theorem with_low {n : Int} (hn : 0 ≤ n) {a : Vec} (ha : Low n a) {r q : Int} (hq : q ≤ n + 1) : Low (n + 1) (withV a r q) := by
  refine ofP_low fun i _ => ?_
  have := (cnt_low hn a ha.2 i).2
  unfold step
  split
  · exact hq
  · omega

structure HistOk (s : List Vec × List Ev) : Prop where
  three : s.1.length = 3
  low : ∀ v ∈ s.1, Low s.2.length v
  evs : ∀ e ∈ s.2, EvOk e
theorem getD_mem {l : List Vec} {w : Nat} (h : w < l.length) : l.getD w [] ∈ l := by
  rw [List.getD_eq_getElem?_getD, List.getElem?_eq_getElem h]; exact List.getElem_mem h
theorem Low.small {n : Int} {v : Vec} (h : Low n v) : Small v := by have := h.1; show v.length ≤ _; omega
theorem deedEv_ok {w : Nat} {v : Vec} {d : Deed} (h : Small v) : EvOk (deedEv w v d) := by
  refine ⟨h, ?_, ?_⟩
  · show (if d.gone = true then List.replicate 32 (0 : Int) else d.size :: List.replicate 31 0).length = 32
    split <;> simp
  · show (pathAt (d.path.toNat % 4)).length ≤ _
    have : d.path.toNat % 4 < 4 := Nat.mod_lt _ (by decide)
    generalize d.path.toNat % 4 = p at *
    match p, this with
    | 0, _ => decide
    | 1, _ => decide
    | 2, _ => decide
    | 3, _ => decide
theorem hstep_ok {s : List Vec × List Ev} (h : HistOk s) (d : Deed) : HistOk (hstep s d) := by
  have h3 := h.three
  have hw : d.who.toNat % 3 < s.1.length := by rw [h3]; exact Nat.mod_lt _ (by decide)
  have ho : d.other.toNat % 3 < s.1.length := by rw [h3]; exact Nat.mod_lt _ (by decide)
  have lw := h.low _ (getD_mem hw)
  have lo := h.low _ (getD_mem ho)
  have h0 : (0 : Int) ≤ s.2.length := Int.natCast_nonneg _
  unfold hstep
  split
  · refine ⟨by simpa using h3, fun v hv => ?_, h.evs⟩
    rcases List.mem_or_eq_of_mem_set hv with hv | rfl
    · exact h.low v hv
    · exact join_low h0 lw lo
  · refine ⟨by simpa using h3, fun v hv => ?_, fun e he => ?_⟩
    · have hl : ((s.2 ++ [deedEv (d.who.toNat % 3) (s.1.getD (d.who.toNat % 3) []) d]).length : Int) = s.2.length + 1 := by simp
      dsimp only
      rw [hl]
      rcases List.mem_or_eq_of_mem_set hv with hv | rfl
      · exact (h.low v hv).mono (by omega)
      · refine with_low h0 lw ?_
        have := (getV_low h0 lw ((d.who.toNat % 3 : Nat) : Int)).2
        unfold nextQ; omega
    · rcases List.mem_append.1 he with he | he
      · exact h.evs e he
      · rw [List.mem_singleton.1 he]; exact deedEv_ok lw.small
theorem hist_ok' : ∀ (l : List Deed) (s : List Vec × List Ev), HistOk s → HistOk (l.foldl hstep s)
  | [], _, h => h
  | d :: l, s, h => hist_ok' l _ (hstep_ok h d)
theorem hist_ok (l : List Deed) : HistOk (hist l) :=
  hist_ok' l _ ⟨rfl, fun v hv => by
    have : v = [] := by simpa using hv
    subst this; exact ⟨by simp, fun d hd => by cases hd⟩, fun e he => by cases he⟩
theorem hstep_len (s : List Vec × List Ev) (d : Deed) : (hstep s d).2.length ≤ s.2.length + 1 := by
  unfold hstep; split <;> simp
theorem hist_len' : ∀ (l : List Deed) (s : List Vec × List Ev), (l.foldl hstep s).2.length ≤ s.2.length + l.length
  | [], _ => by simp
  | d :: l, s => by
    have := hist_len' l (hstep s d)
    have := hstep_len s d
    simp only [List.foldl_cons, List.length_cons]; omega
theorem hist_len (l : List Deed) : (hist l).2.length ≤ l.length := by have := hist_len' l ([[], [], []], []); simpa [hist] using this
theorem hist_take {l : List Deed} {i : Nat} (h : i < l.length) : hist (l.take (i + 1)) = hstep (hist (l.take i)) (l.getD i deed0) := by
  unfold hist
  rw [List.take_add_one, List.getElem?_eq_getElem h, List.foldl_append, List.getD_eq_getElem?_getD, List.getElem?_eq_getElem h]; rfl

/-! Vectors, in and out. -/
def vec2v (f : Vec → Vec → AV) : PSp := fun args K => match args with
  | [.sl 2 xs none, .sl 2 ys none] => (match dotsOf xs, dotsOf ys with | some v, some u => Small v ∧ Small u ∧ K (f v u) | _, _ => False) | _ => False
theorem ask_vec2v {f} {v u : Vec} {K} : ask (vec2v f) [vecV v, vecV u] K = (Small v ∧ Small u ∧ K (f v u)) := by
  show (match dotsOf (vdots v), dotsOf (vdots u) with | some v, some u => Small v ∧ Small u ∧ K (f v u) | _, _ => False) = _
  rw [dotsOf_vdots, dotsOf_vdots]
theorem told_vec2v {F f} (h : ∀ v u, Small v → Small u → Pure Tryz.prog G F [vecV v, vecV u] (f v u)) : Told Tryz.prog G F (vec2v f) := by
  intro args K hk
  unfold vec2v at hk
  split at hk
  · split at hk
    · rename_i v u e1 e2
      rw [vdots_of e1, vdots_of e2]
      exact ⟨_, h _ _ hk.1 hk.2.1, hk.2.2⟩
    · exact hk.elim
  · exact hk.elim
def vecDotv (f : Vec → Int → Int → AV) : PSp := fun args K => match args with
  | [.sl 2 xs none, .agg [.imm (.int .i64 r), .imm (.int .i64 q)]] => (match dotsOf xs with | some v => Small v ∧ K (f v r q) | none => False) | _ => False
theorem ask_vecDotv {f} {v : Vec} {r q : Int} {K} : ask (vecDotv f) [vecV v, dotV r q] K = (Small v ∧ K (f v r q)) := by
  show (match dotsOf (vdots v) with | some v => Small v ∧ K (f v r q) | none => False) = _
  rw [dotsOf_vdots]
theorem told_vecDotv {F f} (h : ∀ v r q, Small v → Pure Tryz.prog G F [vecV v, dotV r q] (f v r q)) : Told Tryz.prog G F (vecDotv f) := by
  intro args K hk
  unfold vecDotv at hk
  split at hk
  · split at hk
    · rename_i v e
      rw [vdots_of e]
      exact ⟨_, h _ _ _ hk.1, hk.2⟩
    · exact hk.elim
  · exact hk.elim

/-! Three vectors in a box. -/
def knowC (k : List Vec) : List AV := k.map vecV
theorem knowC_len (k : List Vec) : (knowC k).length = k.length := by simp [knowC]
theorem knowC_get {k : List Vec} {w : Nat} (h : w < k.length) : (knowC k)[w]? = some (vecV (k.getD w [])) := by
  unfold knowC
  rw [List.getElem?_map, List.getElem?_eq_getElem h, List.getD_eq_getElem?_getD, List.getElem?_eq_getElem h]; rfl
theorem knowC_set {k : List Vec} {w : Nat} (h : w < k.length) (v : Vec) : (knowC k).take w ++ [vecV v] ++ (knowC k).drop (w + 1) = knowC (k.set w v) := by
  unfold knowC
  rw [List.map_set]
  rw [List.set_eq_take_append_cons_drop, if_pos (by simpa using h)]
  simp
theorem lows_know (n : Nat) : ∀ k : List Vec, lows n (knowC k)
  | [] => trivial
  | v :: k => ⟨⟨lows_vdots n v, fun k hk => by cases hk⟩, lows_know n k⟩
theorem know_strip (k : List Vec) : (knowC k).map AV.strip1 = knowC k := by simp [knowC, AV.strip1]
end Go.AL.Path

/- The reference's History, walked. -/
set_option linter.unusedSimpArgs false
set_option linter.unusedVariables false
set_option maxRecDepth 100000
namespace Go.AL.Path
open Go Go.RowKit Go.Proofs Go.AL

theorem mod3 {n : Int} (h : 0 ≤ n) : n.tmod 3 = ((n.toNat % 3 : Nat) : Int) := by
  rw [Int.tmod_eq_emod_of_nonneg h, Int.natCast_emod, Int.toNat_of_nonneg h]; rfl
theorem mod4 {n : Int} (h : 0 ≤ n) : n.tmod 4 = ((n.toNat % 4 : Nat) : Int) := by
  rw [Int.tmod_eq_emod_of_nonneg h, Int.natCast_emod, Int.toNat_of_nonneg h]; rfl
theorem deeds_get {l : List Deed} {i : Nat} (h : i < l.length) : (l.map deedV).getD i .junk = .agg (deedC (l.getD i deed0)) := by
  rw [List.getD_eq_getElem?_getD, List.getElem?_map, List.getD_eq_getElem?_getD, List.getElem?_eq_getElem h]; rfl
theorem deeds_len (l : List Deed) : (l.map deedV).length = l.length := List.length_map ..
theorem lows_deeds (n : Nat) : ∀ l : List Deed, lows n (l.map deedV)
  | [] => trivial
  | d :: l => ⟨⟨trivial, trivial, trivial, trivial, trivial, trivial, trivial⟩, lows_deeds n l⟩

def c15 : ACode := (.seq (.reg false 2 [⟨(.some 2), none, (.m (.nilT 30 38) 0), []⟩, ⟨(.some 3), none, (.m (.alloc [(.sl 0 [] none), (.sl 0 [] none), (.sl 0 [] none)] false) 1), []⟩]) (.seq (.reg false 1 [⟨(.some 4), none, (.m (.alloc [(.sl 0 [] none), (.sl 0 [] none), (.sl 0 [] none)] false) 0), []⟩]) (.seq (.reg false 1 [⟨(.some 5), none, (.m (.nilT 30 38) 0), []⟩]) (.seq (.reg false 1 [⟨(.some 11), none, (.m (.bsliceO 9 1) 0), [(.c (.imm (.string (B [97])))), (.c (.imm (.string (B [97, 47, 98])))), (.c (.imm (.string (B [99])))), (.c (.imm (.string (B [100]))))]⟩, ⟨(.some 6), none, (.q .mv), [(.t 11)]⟩]) (.seq (.seq (.reg false 0 [⟨(.some 7), none, (.q .mv), [(.c (.imm (.int .i64 0)))]⟩]) (.block 0 (.loop (.seq (.seq (.reg false 0 [⟨(.some 12), none, (.q .mv), [(.t 7)]⟩, ⟨(.some 13), none, (.q .mv), [(.t 0)]⟩, ⟨(.some 14), none, (.q .lenL), [(.t 13)]⟩, ⟨(.some 15), none, (.q (.bin .lss 3)), [(.t 12), (.t 14)]⟩, ⟨(.some 16), none, (.q .mv), [(.t 15)]⟩, ⟨(.some 17), (.some (16, true)), (.q .mv), [(.t 7)]⟩, ⟨(.some 18), (.some (16, true)), (.q (.bin .lss 3)), [(.t 17), (.c (.imm (.int .i64 40)))]⟩, ⟨(.some 19), none, (.q .pick), [(.t 16), (.t 18), (.c (.imm (.bool false)))]⟩]) (.cond (.t 19) .skip (.exit 0))) (.seq (.block 1 (.seq (.reg false 1 [⟨(.some 22), none, (.q .mv), [(.t 0)]⟩, ⟨(.some 23), none, (.q .mv), [(.t 7)]⟩, ⟨(.some 24), none, (.q (.iaddrS 6)), [(.t 22), (.t 23)]⟩, ⟨(.some 25), none, (.l (.loadA 6)), [(.t 24)]⟩, ⟨(.some 8), none, (.m (.alloc [(.imm (.int .u8 0)), (.imm (.int .u8 0)), (.imm (.int .u8 0)), (.imm (.bool false)), (.imm (.bool false)), (.imm (.int .u8 0))] false) 0), []⟩, ⟨none, none, (.e (.store 6)), [(.t 8), (.t 25)]⟩]) (.seq (.reg false 0 [⟨(.some 26), none, (.q (.faddr 0)), [(.t 8)]⟩, ⟨(.some 27), none, (.l .load1), [(.t 26)]⟩, ⟨(.some 28), none, (.q (.convI .i64)), [(.t 27)]⟩, ⟨(.some 29), none, (.q (.bin .rem 3)), [(.t 28), (.c (.imm (.int .i64 3)))]⟩, ⟨(.some 9), none, (.q .mv), [(.t 29)]⟩]) (.seq (.seq (.reg false 0 [⟨(.some 30), none, (.q (.faddr 3)), [(.t 8)]⟩, ⟨(.some 31), none, (.l .load1), [(.t 30)]⟩]) (.cond (.t 31) (.seq (.reg true 0 [⟨(.some 32), none, (.q .mv), [(.t 9)]⟩, ⟨(.some 33), none, (.q .mv), [(.t 9)]⟩, ⟨(.some 34), none, (.q (.iaddrA 3 1)), [(.t 4), (.t 33)]⟩, ⟨(.some 35), none, (.l .load1), [(.t 34)]⟩, ⟨(.some 36), none, (.q (.faddr 1)), [(.t 8)]⟩, ⟨(.some 37), none, (.l .load1), [(.t 36)]⟩, ⟨(.some 38), none, (.q (.convI .i64)), [(.t 37)]⟩, ⟨(.some 39), none, (.q (.bin .rem 3)), [(.t 38), (.c (.imm (.int .i64 3)))]⟩, ⟨(.some 40), none, (.q (.iaddrA 3 1)), [(.t 4), (.t 39)]⟩, ⟨(.some 41), none, (.l .load1), [(.t 40)]⟩, ⟨(.some 42), none, (.call true), [(.c (.fn (.func 41) [] [])), (.t 35), (.t 41)]⟩, ⟨(.some 43), none, (.q (.iaddrA 3 1)), [(.t 4), (.t 32)]⟩, ⟨none, none, (.e (.store 1)), [(.t 43), (.t 42)]⟩]) (.exit 1)) .skip)) (.seq (.reg true 1 [⟨(.some 44), none, (.q .mv), [(.t 9)]⟩, ⟨(.some 45), none, (.q .mv), [(.t 9)]⟩, ⟨(.some 46), none, (.q (.iaddrA 3 1)), [(.t 4), (.t 45)]⟩, ⟨(.some 47), none, (.l .load1), [(.t 46)]⟩, ⟨(.some 48), none, (.q .mv), [(.t 9)]⟩, ⟨(.some 49), none, (.call false), [(.c (.fn (.func 42) [] [])), (.t 47), (.t 48)]⟩, ⟨(.some 50), none, (.q (.bin .add 2)), [(.t 49), (.c (.imm (.int .i64 1)))]⟩, ⟨(.some 51), none, (.q (.build [(.imm (.int .i64 0)), (.imm (.int .i64 0))] [(0, 1), (1, 1)])), [(.t 44), (.t 50)]⟩, ⟨(.some 52), none, (.q .mv), [(.t 9)]⟩, ⟨(.some 53), none, (.q (.iaddrA 3 1)), [(.t 4), (.t 52)]⟩, ⟨(.some 54), none, (.l .load1), [(.t 53)]⟩, ⟨(.some 55), none, (.q .mv), [(.t 6)]⟩, ⟨(.some 56), none, (.q (.faddr 2)), [(.t 8)]⟩, ⟨(.some 57), none, (.l .load1), [(.t 56)]⟩, ⟨(.some 58), none, (.q (.convI .i64)), [(.t 57)]⟩, ⟨(.some 59), none, (.q (.bin .rem 3)), [(.t 58), (.c (.imm (.int .i64 4)))]⟩, ⟨(.some 60), none, (.q (.iaddrS 1)), [(.t 55), (.t 59)]⟩, ⟨(.some 61), none, (.l .load1), [(.t 60)]⟩, ⟨(.some 62), none, (.q (.faddr 5)), [(.t 8)]⟩, ⟨(.some 63), none, (.l .load1), [(.t 62)]⟩, ⟨(.some 64), none, (.q (.build [(.imm (.int .u8 0)), (.imm (.int .u8 0)), (.imm (.int .u8 0)), (.imm (.int .u8 0)), (.imm (.int .u8 0)), (.imm (.int .u8 0)), (.imm (.int .u8 0)), (.imm (.int .u8 0)), (.imm (.int .u8 0)), (.imm (.int .u8 0)), (.imm (.int .u8 0)), (.imm (.int .u8 0)), (.imm (.int .u8 0)), (.imm (.int .u8 0)), (.imm (.int .u8 0)), (.imm (.int .u8 0)), (.imm (.int .u8 0)), (.imm (.int .u8 0)), (.imm (.int .u8 0)), (.imm (.int .u8 0)), (.imm (.int .u8 0)), (.imm (.int .u8 0)), (.imm (.int .u8 0)), (.imm (.int .u8 0)), (.imm (.int .u8 0)), (.imm (.int .u8 0)), (.imm (.int .u8 0)), (.imm (.int .u8 0)), (.imm (.int .u8 0)), (.imm (.int .u8 0)), (.imm (.int .u8 0)), (.imm (.int .u8 0))] [(0, 1)])), [(.t 63)]⟩, ⟨(.some 65), none, (.q (.faddr 5)), [(.t 8)]⟩, ⟨(.some 66), none, (.l .load1), [(.t 65)]⟩, ⟨(.some 67), none, (.q (.convI .i64)), [(.t 66)]⟩, ⟨(.some 68), none, (.q (.build [(.imm (.int .i64 0)), (.imm (.int .i64 0)), (.sl 0 [] none), (.imm (.int .i64 0)), (.imm (.string (B []))), (.imm (.int .u8 0)), (.imm (.int .u8 0)), (.imm (.int .u8 0)), (.imm (.int .u8 0)), (.imm (.int .u8 0)), (.imm (.int .u8 0)), (.imm (.int .u8 0)), (.imm (.int .u8 0)), (.imm (.int .u8 0)), (.imm (.int .u8 0)), (.imm (.int .u8 0)), (.imm (.int .u8 0)), (.imm (.int .u8 0)), (.imm (.int .u8 0)), (.imm (.int .u8 0)), (.imm (.int .u8 0)), (.imm (.int .u8 0)), (.imm (.int .u8 0)), (.imm (.int .u8 0)), (.imm (.int .u8 0)), (.imm (.int .u8 0)), (.imm (.int .u8 0)), (.imm (.int .u8 0)), (.imm (.int .u8 0)), (.imm (.int .u8 0)), (.imm (.int .u8 0)), (.imm (.int .u8 0)), (.imm (.int .u8 0)), (.imm (.int .u8 0)), (.imm (.int .u8 0)), (.imm (.int .u8 0)), (.imm (.int .u8 0)), (.imm (.int .i64 0))] [(0, 2), (2, 1), (3, 1), (4, 1), (5, 32), (37, 1)])), [(.t 51), (.t 54), (.c (.imm (.int .i64 1))), (.t 61), (.t 64), (.t 67)]⟩, ⟨(.some 10), none, (.m (.alloc [(.imm (.int .i64 0)), (.imm (.int .i64 0)), (.sl 0 [] none), (.imm (.int .i64 0)), (.imm (.string (B []))), (.imm (.int .u8 0)), (.imm (.int .u8 0)), (.imm (.int .u8 0)), (.imm (.int .u8 0)), (.imm (.int .u8 0)), (.imm (.int .u8 0)), (.imm (.int .u8 0)), (.imm (.int .u8 0)), (.imm (.int .u8 0)), (.imm (.int .u8 0)), (.imm (.int .u8 0)), (.imm (.int .u8 0)), (.imm (.int .u8 0)), (.imm (.int .u8 0)), (.imm (.int .u8 0)), (.imm (.int .u8 0)), (.imm (.int .u8 0)), (.imm (.int .u8 0)), (.imm (.int .u8 0)), (.imm (.int .u8 0)), (.imm (.int .u8 0)), (.imm (.int .u8 0)), (.imm (.int .u8 0)), (.imm (.int .u8 0)), (.imm (.int .u8 0)), (.imm (.int .u8 0)), (.imm (.int .u8 0)), (.imm (.int .u8 0)), (.imm (.int .u8 0)), (.imm (.int .u8 0)), (.imm (.int .u8 0)), (.imm (.int .u8 0)), (.imm (.int .i64 0))] false) 0), []⟩, ⟨none, none, (.e (.store 38)), [(.t 10), (.t 68)]⟩]) (.seq (.seq (.reg false 0 [⟨(.some 69), none, (.q (.faddr 4)), [(.t 8)]⟩, ⟨(.some 70), none, (.l .load1), [(.t 69)]⟩]) (.cond (.t 70) (.seq (.reg false 0 [⟨(.some 71), none, (.q (.faddr 3)), [(.t 10)]⟩, ⟨none, none, (.e (.store 1)), [(.t 71), (.c (.imm (.int .i64 2)))]⟩]) (.seq (.reg false 0 [⟨(.some 72), none, (.q (.build [(.imm (.int .u8 0)), (.imm (.int .u8 0)), (.imm (.int .u8 0)), (.imm (.int .u8 0)), (.imm (.int .u8 0)), (.imm (.int .u8 0)), (.imm (.int .u8 0)), (.imm (.int .u8 0)), (.imm (.int .u8 0)), (.imm (.int .u8 0)), (.imm (.int .u8 0)), (.imm (.int .u8 0)), (.imm (.int .u8 0)), (.imm (.int .u8 0)), (.imm (.int .u8 0)), (.imm (.int .u8 0)), (.imm (.int .u8 0)), (.imm (.int .u8 0)), (.imm (.int .u8 0)), (.imm (.int .u8 0)), (.imm (.int .u8 0)), (.imm (.int .u8 0)), (.imm (.int .u8 0)), (.imm (.int .u8 0)), (.imm (.int .u8 0)), (.imm (.int .u8 0)), (.imm (.int .u8 0)), (.imm (.int .u8 0)), (.imm (.int .u8 0)), (.imm (.int .u8 0)), (.imm (.int .u8 0)), (.imm (.int .u8 0))] [])), []⟩, ⟨(.some 73), none, (.q (.faddr 5)), [(.t 10)]⟩, ⟨none, none, (.e (.store 32)), [(.t 73), (.t 72)]⟩]) (.reg false 0 [⟨(.some 74), none, (.q (.faddr 37)), [(.t 10)]⟩, ⟨none, none, (.e (.store 1)), [(.t 74), (.c (.imm (.int .i64 0)))]⟩]))) .skip)) (.seq (.reg true 0 [⟨(.some 75), none, (.q .mv), [(.t 9)]⟩, ⟨(.some 76), none, (.q .mv), [(.t 9)]⟩, ⟨(.some 77), none, (.q (.iaddrA 3 1)), [(.t 4), (.t 76)]⟩, ⟨(.some 78), none, (.l .load1), [(.t 77)]⟩, ⟨(.some 79), none, (.q (.faddr 0)), [(.t 10)]⟩, ⟨(.some 80), none, (.l (.loadA 2)), [(.t 79)]⟩, ⟨(.some 81), none, (.call true), [(.c (.fn (.func 43) [] [])), (.t 78), (.t 80)]⟩, ⟨(.some 82), none, (.q (.iaddrA 3 1)), [(.t 4), (.t 75)]⟩, ⟨none, none, (.e (.store 1)), [(.t 82), (.t 81)]⟩]) (.reg false 1 [⟨(.some 83), none, (.q .mv), [(.t 5)]⟩, ⟨(.some 84), none, (.l (.loadA 38)), [(.t 10)]⟩, ⟨(.some 85), none, (.m (.bsliceO 30 38) 0), [(.t 84)]⟩, ⟨(.some 86), none, (.e (.append 30 38 104)), [(.t 83), (.t 85)]⟩, ⟨(.some 5), none, (.q .mv), [(.t 86)]⟩])))))))) (.reg false 0 [⟨(.some 20), none, (.q .mv), [(.t 7)]⟩, ⟨(.some 21), none, (.q (.bin .add 3)), [(.t 20), (.c (.imm (.int .i64 1)))]⟩, ⟨(.some 7), none, (.q .mv), [(.t 21)]⟩])))))) (.seq (.reg true 0 [⟨(.some 87), none, (.q .mv), [(.t 5)]⟩, ⟨(.some 88), none, (.l (.loadA 3)), [(.t 4)]⟩, ⟨(.some 2), none, (.q .mv), [(.t 87)]⟩, ⟨none, none, (.e (.store 3)), [(.t 3), (.t 88)]⟩]) .ret))))))
theorem fn15 : IsFnC Tryz.prog 15 (List.range 200) c15 [(2, none), (3, some (38, .loadA 3))] 89 := ⟨⟨_, _, Tryz.func15, rfl, by decide +kernel, by kernel_rfl, rfl, rfl⟩, by intro r hr; simp only [List.mem_cons, List.not_mem_nil, or_false] at hr; first | (subst hr; kernel_rfl) | (rcases hr with rfl | rfl <;> kernel_rfl)⟩
set_option maxHeartbeats 16000000 in
theorem p15s (l : List Deed) (hd : AllDeed l) : Pure Tryz.prog G 15 [deedsV l] (.tup [evsV (hist (l.take 40)).2, .agg (knowC (hist (l.take 40)).1)]) := by
  refine pure_of_codeC (S := sp [(41, vec2v fun a b => vecV (joinV2 a b)), (42, vecInt fun v r => i64 (getV v r)), (43, vecDotv fun v r q => vecV (withV v r q))] []) hm hG (sp_holds (.cons (told_vec2v fun a b h1 h2 => p41' a b h1 h2) (.cons (told_vecInt fun v r h => p42' v r h) (.cons (told_vecDotv fun v r q h => p43' v r q h) .nil))) .nil) fn15 (St 11 89 [deedsV l, .junk, .junk, .junk, .junk, .junk, .junk, .junk, .junk, .junk, .junk] []) (by kernel_rfl) (by simp [lows, AV.low, lows_deeds]) (by simp [AV.low, lows, lows_evs, lows_know]) ?_
  simp (maxSteps := 2000000) -implicitDefEqProofs only [c15, RS, RX, Nat.reduceLT, ↓RP0, ↓RP1, ↓RP2, ↓RP3, RV, RW, ↓reduceIte, Nat.reduceAdd, Nat.reduceSub, Nat.reduceMul, Nat.reduceLeDiff, Nat.reduceEqDiff, Int.reduceLT, Int.reduceLE, Int.reduceEq, Int.reduceNe, Int.reduceAdd, Int.reduceSub, Int.reduceMul, Int.reduceNeg, Int.reduceToNat, reduceCtorEq]
  refine ⟨fun x hx => by
    simp only [List.mem_cons, List.not_mem_nil, or_false] at hx
    rcases hx with rfl | rfl | rfl | rfl <;> exact ⟨rfl, rfl⟩, ?_⟩
  have z3 : ([AV.sl 0 [] none, AV.sl 0 [] none, AV.sl 0 [] none] : List AV).length = 3 := rfl
  refine loopB (st := fun (i : Nat) => (St 11 89 [deedsV l, .junk, .junk, .ptr 1 0, .ptr 2 0, .sl 38 ((hist (l.take i)).2.map evV) (some 3), .sl 1 pathsL none, i64 i, .junk, .junk, .junk] [])) (hp := fun i => [.tok 30 38 0, .box [AV.sl 0 [] none, AV.sl 0 [] none, AV.sl 0 [] none], .box (knowC (hist (l.take i)).1), .tok 30 38 (hist (l.take i)).2.length]) (I := fun i => i ≤ l.length ∧ i ≤ 40) (m := fun i => l.length - i) (0 : Nat) ⟨Nat.zero_le _, by decide⟩ ?_ ?_
  · refine weak_cutNS 4 (by decide) ?_ ?_ ?_
    · refine ⟨.inl rfl, .inl rfl, .inr ⟨_, _, rfl, rfl, ?_⟩, .inl rfl, trivial⟩
      exact ⟨.inr ⟨0, 2, rfl, rfl⟩, .inr ⟨0, 2, rfl, rfl⟩, .inr ⟨0, 2, rfl, rfl⟩, trivial⟩
    · simp [AObj.low, lows, AV.low, lows_know]
    · simp [WeakL, AV.low, lows, lows_deeds, AV.strip, AV.strip1, pathsL, hist]
  · rintro i ⟨hi, hi40⟩
    have ok := hist_ok (l.take i)
    have hlen := hist_len (l.take i)
    have hlt40 : (l.take i).length ≤ i := by rw [List.length_take]; omega
    have k3' : (knowC (hist (l.take i)).1).length = 3 := by rw [knowC_len]; exact ok.three
    have kt : (knowC (hist (l.take i)).1).take 3 = knowC (hist (l.take i)).1 := List.take_of_length_le (by omega)
    by_cases hlt : i < l.length
    · have e3 : ((i : Int) < (l.length : Int)) = True := eq_true (by omega)
      by_cases h40 : i < 40
      · have e4 : ((i : Int) < 40) = True := eq_true (by omega)
        have e1 := deeds_get hlt
        have hst := hist_take hlt
        have hdk : DeedOk (l.getD i deed0) := hd _ (by rw [List.getD_eq_getElem?_getD, List.getElem?_eq_getElem hlt]; exact List.getElem_mem hlt)
        generalize l.getD i deed0 = d at *
        generalize hist (l.take i) = s at *
        obtain ⟨know, out⟩ := s
        dsimp only at hlen ok
        have k3 := ok.three
        dsimp only at k3
        obtain ⟨w, hw⟩ : ∃ w, d.who.toNat % 3 = w := ⟨_, rfl⟩
        obtain ⟨u, hu⟩ : ∃ u, d.other.toNat % 3 = u := ⟨_, rfl⟩
        obtain ⟨p, hp⟩ : ∃ p, d.path.toNat % 4 = p := ⟨_, rfl⟩
        have hw3 : w < 3 := by omega
        have hu3 : u < 3 := by omega
        have hp4 : p < 4 := by omega
        have m1 := mod3 hdk.who.1
        have m2 := mod3 hdk.other.1
        have m3 := mod4 hdk.path.1
        rw [hw] at m1
        rw [hu] at m2
        rw [hp] at m3
        have w1 : IntKind.i64.wrap d.who = d.who := In64.wrap ⟨by have := hdk.who; omega, by have := hdk.who; omega⟩
        have w2 : IntKind.i64.wrap d.other = d.other := In64.wrap ⟨by have := hdk.other; omega, by have := hdk.other; omega⟩
        have w3 : IntKind.i64.wrap d.path = d.path := In64.wrap ⟨by have := hdk.path; omega, by have := hdk.path; omega⟩
        have w4 : IntKind.i64.wrap d.size = d.size := In64.wrap ⟨by have := hdk.size; omega, by have := hdk.size; omega⟩
        have dc : deedC d = [.imm (.int .u8 d.who), .imm (.int .u8 d.other), .imm (.int .u8 d.path), bool d.learns, bool d.gone, .imm (.int .u8 d.size)] := rfl
        have kl := knowC_len know
        rw [k3] at kl
        have gw := knowC_get (k := know) (w := w) (by omega)
        have gu := knowC_get (k := know) (w := u) (by omega)
        have vs := (ok.low _ (getD_mem (l := know) (w := w) (by omega)))
        have us := (ok.low _ (getD_mem (l := know) (w := u) (by omega)))
        have gv := getV_low (Int.natCast_nonneg _) vs (w : Int)
        dsimp only at gv
        have vs' := vs.small
        have us' := us.small
        have sw := fun v => knowC_set (k := know) (w := w) (by omega) v
        have pg := pathsL_get hp4
        have hst' : hstep (know, out) d = if d.learns = true then (know.set w (joinV2 (know.getD w []) (know.getD u [])), out) else (know.set w (withV (know.getD w []) (w : Int) (nextQ (know.getD w []) w)), out ++ [deedEv w (know.getD w []) d]) := by
          unfold hstep; rw [hw, hu]
        rw [hst'] at hst
        clear hst'
        have dev : deedEv w (know.getD w []) d = ⟨(w : Int), nextQ (know.getD w []) w, know.getD w [], if d.gone = true then 2 else 1, pathAt p, if d.gone = true then List.replicate 32 0 else d.size :: List.replicate 31 0, if d.gone = true then 0 else d.size⟩ := by
          unfold deedEv; rw [hp]
        have iw : ((w : Int) < 3) = True := eq_true (by omega)
        have iu : ((u : Int) < 3) = True := eq_true (by omega)
        have ip : ((p : Int) < 4) = True := eq_true (by omega)
        have lw : w + 1 ≤ 3 := by omega
        cases hle : d.learns with
        | true =>
          rw [if_pos hle] at hst
          generalize hv : know.getD w [] = v at *
          generalize hv' : know.getD u [] = v' at *
          simp (maxSteps := 2000000) -implicitDefEqProofs only [RS, RX, Nat.reduceLT, ↓RP0, ↓RP1, ↓RP2, ↓RP3, RV, RW, ↓reduceIte, Nat.reduceAdd, Nat.reduceSub, Nat.reduceMul, Nat.reduceLeDiff, Nat.reduceEqDiff, Int.reduceLT, Int.reduceLE, Int.reduceEq, Int.reduceNe, Int.reduceAdd, Int.reduceSub, Int.reduceMul, Int.reduceNeg, Int.reduceToNat, reduceCtorEq, ↓ask_vec2v, ask_vec2v, e1, e3, e4, dc, m1, m2, m3, w1, w2, w3, w4, kl, gw, gu, iw, iu, ip, sw, vs', us', hle, deeds_len, Nat.mul_one]
          have goOn : ∀ (ov : List (Nat × AV)) (X : List AObj) (x9 x10 x8 : AV), Again 0 (fun (i : Nat) => (St 11 89 [deedsV l, .junk, .junk, .ptr 1 0, .ptr 2 0, .sl 38 ((hist (l.take i)).2.map evV) (some 3), .sl 1 pathsL none, i64 i, .junk, .junk, .junk] [])) (fun i => [.tok 30 38 0, .box [AV.sl 0 [] none, AV.sl 0 [] none, AV.sl 0 [] none], .box (knowC (hist (l.take i)).1), .tok 30 38 (hist (l.take i)).2.length]) (fun i => i ≤ l.length ∧ i ≤ 40) (fun i => l.length - i) i (St 11 89 [deedsV l, .junk, .junk, .ptr 1 0, .ptr 2 0, .sl 38 (out.map evV) (some 3), .sl 1 pathsL none, i64 ((i : Int) + 1), x8, x9, x10] ov)
              (.tok 30 38 0 :: .box [AV.sl 0 [] none, AV.sl 0 [] none, AV.sl 0 [] none] :: .box (knowC (know.set w (joinV2 v v'))) :: .tok 30 38 out.length :: X) := by
            intro ov X x9 x10 x8
            refine ⟨i + 1, by dsimp only; omega, ⟨by omega, by omega⟩, ?_⟩
            dsimp only
            rw [hst]
            refine weak_cutS 4 (by decide) (by simp) ?_ ?_
            · simp [AObj.low, lows, AV.low, lows_know]
            · simp [WeakL, AV.low, lows, lows_deeds, lows_evs, lows_ev, AV.strip, AV.strip1, pathsL]
          refine ⟨by omega, by omega, by omega, by omega, ⟨by omega, by omega⟩, goOn _ _ _ _ _⟩
        | false =>
          rw [if_neg (by rw [hle]; decide)] at hst
          generalize hv : know.getD w [] = v at *
          cases hg : d.gone with
          | true =>
            simp (maxSteps := 2000000) -implicitDefEqProofs only [RS, RX, Nat.reduceLT, ↓RP0, ↓RP1, ↓RP2, ↓RP3, RV, RW, ↓reduceIte, Nat.reduceAdd, Nat.reduceSub, Nat.reduceMul, Nat.reduceLeDiff, Nat.reduceEqDiff, Int.reduceLT, Int.reduceLE, Int.reduceEq, Int.reduceNe, Int.reduceAdd, Int.reduceSub, Int.reduceMul, Int.reduceNeg, Int.reduceToNat, reduceCtorEq, ↓ask_vecInt, ask_vecInt, ↓ask_vecDotv, ask_vecDotv, e1, e3, e4, dc, m1, m2, m3, w1, w2, w3, w4, kl, gw, iw, iu, ip, sw, vs', us', hle, hg, deeds_len, pathsL_len, pg, Nat.mul_one]
            have hdv : deedEv w v d = ⟨(w : Int), getV v (w : Int) + 1, v, 2, pathAt p, List.replicate 32 0, 0⟩ := by rw [dev, hg]; rfl
            have lev : (evCells ⟨(w : Int), getV v (w : Int) + 1, v, 2, pathAt p, List.replicate 32 0, 0⟩).length = 38 := by rw [← hdv]; exact ev_len (deedEv_ok vs').len
            have goOn : ∀ (ov : List (Nat × AV)) (X : List AObj) (x9 x10 x8 : AV), Again 0 (fun (i : Nat) => (St 11 89 [deedsV l, .junk, .junk, .ptr 1 0, .ptr 2 0, .sl 38 ((hist (l.take i)).2.map evV) (some 3), .sl 1 pathsL none, i64 i, .junk, .junk, .junk] [])) (fun i => [.tok 30 38 0, .box [AV.sl 0 [] none, AV.sl 0 [] none, AV.sl 0 [] none], .box (knowC (hist (l.take i)).1), .tok 30 38 (hist (l.take i)).2.length]) (fun i => i ≤ l.length ∧ i ≤ 40) (fun i => l.length - i) i (St 11 89 [deedsV l, .junk, .junk, .ptr 1 0, .ptr 2 0, .sl 38 (out.map evV ++ [.agg (evCells ⟨(w : Int), getV v (w : Int) + 1, v, 2, pathAt p, List.replicate 32 0, 0⟩)]) (some 3), .sl 1 pathsL none, i64 ((i : Int) + 1), x8, x9, x10] ov)
                (.tok 30 38 0 :: .box [AV.sl 0 [] none, AV.sl 0 [] none, AV.sl 0 [] none] :: .box (knowC (know.set w (withV v (w : Int) (getV v (w : Int) + 1)))) :: .tok 30 38 ((out.map evV).length + 1) :: X) := by
              intro ov X x9 x10 x8
              refine ⟨i + 1, by dsimp only; omega, ⟨by omega, by omega⟩, ?_⟩
              dsimp only
              rw [hst, hdv]
              refine weak_cutS 4 (by decide) (by simp [nextQ]) ?_ ?_
              · simp [AObj.low, lows, AV.low, lows_know]
              · simp [WeakL, AV.low, lows, lows_deeds, lows_evs, lows_ev, AV.strip, AV.strip1, pathsL]
            have ol : (out.map evV).length = out.length := List.length_map ..
            refine ⟨by omega, ⟨by omega, by omega⟩, by omega, by omega, by omega, by omega, by omega, (fun x hx => by rw [List.mem_singleton.1 hx]; exact ⟨rfl, rfl⟩), ol.symm, .inl trivial, .inl trivial, by omega, by omega, ⟨by omega, by omega⟩, ?_⟩
            exact goOn _ _ _ _ _
          | false =>
            simp (maxSteps := 2000000) -implicitDefEqProofs only [RS, RX, Nat.reduceLT, ↓RP0, ↓RP1, ↓RP2, ↓RP3, RV, RW, ↓reduceIte, Nat.reduceAdd, Nat.reduceSub, Nat.reduceMul, Nat.reduceLeDiff, Nat.reduceEqDiff, Int.reduceLT, Int.reduceLE, Int.reduceEq, Int.reduceNe, Int.reduceAdd, Int.reduceSub, Int.reduceMul, Int.reduceNeg, Int.reduceToNat, reduceCtorEq, ↓ask_vecInt, ask_vecInt, ↓ask_vecDotv, ask_vecDotv, e1, e3, e4, dc, m1, m2, m3, w1, w2, w3, w4, kl, gw, iw, iu, ip, sw, vs', us', hle, hg, deeds_len, pathsL_len, pg, Nat.mul_one]
            have hdv : deedEv w v d = ⟨(w : Int), getV v (w : Int) + 1, v, 1, pathAt p, d.size :: List.replicate 31 0, d.size⟩ := by rw [dev, hg]; rfl
            have lev : (evCells ⟨(w : Int), getV v (w : Int) + 1, v, 1, pathAt p, d.size :: List.replicate 31 0, d.size⟩).length = 38 := by rw [← hdv]; exact ev_len (deedEv_ok vs').len
            have goOn : ∀ (ov : List (Nat × AV)) (X : List AObj) (x9 x10 x8 : AV), Again 0 (fun (i : Nat) => (St 11 89 [deedsV l, .junk, .junk, .ptr 1 0, .ptr 2 0, .sl 38 ((hist (l.take i)).2.map evV) (some 3), .sl 1 pathsL none, i64 i, .junk, .junk, .junk] [])) (fun i => [.tok 30 38 0, .box [AV.sl 0 [] none, AV.sl 0 [] none, AV.sl 0 [] none], .box (knowC (hist (l.take i)).1), .tok 30 38 (hist (l.take i)).2.length]) (fun i => i ≤ l.length ∧ i ≤ 40) (fun i => l.length - i) i (St 11 89 [deedsV l, .junk, .junk, .ptr 1 0, .ptr 2 0, .sl 38 (out.map evV ++ [.agg (evCells ⟨(w : Int), getV v (w : Int) + 1, v, 1, pathAt p, d.size :: List.replicate 31 0, d.size⟩)]) (some 3), .sl 1 pathsL none, i64 ((i : Int) + 1), x8, x9, x10] ov)
                (.tok 30 38 0 :: .box [AV.sl 0 [] none, AV.sl 0 [] none, AV.sl 0 [] none] :: .box (knowC (know.set w (withV v (w : Int) (getV v (w : Int) + 1)))) :: .tok 30 38 ((out.map evV).length + 1) :: X) := by
              intro ov X x9 x10 x8
              refine ⟨i + 1, by dsimp only; omega, ⟨by omega, by omega⟩, ?_⟩
              dsimp only
              rw [hst, hdv]
              refine weak_cutS 4 (by decide) (by simp [nextQ]) ?_ ?_
              · simp [AObj.low, lows, AV.low, lows_know]
              · simp [WeakL, AV.low, lows, lows_deeds, lows_evs, lows_ev, AV.strip, AV.strip1, pathsL]
            have ol : (out.map evV).length = out.length := List.length_map ..
            refine ⟨by omega, ⟨by omega, by omega⟩, by omega, by omega, by omega, by omega, by omega, (fun x hx => by rw [List.mem_singleton.1 hx]; exact ⟨rfl, rfl⟩), ol.symm, .inl trivial, .inl trivial, by omega, by omega, ⟨by omega, by omega⟩, ?_⟩
            exact goOn _ _ _ _ _
      · have e4 : ((i : Int) < 40) = False := eq_false (by omega)
        have ht : l.take i = l.take 40 := by rw [show i = 40 by omega]
        simp (maxSteps := 2000000) -implicitDefEqProofs only [RS, RX, Nat.reduceLT, ↓RP0, ↓RP1, ↓RP2, ↓RP3, RV, RW, ↓reduceIte, Nat.reduceAdd, Nat.reduceSub, Nat.reduceMul, Nat.reduceLeDiff, Nat.reduceEqDiff, Int.reduceLT, Int.reduceLE, Int.reduceEq, Int.reduceNe, Int.reduceAdd, Int.reduceSub, Int.reduceMul, Int.reduceNeg, Int.reduceToNat, reduceCtorEq, e3, e4, deeds_len, k3', kt, know_strip]
        rw [ht]
    · have e3 : ((i : Int) < (l.length : Int)) = False := eq_false (by omega)
      have ht : l.take i = l.take 40 := by rw [List.take_of_length_le (by omega), List.take_of_length_le (by omega)]
      simp (maxSteps := 2000000) -implicitDefEqProofs only [RS, RX, Nat.reduceLT, ↓RP0, ↓RP1, ↓RP2, ↓RP3, RV, RW, ↓reduceIte, Nat.reduceAdd, Nat.reduceSub, Nat.reduceMul, Nat.reduceLeDiff, Nat.reduceEqDiff, Int.reduceLT, Int.reduceLE, Int.reduceEq, Int.reduceNe, Int.reduceAdd, Int.reduceSub, Int.reduceMul, Int.reduceNeg, Int.reduceToNat, reduceCtorEq, e3, deeds_len, k3', kt, know_strip]
      rw [ht]
end Go.AL.Path

/- Specifications in general; awake. -/
set_option linter.unusedSimpArgs false
set_option linter.unusedVariables false
set_option maxRecDepth 100000
namespace Go.AL.Path
open Go Go.RowKit Go.Proofs Go.AL

/-- A call whose arguments are those of some x. -/
def spOn {X : Type} (enc : X → List AV) (pre : X → Prop) (f : X → AV) : PSp := fun args K => ∃ x, args = enc x ∧ pre x ∧ K (f x)
def spOnB {X : Type} (enc : X → List AV) (pre : X → Prop) (f : X → Bool) : PSp := fun args K => ∃ x, args = enc x ∧ pre x ∧ splitB (f x) K
section
variable {X : Type} {enc : X → List AV} {pre : X → Prop}
theorem told_spOn {F} {f : X → AV} (h : ∀ x, pre x → Pure Tryz.prog G F (enc x) (f x)) : Told Tryz.prog G F (spOn enc pre f) := by
  rintro args K ⟨x, rfl, h1, h2⟩
  exact ⟨_, h x h1, h2⟩
theorem told_spOnB {F} {f : X → Bool} (h : ∀ x, pre x → Pure Tryz.prog G F (enc x) (bool (f x))) : Told Tryz.prog G F (spOnB enc pre f) := by
  rintro args K ⟨x, rfl, h1, h2⟩
  exact ⟨_, h x h1, splitB_of h2⟩
theorem ask_spOn {f : X → AV} (inj : ∀ x y, pre x → pre y → enc x = enc y → x = y) {x : X} (hx : pre x) {args K} (ha : args = enc x) : ask (spOn enc pre f) args K = K (f x) := by
  subst ha
  show (∃ y, enc x = enc y ∧ pre y ∧ K (f y)) = _
  simp only [eq_iff_iff]
  constructor
  · rintro ⟨y, h1, h2, h3⟩
    rw [inj x y hx h2 h1]; exact h3
  · exact fun h => ⟨x, rfl, hx, h⟩
theorem ask_spOnB {f : X → Bool} (inj : ∀ x y, pre x → pre y → enc x = enc y → x = y) {x : X} (hx : pre x) {args K} (ha : args = enc x) : ask (spOnB enc pre f) args K = splitB (f x) K := by
  subst ha
  show (∃ y, enc x = enc y ∧ pre y ∧ splitB (f y) K) = _
  simp only [eq_iff_iff]
  constructor
  · rintro ⟨y, h1, h2, h3⟩
    rw [inj x y hx h2 h1]; exact h3
  · exact fun h => ⟨x, rfl, hx, h⟩
end

/-! Lists of events. -/
abbrev Evs (n : Nat) (l : List Ev) : Prop := AllOk l ∧ l.length ≤ n
abbrev EvsIn (n : Nat) (l : List Ev) : Prop := AllOk l ∧ AllIn l ∧ l.length ≤ n
abbrev e1 (l : List Ev) : List AV := [evsV l]
theorem e1_inj {l m : List Ev} (hl : AllOk l) (hm : AllOk m) (h : e1 l = e1 m) : l = m := by
  have h5 : l.map evV = m.map evV := by injection h with h1 _; injection h1
  exact evs_inj hl hm h5
/-- Whether they are heads. -/
def mayS (f : List Ev → Bool) : PSp := spOnB e1 (EvsIn 1099511627) f
theorem ask_mayS {f} {l : List Ev} (h : EvsIn 1099511627 l) {K} : ask (mayS f) [evsV l] K = splitB (f l) K := ask_spOnB (fun x y hx hy he => e1_inj hx.1 hy.1 he) h rfl
theorem told_mayS {F f} (h : ∀ l, EvsIn 1099511627 l → Pure Tryz.prog G F [evsV l] (bool (f l))) : Told Tryz.prog G F (mayS f) := told_spOnB h
def evs1b (f : List Ev → Bool) : PSp := spOnB e1 (Evs 1099511627) f
theorem ask_evs1b {f} {l : List Ev} (h : Evs 1099511627 l) {K} : ask (evs1b f) [evsV l] K = splitB (f l) K := ask_spOnB (fun x y hx hy he => e1_inj hx.1 hy.1 he) h rfl
theorem told_evs1b {F f} (h : ∀ l, Evs 1099511627 l → Pure Tryz.prog G F [evsV l] (bool (f l))) : Told Tryz.prog G F (evs1b f) := told_spOnB h
def evs1 (f : List Ev → List Ev) : PSp := spOn e1 (Evs 1099511627) fun l => evsV (f l)
theorem ask_evs1 {f} {l : List Ev} (h : Evs 1099511627 l) {K} : ask (evs1 f) [evsV l] K = K (evsV (f l)) := ask_spOn (fun x y hx hy he => e1_inj hx.1 hy.1 he) h rfl
theorem told_evs1 {F f} (h : ∀ l, Evs 1099511627 l → Pure Tryz.prog G F [evsV l] (evsV (f l))) : Told Tryz.prog G F (evs1 f) := told_spOn h
/-- Two lists. -/
def evs2 (f : List Ev → List Ev → List Ev) : PSp := spOn (fun x : List Ev × List Ev => [evsV x.1, evsV x.2]) (fun x => Evs 1099511 x.1 ∧ Evs 1099511 x.2) fun x => evsV (f x.1 x.2)
theorem ask_evs2 {f} {l m : List Ev} (h : Evs 1099511 l) (h' : Evs 1099511 m) {K} : ask (evs2 f) [evsV l, evsV m] K = K (evsV (f l m)) :=
  ask_spOn (x := (l, m)) (fun x y hx hy he => by
    obtain ⟨x1, x2⟩ := x
    obtain ⟨y1, y2⟩ := y
    injection he with h1 h2
    have a : x1 = y1 := e1_inj hx.1.1 hy.1.1 (by rw [e1]; rw [e1]; rw [h1])
    have b : x2 = y2 := e1_inj hx.2.1 hy.2.1 h2
    rw [a, b]) ⟨h, h'⟩ rfl
theorem told_evs2 {F f} (h : ∀ l m, Evs 1099511 l → Evs 1099511 m → Pure Tryz.prog G F [evsV l, evsV m] (evsV (f l m))) : Told Tryz.prog G F (evs2 f) := told_spOn fun x hx => h x.1 x.2 hx.1 hx.2

/-! Deeds. -/
theorem deed_inj {d e : Deed} (h : deedV d = deedV e) : d = e := by
  cases d; cases e
  simpa [deedC, u8] using h
theorem deeds_inj : ∀ {a b : List Deed}, a.map deedV = b.map deedV → a = b
  | [], [], _ => rfl
  | [], _ :: _, h => by simp at h
  | _ :: _, [], h => by simp at h
  | d :: a, e :: b, h => by
    rw [List.map_cons, List.map_cons] at h
    obtain ⟨h1, h2⟩ := List.cons.inj h
    rw [deed_inj h1, deeds_inj h2]
abbrev histAV (l : List Deed) : AV := .tup [evsV (hist (l.take 40)).2, .agg (knowC (hist (l.take 40)).1)]
def histS : PSp := spOn (fun l : List Deed => [deedsV l]) AllDeed histAV
theorem ask_histS {l : List Deed} (h : AllDeed l) {K} : ask histS [deedsV l] K = K (histAV l) :=
  ask_spOn (fun x y _ _ he => by
    have h5 : x.map deedV = y.map deedV := by injection he with h1 _; injection h1
    exact deeds_inj h5) h rfl
theorem told_histS : Told Tryz.prog G 15 histS := told_spOn p15s

/-! awake: an event that another one knows. -/
def wake : List Deed := [⟨0, 0, 0, false, false, 1⟩, ⟨0, 0, 0, false, false, 2⟩]
def wakeA : Ev := ⟨0, 1, [], 1, [97], 1 :: List.replicate 31 0, 1⟩
def wakeB : Ev := ⟨0, 2, [(0, 1)], 1, [97], 2 :: List.replicate 31 0, 2⟩
theorem wake_ev : (hist (wake.take 40)).2 = [wakeA, wakeB] := by decide +kernel
theorem wake_k : (hist (wake.take 40)).1.length = 3 := by decide +kernel
theorem wake_1 : addP [wakeA] wakeB = [wakeB] := by decide +kernel
theorem wake_2 : addP [wakeB] wakeA = [wakeB] := by decide +kernel
theorem wake_3 : mayHeads [wakeB] = true := by decide +kernel
theorem wakeA_ok : EvOk wakeA := ⟨by decide, by decide, by decide⟩
theorem wakeB_ok : EvOk wakeB := ⟨by decide, by decide, by decide⟩
theorem one_ok {e : Ev} (h : EvOk e) : AllOk [e] := fun x hx => by rw [List.mem_singleton.1 hx]; exact h

def c8 : ACode := (.seq (.reg false 0 [⟨(.some 0), none, (.q .mv), [(.c (.imm (.bool false)))]⟩]) (.seq (.reg false 1 [⟨(.some 6), none, (.q (.build [(.imm (.int .u8 0)), (.imm (.int .u8 0)), (.imm (.int .u8 0)), (.imm (.bool false)), (.imm (.bool false)), (.imm (.int .u8 0))] [(5, 1)])), [(.c (.imm (.int .u8 1)))]⟩, ⟨(.some 7), none, (.q (.build [(.imm (.int .u8 0)), (.imm (.int .u8 0)), (.imm (.int .u8 0)), (.imm (.bool false)), (.imm (.bool false)), (.imm (.int .u8 0))] [(5, 1)])), [(.c (.imm (.int .u8 2)))]⟩, ⟨(.some 8), none, (.q (.bslice 6)), [(.t 6), (.t 7)]⟩, ⟨(.some 9), none, (.call true), [(.c (.fn (.func 15) [] [])), (.t 8)]⟩, ⟨(.some 5), none, (.q .mv), [(.t 9)]⟩, ⟨(.some 10), none, (.q (.ext 0)), [(.t 5)]⟩, ⟨(.some 11), none, (.q (.ext 1)), [(.t 5)]⟩, ⟨(.some 2), none, (.m (.alloc [(.sl 0 [] none), (.sl 0 [] none), (.sl 0 [] none)] false) 0), []⟩, ⟨(.some 1), none, (.q .mv), [(.t 10)]⟩, ⟨none, none, (.e (.store 3)), [(.t 2), (.t 11)]⟩]) (.seq (.seq (.reg false 0 [⟨(.some 12), none, (.q .mv), [(.t 1)]⟩, ⟨(.some 13), none, (.q .lenL), [(.t 12)]⟩, ⟨(.some 14), none, (.q (.bin .neq 3)), [(.t 13), (.c (.imm (.int .i64 2)))]⟩]) (.cond (.t 14) (.seq (.reg false 0 [⟨(.some 0), none, (.q .mv), [(.c (.imm (.bool false)))]⟩]) .ret) .skip)) (.seq (.reg true 0 [⟨(.some 15), none, (.q .mv), [(.t 1)]⟩, ⟨(.some 16), none, (.q (.sliceL 38 false true false)), [(.t 15), (.c (.imm (.int .i64 1)))]⟩, ⟨(.some 17), none, (.q .mv), [(.t 1)]⟩, ⟨(.some 18), none, (.q (.iaddrS 38)), [(.t 17), (.c (.imm (.int .i64 1)))]⟩, ⟨(.some 19), none, (.l (.loadA 38)), [(.t 18)]⟩, ⟨(.some 20), none, (.call true), [(.c (.fn (.func 11) [] [])), (.t 16), (.t 19)]⟩, ⟨(.some 3), none, (.q .mv), [(.t 20)]⟩]) (.seq (.reg true 0 [⟨(.some 21), none, (.q .mv), [(.t 1)]⟩, ⟨(.some 22), none, (.q (.sliceL 38 true false false)), [(.t 21), (.c (.imm (.int .i64 1)))]⟩, ⟨(.some 23), none, (.q .mv), [(.t 1)]⟩, ⟨(.some 24), none, (.q (.iaddrS 38)), [(.t 23), (.c (.imm (.int .i64 0)))]⟩, ⟨(.some 25), none, (.l (.loadA 38)), [(.t 24)]⟩, ⟨(.some 26), none, (.call true), [(.c (.fn (.func 11) [] [])), (.t 22), (.t 25)]⟩, ⟨(.some 4), none, (.q .mv), [(.t 26)]⟩]) (.seq (.reg false 0 [⟨(.some 27), none, (.q .mv), [(.t 3)]⟩, ⟨(.some 28), none, (.q .lenL), [(.t 27)]⟩, ⟨(.some 29), none, (.q (.bin .eql 3)), [(.t 28), (.c (.imm (.int .i64 1)))]⟩, ⟨(.some 30), none, (.q .mv), [(.t 29)]⟩, ⟨(.some 31), (.some (30, true)), (.q .mv), [(.t 4)]⟩, ⟨(.some 32), (.some (30, true)), (.q .lenL), [(.t 31)]⟩, ⟨(.some 33), (.some (30, true)), (.q (.bin .eql 3)), [(.t 32), (.c (.imm (.int .i64 1)))]⟩, ⟨(.some 34), none, (.q .pick), [(.t 30), (.t 33), (.c (.imm (.bool false)))]⟩, ⟨(.some 35), none, (.q .mv), [(.t 34)]⟩, ⟨(.some 36), (.some (35, true)), (.q .mv), [(.t 3)]⟩, ⟨(.some 37), (.some (35, true)), (.q (.iaddrS 38)), [(.t 36), (.c (.imm (.int .i64 0)))]⟩, ⟨(.some 38), (.some (35, true)), (.q (.faddr 37)), [(.t 37)]⟩, ⟨(.some 39), (.some (35, true)), (.l .load1), [(.t 38)]⟩, ⟨(.some 40), (.some (35, true)), (.q (.bin .eql 3)), [(.t 39), (.c (.imm (.int .i64 2)))]⟩, ⟨(.some 41), none, (.q .pick), [(.t 35), (.t 40), (.c (.imm (.bool false)))]⟩, ⟨(.some 42), none, (.q .mv), [(.t 41)]⟩, ⟨(.some 43), (.some (42, true)), (.q .mv), [(.t 4)]⟩, ⟨(.some 44), (.some (42, true)), (.q (.iaddrS 38)), [(.t 43), (.c (.imm (.int .i64 0)))]⟩, ⟨(.some 45), (.some (42, true)), (.q (.faddr 37)), [(.t 44)]⟩, ⟨(.some 46), (.some (42, true)), (.l .load1), [(.t 45)]⟩, ⟨(.some 47), (.some (42, true)), (.q (.bin .eql 3)), [(.t 46), (.c (.imm (.int .i64 2)))]⟩, ⟨(.some 48), none, (.q .pick), [(.t 42), (.t 47), (.c (.imm (.bool false)))]⟩, ⟨(.some 49), none, (.q .mv), [(.t 48)]⟩, ⟨(.some 50), (.some (49, true)), (.q .mv), [(.t 3)]⟩, ⟨(.some 51), (.some (49, true)), (.call true), [(.c (.fn (.func 10) [] [])), (.t 50)]⟩, ⟨(.some 52), none, (.q .pick), [(.t 49), (.t 51), (.c (.imm (.bool false)))]⟩, ⟨(.some 0), none, (.q .mv), [(.t 52)]⟩]) .ret))))))
theorem fn8 : IsFn Tryz.prog 8 [] c8 [0] 53 := ⟨_, _, Tryz.func8, rfl, by decide +kernel, by kernel_rfl, rfl, rfl⟩
set_option maxHeartbeats 8000000 in
theorem p8s : Pure Tryz.prog G 8 [] (bool true) := by
  refine pure_of_code' (S := sp [(15, histS), (11, evs1e addP), (10, mayS mayHeads)] []) hm hG (sp_holds (.cons told_histS (.cons (told_evs1e fun a e ha he hs => p11c a e ha he hs) (.cons (told_mayS fun l h => p10c l h.1 h.2.1 h.2.2) .nil))) .nil) fn8 (St 6 53 [.junk, .junk, .junk, .junk, .junk, .junk] []) (by kernel_rfl) (by simp [lows]) (by simp [AV.low]) ?_
  have ow : AllDeed wake := by
    intro d hd
    simp only [wake, List.mem_cons, List.not_mem_nil, or_false] at hd
    rcases hd with rfl | rfl <;> exact ⟨by decide, by decide, by decide, by decide⟩
  have q15 : ∀ K, ask histS [.sl 6 [.agg [.imm (.int .u8 0), .imm (.int .u8 0), .imm (.int .u8 0), .imm (.bool false), .imm (.bool false), .imm (.int .u8 1)], .agg [.imm (.int .u8 0), .imm (.int .u8 0), .imm (.int .u8 0), .imm (.bool false), .imm (.bool false), .imm (.int .u8 2)]] none] K = K (.tup [.sl 38 [.agg (evCells wakeA), .agg (evCells wakeB)] none, .agg (knowC (hist (wake.take 40)).1)]) := fun K => by
    have := ask_histS ow (K := K)
    rw [histAV, wake_ev] at this
    exact this
  have q1 : ∀ K, ask (evs1e addP) [.sl 38 [.agg (evCells wakeA)] none, .agg (evCells wakeB)] K = K (.sl 38 [.agg (evCells wakeB)] none) := fun K => by
    have := ask_evs1e (g := addP) (K := K) (one_ok wakeA_ok) wakeB_ok
    rw [wake_1] at this
    exact this.trans (eq_iff_iff.2 ⟨fun h => h.2, fun h => ⟨by decide, h⟩⟩)
  have q2 : ∀ K, ask (evs1e addP) [.sl 38 [.agg (evCells wakeB)] none, .agg (evCells wakeA)] K = K (.sl 38 [.agg (evCells wakeB)] none) := fun K => by
    have := ask_evs1e (g := addP) (K := K) (one_ok wakeB_ok) wakeA_ok
    rw [wake_2] at this
    exact this.trans (eq_iff_iff.2 ⟨fun h => h.2, fun h => ⟨by decide, h⟩⟩)
  have q3 : ∀ K, ask (mayS mayHeads) [.sl 38 [.agg (evCells wakeB)] none] K = K (bool true) := fun K => by
    have := ask_mayS (f := mayHeads) (l := [wakeB]) ⟨one_ok wakeB_ok, fun x hx => by rw [List.mem_singleton.1 hx]; exact ⟨⟨by decide, by decide⟩, ⟨by decide, by decide⟩⟩, by decide⟩ (K := K)
    rw [wake_3, splitB_eq] at this
    exact this.trans (eq_iff_iff.2 ⟨fun h => h.1 rfl, fun h => ⟨fun _ => h, fun h1 => absurd rfl h1⟩⟩)
  have lA := ev_len wakeA_ok.len
  have lB := ev_len wakeB_ok.len
  have kA := take38 wakeA_ok
  have kB := take38 wakeB_ok
  have sB : (evCells wakeB)[37]? = some (i64 2) := ev_size wakeB_ok.len
  have tA : (evCells wakeA).map AV.strip1 = evCells wakeA := ev_strip
  have tB : (evCells wakeB).map AV.strip1 = evCells wakeB := ev_strip
  have tk := know_strip (hist (wake.take 40)).1
  have lk := knowC_len (hist (wake.take 40)).1
  rw [wake_k] at lk
  generalize knowC (hist (wake.take 40)).1 = kc at *
  generalize evCells wakeA = cA at *
  generalize evCells wakeB = cB at *
  simp (maxSteps := 2000000) -implicitDefEqProofs only [c8, RS, RX, Nat.reduceLT, ↓RP0, ↓RP1, ↓RP2, ↓RP3, RV, RW, ↓reduceIte, Nat.reduceAdd, Nat.reduceSub, Nat.reduceMul, Nat.reduceLeDiff, Nat.reduceEqDiff, Int.reduceLT, Int.reduceLE, Int.reduceEq, Int.reduceNe, Int.reduceAdd, Int.reduceSub, Int.reduceMul, Int.reduceNeg, Int.reduceToNat, reduceCtorEq, ↓q15, q15, ↓q1, q1, ↓q2, q2, ↓q3, q3, lA, lB, kA, kB, sB, lk, tA, tB, tk, AV.cells, List.getD_cons_zero, List.getD_cons_succ, Int.cast_ofNat_Int, Int.natCast_one]
  exact ⟨fun x hx => by
    simp only [List.mem_cons, List.not_mem_nil, or_false] at hx
    rcases hx with rfl | rfl <;> exact ⟨rfl, rfl⟩, .inl trivial, .inl trivial⟩
end Go.AL.Path
