/- Specifications of functions of texts and numbers; contracts that answer several values. -/
import Derived.Test.YtfilcbnobmnopaaDoorA23
set_option linter.unusedSimpArgs false
set_option linter.unusedVariables false
namespace Go.AL
open Go Go.RowKit

/-- As long as a text may be for what is proved here. -/
abbrev Lim : Nat := 1099511627776

def splitB (b : Bool) (K : AV → Prop) : Prop := (b = true → K (bool true)) ∧ (b = false → K (bool false))
theorem splitB_of {b : Bool} {K : AV → Prop} (h : splitB b K) : K (bool b) := by cases b; exact h.2 rfl; exact h.1 rfl

/-- One text; two; three. -/
def txt1 (pre : List UInt8 → Prop) (f : List UInt8 → AV) : PSp := fun args K => match args with
  | [.imm (.string a)] => pre a.data.toList ∧ K (f a.data.toList) | _ => False
def txt2 (pre : List UInt8 → List UInt8 → Prop) (f : List UInt8 → List UInt8 → AV) : PSp := fun args K => match args with
  | [.imm (.string a), .imm (.string b)] => pre a.data.toList b.data.toList ∧ K (f a.data.toList b.data.toList) | _ => False
def txt1b (pre : List UInt8 → Prop) (f : List UInt8 → Bool) : PSp := fun args K => match args with
  | [.imm (.string a)] => pre a.data.toList ∧ splitB (f a.data.toList) K | _ => False
def txt2b (pre : List UInt8 → List UInt8 → Prop) (f : List UInt8 → List UInt8 → Bool) : PSp := fun args K => match args with
  | [.imm (.string a), .imm (.string b)] => pre a.data.toList b.data.toList ∧ splitB (f a.data.toList b.data.toList) K | _ => False
/-- A number of 64 bits. -/
def num1 (pre : Int → Prop) (f : Int → AV) : PSp := fun args K => match args with
  | [.imm (.int .i64 a)] => pre a ∧ K (f a) | _ => False
/-- A number of 64 bits, beside one that is written. -/
def num1c (c : Int) (pre : Int → Prop) (f : Int → AV) : PSp := fun args K => match args with
  | [.imm (.int .i64 a), .imm (.int .i64 b)] => b = c ∧ pre a ∧ K (f a) | _ => False
/-- A text, beside one that is written. -/
def txt1c (c : List UInt8) (pre : List UInt8 → Prop) (f : List UInt8 → AV) : PSp := fun args K => match args with
  | [.imm (.string a), .imm (.string b)] => b = B c ∧ pre a.data.toList ∧ K (f a.data.toList) | _ => False
def txt1cb (c : List UInt8) (pre : List UInt8 → Prop) (f : List UInt8 → Bool) : PSp := fun args K => match args with
  | [.imm (.string a), .imm (.string b)] => b = B c ∧ pre a.data.toList ∧ splitB (f a.data.toList) K | _ => False
def splitT (x : AV) (b : Bool) (K : AV → Prop) : Prop := (b = true → K (.tup [x, bool true])) ∧ (b = false → K (.tup [x, bool false]))
theorem splitT_of {x : AV} {b : Bool} {K : AV → Prop} (h : splitT x b K) : K (.tup [x, bool b]) := by cases b; exact h.2 rfl; exact h.1 rfl
def txt2t (pre : List UInt8 → List UInt8 → Prop) (f : List UInt8 → List UInt8 → AV) (g : List UInt8 → List UInt8 → Bool) : PSp := fun args K => match args with
  | [.imm (.string a), .imm (.string b)] => pre a.data.toList b.data.toList ∧ splitT (f a.data.toList b.data.toList) (g a.data.toList b.data.toList) K | _ => False
/-- A byte. -/
def byte1b (pre : Int → Prop) (f : Int → Bool) : PSp := fun args K => match args with
  | [.imm (.int .u8 a)] => pre a ∧ splitB (f a) K | _ => False
/-- Nothing. -/
def none0 (r : AV) : PSp := fun args K => match args with | [] => K r | _ => False

section
variable {K : AV → Prop}
theorem ask_txt1 {pre f l} : ask (txt1 pre f) [T l] K = (pre l ∧ K (f l)) := rfl
theorem ask_txt2 {pre f l m} : ask (txt2 pre f) [T l, T m] K = (pre l m ∧ K (f l m)) := rfl
theorem ask_txt1b {pre f l} : ask (txt1b pre f) [T l] K = (pre l ∧ splitB (f l) K) := rfl
theorem ask_txt2b {pre f l m} : ask (txt2b pre f) [T l, T m] K = (pre l m ∧ splitB (f l m) K) := rfl
theorem ask_num1 {pre f n} : ask (num1 pre f) [i64 n] K = (pre n ∧ K (f n)) := rfl
theorem ask_num1c {c pre f n b} : ask (num1c c pre f) [i64 n, i64 b] K = (b = c ∧ pre n ∧ K (f n)) := rfl
theorem ask_txt1c {c pre f l m} : ask (txt1c c pre f) [T l, T m] K = (m = c ∧ pre l ∧ K (f l)) := by
  show (B m = B c ∧ _) = _; rw [B_inj]; rfl
theorem ask_txt1cb {c pre f l m} : ask (txt1cb c pre f) [T l, T m] K = (m = c ∧ pre l ∧ splitB (f l) K) := by
  show (B m = B c ∧ _) = _; rw [B_inj]; rfl
theorem ask_txt2t {pre f g l m} : ask (txt2t pre f g) [T l, T m] K = (pre l m ∧ splitT (f l m) (g l m) K) := rfl
theorem splitT_eq {x b} : splitT x b K = SplitP (b = true) (K (.tup [x, bool true])) (K (.tup [x, bool false])) := by cases b <;> simp [splitT, SplitP]
@[congr] theorem splitT_congr {x x' b b'} (h : x = x') (hb : b = b') : splitT x b K = splitT x' b' K := by rw [h, hb]
theorem ask_byte1b {pre f n} : ask (byte1b pre f) [.imm (.int .u8 n)] K = (pre n ∧ splitB (f n) K) := rfl
theorem ask_none0 {r} : ask (none0 r) [] K = K r := rfl
theorem splitB_eq {b} : splitB b K = SplitP (b = true) (K (bool true)) (K (bool false)) := by cases b <;> simp [splitB, SplitP]
@[congr] theorem splitB_congr {b b'} (h : b = b') : splitB b K = splitB b' K := by rw [h]
end

section
variable {P : Program} {G : Nat → Option (List AV)} {F : FuncId}
theorem told_txt1 {pre f} (h : ∀ l, pre l → Pure P G F [T l] (f l)) : Told P G F (txt1 pre f) := by
  intro args K hk
  unfold txt1 at hk
  split at hk
  · exact ⟨_, h _ hk.1, hk.2⟩
  · exact hk.elim
theorem told_txt2 {pre f} (h : ∀ l m, pre l m → Pure P G F [T l, T m] (f l m)) : Told P G F (txt2 pre f) := by
  intro args K hk
  unfold txt2 at hk
  split at hk
  · exact ⟨_, h _ _ hk.1, hk.2⟩
  · exact hk.elim
theorem told_txt1b {pre f} (h : ∀ l, pre l → Pure P G F [T l] (bool (f l))) : Told P G F (txt1b pre f) := by
  intro args K hk
  unfold txt1b at hk
  split at hk
  · exact ⟨_, h _ hk.1, splitB_of hk.2⟩
  · exact hk.elim
theorem told_txt2b {pre f} (h : ∀ l m, pre l m → Pure P G F [T l, T m] (bool (f l m))) : Told P G F (txt2b pre f) := by
  intro args K hk
  unfold txt2b at hk
  split at hk
  · exact ⟨_, h _ _ hk.1, splitB_of hk.2⟩
  · exact hk.elim
theorem told_num1 {pre f} (h : ∀ l, pre l → Pure P G F [i64 l] (f l)) : Told P G F (num1 pre f) := by
  intro args K hk
  unfold num1 at hk
  split at hk
  · exact ⟨_, h _ hk.1, hk.2⟩
  · exact hk.elim
theorem told_num1c {c pre f} (h : ∀ l, pre l → Pure P G F [i64 l, i64 c] (f l)) : Told P G F (num1c c pre f) := by
  intro args K hk
  unfold num1c at hk
  split at hk
  · obtain ⟨rfl, h1, h2⟩ := hk; exact ⟨_, h _ h1, h2⟩
  · exact hk.elim
theorem told_txt1c {c pre f} (h : ∀ l, pre l → Pure P G F [T l, T c] (f l)) : Told P G F (txt1c c pre f) := by
  intro args K hk
  unfold txt1c at hk
  split at hk
  · obtain ⟨rfl, h1, h2⟩ := hk; exact ⟨_, h _ h1, h2⟩
  · exact hk.elim
theorem told_txt1cb {c pre f} (h : ∀ l, pre l → Pure P G F [T l, T c] (bool (f l))) : Told P G F (txt1cb c pre f) := by
  intro args K hk
  unfold txt1cb at hk
  split at hk
  · obtain ⟨rfl, h1, h2⟩ := hk; exact ⟨_, h _ h1, splitB_of h2⟩
  · exact hk.elim
theorem told_txt2t {pre f g} (h : ∀ l m, pre l m → Pure P G F [T l, T m] (.tup [f l m, bool (g l m)])) : Told P G F (txt2t pre f g) := by
  intro args K hk
  unfold txt2t at hk
  split at hk
  · exact ⟨_, h _ _ hk.1, splitT_of hk.2⟩
  · exact hk.elim
theorem told_byte1b {pre f} (h : ∀ l, pre l → Pure P G F [.imm (.int .u8 l)] (bool (f l))) : Told P G F (byte1b pre f) := by
  intro args K hk
  unfold byte1b at hk
  split at hk
  · exact ⟨_, h _ hk.1, splitB_of hk.2⟩
  · exact hk.elim
theorem told_none0 {r} (h : Pure P G F [] r) : Told P G F (none0 r) := by
  intro args K hk
  unfold none0 at hk
  split at hk
  · exact ⟨_, h, hk⟩
  · exact hk.elim

theorem imms_reps {as : List AV} {vs : List Value} (h : Imms as vs) (ho : ∀ v ∈ vs, v.oneCell' = true) {E : Env} {w : World} : Reps E w as vs := by
  induction h with
  | nil => exact .nil
  | cons h1 ih => exact .cons _ _ _ _ (.imm _ (ho _ List.mem_cons_self)) (ih fun v hv => ho v (List.mem_cons_of_mem _ hv))

theorem lows_map {α : Type} (f : α → Value) : ∀ (l : List α), lows 0 (l.map fun x => AV.imm (f x))
  | [] => trivial
  | _ :: l => ⟨trivial, lows_map f l⟩

theorem pure_of_code' {S : Spec} (hm : P.follows .mixedOrders = true) (hG : ∀ g cs, G g = some cs → lows 0 cs) (hS : S.Holds P G) {f : FuncId} {own : List Nat} {ac : ACode} {res : List Nat} {nt : Nat} (hfn : IsFn P f own ac res nt) {args : List AV} {r : AV} (ts : List AV) (hts : args ++ List.replicate (nt - args.length) .junk = ts) (ha : lows 0 args) (hr : r.low 0)
    (h : codeB G S 0 ac (retB res r) ts []) : Pure P G f args r := by subst hts; exact pure_of_code hm hG hS hfn ha hr h

theorem weak_cut {n0 : Nat} {ts ts' : List AV} {H H' : List AObj} (n : Nat) (hn : n0 ≤ n) (hH : H' = H.take n) (hl : ∀ o ∈ H', o.low n) (h : WeakL n ts ts') : Weak n0 ⟨ts, H⟩ ⟨ts', H'⟩ := ⟨n, hn, hH, hl, h⟩

@[simp] theorem lows_mapT (n : Nat) : ∀ l : List (List UInt8), lows n (l.map T)
  | [] => trivial
  | _ :: l => ⟨trivial, lows_mapT n l⟩
@[simp] theorem lows_append' (n : Nat) (b : List AV) : ∀ a : List AV, lows n (a ++ b) ↔ lows n a ∧ lows n b
  | [] => by simp [lows]
  | x :: a => by simp only [List.cons_append, lows, lows_append' n b a, and_assoc]
@[simp] theorem lows_byteAV (n : Nat) : ∀ l : List UInt8, lows n (l.map byteAV)
  | [] => trivial
  | _ :: l => ⟨trivial, lows_byteAV n l⟩

theorem wrap_u8 {n : Int} (h : 0 ≤ n) (h' : n < 256) : IntKind.u8.wrap n = n := by
  simp only [IntKind.wrap, IntKind.bits, IntKind.signed]
  simp
  omega
theorem at'_nat (s : List UInt8) (i : Nat) : at' s i = ((s.getD i 0).toNat : Int) := rfl
theorem at'_eq {s : List UInt8} {i : Nat} (h : i < s.length) (b : UInt8) : at' s i = (b.toNat : Int) ↔ s[i]? = some b := by
  rw [at'_nat, List.getD_eq_getElem?_getD, List.getElem?_eq_getElem h]
  simp only [Option.getD_some, Option.some.injEq]
  constructor
  · intro h1; exact UInt8.toNat_inj.1 (by exact_mod_cast h1)
  · intro h1; rw [h1]

/-- As `pure_of_same`, of a function that answers several immediate values. -/
theorem pure_of_same_tup {f : FuncId} {fn : Func} {c : Code} (hf : P.funcs[f]? = some fn) (hb : fn.body = some c) (hn : (fn.name == "runtime.NumGoroutine") = false) {as rs : List AV} {vs us : List Value} (hu : Imms rs us) (ho : ∀ v ∈ us, v.oneCell' = true) (hv : Imms as vs)
    (h : ∀ w, Calls P f vs.toArray w fun e w' => e = .returned (.tuple us.toArray) ∧ w' = w) : Pure P G f as (.tup rs) := by
  intro H lo E w cargs hs ha
  obtain rfl := hv.reps ha
  refine callsX_of_calls hf hb hn (h w) fun w' hw' => ?_
  subst hw'
  exact ⟨E, .tup _ _ (imms_reps hu ho), hs, Evo.refl _ _ _⟩
end
end Go.AL
