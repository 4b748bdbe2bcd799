/- Code in the form that simp can go through, and that it is sound. -/
import Derived.Test.YtfilcbnobmnopaaDoorA19
set_option linter.unusedSimpArgs false
set_option linter.unusedVariables false
namespace Go.AL
open Go Go.RowKit

section
variable (G : Nat → Option (List AV)) (S : Spec)

def callB (pin : Bool) (args : List AV) (H : List AObj) (K : AV → List AObj → Prop) : Prop :=
  onCons args fun f rest => onFn f fun fid first cap =>
    if S.turns fid = true then pin = true ∧ S.turn fid (first ++ rest ++ cap) H K else S.pure fid ((first ++ rest ++ cap).map AV.strip) fun r => K r H

def mB (m : MOp) (args : List AV) (id : Nat) (H : List AObj) (K : AV → List AObj → Prop) : Prop := H[id]? = some .hole ∧ msem m args id fun r ob => K r (H.set id ob)

def coreB (draw : Bool) (base : Nat) (c : Cls) (args : List AV) (H : List AObj) (K : AV → List AObj → Prop) : Prop :=
  match c with
  | .q q => qB q args fun r => K r H
  | .l l => lsem l args (lookIn draw base H) fun r => K r H
  | .m m slot => mB m args (base + slot) H K
  | .e e => esem e args H K
  | .call pin => callB S pin args H K

def putL (ts : List AV) (d : Option Nat) (a : AV) : List AV :=
  match d with
  | some d => ts.set d a
  | none => ts

def getL (ts : List AV) (n : Nat) : AV := ts.getD n .junk

def evalB (ts : List AV) : AOpd → AV
  | .t n => getL ts n
  | .c a => a
  | .g n => match G n with | some cs => .rptr cs 0 | none => .junk

def evalsB (ts : List AV) : List AOpd → List AV
  | [] => []
  | o :: r => evalB G ts o :: evalsB ts r

def stepB (draw : Bool) (base : Nat) (g : Option (Nat × Bool)) (d : Option Nat) (c : Cls) (args : List AOpd) (ts : List AV) (H : List AObj) (K : List AV → List AObj → Prop) : Prop :=
  match g with
  | none => coreB S draw base c (evalsB G ts args) H fun r H' => K (putL ts d r) H'
  | some (t, want) => onGuard (getL ts t) fun b => if b = some want then coreB S draw base c (evalsB G ts args) H fun r H' => K (putL ts d r) H' else K (putL ts d (.tup [])) H

def opsB (draw : Bool) (base : Nat) : List AOper → (List AV → List AObj → Prop) → List AV → List AObj → Prop
  | [], K, ts, H => K ts H
  | ⟨d, g, c, args⟩ :: rest, K, ts, H => stepB G S draw base g d c args ts H (opsB draw base rest K)

def seqQ (b : (Exit → List AV → List AObj → Prop) → List AV → List AObj → Prop) (Q : Exit → List AV → List AObj → Prop) (e : Exit) (ts : List AV) (H : List AObj) : Prop :=
  match e with | .normal => b Q ts H | e => Q e ts H
def blockQ (id : Nat) (Q : Exit → List AV → List AObj → Prop) (e : Exit) (ts : List AV) (H : List AObj) : Prop :=
  match e with | .exit id' => if id' = id then Q .normal ts H else Q (.exit id') ts H | e => Q e ts H
def scopeQ (Q : Exit → List AV → List AObj → Prop) (e : Exit) (ts : List AV) (H : List AObj) : Prop :=
  match e with | .goto _ => False | e => Q e ts H
def loopQ (again : List AV → List AObj → Prop) (Q : Exit → List AV → List AObj → Prop) (e : Exit) (ts : List AV) (H : List AObj) : Prop :=
  match e with | .normal => again ts H | e => Q e ts H

def codeB (n0 : Nat) : ACode → (Exit → List AV → List AObj → Prop) → List AV → List AObj → Prop
  | .skip, Q, ts, H => Q .normal ts H
  | .reg draw nA ops, Q, ts, H => opsB G S draw H.length ops (Q .normal) ts (H ++ List.replicate nA AObj.hole)
  | .seq a b, Q, ts, H => codeB n0 a (seqQ (codeB n0 b) Q) ts H
  | .cond c a b, Q, ts, H => onBool (evalB G ts c) fun t => if t = true then codeB n0 a Q ts H else codeB n0 b Q ts H
  | .block id c, Q, ts, H => codeB n0 c (blockQ id Q) ts H
  | .loop c, Q, ts, H => ∃ (Inv : Nat → List AV → List AObj → Prop), (∃ n ts1 H1, Weak n0 ⟨ts, H⟩ ⟨ts1, H1⟩ ∧ Inv n ts1 H1) ∧
      ∀ n ts H, Inv n ts H → codeB n0 c (loopQ (fun ts' H' => ∃ n' ts'' H'', n' < n ∧ Weak n0 ⟨ts', H'⟩ ⟨ts'', H''⟩ ∧ Inv n' ts'' H'') Q) ts H
  | .exit id, Q, ts, H => Q (.exit id) ts H
  | .goto l, Q, ts, H => Q (.goto l) ts H
  | .scope c, Q, ts, H => codeB n0 c (scopeQ Q) ts H
  | .stuck, _, _, _ => False
  | .ret, Q, ts, H => Q .ret ts H
end

section
variable {P : Program} {G : Nat → Option (List AV)} {S : Spec}

theorem evalB_eq (ts : List AV) (o : AOpd) : evalB G ts o = aeval G ts o := by cases o <;> rfl
theorem evalsB_eq (ts : List AV) : ∀ l : List AOpd, evalsB G ts l = l.map (aeval G ts)
  | [] => rfl
  | o :: l => by rw [evalsB, evalsB_eq ts l, evalB_eq]; rfl

theorem core_of {draw base c args H} {K : AV → List AObj → Prop} (hS : S.Holds P G) (h : coreB S draw base c args H K) : core P G draw base c args H (fun p => K p.1 p.2) := by
  unfold coreB at h
  unfold core
  split at h
  · exact qB_to h
  · exact h
  · exact h
  · exact h
  · rename_i pin
    unfold callB at h
    obtain ⟨f, rest, rfl, ha⟩ := onCons_inv h
    obtain ⟨fid, first, cap, rfl, hb⟩ := onFn_inv ha
    clear h ha
    show (∃ r, _) ∨ _
    split at hb
    · obtain ⟨hp, h⟩ := hb
      obtain ⟨r, H', h1, h2⟩ := hS.turn _ _ _ _ h
      exact .inr ⟨hp, r, H', h1, h2⟩
    · obtain ⟨r, h1, h2⟩ := hS.pure _ _ _ hb
      exact .inl ⟨r, h1, h2⟩

theorem put_eq (ts : List AV) (H : List AObj) (d : Option Nat) (a : AV) : ASt.put ⟨ts, H⟩ d a = ⟨putL ts d a, H⟩ := by cases d <;> rfl

theorem step_of {draw base d g c args ts H} {K : List AV → List AObj → Prop} (hS : S.Holds P G) (h : stepB G S draw base g d c args ts H K) : astep P G draw base ⟨d, g, c, args⟩ ⟨ts, H⟩ (fun s => K s.tmps s.H) := by
  unfold stepB at h
  unfold astep
  cases g with
  | none =>
    have := core_of hS h
    rw [evalsB_eq] at this
    simp only [put_eq]
    exact this
  | some p =>
    obtain ⟨t, want⟩ := p
    obtain ⟨b, hb, h⟩ := onGuard_inv h
    have hb : guardVal (ts.getD t .junk) = some b := hb
    simp only [onGuard, hb]
    refine ⟨fun e => ?_, fun e => ?_⟩
    · rw [if_pos e] at h
      have := core_of hS h
      rw [evalsB_eq] at this
      simp only [put_eq]
      exact this
    · rw [if_neg e] at h
      simp only [put_eq]
      exact h

theorem ops_of {draw base} (hS : S.Holds P G) : ∀ (ops : List AOper) {ts H} {K : List AV → List AObj → Prop}, opsB G S draw base ops K ts H → aops P G draw base ops (fun s => K s.tmps s.H) ⟨ts, H⟩
  | [], ts, H, K, h => h
  | ⟨d, g, c, args⟩ :: rest, ts, H, K, h => core_mono' (fun s h => ops_of hS rest h) (step_of hS h)

theorem code_of {n0 : Nat} (hS : S.Holds P G) : ∀ (c : ACode) (Q : Exit → List AV → List AObj → Prop) (ts H), codeB G S n0 c Q ts H → awp P G n0 c (fun e s => Q e s.tmps s.H) ⟨ts, H⟩
  | .skip, Q, ts, H, h => h
  | .reg draw nA ops, Q, ts, H, h => ops_of hS ops h
  | .seq a b, Q, ts, H, h => awp_mono a _ _ _ (fun e s h1 => by
      cases e with
      | normal => exact code_of hS b Q s.tmps s.H h1
      | _ => exact h1) (code_of hS a _ ts H h)
  | .cond c a b, Q, ts, H, h => by
    obtain ⟨t, ht, h⟩ := onBool_inv h
    rw [evalB_eq] at ht
    show onBool (aeval G ts c) _
    rw [ht]
    refine ⟨fun e => ?_, fun e => ?_⟩
    · rw [if_pos e] at h; exact code_of hS a Q ts H h
    · rw [if_neg (by simp [e])] at h; exact code_of hS b Q ts H h
  | .block id c, Q, ts, H, h => awp_mono c _ _ _ (fun e s h1 => by
      cases e with
      | exit id' => exact h1
      | _ => exact h1) (code_of hS c _ ts H h)
  | .loop c, Q, ts, H, h => by
    obtain ⟨Inv, ⟨n, ts1, H1, h1, h2⟩, h3⟩ := h
    refine ⟨fun n s => Inv n s.tmps s.H, ⟨n, ⟨ts1, H1⟩, h1, h2⟩, fun n s hi => awp_mono c _ _ _ (fun e s1 h4 => ?_) (code_of hS c _ s.tmps s.H (h3 n s.tmps s.H hi))⟩
    cases e with
    | normal =>
      obtain ⟨n', ts'', H'', h5, h6, h7⟩ := h4
      exact ⟨n', ⟨ts'', H''⟩, h5, h6, h7⟩
    | _ => exact h4
  | .exit id, Q, ts, H, h => h
  | .goto l, Q, ts, H, h => h
  | .stuck, Q, ts, H, h => h.elim
  | .scope c, Q, ts, H, h => awp_mono c _ _ _ (fun e s h1 => by
      cases e with
      | goto l => exact h1
      | _ => exact h1) (code_of hS c _ ts H h)
  | .ret, Q, ts, H, h => h

/-- What remains of a round that comes to its end. -/
def Again {X : Type} (n0 : Nat) (st : X → List AV) (hp : X → List AObj) (I : X → Prop) (m : X → Nat) (x : X) (ts : List AV) (H : List AObj) : Prop :=
  ∃ x', m x' < m x ∧ I x' ∧ Weak n0 ⟨ts, H⟩ ⟨st x', hp x'⟩

theorem loopB {X : Type} (st : X → List AV) (hp : X → List AObj) (I : X → Prop) (m : X → Nat) (x0 : X) {n0 : Nat} {c : ACode} {Q : Exit → List AV → List AObj → Prop} {ts : List AV} {H : List AObj}
    (hI : I x0) (hw : Weak n0 ⟨ts, H⟩ ⟨st x0, hp x0⟩) (step : ∀ x, I x → codeB G S n0 c (loopQ (Again n0 st hp I m x) Q) (st x) (hp x)) : codeB G S n0 (.loop c) Q ts H := by
  refine ⟨fun n ts H => ∃ x, n = m x ∧ I x ∧ ts = st x ∧ H = hp x, ⟨m x0, st x0, hp x0, hw, x0, rfl, hI, rfl, rfl⟩, ?_⟩
  rintro n ts H ⟨x, rfl, hx, rfl, rfl⟩
  have := step x hx
  have heq : (loopQ (Again n0 st hp I m x) Q) = (loopQ (fun ts' H' => ∃ n' ts'' H'', n' < m x ∧ Weak n0 ⟨ts', H'⟩ ⟨ts'', H''⟩ ∧ ∃ x, n' = m x ∧ I x ∧ ts'' = st x ∧ H'' = hp x) Q) := by
    congr 1
    funext ts' H'
    simp only [Again, eq_iff_iff]
    constructor
    · rintro ⟨x', h1, h2, h3⟩
      exact ⟨m x', st x', hp x', h1, h3, x', rfl, h2, rfl, rfl⟩
    · rintro ⟨n', ts'', H'', h1, h2, x', rfl, h3, rfl, rfl⟩
      exact ⟨x', h1, h3, h2⟩
  rw [← heq]
  exact this

theorem weak_same {n0 : Nat} {ts ts' : List AV} {H : List AObj} (hn : n0 ≤ H.length) (hH : ∀ o ∈ H, o.low H.length) (h : WeakL H.length ts ts') : Weak n0 ⟨ts, H⟩ ⟨ts', H⟩ :=
  ⟨H.length, hn, by simp, hH, h⟩
theorem weak_nil {ts ts' : List AV} (h : WeakL 0 ts ts') : Weak 0 ⟨ts, []⟩ ⟨ts', []⟩ := weak_same (Nat.le_refl _) (fun o ho => by cases ho) h

/-- The contract of a pure function. -/
def Told (P : Program) (G : Nat → Option (List AV)) (f : FuncId) (spec : List AV → (AV → Prop) → Prop) : Prop := ∀ args K, spec args K → ∃ r, Pure P G f args r ∧ K r

def ask (spec : List AV → (AV → Prop) → Prop) (args : List AV) (K : AV → Prop) : Prop := spec args K

def retB (res : List Nat) (r : AV) (e : Exit) (ts : List AV) (H : List AObj) : Prop := (e = .normal ∨ e = .ret) ∧ (ares res ts).stripR = r

theorem pure_of_code (hm : P.follows .mixedOrders = true) (hG : ∀ g cs, G g = some cs → lows 0 cs) (hS : S.Holds P G) {f : FuncId} {own : List Nat} {ac : ACode} {res : List Nat} {nt : Nat} (hfn : IsFn P f own ac res nt) {args : List AV} {r : AV} (ha : lows 0 args) (hr : r.low 0)
    (h : codeB G S 0 ac (retB res r) (args ++ List.replicate (nt - args.length) .junk) []) : Pure P G f args r :=
  pure_of_awp hm hG hfn ha hr (awp_mono ac _ _ _ (fun e s h => h) (code_of hS ac _ _ _ h))
end
end Go.AL
