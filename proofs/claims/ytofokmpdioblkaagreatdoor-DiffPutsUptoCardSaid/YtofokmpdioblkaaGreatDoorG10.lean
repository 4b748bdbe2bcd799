/- What simp goes by. -/
import Derived.Test.YtofokmpdioblkaaGreatDoorG9
set_option linter.unusedSimpArgs false
set_option linter.unusedVariables false
namespace Go.AL
open Go Go.RowKit

abbrev PSp := List AV → (AV → Prop) → Prop
abbrev TSp := List AV → List AObj → (AV → List AObj → Prop) → Prop

def pureOf : List (Nat × PSp) → Nat → PSp
  | [], _ => fun _ _ => False
  | (f, s) :: r, g => if f = g then s else pureOf r g
def turnOf : List (Nat × TSp) → Nat → TSp
  | [], _ => fun _ _ _ => False
  | (f, s) :: r, g => if f = g then s else turnOf r g
def turnsOf : List (Nat × TSp) → Nat → Bool
  | [], _ => false
  | (f, _) :: r, g => if f = g then true else turnsOf r g

def sp (p : List (Nat × PSp)) (t : List (Nat × TSp)) : Spec := ⟨pureOf p, turnOf t, turnsOf t⟩

def ToldT (P : Program) (G : Nat → Option (List AV)) (f : FuncId) (spec : TSp) : Prop := ∀ args H K, spec args H K → ∃ r H', Ok P G f args H r H' ∧ K r H'

inductive Tolds (P : Program) (G : Nat → Option (List AV)) : List (Nat × PSp) → Prop
  | nil : Tolds P G []
  | cons {f s r} : Told P G f s → Tolds P G r → Tolds P G ((f, s) :: r)
inductive ToldTs (P : Program) (G : Nat → Option (List AV)) : List (Nat × TSp) → Prop
  | nil : ToldTs P G []
  | cons {f s r} : ToldT P G f s → ToldTs P G r → ToldTs P G ((f, s) :: r)

section
variable {P : Program} {G : Nat → Option (List AV)} {S : Spec}

theorem pureOf_told {l : List (Nat × PSp)} (h : Tolds P G l) : ∀ f args K, pureOf l f args K → ∃ r, Pure P G f args r ∧ K r := by
  induction h with
  | nil => intro f args K h; exact h.elim
  | cons h1 _ ih =>
    intro f args K h
    unfold pureOf at h
    split at h
    · rename_i e; subst e; exact h1 args K h
    · exact ih f args K h
theorem turnOf_told {l : List (Nat × TSp)} (h : ToldTs P G l) : ∀ f args H K, turnOf l f args H K → ∃ r H', Ok P G f args H r H' ∧ K r H' := by
  induction h with
  | nil => intro f args H K h; exact h.elim
  | cons h1 _ ih =>
    intro f args H K h
    unfold turnOf at h
    split at h
    · rename_i e; subst e; exact h1 args H K h
    · exact ih f args H K h
theorem sp_holds {p : List (Nat × PSp)} {t : List (Nat × TSp)} (hp : Tolds P G p) (ht : ToldTs P G t) : (sp p t).Holds P G := ⟨pureOf_told hp, turnOf_told ht⟩

def askT (spec : TSp) (args : List AV) (H : List AObj) (K : AV → List AObj → Prop) : Prop := spec args H K

/- Where simp goes, and where it does not. -/
section congr
variable {ts ts' args args' : List AV} {H H' : List AObj} {x x' : AV}
@[congr] theorem codeB_congr {n0 c Q} (h : ts = ts') (h' : H = H') : codeB G S n0 c Q ts H = codeB G S n0 c Q ts' H' := by rw [h, h']
@[congr] theorem opsB_congr {draw base base' ops K} (hb : base = base') (h : ts = ts') (h' : H = H') : opsB G S draw base ops K ts H = opsB G S draw base' ops K ts' H' := by rw [h, h', hb]
@[congr] theorem stepB_congr {draw base g d c as K} (h : ts = ts') (h' : H = H') : stepB G S draw base g d c as ts H K = stepB G S draw base g d c as ts' H' K := by rw [h, h']
@[congr] theorem coreB_congr {draw base c K} (h : args = args') (h' : H = H') : coreB S draw base c args H K = coreB S draw base c args' H' K := by rw [h, h']
@[congr] theorem callB_congr {pin K} (h : args = args') (h' : H = H') : callB S pin args H K = callB S pin args' H' K := by rw [h, h']
@[congr] theorem mB_congr {m id id' K} (h : args = args') (hi : id = id') (h' : H = H') : mB m args id H K = mB m args' id' H' K := by rw [h, h', hi]
@[congr] theorem msem_congr {m id K} (h : args = args') : msem m args id K = msem m args' id K := by rw [h]
@[congr] theorem esem_congr {m K} (h : args = args') (h' : H = H') : esem m args H K = esem m args' H' K := by rw [h, h']
@[congr] theorem lsem_congr {m look K} (h : args = args') : lsem m args look K = lsem m args' look K := by rw [h]
@[congr] theorem qB_congr {o K} (h : args = args') : qB o args K = qB o args' K := by rw [h]
@[congr] theorem qsem_congr {o K} (h : args = args') : qsem o args K = qsem o args' K := by rw [h]
@[congr] theorem binB_congr {op t K} {y y' : AV} (h : x = x') (h' : y = y') : binB op t x y K = binB op t x' y' K := by rw [h, h']
@[congr] theorem onBool_congr {K} (h : x = x') : onBool x K = onBool x' K := by rw [h]
@[congr] theorem onGuard_congr {K} (h : x = x') : onGuard x K = onGuard x' K := by rw [h]
@[congr] theorem onInt_congr {K} (h : x = x') : onInt x K = onInt x' K := by rw [h]
@[congr] theorem onStr_congr {K} (h : x = x') : onStr x K = onStr x' K := by rw [h]
@[congr] theorem onAgg_congr {K} (h : x = x') : onAgg x K = onAgg x' K := by rw [h]
@[congr] theorem onSl_congr {K} (h : x = x') : onSl x K = onSl x' K := by rw [h]
@[congr] theorem onTup_congr {K} (h : x = x') : onTup x K = onTup x' K := by rw [h]
@[congr] theorem onImm_congr {K} (h : x = x') : onImm x K = onImm x' K := by rw [h]
@[congr] theorem onPtr_congr {K} (h : x = x') : onPtr x K = onPtr x' K := by rw [h]
@[congr] theorem onSome_congr {α : Type} {x x' : Option α} {K} (h : x = x') : onSome x K = onSome x' K := by rw [h]
@[congr] theorem onBox_congr {x x' : Option AObj} {K} (h : x = x') : onBox x K = onBox x' K := by rw [h]
@[congr] theorem onRow_congr {x x' : Option AObj} {K} (h : x = x') : onRow x K = onRow x' K := by rw [h]
@[congr] theorem onMap_congr {x x' : Option AObj} {K} (h : x = x') : onMap x K = onMap x' K := by rw [h]
@[congr] theorem onTok_congr {x x' : Option AObj} {K} (h : x = x') : onTok x K = onTok x' K := by rw [h]
@[congr] theorem bounds_congr {lo hi n n' K} (hn : n = n') (h : args = args') : bounds lo hi n args K = bounds lo hi n' args' K := by rw [h, hn]
@[congr] theorem behind_congr {look K} (h : x = x') : behind x look K = behind x' look K := by rw [h]
@[congr] theorem ask_congr {s s' : PSp} {K} (hs : s = s') (h : args = args') : ask s args K = ask s' args' K := by rw [h, hs]
@[congr] theorem askT_congr {s s' : TSp} {K} (hs : s = s') (h : args = args') (h' : H = H') : askT s args H K = askT s' args' H' K := by rw [h, hs, h']
@[congr] theorem seqQ_congr {b Q e} (h : ts = ts') (h' : H = H') : seqQ b Q e ts H = seqQ b Q e ts' H' := by rw [h, h']
@[congr] theorem blockQ_congr {b Q e} (h : ts = ts') (h' : H = H') : blockQ b Q e ts H = blockQ b Q e ts' H' := by rw [h, h']
@[congr] theorem scopeQ_congr {Q e} (h : ts = ts') (h' : H = H') : scopeQ Q e ts H = scopeQ Q e ts' H' := by rw [h, h']
@[congr] theorem loopQ_congr {b Q e} (h : ts = ts') (h' : H = H') : loopQ b Q e ts H = loopQ b Q e ts' H' := by rw [h, h']
@[congr] theorem again_congr {X : Type} {n0} {st : X → List AV} {hp I m x} (h : ts = ts') (h' : H = H') : Again n0 st hp I m x ts H = Again n0 st hp I m x ts' H' := by rw [h, h']
@[congr] theorem retB_congr {res r e} (h : ts = ts') (h' : H = H') : retB res r e ts H = retB res r e ts' H' := by rw [h, h']
@[congr] theorem evalsB_congr {l} (h : ts = ts') : evalsB G ts l = evalsB G ts' l := by rw [h]
@[congr] theorem evalB_congr {l} (h : ts = ts') : evalB G ts l = evalB G ts' l := by rw [h]
end congr

section rules
variable {n0 : Nat} {Q : Exit → List AV → List AObj → Prop} {ts : List AV} {H : List AObj} {K : List AV → List AObj → Prop} {draw : Bool} {base : Nat} {KA : AV → Prop} {KO : AV → List AObj → Prop}
theorem codeB_skip : codeB G S n0 .skip Q ts H = Q .normal ts H := rfl
theorem codeB_reg {nA ops} : codeB G S n0 (.reg draw nA ops) Q ts H = opsB G S draw H.length ops (Q .normal) ts (H ++ List.replicate nA AObj.hole) := rfl
theorem codeB_reg0 {ops} : codeB G S n0 (.reg draw 0 ops) Q ts H = opsB G S draw H.length ops (Q .normal) ts H := by rw [codeB_reg]; simp
theorem codeB_seq {a b} : codeB G S n0 (.seq a b) Q ts H = codeB G S n0 a (seqQ (codeB G S n0 b) Q) ts H := rfl
theorem codeB_cond {c a b} : codeB G S n0 (.cond c a b) Q ts H = onBool (evalB G ts c) fun t => if t = true then codeB G S n0 a Q ts H else codeB G S n0 b Q ts H := rfl
theorem codeB_block {id c} : codeB G S n0 (.block id c) Q ts H = codeB G S n0 c (blockQ id Q) ts H := rfl
theorem codeB_exit {id} : codeB G S n0 (.exit id) Q ts H = Q (.exit id) ts H := rfl
theorem codeB_goto {l} : codeB G S n0 (.goto l) Q ts H = Q (.goto l) ts H := rfl
theorem codeB_scope {c} : codeB G S n0 (.scope c) Q ts H = codeB G S n0 c (scopeQ Q) ts H := rfl
theorem codeB_stuck : codeB G S n0 .stuck Q ts H = False := rfl
theorem scopeQ_normal : scopeQ Q .normal ts H = Q .normal ts H := rfl
theorem scopeQ_exit {id} : scopeQ Q (.exit id) ts H = Q (.exit id) ts H := rfl
theorem scopeQ_ret : scopeQ Q .ret ts H = Q .ret ts H := rfl
theorem scopeQ_goto {l} : scopeQ Q (.goto l) ts H = False := rfl
theorem seqQ_goto {b l} : seqQ b Q (.goto l) ts H = Q (.goto l) ts H := rfl
theorem blockQ_goto {b l} : blockQ b Q (.goto l) ts H = Q (.goto l) ts H := rfl
theorem loopQ_goto {b l} : loopQ b Q (.goto l) ts H = Q (.goto l) ts H := rfl
theorem codeB_ret : codeB G S n0 .ret Q ts H = Q .ret ts H := rfl
theorem seqQ_normal {b} : seqQ b Q .normal ts H = b Q ts H := rfl
theorem seqQ_exit {b id} : seqQ b Q (.exit id) ts H = Q (.exit id) ts H := rfl
theorem seqQ_ret {b} : seqQ b Q .ret ts H = Q .ret ts H := rfl
theorem blockQ_normal {b} : blockQ b Q .normal ts H = Q .normal ts H := rfl
theorem blockQ_exit {b id} : blockQ b Q (.exit id) ts H = if id = b then Q .normal ts H else Q (.exit id) ts H := rfl
theorem blockQ_ret {b} : blockQ b Q .ret ts H = Q .ret ts H := rfl
theorem loopQ_normal {b} : loopQ b Q .normal ts H = b ts H := rfl
theorem loopQ_exit {b id} : loopQ b Q (.exit id) ts H = Q (.exit id) ts H := rfl
theorem loopQ_ret {b} : loopQ b Q .ret ts H = Q .ret ts H := rfl
theorem retB_normal {res r} : retB res r .normal ts H = ((ares res ts).stripR = r) := by simp [retB]
theorem retB_ret {res r} : retB res r .ret ts H = ((ares res ts).stripR = r) := by simp [retB]
theorem retB_exit {res r id} : retB res r (.exit id) ts H = False := by simp [retB]
theorem ares_one {t} : ares [t] ts = getL ts t := rfl
theorem ares_none : ares [] ts = .tup [] := rfl
theorem ares_more {t u l} : ares (t :: u :: l) ts = .tup (getL ts t :: getL ts u :: l.map (getL ts)) := rfl

theorem opsB_nil : opsB G S draw base [] K ts H = K ts H := rfl
theorem opsB_cons {d g c args rest} : opsB G S draw base (⟨d, g, c, args⟩ :: rest) K ts H = stepB G S draw base g d c args ts H (opsB G S draw base rest K) := rfl
theorem stepB_none {d c args} : stepB G S draw base none d c args ts H K = coreB S draw base c (evalsB G ts args) H fun r H' => K (putL ts d r) H' := rfl
theorem stepB_some {t want d c args} : stepB G S draw base (some (t, want)) d c args ts H K = onGuard (getL ts t) fun b => if b = some want then coreB S draw base c (evalsB G ts args) H fun r H' => K (putL ts d r) H' else K (putL ts d (.tup [])) H := rfl
theorem evalsB_nil : evalsB G ts [] = [] := rfl
theorem evalsB_cons {o l} : evalsB G ts (o :: l) = evalB G ts o :: evalsB G ts l := rfl
theorem evalB_t {n} : evalB G ts (.t n) = getL ts n := rfl
theorem evalB_c {a} : evalB G ts (.c a) = a := rfl
theorem evalB_g {n} : evalB G ts (.g n) = match G n with | some cs => .rptr cs 0 | none => .junk := rfl
theorem getL_zero {a as} : getL (a :: as) 0 = a := rfl
theorem getL_succ {a as n} : getL (a :: as) (n + 1) = getL as n := rfl
theorem getL_8 {a0 a1 a2 a3 a4 a5 a6 a7 as n} : getL (a0 :: a1 :: a2 :: a3 :: a4 :: a5 :: a6 :: a7 :: as) (n + 8) = getL as n := rfl
theorem putL_none {r} : putL ts none r = ts := rfl
theorem putL_zero {a as r} : putL (a :: as) (some 0) r = r :: as := rfl
theorem putL_succ {a as n r} : putL (a :: as) (some (n + 1)) r = a :: putL as (some n) r := rfl
theorem putL_8 {a0 a1 a2 a3 a4 a5 a6 a7 as n r} : putL (a0 :: a1 :: a2 :: a3 :: a4 :: a5 :: a6 :: a7 :: as) (some (n + 8)) r = a0 :: a1 :: a2 :: a3 :: a4 :: a5 :: a6 :: a7 :: putL as (some n) r := rfl

variable {args : List AV}
theorem coreB_q {q} : coreB S draw base (.q q) args H KO = qB q args fun r => KO r H := rfl
theorem coreB_l {l} : coreB S draw base (.l l) args H KO = lsem l args (lookIn draw base H) fun r => KO r H := rfl
theorem coreB_m {m slot} : coreB S draw base (.m m slot) args H KO = mB m args (base + slot) H KO := rfl
theorem coreB_e {e} : coreB S draw base (.e e) args H KO = esem e args H KO := rfl
theorem coreB_call {pin} : coreB S draw base (.call pin) args H KO = callB S pin args H KO := rfl
theorem callB_fn {p t pin fid first cap rest} : callB (sp p t) pin (.fn (.func fid) first cap :: rest) H KO =
    if turnsOf t fid = true then pin = true ∧ askT (turnOf t fid) (first ++ rest ++ cap) H KO else ask (pureOf p fid) ((first ++ rest ++ cap).map AV.strip) fun r => KO r H := rfl
theorem turnsOf_nil {g} : turnsOf [] g = false := rfl
theorem turnsOf_cons {f s r g} : turnsOf ((f, s) :: r) g = if f = g then true else turnsOf r g := rfl
theorem turnOf_cons {f s r g} : turnOf ((f, s) :: r) g = if f = g then s else turnOf r g := rfl
theorem pureOf_cons {f s r g} : pureOf ((f, s) :: r) g = if f = g then s else pureOf r g := rfl
theorem cells_imm {v} : AV.cells (.imm v) = [.imm v] := rfl
theorem cells_agg {cs} : AV.cells (.agg cs) = cs := rfl
theorem cells_sl {n xs tok} : AV.cells (.sl n xs tok) = [.sl n xs tok] := rfl
theorem cells_fn {f a b} : AV.cells (.fn f a b) = [.fn f a b] := rfl
theorem cells_ptr {f a} : AV.cells (.ptr f a) = [.ptr f a] := rfl
theorem cells_rptr {f a} : AV.cells (.rptr f a) = [.rptr f a] := rfl
theorem cells_rs {id ver sz lo n} : AV.cells (.rs id ver sz lo n) = [.rs id ver sz lo n] := rfl
theorem isVal_rs {id ver sz lo n} : AV.isVal (.rs id ver sz lo n) = true := rfl
theorem cells_mp {id} : AV.cells (.mp id) = [.mp id] := rfl
theorem isVal_mp {id} : AV.isVal (.mp id) = true := rfl
theorem isVal_imm {v} : AV.isVal (.imm v) = true := rfl
theorem isVal_agg {cs} : AV.isVal (.agg cs) = true := rfl
theorem isVal_sl {n xs tok} : AV.isVal (.sl n xs tok) = true := rfl
theorem isVal_fn {f a b} : AV.isVal (.fn f a b) = true := rfl
theorem isVal_ptr {f a} : AV.isVal (.ptr f a) = true := rfl
theorem isVal_rptr {f a} : AV.isVal (.rptr f a) = true := rfl
theorem strip_imm {v} : AV.strip (.imm v) = .imm v := rfl
theorem strip_sl {n xs tok} : AV.strip (.sl n xs tok) = .sl n xs none := rfl
theorem strip_fn {f a b} : AV.strip (.fn f a b) = .fn f a b := rfl
theorem strip_ptr {f a} : AV.strip (.ptr f a) = .ptr f a := rfl
theorem strip_rptr {f a} : AV.strip (.rptr f a) = .rptr f a := rfl
theorem strip_rs {id ver sz lo n} : AV.strip (.rs id ver sz lo n) = .rs id ver sz lo n := rfl
theorem strip_mp {id} : AV.strip (.mp id) = .mp id := rfl
theorem strip_junk : AV.strip .junk = .junk := rfl
theorem strip_agg {cs} : AV.strip (.agg cs) = .agg (cs.map AV.strip1) := rfl
theorem strip1_imm {v} : AV.strip1 (.imm v) = .imm v := rfl
theorem strip1_sl {n xs tok} : AV.strip1 (.sl n xs tok) = .sl n xs none := rfl
theorem strip1_fn {f a b} : AV.strip1 (.fn f a b) = .fn f a b := rfl
theorem strip1_ptr {f a} : AV.strip1 (.ptr f a) = .ptr f a := rfl
theorem stripR_imm {v} : AV.stripR (.imm v) = .imm v := rfl
theorem stripR_rs {id ver sz lo n} : AV.stripR (.rs id ver sz lo n) = .rs id ver sz lo n := rfl
theorem stripR_sl {n xs tok} : AV.stripR (.sl n xs tok) = .sl n xs none := rfl
theorem stripR_agg {cs} : AV.stripR (.agg cs) = .agg (cs.map AV.strip1) := rfl
theorem stripR_tup {cs} : AV.stripR (.tup cs) = .tup (cs.map AV.strip) := rfl
theorem stripR_fn {f a b} : AV.stripR (.fn f a b) = .fn f a b := rfl

theorem onBool_imm {b} {F : Bool → Prop} : onBool (.imm (.bool b)) F = F b := rfl
theorem onGuard_bool {b} {F : Option Bool → Prop} : onGuard (.imm (.bool b)) F = F (some b) := rfl
theorem onGuard_off {F : Option Bool → Prop} : onGuard (.tup []) F = F none := rfl
theorem onInt_imm {k n} {F : IntKind → Int → Prop} : onInt (.imm (.int k n)) F = F k n := rfl
theorem onStr_imm {s} {F : ByteArray → Prop} : onStr (.imm (.string s)) F = F s := rfl
theorem onAgg_agg {cs} {F : List AV → Prop} : onAgg (.agg cs) F = F cs := rfl
theorem onTup_tup {cs} {F : List AV → Prop} : onTup (.tup cs) F = F cs := rfl
theorem onImm_imm {v} {F : Value → Prop} : onImm (.imm v) F = F v := rfl
theorem onSl_sl {n xs tok} {F : Nat → List AV → Option Nat → Prop} : onSl (.sl n xs tok) F = F n xs tok := rfl
theorem onPtr_ptr {id off} {F : Nat → Nat → Prop} : onPtr (.ptr id off) F = F id off := rfl
theorem onSome_some {α : Type} {a : α} {F : α → Prop} : onSome (some a) F = F a := rfl
theorem onSome_none {α : Type} {F : α → Prop} : onSome none F = False := rfl
theorem onBox_box {cs} {F : List AV → Prop} : onBox (some (.box cs)) F = F cs := rfl
theorem onBox_fbox {cs} {F : List AV → Prop} : onBox (some (.fbox cs)) F = F cs := rfl
theorem onTok_tok {e size n} {F : TypeId → Nat → Nat → Prop} : onTok (some (.tok e size n)) F = F e size n := rfl
theorem lookIn_false {id} : lookIn false base H id = H[id]? := by simp [lookIn]
theorem lookIn_true {id} : lookIn true base H id = if base ≤ id then none else H[id]? := by simp [lookIn]

variable {x y : AV} {l m : List UInt8} {k : IntKind} {i j : Int} {n : Nat}
theorem qB_mv : qB .mv [x] KA = KA x := rfl
theorem qB_pick {c} : qB .pick [.imm (.bool c), x, y] KA = KA (if c = true then x else y) := rfl
theorem qB_bin {op t} : qB (.bin op t) [x, y] KA = binB op t x y KA := rfl
theorem qB_not {b} : qB (.un .not) [.imm (.bool b)] KA = KA (bool !b) := rfl
theorem qB_neg {n} : qB (.un .neg) [.imm (.int k n)] KA = KA (.imm (.int k (k.wrap (0 - n)))) := rfl
theorem qB_convI {k'} : qB (.convI k) [.imm (.int k' i)] KA = KA (.imm (.int k (k.wrap i))) := rfl
theorem qB_eqBoo {neg a b} : qB (.eqBoo neg) [.imm (.bool a), .imm (.bool b)] KA = KA (bool (if neg then !(a == b) else a == b)) := rfl
theorem qB_runeStr {k'} : qB .runeStr [.imm (.int k' i)] KA = KA (T (Utf8.encode i).data.toList) := rfl
theorem qB_stuck {args} : qB .stuck args KA = False := by cases args <;> rfl
theorem qB_strId : qB .strId [T l] KA = KA (T l) := rfl
theorem qB_toBytes : qB .toBytes [T l] KA = (l.length ≤ 4611686018427387904 ∧ KA (.sl 1 (l.map byteAV) none)) := rfl
theorem qB_toStr {n xs tok} : qB .toStr [.sl n xs tok] KA = onSome (bytesOf xs) fun bs => KA (T bs) := rfl
theorem qB_fld1 {off cs} : qB (.fld1 off) [.agg cs] KA = onSome cs[off]? KA := rfl
theorem qB_fldA {off n cs} : qB (.fldA off n) [.agg cs] KA = (off + n ≤ cs.length ∧ KA (.agg ((cs.drop off).take n))) := rfl
theorem qB_faddrP {off id o} : qB (.faddr off) [.ptr id o] KA = KA (.ptr id (o + off)) := rfl
theorem qB_faddrR {off cs o} : qB (.faddr off) [.rptr cs o] KA = KA (.rptr cs (o + off)) := rfl
theorem qB_idxS : qB .idxS [T l, .imm (.int k i)] KA = (0 ≤ i ∧ i < l.length ∧ KA (.imm (.int .u8 (at' l i)))) := rfl
theorem qB_idx1 {len cs} : qB (.idx1 len) [.agg cs, .imm (.int k i)] KA = (0 ≤ i ∧ i < len ∧ onSome cs[i.toNat]? KA) := rfl
theorem qB_idxA {len n cs} : qB (.idxA len n) [.agg cs, .imm (.int k i)] KA = (0 ≤ i ∧ i < len ∧ i.toNat * n + n ≤ cs.length ∧ KA (.agg ((cs.drop (i.toNat * n)).take n))) := rfl
theorem qB_iaddrS {size sz xs tok} : qB (.iaddrS size) [.sl sz xs tok, .imm (.int k i)] KA = (sz = size ∧ 0 ≤ i ∧ i < xs.length ∧ KA (.rptr (xs.getD i.toNat .junk).cells 0)) := rfl
theorem qB_iaddrSR {size id ver sz lo n} : qB (.iaddrS size) [.rs id ver sz lo n, .imm (.int k i)] KA = (sz = size ∧ 0 ≤ i ∧ i < n ∧ KA (.rp id ver sz (lo + i.toNat))) := rfl
theorem qB_iaddrAP {len size id o} : qB (.iaddrA len size) [.ptr id o, .imm (.int k i)] KA = (0 ≤ i ∧ i < len ∧ KA (.ptr id (o + i.toNat * size))) := rfl
theorem qB_iaddrAR {len size cs o} : qB (.iaddrA len size) [.rptr cs o, .imm (.int k i)] KA = (0 ≤ i ∧ i < len ∧ KA (.rptr cs (o + i.toNat * size))) := rfl
theorem qB_sliceS {lo hi bs} : qB (.sliceS lo hi) (T l :: bs) KA = bounds lo hi l.length bs fun a b => KA (T ((l.take b).drop a)) := by
  have e : qB (.sliceS lo hi) (T l :: bs) KA = bounds lo hi (B l).size bs fun a b => KA (str ((B l).extract a b)) := rfl
  rw [e]
  have : ∀ a b, str ((B l).extract a b) = T ((l.take b).drop a) := by
    intro a b
    congr 2
    apply ByteArray.ext
    simp [B, ByteArray.data_extract, List.drop_take, List.extract_eq_take_drop]
  simp only [this, B_size]
theorem qB_sliceL {size lo hi sz xs tok bs} : qB (.sliceL size lo hi false) (.sl sz xs tok :: bs) KA = ((sz = size ∨ xs = []) ∧ bounds lo hi xs.length bs fun l h => KA (.sl sz ((xs.take h).drop l) none)) := by
  have e : qB (.sliceL size lo hi false) (.sl sz xs tok :: bs) KA = sliceLsem size lo hi false (.sl sz xs tok) bs KA := rfl
  rw [e]; simp [sliceLsem, onSl_sl]
theorem qB_sliceLR {size lo hi id ver sz at0 n bs} : qB (.sliceL size lo hi false) (.rs id ver sz at0 n :: bs) KA = (sz = size ∧ bounds lo hi n bs fun l h => KA (.rs id ver sz (at0 + l) (h - l))) := by
  have e : qB (.sliceL size lo hi false) (.rs id ver sz at0 n :: bs) KA = sliceLsem size lo hi false (.rs id ver sz at0 n) bs KA := rfl
  rw [e]; simp [sliceLsem]
theorem qB_nilchkP {id o} : qB .nilchk [.ptr id o] KA = KA (.ptr id o) := rfl
theorem qB_nilchkR {id o} : qB .nilchk [.rptr id o] KA = KA (.rptr id o) := rfl
theorem qB_nilchkF {f a b} : qB .nilchk [.fn (.func f) a b] KA = KA (.fn (.func f) a b) := rfl
theorem qB_ext {i vs} : qB (.ext i) [.tup vs] KA = onSome vs[i]? KA := rfl
theorem qB_lenS : qB .lenS [T l] KA = KA (i64 l.length) := rfl
theorem qB_lenL {n xs tok} : qB .lenL [.sl n xs tok] KA = KA (i64 xs.length) := rfl
theorem qB_lenR {id ver sz lo n} : qB .lenL [.rs id ver sz lo n] KA = KA (i64 n) := rfl
theorem qB_lenC {n args} : qB (.lenC n) args KA = KA (i64 n) := rfl
theorem qB_mkfn {f nf as} : qB (.mkfn f nf) as KA = KA (.fn f (as.take nf) (as.drop nf)) := rfl
theorem qB_build {zero places as} : qB (.build zero places) as KA = onSome (fillCells zero places as) fun cs => KA (.agg cs) := by cases as <;> rfl
theorem qB_bslice {size as} : qB (.bslice size) as KA = ((∀ x ∈ as, x.isVal = true ∧ x.cells.length = size) ∧ as.length * (size + 1) ≤ 16777216 ∧ KA (.sl size (as.map AV.strip) none)) := by cases as <;> rfl
theorem qB_max2 : qB .max2 [.imm (.int k i), .imm (.int k j)] KA = KA (.imm (.int k (max i j))) := by simp [qB, qsem, onInt]
theorem qB_min2 : qB .min2 [.imm (.int k i), .imm (.int k j)] KA = KA (.imm (.int k (min i j))) := by simp [qB, qsem, onInt]
theorem qB_mkiface {t v} : qB (.mkiface t) [.imm v] KA = KA (.imm (.iface t v)) := rfl

theorem fillCells_nil {cells : List AV} : fillCells cells [] [] = some cells := rfl
theorem fillCells_cons {cells : List AV} {off size : Nat} {ps : List (Nat × Nat)} {x : AV} {xs : List AV} : fillCells cells ((off, size) :: ps) (x :: xs) =
    if x.isVal = true ∧ x.cells.length = size ∧ off + size ≤ cells.length then fillCells (cells.take off ++ x.cells ++ cells.drop (off + size)) ps xs else none := rfl
theorem bytesOf_nil : bytesOf [] = some [] := rfl
theorem bytesOf_cons {r : List AV} {n : Int} : bytesOf (.imm (.int .u8 n) :: r) = (bytesOf r).map (UInt8.ofNat n.toNat :: ·) := rfl
theorem bounds_ff {n} {F : Nat → Nat → Prop} : bounds false false n [] F = F 0 n := rfl
theorem bounds_tf {n} {F : Nat → Nat → Prop} : bounds true false n [.imm (.int k i)] F = (0 ≤ i ∧ i ≤ n ∧ F i.toNat n) := rfl
theorem bounds_ft {n} {F : Nat → Nat → Prop} : bounds false true n [.imm (.int k i)] F = (0 ≤ i ∧ i ≤ n ∧ F 0 i.toNat) := rfl
theorem bounds_tt {n k'} {F : Nat → Nat → Prop} : bounds true true n [.imm (.int k i), .imm (.int k' j)] F = (0 ≤ i ∧ i ≤ j ∧ j ≤ n ∧ F i.toNat j.toNat) := rfl

theorem lsem_load1 {look} : lsem .load1 [x] look KA = behind x look fun cs off => onSome cs[off]? KA := rfl
theorem lsem_loadA {n look} : lsem (.loadA n) [x] look KA = behind x look fun cs off => (off + n ≤ cs.length ∧ KA (.agg ((cs.drop off).take n))) := rfl
theorem behind_r {cs off look} {F : List AV → Nat → Prop} : behind (.rptr cs off) look F = F cs off := rfl
theorem behind_p {id off look} {F : List AV → Nat → Prop} : behind (.ptr id off) look F = onBox (look id) fun cs => F cs off := rfl
theorem mB_eq {m id} : mB m args id H KO = (H[id]? = some .hole ∧ msem m args id fun r ob => KO r (H.set id ob)) := rfl
theorem msem_box {id} {F : AV → AObj → Prop} : msem .box [x] id F = (x.isVal = true ∧ F (.ptr id 0) (.box x.cells)) := rfl
theorem msem_alloc {zero one id} {F : AV → AObj → Prop} : msem (.alloc zero one) [] id F = F (.ptr id 0) (.box zero) := rfl
theorem msem_nilT {e size id} {F : AV → AObj → Prop} : msem (.nilT e size) [] id F = F (.sl size [] (some id)) (.tok e size 0) := rfl
theorem msem_bsl {e size id as} {F : AV → AObj → Prop} : msem (.bsliceO e size) as id F = (0 < size ∧ (∀ x ∈ as, x.isVal = true ∧ x.cells.length = size) ∧ as.length * (size + 1) ≤ 16777216 ∧ F (.sl size (as.map AV.strip) (some id)) (.tok e size as.length)) := by cases as <;> rfl
theorem esem_store {n id off} : esem (.store n) [.ptr id off, x] H KO = (x.isVal = true ∧ x.cells.length = n ∧ (match H[id]? with
    | some (.box cs) => off + n ≤ cs.length ∧ KO .junk (H.set id (.box (cs.take off ++ x.cells ++ cs.drop (off + n))))
    | _ => False)) := rfl
theorem lsem_mlook {ks zv ok id look} {k : AV} : lsem (.mlook ks zv ok) [.mp id, k] look KA = onMap (look id) fun ks' zv' es => (ks' = ks ∧ zv' = zv ∧ onSome (keyVal ks k) fun kv => KA (if ok = true then .tup [mval zv es kv, bool (mhas es kv)] else mval zv es kv)) := rfl
theorem lsem_mlen {id look} : lsem .mlen [.mp id] look KA = onMap (look id) fun _ _ es => KA (i64 es.length) := rfl
theorem msem_mkmap {ks zv id} {F : AV → AObj → Prop} : msem (.mkmap ks zv) [] id F = F (.mp id) (.map ks zv []) := rfl
theorem esem_mentry {ks zv id} {k : AV} : esem (.mentry ks zv) [.mp id, k] H KO = onMap H[id]? fun ks' zv' es => (ks' = ks ∧ zv' = zv ∧ onSome (keyVal ks k) fun kv => KO (.tup [mval zv es kv, i64 (mplace es kv)]) (H.set id (.map ks zv (mroom es kv)))) := rfl
theorem esem_mstore {ks zv id v} : esem (.mstore ks zv) [.mp id, .imm (.int k i), v] H KO = onMap H[id]? fun ks' zv' es => (ks' = ks ∧ zv' = zv ∧ v.isVal = true ∧ 0 ≤ i ∧ onSome es[i.toNat]? fun p => KO .junk (H.set id (.map ks zv (es.set i.toNat (p.1, some v))))) := rfl
theorem esem_mupd {ks zv id v} {k : AV} : esem (.mupd ks zv) [.mp id, k, v] H KO = onMap H[id]? fun ks' zv' es => (ks' = ks ∧ zv' = zv ∧ v.isVal = true ∧ onSome (keyVal ks k) fun kv => KO .junk (H.set id (.map ks zv (mput es kv (some v))))) := rfl
theorem onMap_map {a b c} {F : KShape → Value → List (Value × Option AV) → Prop} : onMap (some (.map a b c)) F = F a b c := rfl
theorem esem_storeR {n id ver size i} : esem (.store n) [.rp id ver size i, x] H KO = (x.isVal = true ∧ x.cells.length = n ∧ onRow H[id]? fun e sz' ver' xs => sz' = size ∧ size = n ∧ ver' = ver ∧ i < xs.length ∧ KO .junk (H.set id (.row e size ver (xs.set i x)))) := rfl
theorem esem_clear {zero id ver sz lo n} : esem (.clear zero) [.rs id ver sz lo n] H KO = (zero.isVal = true ∧ sz = zero.cells.length ∧ 0 < sz ∧ (n = 0 ∧ KO .junk H ∨ 0 < n ∧ onRow H[id]? fun e sz' ver' xs =>
      sz' = sz ∧ ver' = ver ∧ lo + n ≤ xs.length ∧ KO .junk (H.set id (.row e sz ver (xs.take lo ++ List.replicate n zero ++ xs.drop (lo + n)))))) := rfl
theorem onRow_row {a b c d} {F : TypeId → Nat → Nat → List AV → Prop} : onRow (some (.row a b c d)) F = F a b c d := rfl
theorem behind_rp {id ver size i look} {F : List AV → Nat → Prop} : behind (.rp id ver size i) look F = onRow (look id) fun _ sz ver' xs => sz = size ∧ ver' = ver ∧ onSome xs[i]? fun x => F x.cells 0 := rfl
theorem esem_append {e size bytes sz xs k sz' ys tok'} : esem (.append e size bytes) [.sl sz xs (some k), .sl sz' ys tok'] H KO = onTok H[k]? fun e' tsz n =>
      e' = e ∧ 0 < size ∧ tsz = size ∧ n = xs.length ∧ (sz = size ∨ xs = []) ∧ (sz' = size ∨ ys = []) ∧ (xs.length + ys.length) * bytes ≤ 140737488355328 ∧
        xs.length + ys.length ≤ 4611686018427387904 ∧ KO (.sl size (xs ++ ys) (some k)) (H.set k (.tok e size (xs.length + ys.length))) := rfl
theorem esem_mark {sz xs k} : esem .mark [.sl sz xs (some k)] H KO = onTok H[k]? fun _ _ n => n = xs.length ∧ 0 < n ∧ KO (.sl sz xs none) (H.set k .dead) := rfl
end rules
end
end Go.AL

/- Contracts of the library's shelf, as contracts on abstract values. -/
set_option linter.unusedSimpArgs false
set_option linter.unusedVariables false
namespace Go.AL
open Go Go.RowKit

section
variable {P : Program} {G : Nat → Option (List AV)}

theorem callsX_of_calls {f : FuncId} {fn : Func} {c : Code} (hf : P.funcs[f]? = some fn) (hb : fn.body = some c) (hn : (fn.name == "runtime.NumGoroutine") = false) {args : Array Value} {w : World} {v : Value} {R : World → Prop} {Q : Value → World → Prop}
    (h : Calls P f args w fun e w' => e = .returned v ∧ R w') (hQ : ∀ w', R w' → Q v w') : CallsX P f args w Q :=
  callsX_body hf hb hn (Calls.mono h fun e w' ⟨he, hr⟩ => by subst he; exact hQ w' hr)

theorem Rep.imm_inv' {E : Env} {w : World} {v u : Value} (h : Rep E w (.imm v) u) : u = v := by cases h; rfl

inductive Imms : List AV → List Value → Prop
  | nil : Imms [] []
  | cons {v as vs} : Imms as vs → Imms (.imm v :: as) (v :: vs)

theorem Imms.reps {E : Env} {w : World} {as : List AV} {vs us : List Value} (h : Imms as vs) : Reps E w as us → us = vs := by
  induction h generalizing us with
  | nil => intro h; cases h; rfl
  | cons h1 ih =>
    intro h; cases h with
    | cons _ _ _ _ h2 h3 => rw [h2.imm_inv', ih h3]

/-- A function of immediate values that answers an immediate value, and leaves what lay. -/
theorem pure_of_below {f : FuncId} {fn : Func} {c : Code} (hf : P.funcs[f]? = some fn) (hb : fn.body = some c) (hn : (fn.name == "runtime.NumGoroutine") = false) {as : List AV} {vs : List Value} {r : Value} (hr : r.oneCell' = true) (hv : Imms as vs)
    (h : ∀ (H : List AObj) lo E w, SimH G lo E H w → Calls P f vs.toArray w fun e w' => e = .returned r ∧ Below w.heap.size w w') : Pure P G f as (.imm r) := by
  intro H lo E w cargs hs ha
  obtain rfl := hv.reps ha
  refine callsX_of_calls hf hb hn (h H lo E w hs) fun w' hw' => ?_
  obtain ⟨k1, k2⟩ := hs.grow hw' (fun _ => False) (fun _ h => h.elim)
  exact ⟨_, .imm r hr, k1, k2⟩

theorem pure_of_same {f : FuncId} {fn : Func} {c : Code} (hf : P.funcs[f]? = some fn) (hb : fn.body = some c) (hn : (fn.name == "runtime.NumGoroutine") = false) {as : List AV} {vs : List Value} {r : Value} (hr : r.oneCell' = true) (hv : Imms as vs)
    (h : ∀ w, Calls P f vs.toArray w fun e w' => e = .returned r ∧ w' = w) : Pure P G f as (.imm r) :=
  pure_of_below hf hb hn hr hv fun H lo E w hs => (h w).mono fun e w' ⟨h1, h2⟩ => ⟨h1, h2 ▸ Below.refl _ _⟩

/-- What a global holds that is laid. -/
theorem SimH.cells {lo : Nat} {E : Env} {H : List AObj} {w : World} (h : SimH G lo E H w) {g : Nat} {cs : List AV} (hg : G g = some cs) {vs : List Value} (hv : Imms cs vs) : ∃ ty fz, w.heap[g]? = some (.cells vs.toArray ty fz) := by
  obtain ⟨us, h1, _, _, ty, fz, _, h5⟩ := h.glob g cs hg
  obtain rfl := hv.reps h1
  exact ⟨ty, fz, h5⟩

/-- A function that has just been called on abstract values, as the shelf would have it told of. -/
theorem calls_of_pure {f : FuncId} {fn : Func} {c : Code} (hf : P.funcs[f]? = some fn) (hb : fn.body = some c) (hn : (fn.name == "runtime.NumGoroutine") = false) {as : List AV} {vs : List Value} {r : Value} (hp : Pure P G f as (.imm r)) (hv : Imms as vs)
    {lo : Nat} {E : Env} {H : List AObj} {w : World} (hs : SimH G lo E H w) (hone : ∀ v ∈ vs, v.oneCell' = true) : Calls P f vs.toArray w fun e w' => e = .returned r ∧ Below lo w w' := by
  have hre : ∀ (as : List AV) (vs : List Value), Imms as vs → (∀ v ∈ vs, v.oneCell' = true) → Reps E w as vs := by
    intro as vs h
    induction h with
    | nil => intro _; exact .nil
    | cons h1 ih => intro ho; exact .cons _ _ _ _ (.imm _ (ho _ List.mem_cons_self)) (ih fun v hv => ho v (List.mem_cons_of_mem _ hv))
  have h := hp H lo E w vs hs (hre as vs hv hone)
  unfold CallsX at h
  have : (callFunc f vs.toArray).run P w = .ok (.enter f vs.toArray) w := by
    have hn' : ¬ fn.name = "runtime.NumGoroutine" := by simpa using hn
    simp [callFunc, hf, hn', hb]
  rw [this] at h
  refine Calls.mono h fun e w' he => ?_
  cases e with
  | returned v =>
    obtain ⟨E', h1, h2, h3⟩ := he
    exact ⟨by rw [h1.imm_inv'], h3.below⟩
  | panicked => exact he.elim
  | outgrown => exact he.elim
end
end Go.AL

/- Specifications of functions of texts and numbers; contracts that answer several values. -/
set_option linter.unusedSimpArgs false
set_option linter.unusedVariables false
namespace Go.AL
open Go Go.RowKit

/-- As long as a text may be for what is proved here. -/
abbrev Lim : Nat := 1099511627776

def splitB (b : Bool) (K : AV → Prop) : Prop := (b = true → K (bool true)) ∧ (b = false → K (bool false))
theorem splitB_of {b : Bool} {K : AV → Prop} (h : splitB b K) : K (bool b) := by cases b; exact h.2 rfl; exact h.1 rfl

/-- One text; two; three. -/
def txt1 (pre : List UInt8 → Prop) (f : List UInt8 → AV) : PSp := fun args K => match args with
  | [.imm (.string a)] => pre a.data.toList ∧ K (f a.data.toList) | _ => False
def txt2 (pre : List UInt8 → List UInt8 → Prop) (f : List UInt8 → List UInt8 → AV) : PSp := fun args K => match args with
  | [.imm (.string a), .imm (.string b)] => pre a.data.toList b.data.toList ∧ K (f a.data.toList b.data.toList) | _ => False
def txt1b (pre : List UInt8 → Prop) (f : List UInt8 → Bool) : PSp := fun args K => match args with
  | [.imm (.string a)] => pre a.data.toList ∧ splitB (f a.data.toList) K | _ => False
def txt2b (pre : List UInt8 → List UInt8 → Prop) (f : List UInt8 → List UInt8 → Bool) : PSp := fun args K => match args with
  | [.imm (.string a), .imm (.string b)] => pre a.data.toList b.data.toList ∧ splitB (f a.data.toList b.data.toList) K | _ => False
/-- A number of 64 bits. -/
def num1 (pre : Int → Prop) (f : Int → AV) : PSp := fun args K => match args with
  | [.imm (.int .i64 a)] => pre a ∧ K (f a) | _ => False
/-- A number of 64 bits, beside one that is written. -/
def num1c (c : Int) (pre : Int → Prop) (f : Int → AV) : PSp := fun args K => match args with
  | [.imm (.int .i64 a), .imm (.int .i64 b)] => b = c ∧ pre a ∧ K (f a) | _ => False
/-- A text, beside one that is written. -/
def txt1c (c : List UInt8) (pre : List UInt8 → Prop) (f : List UInt8 → AV) : PSp := fun args K => match args with
  | [.imm (.string a), .imm (.string b)] => b = B c ∧ pre a.data.toList ∧ K (f a.data.toList) | _ => False
def txt1cb (c : List UInt8) (pre : List UInt8 → Prop) (f : List UInt8 → Bool) : PSp := fun args K => match args with
  | [.imm (.string a), .imm (.string b)] => b = B c ∧ pre a.data.toList ∧ splitB (f a.data.toList) K | _ => False
def splitT (x : AV) (b : Bool) (K : AV → Prop) : Prop := (b = true → K (.tup [x, bool true])) ∧ (b = false → K (.tup [x, bool false]))
theorem splitT_of {x : AV} {b : Bool} {K : AV → Prop} (h : splitT x b K) : K (.tup [x, bool b]) := by cases b; exact h.2 rfl; exact h.1 rfl
def txt2t (pre : List UInt8 → List UInt8 → Prop) (f : List UInt8 → List UInt8 → AV) (g : List UInt8 → List UInt8 → Bool) : PSp := fun args K => match args with
  | [.imm (.string a), .imm (.string b)] => pre a.data.toList b.data.toList ∧ splitT (f a.data.toList b.data.toList) (g a.data.toList b.data.toList) K | _ => False
/-- A byte. -/
def byte1b (pre : Int → Prop) (f : Int → Bool) : PSp := fun args K => match args with
  | [.imm (.int .u8 a)] => pre a ∧ splitB (f a) K | _ => False
/-- Nothing. -/
def none0 (r : AV) : PSp := fun args K => match args with | [] => K r | _ => False

section
variable {K : AV → Prop}
theorem ask_txt1 {pre f l} : ask (txt1 pre f) [T l] K = (pre l ∧ K (f l)) := rfl
theorem ask_txt2 {pre f l m} : ask (txt2 pre f) [T l, T m] K = (pre l m ∧ K (f l m)) := rfl
theorem ask_txt1b {pre f l} : ask (txt1b pre f) [T l] K = (pre l ∧ splitB (f l) K) := rfl
theorem ask_txt2b {pre f l m} : ask (txt2b pre f) [T l, T m] K = (pre l m ∧ splitB (f l m) K) := rfl
theorem ask_num1 {pre f n} : ask (num1 pre f) [i64 n] K = (pre n ∧ K (f n)) := rfl
theorem ask_num1c {c pre f n b} : ask (num1c c pre f) [i64 n, i64 b] K = (b = c ∧ pre n ∧ K (f n)) := rfl
theorem ask_txt1c {c pre f l m} : ask (txt1c c pre f) [T l, T m] K = (m = c ∧ pre l ∧ K (f l)) := by
  show (B m = B c ∧ _) = _; rw [B_inj]; rfl
theorem ask_txt1cb {c pre f l m} : ask (txt1cb c pre f) [T l, T m] K = (m = c ∧ pre l ∧ splitB (f l) K) := by
  show (B m = B c ∧ _) = _; rw [B_inj]; rfl
theorem ask_txt2t {pre f g l m} : ask (txt2t pre f g) [T l, T m] K = (pre l m ∧ splitT (f l m) (g l m) K) := rfl
theorem splitT_eq {x b} : splitT x b K = SplitP (b = true) (K (.tup [x, bool true])) (K (.tup [x, bool false])) := by cases b <;> simp [splitT, SplitP]
@[congr] theorem splitT_congr {x x' b b'} (h : x = x') (hb : b = b') : splitT x b K = splitT x' b' K := by rw [h, hb]
theorem ask_byte1b {pre f n} : ask (byte1b pre f) [.imm (.int .u8 n)] K = (pre n ∧ splitB (f n) K) := rfl
theorem ask_none0 {r} : ask (none0 r) [] K = K r := rfl
theorem splitB_eq {b} : splitB b K = SplitP (b = true) (K (bool true)) (K (bool false)) := by cases b <;> simp [splitB, SplitP]
@[congr] theorem splitB_congr {b b'} (h : b = b') : splitB b K = splitB b' K := by rw [h]
end

section
variable {P : Program} {G : Nat → Option (List AV)} {F : FuncId}
theorem told_txt1 {pre f} (h : ∀ l, pre l → Pure P G F [T l] (f l)) : Told P G F (txt1 pre f) := by
  intro args K hk
  unfold txt1 at hk
  split at hk
  · exact ⟨_, h _ hk.1, hk.2⟩
  · exact hk.elim
theorem told_txt2 {pre f} (h : ∀ l m, pre l m → Pure P G F [T l, T m] (f l m)) : Told P G F (txt2 pre f) := by
  intro args K hk
  unfold txt2 at hk
  split at hk
  · exact ⟨_, h _ _ hk.1, hk.2⟩
  · exact hk.elim
theorem told_txt1b {pre f} (h : ∀ l, pre l → Pure P G F [T l] (bool (f l))) : Told P G F (txt1b pre f) := by
  intro args K hk
  unfold txt1b at hk
  split at hk
  · exact ⟨_, h _ hk.1, splitB_of hk.2⟩
  · exact hk.elim
theorem told_txt2b {pre f} (h : ∀ l m, pre l m → Pure P G F [T l, T m] (bool (f l m))) : Told P G F (txt2b pre f) := by
  intro args K hk
  unfold txt2b at hk
  split at hk
  · exact ⟨_, h _ _ hk.1, splitB_of hk.2⟩
  · exact hk.elim
theorem told_num1 {pre f} (h : ∀ l, pre l → Pure P G F [i64 l] (f l)) : Told P G F (num1 pre f) := by
  intro args K hk
  unfold num1 at hk
  split at hk
  · exact ⟨_, h _ hk.1, hk.2⟩
  · exact hk.elim
theorem told_num1c {c pre f} (h : ∀ l, pre l → Pure P G F [i64 l, i64 c] (f l)) : Told P G F (num1c c pre f) := by
  intro args K hk
  unfold num1c at hk
  split at hk
  · obtain ⟨rfl, h1, h2⟩ := hk; exact ⟨_, h _ h1, h2⟩
  · exact hk.elim
theorem told_txt1c {c pre f} (h : ∀ l, pre l → Pure P G F [T l, T c] (f l)) : Told P G F (txt1c c pre f) := by
  intro args K hk
  unfold txt1c at hk
  split at hk
  · obtain ⟨rfl, h1, h2⟩ := hk; exact ⟨_, h _ h1, h2⟩
  · exact hk.elim
theorem told_txt1cb {c pre f} (h : ∀ l, pre l → Pure P G F [T l, T c] (bool (f l))) : Told P G F (txt1cb c pre f) := by
  intro args K hk
  unfold txt1cb at hk
  split at hk
  · obtain ⟨rfl, h1, h2⟩ := hk; exact ⟨_, h _ h1, splitB_of h2⟩
  · exact hk.elim
theorem told_txt2t {pre f g} (h : ∀ l m, pre l m → Pure P G F [T l, T m] (.tup [f l m, bool (g l m)])) : Told P G F (txt2t pre f g) := by
  intro args K hk
  unfold txt2t at hk
  split at hk
  · exact ⟨_, h _ _ hk.1, splitT_of hk.2⟩
  · exact hk.elim
theorem told_byte1b {pre f} (h : ∀ l, pre l → Pure P G F [.imm (.int .u8 l)] (bool (f l))) : Told P G F (byte1b pre f) := by
  intro args K hk
  unfold byte1b at hk
  split at hk
  · exact ⟨_, h _ hk.1, splitB_of hk.2⟩
  · exact hk.elim
theorem told_none0 {r} (h : Pure P G F [] r) : Told P G F (none0 r) := by
  intro args K hk
  unfold none0 at hk
  split at hk
  · exact ⟨_, h, hk⟩
  · exact hk.elim

theorem imms_reps {as : List AV} {vs : List Value} (h : Imms as vs) (ho : ∀ v ∈ vs, v.oneCell' = true) {E : Env} {w : World} : Reps E w as vs := by
  induction h with
  | nil => exact .nil
  | cons h1 ih => exact .cons _ _ _ _ (.imm _ (ho _ List.mem_cons_self)) (ih fun v hv => ho v (List.mem_cons_of_mem _ hv))

theorem lows_map {α : Type} (f : α → Value) : ∀ (l : List α), lows 0 (l.map fun x => AV.imm (f x))
  | [] => trivial
  | _ :: l => ⟨trivial, lows_map f l⟩

theorem pure_of_code' {S : Spec} (hm : P.follows .mixedOrders = true) (hG : ∀ g cs, G g = some cs → lows 0 cs) (hS : S.Holds P G) {f : FuncId} {own : List Nat} {ac : ACode} {res : List Nat} {nt : Nat} (hfn : IsFn P f own ac res nt) {args : List AV} {r : AV} (ts : List AV) (hts : args ++ List.replicate (nt - args.length) .junk = ts) (ha : lows 0 args) (hr : r.low 0)
    (h : codeB G S 0 ac (retB res r) ts []) : Pure P G f args r := by subst hts; exact pure_of_code hm hG hS hfn ha hr h

theorem weak_cut {n0 : Nat} {ts ts' : List AV} {H H' : List AObj} (n : Nat) (hn : n0 ≤ n) (hH : H' = H.take n) (hl : ∀ o ∈ H', o.low n) (h : WeakL n ts ts') : Weak n0 ⟨ts, H⟩ ⟨ts', H'⟩ := ⟨_, .inl rfl, n, hn, by subst hH; exact HeapEq.refl _, hl, h⟩
theorem weak_cutN {n0 : Nat} {ts ts' : List AV} {H H' : List AObj} (n : Nat) (hn : n0 ≤ n) (hH : HeapEq (H.take n) H') (hl : ∀ o ∈ H', o.low n) (h : WeakL n ts ts') : Weak n0 ⟨ts, H⟩ ⟨ts', H'⟩ := ⟨_, .inl rfl, n, hn, hH, hl, h⟩

@[simp] theorem lows_mapT (n : Nat) : ∀ l : List (List UInt8), lows n (l.map T)
  | [] => trivial
  | _ :: l => ⟨trivial, lows_mapT n l⟩
@[simp] theorem lows_append' (n : Nat) (b : List AV) : ∀ a : List AV, lows n (a ++ b) ↔ lows n a ∧ lows n b
  | [] => by simp [lows]
  | x :: a => by simp only [List.cons_append, lows, lows_append' n b a, and_assoc]
@[simp] theorem lows_byteAV (n : Nat) : ∀ l : List UInt8, lows n (l.map byteAV)
  | [] => trivial
  | _ :: l => ⟨trivial, lows_byteAV n l⟩

theorem wrap_u8 {n : Int} (h : 0 ≤ n) (h' : n < 256) : IntKind.u8.wrap n = n := by
  simp only [IntKind.wrap, IntKind.bits, IntKind.signed]
  simp
  omega
theorem at'_nat (s : List UInt8) (i : Nat) : at' s i = ((s.getD i 0).toNat : Int) := rfl
theorem at'_eq {s : List UInt8} {i : Nat} (h : i < s.length) (b : UInt8) : at' s i = (b.toNat : Int) ↔ s[i]? = some b := by
  rw [at'_nat, List.getD_eq_getElem?_getD, List.getElem?_eq_getElem h]
  simp only [Option.getD_some, Option.some.injEq]
  constructor
  · intro h1; exact UInt8.toNat_inj.1 (by exact_mod_cast h1)
  · intro h1; rw [h1]

/-- As `pure_of_same`, of a function that answers several immediate values. -/
theorem pure_of_same_tup {f : FuncId} {fn : Func} {c : Code} (hf : P.funcs[f]? = some fn) (hb : fn.body = some c) (hn : (fn.name == "runtime.NumGoroutine") = false) {as rs : List AV} {vs us : List Value} (hu : Imms rs us) (ho : ∀ v ∈ us, v.oneCell' = true) (hv : Imms as vs)
    (h : ∀ w, Calls P f vs.toArray w fun e w' => e = .returned (.tuple us.toArray) ∧ w' = w) : Pure P G f as (.tup rs) := by
  intro H lo E w cargs hs ha
  obtain rfl := hv.reps ha
  refine callsX_of_calls hf hb hn (h w) fun w' hw' => ?_
  subst hw'
  exact ⟨E, .tup _ _ (imms_reps hu ho), hs, Evo.refl _ _ _⟩
end
end Go.AL

/- The rules in two bundles. -/
namespace Go.AL
open Go
theorem RP0 : type_of% (And.intro @ask_num1c <| And.intro @ask_txt1c <| And.intro @ask_txt1cb <| And.intro @ask_txt2t <| And.intro @splitT_eq <| And.intro @ask_txt1 <| And.intro @ask_txt2 <| And.intro @ask_txt1b <| And.intro @ask_txt2b <| And.intro @ask_num1 <| And.intro @ask_byte1b <| And.intro @ask_none0 <| And.intro @splitB_eq <| And.intro @codeB_skip <| And.intro @codeB_reg0 <| And.intro @codeB_reg <| And.intro @codeB_seq <| And.intro @codeB_cond <| And.intro @codeB_block <| And.intro @codeB_exit <| And.intro @codeB_ret <| And.intro @codeB_goto <| And.intro @codeB_scope <| And.intro @codeB_stuck <| And.intro @scopeQ_normal <| And.intro @scopeQ_exit <| And.intro @scopeQ_ret <| And.intro @scopeQ_goto <| And.intro @seqQ_goto <| And.intro @blockQ_goto <| And.intro @loopQ_goto <| And.intro @qB_eqBoo <| And.intro @qB_runeStr <| And.intro @qB_stuck <| And.intro @seqQ_normal <| And.intro @seqQ_exit <| And.intro @seqQ_ret <| And.intro @blockQ_normal <| And.intro @blockQ_exit <| @blockQ_ret) := And.intro @ask_num1c <| And.intro @ask_txt1c <| And.intro @ask_txt1cb <| And.intro @ask_txt2t <| And.intro @splitT_eq <| And.intro @ask_txt1 <| And.intro @ask_txt2 <| And.intro @ask_txt1b <| And.intro @ask_txt2b <| And.intro @ask_num1 <| And.intro @ask_byte1b <| And.intro @ask_none0 <| And.intro @splitB_eq <| And.intro @codeB_skip <| And.intro @codeB_reg0 <| And.intro @codeB_reg <| And.intro @codeB_seq <| And.intro @codeB_cond <| And.intro @codeB_block <| And.intro @codeB_exit <| And.intro @codeB_ret <| And.intro @codeB_goto <| And.intro @codeB_scope <| And.intro @codeB_stuck <| And.intro @scopeQ_normal <| And.intro @scopeQ_exit <| And.intro @scopeQ_ret <| And.intro @scopeQ_goto <| And.intro @seqQ_goto <| And.intro @blockQ_goto <| And.intro @loopQ_goto <| And.intro @qB_eqBoo <| And.intro @qB_runeStr <| And.intro @qB_stuck <| And.intro @seqQ_normal <| And.intro @seqQ_exit <| And.intro @seqQ_ret <| And.intro @blockQ_normal <| And.intro @blockQ_exit <| @blockQ_ret
theorem RP1 : type_of% (And.intro @loopQ_normal <| And.intro @loopQ_exit <| And.intro @loopQ_ret <| And.intro @retB_normal <| And.intro @retB_ret <| And.intro @retB_exit <| And.intro @opsB_nil <| And.intro @opsB_cons <| And.intro @stepB_none <| And.intro @stepB_some <| And.intro @coreB_q <| And.intro @coreB_l <| And.intro @coreB_m <| And.intro @coreB_e <| And.intro @coreB_call <| And.intro @callB_fn <| And.intro @onBool_imm <| And.intro @onGuard_bool <| And.intro @onGuard_off <| And.intro @onInt_imm <| And.intro @onStr_imm <| And.intro @onAgg_agg <| And.intro @onTup_tup <| And.intro @onImm_imm <| And.intro @onSl_sl <| And.intro @onPtr_ptr <| And.intro @onSome_some <| And.intro @onSome_none <| And.intro @onBox_box <| And.intro @onBox_fbox <| And.intro @onTok_tok <| And.intro @qB_mv <| And.intro @qB_pick <| And.intro @qB_bin <| And.intro @qB_not <| And.intro @qB_neg <| And.intro @qB_convI <| And.intro @qB_strId <| And.intro @qB_toBytes <| @qB_toStr) := And.intro @loopQ_normal <| And.intro @loopQ_exit <| And.intro @loopQ_ret <| And.intro @retB_normal <| And.intro @retB_ret <| And.intro @retB_exit <| And.intro @opsB_nil <| And.intro @opsB_cons <| And.intro @stepB_none <| And.intro @stepB_some <| And.intro @coreB_q <| And.intro @coreB_l <| And.intro @coreB_m <| And.intro @coreB_e <| And.intro @coreB_call <| And.intro @callB_fn <| And.intro @onBool_imm <| And.intro @onGuard_bool <| And.intro @onGuard_off <| And.intro @onInt_imm <| And.intro @onStr_imm <| And.intro @onAgg_agg <| And.intro @onTup_tup <| And.intro @onImm_imm <| And.intro @onSl_sl <| And.intro @onPtr_ptr <| And.intro @onSome_some <| And.intro @onSome_none <| And.intro @onBox_box <| And.intro @onBox_fbox <| And.intro @onTok_tok <| And.intro @qB_mv <| And.intro @qB_pick <| And.intro @qB_bin <| And.intro @qB_not <| And.intro @qB_neg <| And.intro @qB_convI <| And.intro @qB_strId <| And.intro @qB_toBytes <| @qB_toStr
theorem RP2 : type_of% (And.intro @qB_fld1 <| And.intro @qB_fldA <| And.intro @qB_faddrP <| And.intro @qB_faddrR <| And.intro @qB_idxS <| And.intro @qB_idx1 <| And.intro @qB_idxA <| And.intro @qB_iaddrS <| And.intro @qB_iaddrAP <| And.intro @qB_iaddrAR <| And.intro @qB_sliceS <| And.intro @qB_sliceL <| And.intro @qB_nilchkP <| And.intro @qB_nilchkR <| And.intro @qB_nilchkF <| And.intro @qB_ext <| And.intro @qB_lenS <| And.intro @qB_lenL <| And.intro @qB_lenC <| And.intro @qB_mkfn <| And.intro @qB_build <| And.intro @qB_bslice <| And.intro @qB_max2 <| And.intro @qB_min2 <| And.intro @qB_mkiface <| And.intro @bounds_ff <| And.intro @bounds_tf <| And.intro @bounds_ft <| And.intro @bounds_tt <| And.intro @lsem_load1 <| And.intro @lsem_loadA <| And.intro @behind_r <| And.intro @behind_p <| And.intro @mB_eq <| And.intro @msem_box <| And.intro @msem_alloc <| And.intro @msem_nilT <| And.intro @msem_bsl <| And.intro @esem_store <| @esem_append) := And.intro @qB_fld1 <| And.intro @qB_fldA <| And.intro @qB_faddrP <| And.intro @qB_faddrR <| And.intro @qB_idxS <| And.intro @qB_idx1 <| And.intro @qB_idxA <| And.intro @qB_iaddrS <| And.intro @qB_iaddrAP <| And.intro @qB_iaddrAR <| And.intro @qB_sliceS <| And.intro @qB_sliceL <| And.intro @qB_nilchkP <| And.intro @qB_nilchkR <| And.intro @qB_nilchkF <| And.intro @qB_ext <| And.intro @qB_lenS <| And.intro @qB_lenL <| And.intro @qB_lenC <| And.intro @qB_mkfn <| And.intro @qB_build <| And.intro @qB_bslice <| And.intro @qB_max2 <| And.intro @qB_min2 <| And.intro @qB_mkiface <| And.intro @bounds_ff <| And.intro @bounds_tf <| And.intro @bounds_ft <| And.intro @bounds_tt <| And.intro @lsem_load1 <| And.intro @lsem_loadA <| And.intro @behind_r <| And.intro @behind_p <| And.intro @mB_eq <| And.intro @msem_box <| And.intro @msem_alloc <| And.intro @msem_nilT <| And.intro @msem_bsl <| And.intro @esem_store <| @esem_append
theorem RP3 : type_of% (And.intro @esem_mark <| And.intro @binB_lss <| And.intro @binB_leq <| And.intro @binB_gtr <| And.intro @binB_geq <| And.intro @binB_eql <| And.intro @binB_neq <| And.intro @binB_add <| And.intro @binB_sub <| And.intro @binB_mul <| And.intro @binB_quo <| And.intro @binB_rem <| And.intro @binB_quok <| And.intro @binB_addk <| And.intro @binB_subk <| And.intro @binB_mulk <| And.intro @binB_and <| And.intro @binB_or <| And.intro @binB_xor <| And.intro @binB_andNot <| And.intro @binB_shl <| And.intro @binB_shr <| And.intro @binB_sadd <| And.intro @binB_seql <| And.intro @binB_sneq <| And.intro @qB_lenR <| And.intro @qB_iaddrSR <| And.intro @qB_sliceLR <| And.intro @esem_storeR <| And.intro @esem_clear <| And.intro @onRow_row <| And.intro @behind_rp <| And.intro @lsem_mlook <| And.intro @lsem_mlen <| And.intro @msem_mkmap <| And.intro @esem_mentry <| And.intro @esem_mstore <| And.intro @esem_mupd <| @onMap_map) := And.intro @esem_mark <| And.intro @binB_lss <| And.intro @binB_leq <| And.intro @binB_gtr <| And.intro @binB_geq <| And.intro @binB_eql <| And.intro @binB_neq <| And.intro @binB_add <| And.intro @binB_sub <| And.intro @binB_mul <| And.intro @binB_quo <| And.intro @binB_rem <| And.intro @binB_quok <| And.intro @binB_addk <| And.intro @binB_subk <| And.intro @binB_mulk <| And.intro @binB_and <| And.intro @binB_or <| And.intro @binB_xor <| And.intro @binB_andNot <| And.intro @binB_shl <| And.intro @binB_shr <| And.intro @binB_sadd <| And.intro @binB_seql <| And.intro @binB_sneq <| And.intro @qB_lenR <| And.intro @qB_iaddrSR <| And.intro @qB_sliceLR <| And.intro @esem_storeR <| And.intro @esem_clear <| And.intro @onRow_row <| And.intro @behind_rp <| And.intro @lsem_mlook <| And.intro @lsem_mlen <| And.intro @msem_mkmap <| And.intro @esem_mentry <| And.intro @esem_mstore <| And.intro @esem_mupd <| @onMap_map
theorem RV : type_of% (And.intro @SplitP_true <| And.intro @SplitP_false <| And.intro @ares_one <| And.intro @ares_none <| And.intro @ares_more <| And.intro @evalsB_nil <| And.intro @evalsB_cons <| And.intro @evalB_t <| And.intro @evalB_c <| And.intro @getL_zero <| And.intro @getL_8 <| And.intro @getL_succ <| And.intro @putL_none <| And.intro @putL_zero <| And.intro @putL_8 <| And.intro @putL_succ <| And.intro @turnsOf_nil <| And.intro @turnsOf_cons <| And.intro @turnOf_cons <| And.intro @pureOf_cons <| And.intro @cells_imm <| And.intro @cells_agg <| And.intro @cells_sl <| And.intro @cells_fn <| And.intro @cells_ptr <| And.intro @cells_rptr <| And.intro @isVal_imm <| And.intro @isVal_agg <| And.intro @isVal_sl <| And.intro @isVal_fn <| And.intro @isVal_ptr <| And.intro @isVal_rptr <| And.intro @strip_imm <| And.intro @strip_sl <| And.intro @strip_fn <| And.intro @strip_ptr <| And.intro @strip_rptr <| And.intro @strip_junk <| And.intro @strip_agg <| And.intro @strip1_imm <| And.intro @strip1_sl <| And.intro @strip1_fn <| And.intro @strip1_ptr <| And.intro @stripR_imm <| And.intro @stripR_sl <| And.intro @stripR_agg <| And.intro @stripR_tup <| And.intro @stripR_fn <| And.intro @lookIn_false <| And.intro @lookIn_true <| And.intro @fillCells_nil <| And.intro @fillCells_cons <| And.intro @bytesOf_nil <| And.intro @bytesOf_cons <| And.intro @SplitP_lt <| And.intro @SplitP_le <| And.intro @SplitP_ltN <| And.intro @SplitP_leN <| And.intro @SplitP_same <| And.intro @SplitP_and <| And.intro @SplitP_or <| And.intro @SplitP_not <| And.intro @strip_rs <| And.intro @stripR_rs <| And.intro @cells_rs <| And.intro @isVal_rs <| And.intro @strip_mp <| And.intro @cells_mp <| @isVal_mp) := And.intro @SplitP_true <| And.intro @SplitP_false <| And.intro @ares_one <| And.intro @ares_none <| And.intro @ares_more <| And.intro @evalsB_nil <| And.intro @evalsB_cons <| And.intro @evalB_t <| And.intro @evalB_c <| And.intro @getL_zero <| And.intro @getL_8 <| And.intro @getL_succ <| And.intro @putL_none <| And.intro @putL_zero <| And.intro @putL_8 <| And.intro @putL_succ <| And.intro @turnsOf_nil <| And.intro @turnsOf_cons <| And.intro @turnOf_cons <| And.intro @pureOf_cons <| And.intro @cells_imm <| And.intro @cells_agg <| And.intro @cells_sl <| And.intro @cells_fn <| And.intro @cells_ptr <| And.intro @cells_rptr <| And.intro @isVal_imm <| And.intro @isVal_agg <| And.intro @isVal_sl <| And.intro @isVal_fn <| And.intro @isVal_ptr <| And.intro @isVal_rptr <| And.intro @strip_imm <| And.intro @strip_sl <| And.intro @strip_fn <| And.intro @strip_ptr <| And.intro @strip_rptr <| And.intro @strip_junk <| And.intro @strip_agg <| And.intro @strip1_imm <| And.intro @strip1_sl <| And.intro @strip1_fn <| And.intro @strip1_ptr <| And.intro @stripR_imm <| And.intro @stripR_sl <| And.intro @stripR_agg <| And.intro @stripR_tup <| And.intro @stripR_fn <| And.intro @lookIn_false <| And.intro @lookIn_true <| And.intro @fillCells_nil <| And.intro @fillCells_cons <| And.intro @bytesOf_nil <| And.intro @bytesOf_cons <| And.intro @SplitP_lt <| And.intro @SplitP_le <| And.intro @SplitP_ltN <| And.intro @SplitP_leN <| And.intro @SplitP_same <| And.intro @SplitP_and <| And.intro @SplitP_or <| And.intro @SplitP_not <| And.intro @strip_rs <| And.intro @stripR_rs <| And.intro @cells_rs <| And.intro @isVal_rs <| And.intro @strip_mp <| And.intro @cells_mp <| @isVal_mp
theorem RW : type_of% (And.intro @List.map_cons.{0,0} <| And.intro @List.map_nil.{0,0} <| And.intro @List.cons_append.{0} <| And.intro @List.nil_append.{0} <| And.intro @List.append_nil.{0} <| And.intro @List.length_cons.{0} <| And.intro @List.length_nil.{0} <| And.intro @List.getElem?_cons_zero.{0} <| And.intro @List.getElem?_cons_succ.{0} <| And.intro @List.set_cons_zero.{0} <| And.intro @List.set_cons_succ.{0} <| And.intro @true_imp_iff <| And.intro @false_imp_iff <| And.intro @not_true_eq_false <| And.intro @not_false_eq_true <| And.intro @and_true <| And.intro @true_and <| And.intro @and_false <| And.intro @false_and <| And.intro @implies_true.{1} <| And.intro @Bool.false_eq_true <| And.intro @Bool.true_eq_false <| And.intro @Bool.not_eq_true <| And.intro @Bool.not_true <| And.intro @Bool.not_false <| And.intro @beq_self_eq_true.{0} <| And.intro @Bool.true_beq <| And.intro @Bool.false_beq <| And.intro @List.take_zero.{0} <| And.intro @List.drop_zero.{0} <| And.intro @List.take_succ_cons.{0} <| And.intro @List.drop_succ_cons.{0} <| And.intro @List.take_nil.{0} <| And.intro @List.drop_nil.{0} <| And.intro @List.replicate_zero.{0} <| And.intro @List.replicate_succ.{0} <| And.intro @Nat.zero_add <| And.intro @Nat.add_zero <| And.intro @Int.toNat_natCast <| And.intro @Int.natCast_nonneg <| And.intro @Int.natCast_zero <| And.intro @Nat.lt_irrefl <| And.intro @Option.some.injEq.{0} <| And.intro @Option.map_some.{0,0} <| And.intro @ne_eq.{1} <| @implies_true.{0}) := And.intro @List.map_cons.{0,0} <| And.intro @List.map_nil.{0,0} <| And.intro @List.cons_append.{0} <| And.intro @List.nil_append.{0} <| And.intro @List.append_nil.{0} <| And.intro @List.length_cons.{0} <| And.intro @List.length_nil.{0} <| And.intro @List.getElem?_cons_zero.{0} <| And.intro @List.getElem?_cons_succ.{0} <| And.intro @List.set_cons_zero.{0} <| And.intro @List.set_cons_succ.{0} <| And.intro @true_imp_iff <| And.intro @false_imp_iff <| And.intro @not_true_eq_false <| And.intro @not_false_eq_true <| And.intro @and_true <| And.intro @true_and <| And.intro @and_false <| And.intro @false_and <| And.intro @implies_true.{1} <| And.intro @Bool.false_eq_true <| And.intro @Bool.true_eq_false <| And.intro @Bool.not_eq_true <| And.intro @Bool.not_true <| And.intro @Bool.not_false <| And.intro @beq_self_eq_true.{0} <| And.intro @Bool.true_beq <| And.intro @Bool.false_beq <| And.intro @List.take_zero.{0} <| And.intro @List.drop_zero.{0} <| And.intro @List.take_succ_cons.{0} <| And.intro @List.drop_succ_cons.{0} <| And.intro @List.take_nil.{0} <| And.intro @List.drop_nil.{0} <| And.intro @List.replicate_zero.{0} <| And.intro @List.replicate_succ.{0} <| And.intro @Nat.zero_add <| And.intro @Nat.add_zero <| And.intro @Int.toNat_natCast <| And.intro @Int.natCast_nonneg <| And.intro @Int.natCast_zero <| And.intro @Nat.lt_irrefl <| And.intro @Option.some.injEq.{0} <| And.intro @Option.map_some.{0,0} <| And.intro @ne_eq.{1} <| @implies_true.{0}
end Go.AL
