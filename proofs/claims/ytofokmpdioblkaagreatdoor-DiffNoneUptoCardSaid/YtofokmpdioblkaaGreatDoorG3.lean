/- Conversions, indexes, slices, calls of the builtins that turn nothing. -/
import Derived.Test.YtofokmpdioblkaaGreatDoorG2
import Derived.Lib.ConvBytes
import Derived.Laws.BytesString
set_option linter.unusedSimpArgs false
set_option linter.unusedVariables false
namespace Go.AL
open Go Go.RowKit
section
variable {P : Program} {G : Nat → Option (List AV)} {lo : Nat} {E : Env} {H : List AObj} {w : World}
theorem Rep.sl_inv {size : Nat} {xs : List AV} {tok : Option Nat} {v : Value} (h : Rep E w (.sl size xs tok) v) : ∃ A cap us, v = .slice A xs.length cap ∧ xs.length ≤ cap ∧ cap ≤ maxLen ∧ (∀ x ∈ xs, x.cells.length = size) ∧
    Reps E w (xs.flatMap AV.cells) us ∧ (∀ u ∈ us, u.oneCell' = true) ∧ (∀ j u, us[j]? = some u → ∃ ad, A = some ad ∧ w.cell? (ad.add j) = some u ∧ E.I (ad.add j)) ∧ TokOk E xs.length A cap tok := by
  cases h with
  | sl size xs tok A cap us h1 h2 h3 h4 h5 h6 h7 => exact ⟨A, cap, us, rfl, h1, h2, h3, h4, h5, h6, h7⟩
theorem Rep.agg_inv {cs : List AV} {v : Value} (h : Rep E w (.agg cs) v) : ∃ us, v = .agg (List.toArray us) ∧ Reps E w cs us ∧ ∀ u ∈ us, u.oneCell' = true := by
  cases h with
  | agg cs us h1 h2 => exact ⟨us, rfl, h1, h2⟩
theorem bytesOf_cells : ∀ (xs : List AV) (us : List Value) (bs : List UInt8), bytesOf xs = some bs → Reps E w (xs.flatMap AV.cells) us →
    ∃ ns : List Int, us = ns.map (Value.int .u8) ∧ bs = ns.map fun n => UInt8.ofNat n.toNat
  | [], us, bs, h, hr => by
    simp [bytesOf] at h
    subst h
    rw [Reps.nil_inv hr]
    exact ⟨[], rfl, rfl⟩
  | x :: xs, us, bs, h, hr => by
    cases x with
    | imm v =>
      cases v with
      | int k n =>
        cases k with
        | u8 =>
          simp only [bytesOf, Option.map_eq_some_iff] at h
          obtain ⟨bs', h1, rfl⟩ := h
          obtain ⟨v, vs, rfl, hv, hvs⟩ := Reps.cons_inv (show Reps E w (.imm (.int .u8 n) :: xs.flatMap AV.cells) us from hr)
          cases hv.imm_inv
          obtain ⟨ns, rfl, rfl⟩ := bytesOf_cells xs vs bs' h1 hvs
          exact ⟨n :: ns, rfl, rfl⟩
        | _ => simp [bytesOf] at h
      | _ => simp [bytesOf] at h
    | _ => simp [bytesOf] at h
theorem foldl_push_al : ∀ (ns : List Int) (acc : Array UInt8), ns.foldl (fun r n => r.push (UInt8.ofNat n.toNat)) (⟨acc⟩ : ByteArray) = ⟨acc ++ (ns.map fun n => UInt8.ofNat n.toNat).toArray⟩
  | [], acc => by simp
  | n :: ns, acc => by
    simp only [List.foldl_cons, List.map_cons]
    rw [show (⟨acc⟩ : ByteArray).push (UInt8.ofNat n.toNat) = ⟨acc.push (UInt8.ofNat n.toNat)⟩ from rfl, foldl_push_al ns]
    congr 1
    apply Array.ext'
    simp
theorem bytesOf_length : ∀ (xs : List AV) (bs : List UInt8), bytesOf xs = some bs → bs.length = xs.length := by
  intro xs
  induction xs with
  | nil => intro bs h; simp [bytesOf] at h; subst h; rfl
  | cons x xs ih =>
    intro bs h
    cases x with
    | imm v =>
      cases v with
      | int k n =>
        cases k with
        | u8 => simp only [bytesOf, Option.map_eq_some_iff] at h; obtain ⟨bs', h1, rfl⟩ := h; simp [ih bs' h1]
        | _ => simp [bytesOf] at h
      | _ => simp [bytesOf] at h
    | _ => simp [bytesOf] at h
theorem toStr_done (hs : SimH G lo E H w) {src dst e : TypeId} {x : AV} {v : Value} (hd : P.underlying dst = some .string) (he1 : P.underlying src = some (.slice e)) (he2 : P.underlying e = some (.int .u8))
    (hx : Rep E w x v) {K : AV → Prop} (h : toStrSem x K) : QDone P G lo E H w (convert src dst v) K := by
  obtain ⟨sz, xs, tok, rfl, h⟩ := onSl_inv h
  obtain ⟨bs, hb, hK⟩ := onSome_inv h
  obtain ⟨A, cap, us, rfl, h1, h2, h3, h4, h5, h6, h7⟩ := hx.sl_inv
  obtain ⟨ns, rfl, rfl⟩ := bytesOf_cells xs us bs hb h4
  have hl : ns.length = xs.length := by simpa using bytesOf_length xs _ hb
  refine .quiet hs (v := .string ⟨(ns.map fun n => UInt8.ofNat n.toNat).toArray⟩) ?_ hK (.imm _ rfl)
  rw [run_convert_bytes_string w src dst e A _ cap he1 he2 hd]
  cases A with
  | none =>
    have : ns = [] := by
      cases ns with
      | nil => rfl
      | cons n ns => obtain ⟨ad, e1, _⟩ := h6 0 (.int .u8 n) (by simp); cases e1
    subst this
    simp [Conv.bytesToString]
    rfl
  | some ad =>
    have hload := run_loadCells_list (P := P) w ad (ns.map (Value.int .u8)) (fun j u hu => by
      obtain ⟨ad', e1, e2, _⟩ := h6 j u hu
      cases e1
      exact e2)
    rw [List.length_map] at hload
    rw [run_bytesToString w ad xs.length cap ns (by rw [← hl]; exact hload)]
    have := foldl_push_al ns #[]
    rw [show (ByteArray.empty) = (⟨#[]⟩ : ByteArray) from rfl, this]
    simp
theorem strId_done (hs : SimH G lo E H w) {src dst : TypeId} {x : AV} {v : Value} (hd : P.underlying dst = some .string) (he1 : P.underlying src = some .string)
    (hx : Rep E w x v) {K : AV → Prop} (h : qsem .strId [x] K) : QDone P G lo E H w (convert src dst v) K := by
  obtain ⟨s, rfl, h⟩ := onStr_inv h
  cases hx.imm_inv
  exact .quiet hs (v := .string s) (by simp [convert, run_underlying he1, run_underlying hd]) h (.imm _ rfl)
theorem runeStr_done (hs : SimH G lo E H w) {src dst : TypeId} {k : IntKind} {x : AV} {v : Value} (hd : P.underlying dst = some .string) (he1 : P.underlying src = some (.int k))
    (hx : Rep E w x v) {K : AV → Prop} (h : qsem .runeStr [x] K) : QDone P G lo E H w (convert src dst v) K := by
  obtain ⟨k', n, rfl, h⟩ := onInt_inv h
  cases hx.imm_inv
  exact .quiet hs (v := .string (Utf8.encode n)) (by simp [convert, run_underlying he1, run_underlying hd, Conv.intToString]) h (.imm _ rfl)
theorem convI_done (hs : SimH G lo E H w) {src dst : TypeId} {k q : IntKind} {x : AV} {v : Value} (hd : P.underlying dst = some (.int k)) (he1 : P.underlying src = some (.int q))
    (hx : Rep E w x v) {K : AV → Prop} (h : qsem (.convI k) [x] K) : QDone P G lo E H w (convert src dst v) K := by
  obtain ⟨k', n, rfl, h⟩ := onInt_inv h
  cases hx.imm_inv
  exact .quiet hs (v := .int k (k.wrap n)) (by simp [convert, run_underlying he1, run_underlying hd, Conv.intToInt]) h (.imm _ rfl)
theorem reps_bytes {E : Env} {w : World} : ∀ (l : List UInt8), Reps E w ((l.map byteAV).flatMap AV.cells) (l.map fun b => Value.int .u8 b.toNat)
  | [] => .nil
  | b :: l => .cons _ _ _ _ (.imm _ rfl) (reps_bytes l)
theorem toBytes_done (hs : SimH G lo E H w) {src dst e : TypeId} {x : AV} {v : Value} (hd : P.underlying dst = some (.slice e)) (he1 : P.underlying src = some .string) (he2 : P.underlying e = some (.int .u8))
    (hx : Rep E w x v) {K : AV → Prop} (h : qsem .toBytes [x] K) : QDone P G lo E H w (convert src dst v) K := by
  obtain ⟨s, rfl, hsz, h⟩ := onStr_inv h
  cases hx.imm_inv
  have hb : Below w.heap.size w (Lib.bytesWorld w e s) := ⟨rfl, rfl, rfl, by rw [Lib.bytesWorld_size]; omega, fun i hi => Lib.bytesWorld_at_old w e s i hi⟩
  obtain ⟨h1, h2⟩ := hs.grow hb (fun a => ∃ j, j < s.size ∧ a = ⟨w.heap.size, j, none⟩) (by
    rintro a ⟨j, hj, rfl⟩
    exact ⟨Nat.le_refl _, by rw [Lib.bytesWorld_size]; exact Nat.lt_succ_self _⟩)
  refine ⟨_, _, _, _, Lib.run_convert_string_bytes w src dst e s he1 hd he2, h, ?_, h1, h2⟩
  have hlen : (s.data.toList.map byteAV).length = s.size := by simp
  have hr := Rep.sl (E := E.more fun a => ∃ j, j < s.size ∧ a = ⟨w.heap.size, j, none⟩) (w := Lib.bytesWorld w e s) 1 (s.data.toList.map byteAV) none (some ⟨w.heap.size, 0, none⟩) (grownCap w s.size 0 e)
    (s.data.toList.map fun b => Value.int .u8 b.toNat) (by rw [hlen]; exact grownCap_ge w s.size 0 e) (grownCap_le_maxLen w s.size 0 e (by unfold maxLen; omega)) (by simp [byteAV, AV.cells]) (reps_bytes _)
    (by simp; intros; rfl) (fun j u hu => by
      have hj : j < s.size := by
        have := (List.getElem?_eq_some_iff.1 hu).1
        simpa using this
      refine ⟨_, rfl, ?_, .inr ⟨j, hj, by rw [Addr.add_lit]; simp⟩⟩
      rw [Addr.add_lit, Nat.zero_add, Lib.bytesWorld_cell w e s j hj]
      have hj' : j < s.data.toList.length := by simpa using hj
      rw [List.getElem?_map, List.getElem?_eq_getElem hj'] at hu
      simp only [Option.map_some, Option.some.injEq] at hu
      rw [← hu, List.getD_eq_getElem?_getD, List.getElem?_eq_getElem hj']
      rfl) trivial
  rw [hlen] at hr
  exact hr
theorem idxS_done (hs : SimH G lo E H w) {t : TypeId} {x y : AV} {v u : Value} (hu : P.underlying t = some .string) (hx : Rep E w x v) (hy : Rep E w y u) {K : AV → Prop}
    (h : qsem .idxS [x, y] K) : QDone P G lo E H w (Instr.index t v u) K := by
  obtain ⟨s, rfl, h⟩ := onStr_inv h
  obtain ⟨k, i, rfl, h0, h1, h2⟩ := onInt_inv h
  cases hx.imm_inv
  cases hy.imm_inv
  refine .quiet hs (v := .int .u8 (bt s i)) ?_ h2 (.imm _ rfl)
  have hlt : i.toNat < s.size := by omega
  have hget : s[i.toNat]? = some (s[i.toNat]'hlt) := by
    simp [hlt]
  have hbt : bt s i = ((s[i.toNat]'hlt).toNat : Int) := by
    unfold bt
    have hl' : i.toNat < s.data.toList.length := by simpa using hlt
    rw [List.getD_eq_getElem?_getD, List.getElem?_eq_getElem hl']
    rfl
  simp [Instr.index, asIntOf, run_underlying hu, h0, hget, hbt]
theorem idx1_done (hs : SimH G lo E H w) {t e : TypeId} {d : TypeDesc} {len : Nat} {x y : AV} {v u : Value} (hu : P.underlying t = some (.array len e)) (hsz : szOf P e = some 1) (hd : P.underlying e = some d) (hag : aggD d = false)
    (hx : Rep E w x v) (hy : Rep E w y u) {K : AV → Prop} (h : qsem (.idx1 len) [x, y] K) : QDone P G lo E H w (Instr.index t v u) K := by
  obtain ⟨cs, rfl, h⟩ := onAgg_inv h
  obtain ⟨k, i, rfl, h0, h1, h⟩ := onInt_inv h
  obtain ⟨c, hc, hK⟩ := onSome_inv h
  cases hy.imm_inv
  obtain ⟨us, rfl, hr, ho⟩ := hx.agg_inv
  obtain ⟨z, hz, hrep⟩ := hr.get _ _ hc
  refine .quiet hs (v := z) ?_ hK hrep
  obtain ⟨i', hi', hs1⟩ : ∃ i', P.info? e = some i' ∧ i'.size = 1 := by simpa [szOf, Option.map_eq_some_iff] using hsz
  cases d <;> simp [aggD] at hag <;> simp [Instr.index, asIntOf, run_underlying hu, h0, h1, sizeOf, typeInfo, hi', hs1, part, isAgg, run_underlying hd, hz]
theorem idxA_done (hs : SimH G lo E H w) {t e : TypeId} {d : TypeDesc} {len n : Nat} {x y : AV} {v u : Value} (hu : P.underlying t = some (.array len e)) (hsz : szOf P e = some n) (hd : P.underlying e = some d) (hag : aggD d = true)
    (hx : Rep E w x v) (hy : Rep E w y u) {K : AV → Prop} (h : qsem (.idxA len n) [x, y] K) : QDone P G lo E H w (Instr.index t v u) K := by
  obtain ⟨cs, rfl, h⟩ := onAgg_inv h
  obtain ⟨k, i, rfl, h0, h1, h2, hK⟩ := onInt_inv h
  cases hy.imm_inv
  obtain ⟨us, rfl, hr, ho⟩ := hx.agg_inv
  obtain ⟨i', hi', hs1⟩ : ∃ i', P.info? e = some i' ∧ i'.size = n := by simpa [szOf, Option.map_eq_some_iff] using hsz
  refine .quiet hs (v := .agg ((us.drop (i.toNat * n)).take n).toArray) ?_ hK (.agg _ _ ((hr.drop _).take _) fun u hu => ho u (List.mem_of_mem_drop (List.mem_of_mem_take hu)))
  cases d <;> simp [aggD] at hag <;> simp [Instr.index, asIntOf, run_underlying hu, h0, h1, sizeOf, typeInfo, hi', hs1, part, isAgg, run_underlying hd, List.extract_eq_take_drop]
theorem szOf_some {t : TypeId} {n : Nat} (h : szOf P t = some n) : ∃ i, P.info? t = some i ∧ i.size = n := by simpa [szOf, Option.map_eq_some_iff] using h
theorem fld1_done (hs : SimH G lo E H w) {t : TypeId} {fs : Array Field} {f : Nat} {fd : Field} {d : TypeDesc} {x : AV} {v : Value} (hu : P.underlying t = some (.struct fs)) (hf : fs[f]? = some fd)
    (hd : P.underlying fd.type = some d) (hag : aggD d = false) (hx : Rep E w x v) {K : AV → Prop} (h : qsem (.fld1 fd.offset) [x] K) : QDone P G lo E H w (Instr.field t v f) K := by
  obtain ⟨cs, rfl, h⟩ := onAgg_inv h
  obtain ⟨c, hc, hK⟩ := onSome_inv h
  obtain ⟨us, rfl, hr, ho⟩ := hx.agg_inv
  obtain ⟨z, hz, hrep⟩ := hr.get _ _ hc
  refine .quiet hs (v := z) ?_ hK hrep
  cases d <;> simp [aggD] at hag <;> simp [Instr.field, run_underlying hu, hf, asAgg, part, isAgg, run_underlying hd, hz]
theorem fldA_done (hs : SimH G lo E H w) {t : TypeId} {fs : Array Field} {f n : Nat} {fd : Field} {d : TypeDesc} {x : AV} {v : Value} (hu : P.underlying t = some (.struct fs)) (hf : fs[f]? = some fd)
    (hsz : szOf P fd.type = some n) (hd : P.underlying fd.type = some d) (hag : aggD d = true) (hx : Rep E w x v) {K : AV → Prop} (h : qsem (.fldA fd.offset n) [x] K) : QDone P G lo E H w (Instr.field t v f) K := by
  obtain ⟨cs, rfl, h1, hK⟩ := onAgg_inv h
  obtain ⟨us, rfl, hr, ho⟩ := hx.agg_inv
  obtain ⟨i', hi', hs1⟩ := szOf_some hsz
  refine .quiet hs (v := .agg ((us.drop fd.offset).take n).toArray) ?_ hK (.agg _ _ ((hr.drop _).take _) fun u hu => ho u (List.mem_of_mem_drop (List.mem_of_mem_take hu)))
  cases d <;> simp [aggD] at hag <;> simp [Instr.field, run_underlying hu, hf, asAgg, part, isAgg, run_underlying hd, sizeOf, typeInfo, hi', hs1, List.extract_eq_take_drop]
theorem add_add (ad : Addr) (n m : Nat) : (ad.add n).add m = ad.add (n + m) := by
  unfold Addr.add
  by_cases h1 : n = 0
  · subst h1; simp
  · by_cases h2 : m = 0
    · subst h2; simp
    · simp [h1, h2]; omega
/-- What is behind a pointer, further on. -/
theorem faddr_rep {x : AV} {v : Value} (hx : Rep E w x v) {off : Nat} {K : AV → Prop} (h : faddrSem off x K) : ∃ a r, v = .pointer (some a) ∧ K r ∧ Rep E w r (.pointer (some (a.add off))) := by
  unfold faddrSem at h
  split at h
  · cases hx with
    | ptr id o b hb => exact ⟨_, _, rfl, h, by rw [Addr.add_lit]; exact .ptr _ _ b hb⟩
  · cases hx with
    | rptr cs o ad us h1 h2 h3 => exact ⟨_, _, rfl, h, by rw [add_add]; exact .rptr _ _ ad us h1 h2 h3⟩
  · exact h.elim
theorem faddr_done (hs : SimH G lo E H w) {t : TypeId} {fs : Array Field} {f n : Nat} {fd : Field} {x : AV} {v : Value} (hu : P.underlying t = some (.struct fs)) (hf : fs[f]? = some fd)
    (hsz : szOf P fd.type = some n) (hn : n ≠ 0) (hx : Rep E w x v) {K : AV → Prop} (h : qsem (.faddr fd.offset) [x] K) : QDone P G lo E H w (Instr.fieldAt t v f) K := by
  obtain ⟨a, r, rfl, hK, hr⟩ := faddr_rep hx (show faddrSem fd.offset x K from h)
  obtain ⟨i', hi', hs1⟩ := szOf_some hsz
  refine .quiet hs (v := .pointer (some (a.add fd.offset))) ?_ hK hr
  simp [Instr.fieldAt, run_underlying hu, hf, Instr.sureAddr, fieldPlace, sizeOf, typeInfo, hi', hs1, hn]
theorem iaddrA_done (hs : SimH G lo E H w) {t e : TypeId} {len n : Nat} {x y : AV} {v u : Value} (hu : P.underlying t = some (.array len e)) (hsz : szOf P e = some n)
    (hx : Rep E w x v) (hy : Rep E w y u) {K : AV → Prop} (h : qsem (.iaddrA len n) [x, y] K) : QDone P G lo E H w (Instr.indexAt t v u) K := by
  obtain ⟨k, i, rfl, h0, h1, h2⟩ := onInt_inv h
  cases hy.imm_inv
  obtain ⟨a, r, rfl, hK, hr⟩ := faddr_rep hx h2
  obtain ⟨i', hi', hs1⟩ := szOf_some hsz
  refine .quiet hs (v := .pointer (some (a.add (i.toNat * n)))) ?_ hK hr
  simp [Instr.indexAt, run_underlying hu, asIntOf, Instr.sureAddr, h0, h1, sizeOf, typeInfo, hi', hs1]
theorem flat_length {size : Nat} : ∀ (xs : List AV), (∀ x ∈ xs, x.cells.length = size) → (xs.flatMap AV.cells).length = xs.length * size
  | [], _ => by simp
  | x :: xs, h => by
    simp only [List.flatMap_cons, List.length_append, List.length_cons, h x (by simp), flat_length xs (fun z hz => h z (by simp [hz])), Nat.add_mul]
    omega
theorem flat_take {size : Nat} : ∀ (xs : List AV) (n : Nat), (∀ x ∈ xs, x.cells.length = size) → (xs.take n).flatMap AV.cells = (xs.flatMap AV.cells).take (n * size)
  | [], n, _ => by simp
  | x :: xs, 0, _ => by simp
  | x :: xs, n + 1, h => by
    have hx := h x (by simp)
    simp only [List.take_succ_cons, List.flatMap_cons, flat_take xs n (fun z hz => h z (by simp [hz]))]
    rw [List.take_append, hx]
    have e1 : (n + 1) * size - size = n * size := by rw [Nat.add_mul]; omega
    rw [e1, List.take_of_length_le (l := x.cells) (by rw [hx, Nat.add_mul]; omega)]
theorem flat_drop {size : Nat} : ∀ (xs : List AV) (n : Nat), (∀ x ∈ xs, x.cells.length = size) → (xs.drop n).flatMap AV.cells = (xs.flatMap AV.cells).drop (n * size)
  | [], n, _ => by simp
  | x :: xs, 0, _ => by simp
  | x :: xs, n + 1, h => by
    have hx := h x (by simp)
    simp only [List.drop_succ_cons, List.flatMap_cons, flat_drop xs n (fun z hz => h z (by simp [hz]))]
    rw [List.drop_append, hx]
    have e1 : (n + 1) * size - size = n * size := by rw [Nat.add_mul]; omega
    rw [e1, List.drop_eq_nil_of_le (as := x.cells) (by rw [hx, Nat.add_mul]; omega)]
    simp
theorem reps_elem {size : Nat} {xs : List AV} {us : List Value} (hsz : ∀ x ∈ xs, x.cells.length = size) (h : Reps E w (xs.flatMap AV.cells) us) {i : Nat} {x : AV} (hx : xs[i]? = some x) :
    Reps E w x.cells ((us.drop (i * size)).take size) := by
  have h1 := (h.drop (i * size)).take size
  have h2 : ((xs.flatMap AV.cells).drop (i * size)).take size = x.cells := by
    rw [← flat_drop xs i hsz]
    have hd : xs.drop i = x :: xs.drop (i + 1) := by
      have hlt := (List.getElem?_eq_some_iff.1 hx).1
      rw [List.drop_eq_getElem_cons hlt]
      congr 1
      exact (List.getElem?_eq_some_iff.1 hx).2
    rw [hd, List.flatMap_cons, List.take_left' (hsz x (List.mem_of_getElem? hx))]
  rw [h2] at h1
  exact h1
theorem iaddrSem_inv {n : Nat} {x : AV} {i : Int} {K : AV → Prop} (h : iaddrSem n x i K) :
    (∃ sz xs tok, x = .sl sz xs tok ∧ sz = n ∧ 0 ≤ i ∧ i < xs.length ∧ K (.rptr (xs.getD i.toNat .junk).cells 0)) ∨
    ∃ id ver sz lo m, x = .rs id ver sz lo m ∧ sz = n ∧ 0 ≤ i ∧ i < m ∧ K (.rp id ver sz (lo + i.toNat)) := by
  cases x with
  | sl sz xs tok => exact .inl ⟨_, _, _, rfl, h⟩
  | rs id ver sz lo m => exact .inr ⟨_, _, _, _, _, rfl, h⟩
  | _ => exact h.elim
theorem lenSem_inv {x : AV} {K : AV → Prop} (h : lenSem x K) : (∃ sz xs tok, x = .sl sz xs tok ∧ K (int64 xs.length)) ∨ (∃ id ver sz lo n, x = .rs id ver sz lo n ∧ K (int64 n)) ∨ ∃ id off n, x = .bs id off n ∧ K (int64 n) := by
  cases x with
  | sl sz xs tok => exact .inl ⟨_, _, _, rfl, h⟩
  | rs id ver sz lo n => exact .inr (.inl ⟨_, _, _, _, _, rfl, h⟩)
  | bs id off n => exact .inr (.inr ⟨_, _, _, rfl, h⟩)
  | _ => exact h.elim
theorem sliceLsem_inv {size : Nat} {lo hi mx : Bool} {x : AV} {bs : List AV} {K : AV → Prop} (h : sliceLsem size lo hi mx x bs K) :
    (∃ sz xs tok, x = .sl sz xs tok ∧ (sz = size ∨ xs = []) ∧ (if mx = true then lo = false ∧ hi = true ∧ three xs.length bs fun h => K (.sl sz (xs.take h) none)
      else bounds lo hi xs.length bs fun l h => K (.sl sz ((xs.take h).drop l) none))) ∨
    ∃ id ver sz at0 n, x = .rs id ver sz at0 n ∧ sz = size ∧ mx = false ∧ bounds lo hi n bs fun l h => K (.rs id ver sz (at0 + l) (h - l)) := by
  cases x with
  | sl sz xs tok => exact .inl ⟨_, _, _, rfl, h⟩
  | rs id ver sz at0 n => exact .inr ⟨_, _, _, _, _, rfl, h⟩
  | _ => exact h.elim
theorem iaddrS_done (hs : SimH G lo E H w) {t e : TypeId} {n : Nat} {x y : AV} {v u : Value} (hu : P.underlying t = some (.slice e)) (hsz : szOf P e = some n)
    (hx : Rep E w x v) (hy : Rep E w y u) {K : AV → Prop} (h : qsem (.iaddrS n) [x, y] K) (hn : 0 < n) : QDone P G lo E H w (Instr.indexAt t v u) K := by
  obtain ⟨k, i, rfl, h⟩ := onInt_inv h
  cases hy.imm_inv
  rcases iaddrSem_inv h with ⟨sz, xs, tok, rfl, rfl, h0, h1, hK⟩ | ⟨id, ver, sz, lo0, m, rfl, rfl, h0, h1, hK⟩
  rotate_left
  · obtain ⟨i', hi', hs1⟩ := szOf_some hsz
    cases hx with
    | rs _ _ _ _ _ A cap g1 g2 g0 g3 =>
      obtain ⟨a, rfl⟩ := g0 (by omega)
      refine .quiet hs (v := .pointer (some (a.add (i.toNat * sz)))) ?_ hK (.rp _ _ _ _ _ ?_)
      · rw [run_indexAt_slice (P := P) w t a m cap k i (by simp [Program.elem, hu])]
        simp [h0, h1, Program.elem, hu, sizeOf, typeInfo, hi', hs1]
      · obtain ⟨m', b, k1, k2, k3⟩ := g3
        refine ⟨m', b, k1, k2, fun e => ?_⟩
        have k4 := k3 e
        cases b with
        | none => have : cap = 0 := k4.1; omega
        | some p =>
          obtain ⟨g, c⟩ := p
          obtain ⟨_, k5⟩ := k4
          cases k5 (.inl (by omega))
          show Addr.add _ _ = _
          rw [Addr.add_lit, Nat.add_mul]
  obtain ⟨A, cap, us, rfl, a1, a2, a3, a4, a5, a6, a7⟩ := hx.sl_inv
  obtain ⟨i', hi', hs1⟩ := szOf_some hsz
  have hlt : i.toNat < xs.length := by omega
  have hget : xs[i.toNat]? = some (xs.getD i.toNat .junk) := by rw [List.getD_eq_getElem?_getD, List.getElem?_eq_getElem hlt]; rfl
  have hel := reps_elem a3 a4 hget
  have hul : us.length = xs.length * sz := by rw [a4.length, flat_length xs a3]
  have hbig : i.toNat * sz + sz ≤ us.length := by
    rw [hul]
    have h9 : (i.toNat + 1) * sz ≤ xs.length * sz := Nat.mul_le_mul_right _ hlt
    rw [Nat.add_mul] at h9
    omega
  have hA : ∃ ad, A = some ad := by
    have hlt' : i.toNat * sz < us.length := by omega
    obtain ⟨ad, e1, _⟩ := a6 (i.toNat * sz) _ (List.getElem?_eq_getElem hlt')
    exact ⟨ad, e1⟩
  obtain ⟨ad, rfl⟩ := hA
  refine .quiet hs (v := .pointer (some (ad.add (i.toNat * sz)))) ?_ hK ?_
  · rw [run_indexAt_slice (P := P) w t ad xs.length cap k i (by simp [Program.elem, hu])]
    simp [h0, h1, Program.elem, hu, sizeOf, typeInfo, hi', hs1]
  · have h9 := Rep.rptr (E := E) (w := w) (xs.getD i.toNat .junk).cells 0 (ad.add (i.toNat * sz)) _ hel (fun u hu => a5 u (List.mem_of_mem_drop (List.mem_of_mem_take hu))) (fun j u hu => by
      have hj : j < sz := by
        have := (List.getElem?_eq_some_iff.1 hu).1
        simp at this
        omega
      rw [List.getElem?_take_of_lt hj, List.getElem?_drop] at hu
      obtain ⟨ad', e1, e2, e3⟩ := a6 _ u hu
      cases e1
      rw [add_add]
      exact ⟨e2, e3⟩)
    rw [Addr.add_zero'] at h9
    exact h9
end
end Go.AL

/- Slices, values that are built, and the rest of what turns nothing. -/
set_option linter.unusedSimpArgs false
set_option linter.unusedVariables false
namespace Go.AL
open Go Go.RowKit
section
variable {P : Program} {G : Nat → Option (List AV)} {lo : Nat} {E : Env} {H : List AObj} {w : World}
theorem run_sliceBound {i : Int} {k : IntKind} {n : Nat} {c : BoundsCode} (h0 : 0 ≤ i) (h1 : i ≤ n) : (Instr.sliceBound (.int k i) n c).run P w = .ok i.toNat w := by
  simp [Instr.sliceBound, asIntOf, h0, h1]
theorem bounds_run {l0 h0 : Option Value} {n : Nat} {bs : List AV} {K : Nat → Nat → Prop} (h : bounds l0.isSome h0.isSome n bs K) (hr : Reps E w bs (optList l0 ++ optList h0)) :
    ∃ l u, K l u ∧ l ≤ u ∧ u ≤ n ∧ ∀ b cap, n ≤ cap → (Instr.sliceBounds b n cap l0 h0 none).run P w = .ok (l, u, cap) w := by
  unfold bounds at h
  split at h
  · rename_i e1 e2
    cases l0 with
    | some _ => cases e1
    | none =>
      cases h0 with
      | some _ => cases e2
      | none => exact ⟨0, n, h, Nat.zero_le _, Nat.le_refl _, fun b cap hc => by simp [Instr.sliceBounds]⟩
  · rename_i x e1 e2
    cases h0 with
    | some _ => cases e2
    | none =>
      cases l0 with
      | none => cases e1
      | some v =>
        obtain ⟨k, i, rfl, a1, a2, hK⟩ := onInt_inv h
        obtain ⟨v', vs, e, r1, _⟩ := hr.cons_inv
        simp [optList] at e
        obtain ⟨rfl, _⟩ := e
        cases r1.imm_inv
        refine ⟨i.toNat, n, hK, by omega, Nat.le_refl _, fun b cap hc => ?_⟩
        have e1 := run_sliceBound (P := P) (w := w) (k := k) (c := .sliceB) a1 a2
        simp [Instr.sliceBounds, e1]
  · rename_i y e1 e2
    cases l0 with
    | some _ => cases e1
    | none =>
      cases h0 with
      | none => cases e2
      | some v =>
        obtain ⟨k, i, rfl, a1, a2, hK⟩ := onInt_inv h
        obtain ⟨v', vs, e, r1, _⟩ := hr.cons_inv
        simp [optList] at e
        obtain ⟨rfl, _⟩ := e
        cases r1.imm_inv
        refine ⟨0, i.toNat, hK, Nat.zero_le _, by omega, fun b cap hc => ?_⟩
        have e1 := run_sliceBound (P := P) (w := w) (k := k) (n := cap) (c := if b = true then .sliceAcap else .sliceAlen) a1 (by omega)
        simp [Instr.sliceBounds, e1]
  · rename_i x y e1 e2
    cases l0 with
    | none => cases e1
    | some v =>
      cases h0 with
      | none => cases e2
      | some z =>
        obtain ⟨k, i, rfl, h'⟩ := onInt_inv h
        obtain ⟨k', i', rfl, a1, a2, a3, hK⟩ := onInt_inv h'
        obtain ⟨v', vs, e, r1, r2⟩ := hr.cons_inv
        simp [optList] at e
        obtain ⟨rfl, rfl⟩ := e
        obtain ⟨v', vs, e, r3, _⟩ := r2.cons_inv
        simp at e
        obtain ⟨rfl, _⟩ := e
        cases r1.imm_inv
        cases r3.imm_inv
        refine ⟨i.toNat, i'.toNat, hK, by omega, by omega, fun b cap hc => ?_⟩
        have e1 := run_sliceBound (P := P) (w := w) (k := k') (n := cap) (c := if b = true then .sliceAcap else .sliceAlen) (show 0 ≤ i' by omega) (by omega)
        have e2 := run_sliceBound (P := P) (w := w) (k := k) (n := i'.toNat) (c := .sliceB) a1 (by omega)
        simp [Instr.sliceBounds, e1, e2]
  · exact h.elim
theorem sliceS_done (hs : SimH G lo E H w) {t : TypeId} {x : AV} {bs : List AV} {v : Value} {l0 h0 : Option Value} (hu : P.underlying t = some .string) (hx : Rep E w x v) (hb : Reps E w bs (optList l0 ++ optList h0)) {K : AV → Prop}
    (h : qsem (.sliceS l0.isSome h0.isSome) (x :: bs) K) : QDone P G lo E H w (Instr.sliceAt t v l0 h0 none) K := by
  obtain ⟨s, rfl, h'⟩ := onStr_inv (show onStr x _ from h)
  cases hx.imm_inv
  obtain ⟨l, u, hK, _, _, hr⟩ := bounds_run (P := P) h' hb
  refine .quiet hs (v := .string (s.extract l u)) ?_ hK (.imm _ rfl)
  have h1 := hr false s.size (Nat.le_refl _)
  simp [Instr.sliceAt, run_underlying hu, Instr.slice, h1]
theorem sub_rep {size sz l u cap : Nat} {xs : List AV} {A : Option Addr} {us : List Value} (hsz : sz = size ∨ xs = []) (hlu : l ≤ u) (hun : u ≤ xs.length) (a1 : xs.length ≤ cap) (a2 : cap ≤ maxLen) (a3 : ∀ x ∈ xs, x.cells.length = sz)
    (a4 : Reps E w (xs.flatMap AV.cells) us) (a5 : ∀ u ∈ us, u.oneCell' = true) (a6 : ∀ j u, us[j]? = some u → ∃ ad, A = some ad ∧ w.cell? (ad.add j) = some u ∧ E.I (ad.add j)) :
    Rep E w (.sl sz ((xs.take u).drop l) none) (.slice (if cap = l then A else A.map (·.add (l * size))) (u - l) (cap - l)) := by
  have hlen : ((xs.take u).drop l).length = u - l := by rw [List.length_drop, List.length_take]; omega
  have hmem : ∀ x ∈ (xs.take u).drop l, x ∈ xs := fun x hx => List.mem_of_mem_take (List.mem_of_mem_drop hx)
  have h1 : Reps E w (((xs.take u).drop l).flatMap AV.cells) ((us.take (u * sz)).drop (l * sz)) := by
    rw [flat_drop _ l (fun x hx => a3 x (List.mem_of_mem_take hx)), flat_take xs u a3]
    exact (a4.take _).drop _
  have h2 := Rep.sl (E := E) (w := w) sz ((xs.take u).drop l) none (if cap = l then A else A.map (·.add (l * size))) (cap - l) _ (by rw [hlen]; omega) (by omega) (fun x hx => a3 x (hmem x hx)) h1
    (fun v hv => a5 v (List.mem_of_mem_take (List.mem_of_mem_drop hv))) (fun j v hv => by
      rw [List.getElem?_drop] at hv
      have hj : l * sz + j < u * sz := by
        rcases Nat.lt_or_ge (l * sz + j) (u * sz) with h | h
        · exact h
        · rw [List.getElem?_eq_none (by rw [List.length_take]; omega)] at hv; cases hv
      rw [List.getElem?_take_of_lt hj] at hv
      obtain ⟨ad, rfl, e2, e3⟩ := a6 _ v hv
      have hlt : l < u := by
        rcases Nat.lt_or_ge l u with h | h
        · exact h
        · have := Nat.mul_le_mul_right sz h; omega
      have hx0 : xs ≠ [] := by intro e; subst e; simp at hun; omega
      have hs1 : sz = size := hsz.resolve_right hx0
      subst hs1
      rw [if_neg (by omega)]
      exact ⟨_, rfl, by rw [add_add]; exact e2, by rw [add_add]; exact e3⟩) trivial
  rw [hlen] at h2
  exact h2
theorem sliceL_done (hs : SimH G lo E H w) {t e : TypeId} {size : Nat} {x : AV} {bs : List AV} {v : Value} {l0 h0 m0 : Option Value} (hu : P.underlying t = some (.slice e)) (hsz : szOf P e = some size)
    (hx : Rep E w x v) (hb : Reps E w bs (optList l0 ++ optList h0 ++ optList m0)) {K : AV → Prop}
    (h : qsem (.sliceL size l0.isSome h0.isSome m0.isSome) (x :: bs) K) : QDone P G lo E H w (Instr.sliceAt t v l0 h0 m0) K := by
  obtain ⟨i', hi', hs1⟩ := szOf_some hsz
  rcases sliceLsem_inv h with ⟨sz, xs, tok, rfl, h1, hq⟩ | ⟨id, ver, sz, at0, n, rfl, rfl, hm, hq⟩
  rotate_left
  · cases hx with
    | rs _ _ _ _ _ A cap g1 g2 g0 g3 =>
      cases m0 with
      | some _ => simp at hm
      | none =>
        obtain ⟨l, u, hK, hlu, hun, hr⟩ := bounds_run (P := P) hq (by simpa [optList] using hb)
        refine .quiet hs (v := .slice (if cap = l then A else A.map (·.add (l * sz))) (u - l) (cap - l)) ?_ hK (.rs _ _ _ _ _ _ _ (by omega) (by omega) (fun hc => ?_) ?_)
        · have h2 := hr true cap g1
          simp [Instr.sliceAt, run_underlying hu, Instr.slice, h2, sizeOf, typeInfo, hi', hs1]
        · obtain ⟨a, rfl⟩ := g0 (by omega)
          rw [if_neg (by omega)]
          exact ⟨_, rfl⟩
        · obtain ⟨m', b, k1, k2, k3⟩ := g3
          refine ⟨m', b, k1, k2, fun e => ?_⟩
          have k4 := k3 e
          cases b with
          | none =>
            obtain ⟨k7, rfl⟩ := k4
            exact ⟨by omega, by simp⟩
          | some p =>
            obtain ⟨g, c⟩ := p
            obtain ⟨k6, k5⟩ := k4
            refine ⟨by omega, fun hc => ?_⟩
            rcases hc with hc | hc
            · rw [if_neg (by omega), k5 (.inl (by omega))]
              show some (Addr.add _ _) = _
              rw [Addr.add_lit, Nat.add_mul]
            · obtain ⟨h8, h9⟩ : at0 = 0 ∧ l = 0 := by omega
              subst h8 h9
              rw [k5 (.inr rfl)]
              split
              · simp
              · show some (Addr.add _ _) = _
                rw [Addr.add_lit]; simp
  obtain ⟨A, cap, us, rfl, a1, a2, a3, a4, a5, a6, a7⟩ := hx.sl_inv
  cases m0 with
  | none =>
    rw [if_neg (by simp)] at hq
    obtain ⟨l, u, hK, hlu, hun, hr⟩ := bounds_run (P := P) hq (by simpa [optList] using hb)
    refine .quiet hs (v := .slice (if cap = l then A else A.map (·.add (l * size))) (u - l) (cap - l)) ?_ hK (sub_rep h1 hlu hun a1 a2 a3 a4 a5 a6)
    have h2 := hr true cap a1
    simp [Instr.sliceAt, run_underlying hu, Instr.slice, h2, sizeOf, typeInfo, hi', hs1]
  | some m =>
    rw [if_pos (by simp)] at hq
    obtain ⟨e1, e2, hq⟩ := hq
    cases l0 with
    | some _ => simp at e1
    | none =>
      cases h0 with
      | none => simp at e2
      | some h9 =>
        unfold three at hq
        split at hq
        · rename_i y z
          obtain ⟨k, i, rfl, h'⟩ := onInt_inv hq
          obtain ⟨k', i', rfl, b1, b2, b3, hK⟩ := onInt_inv h'
          obtain ⟨v', vs, e, r1, r2⟩ := hb.cons_inv
          simp [optList] at e
          obtain ⟨rfl, rfl⟩ := e
          obtain ⟨v', vs, e, r3, _⟩ := r2.cons_inv
          simp at e
          obtain ⟨rfl, _⟩ := e
          cases r1.imm_inv
          cases r3.imm_inv
          have e1 := run_sliceBound (P := P) (w := w) (k := k') (n := cap) (c := .slice3Acap) (show 0 ≤ i' by omega) (by omega)
          have e2 := run_sliceBound (P := P) (w := w) (k := k) (n := i'.toNat) (c := .slice3B) b1 (by omega)
          refine .quiet hs (v := .slice (if i'.toNat = 0 then A else A.map (·.add (0 * size))) (i.toNat - 0) (i'.toNat - 0)) ?_ hK ?_
          · simp [Instr.sliceAt, run_underlying hu, Instr.slice, Instr.sliceBounds, e1, e2, sizeOf, typeInfo, *]
          · have h2 := sub_rep (cap := cap) (l := 0) (u := i.toNat) h1 (Nat.zero_le _) (by omega) a1 a2 a3 a4 a5 a6
            have hA : (if i'.toNat = 0 then A else A.map (·.add (0 * size))) = A := by
              split
              · rfl
              · cases A <;> simp [Addr.add_zero']
            have hA2 : (if cap = 0 then A else A.map (·.add (0 * size))) = A := by
              split
              · rfl
              · cases A <;> simp [Addr.add_zero']
            rw [hA2] at h2
            rw [hA]
            simp only [Nat.sub_zero, List.drop_zero] at h2 ⊢
            obtain ⟨A', cap', us', e9, c1, c2, c3, c4, c5, c6, c7⟩ := h2.sl_inv
            injection e9 with e9 e10 e11
            subst e9
            have h3 := Rep.sl (E := E) (w := w) sz (xs.take i.toNat) none A i'.toNat us' (by rw [List.length_take]; omega) (by omega) c3 c4 c5 c6 trivial
            rw [List.length_take, Nat.min_eq_left (by omega)] at h3
            exact h3
        · exact hq.elim
end
end Go.AL
