/- slices.Insert at events: three roads. -/
import Derived.Test.YtcppnhnomemphaaGreatDoorG16
import Derived.Test.YtcppnhnomemphaaGreatDoorG30
import Derived.Lib.JoinLaws
import Derived.Lib.AppendZeros
import Derived.Lib.AppendZerosOnto
import Derived.Lib.Overlaps
import Derived.Laws.Externs
import Derived.Laws.IdiomCopy
import Derived.Laws.NewBlocks
set_option linter.unusedSimpArgs false
set_option linter.unusedVariables false
set_option maxRecDepth 100000
namespace Go.AL.Path
open Go Go.RowKit Go.Proofs Go.AL Go.Lib Go.Shelf

section
variable {P : Program}
theorem wp_copy_runI (w : World) {o : Oper} {a : Act} {K : Act → World → Prop} {Q : Exit → Act → World → Prop} (d s : Operand) (t t' : TypeId)
    (ho : o.op = .call { callee := .builtin .copy, args := #[d, s], argTypes := #[t, t'] }) (v u : Value) (hd : a.eval d = v) (hs : a.eval s = u) {v' : Value} {w' : World}
    (hr : (Builtin.copy_ #[t, t'] o.type #[v, u]).run P w = .ok v' w') (h : K (a.put o.dst v') w') : o.wp P a w K Q := by
  unfold Oper.wp execOp
  simp only [ho, resolve, invoke, builtin, Sem.run_bind, Sem.run_pure, Result.andThen_ok, List.map_toArray, List.map_cons, List.map_nil, hd, hs, hr]
  exact h
theorem wpList_copy_runI (w : World) {ops : Array Oper} {rest : List Oper} {o : Oper} {a : Act} {Q : Exit → Act → World → Prop} (hgd : o.guard = none) (d s : Operand) (t t' : TypeId)
    (ho : o.op = .call { callee := .builtin .copy, args := #[d, s], argTypes := #[t, t'] }) (v u : Value) (hd : a.eval d = v) (hs : a.eval s = u) {v' : Value} {w' : World}
    (hr : (Builtin.copy_ #[t, t'] o.type #[v, u]).run P w = .ok v' w') (h : wpList P ops Q rest (a.put o.dst v') w') : wpList P ops Q (o :: rest) a w :=
  wpList_plain hgd fun _ hK => wp_copy_runI w d s t t' ho v u hd hs hr (hK _ _ h)
theorem step_copy_runI {ops : Array Oper} {o : Oper} {a : Act} {w : World} {K : Act → World → Prop} {Q : Exit → Act → World → Prop} {E : Prop}
    (hg : o.guard = none) (d x : Operand) (dT sT : TypeId) (hop : o.op = Op.call { callee := Callee.builtin Builtin.copy, args := #[d, x], argTypes := #[dT, sT] })
    (v u : Value) (hd : a.eval d = v) (hx : a.eval x = u) {v' : Value} {w' : World} (hr : (Builtin.copy_ #[dT, sT] o.type #[v, u]).run P w = .ok v' w') (hK : K (a.put o.dst v') w') :
    if Region.wanted o (yielded ops a.tmps) = true then Oper.wp P o a w K Q else E := by
  have hw : Region.wanted o (yielded ops a.tmps) = true := by simp [Region.wanted, hg]
  rw [if_pos hw]
  unfold Oper.wp
  simp [execOp, hop, resolve, invoke, builtin, hd, hx, hr, Result.andThen]
  exact hK
theorem isSome_setCells (b : Nat) (vs : List Value) (o : Nat) (w : World) (h : ∀ j, j < vs.length → (w.cell? ⟨b, o + j, none⟩).isSome = true) (k : Nat) (hk : (w.cell? ⟨b, k, none⟩).isSome = true) : ((w.setCells b o vs).cell? ⟨b, k, none⟩).isSome = true := by
  by_cases hin : o ≤ k ∧ k < o + vs.length
  · have := World.cell?_setCells_in b vs o w h (k - o) (by omega)
    rw [show o + (k - o) = k by omega] at this
    rw [this]; rfl
  · rw [World.cell?_setCells_out b vs o w ⟨b, k, none⟩ (fun _ _ => by show k < o ∨ o + vs.length ≤ k; omega)]
    exact hk
/-- copy, of elements of any size. -/
theorem run_copy_gen (w : World) (dT sT ty elem : TypeId) (size b o dLen dCap : Nat) (a : Addr) (sLen sCap k : Nat) (cs : List Value)
    (hu : P.underlying dT = some (.slice elem)) (hs : (P.info? elem).map (·.size) = some size) (hn : Nat.min sLen dLen = k) (hl : cs.length = k * size)
    (hsrc : ∀ j v, cs[j]? = some v → w.cell? (a.add j) = some v) (hc : ∀ j, j < cs.length → (w.cell? ⟨b, o + j, none⟩).isSome = true) (hf : ∀ j, j < cs.length → w.frozen? ⟨b, o + j, none⟩ = false) (h1 : ∀ v ∈ cs, v.oneCell' = true) :
    (Builtin.copy_ #[dT, sT] ty #[.slice (some ⟨b, o, none⟩) dLen dCap, .slice (some a) sLen sCap]).run P w = .ok (goInt k) (w.setCells b o cs) := by
  have hl' := run_loadCells_list (P := P) w a cs hsrc
  have hst := run_storeCells_cells (P := P) b o cs 0 w (by simpa using hc) (by simpa using hf) h1
  cases hq : P.info? elem with
  | none => simp [hq] at hs
  | some i =>
    have hi : i.size = size := by simpa [hq] using hs
    have hm : min sLen dLen = k := hn
    subst hi
    simp [Builtin.copy_, run_underlying hu, Builtin.lenOf, sizeOf, typeInfo, hq, Builtin.firstCells, hm, ← hl, hl', hst, hn]
end

theorem sz30 : (Tryz.prog.info? 30).map (·.size) = some 38 := rfl

set_option maxHeartbeats 4000000 in
theorem c36_shift (b off n c i vb voff m vc : Nat) (cs vs : List Value) (w : World) (hi : i < n) (hm : 0 < m) (hroom : n + m ≤ c) (hc63 : c ≤ 9223372036854775807) (hvb : vb ≠ b)
    (hcl : cs.length = n * 38) (hvl : vs.length = m * 38)
    (hcs : ∀ j v, cs[j]? = some v → w.cell? ⟨b, off + j, none⟩ = some v) (hsp : ∀ j, j < (n + m) * 38 → (w.cell? ⟨b, off + j, none⟩).isSome = true) (hfz : ∀ j, j < (n + m) * 38 → w.frozen? ⟨b, off + j, none⟩ = false)
    (hvs : ∀ j v, vs[j]? = some v → w.cell? ⟨vb, voff + j, none⟩ = some v) (h1c : ∀ v ∈ cs, v.oneCell' = true) (h1v : ∀ v ∈ vs, v.oneCell' = true)
    (tA tB : TypeId) (kA kB : Nat) (hsa : w.shape? vb = some (tA, kA)) (hsb : w.shape? b = some (tB, kB)) (hkB : kB ≠ 0) (hfa : w.frozen? ⟨vb, voff, none⟩ = false) (hfe : w.frozen? ⟨vb, kA, none⟩ = false) :
    Calls Tryz.prog 36 #[.slice (some ⟨b, off, none⟩) n c, .int .i64 i, .slice (some ⟨vb, voff, none⟩) m vc] w fun e w' =>
      e = .returned (.slice (some ⟨b, off, none⟩) (n + m) c) ∧ w' = (w.drew.setCells b (off + (i + m) * 38) (cs.drop (i * 38))).setCells b (off + i * 38) vs := by
  have hz1 : ¬ ((m : Int) = 0) := by omega
  have hz2 : ¬ ((i : Int) = (n : Int)) := by omega
  have hov : ∀ lb cb, (callFunc 56 #[.slice (some ⟨vb, voff, none⟩) m vc, .slice (some ⟨b, off + (i + m) * 38, none⟩) lb cb]).run Tryz.prog w = .ok (.value (.bool false)) w := fun lb cb => by
    rw [run_callFunc_extern Tryz.func56 (by kernel_rfl) (by kernel_rfl) (by kernel_rfl) (e := Extern.SlicesOverlaps.overlaps #[22, 22] #[4]) (by kernel_rfl),
      Lib.run_overlaps_apart w 22 4 30 Tryz.underlying22 38 (fun w => by simp [sizeOf, typeInfo]; rfl) ⟨vb, voff, none⟩ ⟨b, off + (i + m) * 38, none⟩ m vc lb cb hvb tA tB kA kB hsa hsb hkB hfa hfe]
    rfl
  have hdl : (cs.drop (i * 38)).length = (n - i) * 38 := by rw [List.length_drop, hcl]; omega
  have hw1 : IntKind.i64.wrap ((i : Int) + (m : Int)) = (i : Int) + (m : Int) := by rw [IntKind.wrap_i64]; omega
  have hb1 : (0 : Int) ≤ (i : Int) + (m : Int) := by omega
  have hin : i ≤ n := by omega
  have htn : ((i : Int) + (m : Int)).toNat = i + m := by omega
  have hb2 : ¬ (c = i + m) := by omega
  have hb3 : (i : Int) ≤ (n : Int) + (m : Int) := by omega
  have hb4 : ¬ (c = i) := by omega
  have hcp1 : ∀ ty dc sc, (Builtin.copy_ #[22, 22] ty #[.slice (some ⟨b, off + (i + m) * 38, none⟩) (n + m - (i + m)) dc, .slice (some ⟨b, off + i * 38, none⟩) (n + m - i) sc]).run Tryz.prog w.drew = .ok (goInt (n - i : Nat)) (w.drew.setCells b (off + (i + m) * 38) (cs.drop (i * 38))) := fun ty dc sc =>
    run_copy_gen w.drew _ _ ty 30 38 b (off + (i + m) * 38) (n + m - (i + m)) dc ⟨b, off + i * 38, none⟩ (n + m - i) sc (n - i) (cs.drop (i * 38)) Tryz.underlying22 sz30 (by simp only [Nat.min_def]; split <;> omega) hdl
      (fun j v hj => by rw [Addr.add_lit, Nat.add_assoc]; exact hcs (i * 38 + j) v (by rwa [List.getElem?_drop] at hj))
      (fun j hj => by rw [Nat.add_assoc]; exact hsp _ (by omega)) (fun j hj => by rw [Nat.add_assoc]; exact hfz _ (by omega)) (fun v hv => h1c v (List.mem_of_mem_drop hv))
  obtain ⟨W1, hW1⟩ : ∃ W1, W1 = w.drew.setCells b (off + (i + m) * 38) (cs.drop (i * 38)) := ⟨_, rfl⟩
  have hsp1 : ∀ k, k < (n + m) * 38 → (W1.cell? ⟨b, off + k, none⟩).isSome = true := fun k hk => by
    rw [hW1]
    exact isSome_setCells b _ _ _ (fun j hj => by rw [Nat.add_assoc]; exact hsp _ (by omega)) _ (hsp k hk)
  have hcp2 : ∀ (W : World), (∀ x, W.cell? x = W1.cell? x) → (∀ x, W.frozen? x = W1.frozen? x) → ∀ ty dc, (Builtin.copy_ #[22, 22] ty #[.slice (some ⟨b, off + i * 38, none⟩) (n + m - i) dc, .slice (some ⟨vb, voff, none⟩) m vc]).run Tryz.prog W = .ok (goInt m) (W.setCells b (off + i * 38) vs) := fun W hWc hWf ty dc =>
    run_copy_gen W _ _ ty 30 38 b (off + i * 38) (n + m - i) dc ⟨vb, voff, none⟩ m vc m vs Tryz.underlying22 sz30 (by simp only [Nat.min_def]; split <;> omega) hvl
      (fun j v hj => by
        rw [Addr.add_lit, hWc, hW1, World.cell?_setCells_out b _ _ _ _ (fun h _ => absurd h hvb)]
        exact hvs j v hj)
      (fun j hj => by rw [hWc, Nat.add_assoc]; exact hsp1 _ (by omega)) (fun j hj => by rw [hWf, hW1, World.frozen?_setCells, Nat.add_assoc]; exact hfz _ (by omega)) h1v
  rw [← hW1] at hcp1
  have mixed : Tryz.prog.follows .mixedOrders = true := Go.AL.Path.hm
  go_enter Tryz.func36, Tryz.ntmps36
  go_wp2_with (simp only [hov])
  go_region_law_o (refine step_copy_runI rfl _ _ 22 22 rfl _ _ (by simp [Act.eval, Act.put]) (by simp [Act.eval, Act.put]) (hcp1 _ _ _) ?_)
  go_wp2_with (at_builtin; refine wpList_copy_runI _ rfl _ _ 22 22 rfl _ _ rfl rfl (hcp2 _ (fun _ => rfl) (fun _ => rfl) _ _) ?_)
  go_ret
  first | exact ⟨rfl, rfl⟩ | exact ⟨rfl, by rw [hW1]⟩

set_option maxHeartbeats 4000000 in
theorem c36_end (A : Option Addr) (n cap m vc : Nat) (a : Addr) (v' : Value) (w w' : World) (hm : 0 < m) (hnc : n ≤ cap) (hc63 : cap ≤ 9223372036854775807)
    (hrun : ∀ ty, (Builtin.append_ #[22, 22] ty #[.slice A n cap, .slice (some a) m vc]).run Tryz.prog w = .ok v' w') :
    Calls Tryz.prog 36 #[.slice A n cap, .int .i64 n, .slice (some a) m vc] w fun e w'' => e = .returned v' ∧ w'' = w' := by
  have hz1 : ¬ ((m : Int) = 0) := by omega
  have mixed : Tryz.prog.follows .mixedOrders = true := Go.AL.Path.hm
  go_enter Tryz.func36, Tryz.ntmps36
  cases A with
  | none =>
    go_wp2_with (at_builtin; refine Lib.wpList_append_run _ rfl _ _ _ _ rfl _ _ rfl rfl _ _ (hrun _) ?_)
    all_goals (go_ret; exact ⟨rfl, rfl⟩)
  | some a' =>
    obtain ⟨ab, ao, asp⟩ := a'
    go_wp2_with (at_builtin; refine Lib.wpList_append_run _ rfl _ _ _ _ rfl _ _ rfl rfl _ _ (hrun _) ?_)
    all_goals (go_ret; exact ⟨rfl, rfl⟩)

set_option maxHeartbeats 8000000 in
theorem c36_grow (b off n c i vb voff m vc : Nat) (cs vs : List Value) (w : World) (hi : i < n) (hm : 0 < m) (hnc : n ≤ c) (hroom : c < n + m) (hbig : (n + m) * 104 ≤ 140737488355328)
    (hcl : cs.length = n * 38) (hvl : vs.length = m * 38)
    (hcs : ∀ j v, cs[j]? = some v → w.cell? ⟨b, off + j, none⟩ = some v)
    (hvs : ∀ j v, vs[j]? = some v → w.cell? ⟨vb, voff + j, none⟩ = some v) (h1c : ∀ v ∈ cs, v.oneCell' = true) (h1v : ∀ v ∈ vs, v.oneCell' = true) :
    ∃ z : Value, z.cells.size = 38 ∧ Calls Tryz.prog 36 #[.slice (some ⟨b, off, none⟩) n c, .int .i64 i, .slice (some ⟨vb, voff, none⟩) m vc] w fun e w' =>
      e = .returned (.slice (some ⟨w.heap.size, 0, none⟩) (n + m) (grownCap w (n + m) c 30)) ∧
      w' = (((w.alloc (.cells ((cs.take (i * 38)).toArray ++ Builtin.zeroCells z.cells (n + m - i) ++ Builtin.zeroCells z.cells (grownCap w (n + m) c 30 - (n + m))) 30)).drew.setCells w.heap.size (i * 38) vs).drew).setCells w.heap.size ((i + m) * 38) (cs.drop (i * 38)) := by
  obtain ⟨i0, z, hi0, hz0, hzs, hzb, hzc⟩ := info30
  refine ⟨z, hzc, ?_⟩
  have hz1 : ¬ ((m : Int) = 0) := by omega
  have hz2 : ¬ ((i : Int) = (n : Int)) := by omega
  have hz3 : (c : Int) < (n : Int) + (m : Int) := by omega
  have hsz : (Tryz.prog.info? 30).map (·.size) = some 38 := sz30
  have hbw : b < w.heap.size := block_lt_of_cell (hcs 0 _ (List.getElem?_eq_getElem (by omega)))
  have hvw : vb < w.heap.size := block_lt_of_cell (hvs 0 _ (List.getElem?_eq_getElem (by omega)))
  have hkk : (n : Int) + (m : Int) - (i : Int) = ((n + m - i : Nat) : Int) := by omega
  have hik : i + (n + m - i) = n + m := by omega
  have hold : (Builtin.firstCells i0.size i (.slice (some ⟨b, off, none⟩) i c)).run Tryz.prog w.drew = .ok (cs.take (i * 38)).toArray w.drew := by
    rw [hzs]
    exact run_firstCells_some w.drew 38 i ⟨b, off, none⟩ i c (cs.take (i * 38)) (by rw [List.length_take]; omega) (fun j v hj => by
      rw [Addr.add_lit]
      rw [List.getElem?_take] at hj
      split at hj
      · exact hcs j v hj
      · cases hj)
  have hrz : ∀ ty, (Builtin.append_ #[22, 3] ty #[.slice (some ⟨b, off, none⟩) i c, .int .i64 ((n : Int) + (m : Int) - (i : Int))]).run Tryz.prog w =
      .ok (.slice (some ⟨w.heap.size, 0, none⟩) (n + m) (grownCap w (n + m) c 30)) (w.drew.alloc (.cells ((cs.take (i * 38)).toArray ++ Builtin.zeroCells z.cells (n + m - i) ++ Builtin.zeroCells z.cells (grownCap w (n + m) c 30 - (n + m))) 30)) := fun ty => by
    have h := Lib.run_append_grow_zeros w 22 3 ty 30 i0 _ .i64 .i64 Tryz.underlying22 Tryz.underlying3 hi0 hz0 (some ⟨b, off, none⟩) i c (cs.take (i * 38)) hold (n + m - i) (by omega) (by omega) (by omega) (by omega) (by rw [hzb]; omega) (by rw [hzb, hik]; exact growslice_fits hroom hbig)
    rw [hik] at h
    rw [hkk]
    exact h
  obtain ⟨G, hG⟩ : ∃ G, G = grownCap w (n + m) c 30 := ⟨_, rfl⟩
  obtain ⟨ROW, hROW⟩ : ∃ ROW : Array Value, ROW = (cs.take (i * 38)).toArray ++ Builtin.zeroCells z.cells (n + m - i) ++ Builtin.zeroCells z.cells (G - (n + m)) := ⟨_, rfl⟩
  rw [← hG] at hrz ⊢
  rw [← hROW] at hrz ⊢
  have hRl : (n + m) * 38 ≤ ROW.size := by
    rw [hROW]
    simp only [Array.size_append, List.size_toArray, size_zeroCells, hzc, List.length_take, hcl]
    omega
  obtain ⟨W1, hW1⟩ : ∃ W1, W1 = w.drew.alloc (.cells ROW 30) := ⟨_, rfl⟩
  rw [← hW1] at hrz
  have hN : ∀ j, j < (n + m) * 38 → (W1.cell? ⟨w.heap.size, j, none⟩).isSome = true := fun j hj => by
    rw [hW1, World.cell?_alloc_at (w := w.drew) ROW _ w.heap.size j rfl, Array.getElem?_eq_getElem (by omega)]; rfl
  have hNf : ∀ j, W1.frozen? ⟨w.heap.size, j, none⟩ = false := fun j => by rw [hW1]; exact World.frozen?_alloc_at (w := w.drew) ROW _ w.heap.size j rfl
  have hOb : ∀ j v, w.cell? ⟨b, j, none⟩ = some v → W1.cell? ⟨b, j, none⟩ = some v := fun j v h => by rw [hW1, World.cell?_alloc_past (w := w.drew) _ b j hbw]; exact h
  have hOv : ∀ j v, w.cell? ⟨vb, j, none⟩ = some v → W1.cell? ⟨vb, j, none⟩ = some v := fun j v h => by rw [hW1, World.cell?_alloc_past (w := w.drew) _ vb j hvw]; exact h
  have hcpA : ∀ (W : World), (∀ x, W.cell? x = W1.cell? x) → (∀ x, W.frozen? x = W1.frozen? x) → ∀ ty dc, (Builtin.copy_ #[22, 22] ty #[.slice (some ⟨w.heap.size, i * 38, none⟩) (n + m - i) dc, .slice (some ⟨vb, voff, none⟩) m vc]).run Tryz.prog W = .ok (goInt m) (W.setCells w.heap.size (i * 38) vs) := fun W hWc hWf ty dc =>
    run_copy_gen W _ _ ty 30 38 w.heap.size (i * 38) (n + m - i) dc ⟨vb, voff, none⟩ m vc m vs Tryz.underlying22 hsz (by simp only [Nat.min_def]; split <;> omega) hvl
      (fun j v hj => by rw [Addr.add_lit, hWc]; exact hOv _ v (hvs j v hj))
      (fun j hj => by rw [hWc]; exact hN _ (by omega)) (fun j hj => by rw [hWf]; exact hNf _) h1v
  have hGn : n + m ≤ G := by rw [hG]; exact grownCap_ge w _ _ _
  have hG63 : G ≤ 9223372036854775807 := by
    have := grownCap_le_maxLen w (n + m) c 30 (by unfold maxLen; omega)
    rw [← hG] at this
    unfold maxLen at this
    omega
  have hGi : ¬ (G = i) := by omega
  have hGim : ¬ (G = i + m) := by omega
  have hci : ¬ (c = i) := by omega
  have hbN : b ≠ w.heap.size := by omega
  have hdl : (cs.drop (i * 38)).length = (n - i) * 38 := by rw [List.length_drop, hcl]; omega
  have hcpB : ∀ (W : World), (∀ x, W.cell? x = (W1.setCells w.heap.size (i * 38) vs).cell? x) → (∀ x, W.frozen? x = (W1.setCells w.heap.size (i * 38) vs).frozen? x) → ∀ ty dc sc, (Builtin.copy_ #[22, 22] ty #[.slice (some ⟨w.heap.size, (i + m) * 38, none⟩) (n + m - (i + m)) dc, .slice (some ⟨b, off + i * 38, none⟩) (n - i) sc]).run Tryz.prog W = .ok (goInt (n - i : Nat)) (W.setCells w.heap.size ((i + m) * 38) (cs.drop (i * 38))) := fun W hWc hWf ty dc sc =>
    run_copy_gen W _ _ ty 30 38 w.heap.size ((i + m) * 38) (n + m - (i + m)) dc ⟨b, off + i * 38, none⟩ (n - i) sc (n - i) (cs.drop (i * 38)) Tryz.underlying22 hsz (by simp only [Nat.min_def]; split <;> omega) hdl
      (fun j v hj => by
        rw [Addr.add_lit, hWc, World.cell?_setCells_out _ _ _ _ _ (fun h _ => absurd h hbN), Nat.add_assoc]
        exact hOb _ v (hcs (i * 38 + j) v (by rwa [List.getElem?_drop] at hj)))
      (fun j hj => by rw [hWc]; exact isSome_setCells _ _ _ _ (fun t ht => hN _ (by omega)) _ (hN _ (by omega)))
      (fun j hj => by rw [hWf, World.frozen?_setCells]; exact hNf _) (fun v hv => h1c v (List.mem_of_mem_drop hv))
  subst hW1
  have hE1 : ∀ x, ((w.alloc (.cells ROW 30)).drew).cell? x = (w.drew.alloc (.cells ROW 30)).cell? x := fun x => rfl
  have hE2 : ∀ x, ((w.alloc (.cells ROW 30)).drew).frozen? x = (w.drew.alloc (.cells ROW 30)).frozen? x := fun x => rfl
  have hF1 : ∀ x, (((w.alloc (.cells ROW 30)).drew.setCells w.heap.size (i * 38) vs).drew).cell? x = ((w.drew.alloc (.cells ROW 30)).setCells w.heap.size (i * 38) vs).cell? x := fun x => rfl
  have hF2 : ∀ x, (((w.alloc (.cells ROW 30)).drew.setCells w.heap.size (i * 38) vs).drew).frozen? x = ((w.drew.alloc (.cells ROW 30)).setCells w.heap.size (i * 38) vs).frozen? x := fun x => rfl
  have hw1 : IntKind.i64.wrap ((i : Int) + (m : Int)) = (i : Int) + (m : Int) := by rw [IntKind.wrap_i64]; omega
  have hb1 : (0 : Int) ≤ (i : Int) + (m : Int) := by omega
  have hin : i ≤ n := by omega
  have htn : ((i : Int) + (m : Int)).toNat = i + m := by omega
  have hb3 : (i : Int) ≤ (n : Int) := by omega
  have mixed : Tryz.prog.follows .mixedOrders = true := Go.AL.Path.hm
  clear hkk hik hold hROW hG hRl
  go_enter Tryz.func36, Tryz.ntmps36
  go_wp2_with (first
    | (at_builtin; refine Lib.wpList_append_run _ rfl _ _ _ _ rfl _ _ rfl rfl _ _ (hrz _) ?_)
    | (at_builtin; refine wpList_copy_runI _ rfl _ _ 22 22 rfl _ _ rfl rfl (hcpA _ hE1 hE2 _ _) ?_)
    | (at_builtin; refine wpList_copy_runI _ rfl _ _ 22 22 rfl _ _ rfl rfl (hcpB _ (fun _ => rfl) (fun _ => rfl) _ _ _) ?_))
  go_region_law_o (refine step_copy_runI rfl _ _ 22 22 rfl (.slice (some ⟨w.heap.size, (i + m) * 38, none⟩) (n + m - (i + m)) (G - (i + m))) (.slice (some ⟨b, off + i * 38, none⟩) (n - i) (c - i)) (by simp [Act.eval, Act.put]) (by simp [Act.eval, Act.put]) (hcpB _ hF1 hF2 3 (G - (i + m)) (c - i)) ?_)
  go_wp2
  go_ret
  exact ⟨rfl, rfl⟩

theorem inserts36 : InsertsAt Tryz.prog 36 22 30 38 104 where
  shift := by
    intro b n c i vb vc cs vs w h1 h2 h3 h4 h5 h6 h7 h8 h9 h10 h11 h12 tA tB kA kB h13 h14 h15 h16 h17
    have := c36_shift b 0 n c i vb 0 1 vc cs vs w h1 (by decide) h2 h3 h4 h5 (by omega) (by simpa using h7) (by simpa using h8) (by simpa using h9) (by simpa using h10) h11 h12 tA tB kA kB h13 h14 h15 h16 h17
    simpa using this
  atEnd := by
    intro A n cap vc a v' w w' h1 h2 h3
    exact c36_end A n cap 1 vc a v' w w' (by decide) h1 h2 h3
  grow := by
    intro b n c i vb vc cs vs w h1 h2 h3 h4 h5 h6 h7 h8 h9 h10
    have := c36_grow b 0 n c i vb 0 1 vc cs vs w h1 (by decide) h2 h3 h4 h5 (by omega) (by simpa using h7) (by simpa using h8) h9 h10
    simpa using this
end Go.AL.Path

/- heads: Add, Join, At, Drop. -/
set_option linter.unusedSimpArgs false
set_option linter.unusedVariables false
set_option maxRecDepth 100000
namespace Go.AL.Path
open Go Go.RowKit Go.Proofs Go.AL

/-- slices.Clone, as a row of one's own. -/
def cloneT : TSp := fun args H K => ∃ l : List Ev, args = [evsV l] ∧ AllOk l ∧ l.length ≤ 1099511627 ∧ K (.rs H.length 0 38 0 l.length) (H ++ [.row 30 38 0 (l.map evV)])
theorem askT_clone {l : List Ev} {H : List AObj} {K : AV → List AObj → Prop} (ho : AllOk l) : askT cloneT [evsV l] H K = (l.length ≤ 1099511627 ∧ K (.rs H.length 0 38 0 l.length) (H ++ [.row 30 38 0 (l.map evV)])) := by
  show (∃ l', [evsV l] = [evsV l'] ∧ AllOk l' ∧ l'.length ≤ 1099511627 ∧ K (.rs H.length 0 38 0 l'.length) (H ++ [.row 30 38 0 (l'.map evV)])) = _
  simp only [eq_iff_iff]
  constructor
  · rintro ⟨l', h1, h2, h3, h4⟩
    have h5 : l.map evV = l'.map evV := by injection h1 with h1 _; injection h1
    obtain rfl := evs_inj ho h2 h5
    exact ⟨h3, h4⟩
  · exact fun h => ⟨l, rfl, ho, h⟩
theorem toldT_clone : ToldT Tryz.prog G 31 cloneT := by
  rintro args H K ⟨l, rfl, h1, h2, h3⟩
  exact ⟨_, _, o31c l h2 H, h3⟩

theorem filter_ok {p : Ev → Bool} {l : List Ev} (ho : AllOk l) : AllOk (l.filter p) := fun e he => ho e (List.mem_filter.1 he).1

section
variable {g : Nat} {caps caps' : List AV} {p : Ev → Bool}
/-- slices.DeleteFunc, in a row of one's own. -/
theorem o32r {H : List AObj} {id ver : Nat} {l : List Ev} (hg : ∀ e, EvOk e → Pure Tryz.prog G g (evV e :: caps') (bool (p e))) (hc' : lows 0 caps') (hst' : caps'.map AV.strip = caps')
    (hcap : ∀ o L, caps.map (lendV (RowH H id o L)) = caps') (hcap1 : ∀ o L, caps.map (lend1 (RowH H id o L)) = caps') (hcl : lows H.length caps) (hst : caps.map AV.strip = caps) (hne : ¬ 34 = g)
    (hH : H[id]? = some (.row 30 38 ver (l.map evV))) (hlow : ∀ o ∈ H, o.low H.length) (ho : AllOk l) (hs : l.length ≤ 1099511627) :
    Ok Tryz.prog G 32 [.rs id ver 38 0 l.length, .fn (.func g) [] caps] H (.rs id ver 38 0 (l.filter fun x => !p x).length) (H.set id (.row 30 38 ver ((l.filter fun x => !p x).map evV))) := by
  have h := ok_shrink (n := (l.filter fun x => !p x).length) (o32 hg hc' hst' hcap hcap1 hcl hst hne hH hlow ho hs) (List.getElem?_set_self (SimH.lt hH))
  rw [List.set_set, List.take_append_of_le_length (by simp), List.take_of_length_le (by simp)] at h
  exact h
/-- .. and for good. -/
theorem o32f {H : List AObj} {id ver : Nat} {l : List Ev} (hg : ∀ e, EvOk e → Pure Tryz.prog G g (evV e :: caps') (bool (p e))) (hc' : lows 0 caps') (hst' : caps'.map AV.strip = caps')
    (hcap : ∀ o L, caps.map (lendV (RowH H id o L)) = caps') (hcap1 : ∀ o L, caps.map (lend1 (RowH H id o L)) = caps') (hcl : lows H.length caps) (hst : caps.map AV.strip = caps) (hne : ¬ 34 = g)
    (hH : H[id]? = some (.row 30 38 ver (l.map evV))) (hlow : ∀ o ∈ H, o.low H.length) (ho : AllOk l) (hs : l.length ≤ 1099511627) :
    Ok Tryz.prog G 32 [.rs id ver 38 0 l.length, .fn (.func g) [] caps] H (evsV (l.filter fun x => !p x)) (H.set id .dead) := by
  have h := ok_freeze (o32r hg hc' hst' hcap hcap1 hcl hst hne hH hlow ho hs) (List.getElem?_set_self (SimH.lt hH)) (by simp) (by decide)
  rw [List.set_set, List.drop_zero, List.take_of_length_le (by simp)] at h
  exact h
end

/-- DeleteFunc, of a closure that captured one box. -/
def delT (frz : Bool) (g : Nat) (cap cap' : AV) (box : AObj) (p : Ev → Bool) : TSp := fun args H K => ∃ (id ver : Nat) (l : List Ev), args = [.rs id ver 38 0 l.length, .fn (.func g) [] [cap]] ∧ H = [box, .row 30 38 ver (l.map evV)] ∧ id = 1 ∧ AllOk l ∧ l.length ≤ 1099511627 ∧
    (if frz = true then K (evsV (l.filter fun x => !p x)) [box, .dead] else K (.rs 1 ver 38 0 (l.filter fun x => !p x).length) [box, .row 30 38 ver ((l.filter fun x => !p x).map evV)])
theorem toldT_del {frz : Bool} {g off : Nat} {cs : List AV} {p : Ev → Bool} (hcs : lows 0 cs) (hne : ¬ 34 = g) (hg : ∀ e, EvOk e → Pure Tryz.prog G g [evV e, .rptr cs off] (bool (p e))) :
    ToldT Tryz.prog G 32 (delT frz g (.ptr 0 off) (.rptr cs off) (.box cs) p) := by
  rintro args H K ⟨id, ver, l, rfl, rfl, rfl, ho, hs, hK⟩
  have hb : ∀ n, lows n cs := fun n => lows_any hcs
  have hlow : ∀ o ∈ [AObj.box cs, .row 30 38 ver (l.map evV)], o.low ([AObj.box cs, .row 30 38 ver (l.map evV)] : List AObj).length := by
    intro o ho'
    simp only [List.mem_cons, List.not_mem_nil, or_false] at ho'
    rcases ho' with rfl | rfl
    · exact hb _
    · exact lows_evs _ l
  have c1 : ∀ o L, [AV.ptr 0 off].map (lendV (RowH [AObj.box cs, .row 30 38 ver (l.map evV)] 1 o L)) = [.rptr cs off] := fun o L => rfl
  have c2 : ∀ o L, [AV.ptr 0 off].map (lend1 (RowH [AObj.box cs, .row 30 38 ver (l.map evV)] 1 o L)) = [.rptr cs off] := fun o L => rfl
  cases frz with
  | false =>
    exact ⟨_, _, o32r (caps := [.ptr 0 off]) (caps' := [.rptr cs off]) hg ⟨hcs, trivial⟩ rfl c1 c2 ⟨by show 0 < 2; decide, trivial⟩ rfl hne rfl hlow ho hs, hK⟩
  | true =>
    exact ⟨_, _, o32f (caps := [.ptr 0 off]) (caps' := [.rptr cs off]) hg ⟨hcs, trivial⟩ rfl c1 c2 ⟨by show 0 < 2; decide, trivial⟩ rfl hne rfl hlow ho hs, hK⟩

theorem del_ex {frz : Bool} {g : Nat} {cap cap' : AV} {box : AObj} {p : Ev → Bool} {ver n : Nat} {l : List Ev} {K : AV → List AObj → Prop} (ho : AllOk l) (hn : n = l.length) :
    askT (delT frz g cap cap' box p) [.rs 1 ver 38 0 n, .fn (.func g) [] [cap]] [box, .row 30 38 ver (l.map evV)] K = (l.length ≤ 1099511627 ∧
    (if frz = true then K (evsV (l.filter fun x => !p x)) [box, .dead] else K (.rs 1 ver 38 0 (l.filter fun x => !p x).length) [box, .row 30 38 ver ((l.filter fun x => !p x).map evV)])) := by
  subst hn
  show (∃ (id ver' : Nat) (l' : List Ev), _ ∧ _ ∧ id = 1 ∧ AllOk l' ∧ l'.length ≤ 1099511627 ∧ _) = _
  simp only [eq_iff_iff]
  constructor
  · rintro ⟨id, ver', l', h1, h2, rfl, h3, h4, h5⟩
    injection h2 with _ h2
    injection h2 with h2 _
    injection h2 with _ _ h6 h7
    obtain rfl := evs_inj ho h3 h7
    subst h6
    exact ⟨h4, h5⟩
  · exact fun h => ⟨1, ver, l, rfl, rfl, rfl, ho, h.1, h.2⟩
theorem askT_delF {g : Nat} {cap cap' : AV} {box : AObj} {p : Ev → Bool} {ver n : Nat} {l : List Ev} {K : AV → List AObj → Prop} (ho : AllOk l) (hn : n = l.length) :
    askT (delT true g cap cap' box p) [.rs 1 ver 38 0 n, .fn (.func g) [] [cap]] [box, .row 30 38 ver (l.map evV)] K = (l.length ≤ 1099511627 ∧ K (evsV (l.filter fun x => !p x)) [box, .dead]) := by rw [del_ex ho hn]; simp
theorem askT_delR {g : Nat} {cap cap' : AV} {box : AObj} {p : Ev → Bool} {ver n : Nat} {l : List Ev} {K : AV → List AObj → Prop} (ho : AllOk l) (hn : n = l.length) :
    askT (delT false g cap cap' box p) [.rs 1 ver 38 0 n, .fn (.func g) [] [cap]] [box, .row 30 38 ver (l.map evV)] K = (l.length ≤ 1099511627 ∧ K (.rs 1 ver 38 0 (l.filter fun x => !p x).length) [box, .row 30 38 ver ((l.filter fun x => !p x).map evV)]) := by rw [del_ex ho hn]; simp

/-- slices.Insert of one event, into a row that lies second, behind one box; the row is for good behind it. -/
def insT (box : AObj) : TSp := fun args H K => ∃ (ver i : Nat) (l : List Ev) (e : Ev), args = [.rs 1 ver 38 0 l.length, i64 i, .sl 38 [evV e] (some 2)] ∧ H = [box, .row 30 38 ver (l.map evV), .tok 30 38 1] ∧ AllOk l ∧ EvOk e ∧ i ≤ l.length ∧ l.length ≤ 1099511627 ∧
    K (evsV (l.take i ++ [e] ++ l.drop i)) [box, .dead, .tok 30 38 1]
theorem toldT_ins {box : AObj} : ToldT Tryz.prog G 36 (insT box) := by
  rintro args H K ⟨ver, i, l, e, rfl, rfl, ho, he, hi, hs, hK⟩
  obtain ⟨ti, z, h1, h2, h3, h4, h5⟩ := info30
  have h := ok_insert (G := G) Tryz.func36 rfl (by decide +kernel) (by decide) inserts36 Tryz.underlying22 h1 h2 h3 h4 h5 (by decide) (xs := l.map evV) (x := evV e) (i := i) (ver := ver) (id := 1) (k := 2) (H := [box, .row 30 38 ver (l.map evV), .tok 30 38 1]) (by rw [evs_len]; omega) (ev_len he.len) (by rw [evs_len]; exact hi) rfl rfl
  have h6 := ok_freeze h rfl (by simp; omega) (by decide)
  have e1 : List.take i (l.map evV) ++ [evV e] ++ List.drop i (l.map evV) = (l.take i ++ [e] ++ l.drop i).map evV := by simp
  rw [e1, List.drop_zero, List.take_of_length_le (by simp; omega), evs_len] at h6
  exact ⟨_, _, h6, hK⟩
theorem askT_ins {box : AObj} {ver n i : Nat} {l : List Ev} {e : Ev} {K : AV → List AObj → Prop} (ho : AllOk l) (he : EvOk e) (hn : n = l.length) :
    askT (insT box) [.rs 1 ver 38 0 n, i64 i, .sl 38 [evV e] (some 2)] [box, .row 30 38 ver (l.map evV), .tok 30 38 1] K = (i ≤ l.length ∧ l.length ≤ 1099511627 ∧ K (evsV (l.take i ++ [e] ++ l.drop i)) [box, .dead, .tok 30 38 1]) := by
  subst hn
  show (∃ (ver' i' : Nat) (l' : List Ev) (e' : Ev), _ ∧ _ ∧ AllOk l' ∧ EvOk e' ∧ i' ≤ l'.length ∧ l'.length ≤ 1099511627 ∧ _) = _
  simp only [eq_iff_iff]
  constructor
  · rintro ⟨ver', i', l', e', h1, h2, h3, h4, h5, h6, h7⟩
    injection h2 with _ h2
    injection h2 with h2 _
    injection h2 with _ _ h8 h9
    obtain rfl := evs_inj ho h3 h9
    injection h1 with _ h1
    injection h1 with h10 h1
    injection h1 with h11 _
    injection h11 with _ h11 _
    injection h11 with h11 _
    injection h10 with h10
    injection h10 with _ h10
    have h12 : evCells e = evCells e' := by injection h11
    have h13 := evOf_cells he.len
    rw [h12, evOf_cells h4.len] at h13
    cases h13
    have : i' = i := by omega
    subst this
    exact ⟨h5, h6, h7⟩
  · exact fun h => ⟨ver, i, l, e, rfl, rfl, ho, he, h.1, h.2.1, h.2.2⟩

/-- What the program's Add does. -/
def addP (h : List Ev) (e : Ev) : List Ev :=
  if h.any (covers e) = true then h else
    let out := h.filter fun f => !gone e f
    let i := if idxOf (fun f => decide (0 < cmpEv f e)) out < 0 then out.length else (idxOf (fun f => decide (0 < cmpEv f e)) out).toNat
    out.take i ++ [e] ++ out.drop i

/-- slices.Clone, for good. -/
def evsId : PSp := fun args K => ∃ l : List Ev, args = [evsV l] ∧ AllOk l ∧ l.length ≤ 1099511627 ∧ K (evsV l)
theorem ask_evsId {l : List Ev} {K} (ho : AllOk l) : ask evsId [evsV l] K = (l.length ≤ 1099511627 ∧ K (evsV l)) := by
  show (∃ l', [evsV l] = [evsV l'] ∧ AllOk l' ∧ l'.length ≤ 1099511627 ∧ K (evsV l')) = _
  simp only [eq_iff_iff]
  constructor
  · rintro ⟨l', h1, h2, h3, h4⟩
    have h5 : l.map evV = l'.map evV := by injection h1 with h1 _; injection h1
    obtain rfl := evs_inj ho h2 h5
    exact ⟨h3, h4⟩
  · exact fun h => ⟨l, rfl, ho, h⟩
theorem told_evsId : Told Tryz.prog G 31 evsId := by
  rintro args K ⟨l, rfl, h1, h2, h3⟩
  exact ⟨_, p31c l h2, h3⟩

def c11 : ACode := (.seq (.reg false 1 [⟨(.some 3), none, (.m .box 0), [(.t 1)]⟩, ⟨(.some 4), none, (.q .mv), [(.c (.sl 0 [] none))]⟩]) (.seq (.reg false 0 [⟨(.some 8), none, (.q (.mkfn (.func 30) 0)), [(.t 3)]⟩, ⟨(.some 5), none, (.q .mv), [(.t 8)]⟩]) (.seq (.reg false 0 [⟨(.some 9), none, (.q .mv), [(.t 0)]⟩, ⟨(.some 10), none, (.call true), [(.c (.fn (.func 31) [] [])), (.t 9)]⟩, ⟨(.some 6), none, (.q .mv), [(.t 10)]⟩]) (.seq (.seq (.reg false 0 [⟨(.some 11), none, (.q .mv), [(.t 0)]⟩, ⟨(.some 12), none, (.q .mv), [(.t 5)]⟩, ⟨(.some 13), none, (.call true), [(.c (.fn (.func 25) [] [])), (.t 11), (.t 12)]⟩]) (.cond (.t 13) (.seq (.reg false 0 [⟨(.some 14), none, (.q .mv), [(.t 6)]⟩, ⟨(.some 4), none, (.q .mv), [(.t 14)]⟩]) .ret) .skip)) (.seq (.reg false 0 [⟨(.some 15), none, (.q .mv), [(.t 6)]⟩, ⟨(.some 16), none, (.q (.mkfn (.func 33) 0)), [(.t 3)]⟩, ⟨(.some 17), none, (.call true), [(.c (.fn (.func 32) [] [])), (.t 15), (.t 16)]⟩, ⟨(.some 6), none, (.q .mv), [(.t 17)]⟩]) (.seq (.reg false 0 [⟨(.some 18), none, (.q .mv), [(.t 6)]⟩, ⟨(.some 19), none, (.q (.mkfn (.func 35) 0)), [(.t 3)]⟩, ⟨(.some 20), none, (.call true), [(.c (.fn (.func 34) [] [])), (.t 18), (.t 19)]⟩, ⟨(.some 7), none, (.q .mv), [(.t 20)]⟩]) (.seq (.seq (.reg false 0 [⟨(.some 21), none, (.q .mv), [(.t 7)]⟩, ⟨(.some 22), none, (.q (.bin .lss 3)), [(.t 21), (.c (.imm (.int .i64 0)))]⟩]) (.cond (.t 22) (.reg false 0 [⟨(.some 23), none, (.q .mv), [(.t 6)]⟩, ⟨(.some 24), none, (.q .lenL), [(.t 23)]⟩, ⟨(.some 7), none, (.q .mv), [(.t 24)]⟩]) .skip)) (.seq (.reg false 1 [⟨(.some 25), none, (.q .mv), [(.t 6)]⟩, ⟨(.some 26), none, (.q .mv), [(.t 7)]⟩, ⟨(.some 27), none, (.l (.loadA 38)), [(.t 3)]⟩, ⟨(.some 28), none, (.m (.bsliceO 30 38) 0), [(.t 27)]⟩, ⟨(.some 29), none, (.call true), [(.c (.fn (.func 36) [] [])), (.t 25), (.t 26), (.t 28)]⟩, ⟨(.some 4), none, (.q .mv), [(.t 29)]⟩]) .ret))))))))
theorem fn11 : IsFn Tryz.prog 11 [9] c11 [4] 30 := ⟨_, _, Tryz.func11, rfl, by decide +kernel, by kernel_rfl, rfl, rfl⟩
set_option maxHeartbeats 4000000 in
theorem p11c (h : List Ev) (e : Ev) (ho : AllOk h) (he : EvOk e) (hs : h.length ≤ 1099511627) : Pure Tryz.prog G 11 [evsV h, evV e] (evsV (addP h e)) := by
  have lowE : lows 0 (evCells e) := lows_ev 0 e
  have lowC : lows 0 [AV.rptr (evCells e) 0] := ⟨lowE, trivial⟩
  have st1 : [AV.rptr (evCells e) 0].map AV.strip = [.rptr (evCells e) 0] := rfl
  have le := ev_len he.len
  have ke := take38 he
  have lw1 : ∀ l : List Ev, lows 0 [AV.sl 38 (l.map evV) none, AV.fn (.func 30) [] [.rptr (evCells e) 0]] = True := fun l => eq_true (by simp [lows, AV.low, lows_evs, lowE])
  have lw2 : ∀ l : List Ev, lows 0 [AV.sl 38 (l.map evV) none, AV.fn (.func 35) [] [.rptr (evCells e) 0]] = True := fun l => eq_true (by simp [lows, AV.low, lows_evs, lowE])
  have q2 : ∀ K, ask (evsFn 30 [.rptr (evCells e) 0] fun l => bool (l.any (covers e))) [.sl 38 (h.map evV) none, .fn (.func 30) [] [.rptr (evCells e) 0]] K = (h.length ≤ 1099511627776 ∧ K (bool (h.any (covers e)))) := fun K => ask_evsFn ho
  cases hc : h.any (covers e) with
  | true =>
    refine pure_of_code' (S := sp [(31, evsId)] [(25, lendT (evsFn 30 [.rptr (evCells e) 0] fun l => bool (l.any (covers e))))]) hm hG
      (sp_holds (.cons told_evsId .nil) (.cons (toldT_lend hG (told_evsFn fun l h1 h2 => p25c lowC st1 (fun f hf => p30c e f he hf) l h1 h2)) .nil)) fn11 (St 8 30 [evsV h, evV e, .junk, .junk, .junk, .junk, .junk, .junk] []) (by kernel_rfl) (by simp [lows, AV.low, lows_evs, lows_ev]) (by simp [AV.low, lows_evs]) ?_
    have q1 : ∀ K, ask evsId [.sl 38 (h.map evV) none] K = (h.length ≤ 1099511627 ∧ K (evsV h)) := fun K => ask_evsId ho
    simp (maxSteps := 2000000) -implicitDefEqProofs only [c11, RS, Nat.reduceLT, ↓RP0, ↓RP1, ↓RP2, ↓RP3, RV, RW, ↓reduceIte, Nat.reduceAdd, Nat.reduceSub, Nat.reduceMul, Nat.reduceLeDiff, Nat.reduceEqDiff, Int.reduceLT, Int.reduceLE, Int.reduceEq, Int.reduceNe, Int.reduceAdd, Int.reduceSub, Int.reduceMul, Int.reduceNeg, Int.reduceToNat, reduceCtorEq, ↓q1, q1, ↓q2, q2, hc, ↓askT_lend, askT_lend, lendV_rs, lendV_fn, lendV_sl, lend1_ptr, lendP_box, lw1, lw2]
    refine ⟨by omega, by omega, ?_⟩
    simp [addP, hc]
  | false =>
    refine pure_of_code' (S := sp [] [(31, cloneT), (25, lendT (evsFn 30 [.rptr (evCells e) 0] fun l => bool (l.any (covers e)))), (32, delT false 33 (.ptr 0 0) (.rptr (evCells e) 0) (.box (evCells e)) (gone e)),
        (34, lendT (evsFn 35 [.rptr (evCells e) 0] fun l => i64 (idxOf (fun f => decide (0 < cmpEv f e)) l))), (36, insT (.box (evCells e)))]) hm hG
      (sp_holds .nil (.cons toldT_clone (.cons (toldT_lend hG (told_evsFn fun l h1 h2 => p25c lowC st1 (fun f hf => p30c e f he hf) l h1 h2)) (.cons (toldT_del lowE (by decide) fun f hf => p33c e f he hf)
        (.cons (toldT_lend hG (told_evsFn fun l h1 h2 => p34c lowC st1 (fun f hf => p35c e f he hf) l h1 h2)) (.cons toldT_ins .nil)))))) fn11 (St 8 30 [evsV h, evV e, .junk, .junk, .junk, .junk, .junk, .junk] []) (by kernel_rfl) (by simp [lows, AV.low, lows_evs, lows_ev]) (by simp [AV.low, lows_evs]) ?_
    have q1 : ∀ H (K : AV → List AObj → Prop), askT cloneT [.sl 38 (h.map evV) none] H K = (h.length ≤ 1099511627 ∧ K (.rs H.length 0 38 0 h.length) (H ++ [.row 30 38 0 (h.map evV)])) := fun H K => askT_clone ho
    have q3 : ∀ (K : AV → List AObj → Prop), askT (delT false 33 (.ptr 0 0) (.rptr (evCells e) 0) (.box (evCells e)) (gone e)) [.rs 1 0 38 0 h.length, .fn (.func 33) [] [.ptr 0 0]] [.box (evCells e), .row 30 38 0 (h.map evV)] K = (h.length ≤ 1099511627 ∧ K (.rs 1 0 38 0 (h.filter fun f => !gone e f).length) [.box (evCells e), .row 30 38 0 ((h.filter fun f => !gone e f).map evV)]) := fun K => askT_delR ho rfl
    have ho2 : AllOk (h.filter fun f => !gone e f) := filter_ok ho
    have hlen : (h.filter fun f => !gone e f).length ≤ h.length := List.length_filter_le _ _
    have hadd : addP h e = (let out := h.filter fun f => !gone e f
      let i := if idxOf (fun f => decide (0 < cmpEv f e)) out < 0 then out.length else (idxOf (fun f => decide (0 < cmpEv f e)) out).toNat
      out.take i ++ [e] ++ out.drop i) := by unfold addP; rw [if_neg (by rw [hc]; decide)]
    rw [hadd]
    generalize (h.filter fun f => !gone e f) = F at *
    have q4 : ∀ K, ask (evsFn 35 [.rptr (evCells e) 0] fun l => i64 (idxOf (fun f => decide (0 < cmpEv f e)) l)) [.sl 38 (F.map evV) none, .fn (.func 35) [] [.rptr (evCells e) 0]] K = (F.length ≤ 1099511627776 ∧ K (i64 (idxOf (fun f => decide (0 < cmpEv f e)) F))) := fun K => ask_evsFn ho2
    have q5 : ∀ (i : Nat) (K : AV → List AObj → Prop), askT (insT (.box (evCells e))) [.rs 1 0 38 0 F.length, i64 i, .sl 38 [.agg (evCells e)] (some 2)] [.box (evCells e), .row 30 38 0 (F.map evV), .tok 30 38 1] K = (i ≤ F.length ∧ F.length ≤ 1099511627 ∧ K (evsV (F.take i ++ [e] ++ F.drop i)) [.box (evCells e), .dead, .tok 30 38 1]) := fun i K => askT_ins ho2 he rfl
    have vl : (∀ (x : AV), x ∈ [AV.agg (evCells e)] → x.isVal = true ∧ x.cells.length = 38) = True := eq_true (fun x hx => by rw [List.mem_singleton.1 hx]; exact ⟨rfl, le⟩)
    have lr := lendR_all (e := 30) (ver := 0) (sz := 38) (evs_len F)
    cases ha : F.any (fun f => decide (0 < cmpEv f e)) with
    | true =>
      obtain ⟨k, hk, hidx, _, _⟩ := idxOf_some ev0d ha
      have hd1 : ((k : Int) < 0) = False := eq_false (by omega)
      simp (maxSteps := 2000000) -implicitDefEqProofs only [c11, RS, Nat.reduceLT, ↓RP0, ↓RP1, ↓RP2, ↓RP3, RV, RW, ↓reduceIte, Nat.reduceAdd, Nat.reduceSub, Nat.reduceMul, Nat.reduceLeDiff, Nat.reduceEqDiff, Int.reduceLT, Int.reduceLE, Int.reduceEq, Int.reduceNe, Int.reduceAdd, Int.reduceSub, Int.reduceMul, Int.reduceNeg, Int.reduceToNat, reduceCtorEq, ↓q1, q1, ↓q2, q2, ↓q3, q3, ↓q4, q4, ↓q5, q5, hc, hidx, hd1, le, ke, ev_strip, vl, evs_len, ↓askT_lend, askT_lend, lendV_rs, lendV_fn, lendV_sl, lend1_ptr, lendP_box, lw1, lw2, lr]
      and_intros <;> first | omega | simp [hidx, hd1]
    | false =>
      have hidx := idxOf_none ha
      have hd1 : ((-1 : Int) < 0) = True := eq_true (by omega)
      simp (maxSteps := 2000000) -implicitDefEqProofs only [c11, RS, Nat.reduceLT, ↓RP0, ↓RP1, ↓RP2, ↓RP3, RV, RW, ↓reduceIte, Nat.reduceAdd, Nat.reduceSub, Nat.reduceMul, Nat.reduceLeDiff, Nat.reduceEqDiff, Int.reduceLT, Int.reduceLE, Int.reduceEq, Int.reduceNe, Int.reduceAdd, Int.reduceSub, Int.reduceMul, Int.reduceNeg, Int.reduceToNat, reduceCtorEq, ↓q1, q1, ↓q2, q2, ↓q3, q3, ↓q4, q4, ↓q5, q5, hc, hidx, hd1, le, ke, ev_strip, vl, evs_len, ↓askT_lend, askT_lend, lendV_rs, lendV_fn, lendV_sl, lend1_ptr, lendP_box, lw1, lw2, lr]
      and_intros <;> first | omega | simp [hidx]
end Go.AL.Path

/- heads: At, Drop, Join. -/
set_option linter.unusedSimpArgs false
set_option linter.unusedVariables false
set_option maxRecDepth 100000
namespace Go.AL.Path
open Go Go.RowKit Go.Proofs Go.AL

def c38 : ACode := (.seq (.reg false 0 [⟨(.some 4), none, (.q .mv), [(.c (.sl 0 [] none))]⟩]) (.seq (.reg false 0 [⟨(.some 5), none, (.q .mv), [(.t 0)]⟩, ⟨(.some 6), none, (.call true), [(.c (.fn (.func 31) [] [])), (.t 5)]⟩, ⟨(.some 7), none, (.q .mv), [(.t 1)]⟩, ⟨(.some 8), none, (.call true), [(.c (.fn (.func 32) [] [])), (.t 6), (.t 7)]⟩, ⟨(.some 4), none, (.q .mv), [(.t 8)]⟩]) .ret))
theorem fn38 : IsFn Tryz.prog 38 [] c38 [4] 9 := ⟨_, _, Tryz.func38, rfl, by decide +kernel, by kernel_rfl, rfl, rfl⟩
theorem o38 {g : Nat} {cs : List AV} {p : Ev → Bool} (hcs : lows 0 cs) (hne : ¬ 34 = g) (hg : ∀ e, EvOk e → Pure Tryz.prog G g [evV e, .rptr cs 0] (bool (p e))) (l : List Ev) (ho : AllOk l) (hs : l.length ≤ 1099511627) :
    Ok Tryz.prog G 38 [evsV l, .fn (.func g) [] [.ptr 0 0]] [.box cs] (evsV (l.filter fun x => !p x)) [.box cs] := by
  refine ok_of_code (S := sp [] [(31, cloneT), (32, delT true g (.ptr 0 0) (.rptr cs 0) (.box cs) p)]) hm hG (sp_holds .nil (.cons toldT_clone (.cons (toldT_del hcs hne hg) .nil))) fn38
    (St 5 9 [evsV l, .fn (.func g) [] [.ptr 0 0], .junk, .junk, .junk] []) (by kernel_rfl) (by simp [AV.low, lows_evs]) (by simp) (by simp; exact lows_any hcs) ?_
  have q1 : ∀ H (K : AV → List AObj → Prop), askT cloneT [.sl 38 (l.map evV) none] H K = (l.length ≤ 1099511627 ∧ K (.rs H.length 0 38 0 l.length) (H ++ [.row 30 38 0 (l.map evV)])) := fun H K => askT_clone ho
  have q3 : ∀ (K : AV → List AObj → Prop), askT (delT true g (.ptr 0 0) (.rptr cs 0) (.box cs) p) [.rs 1 0 38 0 l.length, .fn (.func g) [] [.ptr 0 0]] [.box cs, .row 30 38 0 (l.map evV)] K = (l.length ≤ 1099511627 ∧ K (evsV (l.filter fun x => !p x)) [.box cs, .dead]) := fun K => askT_delF ho rfl
  simp (maxSteps := 2000000) -implicitDefEqProofs only [c38, RS, RX, Nat.reduceLT, ↓RP0, ↓RP1, ↓RP2, ↓RP3, RV, RW, ↓reduceIte, Nat.reduceAdd, Nat.reduceSub, Nat.reduceMul, Nat.reduceLeDiff, Nat.reduceEqDiff, Int.reduceLT, Int.reduceLE, Int.reduceEq, Int.reduceNe, Int.reduceAdd, Int.reduceSub, Int.reduceMul, Int.reduceNeg, Int.reduceToNat, reduceCtorEq, ↓q1, q1, ↓q3, q3, retO_ret]
  exact ⟨by omega, by omega⟩

def withT (g : Nat) (cs : List AV) (p : Ev → Bool) : TSp := fun args H K => ∃ l : List Ev, args = [evsV l, .fn (.func g) [] [.ptr 0 0]] ∧ H = [.box cs] ∧ AllOk l ∧ l.length ≤ 1099511627 ∧ K (evsV (l.filter fun x => !p x)) [.box cs]
theorem toldT_with {g : Nat} {cs : List AV} {p : Ev → Bool} (hcs : lows 0 cs) (hne : ¬ 34 = g) (hg : ∀ e, EvOk e → Pure Tryz.prog G g [evV e, .rptr cs 0] (bool (p e))) : ToldT Tryz.prog G 38 (withT g cs p) := by
  rintro args H K ⟨l, rfl, rfl, h1, h2, h3⟩
  exact ⟨_, _, o38 hcs hne hg l h1 h2, h3⟩
theorem askT_with {g : Nat} {cs : List AV} {p : Ev → Bool} {l : List Ev} {K : AV → List AObj → Prop} (ho : AllOk l) : askT (withT g cs p) [evsV l, .fn (.func g) [] [.ptr 0 0]] [.box cs] K = (l.length ≤ 1099511627 ∧ K (evsV (l.filter fun x => !p x)) [.box cs]) := by
  show (∃ l', [evsV l, .fn (.func g) [] [.ptr 0 0]] = [evsV l', .fn (.func g) [] [.ptr 0 0]] ∧ [AObj.box cs] = [.box cs] ∧ AllOk l' ∧ l'.length ≤ 1099511627 ∧ K (evsV (l'.filter fun x => !p x)) [.box cs]) = _
  simp only [eq_iff_iff]
  constructor
  · rintro ⟨l', h1, _, h2, h3, h4⟩
    have h5 : l.map evV = l'.map evV := by injection h1 with h1 _; injection h1
    obtain rfl := evs_inj ho h2 h5
    exact ⟨h3, h4⟩
  · exact fun h => ⟨l, rfl, trivial, ho, h⟩

def c13 : ACode := (.seq (.reg false 1 [⟨(.some 3), none, (.m .box 0), [(.t 1)]⟩, ⟨(.some 4), none, (.q .mv), [(.c (.sl 0 [] none))]⟩]) (.seq (.reg false 0 [⟨(.some 5), none, (.q .mv), [(.t 0)]⟩, ⟨(.some 6), none, (.q (.mkfn (.func 39) 0)), [(.t 3)]⟩, ⟨(.some 7), none, (.call true), [(.c (.fn (.func 38) [] [])), (.t 5), (.t 6)]⟩, ⟨(.some 4), none, (.q .mv), [(.t 7)]⟩]) .ret))
theorem fn13 : IsFn Tryz.prog 13 [] c13 [4] 8 := ⟨_, _, Tryz.func13, rfl, by decide +kernel, by kernel_rfl, rfl, rfl⟩
theorem p13c (h : List Ev) (d : List UInt8) (ho : AllOk h) (hs : h.length ≤ 1099511627) : Pure Tryz.prog G 13 [evsV h, T d] (evsV (h.filter fun e => decide (e.path = d))) := by
  refine pure_of_code' (S := sp [] [(38, withT 39 [T d] fun e => decide (¬ e.path = d))]) hm hG (sp_holds .nil (.cons (toldT_with ⟨trivial, trivial⟩ (by decide) fun e he => p39c d e he) .nil)) fn13 (St 5 8 [evsV h, T d, .junk, .junk, .junk] []) (by kernel_rfl) (by simp [lows, AV.low, lows_evs]) (by simp [AV.low, lows_evs]) ?_
  have q : ∀ K, askT (withT 39 [T d] fun e => decide (¬ e.path = d)) [.sl 38 (h.map evV) none, .fn (.func 39) [] [.ptr 0 0]] [.box [T d]] K = (h.length ≤ 1099511627 ∧ K (evsV (h.filter fun x => !(decide (¬ x.path = d)))) [.box [T d]]) := fun K => askT_with ho
  simp (maxSteps := 2000000) -implicitDefEqProofs only [c13, RS, RX, Nat.reduceLT, ↓RP0, ↓RP1, ↓RP2, ↓RP3, RV, RW, ↓reduceIte, Nat.reduceAdd, Nat.reduceSub, Nat.reduceMul, Nat.reduceLeDiff, Nat.reduceEqDiff, Int.reduceLT, Int.reduceLE, Int.reduceEq, Int.reduceNe, Int.reduceAdd, Int.reduceSub, Int.reduceMul, Int.reduceNeg, Int.reduceToNat, reduceCtorEq, ↓q, q]
  refine ⟨hs, ?_⟩
  simp

def c17 : ACode := (.seq (.reg false 1 [⟨(.some 3), none, (.m .box 0), [(.t 1)]⟩, ⟨(.some 4), none, (.q .mv), [(.c (.sl 0 [] none))]⟩]) (.seq (.reg false 0 [⟨(.some 5), none, (.q .mv), [(.t 0)]⟩, ⟨(.some 6), none, (.q (.mkfn (.func 46) 0)), [(.t 3)]⟩, ⟨(.some 7), none, (.call true), [(.c (.fn (.func 38) [] [])), (.t 5), (.t 6)]⟩, ⟨(.some 4), none, (.q .mv), [(.t 7)]⟩]) .ret))
theorem fn17 : IsFn Tryz.prog 17 [] c17 [4] 8 := ⟨_, _, Tryz.func17, rfl, by decide +kernel, by kernel_rfl, rfl, rfl⟩
theorem p17c (h : List Ev) (v : Vec) (ho : AllOk h) (hv : Small v) (hs : h.length ≤ 1099511627) : Pure Tryz.prog G 17 [evsV h, vecV v] (evsV (h.filter fun e => !(decide (e.kind = 2) && hasP v e.r e.q))) := by
  refine pure_of_code' (S := sp [] [(38, withT 46 [vecV v] fun e => decide (e.kind = 2) && hasP v e.r e.q)]) hm hG (sp_holds .nil (.cons (toldT_with (by simp [lows, AV.low, lows_vdots]) (by decide) fun e he => p46c v hv e he) .nil)) fn17 (St 5 8 [evsV h, vecV v, .junk, .junk, .junk] []) (by kernel_rfl) (by simp [lows, AV.low, lows_evs, lows_vdots]) (by simp [AV.low, lows_evs]) ?_
  have q : ∀ K, askT (withT 46 [vecV v] fun e => decide (e.kind = 2) && hasP v e.r e.q) [.sl 38 (h.map evV) none, .fn (.func 46) [] [.ptr 0 0]] [.box [vecV v]] K = (h.length ≤ 1099511627 ∧ K (evsV (h.filter fun x => !(decide (x.kind = 2) && hasP v x.r x.q))) [.box [vecV v]]) := fun K => askT_with ho
  simp (maxSteps := 2000000) -implicitDefEqProofs only [c17, RS, RX, Nat.reduceLT, ↓RP0, ↓RP1, ↓RP2, ↓RP3, RV, RW, ↓reduceIte, Nat.reduceAdd, Nat.reduceSub, Nat.reduceMul, Nat.reduceLeDiff, Nat.reduceEqDiff, Int.reduceLT, Int.reduceLE, Int.reduceEq, Int.reduceNe, Int.reduceAdd, Int.reduceSub, Int.reduceMul, Int.reduceNeg, Int.reduceToNat, reduceCtorEq, ↓q, q]
  exact hs

theorem addP_len (h : List Ev) (e : Ev) : (addP h e).length ≤ h.length + 1 := by
  unfold addP
  have := List.length_filter_le (fun f => !gone e f) h
  split
  · omega
  · simp only [List.length_append, List.length_take, List.length_drop, List.length_singleton]; omega
theorem addP_ok {h : List Ev} {e : Ev} (ho : AllOk h) (he : EvOk e) : AllOk (addP h e) := by
  unfold addP
  split
  · exact ho
  · intro x hx
    simp only [List.mem_append, List.mem_singleton] at hx
    rcases hx with (hx | rfl) | hx
    · exact filter_ok ho x (List.mem_of_mem_take hx)
    · exact he
    · exact filter_ok ho x (List.mem_of_mem_drop hx)
theorem foldP_len : ∀ (k h : List Ev), (k.foldl addP h).length ≤ h.length + k.length
  | [], h => by simp
  | e :: k, h => by
    have := foldP_len k (addP h e)
    have := addP_len h e
    simp only [List.foldl_cons, List.length_cons]; omega
theorem foldP_ok : ∀ (k h : List Ev), AllOk k → AllOk h → AllOk (k.foldl addP h)
  | [], h, _, hh => hh
  | e :: k, h, hk, hh => foldP_ok k _ (fun x hx => hk x (List.mem_cons_of_mem _ hx)) (addP_ok hh (hk e List.mem_cons_self))
theorem foldP_take {h k : List Ev} {i : Nat} (hi : i < k.length) : (k.take (i + 1)).foldl addP h = addP ((k.take i).foldl addP h) (k.getD i ev0d) := by
  rw [evs_take hi, List.foldl_append]; rfl

def c22 : ACode := (.seq (.reg false 0 [⟨(.some 4), none, (.q .mv), [(.c (.sl 0 [] none))]⟩]) (.seq (.reg false 0 [⟨(.some 8), none, (.q .mv), [(.t 0)]⟩, ⟨(.some 9), none, (.call true), [(.c (.fn (.func 31) [] [])), (.t 8)]⟩, ⟨(.some 5), none, (.q .mv), [(.t 9)]⟩]) (.seq (.seq (.reg false 0 [⟨(.some 10), none, (.q .mv), [(.t 1)]⟩, ⟨(.some 11), none, (.q .lenL), [(.t 10)]⟩, ⟨(.some 12), none, (.q .mv), [(.c (.imm (.int .i64 0)))]⟩]) (.block 0 (.loop (.seq (.reg false 0 [⟨(.some 13), none, (.q (.bin .lss 3)), [(.t 12), (.t 11)]⟩]) (.seq (.cond (.t 13) .skip (.exit 0)) (.seq (.block 1 (.seq (.reg false 1 [⟨(.some 14), none, (.q (.iaddrS 38)), [(.t 10), (.t 12)]⟩, ⟨(.some 15), none, (.l (.loadA 38)), [(.t 14)]⟩, ⟨(.some 7), none, (.m (.alloc [(.imm (.int .i64 0)), (.imm (.int .i64 0)), (.sl 0 [] none), (.imm (.int .i64 0)), (.imm (.string (B []))), (.imm (.int .u8 0)), (.imm (.int .u8 0)), (.imm (.int .u8 0)), (.imm (.int .u8 0)), (.imm (.int .u8 0)), (.imm (.int .u8 0)), (.imm (.int .u8 0)), (.imm (.int .u8 0)), (.imm (.int .u8 0)), (.imm (.int .u8 0)), (.imm (.int .u8 0)), (.imm (.int .u8 0)), (.imm (.int .u8 0)), (.imm (.int .u8 0)), (.imm (.int .u8 0)), (.imm (.int .u8 0)), (.imm (.int .u8 0)), (.imm (.int .u8 0)), (.imm (.int .u8 0)), (.imm (.int .u8 0)), (.imm (.int .u8 0)), (.imm (.int .u8 0)), (.imm (.int .u8 0)), (.imm (.int .u8 0)), (.imm (.int .u8 0)), (.imm (.int .u8 0)), (.imm (.int .u8 0)), (.imm (.int .u8 0)), (.imm (.int .u8 0)), (.imm (.int .u8 0)), (.imm (.int .u8 0)), (.imm (.int .u8 0)), (.imm (.int .i64 0))] false) 0), []⟩, ⟨none, none, (.e (.store 38)), [(.t 7), (.t 15)]⟩]) (.reg false 0 [⟨(.some 16), none, (.q .mv), [(.t 5)]⟩, ⟨(.some 17), none, (.l (.loadA 38)), [(.t 7)]⟩, ⟨(.some 18), none, (.call true), [(.c (.fn (.func 11) [] [])), (.t 16), (.t 17)]⟩, ⟨(.some 5), none, (.q .mv), [(.t 18)]⟩]))) (.reg false 0 [⟨(.some 19), none, (.q (.bin .add 3)), [(.t 12), (.c (.imm (.int .i64 1)))]⟩, ⟨(.some 12), none, (.q .mv), [(.t 19)]⟩]))))))) (.seq (.reg false 0 [⟨(.some 20), none, (.q .mv), [(.t 5)]⟩, ⟨(.some 4), none, (.q .mv), [(.t 20)]⟩]) .ret))))
theorem fn22 : IsFn Tryz.prog 22 [] c22 [4] 21 := ⟨_, _, Tryz.func22, rfl, by decide +kernel, by kernel_rfl, rfl, rfl⟩
set_option maxHeartbeats 2000000 in
theorem p22c (h k : List Ev) (ho : AllOk h) (hk : AllOk k) (h1 : h.length ≤ 100000000) (h2 : k.length ≤ 100000000) : Pure Tryz.prog G 22 [evsV h, evsV k] (evsV (k.foldl addP h)) := by
  refine pure_of_code' (S := sp [(31, evsId), (11, evs1e addP)] []) hm hG (sp_holds (.cons told_evsId (.cons (told_evs1e fun a e ha he hs => p11c a e ha he hs) .nil)) .nil) fn22 (St 13 21 [evsV h, evsV k, .junk, .junk, .junk, .junk, .junk, .junk, .junk, .junk, .junk, .junk, .junk] []) (by kernel_rfl) (by simp [lows, AV.low, lows_evs]) (by simp [AV.low, lows_evs]) ?_
  have q1 : ∀ K, ask evsId [.sl 38 (h.map evV) none] K = (h.length ≤ 1099511627 ∧ K (evsV h)) := fun K => ask_evsId ho
  simp (maxSteps := 2000000) -implicitDefEqProofs only [c22, RS, RX, Nat.reduceLT, ↓RP0, ↓RP1, ↓RP2, ↓RP3, RV, RW, ↓reduceIte, Nat.reduceAdd, Nat.reduceSub, Nat.reduceMul, Nat.reduceLeDiff, Nat.reduceEqDiff, Int.reduceLT, Int.reduceLE, Int.reduceEq, Int.reduceNe, Int.reduceAdd, Int.reduceSub, Int.reduceMul, Int.reduceNeg, Int.reduceToNat, reduceCtorEq, ↓q1, q1, evs_len]
  refine ⟨by omega, ?_⟩
  refine loopB (st := fun (i : Nat) => (St 13 21 [evsV h, evsV k, .junk, .junk, .sl 0 [] none, evsV ((k.take i).foldl addP h), .junk, .junk, .junk, .junk, evsV k, i64 k.length, i64 i] [])) (hp := fun _ => []) (I := fun i => i ≤ k.length) (m := fun i => k.length - i) (0 : Nat) (Nat.zero_le _) ?_ ?_
  · refine weak_nilS ?_; simp [WeakL, AV.low, lows, lows_evs]
  · intro i hi
    by_cases hlt : i < k.length
    · have e1 := evs_get hlt
      have e3 : (i : Int) < (k.length : Int) := by omega
      have t1 := foldP_take (h := h) hlt
      have o1 := evs_ok hk i
      have ok1 := foldP_ok (k.take i) h (fun x hx => hk x (List.mem_of_mem_take hx)) ho
      have ln := foldP_len (k.take i) h
      rw [List.length_take] at ln
      generalize k.getD i ev0d = x at *
      generalize (k.take i).foldl addP h = a at *
      have l1 := ev_len o1.len
      have k1 := take38 o1
      have q : ∀ K, ask (evs1e addP) [.sl 38 (a.map evV) none, .agg (evCells x)] K = (a.length ≤ 1099511627 ∧ K (evsV (addP a x))) := fun K => ask_evs1e ok1 o1
      simp (maxSteps := 2000000) -implicitDefEqProofs only [RS, RX, Nat.reduceLT, ↓RP0, ↓RP1, ↓RP2, ↓RP3, RV, RW, ↓reduceIte, Nat.reduceAdd, Nat.reduceSub, Nat.reduceMul, Nat.reduceLeDiff, Nat.reduceEqDiff, Int.reduceLT, Int.reduceLE, Int.reduceEq, Int.reduceNe, Int.reduceAdd, Int.reduceSub, Int.reduceMul, Int.reduceNeg, Int.reduceToNat, reduceCtorEq, ↓q, q, e1, e3, evs_len, l1, k1, ev_strip, AV.cells]
      refine ⟨by omega, ⟨by omega, by omega⟩, i + 1, by dsimp only; omega, by omega, ?_⟩
      dsimp only
      rw [t1]
      refine weak_cutS 0 (by decide) (by simp) (by simp) ?_
      simp [WeakL, AV.low, lows, lows_evs]
    · obtain rfl : i = k.length := by omega
      simp (maxSteps := 2000000) -implicitDefEqProofs only [RS, RX, Nat.reduceLT, ↓RP0, ↓RP1, ↓RP2, ↓RP3, RV, RW, ↓reduceIte, Nat.reduceAdd, Nat.reduceSub, Nat.reduceMul, Nat.reduceLeDiff, Nat.reduceEqDiff, Int.reduceLT, Int.reduceLE, Int.reduceEq, Int.reduceNe, Int.reduceAdd, Int.reduceSub, Int.reduceMul, Int.reduceNeg, Int.reduceToNat, reduceCtorEq, evs_len, Int.lt_irrefl]
      rw [List.take_length]
end Go.AL.Path
