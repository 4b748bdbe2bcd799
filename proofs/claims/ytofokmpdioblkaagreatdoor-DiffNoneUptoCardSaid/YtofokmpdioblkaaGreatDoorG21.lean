/- Path: strings.IndexRune of a text of plain letters, at a rune that is none. -/
import Derived.Test.YtofokmpdioblkaaGreatDoorG20
import Derived.WalkKit
import Derived.WalkMore
import Derived.Shelf.Abstract
import Derived.Shelf.RegionOpen
import Derived.Shelf.GgClosure.Gives
import Derived.Lib.OthersKept
import Derived.Lib.TrimU
import Derived.Deep.LoopGhost
set_option linter.unusedSimpArgs false
set_option linter.unusedVariables false
set_option maxRecDepth 1000000
set_option maxHeartbeats 2000000
namespace Go.AL.Path
open Go Go.RowKit Go.Proofs Go.AL Go.Shelf Go.Lib
theorem ir_err (s : ByteArray) (hs : ∀ i (h : i < s.size), (s[i]'h).toNat < 128) (w : World) : Calls Tryz.prog 131 #[.string s, .int .i32 65533] w fun e w' => e = .returned (.int .i64 (-1)) ∧ Below w.heap.size w w' := by
  go_enter Tryz.func131, Tryz.ntmps131
  go_wp2
  go_loopg [] s.size (fun gf wx => ∃ pos : Nat, wx.heap[w.heap.size]? = some (.stringIter s pos) ∧ Below w.heap.size w wx ∧ s.size ≤ pos + gf)
  case atStart => exact ⟨0, World.iter_heap w s 0, (Below.refl _ w).alloc (Nat.le_refl _) _, by omega⟩
  case round =>
    obtain ⟨pos, hit, hbw, hfu⟩ := hrel
    by_cases hps : pos < s.size
    · obtain ⟨g', rfl⟩ : ∃ g', gk = g' + 1 := ⟨gk - 1, by omega⟩
      have hnx : ∀ ty, (Instr.next (.pointer (some ⟨w.heap.size, 0, none⟩)) true ty).run Tryz.prog wr = _ := fun ty => Lib.run_next_ascii_at wr w.heap.size s pos ty hit hps (hs pos hps)
      have hit2 := Lib.iterAt_heap wr w.heap.size s pos (pos + 1) hit
      have hbw2 := Lib.below_iterAt hbw (k := w.heap.size) (Nat.le_refl _) s (pos + 1)
      obtain ⟨W, hWd⟩ : ∃ W, wr.iterAt w.heap.size s (pos + 1) = W := ⟨_, rfl⟩
      rw [hWd] at hnx hit2 hbw2
      have hR : (s[pos]'hps).toNat < 128 := hs pos hps
      obtain ⟨R, hR'⟩ : ∃ R, (s[pos]'hps).toNat = R := ⟨_, rfl⟩
      rw [hR'] at hnx hR
      go_wp2
      go_roundg g'
      case measure => omega
      case rel => exact ⟨pos + 1, hit2, hbw2, by omega⟩
    · have hnx : ∀ ty, (Instr.next (.pointer (some ⟨w.heap.size, 0, none⟩)) true ty).run Tryz.prog wr = _ := fun ty => Lib.run_next_end_at wr w.heap.size s pos ty hit hps
      go_wp2
      go_ret
      exact ⟨rfl, hbw⟩
theorem enc_big {r : Int} (h1 : 128 ≤ r) (h3 : Lib.validRune r = true) : ∃ E : ByteArray, Utf8.encode r = E ∧ 2 ≤ E.size ∧ E.size ≤ 4 ∧ ∃ h : E.size - 1 < E.size, 128 ≤ (E[E.size - 1]'h).toNat := by
  have hv : Utf8.valid r = true := by
    simp only [Lib.validRune] at h3
    simp only [Utf8.valid]
    simp at h3 ⊢
    omega
  have hm : r ≤ 1114111 := by
    simp [Utf8.valid] at hv
    omega
  have key : ∀ n : Nat, (UInt8.ofNat (128 + n % 64)).toNat = 128 + n % 64 := by
    intro n
    rw [UInt8.toNat_ofNat']
    omega
  have h0 : ¬ r.toNat < 0x80 := by omega
  by_cases c1 : r.toNat < 0x800
  · refine ⟨_, by simp only [Utf8.encode, hv, if_true, h0, c1, if_false]; rfl, (by show 2 ≤ 2; decide), (by show 2 ≤ 4; decide), (by show 2 - 1 < 2; decide), by show 128 ≤ (UInt8.ofNat (128 + r.toNat % 64)).toNat; rw [key]; omega⟩
  · by_cases c2 : r.toNat < 0x10000
    · refine ⟨_, by simp only [Utf8.encode, hv, if_true, h0, c1, c2, if_false]; rfl, (by show 2 ≤ 3; decide), (by show 3 ≤ 4; decide), (by show 3 - 1 < 3; decide), by show 128 ≤ (UInt8.ofNat (128 + r.toNat % 64)).toNat; rw [key]; omega⟩
    · refine ⟨_, by simp only [Utf8.encode, hv, if_true, h0, c1, c2, if_false]; rfl, (by show 2 ≤ 4; decide), (by show 4 ≤ 4; decide), (by show 4 - 1 < 4; decide), by show 128 ≤ (UInt8.ofNat (128 + r.toNat % 64)).toNat; rw [key]; omega⟩
theorem p140 (l : List UInt8) (c : Int) : Pure Tryz.prog G 140 [T l, .imm (.int .u8 c)] (i64 (Lib.indexByte l c.toNat.toUInt8)) :=
  pure_of_same Tryz.func140 rfl (by decide +kernel) rfl imm2 fun w => Tryz.strings_IndexByte (B l) c w
theorem p141 (r : Int) : Pure Tryz.prog G 141 [.imm (.int .i32 r)] (bool (Lib.validRune r)) :=
  pure_of_same Tryz.func141 rfl (by decide +kernel) rfl imm1 fun w => Tryz.utf8_ValidRune r w
def ib : PSp := fun args K => match args with
  | [.imm (.string a), .imm (.int .u8 c)] => K (i64 (Lib.indexByte a.data.toList c.toNat.toUInt8)) | _ => False
theorem ask_ib {l : List UInt8} {c : Int} {K} : ask ib [T l, .imm (.int .u8 c)] K = K (i64 (Lib.indexByte l c.toNat.toUInt8)) := rfl
theorem told_ib : Told Tryz.prog G 140 ib := by
  intro args K hk
  unfold ib at hk
  split at hk
  · exact ⟨_, p140 _ _, hk⟩
  · exact hk.elim
def vr : PSp := fun args K => match args with
  | [.imm (.int .i32 c)] => splitB (Lib.validRune c) K | _ => False
theorem ask_vr {c : Int} {K} : ask vr [.imm (.int .i32 c)] K = splitB (Lib.validRune c) K := rfl
theorem told_vr : Told Tryz.prog G 141 vr := by
  intro args K hk
  unfold vr at hk
  split at hk
  · exact ⟨_, p141 _, splitB_of hk⟩
  · exact hk.elim
def c131 : ACode := (.seq (.reg false 0 [⟨(.some 4), none, (.q .mv), [(.c (.imm (.int .i64 0)))]⟩]) (.block 0 (.seq (.reg false 0 [⟨(.some 161), none, (.q .mv), [(.t 1)]⟩, ⟨(.some 162), none, (.q (.bin .leq 21)), [(.c (.imm (.int .i32 0))), (.t 161)]⟩, ⟨(.some 163), none, (.q .mv), [(.t 162)]⟩, ⟨(.some 164), (.some (163, true)), (.q .mv), [(.t 1)]⟩, ⟨(.some 165), (.some (163, true)), (.q (.bin .lss 21)), [(.t 164), (.c (.imm (.int .i32 128)))]⟩, ⟨(.some 166), none, (.q .pick), [(.t 163), (.t 165), (.c (.imm (.bool false)))]⟩, ⟨(.some 160), none, (.q .mv), [(.t 166)]⟩]) (.cond (.t 160) (.seq (.reg false 0 [⟨(.some 167), none, (.q .mv), [(.t 0)]⟩, ⟨(.some 168), none, (.q .mv), [(.t 1)]⟩, ⟨(.some 169), none, (.q (.convI .u8)), [(.t 168)]⟩, ⟨(.some 170), none, (.call true), [(.c (.fn (.func 140) [] [])), (.t 167), (.t 169)]⟩, ⟨(.some 4), none, (.q .mv), [(.t 170)]⟩]) .ret) (.seq (.reg false 0 [⟨(.some 172), none, (.q .mv), [(.t 1)]⟩, ⟨(.some 173), none, (.q (.bin .eql 21)), [(.t 172), (.c (.imm (.int .i32 65533)))]⟩, ⟨(.some 171), none, (.q .mv), [(.t 173)]⟩]) (.cond (.t 171) (.seq (.seq (.reg false 0 [⟨(.some 174), none, (.q .mv), [(.t 0)]⟩, ⟨(.some 175), none, (.q .stuck), []⟩]) (.block 9 (.loop (.seq (.reg false 0 [⟨(.some 176), none, (.q .stuck), []⟩, ⟨(.some 177), none, (.q (.ext 0)), [(.t 176)]⟩]) (.seq (.cond (.t 177) .skip (.exit 9)) (.block 10 (.seq (.reg false 0 [⟨(.some 178), none, (.q (.ext 1)), [(.t 176)]⟩, ⟨(.some 179), none, (.q (.ext 2)), [(.t 176)]⟩, ⟨(.some 5), none, (.q .mv), [(.t 178)]⟩, ⟨(.some 6), none, (.q .mv), [(.t 179)]⟩]) (.seq (.reg false 0 [⟨(.some 180), none, (.q .mv), [(.t 6)]⟩, ⟨(.some 181), none, (.q (.bin .eql 21)), [(.t 180), (.c (.imm (.int .i32 65533)))]⟩]) (.cond (.t 181) (.seq (.reg false 0 [⟨(.some 182), none, (.q .mv), [(.t 5)]⟩, ⟨(.some 4), none, (.q .mv), [(.t 182)]⟩]) .ret) .skip))))))))) (.seq (.reg false 0 [⟨(.some 4), none, (.q .mv), [(.c (.imm (.int .i64 (-1))))]⟩]) .ret)) (.seq (.reg false 0 [⟨(.some 184), none, (.q .mv), [(.t 1)]⟩, ⟨(.some 185), none, (.call true), [(.c (.fn (.func 141) [] [])), (.t 184)]⟩, ⟨(.some 186), none, (.q (.un .not)), [(.t 185)]⟩, ⟨(.some 183), none, (.q .mv), [(.t 186)]⟩]) (.cond (.t 183) (.seq (.reg false 0 [⟨(.some 4), none, (.q .mv), [(.c (.imm (.int .i64 (-1))))]⟩]) .ret) (.scope (.seq (.reg false 0 [⟨(.some 17), none, (.q .mv), [(.t 1)]⟩, ⟨(.some 18), none, (.q .runeStr), [(.t 17)]⟩, ⟨(.some 7), none, (.q .mv), [(.t 18)]⟩]) (.seq (.reg false 0 [⟨(.some 19), none, (.q .mv), [(.t 7)]⟩, ⟨(.some 20), none, (.q .lenS), [(.t 19)]⟩, ⟨(.some 21), none, (.q (.bin .sub 3)), [(.t 20), (.c (.imm (.int .i64 1)))]⟩, ⟨(.some 8), none, (.q .mv), [(.t 21)]⟩]) (.seq (.reg false 0 [⟨(.some 22), none, (.q .mv), [(.t 8)]⟩, ⟨(.some 9), none, (.q .mv), [(.t 22)]⟩]) (.seq (.reg false 0 [⟨(.some 10), none, (.q .mv), [(.c (.imm (.int .i64 0)))]⟩]) (.seq (.block 1 (.loop (.seq (.seq (.reg false 0 [⟨(.some 23), none, (.q .mv), [(.t 9)]⟩, ⟨(.some 24), none, (.q .mv), [(.t 0)]⟩, ⟨(.some 25), none, (.q .lenS), [(.t 24)]⟩, ⟨(.some 26), none, (.q (.bin .lss 3)), [(.t 23), (.t 25)]⟩]) (.cond (.t 26) .skip (.exit 1))) (.block 2 (.scope (.seq (.seq (.reg true 0 [⟨(.some 27), none, (.q .mv), [(.t 0)]⟩, ⟨(.some 28), none, (.q .mv), [(.t 9)]⟩, ⟨(.some 29), none, (.q .idxS), [(.t 27), (.t 28)]⟩, ⟨(.some 30), none, (.q .mv), [(.t 7)]⟩, ⟨(.some 31), none, (.q .mv), [(.t 8)]⟩, ⟨(.some 32), none, (.q .idxS), [(.t 30), (.t 31)]⟩, ⟨(.some 33), none, (.q (.bin .neq 5)), [(.t 29), (.t 32)]⟩]) (.cond (.t 33) (.seq (.reg true 0 [⟨(.some 34), none, (.q .mv), [(.t 0)]⟩, ⟨(.some 35), none, (.q .mv), [(.t 9)]⟩, ⟨(.some 36), none, (.q (.bin .add 3)), [(.t 35), (.c (.imm (.int .i64 1)))]⟩, ⟨(.some 37), none, (.q (.sliceS true false)), [(.t 34), (.t 36)]⟩, ⟨(.some 38), none, (.q .mv), [(.t 7)]⟩, ⟨(.some 39), none, (.q .mv), [(.t 8)]⟩, ⟨(.some 40), none, (.q .idxS), [(.t 38), (.t 39)]⟩, ⟨(.some 41), none, (.call true), [(.c (.fn (.func 140) [] [])), (.t 37), (.t 40)]⟩, ⟨(.some 11), none, (.q .mv), [(.t 41)]⟩]) (.seq (.seq (.reg false 0 [⟨(.some 42), none, (.q .mv), [(.t 11)]⟩, ⟨(.some 43), none, (.q (.bin .lss 3)), [(.t 42), (.c (.imm (.int .i64 0)))]⟩]) (.cond (.t 43) (.seq (.reg false 0 [⟨(.some 4), none, (.q .mv), [(.c (.imm (.int .i64 (-1))))]⟩]) .ret) .skip)) (.reg false 0 [⟨(.some 44), none, (.q .mv), [(.t 9)]⟩, ⟨(.some 45), none, (.q .mv), [(.t 11)]⟩, ⟨(.some 46), none, (.q (.bin .add 3)), [(.t 45), (.c (.imm (.int .i64 1)))]⟩, ⟨(.some 47), none, (.q (.bin .add 3)), [(.t 44), (.t 46)]⟩, ⟨(.some 9), none, (.q .mv), [(.t 47)]⟩]))) .skip)) (.seq (.seq (.reg false 0 [⟨(.some 12), none, (.q .mv), [(.c (.imm (.int .i64 1)))]⟩]) (.block 3 (.loop (.seq (.seq (.reg false 0 [⟨(.some 48), none, (.q .mv), [(.t 12)]⟩, ⟨(.some 49), none, (.q .mv), [(.t 7)]⟩, ⟨(.some 50), none, (.q .lenS), [(.t 49)]⟩, ⟨(.some 51), none, (.q (.bin .lss 3)), [(.t 48), (.t 50)]⟩]) (.cond (.t 51) .skip (.exit 3))) (.seq (.block 4 (.seq (.reg true 0 [⟨(.some 54), none, (.q .mv), [(.t 0)]⟩, ⟨(.some 55), none, (.q .mv), [(.t 9)]⟩, ⟨(.some 56), none, (.q .mv), [(.t 12)]⟩, ⟨(.some 57), none, (.q (.bin .sub 3)), [(.t 55), (.t 56)]⟩, ⟨(.some 58), none, (.q .idxS), [(.t 54), (.t 57)]⟩, ⟨(.some 59), none, (.q .mv), [(.t 7)]⟩, ⟨(.some 60), none, (.q .mv), [(.t 8)]⟩, ⟨(.some 61), none, (.q .mv), [(.t 12)]⟩, ⟨(.some 62), none, (.q (.bin .sub 3)), [(.t 60), (.t 61)]⟩, ⟨(.some 63), none, (.q .idxS), [(.t 59), (.t 62)]⟩, ⟨(.some 64), none, (.q (.bin .neq 5)), [(.t 58), (.t 63)]⟩]) (.cond (.t 64) (.goto 0) .skip))) (.reg false 0 [⟨(.some 52), none, (.q .mv), [(.t 12)]⟩, ⟨(.some 53), none, (.q (.bin .add 3)), [(.t 52), (.c (.imm (.int .i64 1)))]⟩, ⟨(.some 12), none, (.q .mv), [(.t 53)]⟩])))))) (.seq (.seq (.reg false 0 [⟨(.some 65), none, (.q .mv), [(.t 9)]⟩, ⟨(.some 66), none, (.q .mv), [(.t 8)]⟩, ⟨(.some 67), none, (.q (.bin .sub 3)), [(.t 65), (.t 66)]⟩, ⟨(.some 4), none, (.q .mv), [(.t 67)]⟩]) .ret) (.seq .skip (.seq (.reg false 0 [⟨(.some 68), none, (.q .mv), [(.t 10)]⟩, ⟨(.some 69), none, (.q (.bin .add 3)), [(.t 68), (.c (.imm (.int .i64 1)))]⟩, ⟨(.some 10), none, (.q .mv), [(.t 69)]⟩]) (.seq (.reg false 0 [⟨(.some 70), none, (.q .mv), [(.t 9)]⟩, ⟨(.some 71), none, (.q (.bin .add 3)), [(.t 70), (.c (.imm (.int .i64 1)))]⟩, ⟨(.some 9), none, (.q .mv), [(.t 71)]⟩]) (.seq (.reg false 0 [⟨(.some 72), none, (.q .mv), [(.c (.imm (.bool true)))]⟩, ⟨(.some 73), (.some (72, true)), (.q .mv), [(.t 10)]⟩, ⟨(.some 74), (.some (72, true)), (.q .mv), [(.t 9)]⟩, ⟨(.some 75), (.some (72, true)), (.call true), [(.c (.fn (.func 93) [] [])), (.t 74)]⟩, ⟨(.some 76), (.some (72, true)), (.q (.bin .gtr 3)), [(.t 73), (.t 75)]⟩, ⟨(.some 77), none, (.q .pick), [(.t 72), (.t 76), (.c (.imm (.bool false)))]⟩, ⟨(.some 78), none, (.q .mv), [(.t 77)]⟩, ⟨(.some 79), (.some (78, true)), (.q .mv), [(.t 9)]⟩, ⟨(.some 80), (.some (78, true)), (.q .mv), [(.t 0)]⟩, ⟨(.some 81), (.some (78, true)), (.q .lenS), [(.t 80)]⟩, ⟨(.some 82), (.some (78, true)), (.q (.bin .lss 3)), [(.t 79), (.t 81)]⟩, ⟨(.some 83), none, (.q .pick), [(.t 78), (.t 82), (.c (.imm (.bool false)))]⟩, ⟨(.some 84), none, (.q .mv), [(.t 83)]⟩, ⟨(.some 85), (.some (84, false)), (.q .mv), [(.c (.imm (.bool false)))]⟩, ⟨(.some 86), (.some (85, true)), (.q .mv), [(.t 10)]⟩, ⟨(.some 87), (.some (85, true)), (.q .mv), [(.t 9)]⟩, ⟨(.some 88), (.some (85, true)), (.q (.bin .shr 3)), [(.t 87), (.c (.imm (.int .u64 4)))]⟩, ⟨(.some 89), (.some (85, true)), (.q (.bin .add 3)), [(.c (.imm (.int .i64 4))), (.t 88)]⟩, ⟨(.some 90), (.some (85, true)), (.q (.bin .geq 3)), [(.t 86), (.t 89)]⟩, ⟨(.some 91), (.some (84, false)), (.q .pick), [(.t 85), (.t 90), (.c (.imm (.bool false)))]⟩, ⟨(.some 92), (.some (84, false)), (.q .mv), [(.t 91)]⟩, ⟨(.some 93), (.some (92, true)), (.q .mv), [(.t 9)]⟩, ⟨(.some 94), (.some (92, true)), (.q .mv), [(.t 0)]⟩, ⟨(.some 95), (.some (92, true)), (.q .lenS), [(.t 94)]⟩, ⟨(.some 96), (.some (92, true)), (.q (.bin .lss 3)), [(.t 93), (.t 95)]⟩, ⟨(.some 97), (.some (84, false)), (.q .pick), [(.t 92), (.t 96), (.c (.imm (.bool false)))]⟩, ⟨(.some 98), none, (.q .pick), [(.t 84), (.c (.imm (.bool true))), (.t 97)]⟩]) (.cond (.t 98) (.goto 1) .skip))))))))))))) (.seq (.seq (.reg false 0 [⟨(.some 4), none, (.q .mv), [(.c (.imm (.int .i64 (-1))))]⟩]) .ret) (.seq .skip (.seq (.cond (.c (.imm (.bool true))) (.seq (.reg false 0 [⟨(.some 99), none, (.q .mv), [(.t 0)]⟩, ⟨(.some 100), none, (.q .mv), [(.t 9)]⟩, ⟨(.some 101), none, (.q .mv), [(.t 8)]⟩, ⟨(.some 102), none, (.q (.bin .sub 3)), [(.t 100), (.t 101)]⟩, ⟨(.some 103), none, (.q (.sliceS true false)), [(.t 99), (.t 102)]⟩, ⟨(.some 104), none, (.q .mv), [(.t 1)]⟩, ⟨(.some 105), none, (.q .runeStr), [(.t 104)]⟩, ⟨(.some 106), none, (.call true), [(.c (.fn (.func 92) [] [])), (.t 103), (.t 105)]⟩, ⟨(.some 13), none, (.q .mv), [(.t 106)]⟩]) (.seq (.reg false 0 [⟨(.some 107), none, (.q .mv), [(.t 13)]⟩, ⟨(.some 108), none, (.q (.bin .geq 3)), [(.t 107), (.c (.imm (.int .i64 0)))]⟩]) (.cond (.t 108) (.seq (.reg false 0 [⟨(.some 109), none, (.q .mv), [(.t 9)]⟩, ⟨(.some 110), none, (.q .mv), [(.t 13)]⟩, ⟨(.some 111), none, (.q (.bin .add 3)), [(.t 109), (.t 110)]⟩, ⟨(.some 112), none, (.q .mv), [(.t 8)]⟩, ⟨(.some 113), none, (.q (.bin .sub 3)), [(.t 111), (.t 112)]⟩, ⟨(.some 4), none, (.q .mv), [(.t 113)]⟩]) .ret) .skip))) (.scope (.seq (.reg false 0 [⟨(.some 114), none, (.q .mv), [(.t 7)]⟩, ⟨(.some 115), none, (.q .mv), [(.t 8)]⟩, ⟨(.some 116), none, (.q .idxS), [(.t 114), (.t 115)]⟩, ⟨(.some 14), none, (.q .mv), [(.t 116)]⟩]) (.seq (.reg false 0 [⟨(.some 117), none, (.q .mv), [(.t 7)]⟩, ⟨(.some 118), none, (.q .mv), [(.t 8)]⟩, ⟨(.some 119), none, (.q (.bin .sub 3)), [(.t 118), (.c (.imm (.int .i64 1)))]⟩, ⟨(.some 120), none, (.q .idxS), [(.t 117), (.t 119)]⟩, ⟨(.some 15), none, (.q .mv), [(.t 120)]⟩]) (.seq .skip (.block 5 (.loop (.seq (.seq (.reg false 0 [⟨(.some 121), none, (.q .mv), [(.t 9)]⟩, ⟨(.some 122), none, (.q .mv), [(.t 0)]⟩, ⟨(.some 123), none, (.q .lenS), [(.t 122)]⟩, ⟨(.some 124), none, (.q (.bin .lss 3)), [(.t 121), (.t 123)]⟩]) (.cond (.t 124) .skip (.exit 5))) (.seq (.block 6 (.seq (.reg false 0 [⟨(.some 127), none, (.q .mv), [(.t 0)]⟩, ⟨(.some 128), none, (.q .mv), [(.t 9)]⟩, ⟨(.some 129), none, (.q .idxS), [(.t 127), (.t 128)]⟩, ⟨(.some 130), none, (.q .mv), [(.t 14)]⟩, ⟨(.some 131), none, (.q (.bin .eql 5)), [(.t 129), (.t 130)]⟩, ⟨(.some 132), none, (.q .mv), [(.t 131)]⟩, ⟨(.some 133), (.some (132, true)), (.q .mv), [(.t 0)]⟩, ⟨(.some 134), (.some (132, true)), (.q .mv), [(.t 9)]⟩, ⟨(.some 135), (.some (132, true)), (.q (.bin .sub 3)), [(.t 134), (.c (.imm (.int .i64 1)))]⟩, ⟨(.some 136), (.some (132, true)), (.q .idxS), [(.t 133), (.t 135)]⟩, ⟨(.some 137), (.some (132, true)), (.q .mv), [(.t 15)]⟩, ⟨(.some 138), (.some (132, true)), (.q (.bin .eql 5)), [(.t 136), (.t 137)]⟩, ⟨(.some 139), none, (.q .pick), [(.t 132), (.t 138), (.c (.imm (.bool false)))]⟩]) (.cond (.t 139) (.seq (.seq (.reg false 0 [⟨(.some 16), none, (.q .mv), [(.c (.imm (.int .i64 2)))]⟩]) (.block 7 (.loop (.seq (.seq (.reg false 0 [⟨(.some 140), none, (.q .mv), [(.t 16)]⟩, ⟨(.some 141), none, (.q .mv), [(.t 7)]⟩, ⟨(.some 142), none, (.q .lenS), [(.t 141)]⟩, ⟨(.some 143), none, (.q (.bin .lss 3)), [(.t 140), (.t 142)]⟩]) (.cond (.t 143) .skip (.exit 7))) (.seq (.block 8 (.seq (.reg true 0 [⟨(.some 146), none, (.q .mv), [(.t 0)]⟩, ⟨(.some 147), none, (.q .mv), [(.t 9)]⟩, ⟨(.some 148), none, (.q .mv), [(.t 16)]⟩, ⟨(.some 149), none, (.q (.bin .sub 3)), [(.t 147), (.t 148)]⟩, ⟨(.some 150), none, (.q .idxS), [(.t 146), (.t 149)]⟩, ⟨(.some 151), none, (.q .mv), [(.t 7)]⟩, ⟨(.some 152), none, (.q .mv), [(.t 8)]⟩, ⟨(.some 153), none, (.q .mv), [(.t 16)]⟩, ⟨(.some 154), none, (.q (.bin .sub 3)), [(.t 152), (.t 153)]⟩, ⟨(.some 155), none, (.q .idxS), [(.t 151), (.t 154)]⟩, ⟨(.some 156), none, (.q (.bin .neq 5)), [(.t 150), (.t 155)]⟩]) (.cond (.t 156) (.exit 6) .skip))) (.reg false 0 [⟨(.some 144), none, (.q .mv), [(.t 16)]⟩, ⟨(.some 145), none, (.q (.bin .add 3)), [(.t 144), (.c (.imm (.int .i64 1)))]⟩, ⟨(.some 16), none, (.q .mv), [(.t 145)]⟩])))))) (.seq (.reg false 0 [⟨(.some 157), none, (.q .mv), [(.t 9)]⟩, ⟨(.some 158), none, (.q .mv), [(.t 8)]⟩, ⟨(.some 159), none, (.q (.bin .sub 3)), [(.t 157), (.t 158)]⟩, ⟨(.some 4), none, (.q .mv), [(.t 159)]⟩]) .ret)) .skip))) (.reg false 0 [⟨(.some 125), none, (.q .mv), [(.t 9)]⟩, ⟨(.some 126), none, (.q (.bin .add 3)), [(.t 125), (.c (.imm (.int .i64 1)))]⟩, ⟨(.some 9), none, (.q .mv), [(.t 126)]⟩])))))))))) (.seq (.reg false 0 [⟨(.some 4), none, (.q .mv), [(.c (.imm (.int .i64 (-1))))]⟩]) .ret))))))))))))))))))
theorem fn131 : IsFn Tryz.prog 131 [] c131 [4] 187 := ⟨_, _, Tryz.func131, rfl, by decide +kernel, by kernel_rfl, rfl, rfl⟩
theorem p131 (l : List UInt8) (r : Int) (hl : ∀ b ∈ l, b.toNat < 128) (hl4 : 4 ≤ l.length) (hl5 : l.length ≤ 1000) (h1 : 128 ≤ r) (h2 : r ≠ 65533) : Pure Tryz.prog G 131 [T l, .imm (.int .i32 r)] (i64 (-1)) := by
  refine pure_of_code' (S := sp [(140, ib), (141, vr)] []) hm hG (sp_holds (.cons told_ib (.cons told_vr .nil)) .nil) fn131 ([T l, .imm (.int .i32 r), .junk, .junk, .junk, .junk, .junk, .junk, .junk, .junk, .junk, .junk, .junk, .junk, .junk, .junk, .junk, .junk, .junk, .junk, .junk, .junk, .junk, .junk, .junk, .junk, .junk, .junk, .junk, .junk, .junk, .junk, .junk, .junk, .junk, .junk, .junk, .junk, .junk, .junk, .junk, .junk, .junk, .junk, .junk, .junk, .junk, .junk, .junk, .junk, .junk, .junk, .junk, .junk, .junk, .junk, .junk, .junk, .junk, .junk, .junk, .junk, .junk, .junk, .junk, .junk, .junk, .junk, .junk, .junk, .junk, .junk, .junk, .junk, .junk, .junk, .junk, .junk, .junk, .junk, .junk, .junk, .junk, .junk, .junk, .junk, .junk, .junk, .junk, .junk, .junk, .junk, .junk, .junk, .junk, .junk, .junk, .junk, .junk, .junk, .junk, .junk, .junk, .junk, .junk, .junk, .junk, .junk, .junk, .junk, .junk, .junk, .junk, .junk, .junk, .junk, .junk, .junk, .junk, .junk, .junk, .junk, .junk, .junk, .junk, .junk, .junk, .junk, .junk, .junk, .junk, .junk, .junk, .junk, .junk, .junk, .junk, .junk, .junk, .junk, .junk, .junk, .junk, .junk, .junk, .junk, .junk, .junk, .junk, .junk, .junk, .junk, .junk, .junk, .junk, .junk, .junk, .junk, .junk, .junk, .junk, .junk, .junk, .junk, .junk, .junk, .junk, .junk, .junk, .junk, .junk, .junk, .junk, .junk, .junk, .junk, .junk, .junk, .junk, .junk, .junk, .junk, .junk, .junk, .junk, .junk, .junk]) rfl (by simp [lows, AV.low]) (by simp [AV.low]) ?_
  have e1 : (r < 128) = False := by simp; omega
  have e2 : (0 ≤ r) = True := by simp; omega
  have e3 : (r = 65533) = False := by simp [h2]
  simp (maxSteps := 2000000) -implicitDefEqProofs only [c131, ↓RP0, ↓RP1, ↓RP2, ↓RP3, RV, RW, ↓reduceIte, Nat.reduceAdd, Nat.reduceSub, Nat.reduceMul, Nat.reduceLeDiff, Nat.reduceEqDiff, Int.reduceLT, Int.reduceLE, Int.reduceEq, Int.reduceNe, Int.reduceAdd, Int.reduceSub, Int.reduceMul, Int.reduceNeg, Int.reduceToNat, reduceCtorEq, ↓ask_ib, ↓ask_vr, e1, e2, e3]
  intro hv
  obtain ⟨E, hE, hE2, hE4, hE1, hEb⟩ := enc_big h1 hv
  obtain ⟨m, hm'⟩ : ∃ m : Nat, E.size = m + 1 := ⟨E.size - 1, by omega⟩
  obtain ⟨EL, hEL⟩ : ∃ EL : List UInt8, EL = E.data.toList := ⟨_, rfl⟩
  have hELl : EL.length = m + 1 := by rw [hEL]; simpa using hm'
  rw [hE, ← hEL]
  have hml : m < l.length := by omega
  have em : ((EL.length : Nat) : Int) - 1 = (m : Int) := by omega
  rw [em]
  have hbm : (l[m]'hml).toNat < 128 := hl _ (List.getElem_mem hml)
  have hEm : ∃ h : m < EL.length, 128 ≤ (EL[m]'h).toNat := by
    refine ⟨by omega, ?_⟩
    have : E.size - 1 = m := by omega
    simp only [this] at hEb
    subst hEL
    exact hEb
  obtain ⟨hme, hEm⟩ := hEm
  have a1 : at' l m = ((l[m]'hml).toNat : Int) := by rw [at'_nat, List.getD_eq_getElem?_getD, List.getElem?_eq_getElem hml]; rfl
  have a2 : at' EL m = ((EL[m]'hme).toNat : Int) := by rw [at'_nat, List.getD_eq_getElem?_getD, List.getElem?_eq_getElem hme]; rfl
  have hne : (at' l m = at' EL m) = False := by simp only [a1, a2, eq_iff_iff, iff_false]; omega
  have hix : Lib.indexByte ((l.take l.length).drop ((m : Int) + 1).toNat) (at' EL m).toNat.toUInt8 = -1 := by
    refine indexByte_not fun j hj => ?_
    rw [List.take_length] at hj
    rw [List.getElem?_drop] at hj
    have := hl _ (List.mem_of_getElem? hj)
    rw [a2] at this
    simp at this
    omega
  refine ⟨⟨by omega, by omega⟩, ?_⟩
  refine loopB (X := Unit) (st := fun _ => [T l, .imm (.int .i32 r), .junk, .junk, .junk, .junk, .junk, T EL, i64 m, i64 m, .junk, .junk, .junk, .junk, .junk, .junk, .junk, .junk, .junk, .junk, .junk, .junk, .junk, .junk, .junk, .junk, .junk, .junk, .junk, .junk, .junk, .junk, .junk, .junk, .junk, .junk, .junk, .junk, .junk, .junk, .junk, .junk, .junk, .junk, .junk, .junk, .junk, .junk, .junk, .junk, .junk, .junk, .junk, .junk, .junk, .junk, .junk, .junk, .junk, .junk, .junk, .junk, .junk, .junk, .junk, .junk, .junk, .junk, .junk, .junk, .junk, .junk, .junk, .junk, .junk, .junk, .junk, .junk, .junk, .junk, .junk, .junk, .junk, .junk, .junk, .junk, .junk, .junk, .junk, .junk, .junk, .junk, .junk, .junk, .junk, .junk, .junk, .junk, .junk, .junk, .junk, .junk, .junk, .junk, .junk, .junk, .junk, .junk, .junk, .junk, .junk, .junk, .junk, .junk, .junk, .junk, .junk, .junk, .junk, .junk, .junk, .junk, .junk, .junk, .junk, .junk, .junk, .junk, .junk, .junk, .junk, .junk, .junk, .junk, .junk, .junk, .junk, .junk, .junk, .junk, .junk, .junk, .junk, .junk, .junk, .junk, .junk, .junk, .junk, .junk, .junk, .junk, .junk, .junk, .junk, .junk, .junk, .junk, .junk, .junk, .junk, .junk, .junk, .junk, .junk, .junk, .junk, .junk, .junk, .junk, .junk, .junk, .junk, .junk, .junk, .junk, .junk, .junk, .junk, .junk, .junk, .junk, .junk, .junk, .junk, .junk, .junk]) (hp := fun _ => []) (I := fun _ => True) (m := fun _ => 0) () trivial ?_ ?_
  · refine weak_nil ?_; simp [WeakL, AV.low, lows]
  · intro _ _
    have hlt : ((m : Int) < (l.length : Int)) = True := by simp; omega
    simp (maxSteps := 2000000) -implicitDefEqProofs only [↓RP0, ↓RP1, ↓RP2, ↓RP3, RV, RW, ↓reduceIte, Nat.reduceAdd, Nat.reduceSub, Nat.reduceMul, Nat.reduceLeDiff, Nat.reduceEqDiff, Int.reduceLT, Int.reduceLE, Int.reduceEq, Int.reduceNe, Int.reduceAdd, Int.reduceSub, Int.reduceMul, Int.reduceNeg, Int.reduceToNat, reduceCtorEq, ↓ask_ib, ↓ask_vr, hlt, hne, hix]
    simp only [In64]
    omega
end Go.AL.Path
