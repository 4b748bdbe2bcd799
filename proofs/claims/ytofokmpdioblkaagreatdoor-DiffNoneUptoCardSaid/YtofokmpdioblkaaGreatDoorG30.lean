/- Constants. -/
import Derived.Test.YtofokmpdioblkaaGreatDoorG26
import Derived.Test.YtofokmpdioblkaaGreatDoorG29
set_option linter.unusedSimpArgs false
set_option linter.unusedVariables false
set_option maxRecDepth 100000
namespace Go.AL.Path
open Go Go.RowKit Go.Proofs Go.AL
def kL : List Wd := [1116352408, 1899447441, 3049323471, 3921009573, 961987163, 1508970993, 2453635748, 2870763221, 3624381080, 310598401, 607225278, 1426881987, 1925078388, 2162078206, 2614888103, 3248222580, 3835390401, 4022224774, 264347078, 604807628, 770255983, 1249150122, 1555081692, 1996064986, 2554220882, 2821834349, 2952996808, 3210313671, 3336571891, 3584528711, 113926993, 338241895, 666307205, 773529912, 1294757372, 1396182291, 1695183700, 1986661051, 2177026350, 2456956037, 2730485921, 2820302411, 3259730800, 3345764771, 3516065817, 3600352804, 4094571909, 275423344, 430227734, 506948616, 659060556, 883997877, 958139571, 1322822218, 1537002063, 1747873779, 1955562222, 2024104815, 2227730452, 2361852424, 2428436474, 2756734187, 3204031479, 3329325298]
def firstL : List Wd := [1779033703, 3144134277, 1013904242, 2773480762, 1359893119, 2600822924, 528734635, 1541459225]
def kW (i : Nat) : Wd := kL.getD i 0
theorem kL_get {i : Nat} (h : i < 64) : (kL.map w32)[i]? = some (w32 (kW i)) := by
  have hl : kL.length = 64 := rfl
  unfold kW
  rw [List.getElem?_map, List.getD_eq_getElem?_getD, List.getElem?_eq_getElem (by omega)]; rfl
theorem kL_len : (kL.map w32).length = 64 := rfl
theorem kL_strip : (kL.map w32).map AV.strip1 = kL.map w32 := rfl
theorem kL_take : (kL.map w32).take 64 = kL.map w32 := rfl
theorem fill97 : fillCells [(.imm (.int .u32 0)), (.imm (.int .u32 0)), (.imm (.int .u32 0)), (.imm (.int .u32 0)), (.imm (.int .u32 0)), (.imm (.int .u32 0)), (.imm (.int .u32 0)), (.imm (.int .u32 0)), (.imm (.int .u32 0)), (.imm (.int .u32 0)), (.imm (.int .u32 0)), (.imm (.int .u32 0)), (.imm (.int .u32 0)), (.imm (.int .u32 0)), (.imm (.int .u32 0)), (.imm (.int .u32 0)), (.imm (.int .u32 0)), (.imm (.int .u32 0)), (.imm (.int .u32 0)), (.imm (.int .u32 0)), (.imm (.int .u32 0)), (.imm (.int .u32 0)), (.imm (.int .u32 0)), (.imm (.int .u32 0)), (.imm (.int .u32 0)), (.imm (.int .u32 0)), (.imm (.int .u32 0)), (.imm (.int .u32 0)), (.imm (.int .u32 0)), (.imm (.int .u32 0)), (.imm (.int .u32 0)), (.imm (.int .u32 0)), (.imm (.int .u32 0)), (.imm (.int .u32 0)), (.imm (.int .u32 0)), (.imm (.int .u32 0)), (.imm (.int .u32 0)), (.imm (.int .u32 0)), (.imm (.int .u32 0)), (.imm (.int .u32 0)), (.imm (.int .u32 0)), (.imm (.int .u32 0)), (.imm (.int .u32 0)), (.imm (.int .u32 0)), (.imm (.int .u32 0)), (.imm (.int .u32 0)), (.imm (.int .u32 0)), (.imm (.int .u32 0)), (.imm (.int .u32 0)), (.imm (.int .u32 0)), (.imm (.int .u32 0)), (.imm (.int .u32 0)), (.imm (.int .u32 0)), (.imm (.int .u32 0)), (.imm (.int .u32 0)), (.imm (.int .u32 0)), (.imm (.int .u32 0)), (.imm (.int .u32 0)), (.imm (.int .u32 0)), (.imm (.int .u32 0)), (.imm (.int .u32 0)), (.imm (.int .u32 0)), (.imm (.int .u32 0)), (.imm (.int .u32 0))] [(0, 1), (1, 1), (2, 1), (3, 1), (4, 1), (5, 1), (6, 1), (7, 1), (8, 1), (9, 1), (10, 1), (11, 1), (12, 1), (13, 1), (14, 1), (15, 1), (16, 1), (17, 1), (18, 1), (19, 1), (20, 1), (21, 1), (22, 1), (23, 1), (24, 1), (25, 1), (26, 1), (27, 1), (28, 1), (29, 1), (30, 1), (31, 1), (32, 1), (33, 1), (34, 1), (35, 1), (36, 1), (37, 1), (38, 1), (39, 1), (40, 1), (41, 1), (42, 1), (43, 1), (44, 1), (45, 1), (46, 1), (47, 1), (48, 1), (49, 1), (50, 1), (51, 1), (52, 1), (53, 1), (54, 1), (55, 1), (56, 1), (57, 1), (58, 1), (59, 1), (60, 1), (61, 1), (62, 1), (63, 1)] [(.imm (.int .u32 1116352408)), (.imm (.int .u32 1899447441)), (.imm (.int .u32 3049323471)), (.imm (.int .u32 3921009573)), (.imm (.int .u32 961987163)), (.imm (.int .u32 1508970993)), (.imm (.int .u32 2453635748)), (.imm (.int .u32 2870763221)), (.imm (.int .u32 3624381080)), (.imm (.int .u32 310598401)), (.imm (.int .u32 607225278)), (.imm (.int .u32 1426881987)), (.imm (.int .u32 1925078388)), (.imm (.int .u32 2162078206)), (.imm (.int .u32 2614888103)), (.imm (.int .u32 3248222580)), (.imm (.int .u32 3835390401)), (.imm (.int .u32 4022224774)), (.imm (.int .u32 264347078)), (.imm (.int .u32 604807628)), (.imm (.int .u32 770255983)), (.imm (.int .u32 1249150122)), (.imm (.int .u32 1555081692)), (.imm (.int .u32 1996064986)), (.imm (.int .u32 2554220882)), (.imm (.int .u32 2821834349)), (.imm (.int .u32 2952996808)), (.imm (.int .u32 3210313671)), (.imm (.int .u32 3336571891)), (.imm (.int .u32 3584528711)), (.imm (.int .u32 113926993)), (.imm (.int .u32 338241895)), (.imm (.int .u32 666307205)), (.imm (.int .u32 773529912)), (.imm (.int .u32 1294757372)), (.imm (.int .u32 1396182291)), (.imm (.int .u32 1695183700)), (.imm (.int .u32 1986661051)), (.imm (.int .u32 2177026350)), (.imm (.int .u32 2456956037)), (.imm (.int .u32 2730485921)), (.imm (.int .u32 2820302411)), (.imm (.int .u32 3259730800)), (.imm (.int .u32 3345764771)), (.imm (.int .u32 3516065817)), (.imm (.int .u32 3600352804)), (.imm (.int .u32 4094571909)), (.imm (.int .u32 275423344)), (.imm (.int .u32 430227734)), (.imm (.int .u32 506948616)), (.imm (.int .u32 659060556)), (.imm (.int .u32 883997877)), (.imm (.int .u32 958139571)), (.imm (.int .u32 1322822218)), (.imm (.int .u32 1537002063)), (.imm (.int .u32 1747873779)), (.imm (.int .u32 1955562222)), (.imm (.int .u32 2024104815)), (.imm (.int .u32 2227730452)), (.imm (.int .u32 2361852424)), (.imm (.int .u32 2428436474)), (.imm (.int .u32 2756734187)), (.imm (.int .u32 3204031479)), (.imm (.int .u32 3329325298))] = some (kL.map w32) := by kernel_rfl
def c97 : ACode := (.seq (.reg false 0 [⟨(.some 2), none, (.q .mv), [(.c (.imm (.int .u32 0)))]⟩]) (.seq (.seq (.reg false 0 [⟨(.some 4), none, (.q .mv), [(.t 0)]⟩, ⟨(.some 5), none, (.q (.bin .lss 3)), [(.t 4), (.c (.imm (.int .i64 0)))]⟩, ⟨(.some 6), none, (.q .mv), [(.t 5)]⟩, ⟨(.some 7), (.some (6, false)), (.q .mv), [(.t 0)]⟩, ⟨(.some 8), (.some (6, false)), (.q (.bin .geq 3)), [(.t 7), (.c (.imm (.int .i64 64)))]⟩, ⟨(.some 9), none, (.q .pick), [(.t 6), (.c (.imm (.bool true))), (.t 8)]⟩]) (.cond (.t 9) (.seq (.reg false 0 [⟨(.some 2), none, (.q .mv), [(.c (.imm (.int .u32 0)))]⟩]) .ret) .skip)) (.seq (.reg false 1 [⟨(.some 10), none, (.q (.build [(.imm (.int .u32 0)), (.imm (.int .u32 0)), (.imm (.int .u32 0)), (.imm (.int .u32 0)), (.imm (.int .u32 0)), (.imm (.int .u32 0)), (.imm (.int .u32 0)), (.imm (.int .u32 0)), (.imm (.int .u32 0)), (.imm (.int .u32 0)), (.imm (.int .u32 0)), (.imm (.int .u32 0)), (.imm (.int .u32 0)), (.imm (.int .u32 0)), (.imm (.int .u32 0)), (.imm (.int .u32 0)), (.imm (.int .u32 0)), (.imm (.int .u32 0)), (.imm (.int .u32 0)), (.imm (.int .u32 0)), (.imm (.int .u32 0)), (.imm (.int .u32 0)), (.imm (.int .u32 0)), (.imm (.int .u32 0)), (.imm (.int .u32 0)), (.imm (.int .u32 0)), (.imm (.int .u32 0)), (.imm (.int .u32 0)), (.imm (.int .u32 0)), (.imm (.int .u32 0)), (.imm (.int .u32 0)), (.imm (.int .u32 0)), (.imm (.int .u32 0)), (.imm (.int .u32 0)), (.imm (.int .u32 0)), (.imm (.int .u32 0)), (.imm (.int .u32 0)), (.imm (.int .u32 0)), (.imm (.int .u32 0)), (.imm (.int .u32 0)), (.imm (.int .u32 0)), (.imm (.int .u32 0)), (.imm (.int .u32 0)), (.imm (.int .u32 0)), (.imm (.int .u32 0)), (.imm (.int .u32 0)), (.imm (.int .u32 0)), (.imm (.int .u32 0)), (.imm (.int .u32 0)), (.imm (.int .u32 0)), (.imm (.int .u32 0)), (.imm (.int .u32 0)), (.imm (.int .u32 0)), (.imm (.int .u32 0)), (.imm (.int .u32 0)), (.imm (.int .u32 0)), (.imm (.int .u32 0)), (.imm (.int .u32 0)), (.imm (.int .u32 0)), (.imm (.int .u32 0)), (.imm (.int .u32 0)), (.imm (.int .u32 0)), (.imm (.int .u32 0)), (.imm (.int .u32 0))] [(0, 1), (1, 1), (2, 1), (3, 1), (4, 1), (5, 1), (6, 1), (7, 1), (8, 1), (9, 1), (10, 1), (11, 1), (12, 1), (13, 1), (14, 1), (15, 1), (16, 1), (17, 1), (18, 1), (19, 1), (20, 1), (21, 1), (22, 1), (23, 1), (24, 1), (25, 1), (26, 1), (27, 1), (28, 1), (29, 1), (30, 1), (31, 1), (32, 1), (33, 1), (34, 1), (35, 1), (36, 1), (37, 1), (38, 1), (39, 1), (40, 1), (41, 1), (42, 1), (43, 1), (44, 1), (45, 1), (46, 1), (47, 1), (48, 1), (49, 1), (50, 1), (51, 1), (52, 1), (53, 1), (54, 1), (55, 1), (56, 1), (57, 1), (58, 1), (59, 1), (60, 1), (61, 1), (62, 1), (63, 1)])), [(.c (.imm (.int .u32 1116352408))), (.c (.imm (.int .u32 1899447441))), (.c (.imm (.int .u32 3049323471))), (.c (.imm (.int .u32 3921009573))), (.c (.imm (.int .u32 961987163))), (.c (.imm (.int .u32 1508970993))), (.c (.imm (.int .u32 2453635748))), (.c (.imm (.int .u32 2870763221))), (.c (.imm (.int .u32 3624381080))), (.c (.imm (.int .u32 310598401))), (.c (.imm (.int .u32 607225278))), (.c (.imm (.int .u32 1426881987))), (.c (.imm (.int .u32 1925078388))), (.c (.imm (.int .u32 2162078206))), (.c (.imm (.int .u32 2614888103))), (.c (.imm (.int .u32 3248222580))), (.c (.imm (.int .u32 3835390401))), (.c (.imm (.int .u32 4022224774))), (.c (.imm (.int .u32 264347078))), (.c (.imm (.int .u32 604807628))), (.c (.imm (.int .u32 770255983))), (.c (.imm (.int .u32 1249150122))), (.c (.imm (.int .u32 1555081692))), (.c (.imm (.int .u32 1996064986))), (.c (.imm (.int .u32 2554220882))), (.c (.imm (.int .u32 2821834349))), (.c (.imm (.int .u32 2952996808))), (.c (.imm (.int .u32 3210313671))), (.c (.imm (.int .u32 3336571891))), (.c (.imm (.int .u32 3584528711))), (.c (.imm (.int .u32 113926993))), (.c (.imm (.int .u32 338241895))), (.c (.imm (.int .u32 666307205))), (.c (.imm (.int .u32 773529912))), (.c (.imm (.int .u32 1294757372))), (.c (.imm (.int .u32 1396182291))), (.c (.imm (.int .u32 1695183700))), (.c (.imm (.int .u32 1986661051))), (.c (.imm (.int .u32 2177026350))), (.c (.imm (.int .u32 2456956037))), (.c (.imm (.int .u32 2730485921))), (.c (.imm (.int .u32 2820302411))), (.c (.imm (.int .u32 3259730800))), (.c (.imm (.int .u32 3345764771))), (.c (.imm (.int .u32 3516065817))), (.c (.imm (.int .u32 3600352804))), (.c (.imm (.int .u32 4094571909))), (.c (.imm (.int .u32 275423344))), (.c (.imm (.int .u32 430227734))), (.c (.imm (.int .u32 506948616))), (.c (.imm (.int .u32 659060556))), (.c (.imm (.int .u32 883997877))), (.c (.imm (.int .u32 958139571))), (.c (.imm (.int .u32 1322822218))), (.c (.imm (.int .u32 1537002063))), (.c (.imm (.int .u32 1747873779))), (.c (.imm (.int .u32 1955562222))), (.c (.imm (.int .u32 2024104815))), (.c (.imm (.int .u32 2227730452))), (.c (.imm (.int .u32 2361852424))), (.c (.imm (.int .u32 2428436474))), (.c (.imm (.int .u32 2756734187))), (.c (.imm (.int .u32 3204031479))), (.c (.imm (.int .u32 3329325298)))]⟩, ⟨(.some 3), none, (.m (.alloc [(.imm (.int .u32 0)), (.imm (.int .u32 0)), (.imm (.int .u32 0)), (.imm (.int .u32 0)), (.imm (.int .u32 0)), (.imm (.int .u32 0)), (.imm (.int .u32 0)), (.imm (.int .u32 0)), (.imm (.int .u32 0)), (.imm (.int .u32 0)), (.imm (.int .u32 0)), (.imm (.int .u32 0)), (.imm (.int .u32 0)), (.imm (.int .u32 0)), (.imm (.int .u32 0)), (.imm (.int .u32 0)), (.imm (.int .u32 0)), (.imm (.int .u32 0)), (.imm (.int .u32 0)), (.imm (.int .u32 0)), (.imm (.int .u32 0)), (.imm (.int .u32 0)), (.imm (.int .u32 0)), (.imm (.int .u32 0)), (.imm (.int .u32 0)), (.imm (.int .u32 0)), (.imm (.int .u32 0)), (.imm (.int .u32 0)), (.imm (.int .u32 0)), (.imm (.int .u32 0)), (.imm (.int .u32 0)), (.imm (.int .u32 0)), (.imm (.int .u32 0)), (.imm (.int .u32 0)), (.imm (.int .u32 0)), (.imm (.int .u32 0)), (.imm (.int .u32 0)), (.imm (.int .u32 0)), (.imm (.int .u32 0)), (.imm (.int .u32 0)), (.imm (.int .u32 0)), (.imm (.int .u32 0)), (.imm (.int .u32 0)), (.imm (.int .u32 0)), (.imm (.int .u32 0)), (.imm (.int .u32 0)), (.imm (.int .u32 0)), (.imm (.int .u32 0)), (.imm (.int .u32 0)), (.imm (.int .u32 0)), (.imm (.int .u32 0)), (.imm (.int .u32 0)), (.imm (.int .u32 0)), (.imm (.int .u32 0)), (.imm (.int .u32 0)), (.imm (.int .u32 0)), (.imm (.int .u32 0)), (.imm (.int .u32 0)), (.imm (.int .u32 0)), (.imm (.int .u32 0)), (.imm (.int .u32 0)), (.imm (.int .u32 0)), (.imm (.int .u32 0)), (.imm (.int .u32 0))] false) 0), []⟩, ⟨none, none, (.e (.store 64)), [(.t 3), (.t 10)]⟩]) (.seq (.reg false 0 [⟨(.some 11), none, (.q .mv), [(.t 0)]⟩, ⟨(.some 12), none, (.q (.iaddrA 64 1)), [(.t 3), (.t 11)]⟩, ⟨(.some 13), none, (.l .load1), [(.t 12)]⟩, ⟨(.some 2), none, (.q .mv), [(.t 13)]⟩]) .ret))))
theorem fn97 : IsFn Tryz.prog 97 [] c97 [2] 14 := ⟨_, _, Tryz.func97, rfl, by decide +kernel, by kernel_rfl, rfl, rfl⟩
set_option maxHeartbeats 4000000 in
theorem p97w (i : Nat) (hi : i < 64) : Pure Tryz.prog G 97 [i64 (i : Nat)] (w32 (kW i)) := by
  refine pure_of_code' (S := sp [] []) hm hG (sp_holds .nil .nil) fn97 (St 4 14 [i64 (i : Nat), .junk, .junk, .junk] []) (by kernel_rfl) (by simp [lows, AV.low]) (by simp [AV.low]) ?_
  have c1 : ((i : Int) < 0) = False := eq_false (by omega)
  have c2 : ((64 : Int) ≤ (i : Int)) = False := eq_false (by omega)
  have n64 : ((64 : Nat) : Int) = 64 := rfl
  have c3 : ((i : Int) < 64) = True := eq_true (by omega)
  have g := kL_get hi
  simp (maxSteps := 2000000) -implicitDefEqProofs only [c97, RS, RX, Nat.reduceLT, ↓RP0, ↓RP1, ↓RP2, ↓RP3, RV, RW, ↓reduceIte, Nat.reduceAdd, Nat.reduceSub, Nat.reduceMul, Nat.reduceLeDiff, Nat.reduceEqDiff, Int.reduceLT, Int.reduceLE, Int.reduceEq, Int.reduceNe, Int.reduceAdd, Int.reduceSub, Int.reduceMul, Int.reduceNeg, Int.reduceToNat, reduceCtorEq, ↓fill97, fill97, c1, c2, c3, n64, g, kL_len, kL_strip, kL_take, Nat.mul_one]
  show onSome ((kL.map w32)[i]?) _
  rw [g]; rfl
def c66 : ACode := (.seq (.reg false 1 [⟨(.some 0), none, (.m (.alloc [(.imm (.int .u32 0)), (.imm (.int .u32 0)), (.imm (.int .u32 0)), (.imm (.int .u32 0)), (.imm (.int .u32 0)), (.imm (.int .u32 0)), (.imm (.int .u32 0)), (.imm (.int .u32 0)), (.imm (.int .u32 0)), (.imm (.int .u32 0)), (.imm (.int .u32 0)), (.imm (.int .u32 0)), (.imm (.int .u32 0)), (.imm (.int .u32 0)), (.imm (.int .u32 0)), (.imm (.int .u32 0)), (.imm (.int .u32 0)), (.imm (.int .u32 0)), (.imm (.int .u32 0)), (.imm (.int .u32 0)), (.imm (.int .u32 0)), (.imm (.int .u32 0)), (.imm (.int .u32 0)), (.imm (.int .u32 0)), (.imm (.int .u32 0)), (.imm (.int .u32 0)), (.imm (.int .u32 0)), (.imm (.int .u32 0)), (.imm (.int .u32 0)), (.imm (.int .u32 0)), (.imm (.int .u32 0)), (.imm (.int .u32 0)), (.imm (.int .u32 0)), (.imm (.int .u32 0)), (.imm (.int .u32 0)), (.imm (.int .u32 0)), (.imm (.int .u32 0)), (.imm (.int .u32 0)), (.imm (.int .u32 0)), (.imm (.int .u32 0)), (.imm (.int .u32 0)), (.imm (.int .u32 0)), (.imm (.int .u32 0)), (.imm (.int .u32 0)), (.imm (.int .u32 0)), (.imm (.int .u32 0)), (.imm (.int .u32 0)), (.imm (.int .u32 0)), (.imm (.int .u32 0)), (.imm (.int .u32 0)), (.imm (.int .u32 0)), (.imm (.int .u32 0)), (.imm (.int .u32 0)), (.imm (.int .u32 0)), (.imm (.int .u32 0)), (.imm (.int .u32 0)), (.imm (.int .u32 0)), (.imm (.int .u32 0)), (.imm (.int .u32 0)), (.imm (.int .u32 0)), (.imm (.int .u32 0)), (.imm (.int .u32 0)), (.imm (.int .u32 0)), (.imm (.int .u32 0))] false) 0), []⟩]) (.seq (.reg false 0 [⟨(.some 1), none, (.q (.build [(.imm (.int .u32 0)), (.imm (.int .u32 0)), (.imm (.int .u32 0)), (.imm (.int .u32 0)), (.imm (.int .u32 0)), (.imm (.int .u32 0)), (.imm (.int .u32 0)), (.imm (.int .u32 0)), (.imm (.int .u32 0)), (.imm (.int .u32 0)), (.imm (.int .u32 0)), (.imm (.int .u32 0)), (.imm (.int .u32 0)), (.imm (.int .u32 0)), (.imm (.int .u32 0)), (.imm (.int .u32 0)), (.imm (.int .u32 0)), (.imm (.int .u32 0)), (.imm (.int .u32 0)), (.imm (.int .u32 0)), (.imm (.int .u32 0)), (.imm (.int .u32 0)), (.imm (.int .u32 0)), (.imm (.int .u32 0)), (.imm (.int .u32 0)), (.imm (.int .u32 0)), (.imm (.int .u32 0)), (.imm (.int .u32 0)), (.imm (.int .u32 0)), (.imm (.int .u32 0)), (.imm (.int .u32 0)), (.imm (.int .u32 0)), (.imm (.int .u32 0)), (.imm (.int .u32 0)), (.imm (.int .u32 0)), (.imm (.int .u32 0)), (.imm (.int .u32 0)), (.imm (.int .u32 0)), (.imm (.int .u32 0)), (.imm (.int .u32 0)), (.imm (.int .u32 0)), (.imm (.int .u32 0)), (.imm (.int .u32 0)), (.imm (.int .u32 0)), (.imm (.int .u32 0)), (.imm (.int .u32 0)), (.imm (.int .u32 0)), (.imm (.int .u32 0)), (.imm (.int .u32 0)), (.imm (.int .u32 0)), (.imm (.int .u32 0)), (.imm (.int .u32 0)), (.imm (.int .u32 0)), (.imm (.int .u32 0)), (.imm (.int .u32 0)), (.imm (.int .u32 0)), (.imm (.int .u32 0)), (.imm (.int .u32 0)), (.imm (.int .u32 0)), (.imm (.int .u32 0)), (.imm (.int .u32 0)), (.imm (.int .u32 0)), (.imm (.int .u32 0)), (.imm (.int .u32 0))] [(0, 1), (1, 1), (2, 1), (3, 1), (4, 1), (5, 1), (6, 1), (7, 1), (8, 1), (9, 1), (10, 1), (11, 1), (12, 1), (13, 1), (14, 1), (15, 1), (16, 1), (17, 1), (18, 1), (19, 1), (20, 1), (21, 1), (22, 1), (23, 1), (24, 1), (25, 1), (26, 1), (27, 1), (28, 1), (29, 1), (30, 1), (31, 1), (32, 1), (33, 1), (34, 1), (35, 1), (36, 1), (37, 1), (38, 1), (39, 1), (40, 1), (41, 1), (42, 1), (43, 1), (44, 1), (45, 1), (46, 1), (47, 1), (48, 1), (49, 1), (50, 1), (51, 1), (52, 1), (53, 1), (54, 1), (55, 1), (56, 1), (57, 1), (58, 1), (59, 1), (60, 1), (61, 1), (62, 1), (63, 1)])), [(.c (.imm (.int .u32 1116352408))), (.c (.imm (.int .u32 1899447441))), (.c (.imm (.int .u32 3049323471))), (.c (.imm (.int .u32 3921009573))), (.c (.imm (.int .u32 961987163))), (.c (.imm (.int .u32 1508970993))), (.c (.imm (.int .u32 2453635748))), (.c (.imm (.int .u32 2870763221))), (.c (.imm (.int .u32 3624381080))), (.c (.imm (.int .u32 310598401))), (.c (.imm (.int .u32 607225278))), (.c (.imm (.int .u32 1426881987))), (.c (.imm (.int .u32 1925078388))), (.c (.imm (.int .u32 2162078206))), (.c (.imm (.int .u32 2614888103))), (.c (.imm (.int .u32 3248222580))), (.c (.imm (.int .u32 3835390401))), (.c (.imm (.int .u32 4022224774))), (.c (.imm (.int .u32 264347078))), (.c (.imm (.int .u32 604807628))), (.c (.imm (.int .u32 770255983))), (.c (.imm (.int .u32 1249150122))), (.c (.imm (.int .u32 1555081692))), (.c (.imm (.int .u32 1996064986))), (.c (.imm (.int .u32 2554220882))), (.c (.imm (.int .u32 2821834349))), (.c (.imm (.int .u32 2952996808))), (.c (.imm (.int .u32 3210313671))), (.c (.imm (.int .u32 3336571891))), (.c (.imm (.int .u32 3584528711))), (.c (.imm (.int .u32 113926993))), (.c (.imm (.int .u32 338241895))), (.c (.imm (.int .u32 666307205))), (.c (.imm (.int .u32 773529912))), (.c (.imm (.int .u32 1294757372))), (.c (.imm (.int .u32 1396182291))), (.c (.imm (.int .u32 1695183700))), (.c (.imm (.int .u32 1986661051))), (.c (.imm (.int .u32 2177026350))), (.c (.imm (.int .u32 2456956037))), (.c (.imm (.int .u32 2730485921))), (.c (.imm (.int .u32 2820302411))), (.c (.imm (.int .u32 3259730800))), (.c (.imm (.int .u32 3345764771))), (.c (.imm (.int .u32 3516065817))), (.c (.imm (.int .u32 3600352804))), (.c (.imm (.int .u32 4094571909))), (.c (.imm (.int .u32 275423344))), (.c (.imm (.int .u32 430227734))), (.c (.imm (.int .u32 506948616))), (.c (.imm (.int .u32 659060556))), (.c (.imm (.int .u32 883997877))), (.c (.imm (.int .u32 958139571))), (.c (.imm (.int .u32 1322822218))), (.c (.imm (.int .u32 1537002063))), (.c (.imm (.int .u32 1747873779))), (.c (.imm (.int .u32 1955562222))), (.c (.imm (.int .u32 2024104815))), (.c (.imm (.int .u32 2227730452))), (.c (.imm (.int .u32 2361852424))), (.c (.imm (.int .u32 2428436474))), (.c (.imm (.int .u32 2756734187))), (.c (.imm (.int .u32 3204031479))), (.c (.imm (.int .u32 3329325298)))]⟩, ⟨none, none, (.e (.store 64)), [(.t 0), (.t 1)]⟩]) .ret))
theorem fn66 : IsFnC Tryz.prog 66 [] c66 [(0, some (102, .loadA 64))] 2 := ⟨⟨_, _, Tryz.func66, rfl, by decide +kernel, by kernel_rfl, rfl, rfl⟩, by intro r hr; simp only [List.mem_cons, List.not_mem_nil, or_false] at hr; first | (subst hr; kernel_rfl) | (rcases hr with rfl | rfl <;> kernel_rfl)⟩
set_option maxHeartbeats 4000000 in
theorem p66w : Pure Tryz.prog G 66 [] (wsV kL) := by
  refine pure_of_codeC (S := sp [] []) hm hG (sp_holds .nil .nil) fn66 (St 1 2 [.junk] []) (by kernel_rfl) trivial (by simp [AV.low, lows_ws]) ?_
  simp (maxSteps := 2000000) -implicitDefEqProofs only [c66, RS, RX, Nat.reduceLT, ↓RP0, ↓RP1, ↓RP2, ↓RP3, RV, RW, ↓reduceIte, Nat.reduceAdd, Nat.reduceSub, Nat.reduceMul, Nat.reduceLeDiff, Nat.reduceEqDiff, Int.reduceLT, Int.reduceLE, Int.reduceEq, Int.reduceNe, Int.reduceAdd, Int.reduceSub, Int.reduceMul, Int.reduceNeg, Int.reduceToNat, reduceCtorEq]
  kernel_rfl
def c75 : ACode := (.seq (.reg false 1 [⟨(.some 0), none, (.m (.alloc [(.imm (.int .u32 0)), (.imm (.int .u32 0)), (.imm (.int .u32 0)), (.imm (.int .u32 0)), (.imm (.int .u32 0)), (.imm (.int .u32 0)), (.imm (.int .u32 0)), (.imm (.int .u32 0))] false) 0), []⟩]) (.seq (.reg false 0 [⟨(.some 1), none, (.q (.build [(.imm (.int .u32 0)), (.imm (.int .u32 0)), (.imm (.int .u32 0)), (.imm (.int .u32 0)), (.imm (.int .u32 0)), (.imm (.int .u32 0)), (.imm (.int .u32 0)), (.imm (.int .u32 0))] [(0, 1), (1, 1), (2, 1), (3, 1), (4, 1), (5, 1), (6, 1), (7, 1)])), [(.c (.imm (.int .u32 1779033703))), (.c (.imm (.int .u32 3144134277))), (.c (.imm (.int .u32 1013904242))), (.c (.imm (.int .u32 2773480762))), (.c (.imm (.int .u32 1359893119))), (.c (.imm (.int .u32 2600822924))), (.c (.imm (.int .u32 528734635))), (.c (.imm (.int .u32 1541459225)))]⟩, ⟨none, none, (.e (.store 8)), [(.t 0), (.t 1)]⟩]) .ret))
theorem fn75 : IsFnC Tryz.prog 75 [] c75 [(0, some (85, .loadA 8))] 2 := ⟨⟨_, _, Tryz.func75, rfl, by decide +kernel, by kernel_rfl, rfl, rfl⟩, by intro r hr; simp only [List.mem_cons, List.not_mem_nil, or_false] at hr; first | (subst hr; kernel_rfl) | (rcases hr with rfl | rfl <;> kernel_rfl)⟩
theorem p75w : Pure Tryz.prog G 75 [] (wsV firstL) := by
  refine pure_of_codeC (S := sp [] []) hm hG (sp_holds .nil .nil) fn75 (St 1 2 [.junk] []) (by kernel_rfl) trivial (by simp [AV.low, lows_ws]) ?_
  simp (maxSteps := 2000000) -implicitDefEqProofs only [c75, RS, RX, Nat.reduceLT, ↓RP0, ↓RP1, ↓RP2, ↓RP3, RV, RW, ↓reduceIte, Nat.reduceAdd, Nat.reduceSub, Nat.reduceMul, Nat.reduceLeDiff, Nat.reduceEqDiff, Int.reduceLT, Int.reduceLE, Int.reduceEq, Int.reduceNe, Int.reduceAdd, Int.reduceSub, Int.reduceMul, Int.reduceNeg, Int.reduceToNat, reduceCtorEq]
  kernel_rfl
end Go.AL.Path

/- The words of a block's rounds. -/
set_option linter.unusedSimpArgs false
set_option linter.unusedVariables false
set_option maxRecDepth 100000
namespace Go.AL.Path
open Go Go.RowKit Go.Proofs Go.AL
def w8 (b : UInt8) : Wd := BitVec.ofNat 32 b.toNat
theorem w8_nat (b : UInt8) : (w8 b).toNat = b.toNat := by
  have := b.toNat_lt
  unfold w8; rw [BitVec.toNat_ofNat]; exact Nat.mod_eq_of_lt (by omega)
theorem r_byte (b : UInt8) : IntKind.u32.wrap (b.toNat : Int) = ((w8 b).toNat : Int) := by
  rw [← w8_nat, wrap_toNat]
def be32 (b : List UInt8) (t : Nat) : Wd := (w8 (b.getD (4 * t) 0) <<< 24) ||| (w8 (b.getD (4 * t + 1) 0) <<< 16) ||| (w8 (b.getD (4 * t + 2) 0) <<< 8) ||| w8 (b.getD (4 * t + 3) 0)
def schedTo (b : List UInt8) : Nat → List Wd
  | 0 => []
  | t + 1 => schedTo b t ++ [if t < 16 then be32 b t else small1 ((schedTo b t).getD (t - 2) 0) + (schedTo b t).getD (t - 7) 0 + small0 ((schedTo b t).getD (t - 15) 0) + (schedTo b t).getD (t - 16) 0]
theorem schedTo_len (b : List UInt8) : ∀ t, (schedTo b t).length = t
  | 0 => rfl
  | t + 1 => by simp [schedTo, schedTo_len b t]
def schedW (b : List UInt8) : List Wd := schedTo b 64
/-- So many words, and zeros. -/
def padW (l : List Wd) (n : Nat) : List AV := l.map w32 ++ List.replicate (n - l.length) (w32 0)
theorem padW_len {l : List Wd} {n : Nat} (h : l.length ≤ n) : (padW l n).length = n := by simp [padW]; omega
theorem padW_get {l : List Wd} {n i : Nat} (h : i < l.length) : (padW l n)[i]? = some (w32 (l.getD i 0)) := by
  unfold padW
  rw [List.getElem?_append_left (by simpa using h), List.getElem?_map, List.getD_eq_getElem?_getD, List.getElem?_eq_getElem h]; rfl
theorem padW_set {l : List Wd} {n : Nat} (h : l.length < n) (x : Wd) : (padW l n).take l.length ++ [w32 x] ++ (padW l n).drop (l.length + 1) = padW (l ++ [x]) n := by
  unfold padW
  have h1 : (l.map w32).length = l.length := List.length_map ..
  have h2 : List.replicate (n - l.length) (w32 0) = w32 0 :: List.replicate (n - (l ++ [x]).length) (w32 0) := by
    rw [← List.replicate_succ]; congr 1; simp; omega
  rw [h2, List.take_append_of_le_length (by omega), List.take_of_length_le (by omega), List.drop_append, List.drop_of_length_le (by omega), h1]
  simp
theorem lows_padW (n : Nat) (l : List Wd) (m : Nat) : lows n (padW l m) := by
  unfold padW
  rw [lows_append']
  refine ⟨lows_ws n l, ?_⟩
  rw [lows_iff]
  intro a ha
  rw [List.eq_of_mem_replicate ha]; trivial
theorem padW_full {l : List Wd} {n : Nat} (h : l.length = n) : padW l n = l.map w32 := by subst h; simp [padW]
theorem bytes_at {b : List UInt8} {i : Nat} (h : 4 * i + 4 ≤ b.length) : List.drop (4 * i) (List.take (4 * i + 4) (b.map byteAV)) = [byteAV (b.getD (4 * i) 0), byteAV (b.getD (4 * i + 1) 0), byteAV (b.getD (4 * i + 2) 0), byteAV (b.getD (4 * i + 3) 0)] := by
  apply List.ext_getElem?
  intro j
  rw [List.getElem?_drop, List.getElem?_take]
  have g : ∀ k, k < b.length → (b.map byteAV)[k]? = some (byteAV (b.getD k 0)) := fun k hk => by
    rw [List.getElem?_map, List.getD_eq_getElem?_getD, List.getElem?_eq_getElem hk]; rfl
  match j with
  | 0 => rw [if_pos (by omega), g _ (by omega)]; rfl
  | 1 => rw [if_pos (by omega), g _ (by omega)]; rfl
  | 2 => rw [if_pos (by omega), g _ (by omega)]; rfl
  | 3 => rw [if_pos (by omega), g _ (by omega)]; rfl
  | j + 4 => rw [if_neg (by omega)]; rfl
theorem byteAV_eq (b : UInt8) : byteAV b = .imm (.int .u8 b.toNat) := rfl
theorem sl24 (x : Wd) : IntKind.u32.wrap ((x.toNat : Int) * 2 ^ 24) = ((x <<< 24).toNat : Int) := r_shl x 24
theorem sl16 (x : Wd) : IntKind.u32.wrap ((x.toNat : Int) * 2 ^ 16) = ((x <<< 16).toNat : Int) := r_shl x 16
theorem sl8 (x : Wd) : IntKind.u32.wrap ((x.toNat : Int) * 2 ^ 8) = ((x <<< 8).toNat : Int) := r_shl x 8
def bytesS (f : List UInt8 → List Wd) : PSp := fun args K => ∃ b : List UInt8, args = [.agg (b.map byteAV)] ∧ b.length = 64 ∧ K (wsV (f b))
theorem ask_bytesS {f} {b : List UInt8} (hb : b.length = 64) {K} : ask (bytesS f) [.agg (b.map byteAV)] K = K (wsV (f b)) := by
  show (∃ b' : List UInt8, _ ∧ b'.length = 64 ∧ K _) = _
  simp only [eq_iff_iff]
  constructor
  · rintro ⟨b', h1, h2, h3⟩
    injection h1 with h1 _
    injection h1 with h1
    rw [bytes_inj h1]; exact h3
  · exact fun h => ⟨b, rfl, hb, h⟩
theorem esem_slArrF {len : Nat} {a b : Int} {id off : Nat} {H : List AObj} {K : AV → List AObj → Prop} : esem (.slArr len true true) [.ptr id off, .imm (.int .i64 a), .imm (.int .i64 b)] H K = onBox H[id]? fun cs => off + len ≤ cs.length ∧ 0 ≤ a ∧ a ≤ b ∧ b ≤ len ∧ K (.sl 1 (((cs.drop off).take b.toNat).drop a.toNat) none) (H.set id (.fbox cs)) := rfl
def c95 : ACode := (.seq (.reg false 2 [⟨(.some 1), none, (.m .box 0), [(.t 0)]⟩, ⟨(.some 2), none, (.m (.alloc [(.imm (.int .u32 0)), (.imm (.int .u32 0)), (.imm (.int .u32 0)), (.imm (.int .u32 0)), (.imm (.int .u32 0)), (.imm (.int .u32 0)), (.imm (.int .u32 0)), (.imm (.int .u32 0)), (.imm (.int .u32 0)), (.imm (.int .u32 0)), (.imm (.int .u32 0)), (.imm (.int .u32 0)), (.imm (.int .u32 0)), (.imm (.int .u32 0)), (.imm (.int .u32 0)), (.imm (.int .u32 0)), (.imm (.int .u32 0)), (.imm (.int .u32 0)), (.imm (.int .u32 0)), (.imm (.int .u32 0)), (.imm (.int .u32 0)), (.imm (.int .u32 0)), (.imm (.int .u32 0)), (.imm (.int .u32 0)), (.imm (.int .u32 0)), (.imm (.int .u32 0)), (.imm (.int .u32 0)), (.imm (.int .u32 0)), (.imm (.int .u32 0)), (.imm (.int .u32 0)), (.imm (.int .u32 0)), (.imm (.int .u32 0)), (.imm (.int .u32 0)), (.imm (.int .u32 0)), (.imm (.int .u32 0)), (.imm (.int .u32 0)), (.imm (.int .u32 0)), (.imm (.int .u32 0)), (.imm (.int .u32 0)), (.imm (.int .u32 0)), (.imm (.int .u32 0)), (.imm (.int .u32 0)), (.imm (.int .u32 0)), (.imm (.int .u32 0)), (.imm (.int .u32 0)), (.imm (.int .u32 0)), (.imm (.int .u32 0)), (.imm (.int .u32 0)), (.imm (.int .u32 0)), (.imm (.int .u32 0)), (.imm (.int .u32 0)), (.imm (.int .u32 0)), (.imm (.int .u32 0)), (.imm (.int .u32 0)), (.imm (.int .u32 0)), (.imm (.int .u32 0)), (.imm (.int .u32 0)), (.imm (.int .u32 0)), (.imm (.int .u32 0)), (.imm (.int .u32 0)), (.imm (.int .u32 0)), (.imm (.int .u32 0)), (.imm (.int .u32 0)), (.imm (.int .u32 0))] false) 1), []⟩]) (.seq (.reg false 1 [⟨(.some 3), none, (.m (.alloc [(.imm (.int .u32 0)), (.imm (.int .u32 0)), (.imm (.int .u32 0)), (.imm (.int .u32 0)), (.imm (.int .u32 0)), (.imm (.int .u32 0)), (.imm (.int .u32 0)), (.imm (.int .u32 0)), (.imm (.int .u32 0)), (.imm (.int .u32 0)), (.imm (.int .u32 0)), (.imm (.int .u32 0)), (.imm (.int .u32 0)), (.imm (.int .u32 0)), (.imm (.int .u32 0)), (.imm (.int .u32 0)), (.imm (.int .u32 0)), (.imm (.int .u32 0)), (.imm (.int .u32 0)), (.imm (.int .u32 0)), (.imm (.int .u32 0)), (.imm (.int .u32 0)), (.imm (.int .u32 0)), (.imm (.int .u32 0)), (.imm (.int .u32 0)), (.imm (.int .u32 0)), (.imm (.int .u32 0)), (.imm (.int .u32 0)), (.imm (.int .u32 0)), (.imm (.int .u32 0)), (.imm (.int .u32 0)), (.imm (.int .u32 0)), (.imm (.int .u32 0)), (.imm (.int .u32 0)), (.imm (.int .u32 0)), (.imm (.int .u32 0)), (.imm (.int .u32 0)), (.imm (.int .u32 0)), (.imm (.int .u32 0)), (.imm (.int .u32 0)), (.imm (.int .u32 0)), (.imm (.int .u32 0)), (.imm (.int .u32 0)), (.imm (.int .u32 0)), (.imm (.int .u32 0)), (.imm (.int .u32 0)), (.imm (.int .u32 0)), (.imm (.int .u32 0)), (.imm (.int .u32 0)), (.imm (.int .u32 0)), (.imm (.int .u32 0)), (.imm (.int .u32 0)), (.imm (.int .u32 0)), (.imm (.int .u32 0)), (.imm (.int .u32 0)), (.imm (.int .u32 0)), (.imm (.int .u32 0)), (.imm (.int .u32 0)), (.imm (.int .u32 0)), (.imm (.int .u32 0)), (.imm (.int .u32 0)), (.imm (.int .u32 0)), (.imm (.int .u32 0)), (.imm (.int .u32 0))] false) 0), []⟩]) (.seq (.seq (.reg false 0 [⟨(.some 6), none, (.q .mv), [(.c (.imm (.int .i64 0)))]⟩]) (.block 0 (.loop (.seq (.reg false 0 [⟨(.some 7), none, (.q (.bin .lss 3)), [(.t 6), (.c (.imm (.int .i64 64)))]⟩]) (.seq (.cond (.t 7) .skip (.exit 0)) (.seq (.block 1 (.seq (.reg false 0 [⟨(.some 8), none, (.q .mv), [(.t 6)]⟩, ⟨(.some 4), none, (.q .mv), [(.t 8)]⟩]) (.seq (.seq (.reg false 0 [⟨(.some 9), none, (.q .mv), [(.t 4)]⟩, ⟨(.some 10), none, (.q (.bin .lss 3)), [(.t 9), (.c (.imm (.int .i64 16)))]⟩]) (.cond (.t 10) (.seq (.reg false 0 [⟨(.some 11), none, (.q .mv), [(.t 4)]⟩, ⟨(.some 12), none, (.q (.bin .mul 3)), [(.c (.imm (.int .i64 4))), (.t 11)]⟩, ⟨(.some 13), none, (.q .mv), [(.t 4)]⟩, ⟨(.some 14), none, (.q (.bin .mul 3)), [(.c (.imm (.int .i64 4))), (.t 13)]⟩, ⟨(.some 15), none, (.q (.bin .add 3)), [(.t 14), (.c (.imm (.int .i64 4)))]⟩, ⟨(.some 16), none, (.e (.slArr 64 true true)), [(.t 1), (.t 12), (.t 15)]⟩, ⟨(.some 5), none, (.q .mv), [(.t 16)]⟩]) (.seq (.reg true 0 [⟨(.some 17), none, (.q .mv), [(.t 4)]⟩, ⟨(.some 18), none, (.q .mv), [(.t 5)]⟩, ⟨(.some 19), none, (.q (.iaddrS 1)), [(.t 18), (.c (.imm (.int .i64 0)))]⟩, ⟨(.some 20), none, (.l .load1), [(.t 19)]⟩, ⟨(.some 21), none, (.q (.convI .u32)), [(.t 20)]⟩, ⟨(.some 22), none, (.q (.bin .shl 84)), [(.t 21), (.c (.imm (.int .u64 24)))]⟩, ⟨(.some 23), none, (.q .mv), [(.t 5)]⟩, ⟨(.some 24), none, (.q (.iaddrS 1)), [(.t 23), (.c (.imm (.int .i64 1)))]⟩, ⟨(.some 25), none, (.l .load1), [(.t 24)]⟩, ⟨(.some 26), none, (.q (.convI .u32)), [(.t 25)]⟩, ⟨(.some 27), none, (.q (.bin .shl 84)), [(.t 26), (.c (.imm (.int .u64 16)))]⟩, ⟨(.some 28), none, (.q (.bin .or 84)), [(.t 22), (.t 27)]⟩, ⟨(.some 29), none, (.q .mv), [(.t 5)]⟩, ⟨(.some 30), none, (.q (.iaddrS 1)), [(.t 29), (.c (.imm (.int .i64 2)))]⟩, ⟨(.some 31), none, (.l .load1), [(.t 30)]⟩, ⟨(.some 32), none, (.q (.convI .u32)), [(.t 31)]⟩, ⟨(.some 33), none, (.q (.bin .shl 84)), [(.t 32), (.c (.imm (.int .u64 8)))]⟩, ⟨(.some 34), none, (.q (.bin .or 84)), [(.t 28), (.t 33)]⟩, ⟨(.some 35), none, (.q .mv), [(.t 5)]⟩, ⟨(.some 36), none, (.q (.iaddrS 1)), [(.t 35), (.c (.imm (.int .i64 3)))]⟩, ⟨(.some 37), none, (.l .load1), [(.t 36)]⟩, ⟨(.some 38), none, (.q (.convI .u32)), [(.t 37)]⟩, ⟨(.some 39), none, (.q (.bin .or 84)), [(.t 34), (.t 38)]⟩, ⟨(.some 40), none, (.q (.iaddrA 64 1)), [(.t 3), (.t 17)]⟩, ⟨none, none, (.e (.store 1)), [(.t 40), (.t 39)]⟩]) (.exit 1))) .skip)) (.reg true 0 [⟨(.some 41), none, (.q .mv), [(.t 4)]⟩, ⟨(.some 42), none, (.q .mv), [(.t 4)]⟩, ⟨(.some 43), none, (.q (.bin .sub 3)), [(.t 42), (.c (.imm (.int .i64 2)))]⟩, ⟨(.some 44), none, (.q (.iaddrA 64 1)), [(.t 3), (.t 43)]⟩, ⟨(.some 45), none, (.l .load1), [(.t 44)]⟩, ⟨(.some 46), none, (.call false), [(.c (.fn (.func 111) [] [])), (.t 45)]⟩, ⟨(.some 47), none, (.q .mv), [(.t 4)]⟩, ⟨(.some 48), none, (.q (.bin .sub 3)), [(.t 47), (.c (.imm (.int .i64 7)))]⟩, ⟨(.some 49), none, (.q (.iaddrA 64 1)), [(.t 3), (.t 48)]⟩, ⟨(.some 50), none, (.l .load1), [(.t 49)]⟩, ⟨(.some 51), none, (.q (.bin .add 84)), [(.t 46), (.t 50)]⟩, ⟨(.some 52), none, (.q .mv), [(.t 4)]⟩, ⟨(.some 53), none, (.q (.bin .sub 3)), [(.t 52), (.c (.imm (.int .i64 15)))]⟩, ⟨(.some 54), none, (.q (.iaddrA 64 1)), [(.t 3), (.t 53)]⟩, ⟨(.some 55), none, (.l .load1), [(.t 54)]⟩, ⟨(.some 56), none, (.call false), [(.c (.fn (.func 112) [] [])), (.t 55)]⟩, ⟨(.some 57), none, (.q (.bin .add 84)), [(.t 51), (.t 56)]⟩, ⟨(.some 58), none, (.q .mv), [(.t 4)]⟩, ⟨(.some 59), none, (.q (.bin .sub 3)), [(.t 58), (.c (.imm (.int .i64 16)))]⟩, ⟨(.some 60), none, (.q (.iaddrA 64 1)), [(.t 3), (.t 59)]⟩, ⟨(.some 61), none, (.l .load1), [(.t 60)]⟩, ⟨(.some 62), none, (.q (.bin .add 84)), [(.t 57), (.t 61)]⟩, ⟨(.some 63), none, (.q (.iaddrA 64 1)), [(.t 3), (.t 41)]⟩, ⟨none, none, (.e (.store 1)), [(.t 63), (.t 62)]⟩])))) (.reg false 0 [⟨(.some 64), none, (.q (.bin .add 3)), [(.t 6), (.c (.imm (.int .i64 1)))]⟩, ⟨(.some 6), none, (.q .mv), [(.t 64)]⟩]))))))) (.seq (.reg false 0 [⟨(.some 65), none, (.l (.loadA 64)), [(.t 3)]⟩, ⟨none, none, (.e (.store 64)), [(.t 2), (.t 65)]⟩]) .ret))))
theorem fn95 : IsFnC Tryz.prog 95 [] c95 [(2, some (102, .loadA 64))] 66 := ⟨⟨_, _, Tryz.func95, rfl, by decide +kernel, by kernel_rfl, rfl, rfl⟩, by intro r hr; simp only [List.mem_cons, List.not_mem_nil, or_false] at hr; first | (subst hr; kernel_rfl) | (rcases hr with rfl | rfl <;> kernel_rfl)⟩
set_option maxHeartbeats 8000000 in
theorem p95w (b : List UInt8) (hb : b.length = 64) : Pure Tryz.prog G 95 [.agg (b.map byteAV)] (wsV (schedW b)) := by
  refine pure_of_codeC (S := sp [(111, wrd1 small1), (112, wrd1 small0)] []) hm hG (sp_holds (.cons (told_wrd1 p111w) (.cons (told_wrd1 p112w) .nil)) .nil) fn95
    (St 7 66 [.agg (b.map byteAV), .junk, .junk, .junk, .junk, .junk, .junk] []) (by kernel_rfl) (by simp [lows, AV.low, lows_bytes]) (by simp [AV.low, lows_ws]) ?_
  have n84 : (IntKind.u32 ≠ .i64) := by decide
  have n64 : ((64 : Nat) : Int) = 64 := rfl
  have bl := bytes_len b
  have bstrip : (b.map byteAV).map AV.strip1 = b.map byteAV := by simp [byteAV, AV.strip1]
  simp (maxSteps := 2000000) -implicitDefEqProofs only [c95, RS, RX, Nat.reduceLT, ↓RP0, ↓RP1, ↓RP2, ↓RP3, RV, RW, ↓reduceIte, Nat.reduceAdd, Nat.reduceSub, Nat.reduceMul, Nat.reduceLeDiff, Nat.reduceEqDiff, Int.reduceLT, Int.reduceLE, Int.reduceEq, Int.reduceNe, Int.reduceAdd, Int.reduceSub, Int.reduceMul, Int.reduceNeg, Int.reduceToNat, reduceCtorEq, bl, hb, bstrip]
  refine loopB (st := fun (i : Nat) => (St 7 66 [.agg (b.map byteAV), .ptr 0 0, .ptr 1 0, .ptr 2 0, .junk, .junk, i64 i] [])) (hp := fun i => [if i = 0 then .box (b.map byteAV) else .fbox (b.map byteAV), .box (padW [] 64), .box (padW (schedTo b i) 64)]) (I := fun i => i ≤ 64) (m := fun i => 64 - i) (0 : Nat) (Nat.zero_le _) ?_ ?_
  · refine weak_cutS 3 (by decide) (by kernel_rfl) ?_ ?_
    · simp [AObj.low, lows_bytes, lows_padW]
    · simp [WeakL, AV.low, lows, lows_bytes]
  · intro i hi
    have hl := schedTo_len b i
    have pl := padW_len (l := schedTo b i) (n := 64) (by omega)
    by_cases hlt : i < 64
    · have e3 : ((i : Int) < 64) = True := eq_true (by omega)
      have ib : In64 ((i : Int) + 1) := ⟨by omega, by omega⟩
      by_cases h16 : i < 16
      · have e4 : ((i : Int) < 16) = True := eq_true (by omega)
        have hs : schedTo b (i + 1) = schedTo b i ++ [be32 b i] := by rw [schedTo, if_pos h16]
        have hset := padW_set (l := schedTo b i) (n := 64) (by omega) (be32 b i)
        rw [hl] at hset
        have hsl := bytes_at (b := b) (i := i) (by omega)
        have c1 : (4 * (i : Int)).toNat = 4 * i := by omega
        have c2 : (4 * (i : Int) + 4).toNat = 4 * i + 4 := by omega
        have goOn : ∀ (ov : List (Nat × AV)) (X : List AObj) (x4 x5 : AV), Again 0 (fun (i : Nat) => (St 7 66 [.agg (b.map byteAV), .ptr 0 0, .ptr 1 0, .ptr 2 0, .junk, .junk, i64 i] [])) (fun i => [if i = 0 then .box (b.map byteAV) else .fbox (b.map byteAV), .box (padW [] 64), .box (padW (schedTo b i) 64)]) (fun i => i ≤ 64) (fun i => 64 - i) i
            (St 7 66 [.agg (b.map byteAV), .ptr 0 0, .ptr 1 0, .ptr 2 0, x4, x5, i64 ((i : Int) + 1)] ov) (.fbox (b.map byteAV) :: .box (padW [] 64) :: .box (padW (schedTo b i ++ [be32 b i]) 64) :: X) := by
          intro ov X x4 x5
          refine ⟨i + 1, by dsimp only; omega, by omega, ?_⟩
          dsimp only
          rw [hs, if_neg (by omega)]
          refine weak_cutS 3 (by decide) (by simp) ?_ ?_
          · simp [AObj.low, lows_bytes, lows_padW]
          · simp [WeakL, AV.low, lows, lows_bytes]
        have hbox : ∀ (F : List AV → Prop), onBox (some (if i = 0 then .box (b.map byteAV) else .fbox (b.map byteAV))) F = F (b.map byteAV) := fun F => by split <;> rfl
        have n4 : ((4 : Nat) : Int) = 4 := rfl
        have hbe : be32 b i = (w8 (b.getD (4 * i) 0) <<< 24) ||| (w8 (b.getD (4 * i + 1) 0) <<< 16) ||| (w8 (b.getD (4 * i + 2) 0) <<< 8) ||| w8 (b.getD (4 * i + 3) 0) := rfl
        rw [hbe] at hset
        simp (maxSteps := 2000000) -implicitDefEqProofs only [RS, RX, Nat.reduceLT, ↓RP0, ↓RP1, ↓RP2, ↓RP3, RV, RW, ↓reduceIte, Nat.reduceAdd, Nat.reduceSub, Nat.reduceMul, Nat.reduceLeDiff, Nat.reduceEqDiff, Int.reduceLT, Int.reduceLE, Int.reduceEq, Int.reduceNe, Int.reduceAdd, Int.reduceSub, Int.reduceMul, Int.reduceNeg, Int.reduceToNat, reduceCtorEq, ↓esem_slArrF, esem_slArrF, ↓hbox, hbox, e3, e4, n64, n4, c1, c2, hsl, bl, hb, List.getD_cons_zero, List.getD_cons_succ, byteAV_eq, r_byte, sl24, sl16, sl8, r_or, pl, hset, Nat.mul_one, show IntKind.u32.bits = 32 from rfl, show min (24 : Nat) 32 = 24 from rfl, show min (16 : Nat) 32 = 16 from rfl, show min (8 : Nat) 32 = 8 from rfl]
        refine ⟨⟨by omega, by omega⟩, ⟨by omega, by omega⟩, ⟨by omega, by omega⟩, by omega, by omega, by omega, by omega, ib, ?_⟩
        exact goOn _ [] _ _
      · have e4 : ((i : Int) < 16) = False := eq_false (by omega)
        have h0 : ¬ i = 0 := by omega
        rw [if_neg h0]
        have hs : schedTo b (i + 1) = schedTo b i ++ [small1 ((schedTo b i).getD (i - 2) 0) + (schedTo b i).getD (i - 7) 0 + small0 ((schedTo b i).getD (i - 15) 0) + (schedTo b i).getD (i - 16) 0] := by rw [schedTo, if_neg h16]
        have g2 := padW_get (l := schedTo b i) (n := 64) (i := i - 2) (by omega)
        have g7 := padW_get (l := schedTo b i) (n := 64) (i := i - 7) (by omega)
        have g15 := padW_get (l := schedTo b i) (n := 64) (i := i - 15) (by omega)
        have g16 := padW_get (l := schedTo b i) (n := 64) (i := i - 16) (by omega)
        have d2 : ((i : Int) - 2).toNat = i - 2 := by omega
        have d7 : ((i : Int) - 7).toNat = i - 7 := by omega
        have d15 : ((i : Int) - 15).toNat = i - 15 := by omega
        have d16 : ((i : Int) - 16).toNat = i - 16 := by omega
        have hset := padW_set (l := schedTo b i) (n := 64) (by omega) (small1 ((schedTo b i).getD (i - 2) 0) + (schedTo b i).getD (i - 7) 0 + small0 ((schedTo b i).getD (i - 15) 0) + (schedTo b i).getD (i - 16) 0)
        rw [hl] at hset
        generalize schedTo b i = S0 at *
        generalize S0.getD (i - 2) 0 = x2 at *
        generalize S0.getD (i - 7) 0 = x7 at *
        generalize S0.getD (i - 15) 0 = x15 at *
        generalize S0.getD (i - 16) 0 = x16 at *
        simp (maxSteps := 2000000) -implicitDefEqProofs only [RS, RX, Nat.reduceLT, ↓RP0, ↓RP1, ↓RP2, ↓RP3, RV, RW, ↓reduceIte, Nat.reduceAdd, Nat.reduceSub, Nat.reduceMul, Nat.reduceLeDiff, Nat.reduceEqDiff, Int.reduceLT, Int.reduceLE, Int.reduceEq, Int.reduceNe, Int.reduceAdd, Int.reduceSub, Int.reduceMul, Int.reduceNeg, Int.reduceToNat, reduceCtorEq, ↓ask_wrd1, ask_wrd1, e3, e4, n64, g2, g7, g15, g16, d2, d7, d15, d16, binB_addk n84, r_add, pl, hset, Nat.mul_one]
        refine ⟨⟨by omega, by omega⟩, by omega, by omega, ⟨by omega, by omega⟩, by omega, by omega, ⟨by omega, by omega⟩, by omega, by omega, ⟨by omega, by omega⟩, by omega, by omega, by omega, ib, i + 1, by dsimp only; omega, by omega, ?_⟩
        dsimp only
        rw [hs, if_neg (by omega)]
        refine weak_cutS 3 (by decide) (by simp) ?_ ?_
        · simp [AObj.low, lows_bytes, lows_padW]
        · simp [WeakL, AV.low, lows, lows_bytes]
    · obtain rfl : i = 64 := by omega
      have e3 : ((64 : Nat) : Int) = 64 := rfl
      rw [padW_full hl, if_neg (by decide)]
      simp (maxSteps := 2000000) -implicitDefEqProofs only [RS, RX, Nat.reduceLT, ↓RP0, ↓RP1, ↓RP2, ↓RP3, RV, RW, ↓reduceIte, Nat.reduceAdd, Nat.reduceSub, Nat.reduceMul, Nat.reduceLeDiff, Nat.reduceEqDiff, Int.reduceLT, Int.reduceLE, Int.reduceEq, Int.reduceNe, Int.reduceAdd, Int.reduceSub, Int.reduceMul, Int.reduceNeg, Int.reduceToNat, reduceCtorEq, n64, Int.lt_irrefl]
      have t1 : List.take 64 ((schedTo b 64).map w32) = (schedTo b 64).map w32 := List.take_of_length_le (by rw [ws_len, schedTo_len]; decide)
      have t2 : List.drop 64 (padW [] 64) = [] := List.drop_of_length_le (by rw [padW_len (by decide)]; decide)
      have t3 : ((schedTo b 64).map w32).map AV.strip1 = (schedTo b 64).map w32 := by simp [AV.strip1]
      rw [t1, t2, List.append_nil, t1, t3, ws_len, schedTo_len, padW_len (by decide)]
      exact ⟨by decide, rfl, by decide, by decide, rfl⟩
end Go.AL.Path

/- The words of a block's rounds, as the document has them. -/
set_option linter.unusedSimpArgs false
set_option linter.unusedVariables false
set_option maxRecDepth 100000
namespace Go.AL.Path
open Go Go.RowKit Go.Proofs Go.AL
def partW (b : List UInt8) (t : Nat) : Nat → Wd
  | 0 => 0
  | i + 1 => 256 * partW b t i + w8 (b.getD (4 * t + i) 0)
theorem r_mul256 (x : Wd) : IntKind.u32.wrap (256 * (x.toNat : Int)) = ((256 * x : Wd).toNat : Int) := by
  rw [BitVec.toNat_mul]
  simp [IntKind.wrap, IntKind.bits, IntKind.signed]
theorem part_be (b : List UInt8) (t : Nat) : partW b t 4 = be32 b t := by
  unfold be32
  simp only [partW, Nat.add_zero]
  generalize hb0 : b.getD (4 * t) 0 = b0
  generalize hb1 : b.getD (4 * t + 1) 0 = b1
  generalize hb2 : b.getD (4 * t + 2) 0 = b2
  generalize hb3 : b.getD (4 * t + 3) 0 = b3
  have l0 := b0.toNat_lt
  have l1 := b1.toNat_lt
  have l2 := b2.toNat_lt
  have l3 := b3.toNat_lt
  apply BitVec.eq_of_toNat_eq
  have e0 : (w8 b0 <<< 24).toNat = 2 ^ 24 * b0.toNat := by rw [BitVec.toNat_shiftLeft, Nat.shiftLeft_eq, w8_nat, Nat.mod_eq_of_lt (by omega)]; omega
  have e1 : (w8 b1 <<< 16).toNat = 2 ^ 16 * b1.toNat := by rw [BitVec.toNat_shiftLeft, Nat.shiftLeft_eq, w8_nat, Nat.mod_eq_of_lt (by omega)]; omega
  have e2 : (w8 b2 <<< 8).toNat = 2 ^ 8 * b2.toNat := by rw [BitVec.toNat_shiftLeft, Nat.shiftLeft_eq, w8_nat, Nat.mod_eq_of_lt (by omega)]; omega
  rw [BitVec.toNat_or, BitVec.toNat_or, BitVec.toNat_or, e0, e1, e2, w8_nat]
  have o1 : 2 ^ 24 * b0.toNat ||| 2 ^ 16 * b1.toNat = 2 ^ 24 * b0.toNat + 2 ^ 16 * b1.toNat := (Nat.two_pow_add_eq_or_of_lt (by omega) _).symm
  have o2 : 2 ^ 24 * b0.toNat + 2 ^ 16 * b1.toNat ||| 2 ^ 8 * b2.toNat = 2 ^ 24 * b0.toNat + 2 ^ 16 * b1.toNat + 2 ^ 8 * b2.toNat := by
    have : 2 ^ 24 * b0.toNat + 2 ^ 16 * b1.toNat = 2 ^ 16 * (2 ^ 8 * b0.toNat + b1.toNat) := by omega
    rw [this]; exact (Nat.two_pow_add_eq_or_of_lt (by omega) _).symm
  have o3 : 2 ^ 24 * b0.toNat + 2 ^ 16 * b1.toNat + 2 ^ 8 * b2.toNat ||| b3.toNat = 2 ^ 24 * b0.toNat + 2 ^ 16 * b1.toNat + 2 ^ 8 * b2.toNat + b3.toNat := by
    have : 2 ^ 24 * b0.toNat + 2 ^ 16 * b1.toNat + 2 ^ 8 * b2.toNat = 2 ^ 8 * (2 ^ 16 * b0.toNat + 2 ^ 8 * b1.toNat + b2.toNat) := by omega
    rw [this]; exact (Nat.two_pow_add_eq_or_of_lt (by omega) _).symm
  rw [o1, o2, o3]
  simp only [BitVec.toNat_add, BitVec.toNat_mul, w8_nat, show (256 : Wd).toNat = 256 from rfl, show (0 : Wd).toNat = 0 from rfl]
  omega
theorem padW_zero {l : List Wd} {n : Nat} (h : l.length < n) : padW (l ++ [0]) n = padW l n := by
  unfold padW
  have : List.replicate (n - l.length) (w32 0) = w32 0 :: List.replicate (n - (l ++ [(0 : Wd)]).length) (w32 0) := by
    rw [← List.replicate_succ]; congr 1; simp; omega
  rw [this]; simp
theorem padW_at {l : List Wd} {n : Nat} (h : l.length < n) (x y : Wd) : (padW (l ++ [x]) n).take l.length ++ [w32 y] ++ (padW (l ++ [x]) n).drop (l.length + 1) = padW (l ++ [y]) n := by
  unfold padW
  have h1 : (l.map w32).length = l.length := List.length_map ..
  have h2 : (l ++ [x]).length = (l ++ [y]).length := by simp
  rw [h2]
  generalize List.replicate (n - (l ++ [y]).length) (w32 0) = R
  have h3 : (l ++ [x]).map w32 ++ R = l.map w32 ++ (w32 x :: R) := by simp
  rw [h3, List.take_left' h1]
  have h4 : (l.map w32 ++ (w32 x :: R)).drop (l.length + 1) = R := by
    rw [← h1, List.drop_append, List.drop_of_length_le (by omega)]
    simp
  rw [h4]; simp
theorem padW_last {l : List Wd} {n : Nat} (x : Wd) : (padW (l ++ [x]) n)[l.length]? = some (w32 x) := by
  unfold padW
  rw [List.getElem?_append_left (by simp), List.getElem?_map]
  simp
def c65 : ACode := (.seq (.reg false 2 [⟨(.some 1), none, (.m .box 0), [(.t 0)]⟩, ⟨(.some 2), none, (.m (.alloc [(.imm (.int .u32 0)), (.imm (.int .u32 0)), (.imm (.int .u32 0)), (.imm (.int .u32 0)), (.imm (.int .u32 0)), (.imm (.int .u32 0)), (.imm (.int .u32 0)), (.imm (.int .u32 0)), (.imm (.int .u32 0)), (.imm (.int .u32 0)), (.imm (.int .u32 0)), (.imm (.int .u32 0)), (.imm (.int .u32 0)), (.imm (.int .u32 0)), (.imm (.int .u32 0)), (.imm (.int .u32 0)), (.imm (.int .u32 0)), (.imm (.int .u32 0)), (.imm (.int .u32 0)), (.imm (.int .u32 0)), (.imm (.int .u32 0)), (.imm (.int .u32 0)), (.imm (.int .u32 0)), (.imm (.int .u32 0)), (.imm (.int .u32 0)), (.imm (.int .u32 0)), (.imm (.int .u32 0)), (.imm (.int .u32 0)), (.imm (.int .u32 0)), (.imm (.int .u32 0)), (.imm (.int .u32 0)), (.imm (.int .u32 0)), (.imm (.int .u32 0)), (.imm (.int .u32 0)), (.imm (.int .u32 0)), (.imm (.int .u32 0)), (.imm (.int .u32 0)), (.imm (.int .u32 0)), (.imm (.int .u32 0)), (.imm (.int .u32 0)), (.imm (.int .u32 0)), (.imm (.int .u32 0)), (.imm (.int .u32 0)), (.imm (.int .u32 0)), (.imm (.int .u32 0)), (.imm (.int .u32 0)), (.imm (.int .u32 0)), (.imm (.int .u32 0)), (.imm (.int .u32 0)), (.imm (.int .u32 0)), (.imm (.int .u32 0)), (.imm (.int .u32 0)), (.imm (.int .u32 0)), (.imm (.int .u32 0)), (.imm (.int .u32 0)), (.imm (.int .u32 0)), (.imm (.int .u32 0)), (.imm (.int .u32 0)), (.imm (.int .u32 0)), (.imm (.int .u32 0)), (.imm (.int .u32 0)), (.imm (.int .u32 0)), (.imm (.int .u32 0)), (.imm (.int .u32 0))] false) 1), []⟩]) (.seq (.reg false 1 [⟨(.some 3), none, (.m (.alloc [(.imm (.int .u32 0)), (.imm (.int .u32 0)), (.imm (.int .u32 0)), (.imm (.int .u32 0)), (.imm (.int .u32 0)), (.imm (.int .u32 0)), (.imm (.int .u32 0)), (.imm (.int .u32 0)), (.imm (.int .u32 0)), (.imm (.int .u32 0)), (.imm (.int .u32 0)), (.imm (.int .u32 0)), (.imm (.int .u32 0)), (.imm (.int .u32 0)), (.imm (.int .u32 0)), (.imm (.int .u32 0)), (.imm (.int .u32 0)), (.imm (.int .u32 0)), (.imm (.int .u32 0)), (.imm (.int .u32 0)), (.imm (.int .u32 0)), (.imm (.int .u32 0)), (.imm (.int .u32 0)), (.imm (.int .u32 0)), (.imm (.int .u32 0)), (.imm (.int .u32 0)), (.imm (.int .u32 0)), (.imm (.int .u32 0)), (.imm (.int .u32 0)), (.imm (.int .u32 0)), (.imm (.int .u32 0)), (.imm (.int .u32 0)), (.imm (.int .u32 0)), (.imm (.int .u32 0)), (.imm (.int .u32 0)), (.imm (.int .u32 0)), (.imm (.int .u32 0)), (.imm (.int .u32 0)), (.imm (.int .u32 0)), (.imm (.int .u32 0)), (.imm (.int .u32 0)), (.imm (.int .u32 0)), (.imm (.int .u32 0)), (.imm (.int .u32 0)), (.imm (.int .u32 0)), (.imm (.int .u32 0)), (.imm (.int .u32 0)), (.imm (.int .u32 0)), (.imm (.int .u32 0)), (.imm (.int .u32 0)), (.imm (.int .u32 0)), (.imm (.int .u32 0)), (.imm (.int .u32 0)), (.imm (.int .u32 0)), (.imm (.int .u32 0)), (.imm (.int .u32 0)), (.imm (.int .u32 0)), (.imm (.int .u32 0)), (.imm (.int .u32 0)), (.imm (.int .u32 0)), (.imm (.int .u32 0)), (.imm (.int .u32 0)), (.imm (.int .u32 0)), (.imm (.int .u32 0))] false) 0), []⟩]) (.seq (.seq (.reg false 0 [⟨(.some 4), none, (.q .mv), [(.c (.imm (.int .i64 0)))]⟩]) (.block 0 (.loop (.seq (.seq (.reg false 0 [⟨(.some 7), none, (.q .mv), [(.t 4)]⟩, ⟨(.some 8), none, (.q (.bin .lss 3)), [(.t 7), (.c (.imm (.int .i64 16)))]⟩]) (.cond (.t 8) .skip (.exit 0))) (.seq (.block 1 (.seq (.reg false 0 [⟨(.some 5), none, (.q .mv), [(.c (.imm (.int .i64 0)))]⟩]) (.block 2 (.loop (.seq (.seq (.reg false 0 [⟨(.some 11), none, (.q .mv), [(.t 5)]⟩, ⟨(.some 12), none, (.q (.bin .lss 3)), [(.t 11), (.c (.imm (.int .i64 4)))]⟩]) (.cond (.t 12) .skip (.exit 2))) (.seq (.block 3 (.reg true 0 [⟨(.some 15), none, (.q .mv), [(.t 4)]⟩, ⟨(.some 16), none, (.q .mv), [(.t 4)]⟩, ⟨(.some 17), none, (.q (.iaddrA 64 1)), [(.t 3), (.t 16)]⟩, ⟨(.some 18), none, (.l .load1), [(.t 17)]⟩, ⟨(.some 19), none, (.q (.bin .mul 84)), [(.c (.imm (.int .u32 256))), (.t 18)]⟩, ⟨(.some 20), none, (.q .mv), [(.t 4)]⟩, ⟨(.some 21), none, (.q (.bin .mul 3)), [(.c (.imm (.int .i64 4))), (.t 20)]⟩, ⟨(.some 22), none, (.q .mv), [(.t 5)]⟩, ⟨(.some 23), none, (.q (.bin .add 3)), [(.t 21), (.t 22)]⟩, ⟨(.some 24), none, (.q (.iaddrA 64 1)), [(.t 1), (.t 23)]⟩, ⟨(.some 25), none, (.l .load1), [(.t 24)]⟩, ⟨(.some 26), none, (.q (.convI .u32)), [(.t 25)]⟩, ⟨(.some 27), none, (.q (.bin .add 84)), [(.t 19), (.t 26)]⟩, ⟨(.some 28), none, (.q (.iaddrA 64 1)), [(.t 3), (.t 15)]⟩, ⟨none, none, (.e (.store 1)), [(.t 28), (.t 27)]⟩])) (.reg false 0 [⟨(.some 13), none, (.q .mv), [(.t 5)]⟩, ⟨(.some 14), none, (.q (.bin .add 3)), [(.t 13), (.c (.imm (.int .i64 1)))]⟩, ⟨(.some 5), none, (.q .mv), [(.t 14)]⟩]))))))) (.reg false 0 [⟨(.some 9), none, (.q .mv), [(.t 4)]⟩, ⟨(.some 10), none, (.q (.bin .add 3)), [(.t 9), (.c (.imm (.int .i64 1)))]⟩, ⟨(.some 4), none, (.q .mv), [(.t 10)]⟩])))))) (.seq (.seq (.reg false 0 [⟨(.some 6), none, (.q .mv), [(.c (.imm (.int .i64 16)))]⟩]) (.block 4 (.loop (.seq (.seq (.reg false 0 [⟨(.some 29), none, (.q .mv), [(.t 6)]⟩, ⟨(.some 30), none, (.q (.bin .lss 3)), [(.t 29), (.c (.imm (.int .i64 64)))]⟩]) (.cond (.t 30) .skip (.exit 4))) (.seq (.block 5 (.reg true 0 [⟨(.some 33), none, (.q .mv), [(.t 6)]⟩, ⟨(.some 34), none, (.q .mv), [(.t 6)]⟩, ⟨(.some 35), none, (.q (.bin .sub 3)), [(.t 34), (.c (.imm (.int .i64 2)))]⟩, ⟨(.some 36), none, (.q (.iaddrA 64 1)), [(.t 3), (.t 35)]⟩, ⟨(.some 37), none, (.l .load1), [(.t 36)]⟩, ⟨(.some 38), none, (.call false), [(.c (.fn (.func 78) [] [])), (.t 37)]⟩, ⟨(.some 39), none, (.q .mv), [(.t 6)]⟩, ⟨(.some 40), none, (.q (.bin .sub 3)), [(.t 39), (.c (.imm (.int .i64 7)))]⟩, ⟨(.some 41), none, (.q (.iaddrA 64 1)), [(.t 3), (.t 40)]⟩, ⟨(.some 42), none, (.l .load1), [(.t 41)]⟩, ⟨(.some 43), none, (.q (.bin .add 84)), [(.t 38), (.t 42)]⟩, ⟨(.some 44), none, (.q .mv), [(.t 6)]⟩, ⟨(.some 45), none, (.q (.bin .sub 3)), [(.t 44), (.c (.imm (.int .i64 15)))]⟩, ⟨(.some 46), none, (.q (.iaddrA 64 1)), [(.t 3), (.t 45)]⟩, ⟨(.some 47), none, (.l .load1), [(.t 46)]⟩, ⟨(.some 48), none, (.call false), [(.c (.fn (.func 79) [] [])), (.t 47)]⟩, ⟨(.some 49), none, (.q (.bin .add 84)), [(.t 43), (.t 48)]⟩, ⟨(.some 50), none, (.q .mv), [(.t 6)]⟩, ⟨(.some 51), none, (.q (.bin .sub 3)), [(.t 50), (.c (.imm (.int .i64 16)))]⟩, ⟨(.some 52), none, (.q (.iaddrA 64 1)), [(.t 3), (.t 51)]⟩, ⟨(.some 53), none, (.l .load1), [(.t 52)]⟩, ⟨(.some 54), none, (.q (.bin .add 84)), [(.t 49), (.t 53)]⟩, ⟨(.some 55), none, (.q (.iaddrA 64 1)), [(.t 3), (.t 33)]⟩, ⟨none, none, (.e (.store 1)), [(.t 55), (.t 54)]⟩])) (.reg false 0 [⟨(.some 31), none, (.q .mv), [(.t 6)]⟩, ⟨(.some 32), none, (.q (.bin .add 3)), [(.t 31), (.c (.imm (.int .i64 1)))]⟩, ⟨(.some 6), none, (.q .mv), [(.t 32)]⟩])))))) (.seq (.reg false 0 [⟨(.some 56), none, (.l (.loadA 64)), [(.t 3)]⟩, ⟨none, none, (.e (.store 64)), [(.t 2), (.t 56)]⟩]) .ret)))))
theorem fn65 : IsFnC Tryz.prog 65 [] c65 [(2, some (102, .loadA 64))] 57 := ⟨⟨_, _, Tryz.func65, rfl, by decide +kernel, by kernel_rfl, rfl, rfl⟩, by intro r hr; simp only [List.mem_cons, List.not_mem_nil, or_false] at hr; first | (subst hr; kernel_rfl) | (rcases hr with rfl | rfl <;> kernel_rfl)⟩
set_option maxHeartbeats 8000000 in
theorem p65w (b : List UInt8) (hb : b.length = 64) : Pure Tryz.prog G 65 [.agg (b.map byteAV)] (wsV (schedW b)) := by
  refine pure_of_codeC (S := sp [(78, wrd1 small1), (79, wrd1 small0)] []) hm hG (sp_holds (.cons (told_wrd1 p78w) (.cons (told_wrd1 p79w) .nil)) .nil) fn65
    (St 7 57 [.agg (b.map byteAV), .junk, .junk, .junk, .junk, .junk, .junk] []) (by kernel_rfl) (by simp [lows, AV.low, lows_bytes]) (by simp [AV.low, lows_ws]) ?_
  have n84 : (IntKind.u32 ≠ .i64) := by decide
  have n64 : ((64 : Nat) : Int) = 64 := rfl
  have bl := bytes_len b
  have bstrip : (b.map byteAV).map AV.strip1 = b.map byteAV := by simp [byteAV, AV.strip1]
  simp (maxSteps := 2000000) -implicitDefEqProofs only [c65, RS, RX, Nat.reduceLT, ↓RP0, ↓RP1, ↓RP2, ↓RP3, RV, RW, ↓reduceIte, Nat.reduceAdd, Nat.reduceSub, Nat.reduceMul, Nat.reduceLeDiff, Nat.reduceEqDiff, Int.reduceLT, Int.reduceLE, Int.reduceEq, Int.reduceNe, Int.reduceAdd, Int.reduceSub, Int.reduceMul, Int.reduceNeg, Int.reduceToNat, reduceCtorEq, bl, hb, bstrip]
  refine loopB (st := fun (i : Nat) => (St 7 57 [.agg (b.map byteAV), .ptr 0 0, .ptr 1 0, .ptr 2 0, i64 i, .junk, .junk] [])) (hp := fun i => [.box (b.map byteAV), .box (padW [] 64), .box (padW (schedTo b i) 64)]) (I := fun i => i ≤ 16) (m := fun i => 16 - i) (0 : Nat) (Nat.zero_le _) ?_ ?_
  · refine weak_cutS 3 (by decide) (by kernel_rfl) ?_ ?_
    · simp [AObj.low, lows_bytes, lows_padW]
    · simp [WeakL, AV.low, lows, lows_bytes]
  · intro i hi
    have hl := schedTo_len b i
    by_cases hlt : i < 16
    · have e3 : ((i : Int) < 16) = True := eq_true (by omega)
      have e64 : ((i : Int) < 64) = True := eq_true (by omega)
      have ib : In64 ((i : Int) + 1) := ⟨by omega, by omega⟩
      have hs : schedTo b (i + 1) = schedTo b i ++ [be32 b i] := by rw [schedTo, if_pos hlt]
      have hz := padW_zero (l := schedTo b i) (n := 64) (by omega)
      simp (maxSteps := 2000000) -implicitDefEqProofs only [RS, RX, Nat.reduceLT, ↓RP0, ↓RP1, ↓RP2, ↓RP3, RV, RW, ↓reduceIte, Nat.reduceAdd, Nat.reduceSub, Nat.reduceMul, Nat.reduceLeDiff, Nat.reduceEqDiff, Int.reduceLT, Int.reduceLE, Int.reduceEq, Int.reduceNe, Int.reduceAdd, Int.reduceSub, Int.reduceMul, Int.reduceNeg, Int.reduceToNat, reduceCtorEq, e3]
      refine loopB (st := fun (k : Nat) => (St 7 57 [.agg (b.map byteAV), .ptr 0 0, .ptr 1 0, .ptr 2 0, i64 i, i64 k, .junk] [])) (hp := fun k => [.box (b.map byteAV), .box (padW [] 64), .box (padW (schedTo b i ++ [partW b i k]) 64)]) (I := fun k => k ≤ 4) (m := fun k => 4 - k) (0 : Nat) (Nat.zero_le _) ?_ ?_
      · refine weak_cutS 3 (by decide) (by simp [partW]; exact hz) ?_ ?_
        · simp [AObj.low, lows_bytes, lows_padW]
        · simp [WeakL, AV.low, lows, lows_bytes]
      · intro k hk
        by_cases hkl : k < 4
        · have f3 : ((k : Int) < 4) = True := eq_true (by omega)
          have gb : (b.map byteAV)[4 * i + k]? = some (byteAV (b.getD (4 * i + k) 0)) := by
            rw [List.getElem?_map, List.getD_eq_getElem?_getD, List.getElem?_eq_getElem (by omega)]; rfl
          have gl := padW_last (l := schedTo b i) (n := 64) (partW b i k)
          have hset := padW_at (l := schedTo b i) (n := 64) (by omega) (partW b i k) (256 * partW b i k + w8 (b.getD (4 * i + k) 0))
          have pl := padW_len (l := schedTo b i ++ [partW b i k]) (n := 64) (by simp; omega)
          rw [hl] at gl hset
          have c1 : (4 * (i : Int) + (k : Int)).toNat = 4 * i + k := by omega
          have hp : partW b i (k + 1) = 256 * partW b i k + w8 (b.getD (4 * i + k) 0) := rfl
          have kb : In64 ((k : Int) + 1) := ⟨by omega, by omega⟩
          have hp0 := hp
          generalize partW b i k = p at *
          simp (maxSteps := 2000000) -implicitDefEqProofs only [RS, RX, Nat.reduceLT, ↓RP0, ↓RP1, ↓RP2, ↓RP3, RV, RW, ↓reduceIte, Nat.reduceAdd, Nat.reduceSub, Nat.reduceMul, Nat.reduceLeDiff, Nat.reduceEqDiff, Int.reduceLT, Int.reduceLE, Int.reduceEq, Int.reduceNe, Int.reduceAdd, Int.reduceSub, Int.reduceMul, Int.reduceNeg, Int.reduceToNat, reduceCtorEq, e64, f3, n64, c1, gb, gl, byteAV_eq, r_byte, binB_mulk n84, r_mul256, binB_addk n84, r_add, pl, hset, bl, hb, Nat.mul_one]
          refine ⟨⟨by omega, by omega⟩, ⟨by omega, by omega⟩, by omega, by omega, by omega, kb, k + 1, by dsimp only; omega, by omega, ?_⟩
          dsimp only
          rw [hp0]
          refine weak_cutS 3 (by decide) (by simp) ?_ ?_
          · simp [AObj.low, lows_bytes, lows_padW]
          · simp [WeakL, AV.low, lows, lows_bytes]
        · obtain rfl : k = 4 := by omega
          have n4 : ((4 : Nat) : Int) = 4 := rfl
          simp (maxSteps := 2000000) -implicitDefEqProofs only [RS, RX, Nat.reduceLT, ↓RP0, ↓RP1, ↓RP2, ↓RP3, RV, RW, ↓reduceIte, Nat.reduceAdd, Nat.reduceSub, Nat.reduceMul, Nat.reduceLeDiff, Nat.reduceEqDiff, Int.reduceLT, Int.reduceLE, Int.reduceEq, Int.reduceNe, Int.reduceAdd, Int.reduceSub, Int.reduceMul, Int.reduceNeg, Int.reduceToNat, reduceCtorEq, n4, Int.lt_irrefl]
          refine ⟨ib, i + 1, by dsimp only; omega, by omega, ?_⟩
          dsimp only
          rw [hs, ← part_be]
          refine weak_cutS 3 (by decide) (by simp) ?_ ?_
          · simp [AObj.low, lows_bytes, lows_padW]
          · simp [WeakL, AV.low, lows, lows_bytes]
    · obtain rfl : i = 16 := by omega
      have n16 : ((16 : Nat) : Int) = 16 := rfl
      simp (maxSteps := 2000000) -implicitDefEqProofs only [RS, RX, Nat.reduceLT, ↓RP0, ↓RP1, ↓RP2, ↓RP3, RV, RW, ↓reduceIte, Nat.reduceAdd, Nat.reduceSub, Nat.reduceMul, Nat.reduceLeDiff, Nat.reduceEqDiff, Int.reduceLT, Int.reduceLE, Int.reduceEq, Int.reduceNe, Int.reduceAdd, Int.reduceSub, Int.reduceMul, Int.reduceNeg, Int.reduceToNat, reduceCtorEq, n16, Int.lt_irrefl]
      refine loopB (st := fun (i : Nat) => (St 7 57 [.agg (b.map byteAV), .ptr 0 0, .ptr 1 0, .ptr 2 0, .junk, .junk, i64 i] [])) (hp := fun i => [.box (b.map byteAV), .box (padW [] 64), .box (padW (schedTo b i) 64)]) (I := fun i => 16 ≤ i ∧ i ≤ 64) (m := fun i => 64 - i) (16 : Nat) ⟨Nat.le_refl _, by decide⟩ ?_ ?_
      · refine weak_cutS 3 (by decide) (by simp) ?_ ?_
        · simp [AObj.low, lows_bytes, lows_padW]
        · simp [WeakL, AV.low, lows, lows_bytes]
      · rintro i ⟨hi1, hi2⟩
        have hl := schedTo_len b i
        have pl := padW_len (l := schedTo b i) (n := 64) (by omega)
        by_cases hlt : i < 64
        · have e3 : ((i : Int) < 64) = True := eq_true (by omega)
          have ib : In64 ((i : Int) + 1) := ⟨by omega, by omega⟩
          have hs : schedTo b (i + 1) = schedTo b i ++ [small1 ((schedTo b i).getD (i - 2) 0) + (schedTo b i).getD (i - 7) 0 + small0 ((schedTo b i).getD (i - 15) 0) + (schedTo b i).getD (i - 16) 0] := by rw [schedTo, if_neg (by omega)]
          have g2 := padW_get (l := schedTo b i) (n := 64) (i := i - 2) (by omega)
          have g7 := padW_get (l := schedTo b i) (n := 64) (i := i - 7) (by omega)
          have g15 := padW_get (l := schedTo b i) (n := 64) (i := i - 15) (by omega)
          have g16 := padW_get (l := schedTo b i) (n := 64) (i := i - 16) (by omega)
          have d2 : ((i : Int) - 2).toNat = i - 2 := by omega
          have d7 : ((i : Int) - 7).toNat = i - 7 := by omega
          have d15 : ((i : Int) - 15).toNat = i - 15 := by omega
          have d16 : ((i : Int) - 16).toNat = i - 16 := by omega
          have hset := padW_set (l := schedTo b i) (n := 64) (by omega) (small1 ((schedTo b i).getD (i - 2) 0) + (schedTo b i).getD (i - 7) 0 + small0 ((schedTo b i).getD (i - 15) 0) + (schedTo b i).getD (i - 16) 0)
          rw [hl] at hset
          generalize schedTo b i = S0 at *
          generalize S0.getD (i - 2) 0 = x2 at *
          generalize S0.getD (i - 7) 0 = x7 at *
          generalize S0.getD (i - 15) 0 = x15 at *
          generalize S0.getD (i - 16) 0 = x16 at *
          simp (maxSteps := 2000000) -implicitDefEqProofs only [RS, RX, Nat.reduceLT, ↓RP0, ↓RP1, ↓RP2, ↓RP3, RV, RW, ↓reduceIte, Nat.reduceAdd, Nat.reduceSub, Nat.reduceMul, Nat.reduceLeDiff, Nat.reduceEqDiff, Int.reduceLT, Int.reduceLE, Int.reduceEq, Int.reduceNe, Int.reduceAdd, Int.reduceSub, Int.reduceMul, Int.reduceNeg, Int.reduceToNat, reduceCtorEq, ↓ask_wrd1, ask_wrd1, e3, n64, g2, g7, g15, g16, d2, d7, d15, d16, binB_addk n84, r_add, pl, hset, Nat.mul_one]
          refine ⟨⟨by omega, by omega⟩, by omega, by omega, ⟨by omega, by omega⟩, by omega, by omega, ⟨by omega, by omega⟩, by omega, by omega, ⟨by omega, by omega⟩, by omega, by omega, by omega, ib, i + 1, by dsimp only; omega, ⟨by omega, by omega⟩, ?_⟩
          dsimp only
          rw [hs]
          refine weak_cutS 3 (by decide) (by simp) ?_ ?_
          · simp [AObj.low, lows_bytes, lows_padW]
          · simp [WeakL, AV.low, lows, lows_bytes]
        · obtain rfl : i = 64 := by omega
          rw [padW_full hl]
          simp (maxSteps := 2000000) -implicitDefEqProofs only [RS, RX, Nat.reduceLT, ↓RP0, ↓RP1, ↓RP2, ↓RP3, RV, RW, ↓reduceIte, Nat.reduceAdd, Nat.reduceSub, Nat.reduceMul, Nat.reduceLeDiff, Nat.reduceEqDiff, Int.reduceLT, Int.reduceLE, Int.reduceEq, Int.reduceNe, Int.reduceAdd, Int.reduceSub, Int.reduceMul, Int.reduceNeg, Int.reduceToNat, reduceCtorEq, n64, Int.lt_irrefl]
          have t1 : List.take 64 ((schedTo b 64).map w32) = (schedTo b 64).map w32 := List.take_of_length_le (by rw [ws_len, schedTo_len]; decide)
          have t2 : List.drop 64 (padW [] 64) = [] := List.drop_of_length_le (by rw [padW_len (by decide)]; decide)
          have t3 : ((schedTo b 64).map w32).map AV.strip1 = (schedTo b 64).map w32 := by simp [AV.strip1]
          rw [t1, t2, List.append_nil, t1, t3, ws_len, schedTo_len, padW_len (by decide)]
          exact ⟨by decide, rfl, by decide, by decide, rfl⟩
end Go.AL.Path
