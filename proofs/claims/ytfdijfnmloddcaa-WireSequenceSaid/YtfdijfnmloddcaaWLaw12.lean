/- Stage laws, printed by gen_wire.py. -/
import Derived.Test.YtfdijfnmloddcaaVMid
namespace Go.Proofs.Ytfdijfnmloddcaa
open Go Go.Vai
attribute [local irreducible] midRun vAt goTo bodyOf mkS

/-- fuel 14 -/
theorem s12_0 (cal : Oracle) (n : Nat) (H : Hp) (nx : Nat) (l_1 : List AV) (tg_2 : Bool) (l_3 : List AV) (tg_4 : Bool) (l_5 : List AV) (tg_6 : Bool) : run Try.prog ann cal (n + 14) 12 (bodyOf 12) (mkS 205 [(0, .val (.vs 1 tg_2 l_1) .no), (1, .val (.vs 1 tg_4 l_3) .no), (2, .val (.vs 1 tg_6 l_5) .no)] H nx) =
 (br (decide ((40) < (((List.length l_1) : Nat) : Int)))
 (br (pureL []) ((cal 13 [] Hp.none 0).bind fun r1 => br (AV.pure r1.v)
 (midRun cal (n + 6) 12 (goTo [0, 5, 0, 0, 5, 6, 0] (bodyOf 12)) 1 (mkS 205 [(0, .val (.vs 1 tg_2 l_1) .no), (1, .val (.vs 1 tg_4 l_3) .no), (2, .val (.vs 1 tg_6 l_5) .no), (36, .val (.bool true) .no), (37, .val r1.v .no)] H nx)) none) none)
 (br (decide ((40) < (((List.length l_3) : Nat) : Int)))
 (br (pureL []) ((cal 13 [] Hp.none 0).bind fun r2 => br (AV.pure r2.v)
 (midRun cal (n + 6) 12 (goTo [0, 5, 0, 0, 5, 6, 0] (bodyOf 12)) 1 (mkS 205 [(0, .val (.vs 1 tg_2 l_1) .no), (1, .val (.vs 1 tg_4 l_3) .no), (2, .val (.vs 1 tg_6 l_5) .no), (36, .val (.bool true) .no), (37, .val r2.v .no)] H nx)) none) none)
 (br (decide ((40) < (((List.length l_5) : Nat) : Int)))
 (br (pureL []) ((cal 13 [] Hp.none 0).bind fun r3 => br (AV.pure r3.v)
 (midRun cal (n + 6) 12 (goTo [0, 5, 0, 0, 5, 6, 0] (bodyOf 12)) 1 (mkS 205 [(0, .val (.vs 1 tg_2 l_1) .no), (1, .val (.vs 1 tg_4 l_3) .no), (2, .val (.vs 1 tg_6 l_5) .no), (36, .val (.bool true) .no), (37, .val r3.v .no)] H nx)) none) none)
 (run Try.prog ann cal n 12 (goTo [0, 5, 0, 0, 5, 7, 5, 0, 5, 0, 0, 5, 2, 3] (bodyOf 12)) (mkS 205 [(0, .val (.vs 1 tg_2 l_1) .no), (1, .val (.vs 1 tg_4 l_3) .no), (2, .val (.vs 1 tg_6 l_5) .no), (7, .val (.vs 1 true []) .own), (8, .val (.int .i64 (0)) .no)] H nx))))) := by kernel_rfl

/-- fuel 1 -/
theorem s12_1 (cal : Oracle) (n : Nat) (H : Hp) (nx : Nat) (l_1 : List AV) (tg_2 : Bool) (l_3 : List AV) (tg_4 : Bool) (l_5 : List AV) (tg_6 : Bool) : midRun cal (n + 1) 12 (goTo [0, 5, 0, 0, 5, 6, 0] (bodyOf 12)) 1 (mkS 205 [(0, .val (.vs 1 tg_2 l_1) .no), (1, .val (.vs 1 tg_4 l_3) .no), (2, .val (.vs 1 tg_6 l_5) .no), (36, .val (.bool true) .no), (37, .val (.bool true) .no)] H nx) =
 (some ⟨(.bool true), H, nx⟩) := by kernel_rfl

/-- fuel 10 -/
theorem s12_2 (cal : Oracle) (n : Nat) (H : Hp) (nx : Nat) (tg_7 : Bool) (l_8 : List AV) (tg_9 : Bool) (l_10 : List AV) (tg_11 : Bool) (l_12 : List AV) (tg_13 : Bool) (l_14 : List AV) (x_15 : Int) : run Try.prog ann cal (n + 10) 12 (goTo [0, 5, 0, 0, 5, 7, 5, 0, 5, 0, 0, 5, 2, 3] (bodyOf 12)) (mkS 205 [(0, .val (.vs 1 tg_7 l_8) .no), (1, .val (.vs 1 tg_9 l_10) .no), (2, .val (.vs 1 tg_11 l_12) .no), (7, .val (.vs 1 tg_13 l_14) .own), (8, .val (.int .i64 x_15) .no)] H nx) =
 (br (decide (x_15 < (((List.length l_8) : Nat) : Int)))
 (br (decide ((0 : Int) ≤ x_15))
 (br (decide (x_15 < (((List.length l_8) : Nat) : Int)))
 ((nth l_8 (Int.toNat x_15)).bind fun c1 =>
 (midRun cal (n + 2) 12 (goTo [0, 5, 0, 0, 5, 7, 5, 0, 5, 0, 0, 5, 2, 3, 0, 0, 5, 6, 5, 0, 2] (bodyOf 12)) 4 (mkS 205 [(0, .val (.vs 1 tg_7 l_8) .no), (1, .val (.vs 1 tg_9 l_10) .no), (2, .val (.vs 1 tg_11 l_12) .no), (7, .val (.vs 1 tg_13 l_14) .own), (8, .val (.int .i64 x_15) .no), (41, .val (.bool true) .no), (44, .val (.vs 1 tg_13 l_14) (.lS 7)), (45, .val (.vs 1 tg_7 l_8) .no), (46, .val (.int .i64 x_15) .no), (47, .val (.cptr (AV.cells c1)) .no)] H nx)))
 none)
 none)
 (run Try.prog ann cal n 12 (goTo [0, 5, 0, 0, 5, 7, 5, 0, 5, 0, 0, 5, 2, 3, 0, 0, 5, 7, 5, 5, 5, 5, 0, 0, 5, 2, 3] (bodyOf 12)) (mkS 205 [(0, .val (.vs 1 tg_7 l_8) .no), (1, .val (.vs 1 tg_9 l_10) .no), (2, .val (.vs 1 tg_11 l_12) .no), (7, .val (.vs 1 tg_13 l_14) .own), (9, .val (.int .i64 (0)) .no)] H nx))) := by kernel_rfl

/-- fuel 0 -/
theorem s12_3 (cal : Oracle) (n : Nat) (H : Hp) (nx : Nat) (tg_7 : Bool) (l_8 : List AV) (tg_9 : Bool) (l_10 : List AV) (tg_11 : Bool) (l_12 : List AV) (tg_13 : Bool) (l_14 : List AV) (x_15 : Int) (x_16 : Int) : midRun cal n 12 (goTo [0, 5, 0, 0, 5, 7, 5, 0, 5, 0, 0, 5, 2, 3, 0, 0, 5, 6, 5, 0, 2] (bodyOf 12)) 4 (mkS 205 [(0, .val (.vs 1 tg_7 l_8) .no), (1, .val (.vs 1 tg_9 l_10) .no), (2, .val (.vs 1 tg_11 l_12) .no), (7, .val (.vs 1 tg_13 l_14) .own), (8, .val (.int .i64 x_15) .no), (41, .val (.bool true) .no), (44, .val (.vs 1 tg_13 l_14) (.lS 7)), (45, .val (.vs 1 tg_7 l_8) .no), (46, .val (.int .i64 x_15) .no), (47, .val (.cptr [(.int .i64 x_16)]) .no)] H nx) =
 (br (pureL [(.vs 1 tg_13 l_14), (.int .i64 x_16)]) ((cal 18 [(.vs 1 tg_13 l_14), (.int .i64 x_16)] Hp.none 0).bind fun r1 => br (AV.pure r1.v)
 (midRun cal n 12 (goTo [0, 5, 0, 0, 5, 7, 5, 0, 5, 0, 0, 5, 2, 3, 0, 0, 5, 6, 5, 0, 2] (bodyOf 12)) 6 (mkS 205 [(0, .val (.vs 1 tg_7 l_8) .no), (1, .val (.vs 1 tg_9 l_10) .no), (2, .val (.vs 1 tg_11 l_12) .no), (7, .val (.vs 1 tg_13 l_14) .own), (8, .val (.int .i64 x_15) .no), (41, .val (.bool true) .no), (44, .val (.vs 1 tg_13 l_14) (.lS 7)), (45, .val (.vs 1 tg_7 l_8) .no), (46, .val (.int .i64 x_15) .no), (47, .val (.cptr [(.int .i64 x_16)]) .no), (48, .val (.int .i64 x_16) .no), (49, .val r1.v .own)] H nx)) none) none) := by kernel_rfl

/-- fuel 10 -/
theorem s12_4 (cal : Oracle) (n : Nat) (H : Hp) (nx : Nat) (tg_17 : Bool) (l_18 : List AV) (tg_19 : Bool) (l_20 : List AV) (tg_21 : Bool) (l_22 : List AV) (tg_23 : Bool) (l_24 : List AV) (x_25 : Int) : run Try.prog ann cal (n + 10) 12 (goTo [0, 5, 0, 0, 5, 7, 5, 0, 5, 0, 0, 5, 2, 3, 0, 0, 5, 7, 5, 5, 5, 5, 0, 0, 5, 2, 3] (bodyOf 12)) (mkS 205 [(0, .val (.vs 1 tg_17 l_18) .no), (1, .val (.vs 1 tg_19 l_20) .no), (2, .val (.vs 1 tg_21 l_22) .no), (7, .val (.vs 1 tg_23 l_24) .own), (9, .val (.int .i64 x_25) .no)] H nx) =
 (br (decide (x_25 < (((List.length l_20) : Nat) : Int)))
 (br (decide ((0 : Int) ≤ x_25))
 (br (decide (x_25 < (((List.length l_20) : Nat) : Int)))
 ((nth l_20 (Int.toNat x_25)).bind fun c1 =>
 (midRun cal n 12 (goTo [0, 5, 0, 0, 5, 7, 5, 0, 5, 0, 0, 5, 2, 3, 0, 0, 5, 7, 5, 5, 5, 5, 0, 0, 5, 2, 3, 0, 0, 5, 6, 5, 0, 2, 0, 0] (bodyOf 12)) 3 (mkS 205 [(0, .val (.vs 1 tg_17 l_18) .no), (1, .val (.vs 1 tg_19 l_20) .no), (2, .val (.vs 1 tg_21 l_22) .no), (7, .val (.vs 1 tg_23 l_24) .own), (9, .val (.int .i64 x_25) .no), (53, .val (.bool true) .no), (56, .val (.vs 1 tg_19 l_20) .no), (57, .val (.int .i64 x_25) .no), (58, .val (.cptr (AV.cells c1)) .no)] H nx)))
 none)
 none)
 (run Try.prog ann cal n 12 (goTo [0, 5, 0, 0, 5, 7, 5, 0, 5, 0, 0, 5, 2, 3, 0, 0, 5, 7, 5, 5, 5, 5, 0, 0, 5, 2, 3, 0, 0, 5, 7, 5, 5, 5, 5, 0, 0, 5, 2, 3] (bodyOf 12)) (mkS 205 [(0, .val (.vs 1 tg_17 l_18) .no), (1, .val (.vs 1 tg_19 l_20) .no), (2, .val (.vs 1 tg_21 l_22) .no), (7, .val (.vs 1 tg_23 l_24) .own), (10, .val (.int .i64 (0)) .no)] H nx))) := by kernel_rfl

/-- fuel 3 -/
theorem s12_5 (cal : Oracle) (n : Nat) (H : Hp) (nx : Nat) (tg_7 : Bool) (l_8 : List AV) (tg_9 : Bool) (l_10 : List AV) (tg_11 : Bool) (l_12 : List AV) (tg_13 : Bool) (l_14 : List AV) (x_15 : Int) (x_16 : Int) (l_26 : List AV) : midRun cal (n + 3) 12 (goTo [0, 5, 0, 0, 5, 7, 5, 0, 5, 0, 0, 5, 2, 3, 0, 0, 5, 6, 5, 0, 2] (bodyOf 12)) 6 (mkS 205 [(0, .val (.vs 1 tg_7 l_8) .no), (1, .val (.vs 1 tg_9 l_10) .no), (2, .val (.vs 1 tg_11 l_12) .no), (7, .val (.vs 1 tg_13 l_14) .own), (8, .val (.int .i64 x_15) .no), (41, .val (.bool true) .no), (44, .val (.vs 1 tg_13 l_14) (.lS 7)), (45, .val (.vs 1 tg_7 l_8) .no), (46, .val (.int .i64 x_15) .no), (47, .val (.cptr [(.int .i64 x_16)]) .no), (48, .val (.int .i64 x_16) .no), (49, .val (.vs 1 false l_26) .own)] H nx) =
 (run Try.prog ann cal n 12 (goTo [0, 5, 0, 0, 5, 7, 5, 0, 5, 0, 0, 5, 2, 3] (bodyOf 12)) (mkS 205 [(0, .val (.vs 1 tg_7 l_8) .no), (1, .val (.vs 1 tg_9 l_10) .no), (2, .val (.vs 1 tg_11 l_12) .no), (7, .val (.vs 1 false l_26) .own), (8, .val (.int .i64 (IntKind.wrap IntKind.i64 (x_15 + (1)))) .no)] H nx)) := by kernel_rfl

/-- fuel 3 -/
theorem s12_6 (cal : Oracle) (n : Nat) (H : Hp) (nx : Nat) (tg_17 : Bool) (l_18 : List AV) (tg_19 : Bool) (l_20 : List AV) (tg_21 : Bool) (l_22 : List AV) (tg_23 : Bool) (l_24 : List AV) (x_25 : Int) (s_27 : List UInt8) : midRun cal (n + 3) 12 (goTo [0, 5, 0, 0, 5, 7, 5, 0, 5, 0, 0, 5, 2, 3, 0, 0, 5, 7, 5, 5, 5, 5, 0, 0, 5, 2, 3, 0, 0, 5, 6, 5, 0, 2, 0, 0] (bodyOf 12)) 3 (mkS 205 [(0, .val (.vs 1 tg_17 l_18) .no), (1, .val (.vs 1 tg_19 l_20) .no), (2, .val (.vs 1 tg_21 l_22) .no), (7, .val (.vs 1 tg_23 l_24) .own), (9, .val (.int .i64 x_25) .no), (53, .val (.bool true) .no), (56, .val (.vs 1 tg_19 l_20) .no), (57, .val (.int .i64 x_25) .no), (58, .val (.cptr [(.str s_27)]) .no)] H nx) =
 (br (decide ((300) < (((List.length s_27) : Nat) : Int)))
 (br (pureL []) ((cal 13 [] Hp.none 0).bind fun r1 => br (AV.pure r1.v)
 (midRun cal n 12 (goTo [0, 5, 0, 0, 5, 7, 5, 0, 5, 0, 0, 5, 2, 3, 0, 0, 5, 7, 5, 5, 5, 5, 0, 0, 5, 2, 3, 0, 0, 5, 6, 5, 0, 2, 0, 0, 5, 6, 0] (bodyOf 12)) 1 (mkS 205 [(0, .val (.vs 1 tg_17 l_18) .no), (1, .val (.vs 1 tg_19 l_20) .no), (2, .val (.vs 1 tg_21 l_22) .no), (7, .val (.vs 1 tg_23 l_24) .own), (9, .val (.int .i64 x_25) .no), (61, .val (.bool true) .no), (62, .val r1.v .no)] H nx)) none) none)
 (br (decide ((0 : Int) ≤ x_25))
 (br (decide (x_25 < (((List.length l_20) : Nat) : Int)))
 ((nth l_20 (Int.toNat x_25)).bind fun c2 =>
 (midRun cal n 12 (goTo [0, 5, 0, 0, 5, 7, 5, 0, 5, 0, 0, 5, 2, 3, 0, 0, 5, 7, 5, 5, 5, 5, 0, 0, 5, 2, 3, 0, 0, 5, 6, 5, 0, 2, 0, 0, 5, 7, 5] (bodyOf 12)) 4 (mkS 205 [(0, .val (.vs 1 tg_17 l_18) .no), (1, .val (.vs 1 tg_19 l_20) .no), (2, .val (.vs 1 tg_21 l_22) .no), (7, .val (.vs 1 tg_23 l_24) .own), (9, .val (.int .i64 x_25) .no), (61, .val (.bool false) .no), (63, .val (.vs 1 tg_23 l_24) (.lS 7)), (64, .val (.vs 1 tg_19 l_20) .no), (65, .val (.int .i64 x_25) .no), (66, .val (.cptr (AV.cells c2)) .no)] H nx)))
 none)
 none)) := by kernel_rfl

/-- fuel 12 -/
theorem s12_7 (cal : Oracle) (n : Nat) (H : Hp) (nx : Nat) (tg_28 : Bool) (l_29 : List AV) (tg_30 : Bool) (l_31 : List AV) (tg_32 : Bool) (l_33 : List AV) (tg_34 : Bool) (l_35 : List AV) (x_36 : Int) : run Try.prog ann cal (n + 12) 12 (goTo [0, 5, 0, 0, 5, 7, 5, 0, 5, 0, 0, 5, 2, 3, 0, 0, 5, 7, 5, 5, 5, 5, 0, 0, 5, 2, 3, 0, 0, 5, 7, 5, 5, 5, 5, 0, 0, 5, 2, 3] (bodyOf 12)) (mkS 205 [(0, .val (.vs 1 tg_28 l_29) .no), (1, .val (.vs 1 tg_30 l_31) .no), (2, .val (.vs 1 tg_32 l_33) .no), (7, .val (.vs 1 tg_34 l_35) .own), (10, .val (.int .i64 x_36) .no)] H nx) =
 (br (decide (x_36 < (((List.length l_33) : Nat) : Int)))
 (br (decide ((0 : Int) ≤ x_36))
 (br (decide (x_36 < (((List.length l_33) : Nat) : Int)))
 ((nth l_33 (Int.toNat x_36)).bind fun c1 =>
 (midRun cal (n + 4) 12 (goTo [0, 5, 0, 0, 5, 7, 5, 0, 5, 0, 0, 5, 2, 3, 0, 0, 5, 7, 5, 5, 5, 5, 0, 0, 5, 2, 3, 0, 0, 5, 7, 5, 5, 5, 5, 0, 0, 5, 2, 3, 0, 0, 5, 6, 5, 0, 2] (bodyOf 12)) 4 (mkS 205 [(0, .val (.vs 1 tg_28 l_29) .no), (1, .val (.vs 1 tg_30 l_31) .no), (2, .val (.vs 1 tg_32 l_33) .no), (7, .val (.vs 1 tg_34 l_35) .own), (10, .val (.int .i64 x_36) .no), (72, .val (.bool true) .no), (75, .val (.vs 1 tg_34 l_35) (.lS 7)), (76, .val (.vs 1 tg_32 l_33) .no), (77, .val (.int .i64 x_36) .no), (78, .val (.cptr (AV.cells c1)) .no)] H nx)))
 none)
 none)
 (run Try.prog ann cal n 12 (goTo [0, 5, 0, 0, 5, 7, 5, 0, 5, 0, 0, 5, 2, 3, 0, 0, 5, 7, 5, 5, 5, 5, 0, 0, 5, 2, 3, 0, 0, 5, 7, 5, 5, 5, 5, 0, 0, 5, 2, 3, 0, 0, 5, 7, 5, 5, 5, 5, 0, 5, 0, 0, 5, 2, 3] (bodyOf 12)) (mkS 205 [(0, .val (.vs 1 tg_28 l_29) .no), (1, .val (.vs 1 tg_30 l_31) .no), (2, .val (.vs 1 tg_32 l_33) .no), (7, .val (.vs 1 tg_34 l_35) .own), (11, .val (.int .i64 (0)) .no), (12, .val (.int .i64 (0)) .no)] H nx))) := by kernel_rfl

/-- fuel 1 -/
theorem s12_8 (cal : Oracle) (n : Nat) (H : Hp) (nx : Nat) (tg_17 : Bool) (l_18 : List AV) (tg_19 : Bool) (l_20 : List AV) (tg_21 : Bool) (l_22 : List AV) (tg_23 : Bool) (l_24 : List AV) (x_25 : Int) : midRun cal (n + 1) 12 (goTo [0, 5, 0, 0, 5, 7, 5, 0, 5, 0, 0, 5, 2, 3, 0, 0, 5, 7, 5, 5, 5, 5, 0, 0, 5, 2, 3, 0, 0, 5, 6, 5, 0, 2, 0, 0, 5, 6, 0] (bodyOf 12)) 1 (mkS 205 [(0, .val (.vs 1 tg_17 l_18) .no), (1, .val (.vs 1 tg_19 l_20) .no), (2, .val (.vs 1 tg_21 l_22) .no), (7, .val (.vs 1 tg_23 l_24) .own), (9, .val (.int .i64 x_25) .no), (61, .val (.bool true) .no), (62, .val (.bool true) .no)] H nx) =
 (some ⟨(.bool true), H, nx⟩) := by kernel_rfl

/-- fuel 0 -/
theorem s12_9 (cal : Oracle) (n : Nat) (H : Hp) (nx : Nat) (tg_17 : Bool) (l_18 : List AV) (tg_19 : Bool) (l_20 : List AV) (tg_21 : Bool) (l_22 : List AV) (tg_23 : Bool) (l_24 : List AV) (x_25 : Int) (s_37 : List UInt8) : midRun cal n 12 (goTo [0, 5, 0, 0, 5, 7, 5, 0, 5, 0, 0, 5, 2, 3, 0, 0, 5, 7, 5, 5, 5, 5, 0, 0, 5, 2, 3, 0, 0, 5, 6, 5, 0, 2, 0, 0, 5, 7, 5] (bodyOf 12)) 4 (mkS 205 [(0, .val (.vs 1 tg_17 l_18) .no), (1, .val (.vs 1 tg_19 l_20) .no), (2, .val (.vs 1 tg_21 l_22) .no), (7, .val (.vs 1 tg_23 l_24) .own), (9, .val (.int .i64 x_25) .no), (61, .val (.bool false) .no), (63, .val (.vs 1 tg_23 l_24) (.lS 7)), (64, .val (.vs 1 tg_19 l_20) .no), (65, .val (.int .i64 x_25) .no), (66, .val (.cptr [(.str s_37)]) .no)] H nx) =
 (br (pureL [(.vs 1 tg_23 l_24), (.str s_37)]) ((cal 22 [(.vs 1 tg_23 l_24), (.str s_37)] Hp.none 0).bind fun r1 => br (AV.pure r1.v)
 (midRun cal n 12 (goTo [0, 5, 0, 0, 5, 7, 5, 0, 5, 0, 0, 5, 2, 3, 0, 0, 5, 7, 5, 5, 5, 5, 0, 0, 5, 2, 3, 0, 0, 5, 6, 5, 0, 2, 0, 0, 5, 7, 5] (bodyOf 12)) 6 (mkS 205 [(0, .val (.vs 1 tg_17 l_18) .no), (1, .val (.vs 1 tg_19 l_20) .no), (2, .val (.vs 1 tg_21 l_22) .no), (7, .val (.vs 1 tg_23 l_24) .own), (9, .val (.int .i64 x_25) .no), (61, .val (.bool false) .no), (63, .val (.vs 1 tg_23 l_24) (.lS 7)), (64, .val (.vs 1 tg_19 l_20) .no), (65, .val (.int .i64 x_25) .no), (66, .val (.cptr [(.str s_37)]) .no), (67, .val (.str s_37) .no), (68, .val r1.v .own)] H nx)) none) none) := by kernel_rfl

/-- fuel 0 -/
theorem s12_10 (cal : Oracle) (n : Nat) (H : Hp) (nx : Nat) (tg_28 : Bool) (l_29 : List AV) (tg_30 : Bool) (l_31 : List AV) (tg_32 : Bool) (l_33 : List AV) (tg_34 : Bool) (l_35 : List AV) (x_36 : Int) (c_38 : Bool) : midRun cal n 12 (goTo [0, 5, 0, 0, 5, 7, 5, 0, 5, 0, 0, 5, 2, 3, 0, 0, 5, 7, 5, 5, 5, 5, 0, 0, 5, 2, 3, 0, 0, 5, 7, 5, 5, 5, 5, 0, 0, 5, 2, 3, 0, 0, 5, 6, 5, 0, 2] (bodyOf 12)) 4 (mkS 205 [(0, .val (.vs 1 tg_28 l_29) .no), (1, .val (.vs 1 tg_30 l_31) .no), (2, .val (.vs 1 tg_32 l_33) .no), (7, .val (.vs 1 tg_34 l_35) .own), (10, .val (.int .i64 x_36) .no), (72, .val (.bool true) .no), (75, .val (.vs 1 tg_34 l_35) (.lS 7)), (76, .val (.vs 1 tg_32 l_33) .no), (77, .val (.int .i64 x_36) .no), (78, .val (.cptr [(.bool c_38)]) .no)] H nx) =
 (br (pureL [(.vs 1 tg_34 l_35), (.bool c_38)]) ((cal 28 [(.vs 1 tg_34 l_35), (.bool c_38)] Hp.none 0).bind fun r1 => br (AV.pure r1.v)
 (midRun cal n 12 (goTo [0, 5, 0, 0, 5, 7, 5, 0, 5, 0, 0, 5, 2, 3, 0, 0, 5, 7, 5, 5, 5, 5, 0, 0, 5, 2, 3, 0, 0, 5, 7, 5, 5, 5, 5, 0, 0, 5, 2, 3, 0, 0, 5, 6, 5, 0, 2] (bodyOf 12)) 6 (mkS 205 [(0, .val (.vs 1 tg_28 l_29) .no), (1, .val (.vs 1 tg_30 l_31) .no), (2, .val (.vs 1 tg_32 l_33) .no), (7, .val (.vs 1 tg_34 l_35) .own), (10, .val (.int .i64 x_36) .no), (72, .val (.bool true) .no), (75, .val (.vs 1 tg_34 l_35) (.lS 7)), (76, .val (.vs 1 tg_32 l_33) .no), (77, .val (.int .i64 x_36) .no), (78, .val (.cptr [(.bool c_38)]) .no), (79, .val (.bool c_38) .no), (80, .val r1.v .own)] H nx)) none) none) := by kernel_rfl

/-- fuel 10 -/
theorem s12_11 (cal : Oracle) (n : Nat) (H : Hp) (nx : Nat) (tg_39 : Bool) (l_40 : List AV) (tg_41 : Bool) (l_42 : List AV) (tg_43 : Bool) (l_44 : List AV) (tg_45 : Bool) (l_46 : List AV) (x_47 : Int) (x_48 : Int) : run Try.prog ann cal (n + 10) 12 (goTo [0, 5, 0, 0, 5, 7, 5, 0, 5, 0, 0, 5, 2, 3, 0, 0, 5, 7, 5, 5, 5, 5, 0, 0, 5, 2, 3, 0, 0, 5, 7, 5, 5, 5, 5, 0, 0, 5, 2, 3, 0, 0, 5, 7, 5, 5, 5, 5, 0, 5, 0, 0, 5, 2, 3] (bodyOf 12)) (mkS 205 [(0, .val (.vs 1 tg_39 l_40) .no), (1, .val (.vs 1 tg_41 l_42) .no), (2, .val (.vs 1 tg_43 l_44) .no), (7, .val (.vs 1 tg_45 l_46) .own), (11, .val (.int .i64 x_47) .no), (12, .val (.int .i64 x_48) .no)] H nx) =
 (br (decide (x_48 < (((List.length l_40) : Nat) : Int)))
 (br (decide ((0 : Int) ≤ x_47))
 (br (decide (x_47 ≤ (((List.length l_46) : Nat) : Int)))
 (br (pureL [(.vs 1 tg_45 (List.drop (Int.toNat x_47) (List.take (List.length l_46) l_46)))]) ((cal 19 [(.vs 1 tg_45 (List.drop (Int.toNat x_47) (List.take (List.length l_46) l_46)))] Hp.none 0).bind fun r1 => br (AV.pure r1.v)
 (midRun cal (n + 1) 12 (goTo [0, 5, 0, 0, 5, 7, 5, 0, 5, 0, 0, 5, 2, 3, 0, 0, 5, 7, 5, 5, 5, 5, 0, 0, 5, 2, 3, 0, 0, 5, 7, 5, 5, 5, 5, 0, 0, 5, 2, 3, 0, 0, 5, 7, 5, 5, 5, 5, 0, 5, 0, 0, 5, 2, 3, 0, 0, 5, 6, 5, 0, 2, 0] (bodyOf 12)) 4 (mkS 205 [(0, .val (.vs 1 tg_39 l_40) .no), (1, .val (.vs 1 tg_41 l_42) .no), (2, .val (.vs 1 tg_43 l_44) .no), (7, .val (.vs 1 tg_45 l_46) .own), (11, .val (.int .i64 x_47) .no), (12, .val (.int .i64 x_48) .no), (84, .val (.bool true) .no), (88, .val (.vs 1 tg_45 l_46) (.lS 7)), (89, .val (.int .i64 x_47) .no), (90, .val (.vs 1 tg_45 (List.drop (Int.toNat x_47) (List.take (List.length l_46) l_46))) .no), (91, .val r1.v .no)] H nx)) none) none)
 none)
 none)
 (run Try.prog ann cal n 12 (goTo [0, 5, 0, 0, 5, 7, 5, 0, 5, 0, 0, 5, 2, 3, 0, 0, 5, 7, 5, 5, 5, 5, 0, 0, 5, 2, 3, 0, 0, 5, 7, 5, 5, 5, 5, 0, 0, 5, 2, 3, 0, 0, 5, 7, 5, 5, 5, 5, 0, 5, 0, 0, 5, 2, 3, 0, 0, 5, 7, 5, 5, 5, 5, 0, 0, 5, 2, 3] (bodyOf 12)) (mkS 205 [(1, .val (.vs 1 tg_41 l_42) .no), (2, .val (.vs 1 tg_43 l_44) .no), (7, .val (.vs 1 tg_45 l_46) .own), (11, .val (.int .i64 x_47) .no), (16, .val (.int .i64 (0)) .no)] H nx))) := by kernel_rfl

/-- fuel 3 -/
theorem s12_12 (cal : Oracle) (n : Nat) (H : Hp) (nx : Nat) (tg_17 : Bool) (l_18 : List AV) (tg_19 : Bool) (l_20 : List AV) (tg_21 : Bool) (l_22 : List AV) (tg_23 : Bool) (l_24 : List AV) (x_25 : Int) (s_37 : List UInt8) (l_49 : List AV) : midRun cal (n + 3) 12 (goTo [0, 5, 0, 0, 5, 7, 5, 0, 5, 0, 0, 5, 2, 3, 0, 0, 5, 7, 5, 5, 5, 5, 0, 0, 5, 2, 3, 0, 0, 5, 6, 5, 0, 2, 0, 0, 5, 7, 5] (bodyOf 12)) 6 (mkS 205 [(0, .val (.vs 1 tg_17 l_18) .no), (1, .val (.vs 1 tg_19 l_20) .no), (2, .val (.vs 1 tg_21 l_22) .no), (7, .val (.vs 1 tg_23 l_24) .own), (9, .val (.int .i64 x_25) .no), (61, .val (.bool false) .no), (63, .val (.vs 1 tg_23 l_24) (.lS 7)), (64, .val (.vs 1 tg_19 l_20) .no), (65, .val (.int .i64 x_25) .no), (66, .val (.cptr [(.str s_37)]) .no), (67, .val (.str s_37) .no), (68, .val (.vs 1 false l_49) .own)] H nx) =
 (run Try.prog ann cal n 12 (goTo [0, 5, 0, 0, 5, 7, 5, 0, 5, 0, 0, 5, 2, 3, 0, 0, 5, 7, 5, 5, 5, 5, 0, 0, 5, 2, 3] (bodyOf 12)) (mkS 205 [(0, .val (.vs 1 tg_17 l_18) .no), (1, .val (.vs 1 tg_19 l_20) .no), (2, .val (.vs 1 tg_21 l_22) .no), (7, .val (.vs 1 false l_49) .own), (9, .val (.int .i64 (IntKind.wrap IntKind.i64 (x_25 + (1)))) .no)] H nx)) := by kernel_rfl

/-- fuel 3 -/
theorem s12_13 (cal : Oracle) (n : Nat) (H : Hp) (nx : Nat) (tg_28 : Bool) (l_29 : List AV) (tg_30 : Bool) (l_31 : List AV) (tg_32 : Bool) (l_33 : List AV) (tg_34 : Bool) (l_35 : List AV) (x_36 : Int) (c_38 : Bool) (l_50 : List AV) : midRun cal (n + 3) 12 (goTo [0, 5, 0, 0, 5, 7, 5, 0, 5, 0, 0, 5, 2, 3, 0, 0, 5, 7, 5, 5, 5, 5, 0, 0, 5, 2, 3, 0, 0, 5, 7, 5, 5, 5, 5, 0, 0, 5, 2, 3, 0, 0, 5, 6, 5, 0, 2] (bodyOf 12)) 6 (mkS 205 [(0, .val (.vs 1 tg_28 l_29) .no), (1, .val (.vs 1 tg_30 l_31) .no), (2, .val (.vs 1 tg_32 l_33) .no), (7, .val (.vs 1 tg_34 l_35) .own), (10, .val (.int .i64 x_36) .no), (72, .val (.bool true) .no), (75, .val (.vs 1 tg_34 l_35) (.lS 7)), (76, .val (.vs 1 tg_32 l_33) .no), (77, .val (.int .i64 x_36) .no), (78, .val (.cptr [(.bool c_38)]) .no), (79, .val (.bool c_38) .no), (80, .val (.vs 1 false l_50) .own)] H nx) =
 (run Try.prog ann cal n 12 (goTo [0, 5, 0, 0, 5, 7, 5, 0, 5, 0, 0, 5, 2, 3, 0, 0, 5, 7, 5, 5, 5, 5, 0, 0, 5, 2, 3, 0, 0, 5, 7, 5, 5, 5, 5, 0, 0, 5, 2, 3] (bodyOf 12)) (mkS 205 [(0, .val (.vs 1 tg_28 l_29) .no), (1, .val (.vs 1 tg_30 l_31) .no), (2, .val (.vs 1 tg_32 l_33) .no), (7, .val (.vs 1 false l_50) .own), (10, .val (.int .i64 (IntKind.wrap IntKind.i64 (x_36 + (1)))) .no)] H nx)) := by kernel_rfl

/-- fuel 3 -/
theorem s12_14 (cal : Oracle) (n : Nat) (H : Hp) (nx : Nat) (tg_39 : Bool) (l_40 : List AV) (tg_41 : Bool) (l_42 : List AV) (tg_43 : Bool) (l_44 : List AV) (tg_45 : Bool) (l_46 : List AV) (x_47 : Int) (x_48 : Int) (x_51 : Int) (x_52 : Int) (x_53 : Int) : midRun cal (n + 3) 12 (goTo [0, 5, 0, 0, 5, 7, 5, 0, 5, 0, 0, 5, 2, 3, 0, 0, 5, 7, 5, 5, 5, 5, 0, 0, 5, 2, 3, 0, 0, 5, 7, 5, 5, 5, 5, 0, 0, 5, 2, 3, 0, 0, 5, 7, 5, 5, 5, 5, 0, 5, 0, 0, 5, 2, 3, 0, 0, 5, 6, 5, 0, 2, 0] (bodyOf 12)) 4 (mkS 205 [(0, .val (.vs 1 tg_39 l_40) .no), (1, .val (.vs 1 tg_41 l_42) .no), (2, .val (.vs 1 tg_43 l_44) .no), (7, .val (.vs 1 tg_45 l_46) .own), (11, .val (.int .i64 x_47) .no), (12, .val (.int .i64 x_48) .no), (84, .val (.bool true) .no), (88, .val (.vs 1 tg_45 l_46) (.lS 7)), (89, .val (.int .i64 x_47) .no), (90, .val (.vs 1 tg_45 (List.drop (Int.toNat x_47) (List.take (List.length l_46) l_46))) .no), (91, .val (.tuple [(.int .i64 x_51), (.int .i64 x_52), (.int .i64 x_53)]) .no)] H nx) =
 (br (decide ((0 : Int) ≤ x_48))
 (br (decide (x_48 < (((List.length l_40) : Nat) : Int)))
 ((nth l_40 (Int.toNat x_48)).bind fun c1 =>
 (midRun cal n 12 (goTo [0, 5, 0, 0, 5, 7, 5, 0, 5, 0, 0, 5, 2, 3, 0, 0, 5, 7, 5, 5, 5, 5, 0, 0, 5, 2, 3, 0, 0, 5, 7, 5, 5, 5, 5, 0, 0, 5, 2, 3, 0, 0, 5, 7, 5, 5, 5, 5, 0, 5, 0, 0, 5, 2, 3, 0, 0, 5, 6, 5, 0, 2, 0, 5, 0, 0] (bodyOf 12)) 4 (mkS 205 [(0, .val (.vs 1 tg_39 l_40) .no), (1, .val (.vs 1 tg_41 l_42) .no), (2, .val (.vs 1 tg_43 l_44) .no), (7, .val (.vs 1 tg_45 l_46) .own), (11, .val (.int .i64 x_47) .no), (12, .val (.int .i64 x_48) .no), (13, .val (.int .i64 x_51) .no), (14, .val (.int .i64 x_52) .no), (15, .val (.int .i64 x_53) .no), (95, .val (.int .i64 x_51) .no), (96, .val (.vs 1 tg_39 l_40) .no), (97, .val (.int .i64 x_48) .no), (98, .val (.cptr (AV.cells c1)) .no)] H nx)))
 none)
 none) := by kernel_rfl

/-- fuel 10 -/
theorem s12_15 (cal : Oracle) (n : Nat) (H : Hp) (nx : Nat) (tg_54 : Bool) (l_55 : List AV) (tg_56 : Bool) (l_57 : List AV) (tg_58 : Bool) (l_59 : List AV) (x_60 : Int) (x_61 : Int) : run Try.prog ann cal (n + 10) 12 (goTo [0, 5, 0, 0, 5, 7, 5, 0, 5, 0, 0, 5, 2, 3, 0, 0, 5, 7, 5, 5, 5, 5, 0, 0, 5, 2, 3, 0, 0, 5, 7, 5, 5, 5, 5, 0, 0, 5, 2, 3, 0, 0, 5, 7, 5, 5, 5, 5, 0, 5, 0, 0, 5, 2, 3, 0, 0, 5, 7, 5, 5, 5, 5, 0, 0, 5, 2, 3] (bodyOf 12)) (mkS 205 [(1, .val (.vs 1 tg_54 l_55) .no), (2, .val (.vs 1 tg_56 l_57) .no), (7, .val (.vs 1 tg_58 l_59) .own), (11, .val (.int .i64 x_60) .no), (16, .val (.int .i64 x_61) .no)] H nx) =
 (br (decide (x_61 < (((List.length l_55) : Nat) : Int)))
 (br (decide ((0 : Int) ≤ x_60))
 (br (decide (x_60 ≤ (((List.length l_59) : Nat) : Int)))
 (br (pureL [(.vs 1 tg_58 (List.drop (Int.toNat x_60) (List.take (List.length l_59) l_59)))]) ((cal 23 [(.vs 1 tg_58 (List.drop (Int.toNat x_60) (List.take (List.length l_59) l_59)))] Hp.none 0).bind fun r1 => br (AV.pure r1.v)
 (midRun cal (n + 1) 12 (goTo [0, 5, 0, 0, 5, 7, 5, 0, 5, 0, 0, 5, 2, 3, 0, 0, 5, 7, 5, 5, 5, 5, 0, 0, 5, 2, 3, 0, 0, 5, 7, 5, 5, 5, 5, 0, 0, 5, 2, 3, 0, 0, 5, 7, 5, 5, 5, 5, 0, 5, 0, 0, 5, 2, 3, 0, 0, 5, 7, 5, 5, 5, 5, 0, 0, 5, 2, 3, 0, 0, 5, 6, 5, 0, 2, 0] (bodyOf 12)) 4 (mkS 205 [(1, .val (.vs 1 tg_54 l_55) .no), (2, .val (.vs 1 tg_56 l_57) .no), (7, .val (.vs 1 tg_58 l_59) .own), (11, .val (.int .i64 x_60) .no), (16, .val (.int .i64 x_61) .no), (123, .val (.bool true) .no), (127, .val (.vs 1 tg_58 l_59) (.lS 7)), (128, .val (.int .i64 x_60) .no), (129, .val (.vs 1 tg_58 (List.drop (Int.toNat x_60) (List.take (List.length l_59) l_59))) .no), (130, .val r1.v .no)] H nx)) none) none)
 none)
 none)
 (run Try.prog ann cal n 12 (goTo [0, 5, 0, 0, 5, 7, 5, 0, 5, 0, 0, 5, 2, 3, 0, 0, 5, 7, 5, 5, 5, 5, 0, 0, 5, 2, 3, 0, 0, 5, 7, 5, 5, 5, 5, 0, 0, 5, 2, 3, 0, 0, 5, 7, 5, 5, 5, 5, 0, 5, 0, 0, 5, 2, 3, 0, 0, 5, 7, 5, 5, 5, 5, 0, 0, 5, 2, 3, 0, 0, 5, 7, 5, 5, 5, 5, 0, 0, 5, 2, 3] (bodyOf 12)) (mkS 205 [(2, .val (.vs 1 tg_56 l_57) .no), (7, .val (.vs 1 tg_58 l_59) .own), (11, .val (.int .i64 x_60) .no), (20, .val (.int .i64 (0)) .no)] H nx))) := by kernel_rfl

/-- fuel 6 -/
theorem s12_16 (cal : Oracle) (n : Nat) (H : Hp) (nx : Nat) (tg_39 : Bool) (l_40 : List AV) (tg_41 : Bool) (l_42 : List AV) (tg_43 : Bool) (l_44 : List AV) (tg_45 : Bool) (l_46 : List AV) (x_47 : Int) (x_48 : Int) (x_51 : Int) (x_52 : Int) (x_53 : Int) (x_62 : Int) : midRun cal (n + 6) 12 (goTo [0, 5, 0, 0, 5, 7, 5, 0, 5, 0, 0, 5, 2, 3, 0, 0, 5, 7, 5, 5, 5, 5, 0, 0, 5, 2, 3, 0, 0, 5, 7, 5, 5, 5, 5, 0, 0, 5, 2, 3, 0, 0, 5, 7, 5, 5, 5, 5, 0, 5, 0, 0, 5, 2, 3, 0, 0, 5, 6, 5, 0, 2, 0, 5, 0, 0] (bodyOf 12)) 4 (mkS 205 [(0, .val (.vs 1 tg_39 l_40) .no), (1, .val (.vs 1 tg_41 l_42) .no), (2, .val (.vs 1 tg_43 l_44) .no), (7, .val (.vs 1 tg_45 l_46) .own), (11, .val (.int .i64 x_47) .no), (12, .val (.int .i64 x_48) .no), (13, .val (.int .i64 x_51) .no), (14, .val (.int .i64 x_52) .no), (15, .val (.int .i64 x_53) .no), (95, .val (.int .i64 x_51) .no), (96, .val (.vs 1 tg_39 l_40) .no), (97, .val (.int .i64 x_48) .no), (98, .val (.cptr [(.int .i64 x_62)]) .no)] H nx) =
 (br (!(decide (x_51 = x_62)))
 (some ⟨(.bool false), H, nx⟩)
 (br (decide (x_52 < (1)))
 (some ⟨(.bool false), H, nx⟩)
 (br (decide ((IntKind.wrap IntKind.i64 ((((List.length l_46) : Nat) : Int) - x_47)) < x_52))
 (some ⟨(.bool false), H, nx⟩)
 (br (!(decide (x_53 = (0))))
 (some ⟨(.bool false), H, nx⟩)
 (run Try.prog ann cal n 12 (goTo [0, 5, 0, 0, 5, 7, 5, 0, 5, 0, 0, 5, 2, 3, 0, 0, 5, 7, 5, 5, 5, 5, 0, 0, 5, 2, 3, 0, 0, 5, 7, 5, 5, 5, 5, 0, 0, 5, 2, 3, 0, 0, 5, 7, 5, 5, 5, 5, 0, 5, 0, 0, 5, 2, 3] (bodyOf 12)) (mkS 205 [(0, .val (.vs 1 tg_39 l_40) .no), (1, .val (.vs 1 tg_41 l_42) .no), (2, .val (.vs 1 tg_43 l_44) .no), (7, .val (.vs 1 tg_45 l_46) .own), (11, .val (.int .i64 (IntKind.wrap IntKind.i64 (x_47 + x_52))) .no), (12, .val (.int .i64 (IntKind.wrap IntKind.i64 (x_48 + (1)))) .no)] H nx)))))) := by kernel_rfl

/-- fuel 3 -/
theorem s12_17 (cal : Oracle) (n : Nat) (H : Hp) (nx : Nat) (tg_54 : Bool) (l_55 : List AV) (tg_56 : Bool) (l_57 : List AV) (tg_58 : Bool) (l_59 : List AV) (x_60 : Int) (x_61 : Int) (s_63 : List UInt8) (x_64 : Int) (x_65 : Int) : midRun cal (n + 3) 12 (goTo [0, 5, 0, 0, 5, 7, 5, 0, 5, 0, 0, 5, 2, 3, 0, 0, 5, 7, 5, 5, 5, 5, 0, 0, 5, 2, 3, 0, 0, 5, 7, 5, 5, 5, 5, 0, 0, 5, 2, 3, 0, 0, 5, 7, 5, 5, 5, 5, 0, 5, 0, 0, 5, 2, 3, 0, 0, 5, 7, 5, 5, 5, 5, 0, 0, 5, 2, 3, 0, 0, 5, 6, 5, 0, 2, 0] (bodyOf 12)) 4 (mkS 205 [(1, .val (.vs 1 tg_54 l_55) .no), (2, .val (.vs 1 tg_56 l_57) .no), (7, .val (.vs 1 tg_58 l_59) .own), (11, .val (.int .i64 x_60) .no), (16, .val (.int .i64 x_61) .no), (123, .val (.bool true) .no), (127, .val (.vs 1 tg_58 l_59) (.lS 7)), (128, .val (.int .i64 x_60) .no), (129, .val (.vs 1 tg_58 (List.drop (Int.toNat x_60) (List.take (List.length l_59) l_59))) .no), (130, .val (.tuple [(.str s_63), (.int .i64 x_64), (.int .i64 x_65)]) .no)] H nx) =
 (br (decide ((0 : Int) ≤ x_61))
 (br (decide (x_61 < (((List.length l_55) : Nat) : Int)))
 ((nth l_55 (Int.toNat x_61)).bind fun c1 =>
 (midRun cal n 12 (goTo [0, 5, 0, 0, 5, 7, 5, 0, 5, 0, 0, 5, 2, 3, 0, 0, 5, 7, 5, 5, 5, 5, 0, 0, 5, 2, 3, 0, 0, 5, 7, 5, 5, 5, 5, 0, 0, 5, 2, 3, 0, 0, 5, 7, 5, 5, 5, 5, 0, 5, 0, 0, 5, 2, 3, 0, 0, 5, 7, 5, 5, 5, 5, 0, 0, 5, 2, 3, 0, 0, 5, 6, 5, 0, 2, 0, 5, 0, 0] (bodyOf 12)) 4 (mkS 205 [(1, .val (.vs 1 tg_54 l_55) .no), (2, .val (.vs 1 tg_56 l_57) .no), (7, .val (.vs 1 tg_58 l_59) .own), (11, .val (.int .i64 x_60) .no), (16, .val (.int .i64 x_61) .no), (17, .val (.str s_63) .no), (18, .val (.int .i64 x_64) .no), (19, .val (.int .i64 x_65) .no), (134, .val (.str s_63) .no), (135, .val (.vs 1 tg_54 l_55) .no), (136, .val (.int .i64 x_61) .no), (137, .val (.cptr (AV.cells c1)) .no)] H nx)))
 none)
 none) := by kernel_rfl

/-- fuel 9 -/
theorem s12_18 (cal : Oracle) (n : Nat) (H : Hp) (nx : Nat) (tg_66 : Bool) (l_67 : List AV) (tg_68 : Bool) (l_69 : List AV) (x_70 : Int) (x_71 : Int) : run Try.prog ann cal (n + 9) 12 (goTo [0, 5, 0, 0, 5, 7, 5, 0, 5, 0, 0, 5, 2, 3, 0, 0, 5, 7, 5, 5, 5, 5, 0, 0, 5, 2, 3, 0, 0, 5, 7, 5, 5, 5, 5, 0, 0, 5, 2, 3, 0, 0, 5, 7, 5, 5, 5, 5, 0, 5, 0, 0, 5, 2, 3, 0, 0, 5, 7, 5, 5, 5, 5, 0, 0, 5, 2, 3, 0, 0, 5, 7, 5, 5, 5, 5, 0, 0, 5, 2, 3] (bodyOf 12)) (mkS 205 [(2, .val (.vs 1 tg_66 l_67) .no), (7, .val (.vs 1 tg_68 l_69) .own), (11, .val (.int .i64 x_70) .no), (20, .val (.int .i64 x_71) .no)] H nx) =
 (br (decide (x_71 < (((List.length l_67) : Nat) : Int)))
 (br (decide ((0 : Int) ≤ x_70))
 (br (decide (x_70 ≤ (((List.length l_69) : Nat) : Int)))
 (br (pureL [(.vs 1 tg_68 (List.drop (Int.toNat x_70) (List.take (List.length l_69) l_69)))]) ((cal 26 [(.vs 1 tg_68 (List.drop (Int.toNat x_70) (List.take (List.length l_69) l_69)))] Hp.none 0).bind fun r1 => br (AV.pure r1.v)
 (midRun cal n 12 (goTo [0, 5, 0, 0, 5, 7, 5, 0, 5, 0, 0, 5, 2, 3, 0, 0, 5, 7, 5, 5, 5, 5, 0, 0, 5, 2, 3, 0, 0, 5, 7, 5, 5, 5, 5, 0, 0, 5, 2, 3, 0, 0, 5, 7, 5, 5, 5, 5, 0, 5, 0, 0, 5, 2, 3, 0, 0, 5, 7, 5, 5, 5, 5, 0, 0, 5, 2, 3, 0, 0, 5, 7, 5, 5, 5, 5, 0, 0, 5, 2, 3, 0, 0, 5, 6, 5, 0, 2, 0] (bodyOf 12)) 4 (mkS 205 [(2, .val (.vs 1 tg_66 l_67) .no), (7, .val (.vs 1 tg_68 l_69) .own), (11, .val (.int .i64 x_70) .no), (20, .val (.int .i64 x_71) .no), (162, .val (.bool true) .no), (166, .val (.vs 1 tg_68 l_69) (.lS 7)), (167, .val (.int .i64 x_70) .no), (168, .val (.vs 1 tg_68 (List.drop (Int.toNat x_70) (List.take (List.length l_69) l_69))) .no), (169, .val r1.v .no)] H nx)) none) none)
 none)
 none)
 (br (decide (x_70 = (((List.length l_69) : Nat) : Int)))
 (br (pureL []) ((cal 13 [] Hp.none 0).bind fun r2 => br (AV.pure r2.v)
 (midRun cal (n + 2) 12 (goTo [0, 5, 0, 0, 5, 7, 5, 0, 5, 0, 0, 5, 2, 3, 0, 0, 5, 7, 5, 5, 5, 5, 0, 0, 5, 2, 3, 0, 0, 5, 7, 5, 5, 5, 5, 0, 0, 5, 2, 3, 0, 0, 5, 7, 5, 5, 5, 5, 0, 5, 0, 0, 5, 2, 3, 0, 0, 5, 7, 5, 5, 5, 5, 0, 0, 5, 2, 3, 0, 0, 5, 7, 5, 5, 5, 5, 0, 0, 5, 2, 3, 0, 0, 5, 7, 5, 5, 5, 5, 0] (bodyOf 12)) 6 (mkS 205 [(2, .val (.vs 1 tg_66 l_67) .no), (7, .val (.vs 1 tg_68 l_69) .own), (11, .val (.int .i64 x_70) .no), (20, .val (.int .i64 x_71) .no), (162, .val (.bool false) .no), (198, .val (.int .i64 x_70) .no), (199, .val (.vs 1 tg_68 l_69) (.lS 7)), (200, .val (.int .i64 (((List.length l_69) : Nat) : Int)) .no), (201, .val (.bool (decide (x_70 = (((List.length l_69) : Nat) : Int)))) .no), (202, .val (.bool true) .no), (203, .val r2.v .no)] H nx)) none) none)
 (some ⟨(.bool false), H, nx⟩))) := by kernel_rfl

/-- fuel 6 -/
theorem s12_19 (cal : Oracle) (n : Nat) (H : Hp) (nx : Nat) (tg_54 : Bool) (l_55 : List AV) (tg_56 : Bool) (l_57 : List AV) (tg_58 : Bool) (l_59 : List AV) (x_60 : Int) (x_61 : Int) (s_63 : List UInt8) (x_64 : Int) (x_65 : Int) (s_72 : List UInt8) : midRun cal (n + 6) 12 (goTo [0, 5, 0, 0, 5, 7, 5, 0, 5, 0, 0, 5, 2, 3, 0, 0, 5, 7, 5, 5, 5, 5, 0, 0, 5, 2, 3, 0, 0, 5, 7, 5, 5, 5, 5, 0, 0, 5, 2, 3, 0, 0, 5, 7, 5, 5, 5, 5, 0, 5, 0, 0, 5, 2, 3, 0, 0, 5, 7, 5, 5, 5, 5, 0, 0, 5, 2, 3, 0, 0, 5, 6, 5, 0, 2, 0, 5, 0, 0] (bodyOf 12)) 4 (mkS 205 [(1, .val (.vs 1 tg_54 l_55) .no), (2, .val (.vs 1 tg_56 l_57) .no), (7, .val (.vs 1 tg_58 l_59) .own), (11, .val (.int .i64 x_60) .no), (16, .val (.int .i64 x_61) .no), (17, .val (.str s_63) .no), (18, .val (.int .i64 x_64) .no), (19, .val (.int .i64 x_65) .no), (134, .val (.str s_63) .no), (135, .val (.vs 1 tg_54 l_55) .no), (136, .val (.int .i64 x_61) .no), (137, .val (.cptr [(.str s_72)]) .no)] H nx) =
 (br (!(eqS s_63 s_72))
 (some ⟨(.bool false), H, nx⟩)
 (br (decide (x_64 < (1)))
 (some ⟨(.bool false), H, nx⟩)
 (br (decide ((IntKind.wrap IntKind.i64 ((((List.length l_59) : Nat) : Int) - x_60)) < x_64))
 (some ⟨(.bool false), H, nx⟩)
 (br (!(decide (x_65 = (0))))
 (some ⟨(.bool false), H, nx⟩)
 (run Try.prog ann cal n 12 (goTo [0, 5, 0, 0, 5, 7, 5, 0, 5, 0, 0, 5, 2, 3, 0, 0, 5, 7, 5, 5, 5, 5, 0, 0, 5, 2, 3, 0, 0, 5, 7, 5, 5, 5, 5, 0, 0, 5, 2, 3, 0, 0, 5, 7, 5, 5, 5, 5, 0, 5, 0, 0, 5, 2, 3, 0, 0, 5, 7, 5, 5, 5, 5, 0, 0, 5, 2, 3] (bodyOf 12)) (mkS 205 [(1, .val (.vs 1 tg_54 l_55) .no), (2, .val (.vs 1 tg_56 l_57) .no), (7, .val (.vs 1 tg_58 l_59) .own), (11, .val (.int .i64 (IntKind.wrap IntKind.i64 (x_60 + x_64))) .no), (16, .val (.int .i64 (IntKind.wrap IntKind.i64 (x_61 + (1)))) .no)] H nx)))))) := by kernel_rfl

/-- fuel 3 -/
theorem s12_20 (cal : Oracle) (n : Nat) (H : Hp) (nx : Nat) (tg_66 : Bool) (l_67 : List AV) (tg_68 : Bool) (l_69 : List AV) (x_70 : Int) (x_71 : Int) (c_73 : Bool) (x_74 : Int) (x_75 : Int) : midRun cal (n + 3) 12 (goTo [0, 5, 0, 0, 5, 7, 5, 0, 5, 0, 0, 5, 2, 3, 0, 0, 5, 7, 5, 5, 5, 5, 0, 0, 5, 2, 3, 0, 0, 5, 7, 5, 5, 5, 5, 0, 0, 5, 2, 3, 0, 0, 5, 7, 5, 5, 5, 5, 0, 5, 0, 0, 5, 2, 3, 0, 0, 5, 7, 5, 5, 5, 5, 0, 0, 5, 2, 3, 0, 0, 5, 7, 5, 5, 5, 5, 0, 0, 5, 2, 3, 0, 0, 5, 6, 5, 0, 2, 0] (bodyOf 12)) 4 (mkS 205 [(2, .val (.vs 1 tg_66 l_67) .no), (7, .val (.vs 1 tg_68 l_69) .own), (11, .val (.int .i64 x_70) .no), (20, .val (.int .i64 x_71) .no), (162, .val (.bool true) .no), (166, .val (.vs 1 tg_68 l_69) (.lS 7)), (167, .val (.int .i64 x_70) .no), (168, .val (.vs 1 tg_68 (List.drop (Int.toNat x_70) (List.take (List.length l_69) l_69))) .no), (169, .val (.tuple [(.bool c_73), (.int .i64 x_74), (.int .i64 x_75)]) .no)] H nx) =
 (br (decide ((0 : Int) ≤ x_71))
 (br (decide (x_71 < (((List.length l_67) : Nat) : Int)))
 ((nth l_67 (Int.toNat x_71)).bind fun c1 =>
 (midRun cal n 12 (goTo [0, 5, 0, 0, 5, 7, 5, 0, 5, 0, 0, 5, 2, 3, 0, 0, 5, 7, 5, 5, 5, 5, 0, 0, 5, 2, 3, 0, 0, 5, 7, 5, 5, 5, 5, 0, 0, 5, 2, 3, 0, 0, 5, 7, 5, 5, 5, 5, 0, 5, 0, 0, 5, 2, 3, 0, 0, 5, 7, 5, 5, 5, 5, 0, 0, 5, 2, 3, 0, 0, 5, 7, 5, 5, 5, 5, 0, 0, 5, 2, 3, 0, 0, 5, 6, 5, 0, 2, 0, 5, 0, 0] (bodyOf 12)) 4 (mkS 205 [(2, .val (.vs 1 tg_66 l_67) .no), (7, .val (.vs 1 tg_68 l_69) .own), (11, .val (.int .i64 x_70) .no), (20, .val (.int .i64 x_71) .no), (21, .val (.bool c_73) .no), (22, .val (.int .i64 x_74) .no), (23, .val (.int .i64 x_75) .no), (173, .val (.bool c_73) .no), (174, .val (.vs 1 tg_66 l_67) .no), (175, .val (.int .i64 x_71) .no), (176, .val (.cptr (AV.cells c1)) .no)] H nx)))
 none)
 none) := by kernel_rfl

/-- fuel 1 -/
theorem s12_21 (cal : Oracle) (n : Nat) (H : Hp) (nx : Nat) (tg_66 : Bool) (l_67 : List AV) (tg_68 : Bool) (l_69 : List AV) (x_70 : Int) (x_71 : Int) : midRun cal (n + 1) 12 (goTo [0, 5, 0, 0, 5, 7, 5, 0, 5, 0, 0, 5, 2, 3, 0, 0, 5, 7, 5, 5, 5, 5, 0, 0, 5, 2, 3, 0, 0, 5, 7, 5, 5, 5, 5, 0, 0, 5, 2, 3, 0, 0, 5, 7, 5, 5, 5, 5, 0, 5, 0, 0, 5, 2, 3, 0, 0, 5, 7, 5, 5, 5, 5, 0, 0, 5, 2, 3, 0, 0, 5, 7, 5, 5, 5, 5, 0, 0, 5, 2, 3, 0, 0, 5, 7, 5, 5, 5, 5, 0] (bodyOf 12)) 6 (mkS 205 [(2, .val (.vs 1 tg_66 l_67) .no), (7, .val (.vs 1 tg_68 l_69) .own), (11, .val (.int .i64 x_70) .no), (20, .val (.int .i64 x_71) .no), (162, .val (.bool false) .no), (198, .val (.int .i64 x_70) .no), (199, .val (.vs 1 tg_68 l_69) (.lS 7)), (200, .val (.int .i64 (((List.length l_69) : Nat) : Int)) .no), (201, .val (.bool (decide (x_70 = (((List.length l_69) : Nat) : Int)))) .no), (202, .val (.bool true) .no), (203, .val (.bool true) .no)] H nx) =
 (some ⟨(.bool true), H, nx⟩) := by kernel_rfl

/-- fuel 6 -/
theorem s12_22 (cal : Oracle) (n : Nat) (H : Hp) (nx : Nat) (tg_66 : Bool) (l_67 : List AV) (tg_68 : Bool) (l_69 : List AV) (x_70 : Int) (x_71 : Int) (c_73 : Bool) (x_74 : Int) (x_75 : Int) (c_76 : Bool) : midRun cal (n + 6) 12 (goTo [0, 5, 0, 0, 5, 7, 5, 0, 5, 0, 0, 5, 2, 3, 0, 0, 5, 7, 5, 5, 5, 5, 0, 0, 5, 2, 3, 0, 0, 5, 7, 5, 5, 5, 5, 0, 0, 5, 2, 3, 0, 0, 5, 7, 5, 5, 5, 5, 0, 5, 0, 0, 5, 2, 3, 0, 0, 5, 7, 5, 5, 5, 5, 0, 0, 5, 2, 3, 0, 0, 5, 7, 5, 5, 5, 5, 0, 0, 5, 2, 3, 0, 0, 5, 6, 5, 0, 2, 0, 5, 0, 0] (bodyOf 12)) 4 (mkS 205 [(2, .val (.vs 1 tg_66 l_67) .no), (7, .val (.vs 1 tg_68 l_69) .own), (11, .val (.int .i64 x_70) .no), (20, .val (.int .i64 x_71) .no), (21, .val (.bool c_73) .no), (22, .val (.int .i64 x_74) .no), (23, .val (.int .i64 x_75) .no), (173, .val (.bool c_73) .no), (174, .val (.vs 1 tg_66 l_67) .no), (175, .val (.int .i64 x_71) .no), (176, .val (.cptr [(.bool c_76)]) .no)] H nx) =
 (br (!(c_73 == c_76))
 (some ⟨(.bool false), H, nx⟩)
 (br (!(decide (x_74 = (1))))
 (some ⟨(.bool false), H, nx⟩)
 (br (decide ((IntKind.wrap IntKind.i64 ((((List.length l_69) : Nat) : Int) - x_70)) < x_74))
 (some ⟨(.bool false), H, nx⟩)
 (br (!(decide (x_75 = (0))))
 (some ⟨(.bool false), H, nx⟩)
 (run Try.prog ann cal n 12 (goTo [0, 5, 0, 0, 5, 7, 5, 0, 5, 0, 0, 5, 2, 3, 0, 0, 5, 7, 5, 5, 5, 5, 0, 0, 5, 2, 3, 0, 0, 5, 7, 5, 5, 5, 5, 0, 0, 5, 2, 3, 0, 0, 5, 7, 5, 5, 5, 5, 0, 5, 0, 0, 5, 2, 3, 0, 0, 5, 7, 5, 5, 5, 5, 0, 0, 5, 2, 3, 0, 0, 5, 7, 5, 5, 5, 5, 0, 0, 5, 2, 3] (bodyOf 12)) (mkS 205 [(2, .val (.vs 1 tg_66 l_67) .no), (7, .val (.vs 1 tg_68 l_69) .own), (11, .val (.int .i64 (IntKind.wrap IntKind.i64 (x_70 + x_74))) .no), (20, .val (.int .i64 (IntKind.wrap IntKind.i64 (x_71 + (1)))) .no)] H nx)))))) := by kernel_rfl

end Go.Proofs.Ytfdijfnmloddcaa
