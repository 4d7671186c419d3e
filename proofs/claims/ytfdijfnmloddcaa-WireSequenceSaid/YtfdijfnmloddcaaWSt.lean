/- Stage laws, printed by gen_wire.py. -/
import Derived.Test.YtfdijfnmloddcaaWPre
namespace Go.Proofs.Ytfdijfnmloddcaa
open Go Go.Vai

/-- fuel 7 -/
theorem s14_0 (cal : Oracle) (n : Nat) (H : Hp) (nx : Nat) (l_1 : List AV) (tg_2 : Bool) (x_3 : Int) : run Try.prog ann cal (n + 7) 14 (bodyOf 14) (mkS 29 [(0, .val (.vs 1 tg_2 l_1) .no), (1, .val (.int .u64 x_3) .no)] H nx) =
 (run Try.prog ann cal n 14 (goTo [0, 5, 0, 5, 0, 2, 3] (bodyOf 14)) (mkS 29 [(0, .val (.vs 1 tg_2 l_1) .no), (1, .val (.int .u64 x_3) .no), (5, .val (.vs 1 true []) .own)] H nx)) := by kernel_rfl

/-- fuel 11 -/
theorem s14_1 (cal : Oracle) (n : Nat) (H : Hp) (nx : Nat) (tg_4 : Bool) (l_5 : List AV) (x_6 : Int) (tg_7 : Bool) (l_8 : List AV) : run Try.prog ann cal (n + 11) 14 (goTo [0, 5, 0, 5, 0, 2, 3] (bodyOf 14)) (mkS 29 [(0, .val (.vs 1 tg_4 l_5) .no), (1, .val (.int .u64 x_6) .no), (5, .val (.vs 1 tg_7 l_8) .own)] H nx) =
 (br (decide ((128) ≤ x_6))
 (br (Nat.ble (((List.length l_8) + 1) * 1) maxBytes)
 (br (Nat.ble ((List.length l_8) + 1) maxBytes)
 (run Try.prog ann cal n 14 (goTo [0, 5, 0, 5, 0, 2, 3] (bodyOf 14)) (mkS 29 [(0, .val (.vs 1 tg_4 l_5) .no), (1, .val (.int .u64 (shrZ IntKind.u64 x_6 (7))) .no), (5, .val (.vs 1 false (l_8 ++ [(.int .u8 (bits .or .u8 (IntKind.wrap IntKind.u8 x_6) (128)))])) .own)] H nx))
 none)
 none)
 (br (Nat.ble (((List.length l_8) + 1) * 1) maxBytes)
 (br (Nat.ble ((List.length l_8) + 1) maxBytes)
 (br (decide ((0 : Int) ≤ (((List.length l_5) : Nat) : Int)))
 (br (decide ((((List.length l_5) : Nat) : Int) ≤ (((List.length l_5) : Nat) : Int)))
 (br (decide ((((List.length l_5) : Nat) : Int) = (((Int.toNat (((List.length l_5) : Nat) : Int)) : Nat) : Int)))
 (br (Nat.ble (((List.length (List.drop 0 (List.take (Int.toNat (((List.length l_5) : Nat) : Int)) l_5))) + (List.length (l_8 ++ [(.int .u8 (IntKind.wrap IntKind.u8 x_6))]))) * 1) maxBytes)
 (br (Nat.ble ((List.length (List.drop 0 (List.take (Int.toNat (((List.length l_5) : Nat) : Int)) l_5))) + (List.length (l_8 ++ [(.int .u8 (IntKind.wrap IntKind.u8 x_6))]))) maxBytes)
 (some ⟨(.vs 1 false ((List.drop 0 (List.take (Int.toNat (((List.length l_5) : Nat) : Int)) l_5)) ++ (l_8 ++ [(.int .u8 (IntKind.wrap IntKind.u8 x_6))]))), H, nx⟩)
 none)
 none)
 none)
 none)
 none)
 none)
 none)) := by kernel_rfl

/-- fuel 7 -/
theorem s15_0 (cal : Oracle) (n : Nat) (H : Hp) (nx : Nat) (l_9 : List AV) (tg_10 : Bool) (x_11 : Int) : run Try.prog ann cal (n + 7) 15 (bodyOf 15) (mkS 25 [(0, .val (.vs 1 tg_10 l_9) .no), (1, .val (.int .u64 x_11) .no)] H nx) =
 (br (Nat.ble ((0 + (List.length l_9)) * 1) maxBytes)
 (br (Nat.ble (0 + (List.length l_9)) maxBytes)
 (run Try.prog ann cal n 15 (goTo [0, 5, 0, 5, 0, 2, 3] (bodyOf 15)) (mkS 25 [(1, .val (.int .u64 x_11) .no), (5, .val (.vs 1 false ([] ++ l_9)) .own)] H nx))
 none)
 none) := by kernel_rfl

/-- fuel 11 -/
theorem s15_1 (cal : Oracle) (n : Nat) (H : Hp) (nx : Nat) (x_12 : Int) (tg_13 : Bool) (l_14 : List AV) : run Try.prog ann cal (n + 11) 15 (goTo [0, 5, 0, 5, 0, 2, 3] (bodyOf 15)) (mkS 25 [(1, .val (.int .u64 x_12) .no), (5, .val (.vs 1 tg_13 l_14) .own)] H nx) =
 (br (decide ((128) ≤ x_12))
 (br (Nat.ble (((List.length l_14) + 1) * 1) maxBytes)
 (br (Nat.ble ((List.length l_14) + 1) maxBytes)
 (run Try.prog ann cal n 15 (goTo [0, 5, 0, 5, 0, 2, 3] (bodyOf 15)) (mkS 25 [(1, .val (.int .u64 (IntKind.wrap IntKind.u64 (Int.tdiv x_12 (128)))) .no), (5, .val (.vs 1 false (l_14 ++ [(.int .u8 (IntKind.wrap IntKind.u8 ((IntKind.wrap IntKind.u8 (Int.tmod x_12 (128))) + (128))))])) .own)] H nx))
 none)
 none)
 (br (Nat.ble (((List.length l_14) + 1) * 1) maxBytes)
 (br (Nat.ble ((List.length l_14) + 1) maxBytes)
 (some ⟨(.vs 1 false (l_14 ++ [(.int .u8 (IntKind.wrap IntKind.u8 x_12))])), H, nx⟩)
 none)
 none)) := by kernel_rfl

/-- fuel 14 -/
theorem s16_0 (cal : Oracle) (n : Nat) (H : Hp) (nx : Nat) (l_15 : List AV) (tg_16 : Bool) : run Try.prog ann cal (n + 14) 16 (bodyOf 16) (mkS 42 [(0, .val (.vs 1 tg_16 l_15) .no)] H nx) =
 (br (decide ((0) = (((List.length l_15) : Nat) : Int)))
 (some ⟨(.tuple [(.int .u64 (0)), (.int .i64 (0)), (.int .i64 (1))]), H, nx⟩)
 (br (decide ((0) < (((List.length l_15) : Nat) : Int)))
 ((nth l_15 (Int.toNat (0))).bind fun c1 =>
 (midRun cal n 16 (goTo [0, 5, 4, 0, 5, 0, 5, 0, 0, 5, 7, 5, 0] (bodyOf 16)) 3 (mkS 42 [(0, .val (.vs 1 tg_16 l_15) .no), (5, .val (.int .u64 (0)) .no), (6, .val (.int .i64 (0)) .no), (11, .val (.bool false) .no), (12, .val (.vs 1 tg_16 l_15) .no), (13, .val (.int .i64 (0)) .no), (14, .val (.cptr (AV.cells c1)) .no)] H nx)))
 none)) := by kernel_rfl

/-- fuel 22 -/
theorem s16_1 (cal : Oracle) (n : Nat) (H : Hp) (nx : Nat) (l_15 : List AV) (tg_16 : Bool) (x_17 : Int) : midRun cal (n + 22) 16 (goTo [0, 5, 4, 0, 5, 0, 5, 0, 0, 5, 7, 5, 0] (bodyOf 16)) 3 (mkS 42 [(0, .val (.vs 1 tg_16 l_15) .no), (5, .val (.int .u64 (0)) .no), (6, .val (.int .i64 (0)) .no), (11, .val (.bool false) .no), (12, .val (.vs 1 tg_16 l_15) .no), (13, .val (.int .i64 (0)) .no), (14, .val (.cptr [(.int .u8 x_17)]) .no)] H nx) =
 (br (decide ((128) ≤ x_17))
 (run Try.prog ann cal (n + 8) 16 (goTo [0, 5, 4, 9, 0] (bodyOf 16)) (mkS 42 [(0, .val (.vs 1 tg_16 l_15) .no), (5, .val (.int .u64 (bits .or .u64 (0) (shlZ IntKind.u64 (IntKind.wrap IntKind.u64 (bits .andNot .u8 x_17 (128))) (0)))) .no), (6, .val (.int .i64 (1)) .no), (7, .val (.int .u8 x_17) .no), (33, .val (.bool true) .no)] H nx))
 (br (decide (x_17 = (0)))
 (some ⟨(.tuple [(.int .u64 (bits .or .u64 (0) (shlZ IntKind.u64 (IntKind.wrap IntKind.u64 (bits .andNot .u8 x_17 (128))) (0)))), (.int .i64 (1)), (.int .i64 (0))]), H, nx⟩)
 (some ⟨(.tuple [(.int .u64 (bits .or .u64 (0) (shlZ IntKind.u64 (IntKind.wrap IntKind.u64 (bits .andNot .u8 x_17 (128))) (0)))), (.int .i64 (1)), (.int .i64 (0))]), H, nx⟩))) := by kernel_rfl

/-- fuel 9 -/
theorem s16_2 (cal : Oracle) (n : Nat) (H : Hp) (nx : Nat) (tg_18 : Bool) (l_19 : List AV) (x_20 : Int) (x_21 : Int) (x_22 : Int) (c_23 : Bool) : run Try.prog ann cal (n + 9) 16 (goTo [0, 5, 4, 9, 0] (bodyOf 16)) (mkS 42 [(0, .val (.vs 1 tg_18 l_19) .no), (5, .val (.int .u64 x_20) .no), (6, .val (.int .i64 x_21) .no), (7, .val (.int .u8 x_22) .no), (33, .val (.bool c_23) .no)] H nx) =
 (br (decide (x_21 = (((List.length l_19) : Nat) : Int)))
 (some ⟨(.tuple [(.int .u64 (0)), (.int .i64 (0)), (.int .i64 (1))]), H, nx⟩)
 (br (decide ((0 : Int) ≤ x_21))
 (br (decide (x_21 < (((List.length l_19) : Nat) : Int)))
 ((nth l_19 (Int.toNat x_21)).bind fun c1 =>
 (midRun cal n 16 (goTo [0, 5, 4, 9, 0, 0, 5, 0, 0, 5, 7, 5, 0] (bodyOf 16)) 3 (mkS 42 [(0, .val (.vs 1 tg_18 l_19) .no), (5, .val (.int .u64 x_20) .no), (6, .val (.int .i64 x_21) .no), (11, .val (.bool false) .no), (12, .val (.vs 1 tg_18 l_19) .no), (13, .val (.int .i64 x_21) .no), (14, .val (.cptr (AV.cells c1)) .no)] H nx)))
 none)
 none)) := by kernel_rfl

/-- fuel 22 -/
theorem s16_3 (cal : Oracle) (n : Nat) (H : Hp) (nx : Nat) (tg_18 : Bool) (l_19 : List AV) (x_20 : Int) (x_21 : Int) (x_24 : Int) : midRun cal (n + 22) 16 (goTo [0, 5, 4, 9, 0, 0, 5, 0, 0, 5, 7, 5, 0] (bodyOf 16)) 3 (mkS 42 [(0, .val (.vs 1 tg_18 l_19) .no), (5, .val (.int .u64 x_20) .no), (6, .val (.int .i64 x_21) .no), (11, .val (.bool false) .no), (12, .val (.vs 1 tg_18 l_19) .no), (13, .val (.int .i64 x_21) .no), (14, .val (.cptr [(.int .u8 x_24)]) .no)] H nx) =
 (br (decide (x_21 = (9)))
 (br (decide ((1) < x_24))
 (some ⟨(.tuple [(.int .u64 (0)), (.int .i64 (0)), (.int .i64 (9))]), H, nx⟩)
 (br (decide ((IntKind.wrap IntKind.i64 ((7) * x_21)) < 0))
 none
 (br (decide ((128) ≤ x_24))
 (run Try.prog ann cal (n + 8) 16 (goTo [0, 5, 4, 9, 0] (bodyOf 16)) (mkS 42 [(0, .val (.vs 1 tg_18 l_19) .no), (5, .val (.int .u64 (bits .or .u64 x_20 (shlZ IntKind.u64 (IntKind.wrap IntKind.u64 (bits .andNot .u8 x_24 (128))) (IntKind.wrap IntKind.i64 ((7) * x_21))))) .no), (6, .val (.int .i64 (IntKind.wrap IntKind.i64 (x_21 + (1)))) .no), (7, .val (.int .u8 x_24) .no), (33, .val (.bool true) .no)] H nx))
 (br (decide (x_24 = (0)))
 (br (decide ((1) < (IntKind.wrap IntKind.i64 (x_21 + (1)))))
 (some ⟨(.tuple [(.int .u64 (0)), (.int .i64 (0)), (.int .i64 (2))]), H, nx⟩)
 (some ⟨(.tuple [(.int .u64 (bits .or .u64 x_20 (shlZ IntKind.u64 (IntKind.wrap IntKind.u64 (bits .andNot .u8 x_24 (128))) (IntKind.wrap IntKind.i64 ((7) * x_21))))), (.int .i64 (IntKind.wrap IntKind.i64 (x_21 + (1)))), (.int .i64 (0))]), H, nx⟩))
 (some ⟨(.tuple [(.int .u64 (bits .or .u64 x_20 (shlZ IntKind.u64 (IntKind.wrap IntKind.u64 (bits .andNot .u8 x_24 (128))) (IntKind.wrap IntKind.i64 ((7) * x_21))))), (.int .i64 (IntKind.wrap IntKind.i64 (x_21 + (1)))), (.int .i64 (0))]), H, nx⟩)))))
 (br (decide ((IntKind.wrap IntKind.i64 ((7) * x_21)) < 0))
 none
 (br (decide ((128) ≤ x_24))
 (run Try.prog ann cal (n + 8) 16 (goTo [0, 5, 4, 9, 0] (bodyOf 16)) (mkS 42 [(0, .val (.vs 1 tg_18 l_19) .no), (5, .val (.int .u64 (bits .or .u64 x_20 (shlZ IntKind.u64 (IntKind.wrap IntKind.u64 (bits .andNot .u8 x_24 (128))) (IntKind.wrap IntKind.i64 ((7) * x_21))))) .no), (6, .val (.int .i64 (IntKind.wrap IntKind.i64 (x_21 + (1)))) .no), (7, .val (.int .u8 x_24) .no), (33, .val (.bool true) .no)] H nx))
 (br (decide (x_24 = (0)))
 (br (decide ((1) < (IntKind.wrap IntKind.i64 (x_21 + (1)))))
 (some ⟨(.tuple [(.int .u64 (0)), (.int .i64 (0)), (.int .i64 (2))]), H, nx⟩)
 (some ⟨(.tuple [(.int .u64 (bits .or .u64 x_20 (shlZ IntKind.u64 (IntKind.wrap IntKind.u64 (bits .andNot .u8 x_24 (128))) (IntKind.wrap IntKind.i64 ((7) * x_21))))), (.int .i64 (IntKind.wrap IntKind.i64 (x_21 + (1)))), (.int .i64 (0))]), H, nx⟩))
 (some ⟨(.tuple [(.int .u64 (bits .or .u64 x_20 (shlZ IntKind.u64 (IntKind.wrap IntKind.u64 (bits .andNot .u8 x_24 (128))) (IntKind.wrap IntKind.i64 ((7) * x_21))))), (.int .i64 (IntKind.wrap IntKind.i64 (x_21 + (1)))), (.int .i64 (0))]), H, nx⟩))))) := by kernel_rfl

/-- fuel 9 -/
theorem s17_0 (cal : Oracle) (n : Nat) (H : Hp) (nx : Nat) (l_25 : List AV) (tg_26 : Bool) : run Try.prog ann cal (n + 9) 17 (bodyOf 17) (mkS 53 [(0, .val (.vs 1 tg_26 l_25) .no)] H nx) =
 (run Try.prog ann cal n 17 (goTo [0, 5, 0, 5, 0, 0, 5, 2, 3] (bodyOf 17)) (mkS 53 [(0, .val (.vs 1 tg_26 l_25) .no), (5, .val (.int .u64 (0)) .no), (6, .val (.int .i64 (0)) .no)] H nx)) := by kernel_rfl

/-- fuel 19 -/
theorem s17_1 (cal : Oracle) (n : Nat) (H : Hp) (nx : Nat) (tg_27 : Bool) (l_28 : List AV) (x_29 : Int) (x_30 : Int) : run Try.prog ann cal (n + 19) 17 (goTo [0, 5, 0, 5, 0, 0, 5, 2, 3] (bodyOf 17)) (mkS 53 [(0, .val (.vs 1 tg_27 l_28) .no), (5, .val (.int .u64 x_29) .no), (6, .val (.int .i64 x_30) .no)] H nx) =
 (br (decide (x_30 < (10)))
 (br (decide (x_30 = (((List.length l_28) : Nat) : Int)))
 (some ⟨(.tuple [(.int .u64 (0)), (.int .i64 (0)), (.int .i64 (1))]), H, nx⟩)
 (br (decide (x_30 = (9)))
 (br (decide ((0 : Int) ≤ x_30))
 (br (decide (x_30 < (((List.length l_28) : Nat) : Int)))
 ((nth l_28 (Int.toNat x_30)).bind fun c1 =>
 (midRun cal (n + 4) 17 (goTo [0, 5, 0, 5, 0, 0, 5, 2, 3, 0, 0, 5, 6, 5, 0, 2, 0, 0, 5, 7, 5, 0, 0] (bodyOf 17)) 6 (mkS 53 [(0, .val (.vs 1 tg_27 l_28) .no), (5, .val (.int .u64 x_29) .no), (6, .val (.int .i64 x_30) .no), (14, .val (.bool false) .no), (15, .val (.int .i64 x_30) .no), (16, .val (.bool (decide (x_30 = (9)))) .no), (17, .val (.bool true) .no), (18, .val (.vs 1 tg_27 l_28) .no), (19, .val (.int .i64 x_30) .no), (20, .val (.cptr (AV.cells c1)) .no)] H nx)))
 none)
 none)
 (br (decide ((0 : Int) ≤ x_30))
 (br (decide (x_30 < (((List.length l_28) : Nat) : Int)))
 ((nth l_28 (Int.toNat x_30)).bind fun c2 =>
 (midRun cal n 17 (goTo [0, 5, 0, 5, 0, 0, 5, 2, 3, 0, 0, 5, 6, 5, 0, 2, 0, 0, 5, 7, 5, 0, 0, 5, 7, 5, 0] (bodyOf 17)) 4 (mkS 53 [(0, .val (.vs 1 tg_27 l_28) .no), (5, .val (.int .u64 x_29) .no), (6, .val (.int .i64 x_30) .no), (23, .val (.bool false) .no), (24, .val (.int .u64 x_29) .no), (25, .val (.vs 1 tg_27 l_28) .no), (26, .val (.int .i64 x_30) .no), (27, .val (.cptr (AV.cells c2)) .no)] H nx)))
 none)
 none)))
 (some ⟨(.tuple [(.int .u64 (0)), (.int .i64 (0)), (.int .i64 (9))]), H, nx⟩)) := by kernel_rfl

/-- fuel 4 -/
theorem s17_2 (cal : Oracle) (n : Nat) (H : Hp) (nx : Nat) (tg_27 : Bool) (l_28 : List AV) (x_29 : Int) (x_30 : Int) (x_31 : Int) : midRun cal (n + 4) 17 (goTo [0, 5, 0, 5, 0, 0, 5, 2, 3, 0, 0, 5, 6, 5, 0, 2, 0, 0, 5, 7, 5, 0, 0] (bodyOf 17)) 6 (mkS 53 [(0, .val (.vs 1 tg_27 l_28) .no), (5, .val (.int .u64 x_29) .no), (6, .val (.int .i64 x_30) .no), (14, .val (.bool false) .no), (15, .val (.int .i64 x_30) .no), (16, .val (.bool (decide (x_30 = (9)))) .no), (17, .val (.bool true) .no), (18, .val (.vs 1 tg_27 l_28) .no), (19, .val (.int .i64 x_30) .no), (20, .val (.cptr [(.int .u8 x_31)]) .no)] H nx) =
 (br (decide ((1) < x_31))
 (some ⟨(.tuple [(.int .u64 (0)), (.int .i64 (0)), (.int .i64 (9))]), H, nx⟩)
 (br (decide ((0 : Int) ≤ x_30))
 (br (decide (x_30 < (((List.length l_28) : Nat) : Int)))
 ((nth l_28 (Int.toNat x_30)).bind fun c1 =>
 (midRun cal n 17 (goTo [0, 5, 0, 5, 0, 0, 5, 2, 3, 0, 0, 5, 6, 5, 0, 2, 0, 0, 5, 7, 5, 0, 0, 5, 7, 5, 0] (bodyOf 17)) 4 (mkS 53 [(0, .val (.vs 1 tg_27 l_28) .no), (5, .val (.int .u64 x_29) .no), (6, .val (.int .i64 x_30) .no), (23, .val (.bool false) .no), (24, .val (.int .u64 x_29) .no), (25, .val (.vs 1 tg_27 l_28) .no), (26, .val (.int .i64 x_30) .no), (27, .val (.cptr (AV.cells c1)) .no)] H nx)))
 none)
 none)) := by kernel_rfl

/-- fuel 2 -/
theorem s17_3 (cal : Oracle) (n : Nat) (H : Hp) (nx : Nat) (tg_27 : Bool) (l_28 : List AV) (x_29 : Int) (x_30 : Int) (x_32 : Int) : midRun cal (n + 2) 17 (goTo [0, 5, 0, 5, 0, 0, 5, 2, 3, 0, 0, 5, 6, 5, 0, 2, 0, 0, 5, 7, 5, 0, 0, 5, 7, 5, 0] (bodyOf 17)) 4 (mkS 53 [(0, .val (.vs 1 tg_27 l_28) .no), (5, .val (.int .u64 x_29) .no), (6, .val (.int .i64 x_30) .no), (23, .val (.bool false) .no), (24, .val (.int .u64 x_29) .no), (25, .val (.vs 1 tg_27 l_28) .no), (26, .val (.int .i64 x_30) .no), (27, .val (.cptr [(.int .u8 x_32)]) .no)] H nx) =
 (br (decide ((IntKind.wrap IntKind.u64 (IntKind.wrap IntKind.i64 ((7) * x_30))) < 0))
 none
 (br (decide ((0 : Int) ≤ x_30))
 (br (decide (x_30 < (((List.length l_28) : Nat) : Int)))
 ((nth l_28 (Int.toNat x_30)).bind fun c1 =>
 (midRun cal n 17 (goTo [0, 5, 0, 5, 0, 0, 5, 2, 3, 0, 0, 5, 6, 5, 0, 2, 0, 0, 5, 7, 5, 0, 0, 5, 7, 5, 0, 5, 0] (bodyOf 17)) 3 (mkS 53 [(0, .val (.vs 1 tg_27 l_28) .no), (5, .val (.int .u64 (bits .or .u64 x_29 (shlZ IntKind.u64 (IntKind.wrap IntKind.u64 (Int.tmod x_32 (128))) (IntKind.wrap IntKind.u64 (IntKind.wrap IntKind.i64 ((7) * x_30)))))) .no), (6, .val (.int .i64 x_30) .no), (36, .val (.vs 1 tg_27 l_28) .no), (37, .val (.int .i64 x_30) .no), (38, .val (.cptr (AV.cells c1)) .no)] H nx)))
 none)
 none)) := by kernel_rfl

/-- fuel 5 -/
theorem s17_4 (cal : Oracle) (n : Nat) (H : Hp) (nx : Nat) (tg_27 : Bool) (l_28 : List AV) (x_29 : Int) (x_30 : Int) (x_32 : Int) (x_33 : Int) : midRun cal (n + 5) 17 (goTo [0, 5, 0, 5, 0, 0, 5, 2, 3, 0, 0, 5, 6, 5, 0, 2, 0, 0, 5, 7, 5, 0, 0, 5, 7, 5, 0, 5, 0] (bodyOf 17)) 3 (mkS 53 [(0, .val (.vs 1 tg_27 l_28) .no), (5, .val (.int .u64 (bits .or .u64 x_29 (shlZ IntKind.u64 (IntKind.wrap IntKind.u64 (Int.tmod x_32 (128))) (IntKind.wrap IntKind.u64 (IntKind.wrap IntKind.i64 ((7) * x_30)))))) .no), (6, .val (.int .i64 x_30) .no), (36, .val (.vs 1 tg_27 l_28) .no), (37, .val (.int .i64 x_30) .no), (38, .val (.cptr [(.int .u8 x_33)]) .no)] H nx) =
 (br (decide (x_33 < (128)))
 (br (decide ((0 : Int) ≤ x_30))
 (br (decide (x_30 < (((List.length l_28) : Nat) : Int)))
 ((nth l_28 (Int.toNat x_30)).bind fun c1 =>
 (midRun cal (n + 1) 17 (goTo [0, 5, 0, 5, 0, 0, 5, 2, 3, 0, 0, 5, 6, 5, 0, 2, 0, 0, 5, 7, 5, 0, 0, 5, 7, 5, 0, 5, 0, 5, 6, 0, 0] (bodyOf 17)) 3 (mkS 53 [(0, .val (.vs 1 tg_27 l_28) .no), (5, .val (.int .u64 (bits .or .u64 x_29 (shlZ IntKind.u64 (IntKind.wrap IntKind.u64 (Int.tmod x_32 (128))) (IntKind.wrap IntKind.u64 (IntKind.wrap IntKind.i64 ((7) * x_30)))))) .no), (6, .val (.int .i64 x_30) .no), (40, .val (.bool true) .no), (41, .val (.vs 1 tg_27 l_28) .no), (42, .val (.int .i64 x_30) .no), (43, .val (.cptr (AV.cells c1)) .no)] H nx)))
 none)
 none)
 (run Try.prog ann cal n 17 (goTo [0, 5, 0, 5, 0, 0, 5, 2, 3] (bodyOf 17)) (mkS 53 [(0, .val (.vs 1 tg_27 l_28) .no), (5, .val (.int .u64 (bits .or .u64 x_29 (shlZ IntKind.u64 (IntKind.wrap IntKind.u64 (Int.tmod x_32 (128))) (IntKind.wrap IntKind.u64 (IntKind.wrap IntKind.i64 ((7) * x_30)))))) .no), (6, .val (.int .i64 (IntKind.wrap IntKind.i64 (x_30 + (1)))) .no)] H nx))) := by kernel_rfl

/-- fuel 5 -/
theorem s17_5 (cal : Oracle) (n : Nat) (H : Hp) (nx : Nat) (tg_27 : Bool) (l_28 : List AV) (x_29 : Int) (x_30 : Int) (x_32 : Int) (x_34 : Int) : midRun cal (n + 5) 17 (goTo [0, 5, 0, 5, 0, 0, 5, 2, 3, 0, 0, 5, 6, 5, 0, 2, 0, 0, 5, 7, 5, 0, 0, 5, 7, 5, 0, 5, 0, 5, 6, 0, 0] (bodyOf 17)) 3 (mkS 53 [(0, .val (.vs 1 tg_27 l_28) .no), (5, .val (.int .u64 (bits .or .u64 x_29 (shlZ IntKind.u64 (IntKind.wrap IntKind.u64 (Int.tmod x_32 (128))) (IntKind.wrap IntKind.u64 (IntKind.wrap IntKind.i64 ((7) * x_30)))))) .no), (6, .val (.int .i64 x_30) .no), (40, .val (.bool true) .no), (41, .val (.vs 1 tg_27 l_28) .no), (42, .val (.int .i64 x_30) .no), (43, .val (.cptr [(.int .u8 x_34)]) .no)] H nx) =
 (br (decide (x_34 = (0)))
 (br (decide ((0) < x_30))
 (some ⟨(.tuple [(.int .u64 (0)), (.int .i64 (0)), (.int .i64 (2))]), H, nx⟩)
 (some ⟨(.tuple [(.int .u64 (bits .or .u64 x_29 (shlZ IntKind.u64 (IntKind.wrap IntKind.u64 (Int.tmod x_32 (128))) (IntKind.wrap IntKind.u64 (IntKind.wrap IntKind.i64 ((7) * x_30)))))), (.int .i64 (IntKind.wrap IntKind.i64 (x_30 + (1)))), (.int .i64 (0))]), H, nx⟩))
 (some ⟨(.tuple [(.int .u64 (bits .or .u64 x_29 (shlZ IntKind.u64 (IntKind.wrap IntKind.u64 (Int.tmod x_32 (128))) (IntKind.wrap IntKind.u64 (IntKind.wrap IntKind.i64 ((7) * x_30)))))), (.int .i64 (IntKind.wrap IntKind.i64 (x_30 + (1)))), (.int .i64 (0))]), H, nx⟩)) := by kernel_rfl

/-- fuel 4 -/
theorem s18_0 (cal : Oracle) (n : Nat) (H : Hp) (nx : Nat) (l_35 : List AV) (tg_36 : Bool) (x_37 : Int) : run Try.prog ann cal (n + 4) 18 (bodyOf 18) (mkS 14 [(0, .val (.vs 1 tg_36 l_35) .no), (1, .val (.int .i64 x_37) .no)] H nx) =
 (br (pureL [(.vs 1 tg_36 l_35), (.int .u64 (bits .xor .u64 (shlZ IntKind.u64 (IntKind.wrap IntKind.u64 x_37) (1)) (IntKind.wrap IntKind.u64 (shrZ IntKind.i64 x_37 (63)))))]) ((cal 14 [(.vs 1 tg_36 l_35), (.int .u64 (bits .xor .u64 (shlZ IntKind.u64 (IntKind.wrap IntKind.u64 x_37) (1)) (IntKind.wrap IntKind.u64 (shrZ IntKind.i64 x_37 (63)))))] Hp.none 0).bind fun r1 => br (AV.pure r1.v)
 (midRun cal n 18 (goTo [0, 5, 0] (bodyOf 18)) 9 (mkS 14 [(0, .val (.vs 1 tg_36 l_35) .no), (1, .val (.int .i64 x_37) .no), (5, .val (.vs 1 tg_36 l_35) .no), (6, .val (.int .i64 x_37) .no), (7, .val (.int .u64 (IntKind.wrap IntKind.u64 x_37)) .no), (8, .val (.int .u64 (shlZ IntKind.u64 (IntKind.wrap IntKind.u64 x_37) (1))) .no), (9, .val (.int .i64 x_37) .no), (10, .val (.int .i64 (shrZ IntKind.i64 x_37 (63))) .no), (11, .val (.int .u64 (IntKind.wrap IntKind.u64 (shrZ IntKind.i64 x_37 (63)))) .no), (12, .val (.int .u64 (bits .xor .u64 (shlZ IntKind.u64 (IntKind.wrap IntKind.u64 x_37) (1)) (IntKind.wrap IntKind.u64 (shrZ IntKind.i64 x_37 (63))))) .no), (13, .val r1.v .own)] H nx)) none) none) := by kernel_rfl

/-- fuel 1 -/
theorem s18_1 (cal : Oracle) (n : Nat) (H : Hp) (nx : Nat) (l_35 : List AV) (tg_36 : Bool) (x_37 : Int) (l_38 : List AV) : midRun cal (n + 1) 18 (goTo [0, 5, 0] (bodyOf 18)) 9 (mkS 14 [(0, .val (.vs 1 tg_36 l_35) .no), (1, .val (.int .i64 x_37) .no), (5, .val (.vs 1 tg_36 l_35) .no), (6, .val (.int .i64 x_37) .no), (7, .val (.int .u64 (IntKind.wrap IntKind.u64 x_37)) .no), (8, .val (.int .u64 (shlZ IntKind.u64 (IntKind.wrap IntKind.u64 x_37) (1))) .no), (9, .val (.int .i64 x_37) .no), (10, .val (.int .i64 (shrZ IntKind.i64 x_37 (63))) .no), (11, .val (.int .u64 (IntKind.wrap IntKind.u64 (shrZ IntKind.i64 x_37 (63)))) .no), (12, .val (.int .u64 (bits .xor .u64 (shlZ IntKind.u64 (IntKind.wrap IntKind.u64 x_37) (1)) (IntKind.wrap IntKind.u64 (shrZ IntKind.i64 x_37 (63))))) .no), (13, .val (.vs 1 false l_38) .own)] H nx) =
 (some ⟨(.vs 1 false l_38), H, nx⟩) := by kernel_rfl

/-- fuel 4 -/
theorem s19_0 (cal : Oracle) (n : Nat) (H : Hp) (nx : Nat) (l_39 : List AV) (tg_40 : Bool) : run Try.prog ann cal (n + 4) 19 (bodyOf 19) (mkS 26 [(0, .val (.vs 1 tg_40 l_39) .no)] H nx) =
 (br (pureL [(.vs 1 tg_40 l_39)]) ((cal 16 [(.vs 1 tg_40 l_39)] Hp.none 0).bind fun r1 => br (AV.pure r1.v)
 (midRun cal n 19 (goTo [0, 5, 0] (bodyOf 19)) 2 (mkS 26 [(0, .val (.vs 1 tg_40 l_39) .no), (9, .val (.vs 1 tg_40 l_39) .no), (10, .val r1.v .no)] H nx)) none) none) := by kernel_rfl

/-- fuel 8 -/
theorem s19_1 (cal : Oracle) (n : Nat) (H : Hp) (nx : Nat) (l_39 : List AV) (tg_40 : Bool) (x_41 : Int) (x_42 : Int) (x_43 : Int) : midRun cal (n + 8) 19 (goTo [0, 5, 0] (bodyOf 19)) 2 (mkS 26 [(0, .val (.vs 1 tg_40 l_39) .no), (9, .val (.vs 1 tg_40 l_39) .no), (10, .val (.tuple [(.int .u64 x_41), (.int .i64 x_42), (.int .i64 x_43)]) .no)] H nx) =
 (br (!(decide (x_43 = (0))))
 (some ⟨(.tuple [(.int .i64 (0)), (.int .i64 (0)), (.int .i64 x_43)]), H, nx⟩)
 (some ⟨(.tuple [(.int .i64 (bits .xor .i64 (IntKind.wrap IntKind.i64 (shrZ IntKind.u64 x_41 (1))) (IntKind.wrap IntKind.i64 (0 - (IntKind.wrap IntKind.i64 (bits .and .u64 x_41 (1))))))), (.int .i64 x_42), (.int .i64 (0))]), H, nx⟩)) := by kernel_rfl

/-- fuel 10 -/
theorem s20_0 (cal : Oracle) (n : Nat) (H : Hp) (nx : Nat) (x_44 : Int) : run Try.prog ann cal (n + 10) 20 (bodyOf 20) (mkS 14 [(0, .val (.int .i64 x_44) .no)] H nx) =
 (br (decide ((0) ≤ x_44))
 (some ⟨(.int .u64 (IntKind.wrap IntKind.u64 ((IntKind.wrap IntKind.u64 x_44) * (2)))), H, nx⟩)
 (some ⟨(.int .u64 (IntKind.wrap IntKind.u64 ((IntKind.wrap IntKind.u64 ((IntKind.wrap IntKind.u64 (IntKind.wrap IntKind.i64 (0 - (IntKind.wrap IntKind.i64 (x_44 + (1)))))) * (2))) + (1)))), H, nx⟩)) := by kernel_rfl

/-- fuel 4 -/
theorem s21_0 (cal : Oracle) (n : Nat) (H : Hp) (nx : Nat) (l_45 : List AV) (tg_46 : Bool) : run Try.prog ann cal (n + 4) 21 (bodyOf 21) (mkS 30 [(0, .val (.vs 1 tg_46 l_45) .no)] H nx) =
 (br (pureL [(.vs 1 tg_46 l_45)]) ((cal 17 [(.vs 1 tg_46 l_45)] Hp.none 0).bind fun r1 => br (AV.pure r1.v)
 (midRun cal n 21 (goTo [0, 5, 0] (bodyOf 21)) 2 (mkS 30 [(0, .val (.vs 1 tg_46 l_45) .no), (9, .val (.vs 1 tg_46 l_45) .no), (10, .val r1.v .no)] H nx)) none) none) := by kernel_rfl

/-- fuel 13 -/
theorem s21_1 (cal : Oracle) (n : Nat) (H : Hp) (nx : Nat) (l_45 : List AV) (tg_46 : Bool) (x_47 : Int) (x_48 : Int) (x_49 : Int) : midRun cal (n + 13) 21 (goTo [0, 5, 0] (bodyOf 21)) 2 (mkS 30 [(0, .val (.vs 1 tg_46 l_45) .no), (9, .val (.vs 1 tg_46 l_45) .no), (10, .val (.tuple [(.int .u64 x_47), (.int .i64 x_48), (.int .i64 x_49)]) .no)] H nx) =
 (br (!(decide (x_49 = (0))))
 (some ⟨(.tuple [(.int .i64 (0)), (.int .i64 (0)), (.int .i64 x_49)]), H, nx⟩)
 (br (decide ((Int.tmod x_47 (2)) = (0)))
 (some ⟨(.tuple [(.int .i64 (IntKind.wrap IntKind.i64 (IntKind.wrap IntKind.u64 (Int.tdiv x_47 (2))))), (.int .i64 x_48), (.int .i64 (0))]), H, nx⟩)
 (some ⟨(.tuple [(.int .i64 (IntKind.wrap IntKind.i64 ((IntKind.wrap IntKind.i64 (0 - (IntKind.wrap IntKind.i64 (IntKind.wrap IntKind.u64 (Int.tdiv x_47 (2)))))) - (1)))), (.int .i64 x_48), (.int .i64 (0))]), H, nx⟩))) := by kernel_rfl

/-- fuel 4 -/
theorem s22_0 (cal : Oracle) (n : Nat) (H : Hp) (nx : Nat) (l_50 : List AV) (tg_51 : Bool) (s_52 : List UInt8) : run Try.prog ann cal (n + 4) 22 (bodyOf 22) (mkS 12 [(0, .val (.vs 1 tg_51 l_50) .no), (1, .val (.str s_52) .no)] H nx) =
 (br (pureL [(.vs 1 tg_51 l_50), (.int .u64 (IntKind.wrap IntKind.u64 (((List.length s_52) : Nat) : Int)))]) ((cal 14 [(.vs 1 tg_51 l_50), (.int .u64 (IntKind.wrap IntKind.u64 (((List.length s_52) : Nat) : Int)))] Hp.none 0).bind fun r1 => br (AV.pure r1.v)
 (midRun cal n 22 (goTo [0, 5, 0] (bodyOf 22)) 5 (mkS 12 [(0, .val (.vs 1 tg_51 l_50) .no), (1, .val (.str s_52) .no), (5, .val (.vs 1 tg_51 l_50) .no), (6, .val (.str s_52) .no), (7, .val (.int .i64 (((List.length s_52) : Nat) : Int)) .no), (8, .val (.int .u64 (IntKind.wrap IntKind.u64 (((List.length s_52) : Nat) : Int))) .no), (9, .val r1.v .own)] H nx)) none) none) := by kernel_rfl

/-- fuel 1 -/
theorem s22_1 (cal : Oracle) (n : Nat) (H : Hp) (nx : Nat) (l_50 : List AV) (tg_51 : Bool) (s_52 : List UInt8) (l_53 : List AV) : midRun cal (n + 1) 22 (goTo [0, 5, 0] (bodyOf 22)) 5 (mkS 12 [(0, .val (.vs 1 tg_51 l_50) .no), (1, .val (.str s_52) .no), (5, .val (.vs 1 tg_51 l_50) .no), (6, .val (.str s_52) .no), (7, .val (.int .i64 (((List.length s_52) : Nat) : Int)) .no), (8, .val (.int .u64 (IntKind.wrap IntKind.u64 (((List.length s_52) : Nat) : Int))) .no), (9, .val (.vs 1 false l_53) .own)] H nx) =
 (br (Nat.ble (((List.length l_53) + (List.length (List.map byteAV s_52))) * 1) maxBytes)
 (br (Nat.ble ((List.length l_53) + (List.length (List.map byteAV s_52))) maxBytes)
 (some ⟨(.vs 1 false (l_53 ++ (List.map byteAV s_52))), H, nx⟩)
 none)
 none) := by kernel_rfl

/-- fuel 4 -/
theorem s23_0 (cal : Oracle) (n : Nat) (H : Hp) (nx : Nat) (l_54 : List AV) (tg_55 : Bool) : run Try.prog ann cal (n + 4) 23 (bodyOf 23) (mkS 36 [(0, .val (.vs 1 tg_55 l_54) .no)] H nx) =
 (br (pureL [(.vs 1 tg_55 l_54)]) ((cal 16 [(.vs 1 tg_55 l_54)] Hp.none 0).bind fun r1 => br (AV.pure r1.v)
 (midRun cal n 23 (goTo [0, 5, 0] (bodyOf 23)) 2 (mkS 36 [(0, .val (.vs 1 tg_55 l_54) .no), (9, .val (.vs 1 tg_55 l_54) .no), (10, .val r1.v .no)] H nx)) none) none) := by kernel_rfl

/-- fuel 13 -/
theorem s23_1 (cal : Oracle) (n : Nat) (H : Hp) (nx : Nat) (l_54 : List AV) (tg_55 : Bool) (x_56 : Int) (x_57 : Int) (x_58 : Int) : midRun cal (n + 13) 23 (goTo [0, 5, 0] (bodyOf 23)) 2 (mkS 36 [(0, .val (.vs 1 tg_55 l_54) .no), (9, .val (.vs 1 tg_55 l_54) .no), (10, .val (.tuple [(.int .u64 x_56), (.int .i64 x_57), (.int .i64 x_58)]) .no)] H nx) =
 (br (!(decide (x_58 = (0))))
 (some ⟨(.tuple [(.str []), (.int .i64 (0)), (.int .i64 x_58)]), H, nx⟩)
 (br (decide ((IntKind.wrap IntKind.u64 (IntKind.wrap IntKind.i64 ((((List.length l_54) : Nat) : Int) - x_57))) < x_56))
 (some ⟨(.tuple [(.str []), (.int .i64 (0)), (.int .i64 (1))]), H, nx⟩)
 (br (decide ((0 : Int) ≤ (IntKind.wrap IntKind.i64 (x_57 + (IntKind.wrap IntKind.i64 x_56)))))
 (br (decide ((IntKind.wrap IntKind.i64 (x_57 + (IntKind.wrap IntKind.i64 x_56))) ≤ (((List.length l_54) : Nat) : Int)))
 (br (decide ((0 : Int) ≤ x_57))
 (br (decide (x_57 ≤ (((Int.toNat (IntKind.wrap IntKind.i64 (x_57 + (IntKind.wrap IntKind.i64 x_56)))) : Nat) : Int)))
 ((bytesOf (List.drop (Int.toNat x_57) (List.take (Int.toNat (IntKind.wrap IntKind.i64 (x_57 + (IntKind.wrap IntKind.i64 x_56)))) l_54))).bind fun s1 =>
 (some ⟨(.tuple [(.str s1), (.int .i64 (IntKind.wrap IntKind.i64 (x_57 + (IntKind.wrap IntKind.i64 x_56)))), (.int .i64 (0))]), H, nx⟩))
 none)
 none)
 none)
 none))) := by kernel_rfl

/-- fuel 4 -/
theorem s24_0 (cal : Oracle) (n : Nat) (H : Hp) (nx : Nat) (l_59 : List AV) (tg_60 : Bool) (s_61 : List UInt8) : run Try.prog ann cal (n + 4) 24 (bodyOf 24) (mkS 12 [(0, .val (.vs 1 tg_60 l_59) .no), (1, .val (.str s_61) .no)] H nx) =
 (br (pureL [(.vs 1 tg_60 l_59), (.int .u64 (IntKind.wrap IntKind.u64 (((List.length s_61) : Nat) : Int)))]) ((cal 15 [(.vs 1 tg_60 l_59), (.int .u64 (IntKind.wrap IntKind.u64 (((List.length s_61) : Nat) : Int)))] Hp.none 0).bind fun r1 => br (AV.pure r1.v)
 (midRun cal n 24 (goTo [0, 5, 0] (bodyOf 24)) 5 (mkS 12 [(0, .val (.vs 1 tg_60 l_59) .no), (1, .val (.str s_61) .no), (5, .val (.vs 1 tg_60 l_59) .no), (6, .val (.str s_61) .no), (7, .val (.int .i64 (((List.length s_61) : Nat) : Int)) .no), (8, .val (.int .u64 (IntKind.wrap IntKind.u64 (((List.length s_61) : Nat) : Int))) .no), (9, .val r1.v .own)] H nx)) none) none) := by kernel_rfl

/-- fuel 1 -/
theorem s24_1 (cal : Oracle) (n : Nat) (H : Hp) (nx : Nat) (l_59 : List AV) (tg_60 : Bool) (s_61 : List UInt8) (l_62 : List AV) : midRun cal (n + 1) 24 (goTo [0, 5, 0] (bodyOf 24)) 5 (mkS 12 [(0, .val (.vs 1 tg_60 l_59) .no), (1, .val (.str s_61) .no), (5, .val (.vs 1 tg_60 l_59) .no), (6, .val (.str s_61) .no), (7, .val (.int .i64 (((List.length s_61) : Nat) : Int)) .no), (8, .val (.int .u64 (IntKind.wrap IntKind.u64 (((List.length s_61) : Nat) : Int))) .no), (9, .val (.vs 1 false l_62) .own)] H nx) =
 (br (Nat.ble (((List.length l_62) + (List.length (List.map byteAV s_61))) * 1) maxBytes)
 (br (Nat.ble ((List.length l_62) + (List.length (List.map byteAV s_61))) maxBytes)
 (some ⟨(.vs 1 false (l_62 ++ (List.map byteAV s_61))), H, nx⟩)
 none)
 none) := by kernel_rfl

/-- fuel 4 -/
theorem s25_0 (cal : Oracle) (n : Nat) (H : Hp) (nx : Nat) (l_63 : List AV) (tg_64 : Bool) : run Try.prog ann cal (n + 4) 25 (bodyOf 25) (mkS 36 [(0, .val (.vs 1 tg_64 l_63) .no)] H nx) =
 (br (pureL [(.vs 1 tg_64 l_63)]) ((cal 17 [(.vs 1 tg_64 l_63)] Hp.none 0).bind fun r1 => br (AV.pure r1.v)
 (midRun cal n 25 (goTo [0, 5, 0] (bodyOf 25)) 2 (mkS 36 [(0, .val (.vs 1 tg_64 l_63) .no), (9, .val (.vs 1 tg_64 l_63) .no), (10, .val r1.v .no)] H nx)) none) none) := by kernel_rfl

/-- fuel 13 -/
theorem s25_1 (cal : Oracle) (n : Nat) (H : Hp) (nx : Nat) (l_63 : List AV) (tg_64 : Bool) (x_65 : Int) (x_66 : Int) (x_67 : Int) : midRun cal (n + 13) 25 (goTo [0, 5, 0] (bodyOf 25)) 2 (mkS 36 [(0, .val (.vs 1 tg_64 l_63) .no), (9, .val (.vs 1 tg_64 l_63) .no), (10, .val (.tuple [(.int .u64 x_65), (.int .i64 x_66), (.int .i64 x_67)]) .no)] H nx) =
 (br (!(decide (x_67 = (0))))
 (some ⟨(.tuple [(.str []), (.int .i64 (0)), (.int .i64 x_67)]), H, nx⟩)
 (br (decide ((IntKind.wrap IntKind.u64 (IntKind.wrap IntKind.i64 ((((List.length l_63) : Nat) : Int) - x_66))) < x_65))
 (some ⟨(.tuple [(.str []), (.int .i64 (0)), (.int .i64 (1))]), H, nx⟩)
 (br (decide ((0 : Int) ≤ (IntKind.wrap IntKind.i64 (x_66 + (IntKind.wrap IntKind.i64 x_65)))))
 (br (decide ((IntKind.wrap IntKind.i64 (x_66 + (IntKind.wrap IntKind.i64 x_65))) ≤ (((List.length l_63) : Nat) : Int)))
 (br (decide ((0 : Int) ≤ x_66))
 (br (decide (x_66 ≤ (((Int.toNat (IntKind.wrap IntKind.i64 (x_66 + (IntKind.wrap IntKind.i64 x_65)))) : Nat) : Int)))
 ((bytesOf (List.drop (Int.toNat x_66) (List.take (Int.toNat (IntKind.wrap IntKind.i64 (x_66 + (IntKind.wrap IntKind.i64 x_65)))) l_63))).bind fun s1 =>
 (some ⟨(.tuple [(.str s1), (.int .i64 (IntKind.wrap IntKind.i64 (x_66 + (IntKind.wrap IntKind.i64 x_65)))), (.int .i64 (0))]), H, nx⟩))
 none)
 none)
 none)
 none))) := by kernel_rfl

/-- fuel 10 -/
theorem s26_0 (cal : Oracle) (n : Nat) (H : Hp) (nx : Nat) (l_68 : List AV) (tg_69 : Bool) : run Try.prog ann cal (n + 10) 26 (bodyOf 26) (mkS 18 [(0, .val (.vs 1 tg_69 l_68) .no)] H nx) =
 (br (decide ((((List.length l_68) : Nat) : Int) = (0)))
 (some ⟨(.tuple [(.bool false), (.int .i64 (0)), (.int .i64 (1))]), H, nx⟩)
 (br (decide ((0) < (((List.length l_68) : Nat) : Int)))
 ((nth l_68 (Int.toNat (0))).bind fun c1 =>
 (midRun cal (n + 1) 26 (goTo [0, 5, 0, 2, 0, 5, 7, 0] (bodyOf 26)) 2 (mkS 18 [(0, .val (.vs 1 tg_69 l_68) .no), (5, .val (.bool false) .no), (10, .val (.vs 1 tg_69 l_68) .no), (11, .val (.cptr (AV.cells c1)) .no)] H nx)))
 none)) := by kernel_rfl

/-- fuel 5 -/
theorem s26_1 (cal : Oracle) (n : Nat) (H : Hp) (nx : Nat) (l_68 : List AV) (tg_69 : Bool) (x_70 : Int) : midRun cal (n + 5) 26 (goTo [0, 5, 0, 2, 0, 5, 7, 0] (bodyOf 26)) 2 (mkS 18 [(0, .val (.vs 1 tg_69 l_68) .no), (5, .val (.bool false) .no), (10, .val (.vs 1 tg_69 l_68) .no), (11, .val (.cptr [(.int .u8 x_70)]) .no)] H nx) =
 (br (decide ((1) < x_70))
 (some ⟨(.tuple [(.bool false), (.int .i64 (0)), (.int .i64 (2))]), H, nx⟩)
 (br (decide ((0) < (((List.length l_68) : Nat) : Int)))
 ((nth l_68 (Int.toNat (0))).bind fun c1 =>
 (midRun cal n 26 (goTo [0, 5, 0, 2, 0, 5, 7, 0, 5, 7, 5, 5, 0] (bodyOf 26)) 2 (mkS 18 [(0, .val (.vs 1 tg_69 l_68) .no), (9, .val (.bool false) .no), (14, .val (.vs 1 tg_69 l_68) .no), (15, .val (.cptr (AV.cells c1)) .no)] H nx)))
 none)) := by kernel_rfl

/-- fuel 1 -/
theorem s26_2 (cal : Oracle) (n : Nat) (H : Hp) (nx : Nat) (l_68 : List AV) (tg_69 : Bool) (x_71 : Int) : midRun cal (n + 1) 26 (goTo [0, 5, 0, 2, 0, 5, 7, 0, 5, 7, 5, 5, 0] (bodyOf 26)) 2 (mkS 18 [(0, .val (.vs 1 tg_69 l_68) .no), (9, .val (.bool false) .no), (14, .val (.vs 1 tg_69 l_68) .no), (15, .val (.cptr [(.int .u8 x_71)]) .no)] H nx) =
 (some ⟨(.tuple [(.bool (decide (x_71 = (1)))), (.int .i64 (1)), (.int .i64 (0))]), H, nx⟩) := by kernel_rfl

/-- fuel 10 -/
theorem s27_0 (cal : Oracle) (n : Nat) (H : Hp) (nx : Nat) (l_72 : List AV) (tg_73 : Bool) : run Try.prog ann cal (n + 10) 27 (bodyOf 27) (mkS 18 [(0, .val (.vs 1 tg_73 l_72) .no)] H nx) =
 (br (decide ((((List.length l_72) : Nat) : Int) = (0)))
 (some ⟨(.tuple [(.bool false), (.int .i64 (0)), (.int .i64 (1))]), H, nx⟩)
 (br (decide ((0) < (((List.length l_72) : Nat) : Int)))
 ((nth l_72 (Int.toNat (0))).bind fun c1 =>
 (midRun cal (n + 1) 27 (goTo [0, 5, 0, 2, 0, 5, 7, 0] (bodyOf 27)) 2 (mkS 18 [(0, .val (.vs 1 tg_73 l_72) .no), (5, .val (.bool false) .no), (10, .val (.vs 1 tg_73 l_72) .no), (11, .val (.cptr (AV.cells c1)) .no)] H nx)))
 none)) := by kernel_rfl

/-- fuel 5 -/
theorem s27_1 (cal : Oracle) (n : Nat) (H : Hp) (nx : Nat) (l_72 : List AV) (tg_73 : Bool) (x_74 : Int) : midRun cal (n + 5) 27 (goTo [0, 5, 0, 2, 0, 5, 7, 0] (bodyOf 27)) 2 (mkS 18 [(0, .val (.vs 1 tg_73 l_72) .no), (5, .val (.bool false) .no), (10, .val (.vs 1 tg_73 l_72) .no), (11, .val (.cptr [(.int .u8 x_74)]) .no)] H nx) =
 (br (decide ((1) < x_74))
 (some ⟨(.tuple [(.bool false), (.int .i64 (0)), (.int .i64 (2))]), H, nx⟩)
 (br (decide ((0) < (((List.length l_72) : Nat) : Int)))
 ((nth l_72 (Int.toNat (0))).bind fun c1 =>
 (midRun cal n 27 (goTo [0, 5, 0, 2, 0, 5, 7, 0, 5, 7, 5, 5, 0] (bodyOf 27)) 2 (mkS 18 [(0, .val (.vs 1 tg_73 l_72) .no), (9, .val (.bool false) .no), (14, .val (.vs 1 tg_73 l_72) .no), (15, .val (.cptr (AV.cells c1)) .no)] H nx)))
 none)) := by kernel_rfl

/-- fuel 1 -/
theorem s27_2 (cal : Oracle) (n : Nat) (H : Hp) (nx : Nat) (l_72 : List AV) (tg_73 : Bool) (x_75 : Int) : midRun cal (n + 1) 27 (goTo [0, 5, 0, 2, 0, 5, 7, 0, 5, 7, 5, 5, 0] (bodyOf 27)) 2 (mkS 18 [(0, .val (.vs 1 tg_73 l_72) .no), (9, .val (.bool false) .no), (14, .val (.vs 1 tg_73 l_72) .no), (15, .val (.cptr [(.int .u8 x_75)]) .no)] H nx) =
 (some ⟨(.tuple [(.bool (decide (x_75 = (1)))), (.int .i64 (1)), (.int .i64 (0))]), H, nx⟩) := by kernel_rfl

/-- fuel 10 -/
theorem s28_0 (cal : Oracle) (n : Nat) (H : Hp) (nx : Nat) (l_76 : List AV) (tg_77 : Bool) (c_78 : Bool) : run Try.prog ann cal (n + 10) 28 (bodyOf 28) (mkS 22 [(0, .val (.vs 1 tg_77 l_76) .no), (1, .val (.bool c_78) .no)] H nx) =
 (br c_78
 (br (decide ((0 : Int) ≤ (((List.length l_76) : Nat) : Int)))
 (br (decide ((((List.length l_76) : Nat) : Int) ≤ (((List.length l_76) : Nat) : Int)))
 (br (decide ((((List.length l_76) : Nat) : Int) = (((Int.toNat (((List.length l_76) : Nat) : Int)) : Nat) : Int)))
 (br (Nat.ble (((List.length (List.drop 0 (List.take (Int.toNat (((List.length l_76) : Nat) : Int)) l_76))) + 1) * 1) maxBytes)
 (br (Nat.ble ((List.length (List.drop 0 (List.take (Int.toNat (((List.length l_76) : Nat) : Int)) l_76))) + 1) maxBytes)
 (some ⟨(.vs 1 false ((List.drop 0 (List.take (Int.toNat (((List.length l_76) : Nat) : Int)) l_76)) ++ [(.int .u8 (1))])), H, nx⟩)
 none)
 none)
 none)
 none)
 none)
 (br (decide ((0 : Int) ≤ (((List.length l_76) : Nat) : Int)))
 (br (decide ((((List.length l_76) : Nat) : Int) ≤ (((List.length l_76) : Nat) : Int)))
 (br (decide ((((List.length l_76) : Nat) : Int) = (((Int.toNat (((List.length l_76) : Nat) : Int)) : Nat) : Int)))
 (br (Nat.ble (((List.length (List.drop 0 (List.take (Int.toNat (((List.length l_76) : Nat) : Int)) l_76))) + 1) * 1) maxBytes)
 (br (Nat.ble ((List.length (List.drop 0 (List.take (Int.toNat (((List.length l_76) : Nat) : Int)) l_76))) + 1) maxBytes)
 (some ⟨(.vs 1 false ((List.drop 0 (List.take (Int.toNat (((List.length l_76) : Nat) : Int)) l_76)) ++ [(.int .u8 (0))])), H, nx⟩)
 none)
 none)
 none)
 none)
 none)) := by kernel_rfl

/-- fuel 10 -/
theorem s29_0 (cal : Oracle) (n : Nat) (H : Hp) (nx : Nat) (l_79 : List AV) (tg_80 : Bool) (c_81 : Bool) : run Try.prog ann cal (n + 10) 29 (bodyOf 29) (mkS 16 [(0, .val (.vs 1 tg_80 l_79) .no), (1, .val (.bool c_81) .no)] H nx) =
 (br c_81
 (br (Nat.ble ((0 + (List.length l_79)) * 1) maxBytes)
 (br (Nat.ble (0 + (List.length l_79)) maxBytes)
 (br (Nat.ble (((List.length ([] ++ l_79)) + 1) * 1) maxBytes)
 (br (Nat.ble ((List.length ([] ++ l_79)) + 1) maxBytes)
 (some ⟨(.vs 1 false (([] ++ l_79) ++ [(.int .u8 (1))])), H, nx⟩)
 none)
 none)
 none)
 none)
 (br (Nat.ble ((0 + (List.length l_79)) * 1) maxBytes)
 (br (Nat.ble (0 + (List.length l_79)) maxBytes)
 (br (Nat.ble (((List.length ([] ++ l_79)) + 1) * 1) maxBytes)
 (br (Nat.ble ((List.length ([] ++ l_79)) + 1) maxBytes)
 (some ⟨(.vs 1 false (([] ++ l_79) ++ [(.int .u8 (0))])), H, nx⟩)
 none)
 none)
 none)
 none)) := by kernel_rfl

end Go.Proofs.Ytfdijfnmloddcaa
