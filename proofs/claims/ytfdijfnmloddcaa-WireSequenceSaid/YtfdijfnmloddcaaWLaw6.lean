/- Stage laws, printed by gen_wire.py. -/
import Derived.Test.YtfdijfnmloddcaaWPre
namespace Go.Proofs.Ytfdijfnmloddcaa
open Go Go.Vai

/-- fuel 4 -/
theorem s6_0 (cal : Oracle) (n : Nat) (H : Hp) (nx : Nat) (x_1 : Int) (x_2 : Int) : run Try.prog ann cal (n + 4) 6 (bodyOf 6) (mkS 39 [(0, .val (.int .u64 x_1) .no), (1, .val (.int .u64 x_2) .no)] H nx) =
 (br (pureL [(.vs 1 true []), (.int .u64 x_1)]) ((cal 14 [(.vs 1 true []), (.int .u64 x_1)] Hp.none 0).bind fun r1 => br (AV.pure r1.v)
 (midRun cal n 6 (goTo [0, 5, 0] (bodyOf 6)) 2 (mkS 39 [(0, .val (.int .u64 x_1) .no), (1, .val (.int .u64 x_2) .no), (9, .val (.int .u64 x_1) .no), (10, .val r1.v .own)] H nx)) none) none) := by kernel_rfl

/-- fuel 0 -/
theorem s6_1 (cal : Oracle) (n : Nat) (H : Hp) (nx : Nat) (x_1 : Int) (x_2 : Int) (l_3 : List AV) : midRun cal n 6 (goTo [0, 5, 0] (bodyOf 6)) 2 (mkS 39 [(0, .val (.int .u64 x_1) .no), (1, .val (.int .u64 x_2) .no), (9, .val (.int .u64 x_1) .no), (10, .val (.vs 1 false l_3) .own)] H nx) =
 (br (pureL [(.vs 1 true []), (.int .u64 x_2)]) ((cal 14 [(.vs 1 true []), (.int .u64 x_2)] Hp.none 0).bind fun r1 => br (AV.pure r1.v)
 (midRun cal n 6 (goTo [0, 5, 0] (bodyOf 6)) 5 (mkS 39 [(0, .val (.int .u64 x_1) .no), (1, .val (.int .u64 x_2) .no), (9, .val (.int .u64 x_1) .no), (10, .val (.vs 1 false l_3) .own), (11, .val (.int .i64 (((List.length l_3) : Nat) : Int)) .no), (12, .val (.int .u64 x_2) .no), (13, .val r1.v .own)] H nx)) none) none) := by kernel_rfl

/-- fuel 7 -/
theorem s6_2 (cal : Oracle) (n : Nat) (H : Hp) (nx : Nat) (x_1 : Int) (x_2 : Int) (l_3 : List AV) (l_4 : List AV) : midRun cal (n + 7) 6 (goTo [0, 5, 0] (bodyOf 6)) 5 (mkS 39 [(0, .val (.int .u64 x_1) .no), (1, .val (.int .u64 x_2) .no), (9, .val (.int .u64 x_1) .no), (10, .val (.vs 1 false l_3) .own), (11, .val (.int .i64 (((List.length l_3) : Nat) : Int)) .no), (12, .val (.int .u64 x_2) .no), (13, .val (.vs 1 false l_4) .own)] H nx) =
 (run Try.prog ann cal n 6 (goTo [0, 5, 0, 5, 0, 5, 0, 0, 5, 2, 3] (bodyOf 6)) (mkS 39 [(0, .val (.int .u64 x_1) .no), (1, .val (.int .u64 x_2) .no), (5, .val (.int .i64 (((List.length l_3) : Nat) : Int)) .no), (6, .val (.int .i64 (((List.length l_4) : Nat) : Int)) .no), (7, .val (.int .i64 (1)) .no), (8, .val (.int .u64 (IntKind.wrap IntKind.u64 (Int.tdiv x_1 (128)))) .no)] H nx)) := by kernel_rfl

/-- fuel 11 -/
theorem s6_3 (cal : Oracle) (n : Nat) (H : Hp) (nx : Nat) (x_5 : Int) (x_6 : Int) (x_7 : Int) (x_8 : Int) (x_9 : Int) (x_10 : Int) : run Try.prog ann cal (n + 11) 6 (goTo [0, 5, 0, 5, 0, 5, 0, 0, 5, 2, 3] (bodyOf 6)) (mkS 39 [(0, .val (.int .u64 x_5) .no), (1, .val (.int .u64 x_6) .no), (5, .val (.int .i64 x_7) .no), (6, .val (.int .i64 x_8) .no), (7, .val (.int .i64 x_9) .no), (8, .val (.int .u64 x_10) .no)] H nx) =
 (br (decide ((0) < x_10))
 (run Try.prog ann cal n 6 (goTo [0, 5, 0, 5, 0, 5, 0, 0, 5, 2, 3] (bodyOf 6)) (mkS 39 [(0, .val (.int .u64 x_5) .no), (1, .val (.int .u64 x_6) .no), (5, .val (.int .i64 x_7) .no), (6, .val (.int .i64 x_8) .no), (7, .val (.int .i64 (IntKind.wrap IntKind.i64 (x_9 + (1)))) .no), (8, .val (.int .u64 (IntKind.wrap IntKind.u64 (Int.tdiv x_10 (128)))) .no)] H nx))
 (br (decide (x_7 = x_9))
 (br (decide (x_6 < x_5))
 (br (pureL []) ((cal 13 [] Hp.none 0).bind fun r1 => br (AV.pure r1.v)
 (midRun cal (n + 4) 6 (goTo [0, 5, 0, 5, 0, 5, 0, 0, 5, 2, 3, 0, 0, 5, 7, 5, 5, 5, 5, 0] (bodyOf 6)) 15 (mkS 39 [(0, .val (.int .u64 x_5) .no), (1, .val (.int .u64 x_6) .no), (5, .val (.int .i64 x_7) .no), (6, .val (.int .i64 x_8) .no), (7, .val (.int .i64 x_9) .no), (8, .val (.int .u64 x_10) .no), (18, .val (.bool false) .no), (23, .val (.int .i64 x_7) .no), (24, .val (.int .i64 x_9) .no), (25, .val (.bool (decide (x_7 = x_9))) .no), (26, .val (.bool true) .no), (27, .val (.int .u64 x_5) .no), (28, .val (.int .u64 x_6) .no), (29, .val (.bool (decide (x_6 < x_5))) .no), (30, .val (.bool true) .no), (31, .val (.tuple []) .no), (32, .val (.tuple []) .no), (33, .val (.tuple []) .no), (34, .val (.bool true) .no), (35, .val (.bool true) .no), (36, .val (.bool true) .no), (37, .val r1.v .no)] H nx)) none) none)
 (br (decide (x_7 ≤ x_8))
 (br (pureL []) ((cal 13 [] Hp.none 0).bind fun r2 => br (AV.pure r2.v)
 (midRun cal (n + 4) 6 (goTo [0, 5, 0, 5, 0, 5, 0, 0, 5, 2, 3, 0, 0, 5, 7, 5, 5, 5, 5, 0] (bodyOf 6)) 15 (mkS 39 [(0, .val (.int .u64 x_5) .no), (1, .val (.int .u64 x_6) .no), (5, .val (.int .i64 x_7) .no), (6, .val (.int .i64 x_8) .no), (7, .val (.int .i64 x_9) .no), (8, .val (.int .u64 x_10) .no), (18, .val (.bool false) .no), (23, .val (.int .i64 x_7) .no), (24, .val (.int .i64 x_9) .no), (25, .val (.bool (decide (x_7 = x_9))) .no), (26, .val (.bool true) .no), (27, .val (.int .u64 x_5) .no), (28, .val (.int .u64 x_6) .no), (29, .val (.bool (decide (x_6 < x_5))) .no), (30, .val (.bool false) .no), (31, .val (.int .i64 x_7) .no), (32, .val (.int .i64 x_8) .no), (33, .val (.bool (decide (x_7 ≤ x_8))) .no), (34, .val (.bool (decide (x_7 ≤ x_8))) .no), (35, .val (.bool (decide (x_7 ≤ x_8))) .no), (36, .val (.bool true) .no), (37, .val r2.v .no)] H nx)) none) none)
 (some ⟨(.bool false), H, nx⟩)))
 (some ⟨(.bool false), H, nx⟩))) := by kernel_rfl

/-- fuel 1 -/
theorem s6_4 (cal : Oracle) (n : Nat) (H : Hp) (nx : Nat) (x_5 : Int) (x_6 : Int) (x_7 : Int) (x_8 : Int) (x_9 : Int) (x_10 : Int) : midRun cal (n + 1) 6 (goTo [0, 5, 0, 5, 0, 5, 0, 0, 5, 2, 3, 0, 0, 5, 7, 5, 5, 5, 5, 0] (bodyOf 6)) 15 (mkS 39 [(0, .val (.int .u64 x_5) .no), (1, .val (.int .u64 x_6) .no), (5, .val (.int .i64 x_7) .no), (6, .val (.int .i64 x_8) .no), (7, .val (.int .i64 x_9) .no), (8, .val (.int .u64 x_10) .no), (18, .val (.bool false) .no), (23, .val (.int .i64 x_7) .no), (24, .val (.int .i64 x_9) .no), (25, .val (.bool (decide (x_7 = x_9))) .no), (26, .val (.bool true) .no), (27, .val (.int .u64 x_5) .no), (28, .val (.int .u64 x_6) .no), (29, .val (.bool (decide (x_6 < x_5))) .no), (30, .val (.bool true) .no), (31, .val (.tuple []) .no), (32, .val (.tuple []) .no), (33, .val (.tuple []) .no), (34, .val (.bool true) .no), (35, .val (.bool true) .no), (36, .val (.bool true) .no), (37, .val (.bool true) .no)] H nx) =
 (some ⟨(.bool true), H, nx⟩) := by kernel_rfl

/-- fuel 1 -/
theorem s6_5 (cal : Oracle) (n : Nat) (H : Hp) (nx : Nat) (x_5 : Int) (x_6 : Int) (x_7 : Int) (x_8 : Int) (x_9 : Int) (x_10 : Int) : midRun cal (n + 1) 6 (goTo [0, 5, 0, 5, 0, 5, 0, 0, 5, 2, 3, 0, 0, 5, 7, 5, 5, 5, 5, 0] (bodyOf 6)) 15 (mkS 39 [(0, .val (.int .u64 x_5) .no), (1, .val (.int .u64 x_6) .no), (5, .val (.int .i64 x_7) .no), (6, .val (.int .i64 x_8) .no), (7, .val (.int .i64 x_9) .no), (8, .val (.int .u64 x_10) .no), (18, .val (.bool false) .no), (23, .val (.int .i64 x_7) .no), (24, .val (.int .i64 x_9) .no), (25, .val (.bool (decide (x_7 = x_9))) .no), (26, .val (.bool true) .no), (27, .val (.int .u64 x_5) .no), (28, .val (.int .u64 x_6) .no), (29, .val (.bool (decide (x_6 < x_5))) .no), (30, .val (.bool false) .no), (31, .val (.int .i64 x_7) .no), (32, .val (.int .i64 x_8) .no), (33, .val (.bool (decide (x_7 ≤ x_8))) .no), (34, .val (.bool (decide (x_7 ≤ x_8))) .no), (35, .val (.bool (decide (x_7 ≤ x_8))) .no), (36, .val (.bool true) .no), (37, .val (.bool true) .no)] H nx) =
 (some ⟨(.bool true), H, nx⟩) := by kernel_rfl

end Go.Proofs.Ytfdijfnmloddcaa
