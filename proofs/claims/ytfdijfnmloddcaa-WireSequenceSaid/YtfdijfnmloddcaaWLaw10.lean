/- Stage laws, printed by gen_wire.py. -/
import Derived.Test.YtfdijfnmloddcaaVMid
namespace Go.Proofs.Ytfdijfnmloddcaa
open Go Go.Vai
attribute [local irreducible] midRun vAt goTo bodyOf mkS

/-- fuel 9 -/
theorem s10_0 (cal : Oracle) (n : Nat) (H : Hp) (nx : Nat) (l_1 : List AV) (tg_2 : Bool) : run Try.prog ann cal (n + 9) 10 (bodyOf 10) (mkS 41 [(0, .val (.vs 1 tg_2 l_1) .no)] H nx) =
 (br (decide ((300) < (((List.length l_1) : Nat) : Int)))
 (br (pureL []) ((cal 13 [] Hp.none 0).bind fun r1 => br (AV.pure r1.v)
 (midRun cal (n + 1) 10 (goTo [0, 5, 0, 0, 5, 6, 0] (bodyOf 10)) 1 (mkS 41 [(0, .val (.vs 1 tg_2 l_1) .no), (11, .val (.bool true) .no), (12, .val r1.v .no)] H nx)) none) none)
 (br (pureL [(.vs 1 tg_2 l_1)]) ((cal 23 [(.vs 1 tg_2 l_1)] Hp.none 0).bind fun r2 => br (AV.pure r2.v)
 (midRun cal n 10 (goTo [0, 5, 0, 0, 5, 7, 5, 0] (bodyOf 10)) 2 (mkS 41 [(0, .val (.vs 1 tg_2 l_1) .no), (11, .val (.bool false) .no), (14, .val (.vs 1 tg_2 l_1) .no), (15, .val r2.v .no)] H nx)) none) none)) := by kernel_rfl

/-- fuel 1 -/
theorem s10_1 (cal : Oracle) (n : Nat) (H : Hp) (nx : Nat) (l_1 : List AV) (tg_2 : Bool) : midRun cal (n + 1) 10 (goTo [0, 5, 0, 0, 5, 6, 0] (bodyOf 10)) 1 (mkS 41 [(0, .val (.vs 1 tg_2 l_1) .no), (11, .val (.bool true) .no), (12, .val (.bool true) .no)] H nx) =
 (some ⟨(.bool true), H, nx⟩) := by kernel_rfl

/-- fuel 2 -/
theorem s10_2 (cal : Oracle) (n : Nat) (H : Hp) (nx : Nat) (l_1 : List AV) (tg_2 : Bool) (s_3 : List UInt8) (x_4 : Int) (x_5 : Int) : midRun cal (n + 2) 10 (goTo [0, 5, 0, 0, 5, 7, 5, 0] (bodyOf 10)) 2 (mkS 41 [(0, .val (.vs 1 tg_2 l_1) .no), (11, .val (.bool false) .no), (14, .val (.vs 1 tg_2 l_1) .no), (15, .val (.tuple [(.str s_3), (.int .i64 x_4), (.int .i64 x_5)]) .no)] H nx) =
 (br (pureL [(.vs 1 tg_2 l_1)]) ((cal 25 [(.vs 1 tg_2 l_1)] Hp.none 0).bind fun r1 => br (AV.pure r1.v)
 (midRun cal n 10 (goTo [0, 5, 0, 0, 5, 7, 5, 0, 5, 0] (bodyOf 10)) 2 (mkS 41 [(0, .val (.vs 1 tg_2 l_1) .no), (3, .val (.str s_3) .no), (4, .val (.int .i64 x_4) .no), (5, .val (.int .i64 x_5) .no), (20, .val (.vs 1 tg_2 l_1) .no), (21, .val r1.v .no)] H nx)) none) none) := by kernel_rfl

/-- fuel 3 -/
theorem s10_3 (cal : Oracle) (n : Nat) (H : Hp) (nx : Nat) (l_1 : List AV) (tg_2 : Bool) (s_3 : List UInt8) (x_4 : Int) (x_5 : Int) (s_6 : List UInt8) (x_7 : Int) (x_8 : Int) : midRun cal (n + 3) 10 (goTo [0, 5, 0, 0, 5, 7, 5, 0, 5, 0] (bodyOf 10)) 2 (mkS 41 [(0, .val (.vs 1 tg_2 l_1) .no), (3, .val (.str s_3) .no), (4, .val (.int .i64 x_4) .no), (5, .val (.int .i64 x_5) .no), (20, .val (.vs 1 tg_2 l_1) .no), (21, .val (.tuple [(.str s_6), (.int .i64 x_7), (.int .i64 x_8)]) .no)] H nx) =
 (br (eqS s_3 s_6)
 (br (decide (x_4 = x_7))
 (br (decide (x_5 = x_8))
 (br (pureL []) ((cal 13 [] Hp.none 0).bind fun r1 => br (AV.pure r1.v)
 (midRun cal (n + 1) 10 (goTo [0, 5, 0, 0, 5, 7, 5, 0, 5, 0, 5, 0] (bodyOf 10)) 15 (mkS 41 [(3, .val (.str s_3) .no), (4, .val (.int .i64 x_4) .no), (5, .val (.int .i64 x_5) .no), (6, .val (.str s_6) .no), (7, .val (.int .i64 x_7) .no), (8, .val (.int .i64 x_8) .no), (25, .val (.str s_3) .no), (26, .val (.str s_6) .no), (27, .val (.bool (eqS s_3 s_6)) .no), (28, .val (.bool true) .no), (29, .val (.int .i64 x_4) .no), (30, .val (.int .i64 x_7) .no), (31, .val (.bool (decide (x_4 = x_7))) .no), (32, .val (.bool (decide (x_4 = x_7))) .no), (33, .val (.bool true) .no), (34, .val (.int .i64 x_5) .no), (35, .val (.int .i64 x_8) .no), (36, .val (.bool (decide (x_5 = x_8))) .no), (37, .val (.bool (decide (x_5 = x_8))) .no), (38, .val (.bool true) .no), (39, .val r1.v .no)] H nx)) none) none)
 (some ⟨(.bool false), H, nx⟩))
 (some ⟨(.bool false), H, nx⟩))
 (some ⟨(.bool false), H, nx⟩)) := by kernel_rfl

/-- fuel 1 -/
theorem s10_4 (cal : Oracle) (n : Nat) (H : Hp) (nx : Nat) (s_3 : List UInt8) (x_4 : Int) (x_5 : Int) (s_6 : List UInt8) (x_7 : Int) (x_8 : Int) : midRun cal (n + 1) 10 (goTo [0, 5, 0, 0, 5, 7, 5, 0, 5, 0, 5, 0] (bodyOf 10)) 15 (mkS 41 [(3, .val (.str s_3) .no), (4, .val (.int .i64 x_4) .no), (5, .val (.int .i64 x_5) .no), (6, .val (.str s_6) .no), (7, .val (.int .i64 x_7) .no), (8, .val (.int .i64 x_8) .no), (25, .val (.str s_3) .no), (26, .val (.str s_6) .no), (27, .val (.bool (eqS s_3 s_6)) .no), (28, .val (.bool true) .no), (29, .val (.int .i64 x_4) .no), (30, .val (.int .i64 x_7) .no), (31, .val (.bool (decide (x_4 = x_7))) .no), (32, .val (.bool (decide (x_4 = x_7))) .no), (33, .val (.bool true) .no), (34, .val (.int .i64 x_5) .no), (35, .val (.int .i64 x_8) .no), (36, .val (.bool (decide (x_5 = x_8))) .no), (37, .val (.bool (decide (x_5 = x_8))) .no), (38, .val (.bool true) .no), (39, .val (.bool true) .no)] H nx) =
 (some ⟨(.bool true), H, nx⟩) := by kernel_rfl

end Go.Proofs.Ytfdijfnmloddcaa
