/- Stage laws, printed by gen_wire.py. -/
import Derived.Test.YtfdijfnmloddcaaVMid
namespace Go.Proofs.Ytfdijfnmloddcaa
open Go Go.Vai
attribute [local irreducible] midRun vAt goTo bodyOf mkS

/-- fuel 9 -/
theorem s5_0 (cal : Oracle) (n : Nat) (H : Hp) (nx : Nat) (x_1 : Int) (l_2 : List AV) (tg_3 : Bool) : run Try.prog ann cal (n + 9) 5 (bodyOf 5) (mkS 48 [(0, .val (.int .u64 x_1) .no), (1, .val (.vs 1 tg_3 l_2) .no)] H nx) =
 (br (decide ((300) < (((List.length l_2) : Nat) : Int)))
 (br (pureL []) ((cal 13 [] Hp.none 0).bind fun r1 => br (AV.pure r1.v)
 (midRun cal (n + 1) 5 (goTo [0, 5, 0, 0, 5, 6, 0] (bodyOf 5)) 1 (mkS 48 [(0, .val (.int .u64 x_1) .no), (1, .val (.vs 1 tg_3 l_2) .no), (11, .val (.bool true) .no), (12, .val r1.v .no)] H nx)) none) none)
 (br (pureL [(.vs 1 true []), (.int .u64 x_1)]) ((cal 14 [(.vs 1 true []), (.int .u64 x_1)] Hp.none 0).bind fun r2 => br (AV.pure r2.v)
 (midRun cal n 5 (goTo [0, 5, 0, 0, 5, 7, 5, 0] (bodyOf 5)) 2 (mkS 48 [(0, .val (.int .u64 x_1) .no), (1, .val (.vs 1 tg_3 l_2) .no), (11, .val (.bool false) .no), (13, .val (.int .u64 x_1) .no), (14, .val r2.v .own)] H nx)) none) none)) := by kernel_rfl

/-- fuel 1 -/
theorem s5_1 (cal : Oracle) (n : Nat) (H : Hp) (nx : Nat) (x_1 : Int) (l_2 : List AV) (tg_3 : Bool) : midRun cal (n + 1) 5 (goTo [0, 5, 0, 0, 5, 6, 0] (bodyOf 5)) 1 (mkS 48 [(0, .val (.int .u64 x_1) .no), (1, .val (.vs 1 tg_3 l_2) .no), (11, .val (.bool true) .no), (12, .val (.bool true) .no)] H nx) =
 (some ⟨(.bool true), H, nx⟩) := by kernel_rfl

/-- fuel 2 -/
theorem s5_2 (cal : Oracle) (n : Nat) (H : Hp) (nx : Nat) (x_1 : Int) (l_2 : List AV) (tg_3 : Bool) (l_4 : List AV) : midRun cal (n + 2) 5 (goTo [0, 5, 0, 0, 5, 7, 5, 0] (bodyOf 5)) 2 (mkS 48 [(0, .val (.int .u64 x_1) .no), (1, .val (.vs 1 tg_3 l_2) .no), (11, .val (.bool false) .no), (13, .val (.int .u64 x_1) .no), (14, .val (.vs 1 false l_4) .own)] H nx) =
 (br (Nat.ble ((0 + (List.length l_4)) * 1) maxBytes)
 (br (Nat.ble (0 + (List.length l_4)) maxBytes)
 (br (Nat.ble (((List.length ([] ++ l_4)) + (List.length l_2)) * 1) maxBytes)
 (br (Nat.ble ((List.length ([] ++ l_4)) + (List.length l_2)) maxBytes)
 (br (pureL [(.vs 1 false (([] ++ l_4) ++ l_2))]) ((cal 16 [(.vs 1 false (([] ++ l_4) ++ l_2))] Hp.none 0).bind fun r1 => br (AV.pure r1.v)
 (midRun cal n 5 (goTo [0, 5, 0, 0, 5, 7, 5, 0, 5, 0] (bodyOf 5)) 6 (mkS 48 [(0, .val (.int .u64 x_1) .no), (1, .val (.vs 1 tg_3 l_2) .no), (5, .val (.vs 1 false l_4) .own), (16, .val (.vs 1 true []) .no), (17, .val (.vs 1 false l_4) .no), (18, .val (.vs 1 false ([] ++ l_4)) .no), (19, .val (.vs 1 tg_3 l_2) .no), (20, .val (.vs 1 false (([] ++ l_4) ++ l_2)) .own), (21, .val r1.v .no)] H nx)) none) none)
 none)
 none)
 none)
 none) := by kernel_rfl

/-- fuel 3 -/
theorem s5_3 (cal : Oracle) (n : Nat) (H : Hp) (nx : Nat) (x_1 : Int) (l_2 : List AV) (tg_3 : Bool) (l_4 : List AV) (x_5 : Int) (x_6 : Int) (x_7 : Int) : midRun cal (n + 3) 5 (goTo [0, 5, 0, 0, 5, 7, 5, 0, 5, 0] (bodyOf 5)) 6 (mkS 48 [(0, .val (.int .u64 x_1) .no), (1, .val (.vs 1 tg_3 l_2) .no), (5, .val (.vs 1 false l_4) .own), (16, .val (.vs 1 true []) .no), (17, .val (.vs 1 false l_4) .no), (18, .val (.vs 1 false ([] ++ l_4)) .no), (19, .val (.vs 1 tg_3 l_2) .no), (20, .val (.vs 1 false (([] ++ l_4) ++ l_2)) .own), (21, .val (.tuple [(.int .u64 x_5), (.int .i64 x_6), (.int .i64 x_7)]) .no)] H nx) =
 (br (decide (x_5 = x_1))
 (br (decide (x_6 = (((List.length l_4) : Nat) : Int)))
 (br (decide (x_7 = (0)))
 (br (decide ((1) ≤ (((List.length l_4) : Nat) : Int)))
 (some ⟨(.bool (decide ((((List.length l_4) : Nat) : Int) ≤ (10)))), H, nx⟩)
 (some ⟨(.bool false), H, nx⟩))
 (some ⟨(.bool false), H, nx⟩))
 (some ⟨(.bool false), H, nx⟩))
 (some ⟨(.bool false), H, nx⟩)) := by kernel_rfl

end Go.Proofs.Ytfdijfnmloddcaa
