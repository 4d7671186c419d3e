/- Stage laws, printed by gen_disk.py. -/
import Derived.Test.YtjipknfohmgjaaaDHp
namespace Go.Proofs.Ytjipknfohmgjaaa
open Go Go.Vai
attribute [local irreducible] midRun goTo bodyOf mkS

/-- fuel 9 -/
theorem z12_0 (cal : Oracle) (n : Nat) (H : Hp) (nx : Nat)  : run Try.prog ann cal (n + 9) 12 (bodyOf 12) (mkS 11 [(0, .val .nilp .no)] [] H nx) =
 (some ⟨(.int .i64 (0)), H, nx⟩) := by kernel_rfl

/-- fuel 5 -/
theorem z13_0 (cal : Oracle) (n : Nat) (H : Hp) (nx : Nat) (x_1 : Int) (x_2 : Int) : run Try.prog ann cal (n + 5) 13 (bodyOf 13) (mkS 26 [(0, .val .nilp .no), (1, .val (.int .i64 x_1) .no), (2, .val (.int .i64 x_2) .no)] [] H nx) =
 ((cal 28 [.nilp, (.int .i64 x_1), (.int .i64 x_2)] H nx).bind fun r1 =>
 (midRun cal n 13 (goTo [0, 5, 0, 0] (bodyOf 13)) 4 (mkS 26 [(0, .val .nilp .no), (1, .val (.int .i64 x_1) .no), (2, .val (.int .i64 x_2) .no), (9, .val .nilp .no), (10, .val (.int .i64 x_1) .no), (11, .val (.int .i64 x_2) .no), (12, .val r1.v .no)] [] r1.H r1.nx))) := by kernel_rfl

/-- fuel 6 -/
theorem z13_1 (cal : Oracle) (n : Nat) (H : Hp) (nx : Nat) (x_1 : Int) (x_2 : Int) (x_3 : Int) : midRun cal (n + 6) 13 (goTo [0, 5, 0, 0] (bodyOf 13)) 4 (mkS 26 [(0, .val .nilp .no), (1, .val (.int .i64 x_1) .no), (2, .val (.int .i64 x_2) .no), (9, .val .nilp .no), (10, .val (.int .i64 x_1) .no), (11, .val (.int .i64 x_2) .no), (12, .val (.int .i64 x_3) .no)] [] H nx) =
 (br (!(decide (x_3 = (0))))
 (some ⟨(.tuple [(.vs 1 true []), (.int .i64 x_3)]), H, nx⟩)
 none) := by kernel_rfl

/-- fuel 5 -/
theorem z14_0 (cal : Oracle) (n : Nat) (H : Hp) (nx : Nat)  : run Try.prog ann cal (n + 5) 14 (bodyOf 14) (mkS 11 [(0, .val .nilp .no)] [] H nx) =
 (some ⟨(.bool false), H, nx⟩) := by kernel_rfl

/-- fuel 9 -/
theorem z15_0 (cal : Oracle) (n : Nat) (H : Hp) (nx : Nat)  : run Try.prog ann cal (n + 9) 15 (bodyOf 15) (mkS 10 [(0, .val .nilp .no)] [] H nx) =
 (some ⟨(.int .i64 (0)), H, nx⟩) := by kernel_rfl

/-- fuel 5 -/
theorem z17_0 (cal : Oracle) (n : Nat) (H : Hp) (nx : Nat) (l_4 : List AV) (tg_5 : Bool) (x_6 : Int) : run Try.prog ann cal (n + 5) 17 (bodyOf 17) (mkS 11 [(0, .val (.vs 1 tg_5 l_4) .no), (1, .val (.int .i64 x_6) .no)] [] H nx) =
 (br (decide ((0 : Int) ≤ (if x_6 < (((List.length l_4) : Nat) : Int) then x_6 else (((List.length l_4) : Nat) : Int))))
 (br (decide ((if x_6 < (((List.length l_4) : Nat) : Int) then x_6 else (((List.length l_4) : Nat) : Int)) ≤ (((List.length l_4) : Nat) : Int)))
 (some ⟨(.vs 1 false (List.drop 0 (List.take (Int.toNat (if x_6 < (((List.length l_4) : Nat) : Int) then x_6 else (((List.length l_4) : Nat) : Int))) l_4))), H, nx⟩)
 none)
 none) := by kernel_rfl

/-- fuel 10 -/
theorem z18_0 (cal : Oracle) (n : Nat) (H : Hp) (nx : Nat) (x_7 : Int) (x_8 : Int) : run Try.prog ann cal (n + 10) 18 (bodyOf 18) (mkS 14 [(0, .val (.int .i64 x_7) .no), (1, .val (.int .i64 x_8) .no)] [] H nx) =
 (br (decide (x_8 < (1)))
 (some ⟨(.int .i64 (0)), H, nx⟩)
 (br (decide (x_8 = 0))
 none
 (br (decide (x_8 = 0))
 none
 (some ⟨(.int .i64 (Int.tmod (IntKind.wrap IntKind.i64 ((Int.tmod x_7 x_8) + x_8)) x_8)), H, nx⟩)))) := by kernel_rfl

/-- fuel 5 -/
theorem z19_0 (cal : Oracle) (n : Nat) (H : Hp) (nx : Nat) (x_9 : Int) (l_10 : List AV) (tg_11 : Bool) : run Try.prog ann cal (n + 5) 19 (bodyOf 19) (mkS 86 [(0, .val .nilp .no), (1, .val (.int .i64 x_9) .no), (2, .val (.vs 1 tg_11 l_10) .no)] [] H nx) =
 ((cal 28 [.nilp, (.int .i64 x_9), (.int .i64 (((List.length l_10) : Nat) : Int))] H nx).bind fun r1 =>
 (midRun cal n 19 (goTo [0, 5, 0, 0] (bodyOf 19)) 5 (mkS 86 [(0, .val .nilp .no), (1, .val (.int .i64 x_9) .no), (2, .val (.vs 1 tg_11 l_10) .no), (9, .val .nilp .no), (10, .val (.int .i64 x_9) .no), (11, .val (.vs 1 tg_11 l_10) .no), (12, .val (.int .i64 (((List.length l_10) : Nat) : Int)) .no), (13, .val r1.v .no)] [] r1.H r1.nx))) := by kernel_rfl

/-- fuel 7 -/
theorem z19_1 (cal : Oracle) (n : Nat) (H : Hp) (nx : Nat) (x_9 : Int) (l_10 : List AV) (tg_11 : Bool) (x_12 : Int) : midRun cal (n + 7) 19 (goTo [0, 5, 0, 0] (bodyOf 19)) 5 (mkS 86 [(0, .val .nilp .no), (1, .val (.int .i64 x_9) .no), (2, .val (.vs 1 tg_11 l_10) .no), (9, .val .nilp .no), (10, .val (.int .i64 x_9) .no), (11, .val (.vs 1 tg_11 l_10) .no), (12, .val (.int .i64 (((List.length l_10) : Nat) : Int)) .no), (13, .val (.int .i64 x_12) .no)] [] H nx) =
 (br (!(decide (x_12 = (0))))
 (some ⟨(.int .i64 x_12), H, nx⟩)
 (run Try.prog ann cal n 19 (goTo [0, 5, 0, 0, 5, 0, 5, 7, 5, 0, 2, 3] (bodyOf 19)) (mkS 86 [(0, .val .nilp .no), (1, .val (.int .i64 x_9) .no), (2, .val (.vs 1 tg_11 l_10) .no), (7, .val (.int .i64 x_12) .no), (15, .val (.bool false) .no)] [] H nx))) := by kernel_rfl

/-- fuel 9 -/
theorem z19_2 (cal : Oracle) (n : Nat) (H : Hp) (nx : Nat) (x_13 : Int) (tg_14 : Bool) (l_15 : List AV) (x_16 : Int) (c_17 : Bool) : run Try.prog ann cal (n + 9) 19 (goTo [0, 5, 0, 0, 5, 0, 5, 7, 5, 0, 2, 3] (bodyOf 19)) (mkS 86 [(0, .val .nilp .no), (1, .val (.int .i64 x_13) .no), (2, .val (.vs 1 tg_14 l_15) .no), (7, .val (.int .i64 x_16) .no), (15, .val (.bool c_17) .no)] [] H nx) =
 (br (decide ((0) < (((List.length l_15) : Nat) : Int)))
 none
 (some ⟨(.int .i64 (0)), H, nx⟩)) := by kernel_rfl

/-- fuel 5 -/
theorem z20_0 (cal : Oracle) (n : Nat) (H : Hp) (nx : Nat)  : run Try.prog ann cal (n + 5) 20 (bodyOf 20) (mkS 34 [(0, .val .nilp .no)] [] H nx) =
 ((cal 28 [.nilp, (.int .i64 (0)), (.int .i64 (0))] H nx).bind fun r1 =>
 (midRun cal n 20 (goTo [0, 5, 0, 0] (bodyOf 20)) 2 (mkS 34 [(0, .val .nilp .no), (6, .val .nilp .no), (7, .val r1.v .no)] [] r1.H r1.nx))) := by kernel_rfl

/-- fuel 7 -/
theorem z20_1 (cal : Oracle) (n : Nat) (H : Hp) (nx : Nat) (x_18 : Int) : midRun cal (n + 7) 20 (goTo [0, 5, 0, 0] (bodyOf 20)) 2 (mkS 34 [(0, .val .nilp .no), (6, .val .nilp .no), (7, .val (.int .i64 x_18) .no)] [] H nx) =
 (br (!(decide (x_18 = (0))))
 (some ⟨(.int .i64 x_18), H, nx⟩)
 none) := by kernel_rfl

/-- fuel 7 -/
theorem z21_0 (cal : Oracle) (n : Nat) (H : Hp) (nx : Nat) (x_19 : Int) (x_20 : Int) : run Try.prog ann cal (n + 7) 21 (bodyOf 21) (mkS 94 [(0, .val .nilp .no), (1, .val (.agg [(.int .i64 x_19), (.int .i64 x_20)]) .no)] [] H nx) =
 (some ⟨(.tuple []), H, nx⟩) := by kernel_rfl

/-- fuel 5 -/
theorem z27_0 (cal : Oracle) (n : Nat) (H : Hp) (nx : Nat) (x_21 : Int) : run Try.prog ann cal (n + 5) 27 (bodyOf 27) (mkS 20 [(0, .val .nilp .no), (1, .val (.int .i64 x_21) .no)] [] H nx) =
 (some ⟨(.tuple []), H, nx⟩) := by kernel_rfl

/-- fuel 10 -/
theorem z28_0 (cal : Oracle) (n : Nat) (H : Hp) (nx : Nat) (x_22 : Int) (x_23 : Int) : run Try.prog ann cal (n + 10) 28 (bodyOf 28) (mkS 42 [(0, .val .nilp .no), (1, .val (.int .i64 x_22) .no), (2, .val (.int .i64 x_23) .no)] [] H nx) =
 (some ⟨(.int .i64 (17)), H, nx⟩) := by kernel_rfl

/-- fuel 6 -/
theorem z10_0 (cal : Oracle) (n : Nat) (H : Hp) (nx : Nat) (x_24 : Int) (x_25 : Int) (l_26 : List AV) (tg_27 : Bool) : run Try.prog ann cal (n + 6) 10 (bodyOf 10) (mkS 62 [(0, .val (.int .i64 x_24) .no), (1, .val (.int .i64 x_25) .no), (2, .val (.vs 1 tg_27 l_26) .no)] [] H nx) =
 ((cal 13 [.nilp, (.int .i64 x_24), (.int .i64 x_25)] H nx).bind fun r1 =>
 (midRun cal n 10 (goTo [0, 5, 0, 5, 0] (bodyOf 10)) 4 (mkS 62 [(0, .val (.int .i64 x_24) .no), (1, .val (.int .i64 x_25) .no), (2, .val (.vs 1 tg_27 l_26) .no), (7, .val .nilp .no), (13, .val .nilp .no), (14, .val (.int .i64 x_24) .no), (15, .val (.int .i64 x_25) .no), (16, .val r1.v .no)] [] r1.H r1.nx))) := by kernel_rfl

/-- fuel 2 -/
theorem z10_1 (cal : Oracle) (n : Nat) (H : Hp) (nx : Nat) (x_24 : Int) (x_25 : Int) (l_26 : List AV) (tg_27 : Bool) (l_28 : List AV) (tg_29 : Bool) (x_30 : Int) : midRun cal (n + 2) 10 (goTo [0, 5, 0, 5, 0] (bodyOf 10)) 4 (mkS 62 [(0, .val (.int .i64 x_24) .no), (1, .val (.int .i64 x_25) .no), (2, .val (.vs 1 tg_27 l_26) .no), (7, .val .nilp .no), (13, .val .nilp .no), (14, .val (.int .i64 x_24) .no), (15, .val (.int .i64 x_25) .no), (16, .val (.tuple [(.vs 1 tg_29 l_28), (.int .i64 x_30)]) .no)] [] H nx) =
 (br (pureL [(.vs 1 tg_27 l_26), (.int .i64 (40))]) ((cal 17 [(.vs 1 tg_27 l_26), (.int .i64 (40))] Hp.none 0).bind fun r2 => br (AV.pure r2.v)
 (midRun cal n 10 (goTo [0, 5, 0, 5, 0, 5, 0] (bodyOf 10)) 4 (mkS 62 [(0, .val (.int .i64 x_24) .no), (1, .val (.int .i64 x_25) .no), (2, .val (.vs 1 tg_27 l_26) .no), (7, .val .nilp .no), (9, .val (.int .i64 x_30) .no), (19, .val .nilp .no), (20, .val (.int .i64 x_24) .no), (21, .val (.vs 1 tg_27 l_26) .no), (22, .val r2.v .no)] [] H nx)) none) none) := by kernel_rfl

/-- fuel 0 -/
theorem z10_2 (cal : Oracle) (n : Nat) (H : Hp) (nx : Nat) (x_24 : Int) (x_25 : Int) (l_26 : List AV) (tg_27 : Bool) (x_30 : Int) (l_31 : List AV) (tg_32 : Bool) : midRun cal n 10 (goTo [0, 5, 0, 5, 0, 5, 0] (bodyOf 10)) 4 (mkS 62 [(0, .val (.int .i64 x_24) .no), (1, .val (.int .i64 x_25) .no), (2, .val (.vs 1 tg_27 l_26) .no), (7, .val .nilp .no), (9, .val (.int .i64 x_30) .no), (19, .val .nilp .no), (20, .val (.int .i64 x_24) .no), (21, .val (.vs 1 tg_27 l_26) .no), (22, .val (.vs 1 tg_32 l_31) .no)] [] H nx) =
 ((cal 19 [.nilp, (.int .i64 x_24), (.vs 1 tg_32 l_31)] H nx).bind fun r3 =>
 (midRun cal n 10 (goTo [0, 5, 0, 5, 0, 5, 0] (bodyOf 10)) 5 (mkS 62 [(0, .val (.int .i64 x_24) .no), (1, .val (.int .i64 x_25) .no), (2, .val (.vs 1 tg_27 l_26) .no), (7, .val .nilp .no), (9, .val (.int .i64 x_30) .no), (19, .val .nilp .no), (20, .val (.int .i64 x_24) .no), (21, .val (.vs 1 tg_27 l_26) .no), (22, .val (.vs 1 tg_32 l_31) .no), (23, .val r3.v .no)] [] r3.H r3.nx))) := by kernel_rfl

/-- fuel 0 -/
theorem z10_3 (cal : Oracle) (n : Nat) (H : Hp) (nx : Nat) (x_24 : Int) (x_25 : Int) (l_26 : List AV) (tg_27 : Bool) (x_30 : Int) (l_31 : List AV) (tg_32 : Bool) (x_33 : Int) : midRun cal n 10 (goTo [0, 5, 0, 5, 0, 5, 0] (bodyOf 10)) 5 (mkS 62 [(0, .val (.int .i64 x_24) .no), (1, .val (.int .i64 x_25) .no), (2, .val (.vs 1 tg_27 l_26) .no), (7, .val .nilp .no), (9, .val (.int .i64 x_30) .no), (19, .val .nilp .no), (20, .val (.int .i64 x_24) .no), (21, .val (.vs 1 tg_27 l_26) .no), (22, .val (.vs 1 tg_32 l_31) .no), (23, .val (.int .i64 x_33) .no)] [] H nx) =
 ((cal 20 [.nilp] H nx).bind fun r4 =>
 (midRun cal n 10 (goTo [0, 5, 0, 5, 0, 5, 0] (bodyOf 10)) 7 (mkS 62 [(0, .val (.int .i64 x_24) .no), (1, .val (.int .i64 x_25) .no), (2, .val (.vs 1 tg_27 l_26) .no), (7, .val .nilp .no), (9, .val (.int .i64 x_30) .no), (19, .val .nilp .no), (20, .val (.int .i64 x_24) .no), (21, .val (.vs 1 tg_27 l_26) .no), (22, .val (.vs 1 tg_32 l_31) .no), (23, .val (.int .i64 x_33) .no), (24, .val .nilp .no), (25, .val r4.v .no)] [] r4.H r4.nx))) := by kernel_rfl

/-- fuel 2 -/
theorem z10_4 (cal : Oracle) (n : Nat) (H : Hp) (nx : Nat) (x_24 : Int) (x_25 : Int) (l_26 : List AV) (tg_27 : Bool) (x_30 : Int) (l_31 : List AV) (tg_32 : Bool) (x_33 : Int) (x_34 : Int) : midRun cal (n + 2) 10 (goTo [0, 5, 0, 5, 0, 5, 0] (bodyOf 10)) 7 (mkS 62 [(0, .val (.int .i64 x_24) .no), (1, .val (.int .i64 x_25) .no), (2, .val (.vs 1 tg_27 l_26) .no), (7, .val .nilp .no), (9, .val (.int .i64 x_30) .no), (19, .val .nilp .no), (20, .val (.int .i64 x_24) .no), (21, .val (.vs 1 tg_27 l_26) .no), (22, .val (.vs 1 tg_32 l_31) .no), (23, .val (.int .i64 x_33) .no), (24, .val .nilp .no), (25, .val (.int .i64 x_34) .no)] [] H nx) =
 ((cal 27 [.nilp, (.int .i64 x_25)] H nx).bind fun r5 =>
 (midRun cal n 10 (goTo [0, 5, 0, 5, 0, 5, 0, 5, 0] (bodyOf 10)) 3 (mkS 62 [(0, .val (.int .i64 x_24) .no), (1, .val (.int .i64 x_25) .no), (7, .val .nilp .no), (9, .val (.int .i64 x_30) .no), (10, .val (.int .i64 x_33) .no), (11, .val (.int .i64 x_34) .no), (26, .val .nilp .no), (27, .val (.int .i64 x_25) .no), (28, .val r5.v .no)] [] r5.H r5.nx))) := by kernel_rfl

/-- fuel 2 -/
theorem z10_5 (cal : Oracle) (n : Nat) (H : Hp) (nx : Nat) (x_24 : Int) (x_25 : Int) (x_30 : Int) (x_33 : Int) (x_34 : Int) : midRun cal (n + 2) 10 (goTo [0, 5, 0, 5, 0, 5, 0, 5, 0] (bodyOf 10)) 3 (mkS 62 [(0, .val (.int .i64 x_24) .no), (1, .val (.int .i64 x_25) .no), (7, .val .nilp .no), (9, .val (.int .i64 x_30) .no), (10, .val (.int .i64 x_33) .no), (11, .val (.int .i64 x_34) .no), (26, .val .nilp .no), (27, .val (.int .i64 x_25) .no), (28, .val (.tuple []) .no)] [] H nx) =
 ((cal 21 [.nilp, (.agg [(.int .i64 x_24), (.int .i64 x_25)])] H nx).bind fun r6 =>
 (midRun cal n 10 (goTo [0, 5, 0, 5, 0, 5, 0, 5, 0, 5, 0] (bodyOf 10)) 5 (mkS 62 [(0, .val (.int .i64 x_24) .no), (1, .val (.int .i64 x_25) .no), (7, .val .nilp .no), (9, .val (.int .i64 x_30) .no), (10, .val (.int .i64 x_33) .no), (11, .val (.int .i64 x_34) .no), (29, .val .nilp .no), (30, .val (.int .i64 x_24) .no), (31, .val (.int .i64 x_25) .no), (32, .val (.agg [(.int .i64 x_24), (.int .i64 x_25)]) .no), (33, .val r6.v .no)] [] r6.H r6.nx))) := by kernel_rfl

/-- fuel 3 -/
theorem z10_6 (cal : Oracle) (n : Nat) (H : Hp) (nx : Nat) (x_24 : Int) (x_25 : Int) (x_30 : Int) (x_33 : Int) (x_34 : Int) : midRun cal (n + 3) 10 (goTo [0, 5, 0, 5, 0, 5, 0, 5, 0, 5, 0] (bodyOf 10)) 5 (mkS 62 [(0, .val (.int .i64 x_24) .no), (1, .val (.int .i64 x_25) .no), (7, .val .nilp .no), (9, .val (.int .i64 x_30) .no), (10, .val (.int .i64 x_33) .no), (11, .val (.int .i64 x_34) .no), (29, .val .nilp .no), (30, .val (.int .i64 x_24) .no), (31, .val (.int .i64 x_25) .no), (32, .val (.agg [(.int .i64 x_24), (.int .i64 x_25)]) .no), (33, .val (.tuple []) .no)] [] H nx) =
 (br (decide (x_30 = (17)))
 (br (decide (x_33 = (17)))
 (br (decide (x_34 = (17)))
 ((cal 12 [.nilp] H nx).bind fun r7 =>
 (midRun cal (n + 1) 10 (goTo [0, 5, 0, 5, 0, 5, 0, 5, 0, 5, 0, 5, 0] (bodyOf 10)) 13 (mkS 62 [(7, .val .nilp .no), (9, .val (.int .i64 x_30) .no), (10, .val (.int .i64 x_33) .no), (11, .val (.int .i64 x_34) .no), (34, .val (.int .i64 x_30) .no), (35, .val (.bool (decide (x_30 = (17)))) .no), (36, .val (.bool true) .no), (37, .val (.int .i64 x_33) .no), (38, .val (.bool (decide (x_33 = (17)))) .no), (39, .val (.bool (decide (x_33 = (17)))) .no), (40, .val (.bool true) .no), (41, .val (.int .i64 x_34) .no), (42, .val (.bool (decide (x_34 = (17)))) .no), (43, .val (.bool (decide (x_34 = (17)))) .no), (44, .val (.bool true) .no), (45, .val .nilp .no), (46, .val r7.v .no)] [] r7.H r7.nx)))
 (some ⟨(.bool false), H, nx⟩))
 (some ⟨(.bool false), H, nx⟩))
 (some ⟨(.bool false), H, nx⟩)) := by kernel_rfl

/-- fuel 1 -/
theorem z10_7 (cal : Oracle) (n : Nat) (H : Hp) (nx : Nat) (x_30 : Int) (x_33 : Int) (x_34 : Int) (x_35 : Int) : midRun cal (n + 1) 10 (goTo [0, 5, 0, 5, 0, 5, 0, 5, 0, 5, 0, 5, 0] (bodyOf 10)) 13 (mkS 62 [(7, .val .nilp .no), (9, .val (.int .i64 x_30) .no), (10, .val (.int .i64 x_33) .no), (11, .val (.int .i64 x_34) .no), (34, .val (.int .i64 x_30) .no), (35, .val (.bool (decide (x_30 = (17)))) .no), (36, .val (.bool true) .no), (37, .val (.int .i64 x_33) .no), (38, .val (.bool (decide (x_33 = (17)))) .no), (39, .val (.bool (decide (x_33 = (17)))) .no), (40, .val (.bool true) .no), (41, .val (.int .i64 x_34) .no), (42, .val (.bool (decide (x_34 = (17)))) .no), (43, .val (.bool (decide (x_34 = (17)))) .no), (44, .val (.bool true) .no), (45, .val .nilp .no), (46, .val (.int .i64 x_35) .no)] [] H nx) =
 (br (decide (x_35 = (0)))
 ((cal 15 [.nilp] H nx).bind fun r8 =>
 (midRun cal (n + 1) 10 (goTo [0, 5, 0, 5, 0, 5, 0, 5, 0, 5, 0, 5, 0] (bodyOf 10)) 18 (mkS 62 [(7, .val .nilp .no), (9, .val (.int .i64 x_30) .no), (10, .val (.int .i64 x_33) .no), (11, .val (.int .i64 x_34) .no), (34, .val (.int .i64 x_30) .no), (35, .val (.bool (decide (x_30 = (17)))) .no), (36, .val (.bool true) .no), (37, .val (.int .i64 x_33) .no), (38, .val (.bool (decide (x_33 = (17)))) .no), (39, .val (.bool (decide (x_33 = (17)))) .no), (40, .val (.bool true) .no), (41, .val (.int .i64 x_34) .no), (42, .val (.bool (decide (x_34 = (17)))) .no), (43, .val (.bool (decide (x_34 = (17)))) .no), (44, .val (.bool true) .no), (45, .val .nilp .no), (46, .val (.int .i64 x_35) .no), (47, .val (.bool (decide (x_35 = (0)))) .no), (48, .val (.bool (decide (x_35 = (0)))) .no), (49, .val (.bool true) .no), (50, .val .nilp .no), (51, .val r8.v .no)] [] r8.H r8.nx)))
 (some ⟨(.bool false), H, nx⟩)) := by kernel_rfl

/-- fuel 1 -/
theorem z10_8 (cal : Oracle) (n : Nat) (H : Hp) (nx : Nat) (x_30 : Int) (x_33 : Int) (x_34 : Int) (x_35 : Int) (x_36 : Int) : midRun cal (n + 1) 10 (goTo [0, 5, 0, 5, 0, 5, 0, 5, 0, 5, 0, 5, 0] (bodyOf 10)) 18 (mkS 62 [(7, .val .nilp .no), (9, .val (.int .i64 x_30) .no), (10, .val (.int .i64 x_33) .no), (11, .val (.int .i64 x_34) .no), (34, .val (.int .i64 x_30) .no), (35, .val (.bool (decide (x_30 = (17)))) .no), (36, .val (.bool true) .no), (37, .val (.int .i64 x_33) .no), (38, .val (.bool (decide (x_33 = (17)))) .no), (39, .val (.bool (decide (x_33 = (17)))) .no), (40, .val (.bool true) .no), (41, .val (.int .i64 x_34) .no), (42, .val (.bool (decide (x_34 = (17)))) .no), (43, .val (.bool (decide (x_34 = (17)))) .no), (44, .val (.bool true) .no), (45, .val .nilp .no), (46, .val (.int .i64 x_35) .no), (47, .val (.bool (decide (x_35 = (0)))) .no), (48, .val (.bool (decide (x_35 = (0)))) .no), (49, .val (.bool true) .no), (50, .val .nilp .no), (51, .val (.int .i64 x_36) .no)] [] H nx) =
 (br (decide (x_36 = (0)))
 ((cal 14 [.nilp] H nx).bind fun r9 =>
 (midRun cal (n + 1) 10 (goTo [0, 5, 0, 5, 0, 5, 0, 5, 0, 5, 0, 5, 0] (bodyOf 10)) 23 (mkS 62 [(7, .val .nilp .no), (9, .val (.int .i64 x_30) .no), (10, .val (.int .i64 x_33) .no), (11, .val (.int .i64 x_34) .no), (34, .val (.int .i64 x_30) .no), (35, .val (.bool (decide (x_30 = (17)))) .no), (36, .val (.bool true) .no), (37, .val (.int .i64 x_33) .no), (38, .val (.bool (decide (x_33 = (17)))) .no), (39, .val (.bool (decide (x_33 = (17)))) .no), (40, .val (.bool true) .no), (41, .val (.int .i64 x_34) .no), (42, .val (.bool (decide (x_34 = (17)))) .no), (43, .val (.bool (decide (x_34 = (17)))) .no), (44, .val (.bool true) .no), (45, .val .nilp .no), (46, .val (.int .i64 x_35) .no), (47, .val (.bool (decide (x_35 = (0)))) .no), (48, .val (.bool (decide (x_35 = (0)))) .no), (49, .val (.bool true) .no), (50, .val .nilp .no), (51, .val (.int .i64 x_36) .no), (52, .val (.bool (decide (x_36 = (0)))) .no), (53, .val (.bool (decide (x_36 = (0)))) .no), (54, .val (.bool true) .no), (55, .val .nilp .no), (56, .val r9.v .no)] [] r9.H r9.nx)))
 (some ⟨(.bool false), H, nx⟩)) := by kernel_rfl

/-- fuel 1 -/
theorem z10_9 (cal : Oracle) (n : Nat) (H : Hp) (nx : Nat) (x_30 : Int) (x_33 : Int) (x_34 : Int) (x_35 : Int) (x_36 : Int) (c_37 : Bool) : midRun cal (n + 1) 10 (goTo [0, 5, 0, 5, 0, 5, 0, 5, 0, 5, 0, 5, 0] (bodyOf 10)) 23 (mkS 62 [(7, .val .nilp .no), (9, .val (.int .i64 x_30) .no), (10, .val (.int .i64 x_33) .no), (11, .val (.int .i64 x_34) .no), (34, .val (.int .i64 x_30) .no), (35, .val (.bool (decide (x_30 = (17)))) .no), (36, .val (.bool true) .no), (37, .val (.int .i64 x_33) .no), (38, .val (.bool (decide (x_33 = (17)))) .no), (39, .val (.bool (decide (x_33 = (17)))) .no), (40, .val (.bool true) .no), (41, .val (.int .i64 x_34) .no), (42, .val (.bool (decide (x_34 = (17)))) .no), (43, .val (.bool (decide (x_34 = (17)))) .no), (44, .val (.bool true) .no), (45, .val .nilp .no), (46, .val (.int .i64 x_35) .no), (47, .val (.bool (decide (x_35 = (0)))) .no), (48, .val (.bool (decide (x_35 = (0)))) .no), (49, .val (.bool true) .no), (50, .val .nilp .no), (51, .val (.int .i64 x_36) .no), (52, .val (.bool (decide (x_36 = (0)))) .no), (53, .val (.bool (decide (x_36 = (0)))) .no), (54, .val (.bool true) .no), (55, .val .nilp .no), (56, .val (.bool c_37) .no)] [] H nx) =
 (br (!c_37)
 (br (pureL []) ((cal 16 [] Hp.none 0).bind fun r10 => br (AV.pure r10.v)
 (midRun cal (n + 1) 10 (goTo [0, 5, 0, 5, 0, 5, 0, 5, 0, 5, 0, 5, 0] (bodyOf 10)) 27 (mkS 62 [(7, .val .nilp .no), (9, .val (.int .i64 x_30) .no), (10, .val (.int .i64 x_33) .no), (11, .val (.int .i64 x_34) .no), (34, .val (.int .i64 x_30) .no), (35, .val (.bool (decide (x_30 = (17)))) .no), (36, .val (.bool true) .no), (37, .val (.int .i64 x_33) .no), (38, .val (.bool (decide (x_33 = (17)))) .no), (39, .val (.bool (decide (x_33 = (17)))) .no), (40, .val (.bool true) .no), (41, .val (.int .i64 x_34) .no), (42, .val (.bool (decide (x_34 = (17)))) .no), (43, .val (.bool (decide (x_34 = (17)))) .no), (44, .val (.bool true) .no), (45, .val .nilp .no), (46, .val (.int .i64 x_35) .no), (47, .val (.bool (decide (x_35 = (0)))) .no), (48, .val (.bool (decide (x_35 = (0)))) .no), (49, .val (.bool true) .no), (50, .val .nilp .no), (51, .val (.int .i64 x_36) .no), (52, .val (.bool (decide (x_36 = (0)))) .no), (53, .val (.bool (decide (x_36 = (0)))) .no), (54, .val (.bool true) .no), (55, .val .nilp .no), (56, .val (.bool c_37) .no), (57, .val (.bool (!c_37)) .no), (58, .val (.bool (!c_37)) .no), (59, .val (.bool true) .no), (60, .val r10.v .no)] [] H nx)) none) none)
 (some ⟨(.bool false), H, nx⟩)) := by kernel_rfl

/-- fuel 1 -/
theorem z10_10 (cal : Oracle) (n : Nat) (H : Hp) (nx : Nat) (x_30 : Int) (x_33 : Int) (x_34 : Int) (x_35 : Int) (x_36 : Int) (c_37 : Bool) : midRun cal (n + 1) 10 (goTo [0, 5, 0, 5, 0, 5, 0, 5, 0, 5, 0, 5, 0] (bodyOf 10)) 27 (mkS 62 [(7, .val .nilp .no), (9, .val (.int .i64 x_30) .no), (10, .val (.int .i64 x_33) .no), (11, .val (.int .i64 x_34) .no), (34, .val (.int .i64 x_30) .no), (35, .val (.bool (decide (x_30 = (17)))) .no), (36, .val (.bool true) .no), (37, .val (.int .i64 x_33) .no), (38, .val (.bool (decide (x_33 = (17)))) .no), (39, .val (.bool (decide (x_33 = (17)))) .no), (40, .val (.bool true) .no), (41, .val (.int .i64 x_34) .no), (42, .val (.bool (decide (x_34 = (17)))) .no), (43, .val (.bool (decide (x_34 = (17)))) .no), (44, .val (.bool true) .no), (45, .val .nilp .no), (46, .val (.int .i64 x_35) .no), (47, .val (.bool (decide (x_35 = (0)))) .no), (48, .val (.bool (decide (x_35 = (0)))) .no), (49, .val (.bool true) .no), (50, .val .nilp .no), (51, .val (.int .i64 x_36) .no), (52, .val (.bool (decide (x_36 = (0)))) .no), (53, .val (.bool (decide (x_36 = (0)))) .no), (54, .val (.bool true) .no), (55, .val .nilp .no), (56, .val (.bool c_37) .no), (57, .val (.bool (!c_37)) .no), (58, .val (.bool (!c_37)) .no), (59, .val (.bool true) .no), (60, .val (.bool true) .no)] [] H nx) =
 (some ⟨(.bool true), H, nx⟩) := by kernel_rfl

end Go.Proofs.Ytjipknfohmgjaaa
