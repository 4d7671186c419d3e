/- Stage laws, printed by gen_ref.py. -/
import Derived.Test.YtjipknfohmgjaaaPHp
namespace Go.Proofs.Ytjipknfohmgjaaa
open Go Go.Vai
attribute [local irreducible] midRun goTo bodyOf mkS

/-- fuel 5 -/
theorem rf_25_0 (cal : Oracle) (n : Nat) (Z : Blk × Blk × Blk) (m : Nat) (T : Hp) (nx : Nat) (n_1 : Nat) (tg_2 : Bool) (q_3 : List AV) (off_4 : Bool) (ar_5 : Bool) (ct_6 : Int) : run Try.prog ann cal (n + 5) 25 (bodyOf 25) (mkS 9 [(0, .val (.ptr 8 0) .no)] [] (pre Z ((8, ⟨[(.arr m 0 n_1 1), (.vs 2 tg_2 q_3), (.bool off_4), (.bool ar_5), (.int .i64 ct_6)], [1]⟩) :: T)) nx) =
 (some ⟨(.int .i64 (IntKind.wrap IntKind.i64 (Int.tdiv ((n_1 : Nat) : Int) (32)))), (pre Z ((8, ⟨[(.arr m 0 n_1 1), (.vs 2 tg_2 q_3), (.bool off_4), (.bool ar_5), (.int .i64 ct_6)], [1]⟩) :: T)), nx⟩) := by kernel_rfl

/-- fuel 5 -/
theorem rf_34_0 (cal : Oracle) (n : Nat) (Z : Blk × Blk × Blk) (x_7 : Int) (x_8 : Int) (n_9 : Nat) (tg_10 : Bool) (q_11 : List AV) (off_12 : Bool) (ar_13 : Bool) (ct_14 : Int) (D_15 : List AV) : run Try.prog ann cal (n + 5) 34 (bodyOf 34) (mkS 33 [(0, .val (.ptr 8 0) .no), (1, .val (.int .i64 x_7) .no), (2, .val (.int .i64 x_8) .no)] [] (pre Z (hrf n_9 tg_10 q_11 off_12 ar_13 ct_14 D_15 Hp.none)) 16) =
 (br (decide ((0) ≤ x_7))
 (br (decide ((0) ≤ x_8))
 (br (decide (x_7 ≤ ((n_9 : Nat) : Int)))
 (some ⟨(.bool (decide (x_8 ≤ (IntKind.wrap IntKind.i64 (((n_9 : Nat) : Int) - x_7))))), (pre Z (hrf n_9 tg_10 q_11 off_12 ar_13 ct_14 D_15 Hp.none)), 16⟩)
 (some ⟨(.bool false), (pre Z (hrf n_9 tg_10 q_11 off_12 ar_13 ct_14 D_15 Hp.none)), 16⟩))
 (some ⟨(.bool false), (pre Z (hrf n_9 tg_10 q_11 off_12 ar_13 ct_14 D_15 Hp.none)), 16⟩))
 (some ⟨(.bool false), (pre Z (hrf n_9 tg_10 q_11 off_12 ar_13 ct_14 D_15 Hp.none)), 16⟩)) := by kernel_rfl

/-- fuel 7 -/
theorem rf_31_0 (cal : Oracle) (n : Nat) (Z : Blk × Blk × Blk) (x_16 : Int) (n_17 : Nat) (tg_18 : Bool) (q_19 : List AV) (off_20 : Bool) (ar_21 : Bool) (ct_22 : Int) (D_23 : List AV) : run Try.prog ann cal (n + 7) 31 (bodyOf 31) (mkS 17 [(0, .val (.ptr 8 0) .no), (1, .val (.int .i64 x_16) .no)] [] (pre Z (hrf n_17 tg_18 q_19 off_20 ar_21 ct_22 D_23 Hp.none)) 16) =
 (br (!off_20)
 (some ⟨(.tuple []), (pre Z (hrf n_17 tg_18 q_19 off_20 true (if (0) < x_16 then x_16 else (0)) D_23 Hp.none)), 16⟩)
 (some ⟨(.tuple []), (pre Z (hrf n_17 tg_18 q_19 off_20 ar_21 ct_22 D_23 Hp.none)), 16⟩)) := by kernel_rfl

/-- fuel 4 -/
theorem rf_26_0 (cal : Oracle) (n : Nat) (Z : Blk × Blk × Blk) (n_24 : Nat) (tg_25 : Bool) (q_26 : List AV) (off_27 : Bool) (ar_28 : Bool) (ct_29 : Int) (D_30 : List AV) : run Try.prog ann cal (n + 4) 26 (bodyOf 26) (mkS 40 [(0, .val (.ptr 8 0) .no)] [] (pre Z (hrf n_24 tg_25 q_26 off_27 ar_28 ct_29 D_30 Hp.none)) 16) =
 (br (Nat.ble (0 + n_24) (List.length D_30))
 (br (Nat.ble ((List.length (List.take n_24 (List.drop 0 D_30))) * 1) maxBytes)
 (br (Nat.ble (List.length (List.take n_24 (List.drop 0 D_30))) maxBytes)
 (br (Nat.beq (List.length (List.take n_24 (List.drop 0 D_30))) 0)
 (midRun cal n 26 (goTo [0, 5, 0] (bodyOf 26)) 6 (mkS 40 [(0, .val (.ptr 8 0) .no), (5, .val (.vs 1 true []) .no), (6, .val (.ptr 8 0) .no), (7, .val (.ptr 8 0) .no), (8, .val (.ptr 8 0) .no), (9, .val (.arr 9 0 n_24 1) .no), (10, .val (.vs 1 true []) .no)] [] (pre Z (hrf n_24 tg_25 q_26 off_27 ar_28 ct_29 D_30 Hp.none)) 16))
 (midRun cal n 26 (goTo [0, 5, 0] (bodyOf 26)) 6 (mkS 40 [(0, .val (.ptr 8 0) .no), (5, .val (.vs 1 true []) .no), (6, .val (.ptr 8 0) .no), (7, .val (.ptr 8 0) .no), (8, .val (.ptr 8 0) .no), (9, .val (.arr 9 0 n_24 1) .no), (10, .val (.arr 16 0 (List.length (List.take n_24 (List.drop 0 D_30))) 1) .no)] [] (pre Z (hrf n_24 tg_25 q_26 off_27 ar_28 ct_29 D_30 ((16, ⟨(List.flatMap AV.cells (List.take n_24 (List.drop 0 D_30))), []⟩) :: Hp.none))) 17)))
 none)
 none)
 none) := by kernel_rfl

/-- fuel 5 -/
theorem rf_26_1 (cal : Oracle) (n : Nat) (Z : Blk × Blk × Blk) (n_24 : Nat) (tg_25 : Bool) (q_26 : List AV) (off_27 : Bool) (ar_28 : Bool) (ct_29 : Int) (D_30 : List AV) : midRun cal (n + 5) 26 (goTo [0, 5, 0] (bodyOf 26)) 6 (mkS 40 [(0, .val (.ptr 8 0) .no), (5, .val (.vs 1 true []) .no), (6, .val (.ptr 8 0) .no), (7, .val (.ptr 8 0) .no), (8, .val (.ptr 8 0) .no), (9, .val (.arr 9 0 n_24 1) .no), (10, .val (.arr 16 0 (List.length (List.take n_24 (List.drop 0 D_30))) 1) .no)] [] (pre Z (hrf n_24 tg_25 q_26 off_27 ar_28 ct_29 D_30 ((16, ⟨(List.flatMap AV.cells (List.take n_24 (List.drop 0 D_30))), []⟩) :: Hp.none))) 17) =
 (run Try.prog ann cal n 26 (goTo [0, 5, 0, 5, 0, 0, 5, 2, 3] (bodyOf 26)) (mkS 40 [(0, .val (.ptr 8 0) .no), (3, .val (.arr 16 0 (List.length (List.take n_24 (List.drop 0 D_30))) 1) .no), (4, .val (.int .i64 (0)) .no)] [] (pre Z (hrf n_24 tg_25 q_26 off_27 ar_28 ct_29 D_30 ((16, ⟨(List.flatMap AV.cells (List.take n_24 (List.drop 0 D_30))), []⟩) :: Hp.none))) 17)) := by kernel_rfl

/-- fuel 8 -/
theorem rf_26_2 (cal : Oracle) (n : Nat) (Z : Blk × Blk × Blk) (n_24 : Nat) (o_31 : Nat) (n_32 : Nat) (x_33 : Int) (tg_35 : Bool) (q_36 : List AV) (off_37 : Bool) (ar_38 : Bool) (ct_39 : Int) (D_40 : List AV) (l_41 : List AV) : run Try.prog ann cal (n + 8) 26 (goTo [0, 5, 0, 5, 0, 0, 5, 2, 3] (bodyOf 26)) (mkS 40 [(0, .val (.ptr 8 0) .no), (3, .val (.arr 16 o_31 n_32 1) .no), (4, .val (.int .i64 x_33) .no)] [] (pre Z (hrf n_24 tg_35 q_36 off_37 ar_38 ct_39 D_40 ((16, ⟨l_41, []⟩) :: Hp.none))) 17) =
 (br (decide (x_33 < (((List.length q_36) : Nat) : Int)))
 (br (decide ((0 : Int) ≤ x_33))
 (br (decide (x_33 < (((List.length q_36) : Nat) : Int)))
 ((nth q_36 (Int.toNat x_33)).bind fun c1 =>
 (midRun cal n 26 (goTo [0, 5, 0, 5, 0, 0, 5, 2, 3, 0, 0, 5, 6, 5, 0, 2] (bodyOf 26)) 7 (mkS 40 [(0, .val (.ptr 8 0) .no), (3, .val (.arr 16 o_31 n_32 1) .no), (4, .val (.int .i64 x_33) .no), (17, .val (.bool true) .no), (20, .val (.arr 16 o_31 n_32 1) .no), (21, .val (.ptr 8 0) .no), (22, .val (.ptr 8 0) .no), (23, .val (.ptr 8 1) .no), (24, .val (.vs 2 tg_35 q_36) (.lH 8 1)), (25, .val (.int .i64 x_33) .no), (26, .val (.cptr (AV.cells c1)) .no)] [] (pre Z (hrf n_24 tg_35 q_36 off_37 ar_38 ct_39 D_40 ((16, ⟨l_41, []⟩) :: Hp.none))) 17)))
 none)
 none)
 (some ⟨(.arr 16 o_31 n_32 1), (pre Z (hrf n_24 tg_35 q_36 off_37 ar_38 ct_39 D_40 ((16, ⟨l_41, []⟩) :: Hp.none))), 17⟩)) := by kernel_rfl

/-- fuel 0 -/
theorem rf_26_3 (cal : Oracle) (n : Nat) (Z : Blk × Blk × Blk) (n_24 : Nat) (o_31 : Nat) (n_32 : Nat) (x_33 : Int) (tg_35 : Bool) (q_36 : List AV) (off_37 : Bool) (ar_38 : Bool) (ct_39 : Int) (D_40 : List AV) (l_41 : List AV) (x_42 : Int) (l_43 : List AV) : midRun cal n 26 (goTo [0, 5, 0, 5, 0, 0, 5, 2, 3, 0, 0, 5, 6, 5, 0, 2] (bodyOf 26)) 7 (mkS 40 [(0, .val (.ptr 8 0) .no), (3, .val (.arr 16 o_31 n_32 1) .no), (4, .val (.int .i64 x_33) .no), (17, .val (.bool true) .no), (20, .val (.arr 16 o_31 n_32 1) .no), (21, .val (.ptr 8 0) .no), (22, .val (.ptr 8 0) .no), (23, .val (.ptr 8 1) .no), (24, .val (.vs 2 tg_35 q_36) (.lH 8 1)), (25, .val (.int .i64 x_33) .no), (26, .val (.cptr [(.int .i64 x_42), (.vs 1 false l_43)]) .no)] [] (pre Z (hrf n_24 tg_35 q_36 off_37 ar_38 ct_39 D_40 ((16, ⟨l_41, []⟩) :: Hp.none))) 17) =
 (br (decide ((0 : Int) ≤ x_42))
 (br (decide (x_42 ≤ ((n_32 : Nat) : Int)))
 (br (Nat.blt (Int.toNat x_42) n_32)
 (br (decide ((0 : Int) ≤ x_33))
 (br (decide (x_33 < (((List.length q_36) : Nat) : Int)))
 ((nth q_36 (Int.toNat x_33)).bind fun c2 =>
 (midRun cal n 26 (goTo [0, 5, 0, 5, 0, 0, 5, 2, 3, 0, 0, 5, 6, 5, 0, 2] (bodyOf 26)) 16 (mkS 40 [(0, .val (.ptr 8 0) .no), (3, .val (.arr 16 o_31 n_32 1) .no), (4, .val (.int .i64 x_33) .no), (17, .val (.bool true) .no), (20, .val (.arr 16 o_31 n_32 1) .no), (21, .val (.ptr 8 0) .no), (22, .val (.ptr 8 0) .no), (23, .val (.ptr 8 1) .no), (24, .val (.vs 2 tg_35 q_36) (.lH 8 1)), (25, .val (.int .i64 x_33) .no), (26, .val (.cptr [(.int .i64 x_42), (.vs 1 false l_43)]) .no), (27, .val (.cptr [(.int .i64 x_42), (.vs 1 false l_43)]) .no), (28, .val (.int .i64 x_42) .no), (29, .val (.arr 16 (o_31 + ((Int.toNat x_42) * 1)) (n_32 - (Int.toNat x_42)) 1) .no), (30, .val (.ptr 8 0) .no), (31, .val (.ptr 8 0) .no), (32, .val (.ptr 8 1) .no), (33, .val (.vs 2 tg_35 q_36) (.lH 8 1)), (34, .val (.int .i64 x_33) .no), (35, .val (.cptr (AV.cells c2)) .no)] [] (pre Z (hrf n_24 tg_35 q_36 off_37 ar_38 ct_39 D_40 ((16, ⟨l_41, []⟩) :: Hp.none))) 17)))
 none)
 none)
 (br (decide ((0 : Int) ≤ x_33))
 (br (decide (x_33 < (((List.length q_36) : Nat) : Int)))
 ((nth q_36 (Int.toNat x_33)).bind fun c3 =>
 (midRun cal n 26 (goTo [0, 5, 0, 5, 0, 0, 5, 2, 3, 0, 0, 5, 6, 5, 0, 2] (bodyOf 26)) 16 (mkS 40 [(0, .val (.ptr 8 0) .no), (3, .val (.arr 16 o_31 n_32 1) .no), (4, .val (.int .i64 x_33) .no), (17, .val (.bool true) .no), (20, .val (.arr 16 o_31 n_32 1) .no), (21, .val (.ptr 8 0) .no), (22, .val (.ptr 8 0) .no), (23, .val (.ptr 8 1) .no), (24, .val (.vs 2 tg_35 q_36) (.lH 8 1)), (25, .val (.int .i64 x_33) .no), (26, .val (.cptr [(.int .i64 x_42), (.vs 1 false l_43)]) .no), (27, .val (.cptr [(.int .i64 x_42), (.vs 1 false l_43)]) .no), (28, .val (.int .i64 x_42) .no), (29, .val (.vs 1 false []) .no), (30, .val (.ptr 8 0) .no), (31, .val (.ptr 8 0) .no), (32, .val (.ptr 8 1) .no), (33, .val (.vs 2 tg_35 q_36) (.lH 8 1)), (34, .val (.int .i64 x_33) .no), (35, .val (.cptr (AV.cells c3)) .no)] [] (pre Z (hrf n_24 tg_35 q_36 off_37 ar_38 ct_39 D_40 ((16, ⟨l_41, []⟩) :: Hp.none))) 17)))
 none)
 none))
 none)
 none) := by kernel_rfl

/-- fuel 3 -/
theorem rf_26_4 (cal : Oracle) (n : Nat) (Z : Blk × Blk × Blk) (n_24 : Nat) (o_31 : Nat) (n_32 : Nat) (x_33 : Int) (tg_35 : Bool) (q_36 : List AV) (off_37 : Bool) (ar_38 : Bool) (ct_39 : Int) (D_40 : List AV) (l_41 : List AV) (x_42 : Int) (l_43 : List AV) (x_44 : Int) (l_45 : List AV) : midRun cal (n + 3) 26 (goTo [0, 5, 0, 5, 0, 0, 5, 2, 3, 0, 0, 5, 6, 5, 0, 2] (bodyOf 26)) 16 (mkS 40 [(0, .val (.ptr 8 0) .no), (3, .val (.arr 16 o_31 n_32 1) .no), (4, .val (.int .i64 x_33) .no), (17, .val (.bool true) .no), (20, .val (.arr 16 o_31 n_32 1) .no), (21, .val (.ptr 8 0) .no), (22, .val (.ptr 8 0) .no), (23, .val (.ptr 8 1) .no), (24, .val (.vs 2 tg_35 q_36) (.lH 8 1)), (25, .val (.int .i64 x_33) .no), (26, .val (.cptr [(.int .i64 x_42), (.vs 1 false l_43)]) .no), (27, .val (.cptr [(.int .i64 x_42), (.vs 1 false l_43)]) .no), (28, .val (.int .i64 x_42) .no), (29, .val (.arr 16 (o_31 + ((Int.toNat x_42) * 1)) (n_32 - (Int.toNat x_42)) 1) .no), (30, .val (.ptr 8 0) .no), (31, .val (.ptr 8 0) .no), (32, .val (.ptr 8 1) .no), (33, .val (.vs 2 tg_35 q_36) (.lH 8 1)), (34, .val (.int .i64 x_33) .no), (35, .val (.cptr [(.int .i64 x_44), (.vs 1 false l_45)]) .no)] [] (pre Z (hrf n_24 tg_35 q_36 off_37 ar_38 ct_39 D_40 ((16, ⟨l_41, []⟩) :: Hp.none))) 17) =
 (br (Nat.ble ((o_31 + ((Int.toNat x_42) * 1)) + (n_32 - (Int.toNat x_42))) (List.length l_41))
 (run Try.prog ann cal n 26 (goTo [0, 5, 0, 5, 0, 0, 5, 2, 3] (bodyOf 26)) (mkS 40 [(0, .val (.ptr 8 0) .no), (3, .val (.arr 16 o_31 n_32 1) .no), (4, .val (.int .i64 (IntKind.wrap IntKind.i64 (x_33 + (1)))) .no)] [] (pre Z (hrf n_24 tg_35 q_36 off_37 ar_38 ct_39 D_40 ((16, ⟨(patch l_41 (o_31 + ((Int.toNat x_42) * 1)) (List.flatMap AV.cells (List.take (Nat.min (List.length l_45) (n_32 - (Int.toNat x_42))) l_45))), []⟩) :: Hp.none))) 17))
 none) := by kernel_rfl

/-- fuel 3 -/
theorem rf_26_5 (cal : Oracle) (n : Nat) (Z : Blk × Blk × Blk) (n_24 : Nat) (o_31 : Nat) (n_32 : Nat) (x_33 : Int) (tg_35 : Bool) (q_36 : List AV) (off_37 : Bool) (ar_38 : Bool) (ct_39 : Int) (D_40 : List AV) (l_41 : List AV) (x_42 : Int) (l_43 : List AV) (x_46 : Int) (l_47 : List AV) : midRun cal (n + 3) 26 (goTo [0, 5, 0, 5, 0, 0, 5, 2, 3, 0, 0, 5, 6, 5, 0, 2] (bodyOf 26)) 16 (mkS 40 [(0, .val (.ptr 8 0) .no), (3, .val (.arr 16 o_31 n_32 1) .no), (4, .val (.int .i64 x_33) .no), (17, .val (.bool true) .no), (20, .val (.arr 16 o_31 n_32 1) .no), (21, .val (.ptr 8 0) .no), (22, .val (.ptr 8 0) .no), (23, .val (.ptr 8 1) .no), (24, .val (.vs 2 tg_35 q_36) (.lH 8 1)), (25, .val (.int .i64 x_33) .no), (26, .val (.cptr [(.int .i64 x_42), (.vs 1 false l_43)]) .no), (27, .val (.cptr [(.int .i64 x_42), (.vs 1 false l_43)]) .no), (28, .val (.int .i64 x_42) .no), (29, .val (.vs 1 false []) .no), (30, .val (.ptr 8 0) .no), (31, .val (.ptr 8 0) .no), (32, .val (.ptr 8 1) .no), (33, .val (.vs 2 tg_35 q_36) (.lH 8 1)), (34, .val (.int .i64 x_33) .no), (35, .val (.cptr [(.int .i64 x_46), (.vs 1 false l_47)]) .no)] [] (pre Z (hrf n_24 tg_35 q_36 off_37 ar_38 ct_39 D_40 ((16, ⟨l_41, []⟩) :: Hp.none))) 17) =
 (run Try.prog ann cal n 26 (goTo [0, 5, 0, 5, 0, 0, 5, 2, 3] (bodyOf 26)) (mkS 40 [(0, .val (.ptr 8 0) .no), (3, .val (.arr 16 o_31 n_32 1) .no), (4, .val (.int .i64 (IntKind.wrap IntKind.i64 (x_33 + (1)))) .no)] [] (pre Z (hrf n_24 tg_35 q_36 off_37 ar_38 ct_39 D_40 ((16, ⟨l_41, []⟩) :: Hp.none))) 17)) := by kernel_rfl

/-- fuel 10 -/
theorem rf_29_0 (cal : Oracle) (n : Nat) (Z : Blk × Blk × Blk) (x_48 : Int) (x_49 : Int) (n_50 : Nat) (tg_51 : Bool) (q_52 : List AV) (off_53 : Bool) (ar_54 : Bool) (ct_55 : Int) (D_56 : List AV) : run Try.prog ann cal (n + 10) 29 (bodyOf 29) (mkS 24 [(0, .val (.ptr 8 0) .no), (1, .val (.int .i64 x_48) .no), (2, .val (.int .i64 x_49) .no)] [] (pre Z (hrf n_50 tg_51 q_52 off_53 ar_54 ct_55 D_56 Hp.none)) 16) =
 (br off_53
 (some ⟨(.tuple [(.vs 1 true []), (.int .i64 (15))]), (pre Z (hrf n_50 tg_51 q_52 off_53 ar_54 ct_55 D_56 Hp.none)), 16⟩)
 ((cal 34 [(.ptr 8 0), (.int .i64 x_48), (.int .i64 x_49)] (pre Z (hrf n_50 tg_51 q_52 off_53 ar_54 ct_55 D_56 Hp.none)) 16).bind fun r1 =>
 (midRun cal n 29 (goTo [0, 5, 0, 0, 5, 7, 5, 0, 0] (bodyOf 29)) 4 (mkS 24 [(0, .val (.ptr 8 0) .no), (1, .val (.int .i64 x_48) .no), (2, .val (.int .i64 x_49) .no), (11, .val (.bool false) .no), (12, .val (.ptr 8 0) .no), (13, .val (.int .i64 x_48) .no), (14, .val (.int .i64 x_49) .no), (15, .val r1.v .no)] [] r1.H r1.nx)))) := by kernel_rfl

/-- fuel 4 -/
theorem rf_29_1 (cal : Oracle) (n : Nat) (Z : Blk × Blk × Blk) (x_48 : Int) (x_49 : Int) (n_50 : Nat) (tg_51 : Bool) (q_52 : List AV) (off_53 : Bool) (ar_54 : Bool) (ct_55 : Int) (D_56 : List AV) (c_57 : Bool) : midRun cal (n + 4) 29 (goTo [0, 5, 0, 0, 5, 7, 5, 0, 0] (bodyOf 29)) 4 (mkS 24 [(0, .val (.ptr 8 0) .no), (1, .val (.int .i64 x_48) .no), (2, .val (.int .i64 x_49) .no), (11, .val (.bool false) .no), (12, .val (.ptr 8 0) .no), (13, .val (.int .i64 x_48) .no), (14, .val (.int .i64 x_49) .no), (15, .val (.bool c_57) .no)] [] (pre Z (hrf n_50 tg_51 q_52 off_53 ar_54 ct_55 D_56 Hp.none)) 16) =
 (br (!c_57)
 (some ⟨(.tuple [(.vs 1 true []), (.int .i64 (9))]), (pre Z (hrf n_50 tg_51 q_52 off_53 ar_54 ct_55 D_56 Hp.none)), 16⟩)
 ((cal 26 [(.ptr 8 0)] (pre Z (hrf n_50 tg_51 q_52 off_53 ar_54 ct_55 D_56 Hp.none)) 16).bind fun r2 =>
 (midRun cal n 29 (goTo [0, 5, 0, 0, 5, 7, 5, 0, 0, 5, 7, 5, 0] (bodyOf 29)) 2 (mkS 24 [(0, .val (.ptr 8 0) .no), (1, .val (.int .i64 x_48) .no), (2, .val (.int .i64 x_49) .no), (16, .val (.bool false) .no), (17, .val (.ptr 8 0) .no), (18, .val r2.v .no)] [] r2.H r2.nx)))) := by kernel_rfl

/-- fuel 1 -/
theorem rf_29_2 (cal : Oracle) (n : Nat) (Z : Blk × Blk × Blk) (x_48 : Int) (x_49 : Int) (n_50 : Nat) (tg_51 : Bool) (q_52 : List AV) (off_53 : Bool) (ar_54 : Bool) (ct_55 : Int) (D_56 : List AV) (n_58 : Nat) (l_59 : List AV) : midRun cal (n + 1) 29 (goTo [0, 5, 0, 0, 5, 7, 5, 0, 0, 5, 7, 5, 0] (bodyOf 29)) 2 (mkS 24 [(0, .val (.ptr 8 0) .no), (1, .val (.int .i64 x_48) .no), (2, .val (.int .i64 x_49) .no), (16, .val (.bool false) .no), (17, .val (.ptr 8 0) .no), (18, .val (.arr 16 0 n_58 1) .no)] [] (pre Z (hrf n_50 tg_51 q_52 off_53 ar_54 ct_55 D_56 ((16, ⟨l_59, []⟩) :: Hp.none))) 17) =
 (br (decide ((0 : Int) ≤ (IntKind.wrap IntKind.i64 (x_48 + x_49))))
 (br (decide ((IntKind.wrap IntKind.i64 (x_48 + x_49)) ≤ ((n_58 : Nat) : Int)))
 (br (decide ((0 : Int) ≤ x_48))
 (br (decide (x_48 ≤ (((Int.toNat (IntKind.wrap IntKind.i64 (x_48 + x_49))) : Nat) : Int)))
 (br (Nat.blt (Int.toNat x_48) (Int.toNat (IntKind.wrap IntKind.i64 (x_48 + x_49))))
 (some ⟨(.tuple [(.arr 16 (0 + ((Int.toNat x_48) * 1)) ((Int.toNat (IntKind.wrap IntKind.i64 (x_48 + x_49))) - (Int.toNat x_48)) 1), (.int .i64 (0))]), (pre Z (hrf n_50 tg_51 q_52 off_53 ar_54 ct_55 D_56 ((16, ⟨l_59, []⟩) :: Hp.none))), 17⟩)
 (some ⟨(.tuple [(.vs 1 false []), (.int .i64 (0))]), (pre Z (hrf n_50 tg_51 q_52 off_53 ar_54 ct_55 D_56 ((16, ⟨l_59, []⟩) :: Hp.none))), 17⟩))
 none)
 none)
 none)
 none) := by kernel_rfl

/-- fuel 9 -/
theorem rf_30_0 (cal : Oracle) (n : Nat) (Z : Blk × Blk × Blk) (n_60 : Nat) (tg_61 : Bool) (q_62 : List AV) (off_63 : Bool) (ar_64 : Bool) (ct_65 : Int) (D_66 : List AV) : run Try.prog ann cal (n + 9) 30 (bodyOf 30) (mkS 15 [(0, .val (.ptr 8 0) .no)] [] (pre Z (hrf n_60 tg_61 q_62 off_63 ar_64 ct_65 D_66 Hp.none)) 16) =
 (br off_63
 (some ⟨(.int .i64 (15)), (pre Z (hrf n_60 tg_61 q_62 off_63 ar_64 ct_65 D_66 Hp.none)), 16⟩)
 ((cal 26 [(.ptr 8 0)] (pre Z (hrf n_60 tg_61 q_62 off_63 ar_64 ct_65 D_66 Hp.none)) 16).bind fun r1 =>
 (midRun cal n 30 (goTo [0, 5, 0, 0, 5, 7, 5, 0] (bodyOf 30)) 3 (mkS 15 [(0, .val (.ptr 8 0) .no), (6, .val (.bool false) .no), (7, .val (.ptr 8 0) .no), (8, .val (.ptr 8 0) .no), (9, .val r1.v .no)] [] r1.H r1.nx)))) := by kernel_rfl

/-- fuel 5 -/
theorem rf_30_1 (cal : Oracle) (n : Nat) (Z : Blk × Blk × Blk) (n_60 : Nat) (tg_61 : Bool) (q_62 : List AV) (off_63 : Bool) (ar_64 : Bool) (ct_65 : Int) (D_66 : List AV) (n_67 : Nat) (l_68 : List AV) : midRun cal (n + 5) 30 (goTo [0, 5, 0, 0, 5, 7, 5, 0] (bodyOf 30)) 3 (mkS 15 [(0, .val (.ptr 8 0) .no), (6, .val (.bool false) .no), (7, .val (.ptr 8 0) .no), (8, .val (.ptr 8 0) .no), (9, .val (.arr 16 0 n_67 1) .no)] [] (pre Z (hrf n_60 tg_61 q_62 off_63 ar_64 ct_65 D_66 ((16, ⟨l_68, []⟩) :: Hp.none))) 17) =
 (some ⟨(.int .i64 (0)), (pre Z ((8, ⟨[(.arr 16 0 n_67 1), (.vs 2 true []), (.bool off_63), (.bool ar_64), (.int .i64 ct_65)], [1]⟩) :: ((9, ⟨D_66, []⟩) :: ((16, ⟨l_68, []⟩) :: Hp.none)))), 17⟩) := by kernel_rfl

/-- fuel 10 -/
theorem rf_33_0 (cal : Oracle) (n : Nat) (Z : Blk × Blk × Blk) (x_69 : Int) (l_70 : List AV) (tg_71 : Bool) (n_72 : Nat) (tg_73 : Bool) (q_74 : List AV) (off_75 : Bool) (ar_76 : Bool) (ct_77 : Int) (D_78 : List AV) : run Try.prog ann cal (n + 10) 33 (bodyOf 33) (mkS 74 [(0, .val (.ptr 8 0) .no), (1, .val (.int .i64 x_69) .no), (2, .val (.vs 1 tg_71 l_70) .no)] [] (pre Z (hrf n_72 tg_73 q_74 off_75 ar_76 ct_77 D_78 Hp.none)) 16) =
 (br off_75
 (some ⟨(.int .i64 (15)), (pre Z (hrf n_72 tg_73 q_74 off_75 ar_76 ct_77 D_78 Hp.none)), 16⟩)
 ((cal 34 [(.ptr 8 0), (.int .i64 x_69), (.int .i64 (((List.length l_70) : Nat) : Int))] (pre Z (hrf n_72 tg_73 q_74 off_75 ar_76 ct_77 D_78 Hp.none)) 16).bind fun r1 =>
 (midRun cal n 33 (goTo [0, 5, 0, 0, 5, 7, 5, 0, 0] (bodyOf 33)) 5 (mkS 74 [(0, .val (.ptr 8 0) .no), (1, .val (.int .i64 x_69) .no), (2, .val (.vs 1 tg_71 l_70) .no), (11, .val (.bool false) .no), (12, .val (.ptr 8 0) .no), (13, .val (.int .i64 x_69) .no), (14, .val (.vs 1 tg_71 l_70) .no), (15, .val (.int .i64 (((List.length l_70) : Nat) : Int)) .no), (16, .val r1.v .no)] [] r1.H r1.nx)))) := by kernel_rfl

/-- fuel 5 -/
theorem rf_33_1 (cal : Oracle) (n : Nat) (Z : Blk × Blk × Blk) (x_69 : Int) (l_70 : List AV) (tg_71 : Bool) (n_72 : Nat) (tg_73 : Bool) (q_74 : List AV) (off_75 : Bool) (ar_76 : Bool) (ct_77 : Int) (D_78 : List AV) (c_79 : Bool) : midRun cal (n + 5) 33 (goTo [0, 5, 0, 0, 5, 7, 5, 0, 0] (bodyOf 33)) 5 (mkS 74 [(0, .val (.ptr 8 0) .no), (1, .val (.int .i64 x_69) .no), (2, .val (.vs 1 tg_71 l_70) .no), (11, .val (.bool false) .no), (12, .val (.ptr 8 0) .no), (13, .val (.int .i64 x_69) .no), (14, .val (.vs 1 tg_71 l_70) .no), (15, .val (.int .i64 (((List.length l_70) : Nat) : Int)) .no), (16, .val (.bool c_79) .no)] [] (pre Z (hrf n_72 tg_73 q_74 off_75 ar_76 ct_77 D_78 Hp.none)) 16) =
 (br (!c_79)
 (some ⟨(.int .i64 (9)), (pre Z (hrf n_72 tg_73 q_74 off_75 ar_76 ct_77 D_78 Hp.none)), 16⟩)
 (run Try.prog ann cal n 33 (goTo [0, 5, 0, 0, 5, 7, 5, 0, 0, 5, 7, 5, 0, 2, 3] (bodyOf 33)) (mkS 74 [(0, .val (.ptr 8 0) .no), (1, .val (.int .i64 x_69) .no), (2, .val (.vs 1 tg_71 l_70) .no), (17, .val (.bool false) .no)] [] (pre Z (hrf n_72 tg_73 q_74 off_75 ar_76 ct_77 D_78 Hp.none)) 16))) := by kernel_rfl

/-- fuel 25 -/
theorem rf_33_2 (cal : Oracle) (n : Nat) (Z : Blk × Blk × Blk) (n_72 : Nat) (x_80 : Int) (tg_81 : Bool) (l_82 : List AV) (c_83 : Bool) (tg_85 : Bool) (q_86 : List AV) (off_87 : Bool) (ar_88 : Bool) (ct_89 : Int) (D_90 : List AV) : run Try.prog ann cal (n + 25) 33 (goTo [0, 5, 0, 0, 5, 7, 5, 0, 0, 5, 7, 5, 0, 2, 3] (bodyOf 33)) (mkS 74 [(0, .val (.ptr 8 0) .no), (1, .val (.int .i64 x_80) .no), (2, .val (.vs 1 tg_81 l_82) .no), (17, .val (.bool c_83) .no)] [] (pre Z (hrf n_72 tg_85 q_86 off_87 ar_88 ct_89 D_90 Hp.none)) 16) =
 (br (decide ((0) < (((List.length l_82) : Nat) : Int)))
 (br ar_88
 (br (decide (ct_89 = (0)))
 (some ⟨(.int .i64 (15)), (pre Z (hrf n_72 tg_85 q_86 true ar_88 ct_89 D_90 Hp.none)), 16⟩)
 (br ar_88
 (br (decide ((0 : Int) ≤ (if (IntKind.wrap IntKind.i64 ((32) - (Int.tmod x_80 (32)))) < (((List.length l_82) : Nat) : Int) then (IntKind.wrap IntKind.i64 ((32) - (Int.tmod x_80 (32)))) else (((List.length l_82) : Nat) : Int))))
 (br (decide ((if (IntKind.wrap IntKind.i64 ((32) - (Int.tmod x_80 (32)))) < (((List.length l_82) : Nat) : Int) then (IntKind.wrap IntKind.i64 ((32) - (Int.tmod x_80 (32)))) else (((List.length l_82) : Nat) : Int)) ≤ (((List.length l_82) : Nat) : Int)))
 (br (pureL [(.vs 1 true []), (.vs 1 false (List.drop 0 (List.take (Int.toNat (if (IntKind.wrap IntKind.i64 ((32) - (Int.tmod x_80 (32)))) < (((List.length l_82) : Nat) : Int) then (IntKind.wrap IntKind.i64 ((32) - (Int.tmod x_80 (32)))) else (((List.length l_82) : Nat) : Int))) l_82)))])
 (br (Nat.ble ((0 + (List.length (List.drop 0 (List.take (Int.toNat (if (IntKind.wrap IntKind.i64 ((32) - (Int.tmod x_80 (32)))) < (((List.length l_82) : Nat) : Int) then (IntKind.wrap IntKind.i64 ((32) - (Int.tmod x_80 (32)))) else (((List.length l_82) : Nat) : Int))) l_82)))) * 1) maxBytes)
 (br (Nat.ble (0 + (List.length (List.drop 0 (List.take (Int.toNat (if (IntKind.wrap IntKind.i64 ((32) - (Int.tmod x_80 (32)))) < (((List.length l_82) : Nat) : Int) then (IntKind.wrap IntKind.i64 ((32) - (Int.tmod x_80 (32)))) else (((List.length l_82) : Nat) : Int))) l_82)))) maxBytes)
 (br (AV.pure (.vs 1 false ([] ++ (List.drop 0 (List.take (Int.toNat (if (IntKind.wrap IntKind.i64 ((32) - (Int.tmod x_80 (32)))) < (((List.length l_82) : Nat) : Int) then (IntKind.wrap IntKind.i64 ((32) - (Int.tmod x_80 (32)))) else (((List.length l_82) : Nat) : Int))) l_82)))))
 (br (Nat.ble (((List.length q_86) + 1) * 32) maxBytes)
 (br (Nat.ble ((List.length q_86) + 1) maxBytes)
 (br (decide ((0 : Int) ≤ (if (IntKind.wrap IntKind.i64 ((32) - (Int.tmod x_80 (32)))) < (((List.length l_82) : Nat) : Int) then (IntKind.wrap IntKind.i64 ((32) - (Int.tmod x_80 (32)))) else (((List.length l_82) : Nat) : Int))))
 (br (decide ((if (IntKind.wrap IntKind.i64 ((32) - (Int.tmod x_80 (32)))) < (((List.length l_82) : Nat) : Int) then (IntKind.wrap IntKind.i64 ((32) - (Int.tmod x_80 (32)))) else (((List.length l_82) : Nat) : Int)) ≤ (((List.length l_82) : Nat) : Int)))
 (run Try.prog ann cal n 33 (goTo [0, 5, 0, 0, 5, 7, 5, 0, 0, 5, 7, 5, 0, 2, 3] (bodyOf 33)) (mkS 74 [(0, .val (.ptr 8 0) .no), (1, .val (.int .i64 (IntKind.wrap IntKind.i64 (x_80 + (if (IntKind.wrap IntKind.i64 ((32) - (Int.tmod x_80 (32)))) < (((List.length l_82) : Nat) : Int) then (IntKind.wrap IntKind.i64 ((32) - (Int.tmod x_80 (32)))) else (((List.length l_82) : Nat) : Int))))) .no), (2, .val (.vs 1 tg_81 (List.drop (Int.toNat (if (IntKind.wrap IntKind.i64 ((32) - (Int.tmod x_80 (32)))) < (((List.length l_82) : Nat) : Int) then (IntKind.wrap IntKind.i64 ((32) - (Int.tmod x_80 (32)))) else (((List.length l_82) : Nat) : Int))) (List.take (List.length l_82) l_82))) .no)] [] (pre Z (hrf n_72 false (q_86 ++ [(.agg [(.int .i64 x_80), (.vs 1 false ([] ++ (List.drop 0 (List.take (Int.toNat (if (IntKind.wrap IntKind.i64 ((32) - (Int.tmod x_80 (32)))) < (((List.length l_82) : Nat) : Int) then (IntKind.wrap IntKind.i64 ((32) - (Int.tmod x_80 (32)))) else (((List.length l_82) : Nat) : Int))) l_82))))])]) off_87 ar_88 (IntKind.wrap IntKind.i64 (ct_89 - (1))) D_90 Hp.none)) 16))
 none)
 none)
 none)
 none)
 none)
 none)
 none)
 none)
 none)
 none)
 (br (decide ((0 : Int) ≤ (if (IntKind.wrap IntKind.i64 ((32) - (Int.tmod x_80 (32)))) < (((List.length l_82) : Nat) : Int) then (IntKind.wrap IntKind.i64 ((32) - (Int.tmod x_80 (32)))) else (((List.length l_82) : Nat) : Int))))
 (br (decide ((if (IntKind.wrap IntKind.i64 ((32) - (Int.tmod x_80 (32)))) < (((List.length l_82) : Nat) : Int) then (IntKind.wrap IntKind.i64 ((32) - (Int.tmod x_80 (32)))) else (((List.length l_82) : Nat) : Int)) ≤ (((List.length l_82) : Nat) : Int)))
 (br (pureL [(.vs 1 true []), (.vs 1 false (List.drop 0 (List.take (Int.toNat (if (IntKind.wrap IntKind.i64 ((32) - (Int.tmod x_80 (32)))) < (((List.length l_82) : Nat) : Int) then (IntKind.wrap IntKind.i64 ((32) - (Int.tmod x_80 (32)))) else (((List.length l_82) : Nat) : Int))) l_82)))])
 (br (Nat.ble ((0 + (List.length (List.drop 0 (List.take (Int.toNat (if (IntKind.wrap IntKind.i64 ((32) - (Int.tmod x_80 (32)))) < (((List.length l_82) : Nat) : Int) then (IntKind.wrap IntKind.i64 ((32) - (Int.tmod x_80 (32)))) else (((List.length l_82) : Nat) : Int))) l_82)))) * 1) maxBytes)
 (br (Nat.ble (0 + (List.length (List.drop 0 (List.take (Int.toNat (if (IntKind.wrap IntKind.i64 ((32) - (Int.tmod x_80 (32)))) < (((List.length l_82) : Nat) : Int) then (IntKind.wrap IntKind.i64 ((32) - (Int.tmod x_80 (32)))) else (((List.length l_82) : Nat) : Int))) l_82)))) maxBytes)
 (br (AV.pure (.vs 1 false ([] ++ (List.drop 0 (List.take (Int.toNat (if (IntKind.wrap IntKind.i64 ((32) - (Int.tmod x_80 (32)))) < (((List.length l_82) : Nat) : Int) then (IntKind.wrap IntKind.i64 ((32) - (Int.tmod x_80 (32)))) else (((List.length l_82) : Nat) : Int))) l_82)))))
 (br (Nat.ble (((List.length q_86) + 1) * 32) maxBytes)
 (br (Nat.ble ((List.length q_86) + 1) maxBytes)
 (br (decide ((0 : Int) ≤ (if (IntKind.wrap IntKind.i64 ((32) - (Int.tmod x_80 (32)))) < (((List.length l_82) : Nat) : Int) then (IntKind.wrap IntKind.i64 ((32) - (Int.tmod x_80 (32)))) else (((List.length l_82) : Nat) : Int))))
 (br (decide ((if (IntKind.wrap IntKind.i64 ((32) - (Int.tmod x_80 (32)))) < (((List.length l_82) : Nat) : Int) then (IntKind.wrap IntKind.i64 ((32) - (Int.tmod x_80 (32)))) else (((List.length l_82) : Nat) : Int)) ≤ (((List.length l_82) : Nat) : Int)))
 (run Try.prog ann cal n 33 (goTo [0, 5, 0, 0, 5, 7, 5, 0, 0, 5, 7, 5, 0, 2, 3] (bodyOf 33)) (mkS 74 [(0, .val (.ptr 8 0) .no), (1, .val (.int .i64 (IntKind.wrap IntKind.i64 (x_80 + (if (IntKind.wrap IntKind.i64 ((32) - (Int.tmod x_80 (32)))) < (((List.length l_82) : Nat) : Int) then (IntKind.wrap IntKind.i64 ((32) - (Int.tmod x_80 (32)))) else (((List.length l_82) : Nat) : Int))))) .no), (2, .val (.vs 1 tg_81 (List.drop (Int.toNat (if (IntKind.wrap IntKind.i64 ((32) - (Int.tmod x_80 (32)))) < (((List.length l_82) : Nat) : Int) then (IntKind.wrap IntKind.i64 ((32) - (Int.tmod x_80 (32)))) else (((List.length l_82) : Nat) : Int))) (List.take (List.length l_82) l_82))) .no)] [] (pre Z (hrf n_72 false (q_86 ++ [(.agg [(.int .i64 x_80), (.vs 1 false ([] ++ (List.drop 0 (List.take (Int.toNat (if (IntKind.wrap IntKind.i64 ((32) - (Int.tmod x_80 (32)))) < (((List.length l_82) : Nat) : Int) then (IntKind.wrap IntKind.i64 ((32) - (Int.tmod x_80 (32)))) else (((List.length l_82) : Nat) : Int))) l_82))))])]) off_87 ar_88 ct_89 D_90 Hp.none)) 16))
 none)
 none)
 none)
 none)
 none)
 none)
 none)
 none)
 none)
 none)))
 (br ar_88
 (br (decide ((0 : Int) ≤ (if (IntKind.wrap IntKind.i64 ((32) - (Int.tmod x_80 (32)))) < (((List.length l_82) : Nat) : Int) then (IntKind.wrap IntKind.i64 ((32) - (Int.tmod x_80 (32)))) else (((List.length l_82) : Nat) : Int))))
 (br (decide ((if (IntKind.wrap IntKind.i64 ((32) - (Int.tmod x_80 (32)))) < (((List.length l_82) : Nat) : Int) then (IntKind.wrap IntKind.i64 ((32) - (Int.tmod x_80 (32)))) else (((List.length l_82) : Nat) : Int)) ≤ (((List.length l_82) : Nat) : Int)))
 (br (pureL [(.vs 1 true []), (.vs 1 false (List.drop 0 (List.take (Int.toNat (if (IntKind.wrap IntKind.i64 ((32) - (Int.tmod x_80 (32)))) < (((List.length l_82) : Nat) : Int) then (IntKind.wrap IntKind.i64 ((32) - (Int.tmod x_80 (32)))) else (((List.length l_82) : Nat) : Int))) l_82)))])
 (br (Nat.ble ((0 + (List.length (List.drop 0 (List.take (Int.toNat (if (IntKind.wrap IntKind.i64 ((32) - (Int.tmod x_80 (32)))) < (((List.length l_82) : Nat) : Int) then (IntKind.wrap IntKind.i64 ((32) - (Int.tmod x_80 (32)))) else (((List.length l_82) : Nat) : Int))) l_82)))) * 1) maxBytes)
 (br (Nat.ble (0 + (List.length (List.drop 0 (List.take (Int.toNat (if (IntKind.wrap IntKind.i64 ((32) - (Int.tmod x_80 (32)))) < (((List.length l_82) : Nat) : Int) then (IntKind.wrap IntKind.i64 ((32) - (Int.tmod x_80 (32)))) else (((List.length l_82) : Nat) : Int))) l_82)))) maxBytes)
 (br (AV.pure (.vs 1 false ([] ++ (List.drop 0 (List.take (Int.toNat (if (IntKind.wrap IntKind.i64 ((32) - (Int.tmod x_80 (32)))) < (((List.length l_82) : Nat) : Int) then (IntKind.wrap IntKind.i64 ((32) - (Int.tmod x_80 (32)))) else (((List.length l_82) : Nat) : Int))) l_82)))))
 (br (Nat.ble (((List.length q_86) + 1) * 32) maxBytes)
 (br (Nat.ble ((List.length q_86) + 1) maxBytes)
 (br (decide ((0 : Int) ≤ (if (IntKind.wrap IntKind.i64 ((32) - (Int.tmod x_80 (32)))) < (((List.length l_82) : Nat) : Int) then (IntKind.wrap IntKind.i64 ((32) - (Int.tmod x_80 (32)))) else (((List.length l_82) : Nat) : Int))))
 (br (decide ((if (IntKind.wrap IntKind.i64 ((32) - (Int.tmod x_80 (32)))) < (((List.length l_82) : Nat) : Int) then (IntKind.wrap IntKind.i64 ((32) - (Int.tmod x_80 (32)))) else (((List.length l_82) : Nat) : Int)) ≤ (((List.length l_82) : Nat) : Int)))
 (run Try.prog ann cal n 33 (goTo [0, 5, 0, 0, 5, 7, 5, 0, 0, 5, 7, 5, 0, 2, 3] (bodyOf 33)) (mkS 74 [(0, .val (.ptr 8 0) .no), (1, .val (.int .i64 (IntKind.wrap IntKind.i64 (x_80 + (if (IntKind.wrap IntKind.i64 ((32) - (Int.tmod x_80 (32)))) < (((List.length l_82) : Nat) : Int) then (IntKind.wrap IntKind.i64 ((32) - (Int.tmod x_80 (32)))) else (((List.length l_82) : Nat) : Int))))) .no), (2, .val (.vs 1 tg_81 (List.drop (Int.toNat (if (IntKind.wrap IntKind.i64 ((32) - (Int.tmod x_80 (32)))) < (((List.length l_82) : Nat) : Int) then (IntKind.wrap IntKind.i64 ((32) - (Int.tmod x_80 (32)))) else (((List.length l_82) : Nat) : Int))) (List.take (List.length l_82) l_82))) .no)] [] (pre Z (hrf n_72 false (q_86 ++ [(.agg [(.int .i64 x_80), (.vs 1 false ([] ++ (List.drop 0 (List.take (Int.toNat (if (IntKind.wrap IntKind.i64 ((32) - (Int.tmod x_80 (32)))) < (((List.length l_82) : Nat) : Int) then (IntKind.wrap IntKind.i64 ((32) - (Int.tmod x_80 (32)))) else (((List.length l_82) : Nat) : Int))) l_82))))])]) off_87 ar_88 (IntKind.wrap IntKind.i64 (ct_89 - (1))) D_90 Hp.none)) 16))
 none)
 none)
 none)
 none)
 none)
 none)
 none)
 none)
 none)
 none)
 (br (decide ((0 : Int) ≤ (if (IntKind.wrap IntKind.i64 ((32) - (Int.tmod x_80 (32)))) < (((List.length l_82) : Nat) : Int) then (IntKind.wrap IntKind.i64 ((32) - (Int.tmod x_80 (32)))) else (((List.length l_82) : Nat) : Int))))
 (br (decide ((if (IntKind.wrap IntKind.i64 ((32) - (Int.tmod x_80 (32)))) < (((List.length l_82) : Nat) : Int) then (IntKind.wrap IntKind.i64 ((32) - (Int.tmod x_80 (32)))) else (((List.length l_82) : Nat) : Int)) ≤ (((List.length l_82) : Nat) : Int)))
 (br (pureL [(.vs 1 true []), (.vs 1 false (List.drop 0 (List.take (Int.toNat (if (IntKind.wrap IntKind.i64 ((32) - (Int.tmod x_80 (32)))) < (((List.length l_82) : Nat) : Int) then (IntKind.wrap IntKind.i64 ((32) - (Int.tmod x_80 (32)))) else (((List.length l_82) : Nat) : Int))) l_82)))])
 (br (Nat.ble ((0 + (List.length (List.drop 0 (List.take (Int.toNat (if (IntKind.wrap IntKind.i64 ((32) - (Int.tmod x_80 (32)))) < (((List.length l_82) : Nat) : Int) then (IntKind.wrap IntKind.i64 ((32) - (Int.tmod x_80 (32)))) else (((List.length l_82) : Nat) : Int))) l_82)))) * 1) maxBytes)
 (br (Nat.ble (0 + (List.length (List.drop 0 (List.take (Int.toNat (if (IntKind.wrap IntKind.i64 ((32) - (Int.tmod x_80 (32)))) < (((List.length l_82) : Nat) : Int) then (IntKind.wrap IntKind.i64 ((32) - (Int.tmod x_80 (32)))) else (((List.length l_82) : Nat) : Int))) l_82)))) maxBytes)
 (br (AV.pure (.vs 1 false ([] ++ (List.drop 0 (List.take (Int.toNat (if (IntKind.wrap IntKind.i64 ((32) - (Int.tmod x_80 (32)))) < (((List.length l_82) : Nat) : Int) then (IntKind.wrap IntKind.i64 ((32) - (Int.tmod x_80 (32)))) else (((List.length l_82) : Nat) : Int))) l_82)))))
 (br (Nat.ble (((List.length q_86) + 1) * 32) maxBytes)
 (br (Nat.ble ((List.length q_86) + 1) maxBytes)
 (br (decide ((0 : Int) ≤ (if (IntKind.wrap IntKind.i64 ((32) - (Int.tmod x_80 (32)))) < (((List.length l_82) : Nat) : Int) then (IntKind.wrap IntKind.i64 ((32) - (Int.tmod x_80 (32)))) else (((List.length l_82) : Nat) : Int))))
 (br (decide ((if (IntKind.wrap IntKind.i64 ((32) - (Int.tmod x_80 (32)))) < (((List.length l_82) : Nat) : Int) then (IntKind.wrap IntKind.i64 ((32) - (Int.tmod x_80 (32)))) else (((List.length l_82) : Nat) : Int)) ≤ (((List.length l_82) : Nat) : Int)))
 (run Try.prog ann cal n 33 (goTo [0, 5, 0, 0, 5, 7, 5, 0, 0, 5, 7, 5, 0, 2, 3] (bodyOf 33)) (mkS 74 [(0, .val (.ptr 8 0) .no), (1, .val (.int .i64 (IntKind.wrap IntKind.i64 (x_80 + (if (IntKind.wrap IntKind.i64 ((32) - (Int.tmod x_80 (32)))) < (((List.length l_82) : Nat) : Int) then (IntKind.wrap IntKind.i64 ((32) - (Int.tmod x_80 (32)))) else (((List.length l_82) : Nat) : Int))))) .no), (2, .val (.vs 1 tg_81 (List.drop (Int.toNat (if (IntKind.wrap IntKind.i64 ((32) - (Int.tmod x_80 (32)))) < (((List.length l_82) : Nat) : Int) then (IntKind.wrap IntKind.i64 ((32) - (Int.tmod x_80 (32)))) else (((List.length l_82) : Nat) : Int))) (List.take (List.length l_82) l_82))) .no)] [] (pre Z (hrf n_72 false (q_86 ++ [(.agg [(.int .i64 x_80), (.vs 1 false ([] ++ (List.drop 0 (List.take (Int.toNat (if (IntKind.wrap IntKind.i64 ((32) - (Int.tmod x_80 (32)))) < (((List.length l_82) : Nat) : Int) then (IntKind.wrap IntKind.i64 ((32) - (Int.tmod x_80 (32)))) else (((List.length l_82) : Nat) : Int))) l_82))))])]) off_87 ar_88 ct_89 D_90 Hp.none)) 16))
 none)
 none)
 none)
 none)
 none)
 none)
 none)
 none)
 none)
 none)))
 (some ⟨(.int .i64 (0)), (pre Z (hrf n_72 tg_85 q_86 off_87 ar_88 ct_89 D_90 Hp.none)), 16⟩)) := by kernel_rfl

/-- fuel 25 -/
theorem rf_33_3 (cal : Oracle) (n : Nat) (Z : Blk × Blk × Blk) (n_72 : Nat) (x_91 : Int) (tg_92 : Bool) (l_93 : List AV) (tg_95 : Bool) (q_96 : List AV) (off_97 : Bool) (ar_98 : Bool) (ct_99 : Int) (D_100 : List AV) : run Try.prog ann cal (n + 25) 33 (goTo [0, 5, 0, 0, 5, 7, 5, 0, 0, 5, 7, 5, 0, 2, 3] (bodyOf 33)) (mkS 74 [(0, .val (.ptr 8 0) .no), (1, .val (.int .i64 x_91) .no), (2, .val (.vs 1 tg_92 l_93) .no)] [] (pre Z (hrf n_72 tg_95 q_96 off_97 ar_98 ct_99 D_100 Hp.none)) 16) =
 (br (decide ((0) < (((List.length l_93) : Nat) : Int)))
 (br ar_98
 (br (decide (ct_99 = (0)))
 (some ⟨(.int .i64 (15)), (pre Z (hrf n_72 tg_95 q_96 true ar_98 ct_99 D_100 Hp.none)), 16⟩)
 (br ar_98
 (br (decide ((0 : Int) ≤ (if (IntKind.wrap IntKind.i64 ((32) - (Int.tmod x_91 (32)))) < (((List.length l_93) : Nat) : Int) then (IntKind.wrap IntKind.i64 ((32) - (Int.tmod x_91 (32)))) else (((List.length l_93) : Nat) : Int))))
 (br (decide ((if (IntKind.wrap IntKind.i64 ((32) - (Int.tmod x_91 (32)))) < (((List.length l_93) : Nat) : Int) then (IntKind.wrap IntKind.i64 ((32) - (Int.tmod x_91 (32)))) else (((List.length l_93) : Nat) : Int)) ≤ (((List.length l_93) : Nat) : Int)))
 (br (pureL [(.vs 1 true []), (.vs 1 false (List.drop 0 (List.take (Int.toNat (if (IntKind.wrap IntKind.i64 ((32) - (Int.tmod x_91 (32)))) < (((List.length l_93) : Nat) : Int) then (IntKind.wrap IntKind.i64 ((32) - (Int.tmod x_91 (32)))) else (((List.length l_93) : Nat) : Int))) l_93)))])
 (br (Nat.ble ((0 + (List.length (List.drop 0 (List.take (Int.toNat (if (IntKind.wrap IntKind.i64 ((32) - (Int.tmod x_91 (32)))) < (((List.length l_93) : Nat) : Int) then (IntKind.wrap IntKind.i64 ((32) - (Int.tmod x_91 (32)))) else (((List.length l_93) : Nat) : Int))) l_93)))) * 1) maxBytes)
 (br (Nat.ble (0 + (List.length (List.drop 0 (List.take (Int.toNat (if (IntKind.wrap IntKind.i64 ((32) - (Int.tmod x_91 (32)))) < (((List.length l_93) : Nat) : Int) then (IntKind.wrap IntKind.i64 ((32) - (Int.tmod x_91 (32)))) else (((List.length l_93) : Nat) : Int))) l_93)))) maxBytes)
 (br (AV.pure (.vs 1 false ([] ++ (List.drop 0 (List.take (Int.toNat (if (IntKind.wrap IntKind.i64 ((32) - (Int.tmod x_91 (32)))) < (((List.length l_93) : Nat) : Int) then (IntKind.wrap IntKind.i64 ((32) - (Int.tmod x_91 (32)))) else (((List.length l_93) : Nat) : Int))) l_93)))))
 (br (Nat.ble (((List.length q_96) + 1) * 32) maxBytes)
 (br (Nat.ble ((List.length q_96) + 1) maxBytes)
 (br (decide ((0 : Int) ≤ (if (IntKind.wrap IntKind.i64 ((32) - (Int.tmod x_91 (32)))) < (((List.length l_93) : Nat) : Int) then (IntKind.wrap IntKind.i64 ((32) - (Int.tmod x_91 (32)))) else (((List.length l_93) : Nat) : Int))))
 (br (decide ((if (IntKind.wrap IntKind.i64 ((32) - (Int.tmod x_91 (32)))) < (((List.length l_93) : Nat) : Int) then (IntKind.wrap IntKind.i64 ((32) - (Int.tmod x_91 (32)))) else (((List.length l_93) : Nat) : Int)) ≤ (((List.length l_93) : Nat) : Int)))
 (run Try.prog ann cal n 33 (goTo [0, 5, 0, 0, 5, 7, 5, 0, 0, 5, 7, 5, 0, 2, 3] (bodyOf 33)) (mkS 74 [(0, .val (.ptr 8 0) .no), (1, .val (.int .i64 (IntKind.wrap IntKind.i64 (x_91 + (if (IntKind.wrap IntKind.i64 ((32) - (Int.tmod x_91 (32)))) < (((List.length l_93) : Nat) : Int) then (IntKind.wrap IntKind.i64 ((32) - (Int.tmod x_91 (32)))) else (((List.length l_93) : Nat) : Int))))) .no), (2, .val (.vs 1 tg_92 (List.drop (Int.toNat (if (IntKind.wrap IntKind.i64 ((32) - (Int.tmod x_91 (32)))) < (((List.length l_93) : Nat) : Int) then (IntKind.wrap IntKind.i64 ((32) - (Int.tmod x_91 (32)))) else (((List.length l_93) : Nat) : Int))) (List.take (List.length l_93) l_93))) .no)] [] (pre Z (hrf n_72 false (q_96 ++ [(.agg [(.int .i64 x_91), (.vs 1 false ([] ++ (List.drop 0 (List.take (Int.toNat (if (IntKind.wrap IntKind.i64 ((32) - (Int.tmod x_91 (32)))) < (((List.length l_93) : Nat) : Int) then (IntKind.wrap IntKind.i64 ((32) - (Int.tmod x_91 (32)))) else (((List.length l_93) : Nat) : Int))) l_93))))])]) off_97 ar_98 (IntKind.wrap IntKind.i64 (ct_99 - (1))) D_100 Hp.none)) 16))
 none)
 none)
 none)
 none)
 none)
 none)
 none)
 none)
 none)
 none)
 (br (decide ((0 : Int) ≤ (if (IntKind.wrap IntKind.i64 ((32) - (Int.tmod x_91 (32)))) < (((List.length l_93) : Nat) : Int) then (IntKind.wrap IntKind.i64 ((32) - (Int.tmod x_91 (32)))) else (((List.length l_93) : Nat) : Int))))
 (br (decide ((if (IntKind.wrap IntKind.i64 ((32) - (Int.tmod x_91 (32)))) < (((List.length l_93) : Nat) : Int) then (IntKind.wrap IntKind.i64 ((32) - (Int.tmod x_91 (32)))) else (((List.length l_93) : Nat) : Int)) ≤ (((List.length l_93) : Nat) : Int)))
 (br (pureL [(.vs 1 true []), (.vs 1 false (List.drop 0 (List.take (Int.toNat (if (IntKind.wrap IntKind.i64 ((32) - (Int.tmod x_91 (32)))) < (((List.length l_93) : Nat) : Int) then (IntKind.wrap IntKind.i64 ((32) - (Int.tmod x_91 (32)))) else (((List.length l_93) : Nat) : Int))) l_93)))])
 (br (Nat.ble ((0 + (List.length (List.drop 0 (List.take (Int.toNat (if (IntKind.wrap IntKind.i64 ((32) - (Int.tmod x_91 (32)))) < (((List.length l_93) : Nat) : Int) then (IntKind.wrap IntKind.i64 ((32) - (Int.tmod x_91 (32)))) else (((List.length l_93) : Nat) : Int))) l_93)))) * 1) maxBytes)
 (br (Nat.ble (0 + (List.length (List.drop 0 (List.take (Int.toNat (if (IntKind.wrap IntKind.i64 ((32) - (Int.tmod x_91 (32)))) < (((List.length l_93) : Nat) : Int) then (IntKind.wrap IntKind.i64 ((32) - (Int.tmod x_91 (32)))) else (((List.length l_93) : Nat) : Int))) l_93)))) maxBytes)
 (br (AV.pure (.vs 1 false ([] ++ (List.drop 0 (List.take (Int.toNat (if (IntKind.wrap IntKind.i64 ((32) - (Int.tmod x_91 (32)))) < (((List.length l_93) : Nat) : Int) then (IntKind.wrap IntKind.i64 ((32) - (Int.tmod x_91 (32)))) else (((List.length l_93) : Nat) : Int))) l_93)))))
 (br (Nat.ble (((List.length q_96) + 1) * 32) maxBytes)
 (br (Nat.ble ((List.length q_96) + 1) maxBytes)
 (br (decide ((0 : Int) ≤ (if (IntKind.wrap IntKind.i64 ((32) - (Int.tmod x_91 (32)))) < (((List.length l_93) : Nat) : Int) then (IntKind.wrap IntKind.i64 ((32) - (Int.tmod x_91 (32)))) else (((List.length l_93) : Nat) : Int))))
 (br (decide ((if (IntKind.wrap IntKind.i64 ((32) - (Int.tmod x_91 (32)))) < (((List.length l_93) : Nat) : Int) then (IntKind.wrap IntKind.i64 ((32) - (Int.tmod x_91 (32)))) else (((List.length l_93) : Nat) : Int)) ≤ (((List.length l_93) : Nat) : Int)))
 (run Try.prog ann cal n 33 (goTo [0, 5, 0, 0, 5, 7, 5, 0, 0, 5, 7, 5, 0, 2, 3] (bodyOf 33)) (mkS 74 [(0, .val (.ptr 8 0) .no), (1, .val (.int .i64 (IntKind.wrap IntKind.i64 (x_91 + (if (IntKind.wrap IntKind.i64 ((32) - (Int.tmod x_91 (32)))) < (((List.length l_93) : Nat) : Int) then (IntKind.wrap IntKind.i64 ((32) - (Int.tmod x_91 (32)))) else (((List.length l_93) : Nat) : Int))))) .no), (2, .val (.vs 1 tg_92 (List.drop (Int.toNat (if (IntKind.wrap IntKind.i64 ((32) - (Int.tmod x_91 (32)))) < (((List.length l_93) : Nat) : Int) then (IntKind.wrap IntKind.i64 ((32) - (Int.tmod x_91 (32)))) else (((List.length l_93) : Nat) : Int))) (List.take (List.length l_93) l_93))) .no)] [] (pre Z (hrf n_72 false (q_96 ++ [(.agg [(.int .i64 x_91), (.vs 1 false ([] ++ (List.drop 0 (List.take (Int.toNat (if (IntKind.wrap IntKind.i64 ((32) - (Int.tmod x_91 (32)))) < (((List.length l_93) : Nat) : Int) then (IntKind.wrap IntKind.i64 ((32) - (Int.tmod x_91 (32)))) else (((List.length l_93) : Nat) : Int))) l_93))))])]) off_97 ar_98 ct_99 D_100 Hp.none)) 16))
 none)
 none)
 none)
 none)
 none)
 none)
 none)
 none)
 none)
 none)))
 (br ar_98
 (br (decide ((0 : Int) ≤ (if (IntKind.wrap IntKind.i64 ((32) - (Int.tmod x_91 (32)))) < (((List.length l_93) : Nat) : Int) then (IntKind.wrap IntKind.i64 ((32) - (Int.tmod x_91 (32)))) else (((List.length l_93) : Nat) : Int))))
 (br (decide ((if (IntKind.wrap IntKind.i64 ((32) - (Int.tmod x_91 (32)))) < (((List.length l_93) : Nat) : Int) then (IntKind.wrap IntKind.i64 ((32) - (Int.tmod x_91 (32)))) else (((List.length l_93) : Nat) : Int)) ≤ (((List.length l_93) : Nat) : Int)))
 (br (pureL [(.vs 1 true []), (.vs 1 false (List.drop 0 (List.take (Int.toNat (if (IntKind.wrap IntKind.i64 ((32) - (Int.tmod x_91 (32)))) < (((List.length l_93) : Nat) : Int) then (IntKind.wrap IntKind.i64 ((32) - (Int.tmod x_91 (32)))) else (((List.length l_93) : Nat) : Int))) l_93)))])
 (br (Nat.ble ((0 + (List.length (List.drop 0 (List.take (Int.toNat (if (IntKind.wrap IntKind.i64 ((32) - (Int.tmod x_91 (32)))) < (((List.length l_93) : Nat) : Int) then (IntKind.wrap IntKind.i64 ((32) - (Int.tmod x_91 (32)))) else (((List.length l_93) : Nat) : Int))) l_93)))) * 1) maxBytes)
 (br (Nat.ble (0 + (List.length (List.drop 0 (List.take (Int.toNat (if (IntKind.wrap IntKind.i64 ((32) - (Int.tmod x_91 (32)))) < (((List.length l_93) : Nat) : Int) then (IntKind.wrap IntKind.i64 ((32) - (Int.tmod x_91 (32)))) else (((List.length l_93) : Nat) : Int))) l_93)))) maxBytes)
 (br (AV.pure (.vs 1 false ([] ++ (List.drop 0 (List.take (Int.toNat (if (IntKind.wrap IntKind.i64 ((32) - (Int.tmod x_91 (32)))) < (((List.length l_93) : Nat) : Int) then (IntKind.wrap IntKind.i64 ((32) - (Int.tmod x_91 (32)))) else (((List.length l_93) : Nat) : Int))) l_93)))))
 (br (Nat.ble (((List.length q_96) + 1) * 32) maxBytes)
 (br (Nat.ble ((List.length q_96) + 1) maxBytes)
 (br (decide ((0 : Int) ≤ (if (IntKind.wrap IntKind.i64 ((32) - (Int.tmod x_91 (32)))) < (((List.length l_93) : Nat) : Int) then (IntKind.wrap IntKind.i64 ((32) - (Int.tmod x_91 (32)))) else (((List.length l_93) : Nat) : Int))))
 (br (decide ((if (IntKind.wrap IntKind.i64 ((32) - (Int.tmod x_91 (32)))) < (((List.length l_93) : Nat) : Int) then (IntKind.wrap IntKind.i64 ((32) - (Int.tmod x_91 (32)))) else (((List.length l_93) : Nat) : Int)) ≤ (((List.length l_93) : Nat) : Int)))
 (run Try.prog ann cal n 33 (goTo [0, 5, 0, 0, 5, 7, 5, 0, 0, 5, 7, 5, 0, 2, 3] (bodyOf 33)) (mkS 74 [(0, .val (.ptr 8 0) .no), (1, .val (.int .i64 (IntKind.wrap IntKind.i64 (x_91 + (if (IntKind.wrap IntKind.i64 ((32) - (Int.tmod x_91 (32)))) < (((List.length l_93) : Nat) : Int) then (IntKind.wrap IntKind.i64 ((32) - (Int.tmod x_91 (32)))) else (((List.length l_93) : Nat) : Int))))) .no), (2, .val (.vs 1 tg_92 (List.drop (Int.toNat (if (IntKind.wrap IntKind.i64 ((32) - (Int.tmod x_91 (32)))) < (((List.length l_93) : Nat) : Int) then (IntKind.wrap IntKind.i64 ((32) - (Int.tmod x_91 (32)))) else (((List.length l_93) : Nat) : Int))) (List.take (List.length l_93) l_93))) .no)] [] (pre Z (hrf n_72 false (q_96 ++ [(.agg [(.int .i64 x_91), (.vs 1 false ([] ++ (List.drop 0 (List.take (Int.toNat (if (IntKind.wrap IntKind.i64 ((32) - (Int.tmod x_91 (32)))) < (((List.length l_93) : Nat) : Int) then (IntKind.wrap IntKind.i64 ((32) - (Int.tmod x_91 (32)))) else (((List.length l_93) : Nat) : Int))) l_93))))])]) off_97 ar_98 (IntKind.wrap IntKind.i64 (ct_99 - (1))) D_100 Hp.none)) 16))
 none)
 none)
 none)
 none)
 none)
 none)
 none)
 none)
 none)
 none)
 (br (decide ((0 : Int) ≤ (if (IntKind.wrap IntKind.i64 ((32) - (Int.tmod x_91 (32)))) < (((List.length l_93) : Nat) : Int) then (IntKind.wrap IntKind.i64 ((32) - (Int.tmod x_91 (32)))) else (((List.length l_93) : Nat) : Int))))
 (br (decide ((if (IntKind.wrap IntKind.i64 ((32) - (Int.tmod x_91 (32)))) < (((List.length l_93) : Nat) : Int) then (IntKind.wrap IntKind.i64 ((32) - (Int.tmod x_91 (32)))) else (((List.length l_93) : Nat) : Int)) ≤ (((List.length l_93) : Nat) : Int)))
 (br (pureL [(.vs 1 true []), (.vs 1 false (List.drop 0 (List.take (Int.toNat (if (IntKind.wrap IntKind.i64 ((32) - (Int.tmod x_91 (32)))) < (((List.length l_93) : Nat) : Int) then (IntKind.wrap IntKind.i64 ((32) - (Int.tmod x_91 (32)))) else (((List.length l_93) : Nat) : Int))) l_93)))])
 (br (Nat.ble ((0 + (List.length (List.drop 0 (List.take (Int.toNat (if (IntKind.wrap IntKind.i64 ((32) - (Int.tmod x_91 (32)))) < (((List.length l_93) : Nat) : Int) then (IntKind.wrap IntKind.i64 ((32) - (Int.tmod x_91 (32)))) else (((List.length l_93) : Nat) : Int))) l_93)))) * 1) maxBytes)
 (br (Nat.ble (0 + (List.length (List.drop 0 (List.take (Int.toNat (if (IntKind.wrap IntKind.i64 ((32) - (Int.tmod x_91 (32)))) < (((List.length l_93) : Nat) : Int) then (IntKind.wrap IntKind.i64 ((32) - (Int.tmod x_91 (32)))) else (((List.length l_93) : Nat) : Int))) l_93)))) maxBytes)
 (br (AV.pure (.vs 1 false ([] ++ (List.drop 0 (List.take (Int.toNat (if (IntKind.wrap IntKind.i64 ((32) - (Int.tmod x_91 (32)))) < (((List.length l_93) : Nat) : Int) then (IntKind.wrap IntKind.i64 ((32) - (Int.tmod x_91 (32)))) else (((List.length l_93) : Nat) : Int))) l_93)))))
 (br (Nat.ble (((List.length q_96) + 1) * 32) maxBytes)
 (br (Nat.ble ((List.length q_96) + 1) maxBytes)
 (br (decide ((0 : Int) ≤ (if (IntKind.wrap IntKind.i64 ((32) - (Int.tmod x_91 (32)))) < (((List.length l_93) : Nat) : Int) then (IntKind.wrap IntKind.i64 ((32) - (Int.tmod x_91 (32)))) else (((List.length l_93) : Nat) : Int))))
 (br (decide ((if (IntKind.wrap IntKind.i64 ((32) - (Int.tmod x_91 (32)))) < (((List.length l_93) : Nat) : Int) then (IntKind.wrap IntKind.i64 ((32) - (Int.tmod x_91 (32)))) else (((List.length l_93) : Nat) : Int)) ≤ (((List.length l_93) : Nat) : Int)))
 (run Try.prog ann cal n 33 (goTo [0, 5, 0, 0, 5, 7, 5, 0, 0, 5, 7, 5, 0, 2, 3] (bodyOf 33)) (mkS 74 [(0, .val (.ptr 8 0) .no), (1, .val (.int .i64 (IntKind.wrap IntKind.i64 (x_91 + (if (IntKind.wrap IntKind.i64 ((32) - (Int.tmod x_91 (32)))) < (((List.length l_93) : Nat) : Int) then (IntKind.wrap IntKind.i64 ((32) - (Int.tmod x_91 (32)))) else (((List.length l_93) : Nat) : Int))))) .no), (2, .val (.vs 1 tg_92 (List.drop (Int.toNat (if (IntKind.wrap IntKind.i64 ((32) - (Int.tmod x_91 (32)))) < (((List.length l_93) : Nat) : Int) then (IntKind.wrap IntKind.i64 ((32) - (Int.tmod x_91 (32)))) else (((List.length l_93) : Nat) : Int))) (List.take (List.length l_93) l_93))) .no)] [] (pre Z (hrf n_72 false (q_96 ++ [(.agg [(.int .i64 x_91), (.vs 1 false ([] ++ (List.drop 0 (List.take (Int.toNat (if (IntKind.wrap IntKind.i64 ((32) - (Int.tmod x_91 (32)))) < (((List.length l_93) : Nat) : Int) then (IntKind.wrap IntKind.i64 ((32) - (Int.tmod x_91 (32)))) else (((List.length l_93) : Nat) : Int))) l_93))))])]) off_97 ar_98 ct_99 D_100 Hp.none)) 16))
 none)
 none)
 none)
 none)
 none)
 none)
 none)
 none)
 none)
 none)))
 (some ⟨(.int .i64 (0)), (pre Z (hrf n_72 tg_95 q_96 off_97 ar_98 ct_99 D_100 Hp.none)), 16⟩)) := by kernel_rfl

/-- fuel 7 -/
theorem rf_32_0 (cal : Oracle) (n : Nat) (Z : Blk × Blk × Blk) (x_101 : Int) (x_102 : Int) (n_103 : Nat) (tg_104 : Bool) (q_105 : List AV) (off_106 : Bool) (ar_107 : Bool) (ct_108 : Int) (D_109 : List AV) : run Try.prog ann cal (n + 7) 32 (bodyOf 32) (mkS 86 [(0, .val (.ptr 8 0) .no), (1, .val (.int .i64 x_101) .no), (2, .val (.int .i64 x_102) .no)] [] (pre Z (hrf n_103 tg_104 q_105 off_106 ar_107 ct_108 D_109 Hp.none)) 16) =
 (run Try.prog ann cal n 32 (goTo [0, 5, 0, 0, 5, 2, 3] (bodyOf 32)) (mkS 86 [(0, .val (.ptr 8 0) .no), (1, .val (.int .i64 (if (0) < (if (((List.length q_105) : Nat) : Int) < x_101 then (((List.length q_105) : Nat) : Int) else x_101) then (if (((List.length q_105) : Nat) : Int) < x_101 then (((List.length q_105) : Nat) : Int) else x_101) else (0))) .no), (2, .val (.int .i64 x_102) .no), (6, .val (.int .i64 (0)) .no)] [] (pre Z (hrf n_103 tg_104 q_105 off_106 ar_107 ct_108 D_109 Hp.none)) 16)) := by kernel_rfl

/-- fuel 18 -/
theorem rf_32_1 (cal : Oracle) (n : Nat) (Z : Blk × Blk × Blk) (n_103 : Nat) (x_110 : Int) (x_111 : Int) (x_112 : Int) (tg_114 : Bool) (q_115 : List AV) (off_116 : Bool) (ar_117 : Bool) (ct_118 : Int) (D_119 : List AV) : run Try.prog ann cal (n + 18) 32 (goTo [0, 5, 0, 0, 5, 2, 3] (bodyOf 32)) (mkS 86 [(0, .val (.ptr 8 0) .no), (1, .val (.int .i64 x_110) .no), (2, .val (.int .i64 x_111) .no), (6, .val (.int .i64 x_112) .no)] [] (pre Z (hrf n_103 tg_114 q_115 off_116 ar_117 ct_118 D_119 Hp.none)) 16) =
 (br (decide (x_112 < x_110))
 (br (decide ((0 : Int) ≤ x_112))
 (br (decide (x_112 < (((List.length q_115) : Nat) : Int)))
 ((nth q_115 (Int.toNat x_112)).bind fun c1 =>
 (midRun cal (n + 10) 32 (goTo [0, 5, 0, 0, 5, 2, 3, 0, 0, 5, 6, 5, 0, 2] (bodyOf 32)) 10 (mkS 86 [(0, .val (.ptr 8 0) .no), (1, .val (.int .i64 x_110) .no), (2, .val (.int .i64 x_111) .no), (6, .val (.int .i64 x_112) .no), (18, .val (.bool true) .no), (21, .val (.ptr 8 0) .no), (22, .val (.ptr 8 0) .no), (23, .val (.ptr 8 0) .no), (24, .val (.arr 9 0 n_103 1) (.lH 8 0)), (25, .val (.ptr 8 0) .no), (26, .val (.ptr 8 0) .no), (27, .val (.ptr 8 1) .no), (28, .val (.vs 2 tg_114 q_115) (.lH 8 1)), (29, .val (.int .i64 x_112) .no), (30, .val (.cptr (AV.cells c1)) .no)] [] (pre Z (hrf n_103 tg_114 q_115 off_116 ar_117 ct_118 D_119 Hp.none)) 16)))
 none)
 none)
 (br (decide (x_110 < (((List.length q_115) : Nat) : Int)))
 (br (decide ((0 : Int) ≤ x_110))
 (br (decide (x_110 < (((List.length q_115) : Nat) : Int)))
 ((nth q_115 (Int.toNat x_110)).bind fun c2 =>
 (midRun cal (n + 7) 32 (goTo [0, 5, 0, 0, 5, 2, 3, 0, 0, 5, 7, 5, 5, 5, 5, 0, 0, 5, 6, 0] (bodyOf 32)) 6 (mkS 86 [(0, .val (.ptr 8 0) .no), (1, .val (.int .i64 x_110) .no), (2, .val (.int .i64 x_111) .no), (49, .val (.bool true) .no), (50, .val (.ptr 8 0) .no), (51, .val (.ptr 8 0) .no), (52, .val (.ptr 8 1) .no), (53, .val (.vs 2 tg_114 q_115) (.lH 8 1)), (54, .val (.int .i64 x_110) .no), (55, .val (.cptr (AV.cells c2)) .no)] [] (pre Z (hrf n_103 tg_114 q_115 off_116 ar_117 ct_118 D_119 Hp.none)) 16)))
 none)
 none)
 (some ⟨(.tuple []), (pre Z (hrf n_103 true [] false false (0) D_119 Hp.none)), 16⟩))) := by kernel_rfl

/-- fuel 0 -/
theorem rf_32_2 (cal : Oracle) (n : Nat) (Z : Blk × Blk × Blk) (n_103 : Nat) (x_110 : Int) (x_111 : Int) (x_112 : Int) (tg_114 : Bool) (q_115 : List AV) (off_116 : Bool) (ar_117 : Bool) (ct_118 : Int) (D_119 : List AV) (x_120 : Int) (l_121 : List AV) : midRun cal n 32 (goTo [0, 5, 0, 0, 5, 2, 3, 0, 0, 5, 6, 5, 0, 2] (bodyOf 32)) 10 (mkS 86 [(0, .val (.ptr 8 0) .no), (1, .val (.int .i64 x_110) .no), (2, .val (.int .i64 x_111) .no), (6, .val (.int .i64 x_112) .no), (18, .val (.bool true) .no), (21, .val (.ptr 8 0) .no), (22, .val (.ptr 8 0) .no), (23, .val (.ptr 8 0) .no), (24, .val (.arr 9 0 n_103 1) (.lH 8 0)), (25, .val (.ptr 8 0) .no), (26, .val (.ptr 8 0) .no), (27, .val (.ptr 8 1) .no), (28, .val (.vs 2 tg_114 q_115) (.lH 8 1)), (29, .val (.int .i64 x_112) .no), (30, .val (.cptr [(.int .i64 x_120), (.vs 1 false l_121)]) .no)] [] (pre Z (hrf n_103 tg_114 q_115 off_116 ar_117 ct_118 D_119 Hp.none)) 16) =
 (br (decide ((0 : Int) ≤ x_120))
 (br (decide (x_120 ≤ ((n_103 : Nat) : Int)))
 (br (Nat.blt (Int.toNat x_120) n_103)
 (br (decide ((0 : Int) ≤ x_112))
 (br (decide (x_112 < (((List.length q_115) : Nat) : Int)))
 ((nth q_115 (Int.toNat x_112)).bind fun c3 =>
 (midRun cal n 32 (goTo [0, 5, 0, 0, 5, 2, 3, 0, 0, 5, 6, 5, 0, 2] (bodyOf 32)) 19 (mkS 86 [(0, .val (.ptr 8 0) .no), (1, .val (.int .i64 x_110) .no), (2, .val (.int .i64 x_111) .no), (6, .val (.int .i64 x_112) .no), (18, .val (.bool true) .no), (21, .val (.ptr 8 0) .no), (22, .val (.ptr 8 0) .no), (23, .val (.ptr 8 0) .no), (24, .val (.arr 9 0 n_103 1) (.lH 8 0)), (25, .val (.ptr 8 0) .no), (26, .val (.ptr 8 0) .no), (27, .val (.ptr 8 1) .no), (28, .val (.vs 2 tg_114 q_115) (.lH 8 1)), (29, .val (.int .i64 x_112) .no), (30, .val (.cptr [(.int .i64 x_120), (.vs 1 false l_121)]) .no), (31, .val (.cptr [(.int .i64 x_120), (.vs 1 false l_121)]) .no), (32, .val (.int .i64 x_120) .no), (33, .val (.arr 9 (0 + ((Int.toNat x_120) * 1)) (n_103 - (Int.toNat x_120)) 1) .no), (34, .val (.ptr 8 0) .no), (35, .val (.ptr 8 0) .no), (36, .val (.ptr 8 1) .no), (37, .val (.vs 2 tg_114 q_115) (.lH 8 1)), (38, .val (.int .i64 x_112) .no), (39, .val (.cptr (AV.cells c3)) .no)] [] (pre Z (hrf n_103 tg_114 q_115 off_116 ar_117 ct_118 D_119 Hp.none)) 16)))
 none)
 none)
 (br (decide ((0 : Int) ≤ x_112))
 (br (decide (x_112 < (((List.length q_115) : Nat) : Int)))
 ((nth q_115 (Int.toNat x_112)).bind fun c4 =>
 (midRun cal n 32 (goTo [0, 5, 0, 0, 5, 2, 3, 0, 0, 5, 6, 5, 0, 2] (bodyOf 32)) 19 (mkS 86 [(0, .val (.ptr 8 0) .no), (1, .val (.int .i64 x_110) .no), (2, .val (.int .i64 x_111) .no), (6, .val (.int .i64 x_112) .no), (18, .val (.bool true) .no), (21, .val (.ptr 8 0) .no), (22, .val (.ptr 8 0) .no), (23, .val (.ptr 8 0) .no), (24, .val (.arr 9 0 n_103 1) (.lH 8 0)), (25, .val (.ptr 8 0) .no), (26, .val (.ptr 8 0) .no), (27, .val (.ptr 8 1) .no), (28, .val (.vs 2 tg_114 q_115) (.lH 8 1)), (29, .val (.int .i64 x_112) .no), (30, .val (.cptr [(.int .i64 x_120), (.vs 1 false l_121)]) .no), (31, .val (.cptr [(.int .i64 x_120), (.vs 1 false l_121)]) .no), (32, .val (.int .i64 x_120) .no), (33, .val (.vs 1 false []) .no), (34, .val (.ptr 8 0) .no), (35, .val (.ptr 8 0) .no), (36, .val (.ptr 8 1) .no), (37, .val (.vs 2 tg_114 q_115) (.lH 8 1)), (38, .val (.int .i64 x_112) .no), (39, .val (.cptr (AV.cells c4)) .no)] [] (pre Z (hrf n_103 tg_114 q_115 off_116 ar_117 ct_118 D_119 Hp.none)) 16)))
 none)
 none))
 none)
 none) := by kernel_rfl

/-- fuel 9 -/
theorem rf_32_3 (cal : Oracle) (n : Nat) (Z : Blk × Blk × Blk) (n_103 : Nat) (x_110 : Int) (x_111 : Int) (tg_114 : Bool) (q_115 : List AV) (off_116 : Bool) (ar_117 : Bool) (ct_118 : Int) (D_119 : List AV) (x_122 : Int) (l_123 : List AV) : midRun cal (n + 9) 32 (goTo [0, 5, 0, 0, 5, 2, 3, 0, 0, 5, 7, 5, 5, 5, 5, 0, 0, 5, 6, 0] (bodyOf 32)) 6 (mkS 86 [(0, .val (.ptr 8 0) .no), (1, .val (.int .i64 x_110) .no), (2, .val (.int .i64 x_111) .no), (49, .val (.bool true) .no), (50, .val (.ptr 8 0) .no), (51, .val (.ptr 8 0) .no), (52, .val (.ptr 8 1) .no), (53, .val (.vs 2 tg_114 q_115) (.lH 8 1)), (54, .val (.int .i64 x_110) .no), (55, .val (.cptr [(.int .i64 x_122), (.vs 1 false l_123)]) .no)] [] (pre Z (hrf n_103 tg_114 q_115 off_116 ar_117 ct_118 D_119 Hp.none)) 16) =
 (br (decide ((0 : Int) ≤ x_122))
 (br (decide (x_122 ≤ ((n_103 : Nat) : Int)))
 (br (Nat.blt (Int.toNat x_122) n_103)
 (br (decide ((0 : Int) ≤ (if (0) < (if (((List.length l_123) : Nat) : Int) < x_111 then (((List.length l_123) : Nat) : Int) else x_111) then (if (((List.length l_123) : Nat) : Int) < x_111 then (((List.length l_123) : Nat) : Int) else x_111) else (0))))
 (br (decide ((if (0) < (if (((List.length l_123) : Nat) : Int) < x_111 then (((List.length l_123) : Nat) : Int) else x_111) then (if (((List.length l_123) : Nat) : Int) < x_111 then (((List.length l_123) : Nat) : Int) else x_111) else (0)) ≤ (((List.length l_123) : Nat) : Int)))
 (br (Nat.ble ((0 + ((Int.toNat x_122) * 1)) + (n_103 - (Int.toNat x_122))) (List.length D_119))
 (some ⟨(.tuple []), (pre Z (hrf n_103 true [] false false (0) (patch D_119 (0 + ((Int.toNat x_122) * 1)) (List.flatMap AV.cells (List.take (Nat.min (List.length (List.drop 0 (List.take (Int.toNat (if (0) < (if (((List.length l_123) : Nat) : Int) < x_111 then (((List.length l_123) : Nat) : Int) else x_111) then (if (((List.length l_123) : Nat) : Int) < x_111 then (((List.length l_123) : Nat) : Int) else x_111) else (0))) l_123))) (n_103 - (Int.toNat x_122))) (List.drop 0 (List.take (Int.toNat (if (0) < (if (((List.length l_123) : Nat) : Int) < x_111 then (((List.length l_123) : Nat) : Int) else x_111) then (if (((List.length l_123) : Nat) : Int) < x_111 then (((List.length l_123) : Nat) : Int) else x_111) else (0))) l_123))))) Hp.none)), 16⟩)
 none)
 none)
 none)
 (br (decide ((0 : Int) ≤ (if (0) < (if (((List.length l_123) : Nat) : Int) < x_111 then (((List.length l_123) : Nat) : Int) else x_111) then (if (((List.length l_123) : Nat) : Int) < x_111 then (((List.length l_123) : Nat) : Int) else x_111) else (0))))
 (br (decide ((if (0) < (if (((List.length l_123) : Nat) : Int) < x_111 then (((List.length l_123) : Nat) : Int) else x_111) then (if (((List.length l_123) : Nat) : Int) < x_111 then (((List.length l_123) : Nat) : Int) else x_111) else (0)) ≤ (((List.length l_123) : Nat) : Int)))
 (some ⟨(.tuple []), (pre Z (hrf n_103 true [] false false (0) D_119 Hp.none)), 16⟩)
 none)
 none))
 none)
 none) := by kernel_rfl

/-- fuel 3 -/
theorem rf_32_4 (cal : Oracle) (n : Nat) (Z : Blk × Blk × Blk) (n_103 : Nat) (x_110 : Int) (x_111 : Int) (x_112 : Int) (tg_114 : Bool) (q_115 : List AV) (off_116 : Bool) (ar_117 : Bool) (ct_118 : Int) (D_119 : List AV) (x_120 : Int) (l_121 : List AV) (x_124 : Int) (l_125 : List AV) : midRun cal (n + 3) 32 (goTo [0, 5, 0, 0, 5, 2, 3, 0, 0, 5, 6, 5, 0, 2] (bodyOf 32)) 19 (mkS 86 [(0, .val (.ptr 8 0) .no), (1, .val (.int .i64 x_110) .no), (2, .val (.int .i64 x_111) .no), (6, .val (.int .i64 x_112) .no), (18, .val (.bool true) .no), (21, .val (.ptr 8 0) .no), (22, .val (.ptr 8 0) .no), (23, .val (.ptr 8 0) .no), (24, .val (.arr 9 0 n_103 1) (.lH 8 0)), (25, .val (.ptr 8 0) .no), (26, .val (.ptr 8 0) .no), (27, .val (.ptr 8 1) .no), (28, .val (.vs 2 tg_114 q_115) (.lH 8 1)), (29, .val (.int .i64 x_112) .no), (30, .val (.cptr [(.int .i64 x_120), (.vs 1 false l_121)]) .no), (31, .val (.cptr [(.int .i64 x_120), (.vs 1 false l_121)]) .no), (32, .val (.int .i64 x_120) .no), (33, .val (.arr 9 (0 + ((Int.toNat x_120) * 1)) (n_103 - (Int.toNat x_120)) 1) .no), (34, .val (.ptr 8 0) .no), (35, .val (.ptr 8 0) .no), (36, .val (.ptr 8 1) .no), (37, .val (.vs 2 tg_114 q_115) (.lH 8 1)), (38, .val (.int .i64 x_112) .no), (39, .val (.cptr [(.int .i64 x_124), (.vs 1 false l_125)]) .no)] [] (pre Z (hrf n_103 tg_114 q_115 off_116 ar_117 ct_118 D_119 Hp.none)) 16) =
 (br (Nat.ble ((0 + ((Int.toNat x_120) * 1)) + (n_103 - (Int.toNat x_120))) (List.length D_119))
 (run Try.prog ann cal n 32 (goTo [0, 5, 0, 0, 5, 2, 3] (bodyOf 32)) (mkS 86 [(0, .val (.ptr 8 0) .no), (1, .val (.int .i64 x_110) .no), (2, .val (.int .i64 x_111) .no), (6, .val (.int .i64 (IntKind.wrap IntKind.i64 (x_112 + (1)))) .no)] [] (pre Z (hrf n_103 tg_114 q_115 off_116 ar_117 ct_118 (patch D_119 (0 + ((Int.toNat x_120) * 1)) (List.flatMap AV.cells (List.take (Nat.min (List.length l_125) (n_103 - (Int.toNat x_120))) l_125))) Hp.none)) 16))
 none) := by kernel_rfl

/-- fuel 3 -/
theorem rf_32_5 (cal : Oracle) (n : Nat) (Z : Blk × Blk × Blk) (n_103 : Nat) (x_110 : Int) (x_111 : Int) (x_112 : Int) (tg_114 : Bool) (q_115 : List AV) (off_116 : Bool) (ar_117 : Bool) (ct_118 : Int) (D_119 : List AV) (x_120 : Int) (l_121 : List AV) (x_126 : Int) (l_127 : List AV) : midRun cal (n + 3) 32 (goTo [0, 5, 0, 0, 5, 2, 3, 0, 0, 5, 6, 5, 0, 2] (bodyOf 32)) 19 (mkS 86 [(0, .val (.ptr 8 0) .no), (1, .val (.int .i64 x_110) .no), (2, .val (.int .i64 x_111) .no), (6, .val (.int .i64 x_112) .no), (18, .val (.bool true) .no), (21, .val (.ptr 8 0) .no), (22, .val (.ptr 8 0) .no), (23, .val (.ptr 8 0) .no), (24, .val (.arr 9 0 n_103 1) (.lH 8 0)), (25, .val (.ptr 8 0) .no), (26, .val (.ptr 8 0) .no), (27, .val (.ptr 8 1) .no), (28, .val (.vs 2 tg_114 q_115) (.lH 8 1)), (29, .val (.int .i64 x_112) .no), (30, .val (.cptr [(.int .i64 x_120), (.vs 1 false l_121)]) .no), (31, .val (.cptr [(.int .i64 x_120), (.vs 1 false l_121)]) .no), (32, .val (.int .i64 x_120) .no), (33, .val (.vs 1 false []) .no), (34, .val (.ptr 8 0) .no), (35, .val (.ptr 8 0) .no), (36, .val (.ptr 8 1) .no), (37, .val (.vs 2 tg_114 q_115) (.lH 8 1)), (38, .val (.int .i64 x_112) .no), (39, .val (.cptr [(.int .i64 x_126), (.vs 1 false l_127)]) .no)] [] (pre Z (hrf n_103 tg_114 q_115 off_116 ar_117 ct_118 D_119 Hp.none)) 16) =
 (run Try.prog ann cal n 32 (goTo [0, 5, 0, 0, 5, 2, 3] (bodyOf 32)) (mkS 86 [(0, .val (.ptr 8 0) .no), (1, .val (.int .i64 x_110) .no), (2, .val (.int .i64 x_111) .no), (6, .val (.int .i64 (IntKind.wrap IntKind.i64 (x_112 + (1)))) .no)] [] (pre Z (hrf n_103 tg_114 q_115 off_116 ar_117 ct_118 D_119 Hp.none)) 16)) := by kernel_rfl

end Go.Proofs.Ytjipknfohmgjaaa
