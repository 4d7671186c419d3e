/- Stage laws, printed by gen_disk.py. -/
import Derived.Test.YtjipknfohmgjaaaEHp
namespace Go.Proofs.Ytjipknfohmgjaaa
open Go Go.Vai
attribute [local irreducible] midRun goTo bodyOf mkS

/-- fuel 5 -/
theorem read1_13_0 (cal : Oracle) (n : Nat) (W : List AV) (x_1 : Int) (x_2 : Int) (n_3 : Nat) (tg_4 : Bool) (q_5 : List AV) (ar_6 : Bool) (lf_7 : Int) (dn_8 : Bool) (D_9 : List AV) (C_10 : List AV) : run Try.prog ann cal (n + 5) 13 (bodyOf 13) (mkS 26 [(0, .val (.ptr 1 0) .no), (1, .val (.int .i64 x_1) .no), (2, .val (.int .i64 x_2) .no)] [] (pre1 W (hdk 1 n_3 tg_4 q_5 ar_6 lf_7 dn_8 D_9 C_10 Hp.none)) 9) =
 ((cal 28 [(.ptr 1 0), (.int .i64 x_1), (.int .i64 x_2)] (pre1 W (hdk 1 n_3 tg_4 q_5 ar_6 lf_7 dn_8 D_9 C_10 Hp.none)) 9).bind fun r1 =>
 (midRun cal n 13 (goTo [0, 5, 0, 0] (bodyOf 13)) 4 (mkS 26 [(0, .val (.ptr 1 0) .no), (1, .val (.int .i64 x_1) .no), (2, .val (.int .i64 x_2) .no), (9, .val (.ptr 1 0) .no), (10, .val (.int .i64 x_1) .no), (11, .val (.int .i64 x_2) .no), (12, .val r1.v .no)] [] r1.H r1.nx))) := by kernel_rfl

/-- fuel 6 -/
theorem read1_13_1 (cal : Oracle) (n : Nat) (W : List AV) (x_1 : Int) (x_2 : Int) (n_3 : Nat) (tg_4 : Bool) (q_5 : List AV) (ar_6 : Bool) (lf_7 : Int) (dn_8 : Bool) (D_9 : List AV) (C_10 : List AV) (x_11 : Int) : midRun cal (n + 6) 13 (goTo [0, 5, 0, 0] (bodyOf 13)) 4 (mkS 26 [(0, .val (.ptr 1 0) .no), (1, .val (.int .i64 x_1) .no), (2, .val (.int .i64 x_2) .no), (9, .val (.ptr 1 0) .no), (10, .val (.int .i64 x_1) .no), (11, .val (.int .i64 x_2) .no), (12, .val (.int .i64 x_11) .no)] [] (pre1 W (hdk 1 n_3 tg_4 q_5 ar_6 lf_7 dn_8 D_9 C_10 Hp.none)) 9) =
 (br (!(decide (x_11 = (0))))
 (some ⟨(.tuple [(.vs 1 true []), (.int .i64 x_11)]), (pre1 W (hdk 1 n_3 tg_4 q_5 ar_6 lf_7 dn_8 D_9 C_10 Hp.none)), 9⟩)
 (br (decide ((0 : Int) ≤ (IntKind.wrap IntKind.i64 (x_1 + x_2))))
 (br (decide ((IntKind.wrap IntKind.i64 (x_1 + x_2)) ≤ ((n_3 : Nat) : Int)))
 (br (decide ((0 : Int) ≤ x_1))
 (br (decide (x_1 ≤ (((Int.toNat (IntKind.wrap IntKind.i64 (x_1 + x_2))) : Nat) : Int)))
 (br (Nat.blt (Int.toNat x_1) (Int.toNat (IntKind.wrap IntKind.i64 (x_1 + x_2))))
 (br (Nat.ble ((0 + ((Int.toNat x_1) * 1)) + ((Int.toNat (IntKind.wrap IntKind.i64 (x_1 + x_2))) - (Int.toNat x_1))) (List.length C_10))
 (br (Nat.ble ((List.length (List.take ((Int.toNat (IntKind.wrap IntKind.i64 (x_1 + x_2))) - (Int.toNat x_1)) (List.drop (0 + ((Int.toNat x_1) * 1)) C_10))) * 1) maxBytes)
 (br (Nat.ble (List.length (List.take ((Int.toNat (IntKind.wrap IntKind.i64 (x_1 + x_2))) - (Int.toNat x_1)) (List.drop (0 + ((Int.toNat x_1) * 1)) C_10))) maxBytes)
 (br (Nat.beq (List.length (List.take ((Int.toNat (IntKind.wrap IntKind.i64 (x_1 + x_2))) - (Int.toNat x_1)) (List.drop (0 + ((Int.toNat x_1) * 1)) C_10))) 0)
 (midRun cal n 13 (goTo [0, 5, 0, 0, 5, 0, 5, 7, 5, 0] (bodyOf 13)) 10 (mkS 26 [(0, .val (.ptr 1 0) .no), (1, .val (.int .i64 x_1) .no), (2, .val (.int .i64 x_2) .no), (8, .val (.int .i64 x_11) .no), (14, .val (.bool false) .no), (16, .val (.ptr 1 0) .no), (17, .val (.ptr 1 0) .no), (18, .val (.ptr 1 1) .no), (19, .val (.arr 4 0 n_3 1) .no), (20, .val (.int .i64 x_1) .no), (21, .val (.int .i64 x_1) .no), (22, .val (.int .i64 x_2) .no), (23, .val (.int .i64 (IntKind.wrap IntKind.i64 (x_1 + x_2))) .no), (24, .val (.arr 4 (0 + ((Int.toNat x_1) * 1)) ((Int.toNat (IntKind.wrap IntKind.i64 (x_1 + x_2))) - (Int.toNat x_1)) 1) .no), (25, .val (.vs 1 true []) .no)] [] (pre1 W (hdk 1 n_3 tg_4 q_5 ar_6 lf_7 dn_8 D_9 C_10 Hp.none)) 9))
 (midRun cal n 13 (goTo [0, 5, 0, 0, 5, 0, 5, 7, 5, 0] (bodyOf 13)) 10 (mkS 26 [(0, .val (.ptr 1 0) .no), (1, .val (.int .i64 x_1) .no), (2, .val (.int .i64 x_2) .no), (8, .val (.int .i64 x_11) .no), (14, .val (.bool false) .no), (16, .val (.ptr 1 0) .no), (17, .val (.ptr 1 0) .no), (18, .val (.ptr 1 1) .no), (19, .val (.arr 4 0 n_3 1) .no), (20, .val (.int .i64 x_1) .no), (21, .val (.int .i64 x_1) .no), (22, .val (.int .i64 x_2) .no), (23, .val (.int .i64 (IntKind.wrap IntKind.i64 (x_1 + x_2))) .no), (24, .val (.arr 4 (0 + ((Int.toNat x_1) * 1)) ((Int.toNat (IntKind.wrap IntKind.i64 (x_1 + x_2))) - (Int.toNat x_1)) 1) .no), (25, .val (.arr 9 0 (List.length (List.take ((Int.toNat (IntKind.wrap IntKind.i64 (x_1 + x_2))) - (Int.toNat x_1)) (List.drop (0 + ((Int.toNat x_1) * 1)) C_10))) 1) .no)] [] (pre1 W (hdk 1 n_3 tg_4 q_5 ar_6 lf_7 dn_8 D_9 C_10 ((9, ⟨(List.flatMap AV.cells (List.take ((Int.toNat (IntKind.wrap IntKind.i64 (x_1 + x_2))) - (Int.toNat x_1)) (List.drop (0 + ((Int.toNat x_1) * 1)) C_10))), []⟩) :: Hp.none))) 10)))
 none)
 none)
 none)
 (br (Nat.ble 0 maxBytes)
 (br (Nat.ble 0 maxBytes)
 (midRun cal n 13 (goTo [0, 5, 0, 0, 5, 0, 5, 7, 5, 0] (bodyOf 13)) 10 (mkS 26 [(0, .val (.ptr 1 0) .no), (1, .val (.int .i64 x_1) .no), (2, .val (.int .i64 x_2) .no), (8, .val (.int .i64 x_11) .no), (14, .val (.bool false) .no), (16, .val (.ptr 1 0) .no), (17, .val (.ptr 1 0) .no), (18, .val (.ptr 1 1) .no), (19, .val (.arr 4 0 n_3 1) .no), (20, .val (.int .i64 x_1) .no), (21, .val (.int .i64 x_1) .no), (22, .val (.int .i64 x_2) .no), (23, .val (.int .i64 (IntKind.wrap IntKind.i64 (x_1 + x_2))) .no), (24, .val (.vs 1 false []) .no), (25, .val (.vs 1 true []) .no)] [] (pre1 W (hdk 1 n_3 tg_4 q_5 ar_6 lf_7 dn_8 D_9 C_10 Hp.none)) 9))
 none)
 none))
 none)
 none)
 none)
 none)) := by kernel_rfl

/-- fuel 1 -/
theorem read1_13_2 (cal : Oracle) (n : Nat) (W : List AV) (x_1 : Int) (x_2 : Int) (n_3 : Nat) (tg_4 : Bool) (q_5 : List AV) (ar_6 : Bool) (lf_7 : Int) (dn_8 : Bool) (D_9 : List AV) (C_10 : List AV) (x_11 : Int) : midRun cal (n + 1) 13 (goTo [0, 5, 0, 0, 5, 0, 5, 7, 5, 0] (bodyOf 13)) 10 (mkS 26 [(0, .val (.ptr 1 0) .no), (1, .val (.int .i64 x_1) .no), (2, .val (.int .i64 x_2) .no), (8, .val (.int .i64 x_11) .no), (14, .val (.bool false) .no), (16, .val (.ptr 1 0) .no), (17, .val (.ptr 1 0) .no), (18, .val (.ptr 1 1) .no), (19, .val (.arr 4 0 n_3 1) .no), (20, .val (.int .i64 x_1) .no), (21, .val (.int .i64 x_1) .no), (22, .val (.int .i64 x_2) .no), (23, .val (.int .i64 (IntKind.wrap IntKind.i64 (x_1 + x_2))) .no), (24, .val (.arr 4 (0 + ((Int.toNat x_1) * 1)) ((Int.toNat (IntKind.wrap IntKind.i64 (x_1 + x_2))) - (Int.toNat x_1)) 1) .no), (25, .val (.arr 9 0 (List.length (List.take ((Int.toNat (IntKind.wrap IntKind.i64 (x_1 + x_2))) - (Int.toNat x_1)) (List.drop (0 + ((Int.toNat x_1) * 1)) C_10))) 1) .no)] [] (pre1 W (hdk 1 n_3 tg_4 q_5 ar_6 lf_7 dn_8 D_9 C_10 ((9, ⟨(List.flatMap AV.cells (List.take ((Int.toNat (IntKind.wrap IntKind.i64 (x_1 + x_2))) - (Int.toNat x_1)) (List.drop (0 + ((Int.toNat x_1) * 1)) C_10))), []⟩) :: Hp.none))) 10) =
 (some ⟨(.tuple [(.arr 9 0 (List.length (List.take ((Int.toNat (IntKind.wrap IntKind.i64 (x_1 + x_2))) - (Int.toNat x_1)) (List.drop (0 + ((Int.toNat x_1) * 1)) C_10))) 1), (.int .i64 (0))]), (pre1 W (hdk 1 n_3 tg_4 q_5 ar_6 lf_7 dn_8 D_9 C_10 ((9, ⟨(List.flatMap AV.cells (List.take ((Int.toNat (IntKind.wrap IntKind.i64 (x_1 + x_2))) - (Int.toNat x_1)) (List.drop (0 + ((Int.toNat x_1) * 1)) C_10))), []⟩) :: Hp.none))), 10⟩) := by kernel_rfl


/-- fuel 5 -/
theorem read2_13_0 (cal : Oracle) (n : Nat) (W : List AV) (x_1 : Int) (x_2 : Int) (n_3 : Nat) (tg_4 : Bool) (q_5 : List AV) (ar_6 : Bool) (lf_7 : Int) (dn_8 : Bool) (D_9 : List AV) (C_10 : List AV) (l_11 : List AV) : run Try.prog ann cal (n + 5) 13 (bodyOf 13) (mkS 26 [(0, .val (.ptr 1 0) .no), (1, .val (.int .i64 x_1) .no), (2, .val (.int .i64 x_2) .no)] [] (pre1 W (hdk 1 n_3 tg_4 q_5 ar_6 lf_7 dn_8 D_9 C_10 ((9, ⟨l_11, []⟩) :: Hp.none))) 10) =
 ((cal 28 [(.ptr 1 0), (.int .i64 x_1), (.int .i64 x_2)] (pre1 W (hdk 1 n_3 tg_4 q_5 ar_6 lf_7 dn_8 D_9 C_10 ((9, ⟨l_11, []⟩) :: Hp.none))) 10).bind fun r1 =>
 (midRun cal n 13 (goTo [0, 5, 0, 0] (bodyOf 13)) 4 (mkS 26 [(0, .val (.ptr 1 0) .no), (1, .val (.int .i64 x_1) .no), (2, .val (.int .i64 x_2) .no), (9, .val (.ptr 1 0) .no), (10, .val (.int .i64 x_1) .no), (11, .val (.int .i64 x_2) .no), (12, .val r1.v .no)] [] r1.H r1.nx))) := by kernel_rfl

/-- fuel 6 -/
theorem read2_13_1 (cal : Oracle) (n : Nat) (W : List AV) (x_1 : Int) (x_2 : Int) (n_3 : Nat) (tg_4 : Bool) (q_5 : List AV) (ar_6 : Bool) (lf_7 : Int) (dn_8 : Bool) (D_9 : List AV) (C_10 : List AV) (l_11 : List AV) (x_12 : Int) : midRun cal (n + 6) 13 (goTo [0, 5, 0, 0] (bodyOf 13)) 4 (mkS 26 [(0, .val (.ptr 1 0) .no), (1, .val (.int .i64 x_1) .no), (2, .val (.int .i64 x_2) .no), (9, .val (.ptr 1 0) .no), (10, .val (.int .i64 x_1) .no), (11, .val (.int .i64 x_2) .no), (12, .val (.int .i64 x_12) .no)] [] (pre1 W (hdk 1 n_3 tg_4 q_5 ar_6 lf_7 dn_8 D_9 C_10 ((9, ⟨l_11, []⟩) :: Hp.none))) 10) =
 (br (!(decide (x_12 = (0))))
 (some ⟨(.tuple [(.vs 1 true []), (.int .i64 x_12)]), (pre1 W (hdk 1 n_3 tg_4 q_5 ar_6 lf_7 dn_8 D_9 C_10 ((9, ⟨l_11, []⟩) :: Hp.none))), 10⟩)
 (br (decide ((0 : Int) ≤ (IntKind.wrap IntKind.i64 (x_1 + x_2))))
 (br (decide ((IntKind.wrap IntKind.i64 (x_1 + x_2)) ≤ ((n_3 : Nat) : Int)))
 (br (decide ((0 : Int) ≤ x_1))
 (br (decide (x_1 ≤ (((Int.toNat (IntKind.wrap IntKind.i64 (x_1 + x_2))) : Nat) : Int)))
 (br (Nat.blt (Int.toNat x_1) (Int.toNat (IntKind.wrap IntKind.i64 (x_1 + x_2))))
 (br (Nat.ble ((0 + ((Int.toNat x_1) * 1)) + ((Int.toNat (IntKind.wrap IntKind.i64 (x_1 + x_2))) - (Int.toNat x_1))) (List.length C_10))
 (br (Nat.ble ((List.length (List.take ((Int.toNat (IntKind.wrap IntKind.i64 (x_1 + x_2))) - (Int.toNat x_1)) (List.drop (0 + ((Int.toNat x_1) * 1)) C_10))) * 1) maxBytes)
 (br (Nat.ble (List.length (List.take ((Int.toNat (IntKind.wrap IntKind.i64 (x_1 + x_2))) - (Int.toNat x_1)) (List.drop (0 + ((Int.toNat x_1) * 1)) C_10))) maxBytes)
 (br (Nat.beq (List.length (List.take ((Int.toNat (IntKind.wrap IntKind.i64 (x_1 + x_2))) - (Int.toNat x_1)) (List.drop (0 + ((Int.toNat x_1) * 1)) C_10))) 0)
 (midRun cal n 13 (goTo [0, 5, 0, 0, 5, 0, 5, 7, 5, 0] (bodyOf 13)) 10 (mkS 26 [(0, .val (.ptr 1 0) .no), (1, .val (.int .i64 x_1) .no), (2, .val (.int .i64 x_2) .no), (8, .val (.int .i64 x_12) .no), (14, .val (.bool false) .no), (16, .val (.ptr 1 0) .no), (17, .val (.ptr 1 0) .no), (18, .val (.ptr 1 1) .no), (19, .val (.arr 4 0 n_3 1) .no), (20, .val (.int .i64 x_1) .no), (21, .val (.int .i64 x_1) .no), (22, .val (.int .i64 x_2) .no), (23, .val (.int .i64 (IntKind.wrap IntKind.i64 (x_1 + x_2))) .no), (24, .val (.arr 4 (0 + ((Int.toNat x_1) * 1)) ((Int.toNat (IntKind.wrap IntKind.i64 (x_1 + x_2))) - (Int.toNat x_1)) 1) .no), (25, .val (.vs 1 true []) .no)] [] (pre1 W (hdk 1 n_3 tg_4 q_5 ar_6 lf_7 dn_8 D_9 C_10 ((9, ⟨l_11, []⟩) :: Hp.none))) 10))
 (midRun cal n 13 (goTo [0, 5, 0, 0, 5, 0, 5, 7, 5, 0] (bodyOf 13)) 10 (mkS 26 [(0, .val (.ptr 1 0) .no), (1, .val (.int .i64 x_1) .no), (2, .val (.int .i64 x_2) .no), (8, .val (.int .i64 x_12) .no), (14, .val (.bool false) .no), (16, .val (.ptr 1 0) .no), (17, .val (.ptr 1 0) .no), (18, .val (.ptr 1 1) .no), (19, .val (.arr 4 0 n_3 1) .no), (20, .val (.int .i64 x_1) .no), (21, .val (.int .i64 x_1) .no), (22, .val (.int .i64 x_2) .no), (23, .val (.int .i64 (IntKind.wrap IntKind.i64 (x_1 + x_2))) .no), (24, .val (.arr 4 (0 + ((Int.toNat x_1) * 1)) ((Int.toNat (IntKind.wrap IntKind.i64 (x_1 + x_2))) - (Int.toNat x_1)) 1) .no), (25, .val (.arr 10 0 (List.length (List.take ((Int.toNat (IntKind.wrap IntKind.i64 (x_1 + x_2))) - (Int.toNat x_1)) (List.drop (0 + ((Int.toNat x_1) * 1)) C_10))) 1) .no)] [] (pre1 W (hdk 1 n_3 tg_4 q_5 ar_6 lf_7 dn_8 D_9 C_10 ((9, ⟨l_11, []⟩) :: ((10, ⟨(List.flatMap AV.cells (List.take ((Int.toNat (IntKind.wrap IntKind.i64 (x_1 + x_2))) - (Int.toNat x_1)) (List.drop (0 + ((Int.toNat x_1) * 1)) C_10))), []⟩) :: Hp.none)))) 11)))
 none)
 none)
 none)
 (br (Nat.ble 0 maxBytes)
 (br (Nat.ble 0 maxBytes)
 (midRun cal n 13 (goTo [0, 5, 0, 0, 5, 0, 5, 7, 5, 0] (bodyOf 13)) 10 (mkS 26 [(0, .val (.ptr 1 0) .no), (1, .val (.int .i64 x_1) .no), (2, .val (.int .i64 x_2) .no), (8, .val (.int .i64 x_12) .no), (14, .val (.bool false) .no), (16, .val (.ptr 1 0) .no), (17, .val (.ptr 1 0) .no), (18, .val (.ptr 1 1) .no), (19, .val (.arr 4 0 n_3 1) .no), (20, .val (.int .i64 x_1) .no), (21, .val (.int .i64 x_1) .no), (22, .val (.int .i64 x_2) .no), (23, .val (.int .i64 (IntKind.wrap IntKind.i64 (x_1 + x_2))) .no), (24, .val (.vs 1 false []) .no), (25, .val (.vs 1 true []) .no)] [] (pre1 W (hdk 1 n_3 tg_4 q_5 ar_6 lf_7 dn_8 D_9 C_10 ((9, ⟨l_11, []⟩) :: Hp.none))) 10))
 none)
 none))
 none)
 none)
 none)
 none)) := by kernel_rfl

/-- fuel 1 -/
theorem read2_13_2 (cal : Oracle) (n : Nat) (W : List AV) (x_1 : Int) (x_2 : Int) (n_3 : Nat) (tg_4 : Bool) (q_5 : List AV) (ar_6 : Bool) (lf_7 : Int) (dn_8 : Bool) (D_9 : List AV) (C_10 : List AV) (l_11 : List AV) (x_12 : Int) : midRun cal (n + 1) 13 (goTo [0, 5, 0, 0, 5, 0, 5, 7, 5, 0] (bodyOf 13)) 10 (mkS 26 [(0, .val (.ptr 1 0) .no), (1, .val (.int .i64 x_1) .no), (2, .val (.int .i64 x_2) .no), (8, .val (.int .i64 x_12) .no), (14, .val (.bool false) .no), (16, .val (.ptr 1 0) .no), (17, .val (.ptr 1 0) .no), (18, .val (.ptr 1 1) .no), (19, .val (.arr 4 0 n_3 1) .no), (20, .val (.int .i64 x_1) .no), (21, .val (.int .i64 x_1) .no), (22, .val (.int .i64 x_2) .no), (23, .val (.int .i64 (IntKind.wrap IntKind.i64 (x_1 + x_2))) .no), (24, .val (.arr 4 (0 + ((Int.toNat x_1) * 1)) ((Int.toNat (IntKind.wrap IntKind.i64 (x_1 + x_2))) - (Int.toNat x_1)) 1) .no), (25, .val (.arr 10 0 (List.length (List.take ((Int.toNat (IntKind.wrap IntKind.i64 (x_1 + x_2))) - (Int.toNat x_1)) (List.drop (0 + ((Int.toNat x_1) * 1)) C_10))) 1) .no)] [] (pre1 W (hdk 1 n_3 tg_4 q_5 ar_6 lf_7 dn_8 D_9 C_10 ((9, ⟨l_11, []⟩) :: ((10, ⟨(List.flatMap AV.cells (List.take ((Int.toNat (IntKind.wrap IntKind.i64 (x_1 + x_2))) - (Int.toNat x_1)) (List.drop (0 + ((Int.toNat x_1) * 1)) C_10))), []⟩) :: Hp.none)))) 11) =
 (some ⟨(.tuple [(.arr 10 0 (List.length (List.take ((Int.toNat (IntKind.wrap IntKind.i64 (x_1 + x_2))) - (Int.toNat x_1)) (List.drop (0 + ((Int.toNat x_1) * 1)) C_10))) 1), (.int .i64 (0))]), (pre1 W (hdk 1 n_3 tg_4 q_5 ar_6 lf_7 dn_8 D_9 C_10 ((9, ⟨l_11, []⟩) :: ((10, ⟨(List.flatMap AV.cells (List.take ((Int.toNat (IntKind.wrap IntKind.i64 (x_1 + x_2))) - (Int.toNat x_1)) (List.drop (0 + ((Int.toNat x_1) * 1)) C_10))), []⟩) :: Hp.none)))), 11⟩) := by kernel_rfl

end Go.Proofs.Ytjipknfohmgjaaa
