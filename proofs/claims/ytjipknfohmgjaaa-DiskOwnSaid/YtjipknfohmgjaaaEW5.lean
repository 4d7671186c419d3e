/- Stage laws, printed by gen_disk.py. -/
import Derived.Test.YtjipknfohmgjaaaEHp
namespace Go.Proofs.Ytjipknfohmgjaaa
open Go Go.Vai
attribute [local irreducible] midRun goTo bodyOf mkS

/-- fuel 4 -/
theorem w5_0 (cal : Oracle) (n : Nat)  {l_1 : List AV} {tg_2 : Bool} {x_3 : Int} {x_4 : Int} : run Try.prog ann cal (n + 4) 5 (bodyOf 5) (mkS 85 [(0, .val (.vs 1 tg_2 l_1) .no), (1, .val (.int .i64 x_3) .no), (2, .val (.int .u8 x_4) .no)] [] Hp.none 0) =
 (br (pureL [(.vs 1 tg_2 l_1), (.int .i64 (60))]) ((cal 17 [(.vs 1 tg_2 l_1), (.int .i64 (60))] Hp.none 0).bind fun r1 => br (AV.pure r1.v)
 (midRun cal n 5 (goTo [0, 5, 0] (bodyOf 5)) 3 (mkS 85 [(0, .val (.vs 1 tg_2 l_1) .no), (1, .val (.int .i64 x_3) .no), (2, .val (.int .u8 x_4) .no), (13, .val (.vs 1 true []) .no), (14, .val (.vs 1 tg_2 l_1) .no), (15, .val r1.v .no)] [] Hp.none 0)) none) none) := by kernel_rfl

/-- fuel 2 -/
theorem w5_1 (cal : Oracle) (n : Nat)  {l_1 : List AV} {tg_2 : Bool} {x_3 : Int} {x_4 : Int} {l_5 : List AV} {tg_6 : Bool} : midRun cal (n + 2) 5 (goTo [0, 5, 0] (bodyOf 5)) 3 (mkS 85 [(0, .val (.vs 1 tg_2 l_1) .no), (1, .val (.int .i64 x_3) .no), (2, .val (.int .u8 x_4) .no), (13, .val (.vs 1 true []) .no), (14, .val (.vs 1 tg_2 l_1) .no), (15, .val (.vs 1 tg_6 l_5) .no)] [] Hp.none 0) =
 (br (Nat.ble ((0 + (List.length l_5)) * 1) maxBytes)
 (br (Nat.ble (0 + (List.length l_5)) maxBytes)
 (br (Nat.ble (((List.length ([] ++ l_5)) + 1) * 1) maxBytes)
 (br (Nat.ble ((List.length ([] ++ l_5)) + 1) maxBytes)
 (br (flatL (([] ++ l_5) ++ [(.int .u8 (7))]) && Nat.blt (List.length ([] ++ l_5)) (List.length (([] ++ l_5) ++ [(.int .u8 (7))])))
 ((cal 11 [(.int .i64 (4))] ((0, ⟨(([] ++ l_5) ++ [(.int .u8 (7))]), []⟩) :: Hp.none) 1).bind fun r2 =>
 (midRun cal n 5 (goTo [0, 5, 0, 5, 0] (bodyOf 5)) 1 (mkS 85 [(0, .val (.arr 0 0 (List.length (([] ++ l_5) ++ [(.int .u8 (7))])) 1) .no), (1, .val (.int .i64 x_3) .no), (2, .val (.int .u8 x_4) .no), (19, .val r2.v .no)] [] r2.H r2.nx)))
 none)
 none)
 none)
 none)
 none) := by kernel_rfl

/-- fuel 2 -/
theorem w5_2 (cal : Oracle) (n : Nat)  {x_3 : Int} {x_4 : Int} {n_7 : Nat} {tg_8 : Bool} {q_9 : List AV} {ar_10 : Bool} {lf_11 : Int} {dn_12 : Bool} {D_13 : List AV} {C_14 : List AV} {n_15 : Nat} {l_16 : List AV} : midRun cal (n + 2) 5 (goTo [0, 5, 0, 5, 0] (bodyOf 5)) 1 (mkS 85 [(0, .val (.arr 0 0 n_15 1) .no), (1, .val (.int .i64 x_3) .no), (2, .val (.int .u8 x_4) .no), (19, .val (.ptr 1 0) .no)] [] ((0, ⟨l_16, []⟩) :: (hdk 1 n_7 tg_8 q_9 ar_10 lf_11 dn_12 D_13 C_14 Hp.none)) 9) =
 (br (pureL [(.int .i64 x_3), (.int .i64 (60))]) ((cal 18 [(.int .i64 x_3), (.int .i64 (60))] Hp.none 0).bind fun r3 => br (AV.pure r3.v)
 (midRun cal n 5 (goTo [0, 5, 0, 5, 0, 5, 0] (bodyOf 5)) 2 (mkS 85 [(0, .val (.arr 0 0 n_15 1) .no), (1, .val (.int .i64 x_3) .no), (2, .val (.int .u8 x_4) .no), (7, .val (.ptr 1 0) .no), (20, .val (.int .i64 x_3) .no), (21, .val r3.v .no)] [] ((0, ⟨l_16, []⟩) :: (hdk 1 n_7 tg_8 q_9 ar_10 lf_11 dn_12 D_13 C_14 Hp.none)) 9)) none) none) := by kernel_rfl

/-- fuel 3 -/
theorem w5_3 (cal : Oracle) (n : Nat)  {x_3 : Int} {x_4 : Int} {n_7 : Nat} {tg_8 : Bool} {q_9 : List AV} {ar_10 : Bool} {lf_11 : Int} {dn_12 : Bool} {D_13 : List AV} {C_14 : List AV} {n_15 : Nat} {l_16 : List AV} {x_17 : Int} : midRun cal (n + 3) 5 (goTo [0, 5, 0, 5, 0, 5, 0] (bodyOf 5)) 2 (mkS 85 [(0, .val (.arr 0 0 n_15 1) .no), (1, .val (.int .i64 x_3) .no), (2, .val (.int .u8 x_4) .no), (7, .val (.ptr 1 0) .no), (20, .val (.int .i64 x_3) .no), (21, .val (.int .i64 x_17) .no)] [] ((0, ⟨l_16, []⟩) :: (hdk 1 n_7 tg_8 q_9 ar_10 lf_11 dn_12 D_13 C_14 Hp.none)) 9) =
 ((cal 19 [(.ptr 1 0), (.int .i64 x_17), (.arr 0 0 n_15 1)] ((0, ⟨l_16, []⟩) :: (hdk 1 n_7 tg_8 q_9 ar_10 lf_11 dn_12 D_13 C_14 Hp.none)) 9).bind fun r4 =>
 (midRun cal n 5 (goTo [0, 5, 0, 5, 0, 5, 0, 5, 0, 0] (bodyOf 5)) 7 (mkS 85 [(0, .val (.arr 0 0 n_15 1) .no), (1, .val (.int .i64 x_17) .no), (2, .val (.int .u8 x_4) .no), (7, .val (.ptr 1 0) .no), (22, .val (.ptr 1 0) .no), (23, .val (.bool false) .no), (24, .val (.bool false) .no), (25, .val (.ptr 1 0) .no), (26, .val (.int .i64 x_17) .no), (27, .val (.arr 0 0 n_15 1) .no), (28, .val r4.v .no)] [] r4.H r4.nx))) := by kernel_rfl

/-- fuel 6 -/
theorem w5_4 (cal : Oracle) (n : Nat)  {x_4 : Int} {n_7 : Nat} {n_15 : Nat} {l_16 : List AV} {x_17 : Int} {x_18 : Int} {tg_20 : Bool} {q_21 : List AV} {ar_22 : Bool} {lf_23 : Int} {dn_24 : Bool} {D_25 : List AV} {C_26 : List AV} : midRun cal (n + 6) 5 (goTo [0, 5, 0, 5, 0, 5, 0, 5, 0, 0] (bodyOf 5)) 7 (mkS 85 [(0, .val (.arr 0 0 n_15 1) .no), (1, .val (.int .i64 x_17) .no), (2, .val (.int .u8 x_4) .no), (7, .val (.ptr 1 0) .no), (22, .val (.ptr 1 0) .no), (23, .val (.bool false) .no), (24, .val (.bool false) .no), (25, .val (.ptr 1 0) .no), (26, .val (.int .i64 x_17) .no), (27, .val (.arr 0 0 n_15 1) .no), (28, .val (.int .i64 x_18) .no)] [] ((0, ⟨l_16, []⟩) :: (hdk 1 n_7 tg_20 q_21 ar_22 lf_23 dn_24 D_25 C_26 Hp.none)) 9) =
 (br (!(decide (x_18 = (0))))
 (some ⟨(.bool false), ((0, ⟨l_16, []⟩) :: (hdk 1 n_7 tg_20 q_21 ar_22 lf_23 dn_24 D_25 C_26 Hp.none)), 9⟩)
 (br (Nat.ble (0 + n_15) (List.length l_16))
 ((bytesOf (List.take n_15 (List.drop 0 l_16))).bind fun s5 =>
 (br (decide ((0) < ((n_15 : Nat) : Int)))
 ((nth l_16 0).bind fun c6 =>
 (midRun cal n 5 (goTo [0, 5, 0, 5, 0, 5, 0, 5, 0, 0, 5, 7, 5, 0, 5, 0] (bodyOf 5)) 4 (mkS 85 [(0, .val (.arr 0 0 n_15 1) .no), (1, .val (.int .i64 x_17) .no), (2, .val (.int .u8 x_4) .no), (7, .val (.ptr 1 0) .no), (8, .val (.str s5) .no), (33, .val (.arr 0 0 n_15 1) .no), (34, .val (.arr 0 0 n_15 1) .no), (35, .val (.ptr 0 0) .no), (36, .val c6 (.lH 0 0))] [] ((0, ⟨l_16, []⟩) :: (hdk 1 n_7 tg_20 q_21 ar_22 lf_23 dn_24 D_25 C_26 Hp.none)) 9)))
 none))
 none)) := by kernel_rfl

/-- fuel 2 -/
theorem w5_5 (cal : Oracle) (n : Nat)  {x_4 : Int} {n_7 : Nat} {n_15 : Nat} {l_16 : List AV} {x_17 : Int} {tg_20 : Bool} {q_21 : List AV} {ar_22 : Bool} {lf_23 : Int} {dn_24 : Bool} {D_25 : List AV} {C_26 : List AV} {x_27 : Int} {s_28 : List UInt8} : midRun cal (n + 2) 5 (goTo [0, 5, 0, 5, 0, 5, 0, 5, 0, 0, 5, 7, 5, 0, 5, 0] (bodyOf 5)) 4 (mkS 85 [(0, .val (.arr 0 0 n_15 1) .no), (1, .val (.int .i64 x_17) .no), (2, .val (.int .u8 x_4) .no), (7, .val (.ptr 1 0) .no), (8, .val (.str s_28) .no), (33, .val (.arr 0 0 n_15 1) .no), (34, .val (.arr 0 0 n_15 1) .no), (35, .val (.ptr 0 0) .no), (36, .val (.int .u8 x_27) (.lH 0 0))] [] ((0, ⟨l_16, []⟩) :: (hdk 1 n_7 tg_20 q_21 ar_22 lf_23 dn_24 D_25 C_26 Hp.none)) 9) =
 (br (decide ((0) < ((n_15 : Nat) : Int)))
 (br (Nat.ble 1 (List.length l_16))
 ((cal 13 [(.ptr 1 0), (.int .i64 x_17), (.int .i64 (((List.length s_28) : Nat) : Int))] ((0, ⟨(patch l_16 0 [(.int .u8 (IntKind.wrap IntKind.u8 (x_27 + (1))))]), []⟩) :: (hdk 1 n_7 tg_20 q_21 ar_22 lf_23 dn_24 D_25 C_26 Hp.none)) 9).bind fun r7 =>
 (midRun cal n 5 (goTo [0, 5, 0, 5, 0, 5, 0, 5, 0, 0, 5, 7, 5, 0, 5, 0, 5, 0] (bodyOf 5)) 5 (mkS 85 [(1, .val (.int .i64 x_17) .no), (2, .val (.int .u8 x_4) .no), (7, .val (.ptr 1 0) .no), (8, .val (.str s_28) .no), (40, .val (.ptr 1 0) .no), (41, .val (.int .i64 x_17) .no), (42, .val (.str s_28) .no), (43, .val (.int .i64 (((List.length s_28) : Nat) : Int)) .no), (44, .val r7.v .no)] [] r7.H r7.nx)))
 none)
 none) := by kernel_rfl

/-- fuel 7 -/
theorem w5_6 (cal : Oracle) (n : Nat)  {x_4 : Int} {n_7 : Nat} {x_17 : Int} {tg_20 : Bool} {q_21 : List AV} {ar_22 : Bool} {lf_23 : Int} {dn_24 : Bool} {D_25 : List AV} {C_26 : List AV} {s_28 : List UInt8} {n_29 : Nat} {x_30 : Int} {l_31 : List AV} {x_32 : Int} {l_33 : List AV} : midRun cal (n + 7) 5 (goTo [0, 5, 0, 5, 0, 5, 0, 5, 0, 0, 5, 7, 5, 0, 5, 0, 5, 0] (bodyOf 5)) 5 (mkS 85 [(1, .val (.int .i64 x_17) .no), (2, .val (.int .u8 x_4) .no), (7, .val (.ptr 1 0) .no), (8, .val (.str s_28) .no), (40, .val (.ptr 1 0) .no), (41, .val (.int .i64 x_17) .no), (42, .val (.str s_28) .no), (43, .val (.int .i64 x_32) .no), (44, .val (.tuple [(.arr 9 0 n_29 1), (.int .i64 x_30)]) .no)] [] ((0, ⟨l_33, []⟩) :: (hdk 1 n_7 tg_20 q_21 ar_22 lf_23 dn_24 D_25 C_26 ((9, ⟨l_31, []⟩) :: Hp.none))) 10) =
 (br (!(decide (x_30 = (0))))
 (some ⟨(.bool false), ((0, ⟨l_33, []⟩) :: (hdk 1 n_7 tg_20 q_21 ar_22 lf_23 dn_24 D_25 C_26 ((9, ⟨l_31, []⟩) :: Hp.none))), 10⟩)
 (br (Nat.ble (0 + n_29) (List.length l_31))
 ((bytesOf (List.take n_29 (List.drop 0 l_31))).bind fun s8 =>
 (br (!(eqS s8 s_28))
 (some ⟨(.bool false), ((0, ⟨l_33, []⟩) :: (hdk 1 n_7 tg_20 q_21 ar_22 lf_23 dn_24 D_25 C_26 ((9, ⟨l_31, []⟩) :: Hp.none))), 10⟩)
 (br (decide ((0) < ((n_29 : Nat) : Int)))
 ((nth l_31 0).bind fun c9 =>
 (midRun cal n 5 (goTo [0, 5, 0, 5, 0, 5, 0, 5, 0, 0, 5, 7, 5, 0, 5, 0, 5, 0, 5, 0, 0, 5, 7, 5, 0] (bodyOf 5)) 4 (mkS 85 [(1, .val (.int .i64 x_17) .no), (2, .val (.int .u8 x_4) .no), (7, .val (.ptr 1 0) .no), (8, .val (.str s_28) .no), (9, .val (.arr 9 0 n_29 1) .no), (54, .val (.bool false) .no), (55, .val (.arr 9 0 n_29 1) .no), (56, .val (.arr 9 0 n_29 1) .no), (57, .val (.ptr 9 0) .no), (58, .val c9 (.lH 9 0))] [] ((0, ⟨l_33, []⟩) :: (hdk 1 n_7 tg_20 q_21 ar_22 lf_23 dn_24 D_25 C_26 ((9, ⟨l_31, []⟩) :: Hp.none))) 10)))
 none)))
 none)) := by kernel_rfl

/-- fuel 3 -/
theorem w5_7 (cal : Oracle) (n : Nat)  {x_4 : Int} {n_7 : Nat} {x_17 : Int} {tg_20 : Bool} {q_21 : List AV} {ar_22 : Bool} {lf_23 : Int} {dn_24 : Bool} {D_25 : List AV} {C_26 : List AV} {s_28 : List UInt8} {n_29 : Nat} {l_31 : List AV} {l_33 : List AV} {x_34 : Int} : midRun cal (n + 3) 5 (goTo [0, 5, 0, 5, 0, 5, 0, 5, 0, 0, 5, 7, 5, 0, 5, 0, 5, 0, 5, 0, 0, 5, 7, 5, 0] (bodyOf 5)) 4 (mkS 85 [(1, .val (.int .i64 x_17) .no), (2, .val (.int .u8 x_4) .no), (7, .val (.ptr 1 0) .no), (8, .val (.str s_28) .no), (9, .val (.arr 9 0 n_29 1) .no), (54, .val (.bool false) .no), (55, .val (.arr 9 0 n_29 1) .no), (56, .val (.arr 9 0 n_29 1) .no), (57, .val (.ptr 9 0) .no), (58, .val (.int .u8 x_34) (.lH 9 0))] [] ((0, ⟨l_33, []⟩) :: (hdk 1 n_7 tg_20 q_21 ar_22 lf_23 dn_24 D_25 C_26 ((9, ⟨l_31, []⟩) :: Hp.none))) 10) =
 (br (decide ((0) < ((n_29 : Nat) : Int)))
 (br (Nat.ble 1 (List.length l_31))
 ((cal 20 [(.ptr 1 0)] ((0, ⟨l_33, []⟩) :: (hdk 1 n_7 tg_20 q_21 ar_22 lf_23 dn_24 D_25 C_26 ((9, ⟨(patch l_31 0 [(.int .u8 (IntKind.wrap IntKind.u8 ((IntKind.wrap IntKind.u8 (x_34 + x_4)) + (1))))]), []⟩) :: Hp.none))) 10).bind fun r10 =>
 (midRun cal n 5 (goTo [0, 5, 0, 5, 0, 5, 0, 5, 0, 0, 5, 7, 5, 0, 5, 0, 5, 0, 5, 0, 0, 5, 7, 5, 0, 5, 0, 0] (bodyOf 5)) 2 (mkS 85 [(1, .val (.int .i64 x_17) .no), (7, .val (.ptr 1 0) .no), (8, .val (.str s_28) .no), (63, .val (.ptr 1 0) .no), (64, .val r10.v .no)] [] r10.H r10.nx)))
 none)
 none) := by kernel_rfl

/-- fuel 4 -/
theorem w5_8 (cal : Oracle) (n : Nat)  {n_7 : Nat} {x_17 : Int} {s_28 : List UInt8} {l_33 : List AV} {x_35 : Int} {tg_37 : Bool} {q_38 : List AV} {ar_39 : Bool} {lf_40 : Int} {dn_41 : Bool} {D_42 : List AV} {C_43 : List AV} {l_44 : List AV} : midRun cal (n + 4) 5 (goTo [0, 5, 0, 5, 0, 5, 0, 5, 0, 0, 5, 7, 5, 0, 5, 0, 5, 0, 5, 0, 0, 5, 7, 5, 0, 5, 0, 0] (bodyOf 5)) 2 (mkS 85 [(1, .val (.int .i64 x_17) .no), (7, .val (.ptr 1 0) .no), (8, .val (.str s_28) .no), (63, .val (.ptr 1 0) .no), (64, .val (.int .i64 x_35) .no)] [] ((0, ⟨l_33, []⟩) :: (hdk 1 n_7 tg_37 q_38 ar_39 lf_40 dn_41 D_42 C_43 ((9, ⟨l_44, []⟩) :: Hp.none))) 10) =
 (br (!(decide (x_35 = (0))))
 (some ⟨(.bool false), ((0, ⟨l_33, []⟩) :: (hdk 1 n_7 tg_37 q_38 ar_39 lf_40 dn_41 D_42 C_43 ((9, ⟨l_44, []⟩) :: Hp.none))), 10⟩)
 ((cal 13 [(.ptr 1 0), (.int .i64 x_17), (.int .i64 (((List.length s_28) : Nat) : Int))] ((0, ⟨l_33, []⟩) :: (hdk 1 n_7 tg_37 q_38 ar_39 lf_40 dn_41 D_42 C_43 ((9, ⟨l_44, []⟩) :: Hp.none))) 10).bind fun r11 =>
 (midRun cal n 5 (goTo [0, 5, 0, 5, 0, 5, 0, 5, 0, 0, 5, 7, 5, 0, 5, 0, 5, 0, 5, 0, 0, 5, 7, 5, 0, 5, 0, 0, 5, 7, 5, 0] (bodyOf 5)) 5 (mkS 85 [(1, .val (.int .i64 x_17) .no), (7, .val (.ptr 1 0) .no), (8, .val (.str s_28) .no), (65, .val (.bool false) .no), (67, .val (.ptr 1 0) .no), (68, .val (.int .i64 x_17) .no), (69, .val (.str s_28) .no), (70, .val (.int .i64 (((List.length s_28) : Nat) : Int)) .no), (71, .val r11.v .no)] [] r11.H r11.nx)))) := by kernel_rfl

/-- fuel 3 -/
theorem w5_9 (cal : Oracle) (n : Nat)  {n_7 : Nat} {x_17 : Int} {s_28 : List UInt8} {l_33 : List AV} {tg_37 : Bool} {q_38 : List AV} {ar_39 : Bool} {lf_40 : Int} {dn_41 : Bool} {D_42 : List AV} {C_43 : List AV} {l_44 : List AV} {n_45 : Nat} {x_46 : Int} {l_47 : List AV} {x_48 : Int} : midRun cal (n + 3) 5 (goTo [0, 5, 0, 5, 0, 5, 0, 5, 0, 0, 5, 7, 5, 0, 5, 0, 5, 0, 5, 0, 0, 5, 7, 5, 0, 5, 0, 0, 5, 7, 5, 0] (bodyOf 5)) 5 (mkS 85 [(1, .val (.int .i64 x_17) .no), (7, .val (.ptr 1 0) .no), (8, .val (.str s_28) .no), (65, .val (.bool false) .no), (67, .val (.ptr 1 0) .no), (68, .val (.int .i64 x_17) .no), (69, .val (.str s_28) .no), (70, .val (.int .i64 x_48) .no), (71, .val (.tuple [(.arr 10 0 n_45 1), (.int .i64 x_46)]) .no)] [] ((0, ⟨l_33, []⟩) :: (hdk 1 n_7 tg_37 q_38 ar_39 lf_40 dn_41 D_42 C_43 ((9, ⟨l_44, []⟩) :: ((10, ⟨l_47, []⟩) :: Hp.none)))) 11) =
 (br (decide (x_46 = (0)))
 (br (Nat.ble (0 + n_45) (List.length l_47))
 ((bytesOf (List.take n_45 (List.drop 0 l_47))).bind fun s12 =>
 (br (eqS s12 s_28)
 (br (pureL []) ((cal 16 [] Hp.none 0).bind fun r13 => br (AV.pure r13.v)
 (midRun cal (n + 1) 5 (goTo [0, 5, 0, 5, 0, 5, 0, 5, 0, 0, 5, 7, 5, 0, 5, 0, 5, 0, 5, 0, 0, 5, 7, 5, 0, 5, 0, 0, 5, 7, 5, 0, 5, 0] (bodyOf 5)) 10 (mkS 85 [(8, .val (.str s_28) .no), (11, .val (.arr 10 0 n_45 1) .no), (12, .val (.int .i64 x_46) .no), (74, .val (.int .i64 x_46) .no), (75, .val (.bool (decide (x_46 = (0)))) .no), (76, .val (.bool true) .no), (77, .val (.arr 10 0 n_45 1) .no), (78, .val (.str s12) .no), (79, .val (.str s_28) .no), (80, .val (.bool (eqS s12 s_28)) .no), (81, .val (.bool (eqS s12 s_28)) .no), (82, .val (.bool true) .no), (83, .val r13.v .no)] [] ((0, ⟨l_33, []⟩) :: (hdk 1 n_7 tg_37 q_38 ar_39 lf_40 dn_41 D_42 C_43 ((9, ⟨l_44, []⟩) :: ((10, ⟨l_47, []⟩) :: Hp.none)))) 11)) none) none)
 (some ⟨(.bool false), ((0, ⟨l_33, []⟩) :: (hdk 1 n_7 tg_37 q_38 ar_39 lf_40 dn_41 D_42 C_43 ((9, ⟨l_44, []⟩) :: ((10, ⟨l_47, []⟩) :: Hp.none)))), 11⟩)))
 none)
 (some ⟨(.bool false), ((0, ⟨l_33, []⟩) :: (hdk 1 n_7 tg_37 q_38 ar_39 lf_40 dn_41 D_42 C_43 ((9, ⟨l_44, []⟩) :: ((10, ⟨l_47, []⟩) :: Hp.none)))), 11⟩)) := by kernel_rfl

/-- fuel 1 -/
theorem w5_10 (cal : Oracle) (n : Nat)  {n_7 : Nat} {s_28 : List UInt8} {l_33 : List AV} {tg_37 : Bool} {q_38 : List AV} {ar_39 : Bool} {lf_40 : Int} {dn_41 : Bool} {D_42 : List AV} {C_43 : List AV} {l_44 : List AV} {n_45 : Nat} {x_46 : Int} {l_47 : List AV} {c_49 : Bool} {s_50 : List UInt8} {c_51 : Bool} : midRun cal (n + 1) 5 (goTo [0, 5, 0, 5, 0, 5, 0, 5, 0, 0, 5, 7, 5, 0, 5, 0, 5, 0, 5, 0, 0, 5, 7, 5, 0, 5, 0, 0, 5, 7, 5, 0, 5, 0] (bodyOf 5)) 10 (mkS 85 [(8, .val (.str s_28) .no), (11, .val (.arr 10 0 n_45 1) .no), (12, .val (.int .i64 x_46) .no), (74, .val (.int .i64 x_46) .no), (75, .val (.bool c_49) .no), (76, .val (.bool true) .no), (77, .val (.arr 10 0 n_45 1) .no), (78, .val (.str s_50) .no), (79, .val (.str s_28) .no), (80, .val (.bool c_51) .no), (81, .val (.bool c_51) .no), (82, .val (.bool true) .no), (83, .val (.bool true) .no)] [] ((0, ⟨l_33, []⟩) :: (hdk 1 n_7 tg_37 q_38 ar_39 lf_40 dn_41 D_42 C_43 ((9, ⟨l_44, []⟩) :: ((10, ⟨l_47, []⟩) :: Hp.none)))) 11) =
 (some ⟨(.bool true), ((0, ⟨l_33, []⟩) :: (hdk 1 n_7 tg_37 q_38 ar_39 lf_40 dn_41 D_42 C_43 ((9, ⟨l_44, []⟩) :: ((10, ⟨l_47, []⟩) :: Hp.none)))), 11⟩) := by kernel_rfl

end Go.Proofs.Ytjipknfohmgjaaa
