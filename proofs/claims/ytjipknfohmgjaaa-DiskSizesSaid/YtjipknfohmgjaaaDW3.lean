/- Stage laws, printed by gen_disk.py. -/
import Derived.Test.YtjipknfohmgjaaaDHp
namespace Go.Proofs.Ytjipknfohmgjaaa
open Go Go.Vai
attribute [local irreducible] midRun goTo bodyOf mkS

/-- fuel 4 -/
theorem w3_0 (cal : Oracle) (n : Nat)  {x_1 : Int} : run Try.prog ann cal (n + 4) 3 (bodyOf 3) (mkS 63 [(0, .val (.int .i64 x_1) .no)] [] Hp.none 0) =
 ((cal 11 [(.int .i64 x_1)] Hp.none 0).bind fun r1 =>
 (midRun cal n 3 (goTo [0, 5, 0] (bodyOf 3)) 2 (mkS 63 [(0, .val (.int .i64 x_1) .no), (9, .val (.int .i64 x_1) .no), (10, .val r1.v .no)] [] r1.H r1.nx))) := by kernel_rfl

/-- fuel 5 -/
theorem w3_1 (cal : Oracle) (n : Nat)  {x_1 : Int} {n_2 : Nat} {tg_3 : Bool} {q_4 : List AV} {ar_5 : Bool} {lf_6 : Int} {dn_7 : Bool} {D_8 : List AV} {C_9 : List AV} : midRun cal (n + 5) 3 (goTo [0, 5, 0] (bodyOf 3)) 2 (mkS 63 [(0, .val (.int .i64 x_1) .no), (9, .val (.int .i64 x_1) .no), (10, .val (.ptr 0 0) .no)] [] (hdk 0 n_2 tg_3 q_4 ar_5 lf_6 dn_7 D_8 C_9 Hp.none) 8) =
 ((cal 12 [(.ptr 0 0)] (hdk 0 n_2 tg_3 q_4 ar_5 lf_6 dn_7 D_8 C_9 Hp.none) 8).bind fun r2 =>
 (midRun cal n 3 (goTo [0, 5, 0, 5, 0, 5, 0, 0] (bodyOf 3)) 5 (mkS 63 [(3, .val (.ptr 0 0) .no), (4, .val (.int .i64 (if (1) < (if x_1 < (2048) then x_1 else (2048)) then (if x_1 < (2048) then x_1 else (2048)) else (1))) .no), (14, .val (.ptr 0 0) .no), (15, .val (.bool false) .no), (16, .val (.bool false) .no), (17, .val (.ptr 0 0) .no), (18, .val r2.v .no)] [] r2.H r2.nx))) := by kernel_rfl

/-- fuel 4 -/
theorem w3_2 (cal : Oracle) (n : Nat)  {n_2 : Nat} {tg_3 : Bool} {q_4 : List AV} {ar_5 : Bool} {lf_6 : Int} {dn_7 : Bool} {D_8 : List AV} {C_9 : List AV} {x_10 : Int} {x_11 : Int} : midRun cal (n + 4) 3 (goTo [0, 5, 0, 5, 0, 5, 0, 0] (bodyOf 3)) 5 (mkS 63 [(3, .val (.ptr 0 0) .no), (4, .val (.int .i64 x_11) .no), (14, .val (.ptr 0 0) .no), (15, .val (.bool false) .no), (16, .val (.bool false) .no), (17, .val (.ptr 0 0) .no), (18, .val (.int .i64 x_10) .no)] [] (hdk 0 n_2 tg_3 q_4 ar_5 lf_6 dn_7 D_8 C_9 Hp.none) 8) =
 (br (!(decide (x_10 = x_11)))
 (some ⟨(.bool false), (hdk 0 n_2 tg_3 q_4 ar_5 lf_6 dn_7 D_8 C_9 Hp.none), 8⟩)
 ((cal 13 [(.ptr 0 0), (.int .i64 (IntKind.wrap IntKind.i64 ((IntKind.wrap IntKind.i64 (x_11 * (32))) - (32)))), (.int .i64 (32))] (hdk 0 n_2 tg_3 q_4 ar_5 lf_6 dn_7 D_8 C_9 Hp.none) 8).bind fun r3 =>
 (midRun cal n 3 (goTo [0, 5, 0, 5, 0, 5, 0, 0, 5, 7, 5, 0] (bodyOf 3)) 5 (mkS 63 [(3, .val (.ptr 0 0) .no), (4, .val (.int .i64 x_11) .no), (21, .val (.bool false) .no), (23, .val (.ptr 0 0) .no), (24, .val (.int .i64 x_11) .no), (25, .val (.int .i64 (IntKind.wrap IntKind.i64 (x_11 * (32)))) .no), (26, .val (.int .i64 (IntKind.wrap IntKind.i64 ((IntKind.wrap IntKind.i64 (x_11 * (32))) - (32)))) .no), (27, .val r3.v .no)] [] r3.H r3.nx)))) := by kernel_rfl

/-- fuel 2 -/
theorem w3_3 (cal : Oracle) (n : Nat)  {n_2 : Nat} {tg_3 : Bool} {q_4 : List AV} {ar_5 : Bool} {lf_6 : Int} {dn_7 : Bool} {D_8 : List AV} {C_9 : List AV} {x_11 : Int} {l_12 : List AV} {tg_13 : Bool} {x_14 : Int} {x_15 : Int} {x_16 : Int} : midRun cal (n + 2) 3 (goTo [0, 5, 0, 5, 0, 5, 0, 0, 5, 7, 5, 0] (bodyOf 3)) 5 (mkS 63 [(3, .val (.ptr 0 0) .no), (4, .val (.int .i64 x_11) .no), (21, .val (.bool false) .no), (23, .val (.ptr 0 0) .no), (24, .val (.int .i64 x_11) .no), (25, .val (.int .i64 x_15) .no), (26, .val (.int .i64 x_16) .no), (27, .val (.tuple [(.vs 1 tg_13 l_12), (.int .i64 x_14)]) .no)] [] (hdk 0 n_2 tg_3 q_4 ar_5 lf_6 dn_7 D_8 C_9 Hp.none) 8) =
 ((cal 13 [(.ptr 0 0), (.int .i64 (IntKind.wrap IntKind.i64 (x_11 * (32)))), (.int .i64 (1))] (hdk 0 n_2 tg_3 q_4 ar_5 lf_6 dn_7 D_8 C_9 Hp.none) 8).bind fun r4 =>
 (midRun cal n 3 (goTo [0, 5, 0, 5, 0, 5, 0, 0, 5, 7, 5, 0, 5, 0] (bodyOf 3)) 4 (mkS 63 [(3, .val (.ptr 0 0) .no), (4, .val (.int .i64 x_11) .no), (5, .val (.vs 1 tg_13 l_12) .no), (6, .val (.int .i64 x_14) .no), (31, .val (.ptr 0 0) .no), (32, .val (.int .i64 x_11) .no), (33, .val (.int .i64 (IntKind.wrap IntKind.i64 (x_11 * (32)))) .no), (34, .val r4.v .no)] [] r4.H r4.nx))) := by kernel_rfl

/-- fuel 3 -/
theorem w3_4 (cal : Oracle) (n : Nat)  {n_2 : Nat} {tg_3 : Bool} {q_4 : List AV} {ar_5 : Bool} {lf_6 : Int} {dn_7 : Bool} {D_8 : List AV} {C_9 : List AV} {x_11 : Int} {l_12 : List AV} {tg_13 : Bool} {x_14 : Int} {l_17 : List AV} {tg_18 : Bool} {x_19 : Int} {x_20 : Int} : midRun cal (n + 3) 3 (goTo [0, 5, 0, 5, 0, 5, 0, 0, 5, 7, 5, 0, 5, 0] (bodyOf 3)) 4 (mkS 63 [(3, .val (.ptr 0 0) .no), (4, .val (.int .i64 x_11) .no), (5, .val (.vs 1 tg_13 l_12) .no), (6, .val (.int .i64 x_14) .no), (31, .val (.ptr 0 0) .no), (32, .val (.int .i64 x_11) .no), (33, .val (.int .i64 x_20) .no), (34, .val (.tuple [(.vs 1 tg_18 l_17), (.int .i64 x_19)]) .no)] [] (hdk 0 n_2 tg_3 q_4 ar_5 lf_6 dn_7 D_8 C_9 Hp.none) 8) =
 (br (decide (x_14 = (0)))
 ((bytesOf l_12).bind fun s5 =>
 (br (Nat.ble 32 (List.length (replC [(.int .u8 (0))] 32)))
 ((bytesOf (List.take 32 (List.drop 0 (replC [(.int .u8 (0))] 32)))).bind fun s6 =>
 (br (eqS s5 s6)
 (br (decide (x_19 = (9)))
 ((cal 14 [(.ptr 0 0)] (hdk 0 n_2 tg_3 q_4 ar_5 lf_6 dn_7 D_8 C_9 ((8, ⟨(replC [(.int .u8 (0))] 32), []⟩) :: Hp.none)) 9).bind fun r7 =>
 (midRun cal (n + 1) 3 (goTo [0, 5, 0, 5, 0, 5, 0, 0, 5, 7, 5, 0, 5, 0, 5, 0] (bodyOf 3)) 16 (mkS 63 [(3, .val (.ptr 0 0) .no), (5, .val (.vs 1 tg_13 l_12) .no), (6, .val (.int .i64 x_14) .no), (8, .val (.int .i64 x_19) .no), (37, .val (.int .i64 x_14) .no), (38, .val (.bool (decide (x_14 = (0)))) .no), (39, .val (.bool true) .no), (40, .val (.vs 1 tg_13 l_12) .no), (41, .val (.str s5) .no), (42, .val (.arr 8 0 32 1) .no), (43, .val (.str s6) .no), (44, .val (.bool (eqS s5 s6)) .no), (45, .val (.bool (eqS s5 s6)) .no), (46, .val (.bool true) .no), (47, .val (.int .i64 x_19) .no), (48, .val (.bool (decide (x_19 = (9)))) .no), (49, .val (.bool (decide (x_19 = (9)))) .no), (50, .val (.bool true) .no), (51, .val (.ptr 0 0) .no), (52, .val r7.v .no)] [] r7.H r7.nx)))
 (some ⟨(.bool false), (hdk 0 n_2 tg_3 q_4 ar_5 lf_6 dn_7 D_8 C_9 ((8, ⟨(replC [(.int .u8 (0))] 32), []⟩) :: Hp.none)), 9⟩))
 (some ⟨(.bool false), (hdk 0 n_2 tg_3 q_4 ar_5 lf_6 dn_7 D_8 C_9 ((8, ⟨(replC [(.int .u8 (0))] 32), []⟩) :: Hp.none)), 9⟩)))
 none))
 (some ⟨(.bool false), (hdk 0 n_2 tg_3 q_4 ar_5 lf_6 dn_7 D_8 C_9 Hp.none), 8⟩)) := by kernel_rfl

/-- fuel 1 -/
theorem w3_5 (cal : Oracle) (n : Nat)  {n_2 : Nat} {tg_3 : Bool} {q_4 : List AV} {ar_5 : Bool} {lf_6 : Int} {dn_7 : Bool} {D_8 : List AV} {C_9 : List AV} {l_12 : List AV} {tg_13 : Bool} {x_14 : Int} {x_19 : Int} {c_21 : Bool} {c_22 : Bool} {s_23 : List UInt8} {s_24 : List UInt8} {c_25 : Bool} {c_26 : Bool} {l_27 : List AV} : midRun cal (n + 1) 3 (goTo [0, 5, 0, 5, 0, 5, 0, 0, 5, 7, 5, 0, 5, 0, 5, 0] (bodyOf 3)) 16 (mkS 63 [(3, .val (.ptr 0 0) .no), (5, .val (.vs 1 tg_13 l_12) .no), (6, .val (.int .i64 x_14) .no), (8, .val (.int .i64 x_19) .no), (37, .val (.int .i64 x_14) .no), (38, .val (.bool c_22) .no), (39, .val (.bool true) .no), (40, .val (.vs 1 tg_13 l_12) .no), (41, .val (.str s_23) .no), (42, .val (.arr 8 0 32 1) .no), (43, .val (.str s_24) .no), (44, .val (.bool c_25) .no), (45, .val (.bool c_25) .no), (46, .val (.bool true) .no), (47, .val (.int .i64 x_19) .no), (48, .val (.bool c_26) .no), (49, .val (.bool c_26) .no), (50, .val (.bool true) .no), (51, .val (.ptr 0 0) .no), (52, .val (.bool c_21) .no)] [] (hdk 0 n_2 tg_3 q_4 ar_5 lf_6 dn_7 D_8 C_9 ((8, ⟨l_27, []⟩) :: Hp.none)) 9) =
 (br (!c_21)
 ((cal 15 [(.ptr 0 0)] (hdk 0 n_2 tg_3 q_4 ar_5 lf_6 dn_7 D_8 C_9 ((8, ⟨l_27, []⟩) :: Hp.none)) 9).bind fun r8 =>
 (midRun cal (n + 1) 3 (goTo [0, 5, 0, 5, 0, 5, 0, 0, 5, 7, 5, 0, 5, 0, 5, 0] (bodyOf 3)) 21 (mkS 63 [(3, .val (.ptr 0 0) .no), (5, .val (.vs 1 tg_13 l_12) .no), (6, .val (.int .i64 x_14) .no), (8, .val (.int .i64 x_19) .no), (37, .val (.int .i64 x_14) .no), (38, .val (.bool c_22) .no), (39, .val (.bool true) .no), (40, .val (.vs 1 tg_13 l_12) .no), (41, .val (.str s_23) .no), (42, .val (.arr 8 0 32 1) .no), (43, .val (.str s_24) .no), (44, .val (.bool c_25) .no), (45, .val (.bool c_25) .no), (46, .val (.bool true) .no), (47, .val (.int .i64 x_19) .no), (48, .val (.bool c_26) .no), (49, .val (.bool c_26) .no), (50, .val (.bool true) .no), (51, .val (.ptr 0 0) .no), (52, .val (.bool c_21) .no), (53, .val (.bool (!c_21)) .no), (54, .val (.bool (!c_21)) .no), (55, .val (.bool true) .no), (56, .val (.ptr 0 0) .no), (57, .val r8.v .no)] [] r8.H r8.nx)))
 (some ⟨(.bool false), (hdk 0 n_2 tg_3 q_4 ar_5 lf_6 dn_7 D_8 C_9 ((8, ⟨l_27, []⟩) :: Hp.none)), 9⟩)) := by kernel_rfl

/-- fuel 1 -/
theorem w3_6 (cal : Oracle) (n : Nat)  {n_2 : Nat} {tg_3 : Bool} {q_4 : List AV} {ar_5 : Bool} {lf_6 : Int} {dn_7 : Bool} {D_8 : List AV} {C_9 : List AV} {l_12 : List AV} {tg_13 : Bool} {x_14 : Int} {x_19 : Int} {c_21 : Bool} {c_22 : Bool} {s_23 : List UInt8} {s_24 : List UInt8} {c_25 : Bool} {c_26 : Bool} {l_27 : List AV} {x_28 : Int} {c_29 : Bool} : midRun cal (n + 1) 3 (goTo [0, 5, 0, 5, 0, 5, 0, 0, 5, 7, 5, 0, 5, 0, 5, 0] (bodyOf 3)) 21 (mkS 63 [(3, .val (.ptr 0 0) .no), (5, .val (.vs 1 tg_13 l_12) .no), (6, .val (.int .i64 x_14) .no), (8, .val (.int .i64 x_19) .no), (37, .val (.int .i64 x_14) .no), (38, .val (.bool c_22) .no), (39, .val (.bool true) .no), (40, .val (.vs 1 tg_13 l_12) .no), (41, .val (.str s_23) .no), (42, .val (.arr 8 0 32 1) .no), (43, .val (.str s_24) .no), (44, .val (.bool c_25) .no), (45, .val (.bool c_25) .no), (46, .val (.bool true) .no), (47, .val (.int .i64 x_19) .no), (48, .val (.bool c_26) .no), (49, .val (.bool c_26) .no), (50, .val (.bool true) .no), (51, .val (.ptr 0 0) .no), (52, .val (.bool c_21) .no), (53, .val (.bool c_29) .no), (54, .val (.bool c_29) .no), (55, .val (.bool true) .no), (56, .val (.ptr 0 0) .no), (57, .val (.int .i64 x_28) .no)] [] (hdk 0 n_2 tg_3 q_4 ar_5 lf_6 dn_7 D_8 C_9 ((8, ⟨l_27, []⟩) :: Hp.none)) 9) =
 (br (decide (x_28 = (0)))
 (br (pureL []) ((cal 16 [] Hp.none 0).bind fun r9 => br (AV.pure r9.v)
 (br (AV.pure r9.v)
 (midRun cal (n + 1) 3 (goTo [0, 5, 0, 5, 0, 5, 0, 0, 5, 7, 5, 0, 5, 0, 5, 0] (bodyOf 3)) 25 (mkS 63 [(3, .val (.ptr 0 0) .no), (5, .val (.vs 1 tg_13 l_12) .no), (6, .val (.int .i64 x_14) .no), (8, .val (.int .i64 x_19) .no), (37, .val (.int .i64 x_14) .no), (38, .val (.bool c_22) .no), (39, .val (.bool true) .no), (40, .val (.vs 1 tg_13 l_12) .no), (41, .val (.str s_23) .no), (42, .val (.arr 8 0 32 1) .no), (43, .val (.str s_24) .no), (44, .val (.bool c_25) .no), (45, .val (.bool c_25) .no), (46, .val (.bool true) .no), (47, .val (.int .i64 x_19) .no), (48, .val (.bool c_26) .no), (49, .val (.bool c_26) .no), (50, .val (.bool true) .no), (51, .val (.ptr 0 0) .no), (52, .val (.bool c_21) .no), (53, .val (.bool c_29) .no), (54, .val (.bool c_29) .no), (55, .val (.bool true) .no), (56, .val (.ptr 0 0) .no), (57, .val (.int .i64 x_28) .no), (58, .val (.bool (decide (x_28 = (0)))) .no), (59, .val (.bool (decide (x_28 = (0)))) .no), (60, .val (.bool true) .no), (61, .val r9.v .no)] [] (hdk 0 n_2 tg_3 q_4 ar_5 lf_6 dn_7 D_8 C_9 ((8, ⟨l_27, []⟩) :: Hp.none)) 9))
 none) none) none)
 (some ⟨(.bool false), (hdk 0 n_2 tg_3 q_4 ar_5 lf_6 dn_7 D_8 C_9 ((8, ⟨l_27, []⟩) :: Hp.none)), 9⟩)) := by kernel_rfl

/-- fuel 1 -/
theorem w3_7 (cal : Oracle) (n : Nat)  {n_2 : Nat} {tg_3 : Bool} {q_4 : List AV} {ar_5 : Bool} {lf_6 : Int} {dn_7 : Bool} {D_8 : List AV} {C_9 : List AV} {l_12 : List AV} {tg_13 : Bool} {x_14 : Int} {x_19 : Int} {c_21 : Bool} {c_22 : Bool} {s_23 : List UInt8} {s_24 : List UInt8} {c_25 : Bool} {c_26 : Bool} {l_27 : List AV} {x_28 : Int} {c_29 : Bool} {c_30 : Bool} : midRun cal (n + 1) 3 (goTo [0, 5, 0, 5, 0, 5, 0, 0, 5, 7, 5, 0, 5, 0, 5, 0] (bodyOf 3)) 25 (mkS 63 [(3, .val (.ptr 0 0) .no), (5, .val (.vs 1 tg_13 l_12) .no), (6, .val (.int .i64 x_14) .no), (8, .val (.int .i64 x_19) .no), (37, .val (.int .i64 x_14) .no), (38, .val (.bool c_22) .no), (39, .val (.bool true) .no), (40, .val (.vs 1 tg_13 l_12) .no), (41, .val (.str s_23) .no), (42, .val (.arr 8 0 32 1) .no), (43, .val (.str s_24) .no), (44, .val (.bool c_25) .no), (45, .val (.bool c_25) .no), (46, .val (.bool true) .no), (47, .val (.int .i64 x_19) .no), (48, .val (.bool c_26) .no), (49, .val (.bool c_26) .no), (50, .val (.bool true) .no), (51, .val (.ptr 0 0) .no), (52, .val (.bool c_21) .no), (53, .val (.bool c_29) .no), (54, .val (.bool c_29) .no), (55, .val (.bool true) .no), (56, .val (.ptr 0 0) .no), (57, .val (.int .i64 x_28) .no), (58, .val (.bool c_30) .no), (59, .val (.bool c_30) .no), (60, .val (.bool true) .no), (61, .val (.bool true) .no)] [] (hdk 0 n_2 tg_3 q_4 ar_5 lf_6 dn_7 D_8 C_9 ((8, ⟨l_27, []⟩) :: Hp.none)) 9) =
 (some ⟨(.bool true), (hdk 0 n_2 tg_3 q_4 ar_5 lf_6 dn_7 D_8 C_9 ((8, ⟨l_27, []⟩) :: Hp.none)), 9⟩) := by kernel_rfl

end Go.Proofs.Ytjipknfohmgjaaa
