/- Stage laws,printed by gen_p.py. -/
import Derived.Test.YtfdklpkfpmkgeaaGreatDoorM10
import Derived.Test.YtfdklpkfpmkgeaaGreatDoorM13
set_option linter.unusedSimpArgs false
set_option linter.unusedVariables false
set_option linter.unusedSectionVars false
set_option linter.unnecessarySimpa false
section
namespace Go.Proofs.YtfdklpkfpmkgeaaGreatDoor
open Go Go.Vai
attribute [local irreducible] goTo zaq mkS
variable {C : Nat → Oracle} {o : Out}
abbrev qV0 : List Nat := [0,5,0,5,0,5,0,5,0,0,5,2,3,0,0,5,5,0,2,0,5,0,5,0,5,0,0,5,5,0,0,5,5,0,5,0,5,0,5,5]
abbrev qV1 : List Nat := [0,5,0,5,0,5,0,5,0,0,5,5,0,0,5,5,0,5,0,0,5,5,0,5,0,0,5,5,0,0,5,5,0]
abbrev qV2 : List Nat := [0,5,0,5,0,5,0,5,0,0,5,2,3,0,0,5,5,0,2,0,5,0,5,0,5,0,0,5,5]
abbrev qV3 : List Nat := [0,5,0,5,0,5,0,5,0,0,5,2,3,0,0,5,5,0,2,0,5,0,5,0,5,0,0,5,5,0,0,5,5]
abbrev qV4 : List Nat := [0,5,0,5,0,5,0,5,0,0,5,5,0,0,5,5,0,5,0,0,5,5,0,5,0,0,5,5,0,0,5,5]
abbrev qV5 : List Nat := [0,5,0,5,0,5,0,5,0,0,5,2,3,0,0,5,5,0,2,0,5,0]
abbrev qV6 : List Nat := [0,5,0,5,0,5,0,5,0,0,5,5,0,0,5,5,0,5,0,0,5,5,0,5,0,0,5,5]
abbrev qV7 : List Nat := [0,5,0,5,0,5,0,5,0,0,5,2,3]
abbrev qV8 : List Nat := [0,5,0,5,0,5,0,5,0,0,5,5,0,0,5,2,3]
abbrev qV9 : List Nat := [0,5,0,5,0,5,0,5,0,0,5,5,0,0,5,5,0,5,0,0,5,5]
theorem p6_c (hC : Ext C) {x_1 : Int} {tg_2 tg_4 : Bool} {l_3 l_5 : List AV} (ho : RL C 6 [] (mk0 135 [vi 0 x_1,vv 1 (.vs 1 tg_2 l_3),vv 2 (.vs 1 tg_4 l_5)]) = some o) : calL C 6 [(i6 x_1),(.vs 1 tg_2 l_3),(.vs 1 tg_4 l_5)] Hp.none 0 = some o := hC.call rfl (fun _ _ => by kernel_rfl) ho
theorem p6_0 {x_1 : Int} {tg_2 tg_4 : Bool} {l_3 l_5 : List AV} (ho : Tr.val C 6
(cl0 22 [(i6 x_1),(i6 6)] fun r1 => .br (AV.pure r1.v)
(.mid 0 [0,5,0] 2 (mk0 135 [vi 0 x_1,vv 1 (.vs 1 tg_2 l_3),vv 2 (.vs 1 tg_4 l_5),vi 20 x_1,vv 21 r1.v])) .none) = some o) : RL C 6 [] (mk0 135 [vi 0 x_1,vv 1 (.vs 1 tg_2 l_3),vv 2 (.vs 1 tg_4 l_5)]) = some o := stR C 4 (fun _ _ => by kernel_rfl) ho
theorem p6_1 {x_1 x_6 : Int} {tg_2 tg_4 : Bool} {l_3 l_5 : List AV} (ho : Tr.val C 6
(.run 0 qV7 (mk0 135 [vv 1 (.vs 1 tg_2 l_3),vv 2 (.vs 1 tg_4 l_5),vi 7 (w64 (1 + x_6)),vt 8 [116,121,112,101,32,116,32,123,32,114,101,103,105,115,116,101,114,32,97,32,105,110,116,59,32,102,108,97,103,32,120,49,59,32,111,112,32,102,40,112,32,98,111,111,108,41,32,123,32],vb 9 true,vb 10 true,vi 11 0])) = some o) : ML C 6 [0,5,0] 2 (mk0 135 [vi 0 x_1,vv 1 (.vs 1 tg_2 l_3),vv 2 (.vs 1 tg_4 l_5),vi 20 x_1,vi 21 x_6]) = some o := stM C 9 (fun _ _ => by kernel_rfl) ho
theorem p6_2 {tg_7 tg_9 c_13 c_14 : Bool} {l_8 l_10 : List AV} {x_11 x_15 : Int} {s_12 : List UInt8} (ho : Tr.val C 6
(.br (decide (x_15 < x_11))
(.run 0 [0,5,0,5,0,5,0,5,0,0,5,2,3,0,0,5,5] (mk0 135 [vv 1 (.vs 1 tg_7 l_8),vv 2 (.vs 1 tg_9 l_10),vi 7 x_11,vt 8 s_12,vb 9 c_13,vb 10 c_14,vi 11 x_15,vb 25 true]))
(.run 0 [0,5,0,5,0,5,0,5,0,0,5,5] (mk0 135 [vv 1 (.vs 1 tg_7 l_8),vv 2 (.vs 1 tg_9 l_10),vi 7 x_11,vt 8 s_12,vb 9 c_13,vb 10 c_14,vi 11 x_15,vb 25 false]))) = some o) : RL C 6 qV7 (mk0 135 [vv 1 (.vs 1 tg_7 l_8),vv 2 (.vs 1 tg_9 l_10),vi 7 x_11,vt 8 s_12,vb 9 c_13,vb 10 c_14,vi 11 x_15]) = some o := stR C 5 (fun _ _ => by kernel_rfl) ho
theorem p6_3 {tg_16 tg_18 c_22 c_23 c_25 : Bool} {l_17 l_19 : List AV} {x_20 x_24 : Int} {s_21 : List UInt8} (ho : Tr.val C 6
(.br (decide (x_24 < (l_17.length : Int)))
(ix l_17 x_24 fun c2 =>
(.mid 9 [0,5,0,5,0,5,0,5,0,0,5,2,3,0,0,5,5,0,2,0] 8 (mk0 135 [vv 1 (.vs 1 tg_16 l_17),vv 2 (.vs 1 tg_18 l_19),vi 7 x_20,vt 8 s_21,vb 9 c_22,vb 10 c_23,vi 11 x_24,vb 25 c_25,vi 28 x_24,vv 29 (.vs 1 tg_16 l_17),vi 30 (l_17.length : Int),vb 31 (decide (x_24 < (l_17.length : Int))),vb 32 true,vv 33 (.vs 1 tg_16 l_17),vi 34 x_24,vv 35 (.cptr (AV.cells c2))])))
(.br (decide (x_24 < (l_19.length : Int)))
(ix l_19 x_24 fun c3 =>
(.mid 7 qV5 8 (mk0 135 [vv 1 (.vs 1 tg_16 l_17),vv 2 (.vs 1 tg_18 l_19),vi 7 x_20,vt 8 s_21,vb 9 c_22,vb 10 c_23,vi 11 x_24,vb 12 false,vi 38 x_24,vv 39 (.vs 1 tg_18 l_19),vi 40 (l_19.length : Int),vb 41 (decide (x_24 < (l_19.length : Int))),vb 42 true,vv 43 (.vs 1 tg_18 l_19),vi 44 x_24,vv 45 (.cptr (AV.cells c3))])))
(.run 0 qV2 (mk0 135 [vv 1 (.vs 1 tg_16 l_17),vv 2 (.vs 1 tg_18 l_19),vi 7 x_20,vt 8 s_21,vb 9 c_22,vb 10 c_23,vi 11 x_24,vb 12 false,vb 13 false,vt 14 [],vb 48 false])))) = some o) : RL C 6 [0,5,0,5,0,5,0,5,0,0,5,2,3,0,0,5,5] (mk0 135 [vv 1 (.vs 1 tg_16 l_17),vv 2 (.vs 1 tg_18 l_19),vi 7 x_20,vt 8 s_21,vb 9 c_22,vb 10 c_23,vi 11 x_24,vb 25 c_25]) = some o := stR C 13 (fun _ _ => by kernel_rfl) ho
theorem p6_4 {tg_26 tg_28 c_32 c_33 c_35 : Bool} {l_27 l_29 : List AV} {x_30 x_34 : Int} {s_31 : List UInt8} (ho : Tr.val C 6
(.run 0 qV8 (mk0 135 [vi 7 x_30,vt 8 s_31,vb 9 c_32,vb 10 c_33,vi 15 1])) = some o) : RL C 6 [0,5,0,5,0,5,0,5,0,0,5,5] (mk0 135 [vv 1 (.vs 1 tg_26 l_27),vv 2 (.vs 1 tg_28 l_29),vi 7 x_30,vt 8 s_31,vb 9 c_32,vb 10 c_33,vi 11 x_34,vb 25 c_35]) = some o := stR C 5 (fun _ _ => by kernel_rfl) ho
theorem p6_5 {tg_16 tg_18 c_22 c_23 c_25 c_36 c_38 : Bool} {l_17 l_19 : List AV} {x_20 x_24 x_37 : Int} {s_21 : List UInt8} (ho : Tr.val C 6
(.br (decide (x_24 < (l_19.length : Int)))
(ix l_19 x_24 fun c4 =>
(.mid 7 qV5 8 (mk0 135 [vv 1 (.vs 1 tg_16 l_17),vv 2 (.vs 1 tg_18 l_19),vi 7 x_20,vt 8 s_21,vb 9 c_22,vb 10 c_23,vi 11 x_24,vb 12 c_36,vi 38 x_24,vv 39 (.vs 1 tg_18 l_19),vi 40 (l_19.length : Int),vb 41 (decide (x_24 < (l_19.length : Int))),vb 42 true,vv 43 (.vs 1 tg_18 l_19),vi 44 x_24,vv 45 (.cptr (AV.cells c4))])))
(.br c_36
(.run 0 qV2 (mk0 135 [vv 1 (.vs 1 tg_16 l_17),vv 2 (.vs 1 tg_18 l_19),vi 7 x_20,vt 8 s_21,vb 9 c_22,vb 10 c_23,vi 11 x_24,vb 12 c_36,vb 13 false,vt 14 [119,114,105,116,101,32,97,32,61,32,49,59,32]]))
(.run 0 qV2 (mk0 135 [vv 1 (.vs 1 tg_16 l_17),vv 2 (.vs 1 tg_18 l_19),vi 7 x_20,vt 8 s_21,vb 9 c_22,vb 10 c_23,vi 11 x_24,vb 12 c_36,vb 13 false,vt 14 [],vb 48 false])))) = some o) : ML C 6 [0,5,0,5,0,5,0,5,0,0,5,2,3,0,0,5,5,0,2,0] 8 (mk0 135 [vv 1 (.vs 1 tg_16 l_17),vv 2 (.vs 1 tg_18 l_19),vi 7 x_20,vt 8 s_21,vb 9 c_22,vb 10 c_23,vi 11 x_24,vb 25 c_25,vi 28 x_24,vv 29 (.vs 1 tg_16 l_17),vi 30 x_37,vb 31 c_38,vb 32 true,vv 33 (.vs 1 tg_16 l_17),vi 34 x_24,vv 35 (.cptr [(.bool c_36)])]) = some o := stM C 9 (fun _ _ => by kernel_rfl) ho
theorem p6_6 {tg_16 tg_18 c_22 c_23 c_39 c_41 : Bool} {l_17 l_19 : List AV} {x_20 x_24 x_40 : Int} {s_21 : List UInt8} (ho : Tr.val C 6
(.run 0 qV2 (mk0 135 [vv 1 (.vs 1 tg_16 l_17),vv 2 (.vs 1 tg_18 l_19),vi 7 x_20,vt 8 s_21,vb 9 c_22,vb 10 c_23,vi 11 x_24,vb 12 false,vb 13 c_39,vt 14 [],vb 48 false])) = some o) : ML C 6 qV5 8 (mk0 135 [vv 1 (.vs 1 tg_16 l_17),vv 2 (.vs 1 tg_18 l_19),vi 7 x_20,vt 8 s_21,vb 9 c_22,vb 10 c_23,vi 11 x_24,vb 12 false,vi 38 x_24,vv 39 (.vs 1 tg_18 l_19),vi 40 x_40,vb 41 c_41,vb 42 true,vv 43 (.vs 1 tg_18 l_19),vi 44 x_24,vv 45 (.cptr [(.bool c_39)])]) = some o := stM C 7 (fun _ _ => by kernel_rfl) ho
theorem p6_7 {tg_42 tg_44 c_48 c_49 c_51 c_52 c_54 : Bool} {l_43 l_45 : List AV} {x_46 x_50 : Int} {s_47 s_53 : List UInt8} (ho : Tr.val C 6
(.br c_52
(.br (Nat.ble (s_53.length + 9) 4611686018427387904)
(.run 0 qV3 (mk0 135 [vv 1 (.vs 1 tg_42 l_43),vv 2 (.vs 1 tg_44 l_45),vi 7 x_46,vt 8 s_47,vb 9 c_48,vb 10 c_49,vi 11 x_50,vb 12 c_51,vb 13 c_52,vt 14 (s_53 ++ [109,97,114,107,32,120,49,59,32])])) .none)
(.run 0 qV3 (mk0 135 [vv 1 (.vs 1 tg_42 l_43),vv 2 (.vs 1 tg_44 l_45),vi 7 x_46,vt 8 s_47,vb 9 c_48,vb 10 c_49,vi 11 x_50,vb 12 c_51,vb 13 c_52,vt 14 s_53,vb 49 false]))) = some o) : RL C 6 qV2 (mk0 135 [vv 1 (.vs 1 tg_42 l_43),vv 2 (.vs 1 tg_44 l_45),vi 7 x_46,vt 8 s_47,vb 9 c_48,vb 10 c_49,vi 11 x_50,vb 12 c_51,vb 13 c_52,vt 14 s_53,vb 48 c_54]) = some o := stR C 5 (fun _ _ => by kernel_rfl) ho
theorem p6_8 {x_55 x_59 : Int} {s_56 : List UInt8} {c_57 c_58 : Bool} (ho : Tr.val C 6
(.br (decide (x_59 < x_55))
(.run 0 [0,5,0,5,0,5,0,5,0,0,5,5,0,0,5,2,3,0,0,5,5] (mk0 135 [vi 7 x_55,vt 8 s_56,vb 9 c_57,vb 10 c_58,vi 15 x_59,vb 82 true]))
(.run 0 [0,5,0,5,0,5,0,5,0,0,5,5,0,0,5,5] (mk0 135 [vi 7 x_55,vt 8 s_56,vb 9 c_57,vb 10 c_58,vi 15 x_59,vb 82 false]))) = some o) : RL C 6 qV8 (mk0 135 [vi 7 x_55,vt 8 s_56,vb 9 c_57,vb 10 c_58,vi 15 x_59]) = some o := stR C 5 (fun _ _ => by kernel_rfl) ho
theorem p6_9 {tg_16 tg_18 c_22 c_23 c_36 c_60 c_62 : Bool} {l_17 l_19 : List AV} {x_20 x_24 x_61 : Int} {s_21 : List UInt8} (ho : Tr.val C 6
(.br c_36
(.run 0 qV2 (mk0 135 [vv 1 (.vs 1 tg_16 l_17),vv 2 (.vs 1 tg_18 l_19),vi 7 x_20,vt 8 s_21,vb 9 c_22,vb 10 c_23,vi 11 x_24,vb 12 c_36,vb 13 c_60,vt 14 [119,114,105,116,101,32,97,32,61,32,49,59,32]]))
(.run 0 qV2 (mk0 135 [vv 1 (.vs 1 tg_16 l_17),vv 2 (.vs 1 tg_18 l_19),vi 7 x_20,vt 8 s_21,vb 9 c_22,vb 10 c_23,vi 11 x_24,vb 12 c_36,vb 13 c_60,vt 14 [],vb 48 false]))) = some o) : ML C 6 qV5 8 (mk0 135 [vv 1 (.vs 1 tg_16 l_17),vv 2 (.vs 1 tg_18 l_19),vi 7 x_20,vt 8 s_21,vb 9 c_22,vb 10 c_23,vi 11 x_24,vb 12 c_36,vi 38 x_24,vv 39 (.vs 1 tg_18 l_19),vi 40 x_61,vb 41 c_62,vb 42 true,vv 43 (.vs 1 tg_18 l_19),vi 44 x_24,vv 45 (.cptr [(.bool c_60)])]) = some o := stM C 7 (fun _ _ => by kernel_rfl) ho
theorem p6_10 {tg_63 tg_65 c_69 c_70 c_72 c_73 : Bool} {l_64 l_66 : List AV} {x_67 x_71 : Int} {s_68 s_74 : List UInt8} (ho : Tr.val C 6
(.br c_73
(.br (Nat.ble (s_74.length + 9) 4611686018427387904)
(.run 0 qV3 (mk0 135 [vv 1 (.vs 1 tg_63 l_64),vv 2 (.vs 1 tg_65 l_66),vi 7 x_67,vt 8 s_68,vb 9 c_69,vb 10 c_70,vi 11 x_71,vb 12 c_72,vb 13 c_73,vt 14 (s_74 ++ [109,97,114,107,32,120,49,59,32])])) .none)
(.run 0 qV3 (mk0 135 [vv 1 (.vs 1 tg_63 l_64),vv 2 (.vs 1 tg_65 l_66),vi 7 x_67,vt 8 s_68,vb 9 c_69,vb 10 c_70,vi 11 x_71,vb 12 c_72,vb 13 c_73,vt 14 s_74,vb 49 false]))) = some o) : RL C 6 qV2 (mk0 135 [vv 1 (.vs 1 tg_63 l_64),vv 2 (.vs 1 tg_65 l_66),vi 7 x_67,vt 8 s_68,vb 9 c_69,vb 10 c_70,vi 11 x_71,vb 12 c_72,vb 13 c_73,vt 14 s_74]) = some o := stR C 5 (fun _ _ => by kernel_rfl) ho
theorem p6_11 {tg_75 tg_77 c_81 c_82 c_84 c_85 : Bool} {l_76 l_78 : List AV} {x_79 x_83 : Int} {s_80 s_86 : List UInt8} (ho : Tr.val C 6
(.br c_81
(.br c_84
(.br c_82
(.br c_85
(.br (decide (x_83 < (w64 (x_79 - 1))))
(.br (Nat.ble (s_80.length + 7) 4611686018427387904)
(.br (Nat.ble ((s_80 ++ [105,102,32,112,32,123,32]).length + s_86.length) 4611686018427387904)
(.br (Nat.ble (((s_80 ++ [105,102,32,112,32,123,32]) ++ s_86).length + 9) 4611686018427387904)
(.run 0 qV0 (mk0 135 [vv 1 (.vs 1 tg_75 l_76),vv 2 (.vs 1 tg_77 l_78),vi 7 x_79,vt 8 (((s_80 ++ [105,102,32,112,32,123,32]) ++ s_86) ++ [125,32,101,108,115,101,32,123,32]),vb 9 (!c_85),vb 10 (!c_84),vi 11 x_83])) .none) .none) .none)
(.br (Nat.ble (s_80.length + s_86.length) 4611686018427387904)
(.run 0 qV0 (mk0 135 [vv 1 (.vs 1 tg_75 l_76),vv 2 (.vs 1 tg_77 l_78),vi 7 x_79,vt 8 (s_80 ++ s_86),vb 9 (!c_85),vb 10 (!c_84),vi 11 x_83])) .none))
(.br (decide (x_83 < (w64 (x_79 - 1))))
(.br (Nat.ble (s_80.length + 7) 4611686018427387904)
(.br (Nat.ble ((s_80 ++ [105,102,32,112,32,123,32]).length + s_86.length) 4611686018427387904)
(.br (Nat.ble (((s_80 ++ [105,102,32,112,32,123,32]) ++ s_86).length + 9) 4611686018427387904)
(.run 0 qV0 (mk0 135 [vv 1 (.vs 1 tg_75 l_76),vv 2 (.vs 1 tg_77 l_78),vi 7 x_79,vt 8 (((s_80 ++ [105,102,32,112,32,123,32]) ++ s_86) ++ [125,32,101,108,115,101,32,123,32]),vb 9 (!c_85),vb 10 false,vi 11 x_83])) .none) .none) .none)
(.br (Nat.ble (s_80.length + s_86.length) 4611686018427387904)
(.run 0 qV0 (mk0 135 [vv 1 (.vs 1 tg_75 l_76),vv 2 (.vs 1 tg_77 l_78),vi 7 x_79,vt 8 (s_80 ++ s_86),vb 9 (!c_85),vb 10 false,vi 11 x_83])) .none)))
(.br (decide (x_83 < (w64 (x_79 - 1))))
(.br (Nat.ble (s_80.length + 7) 4611686018427387904)
(.br (Nat.ble ((s_80 ++ [105,102,32,112,32,123,32]).length + s_86.length) 4611686018427387904)
(.br (Nat.ble (((s_80 ++ [105,102,32,112,32,123,32]) ++ s_86).length + 9) 4611686018427387904)
(.run 0 qV0 (mk0 135 [vv 1 (.vs 1 tg_75 l_76),vv 2 (.vs 1 tg_77 l_78),vi 7 x_79,vt 8 (((s_80 ++ [105,102,32,112,32,123,32]) ++ s_86) ++ [125,32,101,108,115,101,32,123,32]),vb 9 (!c_85),vb 10 false,vi 11 x_83])) .none) .none) .none)
(.br (Nat.ble (s_80.length + s_86.length) 4611686018427387904)
(.run 0 qV0 (mk0 135 [vv 1 (.vs 1 tg_75 l_76),vv 2 (.vs 1 tg_77 l_78),vi 7 x_79,vt 8 (s_80 ++ s_86),vb 9 (!c_85),vb 10 false,vi 11 x_83])) .none)))
(.br c_82
(.br c_85
(.br (decide (x_83 < (w64 (x_79 - 1))))
(.br (Nat.ble (s_80.length + 7) 4611686018427387904)
(.br (Nat.ble ((s_80 ++ [105,102,32,112,32,123,32]).length + s_86.length) 4611686018427387904)
(.br (Nat.ble (((s_80 ++ [105,102,32,112,32,123,32]) ++ s_86).length + 9) 4611686018427387904)
(.run 0 qV0 (mk0 135 [vv 1 (.vs 1 tg_75 l_76),vv 2 (.vs 1 tg_77 l_78),vi 7 x_79,vt 8 (((s_80 ++ [105,102,32,112,32,123,32]) ++ s_86) ++ [125,32,101,108,115,101,32,123,32]),vb 9 false,vb 10 (!c_84),vi 11 x_83])) .none) .none) .none)
(.br (Nat.ble (s_80.length + s_86.length) 4611686018427387904)
(.run 0 qV0 (mk0 135 [vv 1 (.vs 1 tg_75 l_76),vv 2 (.vs 1 tg_77 l_78),vi 7 x_79,vt 8 (s_80 ++ s_86),vb 9 false,vb 10 (!c_84),vi 11 x_83])) .none))
(.br (decide (x_83 < (w64 (x_79 - 1))))
(.br (Nat.ble (s_80.length + 7) 4611686018427387904)
(.br (Nat.ble ((s_80 ++ [105,102,32,112,32,123,32]).length + s_86.length) 4611686018427387904)
(.br (Nat.ble (((s_80 ++ [105,102,32,112,32,123,32]) ++ s_86).length + 9) 4611686018427387904)
(.run 0 qV0 (mk0 135 [vv 1 (.vs 1 tg_75 l_76),vv 2 (.vs 1 tg_77 l_78),vi 7 x_79,vt 8 (((s_80 ++ [105,102,32,112,32,123,32]) ++ s_86) ++ [125,32,101,108,115,101,32,123,32]),vb 9 false,vb 10 false,vi 11 x_83])) .none) .none) .none)
(.br (Nat.ble (s_80.length + s_86.length) 4611686018427387904)
(.run 0 qV0 (mk0 135 [vv 1 (.vs 1 tg_75 l_76),vv 2 (.vs 1 tg_77 l_78),vi 7 x_79,vt 8 (s_80 ++ s_86),vb 9 false,vb 10 false,vi 11 x_83])) .none)))
(.br (decide (x_83 < (w64 (x_79 - 1))))
(.br (Nat.ble (s_80.length + 7) 4611686018427387904)
(.br (Nat.ble ((s_80 ++ [105,102,32,112,32,123,32]).length + s_86.length) 4611686018427387904)
(.br (Nat.ble (((s_80 ++ [105,102,32,112,32,123,32]) ++ s_86).length + 9) 4611686018427387904)
(.run 0 qV0 (mk0 135 [vv 1 (.vs 1 tg_75 l_76),vv 2 (.vs 1 tg_77 l_78),vi 7 x_79,vt 8 (((s_80 ++ [105,102,32,112,32,123,32]) ++ s_86) ++ [125,32,101,108,115,101,32,123,32]),vb 9 false,vb 10 false,vi 11 x_83])) .none) .none) .none)
(.br (Nat.ble (s_80.length + s_86.length) 4611686018427387904)
(.run 0 qV0 (mk0 135 [vv 1 (.vs 1 tg_75 l_76),vv 2 (.vs 1 tg_77 l_78),vi 7 x_79,vt 8 (s_80 ++ s_86),vb 9 false,vb 10 false,vi 11 x_83])) .none))))
(.br c_82
(.br c_85
(.br (decide (x_83 < (w64 (x_79 - 1))))
(.br (Nat.ble (s_80.length + 7) 4611686018427387904)
(.br (Nat.ble ((s_80 ++ [105,102,32,112,32,123,32]).length + s_86.length) 4611686018427387904)
(.br (Nat.ble (((s_80 ++ [105,102,32,112,32,123,32]) ++ s_86).length + 9) 4611686018427387904)
(.run 0 qV0 (mk0 135 [vv 1 (.vs 1 tg_75 l_76),vv 2 (.vs 1 tg_77 l_78),vi 7 x_79,vt 8 (((s_80 ++ [105,102,32,112,32,123,32]) ++ s_86) ++ [125,32,101,108,115,101,32,123,32]),vb 9 false,vb 10 (!c_84),vi 11 x_83])) .none) .none) .none)
(.br (Nat.ble (s_80.length + s_86.length) 4611686018427387904)
(.run 0 qV0 (mk0 135 [vv 1 (.vs 1 tg_75 l_76),vv 2 (.vs 1 tg_77 l_78),vi 7 x_79,vt 8 (s_80 ++ s_86),vb 9 false,vb 10 (!c_84),vi 11 x_83])) .none))
(.br (decide (x_83 < (w64 (x_79 - 1))))
(.br (Nat.ble (s_80.length + 7) 4611686018427387904)
(.br (Nat.ble ((s_80 ++ [105,102,32,112,32,123,32]).length + s_86.length) 4611686018427387904)
(.br (Nat.ble (((s_80 ++ [105,102,32,112,32,123,32]) ++ s_86).length + 9) 4611686018427387904)
(.run 0 qV0 (mk0 135 [vv 1 (.vs 1 tg_75 l_76),vv 2 (.vs 1 tg_77 l_78),vi 7 x_79,vt 8 (((s_80 ++ [105,102,32,112,32,123,32]) ++ s_86) ++ [125,32,101,108,115,101,32,123,32]),vb 9 false,vb 10 false,vi 11 x_83])) .none) .none) .none)
(.br (Nat.ble (s_80.length + s_86.length) 4611686018427387904)
(.run 0 qV0 (mk0 135 [vv 1 (.vs 1 tg_75 l_76),vv 2 (.vs 1 tg_77 l_78),vi 7 x_79,vt 8 (s_80 ++ s_86),vb 9 false,vb 10 false,vi 11 x_83])) .none)))
(.br (decide (x_83 < (w64 (x_79 - 1))))
(.br (Nat.ble (s_80.length + 7) 4611686018427387904)
(.br (Nat.ble ((s_80 ++ [105,102,32,112,32,123,32]).length + s_86.length) 4611686018427387904)
(.br (Nat.ble (((s_80 ++ [105,102,32,112,32,123,32]) ++ s_86).length + 9) 4611686018427387904)
(.run 0 qV0 (mk0 135 [vv 1 (.vs 1 tg_75 l_76),vv 2 (.vs 1 tg_77 l_78),vi 7 x_79,vt 8 (((s_80 ++ [105,102,32,112,32,123,32]) ++ s_86) ++ [125,32,101,108,115,101,32,123,32]),vb 9 false,vb 10 false,vi 11 x_83])) .none) .none) .none)
(.br (Nat.ble (s_80.length + s_86.length) 4611686018427387904)
(.run 0 qV0 (mk0 135 [vv 1 (.vs 1 tg_75 l_76),vv 2 (.vs 1 tg_77 l_78),vi 7 x_79,vt 8 (s_80 ++ s_86),vb 9 false,vb 10 false,vi 11 x_83])) .none)))) = some o) : RL C 6 qV3 (mk0 135 [vv 1 (.vs 1 tg_75 l_76),vv 2 (.vs 1 tg_77 l_78),vi 7 x_79,vt 8 s_80,vb 9 c_81,vb 10 c_82,vi 11 x_83,vb 12 c_84,vb 13 c_85,vt 14 s_86]) = some o := stR C 8 (fun _ _ => by kernel_rfl) ho
theorem p6_12 {tg_87 tg_89 c_93 c_94 c_96 c_97 c_99 : Bool} {l_88 l_90 : List AV} {x_91 x_95 : Int} {s_92 s_98 : List UInt8} (ho : Tr.val C 6
(.br c_93
(.br c_96
(.br c_94
(.br c_97
(.br (decide (x_95 < (w64 (x_91 - 1))))
(.br (Nat.ble (s_92.length + 7) 4611686018427387904)
(.br (Nat.ble ((s_92 ++ [105,102,32,112,32,123,32]).length + s_98.length) 4611686018427387904)
(.br (Nat.ble (((s_92 ++ [105,102,32,112,32,123,32]) ++ s_98).length + 9) 4611686018427387904)
(.run 0 qV0 (mk0 135 [vv 1 (.vs 1 tg_87 l_88),vv 2 (.vs 1 tg_89 l_90),vi 7 x_91,vt 8 (((s_92 ++ [105,102,32,112,32,123,32]) ++ s_98) ++ [125,32,101,108,115,101,32,123,32]),vb 9 (!c_97),vb 10 (!c_96),vi 11 x_95])) .none) .none) .none)
(.br (Nat.ble (s_92.length + s_98.length) 4611686018427387904)
(.run 0 qV0 (mk0 135 [vv 1 (.vs 1 tg_87 l_88),vv 2 (.vs 1 tg_89 l_90),vi 7 x_91,vt 8 (s_92 ++ s_98),vb 9 (!c_97),vb 10 (!c_96),vi 11 x_95])) .none))
(.br (decide (x_95 < (w64 (x_91 - 1))))
(.br (Nat.ble (s_92.length + 7) 4611686018427387904)
(.br (Nat.ble ((s_92 ++ [105,102,32,112,32,123,32]).length + s_98.length) 4611686018427387904)
(.br (Nat.ble (((s_92 ++ [105,102,32,112,32,123,32]) ++ s_98).length + 9) 4611686018427387904)
(.run 0 qV0 (mk0 135 [vv 1 (.vs 1 tg_87 l_88),vv 2 (.vs 1 tg_89 l_90),vi 7 x_91,vt 8 (((s_92 ++ [105,102,32,112,32,123,32]) ++ s_98) ++ [125,32,101,108,115,101,32,123,32]),vb 9 (!c_97),vb 10 false,vi 11 x_95])) .none) .none) .none)
(.br (Nat.ble (s_92.length + s_98.length) 4611686018427387904)
(.run 0 qV0 (mk0 135 [vv 1 (.vs 1 tg_87 l_88),vv 2 (.vs 1 tg_89 l_90),vi 7 x_91,vt 8 (s_92 ++ s_98),vb 9 (!c_97),vb 10 false,vi 11 x_95])) .none)))
(.br (decide (x_95 < (w64 (x_91 - 1))))
(.br (Nat.ble (s_92.length + 7) 4611686018427387904)
(.br (Nat.ble ((s_92 ++ [105,102,32,112,32,123,32]).length + s_98.length) 4611686018427387904)
(.br (Nat.ble (((s_92 ++ [105,102,32,112,32,123,32]) ++ s_98).length + 9) 4611686018427387904)
(.run 0 qV0 (mk0 135 [vv 1 (.vs 1 tg_87 l_88),vv 2 (.vs 1 tg_89 l_90),vi 7 x_91,vt 8 (((s_92 ++ [105,102,32,112,32,123,32]) ++ s_98) ++ [125,32,101,108,115,101,32,123,32]),vb 9 (!c_97),vb 10 false,vi 11 x_95])) .none) .none) .none)
(.br (Nat.ble (s_92.length + s_98.length) 4611686018427387904)
(.run 0 qV0 (mk0 135 [vv 1 (.vs 1 tg_87 l_88),vv 2 (.vs 1 tg_89 l_90),vi 7 x_91,vt 8 (s_92 ++ s_98),vb 9 (!c_97),vb 10 false,vi 11 x_95])) .none)))
(.br c_94
(.br c_97
(.br (decide (x_95 < (w64 (x_91 - 1))))
(.br (Nat.ble (s_92.length + 7) 4611686018427387904)
(.br (Nat.ble ((s_92 ++ [105,102,32,112,32,123,32]).length + s_98.length) 4611686018427387904)
(.br (Nat.ble (((s_92 ++ [105,102,32,112,32,123,32]) ++ s_98).length + 9) 4611686018427387904)
(.run 0 qV0 (mk0 135 [vv 1 (.vs 1 tg_87 l_88),vv 2 (.vs 1 tg_89 l_90),vi 7 x_91,vt 8 (((s_92 ++ [105,102,32,112,32,123,32]) ++ s_98) ++ [125,32,101,108,115,101,32,123,32]),vb 9 false,vb 10 (!c_96),vi 11 x_95])) .none) .none) .none)
(.br (Nat.ble (s_92.length + s_98.length) 4611686018427387904)
(.run 0 qV0 (mk0 135 [vv 1 (.vs 1 tg_87 l_88),vv 2 (.vs 1 tg_89 l_90),vi 7 x_91,vt 8 (s_92 ++ s_98),vb 9 false,vb 10 (!c_96),vi 11 x_95])) .none))
(.br (decide (x_95 < (w64 (x_91 - 1))))
(.br (Nat.ble (s_92.length + 7) 4611686018427387904)
(.br (Nat.ble ((s_92 ++ [105,102,32,112,32,123,32]).length + s_98.length) 4611686018427387904)
(.br (Nat.ble (((s_92 ++ [105,102,32,112,32,123,32]) ++ s_98).length + 9) 4611686018427387904)
(.run 0 qV0 (mk0 135 [vv 1 (.vs 1 tg_87 l_88),vv 2 (.vs 1 tg_89 l_90),vi 7 x_91,vt 8 (((s_92 ++ [105,102,32,112,32,123,32]) ++ s_98) ++ [125,32,101,108,115,101,32,123,32]),vb 9 false,vb 10 false,vi 11 x_95])) .none) .none) .none)
(.br (Nat.ble (s_92.length + s_98.length) 4611686018427387904)
(.run 0 qV0 (mk0 135 [vv 1 (.vs 1 tg_87 l_88),vv 2 (.vs 1 tg_89 l_90),vi 7 x_91,vt 8 (s_92 ++ s_98),vb 9 false,vb 10 false,vi 11 x_95])) .none)))
(.br (decide (x_95 < (w64 (x_91 - 1))))
(.br (Nat.ble (s_92.length + 7) 4611686018427387904)
(.br (Nat.ble ((s_92 ++ [105,102,32,112,32,123,32]).length + s_98.length) 4611686018427387904)
(.br (Nat.ble (((s_92 ++ [105,102,32,112,32,123,32]) ++ s_98).length + 9) 4611686018427387904)
(.run 0 qV0 (mk0 135 [vv 1 (.vs 1 tg_87 l_88),vv 2 (.vs 1 tg_89 l_90),vi 7 x_91,vt 8 (((s_92 ++ [105,102,32,112,32,123,32]) ++ s_98) ++ [125,32,101,108,115,101,32,123,32]),vb 9 false,vb 10 false,vi 11 x_95])) .none) .none) .none)
(.br (Nat.ble (s_92.length + s_98.length) 4611686018427387904)
(.run 0 qV0 (mk0 135 [vv 1 (.vs 1 tg_87 l_88),vv 2 (.vs 1 tg_89 l_90),vi 7 x_91,vt 8 (s_92 ++ s_98),vb 9 false,vb 10 false,vi 11 x_95])) .none))))
(.br c_94
(.br c_97
(.br (decide (x_95 < (w64 (x_91 - 1))))
(.br (Nat.ble (s_92.length + 7) 4611686018427387904)
(.br (Nat.ble ((s_92 ++ [105,102,32,112,32,123,32]).length + s_98.length) 4611686018427387904)
(.br (Nat.ble (((s_92 ++ [105,102,32,112,32,123,32]) ++ s_98).length + 9) 4611686018427387904)
(.run 0 qV0 (mk0 135 [vv 1 (.vs 1 tg_87 l_88),vv 2 (.vs 1 tg_89 l_90),vi 7 x_91,vt 8 (((s_92 ++ [105,102,32,112,32,123,32]) ++ s_98) ++ [125,32,101,108,115,101,32,123,32]),vb 9 false,vb 10 (!c_96),vi 11 x_95])) .none) .none) .none)
(.br (Nat.ble (s_92.length + s_98.length) 4611686018427387904)
(.run 0 qV0 (mk0 135 [vv 1 (.vs 1 tg_87 l_88),vv 2 (.vs 1 tg_89 l_90),vi 7 x_91,vt 8 (s_92 ++ s_98),vb 9 false,vb 10 (!c_96),vi 11 x_95])) .none))
(.br (decide (x_95 < (w64 (x_91 - 1))))
(.br (Nat.ble (s_92.length + 7) 4611686018427387904)
(.br (Nat.ble ((s_92 ++ [105,102,32,112,32,123,32]).length + s_98.length) 4611686018427387904)
(.br (Nat.ble (((s_92 ++ [105,102,32,112,32,123,32]) ++ s_98).length + 9) 4611686018427387904)
(.run 0 qV0 (mk0 135 [vv 1 (.vs 1 tg_87 l_88),vv 2 (.vs 1 tg_89 l_90),vi 7 x_91,vt 8 (((s_92 ++ [105,102,32,112,32,123,32]) ++ s_98) ++ [125,32,101,108,115,101,32,123,32]),vb 9 false,vb 10 false,vi 11 x_95])) .none) .none) .none)
(.br (Nat.ble (s_92.length + s_98.length) 4611686018427387904)
(.run 0 qV0 (mk0 135 [vv 1 (.vs 1 tg_87 l_88),vv 2 (.vs 1 tg_89 l_90),vi 7 x_91,vt 8 (s_92 ++ s_98),vb 9 false,vb 10 false,vi 11 x_95])) .none)))
(.br (decide (x_95 < (w64 (x_91 - 1))))
(.br (Nat.ble (s_92.length + 7) 4611686018427387904)
(.br (Nat.ble ((s_92 ++ [105,102,32,112,32,123,32]).length + s_98.length) 4611686018427387904)
(.br (Nat.ble (((s_92 ++ [105,102,32,112,32,123,32]) ++ s_98).length + 9) 4611686018427387904)
(.run 0 qV0 (mk0 135 [vv 1 (.vs 1 tg_87 l_88),vv 2 (.vs 1 tg_89 l_90),vi 7 x_91,vt 8 (((s_92 ++ [105,102,32,112,32,123,32]) ++ s_98) ++ [125,32,101,108,115,101,32,123,32]),vb 9 false,vb 10 false,vi 11 x_95])) .none) .none) .none)
(.br (Nat.ble (s_92.length + s_98.length) 4611686018427387904)
(.run 0 qV0 (mk0 135 [vv 1 (.vs 1 tg_87 l_88),vv 2 (.vs 1 tg_89 l_90),vi 7 x_91,vt 8 (s_92 ++ s_98),vb 9 false,vb 10 false,vi 11 x_95])) .none)))) = some o) : RL C 6 qV3 (mk0 135 [vv 1 (.vs 1 tg_87 l_88),vv 2 (.vs 1 tg_89 l_90),vi 7 x_91,vt 8 s_92,vb 9 c_93,vb 10 c_94,vi 11 x_95,vb 12 c_96,vb 13 c_97,vt 14 s_98,vb 49 c_99]) = some o := stR C 8 (fun _ _ => by kernel_rfl) ho
theorem p6_13 {x_100 x_104 : Int} {s_101 : List UInt8} {c_102 c_103 c_105 : Bool} (ho : Tr.val C 6
(.br (Nat.ble (s_101.length + 2) 4611686018427387904)
(.run 0 qV8 (mk0 135 [vi 7 x_100,vt 8 (s_101 ++ [125,32]),vb 9 c_102,vb 10 c_103,vi 15 (w64 (x_104 + 1))])) .none) = some o) : RL C 6 [0,5,0,5,0,5,0,5,0,0,5,5,0,0,5,2,3,0,0,5,5] (mk0 135 [vi 7 x_100,vt 8 s_101,vb 9 c_102,vb 10 c_103,vi 15 x_104,vb 82 c_105]) = some o := stR C 6 (fun _ _ => by kernel_rfl) ho
theorem p6_14 {x_106 x_110 : Int} {s_107 : List UInt8} {c_108 c_109 c_111 : Bool} (ho : Tr.val C 6
(.br (Nat.ble (s_107.length + 3) 4611686018427387904)
(cl0 20 [(.str (s_107 ++ [125,32,125]))] fun r5 => .br (AV.pure r5.v)
(.mid 0 [0,5,0,5,0,5,0,5,0,0,5,5,0,0,5,5,0] 3 (mk0 135 [vi 7 x_106,vt 8 s_107,vb 9 c_108,vb 10 c_109,vi 15 x_110,vb 82 c_111,vt 88 s_107,vt 89 (s_107 ++ [125,32,125]),vv 90 r5.v])) .none) .none) = some o) : RL C 6 [0,5,0,5,0,5,0,5,0,0,5,5,0,0,5,5] (mk0 135 [vi 7 x_106,vt 8 s_107,vb 9 c_108,vb 10 c_109,vi 15 x_110,vb 82 c_111]) = some o := stR C 2 (fun _ _ => by kernel_rfl) ho
theorem p6_15 {tg_112 tg_114 c_118 c_119 : Bool} {l_113 l_115 : List AV} {x_116 x_120 : Int} {s_117 : List UInt8} (ho : Tr.val C 6
(.run 0 qV7 (mk0 135 [vv 1 (.vs 1 tg_112 l_113),vv 2 (.vs 1 tg_114 l_115),vi 7 x_116,vt 8 s_117,vb 9 c_118,vb 10 c_119,vi 11 (w64 (x_120 + 1))])) = some o) : RL C 6 qV0 (mk0 135 [vv 1 (.vs 1 tg_112 l_113),vv 2 (.vs 1 tg_114 l_115),vi 7 x_116,vt 8 s_117,vb 9 c_118,vb 10 c_119,vi 11 x_120]) = some o := stR C 3 (fun _ _ => by kernel_rfl) ho
theorem p6_16 {x_106 x_110 x_123 x_124 : Int} {s_107 s_125 : List UInt8} {c_108 c_109 c_111 tg_121 : Bool} {l_122 : List Typ} (ho : Tr.val C 6
(.br (!(decide (x_124 = 0)))
(rt (.bool false))
(.br (!(decide (((l_122.map Typ.av).length : Int) = 1)))
(rt (.bool false))
(.br (decide (0 < ((l_122.map Typ.av).length : Int)))
(.bind (nth (l_122.map Typ.av) 0) fun c6 =>
(.mid 4 [0,5,0,5,0,5,0,5,0,0,5,5,0,0,5,5,0,5,0,0] 12 (mkS 135 [vb 9 c_108,vb 10 c_109,(16,.lp 16 0),vi 18 x_124,vi 94 x_124,vb 95 (!(decide (x_124 = 0))),vb 96 false,(97,.lp 16 0),vv 98 (.vs 6 tg_121 (l_122.map Typ.av)),vi 99 ((l_122.map Typ.av).length : Int),vb 100 (!(decide (((l_122.map Typ.av).length : Int) = 1))),vb 101 (!(decide (((l_122.map Typ.av).length : Int) = 1))),vb 102 false,(103,.lp 16 0),vv 104 (.vs 6 tg_121 (l_122.map Typ.av)),vv 105 (.cptr (AV.cells c6))] [(16,⟨[(.vs 6 tg_121 (l_122.map Typ.av))],[]⟩)] Hp.none 0))) .none))) = some o) : ML C 6 [0,5,0,5,0,5,0,5,0,0,5,5,0,0,5,5,0] 3 (mkS 135 [vi 7 x_106,vt 8 s_107,vb 9 c_108,vb 10 c_109,vi 15 x_110,vb 82 c_111,vt 88 s_107,vt 89 s_125,vv 90 (.tuple [(.agg [(.vs 6 tg_121 (l_122.map Typ.av))]),(i6 x_123),(i6 x_124)])] [] Hp.none 0) = some o := stM C 7 (fun _ _ => by kernel_rfl) ho
theorem p6_17 {c_108 c_109 tg_121 c_127 c_129 : Bool} {l_122 : List Typ} {x_124 x_128 : Int} {t_126 : Typ} (ho : Tr.val C 6
(.br (!(decide (((t_126.ops.map Opn.av).length : Int) = 1)))
(rt (.bool false))
(.run 2 qV9 (mkS 135 [vb 9 c_108,vb 10 c_109,(16,.lp 16 0),vb 110 false] [(16,⟨[(.vs 6 tg_121 (l_122.map Typ.av))],[]⟩)] Hp.none 0))) = some o) : ML C 6 [0,5,0,5,0,5,0,5,0,0,5,5,0,0,5,5,0,5,0,0] 12 (mkS 135 [vb 9 c_108,vb 10 c_109,(16,.lp 16 0),vi 18 x_124,vi 94 x_124,vb 95 c_127,vb 96 false,(97,.lp 16 0),vv 98 (.vs 6 tg_121 (l_122.map Typ.av)),vi 99 x_128,vb 100 c_129,vb 101 c_129,vb 102 false,(103,.lp 16 0),vv 104 (.vs 6 tg_121 (l_122.map Typ.av)),vv 105 (.cptr (Typ.cs t_126))] [(16,⟨[(.vs 6 tg_121 (l_122.map Typ.av))],[]⟩)] Hp.none 0) = some o := stM C 4 (fun _ _ => by kernel_rfl) ho
theorem p6_18 {c_130 c_131 c_132 tg_133 : Bool} {l_134 : List Typ} (ho : Tr.val C 6
(.br c_130
(.run 0 qV6 (mkS 135 [vb 10 c_131,(16,.lp 16 0),vi 19 1] [(16,⟨[(.vs 6 tg_133 (l_134.map Typ.av))],[]⟩)] Hp.none 0))
(.run 0 qV6 (mkS 135 [vb 10 c_131,(16,.lp 16 0),vi 19 0,vb 111 false] [(16,⟨[(.vs 6 tg_133 (l_134.map Typ.av))],[]⟩)] Hp.none 0))) = some o) : RL C 6 qV9 (mkS 135 [vb 9 c_130,vb 10 c_131,(16,.lp 16 0),vb 110 c_132] [(16,⟨[(.vs 6 tg_133 (l_134.map Typ.av))],[]⟩)] Hp.none 0) = some o := stR C 7 (fun _ _ => by kernel_rfl) ho
theorem p6_19 {c_135 tg_137 : Bool} {x_136 : Int} {l_138 : List Typ} (ho : Tr.val C 6
(.br c_135
(.run 0 qV4 (mkS 135 [(16,.lp 16 0),vi 19 2] [(16,⟨[(.vs 6 tg_137 (l_138.map Typ.av))],[]⟩)] Hp.none 0))
(.run 0 qV4 (mkS 135 [(16,.lp 16 0),vi 19 x_136,vb 112 false] [(16,⟨[(.vs 6 tg_137 (l_138.map Typ.av))],[]⟩)] Hp.none 0))) = some o) : RL C 6 qV6 (mkS 135 [vb 10 c_135,(16,.lp 16 0),vi 19 x_136] [(16,⟨[(.vs 6 tg_137 (l_138.map Typ.av))],[]⟩)] Hp.none 0) = some o := stR C 5 (fun _ _ => by kernel_rfl) ho
theorem p6_20 {c_139 c_141 tg_142 : Bool} {x_140 : Int} {l_143 : List Typ} (ho : Tr.val C 6
(.br c_139
(.run 0 qV4 (mkS 135 [(16,.lp 16 0),vi 19 2] [(16,⟨[(.vs 6 tg_142 (l_143.map Typ.av))],[]⟩)] Hp.none 0))
(.run 0 qV4 (mkS 135 [(16,.lp 16 0),vi 19 x_140,vb 112 false] [(16,⟨[(.vs 6 tg_142 (l_143.map Typ.av))],[]⟩)] Hp.none 0))) = some o) : RL C 6 qV6 (mkS 135 [vb 10 c_139,(16,.lp 16 0),vi 19 x_140,vb 111 c_141] [(16,⟨[(.vs 6 tg_142 (l_143.map Typ.av))],[]⟩)] Hp.none 0) = some o := stR C 5 (fun _ _ => by kernel_rfl) ho
theorem p6_21 {x_144 : Int} {tg_145 : Bool} {l_146 : List Typ} (ho : Tr.val C 6
(.br (decide (0 < ((l_146.map Typ.av).length : Int)))
(.bind (nth (l_146.map Typ.av) 0) fun c7 =>
(.mid 0 qV1 3 (mkS 135 [(16,.lp 16 0),vi 19 x_144,(113,.lp 16 0),vv 114 (.vs 6 tg_145 (l_146.map Typ.av)),vv 115 (.cptr (AV.cells c7))] [(16,⟨[(.vs 6 tg_145 (l_146.map Typ.av))],[]⟩)] Hp.none 0))) .none) = some o) : RL C 6 qV4 (mkS 135 [(16,.lp 16 0),vi 19 x_144] [(16,⟨[(.vs 6 tg_145 (l_146.map Typ.av))],[]⟩)] Hp.none 0) = some o := stR C 2 (fun _ _ => by kernel_rfl) ho
theorem p6_22 {x_147 : Int} {c_148 tg_149 : Bool} {l_150 : List Typ} (ho : Tr.val C 6
(.br (decide (0 < ((l_150.map Typ.av).length : Int)))
(.bind (nth (l_150.map Typ.av) 0) fun c8 =>
(.mid 0 qV1 3 (mkS 135 [(16,.lp 16 0),vi 19 x_147,vb 112 c_148,(113,.lp 16 0),vv 114 (.vs 6 tg_149 (l_150.map Typ.av)),vv 115 (.cptr (AV.cells c8))] [(16,⟨[(.vs 6 tg_149 (l_150.map Typ.av))],[]⟩)] Hp.none 0))) .none) = some o) : RL C 6 qV4 (mkS 135 [(16,.lp 16 0),vi 19 x_147,vb 112 c_148] [(16,⟨[(.vs 6 tg_149 (l_150.map Typ.av))],[]⟩)] Hp.none 0) = some o := stR C 2 (fun _ _ => by kernel_rfl) ho
theorem p6_23 {x_144 : Int} {tg_145 : Bool} {l_146 : List Typ} {t_151 : Typ} (ho : Tr.val C 6
(.br (decide (0 < ((t_151.ops.map Opn.av).length : Int)))
(.bind (nth (t_151.ops.map Opn.av) 0) fun c9 =>
(.mid 0 qV1 6 (mkS 135 [(16,.lp 16 0),vi 19 x_144,(113,.lp 16 0),vv 114 (.vs 6 tg_145 (l_146.map Typ.av)),vv 115 (.cptr (Typ.cs t_151)),vv 116 (.cptr [(.vs 4 t_151.tgO (t_151.ops.map Opn.av)),(.vs 8 t_151.tgQ (t_151.qrys.map Qry.av)),(.vs 2 t_151.tgI (t_151.idxs.map Idx.av)),(i6 t_151.at_)]),vv 117 (.vs 4 t_151.tgO (t_151.ops.map Opn.av)),vv 118 (.cptr (AV.cells c9))] [(16,⟨[(.vs 6 tg_145 (l_146.map Typ.av))],[]⟩)] Hp.none 0))) .none) = some o) : ML C 6 qV1 3 (mkS 135 [(16,.lp 16 0),vi 19 x_144,(113,.lp 16 0),vv 114 (.vs 6 tg_145 (l_146.map Typ.av)),vv 115 (.cptr (Typ.cs t_151))] [(16,⟨[(.vs 6 tg_145 (l_146.map Typ.av))],[]⟩)] Hp.none 0) = some o := stM C 0 (fun _ _ => by kernel_rfl) ho
theorem p6_24 {x_147 : Int} {c_148 tg_149 : Bool} {l_150 : List Typ} {t_152 : Typ} (ho : Tr.val C 6
(.br (decide (0 < ((t_152.ops.map Opn.av).length : Int)))
(.bind (nth (t_152.ops.map Opn.av) 0) fun c10 =>
(.mid 0 qV1 6 (mkS 135 [(16,.lp 16 0),vi 19 x_147,vb 112 c_148,(113,.lp 16 0),vv 114 (.vs 6 tg_149 (l_150.map Typ.av)),vv 115 (.cptr (Typ.cs t_152)),vv 116 (.cptr [(.vs 4 t_152.tgO (t_152.ops.map Opn.av)),(.vs 8 t_152.tgQ (t_152.qrys.map Qry.av)),(.vs 2 t_152.tgI (t_152.idxs.map Idx.av)),(i6 t_152.at_)]),vv 117 (.vs 4 t_152.tgO (t_152.ops.map Opn.av)),vv 118 (.cptr (AV.cells c10))] [(16,⟨[(.vs 6 tg_149 (l_150.map Typ.av))],[]⟩)] Hp.none 0))) .none) = some o) : ML C 6 qV1 3 (mkS 135 [(16,.lp 16 0),vi 19 x_147,vb 112 c_148,(113,.lp 16 0),vv 114 (.vs 6 tg_149 (l_150.map Typ.av)),vv 115 (.cptr (Typ.cs t_152))] [(16,⟨[(.vs 6 tg_149 (l_150.map Typ.av))],[]⟩)] Hp.none 0) = some o := stM C 0 (fun _ _ => by kernel_rfl) ho
theorem p6_25 {x_144 : Int} {tg_145 : Bool} {l_146 : List Typ} {t_151 : Typ} {u_153 : Opn} (ho : Tr.val C 6
(cl0 16 [(.agg (Opn.cs u_153))] fun r11 => .br (AV.pure r11.v)
(.mid 0 qV1 8 (mkS 135 [(16,.lp 16 0),vi 19 x_144,(113,.lp 16 0),vv 114 (.vs 6 tg_145 (l_146.map Typ.av)),vv 115 (.cptr (Typ.cs t_151)),vv 116 (.cptr [(.vs 4 t_151.tgO (t_151.ops.map Opn.av)),(.vs 8 t_151.tgQ (t_151.qrys.map Qry.av)),(.vs 2 t_151.tgI (t_151.idxs.map Idx.av)),(i6 t_151.at_)]),vv 117 (.vs 4 t_151.tgO (t_151.ops.map Opn.av)),vv 118 (.cptr (Opn.cs u_153)),vv 119 (.agg (Opn.cs u_153)),vv 120 r11.v] [(16,⟨[(.vs 6 tg_145 (l_146.map Typ.av))],[]⟩)] Hp.none 0)) .none) = some o) : ML C 6 qV1 6 (mkS 135 [(16,.lp 16 0),vi 19 x_144,(113,.lp 16 0),vv 114 (.vs 6 tg_145 (l_146.map Typ.av)),vv 115 (.cptr (Typ.cs t_151)),vv 116 (.cptr [(.vs 4 t_151.tgO (t_151.ops.map Opn.av)),(.vs 8 t_151.tgQ (t_151.qrys.map Qry.av)),(.vs 2 t_151.tgI (t_151.idxs.map Idx.av)),(i6 t_151.at_)]),vv 117 (.vs 4 t_151.tgO (t_151.ops.map Opn.av)),vv 118 (.cptr (Opn.cs u_153))] [(16,⟨[(.vs 6 tg_145 (l_146.map Typ.av))],[]⟩)] Hp.none 0) = some o := stM C 0 (fun _ _ => by kernel_rfl) ho
theorem p6_26 {x_147 : Int} {c_148 tg_149 : Bool} {l_150 : List Typ} {t_152 : Typ} {u_154 : Opn} (ho : Tr.val C 6
(cl0 16 [(.agg (Opn.cs u_154))] fun r12 => .br (AV.pure r12.v)
(.mid 0 qV1 8 (mkS 135 [(16,.lp 16 0),vi 19 x_147,vb 112 c_148,(113,.lp 16 0),vv 114 (.vs 6 tg_149 (l_150.map Typ.av)),vv 115 (.cptr (Typ.cs t_152)),vv 116 (.cptr [(.vs 4 t_152.tgO (t_152.ops.map Opn.av)),(.vs 8 t_152.tgQ (t_152.qrys.map Qry.av)),(.vs 2 t_152.tgI (t_152.idxs.map Idx.av)),(i6 t_152.at_)]),vv 117 (.vs 4 t_152.tgO (t_152.ops.map Opn.av)),vv 118 (.cptr (Opn.cs u_154)),vv 119 (.agg (Opn.cs u_154)),vv 120 r12.v] [(16,⟨[(.vs 6 tg_149 (l_150.map Typ.av))],[]⟩)] Hp.none 0)) .none) = some o) : ML C 6 qV1 6 (mkS 135 [(16,.lp 16 0),vi 19 x_147,vb 112 c_148,(113,.lp 16 0),vv 114 (.vs 6 tg_149 (l_150.map Typ.av)),vv 115 (.cptr (Typ.cs t_152)),vv 116 (.cptr [(.vs 4 t_152.tgO (t_152.ops.map Opn.av)),(.vs 8 t_152.tgQ (t_152.qrys.map Qry.av)),(.vs 2 t_152.tgI (t_152.idxs.map Idx.av)),(i6 t_152.at_)]),vv 117 (.vs 4 t_152.tgO (t_152.ops.map Opn.av)),vv 118 (.cptr (Opn.cs u_154))] [(16,⟨[(.vs 6 tg_149 (l_150.map Typ.av))],[]⟩)] Hp.none 0) = some o := stM C 0 (fun _ _ => by kernel_rfl) ho
theorem p6_27 {x_144 x_155 : Int} {tg_145 : Bool} {l_146 : List Typ} {t_151 : Typ} {u_153 : Opn} (ho : Tr.val C 6
(.br (decide (x_155 = x_144))
(cl0 21 [(.agg [(.vs 6 tg_145 (l_146.map Typ.av))])] fun r13 => .br (AV.pure r13.v)
(.mid 1 qV1 15 (mkS 135 [(16,.lp 16 0),vi 19 x_144,(113,.lp 16 0),vv 114 (.vs 6 tg_145 (l_146.map Typ.av)),vv 115 (.cptr (Typ.cs t_151)),vv 116 (.cptr [(.vs 4 t_151.tgO (t_151.ops.map Opn.av)),(.vs 8 t_151.tgQ (t_151.qrys.map Qry.av)),(.vs 2 t_151.tgI (t_151.idxs.map Idx.av)),(i6 t_151.at_)]),vv 117 (.vs 4 t_151.tgO (t_151.ops.map Opn.av)),vv 118 (.cptr (Opn.cs u_153)),vv 119 (.agg (Opn.cs u_153)),vi 120 x_155,vi 121 x_144,vb 122 (decide (x_155 = x_144)),vb 123 true,vi 124 x_144,vb 125 (!(decide (x_144 = 0))),vv 126 (.agg [(.vs 6 tg_145 (l_146.map Typ.av))]),vv 127 r13.v] [(16,⟨[(.vs 6 tg_145 (l_146.map Typ.av))],[]⟩)] Hp.none 0)) .none)
(rt (.bool false))) = some o) : ML C 6 qV1 8 (mkS 135 [(16,.lp 16 0),vi 19 x_144,(113,.lp 16 0),vv 114 (.vs 6 tg_145 (l_146.map Typ.av)),vv 115 (.cptr (Typ.cs t_151)),vv 116 (.cptr [(.vs 4 t_151.tgO (t_151.ops.map Opn.av)),(.vs 8 t_151.tgQ (t_151.qrys.map Qry.av)),(.vs 2 t_151.tgI (t_151.idxs.map Idx.av)),(i6 t_151.at_)]),vv 117 (.vs 4 t_151.tgO (t_151.ops.map Opn.av)),vv 118 (.cptr (Opn.cs u_153)),vv 119 (.agg (Opn.cs u_153)),vi 120 x_155] [(16,⟨[(.vs 6 tg_145 (l_146.map Typ.av))],[]⟩)] Hp.none 0) = some o := stM C 1 (fun _ _ => by kernel_rfl) ho
theorem p6_28 {x_147 x_156 : Int} {c_148 tg_149 : Bool} {l_150 : List Typ} {t_152 : Typ} {u_154 : Opn} (ho : Tr.val C 6
(.br (decide (x_156 = x_147))
(cl0 21 [(.agg [(.vs 6 tg_149 (l_150.map Typ.av))])] fun r14 => .br (AV.pure r14.v)
(.mid 1 qV1 15 (mkS 135 [(16,.lp 16 0),vi 19 x_147,vb 112 c_148,(113,.lp 16 0),vv 114 (.vs 6 tg_149 (l_150.map Typ.av)),vv 115 (.cptr (Typ.cs t_152)),vv 116 (.cptr [(.vs 4 t_152.tgO (t_152.ops.map Opn.av)),(.vs 8 t_152.tgQ (t_152.qrys.map Qry.av)),(.vs 2 t_152.tgI (t_152.idxs.map Idx.av)),(i6 t_152.at_)]),vv 117 (.vs 4 t_152.tgO (t_152.ops.map Opn.av)),vv 118 (.cptr (Opn.cs u_154)),vv 119 (.agg (Opn.cs u_154)),vi 120 x_156,vi 121 x_147,vb 122 (decide (x_156 = x_147)),vb 123 true,vi 124 x_147,vb 125 (!(decide (x_147 = 0))),vv 126 (.agg [(.vs 6 tg_149 (l_150.map Typ.av))]),vv 127 r14.v] [(16,⟨[(.vs 6 tg_149 (l_150.map Typ.av))],[]⟩)] Hp.none 0)) .none)
(rt (.bool false))) = some o) : ML C 6 qV1 8 (mkS 135 [(16,.lp 16 0),vi 19 x_147,vb 112 c_148,(113,.lp 16 0),vv 114 (.vs 6 tg_149 (l_150.map Typ.av)),vv 115 (.cptr (Typ.cs t_152)),vv 116 (.cptr [(.vs 4 t_152.tgO (t_152.ops.map Opn.av)),(.vs 8 t_152.tgQ (t_152.qrys.map Qry.av)),(.vs 2 t_152.tgI (t_152.idxs.map Idx.av)),(i6 t_152.at_)]),vv 117 (.vs 4 t_152.tgO (t_152.ops.map Opn.av)),vv 118 (.cptr (Opn.cs u_154)),vv 119 (.agg (Opn.cs u_154)),vi 120 x_156] [(16,⟨[(.vs 6 tg_149 (l_150.map Typ.av))],[]⟩)] Hp.none 0) = some o := stM C 1 (fun _ _ => by kernel_rfl) ho
theorem p6_29 {x_144 x_155 : Int} {tg_145 tg_157 c_159 c_160 : Bool} {l_146 : List Typ} {t_151 : Typ} {u_153 : Opn} {l_158 : List Dg} (ho : Tr.val C 6
(.br (c_160 == (decide (((l_158.map Dg.av).length : Int) = 0)))
(cl0 14 [] fun r15 => .br (AV.pure r15.v)
(.mid 1 qV1 21 (mkS 135 [(16,.lp 16 0),vi 19 x_144,(113,.lp 16 0),vv 114 (.vs 6 tg_145 (l_146.map Typ.av)),vv 115 (.cptr (Typ.cs t_151)),vv 116 (.cptr [(.vs 4 t_151.tgO (t_151.ops.map Opn.av)),(.vs 8 t_151.tgQ (t_151.qrys.map Qry.av)),(.vs 2 t_151.tgI (t_151.idxs.map Idx.av)),(i6 t_151.at_)]),vv 117 (.vs 4 t_151.tgO (t_151.ops.map Opn.av)),vv 118 (.cptr (Opn.cs u_153)),vv 119 (.agg (Opn.cs u_153)),vi 120 x_155,vi 121 x_144,vb 122 c_159,vb 123 true,vi 124 x_144,vb 125 c_160,vv 126 (.agg [(.vs 6 tg_145 (l_146.map Typ.av))]),vv 127 (.vs 2 tg_157 (l_158.map Dg.av)),vi 128 ((l_158.map Dg.av).length : Int),vb 129 (decide (((l_158.map Dg.av).length : Int) = 0)),vb 130 (c_160 == (decide (((l_158.map Dg.av).length : Int) = 0))),vb 131 (c_160 == (decide (((l_158.map Dg.av).length : Int) = 0))),vb 132 true,vv 133 r15.v] [(16,⟨[(.vs 6 tg_145 (l_146.map Typ.av))],[]⟩)] Hp.none 0)) .none)
(rt (.bool false))) = some o) : ML C 6 qV1 15 (mkS 135 [(16,.lp 16 0),vi 19 x_144,(113,.lp 16 0),vv 114 (.vs 6 tg_145 (l_146.map Typ.av)),vv 115 (.cptr (Typ.cs t_151)),vv 116 (.cptr [(.vs 4 t_151.tgO (t_151.ops.map Opn.av)),(.vs 8 t_151.tgQ (t_151.qrys.map Qry.av)),(.vs 2 t_151.tgI (t_151.idxs.map Idx.av)),(i6 t_151.at_)]),vv 117 (.vs 4 t_151.tgO (t_151.ops.map Opn.av)),vv 118 (.cptr (Opn.cs u_153)),vv 119 (.agg (Opn.cs u_153)),vi 120 x_155,vi 121 x_144,vb 122 c_159,vb 123 true,vi 124 x_144,vb 125 c_160,vv 126 (.agg [(.vs 6 tg_145 (l_146.map Typ.av))]),vv 127 (.vs 2 tg_157 (l_158.map Dg.av))] [(16,⟨[(.vs 6 tg_145 (l_146.map Typ.av))],[]⟩)] Hp.none 0) = some o := stM C 1 (fun _ _ => by kernel_rfl) ho
theorem p6_30 {x_147 x_156 : Int} {c_148 tg_149 tg_161 c_163 c_164 : Bool} {l_150 : List Typ} {t_152 : Typ} {u_154 : Opn} {l_162 : List Dg} (ho : Tr.val C 6
(.br (c_164 == (decide (((l_162.map Dg.av).length : Int) = 0)))
(cl0 14 [] fun r16 => .br (AV.pure r16.v)
(.mid 1 qV1 21 (mkS 135 [(16,.lp 16 0),vi 19 x_147,vb 112 c_148,(113,.lp 16 0),vv 114 (.vs 6 tg_149 (l_150.map Typ.av)),vv 115 (.cptr (Typ.cs t_152)),vv 116 (.cptr [(.vs 4 t_152.tgO (t_152.ops.map Opn.av)),(.vs 8 t_152.tgQ (t_152.qrys.map Qry.av)),(.vs 2 t_152.tgI (t_152.idxs.map Idx.av)),(i6 t_152.at_)]),vv 117 (.vs 4 t_152.tgO (t_152.ops.map Opn.av)),vv 118 (.cptr (Opn.cs u_154)),vv 119 (.agg (Opn.cs u_154)),vi 120 x_156,vi 121 x_147,vb 122 c_163,vb 123 true,vi 124 x_147,vb 125 c_164,vv 126 (.agg [(.vs 6 tg_149 (l_150.map Typ.av))]),vv 127 (.vs 2 tg_161 (l_162.map Dg.av)),vi 128 ((l_162.map Dg.av).length : Int),vb 129 (decide (((l_162.map Dg.av).length : Int) = 0)),vb 130 (c_164 == (decide (((l_162.map Dg.av).length : Int) = 0))),vb 131 (c_164 == (decide (((l_162.map Dg.av).length : Int) = 0))),vb 132 true,vv 133 r16.v] [(16,⟨[(.vs 6 tg_149 (l_150.map Typ.av))],[]⟩)] Hp.none 0)) .none)
(rt (.bool false))) = some o) : ML C 6 qV1 15 (mkS 135 [(16,.lp 16 0),vi 19 x_147,vb 112 c_148,(113,.lp 16 0),vv 114 (.vs 6 tg_149 (l_150.map Typ.av)),vv 115 (.cptr (Typ.cs t_152)),vv 116 (.cptr [(.vs 4 t_152.tgO (t_152.ops.map Opn.av)),(.vs 8 t_152.tgQ (t_152.qrys.map Qry.av)),(.vs 2 t_152.tgI (t_152.idxs.map Idx.av)),(i6 t_152.at_)]),vv 117 (.vs 4 t_152.tgO (t_152.ops.map Opn.av)),vv 118 (.cptr (Opn.cs u_154)),vv 119 (.agg (Opn.cs u_154)),vi 120 x_156,vi 121 x_147,vb 122 c_163,vb 123 true,vi 124 x_147,vb 125 c_164,vv 126 (.agg [(.vs 6 tg_149 (l_150.map Typ.av))]),vv 127 (.vs 2 tg_161 (l_162.map Dg.av))] [(16,⟨[(.vs 6 tg_149 (l_150.map Typ.av))],[]⟩)] Hp.none 0) = some o := stM C 1 (fun _ _ => by kernel_rfl) ho
theorem p6_31 {x_144 x_155 x_166 : Int} {tg_145 tg_157 c_159 c_160 c_165 c_167 c_168 : Bool} {l_146 : List Typ} {t_151 : Typ} {u_153 : Opn} {l_158 : List Dg} (ho : Tr.val C 6
(rt (.bool c_165)) = some o) : ML C 6 qV1 21 (mkS 135 [(16,.lp 16 0),vi 19 x_144,(113,.lp 16 0),vv 114 (.vs 6 tg_145 (l_146.map Typ.av)),vv 115 (.cptr (Typ.cs t_151)),vv 116 (.cptr [(.vs 4 t_151.tgO (t_151.ops.map Opn.av)),(.vs 8 t_151.tgQ (t_151.qrys.map Qry.av)),(.vs 2 t_151.tgI (t_151.idxs.map Idx.av)),(i6 t_151.at_)]),vv 117 (.vs 4 t_151.tgO (t_151.ops.map Opn.av)),vv 118 (.cptr (Opn.cs u_153)),vv 119 (.agg (Opn.cs u_153)),vi 120 x_155,vi 121 x_144,vb 122 c_159,vb 123 true,vi 124 x_144,vb 125 c_160,vv 126 (.agg [(.vs 6 tg_145 (l_146.map Typ.av))]),vv 127 (.vs 2 tg_157 (l_158.map Dg.av)),vi 128 x_166,vb 129 c_167,vb 130 c_168,vb 131 c_168,vb 132 true,vb 133 c_165] [(16,⟨[(.vs 6 tg_145 (l_146.map Typ.av))],[]⟩)] Hp.none 0) = some o := stM C 1 (fun _ _ => by kernel_rfl) ho
theorem p6_32 {x_147 x_156 x_170 : Int} {c_148 tg_149 tg_161 c_163 c_164 c_169 c_171 c_172 : Bool} {l_150 : List Typ} {t_152 : Typ} {u_154 : Opn} {l_162 : List Dg} (ho : Tr.val C 6
(rt (.bool c_169)) = some o) : ML C 6 qV1 21 (mkS 135 [(16,.lp 16 0),vi 19 x_147,vb 112 c_148,(113,.lp 16 0),vv 114 (.vs 6 tg_149 (l_150.map Typ.av)),vv 115 (.cptr (Typ.cs t_152)),vv 116 (.cptr [(.vs 4 t_152.tgO (t_152.ops.map Opn.av)),(.vs 8 t_152.tgQ (t_152.qrys.map Qry.av)),(.vs 2 t_152.tgI (t_152.idxs.map Idx.av)),(i6 t_152.at_)]),vv 117 (.vs 4 t_152.tgO (t_152.ops.map Opn.av)),vv 118 (.cptr (Opn.cs u_154)),vv 119 (.agg (Opn.cs u_154)),vi 120 x_156,vi 121 x_147,vb 122 c_163,vb 123 true,vi 124 x_147,vb 125 c_164,vv 126 (.agg [(.vs 6 tg_149 (l_150.map Typ.av))]),vv 127 (.vs 2 tg_161 (l_162.map Dg.av)),vi 128 x_170,vb 129 c_171,vb 130 c_172,vb 131 c_172,vb 132 true,vb 133 c_169] [(16,⟨[(.vs 6 tg_149 (l_150.map Typ.av))],[]⟩)] Hp.none 0) = some o := stM C 1 (fun _ _ => by kernel_rfl) ho
end Go.Proofs.YtfdklpkfpmkgeaaGreatDoor
end
section
namespace Go.Proofs.YtfdklpkfpmkgeaaGreatDoor
open Go Go.Vai
attribute [local irreducible] goTo zaq mkS
variable {C : Nat → Oracle} {o : Out}
variable {C : Nat → Oracle} (hC : Ext C)
include hC
theorem q163e : calL C 163 [(.int .u64 0)] Hp.none 0 = some ⟨(i6 0),Hp.none,0⟩ :=
  hC.call (S := (mk0 25 [vv 0 (.int .u64 0)])) rfl (fun _ _ => by kernel_rfl) (stR C 60 (t := .ret ⟨(i6 0),Hp.none,0⟩) (fun _ _ => by kernel_rfl) (rfl))
theorem q96e : calL C 96 [(.int .u64 0)] Hp.none 0 = some ⟨(i6 0),Hp.none,0⟩ :=
  hC.call (S := (mk0 8 [vv 0 (.int .u64 0)])) rfl (fun _ _ => by kernel_rfl) (stR C 60 (t := .br (zab [(.int .u64 0)]) (.call 163 [(.int .u64 0)] Hp.none 0 fun r => .br (AV.pure r.v) (rt r.v) .none) .none) (fun _ _ => by kernel_rfl) (by show (calL C 163 _ _ _).bind _ = _; rw [q163e hC]; rfl))
theorem q154e (T : Hp) (nx : Nat) (tg : Bool) : calL C 154 [(.vs 2 tg (List.map Dg.av [])),(i6 0),(i6 0),(.func 50 [])] (hD tg [] T) nx = some ⟨.tuple [],(hD tg [] T),nx⟩ :=
  hC.call (S := (mkS 53 [vv 0 (.vs 2 tg (List.map Dg.av [])),vi 1 0,vi 2 0,vv 3 (.func 50 [])] [] (hD tg [] T) nx)) rfl (fun _ _ => by kernel_rfl) (stR C 60 (t := .ret ⟨.tuple [],hD tg [] T,nx⟩) (fun _ _ => by kernel_rfl) (rfl))
theorem q95e (T : Hp) (nx : Nat) (tg : Bool) : calL C 95 [(.vs 2 tg (List.map Dg.av [])),(i6 0),(i6 0),(i6 0),(.func 50 [])] (hD tg [] T) nx = some ⟨.tuple [],(hD tg [] T),nx⟩ :=
  hC.call (S := (mkS 148 [vv 0 (.vs 2 tg (List.map Dg.av [])),vi 1 0,vi 2 0,vi 3 0,vv 4 (.func 50 [])] [] (hD tg [] T) nx)) rfl (fun _ _ => by kernel_rfl) (stR C 60 (t := .call 154 [(.vs 2 tg (List.map Dg.av [])),(i6 0),(i6 0),(.func 50 [])] (hD tg [] T) nx fun r => .ret ⟨.tuple [],r.H,r.nx⟩) (fun _ _ => by kernel_rfl) (by show (calL C 154 _ _ _).bind _ = _; rw [q154e hC]; rfl))
theorem q49e (T : Hp) (nx : Nat) (tg : Bool) : calL C 49 [(.vs 2 tg (List.map Dg.av [])),(.func 50 [])] (hD tg [] T) nx = some ⟨.tuple [],(hD tg [] T),nx⟩ :=
  hC.call (S := (mkS 14 [vv 0 (.vs 2 tg (List.map Dg.av [])),vv 1 (.func 50 [])] [] (hD tg [] T) nx)) rfl (fun _ _ => by kernel_rfl) (stR C 60 (t := .br (zab [(.int .u64 0)]) (.call 96 [(.int .u64 0)] Hp.none 0 fun r => .br (AV.pure r.v) (.call 95 [(.vs 2 tg (List.map Dg.av [])),(i6 0),(i6 0),r.v,(.func 50 [])] (hD tg [] T) nx fun q => .ret ⟨.tuple [],q.H,q.nx⟩) .none) .none) (fun _ _ => by kernel_rfl) (by show (calL C 96 _ _ _).bind _ = _; rw [q96e hC]; show (calL C 95 _ _ _).bind _ = _; rw [q95e hC]; rfl))
theorem q51e (T : Hp) (nx : Nat) (tg : Bool) : calL C 51 [(.vs 2 tg (List.map Dg.av []))] (hD tg [] T) nx = some ⟨(.vs 2 tg (List.map Dg.av [])),(hD tg [] T),nx⟩ :=
  hC.call (S := (mkS 61 [vv 0 (.vs 2 tg (List.map Dg.av []))] [] (hD tg [] T) nx)) rfl (fun _ _ => by kernel_rfl) (stR C 60 (t := .ret ⟨(.vs 2 tg (List.map Dg.av [])),hD tg [] T,nx⟩) (fun _ _ => by kernel_rfl) (rfl))
theorem q163o : calL C 163 [(.int .u64 1)] Hp.none 0 = some ⟨(i6 1),Hp.none,0⟩ :=
  hC.call (S := (mk0 25 [vv 0 (.int .u64 1)])) rfl (fun _ _ => by kernel_rfl) (stR C 60 (t := .ret ⟨(i6 1),Hp.none,0⟩) (fun _ _ => by kernel_rfl) (rfl))
theorem q96o : calL C 96 [(.int .u64 1)] Hp.none 0 = some ⟨(i6 1),Hp.none,0⟩ :=
  hC.call (S := (mk0 8 [vv 0 (.int .u64 1)])) rfl (fun _ _ => by kernel_rfl) (stR C 60 (t := .br (zab [(.int .u64 1)]) (.call 163 [(.int .u64 1)] Hp.none 0 fun r => .br (AV.pure r.v) (rt r.v) .none) .none) (fun _ _ => by kernel_rfl) (by show (calL C 163 _ _ _).bind _ = _; rw [q163o hC]; rfl))
theorem q154o (T : Hp) (nx : Nat) (tg : Bool) (d : Dg) : calL C 154 [(.vs 2 tg (List.map Dg.av [d])),(i6 0),(i6 1),(.func 50 [])] (hD tg [d] T) nx = some ⟨.tuple [],(hD tg [d] T),nx⟩ :=
  hC.call (S := (mkS 53 [vv 0 (.vs 2 tg (List.map Dg.av [d])),vi 1 0,vi 2 1,vv 3 (.func 50 [])] [] (hD tg [d] T) nx)) rfl (fun _ _ => by kernel_rfl) (stR C 60 (t := .ret ⟨.tuple [],hD tg [d] T,nx⟩) (fun _ _ => by kernel_rfl) (rfl))
theorem q95o (T : Hp) (nx : Nat) (tg : Bool) (d : Dg) : calL C 95 [(.vs 2 tg (List.map Dg.av [d])),(i6 0),(i6 1),(i6 1),(.func 50 [])] (hD tg [d] T) nx = some ⟨.tuple [],(hD tg [d] T),nx⟩ :=
  hC.call (S := (mkS 148 [vv 0 (.vs 2 tg (List.map Dg.av [d])),vi 1 0,vi 2 1,vi 3 1,vv 4 (.func 50 [])] [] (hD tg [d] T) nx)) rfl (fun _ _ => by kernel_rfl) (stR C 60 (t := .call 154 [(.vs 2 tg (List.map Dg.av [d])),(i6 0),(i6 1),(.func 50 [])] (hD tg [d] T) nx fun r => .ret ⟨.tuple [],r.H,r.nx⟩) (fun _ _ => by kernel_rfl) (by show (calL C 154 _ _ _).bind _ = _; rw [q154o hC]; rfl))
theorem q49o (T : Hp) (nx : Nat) (tg : Bool) (d : Dg) : calL C 49 [(.vs 2 tg (List.map Dg.av [d])),(.func 50 [])] (hD tg [d] T) nx = some ⟨.tuple [],(hD tg [d] T),nx⟩ :=
  hC.call (S := (mkS 14 [vv 0 (.vs 2 tg (List.map Dg.av [d])),vv 1 (.func 50 [])] [] (hD tg [d] T) nx)) rfl (fun _ _ => by kernel_rfl) (stR C 60 (t := .br (zab [(.int .u64 1)]) (.call 96 [(.int .u64 1)] Hp.none 0 fun r => .br (AV.pure r.v) (.call 95 [(.vs 2 tg (List.map Dg.av [d])),(i6 0),(i6 1),r.v,(.func 50 [])] (hD tg [d] T) nx fun q => .ret ⟨.tuple [],q.H,q.nx⟩) .none) .none) (fun _ _ => by kernel_rfl) (by show (calL C 96 _ _ _).bind _ = _; rw [q96o hC]; show (calL C 95 _ _ _).bind _ = _; rw [q95o hC]; rfl))
theorem q51o (T : Hp) (nx : Nat) (tg : Bool) (d : Dg) : calL C 51 [(.vs 2 tg (List.map Dg.av [d]))] (hD tg [d] T) nx = some ⟨(.vs 2 tg (List.map Dg.av [d])),(hD tg [d] T),nx⟩ :=
  hC.call (S := (mkS 61 [vv 0 (.vs 2 tg (List.map Dg.av [d]))] [] (hD tg [d] T) nx)) rfl (fun _ _ => by kernel_rfl) (stR C 60 (t := .ret ⟨(.vs 2 tg (List.map Dg.av [d])),hD tg [d] T,nx⟩) (fun _ _ => by kernel_rfl) (rfl))
end Go.Proofs.YtfdklpkfpmkgeaaGreatDoor
end
section
namespace Go.Proofs.YtfdklpkfpmkgeaaGreatDoor
open Go Go.Vai
attribute [local irreducible] goTo zaq mkS
set_option maxHeartbeats 40000000
def bls (l : List Bool) : List AV := l.map AV.bool
theorem zrj (l : List Bool) : (bls l).length = l.length := List.length_map ..
theorem zsj (l : List Bool) (i : Nat) : nth (bls l) i = l[i]?.map AV.bool := zal AV.bool l i
abbrev qA : List Nat := [0,5,0,5,0,5,0,5,0,0,5,2,3]
abbrev qB : List Nat := [0,5,0,5,0,5,0,5,0,0,5,2,3,0,0,5,5]
abbrev qC : List Nat := [0,5,0,5,0,5,0,5,0,0,5,2,3,0,0,5,5,0,2,0,5,0,5,0,5,0,0,5,5]
abbrev qD : List Nat := [0,5,0,5,0,5,0,5,0,0,5,2,3,0,0,5,5,0,2,0,5,0,5,0,5,0,0,5,5,0,0,5,5]
abbrev qE : List Nat := [0,5,0,5,0,5,0,5,0,0,5,5,0,0,5,2,3]
section
variable (t1 : Bool) (ws : List Bool) (t2 : Bool) (es : List Bool) (n : Nat)
abbrev sl6 (s : List UInt8) (o c : Bool) (i : Int) : List (Nat × Slot) := [(1,.val (.vs 1 t1 (bls ws)) .no),(2,.val (.vs 1 t2 (bls es)) .no),(7,.val (.int .i64 (n : Int)) .no),(8,.val (.str s) .no),(9,.val (.bool o) .no),(10,.val (.bool c) .no),(11,.val (.int .i64 i) .no)]
def pce (last : Bool) (b : List UInt8) : List UInt8 := if last = true then b else litIf ++ (b ++ znz)
variable {C : Nat→Oracle} {Q : Out→Prop}
theorem s6_end (hn : n ≤ 6) (i : Nat) (hi : i < n) (s : List UInt8) (hs : s.length ≤ 1000) (o c w e : Bool) (b : List UInt8) (hb : b.length ≤ 100) (z : Bool)
  (K : Was (RL C 6 qA (mkS 135 (sl6 t1 ws t2 es n (s ++ pce (decide (i + 1 = n)) b) (o && (w && !e)) (c && (e && !w)) ((i + 1 : Nat) : Int)) [] Hp.none 0)) Q) :
  Was (RL C 6 qD (mkS 135 (sl6 t1 ws t2 es n s o c (i : Int) ++ [(12,.val (.bool w) .no),(13,.val (.bool e) .no),(14,.val (.str b) .no)]) [] Hp.none 0)) Q ∧
  Was (RL C 6 qD (mkS 135 (sl6 t1 ws t2 es n s o c (i : Int) ++ [(12,.val (.bool w) .no),(13,.val (.bool e) .no),(14,.val (.str b) .no),(49,.val (.bool z) .no)]) [] Hp.none 0)) Q:=by
 have hw : w64 ((n : Int) - 1) = (n : Int) - 1 := zb9 (by omega) (by omega)
 have hw2 : w64 ((i : Int) + 1) = ((i + 1 : Nat) : Int) := by rw [zb9 (by omega) (by omega)]; omega
 constructor
 ·refine exW (fun o=>p6_11) ?_
  simp only [Tr.val,hw]
  by_cases h : i + 1 = n
  ·rw [decide_eq_true h] at K
   cases o <;> cases c <;> cases w <;> cases e
   all_goals
    simp only [za0,zam]
    refine .bF (by omega) (.bL (by omega) (exW (fun o=>p6_15) ?_))
    simp only [Tr.val,hw2]
    exact K
  ·rw [decide_eq_false h] at K
   cases o <;> cases c <;> cases w <;> cases e
   all_goals
    simp only [za0,zam]
    refine .bT (by omega) (.bL (by omega) (.bL (by simp only [List.length_append,List.length_cons,List.length_nil]; omega) (.bL (by simp only [List.length_append,List.length_cons,List.length_nil]; omega) (exW (fun o=>p6_15) ?_))))
    simp only [Tr.val,hw2,List.append_assoc]
    exact K
 ·refine exW (fun o=>p6_12) ?_
  simp only [Tr.val,hw]
  by_cases h : i + 1 = n
  ·rw [decide_eq_true h] at K
   cases o <;> cases c <;> cases w <;> cases e
   all_goals
    simp only [za0,zam]
    refine .bF (by omega) (.bL (by omega) (exW (fun o=>p6_15) ?_))
    simp only [Tr.val,hw2]
    exact K
  ·rw [decide_eq_false h] at K
   cases o <;> cases c <;> cases w <;> cases e
   all_goals
    simp only [za0,zam]
    refine .bT (by omega) (.bL (by omega) (.bL (by simp only [List.length_append,List.length_cons,List.length_nil]; omega) (.bL (by simp only [List.length_append,List.length_cons,List.length_nil]; omega) (exW (fun o=>p6_15) ?_))))
    simp only [Tr.val,hw2,List.append_assoc]
    exact K
theorem s6_body (hn : n ≤ 6) (i : Nat) (hi : i < n) (s : List UInt8) (hs : s.length ≤ 1000) (o c w e : Bool) (z : Bool)
  (K : Was (RL C 6 qA (mkS 135 (sl6 t1 ws t2 es n (s ++ pce (decide (i + 1 = n)) (zky w e)) (o && (w && !e)) (c && (e && !w)) ((i + 1 : Nat) : Int)) [] Hp.none 0)) Q) :
  Was (RL C 6 qC (mkS 135 (sl6 t1 ws t2 es n s o c (i : Int) ++ [(12,.val (.bool w) .no),(13,.val (.bool e) .no),(14,.val (.str (if w = true then litW else [])) .no)]) [] Hp.none 0)) Q ∧
  Was (RL C 6 qC (mkS 135 (sl6 t1 ws t2 es n s o c (i : Int) ++ [(12,.val (.bool w) .no),(13,.val (.bool e) .no),(14,.val (.str (if w = true then litW else [])) .no),(48,.val (.bool z) .no)]) [] Hp.none 0)) Q:=by
 have hl := zg4 w e
 have hl2 : (if w = true then litW else []).length ≤ 22 := by cases w <;> decide
 have E := s6_end t1 ws t2 es n hn i hi s hs o c w e _ (by omega : (zky w e).length ≤ 100) e K
 constructor
 ·refine exW (fun o=>p6_10) ?_
  simp only [Tr.val]
  cases e
  ·simp only [zam]
   cases w
   ·first | exact E.1 | exact E.2
   ·first | exact E.1 | exact E.2
  ·simp only [za0]
   refine .bL (by omega) ?_
   cases w
   ·first | exact E.1 | exact E.2
   ·first | exact E.1 | exact E.2
 ·refine exW (fun o=>p6_7) ?_
  simp only [Tr.val]
  cases e
  ·simp only [zam]
   cases w
   ·first | exact E.1 | exact E.2
   ·first | exact E.1 | exact E.2
  ·simp only [za0]
   refine .bL (by omega) ?_
   cases w
   ·first | exact E.1 | exact E.2
   ·first | exact E.1 | exact E.2
theorem getD_some {l : List Bool} {i : Nat} (h : i < l.length) : l[i]? = some (l.getD i false) := by simp [h]
theorem zii {l : List Bool} {i : Nat} (h : ¬ i < l.length) : l.getD i false = false:=by
 rw [List.getD_eq_getElem?_getD,List.getElem?_eq_none (by omega)]
 rfl
theorem s6_step (hn : n ≤ 6) (i : Nat) (hi : i < n) (s : List UInt8) (hs : s.length ≤ 1000) (o c z : Bool) (w e : Bool) (hw : ws.getD i false = w) (he : es.getD i false = e)
  (K : Was (RL C 6 qA (mkS 135 (sl6 t1 ws t2 es n (s ++ pce (decide (i + 1 = n)) (zky w e)) (o && (w && !e)) (c && (e && !w)) ((i + 1 : Nat) : Int)) [] Hp.none 0)) Q) :
  Was (RL C 6 qB (mkS 135 (sl6 t1 ws t2 es n s o c (i : Int) ++ [(25,.val (.bool z) .no)]) [] Hp.none 0)) Q:=by
 have B := fun z=>s6_body t1 ws t2 es n hn i hi s hs o c w e z K
 refine exW (fun o=>p6_3) ?_
 simp only [Tr.val,zrj,Int.toNat_natCast,zsj]
 by_cases h1 : i < ws.length
 ·refine .bT (by omega) (.bT (by omega) (.bT (by omega) ?_))
  rw [getD_some h1,hw,Option.map_some,Option.bind_some]
  refine exW (fun o=>p6_5) ?_
  simp only [Tr.val,zrj,Int.toNat_natCast,zsj]
  by_cases h2 : i < es.length
  ·refine .bT (by omega) (.bT (by omega) (.bT (by omega) ?_))
   rw [getD_some h2,he,Option.map_some,Option.bind_some]
   refine exW (fun o=>p6_9) ?_
   simp only [Tr.val]
   cases w
   ·simp only [zam]
    first | exact (B false).2 | exact (B false).1
   ·simp only [za0]
    first | exact (B true).2 | exact (B true).1
  ·rw [zii h2] at he
   subst he
   refine .bF (by omega) ?_
   cases w
   ·simp only [zam]
    first | exact (B false).2 | exact (B false).1
   ·simp only [za0]
    first | exact (B true).2 | exact (B true).1
 ·rw [zii h1] at hw
  subst hw
  refine .bF (by omega) ?_
  by_cases h2 : i < es.length
  ·refine .bT (by omega) (.bT (by omega) (.bT (by omega) ?_))
   rw [getD_some h2,he,Option.map_some,Option.bind_some]
   refine exW (fun o=>p6_6) ?_
   simp only [Tr.val]
   first | exact (B false).2 | exact (B false).1
  ·rw [zii h2] at he
   subst he
   refine .bF (by omega) ?_
   first | exact (B false).2 | exact (B false).1
def prs : Nat→Nat→List (Bool × Bool)
 | _,0=>[]
 | i,k + 1=>(ws.getD i false,es.getD i false) :: prs (i + 1) k
theorem zrf : ∀ k i,(prs ws es i k).length = k
 | 0,_=>rfl
 | k + 1,i=>congrArg (· + 1) (zrf k (i + 1))
theorem zsf (hn : n ≤ 6) : ∀ (k i : Nat),i + k = n→∀ (s : List UInt8),s.length + 50 * k ≤ 1000→∀ o c,
  Was (RL C 6 qE (mkS 135 [(7,.val (.int .i64 (n : Int)) .no),(8,.val (.str (s ++ zgi (prs ws es i k))) .no),(9,.val (.bool (o && ovr (prs ws es i k))) .no),(10,.val (.bool (c && com (prs ws es i k))) .no),(15,.val (.int .i64 1) .no)] [] Hp.none 0)) Q →
  Was (RL C 6 qA (mkS 135 (sl6 t1 ws t2 es n s o c (i : Int)) [] Hp.none 0)) Q
 | 0,i,hi,s,hs,o,c,K=>by
  refine exW (fun o=>p6_2) ?_
  simp only [Tr.val]
  refine .bF (by omega) (exW (fun o=>p6_4) ?_)
  simp only [prs,zgi,List.append_nil,ovr,com,List.all_nil,Bool.and_true] at K
  exact K
 | k + 1,i,hi,s,hs,o,c,K=>by
  refine exW (fun o=>p6_2) ?_
  simp only [Tr.val]
  refine .bT (by omega) ?_
  have hl := zg4 (ws.getD i false) (es.getD i false)
  have hp : ∀ b,(pce b (zky (ws.getD i false) (es.getD i false))).length ≤ 40 := fun b=>by
   unfold pce
   split
   ·omega
   ·simp only [List.length_append,List.length_cons,List.length_nil]
    omega
  refine s6_step t1 ws t2 es n hn i (by omega) s (by omega) o c true _ _ rfl rfl ?_
  refine zsf hn k (i + 1) (by omega) _ (by rw [List.length_append]; have := hp (decide (i + 1 = n)); omega) _ _ ?_
  have e1 : zgi (prs ws es i (k + 1)) = pce (decide (i + 1 = n)) (zky (ws.getD i false) (es.getD i false)) ++ zgi (prs ws es (i + 1) k):=by
   cases k with
   | zero =>
    rw [decide_eq_true (by omega)]
    simp only [prs,zgi,pce,if_true,List.append_nil]
   | succ k =>
    rw [decide_eq_false (by omega)]
    simp only [prs,zgi,pce,List.append_assoc,Bool.false_eq_true,if_false]
  have e2 : (o && ovr (prs ws es i (k + 1))) = ((o && (ws.getD i false && !es.getD i false)) && ovr (prs ws es (i + 1) k)) := (Bool.and_assoc ..).symm
  have e3 : (c && com (prs ws es i (k + 1))) = ((c && (es.getD i false && !ws.getD i false)) && com (prs ws es (i + 1) k)) := (Bool.and_assoc ..).symm
  rw [e1,e2,e3,← List.append_assoc] at K
  exact K
abbrev qF : List Nat := [0,5,0,5,0,5,0,5,0,0,5,5,0,0,5,5]
theorem s6_cl (hn : n ≤ 6) (o c : Bool) : ∀ (k i : Nat),i + k = n→1 ≤ i→∀ (s : List UInt8),s.length + 2 * k ≤ 2000 →
  Was (RL C 6 qF (mkS 135 [(7,.val (.int .i64 (n : Int)) .no),(8,.val (.str (s ++ sCl k)) .no),(9,.val (.bool o) .no),(10,.val (.bool c) .no),(15,.val (.int .i64 (n : Int)) .no),(82,.val (.bool false) .no)] [] Hp.none 0)) Q →
  Was (RL C 6 qE (mkS 135 [(7,.val (.int .i64 (n : Int)) .no),(8,.val (.str s) .no),(9,.val (.bool o) .no),(10,.val (.bool c) .no),(15,.val (.int .i64 (i : Int)) .no)] [] Hp.none 0)) Q
 | 0,i,hi,h1,s,hs,K=>by
  refine exW (fun o=>p6_8) ?_
  simp only [Tr.val]
  rw [sCl,List.append_nil] at K
  obtain rfl : i = n := by omega
  exact .bF (by omega) K
 | k + 1,i,hi,h1,s,hs,K=>by
  refine exW (fun o=>p6_8) ?_
  simp only [Tr.val]
  refine .bT (by omega) (exW (fun o=>p6_13) ?_)
  simp only [Tr.val]
  refine .bL (by omega) ?_
  have hw2 : w64 ((i : Int) + 1) = ((i + 1 : Nat) : Int) := by rw [zb9 (by omega) (by omega)]; omega
  rw [hw2]
  refine s6_cl hn o c k (i + 1) (by omega) (by omega) (s ++ litC) (by simp only [List.length_append,List.length_cons,List.length_nil]; omega) ?_
  rw [List.append_assoc]
  exact K
end
end Go.Proofs.YtfdklpkfpmkgeaaGreatDoor
end
section
namespace Go.Proofs.YtfdklpkfpmkgeaaGreatDoor
open Go Go.Vai
def QT (o : Out) : Prop := o.v = .bool true
end Go.Proofs.YtfdklpkfpmkgeaaGreatDoor
end
section
namespace Go.Proofs.YtfdklpkfpmkgeaaGreatDoor
open Go Go.Vai
attribute [local irreducible] goTo zaq mkS
set_option maxHeartbeats 40000000
theorem paO_ok {q : PS} (h1 : q.kind = 0) (h2 : q.err = 0) (tg : Bool) (l : List Typ) : paO q tg l = .tuple [.agg [.vs 6 tg (l.map Typ.av)],.int .i64 0,.int .i64 0]:=by
 have e : q.fin = q := by unfold PS.fin; rw [if_pos h1]
 unfold paO
 rw [e,if_pos h2]
theorem srt_e {C : Nat→Oracle} (hC : Ext C) : Srt C [] [] := fun tg=>⟨tg,[],tg,tg,[],q49e hC Hp.none 1 tg,q51e hC Hp.none 1 tg⟩
theorem srt_o {C : Nat→Oracle} (hC : Ext C) (d : Dg) : Srt C [d] [d] := fun tg=>⟨tg,[d],tg,tg,[d],q49o hC Hp.none 1 tg d,q51o hC Hp.none 1 tg d⟩
theorem srt_c {C : Nat→Oracle} (hC : Ext C) {p : Prop} [Decidable p] (d : Dg) : Srt C (if p then [] else [d]) (if p then [] else [d]):=by
 split
 ·exact srt_e hC
 ·exact srt_o hC d
abbrev qG : List Nat := [0,5,0,5,0,5,0,5,0,0,5,5,0,0,5,5,0,5,0,0,5,5,0,5,0,0,5,5,0,0,5,5]
variable {C : Nat→Oracle} (hC : Ext C) (haw : Was (calL C 14 [] Hp.none 0) QT)
include hC haw
theorem s6_fin (T : Typ) (u : Opn) (hu : T.ops = [u]) (x : Int) (hx : clsC (cnL u.body) = x) (hsz : szL u.body ≤ 9000) (hT : WfT T) (hW : typW T ≤ 1000) (R : List Dg) (hS : Srt C (chkD [T]) R) (hR : (R.length = 0) = (x ≠ 0)) (z : Bool) :
  Was (RL C 6 qG (mkS 135 [(16,.lp 16 0),(19,.val (.int .i64 x) .no)] [(16,⟨[(.vs 6 false (List.map Typ.av [T]))],[]⟩)] Hp.none 0)) QT ∧
  Was (RL C 6 qG (mkS 135 [(16,.lp 16 0),(19,.val (.int .i64 x) .no),(112,.val (.bool z) .no)] [(16,⟨[(.vs 6 false (List.map Typ.av [T]))],[]⟩)] Hp.none 0)) QT:=by
 have h21 := w21 hC false [T] (by simp) (fun t ht=>by obtain rfl := List.mem_singleton.1 ht; exact hT) (by simp only [List.length_cons,List.length_nil,zsy]; omega) R hS
 have h16 := w16 hC u hsz
 rw [Opn.av_cs] at h16
 have e0 : nth (List.map Typ.av [T]) 0 = some T.av := rfl
 have e1 : nth (List.map Opn.av T.ops) 0 = some u.av := by rw [hu]; rfl
 have hb : ((!decide (x = 0)) == decide (((List.map Dg.av R).length : Int) = 0)) = true:=by
  rw [beq_iff_eq,List.length_map]
  by_cases h : x = 0
  ·rw [decide_eq_true h,decide_eq_false]
   ·rfl
   ·intro hr
    have : R.length = 0 := by omega
    rw [hR] at this
    exact this h
  ·have : R.length = 0 := by rw [hR]; exact h
   rw [decide_eq_false h,decide_eq_true (by omega)]
   rfl
 have hlo : 0 < (List.map Opn.av T.ops).length := by rw [hu]; simp
 constructor
 all_goals
  first | refine exW (fun o=>p6_21) ?_ | refine exW (fun o=>p6_22) ?_
  simp only [Tr.val,e0,Option.bind_some,Typ.av_cs,zaf]
  refine .bT (by simp) ?_
  first | refine exW (fun o=>p6_23) ?_ | refine exW (fun o=>p6_24) ?_
  simp only [Tr.val,e1,Option.bind_some,Opn.av_cs,zaf]
  refine .bT (by omega) ?_
  first | refine exW (fun o=>p6_25) ?_ | refine exW (fun o=>p6_26) ?_
  simp only [Tr.val,AV.pure,zab,za7,za0]
  refine .call h16 ?_
  rintro o e
  simp only [e,AV.pure,za0]
  clear e
  rw [hx]
  first | refine exW (fun o=>p6_27) ?_ | refine exW (fun o=>p6_28) ?_
  simp only [Tr.val,AV.pure,zab,za4,za0]
  refine .bT trivial (.call h21 ?_)
  rintro o ⟨tg,e⟩
  simp only [e,AV.pure,za9,za0]
  clear e
  first | refine exW (fun o=>p6_29) ?_ | refine exW (fun o=>p6_30) ?_
  simp only [Tr.val,zab,za0]
  refine .brn hb (.call haw ?_)
  rintro o e
  unfold QT at e
  simp only [e,AV.pure,za0]
  first | refine exW (fun o=>p6_31) ?_ | refine exW (fun o=>p6_32) ?_
  exact .mk rfl
theorem w6 (x : Int) (t1 : Bool) (ws : List Bool) (t2 : Bool) (es : List Bool) : Was (calL C 6 [.int .i64 x,.vs 1 t1 (bls ws),.vs 1 t2 (bls es)] Hp.none 0) QT:=by
 refine exW (fun o=>p6_c hC) (exW (fun o=>p6_0) ?_)
 simp only [Tr.val,AV.pure,zab,za0]
 refine .call (w22 hC x 6 (by decide) (by decide)) ?_
 rintro o ⟨v,e,hv0,hv⟩
 simp only [e,AV.pure,za0]
 clear e
 refine exW (fun o=>p6_1) ?_
 simp only [Tr.val]
 obtain ⟨n,hn⟩ : ∃ n : Nat,1 + v = (n : Int) := ⟨(1 + v).toNat,by omega⟩
 rw [zb9 (by omega) (by omega),hn]
 have hn6 : n ≤ 6 := by omega
 have hn1 : 1 ≤ n := by omega
 refine zsf t1 ws t2 es n hn6 n 0 (by omega) zm2 (by simp only [List.length_cons,List.length_nil]; omega) true true ?_
 have hlen := zrf ws es n 0
 generalize prs ws es 0 n = r at hlen
 have hr : r ≠ []:=by
  intro h
  rw [h] at hlen
  simp at hlen
  omega
 have hs := zj1 r
 refine s6_cl n hn6 _ _ (n - 1) 1 (by omega) (by omega) _ (by simp only [List.length_append,List.length_cons,List.length_nil]; omega) ?_
 have hsrc : (zm2 ++ zgi r) ++ sCl (n - 1) ++ litF = srcP r:=by
  unfold srcP
  rw [hlen]
  simp only [List.append_assoc]
 have hsl := srcP_len r (by omega)
 obtain ⟨L,tb,a,b,c,d,e,q,hp,ht,hq1,hq2⟩ := pa_paths r hr (by omega) _ (At.ps0 (lx_src r hr) (List.cons_ne_nil _ _))
 have h20 := l20 hC (by omega) hp
 rw [paO_ok hq1 hq2] at h20
 have hl3 := zot (n - 1)
 refine exW (fun o=>p6_14) ?_
 simp only [Tr.val,AV.pure,zab,za0]
 refine .bL (by simp only [List.length_append,List.length_cons,List.length_nil]; omega) ?_
 rw [hsrc,h20]
 simp only [Option.bind_some,AV.pure,zab,za4,za0]
 obtain ⟨k1,k2,k3,k4⟩ := path_ok r L (by omega) ht tb a b c d e
 have hcls := (zpr r L ht).1
 generalize hT : zny L tb a b c d e = T at *
 have hu : T.ops = [⟨[102],false,[⟨[112],3,d⟩],tb,L,e⟩] := by rw [← hT]; rfl
 refine exW (fun o=>p6_16) ?_
 simp only [Tr.val]
 refine .brf rfl (.brf rfl (.bT (by simp) ?_))
 rw [show nth (List.map Typ.av [T]) 0 = some T.av from rfl,Option.bind_some,Typ.av_cs,zaf]
 refine exW (fun o=>p6_17) ?_
 simp only [Tr.val]
 refine .brf (by rw [hu]; rfl) (exW (fun o=>p6_18) ?_)
 simp only [Tr.val]
 have hS := srt_c hC (p := com r = true ∨ ovr r = true) ⟨e,2⟩
 have F := fun x hx hR z=>s6_fin hC haw T _ hu x hx k3 k1 k2 _ (by rw [k4]; exact hS) hR z
 have F2 : ∀ y : Int,y = (if com r = true then 2 else if ovr r = true then 1 else 0)→∀ z,_ := fun y hy z=>F y (hcls.trans hy.symm) (by
  rw [hy]
  by_cases hm : com r = true
  ·rw [if_pos hm,if_pos (.inl hm)]; simp
  ·rw [if_neg hm]
   by_cases ho : ovr r = true
   ·rw [if_pos ho,if_pos (.inr ho)]; simp
   ·rw [if_neg ho,if_neg (by rintro (h | h); exact hm h; exact ho h)]; simp) z
 simp only [Bool.true_and]
 cases ho : ovr r <;> cases hm : com r
 all_goals
  rw [ho,hm] at F2
  simp only [za0,zam]
  first | refine exW (fun o=>p6_19) ?_ | refine exW (fun o=>p6_20) ?_
  simp only [Tr.val,za0,zam]
  first | exact (F2 _ rfl true).1 | exact (F2 _ rfl false).2
end Go.Proofs.YtfdklpkfpmkgeaaGreatDoor
end
