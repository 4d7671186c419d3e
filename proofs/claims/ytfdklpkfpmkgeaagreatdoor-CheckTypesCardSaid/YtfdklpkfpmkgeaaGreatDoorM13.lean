/- Stage laws,printed by gen_p.py. -/
import Derived.Test.YtfdklpkfpmkgeaaGreatDoorM5
import Derived.Test.YtfdklpkfpmkgeaaGreatDoorM12
set_option linter.unusedSimpArgs false
set_option linter.unusedVariables false
set_option linter.unusedSectionVars false
set_option linter.unnecessarySimpa false
section
namespace Go.Proofs.YtfdklpkfpmkgeaaGreatDoor
open Go Go.Vai
attribute [local irreducible] goTo zas mkS
variable {C : Nat → Oracle} {o : Out}
abbrev cG0 : AV := (.vs 1 true [(.str [32,43,32]),(.str [32,45,32]),(.str [42]),(.str [32,61,61,32]),(.str [32,60,32]),(.str [62,61]),(.str [32,38,38,32]),(.str [124,124]),(.str [32,104,97,115,32]),(.str [32,33,61,32]),(.str [45])])
abbrev cG1 : AV := (.vs 1 true [(.str [45]),(.str [33]),(.str [45,32]),(.str [33,32])])
abbrev cG2 : AV := (.vs 1 true [(.str []),(.str [97,110,110]),(.str [97,32,98]),(.str [113,34,92])])
abbrev cG3 : AV := (.vs 1 true [(.str [119,114,105,116,101,32]),(.str [97,100,100,32]),(.str [114,97,105,115,101,32]),(.str [105,110,115,101,114,116,32]),(.str [97,100,100,32]),(.str [119,114,105,116,101,32])])
abbrev cG4 : AV := (.vs 1 true [(.str [116,114,117,101]),(.str [102,97,108,115,101])])
abbrev qG0 : List Nat := [0,5,0,5,0,0,5,2,3]
abbrev qG1 : List Nat := [0,5,0,5,0,0,5,7,5,0,5,0,0,5,2,0,5,7,0,5,6,0]
abbrev qG2 : List Nat := [0,5,0,5,0,0,5,2,3,0,0]
abbrev qG3 : List Nat := [0,5,0,5,0,0,5,2,3,0,0,5,6,5,0,2,0,5,0,5,0,0,5,2,0,5,6]
abbrev qG4 : List Nat := [0,5,0,5,0,0,5,7,5,0,5,0,0,5,2,0,5,7,0,5,7,0,5,6,0]
abbrev qG5 : List Nat := [0,5,0,5,0,0,5,7,5,0,5,0,0,5,2,0,5,7,0,5,7,0,5,7,0,5,7,0,0,5,6,5,6,0,5,0]
abbrev qG6 : List Nat := [0,5,0,5,0,0,5,7,5,0,5,0,0,5,2,0,5,7,0,5,7,0,5,7,0,5,7,0,0,5,7,5,6,0,5,0]
abbrev qG7 : List Nat := [0,5,0,5,0,0,5,7,5,0,5,0,0,5,2,0,5,7,0,5,7,0,5,7,0,5,7,0,0,5,7,5,7,0,5,7,0,0,5,6,5,6,0,5,0,5,0]
abbrev qG8 : List Nat := [0,5,0,5,0,0,5,7,5,0,5,0,0,5,2,0,5,7,0,5,7,0,5,7,0,5,7,0,0,5,7,5,7,0,5,7,0,0,5,7,0,5,6,5,6,0,5,0,5,0]
abbrev qG9 : List Nat := [0,5,0,5,0,0,5,7,5,0,5,0,0,5,2,0,5,7,0,5,7,0,5,7,0,5,7,0,0,5,7,5,7,0,5,7,0,0,5,7,0,5,7,0,5,6,5,6,0,5,0,5,0]
abbrev qG10 : List Nat := [0,5,0,5,0,0,5,7,5,0,5,0,0,5,2,0,5,7,0,5,7,0,5,7,0,5,7,0,0,5,7,5,7,0,5,7,0,0,5,7,0,5,7,0,5,7,5,6,0,5,0,5,0]
abbrev qG11 : List Nat := [0,5,0,5,0,0,5,2,3,0,0,5,6,5,0,2,0,5,0,5,0,0,5,2,0,5,7,0,5,6]
abbrev qG12 : List Nat := [0,5,0,5,0,0,5,2,3,0,0,5,6,5,0,2,0,5,0,5,0,0]
abbrev qG13 : List Nat := [0,5,0,5,0,0,5,2,3,0,0,5,6,5,0,2,0,5,0,5,0,0,5,2,0,5,7,0,5,7,0]
abbrev qG14 : List Nat := [0,5,0,5,0,0,5,2,3,0,0,5,6,5,0,2,0,5,0,5,0,0,5,2,0,5,7,0,5,7,0,5,0,5,0,5,0,5,6,0]
abbrev qG15 : List Nat := [0,5,0,5,0,0,5,7,5,0,5,0,0,5,2,0,5,7,0,5,7,0,5,7,0,5,6,0]
abbrev qG16 : List Nat := [0,5,0,5,0,0,5,7,5,0,5,0,0,5,2,0,5,7,0,5,7,0,5,7,0,5,7,0,0,5,6,5,6,0]
abbrev qG17 : List Nat := [0,5,0,5,0,0,5,7,5,0,5,0,0,5,2,0,5,7,0,5,7,0,5,7,0,5,7,0,0,5,7,5,6,0]
abbrev qG18 : List Nat := [0,5,0,5,0,0,5,7,5,0,5,0,0,5,2,0,5,7,0,5,7,0,5,7,0,5,7,0,0,5,7,5,7,0,5,6,0]
abbrev qG19 : List Nat := [0,5,0,5,0,0,5,7,5,0,5,0,0,5,2,0,5,7,0,5,7,0,5,7,0,5,7,0,0,5,7,5,7,0,5,7,0,0,5,6,5,6,0]
abbrev qG20 : List Nat := [0,5,0,5,0,0,5,7,5,0,5,0,0,5,2,0,5,7,0,5,7,0,5,7,0,5,7,0,0,5,7,5,7,0,5,7,0,0,5,7,0,5,6,5,6,0]
abbrev qG21 : List Nat := [0,5,0,5,0,0,5,7,5,0,5,0,0,5,2,0,5,7,0,5,7,0,5,7,0,5,7,0,0,5,7,5,7,0,5,7,0,0,5,7,0,5,7,0,5,6,5,6,0]
abbrev qG22 : List Nat := [0,5,0,5,0,0,5,7,5,0,5,0,0,5,2,0,5,7,0,5,7,0,5,7,0,5,7,0,0,5,7,5,7,0,5,7,0,0,5,7,0,5,7,0,5,7,5,6,0]
abbrev qG23 : List Nat := [0,5,0,5,0,0,5,7,5,0,5,0,0,5,2,0,5,7,0,5,7,0,5,7,0,5,7,0,0,5,7,5,7,0,5,7,0,0,5,7,0,5,7,0,5,7,5,7,5,5,0]
abbrev qG24 : List Nat := [0,5,0,5,0,0,5,7,5,0,5,0,0,5,2,0,5,7,0,5,7,0,5,7,0,5,7,0,0,5,7,5,7,0,5,7,0,0,5,6,5,6,0,5,0]
abbrev qG25 : List Nat := [0,5,0,5,0,0,5,7,5,0,5,0,0,5,2,0,5,7,0,5,7,0,5,7,0,5,7,0,0,5,7,5,7,0,5,7,0,0,5,7,0,5,6,5,6,0,5,0]
abbrev qG26 : List Nat := [0,5,0,5,0,0,5,7,5,0,5,0,0,5,2,0,5,7,0,5,7,0,5,7,0,5,7,0,0,5,7,5,7,0,5,7,0,0,5,7,0,5,7,0,5,6,5,6,0,5,0]
abbrev qG27 : List Nat := [0,5,0,5,0,0,5,7,5,0,5,0,0,5,2,0,5,7,0,5,7,0,5,7,0,5,7,0,0,5,7,5,7,0,5,7,0,0,5,7,0,5,7,0,5,7,5,6,0,5,0]
theorem p38_c (hC : Ext C) {tg_1 : Bool} {l_2 : List AV} {x_3 x_4 : Int} (ho : RL C 38 [] (mk0 107 [vv 0 (.vs 1 tg_1 l_2),vi 1 x_3,vi 2 x_4]) = some o) : calL C 38 [(.vs 1 tg_1 l_2),(i6 x_3),(i6 x_4)] Hp.none 0 = some o := hC.call rfl (fun _ _ => by kernel_rfl) ho
theorem p38_0 {tg_1 : Bool} {l_2 : List AV} {x_3 x_4 : Int} (ho : Tr.val C 38
(.run 0 qG0 (mk0 107 [vv 0 (.vs 1 tg_1 l_2),vi 1 x_3,vi 2 x_4,vt 8 [],vi 9 0])) = some o) : RL C 38 [] (mk0 107 [vv 0 (.vs 1 tg_1 l_2),vi 1 x_3,vi 2 x_4]) = some o := stR C 9 (fun _ _ => by kernel_rfl) ho
theorem p38_1 {tg_5 : Bool} {l_6 : List AV} {x_7 x_8 x_10 : Int} {s_9 : List UInt8} (ho : Tr.val C 38
(cl0 34 [(.vs 1 tg_5 l_6),(i6 x_7)] fun r1 => .br (AV.pure r1.v)
(.mid 0 qG2 4 (mk0 107 [vv 0 (.vs 1 tg_5 l_6),vi 1 x_7,vi 2 x_8,vt 8 s_9,vi 9 x_10,vi 18 x_10,vv 19 (.vs 1 tg_5 l_6),vi 20 x_7,vv 21 r1.v])) .none) = some o) : RL C 38 qG0 (mk0 107 [vv 0 (.vs 1 tg_5 l_6),vi 1 x_7,vi 2 x_8,vt 8 s_9,vi 9 x_10]) = some o := stR C 3 (fun _ _ => by kernel_rfl) ho
theorem p38_2 {tg_5 : Bool} {l_6 : List AV} {x_7 x_8 x_10 x_11 : Int} {s_9 : List UInt8} (ho : Tr.val C 38
(cl0 22 [(i6 (w64 (Int.tdiv x_11 32))),(i6 3)] fun r2 => .br (AV.pure r2.v)
(.mid 0 qG2 6 (mk0 107 [vv 0 (.vs 1 tg_5 l_6),vi 1 x_7,vi 2 x_8,vt 8 s_9,vi 9 x_10,vi 18 x_10,vv 19 (.vs 1 tg_5 l_6),vi 20 x_7,vi 21 x_11,vi 22 (w64 (Int.tdiv x_11 32)),vv 23 r2.v])) .none) = some o) : ML C 38 qG2 4 (mk0 107 [vv 0 (.vs 1 tg_5 l_6),vi 1 x_7,vi 2 x_8,vt 8 s_9,vi 9 x_10,vi 18 x_10,vv 19 (.vs 1 tg_5 l_6),vi 20 x_7,vi 21 x_11]) = some o := stM C 0 (fun _ _ => by kernel_rfl) ho
theorem p38_3 {tg_5 : Bool} {l_6 : List AV} {x_7 x_8 x_10 x_11 x_12 x_13 : Int} {s_9 : List UInt8} (ho : Tr.val C 38
(.br (decide (x_10 ≤ x_12))
(cl0 34 [(.vs 1 tg_5 l_6),(i6 (w64 (x_7 + 1)))] fun r3 => .br (AV.pure r3.v)
(.mid 0 [0,5,0,5,0,0,5,2,3,0,0,5,6,5,0,2,0] 4 (mk0 107 [vv 0 (.vs 1 tg_5 l_6),vi 1 x_7,vi 2 x_8,vt 8 s_9,vi 9 x_10,vb 24 true,vv 27 (.vs 1 tg_5 l_6),vi 28 x_7,vi 29 (w64 (x_7 + 1)),vv 30 r3.v])) .none)
(rt (.tuple [(.str s_9),(i6 x_7)]))) = some o) : ML C 38 qG2 6 (mk0 107 [vv 0 (.vs 1 tg_5 l_6),vi 1 x_7,vi 2 x_8,vt 8 s_9,vi 9 x_10,vi 18 x_10,vv 19 (.vs 1 tg_5 l_6),vi 20 x_7,vi 21 x_11,vi 22 x_13,vi 23 x_12]) = some o := stM C 6 (fun _ _ => by kernel_rfl) ho
theorem p38_4 {tg_5 : Bool} {l_6 : List AV} {x_7 x_8 x_10 x_14 x_15 : Int} {s_9 : List UInt8} (ho : Tr.val C 38
(cl0 40 [(.vs 1 tg_5 l_6),(i6 (w64 (x_7 + 2))),(i6 3)] fun r4 => .br (AV.pure r4.v)
(.mid 0 [0,5,0,5,0,0,5,2,3,0,0,5,6,5,0,2,0,5,0] 4 (mk0 107 [vv 0 (.vs 1 tg_5 l_6),vi 1 x_7,vi 2 x_8,vt 8 s_9,vi 9 x_10,vi 10 x_14,vv 32 (.vs 1 tg_5 l_6),vi 33 x_7,vi 34 (w64 (x_7 + 2)),vv 35 r4.v])) .none) = some o) : ML C 38 [0,5,0,5,0,0,5,2,3,0,0,5,6,5,0,2,0] 4 (mk0 107 [vv 0 (.vs 1 tg_5 l_6),vi 1 x_7,vi 2 x_8,vt 8 s_9,vi 9 x_10,vb 24 true,vv 27 (.vs 1 tg_5 l_6),vi 28 x_7,vi 29 x_15,vi 30 x_14]) = some o := stM C 2 (fun _ _ => by kernel_rfl) ho
theorem p38_5 {tg_5 : Bool} {l_6 : List AV} {x_7 x_8 x_10 x_14 x_17 x_18 : Int} {s_9 s_16 : List UInt8} (ho : Tr.val C 38
(cl0 22 [(i6 x_14),(i6 9)] fun r5 => .br (AV.pure r5.v)
(.mid 0 qG12 2 (mk0 107 [vv 0 (.vs 1 tg_5 l_6),vi 2 x_8,vt 8 s_9,vi 9 x_10,vi 10 x_14,vt 11 s_16,vi 12 x_17,vi 38 x_14,vv 39 r5.v])) .none) = some o) : ML C 38 [0,5,0,5,0,0,5,2,3,0,0,5,6,5,0,2,0,5,0] 4 (mk0 107 [vv 0 (.vs 1 tg_5 l_6),vi 1 x_7,vi 2 x_8,vt 8 s_9,vi 9 x_10,vi 10 x_14,vv 32 (.vs 1 tg_5 l_6),vi 33 x_7,vi 34 x_18,vv 35 (.tuple [(.str s_16),(i6 x_17)])]) = some o := stM C 3 (fun _ _ => by kernel_rfl) ho
theorem p38_6 {tg_5 : Bool} {l_6 : List AV} {x_8 x_10 x_14 x_17 x_19 : Int} {s_9 s_16 : List UInt8} (ho : Tr.val C 38
(.br (decide (x_19 < 6))
(ixl 6 [(.str [119,114,105,116,101,32]),(.str [97,100,100,32]),(.str [114,97,105,115,101,32]),(.str [105,110,115,101,114,116,32]),(.str [97,100,100,32]),(.str [119,114,105,116,101,32])] x_19 fun c6 =>
(.mid 4 qG3 4 (mkS 107 [vv 0 (.vs 1 tg_5 l_6),vi 2 x_8,vt 8 s_9,vi 9 x_10,vi 10 x_14,vt 11 s_16,vi 12 x_17,vi 13 x_19,vb 73 true,vt 76 s_9,vv 77 cG3,vi 78 x_19,vv 79 (.cptr (AV.cells c6))] [] Hp.none 0)))
(.br (decide (x_19 = 6))
(.br (Nat.ble (s_9.length + 5) 4611686018427387904)
(cl0 37 [(i6 (w64 (Int.tdiv x_14 9)))] fun r7 => .br (AV.pure r7.v)
(.mid 1 qG11 5 (mk0 107 [vv 0 (.vs 1 tg_5 l_6),vi 2 x_8,vt 8 s_9,vi 9 x_10,vi 10 x_14,vt 11 s_16,vi 12 x_17,vi 13 x_19,vb 90 true,vt 97 s_9,vt 98 (s_9 ++ [109,97,114,107,32]),vi 99 x_14,vi 100 (w64 (Int.tdiv x_14 9)),vv 101 r7.v])) .none) .none)
(.br (decide (2 < x_8))
(.br (Nat.ble (s_9.length + 5) 4611686018427387904)
(cl0 37 [(i6 (w64 (Int.tdiv x_14 9)))] fun r8 => .br (AV.pure r8.v)
(.mid 1 qG11 5 (mk0 107 [vv 0 (.vs 1 tg_5 l_6),vi 2 x_8,vt 8 s_9,vi 9 x_10,vi 10 x_14,vt 11 s_16,vi 12 x_17,vi 13 x_19,vb 90 true,vt 97 s_9,vt 98 (s_9 ++ [109,97,114,107,32]),vi 99 x_14,vi 100 (w64 (Int.tdiv x_14 9)),vv 101 r8.v])) .none) .none)
(cl0 38 [(.vs 1 tg_5 l_6),(i6 x_17),(i6 (w64 (x_8 + 1)))] fun r9 => .br (AV.pure r9.v)
(.mid 0 qG13 5 (mk0 107 [vv 0 (.vs 1 tg_5 l_6),vi 2 x_8,vt 8 s_9,vi 9 x_10,vi 10 x_14,vt 11 s_16,vi 12 x_17,vi 13 x_19,vv 41 (.vs 1 tg_5 l_6),vi 42 x_17,vi 43 x_8,vi 44 (w64 (x_8 + 1)),vv 45 r9.v,vb 90 false])) .none)))) = some o) : ML C 38 qG12 2 (mk0 107 [vv 0 (.vs 1 tg_5 l_6),vi 2 x_8,vt 8 s_9,vi 9 x_10,vi 10 x_14,vt 11 s_16,vi 12 x_17,vi 38 x_14,vi 39 x_19]) = some o := stM C 9 (fun _ _ => by kernel_rfl) ho
theorem p38_7 {tg_5 : Bool} {l_6 : List AV} {x_8 x_10 x_14 x_17 x_19 : Int} {s_9 s_16 s_20 : List UInt8} (ho : Tr.val C 38
(.br (Nat.ble (s_9.length + s_20.length) 4611686018427387904)
(cl0 37 [(i6 (w64 (Int.tdiv x_14 9)))] fun r10 => .br (AV.pure r10.v)
(.br (AV.pure r10.v)
(.mid 0 qG3 9 (mkS 107 [vv 0 (.vs 1 tg_5 l_6),vi 2 x_8,vt 8 s_9,vi 9 x_10,vi 10 x_14,vt 11 s_16,vi 12 x_17,vi 13 x_19,vb 73 true,vt 76 s_9,vv 77 cG3,vi 78 x_19,vv 79 (.cptr [(.str s_20)]),vt 80 s_20,vt 81 (s_9 ++ s_20),vi 82 x_14,vi 83 (w64 (Int.tdiv x_14 9)),vv 84 r10.v] [] Hp.none 0)) .none) .none) .none) = some o) : ML C 38 qG3 4 (mkS 107 [vv 0 (.vs 1 tg_5 l_6),vi 2 x_8,vt 8 s_9,vi 9 x_10,vi 10 x_14,vt 11 s_16,vi 12 x_17,vi 13 x_19,vb 73 true,vt 76 s_9,vv 77 cG3,vi 78 x_19,vv 79 (.cptr [(.str s_20)])] [] Hp.none 0) = some o := stM C 0 (fun _ _ => by kernel_rfl) ho
theorem p38_8 {tg_5 : Bool} {l_6 : List AV} {x_8 x_10 x_14 x_17 x_19 x_23 : Int} {s_9 s_16 s_21 s_22 : List UInt8} (ho : Tr.val C 38
(.br (Nat.ble (s_22.length + s_21.length) 4611686018427387904)
(.br (Nat.ble ((s_22 ++ s_21).length + 1) 4611686018427387904)
(.run 0 qG0 (mk0 107 [vv 0 (.vs 1 tg_5 l_6),vi 1 x_17,vi 2 x_8,vt 8 ((s_22 ++ s_21) ++ [59]),vi 9 (w64 (x_10 + 1))])) .none) .none) = some o) : ML C 38 qG11 5 (mk0 107 [vv 0 (.vs 1 tg_5 l_6),vi 2 x_8,vt 8 s_9,vi 9 x_10,vi 10 x_14,vt 11 s_16,vi 12 x_17,vi 13 x_19,vb 90 true,vt 97 s_9,vt 98 s_22,vi 99 x_14,vi 100 x_23,vt 101 s_21]) = some o := stM C 5 (fun _ _ => by kernel_rfl) ho
theorem p38_9 {tg_5 : Bool} {l_6 : List AV} {x_8 x_10 x_14 x_17 x_19 x_28 x_29 : Int} {s_9 s_16 s_27 : List UInt8} (ho : Tr.val C 38
(.br (Nat.ble (s_9.length + 3) 4611686018427387904)
(.br (Nat.ble ((s_9 ++ [105,102,32]).length + s_16.length) 4611686018427387904)
(.br (Nat.ble (((s_9 ++ [105,102,32]) ++ s_16).length + 2) 4611686018427387904)
(.br (Nat.ble ((((s_9 ++ [105,102,32]) ++ s_16) ++ [32,123]).length + s_27.length) 4611686018427387904)
(.br (Nat.ble (((((s_9 ++ [105,102,32]) ++ s_16) ++ [32,123]) ++ s_27).length + 1) 4611686018427387904)
(.br (decide (x_19 = 8))
(cl0 38 [(.vs 1 tg_5 l_6),(i6 x_28),(i6 (w64 (x_8 + 1)))] fun r11 => .br (AV.pure r11.v)
(.mid 4 qG14 5 (mk0 107 [vv 0 (.vs 1 tg_5 l_6),vi 2 x_8,vt 8 (((((s_9 ++ [105,102,32]) ++ s_16) ++ [32,123]) ++ s_27) ++ [125]),vi 9 x_10,vi 12 x_28,vb 58 true,vv 60 (.vs 1 tg_5 l_6),vi 61 x_28,vi 62 x_8,vi 63 (w64 (x_8 + 1)),vv 64 r11.v])) .none)
(.run 0 qG0 (mk0 107 [vv 0 (.vs 1 tg_5 l_6),vi 1 x_28,vi 2 x_8,vt 8 (((((s_9 ++ [105,102,32]) ++ s_16) ++ [32,123]) ++ s_27) ++ [125]),vi 9 (w64 (x_10 + 1))]))) .none) .none) .none) .none) .none) = some o) : ML C 38 qG13 5 (mk0 107 [vv 0 (.vs 1 tg_5 l_6),vi 2 x_8,vt 8 s_9,vi 9 x_10,vi 10 x_14,vt 11 s_16,vi 12 x_17,vi 13 x_19,vv 41 (.vs 1 tg_5 l_6),vi 42 x_17,vi 43 x_8,vi 44 x_29,vv 45 (.tuple [(.str s_27),(i6 x_28)]),vb 90 false]) = some o := stM C 13 (fun _ _ => by kernel_rfl) ho
theorem p38_10 {tg_5 : Bool} {l_6 : List AV} {x_8 x_10 x_14 x_17 x_19 x_32 : Int} {s_9 s_16 s_20 s_30 s_31 : List UInt8} (ho : Tr.val C 38
(.br (Nat.ble (s_31.length + s_30.length) 4611686018427387904)
(.br (Nat.ble ((s_31 ++ s_30).length + 3) 4611686018427387904)
(.br (Nat.ble (((s_31 ++ s_30) ++ [32,61,32]).length + s_16.length) 4611686018427387904)
(.br (Nat.ble ((((s_31 ++ s_30) ++ [32,61,32]) ++ s_16).length + 2) 4611686018427387904)
(.run 0 qG0 (mk0 107 [vv 0 (.vs 1 tg_5 l_6),vi 1 x_17,vi 2 x_8,vt 8 ((((s_31 ++ s_30) ++ [32,61,32]) ++ s_16) ++ [59,32]),vi 9 (w64 (x_10 + 1))])) .none) .none) .none) .none) = some o) : ML C 38 qG3 9 (mkS 107 [vv 0 (.vs 1 tg_5 l_6),vi 2 x_8,vt 8 s_9,vi 9 x_10,vi 10 x_14,vt 11 s_16,vi 12 x_17,vi 13 x_19,vb 73 true,vt 76 s_9,vv 77 cG3,vi 78 x_19,vv 79 (.cptr [(.str s_20)]),vt 80 s_20,vt 81 s_31,vi 82 x_14,vi 83 x_32,vt 84 s_30] [] Hp.none 0) = some o := stM C 5 (fun _ _ => by kernel_rfl) ho
theorem p38_11 {tg_5 : Bool} {l_6 : List AV} {x_8 x_10 x_28 x_34 x_36 : Int} {s_33 s_35 : List UInt8} (ho : Tr.val C 38
(.br (Nat.ble (s_35.length + 8) 4611686018427387904)
(.br (Nat.ble ((s_35 ++ [32,101,108,115,101,32,123,32]).length + s_33.length) 4611686018427387904)
(.br (Nat.ble (((s_35 ++ [32,101,108,115,101,32,123,32]) ++ s_33).length + 3) 4611686018427387904)
(.run 0 qG0 (mk0 107 [vv 0 (.vs 1 tg_5 l_6),vi 1 x_34,vi 2 x_8,vt 8 (((s_35 ++ [32,101,108,115,101,32,123,32]) ++ s_33) ++ [32,125,10]),vi 9 (w64 (x_10 + 1))])) .none) .none) .none) = some o) : ML C 38 qG14 5 (mk0 107 [vv 0 (.vs 1 tg_5 l_6),vi 2 x_8,vt 8 s_35,vi 9 x_10,vi 12 x_28,vb 58 true,vv 60 (.vs 1 tg_5 l_6),vi 61 x_28,vi 62 x_8,vi 63 x_36,vv 64 (.tuple [(.str s_33),(i6 x_34)])]) = some o := stM C 8 (fun _ _ => by kernel_rfl) ho
theorem p40_c (hC : Ext C) {tg_37 : Bool} {l_38 : List AV} {x_39 x_40 : Int} (ho : RL C 40 [] (mk0 145 [vv 0 (.vs 1 tg_37 l_38),vi 1 x_39,vi 2 x_40]) = some o) : calL C 40 [(.vs 1 tg_37 l_38),(i6 x_39),(i6 x_40)] Hp.none 0 = some o := hC.call rfl (fun _ _ => by kernel_rfl) ho
theorem p40_0 {tg_37 : Bool} {l_38 : List AV} {x_39 x_40 : Int} (ho : Tr.val C 40
(cl0 34 [(.vs 1 tg_37 l_38),(i6 x_39)] fun r1 => .br (AV.pure r1.v)
(.mid 0 [0,5,0] 3 (mk0 145 [vv 0 (.vs 1 tg_37 l_38),vi 1 x_39,vi 2 x_40,vv 19 (.vs 1 tg_37 l_38),vi 20 x_39,vv 21 r1.v])) .none) = some o) : RL C 40 [] (mk0 145 [vv 0 (.vs 1 tg_37 l_38),vi 1 x_39,vi 2 x_40]) = some o := stR C 4 (fun _ _ => by kernel_rfl) ho
theorem p40_1 {tg_37 : Bool} {l_38 : List AV} {x_39 x_40 x_41 : Int} (ho : Tr.val C 40
(.br (decide (5 < x_40))
(cl0 37 [(i6 x_41)] fun r2 => .br (AV.pure r2.v)
(.mid 1 [0,5,0,5,0,0,5,6,0] 2 (mk0 145 [vv 0 (.vs 1 tg_37 l_38),vi 1 x_39,vi 2 x_40,vi 8 x_41,vb 30 true,vi 31 x_41,vv 32 r2.v])) .none)
(.br (decide ((w64 ((l_38.length : Int) + 6)) ≤ x_39))
(cl0 37 [(i6 x_41)] fun r3 => .br (AV.pure r3.v)
(.mid 1 [0,5,0,5,0,0,5,6,0] 2 (mk0 145 [vv 0 (.vs 1 tg_37 l_38),vi 1 x_39,vi 2 x_40,vi 8 x_41,vb 30 true,vi 31 x_41,vv 32 r3.v])) .none)
(cl0 22 [(i6 x_41),(i6 1099511627776)] fun r4 => .br (AV.pure r4.v)
(.mid 0 [0,5,0,5,0,0,5,7,5,0] 2 (mk0 145 [vv 0 (.vs 1 tg_37 l_38),vi 1 x_39,vi 2 x_40,vi 8 x_41,vb 30 false,vi 35 x_41,vv 36 r4.v])) .none))) = some o) : ML C 40 [0,5,0] 3 (mk0 145 [vv 0 (.vs 1 tg_37 l_38),vi 1 x_39,vi 2 x_40,vv 19 (.vs 1 tg_37 l_38),vi 20 x_39,vi 21 x_41]) = some o := stM C 7 (fun _ _ => by kernel_rfl) ho
theorem p40_2 {tg_37 : Bool} {l_38 : List AV} {x_39 x_40 x_41 : Int} {s_42 : List UInt8} (ho : Tr.val C 40
(rt (.tuple [(.str s_42),(i6 (w64 (x_39 + 1)))])) = some o) : ML C 40 [0,5,0,5,0,0,5,6,0] 2 (mk0 145 [vv 0 (.vs 1 tg_37 l_38),vi 1 x_39,vi 2 x_40,vi 8 x_41,vb 30 true,vi 31 x_41,vt 32 s_42]) = some o := stM C 1 (fun _ _ => by kernel_rfl) ho
theorem p40_3 {tg_37 : Bool} {l_38 : List AV} {x_39 x_40 x_41 x_44 : Int} (ho : Tr.val C 40
(cl0 22 [(i6 x_41),(i6 16)] fun r5 => .br (AV.pure r5.v)
(.mid 0 [0,5,0,5,0,0,5,7,5,0,5,0,0] 2 (mk0 145 [vv 0 (.vs 1 tg_37 l_38),vi 1 x_39,vi 2 x_40,vi 8 x_41,vi 9 (w64 (Int.tdiv x_44 16)),vi 38 x_41,vv 39 r5.v])) .none) = some o) : ML C 40 [0,5,0,5,0,0,5,7,5,0] 2 (mk0 145 [vv 0 (.vs 1 tg_37 l_38),vi 1 x_39,vi 2 x_40,vi 8 x_41,vb 30 false,vi 35 x_41,vi 36 x_44]) = some o := stM C 3 (fun _ _ => by kernel_rfl) ho
theorem p40_4 {tg_37 : Bool} {l_38 : List AV} {x_39 x_40 x_41 x_45 x_46 : Int} (ho : Tr.val C 40
(.br (decide (x_45 = 0))
(cl0 29 [(i6 x_46)] fun r6 => .br (AV.pure r6.v)
(.mid 32 [0,5,0,5,0,0,5,7,5,0,5,0,0,5,2,0,5,6,0] 2 (mk0 145 [vv 0 (.vs 1 tg_37 l_38),vi 1 x_39,vi 2 x_40,vi 9 x_46,vi 39 x_45,vb 40 true,vi 42 x_46,vv 43 r6.v])) .none)
(.br (decide (x_45 = 1))
(cl0 22 [(i6 x_46),(i6 4)] fun r7 => .br (AV.pure r7.v)
(.mid 29 qG1 3 (mkS 145 [vv 0 (.vs 1 tg_37 l_38),vi 1 x_39,vi 2 x_40,vi 9 x_46,vi 39 x_45,vb 46 true,vv 48 cG2,vi 49 x_46,vv 50 r7.v] [] Hp.none 0)) .none)
(.br (decide (x_45 = 2))
(cl0 22 [(i6 x_46),(i6 2)] fun r8 => .br (AV.pure r8.v)
(.mid 26 qG4 3 (mkS 145 [vv 0 (.vs 1 tg_37 l_38),vi 1 x_39,vi 2 x_40,vi 9 x_46,vi 39 x_45,vb 56 true,vv 58 cG4,vi 59 x_46,vv 60 r8.v] [] Hp.none 0)) .none)
(.br (decide (x_45 = 3))
(cl0 37 [(i6 x_46)] fun r9 => .br (AV.pure r9.v)
(.mid 23 qG15 2 (mk0 145 [vv 0 (.vs 1 tg_37 l_38),vi 1 x_39,vi 2 x_40,vi 9 x_46,vi 39 x_45,vb 65 true,vi 67 x_46,vv 68 r9.v])) .none)
(.br (decide (x_45 = 4))
(cl0 40 [(.vs 1 tg_37 l_38),(i6 (w64 (x_39 + 1))),(i6 (w64 (x_40 + 1)))] fun r10 => .br (AV.pure r10.v)
(.mid 17 qG16 6 (mk0 145 [vv 0 (.vs 1 tg_37 l_38),vi 1 x_39,vi 2 x_40,vi 9 x_46,vi 39 x_45,vb 73 true,vv 77 (.vs 1 tg_37 l_38),vi 78 x_39,vi 79 (w64 (x_39 + 1)),vi 80 x_40,vi 81 (w64 (x_40 + 1)),vv 82 r10.v])) .none)
(.br (decide (x_45 = 5))
(cl0 40 [(.vs 1 tg_37 l_38),(i6 (w64 (x_39 + 1))),(i6 (w64 (x_40 + 1)))] fun r11 => .br (AV.pure r11.v)
(.mid 17 qG17 6 (mk0 145 [vv 0 (.vs 1 tg_37 l_38),vi 1 x_39,vi 2 x_40,vi 9 x_46,vi 39 x_45,vb 73 true,vv 77 (.vs 1 tg_37 l_38),vi 78 x_39,vi 79 (w64 (x_39 + 1)),vi 80 x_40,vi 81 (w64 (x_40 + 1)),vv 82 r11.v])) .none)
(.br (decide (x_45 = 6))
(cl0 40 [(.vs 1 tg_37 l_38),(i6 (w64 (x_39 + 1))),(i6 (w64 (x_40 + 1)))] fun r12 => .br (AV.pure r12.v)
(.mid 14 qG18 6 (mk0 145 [vv 0 (.vs 1 tg_37 l_38),vi 1 x_39,vi 2 x_40,vi 9 x_46,vi 39 x_45,vb 93 true,vv 96 (.vs 1 tg_37 l_38),vi 97 x_39,vi 98 (w64 (x_39 + 1)),vi 99 x_40,vi 100 (w64 (x_40 + 1)),vv 101 r12.v])) .none)
(.br (decide (x_45 = 7))
(cl0 40 [(.vs 1 tg_37 l_38),(i6 (w64 (x_39 + 1))),(i6 (w64 (x_40 + 1)))] fun r13 => .br (AV.pure r13.v)
(.mid 8 qG19 6 (mk0 145 [vv 0 (.vs 1 tg_37 l_38),vi 1 x_39,vi 2 x_40,vi 9 x_46,vi 39 x_45,vb 108 true,vv 114 (.vs 1 tg_37 l_38),vi 115 x_39,vi 116 (w64 (x_39 + 1)),vi 117 x_40,vi 118 (w64 (x_40 + 1)),vv 119 r13.v])) .none)
(.br (decide (x_45 = 8))
(cl0 40 [(.vs 1 tg_37 l_38),(i6 (w64 (x_39 + 1))),(i6 (w64 (x_40 + 1)))] fun r14 => .br (AV.pure r14.v)
(.mid 5 qG20 6 (mk0 145 [vv 0 (.vs 1 tg_37 l_38),vi 1 x_39,vi 2 x_40,vi 9 x_46,vi 39 x_45,vb 108 true,vv 114 (.vs 1 tg_37 l_38),vi 115 x_39,vi 116 (w64 (x_39 + 1)),vi 117 x_40,vi 118 (w64 (x_40 + 1)),vv 119 r14.v])) .none)
(.br (decide (x_45 = 9))
(cl0 40 [(.vs 1 tg_37 l_38),(i6 (w64 (x_39 + 1))),(i6 (w64 (x_40 + 1)))] fun r15 => .br (AV.pure r15.v)
(.mid 2 qG21 6 (mk0 145 [vv 0 (.vs 1 tg_37 l_38),vi 1 x_39,vi 2 x_40,vi 9 x_46,vi 39 x_45,vb 108 true,vv 114 (.vs 1 tg_37 l_38),vi 115 x_39,vi 116 (w64 (x_39 + 1)),vi 117 x_40,vi 118 (w64 (x_40 + 1)),vv 119 r15.v])) .none)
(.br (decide (x_45 = 10))
(cl0 40 [(.vs 1 tg_37 l_38),(i6 (w64 (x_39 + 1))),(i6 (w64 (x_40 + 1)))] fun r16 => .br (AV.pure r16.v)
(.mid 2 qG22 6 (mk0 145 [vv 0 (.vs 1 tg_37 l_38),vi 1 x_39,vi 2 x_40,vi 9 x_46,vb 108 true,vv 114 (.vs 1 tg_37 l_38),vi 115 x_39,vi 116 (w64 (x_39 + 1)),vi 117 x_40,vi 118 (w64 (x_40 + 1)),vv 119 r16.v])) .none)
(cl0 37 [(i6 x_46)] fun r17 => .br (AV.pure r17.v)
(.mid 0 qG23 2 (mk0 145 [vv 0 (.vs 1 tg_37 l_38),vi 1 x_39,vi 2 x_40,vi 9 x_46,vb 108 false,vi 141 x_46,vv 142 r17.v])) .none)))))))))))) = some o) : ML C 40 [0,5,0,5,0,0,5,7,5,0,5,0,0] 2 (mk0 145 [vv 0 (.vs 1 tg_37 l_38),vi 1 x_39,vi 2 x_40,vi 8 x_41,vi 9 x_46,vi 38 x_41,vi 39 x_45]) = some o := stM C 38 (fun _ _ => by kernel_rfl) ho
theorem p40_5 {tg_37 : Bool} {l_38 : List AV} {x_39 x_40 x_45 x_46 : Int} {s_47 : List UInt8} (ho : Tr.val C 40
(rt (.tuple [(.str s_47),(i6 (w64 (x_39 + 1)))])) = some o) : ML C 40 [0,5,0,5,0,0,5,7,5,0,5,0,0,5,2,0,5,6,0] 2 (mk0 145 [vv 0 (.vs 1 tg_37 l_38),vi 1 x_39,vi 2 x_40,vi 9 x_46,vi 39 x_45,vb 40 true,vi 42 x_46,vt 43 s_47]) = some o := stM C 1 (fun _ _ => by kernel_rfl) ho
theorem p40_6 {tg_37 : Bool} {l_38 : List AV} {x_39 x_40 x_45 x_46 x_48 : Int} (ho : Tr.val C 40
(ixl 4 [(.str []),(.str [97,110,110]),(.str [97,32,98]),(.str [113,34,92])] x_48 fun c18 =>
(.mid 0 qG1 4 (mkS 145 [vv 0 (.vs 1 tg_37 l_38),vi 1 x_39,vi 2 x_40,vi 9 x_46,vi 39 x_45,vb 46 true,vv 48 cG2,vi 49 x_46,vi 50 x_48,vv 51 (.cptr (AV.cells c18))] [] Hp.none 0))) = some o) : ML C 40 qG1 3 (mkS 145 [vv 0 (.vs 1 tg_37 l_38),vi 1 x_39,vi 2 x_40,vi 9 x_46,vi 39 x_45,vb 46 true,vv 48 cG2,vi 49 x_46,vi 50 x_48] [] Hp.none 0) = some o := stM C 0 (fun _ _ => by kernel_rfl) ho
theorem p40_7 {tg_37 : Bool} {l_38 : List AV} {x_39 x_40 x_45 x_46 x_49 : Int} (ho : Tr.val C 40
(ixl 2 [(.str [116,114,117,101]),(.str [102,97,108,115,101])] x_49 fun c19 =>
(.mid 0 qG4 4 (mkS 145 [vv 0 (.vs 1 tg_37 l_38),vi 1 x_39,vi 2 x_40,vi 9 x_46,vi 39 x_45,vb 56 true,vv 58 cG4,vi 59 x_46,vi 60 x_49,vv 61 (.cptr (AV.cells c19))] [] Hp.none 0))) = some o) : ML C 40 qG4 3 (mkS 145 [vv 0 (.vs 1 tg_37 l_38),vi 1 x_39,vi 2 x_40,vi 9 x_46,vi 39 x_45,vb 56 true,vv 58 cG4,vi 59 x_46,vi 60 x_49] [] Hp.none 0) = some o := stM C 0 (fun _ _ => by kernel_rfl) ho
theorem p40_8 {tg_37 : Bool} {l_38 : List AV} {x_39 x_40 x_45 x_46 : Int} {s_50 : List UInt8} (ho : Tr.val C 40
(.br (Nat.ble (5 + s_50.length) 4611686018427387904)
(.br (Nat.ble (([115,105,122,101,40] ++ s_50).length + 1) 4611686018427387904)
(rt (.tuple [(.str (([115,105,122,101,40] ++ s_50) ++ [41])),(i6 (w64 (x_39 + 1)))])) .none) .none) = some o) : ML C 40 qG15 2 (mk0 145 [vv 0 (.vs 1 tg_37 l_38),vi 1 x_39,vi 2 x_40,vi 9 x_46,vi 39 x_45,vb 65 true,vi 67 x_46,vt 68 s_50]) = some o := stM C 1 (fun _ _ => by kernel_rfl) ho
theorem p40_9 {tg_37 : Bool} {l_38 : List AV} {x_39 x_40 x_45 x_46 x_52 x_53 x_54 : Int} {s_51 : List UInt8} (ho : Tr.val C 40
(cl0 22 [(i6 x_46),(i6 4)] fun r20 => .br (AV.pure r20.v)
(.mid 0 qG5 3 (mkS 145 [vi 9 x_46,vt 10 s_51,vi 11 x_52,vv 85 cG1,vi 86 x_46,vv 87 r20.v] [] Hp.none 0)) .none) = some o) : ML C 40 qG16 6 (mk0 145 [vv 0 (.vs 1 tg_37 l_38),vi 1 x_39,vi 2 x_40,vi 9 x_46,vi 39 x_45,vb 73 true,vv 77 (.vs 1 tg_37 l_38),vi 78 x_39,vi 79 x_53,vi 80 x_40,vi 81 x_54,vv 82 (.tuple [(.str s_51),(i6 x_52)])]) = some o := stM C 2 (fun _ _ => by kernel_rfl) ho
theorem p40_10 {tg_37 : Bool} {l_38 : List AV} {x_39 x_40 x_45 x_46 x_56 x_57 x_58 : Int} {s_55 : List UInt8} (ho : Tr.val C 40
(cl0 22 [(i6 x_46),(i6 4)] fun r21 => .br (AV.pure r21.v)
(.mid 0 qG6 3 (mkS 145 [vi 9 x_46,vt 10 s_55,vi 11 x_56,vv 85 cG1,vi 86 x_46,vv 87 r21.v] [] Hp.none 0)) .none) = some o) : ML C 40 qG17 6 (mk0 145 [vv 0 (.vs 1 tg_37 l_38),vi 1 x_39,vi 2 x_40,vi 9 x_46,vi 39 x_45,vb 73 true,vv 77 (.vs 1 tg_37 l_38),vi 78 x_39,vi 79 x_57,vi 80 x_40,vi 81 x_58,vv 82 (.tuple [(.str s_55),(i6 x_56)])]) = some o := stM C 2 (fun _ _ => by kernel_rfl) ho
theorem p40_11 {tg_37 : Bool} {l_38 : List AV} {x_39 x_40 x_45 x_46 x_60 x_61 x_62 : Int} {s_59 : List UInt8} (ho : Tr.val C 40
(.br (Nat.ble (1 + s_59.length) 4611686018427387904)
(.br (Nat.ble (([40] ++ s_59).length + 1) 4611686018427387904)
(rt (.tuple [(.str (([40] ++ s_59) ++ [41])),(i6 x_60)])) .none) .none) = some o) : ML C 40 qG18 6 (mk0 145 [vv 0 (.vs 1 tg_37 l_38),vi 1 x_39,vi 2 x_40,vi 9 x_46,vi 39 x_45,vb 93 true,vv 96 (.vs 1 tg_37 l_38),vi 97 x_39,vi 98 x_61,vi 99 x_40,vi 100 x_62,vv 101 (.tuple [(.str s_59),(i6 x_60)])]) = some o := stM C 3 (fun _ _ => by kernel_rfl) ho
theorem p40_12 {tg_37 : Bool} {l_38 : List AV} {x_39 x_40 x_45 x_46 x_64 x_65 x_66 : Int} {s_63 : List UInt8} (ho : Tr.val C 40
(cl0 40 [(.vs 1 tg_37 l_38),(i6 x_64),(i6 (w64 (x_40 + 1)))] fun r22 => .br (AV.pure r22.v)
(.mid 0 qG24 5 (mk0 145 [vv 0 (.vs 1 tg_37 l_38),vi 2 x_40,vi 9 x_46,vt 14 s_63,vi 15 x_64,vv 123 (.vs 1 tg_37 l_38),vi 124 x_64,vi 125 x_40,vi 126 (w64 (x_40 + 1)),vv 127 r22.v])) .none) = some o) : ML C 40 qG19 6 (mk0 145 [vv 0 (.vs 1 tg_37 l_38),vi 1 x_39,vi 2 x_40,vi 9 x_46,vi 39 x_45,vb 108 true,vv 114 (.vs 1 tg_37 l_38),vi 115 x_39,vi 116 x_65,vi 117 x_40,vi 118 x_66,vv 119 (.tuple [(.str s_63),(i6 x_64)])]) = some o := stM C 2 (fun _ _ => by kernel_rfl) ho
theorem p40_13 {tg_37 : Bool} {l_38 : List AV} {x_39 x_40 x_45 x_46 x_68 x_69 x_70 : Int} {s_67 : List UInt8} (ho : Tr.val C 40
(cl0 40 [(.vs 1 tg_37 l_38),(i6 x_68),(i6 (w64 (x_40 + 1)))] fun r23 => .br (AV.pure r23.v)
(.mid 0 qG25 5 (mk0 145 [vv 0 (.vs 1 tg_37 l_38),vi 2 x_40,vi 9 x_46,vt 14 s_67,vi 15 x_68,vv 123 (.vs 1 tg_37 l_38),vi 124 x_68,vi 125 x_40,vi 126 (w64 (x_40 + 1)),vv 127 r23.v])) .none) = some o) : ML C 40 qG20 6 (mk0 145 [vv 0 (.vs 1 tg_37 l_38),vi 1 x_39,vi 2 x_40,vi 9 x_46,vi 39 x_45,vb 108 true,vv 114 (.vs 1 tg_37 l_38),vi 115 x_39,vi 116 x_69,vi 117 x_40,vi 118 x_70,vv 119 (.tuple [(.str s_67),(i6 x_68)])]) = some o := stM C 2 (fun _ _ => by kernel_rfl) ho
theorem p40_14 {tg_37 : Bool} {l_38 : List AV} {x_39 x_40 x_45 x_46 x_72 x_73 x_74 : Int} {s_71 : List UInt8} (ho : Tr.val C 40
(cl0 40 [(.vs 1 tg_37 l_38),(i6 x_72),(i6 (w64 (x_40 + 1)))] fun r24 => .br (AV.pure r24.v)
(.mid 0 qG26 5 (mk0 145 [vv 0 (.vs 1 tg_37 l_38),vi 2 x_40,vi 9 x_46,vt 14 s_71,vi 15 x_72,vv 123 (.vs 1 tg_37 l_38),vi 124 x_72,vi 125 x_40,vi 126 (w64 (x_40 + 1)),vv 127 r24.v])) .none) = some o) : ML C 40 qG21 6 (mk0 145 [vv 0 (.vs 1 tg_37 l_38),vi 1 x_39,vi 2 x_40,vi 9 x_46,vi 39 x_45,vb 108 true,vv 114 (.vs 1 tg_37 l_38),vi 115 x_39,vi 116 x_73,vi 117 x_40,vi 118 x_74,vv 119 (.tuple [(.str s_71),(i6 x_72)])]) = some o := stM C 2 (fun _ _ => by kernel_rfl) ho
theorem p40_15 {tg_37 : Bool} {l_38 : List AV} {x_39 x_40 x_46 x_76 x_77 x_78 : Int} {s_75 : List UInt8} (ho : Tr.val C 40
(cl0 40 [(.vs 1 tg_37 l_38),(i6 x_76),(i6 (w64 (x_40 + 1)))] fun r25 => .br (AV.pure r25.v)
(.mid 0 qG27 5 (mk0 145 [vv 0 (.vs 1 tg_37 l_38),vi 2 x_40,vi 9 x_46,vt 14 s_75,vi 15 x_76,vv 123 (.vs 1 tg_37 l_38),vi 124 x_76,vi 125 x_40,vi 126 (w64 (x_40 + 1)),vv 127 r25.v])) .none) = some o) : ML C 40 qG22 6 (mk0 145 [vv 0 (.vs 1 tg_37 l_38),vi 1 x_39,vi 2 x_40,vi 9 x_46,vb 108 true,vv 114 (.vs 1 tg_37 l_38),vi 115 x_39,vi 116 x_77,vi 117 x_40,vi 118 x_78,vv 119 (.tuple [(.str s_75),(i6 x_76)])]) = some o := stM C 2 (fun _ _ => by kernel_rfl) ho
theorem p40_16 {tg_37 : Bool} {l_38 : List AV} {x_39 x_40 x_46 : Int} {s_79 : List UInt8} (ho : Tr.val C 40
(rt (.tuple [(.str s_79),(i6 (w64 (x_39 + 1)))])) = some o) : ML C 40 qG23 2 (mk0 145 [vv 0 (.vs 1 tg_37 l_38),vi 1 x_39,vi 2 x_40,vi 9 x_46,vb 108 false,vi 141 x_46,vt 142 s_79]) = some o := stM C 1 (fun _ _ => by kernel_rfl) ho
theorem p40_17 {tg_37 : Bool} {l_38 : List AV} {x_39 x_40 x_45 x_46 x_48 : Int} {s_80 : List UInt8} (ho : Tr.val C 40
(cl0 78 [(.str s_80)] fun r26 => .br (AV.pure r26.v)
(.mid 0 qG1 6 (mkS 145 [vv 0 (.vs 1 tg_37 l_38),vi 1 x_39,vi 2 x_40,vi 9 x_46,vi 39 x_45,vb 46 true,vv 48 cG2,vi 49 x_46,vi 50 x_48,vv 51 (.cptr [(.str s_80)]),vt 52 s_80,vv 53 r26.v] [] Hp.none 0)) .none) = some o) : ML C 40 qG1 4 (mkS 145 [vv 0 (.vs 1 tg_37 l_38),vi 1 x_39,vi 2 x_40,vi 9 x_46,vi 39 x_45,vb 46 true,vv 48 cG2,vi 49 x_46,vi 50 x_48,vv 51 (.cptr [(.str s_80)])] [] Hp.none 0) = some o := stM C 0 (fun _ _ => by kernel_rfl) ho
theorem p40_18 {tg_37 : Bool} {l_38 : List AV} {x_39 x_40 x_45 x_46 x_49 : Int} {s_81 : List UInt8} (ho : Tr.val C 40
(rt (.tuple [(.str s_81),(i6 (w64 (x_39 + 1)))])) = some o) : ML C 40 qG4 4 (mkS 145 [vv 0 (.vs 1 tg_37 l_38),vi 1 x_39,vi 2 x_40,vi 9 x_46,vi 39 x_45,vb 56 true,vv 58 cG4,vi 59 x_46,vi 60 x_49,vv 61 (.cptr [(.str s_81)])] [] Hp.none 0) = some o := stM C 1 (fun _ _ => by kernel_rfl) ho
theorem p40_19 {x_46 x_52 x_82 : Int} {s_51 : List UInt8} (ho : Tr.val C 40
(ixl 4 [(.str [45]),(.str [33]),(.str [45,32]),(.str [33,32])] x_82 fun c27 =>
(.mid 0 qG5 4 (mkS 145 [vi 9 x_46,vt 10 s_51,vi 11 x_52,vv 85 cG1,vi 86 x_46,vi 87 x_82,vv 88 (.cptr (AV.cells c27))] [] Hp.none 0))) = some o) : ML C 40 qG5 3 (mkS 145 [vi 9 x_46,vt 10 s_51,vi 11 x_52,vv 85 cG1,vi 86 x_46,vi 87 x_82] [] Hp.none 0) = some o := stM C 0 (fun _ _ => by kernel_rfl) ho
theorem p40_20 {x_46 x_56 x_83 : Int} {s_55 : List UInt8} (ho : Tr.val C 40
(ixl 4 [(.str [45]),(.str [33]),(.str [45,32]),(.str [33,32])] x_83 fun c28 =>
(.mid 0 qG6 4 (mkS 145 [vi 9 x_46,vt 10 s_55,vi 11 x_56,vv 85 cG1,vi 86 x_46,vi 87 x_83,vv 88 (.cptr (AV.cells c28))] [] Hp.none 0))) = some o) : ML C 40 qG6 3 (mkS 145 [vi 9 x_46,vt 10 s_55,vi 11 x_56,vv 85 cG1,vi 86 x_46,vi 87 x_83] [] Hp.none 0) = some o := stM C 0 (fun _ _ => by kernel_rfl) ho
theorem p40_21 {tg_37 : Bool} {l_38 : List AV} {x_40 x_46 x_64 x_85 x_86 : Int} {s_63 s_84 : List UInt8} (ho : Tr.val C 40
(cl0 22 [(i6 x_46),(i6 11)] fun r29 => .br (AV.pure r29.v)
(.mid 0 qG7 3 (mkS 145 [vi 9 x_46,vt 14 s_63,vt 16 s_84,vi 17 x_85,vv 130 cG0,vi 131 x_46,vv 132 r29.v] [] Hp.none 0)) .none) = some o) : ML C 40 qG24 5 (mk0 145 [vv 0 (.vs 1 tg_37 l_38),vi 2 x_40,vi 9 x_46,vt 14 s_63,vi 15 x_64,vv 123 (.vs 1 tg_37 l_38),vi 124 x_64,vi 125 x_40,vi 126 x_86,vv 127 (.tuple [(.str s_84),(i6 x_85)])]) = some o := stM C 2 (fun _ _ => by kernel_rfl) ho
theorem p40_22 {tg_37 : Bool} {l_38 : List AV} {x_40 x_46 x_68 x_88 x_89 : Int} {s_67 s_87 : List UInt8} (ho : Tr.val C 40
(cl0 22 [(i6 x_46),(i6 11)] fun r30 => .br (AV.pure r30.v)
(.mid 0 qG8 3 (mkS 145 [vi 9 x_46,vt 14 s_67,vt 16 s_87,vi 17 x_88,vv 130 cG0,vi 131 x_46,vv 132 r30.v] [] Hp.none 0)) .none) = some o) : ML C 40 qG25 5 (mk0 145 [vv 0 (.vs 1 tg_37 l_38),vi 2 x_40,vi 9 x_46,vt 14 s_67,vi 15 x_68,vv 123 (.vs 1 tg_37 l_38),vi 124 x_68,vi 125 x_40,vi 126 x_89,vv 127 (.tuple [(.str s_87),(i6 x_88)])]) = some o := stM C 2 (fun _ _ => by kernel_rfl) ho
theorem p40_23 {tg_37 : Bool} {l_38 : List AV} {x_40 x_46 x_72 x_91 x_92 : Int} {s_71 s_90 : List UInt8} (ho : Tr.val C 40
(cl0 22 [(i6 x_46),(i6 11)] fun r31 => .br (AV.pure r31.v)
(.mid 0 qG9 3 (mkS 145 [vi 9 x_46,vt 14 s_71,vt 16 s_90,vi 17 x_91,vv 130 cG0,vi 131 x_46,vv 132 r31.v] [] Hp.none 0)) .none) = some o) : ML C 40 qG26 5 (mk0 145 [vv 0 (.vs 1 tg_37 l_38),vi 2 x_40,vi 9 x_46,vt 14 s_71,vi 15 x_72,vv 123 (.vs 1 tg_37 l_38),vi 124 x_72,vi 125 x_40,vi 126 x_92,vv 127 (.tuple [(.str s_90),(i6 x_91)])]) = some o := stM C 2 (fun _ _ => by kernel_rfl) ho
theorem p40_24 {tg_37 : Bool} {l_38 : List AV} {x_40 x_46 x_76 x_94 x_95 : Int} {s_75 s_93 : List UInt8} (ho : Tr.val C 40
(cl0 22 [(i6 x_46),(i6 11)] fun r32 => .br (AV.pure r32.v)
(.mid 0 qG10 3 (mkS 145 [vi 9 x_46,vt 14 s_75,vt 16 s_93,vi 17 x_94,vv 130 cG0,vi 131 x_46,vv 132 r32.v] [] Hp.none 0)) .none) = some o) : ML C 40 qG27 5 (mk0 145 [vv 0 (.vs 1 tg_37 l_38),vi 2 x_40,vi 9 x_46,vt 14 s_75,vi 15 x_76,vv 123 (.vs 1 tg_37 l_38),vi 124 x_76,vi 125 x_40,vi 126 x_95,vv 127 (.tuple [(.str s_93),(i6 x_94)])]) = some o := stM C 2 (fun _ _ => by kernel_rfl) ho
theorem p40_25 {tg_37 : Bool} {l_38 : List AV} {x_39 x_40 x_45 x_46 x_48 : Int} {s_80 s_96 : List UInt8} (ho : Tr.val C 40
(rt (.tuple [(.str s_96),(i6 (w64 (x_39 + 1)))])) = some o) : ML C 40 qG1 6 (mkS 145 [vv 0 (.vs 1 tg_37 l_38),vi 1 x_39,vi 2 x_40,vi 9 x_46,vi 39 x_45,vb 46 true,vv 48 cG2,vi 49 x_46,vi 50 x_48,vv 51 (.cptr [(.str s_80)]),vt 52 s_80,vt 53 s_96] [] Hp.none 0) = some o := stM C 1 (fun _ _ => by kernel_rfl) ho
theorem p40_26 {x_46 x_52 x_82 : Int} {s_51 s_97 : List UInt8} (ho : Tr.val C 40
(.br (Nat.ble (s_97.length + s_51.length) 4611686018427387904)
(rt (.tuple [(.str (s_97 ++ s_51)),(i6 x_52)])) .none) = some o) : ML C 40 qG5 4 (mkS 145 [vi 9 x_46,vt 10 s_51,vi 11 x_52,vv 85 cG1,vi 86 x_46,vi 87 x_82,vv 88 (.cptr [(.str s_97)])] [] Hp.none 0) = some o := stM C 1 (fun _ _ => by kernel_rfl) ho
theorem p40_27 {x_46 x_56 x_83 : Int} {s_55 s_98 : List UInt8} (ho : Tr.val C 40
(.br (Nat.ble (s_98.length + s_55.length) 4611686018427387904)
(rt (.tuple [(.str (s_98 ++ s_55)),(i6 x_56)])) .none) = some o) : ML C 40 qG6 4 (mkS 145 [vi 9 x_46,vt 10 s_55,vi 11 x_56,vv 85 cG1,vi 86 x_46,vi 87 x_83,vv 88 (.cptr [(.str s_98)])] [] Hp.none 0) = some o := stM C 1 (fun _ _ => by kernel_rfl) ho
theorem p40_28 {x_46 x_85 x_99 : Int} {s_63 s_84 : List UInt8} (ho : Tr.val C 40
(ixl 11 [(.str [32,43,32]),(.str [32,45,32]),(.str [42]),(.str [32,61,61,32]),(.str [32,60,32]),(.str [62,61]),(.str [32,38,38,32]),(.str [124,124]),(.str [32,104,97,115,32]),(.str [32,33,61,32]),(.str [45])] x_99 fun c33 =>
(.mid 0 qG7 4 (mkS 145 [vi 9 x_46,vt 14 s_63,vt 16 s_84,vi 17 x_85,vv 130 cG0,vi 131 x_46,vi 132 x_99,vv 133 (.cptr (AV.cells c33))] [] Hp.none 0))) = some o) : ML C 40 qG7 3 (mkS 145 [vi 9 x_46,vt 14 s_63,vt 16 s_84,vi 17 x_85,vv 130 cG0,vi 131 x_46,vi 132 x_99] [] Hp.none 0) = some o := stM C 0 (fun _ _ => by kernel_rfl) ho
theorem p40_29 {x_46 x_88 x_100 : Int} {s_67 s_87 : List UInt8} (ho : Tr.val C 40
(ixl 11 [(.str [32,43,32]),(.str [32,45,32]),(.str [42]),(.str [32,61,61,32]),(.str [32,60,32]),(.str [62,61]),(.str [32,38,38,32]),(.str [124,124]),(.str [32,104,97,115,32]),(.str [32,33,61,32]),(.str [45])] x_100 fun c34 =>
(.mid 0 qG8 4 (mkS 145 [vi 9 x_46,vt 14 s_67,vt 16 s_87,vi 17 x_88,vv 130 cG0,vi 131 x_46,vi 132 x_100,vv 133 (.cptr (AV.cells c34))] [] Hp.none 0))) = some o) : ML C 40 qG8 3 (mkS 145 [vi 9 x_46,vt 14 s_67,vt 16 s_87,vi 17 x_88,vv 130 cG0,vi 131 x_46,vi 132 x_100] [] Hp.none 0) = some o := stM C 0 (fun _ _ => by kernel_rfl) ho
theorem p40_30 {x_46 x_91 x_101 : Int} {s_71 s_90 : List UInt8} (ho : Tr.val C 40
(ixl 11 [(.str [32,43,32]),(.str [32,45,32]),(.str [42]),(.str [32,61,61,32]),(.str [32,60,32]),(.str [62,61]),(.str [32,38,38,32]),(.str [124,124]),(.str [32,104,97,115,32]),(.str [32,33,61,32]),(.str [45])] x_101 fun c35 =>
(.mid 0 qG9 4 (mkS 145 [vi 9 x_46,vt 14 s_71,vt 16 s_90,vi 17 x_91,vv 130 cG0,vi 131 x_46,vi 132 x_101,vv 133 (.cptr (AV.cells c35))] [] Hp.none 0))) = some o) : ML C 40 qG9 3 (mkS 145 [vi 9 x_46,vt 14 s_71,vt 16 s_90,vi 17 x_91,vv 130 cG0,vi 131 x_46,vi 132 x_101] [] Hp.none 0) = some o := stM C 0 (fun _ _ => by kernel_rfl) ho
theorem p40_31 {x_46 x_94 x_102 : Int} {s_75 s_93 : List UInt8} (ho : Tr.val C 40
(ixl 11 [(.str [32,43,32]),(.str [32,45,32]),(.str [42]),(.str [32,61,61,32]),(.str [32,60,32]),(.str [62,61]),(.str [32,38,38,32]),(.str [124,124]),(.str [32,104,97,115,32]),(.str [32,33,61,32]),(.str [45])] x_102 fun c36 =>
(.mid 0 qG10 4 (mkS 145 [vi 9 x_46,vt 14 s_75,vt 16 s_93,vi 17 x_94,vv 130 cG0,vi 131 x_46,vi 132 x_102,vv 133 (.cptr (AV.cells c36))] [] Hp.none 0))) = some o) : ML C 40 qG10 3 (mkS 145 [vi 9 x_46,vt 14 s_75,vt 16 s_93,vi 17 x_94,vv 130 cG0,vi 131 x_46,vi 132 x_102] [] Hp.none 0) = some o := stM C 0 (fun _ _ => by kernel_rfl) ho
theorem p40_32 {x_46 x_85 x_99 : Int} {s_63 s_84 s_103 : List UInt8} (ho : Tr.val C 40
(.br (Nat.ble (s_63.length + s_103.length) 4611686018427387904)
(.br (Nat.ble ((s_63 ++ s_103).length + s_84.length) 4611686018427387904)
(rt (.tuple [(.str ((s_63 ++ s_103) ++ s_84)),(i6 x_85)])) .none) .none) = some o) : ML C 40 qG7 4 (mkS 145 [vi 9 x_46,vt 14 s_63,vt 16 s_84,vi 17 x_85,vv 130 cG0,vi 131 x_46,vi 132 x_99,vv 133 (.cptr [(.str s_103)])] [] Hp.none 0) = some o := stM C 3 (fun _ _ => by kernel_rfl) ho
theorem p40_33 {x_46 x_88 x_100 : Int} {s_67 s_87 s_104 : List UInt8} (ho : Tr.val C 40
(.br (Nat.ble (s_67.length + s_104.length) 4611686018427387904)
(.br (Nat.ble ((s_67 ++ s_104).length + s_87.length) 4611686018427387904)
(rt (.tuple [(.str ((s_67 ++ s_104) ++ s_87)),(i6 x_88)])) .none) .none) = some o) : ML C 40 qG8 4 (mkS 145 [vi 9 x_46,vt 14 s_67,vt 16 s_87,vi 17 x_88,vv 130 cG0,vi 131 x_46,vi 132 x_100,vv 133 (.cptr [(.str s_104)])] [] Hp.none 0) = some o := stM C 3 (fun _ _ => by kernel_rfl) ho
theorem p40_34 {x_46 x_91 x_101 : Int} {s_71 s_90 s_105 : List UInt8} (ho : Tr.val C 40
(.br (Nat.ble (s_71.length + s_105.length) 4611686018427387904)
(.br (Nat.ble ((s_71 ++ s_105).length + s_90.length) 4611686018427387904)
(rt (.tuple [(.str ((s_71 ++ s_105) ++ s_90)),(i6 x_91)])) .none) .none) = some o) : ML C 40 qG9 4 (mkS 145 [vi 9 x_46,vt 14 s_71,vt 16 s_90,vi 17 x_91,vv 130 cG0,vi 131 x_46,vi 132 x_101,vv 133 (.cptr [(.str s_105)])] [] Hp.none 0) = some o := stM C 3 (fun _ _ => by kernel_rfl) ho
theorem p40_35 {x_46 x_94 x_102 : Int} {s_75 s_93 s_106 : List UInt8} (ho : Tr.val C 40
(.br (Nat.ble (s_75.length + s_106.length) 4611686018427387904)
(.br (Nat.ble ((s_75 ++ s_106).length + s_93.length) 4611686018427387904)
(rt (.tuple [(.str ((s_75 ++ s_106) ++ s_93)),(i6 x_94)])) .none) .none) = some o) : ML C 40 qG10 4 (mkS 145 [vi 9 x_46,vt 14 s_75,vt 16 s_93,vi 17 x_94,vv 130 cG0,vi 131 x_46,vi 132 x_102,vv 133 (.cptr [(.str s_106)])] [] Hp.none 0) = some o := stM C 3 (fun _ _ => by kernel_rfl) ho
end Go.Proofs.YtfdklpkfpmkgeaaGreatDoor
end
section
namespace Go.Proofs.YtfdklpkfpmkgeaaGreatDoor
open Go Go.Vai
attribute [local irreducible] goTo zas mkS
theorem za8 (l : List Int) : (ints l).length = l.length := List.length_map _
variable {C : Nat→Oracle} (hC : Ext C)
include hC
theorem zsg (n : Int) : ∀ (m : Nat) (i : Int) (s : List UInt8),(5 - i).toNat = m→0 ≤ i→i ≤ 4→s.length ≤ 1 + 30 * i.toNat →
  Was (RL C 39 [0,5,0,5,0,0,5,2,3] (mkS 33 [(0,.val (.int .i64 n) .no),(3,.val (.str s) .no),(4,.val (.int .i64 i) .no)] [] Hp.none 0)) (QS 200):=by
 intro m
 induction m with
 | zero=>intro i s hm h0 h4; omega
 | succ m ih =>
  intro i s hm h0 h4 hs
  have w1 : w64 (2 + i) = 2 + i := zaz (by omega) (by omega)
  have w2 : w64 (6 + i) = 6 + i := zaz (by omega) (by omega)
  have w3 : w64 (i + 1) = i + 1 := zaz (by omega) (by omega)
  refine exW (fun o=>p39_1) ?_
  simp only [Tr.val,za7,AV.pure,za1]
  repeat' (first
   | refine .bL (by first | omega | (simp only [List.length_append,List.length_cons,List.length_nil,List.length_drop,List.length_take]; omega)) ?_
   | refine .bT (by omega) ?_
   | refine .bF (by omega) ?_
   | (refine .call (w77 hC _ _ _ (by omega) (by omega) (by omega)) ?_; rintro o ⟨x,e,h1,h2⟩; simp only [e,AV.pure,za1]; clear e)
   | (refine .call (w37 hC _) ?_; rintro o ⟨s,e,h1⟩; simp only [e,AV.pure,za1]; clear e)
   | (refine exW (fun o=>p39_2) ?_; simp only [Tr.val,za7,AV.pure,za1,AV.cells,za0,za8,Bool.not_true,Bool.not_false,w1,w2,w3])
   | (refine exW (fun o=>p39_3) ?_; simp only [Tr.val,za7,AV.pure,za1,AV.cells,za0,za8,Bool.not_true,Bool.not_false,w1,w2,w3])
   | (refine exW (fun o=>p39_4) ?_; simp only [Tr.val,za7,AV.pure,za1,AV.cells,za0,za8,Bool.not_true,Bool.not_false,w1,w2,w3])
   | (refine exW (fun o=>p39_5) ?_; simp only [Tr.val,za7,AV.pure,za1,AV.cells,za0,za8,Bool.not_true,Bool.not_false,w1,w2,w3])
   | (refine exW (fun o=>p39_6) ?_; simp only [Tr.val,za7,AV.pure,za1,AV.cells,za0,za8,Bool.not_true,Bool.not_false,w1,w2,w3])
   | (refine exW (fun o=>p39_7) ?_; simp only [Tr.val,za7,AV.pure,za1,AV.cells,za0,za8,Bool.not_true,Bool.not_false,w1,w2,w3])
   | (refine exW (fun o=>p39_8) ?_; simp only [Tr.val,za7,AV.pure,za1,AV.cells,za0,za8,Bool.not_true,Bool.not_false,w1,w2,w3])
   | (refine exW (fun o=>p39_9) ?_; simp only [Tr.val,za7,AV.pure,za1,AV.cells,za0,za8,Bool.not_true,Bool.not_false,w1,w2,w3])
   | (refine exW (fun o=>p39_10) ?_; simp only [Tr.val,za7,AV.pure,za1,AV.cells,za0,za8,Bool.not_true,Bool.not_false,w1,w2,w3])
   | (refine .nth (B := 20) rfl (by simp only [List.length_cons,List.length_nil]; omega) fun s hs=>?_; simp only [AV.cells])
   | exact .mk ⟨_,rfl,by first | omega | (simp only [List.length_append,List.length_cons,List.length_nil,List.length_drop,List.length_take]; omega)⟩
   | refine .dec (fun h=>?_) (fun h=>?_)
   | refine .both (fun h=>?_) (fun h=>?_))
  all_goals exact ih _ _ (by omega) (by omega) (by omega) (by simp only [List.length_append,List.length_cons,List.length_nil]; omega)
theorem w39 (n : Int) : Was (calL C 39 [.int .i64 n] Hp.none 0) (QS 200):=by
 refine exW (fun o=>p39_c hC) (exW (fun o=>p39_0) ?_)
 exact zsg hC n _ 0 [40] rfl (by decide) (by decide) (by decide)
set_option maxHeartbeats 4000000 in
theorem zkg (tg : Bool) (l : List Int) (hl : l.length ≤ 1000000) (B : Nat) (hB : B ≤ 100000) (d : Int) (hd : -100 ≤ d∧d ≤ 5) (ih : ∀ i : Int,Was (calL C 40 [.vs 1 tg (ints l),.int .i64 i,.int .i64 (d + 1)] Hp.none 0) (QP B)) (i : Int) :
  Was (calL C 40 [.vs 1 tg (ints l),.int .i64 i,.int .i64 d] Hp.none 0) (QP (2 * B + 50)):=by
 have w1 : w64 (d + 1) = d + 1 := zaz (by omega) (by omega)
 refine exW (fun o=>p40_c hC) (exW (fun o=>p40_0) ?_)
 simp only [Tr.val,za7,AV.pure,za1,za0]
 repeat' (first
  | refine .bL (by first | omega | (simp only [List.length_append,List.length_cons,List.length_nil,List.length_drop,List.length_take]; omega)) ?_
  | refine .bT (by omega) ?_
  | refine .bF (by omega) ?_
  | (refine .call (w34 hC _ _ (by omega) _) ?_; rintro o ⟨x,e⟩; simp only [e,AV.pure,za1]; clear e)
  | (refine .call (w37 hC _) ?_; rintro o ⟨s,e,h1⟩; simp only [e,AV.pure,za1]; clear e)
  | (refine .call (w22 hC _ _ (by omega) (by omega)) ?_; rintro o ⟨x,e,h1,h2⟩; simp only [e,AV.pure,za1]; clear e)
  | (refine .call (w29 hC _) ?_; rintro o ⟨s,e,h1⟩; simp only [e,AV.pure,za1]; clear e)
  | (refine .call (w78 hC _ (by omega)) ?_; rintro o ⟨s,e,h1⟩; simp only [e,AV.pure,za1]; clear e)
  | (refine .call (ih _) ?_; rintro o ⟨s,x,e,h1⟩; simp only [e,AV.pure,za7,za1]; clear e)
  | (refine exW (fun o=>p40_1) ?_; simp only [Tr.val,za7,AV.pure,za1,AV.cells,za0,za8,Bool.not_true,Bool.not_false,w1])
  | (refine exW (fun o=>p40_2) ?_; simp only [Tr.val,za7,AV.pure,za1,AV.cells,za0,za8,Bool.not_true,Bool.not_false,w1])
  | (refine exW (fun o=>p40_3) ?_; simp only [Tr.val,za7,AV.pure,za1,AV.cells,za0,za8,Bool.not_true,Bool.not_false,w1])
  | (refine exW (fun o=>p40_4) ?_; simp only [Tr.val,za7,AV.pure,za1,AV.cells,za0,za8,Bool.not_true,Bool.not_false,w1])
  | (refine exW (fun o=>p40_5) ?_; simp only [Tr.val,za7,AV.pure,za1,AV.cells,za0,za8,Bool.not_true,Bool.not_false,w1])
  | (refine exW (fun o=>p40_6) ?_; simp only [Tr.val,za7,AV.pure,za1,AV.cells,za0,za8,Bool.not_true,Bool.not_false,w1])
  | (refine exW (fun o=>p40_7) ?_; simp only [Tr.val,za7,AV.pure,za1,AV.cells,za0,za8,Bool.not_true,Bool.not_false,w1])
  | (refine exW (fun o=>p40_8) ?_; simp only [Tr.val,za7,AV.pure,za1,AV.cells,za0,za8,Bool.not_true,Bool.not_false,w1])
  | (refine exW (fun o=>p40_9) ?_; simp only [Tr.val,za7,AV.pure,za1,AV.cells,za0,za8,Bool.not_true,Bool.not_false,w1])
  | (refine exW (fun o=>p40_10) ?_; simp only [Tr.val,za7,AV.pure,za1,AV.cells,za0,za8,Bool.not_true,Bool.not_false,w1])
  | (refine exW (fun o=>p40_11) ?_; simp only [Tr.val,za7,AV.pure,za1,AV.cells,za0,za8,Bool.not_true,Bool.not_false,w1])
  | (refine exW (fun o=>p40_12) ?_; simp only [Tr.val,za7,AV.pure,za1,AV.cells,za0,za8,Bool.not_true,Bool.not_false,w1])
  | (refine exW (fun o=>p40_13) ?_; simp only [Tr.val,za7,AV.pure,za1,AV.cells,za0,za8,Bool.not_true,Bool.not_false,w1])
  | (refine exW (fun o=>p40_14) ?_; simp only [Tr.val,za7,AV.pure,za1,AV.cells,za0,za8,Bool.not_true,Bool.not_false,w1])
  | (refine exW (fun o=>p40_15) ?_; simp only [Tr.val,za7,AV.pure,za1,AV.cells,za0,za8,Bool.not_true,Bool.not_false,w1])
  | (refine exW (fun o=>p40_16) ?_; simp only [Tr.val,za7,AV.pure,za1,AV.cells,za0,za8,Bool.not_true,Bool.not_false,w1])
  | (refine exW (fun o=>p40_17) ?_; simp only [Tr.val,za7,AV.pure,za1,AV.cells,za0,za8,Bool.not_true,Bool.not_false,w1])
  | (refine exW (fun o=>p40_18) ?_; simp only [Tr.val,za7,AV.pure,za1,AV.cells,za0,za8,Bool.not_true,Bool.not_false,w1])
  | (refine exW (fun o=>p40_19) ?_; simp only [Tr.val,za7,AV.pure,za1,AV.cells,za0,za8,Bool.not_true,Bool.not_false,w1])
  | (refine exW (fun o=>p40_20) ?_; simp only [Tr.val,za7,AV.pure,za1,AV.cells,za0,za8,Bool.not_true,Bool.not_false,w1])
  | (refine exW (fun o=>p40_21) ?_; simp only [Tr.val,za7,AV.pure,za1,AV.cells,za0,za8,Bool.not_true,Bool.not_false,w1])
  | (refine exW (fun o=>p40_22) ?_; simp only [Tr.val,za7,AV.pure,za1,AV.cells,za0,za8,Bool.not_true,Bool.not_false,w1])
  | (refine exW (fun o=>p40_23) ?_; simp only [Tr.val,za7,AV.pure,za1,AV.cells,za0,za8,Bool.not_true,Bool.not_false,w1])
  | (refine exW (fun o=>p40_24) ?_; simp only [Tr.val,za7,AV.pure,za1,AV.cells,za0,za8,Bool.not_true,Bool.not_false,w1])
  | (refine exW (fun o=>p40_25) ?_; simp only [Tr.val,za7,AV.pure,za1,AV.cells,za0,za8,Bool.not_true,Bool.not_false,w1])
  | (refine exW (fun o=>p40_26) ?_; simp only [Tr.val,za7,AV.pure,za1,AV.cells,za0,za8,Bool.not_true,Bool.not_false,w1])
  | (refine exW (fun o=>p40_27) ?_; simp only [Tr.val,za7,AV.pure,za1,AV.cells,za0,za8,Bool.not_true,Bool.not_false,w1])
  | (refine exW (fun o=>p40_28) ?_; simp only [Tr.val,za7,AV.pure,za1,AV.cells,za0,za8,Bool.not_true,Bool.not_false,w1])
  | (refine exW (fun o=>p40_29) ?_; simp only [Tr.val,za7,AV.pure,za1,AV.cells,za0,za8,Bool.not_true,Bool.not_false,w1])
  | (refine exW (fun o=>p40_30) ?_; simp only [Tr.val,za7,AV.pure,za1,AV.cells,za0,za8,Bool.not_true,Bool.not_false,w1])
  | (refine exW (fun o=>p40_31) ?_; simp only [Tr.val,za7,AV.pure,za1,AV.cells,za0,za8,Bool.not_true,Bool.not_false,w1])
  | (refine exW (fun o=>p40_32) ?_; simp only [Tr.val,za7,AV.pure,za1,AV.cells,za0,za8,Bool.not_true,Bool.not_false,w1])
  | (refine exW (fun o=>p40_33) ?_; simp only [Tr.val,za7,AV.pure,za1,AV.cells,za0,za8,Bool.not_true,Bool.not_false,w1])
  | (refine exW (fun o=>p40_34) ?_; simp only [Tr.val,za7,AV.pure,za1,AV.cells,za0,za8,Bool.not_true,Bool.not_false,w1])
  | (refine exW (fun o=>p40_35) ?_; simp only [Tr.val,za7,AV.pure,za1,AV.cells,za0,za8,Bool.not_true,Bool.not_false,w1])
  | (refine exW (fun o=>p40_36) ?_; simp only [Tr.val,za7,AV.pure,za1,AV.cells,za0,za8,Bool.not_true,Bool.not_false,w1])
  | (refine .nth (B := 20) rfl (by simp only [List.length_cons,List.length_nil]; omega) fun s hs=>?_; simp only [AV.cells])
  | exact .mk ⟨_,_,rfl,by first | omega | (simp only [List.length_append,List.length_cons,List.length_nil,List.length_drop,List.length_take]; omega)⟩
  | refine .dec (fun h=>?_) (fun h=>?_)
  | refine .both (fun h=>?_) (fun h=>?_))
theorem leaf40 (tg : Bool) (l : List Int) (hl : l.length ≤ 1000000) (d : Int) (hd : 5 < d) (i : Int) : Was (calL C 40 [.vs 1 tg (ints l),.int .i64 i,.int .i64 d] Hp.none 0) (QP 5):=by
 refine exW (fun o=>p40_c hC) (exW (fun o=>p40_0) ?_)
 simp only [Tr.val,za7,AV.pure,za1,za0]
 repeat' (first
  | refine .bL (by first | omega | (simp only [List.length_append,List.length_cons,List.length_nil,List.length_drop,List.length_take]; omega)) ?_
  | refine .bT (by omega) ?_
  | refine .bF (by omega) ?_
  | (refine .call (w34 hC _ _ (by omega) _) ?_; rintro o ⟨x,e⟩; simp only [e,AV.pure,za1]; clear e)
  | (refine .call (w37 hC _) ?_; rintro o ⟨s,e,h1⟩; simp only [e,AV.pure,za1]; clear e)
  | (refine exW (fun o=>p40_1) ?_; simp only [Tr.val,za7,AV.pure,za1,AV.cells,za0,za8,Bool.not_true,Bool.not_false])
  | (refine exW (fun o=>p40_2) ?_; simp only [Tr.val,za7,AV.pure,za1,AV.cells,za0,za8,Bool.not_true,Bool.not_false])
  | (refine .nth (B := 20) rfl (by simp only [List.length_cons,List.length_nil]; omega) fun s hs=>?_; simp only [AV.cells])
  | exact .mk ⟨_,_,rfl,by first | omega | (simp only [List.length_append,List.length_cons,List.length_nil,List.length_drop,List.length_take]; omega)⟩
  | refine .dec (fun h=>?_) (fun h=>?_)
  | refine .both (fun h=>?_) (fun h=>?_))
theorem w40 (tg : Bool) (l : List Int) (hl : l.length ≤ 1000000) (i d : Int) (h0 : 0 ≤ d) (h6 : d ≤ 6) : Was (calL C 40 [.vs 1 tg (ints l),.int .i64 i,.int .i64 d] Hp.none 0) (QP 4000):=by
 have s6 := leaf40 hC tg l hl 6 (by decide)
 have s5 := zkg hC tg l hl 5 (by decide) 5 (by decide) s6
 have s4 := zkg hC tg l hl _ (by decide) 4 (by decide) s5
 have s3 := zkg hC tg l hl _ (by decide) 3 (by decide) s4
 have s2 := zkg hC tg l hl _ (by decide) 2 (by decide) s3
 have s1 := zkg hC tg l hl _ (by decide) 1 (by decide) s2
 have s0 := zkg hC tg l hl _ (by decide) 0 (by decide) s1
 have up : ∀ {B : Nat} (_ : B ≤ 4000) (e : Int) (_ : ∀ i : Int,Was (calL C 40 [.vs 1 tg (ints l),.int .i64 i,.int .i64 e] Hp.none 0) (QP B)),Was (calL C 40 [.vs 1 tg (ints l),.int .i64 i,.int .i64 e] Hp.none 0) (QP 4000) := fun hB e h=>(h i).imp fun o ⟨s,x,e1,e2⟩=>⟨s,x,e1,Nat.le_trans e2 hB⟩
 rcases (by omega : d = 0 ∨ d = 1 ∨ d = 2 ∨ d = 3 ∨ d = 4 ∨ d = 5 ∨ d = 6) with rfl | rfl | rfl | rfl | rfl | rfl | rfl
 ·exact up (by decide) _ s0
 ·exact up (by decide) _ s1
 ·exact up (by decide) _ s2
 ·exact up (by decide) _ s3
 ·exact up (by decide) _ s4
 ·exact up (by decide) _ s5
 ·exact up (by decide) _ s6
end Go.Proofs.YtfdklpkfpmkgeaaGreatDoor
end
section
namespace Go.Proofs.YtfdklpkfpmkgeaaGreatDoor
open Go Go.Vai
attribute [local irreducible] goTo zas mkS
variable {C : Nat→Oracle} (hC : Ext C)
include hC
set_option maxHeartbeats 4000000 in
theorem stm_loop (tg : Bool) (l : List Int) (hl : l.length ≤ 1000000) (B M : Nat) (hM : 2 * B + 4200 ≤ M) (hM2 : M ≤ 1000000000000) (d : Int) (hd : 0 ≤ d∧d ≤ 100) (ih : d ≤ 2→∀ a : Int,Was (calL C 38 [.vs 1 tg (ints l),.int .i64 a,.int .i64 (d + 1)] Hp.none 0) (QP B)) :
  ∀ (m : Nat) (i a : Int) (s : List UInt8),(4 - i).toNat = m→0 ≤ i→i ≤ 3→s.length ≤ i.toNat * M →
  Was (RL C 38 [0,5,0,5,0,0,5,2,3] (mkS 107 [(0,.val (.vs 1 tg (ints l)) .no),(1,.val (.int .i64 a) .no),(2,.val (.int .i64 d) .no),(8,.val (.str s) .no),(9,.val (.int .i64 i) .no)] [] Hp.none 0)) (QP (3 * M)):=by
 intro m
 induction m with
 | zero=>intro i a s hm h0 h4; omega
 | succ m IH =>
  intro i a s hm h0 h4 hs
  have w1 : w64 (d + 1) = d + 1 := zaz (by omega) (by omega)
  have w3 : w64 (i + 1) = i + 1 := zaz (by omega) (by omega)
  have k1 : (i + 1).toNat * M = i.toNat * M + M := by rw [show (i + 1).toNat = i.toNat + 1 by omega,Nat.succ_mul]
  have k3 : i.toNat * M ≤ 3 * M := Nat.mul_le_mul_right M (by omega)
  refine exW (fun o=>p38_1) ?_
  simp only [Tr.val,za7,AV.pure,za1,za0]
  repeat' (first
   | refine .bL (by first | omega | (simp only [List.length_append,List.length_cons,List.length_nil,List.length_drop,List.length_take]; omega)) ?_
   | refine .bT (by omega) ?_
   | refine .bF (by omega) ?_
   | (refine .call (w34 hC _ _ (by omega) _) ?_; rintro o ⟨x,e⟩; simp only [e,AV.pure,za1]; clear e)
   | (refine .call (w37 hC _) ?_; rintro o ⟨s,e,h1⟩; simp only [e,AV.pure,za1]; clear e)
   | (refine .call (w22 hC _ _ (by omega) (by omega)) ?_; rintro o ⟨x,e,h1,h2⟩; simp only [e,AV.pure,za1]; clear e)
   | (refine .call (ih (by omega) _) ?_; rintro o ⟨s,x,e,h1⟩; simp only [e,AV.pure,za7,za1]; clear e)
   | (refine .call (w40 hC _ _ (by omega) _ _ (by omega) (by omega)) ?_; rintro o ⟨s,x,e,h1⟩; simp only [e,AV.pure,za7,za1]; clear e)
   | (refine exW (fun o=>p38_2) ?_; simp only [Tr.val,za7,AV.pure,za1,AV.cells,za0,za8,Bool.not_true,Bool.not_false,w1,w3])
   | (refine exW (fun o=>p38_3) ?_; simp only [Tr.val,za7,AV.pure,za1,AV.cells,za0,za8,Bool.not_true,Bool.not_false,w1,w3])
   | (refine exW (fun o=>p38_4) ?_; simp only [Tr.val,za7,AV.pure,za1,AV.cells,za0,za8,Bool.not_true,Bool.not_false,w1,w3])
   | (refine exW (fun o=>p38_5) ?_; simp only [Tr.val,za7,AV.pure,za1,AV.cells,za0,za8,Bool.not_true,Bool.not_false,w1,w3])
   | (refine exW (fun o=>p38_6) ?_; simp only [Tr.val,za7,AV.pure,za1,AV.cells,za0,za8,Bool.not_true,Bool.not_false,w1,w3])
   | (refine exW (fun o=>p38_7) ?_; simp only [Tr.val,za7,AV.pure,za1,AV.cells,za0,za8,Bool.not_true,Bool.not_false,w1,w3])
   | (refine exW (fun o=>p38_8) ?_; simp only [Tr.val,za7,AV.pure,za1,AV.cells,za0,za8,Bool.not_true,Bool.not_false,w1,w3])
   | (refine exW (fun o=>p38_9) ?_; simp only [Tr.val,za7,AV.pure,za1,AV.cells,za0,za8,Bool.not_true,Bool.not_false,w1,w3])
   | (refine exW (fun o=>p38_10) ?_; simp only [Tr.val,za7,AV.pure,za1,AV.cells,za0,za8,Bool.not_true,Bool.not_false,w1,w3])
   | (refine exW (fun o=>p38_11) ?_; simp only [Tr.val,za7,AV.pure,za1,AV.cells,za0,za8,Bool.not_true,Bool.not_false,w1,w3])
   | (refine .nth (B := 20) rfl (by simp only [List.length_cons,List.length_nil]; omega) fun s hs=>?_; simp only [AV.cells])
   | exact .mk ⟨_,_,rfl,by first | omega | (simp only [List.length_append,List.length_cons,List.length_nil,List.length_drop,List.length_take]; omega)⟩
   | refine .dec (fun h=>?_) (fun h=>?_)
   | refine .both (fun h=>?_) (fun h=>?_))
  all_goals exact IH _ _ _ (by omega) (by omega) (by omega) (by first | omega | (simp only [List.length_append,List.length_cons,List.length_nil]; omega))
theorem w38s (tg : Bool) (l : List Int) (hl : l.length ≤ 1000000) (B M : Nat) (hM : 2 * B + 4200 ≤ M) (hM2 : M ≤ 1000000000000) (d : Int) (hd : 0 ≤ d∧d ≤ 100) (ih : d ≤ 2→∀ a : Int,Was (calL C 38 [.vs 1 tg (ints l),.int .i64 a,.int .i64 (d + 1)] Hp.none 0) (QP B)) (a : Int) :
  Was (calL C 38 [.vs 1 tg (ints l),.int .i64 a,.int .i64 d] Hp.none 0) (QP (3 * M)):=by
 refine exW (fun o=>p38_c hC) (exW (fun o=>p38_0) ?_)
 exact stm_loop hC tg l hl B M hM hM2 d hd ih _ 0 a [] rfl (by decide) (by decide) (by simp)
theorem w38 (tg : Bool) (l : List Int) (hl : l.length ≤ 1000000) (a : Int) : Was (calL C 38 [.vs 1 tg (ints l),.int .i64 a,.int .i64 0] Hp.none 0) (QP 4000000):=by
 have s3 := w38s hC tg l hl 0 4200 (by decide) (by decide) 3 (by decide) (fun h=>absurd h (by decide))
 have s2 := w38s hC tg l hl _ 29400 (by decide) (by decide) 2 (by decide) (fun _=>s3)
 have s1 := w38s hC tg l hl _ 180600 (by decide) (by decide) 1 (by decide) (fun _=>s2)
 have s0 := w38s hC tg l hl _ 1087800 (by decide) (by decide) 0 (by decide) (fun _=>s1)
 exact (s0 a).imp fun o ⟨s,x,e1,e2⟩=>⟨s,x,e1,Nat.le_trans e2 (by decide)⟩
end Go.Proofs.YtfdklpkfpmkgeaaGreatDoor
end
section
namespace Go.Proofs.YtfdklpkfpmkgeaaGreatDoor
open Go Go.Vai
attribute [local irreducible] goTo zas mkS
variable {C : Nat → Oracle} {o : Out}
abbrev cH0 : AV := (.vs 1 true [(.str [116]),(.str [97,99,99,111,117,110,116]),(.str [117])])
abbrev qH0 : List Nat := [0,5,0,5,0,5,0,0,5,2,3,0,0,5,6,5,0,2,0,5,0,5,0,5,0,0,5,2,3]
abbrev qH1 : List Nat := [0,5,0,5,0,5,0,0,5,2,3,0,0,5,6,5,0,2,0]
abbrev qH2 : List Nat := [0,5,0,5,0,5,0,0,5,2,3,0,0]
abbrev qH3 : List Nat := [0,5,0,5,0,5,0,0,5,2,3,0,0,5,6,5,0,2,0,5,0]
abbrev qH4 : List Nat := [0,5,0,5,0,5,0,0,5,2,3,0,0,5,6,5,0,2,0,5,0,5,0,5,0,0,5,2,3,0,0,5,6,5,0,2,0,5,0,5,0,5,0,5,0,5,2,0,5,7,0,5,7,0,5,7,0,5,7,0,5,7,0,5,7,0,5,6,0,5]
abbrev qH5 : List Nat := [0,5,0,5,0,5,0,0,5,2,3,0,0,5,6,5,0,2,0,5,0,5,0,5,0,0,5,2,3,0,0,5,6,5,0,2,0,5,0,5,0,5,0,5,0,5,2,0,5,7,0,5,7,0,5,7,0,5,7,0,5,7,0,5,7,0,5,7,0,5,6,0,5]
abbrev qH6 : List Nat := [0,5,0,5,0,5,0,0,5,2,3,0,0,5,6,5,0,2,0,5,0,5,0,5,0,0,5,2,3,0,0,5,6,5,0,2,0]
abbrev qH7 : List Nat := [0,5,0,5,0,5,0,0,5,2,3,0,0,5,6,5,0,2,0,5,0,5,0,5,0,0,5,2,3,0,0,5,6,5,0,2,0,5,0]
abbrev qH8 : List Nat := [0,5,0,5,0,5,0,0,5,2,3,0,0,5,6,5,0,2,0,5,0,5,0,5,0,0,5,2,3,0,0,5,6,5,0,2,0,5,0,5,0,5,0,5,0]
abbrev qH9 : List Nat := [0,5,0,5,0,5,0,0,5,2,3,0,0,5,6,5,0,2,0,5,0,5,0,5,0,0,5,2,3,0,0,5,6,5,0,2,0,5,0,5,0,5,0,5,0,5,2,0,5,6]
abbrev qH10 : List Nat := [0,5,0,5,0,5,0,0,5,2,3,0,0,5,6,5,0,2,0,5,0,5,0,5,0,0,5,2,3,0,0,5,6,5,0,2,0,5,0,5,0,5,0,5,0,5,2,0,5,7,0,5,6]
abbrev qH11 : List Nat := [0,5,0,5,0,5,0,0,5,2,3,0,0,5,6,5,0,2,0,5,0,5,0,5,0,0,5,2,3,0,0,5,6,5,0,2,0,5,0,5,0,5,0,5,0,5,2,0,5,7,0,5,7,0,5,6]
abbrev qH12 : List Nat := [0,5,0,5,0,5,0,0,5,2,3,0,0,5,6,5,0,2,0,5,0,5,0,5,0,0,5,2,3,0,0,5,6,5,0,2,0,5,0,5,0,5,0,5,0,5,2,0,5,7,0,5,7,0,5,7,0,5,6]
abbrev qH13 : List Nat := [0,5,0,5,0,5,0,0,5,2,3,0,0,5,6,5,0,2,0,5,0,5,0,5,0,0,5,2,3,0,0,5,6,5,0,2,0,5,0,5,0,5,0,5,0,5,2,0,5,7,0,5,7,0,5,7,0,5,7,0,5,6]
abbrev qH14 : List Nat := [0,5,0,5,0,5,0,0,5,2,3,0,0,5,6,5,0,2,0,5,0,5,0,5,0,0,5,2,3,0,0,5,6,5,0,2,0,5,0,5,0,5,0,5,0,5,2,0,5,7,0,5,7,0,5,7,0,5,7,0,5,7,0,5,6]
abbrev qH15 : List Nat := [0,5,0,5,0,5,0,0,5,2,3,0,0,5,6,5,0,2,0,5,0,5,0,5,0,0,5,2,3,0,0,5,6,5,0,2,0,5,0,5,0,5,0,5,0,5,2,0,5,7,0,5,7,0,5,7,0,5,7,0,5,7,0,5,7,0,5,6,0]
abbrev qH16 : List Nat := [0,5,0,5,0,5,0,0,5,2,3,0,0,5,6,5,0,2,0,5,0,5,0,5,0,0,5,2,3,0,0,5,6,5,0,2,0,5,0,5,0,5,0,5,0,5,2,0,5,7,0,5,7,0,5,7,0,5,7,0,5,7,0,5,7,0,5,7,0,5,6,0]
abbrev qH17 : List Nat := [0,5,0,5,0,5,0,0,5,2,3,0,0,5,6,5,0,2,0,5,0,5,0,5,0,0,5,2,3,0,0,5,6,5,0,2,0,5,0,5,0,5,0,5,0,5,2,0,5,7,0,5,7,0,5,7,0,5,7,0,5,7,0,5,7,0,5,7,0,5,7]
theorem p18_c (hC : Ext C) {tg_1 : Bool} {l_2 : List AV} (ho : RL C 18 [] (mk0 151 [vv 0 (.vs 1 tg_1 l_2)]) = some o) : calL C 18 [(.vs 1 tg_1 l_2)] Hp.none 0 = some o := hC.call rfl (fun _ _ => by kernel_rfl) ho
theorem p18_0 {tg_1 : Bool} {l_2 : List AV} (ho : Tr.val C 18
(.run 0 [0,5,0,5,0,5,0,0,5,2,3] (mk0 151 [vv 0 (.vs 1 tg_1 l_2),vt 3 [],vi 4 0,vi 5 0])) = some o) : RL C 18 [] (mk0 151 [vv 0 (.vs 1 tg_1 l_2)]) = some o := stR C 11 (fun _ _ => by kernel_rfl) ho
theorem p18_1 {tg_3 : Bool} {l_4 : List AV} {s_5 : List UInt8} {x_6 x_7 : Int} (ho : Tr.val C 18
(cl0 34 [(.vs 1 tg_3 l_4),(i6 0)] fun r1 => .br (AV.pure r1.v)
(.mid 0 qH2 3 (mk0 151 [vv 0 (.vs 1 tg_3 l_4),vt 3 s_5,vi 4 x_6,vi 5 x_7,vi 11 x_7,vv 12 (.vs 1 tg_3 l_4),vv 13 r1.v])) .none) = some o) : RL C 18 [0,5,0,5,0,5,0,0,5,2,3] (mk0 151 [vv 0 (.vs 1 tg_3 l_4),vt 3 s_5,vi 4 x_6,vi 5 x_7]) = some o := stR C 3 (fun _ _ => by kernel_rfl) ho
theorem p18_2 {tg_3 : Bool} {l_4 : List AV} {s_5 : List UInt8} {x_6 x_7 x_8 : Int} (ho : Tr.val C 18
(cl0 22 [(i6 x_8),(i6 2)] fun r2 => .br (AV.pure r2.v)
(.mid 0 qH2 4 (mk0 151 [vv 0 (.vs 1 tg_3 l_4),vt 3 s_5,vi 4 x_6,vi 5 x_7,vi 11 x_7,vv 12 (.vs 1 tg_3 l_4),vi 13 x_8,vv 14 r2.v])) .none) = some o) : ML C 18 qH2 3 (mk0 151 [vv 0 (.vs 1 tg_3 l_4),vt 3 s_5,vi 4 x_6,vi 5 x_7,vi 11 x_7,vv 12 (.vs 1 tg_3 l_4),vi 13 x_8]) = some o := stM C 0 (fun _ _ => by kernel_rfl) ho
theorem p18_3 {tg_3 : Bool} {l_4 : List AV} {s_5 : List UInt8} {x_6 x_7 x_8 x_9 : Int} (ho : Tr.val C 18
(.br (decide (x_7 ≤ x_9))
(.br (Nat.ble (s_5.length + 5) 4611686018427387904)
(cl0 34 [(.vs 1 tg_3 l_4),(i6 x_6)] fun r3 => .br (AV.pure r3.v)
(.mid 0 qH1 6 (mkS 151 [vv 0 (.vs 1 tg_3 l_4),vt 3 s_5,vi 4 x_6,vi 5 x_7,vb 15 true,vt 18 s_5,vt 19 (s_5 ++ [116,121,112,101,32]),vv 20 cH0,vv 21 (.vs 1 tg_3 l_4),vi 22 x_6,vv 23 r3.v] [] Hp.none 0)) .none) .none)
(rt (.str s_5))) = some o) : ML C 18 qH2 4 (mk0 151 [vv 0 (.vs 1 tg_3 l_4),vt 3 s_5,vi 4 x_6,vi 5 x_7,vi 11 x_7,vv 12 (.vs 1 tg_3 l_4),vi 13 x_8,vi 14 x_9]) = some o := stM C 6 (fun _ _ => by kernel_rfl) ho
theorem p18_4 {tg_3 : Bool} {l_4 : List AV} {s_5 s_11 : List UInt8} {x_6 x_7 x_10 : Int} (ho : Tr.val C 18
(cl0 22 [(i6 x_10),(i6 3)] fun r4 => .br (AV.pure r4.v)
(.mid 0 qH1 7 (mkS 151 [vv 0 (.vs 1 tg_3 l_4),vt 3 s_5,vi 4 x_6,vi 5 x_7,vb 15 true,vt 18 s_5,vt 19 s_11,vv 20 cH0,vv 21 (.vs 1 tg_3 l_4),vi 22 x_6,vi 23 x_10,vv 24 r4.v] [] Hp.none 0)) .none) = some o) : ML C 18 qH1 6 (mkS 151 [vv 0 (.vs 1 tg_3 l_4),vt 3 s_5,vi 4 x_6,vi 5 x_7,vb 15 true,vt 18 s_5,vt 19 s_11,vv 20 cH0,vv 21 (.vs 1 tg_3 l_4),vi 22 x_6,vi 23 x_10] [] Hp.none 0) = some o := stM C 0 (fun _ _ => by kernel_rfl) ho
theorem p18_5 {tg_3 : Bool} {l_4 : List AV} {s_5 s_11 : List UInt8} {x_6 x_7 x_10 x_12 : Int} (ho : Tr.val C 18
(ixl 3 [(.str [116]),(.str [97,99,99,111,117,110,116]),(.str [117])] x_12 fun c5 =>
(.mid 0 qH1 8 (mkS 151 [vv 0 (.vs 1 tg_3 l_4),vt 3 s_5,vi 4 x_6,vi 5 x_7,vb 15 true,vt 18 s_5,vt 19 s_11,vv 20 cH0,vv 21 (.vs 1 tg_3 l_4),vi 22 x_6,vi 23 x_10,vi 24 x_12,vv 25 (.cptr (AV.cells c5))] [] Hp.none 0))) = some o) : ML C 18 qH1 7 (mkS 151 [vv 0 (.vs 1 tg_3 l_4),vt 3 s_5,vi 4 x_6,vi 5 x_7,vb 15 true,vt 18 s_5,vt 19 s_11,vv 20 cH0,vv 21 (.vs 1 tg_3 l_4),vi 22 x_6,vi 23 x_10,vi 24 x_12] [] Hp.none 0) = some o := stM C 0 (fun _ _ => by kernel_rfl) ho
theorem p18_6 {tg_3 : Bool} {l_4 : List AV} {s_5 s_11 s_13 : List UInt8} {x_6 x_7 x_10 x_12 : Int} (ho : Tr.val C 18
(.br (Nat.ble (s_11.length + s_13.length) 4611686018427387904)
(.br (Nat.ble ((s_11 ++ s_13).length + 12) 4611686018427387904)
(cl0 34 [(.vs 1 tg_3 l_4),(i6 (w64 (x_6 + 1)))] fun r6 => .br (AV.pure r6.v)
(.mid 0 qH3 4 (mk0 151 [vv 0 (.vs 1 tg_3 l_4),vt 3 ((s_11 ++ s_13) ++ [32,123,32,35,32,102,105,101,108,100,115,10]),vi 4 x_6,vi 5 x_7,vv 29 (.vs 1 tg_3 l_4),vi 30 x_6,vi 31 (w64 (x_6 + 1)),vv 32 r6.v])) .none) .none) .none) = some o) : ML C 18 qH1 8 (mkS 151 [vv 0 (.vs 1 tg_3 l_4),vt 3 s_5,vi 4 x_6,vi 5 x_7,vb 15 true,vt 18 s_5,vt 19 s_11,vv 20 cH0,vv 21 (.vs 1 tg_3 l_4),vi 22 x_6,vi 23 x_10,vi 24 x_12,vv 25 (.cptr [(.str s_13)])] [] Hp.none 0) = some o := stM C 2 (fun _ _ => by kernel_rfl) ho
theorem p18_7 {tg_3 : Bool} {l_4 : List AV} {x_6 x_7 x_14 x_16 : Int} {s_15 : List UInt8} (ho : Tr.val C 18
(cl0 22 [(i6 x_14),(i6 6)] fun r7 => .br (AV.pure r7.v)
(.mid 0 qH3 5 (mk0 151 [vv 0 (.vs 1 tg_3 l_4),vt 3 s_15,vi 4 x_6,vi 5 x_7,vv 29 (.vs 1 tg_3 l_4),vi 30 x_6,vi 31 x_16,vi 32 x_14,vv 33 r7.v])) .none) = some o) : ML C 18 qH3 4 (mk0 151 [vv 0 (.vs 1 tg_3 l_4),vt 3 s_15,vi 4 x_6,vi 5 x_7,vv 29 (.vs 1 tg_3 l_4),vi 30 x_6,vi 31 x_16,vi 32 x_14]) = some o := stM C 0 (fun _ _ => by kernel_rfl) ho
theorem p18_8 {tg_3 : Bool} {l_4 : List AV} {x_6 x_7 x_14 x_16 x_17 : Int} {s_15 : List UInt8} (ho : Tr.val C 18
(.run 0 qH0 (mk0 151 [vv 0 (.vs 1 tg_3 l_4),vt 3 s_15,vi 4 (w64 (x_6 + 2)),vi 5 x_7,vi 6 (w64 (2 + x_17)),vi 7 0])) = some o) : ML C 18 qH3 5 (mk0 151 [vv 0 (.vs 1 tg_3 l_4),vt 3 s_15,vi 4 x_6,vi 5 x_7,vv 29 (.vs 1 tg_3 l_4),vi 30 x_6,vi 31 x_16,vi 32 x_14,vi 33 x_17]) = some o := stM C 7 (fun _ _ => by kernel_rfl) ho
theorem p18_9 {tg_18 : Bool} {l_19 : List AV} {s_20 : List UInt8} {x_21 x_22 x_23 x_24 : Int} (ho : Tr.val C 18
(.br (decide (x_24 < x_23))
(cl0 34 [(.vs 1 tg_18 l_19),(i6 x_21)] fun r8 => .br (AV.pure r8.v)
(.mid 0 qH6 3 (mk0 151 [vv 0 (.vs 1 tg_18 l_19),vt 3 s_20,vi 4 x_21,vi 5 x_22,vi 6 x_23,vi 7 x_24,vb 39 true,vv 42 (.vs 1 tg_18 l_19),vi 43 x_21,vv 44 r8.v])) .none)
(.br (Nat.ble (s_20.length + 2) 4611686018427387904)
(.run 0 [0,5,0,5,0,5,0,0,5,2,3] (mk0 151 [vv 0 (.vs 1 tg_18 l_19),vt 3 (s_20 ++ [125,10]),vi 4 x_21,vi 5 (w64 (x_22 + 1))])) .none)) = some o) : RL C 18 qH0 (mk0 151 [vv 0 (.vs 1 tg_18 l_19),vt 3 s_20,vi 4 x_21,vi 5 x_22,vi 6 x_23,vi 7 x_24]) = some o := stR C 9 (fun _ _ => by kernel_rfl) ho
theorem p18_10 {tg_18 : Bool} {l_19 : List AV} {s_20 : List UInt8} {x_21 x_22 x_23 x_24 x_25 : Int} (ho : Tr.val C 18
(cl0 34 [(.vs 1 tg_18 l_19),(i6 (w64 (x_21 + 1)))] fun r9 => .br (AV.pure r9.v)
(.mid 0 qH7 4 (mk0 151 [vv 0 (.vs 1 tg_18 l_19),vt 3 s_20,vi 4 x_21,vi 5 x_22,vi 6 x_23,vi 7 x_24,vi 8 x_25,vv 45 (.vs 1 tg_18 l_19),vi 46 x_21,vi 47 (w64 (x_21 + 1)),vv 48 r9.v])) .none) = some o) : ML C 18 qH6 3 (mk0 151 [vv 0 (.vs 1 tg_18 l_19),vt 3 s_20,vi 4 x_21,vi 5 x_22,vi 6 x_23,vi 7 x_24,vb 39 true,vv 42 (.vs 1 tg_18 l_19),vi 43 x_21,vi 44 x_25]) = some o := stM C 2 (fun _ _ => by kernel_rfl) ho
theorem p18_11 {tg_18 : Bool} {l_19 : List AV} {s_20 : List UInt8} {x_21 x_22 x_23 x_24 x_25 x_26 x_27 : Int} (ho : Tr.val C 18
(cl0 22 [(i6 x_25),(i6 9)] fun r10 => .br (AV.pure r10.v)
(.mid 0 qH8 2 (mk0 151 [vv 0 (.vs 1 tg_18 l_19),vt 3 s_20,vi 4 (w64 (x_21 + 2)),vi 5 x_22,vi 6 x_23,vi 7 x_24,vi 8 x_25,vi 9 x_26,vi 51 x_25,vv 52 r10.v])) .none) = some o) : ML C 18 qH7 4 (mk0 151 [vv 0 (.vs 1 tg_18 l_19),vt 3 s_20,vi 4 x_21,vi 5 x_22,vi 6 x_23,vi 7 x_24,vi 8 x_25,vv 45 (.vs 1 tg_18 l_19),vi 46 x_21,vi 47 x_27,vi 48 x_26]) = some o := stM C 6 (fun _ _ => by kernel_rfl) ho
theorem p18_12 {tg_18 : Bool} {l_19 : List AV} {s_20 : List UInt8} {x_22 x_23 x_24 x_25 x_26 x_28 x_29 : Int} (ho : Tr.val C 18
(.br (decide (x_28 = 0))
(.br (Nat.ble (s_20.length + 9) 4611686018427387904)
(cl0 37 [(i6 x_26)] fun r11 => .br (AV.pure r11.v)
(.mid 22 qH9 4 (mk0 151 [vv 0 (.vs 1 tg_18 l_19),vt 3 s_20,vi 4 x_29,vi 5 x_22,vi 6 x_23,vi 7 x_24,vi 8 x_25,vi 9 x_26,vi 52 x_28,vb 59 true,vt 61 s_20,vt 62 (s_20 ++ [114,101,103,105,115,116,101,114,32]),vi 63 x_26,vv 64 r11.v])) .none) .none)
(.br (decide (x_28 = 1))
(.br (Nat.ble (s_20.length + 9) 4611686018427387904)
(cl0 37 [(i6 x_26)] fun r12 => .br (AV.pure r12.v)
(.mid 19 qH10 4 (mk0 151 [vv 0 (.vs 1 tg_18 l_19),vt 3 s_20,vi 4 x_29,vi 5 x_22,vi 6 x_23,vi 7 x_24,vi 8 x_25,vi 9 x_26,vi 52 x_28,vb 67 true,vt 69 s_20,vt 70 (s_20 ++ [114,101,103,105,115,116,101,114,32]),vi 71 x_26,vv 72 r12.v])) .none) .none)
(.br (decide (x_28 = 2))
(.br (Nat.ble (s_20.length + 8) 4611686018427387904)
(cl0 37 [(i6 x_26)] fun r13 => .br (AV.pure r13.v)
(.mid 16 qH11 4 (mk0 151 [vv 0 (.vs 1 tg_18 l_19),vt 3 s_20,vi 4 x_29,vi 5 x_22,vi 6 x_23,vi 7 x_24,vi 8 x_25,vi 9 x_26,vi 52 x_28,vb 75 true,vt 77 s_20,vt 78 (s_20 ++ [99,111,117,110,116,101,114,32]),vi 79 x_26,vv 80 r13.v])) .none) .none)
(.br (decide (x_28 = 3))
(.br (Nat.ble (s_20.length + 4) 4611686018427387904)
(cl0 37 [(i6 x_26)] fun r14 => .br (AV.pure r14.v)
(.mid 13 qH12 4 (mk0 151 [vv 0 (.vs 1 tg_18 l_19),vt 3 s_20,vi 4 x_29,vi 5 x_22,vi 6 x_23,vi 7 x_24,vi 8 x_25,vi 9 x_26,vi 52 x_28,vb 83 true,vt 85 s_20,vt 86 (s_20 ++ [109,97,120,32]),vi 87 x_26,vv 88 r14.v])) .none) .none)
(.br (decide (x_28 = 4))
(.br (Nat.ble (s_20.length + 4) 4611686018427387904)
(cl0 37 [(i6 x_26)] fun r15 => .br (AV.pure r15.v)
(.mid 10 qH13 4 (mk0 151 [vv 0 (.vs 1 tg_18 l_19),vt 3 s_20,vi 4 x_29,vi 5 x_22,vi 6 x_23,vi 7 x_24,vi 8 x_25,vi 9 x_26,vi 52 x_28,vb 91 true,vt 93 s_20,vt 94 (s_20 ++ [115,101,116,32]),vi 95 x_26,vv 96 r15.v])) .none) .none)
(.br (decide (x_28 = 5))
(.br (Nat.ble (s_20.length + 5) 4611686018427387904)
(cl0 37 [(i6 x_26)] fun r16 => .br (AV.pure r16.v)
(.mid 7 qH14 4 (mk0 151 [vv 0 (.vs 1 tg_18 l_19),vt 3 s_20,vi 4 x_29,vi 5 x_22,vi 6 x_23,vi 7 x_24,vi 8 x_25,vi 9 x_26,vi 52 x_28,vb 99 true,vt 101 s_20,vt 102 (s_20 ++ [102,108,97,103,32]),vi 103 x_26,vv 104 r16.v])) .none) .none)
(.br (decide (x_28 = 6))
(cl0 38 [(.vs 1 tg_18 l_19),(i6 x_29),(i6 0)] fun r17 => .br (AV.pure r17.v)
(.mid 3 qH15 3 (mk0 151 [vv 0 (.vs 1 tg_18 l_19),vt 3 s_20,vi 4 x_29,vi 5 x_22,vi 6 x_23,vi 7 x_24,vi 8 x_25,vi 9 x_26,vi 52 x_28,vb 107 true,vv 110 (.vs 1 tg_18 l_19),vi 111 x_29,vv 112 r17.v])) .none)
(.br (decide (x_28 = 7))
(cl0 40 [(.vs 1 tg_18 l_19),(i6 x_29),(i6 0)] fun r18 => .br (AV.pure r18.v)
(.mid 0 qH16 3 (mk0 151 [vv 0 (.vs 1 tg_18 l_19),vt 3 s_20,vi 4 x_29,vi 5 x_22,vi 6 x_23,vi 7 x_24,vi 8 x_25,vi 9 x_26,vb 127 true,vv 130 (.vs 1 tg_18 l_19),vi 131 x_29,vv 132 r18.v])) .none)
(.br (Nat.ble (s_20.length + 6) 4611686018427387904)
(cl0 37 [(i6 x_26)] fun r19 => .br (AV.pure r19.v)
(.mid 1 qH17 4 (mk0 151 [vv 0 (.vs 1 tg_18 l_19),vt 3 s_20,vi 4 x_29,vi 5 x_22,vi 6 x_23,vi 7 x_24,vi 8 x_25,vi 9 x_26,vt 53 s_20,vt 54 (s_20 ++ [105,110,100,101,120,32]),vi 55 x_26,vv 56 r19.v,vb 127 false])) .none) .none))))))))) = some o) : ML C 18 qH8 2 (mk0 151 [vv 0 (.vs 1 tg_18 l_19),vt 3 s_20,vi 4 x_29,vi 5 x_22,vi 6 x_23,vi 7 x_24,vi 8 x_25,vi 9 x_26,vi 51 x_25,vi 52 x_28]) = some o := stM C 27 (fun _ _ => by kernel_rfl) ho
theorem p18_13 {tg_18 : Bool} {l_19 : List AV} {s_20 s_30 s_31 : List UInt8} {x_22 x_23 x_24 x_25 x_26 x_28 x_29 : Int} (ho : Tr.val C 18
(.br (Nat.ble (s_31.length + s_30.length) 4611686018427387904)
(.br (Nat.ble ((s_31 ++ s_30).length + 5) 4611686018427387904)
(.run 0 qH0 (mk0 151 [vv 0 (.vs 1 tg_18 l_19),vt 3 ((s_31 ++ s_30) ++ [32,105,110,116,59]),vi 4 x_29,vi 5 x_22,vi 6 x_23,vi 7 (w64 (x_24 + 1))])) .none) .none) = some o) : ML C 18 qH9 4 (mk0 151 [vv 0 (.vs 1 tg_18 l_19),vt 3 s_20,vi 4 x_29,vi 5 x_22,vi 6 x_23,vi 7 x_24,vi 8 x_25,vi 9 x_26,vi 52 x_28,vb 59 true,vt 61 s_20,vt 62 s_31,vi 63 x_26,vt 64 s_30]) = some o := stM C 4 (fun _ _ => by kernel_rfl) ho
theorem p18_14 {tg_18 : Bool} {l_19 : List AV} {s_20 s_32 s_33 : List UInt8} {x_22 x_23 x_24 x_25 x_26 x_28 x_29 : Int} (ho : Tr.val C 18
(.br (Nat.ble (s_33.length + s_32.length) 4611686018427387904)
(.br (Nat.ble ((s_33 ++ s_32).length + 7) 4611686018427387904)
(.run 0 qH0 (mk0 151 [vv 0 (.vs 1 tg_18 l_19),vt 3 ((s_33 ++ s_32) ++ [32,116,101,120,116,59,10]),vi 4 x_29,vi 5 x_22,vi 6 x_23,vi 7 (w64 (x_24 + 1))])) .none) .none) = some o) : ML C 18 qH10 4 (mk0 151 [vv 0 (.vs 1 tg_18 l_19),vt 3 s_20,vi 4 x_29,vi 5 x_22,vi 6 x_23,vi 7 x_24,vi 8 x_25,vi 9 x_26,vi 52 x_28,vb 67 true,vt 69 s_20,vt 70 s_33,vi 71 x_26,vt 72 s_32]) = some o := stM C 4 (fun _ _ => by kernel_rfl) ho
theorem p18_15 {tg_18 : Bool} {l_19 : List AV} {s_20 s_34 s_35 : List UInt8} {x_22 x_23 x_24 x_25 x_26 x_28 x_29 : Int} (ho : Tr.val C 18
(.br (Nat.ble (s_35.length + s_34.length) 4611686018427387904)
(.br (Nat.ble ((s_35 ++ s_34).length + 2) 4611686018427387904)
(.run 0 qH0 (mk0 151 [vv 0 (.vs 1 tg_18 l_19),vt 3 ((s_35 ++ s_34) ++ [59,32]),vi 4 x_29,vi 5 x_22,vi 6 x_23,vi 7 (w64 (x_24 + 1))])) .none) .none) = some o) : ML C 18 qH11 4 (mk0 151 [vv 0 (.vs 1 tg_18 l_19),vt 3 s_20,vi 4 x_29,vi 5 x_22,vi 6 x_23,vi 7 x_24,vi 8 x_25,vi 9 x_26,vi 52 x_28,vb 75 true,vt 77 s_20,vt 78 s_35,vi 79 x_26,vt 80 s_34]) = some o := stM C 4 (fun _ _ => by kernel_rfl) ho
theorem p18_16 {tg_18 : Bool} {l_19 : List AV} {s_20 s_36 s_37 : List UInt8} {x_22 x_23 x_24 x_25 x_26 x_28 x_29 : Int} (ho : Tr.val C 18
(.br (Nat.ble (s_37.length + s_36.length) 4611686018427387904)
(.br (Nat.ble ((s_37 ++ s_36).length + 1) 4611686018427387904)
(.run 0 qH0 (mk0 151 [vv 0 (.vs 1 tg_18 l_19),vt 3 ((s_37 ++ s_36) ++ [59]),vi 4 x_29,vi 5 x_22,vi 6 x_23,vi 7 (w64 (x_24 + 1))])) .none) .none) = some o) : ML C 18 qH12 4 (mk0 151 [vv 0 (.vs 1 tg_18 l_19),vt 3 s_20,vi 4 x_29,vi 5 x_22,vi 6 x_23,vi 7 x_24,vi 8 x_25,vi 9 x_26,vi 52 x_28,vb 83 true,vt 85 s_20,vt 86 s_37,vi 87 x_26,vt 88 s_36]) = some o := stM C 4 (fun _ _ => by kernel_rfl) ho
theorem p18_17 {tg_18 : Bool} {l_19 : List AV} {s_20 s_38 s_39 : List UInt8} {x_22 x_23 x_24 x_25 x_26 x_28 x_29 : Int} (ho : Tr.val C 18
(.br (Nat.ble (s_39.length + s_38.length) 4611686018427387904)
(.br (Nat.ble ((s_39 ++ s_38).length + 2) 4611686018427387904)
(.run 0 qH0 (mk0 151 [vv 0 (.vs 1 tg_18 l_19),vt 3 ((s_39 ++ s_38) ++ [59,9]),vi 4 x_29,vi 5 x_22,vi 6 x_23,vi 7 (w64 (x_24 + 1))])) .none) .none) = some o) : ML C 18 qH13 4 (mk0 151 [vv 0 (.vs 1 tg_18 l_19),vt 3 s_20,vi 4 x_29,vi 5 x_22,vi 6 x_23,vi 7 x_24,vi 8 x_25,vi 9 x_26,vi 52 x_28,vb 91 true,vt 93 s_20,vt 94 s_39,vi 95 x_26,vt 96 s_38]) = some o := stM C 4 (fun _ _ => by kernel_rfl) ho
theorem p18_18 {tg_18 : Bool} {l_19 : List AV} {s_20 s_40 s_41 : List UInt8} {x_22 x_23 x_24 x_25 x_26 x_28 x_29 : Int} (ho : Tr.val C 18
(.br (Nat.ble (s_41.length + s_40.length) 4611686018427387904)
(.br (Nat.ble ((s_41 ++ s_40).length + 1) 4611686018427387904)
(.run 0 qH0 (mk0 151 [vv 0 (.vs 1 tg_18 l_19),vt 3 ((s_41 ++ s_40) ++ [59]),vi 4 x_29,vi 5 x_22,vi 6 x_23,vi 7 (w64 (x_24 + 1))])) .none) .none) = some o) : ML C 18 qH14 4 (mk0 151 [vv 0 (.vs 1 tg_18 l_19),vt 3 s_20,vi 4 x_29,vi 5 x_22,vi 6 x_23,vi 7 x_24,vi 8 x_25,vi 9 x_26,vi 52 x_28,vb 99 true,vt 101 s_20,vt 102 s_41,vi 103 x_26,vt 104 s_40]) = some o := stM C 4 (fun _ _ => by kernel_rfl) ho
theorem p18_19 {tg_18 : Bool} {l_19 : List AV} {s_20 s_42 : List UInt8} {x_22 x_23 x_24 x_25 x_26 x_28 x_29 x_43 : Int} (ho : Tr.val C 18
(.br (Nat.ble (s_20.length + 3) 4611686018427387904)
(cl0 37 [(i6 x_26)] fun r20 => .br (AV.pure r20.v)
(.mid 0 qH4 4 (mk0 151 [vv 0 (.vs 1 tg_18 l_19),vt 3 s_20,vi 4 x_43,vi 5 x_22,vi 6 x_23,vi 7 x_24,vi 8 x_25,vi 9 x_26,vt 10 s_42,vt 115 s_20,vt 116 (s_20 ++ [111,112,32]),vi 117 x_26,vv 118 r20.v])) .none) .none) = some o) : ML C 18 qH15 3 (mk0 151 [vv 0 (.vs 1 tg_18 l_19),vt 3 s_20,vi 4 x_29,vi 5 x_22,vi 6 x_23,vi 7 x_24,vi 8 x_25,vi 9 x_26,vi 52 x_28,vb 107 true,vv 110 (.vs 1 tg_18 l_19),vi 111 x_29,vv 112 (.tuple [(.str s_42),(i6 x_43)])]) = some o := stM C 1 (fun _ _ => by kernel_rfl) ho
theorem p18_20 {tg_18 : Bool} {l_19 : List AV} {s_20 s_44 : List UInt8} {x_22 x_23 x_24 x_25 x_26 x_29 x_45 : Int} (ho : Tr.val C 18
(.br (Nat.ble (s_20.length + 6) 4611686018427387904)
(cl0 37 [(i6 x_26)] fun r21 => .br (AV.pure r21.v)
(.mid 0 qH5 4 (mk0 151 [vv 0 (.vs 1 tg_18 l_19),vt 3 s_20,vi 4 x_45,vi 5 x_22,vi 6 x_23,vi 7 x_24,vi 8 x_25,vi 9 x_26,vt 10 s_44,vt 135 s_20,vt 136 (s_20 ++ [113,117,101,114,121,32]),vi 137 x_26,vv 138 r21.v])) .none) .none) = some o) : ML C 18 qH16 3 (mk0 151 [vv 0 (.vs 1 tg_18 l_19),vt 3 s_20,vi 4 x_29,vi 5 x_22,vi 6 x_23,vi 7 x_24,vi 8 x_25,vi 9 x_26,vb 127 true,vv 130 (.vs 1 tg_18 l_19),vi 131 x_29,vv 132 (.tuple [(.str s_44),(i6 x_45)])]) = some o := stM C 1 (fun _ _ => by kernel_rfl) ho
theorem p18_21 {tg_18 : Bool} {l_19 : List AV} {s_20 s_46 s_47 : List UInt8} {x_22 x_23 x_24 x_25 x_26 x_29 : Int} (ho : Tr.val C 18
(.br (Nat.ble (s_47.length + s_46.length) 4611686018427387904)
(.br (Nat.ble ((s_47 ++ s_46).length + 1) 4611686018427387904)
(.run 0 qH0 (mk0 151 [vv 0 (.vs 1 tg_18 l_19),vt 3 ((s_47 ++ s_46) ++ [59]),vi 4 x_29,vi 5 x_22,vi 6 x_23,vi 7 (w64 (x_24 + 1))])) .none) .none) = some o) : ML C 18 qH17 4 (mk0 151 [vv 0 (.vs 1 tg_18 l_19),vt 3 s_20,vi 4 x_29,vi 5 x_22,vi 6 x_23,vi 7 x_24,vi 8 x_25,vi 9 x_26,vt 53 s_20,vt 54 s_47,vi 55 x_26,vt 56 s_46,vb 127 false]) = some o := stM C 4 (fun _ _ => by kernel_rfl) ho
theorem p18_22 {tg_18 : Bool} {l_19 : List AV} {s_20 s_42 s_48 s_49 : List UInt8} {x_22 x_23 x_24 x_25 x_26 x_43 : Int} (ho : Tr.val C 18
(.br (Nat.ble (s_49.length + s_48.length) 4611686018427387904)
(cl0 39 [(i6 x_25)] fun r22 => .br (AV.pure r22.v)
(.mid 0 qH4 7 (mk0 151 [vv 0 (.vs 1 tg_18 l_19),vt 3 s_20,vi 4 x_43,vi 5 x_22,vi 6 x_23,vi 7 x_24,vi 8 x_25,vi 9 x_26,vt 10 s_42,vt 115 s_20,vt 116 s_49,vi 117 x_26,vt 118 s_48,vt 119 (s_49 ++ s_48),vi 120 x_25,vv 121 r22.v])) .none) .none) = some o) : ML C 18 qH4 4 (mk0 151 [vv 0 (.vs 1 tg_18 l_19),vt 3 s_20,vi 4 x_43,vi 5 x_22,vi 6 x_23,vi 7 x_24,vi 8 x_25,vi 9 x_26,vt 10 s_42,vt 115 s_20,vt 116 s_49,vi 117 x_26,vt 118 s_48]) = some o := stM C 0 (fun _ _ => by kernel_rfl) ho
theorem p18_23 {tg_18 : Bool} {l_19 : List AV} {s_20 s_44 s_50 s_51 : List UInt8} {x_22 x_23 x_24 x_25 x_26 x_45 : Int} (ho : Tr.val C 18
(.br (Nat.ble (s_51.length + s_50.length) 4611686018427387904)
(.br (Nat.ble ((s_51 ++ s_50).length + 1) 4611686018427387904)
(cl0 39 [(i6 x_25)] fun r23 => .br (AV.pure r23.v)
(.mid 0 qH5 8 (mk0 151 [vv 0 (.vs 1 tg_18 l_19),vt 3 s_20,vi 4 x_45,vi 5 x_22,vi 6 x_23,vi 7 x_24,vi 8 x_25,vi 9 x_26,vt 10 s_44,vt 135 s_20,vt 136 s_51,vi 137 x_26,vt 138 s_50,vt 139 (s_51 ++ s_50),vt 140 ((s_51 ++ s_50) ++ [32]),vi 141 x_25,vv 142 r23.v])) .none) .none) .none) = some o) : ML C 18 qH5 4 (mk0 151 [vv 0 (.vs 1 tg_18 l_19),vt 3 s_20,vi 4 x_45,vi 5 x_22,vi 6 x_23,vi 7 x_24,vi 8 x_25,vi 9 x_26,vt 10 s_44,vt 135 s_20,vt 136 s_51,vi 137 x_26,vt 138 s_50]) = some o := stM C 0 (fun _ _ => by kernel_rfl) ho
theorem p18_24 {tg_18 : Bool} {l_19 : List AV} {s_20 s_42 s_48 s_49 s_52 s_53 : List UInt8} {x_22 x_23 x_24 x_25 x_26 x_43 : Int} (ho : Tr.val C 18
(.br (Nat.ble (s_53.length + s_52.length) 4611686018427387904)
(.br (Nat.ble ((s_53 ++ s_52).length + 1) 4611686018427387904)
(.br (Nat.ble (((s_53 ++ s_52) ++ [123]).length + s_42.length) 4611686018427387904)
(.br (Nat.ble ((((s_53 ++ s_52) ++ [123]) ++ s_42).length + 1) 4611686018427387904)
(.run 0 qH0 (mk0 151 [vv 0 (.vs 1 tg_18 l_19),vt 3 ((((s_53 ++ s_52) ++ [123]) ++ s_42) ++ [125]),vi 4 x_43,vi 5 x_22,vi 6 x_23,vi 7 (w64 (x_24 + 1))])) .none) .none) .none) .none) = some o) : ML C 18 qH4 7 (mk0 151 [vv 0 (.vs 1 tg_18 l_19),vt 3 s_20,vi 4 x_43,vi 5 x_22,vi 6 x_23,vi 7 x_24,vi 8 x_25,vi 9 x_26,vt 10 s_42,vt 115 s_20,vt 116 s_49,vi 117 x_26,vt 118 s_48,vt 119 s_53,vi 120 x_25,vt 121 s_52]) = some o := stM C 4 (fun _ _ => by kernel_rfl) ho
theorem p18_25 {tg_18 : Bool} {l_19 : List AV} {s_20 s_44 s_50 s_51 s_54 s_55 s_56 : List UInt8} {x_22 x_23 x_24 x_25 x_26 x_45 : Int} (ho : Tr.val C 18
(.br (Nat.ble (s_56.length + s_54.length) 4611686018427387904)
(.br (Nat.ble ((s_56 ++ s_54).length + 3) 4611686018427387904)
(.br (Nat.ble (((s_56 ++ s_54) ++ [32,61,32]).length + s_44.length) 4611686018427387904)
(.br (Nat.ble ((((s_56 ++ s_54) ++ [32,61,32]) ++ s_44).length + 2) 4611686018427387904)
(.run 0 qH0 (mk0 151 [vv 0 (.vs 1 tg_18 l_19),vt 3 ((((s_56 ++ s_54) ++ [32,61,32]) ++ s_44) ++ [32,59]),vi 4 x_45,vi 5 x_22,vi 6 x_23,vi 7 (w64 (x_24 + 1))])) .none) .none) .none) .none) = some o) : ML C 18 qH5 8 (mk0 151 [vv 0 (.vs 1 tg_18 l_19),vt 3 s_20,vi 4 x_45,vi 5 x_22,vi 6 x_23,vi 7 x_24,vi 8 x_25,vi 9 x_26,vt 10 s_44,vt 135 s_20,vt 136 s_51,vi 137 x_26,vt 138 s_50,vt 139 s_55,vt 140 s_56,vi 141 x_25,vt 142 s_54]) = some o := stM C 4 (fun _ _ => by kernel_rfl) ho
end Go.Proofs.YtfdklpkfpmkgeaaGreatDoor
end
section
namespace Go.Proofs.YtfdklpkfpmkgeaaGreatDoor
open Go Go.Vai
attribute [local irreducible] goTo zas mkS
variable {C : Nat→Oracle} (hC : Ext C)
include hC
set_option maxHeartbeats 4000000 in
theorem zsh (tg : Bool) (l : List Int) (hl : l.length ≤ 1000000) (t : Int) (ht : 0 ≤ t∧t ≤ 10) (A : Nat) (hA : A ≤ 1000000000) (Q : Out→Prop)
  (hout : ∀ (a : Int) (s : List UInt8),s.length ≤ A + 28070002→Was (RL C 18 [0,5,0,5,0,5,0,0,5,2,3] (mkS 151 [(0,.val (.vs 1 tg (ints l)) .no),(3,.val (.str s) .no),(4,.val (.int .i64 a) .no),(5,.val (.int .i64 (t + 1)) .no)] [] Hp.none 0)) Q)
  (mem : Int) (hm7 : mem ≤ 7) : ∀ (m : Nat) (i a : Int) (s : List UInt8),(8 - i).toNat = m→0 ≤ i→i ≤ 7→s.length ≤ A + i.toNat * 4010000 →
  Was (RL C 18 [0,5,0,5,0,5,0,0,5,2,3,0,0,5,6,5,0,2,0,5,0,5,0,5,0,0,5,2,3] (mkS 151 [(0,.val (.vs 1 tg (ints l)) .no),(3,.val (.str s) .no),(4,.val (.int .i64 a) .no),(5,.val (.int .i64 t) .no),(6,.val (.int .i64 mem) .no),(7,.val (.int .i64 i) .no)] [] Hp.none 0)) Q:=by
 intro m
 induction m with
 | zero=>intro i a s hm h0 h4; omega
 | succ m IH =>
  intro i a s hm h0 h4 hs
  have w1 : w64 (t + 1) = t + 1 := zaz (by omega) (by omega)
  have w3 : w64 (i + 1) = i + 1 := zaz (by omega) (by omega)
  refine exW (fun o=>p18_9) ?_
  simp only [Tr.val,za7,AV.pure,za1,za0,w1,w3]
  repeat' (first
   | refine .bL (by first | omega | (simp only [List.length_append,List.length_cons,List.length_nil,List.length_drop,List.length_take]; omega)) ?_
   | refine .bT (by omega) ?_
   | refine .bF (by omega) ?_
   | (refine .call (w34 hC _ _ (by omega) _) ?_; rintro o ⟨x,e⟩; simp only [e,AV.pure,za1]; clear e)
   | (refine .call (w37 hC _) ?_; rintro o ⟨s,e,h1⟩; simp only [e,AV.pure,za1]; clear e)
   | (refine .call (w22 hC _ _ (by omega) (by omega)) ?_; rintro o ⟨x,e,h1,h2⟩; simp only [e,AV.pure,za1]; clear e)
   | (refine .call (w39 hC _) ?_; rintro o ⟨s,e,h1⟩; simp only [e,AV.pure,za1]; clear e)
   | (refine .call (w38 hC _ _ (by omega) _) ?_; rintro o ⟨s,x,e,h1⟩; simp only [e,AV.pure,za7,za1]; clear e)
   | (refine .call (w40 hC _ _ (by omega) _ _ (by omega) (by omega)) ?_; rintro o ⟨s,x,e,h1⟩; simp only [e,AV.pure,za7,za1]; clear e)
   | (refine exW (fun o=>p18_10) ?_; simp only [Tr.val,za7,AV.pure,za1,AV.cells,za0,za8,Bool.not_true,Bool.not_false,w1,w3])
   | (refine exW (fun o=>p18_11) ?_; simp only [Tr.val,za7,AV.pure,za1,AV.cells,za0,za8,Bool.not_true,Bool.not_false,w1,w3])
   | (refine exW (fun o=>p18_12) ?_; simp only [Tr.val,za7,AV.pure,za1,AV.cells,za0,za8,Bool.not_true,Bool.not_false,w1,w3])
   | (refine exW (fun o=>p18_13) ?_; simp only [Tr.val,za7,AV.pure,za1,AV.cells,za0,za8,Bool.not_true,Bool.not_false,w1,w3])
   | (refine exW (fun o=>p18_14) ?_; simp only [Tr.val,za7,AV.pure,za1,AV.cells,za0,za8,Bool.not_true,Bool.not_false,w1,w3])
   | (refine exW (fun o=>p18_15) ?_; simp only [Tr.val,za7,AV.pure,za1,AV.cells,za0,za8,Bool.not_true,Bool.not_false,w1,w3])
   | (refine exW (fun o=>p18_16) ?_; simp only [Tr.val,za7,AV.pure,za1,AV.cells,za0,za8,Bool.not_true,Bool.not_false,w1,w3])
   | (refine exW (fun o=>p18_17) ?_; simp only [Tr.val,za7,AV.pure,za1,AV.cells,za0,za8,Bool.not_true,Bool.not_false,w1,w3])
   | (refine exW (fun o=>p18_18) ?_; simp only [Tr.val,za7,AV.pure,za1,AV.cells,za0,za8,Bool.not_true,Bool.not_false,w1,w3])
   | (refine exW (fun o=>p18_19) ?_; simp only [Tr.val,za7,AV.pure,za1,AV.cells,za0,za8,Bool.not_true,Bool.not_false,w1,w3])
   | (refine exW (fun o=>p18_20) ?_; simp only [Tr.val,za7,AV.pure,za1,AV.cells,za0,za8,Bool.not_true,Bool.not_false,w1,w3])
   | (refine exW (fun o=>p18_21) ?_; simp only [Tr.val,za7,AV.pure,za1,AV.cells,za0,za8,Bool.not_true,Bool.not_false,w1,w3])
   | (refine exW (fun o=>p18_22) ?_; simp only [Tr.val,za7,AV.pure,za1,AV.cells,za0,za8,Bool.not_true,Bool.not_false,w1,w3])
   | (refine exW (fun o=>p18_23) ?_; simp only [Tr.val,za7,AV.pure,za1,AV.cells,za0,za8,Bool.not_true,Bool.not_false,w1,w3])
   | (refine exW (fun o=>p18_24) ?_; simp only [Tr.val,za7,AV.pure,za1,AV.cells,za0,za8,Bool.not_true,Bool.not_false,w1,w3])
   | (refine exW (fun o=>p18_25) ?_; simp only [Tr.val,za7,AV.pure,za1,AV.cells,za0,za8,Bool.not_true,Bool.not_false,w1,w3])
   | (refine .nth (B := 20) rfl (by simp only [List.length_cons,List.length_nil]; omega) fun s hs=>?_; simp only [AV.cells])
   | exact .mk ⟨_,rfl,by first | omega | (simp only [List.length_append,List.length_cons,List.length_nil,List.length_drop,List.length_take]; omega)⟩
   | refine .dec (fun h=>?_) (fun h=>?_)
   | refine .both (fun h=>?_) (fun h=>?_))
  all_goals first
   | exact hout _ _ (by simp only [List.length_append,List.length_cons,List.length_nil]; omega)
   | exact IH _ _ _ (by omega) (by omega) (by omega) (by first | omega | (simp only [List.length_append,List.length_cons,List.length_nil]; omega))
set_option maxHeartbeats 4000000 in
theorem zrq (tg : Bool) (l : List Int) (hl : l.length ≤ 1000000) : ∀ (m : Nat) (t a : Int) (s : List UInt8),(3 - t).toNat = m→0 ≤ t→t ≤ 2→s.length ≤ t.toNat * 30000000 →
  Was (RL C 18 [0,5,0,5,0,5,0,0,5,2,3] (mkS 151 [(0,.val (.vs 1 tg (ints l)) .no),(3,.val (.str s) .no),(4,.val (.int .i64 a) .no),(5,.val (.int .i64 t) .no)] [] Hp.none 0)) (QS 100000000):=by
 intro m
 induction m with
 | zero=>intro i a s hm h0 h4; omega
 | succ m IH =>
  intro t a z hm h0 h4 hs
  refine exW (fun o=>p18_1) ?_
  simp only [Tr.val,za7,AV.pure,za1,za0]
  repeat' (first
   | refine .bL (by first | omega | (simp only [List.length_append,List.length_cons,List.length_nil,List.length_drop,List.length_take]; omega)) ?_
   | refine .bT (by omega) ?_
   | refine .bF (by omega) ?_
   | (refine .call (w34 hC _ _ (by omega) _) ?_; rintro o ⟨x,e⟩; simp only [e,AV.pure,za1]; clear e)
   | (refine .call (w22 hC _ _ (by omega) (by omega)) ?_; rintro o ⟨x,e,h1,h2⟩; simp only [e,AV.pure,za1]; clear e)
   | (refine exW (fun o=>p18_2) ?_; simp only [Tr.val,za7,AV.pure,za1,AV.cells,za0,za8,Bool.not_true,Bool.not_false])
   | (refine exW (fun o=>p18_3) ?_; simp only [Tr.val,za7,AV.pure,za1,AV.cells,za0,za8,Bool.not_true,Bool.not_false])
   | (refine exW (fun o=>p18_4) ?_; simp only [Tr.val,za7,AV.pure,za1,AV.cells,za0,za8,Bool.not_true,Bool.not_false])
   | (refine exW (fun o=>p18_5) ?_; simp only [Tr.val,za7,AV.pure,za1,AV.cells,za0,za8,Bool.not_true,Bool.not_false])
   | (refine exW (fun o=>p18_6) ?_; simp only [Tr.val,za7,AV.pure,za1,AV.cells,za0,za8,Bool.not_true,Bool.not_false])
   | (refine exW (fun o=>p18_7) ?_; simp only [Tr.val,za7,AV.pure,za1,AV.cells,za0,za8,Bool.not_true,Bool.not_false])
   | (refine exW (fun o=>p18_8) ?_; simp only [Tr.val,za7,AV.pure,za1,AV.cells,za0,za8,Bool.not_true,Bool.not_false])
   | (refine .nth (B := 20) rfl (by simp only [List.length_cons,List.length_nil]; omega) fun s hs=>?_; simp only [AV.cells])
   | exact .mk ⟨_,rfl,by first | omega | (simp only [List.length_append,List.length_cons,List.length_nil,List.length_drop,List.length_take]; omega)⟩
   | refine .dec (fun h=>?_) (fun h=>?_)
   | refine .both (fun h=>?_) (fun h=>?_))
  all_goals exact zsh hC tg l hl t (by omega) (z.length + 60) (by omega) _ (fun a' s' hs'=>IH _ _ _ (by omega) (by omega) (by omega) (by omega)) _ (by rw [zaz (by omega) (by omega)]; omega) _ 0 _ _ rfl (by decide) (by decide) (by simp only [List.length_append,List.length_cons,List.length_nil]; omega)
theorem w18 (tg : Bool) (l : List Int) (hl : l.length ≤ 1000000) : Was (calL C 18 [.vs 1 tg (ints l)] Hp.none 0) (QS 100000000):=by
 refine exW (fun o=>p18_c hC) (exW (fun o=>p18_0) ?_)
 exact zrq hC tg l hl _ 0 0 [] rfl (by decide) (by decide) (by simp)
end Go.Proofs.YtfdklpkfpmkgeaaGreatDoor
end
