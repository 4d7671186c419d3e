/- Stage laws,printed by gen_p.py. -/
import Derived.Test.YtfdklpkfpmkgeaaGreatDoorM5
import Derived.Test.YtfdklpkfpmkgeaaGreatDoorM12
import Derived.Test.YtfdklpkfpmkgeaaGreatDoorM13
import Derived.Test.YtfdklpkfpmkgeaaGreatDoorM14
set_option linter.unusedSimpArgs false
set_option linter.unusedVariables false
set_option linter.unusedSectionVars false
set_option linter.unnecessarySimpa false
section
namespace Go.Proofs.YtfdklpkfpmkgeaaGreatDoor
open Go Go.Vai
attribute [local irreducible] goTo zas mkS
variable {C : Nat → Oracle} {o : Out}
abbrev cL0 : AV := (.vs 1 true [(.str [105,110,100,101,120,32,111,119,110,101,114,59,32]),(.str [105,110,100,101,120,32,116,97,103,115,59,32]),(.str [105,110,100,101,120,32,97,59,32]),(.str [])])
abbrev qL0 : List Nat := [0,5,0,5,0,5,0,0,5,2,3]
abbrev qL1 : List Nat := [0,5,0,5,0,5,0,0,5,2,3,0,0,5,7,5,5,5,5,0]
abbrev qL2 : List Nat := [0,5,0,5,0,5,0,0,5,2,3,0,0,5,6,5,0,2,0,5,0]
abbrev qL3 : List Nat := [0,5,0,5,0,5,0,0,5,2,3,0,0,5,6,5,0,2,0,5,0,5,0,5,0,5,0,0,5,2,0,5,6,0,5,0,5,6,5,5,0,5,0,5,0]
abbrev qL4 : List Nat := [0,5,0,5,0,5,0,0,5,2,3,0,0,5,6,5,0,2,0,5,0,5,0,5,0,5,0,0,5,2,0,5,6,0,5,0,5,7,5,5,0,5,0,5,0]
abbrev qL5 : List Nat := [0,5,0,5,0,5,0,0,5,2,3,0,0,5,6,5,0,2,0,5,0,5,0,5,0,5,0,0,5,2,0,5,7,0,5,6,5,5,0,5,0,5,0]
abbrev qL6 : List Nat := [0,5,0,5,0,5,0,0,5,2,3,0,0,5,6,5,0,2,0,5,0,5,0,5,0,5,0,0,5,2,0,5,7,0,5,7,0,5,6,5,5,0,5,0,5,0]
abbrev qL7 : List Nat := [0,5,0,5,0,5,0,0,5,2,3,0,0,5,6,5,0,2,0,5,0,5,0,5,0,5,0,0,5,2,0,5,7,0,5,7,0,5,7,0,5,6,5,5,0,5,0,5,0]
abbrev qL8 : List Nat := [0,5,0,5,0,5,0,0,5,2,3,0,0,5,6,5,0,2,0,5,0,5,0,5,0,5,0,0,5,2,0,5,7,0,5,7,0,5,7,0,5,7,0,5,6,5,5,0,5,0,5,0]
abbrev qL9 : List Nat := [0,5,0,5,0,5,0,0,5,2,3,0,0,5,6,5,0,2,0,5,0,5,0,5,0,5,0,0,5,2,0,5,7,0,5,7,0,5,7,0,5,7,0,5,7,5,5,0,5,0,5,0]
abbrev qL10 : List Nat := [0,5,0,5,0,5,0,0,5,2,3,0,0,5,6,5,0,2,0,5,0,5,0]
abbrev qL11 : List Nat := [0,5,0,5,0,5,0,0,5,2,3,0,0,5,6,5,0,2,0,5,0,5,0,5,0,5,0,0]
abbrev qL12 : List Nat := [0,5,0,5,0,5,0,0,5,2,3,0,0,5,6,5,0,2,0,5,0,5,0,5,0,5,0,0,5,2,0,5,6,0,5,0,5,6,5,5,0]
abbrev qL13 : List Nat := [0,5,0,5,0,5,0,0,5,2,3,0,0,5,6,5,0,2,0,5,0,5,0,5,0,5,0,0,5,2,0,5,6,0,5,0,5,7,5,5,0]
abbrev qL14 : List Nat := [0,5,0,5,0,5,0,0,5,2,3,0,0,5,6,5,0,2,0,5,0,5,0,5,0,5,0,0,5,2,0,5,7,0,5,6,5,5,0]
abbrev qL15 : List Nat := [0,5,0,5,0,5,0,0,5,2,3,0,0,5,6,5,0,2,0,5,0,5,0,5,0,5,0,0,5,2,0,5,7,0,5,7,0,5,6,5,5,0]
abbrev qL16 : List Nat := [0,5,0,5,0,5,0,0,5,2,3,0,0,5,6,5,0,2,0,5,0,5,0,5,0,5,0,0,5,2,0,5,7,0,5,7,0,5,7,0,5,6,5,5,0]
abbrev qL17 : List Nat := [0,5,0,5,0,5,0,0,5,2,3,0,0,5,6,5,0,2,0,5,0,5,0,5,0,5,0,0,5,2,0,5,7,0,5,7,0,5,7,0,5,7,0,5,6,5,5,0]
abbrev qL18 : List Nat := [0,5,0,5,0,5,0,0,5,2,3,0,0,5,6,5,0,2,0,5,0,5,0,5,0,5,0,0,5,2,0,5,7,0,5,7,0,5,7,0,5,7,0,5,7,5,5,0]
abbrev qL19 : List Nat := [0,5,0,5,0,5,0,0,5,2,3,0,0,5,6,5,0,2,0,5,0,5,0,5,0,5,0,0,5,2,0,5,6,0,5,0,5,6,5,5,0,5,0]
abbrev qL20 : List Nat := [0,5,0,5,0,5,0,0,5,2,3,0,0,5,6,5,0,2,0,5,0,5,0,5,0,5,0,0,5,2,0,5,6,0,5,0,5,7,5,5,0,5,0]
abbrev qL21 : List Nat := [0,5,0,5,0,5,0,0,5,2,3,0,0,5,6,5,0,2,0,5,0,5,0,5,0,5,0,0,5,2,0,5,7,0,5,6,5,5,0,5,0]
abbrev qL22 : List Nat := [0,5,0,5,0,5,0,0,5,2,3,0,0,5,6,5,0,2,0,5,0,5,0,5,0,5,0,0,5,2,0,5,7,0,5,7,0,5,6,5,5,0,5,0]
abbrev qL23 : List Nat := [0,5,0,5,0,5,0,0,5,2,3,0,0,5,6,5,0,2,0,5,0,5,0,5,0,5,0,0,5,2,0,5,7,0,5,7,0,5,7,0,5,6,5,5,0,5,0]
abbrev qL24 : List Nat := [0,5,0,5,0,5,0,0,5,2,3,0,0,5,6,5,0,2,0,5,0,5,0,5,0,5,0,0,5,2,0,5,7,0,5,7,0,5,7,0,5,7,0,5,6,5,5,0,5,0]
abbrev qL25 : List Nat := [0,5,0,5,0,5,0,0,5,2,3,0,0,5,6,5,0,2,0,5,0,5,0,5,0,5,0,0,5,2,0,5,7,0,5,7,0,5,7,0,5,7,0,5,7,5,5,0,5,0]
abbrev qL26 : List Nat := [0,5,0,5,0,5,0,0,5,2,3,0,0,5,6,5,0,2,0,5,0,5,0,5,0,5,0,0,5,2,0,5,6,0,5,0,5,6,5,5,0,5,0,5,0,5,0]
abbrev qL27 : List Nat := [0,5,0,5,0,5,0,0,5,2,3,0,0,5,6,5,0,2,0,5,0,5,0,5,0,5,0,0,5,2,0,5,6,0,5,0,5,7,5,5,0,5,0,5,0,5,0]
abbrev qL28 : List Nat := [0,5,0,5,0,5,0,0,5,2,3,0,0,5,6,5,0,2,0,5,0,5,0,5,0,5,0,0,5,2,0,5,7,0,5,6,5,5,0,5,0,5,0,5,0]
abbrev qL29 : List Nat := [0,5,0,5,0,5,0,0,5,2,3,0,0,5,6,5,0,2,0,5,0,5,0,5,0,5,0,0,5,2,0,5,7,0,5,7,0,5,6,5,5,0,5,0,5,0,5,0]
abbrev qL30 : List Nat := [0,5,0,5,0,5,0,0,5,2,3,0,0,5,6,5,0,2,0,5,0,5,0,5,0,5,0,0,5,2,0,5,7,0,5,7,0,5,7,0,5,6,5,5,0,5,0,5,0,5,0]
abbrev qL31 : List Nat := [0,5,0,5,0,5,0,0,5,2,3,0,0,5,6,5,0,2,0,5,0,5,0,5,0,5,0,0,5,2,0,5,7,0,5,7,0,5,7,0,5,7,0,5,6,5,5,0,5,0,5,0,5,0]
abbrev qL32 : List Nat := [0,5,0,5,0,5,0,0,5,2,3,0,0,5,6,5,0,2,0,5,0,5,0,5,0,5,0,0,5,2,0,5,7,0,5,7,0,5,7,0,5,7,0,5,7,5,5,0,5,0,5,0,5,0]
theorem p19_c (hC : Ext C) {tg_1 : Bool} {l_2 : List AV} (ho : RL C 19 [] (mk0 112 [vv 0 (.vs 1 tg_1 l_2)]) = some o) : calL C 19 [(.vs 1 tg_1 l_2)] Hp.none 0 = some o := hC.call rfl (fun _ _ => by kernel_rfl) ho
theorem p19_0 {tg_1 : Bool} {l_2 : List AV} (ho : Tr.val C 19
(.run 0 qL0 (mk0 112 [vv 0 (.vs 1 tg_1 l_2),vt 3 [116,121,112,101,32,116,32,123,32,114,101,103,105,115,116,101,114,32,111,119,110,101,114,32,116,101,120,116,59,32,114,101,103,105,115,116,101,114,32,97,32,105,110,116,59,32,99,111,117,110,116,101,114,32,98,59,32,109,97,120,32,99,59,32,115,101,116,32,116,97,103,115,59,32,102,108,97,103,32,120,49,59,32],vi 4 0,vi 5 0])) = some o) : RL C 19 [] (mk0 112 [vv 0 (.vs 1 tg_1 l_2)]) = some o := stR C 11 (fun _ _ => by kernel_rfl) ho
theorem p19_1 {tg_3 : Bool} {l_4 : List AV} {s_5 : List UInt8} {x_6 x_7 : Int} (ho : Tr.val C 19
(.br (decide (x_7 < 3))
(cl0 34 [(.vs 1 tg_3 l_4),(i6 x_6)] fun r1 => .br (AV.pure r1.v)
(.mid 0 [0,5,0,5,0,5,0,0,5,2,3,0,0,5,6,5,0,2,0] 3 (mk0 112 [vv 0 (.vs 1 tg_3 l_4),vt 3 s_5,vi 4 x_6,vi 5 x_7,vb 15 true,vv 18 (.vs 1 tg_3 l_4),vi 19 x_6,vv 20 r1.v])) .none)
(cl0 34 [(.vs 1 tg_3 l_4),(i6 x_6)] fun r2 => .br (AV.pure r2.v)
(.mid 2 qL1 5 (mkS 112 [vv 0 (.vs 1 tg_3 l_4),vt 3 s_5,vi 4 x_6,vi 5 x_7,vb 15 false,vt 102 s_5,vv 103 cL0,vv 104 (.vs 1 tg_3 l_4),vi 105 x_6,vv 106 r2.v] [] Hp.none 0)) .none)) = some o) : RL C 19 qL0 (mk0 112 [vv 0 (.vs 1 tg_3 l_4),vt 3 s_5,vi 4 x_6,vi 5 x_7]) = some o := stR C 9 (fun _ _ => by kernel_rfl) ho
theorem p19_2 {tg_3 : Bool} {l_4 : List AV} {s_5 : List UInt8} {x_6 x_7 x_8 : Int} (ho : Tr.val C 19
(cl0 22 [(i6 x_8),(i6 3)] fun r3 => .br (AV.pure r3.v)
(.mid 0 qL2 5 (mk0 112 [vv 0 (.vs 1 tg_3 l_4),vt 3 s_5,vi 4 x_6,vi 5 x_7,vi 6 x_8,vv 22 (.vs 1 tg_3 l_4),vi 23 x_6,vi 24 (w64 (x_6 + 1)),vi 25 x_8,vv 26 r3.v])) .none) = some o) : ML C 19 [0,5,0,5,0,5,0,0,5,2,3,0,0,5,6,5,0,2,0] 3 (mk0 112 [vv 0 (.vs 1 tg_3 l_4),vt 3 s_5,vi 4 x_6,vi 5 x_7,vb 15 true,vv 18 (.vs 1 tg_3 l_4),vi 19 x_6,vi 20 x_8]) = some o := stM C 2 (fun _ _ => by kernel_rfl) ho
theorem p19_3 {tg_3 : Bool} {l_4 : List AV} {s_5 : List UInt8} {x_6 x_7 x_9 : Int} (ho : Tr.val C 19
(cl0 22 [(i6 x_9),(i6 4)] fun r4 => .br (AV.pure r4.v)
(.mid 0 qL1 6 (mkS 112 [vv 0 (.vs 1 tg_3 l_4),vt 3 s_5,vi 4 x_6,vi 5 x_7,vb 15 false,vt 102 s_5,vv 103 cL0,vv 104 (.vs 1 tg_3 l_4),vi 105 x_6,vi 106 x_9,vv 107 r4.v] [] Hp.none 0)) .none) = some o) : ML C 19 qL1 5 (mkS 112 [vv 0 (.vs 1 tg_3 l_4),vt 3 s_5,vi 4 x_6,vi 5 x_7,vb 15 false,vt 102 s_5,vv 103 cL0,vv 104 (.vs 1 tg_3 l_4),vi 105 x_6,vi 106 x_9] [] Hp.none 0) = some o := stM C 0 (fun _ _ => by kernel_rfl) ho
theorem p19_4 {tg_3 : Bool} {l_4 : List AV} {s_5 : List UInt8} {x_6 x_7 x_8 x_10 x_11 : Int} (ho : Tr.val C 19
(cl0 41 [(.vs 1 tg_3 l_4),(i6 x_11),(i6 (w64 (x_10 + 1))),(i6 0),(.bool false)] fun r5 => .br (AV.pure r5.v)
(.mid 0 qL2 7 (mk0 112 [vv 0 (.vs 1 tg_3 l_4),vt 3 s_5,vi 4 x_6,vi 5 x_7,vi 6 x_8,vv 22 (.vs 1 tg_3 l_4),vi 23 x_6,vi 24 x_11,vi 25 x_8,vi 26 x_10,vi 27 (w64 (x_10 + 1)),vv 28 r5.v])) .none) = some o) : ML C 19 qL2 5 (mk0 112 [vv 0 (.vs 1 tg_3 l_4),vt 3 s_5,vi 4 x_6,vi 5 x_7,vi 6 x_8,vv 22 (.vs 1 tg_3 l_4),vi 23 x_6,vi 24 x_11,vi 25 x_8,vi 26 x_10]) = some o := stM C 0 (fun _ _ => by kernel_rfl) ho
theorem p19_5 {tg_3 : Bool} {l_4 : List AV} {s_5 : List UInt8} {x_6 x_7 x_9 x_12 : Int} (ho : Tr.val C 19
(ixl 4 [(.str [105,110,100,101,120,32,111,119,110,101,114,59,32]),(.str [105,110,100,101,120,32,116,97,103,115,59,32]),(.str [105,110,100,101,120,32,97,59,32]),(.str [])] x_12 fun c6 =>
(.mid 0 qL1 7 (mkS 112 [vv 0 (.vs 1 tg_3 l_4),vt 3 s_5,vi 4 x_6,vi 5 x_7,vb 15 false,vt 102 s_5,vv 103 cL0,vv 104 (.vs 1 tg_3 l_4),vi 105 x_6,vi 106 x_9,vi 107 x_12,vv 108 (.cptr (AV.cells c6))] [] Hp.none 0))) = some o) : ML C 19 qL1 6 (mkS 112 [vv 0 (.vs 1 tg_3 l_4),vt 3 s_5,vi 4 x_6,vi 5 x_7,vb 15 false,vt 102 s_5,vv 103 cL0,vv 104 (.vs 1 tg_3 l_4),vi 105 x_6,vi 106 x_9,vi 107 x_12] [] Hp.none 0) = some o := stM C 0 (fun _ _ => by kernel_rfl) ho
theorem p19_6 {tg_3 : Bool} {l_4 : List AV} {s_5 s_13 : List UInt8} {x_6 x_7 x_8 x_10 x_11 x_14 x_15 : Int} (ho : Tr.val C 19
(cl0 22 [(i6 x_8),(i6 3)] fun r7 => .br (AV.pure r7.v)
(.mid 0 qL10 2 (mk0 112 [vv 0 (.vs 1 tg_3 l_4),vt 3 s_5,vi 5 x_7,vi 6 x_8,vt 7 s_13,vi 8 x_14,vi 31 x_8,vv 32 r7.v])) .none) = some o) : ML C 19 qL2 7 (mk0 112 [vv 0 (.vs 1 tg_3 l_4),vt 3 s_5,vi 4 x_6,vi 5 x_7,vi 6 x_8,vv 22 (.vs 1 tg_3 l_4),vi 23 x_6,vi 24 x_11,vi 25 x_8,vi 26 x_10,vi 27 x_15,vv 28 (.tuple [(.str s_13),(i6 x_14)])]) = some o := stM C 2 (fun _ _ => by kernel_rfl) ho
theorem p19_7 {tg_3 : Bool} {l_4 : List AV} {s_5 s_16 : List UInt8} {x_6 x_7 x_9 x_12 : Int} (ho : Tr.val C 19
(.br (Nat.ble (s_5.length + s_16.length) 4611686018427387904)
(.br (Nat.ble ((s_5 ++ s_16).length + 1) 4611686018427387904)
(rt (.str ((s_5 ++ s_16) ++ [125]))) .none) .none) = some o) : ML C 19 qL1 7 (mkS 112 [vv 0 (.vs 1 tg_3 l_4),vt 3 s_5,vi 4 x_6,vi 5 x_7,vb 15 false,vt 102 s_5,vv 103 cL0,vv 104 (.vs 1 tg_3 l_4),vi 105 x_6,vi 106 x_9,vi 107 x_12,vv 108 (.cptr [(.str s_16)])] [] Hp.none 0) = some o := stM C 1 (fun _ _ => by kernel_rfl) ho
theorem p19_8 {tg_3 : Bool} {l_4 : List AV} {s_5 s_13 : List UInt8} {x_7 x_8 x_14 x_17 : Int} (ho : Tr.val C 19
(cl0 22 [(i6 (w64 (Int.tdiv x_8 3))),(i6 6)] fun r8 => .br (AV.pure r8.v)
(.mid 0 qL11 3 (mk0 112 [vv 0 (.vs 1 tg_3 l_4),vt 3 s_5,vi 5 x_7,vi 6 x_8,vt 7 s_13,vi 8 x_14,vi 9 (w64 (x_17 + 1)),vi 34 x_8,vi 35 (w64 (Int.tdiv x_8 3)),vv 36 r8.v])) .none) = some o) : ML C 19 qL10 2 (mk0 112 [vv 0 (.vs 1 tg_3 l_4),vt 3 s_5,vi 5 x_7,vi 6 x_8,vt 7 s_13,vi 8 x_14,vi 31 x_8,vi 32 x_17]) = some o := stM C 5 (fun _ _ => by kernel_rfl) ho
theorem p19_9 {tg_3 : Bool} {l_4 : List AV} {s_5 s_13 : List UInt8} {x_7 x_8 x_14 x_18 x_19 x_20 : Int} (ho : Tr.val C 19
(.br (decide (x_18 = 0))
(.br (Nat.ble (10 + s_13.length) 4611686018427387904)
(.br (Nat.ble (([119,114,105,116,101,32,97,32,61,32] ++ s_13).length + 1) 4611686018427387904)
(.br (decide (x_19 = 2))
(.br (Nat.ble (14 + s_13.length) 4611686018427387904)
(.br (Nat.ble (([119,114,105,116,101,32,111,119,110,101,114,32,61,32] ++ s_13).length + 1) 4611686018427387904)
(.br (Nat.ble (s_5.length + 4) 4611686018427387904)
(cl0 29 [(i6 x_7)] fun r9 => .br (AV.pure r9.v)
(.mid 7 qL12 4 (mk0 112 [vv 0 (.vs 1 tg_3 l_4),vt 3 s_5,vi 5 x_7,vi 8 x_14,vt 10 (([119,114,105,116,101,32,111,119,110,101,114,32,61,32] ++ s_13) ++ [59]),vt 70 s_5,vt 71 (s_5 ++ [111,112,32,102]),vi 72 x_7,vv 73 r9.v])) .none) .none) .none) .none)
(.br (Nat.ble (s_5.length + 4) 4611686018427387904)
(cl0 29 [(i6 x_7)] fun r10 => .br (AV.pure r10.v)
(.mid 7 qL13 4 (mk0 112 [vv 0 (.vs 1 tg_3 l_4),vt 3 s_5,vi 5 x_7,vt 7 s_13,vi 8 x_14,vt 10 (([119,114,105,116,101,32,97,32,61,32] ++ s_13) ++ [59]),vb 46 false,vt 70 s_5,vt 71 (s_5 ++ [111,112,32,102]),vi 72 x_7,vv 73 r10.v])) .none) .none)) .none) .none)
(.br (decide (x_18 = 1))
(.br (Nat.ble (8 + s_13.length) 4611686018427387904)
(.br (Nat.ble (([97,100,100,32,98,32,61,32] ++ s_13).length + 14) 4611686018427387904)
(.br (Nat.ble (s_5.length + 4) 4611686018427387904)
(cl0 29 [(i6 x_7)] fun r11 => .br (AV.pure r11.v)
(.mid 9 qL14 4 (mk0 112 [vv 0 (.vs 1 tg_3 l_4),vt 3 s_5,vi 5 x_7,vi 8 x_14,vt 10 (([97,100,100,32,98,32,61,32] ++ s_13) ++ [59,32,114,97,105,115,101,32,99,32,61,32,110,59]),vt 70 s_5,vt 71 (s_5 ++ [111,112,32,102]),vi 72 x_7,vv 73 r11.v])) .none) .none) .none) .none)
(.br (decide (x_18 = 2))
(.br (Nat.ble (14 + s_13.length) 4611686018427387904)
(.br (Nat.ble (([105,110,115,101,114,116,32,116,97,103,115,32,61,32] ++ s_13).length + 10) 4611686018427387904)
(.br (Nat.ble (s_5.length + 4) 4611686018427387904)
(cl0 29 [(i6 x_7)] fun r12 => .br (AV.pure r12.v)
(.mid 6 qL15 4 (mk0 112 [vv 0 (.vs 1 tg_3 l_4),vt 3 s_5,vi 5 x_7,vi 8 x_14,vt 10 (([105,110,115,101,114,116,32,116,97,103,115,32,61,32] ++ s_13) ++ [59,32,109,97,114,107,32,120,49,59]),vt 70 s_5,vt 71 (s_5 ++ [111,112,32,102]),vi 72 x_7,vv 73 r12.v])) .none) .none) .none) .none)
(.br (decide (x_18 = 3))
(.br (Nat.ble (3 + s_13.length) 4611686018427387904)
(.br (Nat.ble (([105,102,32] ++ s_13).length + 13) 4611686018427387904)
(.br (Nat.ble (s_5.length + 4) 4611686018427387904)
(cl0 29 [(i6 x_7)] fun r13 => .br (AV.pure r13.v)
(.mid 3 qL16 4 (mk0 112 [vv 0 (.vs 1 tg_3 l_4),vt 3 s_5,vi 5 x_7,vi 8 x_14,vt 10 (([105,102,32] ++ s_13) ++ [32,123,32,109,97,114,107,32,120,49,59,32,125]),vt 70 s_5,vt 71 (s_5 ++ [111,112,32,102]),vi 72 x_7,vv 73 r13.v])) .none) .none) .none) .none)
(.br (decide (x_18 = 4))
(.br (Nat.ble (3 + s_13.length) 4611686018427387904)
(.br (Nat.ble (([105,102,32] ++ s_13).length + 54) 4611686018427387904)
(.br (Nat.ble (s_5.length + 4) 4611686018427387904)
(cl0 29 [(i6 x_7)] fun r14 => .br (AV.pure r14.v)
(.mid 0 qL17 4 (mk0 112 [vv 0 (.vs 1 tg_3 l_4),vt 3 s_5,vi 5 x_7,vi 8 x_14,vt 10 (([105,102,32] ++ s_13) ++ [32,123,32,97,100,100,32,98,32,61,32,110,59,32,125,32,101,108,115,101,32,123,32,105,110,115,101,114,116,32,116,97,103,115,32,61,32,119,59,32,114,97,105,115,101,32,99,32,61,32,51,59,32,125]),vt 70 s_5,vt 71 (s_5 ++ [111,112,32,102]),vi 72 x_7,vv 73 r14.v])) .none) .none) .none) .none)
(.br (Nat.ble (17 + s_13.length) 4611686018427387904)
(.br (Nat.ble (([109,97,114,107,32,120,49,59,32,97,100,100,32,98,32,61,32] ++ s_13).length + 1) 4611686018427387904)
(.br (Nat.ble (s_5.length + 4) 4611686018427387904)
(cl0 29 [(i6 x_7)] fun r15 => .br (AV.pure r15.v)
(.mid 0 qL18 4 (mk0 112 [vv 0 (.vs 1 tg_3 l_4),vt 3 s_5,vi 5 x_7,vi 8 x_14,vt 10 (([109,97,114,107,32,120,49,59,32,97,100,100,32,98,32,61,32] ++ s_13) ++ [59]),vt 70 s_5,vt 71 (s_5 ++ [111,112,32,102]),vi 72 x_7,vv 73 r15.v])) .none) .none) .none) .none)))))) = some o) : ML C 19 qL11 3 (mk0 112 [vv 0 (.vs 1 tg_3 l_4),vt 3 s_5,vi 5 x_7,vi 6 x_8,vt 7 s_13,vi 8 x_14,vi 9 x_19,vi 34 x_8,vi 35 x_20,vi 36 x_18]) = some o := stM C 20 (fun _ _ => by kernel_rfl) ho
theorem p19_10 {tg_3 : Bool} {l_4 : List AV} {s_5 s_21 s_22 s_23 : List UInt8} {x_7 x_14 : Int} (ho : Tr.val C 19
(.br (Nat.ble (s_23.length + s_21.length) 4611686018427387904)
(.br (Nat.ble ((s_23 ++ s_21).length + 26) 4611686018427387904)
(.br (Nat.ble (((s_23 ++ s_21) ++ [40,110,32,105,110,116,44,32,119,32,116,101,120,116,44,32,112,32,98,111,111,108,41,32,123,32]).length + s_22.length) 4611686018427387904)
(.br (Nat.ble ((((s_23 ++ s_21) ++ [40,110,32,105,110,116,44,32,119,32,116,101,120,116,44,32,112,32,98,111,111,108,41,32,123,32]) ++ s_22).length + 3) 4611686018427387904)
(cl0 34 [(.vs 1 tg_3 l_4),(i6 x_14)] fun r16 => .br (AV.pure r16.v)
(.mid 0 qL19 3 (mk0 112 [vv 0 (.vs 1 tg_3 l_4),vt 3 ((((s_23 ++ s_21) ++ [40,110,32,105,110,116,44,32,119,32,116,101,120,116,44,32,112,32,98,111,111,108,41,32,123,32]) ++ s_22) ++ [32,125,32]),vi 5 x_7,vi 8 x_14,vv 79 (.vs 1 tg_3 l_4),vi 80 x_14,vv 81 r16.v])) .none) .none) .none) .none) .none) = some o) : ML C 19 qL12 4 (mk0 112 [vv 0 (.vs 1 tg_3 l_4),vt 3 s_5,vi 5 x_7,vi 8 x_14,vt 10 s_22,vt 70 s_5,vt 71 s_23,vi 72 x_7,vt 73 s_21]) = some o := stM C 2 (fun _ _ => by kernel_rfl) ho
theorem p19_11 {tg_3 : Bool} {l_4 : List AV} {s_5 s_13 s_24 s_25 s_26 : List UInt8} {x_7 x_14 : Int} (ho : Tr.val C 19
(.br (Nat.ble (s_26.length + s_24.length) 4611686018427387904)
(.br (Nat.ble ((s_26 ++ s_24).length + 26) 4611686018427387904)
(.br (Nat.ble (((s_26 ++ s_24) ++ [40,110,32,105,110,116,44,32,119,32,116,101,120,116,44,32,112,32,98,111,111,108,41,32,123,32]).length + s_25.length) 4611686018427387904)
(.br (Nat.ble ((((s_26 ++ s_24) ++ [40,110,32,105,110,116,44,32,119,32,116,101,120,116,44,32,112,32,98,111,111,108,41,32,123,32]) ++ s_25).length + 3) 4611686018427387904)
(cl0 34 [(.vs 1 tg_3 l_4),(i6 x_14)] fun r17 => .br (AV.pure r17.v)
(.mid 0 qL20 3 (mk0 112 [vv 0 (.vs 1 tg_3 l_4),vt 3 ((((s_26 ++ s_24) ++ [40,110,32,105,110,116,44,32,119,32,116,101,120,116,44,32,112,32,98,111,111,108,41,32,123,32]) ++ s_25) ++ [32,125,32]),vi 5 x_7,vi 8 x_14,vv 79 (.vs 1 tg_3 l_4),vi 80 x_14,vv 81 r17.v])) .none) .none) .none) .none) .none) = some o) : ML C 19 qL13 4 (mk0 112 [vv 0 (.vs 1 tg_3 l_4),vt 3 s_5,vi 5 x_7,vt 7 s_13,vi 8 x_14,vt 10 s_25,vb 46 false,vt 70 s_5,vt 71 s_26,vi 72 x_7,vt 73 s_24]) = some o := stM C 2 (fun _ _ => by kernel_rfl) ho
theorem p19_12 {tg_3 : Bool} {l_4 : List AV} {s_5 s_27 s_28 s_29 : List UInt8} {x_7 x_14 : Int} (ho : Tr.val C 19
(.br (Nat.ble (s_29.length + s_27.length) 4611686018427387904)
(.br (Nat.ble ((s_29 ++ s_27).length + 26) 4611686018427387904)
(.br (Nat.ble (((s_29 ++ s_27) ++ [40,110,32,105,110,116,44,32,119,32,116,101,120,116,44,32,112,32,98,111,111,108,41,32,123,32]).length + s_28.length) 4611686018427387904)
(.br (Nat.ble ((((s_29 ++ s_27) ++ [40,110,32,105,110,116,44,32,119,32,116,101,120,116,44,32,112,32,98,111,111,108,41,32,123,32]) ++ s_28).length + 3) 4611686018427387904)
(cl0 34 [(.vs 1 tg_3 l_4),(i6 x_14)] fun r18 => .br (AV.pure r18.v)
(.mid 0 qL21 3 (mk0 112 [vv 0 (.vs 1 tg_3 l_4),vt 3 ((((s_29 ++ s_27) ++ [40,110,32,105,110,116,44,32,119,32,116,101,120,116,44,32,112,32,98,111,111,108,41,32,123,32]) ++ s_28) ++ [32,125,32]),vi 5 x_7,vi 8 x_14,vv 79 (.vs 1 tg_3 l_4),vi 80 x_14,vv 81 r18.v])) .none) .none) .none) .none) .none) = some o) : ML C 19 qL14 4 (mk0 112 [vv 0 (.vs 1 tg_3 l_4),vt 3 s_5,vi 5 x_7,vi 8 x_14,vt 10 s_28,vt 70 s_5,vt 71 s_29,vi 72 x_7,vt 73 s_27]) = some o := stM C 2 (fun _ _ => by kernel_rfl) ho
theorem p19_13 {tg_3 : Bool} {l_4 : List AV} {s_5 s_30 s_31 s_32 : List UInt8} {x_7 x_14 : Int} (ho : Tr.val C 19
(.br (Nat.ble (s_32.length + s_30.length) 4611686018427387904)
(.br (Nat.ble ((s_32 ++ s_30).length + 26) 4611686018427387904)
(.br (Nat.ble (((s_32 ++ s_30) ++ [40,110,32,105,110,116,44,32,119,32,116,101,120,116,44,32,112,32,98,111,111,108,41,32,123,32]).length + s_31.length) 4611686018427387904)
(.br (Nat.ble ((((s_32 ++ s_30) ++ [40,110,32,105,110,116,44,32,119,32,116,101,120,116,44,32,112,32,98,111,111,108,41,32,123,32]) ++ s_31).length + 3) 4611686018427387904)
(cl0 34 [(.vs 1 tg_3 l_4),(i6 x_14)] fun r19 => .br (AV.pure r19.v)
(.mid 0 qL22 3 (mk0 112 [vv 0 (.vs 1 tg_3 l_4),vt 3 ((((s_32 ++ s_30) ++ [40,110,32,105,110,116,44,32,119,32,116,101,120,116,44,32,112,32,98,111,111,108,41,32,123,32]) ++ s_31) ++ [32,125,32]),vi 5 x_7,vi 8 x_14,vv 79 (.vs 1 tg_3 l_4),vi 80 x_14,vv 81 r19.v])) .none) .none) .none) .none) .none) = some o) : ML C 19 qL15 4 (mk0 112 [vv 0 (.vs 1 tg_3 l_4),vt 3 s_5,vi 5 x_7,vi 8 x_14,vt 10 s_31,vt 70 s_5,vt 71 s_32,vi 72 x_7,vt 73 s_30]) = some o := stM C 2 (fun _ _ => by kernel_rfl) ho
theorem p19_14 {tg_3 : Bool} {l_4 : List AV} {s_5 s_33 s_34 s_35 : List UInt8} {x_7 x_14 : Int} (ho : Tr.val C 19
(.br (Nat.ble (s_35.length + s_33.length) 4611686018427387904)
(.br (Nat.ble ((s_35 ++ s_33).length + 26) 4611686018427387904)
(.br (Nat.ble (((s_35 ++ s_33) ++ [40,110,32,105,110,116,44,32,119,32,116,101,120,116,44,32,112,32,98,111,111,108,41,32,123,32]).length + s_34.length) 4611686018427387904)
(.br (Nat.ble ((((s_35 ++ s_33) ++ [40,110,32,105,110,116,44,32,119,32,116,101,120,116,44,32,112,32,98,111,111,108,41,32,123,32]) ++ s_34).length + 3) 4611686018427387904)
(cl0 34 [(.vs 1 tg_3 l_4),(i6 x_14)] fun r20 => .br (AV.pure r20.v)
(.mid 0 qL23 3 (mk0 112 [vv 0 (.vs 1 tg_3 l_4),vt 3 ((((s_35 ++ s_33) ++ [40,110,32,105,110,116,44,32,119,32,116,101,120,116,44,32,112,32,98,111,111,108,41,32,123,32]) ++ s_34) ++ [32,125,32]),vi 5 x_7,vi 8 x_14,vv 79 (.vs 1 tg_3 l_4),vi 80 x_14,vv 81 r20.v])) .none) .none) .none) .none) .none) = some o) : ML C 19 qL16 4 (mk0 112 [vv 0 (.vs 1 tg_3 l_4),vt 3 s_5,vi 5 x_7,vi 8 x_14,vt 10 s_34,vt 70 s_5,vt 71 s_35,vi 72 x_7,vt 73 s_33]) = some o := stM C 2 (fun _ _ => by kernel_rfl) ho
theorem p19_15 {tg_3 : Bool} {l_4 : List AV} {s_5 s_36 s_37 s_38 : List UInt8} {x_7 x_14 : Int} (ho : Tr.val C 19
(.br (Nat.ble (s_38.length + s_36.length) 4611686018427387904)
(.br (Nat.ble ((s_38 ++ s_36).length + 26) 4611686018427387904)
(.br (Nat.ble (((s_38 ++ s_36) ++ [40,110,32,105,110,116,44,32,119,32,116,101,120,116,44,32,112,32,98,111,111,108,41,32,123,32]).length + s_37.length) 4611686018427387904)
(.br (Nat.ble ((((s_38 ++ s_36) ++ [40,110,32,105,110,116,44,32,119,32,116,101,120,116,44,32,112,32,98,111,111,108,41,32,123,32]) ++ s_37).length + 3) 4611686018427387904)
(cl0 34 [(.vs 1 tg_3 l_4),(i6 x_14)] fun r21 => .br (AV.pure r21.v)
(.mid 0 qL24 3 (mk0 112 [vv 0 (.vs 1 tg_3 l_4),vt 3 ((((s_38 ++ s_36) ++ [40,110,32,105,110,116,44,32,119,32,116,101,120,116,44,32,112,32,98,111,111,108,41,32,123,32]) ++ s_37) ++ [32,125,32]),vi 5 x_7,vi 8 x_14,vv 79 (.vs 1 tg_3 l_4),vi 80 x_14,vv 81 r21.v])) .none) .none) .none) .none) .none) = some o) : ML C 19 qL17 4 (mk0 112 [vv 0 (.vs 1 tg_3 l_4),vt 3 s_5,vi 5 x_7,vi 8 x_14,vt 10 s_37,vt 70 s_5,vt 71 s_38,vi 72 x_7,vt 73 s_36]) = some o := stM C 2 (fun _ _ => by kernel_rfl) ho
theorem p19_16 {tg_3 : Bool} {l_4 : List AV} {s_5 s_39 s_40 s_41 : List UInt8} {x_7 x_14 : Int} (ho : Tr.val C 19
(.br (Nat.ble (s_41.length + s_39.length) 4611686018427387904)
(.br (Nat.ble ((s_41 ++ s_39).length + 26) 4611686018427387904)
(.br (Nat.ble (((s_41 ++ s_39) ++ [40,110,32,105,110,116,44,32,119,32,116,101,120,116,44,32,112,32,98,111,111,108,41,32,123,32]).length + s_40.length) 4611686018427387904)
(.br (Nat.ble ((((s_41 ++ s_39) ++ [40,110,32,105,110,116,44,32,119,32,116,101,120,116,44,32,112,32,98,111,111,108,41,32,123,32]) ++ s_40).length + 3) 4611686018427387904)
(cl0 34 [(.vs 1 tg_3 l_4),(i6 x_14)] fun r22 => .br (AV.pure r22.v)
(.mid 0 qL25 3 (mk0 112 [vv 0 (.vs 1 tg_3 l_4),vt 3 ((((s_41 ++ s_39) ++ [40,110,32,105,110,116,44,32,119,32,116,101,120,116,44,32,112,32,98,111,111,108,41,32,123,32]) ++ s_40) ++ [32,125,32]),vi 5 x_7,vi 8 x_14,vv 79 (.vs 1 tg_3 l_4),vi 80 x_14,vv 81 r22.v])) .none) .none) .none) .none) .none) = some o) : ML C 19 qL18 4 (mk0 112 [vv 0 (.vs 1 tg_3 l_4),vt 3 s_5,vi 5 x_7,vi 8 x_14,vt 10 s_40,vt 70 s_5,vt 71 s_41,vi 72 x_7,vt 73 s_39]) = some o := stM C 2 (fun _ _ => by kernel_rfl) ho
theorem p19_17 {tg_3 : Bool} {l_4 : List AV} {x_7 x_14 x_42 : Int} {s_43 : List UInt8} (ho : Tr.val C 19
(cl0 22 [(i6 x_42),(i6 3)] fun r23 => .br (AV.pure r23.v)
(.mid 0 qL3 5 (mk0 112 [vv 0 (.vs 1 tg_3 l_4),vt 3 s_43,vi 5 x_7,vi 8 x_14,vi 11 x_42,vv 83 (.vs 1 tg_3 l_4),vi 84 x_14,vi 85 (w64 (x_14 + 1)),vi 86 x_42,vv 87 r23.v])) .none) = some o) : ML C 19 qL19 3 (mk0 112 [vv 0 (.vs 1 tg_3 l_4),vt 3 s_43,vi 5 x_7,vi 8 x_14,vv 79 (.vs 1 tg_3 l_4),vi 80 x_14,vi 81 x_42]) = some o := stM C 2 (fun _ _ => by kernel_rfl) ho
theorem p19_18 {tg_3 : Bool} {l_4 : List AV} {x_7 x_14 x_44 : Int} {s_45 : List UInt8} (ho : Tr.val C 19
(cl0 22 [(i6 x_44),(i6 3)] fun r24 => .br (AV.pure r24.v)
(.mid 0 qL4 5 (mk0 112 [vv 0 (.vs 1 tg_3 l_4),vt 3 s_45,vi 5 x_7,vi 8 x_14,vi 11 x_44,vv 83 (.vs 1 tg_3 l_4),vi 84 x_14,vi 85 (w64 (x_14 + 1)),vi 86 x_44,vv 87 r24.v])) .none) = some o) : ML C 19 qL20 3 (mk0 112 [vv 0 (.vs 1 tg_3 l_4),vt 3 s_45,vi 5 x_7,vi 8 x_14,vv 79 (.vs 1 tg_3 l_4),vi 80 x_14,vi 81 x_44]) = some o := stM C 2 (fun _ _ => by kernel_rfl) ho
theorem p19_19 {tg_3 : Bool} {l_4 : List AV} {x_7 x_14 x_46 : Int} {s_47 : List UInt8} (ho : Tr.val C 19
(cl0 22 [(i6 x_46),(i6 3)] fun r25 => .br (AV.pure r25.v)
(.mid 0 qL5 5 (mk0 112 [vv 0 (.vs 1 tg_3 l_4),vt 3 s_47,vi 5 x_7,vi 8 x_14,vi 11 x_46,vv 83 (.vs 1 tg_3 l_4),vi 84 x_14,vi 85 (w64 (x_14 + 1)),vi 86 x_46,vv 87 r25.v])) .none) = some o) : ML C 19 qL21 3 (mk0 112 [vv 0 (.vs 1 tg_3 l_4),vt 3 s_47,vi 5 x_7,vi 8 x_14,vv 79 (.vs 1 tg_3 l_4),vi 80 x_14,vi 81 x_46]) = some o := stM C 2 (fun _ _ => by kernel_rfl) ho
theorem p19_20 {tg_3 : Bool} {l_4 : List AV} {x_7 x_14 x_48 : Int} {s_49 : List UInt8} (ho : Tr.val C 19
(cl0 22 [(i6 x_48),(i6 3)] fun r26 => .br (AV.pure r26.v)
(.mid 0 qL6 5 (mk0 112 [vv 0 (.vs 1 tg_3 l_4),vt 3 s_49,vi 5 x_7,vi 8 x_14,vi 11 x_48,vv 83 (.vs 1 tg_3 l_4),vi 84 x_14,vi 85 (w64 (x_14 + 1)),vi 86 x_48,vv 87 r26.v])) .none) = some o) : ML C 19 qL22 3 (mk0 112 [vv 0 (.vs 1 tg_3 l_4),vt 3 s_49,vi 5 x_7,vi 8 x_14,vv 79 (.vs 1 tg_3 l_4),vi 80 x_14,vi 81 x_48]) = some o := stM C 2 (fun _ _ => by kernel_rfl) ho
theorem p19_21 {tg_3 : Bool} {l_4 : List AV} {x_7 x_14 x_50 : Int} {s_51 : List UInt8} (ho : Tr.val C 19
(cl0 22 [(i6 x_50),(i6 3)] fun r27 => .br (AV.pure r27.v)
(.mid 0 qL7 5 (mk0 112 [vv 0 (.vs 1 tg_3 l_4),vt 3 s_51,vi 5 x_7,vi 8 x_14,vi 11 x_50,vv 83 (.vs 1 tg_3 l_4),vi 84 x_14,vi 85 (w64 (x_14 + 1)),vi 86 x_50,vv 87 r27.v])) .none) = some o) : ML C 19 qL23 3 (mk0 112 [vv 0 (.vs 1 tg_3 l_4),vt 3 s_51,vi 5 x_7,vi 8 x_14,vv 79 (.vs 1 tg_3 l_4),vi 80 x_14,vi 81 x_50]) = some o := stM C 2 (fun _ _ => by kernel_rfl) ho
theorem p19_22 {tg_3 : Bool} {l_4 : List AV} {x_7 x_14 x_52 : Int} {s_53 : List UInt8} (ho : Tr.val C 19
(cl0 22 [(i6 x_52),(i6 3)] fun r28 => .br (AV.pure r28.v)
(.mid 0 qL8 5 (mk0 112 [vv 0 (.vs 1 tg_3 l_4),vt 3 s_53,vi 5 x_7,vi 8 x_14,vi 11 x_52,vv 83 (.vs 1 tg_3 l_4),vi 84 x_14,vi 85 (w64 (x_14 + 1)),vi 86 x_52,vv 87 r28.v])) .none) = some o) : ML C 19 qL24 3 (mk0 112 [vv 0 (.vs 1 tg_3 l_4),vt 3 s_53,vi 5 x_7,vi 8 x_14,vv 79 (.vs 1 tg_3 l_4),vi 80 x_14,vi 81 x_52]) = some o := stM C 2 (fun _ _ => by kernel_rfl) ho
theorem p19_23 {tg_3 : Bool} {l_4 : List AV} {x_7 x_14 x_54 : Int} {s_55 : List UInt8} (ho : Tr.val C 19
(cl0 22 [(i6 x_54),(i6 3)] fun r29 => .br (AV.pure r29.v)
(.mid 0 qL9 5 (mk0 112 [vv 0 (.vs 1 tg_3 l_4),vt 3 s_55,vi 5 x_7,vi 8 x_14,vi 11 x_54,vv 83 (.vs 1 tg_3 l_4),vi 84 x_14,vi 85 (w64 (x_14 + 1)),vi 86 x_54,vv 87 r29.v])) .none) = some o) : ML C 19 qL25 3 (mk0 112 [vv 0 (.vs 1 tg_3 l_4),vt 3 s_55,vi 5 x_7,vi 8 x_14,vv 79 (.vs 1 tg_3 l_4),vi 80 x_14,vi 81 x_54]) = some o := stM C 2 (fun _ _ => by kernel_rfl) ho
theorem p19_24 {tg_3 : Bool} {l_4 : List AV} {x_7 x_14 x_42 x_56 x_57 : Int} {s_43 : List UInt8} (ho : Tr.val C 19
(cl0 41 [(.vs 1 tg_3 l_4),(i6 x_57),(i6 (w64 (x_56 + 1))),(i6 0),(.bool true)] fun r30 => .br (AV.pure r30.v)
(.mid 0 qL3 7 (mk0 112 [vv 0 (.vs 1 tg_3 l_4),vt 3 s_43,vi 5 x_7,vi 8 x_14,vi 11 x_42,vv 83 (.vs 1 tg_3 l_4),vi 84 x_14,vi 85 x_57,vi 86 x_42,vi 87 x_56,vi 88 (w64 (x_56 + 1)),vv 89 r30.v])) .none) = some o) : ML C 19 qL3 5 (mk0 112 [vv 0 (.vs 1 tg_3 l_4),vt 3 s_43,vi 5 x_7,vi 8 x_14,vi 11 x_42,vv 83 (.vs 1 tg_3 l_4),vi 84 x_14,vi 85 x_57,vi 86 x_42,vi 87 x_56]) = some o := stM C 0 (fun _ _ => by kernel_rfl) ho
theorem p19_25 {tg_3 : Bool} {l_4 : List AV} {x_7 x_14 x_44 x_58 x_59 : Int} {s_45 : List UInt8} (ho : Tr.val C 19
(cl0 41 [(.vs 1 tg_3 l_4),(i6 x_59),(i6 (w64 (x_58 + 1))),(i6 0),(.bool true)] fun r31 => .br (AV.pure r31.v)
(.mid 0 qL4 7 (mk0 112 [vv 0 (.vs 1 tg_3 l_4),vt 3 s_45,vi 5 x_7,vi 8 x_14,vi 11 x_44,vv 83 (.vs 1 tg_3 l_4),vi 84 x_14,vi 85 x_59,vi 86 x_44,vi 87 x_58,vi 88 (w64 (x_58 + 1)),vv 89 r31.v])) .none) = some o) : ML C 19 qL4 5 (mk0 112 [vv 0 (.vs 1 tg_3 l_4),vt 3 s_45,vi 5 x_7,vi 8 x_14,vi 11 x_44,vv 83 (.vs 1 tg_3 l_4),vi 84 x_14,vi 85 x_59,vi 86 x_44,vi 87 x_58]) = some o := stM C 0 (fun _ _ => by kernel_rfl) ho
theorem p19_26 {tg_3 : Bool} {l_4 : List AV} {x_7 x_14 x_46 x_60 x_61 : Int} {s_47 : List UInt8} (ho : Tr.val C 19
(cl0 41 [(.vs 1 tg_3 l_4),(i6 x_61),(i6 (w64 (x_60 + 1))),(i6 0),(.bool true)] fun r32 => .br (AV.pure r32.v)
(.mid 0 qL5 7 (mk0 112 [vv 0 (.vs 1 tg_3 l_4),vt 3 s_47,vi 5 x_7,vi 8 x_14,vi 11 x_46,vv 83 (.vs 1 tg_3 l_4),vi 84 x_14,vi 85 x_61,vi 86 x_46,vi 87 x_60,vi 88 (w64 (x_60 + 1)),vv 89 r32.v])) .none) = some o) : ML C 19 qL5 5 (mk0 112 [vv 0 (.vs 1 tg_3 l_4),vt 3 s_47,vi 5 x_7,vi 8 x_14,vi 11 x_46,vv 83 (.vs 1 tg_3 l_4),vi 84 x_14,vi 85 x_61,vi 86 x_46,vi 87 x_60]) = some o := stM C 0 (fun _ _ => by kernel_rfl) ho
theorem p19_27 {tg_3 : Bool} {l_4 : List AV} {x_7 x_14 x_48 x_62 x_63 : Int} {s_49 : List UInt8} (ho : Tr.val C 19
(cl0 41 [(.vs 1 tg_3 l_4),(i6 x_63),(i6 (w64 (x_62 + 1))),(i6 0),(.bool true)] fun r33 => .br (AV.pure r33.v)
(.mid 0 qL6 7 (mk0 112 [vv 0 (.vs 1 tg_3 l_4),vt 3 s_49,vi 5 x_7,vi 8 x_14,vi 11 x_48,vv 83 (.vs 1 tg_3 l_4),vi 84 x_14,vi 85 x_63,vi 86 x_48,vi 87 x_62,vi 88 (w64 (x_62 + 1)),vv 89 r33.v])) .none) = some o) : ML C 19 qL6 5 (mk0 112 [vv 0 (.vs 1 tg_3 l_4),vt 3 s_49,vi 5 x_7,vi 8 x_14,vi 11 x_48,vv 83 (.vs 1 tg_3 l_4),vi 84 x_14,vi 85 x_63,vi 86 x_48,vi 87 x_62]) = some o := stM C 0 (fun _ _ => by kernel_rfl) ho
theorem p19_28 {tg_3 : Bool} {l_4 : List AV} {x_7 x_14 x_50 x_64 x_65 : Int} {s_51 : List UInt8} (ho : Tr.val C 19
(cl0 41 [(.vs 1 tg_3 l_4),(i6 x_65),(i6 (w64 (x_64 + 1))),(i6 0),(.bool true)] fun r34 => .br (AV.pure r34.v)
(.mid 0 qL7 7 (mk0 112 [vv 0 (.vs 1 tg_3 l_4),vt 3 s_51,vi 5 x_7,vi 8 x_14,vi 11 x_50,vv 83 (.vs 1 tg_3 l_4),vi 84 x_14,vi 85 x_65,vi 86 x_50,vi 87 x_64,vi 88 (w64 (x_64 + 1)),vv 89 r34.v])) .none) = some o) : ML C 19 qL7 5 (mk0 112 [vv 0 (.vs 1 tg_3 l_4),vt 3 s_51,vi 5 x_7,vi 8 x_14,vi 11 x_50,vv 83 (.vs 1 tg_3 l_4),vi 84 x_14,vi 85 x_65,vi 86 x_50,vi 87 x_64]) = some o := stM C 0 (fun _ _ => by kernel_rfl) ho
theorem p19_29 {tg_3 : Bool} {l_4 : List AV} {x_7 x_14 x_52 x_66 x_67 : Int} {s_53 : List UInt8} (ho : Tr.val C 19
(cl0 41 [(.vs 1 tg_3 l_4),(i6 x_67),(i6 (w64 (x_66 + 1))),(i6 0),(.bool true)] fun r35 => .br (AV.pure r35.v)
(.mid 0 qL8 7 (mk0 112 [vv 0 (.vs 1 tg_3 l_4),vt 3 s_53,vi 5 x_7,vi 8 x_14,vi 11 x_52,vv 83 (.vs 1 tg_3 l_4),vi 84 x_14,vi 85 x_67,vi 86 x_52,vi 87 x_66,vi 88 (w64 (x_66 + 1)),vv 89 r35.v])) .none) = some o) : ML C 19 qL8 5 (mk0 112 [vv 0 (.vs 1 tg_3 l_4),vt 3 s_53,vi 5 x_7,vi 8 x_14,vi 11 x_52,vv 83 (.vs 1 tg_3 l_4),vi 84 x_14,vi 85 x_67,vi 86 x_52,vi 87 x_66]) = some o := stM C 0 (fun _ _ => by kernel_rfl) ho
theorem p19_30 {tg_3 : Bool} {l_4 : List AV} {x_7 x_14 x_54 x_68 x_69 : Int} {s_55 : List UInt8} (ho : Tr.val C 19
(cl0 41 [(.vs 1 tg_3 l_4),(i6 x_69),(i6 (w64 (x_68 + 1))),(i6 0),(.bool true)] fun r36 => .br (AV.pure r36.v)
(.mid 0 qL9 7 (mk0 112 [vv 0 (.vs 1 tg_3 l_4),vt 3 s_55,vi 5 x_7,vi 8 x_14,vi 11 x_54,vv 83 (.vs 1 tg_3 l_4),vi 84 x_14,vi 85 x_69,vi 86 x_54,vi 87 x_68,vi 88 (w64 (x_68 + 1)),vv 89 r36.v])) .none) = some o) : ML C 19 qL9 5 (mk0 112 [vv 0 (.vs 1 tg_3 l_4),vt 3 s_55,vi 5 x_7,vi 8 x_14,vi 11 x_54,vv 83 (.vs 1 tg_3 l_4),vi 84 x_14,vi 85 x_69,vi 86 x_54,vi 87 x_68]) = some o := stM C 0 (fun _ _ => by kernel_rfl) ho
theorem p19_31 {tg_3 : Bool} {l_4 : List AV} {x_7 x_14 x_42 x_56 x_57 x_71 x_72 : Int} {s_43 s_70 : List UInt8} (ho : Tr.val C 19
(.br (Nat.ble (s_43.length + 7) 4611686018427387904)
(cl0 29 [(i6 x_7)] fun r37 => .br (AV.pure r37.v)
(.mid 0 qL26 4 (mk0 112 [vv 0 (.vs 1 tg_3 l_4),vt 3 s_43,vi 5 x_7,vt 12 s_70,vi 13 x_71,vt 92 s_43,vt 93 (s_43 ++ [113,117,101,114,121,32,113]),vi 94 x_7,vv 95 r37.v])) .none) .none) = some o) : ML C 19 qL3 7 (mk0 112 [vv 0 (.vs 1 tg_3 l_4),vt 3 s_43,vi 5 x_7,vi 8 x_14,vi 11 x_42,vv 83 (.vs 1 tg_3 l_4),vi 84 x_14,vi 85 x_57,vi 86 x_42,vi 87 x_56,vi 88 x_72,vv 89 (.tuple [(.str s_70),(i6 x_71)])]) = some o := stM C 2 (fun _ _ => by kernel_rfl) ho
theorem p19_32 {tg_3 : Bool} {l_4 : List AV} {x_7 x_14 x_44 x_58 x_59 x_74 x_75 : Int} {s_45 s_73 : List UInt8} (ho : Tr.val C 19
(.br (Nat.ble (s_45.length + 7) 4611686018427387904)
(cl0 29 [(i6 x_7)] fun r38 => .br (AV.pure r38.v)
(.mid 0 qL27 4 (mk0 112 [vv 0 (.vs 1 tg_3 l_4),vt 3 s_45,vi 5 x_7,vt 12 s_73,vi 13 x_74,vt 92 s_45,vt 93 (s_45 ++ [113,117,101,114,121,32,113]),vi 94 x_7,vv 95 r38.v])) .none) .none) = some o) : ML C 19 qL4 7 (mk0 112 [vv 0 (.vs 1 tg_3 l_4),vt 3 s_45,vi 5 x_7,vi 8 x_14,vi 11 x_44,vv 83 (.vs 1 tg_3 l_4),vi 84 x_14,vi 85 x_59,vi 86 x_44,vi 87 x_58,vi 88 x_75,vv 89 (.tuple [(.str s_73),(i6 x_74)])]) = some o := stM C 2 (fun _ _ => by kernel_rfl) ho
theorem p19_33 {tg_3 : Bool} {l_4 : List AV} {x_7 x_14 x_46 x_60 x_61 x_77 x_78 : Int} {s_47 s_76 : List UInt8} (ho : Tr.val C 19
(.br (Nat.ble (s_47.length + 7) 4611686018427387904)
(cl0 29 [(i6 x_7)] fun r39 => .br (AV.pure r39.v)
(.mid 0 qL28 4 (mk0 112 [vv 0 (.vs 1 tg_3 l_4),vt 3 s_47,vi 5 x_7,vt 12 s_76,vi 13 x_77,vt 92 s_47,vt 93 (s_47 ++ [113,117,101,114,121,32,113]),vi 94 x_7,vv 95 r39.v])) .none) .none) = some o) : ML C 19 qL5 7 (mk0 112 [vv 0 (.vs 1 tg_3 l_4),vt 3 s_47,vi 5 x_7,vi 8 x_14,vi 11 x_46,vv 83 (.vs 1 tg_3 l_4),vi 84 x_14,vi 85 x_61,vi 86 x_46,vi 87 x_60,vi 88 x_78,vv 89 (.tuple [(.str s_76),(i6 x_77)])]) = some o := stM C 2 (fun _ _ => by kernel_rfl) ho
theorem p19_34 {tg_3 : Bool} {l_4 : List AV} {x_7 x_14 x_48 x_62 x_63 x_80 x_81 : Int} {s_49 s_79 : List UInt8} (ho : Tr.val C 19
(.br (Nat.ble (s_49.length + 7) 4611686018427387904)
(cl0 29 [(i6 x_7)] fun r40 => .br (AV.pure r40.v)
(.mid 0 qL29 4 (mk0 112 [vv 0 (.vs 1 tg_3 l_4),vt 3 s_49,vi 5 x_7,vt 12 s_79,vi 13 x_80,vt 92 s_49,vt 93 (s_49 ++ [113,117,101,114,121,32,113]),vi 94 x_7,vv 95 r40.v])) .none) .none) = some o) : ML C 19 qL6 7 (mk0 112 [vv 0 (.vs 1 tg_3 l_4),vt 3 s_49,vi 5 x_7,vi 8 x_14,vi 11 x_48,vv 83 (.vs 1 tg_3 l_4),vi 84 x_14,vi 85 x_63,vi 86 x_48,vi 87 x_62,vi 88 x_81,vv 89 (.tuple [(.str s_79),(i6 x_80)])]) = some o := stM C 2 (fun _ _ => by kernel_rfl) ho
theorem p19_35 {tg_3 : Bool} {l_4 : List AV} {x_7 x_14 x_50 x_64 x_65 x_83 x_84 : Int} {s_51 s_82 : List UInt8} (ho : Tr.val C 19
(.br (Nat.ble (s_51.length + 7) 4611686018427387904)
(cl0 29 [(i6 x_7)] fun r41 => .br (AV.pure r41.v)
(.mid 0 qL30 4 (mk0 112 [vv 0 (.vs 1 tg_3 l_4),vt 3 s_51,vi 5 x_7,vt 12 s_82,vi 13 x_83,vt 92 s_51,vt 93 (s_51 ++ [113,117,101,114,121,32,113]),vi 94 x_7,vv 95 r41.v])) .none) .none) = some o) : ML C 19 qL7 7 (mk0 112 [vv 0 (.vs 1 tg_3 l_4),vt 3 s_51,vi 5 x_7,vi 8 x_14,vi 11 x_50,vv 83 (.vs 1 tg_3 l_4),vi 84 x_14,vi 85 x_65,vi 86 x_50,vi 87 x_64,vi 88 x_84,vv 89 (.tuple [(.str s_82),(i6 x_83)])]) = some o := stM C 2 (fun _ _ => by kernel_rfl) ho
theorem p19_36 {tg_3 : Bool} {l_4 : List AV} {x_7 x_14 x_52 x_66 x_67 x_86 x_87 : Int} {s_53 s_85 : List UInt8} (ho : Tr.val C 19
(.br (Nat.ble (s_53.length + 7) 4611686018427387904)
(cl0 29 [(i6 x_7)] fun r42 => .br (AV.pure r42.v)
(.mid 0 qL31 4 (mk0 112 [vv 0 (.vs 1 tg_3 l_4),vt 3 s_53,vi 5 x_7,vt 12 s_85,vi 13 x_86,vt 92 s_53,vt 93 (s_53 ++ [113,117,101,114,121,32,113]),vi 94 x_7,vv 95 r42.v])) .none) .none) = some o) : ML C 19 qL8 7 (mk0 112 [vv 0 (.vs 1 tg_3 l_4),vt 3 s_53,vi 5 x_7,vi 8 x_14,vi 11 x_52,vv 83 (.vs 1 tg_3 l_4),vi 84 x_14,vi 85 x_67,vi 86 x_52,vi 87 x_66,vi 88 x_87,vv 89 (.tuple [(.str s_85),(i6 x_86)])]) = some o := stM C 2 (fun _ _ => by kernel_rfl) ho
theorem p19_37 {tg_3 : Bool} {l_4 : List AV} {x_7 x_14 x_54 x_68 x_69 x_89 x_90 : Int} {s_55 s_88 : List UInt8} (ho : Tr.val C 19
(.br (Nat.ble (s_55.length + 7) 4611686018427387904)
(cl0 29 [(i6 x_7)] fun r43 => .br (AV.pure r43.v)
(.mid 0 qL32 4 (mk0 112 [vv 0 (.vs 1 tg_3 l_4),vt 3 s_55,vi 5 x_7,vt 12 s_88,vi 13 x_89,vt 92 s_55,vt 93 (s_55 ++ [113,117,101,114,121,32,113]),vi 94 x_7,vv 95 r43.v])) .none) .none) = some o) : ML C 19 qL9 7 (mk0 112 [vv 0 (.vs 1 tg_3 l_4),vt 3 s_55,vi 5 x_7,vi 8 x_14,vi 11 x_54,vv 83 (.vs 1 tg_3 l_4),vi 84 x_14,vi 85 x_69,vi 86 x_54,vi 87 x_68,vi 88 x_90,vv 89 (.tuple [(.str s_88),(i6 x_89)])]) = some o := stM C 2 (fun _ _ => by kernel_rfl) ho
theorem p19_38 {tg_3 : Bool} {l_4 : List AV} {x_7 x_71 : Int} {s_43 s_70 s_91 s_92 : List UInt8} (ho : Tr.val C 19
(.br (Nat.ble (s_92.length + s_91.length) 4611686018427387904)
(.br (Nat.ble ((s_92 ++ s_91).length + 26) 4611686018427387904)
(.br (Nat.ble (((s_92 ++ s_91) ++ [40,110,32,105,110,116,44,32,119,32,116,101,120,116,44,32,112,32,98,111,111,108,41,32,61,32]).length + s_70.length) 4611686018427387904)
(.br (Nat.ble ((((s_92 ++ s_91) ++ [40,110,32,105,110,116,44,32,119,32,116,101,120,116,44,32,112,32,98,111,111,108,41,32,61,32]) ++ s_70).length + 2) 4611686018427387904)
(.run 0 qL0 (mk0 112 [vv 0 (.vs 1 tg_3 l_4),vt 3 ((((s_92 ++ s_91) ++ [40,110,32,105,110,116,44,32,119,32,116,101,120,116,44,32,112,32,98,111,111,108,41,32,61,32]) ++ s_70) ++ [59,32]),vi 4 x_71,vi 5 (w64 (x_7 + 1))])) .none) .none) .none) .none) = some o) : ML C 19 qL26 4 (mk0 112 [vv 0 (.vs 1 tg_3 l_4),vt 3 s_43,vi 5 x_7,vt 12 s_70,vi 13 x_71,vt 92 s_43,vt 93 s_92,vi 94 x_7,vt 95 s_91]) = some o := stM C 4 (fun _ _ => by kernel_rfl) ho
theorem p19_39 {tg_3 : Bool} {l_4 : List AV} {x_7 x_74 : Int} {s_45 s_73 s_93 s_94 : List UInt8} (ho : Tr.val C 19
(.br (Nat.ble (s_94.length + s_93.length) 4611686018427387904)
(.br (Nat.ble ((s_94 ++ s_93).length + 26) 4611686018427387904)
(.br (Nat.ble (((s_94 ++ s_93) ++ [40,110,32,105,110,116,44,32,119,32,116,101,120,116,44,32,112,32,98,111,111,108,41,32,61,32]).length + s_73.length) 4611686018427387904)
(.br (Nat.ble ((((s_94 ++ s_93) ++ [40,110,32,105,110,116,44,32,119,32,116,101,120,116,44,32,112,32,98,111,111,108,41,32,61,32]) ++ s_73).length + 2) 4611686018427387904)
(.run 0 qL0 (mk0 112 [vv 0 (.vs 1 tg_3 l_4),vt 3 ((((s_94 ++ s_93) ++ [40,110,32,105,110,116,44,32,119,32,116,101,120,116,44,32,112,32,98,111,111,108,41,32,61,32]) ++ s_73) ++ [59,32]),vi 4 x_74,vi 5 (w64 (x_7 + 1))])) .none) .none) .none) .none) = some o) : ML C 19 qL27 4 (mk0 112 [vv 0 (.vs 1 tg_3 l_4),vt 3 s_45,vi 5 x_7,vt 12 s_73,vi 13 x_74,vt 92 s_45,vt 93 s_94,vi 94 x_7,vt 95 s_93]) = some o := stM C 4 (fun _ _ => by kernel_rfl) ho
theorem p19_40 {tg_3 : Bool} {l_4 : List AV} {x_7 x_77 : Int} {s_47 s_76 s_95 s_96 : List UInt8} (ho : Tr.val C 19
(.br (Nat.ble (s_96.length + s_95.length) 4611686018427387904)
(.br (Nat.ble ((s_96 ++ s_95).length + 26) 4611686018427387904)
(.br (Nat.ble (((s_96 ++ s_95) ++ [40,110,32,105,110,116,44,32,119,32,116,101,120,116,44,32,112,32,98,111,111,108,41,32,61,32]).length + s_76.length) 4611686018427387904)
(.br (Nat.ble ((((s_96 ++ s_95) ++ [40,110,32,105,110,116,44,32,119,32,116,101,120,116,44,32,112,32,98,111,111,108,41,32,61,32]) ++ s_76).length + 2) 4611686018427387904)
(.run 0 qL0 (mk0 112 [vv 0 (.vs 1 tg_3 l_4),vt 3 ((((s_96 ++ s_95) ++ [40,110,32,105,110,116,44,32,119,32,116,101,120,116,44,32,112,32,98,111,111,108,41,32,61,32]) ++ s_76) ++ [59,32]),vi 4 x_77,vi 5 (w64 (x_7 + 1))])) .none) .none) .none) .none) = some o) : ML C 19 qL28 4 (mk0 112 [vv 0 (.vs 1 tg_3 l_4),vt 3 s_47,vi 5 x_7,vt 12 s_76,vi 13 x_77,vt 92 s_47,vt 93 s_96,vi 94 x_7,vt 95 s_95]) = some o := stM C 4 (fun _ _ => by kernel_rfl) ho
theorem p19_41 {tg_3 : Bool} {l_4 : List AV} {x_7 x_80 : Int} {s_49 s_79 s_97 s_98 : List UInt8} (ho : Tr.val C 19
(.br (Nat.ble (s_98.length + s_97.length) 4611686018427387904)
(.br (Nat.ble ((s_98 ++ s_97).length + 26) 4611686018427387904)
(.br (Nat.ble (((s_98 ++ s_97) ++ [40,110,32,105,110,116,44,32,119,32,116,101,120,116,44,32,112,32,98,111,111,108,41,32,61,32]).length + s_79.length) 4611686018427387904)
(.br (Nat.ble ((((s_98 ++ s_97) ++ [40,110,32,105,110,116,44,32,119,32,116,101,120,116,44,32,112,32,98,111,111,108,41,32,61,32]) ++ s_79).length + 2) 4611686018427387904)
(.run 0 qL0 (mk0 112 [vv 0 (.vs 1 tg_3 l_4),vt 3 ((((s_98 ++ s_97) ++ [40,110,32,105,110,116,44,32,119,32,116,101,120,116,44,32,112,32,98,111,111,108,41,32,61,32]) ++ s_79) ++ [59,32]),vi 4 x_80,vi 5 (w64 (x_7 + 1))])) .none) .none) .none) .none) = some o) : ML C 19 qL29 4 (mk0 112 [vv 0 (.vs 1 tg_3 l_4),vt 3 s_49,vi 5 x_7,vt 12 s_79,vi 13 x_80,vt 92 s_49,vt 93 s_98,vi 94 x_7,vt 95 s_97]) = some o := stM C 4 (fun _ _ => by kernel_rfl) ho
theorem p19_42 {tg_3 : Bool} {l_4 : List AV} {x_7 x_83 : Int} {s_51 s_82 s_99 s_100 : List UInt8} (ho : Tr.val C 19
(.br (Nat.ble (s_100.length + s_99.length) 4611686018427387904)
(.br (Nat.ble ((s_100 ++ s_99).length + 26) 4611686018427387904)
(.br (Nat.ble (((s_100 ++ s_99) ++ [40,110,32,105,110,116,44,32,119,32,116,101,120,116,44,32,112,32,98,111,111,108,41,32,61,32]).length + s_82.length) 4611686018427387904)
(.br (Nat.ble ((((s_100 ++ s_99) ++ [40,110,32,105,110,116,44,32,119,32,116,101,120,116,44,32,112,32,98,111,111,108,41,32,61,32]) ++ s_82).length + 2) 4611686018427387904)
(.run 0 qL0 (mk0 112 [vv 0 (.vs 1 tg_3 l_4),vt 3 ((((s_100 ++ s_99) ++ [40,110,32,105,110,116,44,32,119,32,116,101,120,116,44,32,112,32,98,111,111,108,41,32,61,32]) ++ s_82) ++ [59,32]),vi 4 x_83,vi 5 (w64 (x_7 + 1))])) .none) .none) .none) .none) = some o) : ML C 19 qL30 4 (mk0 112 [vv 0 (.vs 1 tg_3 l_4),vt 3 s_51,vi 5 x_7,vt 12 s_82,vi 13 x_83,vt 92 s_51,vt 93 s_100,vi 94 x_7,vt 95 s_99]) = some o := stM C 4 (fun _ _ => by kernel_rfl) ho
theorem p19_43 {tg_3 : Bool} {l_4 : List AV} {x_7 x_86 : Int} {s_53 s_85 s_101 s_102 : List UInt8} (ho : Tr.val C 19
(.br (Nat.ble (s_102.length + s_101.length) 4611686018427387904)
(.br (Nat.ble ((s_102 ++ s_101).length + 26) 4611686018427387904)
(.br (Nat.ble (((s_102 ++ s_101) ++ [40,110,32,105,110,116,44,32,119,32,116,101,120,116,44,32,112,32,98,111,111,108,41,32,61,32]).length + s_85.length) 4611686018427387904)
(.br (Nat.ble ((((s_102 ++ s_101) ++ [40,110,32,105,110,116,44,32,119,32,116,101,120,116,44,32,112,32,98,111,111,108,41,32,61,32]) ++ s_85).length + 2) 4611686018427387904)
(.run 0 qL0 (mk0 112 [vv 0 (.vs 1 tg_3 l_4),vt 3 ((((s_102 ++ s_101) ++ [40,110,32,105,110,116,44,32,119,32,116,101,120,116,44,32,112,32,98,111,111,108,41,32,61,32]) ++ s_85) ++ [59,32]),vi 4 x_86,vi 5 (w64 (x_7 + 1))])) .none) .none) .none) .none) = some o) : ML C 19 qL31 4 (mk0 112 [vv 0 (.vs 1 tg_3 l_4),vt 3 s_53,vi 5 x_7,vt 12 s_85,vi 13 x_86,vt 92 s_53,vt 93 s_102,vi 94 x_7,vt 95 s_101]) = some o := stM C 4 (fun _ _ => by kernel_rfl) ho
theorem p19_44 {tg_3 : Bool} {l_4 : List AV} {x_7 x_89 : Int} {s_55 s_88 s_103 s_104 : List UInt8} (ho : Tr.val C 19
(.br (Nat.ble (s_104.length + s_103.length) 4611686018427387904)
(.br (Nat.ble ((s_104 ++ s_103).length + 26) 4611686018427387904)
(.br (Nat.ble (((s_104 ++ s_103) ++ [40,110,32,105,110,116,44,32,119,32,116,101,120,116,44,32,112,32,98,111,111,108,41,32,61,32]).length + s_88.length) 4611686018427387904)
(.br (Nat.ble ((((s_104 ++ s_103) ++ [40,110,32,105,110,116,44,32,119,32,116,101,120,116,44,32,112,32,98,111,111,108,41,32,61,32]) ++ s_88).length + 2) 4611686018427387904)
(.run 0 qL0 (mk0 112 [vv 0 (.vs 1 tg_3 l_4),vt 3 ((((s_104 ++ s_103) ++ [40,110,32,105,110,116,44,32,119,32,116,101,120,116,44,32,112,32,98,111,111,108,41,32,61,32]) ++ s_88) ++ [59,32]),vi 4 x_89,vi 5 (w64 (x_7 + 1))])) .none) .none) .none) .none) = some o) : ML C 19 qL32 4 (mk0 112 [vv 0 (.vs 1 tg_3 l_4),vt 3 s_55,vi 5 x_7,vt 12 s_88,vi 13 x_89,vt 92 s_55,vt 93 s_104,vi 94 x_7,vt 95 s_103]) = some o := stM C 4 (fun _ _ => by kernel_rfl) ho
end Go.Proofs.YtfdklpkfpmkgeaaGreatDoor
end
section
namespace Go.Proofs.YtfdklpkfpmkgeaaGreatDoor
open Go Go.Vai
attribute [local irreducible] goTo zas mkS
variable {C : Nat→Oracle} (hC : Ext C)
include hC
set_option maxHeartbeats 8000000 in
theorem zqv (tg : Bool) (l : List Int) (hl : l.length ≤ 1000000) : ∀ (m : Nat) (i a : Int) (z : List UInt8),(4 - i).toNat = m→0 ≤ i→i ≤ 3→z.length ≤ 300 + i.toNat * 20000 →
  Was (RL C 19 [0,5,0,5,0,5,0,0,5,2,3] (mkS 112 [(0,.val (.vs 1 tg (ints l)) .no),(3,.val (.str z) .no),(4,.val (.int .i64 a) .no),(5,.val (.int .i64 i) .no)] [] Hp.none 0)) (QS 100000):=by
 intro m
 induction m with
 | zero=>intro i a s hm h0 h4; omega
 | succ m IH =>
  intro i a z hm h0 h4 hs
  have w3 : w64 (i + 1) = i + 1 := zaz (by omega) (by omega)
  refine exW (fun o=>p19_1) ?_
  simp only [Tr.val,za7,AV.pure,za1,za0]
  repeat' (first
   | refine .bL (by first | omega | (simp only [List.length_append,List.length_cons,List.length_nil,List.length_drop,List.length_take]; omega)) ?_
   | refine .bT (by omega) ?_
   | refine .bF (by omega) ?_
   | (refine .call (w34 hC _ _ (by omega) _) ?_; rintro o ⟨x,e⟩; simp only [e,AV.pure,za1]; clear e)
   | (refine .call (w22 hC _ _ (by omega) (by omega)) ?_; rintro o ⟨x,e,h1,h2⟩; simp only [e,AV.pure,za1]; clear e)
   | (refine .call (w29 hC _) ?_; rintro o ⟨s,e,h1⟩; simp only [e,AV.pure,za1]; clear e)
   | (refine .call (w41 hC _ _ (by omega) _ _ _) ?_; rintro o ⟨s,x,e,h1⟩; simp only [e,AV.pure,za7,za1]; clear e)
   | (refine exW (fun o=>p19_2) ?_; simp only [Tr.val,za7,AV.pure,za1,AV.cells,za0,za8,Bool.not_true,Bool.not_false,w3])
   | (refine exW (fun o=>p19_3) ?_; simp only [Tr.val,za7,AV.pure,za1,AV.cells,za0,za8,Bool.not_true,Bool.not_false,w3])
   | (refine exW (fun o=>p19_4) ?_; simp only [Tr.val,za7,AV.pure,za1,AV.cells,za0,za8,Bool.not_true,Bool.not_false,w3])
   | (refine exW (fun o=>p19_5) ?_; simp only [Tr.val,za7,AV.pure,za1,AV.cells,za0,za8,Bool.not_true,Bool.not_false,w3])
   | (refine exW (fun o=>p19_6) ?_; simp only [Tr.val,za7,AV.pure,za1,AV.cells,za0,za8,Bool.not_true,Bool.not_false,w3])
   | (refine exW (fun o=>p19_7) ?_; simp only [Tr.val,za7,AV.pure,za1,AV.cells,za0,za8,Bool.not_true,Bool.not_false,w3])
   | (refine exW (fun o=>p19_8) ?_; simp only [Tr.val,za7,AV.pure,za1,AV.cells,za0,za8,Bool.not_true,Bool.not_false,w3])
   | (refine exW (fun o=>p19_9) ?_; simp only [Tr.val,za7,AV.pure,za1,AV.cells,za0,za8,Bool.not_true,Bool.not_false,w3])
   | (refine exW (fun o=>p19_10) ?_; simp only [Tr.val,za7,AV.pure,za1,AV.cells,za0,za8,Bool.not_true,Bool.not_false,w3])
   | (refine exW (fun o=>p19_11) ?_; simp only [Tr.val,za7,AV.pure,za1,AV.cells,za0,za8,Bool.not_true,Bool.not_false,w3])
   | (refine exW (fun o=>p19_12) ?_; simp only [Tr.val,za7,AV.pure,za1,AV.cells,za0,za8,Bool.not_true,Bool.not_false,w3])
   | (refine exW (fun o=>p19_13) ?_; simp only [Tr.val,za7,AV.pure,za1,AV.cells,za0,za8,Bool.not_true,Bool.not_false,w3])
   | (refine exW (fun o=>p19_14) ?_; simp only [Tr.val,za7,AV.pure,za1,AV.cells,za0,za8,Bool.not_true,Bool.not_false,w3])
   | (refine exW (fun o=>p19_15) ?_; simp only [Tr.val,za7,AV.pure,za1,AV.cells,za0,za8,Bool.not_true,Bool.not_false,w3])
   | (refine exW (fun o=>p19_16) ?_; simp only [Tr.val,za7,AV.pure,za1,AV.cells,za0,za8,Bool.not_true,Bool.not_false,w3])
   | (refine exW (fun o=>p19_17) ?_; simp only [Tr.val,za7,AV.pure,za1,AV.cells,za0,za8,Bool.not_true,Bool.not_false,w3])
   | (refine exW (fun o=>p19_18) ?_; simp only [Tr.val,za7,AV.pure,za1,AV.cells,za0,za8,Bool.not_true,Bool.not_false,w3])
   | (refine exW (fun o=>p19_19) ?_; simp only [Tr.val,za7,AV.pure,za1,AV.cells,za0,za8,Bool.not_true,Bool.not_false,w3])
   | (refine exW (fun o=>p19_20) ?_; simp only [Tr.val,za7,AV.pure,za1,AV.cells,za0,za8,Bool.not_true,Bool.not_false,w3])
   | (refine exW (fun o=>p19_21) ?_; simp only [Tr.val,za7,AV.pure,za1,AV.cells,za0,za8,Bool.not_true,Bool.not_false,w3])
   | (refine exW (fun o=>p19_22) ?_; simp only [Tr.val,za7,AV.pure,za1,AV.cells,za0,za8,Bool.not_true,Bool.not_false,w3])
   | (refine exW (fun o=>p19_23) ?_; simp only [Tr.val,za7,AV.pure,za1,AV.cells,za0,za8,Bool.not_true,Bool.not_false,w3])
   | (refine exW (fun o=>p19_24) ?_; simp only [Tr.val,za7,AV.pure,za1,AV.cells,za0,za8,Bool.not_true,Bool.not_false,w3])
   | (refine exW (fun o=>p19_25) ?_; simp only [Tr.val,za7,AV.pure,za1,AV.cells,za0,za8,Bool.not_true,Bool.not_false,w3])
   | (refine exW (fun o=>p19_26) ?_; simp only [Tr.val,za7,AV.pure,za1,AV.cells,za0,za8,Bool.not_true,Bool.not_false,w3])
   | (refine exW (fun o=>p19_27) ?_; simp only [Tr.val,za7,AV.pure,za1,AV.cells,za0,za8,Bool.not_true,Bool.not_false,w3])
   | (refine exW (fun o=>p19_28) ?_; simp only [Tr.val,za7,AV.pure,za1,AV.cells,za0,za8,Bool.not_true,Bool.not_false,w3])
   | (refine exW (fun o=>p19_29) ?_; simp only [Tr.val,za7,AV.pure,za1,AV.cells,za0,za8,Bool.not_true,Bool.not_false,w3])
   | (refine exW (fun o=>p19_30) ?_; simp only [Tr.val,za7,AV.pure,za1,AV.cells,za0,za8,Bool.not_true,Bool.not_false,w3])
   | (refine exW (fun o=>p19_31) ?_; simp only [Tr.val,za7,AV.pure,za1,AV.cells,za0,za8,Bool.not_true,Bool.not_false,w3])
   | (refine exW (fun o=>p19_32) ?_; simp only [Tr.val,za7,AV.pure,za1,AV.cells,za0,za8,Bool.not_true,Bool.not_false,w3])
   | (refine exW (fun o=>p19_33) ?_; simp only [Tr.val,za7,AV.pure,za1,AV.cells,za0,za8,Bool.not_true,Bool.not_false,w3])
   | (refine exW (fun o=>p19_34) ?_; simp only [Tr.val,za7,AV.pure,za1,AV.cells,za0,za8,Bool.not_true,Bool.not_false,w3])
   | (refine exW (fun o=>p19_35) ?_; simp only [Tr.val,za7,AV.pure,za1,AV.cells,za0,za8,Bool.not_true,Bool.not_false,w3])
   | (refine exW (fun o=>p19_36) ?_; simp only [Tr.val,za7,AV.pure,za1,AV.cells,za0,za8,Bool.not_true,Bool.not_false,w3])
   | (refine exW (fun o=>p19_37) ?_; simp only [Tr.val,za7,AV.pure,za1,AV.cells,za0,za8,Bool.not_true,Bool.not_false,w3])
   | (refine exW (fun o=>p19_38) ?_; simp only [Tr.val,za7,AV.pure,za1,AV.cells,za0,za8,Bool.not_true,Bool.not_false,w3])
   | (refine exW (fun o=>p19_39) ?_; simp only [Tr.val,za7,AV.pure,za1,AV.cells,za0,za8,Bool.not_true,Bool.not_false,w3])
   | (refine exW (fun o=>p19_40) ?_; simp only [Tr.val,za7,AV.pure,za1,AV.cells,za0,za8,Bool.not_true,Bool.not_false,w3])
   | (refine exW (fun o=>p19_41) ?_; simp only [Tr.val,za7,AV.pure,za1,AV.cells,za0,za8,Bool.not_true,Bool.not_false,w3])
   | (refine exW (fun o=>p19_42) ?_; simp only [Tr.val,za7,AV.pure,za1,AV.cells,za0,za8,Bool.not_true,Bool.not_false,w3])
   | (refine exW (fun o=>p19_43) ?_; simp only [Tr.val,za7,AV.pure,za1,AV.cells,za0,za8,Bool.not_true,Bool.not_false,w3])
   | (refine exW (fun o=>p19_44) ?_; simp only [Tr.val,za7,AV.pure,za1,AV.cells,za0,za8,Bool.not_true,Bool.not_false,w3])
   | (refine .nth (B := 20) rfl (by simp only [List.length_cons,List.length_nil]; omega) fun s hs=>?_; simp only [AV.cells])
   | exact .mk ⟨_,rfl,by first | omega | (simp only [List.length_append,List.length_cons,List.length_nil,List.length_drop,List.length_take]; omega)⟩
   | refine .dec (fun h=>?_) (fun h=>?_)
   | refine .both (fun h=>?_) (fun h=>?_))
  all_goals exact IH _ _ _ (by omega) (by omega) (by omega) (by first | omega | (simp only [List.length_append,List.length_cons,List.length_nil]; omega))
theorem w19 (tg : Bool) (l : List Int) (hl : l.length ≤ 1000000) : Was (calL C 19 [.vs 1 tg (ints l)] Hp.none 0) (QS 100000):=by
 refine exW (fun o=>p19_c hC) (exW (fun o=>p19_0) ?_)
 exact zqv hC tg l hl _ 0 0 _ rfl (by decide) (by decide) (by decide)
end Go.Proofs.YtfdklpkfpmkgeaaGreatDoor
end
section
namespace Go.Proofs.YtfdklpkfpmkgeaaGreatDoor
open Go Go.Vai
attribute [local irreducible] goTo zas mkS
def QT (o : Out) : Prop := o.v = .bool true
variable {C : Nat→Oracle} (hC : Ext C)
theorem w25_loop (t1 t2 : Bool) (L : List Dg) (hL : L.length ≤ 1000000) : ∀ (r : List Dg) (i : Nat),L.drop i = r→i ≤ L.length →
  Was (RL C 25 [0,5,0,0,5,7,5,0,0,5,2,3] (mkS 41 [(0,.val (.vs 2 t1 (List.map Dg.av L)) .no),(1,.val (.vs 2 t2 (List.map Dg.av L)) .no),(5,.val (.int .i64 (i : Int)) .no)] [] Hp.none 0)) (fun o=>o.v = .bool true):=by
 intro r
 induction r with
 | nil =>
  intro i hi hil
  have := zan _ _ hil hi
  refine exW (fun o=>p25_1) ?_
  simp only [Tr.val,List.length_map,Int.toNat_natCast,zaj,zah,zaf,Option.map_some,Option.bind_some,Fld.av_cs,Par.av_cs,Dg.av_cs,Typ.av_cs,Qry.av_cs,Ex.av_cs,zad,AV.pure,za7,za5,za6,zab,za4,zac,zaa,za3,za2,za0,za1]
  exact .bF (by omega) (.mk rfl)
 | cons d r ih =>
  intro i hi hil
  obtain ⟨h1,h2,h3⟩ := zay _ _ hi
  refine exW (fun o=>p25_1) ?_
  simp only [Tr.val,List.length_map,Int.toNat_natCast,zaj,zah,zaf,Option.map_some,Option.bind_some,Fld.av_cs,Par.av_cs,Dg.av_cs,Typ.av_cs,Qry.av_cs,Ex.av_cs,zad,AV.pure,za7,za5,za6,zab,za4,zac,zaa,za3,za2,za0,za1,h1]
  refine .bT (by omega) (.bT (by omega) (.bT (by omega) ?_))
  refine exW (fun o=>p25_2) ?_
  simp only [Tr.val,List.length_map,Int.toNat_natCast,zaj,zah,zaf,Option.map_some,Option.bind_some,Fld.av_cs,Par.av_cs,Dg.av_cs,Typ.av_cs,Qry.av_cs,Ex.av_cs,zad,AV.pure,za7,za5,za6,zab,za4,zac,zaa,za3,za2,za0,za1,h1]
  refine .bT (by omega) (.bT (by omega) ?_)
  refine exW (fun o=>p25_3) ?_
  simp only [Tr.val,List.length_map,Int.toNat_natCast,zaj,zah,zaf,Option.map_some,Option.bind_some,Fld.av_cs,Par.av_cs,Dg.av_cs,Typ.av_cs,Qry.av_cs,Ex.av_cs,zad,AV.pure,za7,za5,za6,zab,za4,zac,zaa,za3,za2,za0,za1,h1]
  refine .brf (by simp) (.bT (by omega) (.bT (by omega) ?_))
  refine exW (fun o=>p25_4) ?_
  simp only [Tr.val,List.length_map,Int.toNat_natCast,zaj,zah,zaf,Option.map_some,Option.bind_some,Fld.av_cs,Par.av_cs,Dg.av_cs,Typ.av_cs,Qry.av_cs,Ex.av_cs,zad,AV.pure,za7,za5,za6,zab,za4,zac,zaa,za3,za2,za0,za1,h1]
  refine .bT (by omega) (.bT (by omega) ?_)
  refine exW (fun o=>p25_5) ?_
  simp only [Tr.val,List.length_map,Int.toNat_natCast,zaj,zah,zaf,Option.map_some,Option.bind_some,Fld.av_cs,Par.av_cs,Dg.av_cs,Typ.av_cs,Qry.av_cs,Ex.av_cs,zad,AV.pure,za7,za5,za6,zab,za4,zac,zaa,za3,za2,za0,za1,h1]
  refine .brf (by simp) ?_
  rw [wi64 h3 hL]
  exact ih (i + 1) h2 (by omega)
include hC
theorem w25 (t1 t2 : Bool) (L : List Dg) (hL : L.length ≤ 1000000) : Was (calL C 25 [.vs 2 t1 (L.map Dg.av),.vs 2 t2 (L.map Dg.av)] Hp.none 0) (fun o=>o.v = .bool true):=by
 refine exW (fun o=>p25_c hC) ?_
 refine exW (fun o=>p25_0) ?_
 simp only [Tr.val,List.length_map,Int.toNat_natCast,zaj,zah,zaf,Option.map_some,Option.bind_some,Fld.av_cs,Par.av_cs,Dg.av_cs,Typ.av_cs,Qry.av_cs,Ex.av_cs,zad,AV.pure,za7,za5,za6,zab,za4,zac,zaa,za3,za2,za0,za1]
 refine .brf (by simp) ?_
 exact w25_loop t1 t2 L hL L 0 rfl (Nat.zero_le _)
theorem w20w (src : List UInt8) : Was (calL C 20 [.str src] Hp.none 0) (fun o=>∃ tg ts x e,o.v = .tuple [.agg [.vs 6 tg (ts.map Typ.av)],.int .i64 x,.int .i64 e]∧TsOk ts∧∀ t ∈ ts,TWf t):=by
 by_cases hl : src.length ≤ 4000
 ·obtain ⟨f,r,h⟩ := pa_tot hl
  refine ⟨_,l20 hC hl h,?_⟩
  simp only [paO]
  split
  ·exact ⟨r.1.1,r.1.2,0,0,rfl,pa_ok hl h,pa_wf hl h⟩
  ·exact ⟨true,[],_,_,rfl,⟨Nat.zero_le _,fun t ht=>by cases ht⟩,fun t ht=>by cases ht⟩
 ·exact ⟨_,l20_long hC hl,true,[],0,3,rfl,⟨Nat.zero_le _,fun t ht=>by cases ht⟩,fun t ht=>by cases ht⟩
theorem w15w (tg : Bool) (l : List Int) (hl : l.length ≤ 1000000) (b : Bool) : Was (calL C 15 [.vs 1 tg (ints l),.bool b] Hp.none 0) (fun o=>∃ tg ts c,o.v = .tuple [.agg [.vs 6 tg (ts.map Typ.av)],.bool c]∧TsOk ts∧∀ t ∈ ts,TWf t):=by
 refine exW (fun o=>p15_c hC) (exW (fun o=>p15_0) ?_)
 simp only [Tr.val,za7,AV.pure,za0,za1]
 refine .call (w18 hC tg l hl) ?_
 rintro o ⟨s,e,hs⟩
 simp only [e,AV.pure,za1]
 clear e
 refine exW (fun o=>p15_1) ?_
 simp only [Tr.val,za7,AV.pure,za0,za1]
 cases b
 ·simp only [zam]
  refine .call (w20w hC s) ?_
  rintro o ⟨tg',ts,x,e',e,hts⟩
  simp only [e,AV.pure,za7,za2,za1]
  refine exW (fun o=>p15_3) ?_
  exact .mk ⟨_,_,_,rfl,hts⟩
 ·simp only [za1]
  refine .call (w19 hC tg l hl) ?_
  rintro o ⟨s',e,hs'⟩
  simp only [e,AV.pure,za1]
  clear e
  refine exW (fun o=>p15_2) ?_
  simp only [Tr.val,za7,AV.pure,za1]
  refine .call (w20w hC s') ?_
  rintro o ⟨tg',ts,x,e',e,hts⟩
  simp only [e,AV.pure,za7,za2,za1]
  refine exW (fun o=>p15_4) ?_
  exact .mk ⟨_,_,_,rfl,hts⟩
abbrev p7A : List Nat := [0,5,0,0,5,7,5,0,5,0,0,5,2,3]
abbrev p7B : List Nat := [0,5,0,0,5,7,5,0,5,0,0,5,2,3,0,0,5,6,5,0,2,0,5,0,5,2,3]
abbrev p7C : List Nat := [0,5,0,0,5,7,5,0,5,0,0,5,2,3,0,0,5,6,5,0,2,0,5,0,5,2,3,0,0,5,6,5,0,2,0,5,2,3]
abbrev s7A (c : Bool) (tg : Bool) (L : List Typ) (i : Int) : St := mkS 99 [(5,.lp 5 0),(6,.val (.bool c) .no),(7,.val (.int .i64 i) .no)] [(5,⟨[(.vs 6 tg (List.map Typ.av L))],[]⟩)] Hp.none 0
abbrev s7B (c : Bool) (tg : Bool) (L : List Typ) (i : Int) (t : Typ) (k : Int) : St := mkS 99 [(5,.lp 5 0),(6,.val (.bool c) .no),(7,.val (.int .i64 i) .no),(8,.lp 8 0),(9,.val (.int .i64 k) .no)] [(5,⟨[(.vs 6 tg (List.map Typ.av L))],[]⟩),(8,⟨(Typ.cs t),[]⟩)] Hp.none 0
abbrev s7C (c : Bool) (tg : Bool) (L : List Typ) (i : Int) (t : Typ) (k n : Int) : St := mkS 99 [(5,.lp 5 0),(6,.val (.bool c) .no),(7,.val (.int .i64 i) .no),(8,.lp 8 0),(9,.val (.int .i64 k) .no),(10,.val (.int .i64 n) .no)] [(5,⟨[(.vs 6 tg (List.map Typ.av L))],[]⟩),(8,⟨(Typ.cs t),[]⟩)] Hp.none 0
theorem zrg (c : Bool) (tg : Bool) (L : List Typ) (i : Int) (t : Typ) (ht : TOk t) (hw : TWf t) (k : Nat) (y : Qry) (hy : t.qrys[k]? = some y) (n : Int) (hn : n = 0 ∨ n = 1)
  (go : Was (RL C 7 p7C (s7C c tg L i t (k : Int) (n + 1))) QT) : Was (RL C 7 p7C (s7C c tg L i t (k : Int) n)) QT:=by
 have h3 : k < t.qrys.length := (List.getElem?_eq_some_iff.1 hy).1
 have hm := List.mem_of_getElem? hy
 have htot := ht.tot
 unfold Typ.tot at htot
 obtain ⟨q1,q2,q3⟩ := hw.qrys y hm
 have hF : t.fields.length ≤ 1000000 := by omega
 have hlen := zei ⟨t,y.tgP,y.params,decide (n = 0)⟩ y.res
 refine exW (fun o=>p7_7) ?_
 simp only [Tr.val,List.length_map,Int.toNat_natCast,zaj,zah,zaf,Option.map_some,Option.bind_some,Fld.av_cs,Par.av_cs,Dg.av_cs,Typ.av_cs,Qry.av_cs,Ex.av_cs,zad,hy]
 refine .bT (by omega) (.bT (by omega) (.bT (by omega) ?_))
 refine exW (fun o=>p7_8) ?_
 simp only [Tr.val,List.length_map,Int.toNat_natCast,zaj,zah,zaf,Option.map_some,Option.bind_some,Fld.av_cs,Par.av_cs,Dg.av_cs,Typ.av_cs,Qry.av_cs,Ex.av_cs,zad,hy]
 refine .bT (by omega) (.bT (by omega) ?_)
 refine exW (fun o=>p7_9) ?_
 simp only [Tr.val,List.length_map,Int.toNat_natCast,zaj,zah,zaf,Option.map_some,Option.bind_some,Fld.av_cs,Par.av_cs,Dg.av_cs,Typ.av_cs,Qry.av_cs,Ex.av_cs,zad,AV.pure,za7,za5,za6,zab,za4,zac,zaa,za3,za2,za0,za1]
 refine .call (w23 hC t hF y.tgP y.params (by omega) y.res _ q1 (by omega)) ?_
 rintro o ⟨tg1,e⟩
 simp only [AV.pure,za7,za5,za6,zab,za4,zac,zaa,za3,za2,za0,za1,e]
 clear e
 refine exW (fun o=>p7_10) ?_
 simp only [Tr.val,List.length_map,Int.toNat_natCast,zaj,zah,zaf,Option.map_some,Option.bind_some,Fld.av_cs,Par.av_cs,Dg.av_cs,Typ.av_cs,Qry.av_cs,Ex.av_cs,zad,hy]
 simp only [AV.pure,za7,za5,za6,zab,za4,zac,zaa,za3,za2,za0,za1]
 refine .bT (by omega) (.bT (by omega) ?_)
 refine exW (fun o=>p7_11) ?_
 simp only [Tr.val,List.length_map,Int.toNat_natCast,zaj,zah,zaf,Option.map_some,Option.bind_some,Fld.av_cs,Par.av_cs,Dg.av_cs,Typ.av_cs,Qry.av_cs,Ex.av_cs,zad,hy]
 refine .bT (by omega) (.bT (by omega) ?_)
 refine exW (fun o=>p7_12) ?_
 simp only [Tr.val,List.length_map,Int.toNat_natCast,zaj,zah,zaf,Option.map_some,Option.bind_some,Fld.av_cs,Par.av_cs,Dg.av_cs,Typ.av_cs,Qry.av_cs,Ex.av_cs,zad,AV.pure,za7,za5,za6,zab,za4,zac,zaa,za3,za2,za0,za1]
 refine .call (w24 hC ⟨t,y.tgP,y.params,decide (n = 0)⟩ hF hw.flds (by show y.params.length ≤ _; omega) y.res q1 (by omega)) ?_
 rintro o ⟨tg2,e⟩
 simp only [AV.pure,za7,za5,za6,zab,za4,zac,zaa,za3,za2,za0,za1,e]
 clear e
 refine exW (fun o=>p7_13) ?_
 simp only [Tr.val]
 simp only [AV.pure,za7,za5,za6,zab,za4,zac,zaa,za3,za2,za0,za1]
 refine .brf (by simp) ?_
 refine .call (w25 hC _ _ _ (by omega)) ?_
 rintro o e
 simp only [AV.pure,za7,za5,za6,zab,za4,zac,zaa,za3,za2,za0,za1,e]
 clear e
 refine exW (fun o=>p7_14) ?_
 simp only [Tr.val,Bool.not_true,zam]
 rw [zaz (by omega) (by omega)]
 exact go
theorem w7_qrys (c : Bool) (tg : Bool) (L : List Typ) (i : Nat) (hi : i < L.length) (hL : L.length ≤ 1000000) (t : Typ) (ht : TOk t) (hw : TWf t) (go : Was (RL C 7 p7A (s7A c tg L ((i + 1 : Nat) : Int))) QT) : ∀ (r : List Qry) (k : Nat),t.qrys.drop k = r→k ≤ t.qrys.length →
  Was (RL C 7 p7B (s7B c tg L (i : Int) t (k : Int))) QT:=by
 have htot := ht.tot
 unfold Typ.tot at htot
 intro r
 induction r with
 | nil =>
  intro k hk hkl
  have := zan _ _ hkl hk
  refine exW (fun o=>p7_6) ?_
  simp only [Tr.val,List.length_map,Int.toNat_natCast,zaj,zah,zaf,Option.map_some,Option.bind_some,Fld.av_cs,Par.av_cs,Dg.av_cs,Typ.av_cs,Qry.av_cs,Ex.av_cs,zad,AV.pure,za7,za5,za6,zab,za4,zac,zaa,za3,za2,za0,za1]
  refine .bF (by omega) ?_
  rw [wi64 hi hL]
  exact go
 | cons y r ih =>
  intro k hk hkl
  obtain ⟨h1,h2,h3⟩ := zay _ _ hk
  refine exW (fun o=>p7_6) ?_
  simp only [Tr.val,List.length_map,Int.toNat_natCast,zaj,zah,zaf,Option.map_some,Option.bind_some,Fld.av_cs,Par.av_cs,Dg.av_cs,Typ.av_cs,Qry.av_cs,Ex.av_cs,zad,AV.pure,za7,za5,za6,zab,za4,zac,zaa,za3,za2,za0,za1]
  refine .bT (by omega) ?_
  refine zrg hC c tg L i t ht hw k y h1 0 (.inl rfl) ?_
  refine zrg hC c tg L i t ht hw k y h1 1 (.inr rfl) ?_
  refine exW (fun o=>p7_7) ?_
  simp only [Tr.val,List.length_map,Int.toNat_natCast,zaj,zah,zaf,Option.map_some,Option.bind_some,Fld.av_cs,Par.av_cs,Dg.av_cs,Typ.av_cs,Qry.av_cs,Ex.av_cs,zad,AV.pure,za7,za5,za6,zab,za4,zac,zaa,za3,za2,za0,za1]
  refine .bF (by decide) ?_
  rw [wi64 h3 (by omega)]
  exact ih (k + 1) h2 (by omega)
theorem w7_typs (haw : Was (calL C 14 [] Hp.none 0) QT) (tg : Bool) (L : List Typ) (hts : TsOk L) (hwf : ∀ t ∈ L,TWf t) (c : Bool) : ∀ (r : List Typ) (i : Nat),L.drop i = r→i ≤ L.length →
  Was (RL C 7 p7A (s7A c tg L (i : Int))) QT:=by
 have hL := hts.1
 intro r
 induction r with
 | nil =>
  intro i hi hil
  have := zan _ _ hil hi
  refine exW (fun o=>p7_3) ?_
  simp only [Tr.val,List.length_map,Int.toNat_natCast,zaj,zah,zaf,Option.map_some,Option.bind_some,Fld.av_cs,Par.av_cs,Dg.av_cs,Typ.av_cs,Qry.av_cs,Ex.av_cs,zad,AV.pure,za7,za5,za6,zab,za4,zac,zaa,za3,za2,za0,za1]
  cases c
  ·simp only [zam]
   refine .call haw ?_
   rintro o e
   unfold QT at e
   simp only [AV.pure,za7,za5,za6,zab,za4,zac,zaa,za3,za2,za0,za1,e]
   refine exW (fun o=>p7_5) ?_
   exact .mk rfl
  ·simp only [za1]
   refine .bF (by omega) ?_
   refine .call haw ?_
   rintro o e
   unfold QT at e
   simp only [AV.pure,za7,za5,za6,zab,za4,zac,zaa,za3,za2,za0,za1,e]
   refine exW (fun o=>p7_5) ?_
   exact .mk rfl
 | cons t r ih =>
  intro i hi hil
  obtain ⟨h1,h2,h3⟩ := zay _ _ hi
  have hm := List.mem_of_getElem? h1
  refine exW (fun o=>p7_3) ?_
  simp only [Tr.val,List.length_map,Int.toNat_natCast,zaj,zah,zaf,Option.map_some,Option.bind_some,Fld.av_cs,Par.av_cs,Dg.av_cs,Typ.av_cs,Qry.av_cs,Ex.av_cs,zad,AV.pure,za7,za5,za6,zab,za4,zac,zaa,za3,za2,za0,za1,h1]
  cases c
  ·simp only [zam]
   refine .call haw ?_
   rintro o e
   unfold QT at e
   simp only [AV.pure,za7,za5,za6,zab,za4,zac,zaa,za3,za2,za0,za1,e]
   refine exW (fun o=>p7_5) ?_
   exact .mk rfl
  ·simp only [za1]
   refine .bT (by omega) (.bT (by omega) (.bT (by omega) ?_))
   refine exW (fun o=>p7_4) ?_
   simp only [Tr.val,List.length_map,Int.toNat_natCast,zaj,zah,zaf,Option.map_some,Option.bind_some,Fld.av_cs,Par.av_cs,Dg.av_cs,Typ.av_cs,Qry.av_cs,Ex.av_cs,zad,AV.pure,za7,za5,za6,zab,za4,zac,zaa,za3,za2,za0,za1]
   exact w7_qrys hC true tg L i h3 (by omega) t (hts.2 t hm) (hwf t hm) (ih (i + 1) h2 (by omega)) t.qrys 0 rfl (Nat.zero_le _)
theorem w7 (haw : Was (calL C 14 [] Hp.none 0) QT) (tg : Bool) (l : List Int) (b : Bool) : Was (calL C 7 [.vs 1 tg (ints l),.bool b] Hp.none 0) QT:=by
 refine exW (fun o=>p7_c hC) (exW (fun o=>p7_0) ?_)
 simp only [Tr.val,za8]
 simp only [AV.pure,za7,za5,za6,zab,za4,zac,zaa,za3,za2,za0,za1]
 refine .dec (fun h=>?_) fun h=>?_
 ·refine .call haw ?_
  rintro o e1
  unfold QT at e1
  simp only [AV.pure,za7,za5,za6,zab,za4,zac,zaa,za3,za2,za0,za1,e1]
  refine exW (fun o=>p7_1) ?_
  exact .mk rfl
 ·refine .call (w15w hC tg l (by omega) b) ?_
  rintro o ⟨tg',ts,c,e,hts,hwf⟩
  simp only [AV.pure,za7,za5,za6,zab,za4,zac,zaa,za3,za2,za0,za1,e]
  refine exW (fun o=>p7_2) ?_
  exact w7_typs hC haw tg' ts hts hwf c ts 0 rfl (Nat.zero_le _)
end Go.Proofs.YtfdklpkfpmkgeaaGreatDoor
end
