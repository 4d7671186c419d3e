/- Stage laws,printed by gen_p.py. -/
import Derived.Test.YtfdklpkfpmkgeaaGreatDoorM5
import Derived.Test.YtfdklpkfpmkgeaaGreatDoorM8
set_option linter.unusedSimpArgs false
set_option linter.unusedVariables false
set_option linter.unusedSectionVars false
set_option linter.unnecessarySimpa false
section
namespace Go.Proofs.YtfdklpkfpmkgeaaGreatDoor
open Go Go.Vai
attribute [local irreducible] goTo zas mkS
variable {C : Nat → Oracle} {o : Out}
abbrev cF0 : AV := (.vs 1 true [(.str [105,110,116]),(.str [116,101,120,116]),(.str [98,111,111,108])])
abbrev cF1 : AV := (.vs 1 true [(.str [97]),(.str [98]),(.str [99]),(.str [111,119,110,101,114]),(.str [116,97,103,115]),(.str [110]),(.str [116,111,116,97,108]),(.str [120,49])])
abbrev qF0 : List Nat := [0,5,0,5,0,0,5,2,3]
abbrev qF1 : List Nat := [0,5,0,0,5,7,5,0]
abbrev qF2 : List Nat := [0,5,0,5,0,0,5,2,3,0,0,5,6,5,0,2,0,0,5,6,5]
abbrev qF3 : List Nat := [0,5,0,5,0,0,5,2,3,0,0,5,6,5,0,2,0,0,5,7,5]
theorem p22_c (hC : Ext C) {x_1 x_2 : Int} (ho : RL C 22 [] (mk0 14 [vi 0 x_1,vi 1 x_2]) = some o) : calL C 22 [(i6 x_1),(i6 x_2)] Hp.none 0 = some o := hC.call rfl (fun _ _ => by kernel_rfl) ho
theorem p22_0 {x_1 x_2 : Int} (ho : Tr.val C 22
(.br (decide (x_2 < 1))
(rt (i6 0))
(.br (decide (x_2 = 0)) .none
(.br (decide (x_2 = 0)) .none
(rt (i6 (Int.tmod (w64 ((Int.tmod x_1 x_2) + x_2)) x_2)))))) = some o) : RL C 22 [] (mk0 14 [vi 0 x_1,vi 1 x_2]) = some o := stR C 10 (fun _ _ => by kernel_rfl) ho
theorem p34_c (hC : Ext C) {tg_3 : Bool} {l_4 : List AV} {x_5 : Int} (ho : RL C 34 [] (mk0 15 [vv 0 (.vs 1 tg_3 l_4),vi 1 x_5]) = some o) : calL C 34 [(.vs 1 tg_3 l_4),(i6 x_5)] Hp.none 0 = some o := hC.call rfl (fun _ _ => by kernel_rfl) ho
theorem p34_0 {tg_3 : Bool} {l_4 : List AV} {x_5 : Int} (ho : Tr.val C 34
(.br (decide ((l_4.length : Int) = 0))
(rt (i6 0))
(cl0 22 [(i6 x_5),(i6 (l_4.length : Int))] fun r1 => .br (AV.pure r1.v)
(.mid 0 qF1 5 (mk0 15 [vv 0 (.vs 1 tg_3 l_4),vi 1 x_5,vb 7 false,vv 8 (.vs 1 tg_3 l_4),vi 9 x_5,vv 10 (.vs 1 tg_3 l_4),vi 11 (l_4.length : Int),vv 12 r1.v])) .none)) = some o) : RL C 34 [] (mk0 15 [vv 0 (.vs 1 tg_3 l_4),vi 1 x_5]) = some o := stR C 9 (fun _ _ => by kernel_rfl) ho
theorem p34_1 {tg_3 : Bool} {l_4 : List AV} {x_5 x_6 x_7 : Int} (ho : Tr.val C 34
(ix l_4 x_6 fun c2 =>
(.mid 0 qF1 6 (mk0 15 [vv 0 (.vs 1 tg_3 l_4),vi 1 x_5,vb 7 false,vv 8 (.vs 1 tg_3 l_4),vi 9 x_5,vv 10 (.vs 1 tg_3 l_4),vi 11 x_7,vi 12 x_6,vv 13 (.cptr (AV.cells c2))]))) = some o) : ML C 34 qF1 5 (mk0 15 [vv 0 (.vs 1 tg_3 l_4),vi 1 x_5,vb 7 false,vv 8 (.vs 1 tg_3 l_4),vi 9 x_5,vv 10 (.vs 1 tg_3 l_4),vi 11 x_7,vi 12 x_6]) = some o := stM C 0 (fun _ _ => by kernel_rfl) ho
theorem p34_2 {tg_3 : Bool} {l_4 : List AV} {x_5 x_6 x_7 x_8 : Int} (ho : Tr.val C 34
(rt (i6 x_8)) = some o) : ML C 34 qF1 6 (mk0 15 [vv 0 (.vs 1 tg_3 l_4),vi 1 x_5,vb 7 false,vv 8 (.vs 1 tg_3 l_4),vi 9 x_5,vv 10 (.vs 1 tg_3 l_4),vi 11 x_7,vi 12 x_6,vv 13 (.cptr [(i6 x_8)])]) = some o := stM C 1 (fun _ _ => by kernel_rfl) ho
theorem p77_c (hC : Ext C) {x_9 x_10 x_11 : Int} (ho : RL C 77 [] (mk0 22 [vi 0 x_9,vi 1 x_10,vi 2 x_11]) = some o) : calL C 77 [(i6 x_9),(i6 x_10),(i6 x_11)] Hp.none 0 = some o := hC.call rfl (fun _ _ => by kernel_rfl) ho
theorem p77_0 {x_9 x_10 x_11 : Int} (ho : Tr.val C 77
(cl0 22 [(i6 x_9),(i6 1099511627776)] fun r1 => .br (AV.pure r1.v)
(.mid 0 [0,5,0] 2 (mk0 22 [vi 0 x_9,vi 1 x_10,vi 2 x_11,vi 9 x_9,vv 10 r1.v])) .none) = some o) : RL C 77 [] (mk0 22 [vi 0 x_9,vi 1 x_10,vi 2 x_11]) = some o := stR C 4 (fun _ _ => by kernel_rfl) ho
theorem p77_1 {x_9 x_10 x_11 x_12 : Int} (ho : Tr.val C 77
(.run 0 qF0 (mk0 22 [vi 1 x_10,vi 2 x_11,vi 7 x_12,vi 8 0])) = some o) : ML C 77 [0,5,0] 2 (mk0 22 [vi 0 x_9,vi 1 x_10,vi 2 x_11,vi 9 x_9,vi 10 x_12]) = some o := stM C 5 (fun _ _ => by kernel_rfl) ho
theorem p77_2 {x_13 x_14 x_15 x_16 : Int} (ho : Tr.val C 77
(.br (decide (x_16 < x_14))
(.br (decide (x_13 = 0)) .none
(.run 0 qF0 (mk0 22 [vi 1 x_13,vi 2 x_14,vi 7 (w64 (Int.tdiv x_15 x_13)),vi 8 (w64 (x_16 + 1))])))
(.br (decide (x_13 = 0)) .none
(rt (i6 (Int.tmod x_15 x_13))))) = some o) : RL C 77 qF0 (mk0 22 [vi 1 x_13,vi 2 x_14,vi 7 x_15,vi 8 x_16]) = some o := stR C 11 (fun _ _ => by kernel_rfl) ho
theorem p29_c (hC : Ext C) {x_17 : Int} (ho : RL C 29 [] (mk0 15 [vi 0 x_17]) = some o) : calL C 29 [(i6 x_17)] Hp.none 0 = some o := hC.call rfl (fun _ _ => by kernel_rfl) ho
theorem p29_0 {x_17 : Int} (ho : Tr.val C 29
(.br (decide (x_17 < 0))
(cl0 67 [(.int .u64 (IntKind.wrap IntKind.u64 ((IntKind.wrap IntKind.u64 (w64 (0 - (w64 (x_17 + 1))))) + 1)))] fun r1 => .br (AV.pure r1.v)
(.mid 1 [0,5,0,0,5,6,0] 6 (mk0 15 [vi 0 x_17,vb 4 true,vi 5 x_17,vi 6 (w64 (x_17 + 1)),vi 7 (w64 (0 - (w64 (x_17 + 1)))),vv 8 (.int .u64 (IntKind.wrap IntKind.u64 (w64 (0 - (w64 (x_17 + 1)))))),vv 9 (.int .u64 (IntKind.wrap IntKind.u64 ((IntKind.wrap IntKind.u64 (w64 (0 - (w64 (x_17 + 1))))) + 1))),vv 10 r1.v])) .none)
(cl0 67 [(.int .u64 (IntKind.wrap IntKind.u64 x_17))] fun r2 => .br (AV.pure r2.v)
(.mid 0 qF1 3 (mk0 15 [vi 0 x_17,vb 4 false,vi 12 x_17,vv 13 (.int .u64 (IntKind.wrap IntKind.u64 x_17)),vv 14 r2.v])) .none)) = some o) : RL C 29 [] (mk0 15 [vi 0 x_17]) = some o := stR C 9 (fun _ _ => by kernel_rfl) ho
theorem p29_1 {x_17 x_19 x_20 x_21 x_22 : Int} {s_18 : List UInt8} (ho : Tr.val C 29
(.br (Nat.ble (1 + s_18.length) 4611686018427387904)
(rt (.str ([45] ++ s_18))) .none) = some o) : ML C 29 [0,5,0,0,5,6,0] 6 (mk0 15 [vi 0 x_17,vb 4 true,vi 5 x_17,vi 6 x_19,vi 7 x_20,vv 8 (.int .u64 x_21),vv 9 (.int .u64 x_22),vt 10 s_18]) = some o := stM C 1 (fun _ _ => by kernel_rfl) ho
theorem p29_2 {x_17 x_24 : Int} {s_23 : List UInt8} (ho : Tr.val C 29
(rt (.str s_23)) = some o) : ML C 29 qF1 3 (mk0 15 [vi 0 x_17,vb 4 false,vi 12 x_17,vv 13 (.int .u64 x_24),vt 14 s_23]) = some o := stM C 1 (fun _ _ => by kernel_rfl) ho
theorem p67_c (hC : Ext C) {x_25 : Int} (ho : RL C 67 [] (mk0 20 [vv 0 (.int .u64 x_25)]) = some o) : calL C 67 [(.int .u64 x_25)] Hp.none 0 = some o := hC.call rfl (fun _ _ => by kernel_rfl) ho
theorem p67_0 {x_25 : Int} (ho : Tr.val C 67
(.br (decide (x_25 < 10))
(.bind (zcm [(.int .u8 (IntKind.wrap IntKind.u8 (IntKind.wrap IntKind.u64 (48 + x_25))))]) fun s1 =>
(rt (.str s1)))
(cl0 67 [(.int .u64 (IntKind.wrap IntKind.u64 (Int.tdiv x_25 10)))] fun r2 => .br (AV.pure r2.v)
(.br (AV.pure r2.v)
(.mid 0 qF1 3 (mk0 20 [vv 0 (.int .u64 x_25),vb 4 false,vv 10 (.int .u64 x_25),vv 11 (.int .u64 (IntKind.wrap IntKind.u64 (Int.tdiv x_25 10))),vv 12 r2.v])) .none) .none)) = some o) : RL C 67 [] (mk0 20 [vv 0 (.int .u64 x_25)]) = some o := stR C 9 (fun _ _ => by kernel_rfl) ho
theorem p67_1 {x_25 x_27 : Int} {s_26 : List UInt8} (ho : Tr.val C 67
(.bind (zcm [(.int .u8 (IntKind.wrap IntKind.u8 (IntKind.wrap IntKind.u64 (48 + (Int.tmod x_25 10)))))]) fun s3 =>
(.br (Nat.ble (s_26.length + s3.length) 4611686018427387904)
(rt (.str (s_26 ++ s3))) .none)) = some o) : ML C 67 qF1 3 (mk0 20 [vv 0 (.int .u64 x_25),vb 4 false,vv 10 (.int .u64 x_25),vv 11 (.int .u64 x_27),vt 12 s_26]) = some o := stM C 1 (fun _ _ => by kernel_rfl) ho
theorem p78_c (hC : Ext C) {s_28 : List UInt8} (ho : RL C 78 [] (mk0 35 [vt 0 s_28]) = some o) : calL C 78 [(.str s_28)] Hp.none 0 = some o := hC.call rfl (fun _ _ => by kernel_rfl) ho
theorem p78_0 {s_28 : List UInt8} (ho : Tr.val C 78
(.run 0 qF0 (mk0 35 [vt 0 s_28,vv 3 (.vs 1 true [(.int .u8 34)]),vi 4 0])) = some o) : RL C 78 [] (mk0 35 [vt 0 s_28]) = some o := stR C 9 (fun _ _ => by kernel_rfl) ho
theorem p78_1 {s_29 : List UInt8} {tg_30 : Bool} {l_31 : List AV} {x_32 : Int} (ho : Tr.val C 78
(.br (decide (x_32 < (s_29.length : Int)))
(.br (decide ((0 : Int) ≤ x_32))
(.bind (s_29[(Int.toNat x_32)]?) fun b1 =>
(.br (decide (((b1.toNat : Nat) : Int) = 34))
(.br tg_30
(.br (Nat.ble ((l_31.length + 1) * 1) za9)
(.br (Nat.ble (l_31.length + 1) za9)
(.br (decide ((0 : Int) ≤ x_32))
(.bind (s_29[(Int.toNat x_32)]?) fun b2 =>
(.br (Nat.ble (((List.length (l_31 ++ [(.int .u8 92)])) + 1) * 1) za9)
(.br (Nat.ble ((List.length (l_31 ++ [(.int .u8 92)])) + 1) za9)
(.run 0 qF0 (mk0 35 [vt 0 s_29,(3,.val (.vs 1 false ((l_31 ++ [(.int .u8 92)]) ++ [(.int .u8 ((b2.toNat : Nat) : Int))])) .own),vi 4 (w64 (x_32 + 1))])) .none) .none)) .none) .none) .none) .none)
(.br (decide ((0 : Int) ≤ x_32))
(.bind (s_29[(Int.toNat x_32)]?) fun b3 =>
(.br (decide (((b3.toNat : Nat) : Int) = 92))
(.br tg_30
(.br (Nat.ble ((l_31.length + 1) * 1) za9)
(.br (Nat.ble (l_31.length + 1) za9)
(.br (decide ((0 : Int) ≤ x_32))
(.bind (s_29[(Int.toNat x_32)]?) fun b4 =>
(.br (Nat.ble (((List.length (l_31 ++ [(.int .u8 92)])) + 1) * 1) za9)
(.br (Nat.ble ((List.length (l_31 ++ [(.int .u8 92)])) + 1) za9)
(.run 0 qF0 (mk0 35 [vt 0 s_29,(3,.val (.vs 1 false ((l_31 ++ [(.int .u8 92)]) ++ [(.int .u8 ((b4.toNat : Nat) : Int))])) .own),vi 4 (w64 (x_32 + 1))])) .none) .none)) .none) .none) .none) .none)
(.br (decide ((0 : Int) ≤ x_32))
(.bind (s_29[(Int.toNat x_32)]?) fun b5 =>
(.br tg_30
(.br (Nat.ble ((l_31.length + 1) * 1) za9)
(.br (Nat.ble (l_31.length + 1) za9)
(.run 0 qF0 (mk0 35 [vt 0 s_29,(3,.val (.vs 1 false (l_31 ++ [(.int .u8 ((b5.toNat : Nat) : Int))])) .own),vi 4 (w64 (x_32 + 1))])) .none) .none) .none)) .none))) .none))) .none)
(.br tg_30
(.br (Nat.ble ((l_31.length + 1) * 1) za9)
(.br (Nat.ble (l_31.length + 1) za9)
(.bind (zcm (l_31 ++ [(.int .u8 34)])) fun s6 =>
(rt (.str s6))) .none) .none) .none)) = some o) : RL C 78 qF0 (mk0 35 [vt 0 s_29,vv 3 (.vs 1 tg_30 l_31),vi 4 x_32]) = some o := stR C 16 (fun _ _ => by kernel_rfl) ho
theorem p78_2 {s_33 : List UInt8} {tg_34 : Bool} {l_35 : List AV} {x_36 : Int} (ho : Tr.val C 78
(.br (decide (x_36 < (s_33.length : Int)))
(.br (decide ((0 : Int) ≤ x_36))
(.bind (s_33[(Int.toNat x_36)]?) fun b7 =>
(.br (decide (((b7.toNat : Nat) : Int) = 34))
(.br (Nat.ble ((l_35.length + 1) * 1) za9)
(.br (Nat.ble (l_35.length + 1) za9)
(.br (decide ((0 : Int) ≤ x_36))
(.bind (s_33[(Int.toNat x_36)]?) fun b8 =>
(.br (Nat.ble (((List.length (l_35 ++ [(.int .u8 92)])) + 1) * 1) za9)
(.br (Nat.ble ((List.length (l_35 ++ [(.int .u8 92)])) + 1) za9)
(.run 0 qF0 (mk0 35 [vt 0 s_33,(3,.val (.vs 1 false ((l_35 ++ [(.int .u8 92)]) ++ [(.int .u8 ((b8.toNat : Nat) : Int))])) .own),vi 4 (w64 (x_36 + 1))])) .none) .none)) .none) .none) .none)
(.br (decide ((0 : Int) ≤ x_36))
(.bind (s_33[(Int.toNat x_36)]?) fun b9 =>
(.br (decide (((b9.toNat : Nat) : Int) = 92))
(.br (Nat.ble ((l_35.length + 1) * 1) za9)
(.br (Nat.ble (l_35.length + 1) za9)
(.br (decide ((0 : Int) ≤ x_36))
(.bind (s_33[(Int.toNat x_36)]?) fun b10 =>
(.br (Nat.ble (((List.length (l_35 ++ [(.int .u8 92)])) + 1) * 1) za9)
(.br (Nat.ble ((List.length (l_35 ++ [(.int .u8 92)])) + 1) za9)
(.run 0 qF0 (mk0 35 [vt 0 s_33,(3,.val (.vs 1 false ((l_35 ++ [(.int .u8 92)]) ++ [(.int .u8 ((b10.toNat : Nat) : Int))])) .own),vi 4 (w64 (x_36 + 1))])) .none) .none)) .none) .none) .none)
(.br (decide ((0 : Int) ≤ x_36))
(.bind (s_33[(Int.toNat x_36)]?) fun b11 =>
(.br (Nat.ble ((l_35.length + 1) * 1) za9)
(.br (Nat.ble (l_35.length + 1) za9)
(.run 0 qF0 (mk0 35 [vt 0 s_33,(3,.val (.vs 1 false (l_35 ++ [(.int .u8 ((b11.toNat : Nat) : Int))])) .own),vi 4 (w64 (x_36 + 1))])) .none) .none)) .none))) .none))) .none)
(.br (Nat.ble ((l_35.length + 1) * 1) za9)
(.br (Nat.ble (l_35.length + 1) za9)
(.bind (zcm (l_35 ++ [(.int .u8 34)])) fun s12 =>
(rt (.str s12))) .none) .none)) = some o) : RL C 78 qF0 (mk0 35 [vt 0 s_33,(3,.val (.vs 1 tg_34 l_35) .own),vi 4 x_36]) = some o := stR C 16 (fun _ _ => by kernel_rfl) ho
theorem p37_c (hC : Ext C) {x_37 : Int} (ho : RL C 37 [] (mk0 8 [vi 0 x_37]) = some o) : calL C 37 [(i6 x_37)] Hp.none 0 = some o := hC.call rfl (fun _ _ => by kernel_rfl) ho
theorem p37_0 {x_37 : Int} (ho : Tr.val C 37
(cl0 22 [(i6 x_37),(i6 8)] fun r1 => .br (AV.pure r1.v)
(.mid 0 [0,5,0] 3 (mkS 8 [vi 0 x_37,vv 3 cF1,vi 4 x_37,vv 5 r1.v] [] Hp.none 0)) .none) = some o) : RL C 37 [] (mk0 8 [vi 0 x_37]) = some o := stR C 4 (fun _ _ => by kernel_rfl) ho
theorem p37_1 {x_37 x_38 : Int} (ho : Tr.val C 37
(ixl 8 [(.str [97]),(.str [98]),(.str [99]),(.str [111,119,110,101,114]),(.str [116,97,103,115]),(.str [110]),(.str [116,111,116,97,108]),(.str [120,49])] x_38 fun c2 =>
(.mid 0 [0,5,0] 4 (mkS 8 [vi 0 x_37,vv 3 cF1,vi 4 x_37,vi 5 x_38,vv 6 (.cptr (AV.cells c2))] [] Hp.none 0))) = some o) : ML C 37 [0,5,0] 3 (mkS 8 [vi 0 x_37,vv 3 cF1,vi 4 x_37,vi 5 x_38] [] Hp.none 0) = some o := stM C 0 (fun _ _ => by kernel_rfl) ho
theorem p37_2 {x_37 x_38 : Int} {s_39 : List UInt8} (ho : Tr.val C 37
(rt (.str s_39)) = some o) : ML C 37 [0,5,0] 4 (mkS 8 [vi 0 x_37,vv 3 cF1,vi 4 x_37,vi 5 x_38,vv 6 (.cptr [(.str s_39)])] [] Hp.none 0) = some o := stM C 1 (fun _ _ => by kernel_rfl) ho
theorem p39_c (hC : Ext C) {x_40 : Int} (ho : RL C 39 [] (mk0 33 [vi 0 x_40]) = some o) : calL C 39 [(i6 x_40)] Hp.none 0 = some o := hC.call rfl (fun _ _ => by kernel_rfl) ho
theorem p39_0 {x_40 : Int} (ho : Tr.val C 39
(.run 0 qF0 (mk0 33 [vi 0 x_40,vt 3 [40],vi 4 0])) = some o) : RL C 39 [] (mk0 33 [vi 0 x_40]) = some o := stR C 9 (fun _ _ => by kernel_rfl) ho
theorem p39_1 {x_41 x_43 : Int} {s_42 : List UInt8} (ho : Tr.val C 39
(cl0 77 [(i6 x_41),(i6 4),(i6 0)] fun r1 => .br (AV.pure r1.v)
(.mid 0 [0,5,0,5,0,0,5,2,3,0,0] 3 (mk0 33 [vi 0 x_41,vt 3 s_42,vi 4 x_43,vi 5 x_43,vi 6 x_41,vv 7 r1.v])) .none) = some o) : RL C 39 qF0 (mk0 33 [vi 0 x_41,vt 3 s_42,vi 4 x_43]) = some o := stR C 3 (fun _ _ => by kernel_rfl) ho
theorem p39_2 {x_41 x_43 x_44 : Int} {s_42 : List UInt8} (ho : Tr.val C 39
(.br (decide (x_43 < x_44))
(.br (decide (0 < x_43))
(.br (Nat.ble (s_42.length + 2) 4611686018427387904)
(cl0 77 [(i6 x_41),(i6 8),(i6 (w64 (2 + x_43)))] fun r2 => .br (AV.pure r2.v)
(.mid 0 qF2 5 (mk0 33 [vi 0 x_41,vt 3 (s_42 ++ [44,32]),vi 4 x_43,vt 15 (s_42 ++ [44,32]),vi 16 x_41,vi 17 x_43,vi 18 (w64 (2 + x_43)),vv 19 r2.v])) .none) .none)
(cl0 77 [(i6 x_41),(i6 8),(i6 (w64 (2 + x_43)))] fun r3 => .br (AV.pure r3.v)
(.mid 0 qF3 5 (mk0 33 [vi 0 x_41,vt 3 s_42,vi 4 x_43,vb 12 false,vt 15 s_42,vi 16 x_41,vi 17 x_43,vi 18 (w64 (2 + x_43)),vv 19 r3.v])) .none))
(.br (Nat.ble (s_42.length + 1) 4611686018427387904)
(rt (.str (s_42 ++ [41]))) .none)) = some o) : ML C 39 [0,5,0,5,0,0,5,2,3,0,0] 3 (mk0 33 [vi 0 x_41,vt 3 s_42,vi 4 x_43,vi 5 x_43,vi 6 x_41,vi 7 x_44]) = some o := stM C 10 (fun _ _ => by kernel_rfl) ho
theorem p39_3 {x_41 x_43 x_45 x_47 : Int} {s_46 : List UInt8} (ho : Tr.val C 39
(cl0 37 [(i6 x_45)] fun r4 => .br (AV.pure r4.v)
(.mid 0 qF2 6 (mk0 33 [vi 0 x_41,vt 3 s_46,vi 4 x_43,vt 15 s_46,vi 16 x_41,vi 17 x_43,vi 18 x_47,vi 19 x_45,vv 20 r4.v])) .none) = some o) : ML C 39 qF2 5 (mk0 33 [vi 0 x_41,vt 3 s_46,vi 4 x_43,vt 15 s_46,vi 16 x_41,vi 17 x_43,vi 18 x_47,vi 19 x_45]) = some o := stM C 0 (fun _ _ => by kernel_rfl) ho
theorem p39_4 {x_41 x_43 x_48 x_49 : Int} {s_42 : List UInt8} (ho : Tr.val C 39
(cl0 37 [(i6 x_48)] fun r5 => .br (AV.pure r5.v)
(.mid 0 qF3 6 (mk0 33 [vi 0 x_41,vt 3 s_42,vi 4 x_43,vb 12 false,vt 15 s_42,vi 16 x_41,vi 17 x_43,vi 18 x_49,vi 19 x_48,vv 20 r5.v])) .none) = some o) : ML C 39 qF3 5 (mk0 33 [vi 0 x_41,vt 3 s_42,vi 4 x_43,vb 12 false,vt 15 s_42,vi 16 x_41,vi 17 x_43,vi 18 x_49,vi 19 x_48]) = some o := stM C 0 (fun _ _ => by kernel_rfl) ho
theorem p39_5 {x_41 x_43 x_45 x_47 : Int} {s_46 s_50 : List UInt8} (ho : Tr.val C 39
(.br (Nat.ble (s_46.length + s_50.length) 4611686018427387904)
(.br (Nat.ble ((s_46 ++ s_50).length + 1) 4611686018427387904)
(cl0 77 [(i6 x_41),(i6 3),(i6 (w64 (6 + x_43)))] fun r6 => .br (AV.pure r6.v)
(.mid 0 qF2 13 (mkS 33 [vi 0 x_41,vt 3 s_46,vi 4 x_43,vt 15 s_46,vi 16 x_41,vi 17 x_43,vi 18 x_47,vi 19 x_45,vt 20 s_50,vt 21 (s_46 ++ s_50),vt 22 ((s_46 ++ s_50) ++ [32]),vv 23 cF0,vi 24 x_41,vi 25 x_43,vi 26 (w64 (6 + x_43)),vv 27 r6.v] [] Hp.none 0)) .none) .none) .none) = some o) : ML C 39 qF2 6 (mk0 33 [vi 0 x_41,vt 3 s_46,vi 4 x_43,vt 15 s_46,vi 16 x_41,vi 17 x_43,vi 18 x_47,vi 19 x_45,vt 20 s_50]) = some o := stM C 0 (fun _ _ => by kernel_rfl) ho
theorem p39_6 {x_41 x_43 x_48 x_49 : Int} {s_42 s_51 : List UInt8} (ho : Tr.val C 39
(.br (Nat.ble (s_42.length + s_51.length) 4611686018427387904)
(.br (Nat.ble ((s_42 ++ s_51).length + 1) 4611686018427387904)
(cl0 77 [(i6 x_41),(i6 3),(i6 (w64 (6 + x_43)))] fun r7 => .br (AV.pure r7.v)
(.mid 0 qF3 13 (mkS 33 [vi 0 x_41,vt 3 s_42,vi 4 x_43,vb 12 false,vt 15 s_42,vi 16 x_41,vi 17 x_43,vi 18 x_49,vi 19 x_48,vt 20 s_51,vt 21 (s_42 ++ s_51),vt 22 ((s_42 ++ s_51) ++ [32]),vv 23 cF0,vi 24 x_41,vi 25 x_43,vi 26 (w64 (6 + x_43)),vv 27 r7.v] [] Hp.none 0)) .none) .none) .none) = some o) : ML C 39 qF3 6 (mk0 33 [vi 0 x_41,vt 3 s_42,vi 4 x_43,vb 12 false,vt 15 s_42,vi 16 x_41,vi 17 x_43,vi 18 x_49,vi 19 x_48,vt 20 s_51]) = some o := stM C 0 (fun _ _ => by kernel_rfl) ho
theorem p39_7 {x_41 x_43 x_45 x_47 x_52 x_55 : Int} {s_46 s_50 s_53 s_54 : List UInt8} (ho : Tr.val C 39
(ixl 3 [(.str [105,110,116]),(.str [116,101,120,116]),(.str [98,111,111,108])] x_52 fun c8 =>
(.mid 0 qF2 14 (mkS 33 [vi 0 x_41,vt 3 s_46,vi 4 x_43,vt 15 s_46,vi 16 x_41,vi 17 x_43,vi 18 x_47,vi 19 x_45,vt 20 s_50,vt 21 s_53,vt 22 s_54,vv 23 cF0,vi 24 x_41,vi 25 x_43,vi 26 x_55,vi 27 x_52,vv 28 (.cptr (AV.cells c8))] [] Hp.none 0))) = some o) : ML C 39 qF2 13 (mkS 33 [vi 0 x_41,vt 3 s_46,vi 4 x_43,vt 15 s_46,vi 16 x_41,vi 17 x_43,vi 18 x_47,vi 19 x_45,vt 20 s_50,vt 21 s_53,vt 22 s_54,vv 23 cF0,vi 24 x_41,vi 25 x_43,vi 26 x_55,vi 27 x_52] [] Hp.none 0) = some o := stM C 0 (fun _ _ => by kernel_rfl) ho
theorem p39_8 {x_41 x_43 x_48 x_49 x_56 x_59 : Int} {s_42 s_51 s_57 s_58 : List UInt8} (ho : Tr.val C 39
(ixl 3 [(.str [105,110,116]),(.str [116,101,120,116]),(.str [98,111,111,108])] x_56 fun c9 =>
(.mid 0 qF3 14 (mkS 33 [vi 0 x_41,vt 3 s_42,vi 4 x_43,vb 12 false,vt 15 s_42,vi 16 x_41,vi 17 x_43,vi 18 x_49,vi 19 x_48,vt 20 s_51,vt 21 s_57,vt 22 s_58,vv 23 cF0,vi 24 x_41,vi 25 x_43,vi 26 x_59,vi 27 x_56,vv 28 (.cptr (AV.cells c9))] [] Hp.none 0))) = some o) : ML C 39 qF3 13 (mkS 33 [vi 0 x_41,vt 3 s_42,vi 4 x_43,vb 12 false,vt 15 s_42,vi 16 x_41,vi 17 x_43,vi 18 x_49,vi 19 x_48,vt 20 s_51,vt 21 s_57,vt 22 s_58,vv 23 cF0,vi 24 x_41,vi 25 x_43,vi 26 x_59,vi 27 x_56] [] Hp.none 0) = some o := stM C 0 (fun _ _ => by kernel_rfl) ho
theorem p39_9 {x_41 x_43 x_45 x_47 x_52 x_55 : Int} {s_46 s_50 s_53 s_54 s_60 : List UInt8} (ho : Tr.val C 39
(.br (Nat.ble (s_54.length + s_60.length) 4611686018427387904)
(.run 0 qF0 (mk0 33 [vi 0 x_41,vt 3 (s_54 ++ s_60),vi 4 (w64 (x_43 + 1))])) .none) = some o) : ML C 39 qF2 14 (mkS 33 [vi 0 x_41,vt 3 s_46,vi 4 x_43,vt 15 s_46,vi 16 x_41,vi 17 x_43,vi 18 x_47,vi 19 x_45,vt 20 s_50,vt 21 s_53,vt 22 s_54,vv 23 cF0,vi 24 x_41,vi 25 x_43,vi 26 x_55,vi 27 x_52,vv 28 (.cptr [(.str s_60)])] [] Hp.none 0) = some o := stM C 3 (fun _ _ => by kernel_rfl) ho
theorem p39_10 {x_41 x_43 x_48 x_49 x_56 x_59 : Int} {s_42 s_51 s_57 s_58 s_61 : List UInt8} (ho : Tr.val C 39
(.br (Nat.ble (s_58.length + s_61.length) 4611686018427387904)
(.run 0 qF0 (mk0 33 [vi 0 x_41,vt 3 (s_58 ++ s_61),vi 4 (w64 (x_43 + 1))])) .none) = some o) : ML C 39 qF3 14 (mkS 33 [vi 0 x_41,vt 3 s_42,vi 4 x_43,vb 12 false,vt 15 s_42,vi 16 x_41,vi 17 x_43,vi 18 x_49,vi 19 x_48,vt 20 s_51,vt 21 s_57,vt 22 s_58,vv 23 cF0,vi 24 x_41,vi 25 x_43,vi 26 x_59,vi 27 x_56,vv 28 (.cptr [(.str s_61)])] [] Hp.none 0) = some o := stM C 3 (fun _ _ => by kernel_rfl) ho
end Go.Proofs.YtfdklpkfpmkgeaaGreatDoor
end
section
namespace Go.Proofs.YtfdklpkfpmkgeaaGreatDoor
open Go Go.Vai
attribute [local irreducible] goTo zas mkS
def Was (x : Option Out) (Q : Out→Prop) : Prop := ∃ o,x = some o∧Q o
theorem exW {x y : Option Out} {Q : Out→Prop} (h : ∀ o,y = some o→x = some o) (e : Was y Q) : Was x Q:=by
 obtain ⟨o,h1,h2⟩ := e
 exact ⟨o,h o h1,h2⟩
theorem Was.mk {o : Out} {Q : Out→Prop} (h : Q o) : Was (some o) Q := ⟨o,rfl,h⟩
theorem Was.brn {c : Bool} {x y : Option Out} {Q : Out→Prop} (h : c = true) (e : Was x Q) : Was (Vai.br c x y) Q := by rw [br_t h]; exact e
theorem Was.brf {c : Bool} {x y : Option Out} {Q : Out→Prop} (h : c = false) (e : Was y Q) : Was (Vai.br c x y) Q := by rw [br_f h]; exact e
theorem Was.bT {p : Prop} [Decidable p] {x y : Option Out} {Q : Out→Prop} (h : p) (e : Was x Q) : Was (Vai.br (decide p) x y) Q := .brn (decide_eq_true h) e
theorem Was.bF {p : Prop} [Decidable p] {x y : Option Out} {Q : Out→Prop} (h : ¬ p) (e : Was y Q) : Was (Vai.br (decide p) x y) Q := .brf (decide_eq_false h) e
theorem Was.bL {a b : Nat} {x y : Option Out} {Q : Out→Prop} (h : a ≤ b) (e : Was x Q) : Was (Vai.br (Nat.ble a b) x y) Q := .brn (ble_t h) e
theorem Was.dec {p : Prop} [Decidable p] {x y : Option Out} {Q : Out→Prop} (h1 : p→Was x Q) (h2 : ¬ p→Was y Q) : Was (Vai.br (decide p) x y) Q:=by
 by_cases h : p
 ·exact .bT h (h1 h)
 ·exact .bF h (h2 h)
theorem Was.both {c : Bool} {x y : Option Out} {Q : Out→Prop} (h1 : c = true→Was x Q) (h2 : c = false→Was y Q) : Was (Vai.br c x y) Q:=by
 cases h : c
 ·exact h2 h
 ·exact h1 h
theorem Was.call {x : Option Out} {K : Out→Option Out} {Q1 Q : Out→Prop} (h : Was x Q1) (hK : ∀ o,Q1 o→Was (K o) Q) : Was (x.bind K) Q:=by
 obtain ⟨o,h1,h2⟩ := h
 rw [h1]
 exact hK o h2
theorem Was.imp {x : Option Out} {Q1 Q : Out→Prop} (h : Was x Q1) (hK : ∀ o,Q1 o→Q o) : Was x Q:=by
 obtain ⟨o,h1,h2⟩ := h
 exact ⟨o,h1,hK o h2⟩
def zpf (B : Nat) : List AV→Bool
 | []=>true
 | .str s :: l=>Nat.ble s.length B && zpf B l
 | _=>false
theorem zkd {B : Nat} : ∀ {l : List AV} {i : Nat},zpf B l = true→i < l.length→∃ s,nth l i = some (.str s)∧s.length ≤ B
 | [],i,_,h=>by simp at h
 | a :: l,i,hl,h=>by
  cases a with
  | str s =>
   unfold zpf at hl
   rw [Bool.and_eq_true] at hl
   cases i with
   | zero=>exact ⟨s,rfl,by have := hl.1; rw [Nat.ble_eq] at this; exact this⟩
   | succ i =>
    have := zkd (l := l) (i := i) hl.2 (by simpa using h)
    exact this
  | _=>cases hl
theorem Was.nth {B : Nat} {l : List AV} {i : Int} {K : AV→Option Out} {Q : Out→Prop} (hl : zpf B l = true) (h1 : i.toNat < l.length) (hK : ∀ s,s.length ≤ B→Was (K (.str s)) Q) : Was ((Vai.nth l i.toNat).bind K) Q:=by
 obtain ⟨s,h2,h3⟩ := zkd hl h1
 rw [h2]
 exact hK s h3
def ints (l : List Int) : List AV := l.map (AV.int .i64)
theorem za0 (l : List Int) : za7 (ints l) = true:=by
 induction l with
 | nil=>rfl
 | cons x l ih=>show za7 (AV.int .i64 x :: ints l) = true; rw [zbs,ih]; rfl
def QS (B : Nat) (o : Out) : Prop := ∃ s,o.v = .str s∧s.length ≤ B
def QI (k : Int) (o : Out) : Prop := ∃ x,o.v = .int .i64 x∧0 ≤ x∧x < k
def QA (o : Out) : Prop := ∃ x,o.v = .int .i64 x
def QP (B : Nat) (o : Out) : Prop := ∃ s x,o.v = .tuple [.str s,.int .i64 x]∧s.length ≤ B
variable {C : Nat→Oracle} (hC : Ext C)
include hC
theorem w22 (n k : Int) (h : 1 ≤ k) (h2 : k ≤ 1152921504606846976) : Was (calL C 22 [.int .i64 n,.int .i64 k] Hp.none 0) (QI k):=by
 refine exW (fun o=>p22_c hC) (exW (fun o=>p22_0) ?_)
 simp only [Tr.val]
 refine .bF (by omega) (.bF (by omega) (.bF (by omega) (.mk ⟨_,rfl,?_⟩)))
 have h3 := Int.tmod_lt_of_pos n (show 0 < k by omega)
 have h4 : -k < Int.tmod n k := by have := Int.lt_tmod_of_pos n (show 0 < k by omega); omega
 rw [zaz (by omega) (by omega)]
 exact ⟨Int.tmod_nonneg _ (by omega),Int.tmod_lt_of_pos _ (by omega)⟩
theorem w34 (tg : Bool) (l : List Int) (hl : l.length ≤ 1000000) (i : Int) : Was (calL C 34 [.vs 1 tg (ints l),.int .i64 i] Hp.none 0) QA:=by
 refine exW (fun o=>p34_c hC) (exW (fun o=>p34_0) ?_)
 have hlen : (ints l).length = l.length := List.length_map _
 simp only [Tr.val,za7,AV.pure,za1,hlen]
 refine .dec (fun h=>.mk ⟨_,rfl⟩) fun h=>?_
 refine .call (w22 hC _ _ (by omega) (by omega)) ?_
 rintro o ⟨x,e,h1,h2⟩
 simp only [e,AV.pure,za1]
 refine exW (fun o=>p34_1) ?_
 simp only [Tr.val,hlen]
 refine .bT h1 (.bT h2 ?_)
 have : nth (ints l) x.toNat = some (.int .i64 (l[x.toNat]'(by omega))):=by
  rw [zcl]
  unfold ints
  rw [List.getElem?_map,List.getElem?_eq_getElem (by omega)]
  rfl
 rw [this]
 simp only [Option.bind_some,AV.cells]
 refine exW (fun o=>p34_2) ?_
 exact .mk ⟨_,rfl⟩
theorem w37 (n : Int) : Was (calL C 37 [.int .i64 n] Hp.none 0) (QS 5):=by
 refine exW (fun o=>p37_c hC) (exW (fun o=>p37_0) ?_)
 simp only [Tr.val,za7,AV.pure,za1]
 refine .call (w22 hC _ _ (by omega) (by omega)) ?_
 rintro o ⟨x,e,h1,h2⟩
 simp only [e,AV.pure,za1]
 refine exW (fun o=>p37_1) ?_
 simp only [Tr.val]
 refine .bT h1 (.bT h2 (.nth (B := 5) rfl (by simp only [List.length_cons,List.length_nil]; omega) fun s hs=>?_))
 simp only [AV.cells]
 refine exW (fun o=>p37_2) ?_
 exact .mk ⟨_,rfl,hs⟩
end Go.Proofs.YtfdklpkfpmkgeaaGreatDoor
end
section
namespace Go.Proofs.YtfdklpkfpmkgeaaGreatDoor
open Go Go.Vai
def Ex.kind : Ex→Int | .mk k _ _ _ _ _=>k
def Ex.n : Ex→Int | .mk _ n _ _ _ _=>n
def Ex.s : Ex→List UInt8 | .mk _ _ s _ _ _=>s
def Ex.tg : Ex→Bool | .mk _ _ _ t _ _=>t
def Ex.l : Ex→List Ex | .mk _ _ _ _ l _=>l
def Ex.at_ : Ex→Int | .mk _ _ _ _ _ a=>a
def Ex.cs (e : Ex) : List AV := [.int .i64 e.kind,.int .i64 e.n,.str e.s,.vs 5 e.tg (exs e.l),.int .i64 e.at_]
theorem Ex.av_cs (e : Ex) : e.av = .agg e.cs := by cases e; rfl
def Par.cs (x : Par) : List AV := [.str x.name,.int .i64 x.type,.int .i64 x.at_]
theorem Par.av_cs (x : Par) : x.av = .agg x.cs := rfl
def Fld.cs (x : Fld) : List AV := [.str x.name,.int .i64 x.kind,.int .i64 x.type,.int .i64 x.at_]
theorem Fld.av_cs (x : Fld) : x.av = .agg x.cs := rfl
def Qry.cs (y : Qry) : List AV := [.str y.name,.vs 3 y.tgP (y.params.map Par.av),.int .i64 y.res.kind,.int .i64 y.res.n,.str y.res.s,.vs 5 y.res.tg (exs y.res.l),.int .i64 y.res.at_,.int .i64 y.at_]
theorem Qry.av_cs (y : Qry) : y.av = .agg y.cs := by obtain ⟨n,tg,ps,⟨k,m,s,t,l,q⟩,a⟩ := y; rfl
theorem Typ.av_cs (t : Typ) : t.av = .agg t.cs := rfl
structure Sc where
 t : Typ
 tg : Bool
 ps : List Par
 q : Bool
def Sc.cs (x : Sc) : List AV := [.str x.t.name,.vs 4 x.t.tgF (x.t.fields.map Fld.av),.vs 4 x.t.tgO (x.t.ops.map Opn.av),.vs 8 x.t.tgQ (x.t.qrys.map Qry.av),.vs 2 x.t.tgI (x.t.idxs.map Idx.av),.int .i64 x.t.at_,.vs 3 x.tg (x.ps.map Par.av),.bool x.q]
structure Dg where
 at_ : Int
 err : Int
def Dg.cs (d : Dg) : List AV := [.int .i64 d.at_,.int .i64 d.err]
def Dg.av (d : Dg) : AV := .agg d.cs
theorem Dg.av_cs (x : Dg) : x.av = .agg x.cs := rfl
def mkSM (n : Nat) (l : List (Nat × Slot)) (L : List (Nat × Blk)) (H : Hp) (nx : Nat) (M : List (Nat × List (AV × AV))) : St := { mkS n l L H nx with M := M }
theorem zaf (l : List Ex) : (exs l).length = l.length := by rw [zol,List.length_map]
theorem za6 (e : Ex) : za7 e.cs = true := by have := zsr e; rw [e.av_cs] at this; exact this
theorem za5 (w : Sc) : za7 w.cs = true:=by
 have := zab w.t
 simp only [Typ.cs,za7,AV.pure] at this
 simp only [Sc.cs,za7,AV.pure,za4,zct _ (fun x : Fld=>(rfl : x.av.pure = true)),zct _ zpc,zct _ zp9,zct _ (fun x : Idx=>(rfl : x.av.pure = true))]
theorem zac (l : List Dg) : za7 (l.map Dg.av) = true := zct _ (fun _=>rfl) l
theorem zad (l : List AV) : AV.cells (.agg l) = l := rfl
theorem zaj {α : Type} (f : α→AV) (l : List α) (i : Nat) : nth (l.map f) i = l[i]?.map f := by rw [zcl,List.getElem?_map]
theorem zah (l : List Ex) (i : Nat) : nth (exs l) i = l[i]?.map Ex.av := by rw [zol,zaj]
end Go.Proofs.YtfdklpkfpmkgeaaGreatDoor
end
section
namespace Go.Proofs.YtfdklpkfpmkgeaaGreatDoor
open Go Go.Vai
attribute [local irreducible] goTo zas mkS
variable {C : Nat → Oracle} {o : Out}
abbrev qN0 : List Nat := [0,5,0,0,5,2,3,0,5,0,6,5,0,2,0]
abbrev qN1 : List Nat := [0,5,0,0,5,7,5,0,5,0,5,0,0,5,0,5,6,0]
abbrev qN2 : List Nat := [0,5,0,0,5,2,0,5,7,0,5,7,0,5,7,0,5,7,0,5,7,5,5,0,0,5,0,5,7,5,0,0,5,7,5,0,5,0,5,0,0,5,2,3]
abbrev qN3 : List Nat := [0,5,0,0,5,7,5,0,5,0,5,0,0]
abbrev qN4 : List Nat := [0,5,0,0,5,7,5,0,5,0,5,0,0,5,0,5,7,5,0]
abbrev qN5 : List Nat := [0,5,0,0,5,7,5,0,5,0,5,0,0,5,0,5,6,0,5,0,5,6,5,0]
abbrev qN6 : List Nat := [0,5,0,0,5,7,5,0,5,0,5,0,0,5,0,5,6,0,5,0,5,7,5,0]
abbrev qN7 : List Nat := [0,5,0,0,5,2,0,5,7,0,5,7,0,5,7,0,5,7,0,5,7,5,5,0,0,5,0,5,6,0]
abbrev qN8 : List Nat := [0,5,0,0,5,2,0,5,7,0,5,7,0,5,7,0,5,7,0,5,7,5,5,0,0,5,0,5,7,5,0,0,5,6,0]
abbrev qN9 : List Nat := [0,5,0,0,5,2,3,0,5,0,7,5,5,5,5,0,5,0,0,5,6,0]
abbrev qN10 : List Nat := [0,5,0,0,5,2,3,0,5,0,7,5,5,5,5,0,5,0,0,5,7,5,0,0,5,2,0,5,7,0,0,5,7,5,7,0,5,7,5,5,0]
abbrev qN11 : List Nat := [0,5,0,0,5,2,0,5,7,0,5,7,0,5,7,0,5,7,0,5,6,0]
abbrev qN12 : List Nat := [0,5,0,0,5,2,0,5,7,0,5,7,0,5,7,0,5,7,0,5,7,5,5,0,0,5,0,5,7,5,0,0,5,7,5,0,5,0,5,0,0,5,2,3,0,5,0,6,5,0,2,0]
abbrev qN13 : List Nat := [0,5,0,0,5,2,0,5,7,0,5,7,0,5,7,0,5,7,0,5,7,5,5,0,0,5,0,5,7,5,0,0,5,7,5,0,5,0,5,0,0,5,2,3,0,5,0,7,5,5,5,5,0,0,5,7,5,0,0]
abbrev qN14 : List Nat := [0,5,0,0,5,2,0,5,7,0,5,7,0,5,7,0,5,7,0,5,7,5,5,0,0,5,0,5,7,5,0,0,5,7,5,0,5,0,5,0,0,5,2,3,0,5,0,6,5,0,2,0,5,0]
abbrev qN15 : List Nat := [0,5,0,0,5,2,0,5,7,0,5,7,0,5,7,0,5,7,0,5,7,5,5,0,0,5,0,5,7,5,0,0,5,7,5,0,5,0,5,0,0,5,2,3,0,5,0,7,5,5,5,5,0,0,5,7,5,0,0,5,0,5,7,5,0]
theorem p94_c (hC : Ext C) {t_1 : Typ} {s_2 : List UInt8} (ho : RL C 94 [] (mk0 22 [vv 0 (.agg (Typ.cs t_1)),vt 1 s_2]) = some o) : calL C 94 [(.agg (Typ.cs t_1)),(.str s_2)] Hp.none 0 = some o := hC.call rfl (fun _ _ => by kernel_rfl) ho
theorem p94_0 {t_1 : Typ} {s_2 : List UInt8} (ho : Tr.val C 94
(.run 0 [0,5,0,0,5,2,3] (mkS 22 [vt 1 s_2,(4,.lp 4 0),vv 9 (.vs 4 t_1.tgF (t_1.fields.map Fld.av)),vi 10 ((t_1.fields.map Fld.av).length : Int),vi 11 0] [(4,⟨[(.str []),(i6 0),(i6 0),(i6 0)],[]⟩)] Hp.none 0)) = some o) : RL C 94 [] (mk0 22 [vv 0 (.agg (Typ.cs t_1)),vt 1 s_2]) = some o := stR C 7 (fun _ _ => by kernel_rfl) ho
theorem p94_1 {s_3 s_8 : List UInt8} {tg_4 : Bool} {l_5 : List Fld} {x_6 x_7 x_9 x_10 x_11 : Int} (ho : Tr.val C 94
(.br (decide (x_7 < x_6))
(ix (l_5.map Fld.av) x_7 fun c1 =>
(.mid 0 qN0 1 (mkS 22 [vt 1 s_3,(4,.lp 4 0),vv 9 (.vs 4 tg_4 (l_5.map Fld.av)),vi 10 x_6,vi 11 x_7,vb 12 true,vv 13 (.cptr (AV.cells c1))] [(4,⟨[(.str s_8),(i6 x_9),(i6 x_10),(i6 x_11)],[]⟩)] Hp.none 0)))
(rt (.tuple [(.agg [(.str []),(i6 0),(i6 0),(i6 0)]),(.bool false)]))) = some o) : RL C 94 [0,5,0,0,5,2,3] (mkS 22 [vt 1 s_3,(4,.lp 4 0),vv 9 (.vs 4 tg_4 (l_5.map Fld.av)),vi 10 x_6,vi 11 x_7] [(4,⟨[(.str s_8),(i6 x_9),(i6 x_10),(i6 x_11)],[]⟩)] Hp.none 0) = some o := stR C 9 (fun _ _ => by kernel_rfl) ho
theorem p94_2 {s_3 s_8 : List UInt8} {tg_4 : Bool} {l_5 : List Fld} {x_6 x_7 x_9 x_10 x_11 : Int} {f_12 : Fld} (ho : Tr.val C 94
(.br (eqS f_12.name s_3)
(rt (.tuple [(.agg (Fld.cs f_12)),(.bool true)]))
(.run 0 [0,5,0,0,5,2,3] (mkS 22 [vt 1 s_3,(4,.lp 4 0),vv 9 (.vs 4 tg_4 (l_5.map Fld.av)),vi 10 x_6,vi 11 (w64 (x_7 + 1))] [(4,⟨[(.str s_8),(i6 x_9),(i6 x_10),(i6 x_11)],[]⟩)] Hp.none 0))) = some o) : ML C 94 qN0 1 (mkS 22 [vt 1 s_3,(4,.lp 4 0),vv 9 (.vs 4 tg_4 (l_5.map Fld.av)),vi 10 x_6,vi 11 x_7,vb 12 true,vv 13 (.cptr (Fld.cs f_12))] [(4,⟨[(.str s_8),(i6 x_9),(i6 x_10),(i6 x_11)],[]⟩)] Hp.none 0) = some o := stM C 7 (fun _ _ => by kernel_rfl) ho
theorem p99_c (hC : Ext C) {e_13 : Ex} {x_14 : Int} (ho : RL C 99 [] (mk0 11 [vv 0 (.agg (Ex.cs e_13)),vi 1 x_14]) = some o) : calL C 99 [(.agg (Ex.cs e_13)),(i6 x_14)] Hp.none 0 = some o := hC.call rfl (fun _ _ => by kernel_rfl) ho
theorem p99_0 {e_13 : Ex} {x_14 : Int} (ho : Tr.val C 99
(rt (.tuple [(i6 0),(.vs 2 true [(.agg [(i6 e_13.at_),(i6 x_14)])])])) = some o) : RL C 99 [] (mk0 11 [vv 0 (.agg (Ex.cs e_13)),vi 1 x_14]) = some o := stR C 5 (fun _ _ => by kernel_rfl) ho
theorem p101_c (hC : Ext C) {s_15 : List UInt8} {tg_16 : Bool} {l_17 : List AV} (ho : RL C 101 [] (mk0 59 [vt 0 s_15,vv 1 (.vs 1 tg_16 l_17)]) = some o) : calL C 101 [(.str s_15),(.vs 1 tg_16 l_17)] Hp.none 0 = some o := hC.call rfl (fun _ _ => by kernel_rfl) ho
theorem p101_0 {s_15 : List UInt8} {tg_16 : Bool} {l_17 : List AV} (ho : Tr.val C 101
(.br (decide (0 < (l_17.length : Int)))
(.bind (nth l_17 0) fun c1 =>
(.mid 0 [0,5,0] 2 (mk0 59 [vt 0 s_15,vv 1 (.vs 1 tg_16 l_17),vv 9 (.vs 1 tg_16 l_17),vv 10 (.cptr (AV.cells c1))]))) .none) = some o) : RL C 101 [] (mk0 59 [vt 0 s_15,vv 1 (.vs 1 tg_16 l_17)]) = some o := stR C 4 (fun _ _ => by kernel_rfl) ho
theorem p101_1 {s_15 : List UInt8} {tg_16 : Bool} {l_17 : List AV} {x_18 : Int} (ho : Tr.val C 101
(ix l_17 (w64 ((l_17.length : Int) - 1)) fun c2 =>
(.mid 0 [0,5,0] 8 (mk0 59 [vt 0 s_15,vv 1 (.vs 1 tg_16 l_17),vv 9 (.vs 1 tg_16 l_17),vv 10 (.cptr [(i6 x_18)]),vi 11 x_18,vv 12 (.vs 1 tg_16 l_17),vv 13 (.vs 1 tg_16 l_17),vi 14 (l_17.length : Int),vi 15 (w64 ((l_17.length : Int) - 1)),vv 16 (.cptr (AV.cells c2))]))) = some o) : ML C 101 [0,5,0] 2 (mk0 59 [vt 0 s_15,vv 1 (.vs 1 tg_16 l_17),vv 9 (.vs 1 tg_16 l_17),vv 10 (.cptr [(i6 x_18)])]) = some o := stM C 0 (fun _ _ => by kernel_rfl) ho
theorem p101_2 {s_15 : List UInt8} {tg_16 : Bool} {l_17 : List AV} {x_18 x_19 x_20 x_21 : Int} (ho : Tr.val C 101
(.br (decide (x_18 = 1))
(.br (decide (x_18 = 3))
(.br (eqS s_15 [43])
(.br (decide (x_19 = 1))
(rt (i6 1))
(rt (i6 0)))
(.br (eqS s_15 [45])
(.br (decide (x_19 = 1))
(rt (i6 1))
(rt (i6 0)))
(.br (eqS s_15 [42])
(.br (decide (x_19 = 1))
(rt (i6 1))
(rt (i6 0)))
(.br (eqS s_15 [33])
(.br (decide (x_19 = 3))
(rt (i6 3))
(rt (i6 0)))
(.br (eqS s_15 [38,38])
(.br (decide (x_19 = 3))
(rt (i6 3))
(rt (i6 0)))
(.br (eqS s_15 [124,124])
(.br (decide (x_19 = 3))
(rt (i6 3))
(rt (i6 0)))
(.br (eqS s_15 [61,61])
(.br (decide (x_18 = x_19))
(rt (i6 3))
(rt (i6 0)))
(.br (eqS s_15 [33,61])
(.br (decide (x_18 = x_19))
(rt (i6 3))
(rt (i6 0)))
(.br (eqS s_15 [60])
(.br (decide (x_18 = x_19))
(.br (!(decide (x_19 = 3)))
(rt (i6 3))
(rt (i6 0)))
(rt (i6 0)))
(.br (eqS s_15 [60,61])
(.br (decide (x_18 = x_19))
(.br (!(decide (x_19 = 3)))
(rt (i6 3))
(rt (i6 0)))
(rt (i6 0)))
(.br (eqS s_15 [62])
(.br (decide (x_18 = x_19))
(.br (!(decide (x_19 = 3)))
(rt (i6 3))
(rt (i6 0)))
(rt (i6 0)))
(.br (eqS s_15 [62,61])
(.br (decide (x_18 = x_19))
(.br (!(decide (x_19 = 3)))
(rt (i6 3))
(rt (i6 0)))
(rt (i6 0)))
(rt (i6 0))))))))))))))
(.br (eqS s_15 [43])
(.br (decide (x_19 = 1))
(rt (i6 1))
(rt (i6 0)))
(.br (eqS s_15 [45])
(.br (decide (x_19 = 1))
(rt (i6 1))
(rt (i6 0)))
(.br (eqS s_15 [42])
(.br (decide (x_19 = 1))
(rt (i6 1))
(rt (i6 0)))
(.br (eqS s_15 [33])
(rt (i6 0))
(.br (eqS s_15 [38,38])
(rt (i6 0))
(.br (eqS s_15 [124,124])
(rt (i6 0))
(.br (eqS s_15 [61,61])
(.br (decide (x_18 = x_19))
(rt (i6 3))
(rt (i6 0)))
(.br (eqS s_15 [33,61])
(.br (decide (x_18 = x_19))
(rt (i6 3))
(rt (i6 0)))
(.br (eqS s_15 [60])
(.br (decide (x_18 = x_19))
(rt (i6 3))
(rt (i6 0)))
(.br (eqS s_15 [60,61])
(.br (decide (x_18 = x_19))
(rt (i6 3))
(rt (i6 0)))
(.br (eqS s_15 [62])
(.br (decide (x_18 = x_19))
(rt (i6 3))
(rt (i6 0)))
(.br (eqS s_15 [62,61])
(.br (decide (x_18 = x_19))
(rt (i6 3))
(rt (i6 0)))
(rt (i6 0)))))))))))))))
(.br (decide (x_18 = 3))
(.br (eqS s_15 [43])
(rt (i6 0))
(.br (eqS s_15 [45])
(rt (i6 0))
(.br (eqS s_15 [42])
(rt (i6 0))
(.br (eqS s_15 [33])
(.br (decide (x_19 = 3))
(rt (i6 3))
(rt (i6 0)))
(.br (eqS s_15 [38,38])
(.br (decide (x_19 = 3))
(rt (i6 3))
(rt (i6 0)))
(.br (eqS s_15 [124,124])
(.br (decide (x_19 = 3))
(rt (i6 3))
(rt (i6 0)))
(.br (eqS s_15 [61,61])
(.br (decide (x_18 = x_19))
(rt (i6 3))
(rt (i6 0)))
(.br (eqS s_15 [33,61])
(.br (decide (x_18 = x_19))
(rt (i6 3))
(rt (i6 0)))
(.br (eqS s_15 [60])
(.br (decide (x_18 = x_19))
(.br (!(decide (x_19 = 3)))
(rt (i6 3))
(rt (i6 0)))
(rt (i6 0)))
(.br (eqS s_15 [60,61])
(.br (decide (x_18 = x_19))
(.br (!(decide (x_19 = 3)))
(rt (i6 3))
(rt (i6 0)))
(rt (i6 0)))
(.br (eqS s_15 [62])
(.br (decide (x_18 = x_19))
(.br (!(decide (x_19 = 3)))
(rt (i6 3))
(rt (i6 0)))
(rt (i6 0)))
(.br (eqS s_15 [62,61])
(.br (decide (x_18 = x_19))
(.br (!(decide (x_19 = 3)))
(rt (i6 3))
(rt (i6 0)))
(rt (i6 0)))
(rt (i6 0))))))))))))))
(.br (eqS s_15 [43])
(rt (i6 0))
(.br (eqS s_15 [45])
(rt (i6 0))
(.br (eqS s_15 [42])
(rt (i6 0))
(.br (eqS s_15 [33])
(rt (i6 0))
(.br (eqS s_15 [38,38])
(rt (i6 0))
(.br (eqS s_15 [124,124])
(rt (i6 0))
(.br (eqS s_15 [61,61])
(.br (decide (x_18 = x_19))
(rt (i6 3))
(rt (i6 0)))
(.br (eqS s_15 [33,61])
(.br (decide (x_18 = x_19))
(rt (i6 3))
(rt (i6 0)))
(.br (eqS s_15 [60])
(.br (decide (x_18 = x_19))
(rt (i6 3))
(rt (i6 0)))
(.br (eqS s_15 [60,61])
(.br (decide (x_18 = x_19))
(rt (i6 3))
(rt (i6 0)))
(.br (eqS s_15 [62])
(.br (decide (x_18 = x_19))
(rt (i6 3))
(rt (i6 0)))
(.br (eqS s_15 [62,61])
(.br (decide (x_18 = x_19))
(rt (i6 3))
(rt (i6 0)))
(rt (i6 0)))))))))))))))) = some o) : ML C 101 [0,5,0] 8 (mk0 59 [vt 0 s_15,vv 1 (.vs 1 tg_16 l_17),vv 9 (.vs 1 tg_16 l_17),vv 10 (.cptr [(i6 x_18)]),vi 11 x_18,vv 12 (.vs 1 tg_16 l_17),vv 13 (.vs 1 tg_16 l_17),vi 14 x_20,vi 15 x_21,vv 16 (.cptr [(i6 x_19)])]) = some o := stM C 50 (fun _ _ => by kernel_rfl) ho
theorem p164_c (hC : Ext C) {w_22 : Sc} {s_23 : List UInt8} (ho : RL C 164 [] (mk0 31 [vv 0 (.agg (Sc.cs w_22)),vt 1 s_23]) = some o) : calL C 164 [(.agg (Sc.cs w_22)),(.str s_23)] Hp.none 0 = some o := hC.call rfl (fun _ _ => by kernel_rfl) ho
theorem p164_0 {w_22 : Sc} {s_23 : List UInt8} (ho : Tr.val C 164
(.run 0 [0,5,0,0,5,2,3] (mkS 31 [vt 1 s_23,(2,.lp 2 0),(4,.lp 4 0),vv 9 (.vs 3 w_22.tg (w_22.ps.map Par.av)),vi 10 ((w_22.ps.map Par.av).length : Int),vi 11 0] [(2,⟨(Sc.cs w_22),[]⟩),(4,⟨[(.str []),(i6 0),(i6 0),(i6 0)],[]⟩)] Hp.none 0)) = some o) : RL C 164 [] (mk0 31 [vv 0 (.agg (Sc.cs w_22)),vt 1 s_23]) = some o := stR C 7 (fun _ _ => by kernel_rfl) ho
theorem p164_1 {s_24 s_30 : List UInt8} {tg_25 : Bool} {l_26 : List Par} {x_27 x_28 x_31 x_32 x_33 : Int} {w_29 : Sc} (ho : Tr.val C 164
(.br (decide (x_28 < x_27))
(ix (l_26.map Par.av) x_28 fun c1 =>
(.mid 3 qN0 1 (mkS 31 [vt 1 s_24,(2,.lp 2 0),(4,.lp 4 0),vv 9 (.vs 3 tg_25 (l_26.map Par.av)),vi 10 x_27,vi 11 x_28,vb 12 true,vv 13 (.cptr (AV.cells c1))] [(2,⟨(Sc.cs w_29),[]⟩),(4,⟨[(.str s_30),(i6 x_31),(i6 x_32),(i6 x_33)],[]⟩)] Hp.none 0)))
(.br (!w_29.q)
(rt (.tuple [(.agg [(.str []),(i6 0),(i6 0),(i6 0)]),(.bool false)]))
(cl0 94 [(.agg (Typ.cs w_29.t)),(.str s_24)] fun r2 => .br (AV.pure r2.v)
(.mid 0 [0,5,0,0,5,2,3,0,5,0,7,5,5,5,5,0,0,5,7,5,0] 4 (mkS 31 [vt 1 s_24,(2,.lp 2 0),(4,.lp 4 0),vb 23 false,(25,.lp 2 0),vv 26 (.agg (Typ.cs w_29.t)),vt 27 s_24,vv 28 r2.v] [(2,⟨(Sc.cs w_29),[]⟩),(4,⟨[(.str s_30),(i6 x_31),(i6 x_32),(i6 x_33)],[]⟩)] Hp.none 0)) .none))) = some o) : RL C 164 [0,5,0,0,5,2,3] (mkS 31 [vt 1 s_24,(2,.lp 2 0),(4,.lp 4 0),vv 9 (.vs 3 tg_25 (l_26.map Par.av)),vi 10 x_27,vi 11 x_28] [(2,⟨(Sc.cs w_29),[]⟩),(4,⟨[(.str s_30),(i6 x_31),(i6 x_32),(i6 x_33)],[]⟩)] Hp.none 0) = some o := stR C 12 (fun _ _ => by kernel_rfl) ho
theorem p164_2 {s_24 s_30 : List UInt8} {tg_25 : Bool} {l_26 : List Par} {x_27 x_28 x_31 x_32 x_33 : Int} {w_29 : Sc} {p_34 : Par} (ho : Tr.val C 164
(.br (eqS p_34.name s_24)
(rt (.tuple [(.agg [(.str []),(i6 0),(i6 0),(i6 0)]),(.bool false)]))
(.run 0 [0,5,0,0,5,2,3] (mkS 31 [vt 1 s_24,(2,.lp 2 0),(4,.lp 4 0),vv 9 (.vs 3 tg_25 (l_26.map Par.av)),vi 10 x_27,vi 11 (w64 (x_28 + 1))] [(2,⟨(Sc.cs w_29),[]⟩),(4,⟨[(.str s_30),(i6 x_31),(i6 x_32),(i6 x_33)],[]⟩)] Hp.none 0))) = some o) : ML C 164 qN0 1 (mkS 31 [vt 1 s_24,(2,.lp 2 0),(4,.lp 4 0),vv 9 (.vs 3 tg_25 (l_26.map Par.av)),vi 10 x_27,vi 11 x_28,vb 12 true,vv 13 (.cptr (Par.cs p_34))] [(2,⟨(Sc.cs w_29),[]⟩),(4,⟨[(.str s_30),(i6 x_31),(i6 x_32),(i6 x_33)],[]⟩)] Hp.none 0) = some o := stM C 7 (fun _ _ => by kernel_rfl) ho
theorem p164_3 {s_24 s_30 : List UInt8} {w_29 : Sc} {x_31 x_32 x_33 : Int} {f_35 : Fld} {c_36 : Bool} (ho : Tr.val C 164
(rt (.tuple [(.agg (Fld.cs f_35)),(.bool c_36)])) = some o) : ML C 164 [0,5,0,0,5,2,3,0,5,0,7,5,5,5,5,0,0,5,7,5,0] 4 (mkS 31 [vt 1 s_24,(2,.lp 2 0),(4,.lp 4 0),vb 23 false,(25,.lp 2 0),vv 26 (.agg (Typ.cs w_29.t)),vt 27 s_24,vv 28 (.tuple [(.agg (Fld.cs f_35)),(.bool c_36)])] [(2,⟨(Sc.cs w_29),[]⟩),(4,⟨[(.str s_30),(i6 x_31),(i6 x_32),(i6 x_33)],[]⟩)] Hp.none 0) = some o := stM C 1 (fun _ _ => by kernel_rfl) ho
theorem p97_c (hC : Ext C) {w_37 : Sc} {e_38 : Ex} (ho : RL C 97 [] (mk0 53 [vv 0 (.agg (Sc.cs w_37)),vv 1 (.agg (Ex.cs e_38))]) = some o) : calL C 97 [(.agg (Sc.cs w_37)),(.agg (Ex.cs e_38))] Hp.none 0 = some o := hC.call rfl (fun _ _ => by kernel_rfl) ho
theorem p97_0 {w_37 : Sc} {e_38 : Ex} (ho : Tr.val C 97
(.run 0 [0,5,0,0,5,2,3] (mkS 53 [(2,.lp 2 0),(3,.lp 3 0),vv 11 (.vs 3 w_37.tg (w_37.ps.map Par.av)),vi 12 ((w_37.ps.map Par.av).length : Int),vi 13 0] [(2,⟨(Sc.cs w_37),[]⟩),(3,⟨(Ex.cs e_38),[]⟩)] Hp.none 0)) = some o) : RL C 97 [] (mk0 53 [vv 0 (.agg (Sc.cs w_37)),vv 1 (.agg (Ex.cs e_38))]) = some o := stR C 7 (fun _ _ => by kernel_rfl) ho
theorem p97_1 {tg_39 : Bool} {l_40 : List Par} {x_41 x_42 : Int} {w_43 : Sc} {e_44 : Ex} (ho : Tr.val C 97
(.br (decide (x_42 < x_41))
(ix (l_40.map Par.av) x_42 fun c1 =>
(.mid 0 qN0 1 (mkS 53 [(2,.lp 2 0),(3,.lp 3 0),vv 11 (.vs 3 tg_39 (l_40.map Par.av)),vi 12 x_41,vi 13 x_42,vb 14 true,vv 15 (.cptr (AV.cells c1))] [(2,⟨(Sc.cs w_43),[]⟩),(3,⟨(Ex.cs e_44),[]⟩)] Hp.none 0)))
(cl0 164 [(.agg (Sc.cs w_43)),(.str e_44.s)] fun r2 => .br (AV.pure r2.v)
(.mid 2 [0,5,0,0,5,2,3,0,5,0,7,5,5,5,5,0] 4 (mkS 53 [(2,.lp 2 0),(3,.lp 3 0),vv 11 (.vs 3 tg_39 (l_40.map Par.av)),vi 12 x_41,vi 13 x_42,vb 14 false,vv 26 (.agg (Sc.cs w_43)),(27,.lp 3 2),vt 28 e_44.s,vv 29 r2.v] [(2,⟨(Sc.cs w_43),[]⟩),(3,⟨(Ex.cs e_44),[]⟩)] Hp.none 0)) .none)) = some o) : RL C 97 [0,5,0,0,5,2,3] (mkS 53 [(2,.lp 2 0),(3,.lp 3 0),vv 11 (.vs 3 tg_39 (l_40.map Par.av)),vi 12 x_41,vi 13 x_42] [(2,⟨(Sc.cs w_43),[]⟩),(3,⟨(Ex.cs e_44),[]⟩)] Hp.none 0) = some o := stR C 9 (fun _ _ => by kernel_rfl) ho
theorem p97_2 {tg_39 : Bool} {l_40 : List Par} {x_41 x_42 : Int} {w_43 : Sc} {e_44 : Ex} {p_45 : Par} (ho : Tr.val C 97
(.br (eqS p_45.name e_44.s)
(rt (.tuple [(i6 p_45.type),(.vs 2 true [])]))
(.run 0 [0,5,0,0,5,2,3] (mkS 53 [(2,.lp 2 0),(3,.lp 3 0),vv 11 (.vs 3 tg_39 (l_40.map Par.av)),vi 12 x_41,vi 13 (w64 (x_42 + 1))] [(2,⟨(Sc.cs w_43),[]⟩),(3,⟨(Ex.cs e_44),[]⟩)] Hp.none 0))) = some o) : ML C 97 qN0 1 (mkS 53 [(2,.lp 2 0),(3,.lp 3 0),vv 11 (.vs 3 tg_39 (l_40.map Par.av)),vi 12 x_41,vi 13 x_42,vb 14 true,vv 15 (.cptr (Par.cs p_45))] [(2,⟨(Sc.cs w_43),[]⟩),(3,⟨(Ex.cs e_44),[]⟩)] Hp.none 0) = some o := stM C 7 (fun _ _ => by kernel_rfl) ho
theorem p97_3 {tg_39 c_47 : Bool} {l_40 : List Par} {x_41 x_42 : Int} {w_43 : Sc} {e_44 : Ex} {f_46 : Fld} (ho : Tr.val C 97
(.br (!c_47)
(cl0 99 [(.agg (Ex.cs e_44)),(i6 6)] fun r3 => .br (AV.pure r3.v)
(.mid 19 qN9 2 (mkS 53 [(3,.lp 3 0),(8,.lp 8 0),vb 33 true,vv 34 (.agg (Ex.cs e_44)),(35,.val r3.v (.comps [1]))] [(3,⟨(Ex.cs e_44),[]⟩),(8,⟨(Fld.cs f_46),[]⟩)] Hp.none 0)) .none)
(.br (decide (f_46.kind = 1))
(rt (.tuple [(i6 f_46.type),(.vs 2 true [])]))
(.br (decide (f_46.kind = 2))
(rt (.tuple [(i6 1),(.vs 2 true [])]))
(.br (decide (f_46.kind = 3))
(rt (.tuple [(i6 1),(.vs 2 true [])]))
(.br (decide (f_46.kind = 5))
(rt (.tuple [(i6 3),(.vs 2 true [])]))
(cl0 99 [(.agg (Ex.cs e_44)),(i6 12)] fun r4 => .br (AV.pure r4.v)
(.mid 0 qN10 2 (mkS 53 [(3,.lp 3 0),vb 47 false,vv 49 (.agg (Ex.cs e_44)),(50,.val r4.v (.comps [1]))] [(3,⟨(Ex.cs e_44),[]⟩)] Hp.none 0)) .none)))))) = some o) : ML C 97 [0,5,0,0,5,2,3,0,5,0,7,5,5,5,5,0] 4 (mkS 53 [(2,.lp 2 0),(3,.lp 3 0),vv 11 (.vs 3 tg_39 (l_40.map Par.av)),vi 12 x_41,vi 13 x_42,vb 14 false,vv 26 (.agg (Sc.cs w_43)),(27,.lp 3 2),vt 28 e_44.s,vv 29 (.tuple [(.agg (Fld.cs f_46)),(.bool c_47)])] [(2,⟨(Sc.cs w_43),[]⟩),(3,⟨(Ex.cs e_44),[]⟩)] Hp.none 0) = some o := stM C 25 (fun _ _ => by kernel_rfl) ho
theorem p97_4 {e_44 : Ex} {f_46 : Fld} {x_48 : Int} {tg_49 : Bool} {l_50 : List Dg} (ho : Tr.val C 97
(rt (.tuple [(i6 x_48),(.vs 2 tg_49 (l_50.map Dg.av))])) = some o) : ML C 97 qN9 2 (mkS 53 [(3,.lp 3 0),(8,.lp 8 0),vb 33 true,vv 34 (.agg (Ex.cs e_44)),(35,.val (.tuple [(i6 x_48),(.vs 2 tg_49 (l_50.map Dg.av))]) (.comps [1]))] [(3,⟨(Ex.cs e_44),[]⟩),(8,⟨(Fld.cs f_46),[]⟩)] Hp.none 0) = some o := stM C 1 (fun _ _ => by kernel_rfl) ho
theorem p97_5 {e_44 : Ex} {x_51 : Int} {tg_52 : Bool} {l_53 : List Dg} (ho : Tr.val C 97
(rt (.tuple [(i6 x_51),(.vs 2 tg_52 (l_53.map Dg.av))])) = some o) : ML C 97 qN10 2 (mkS 53 [(3,.lp 3 0),vb 47 false,vv 49 (.agg (Ex.cs e_44)),(50,.val (.tuple [(i6 x_51),(.vs 2 tg_52 (l_53.map Dg.av))]) (.comps [1]))] [(3,⟨(Ex.cs e_44),[]⟩)] Hp.none 0) = some o := stM C 1 (fun _ _ => by kernel_rfl) ho
theorem p98_c (hC : Ext C) {w_54 : Sc} {e_55 : Ex} (ho : RL C 98 [] (mk0 39 [vv 0 (.agg (Sc.cs w_54)),vv 1 (.agg (Ex.cs e_55))]) = some o) : calL C 98 [(.agg (Sc.cs w_54)),(.agg (Ex.cs e_55))] Hp.none 0 = some o := hC.call rfl (fun _ _ => by kernel_rfl) ho
theorem p98_0 {w_54 : Sc} {e_55 : Ex} (ho : Tr.val C 98
(cl0 94 [(.agg (Typ.cs w_54.t)),(.str e_55.s)] fun r1 => .br (AV.pure r1.v)
(.mid 0 [0,5,0] 5 (mkS 39 [(2,.lp 2 0),(3,.lp 3 0),(9,.lp 2 0),vv 10 (.agg (Typ.cs w_54.t)),(11,.lp 3 2),vt 12 e_55.s,vv 13 r1.v] [(2,⟨(Sc.cs w_54),[]⟩),(3,⟨(Ex.cs e_55),[]⟩)] Hp.none 0)) .none) = some o) : RL C 98 [] (mk0 39 [vv 0 (.agg (Sc.cs w_54)),vv 1 (.agg (Ex.cs e_55))]) = some o := stR C 4 (fun _ _ => by kernel_rfl) ho
theorem p98_1 {w_54 : Sc} {e_55 : Ex} {f_56 : Fld} {c_57 : Bool} (ho : Tr.val C 98
(.br (!w_54.q)
(cl0 99 [(.agg (Ex.cs e_55)),(i6 10)] fun r2 => .br (AV.pure r2.v)
(.mid 9 [0,5,0,5,0,2,0,5,6,0] 2 (mkS 39 [(3,.lp 3 0),(6,.lp 6 0),vb 7 c_57,vb 16 true,vv 20 (.agg (Ex.cs e_55)),(21,.val r2.v (.comps [1]))] [(3,⟨(Ex.cs e_55),[]⟩),(6,⟨(Fld.cs f_56),[]⟩)] Hp.none 0)) .none)
(.br (!c_57)
(cl0 99 [(.agg (Ex.cs e_55)),(i6 6)] fun r3 => .br (AV.pure r3.v)
(.mid 6 [0,5,0,5,0,2,0,5,7,0,5,6,0] 2 (mkS 39 [(3,.lp 3 0),(6,.lp 6 0),vb 24 true,vv 27 (.agg (Ex.cs e_55)),(28,.val r3.v (.comps [1]))] [(3,⟨(Ex.cs e_55),[]⟩),(6,⟨(Fld.cs f_56),[]⟩)] Hp.none 0)) .none)
(.br (!(decide (f_56.kind = 4)))
(cl0 99 [(.agg (Ex.cs e_55)),(i6 12)] fun r4 => .br (AV.pure r4.v)
(.mid 3 [0,5,0,5,0,2,0,5,7,0,5,7,0,5,6,0] 2 (mkS 39 [(3,.lp 3 0),vb 31 true,vv 35 (.agg (Ex.cs e_55)),(36,.val r4.v (.comps [1]))] [(3,⟨(Ex.cs e_55),[]⟩)] Hp.none 0)) .none)
(rt (.tuple [(i6 1),(.vs 2 true [])]))))) = some o) : ML C 98 [0,5,0] 5 (mkS 39 [(2,.lp 2 0),(3,.lp 3 0),(9,.lp 2 0),vv 10 (.agg (Typ.cs w_54.t)),(11,.lp 3 2),vt 12 e_55.s,vv 13 (.tuple [(.agg (Fld.cs f_56)),(.bool c_57)])] [(2,⟨(Sc.cs w_54),[]⟩),(3,⟨(Ex.cs e_55),[]⟩)] Hp.none 0) = some o := stM C 16 (fun _ _ => by kernel_rfl) ho
theorem p98_2 {e_55 : Ex} {f_56 : Fld} {c_57 tg_59 : Bool} {x_58 : Int} {l_60 : List Dg} (ho : Tr.val C 98
(rt (.tuple [(i6 x_58),(.vs 2 tg_59 (l_60.map Dg.av))])) = some o) : ML C 98 [0,5,0,5,0,2,0,5,6,0] 2 (mkS 39 [(3,.lp 3 0),(6,.lp 6 0),vb 7 c_57,vb 16 true,vv 20 (.agg (Ex.cs e_55)),(21,.val (.tuple [(i6 x_58),(.vs 2 tg_59 (l_60.map Dg.av))]) (.comps [1]))] [(3,⟨(Ex.cs e_55),[]⟩),(6,⟨(Fld.cs f_56),[]⟩)] Hp.none 0) = some o := stM C 1 (fun _ _ => by kernel_rfl) ho
theorem p98_3 {e_55 : Ex} {f_56 : Fld} {x_61 : Int} {tg_62 : Bool} {l_63 : List Dg} (ho : Tr.val C 98
(rt (.tuple [(i6 x_61),(.vs 2 tg_62 (l_63.map Dg.av))])) = some o) : ML C 98 [0,5,0,5,0,2,0,5,7,0,5,6,0] 2 (mkS 39 [(3,.lp 3 0),(6,.lp 6 0),vb 24 true,vv 27 (.agg (Ex.cs e_55)),(28,.val (.tuple [(i6 x_61),(.vs 2 tg_62 (l_63.map Dg.av))]) (.comps [1]))] [(3,⟨(Ex.cs e_55),[]⟩),(6,⟨(Fld.cs f_56),[]⟩)] Hp.none 0) = some o := stM C 1 (fun _ _ => by kernel_rfl) ho
theorem p98_4 {e_55 : Ex} {x_64 : Int} {tg_65 : Bool} {l_66 : List Dg} (ho : Tr.val C 98
(rt (.tuple [(i6 x_64),(.vs 2 tg_65 (l_66.map Dg.av))])) = some o) : ML C 98 [0,5,0,5,0,2,0,5,7,0,5,7,0,5,6,0] 2 (mkS 39 [(3,.lp 3 0),vb 31 true,vv 35 (.agg (Ex.cs e_55)),(36,.val (.tuple [(i6 x_64),(.vs 2 tg_65 (l_66.map Dg.av))]) (.comps [1]))] [(3,⟨(Ex.cs e_55),[]⟩)] Hp.none 0) = some o := stM C 1 (fun _ _ => by kernel_rfl) ho
theorem p100_c (hC : Ext C) {w_67 : Sc} {e_68 : Ex} (ho : RL C 100 [] (mk0 93 [vv 0 (.agg (Sc.cs w_67)),vv 1 (.agg (Ex.cs e_68))]) = some o) : calL C 100 [(.agg (Sc.cs w_67)),(.agg (Ex.cs e_68))] Hp.none 0 = some o := hC.call rfl (fun _ _ => by kernel_rfl) ho
theorem p100_0 {w_67 : Sc} {e_68 : Ex} (ho : Tr.val C 100
(.br (!w_67.q)
(cl0 99 [(.agg (Ex.cs e_68)),(i6 10)] fun r1 => .br (AV.pure r1.v)
(.mid 6 [0,5,0,0,5,6,0] 2 (mkS 93 [(2,.lp 2 0),(3,.lp 3 0),vb 14 true,vv 15 (.agg (Ex.cs e_68)),(16,.val r1.v (.comps [1]))] [(2,⟨(Sc.cs w_67),[]⟩),(3,⟨(Ex.cs e_68),[]⟩)] Hp.none 0)) .none)
(.br (decide (0 < ((exs e_68.l).length : Int)))
(.bind (nth (exs e_68.l) 0) fun c2 =>
(.mid 0 qN3 4 (mkS 93 [(2,.lp 2 0),(3,.lp 3 0),(6,.val (.vs 2 true []) .own),vb 7 false,vv 20 (.agg (Sc.cs w_67)),(21,.lp 3 3),vv 22 (.vs 5 e_68.tg (exs e_68.l)),vv 23 (.cptr (AV.cells c2))] [(2,⟨(Sc.cs w_67),[]⟩),(3,⟨(Ex.cs e_68),[]⟩)] Hp.none 0))) .none)) = some o) : RL C 100 [] (mk0 93 [vv 0 (.agg (Sc.cs w_67)),vv 1 (.agg (Ex.cs e_68))]) = some o := stR C 14 (fun _ _ => by kernel_rfl) ho
theorem p100_1 {w_67 : Sc} {e_68 : Ex} {x_69 : Int} {tg_70 : Bool} {l_71 : List Dg} (ho : Tr.val C 100
(rt (.tuple [(i6 x_69),(.vs 2 tg_70 (l_71.map Dg.av))])) = some o) : ML C 100 [0,5,0,0,5,6,0] 2 (mkS 93 [(2,.lp 2 0),(3,.lp 3 0),vb 14 true,vv 15 (.agg (Ex.cs e_68)),(16,.val (.tuple [(i6 x_69),(.vs 2 tg_70 (l_71.map Dg.av))]) (.comps [1]))] [(2,⟨(Sc.cs w_67),[]⟩),(3,⟨(Ex.cs e_68),[]⟩)] Hp.none 0) = some o := stM C 1 (fun _ _ => by kernel_rfl) ho
theorem p100_2 {w_67 : Sc} {e_68 e_72 : Ex} (ho : Tr.val C 100
(.br (za7 [(.agg (Sc.cs w_67)),(.str e_72.s)])
(cl0 164 [(.agg (Sc.cs w_67)),(.str e_72.s)] fun r3 => .br (AV.pure r3.v)
(.br (AV.pure r3.v)
(.mid 0 qN3 7 (mkS 93 [(2,.lp 2 0),(3,.lp 3 0),(6,.val (.vs 2 true []) .own),vb 7 false,vv 20 (.agg (Sc.cs w_67)),(21,.lp 3 3),vv 22 (.vs 5 e_68.tg (exs e_68.l)),vv 23 (.cptr (Ex.cs e_72)),vv 24 (.cptr [(.str e_72.s),(.vs 5 e_72.tg (exs e_72.l)),(i6 e_72.at_)]),vt 25 e_72.s,vv 26 r3.v] [(2,⟨(Sc.cs w_67),[]⟩),(3,⟨(Ex.cs e_68),[]⟩)] Hp.none 0)) .none) .none) .none) = some o) : ML C 100 qN3 4 (mkS 93 [(2,.lp 2 0),(3,.lp 3 0),(6,.val (.vs 2 true []) .own),vb 7 false,vv 20 (.agg (Sc.cs w_67)),(21,.lp 3 3),vv 22 (.vs 5 e_68.tg (exs e_68.l)),vv 23 (.cptr (Ex.cs e_72))] [(2,⟨(Sc.cs w_67),[]⟩),(3,⟨(Ex.cs e_68),[]⟩)] Hp.none 0) = some o := stM C 0 (fun _ _ => by kernel_rfl) ho
theorem p100_3 {w_67 : Sc} {e_68 e_72 : Ex} {f_73 : Fld} {c_74 : Bool} (ho : Tr.val C 100
(.br (decide (0 < ((exs e_68.l).length : Int)))
(.bind (nth (exs e_68.l) 0) fun c4 =>
(.mid 0 [0,5,0,0,5,7,5,0,5,0,5,0,0,5,0] 3 (mkS 93 [(2,.lp 2 0),(3,.lp 3 0),(6,.val (.vs 2 true []) .own),vb 7 false,(8,.lp 8 0),vb 9 c_74,(29,.lp 3 3),vv 30 (.vs 5 e_68.tg (exs e_68.l)),vv 31 (.cptr (AV.cells c4))] [(2,⟨(Sc.cs w_67),[]⟩),(3,⟨(Ex.cs e_68),[]⟩),(8,⟨(Fld.cs f_73),[]⟩)] Hp.none 0))) .none) = some o) : ML C 100 qN3 7 (mkS 93 [(2,.lp 2 0),(3,.lp 3 0),(6,.val (.vs 2 true []) .own),vb 7 false,vv 20 (.agg (Sc.cs w_67)),(21,.lp 3 3),vv 22 (.vs 5 e_68.tg (exs e_68.l)),vv 23 (.cptr (Ex.cs e_72)),vv 24 (.cptr [(.str e_72.s),(.vs 5 e_72.tg (exs e_72.l)),(i6 e_72.at_)]),vt 25 e_72.s,vv 26 (.tuple [(.agg (Fld.cs f_73)),(.bool c_74)])] [(2,⟨(Sc.cs w_67),[]⟩),(3,⟨(Ex.cs e_68),[]⟩)] Hp.none 0) = some o := stM C 2 (fun _ _ => by kernel_rfl) ho
theorem p100_4 {w_67 : Sc} {e_68 e_75 : Ex} {f_73 : Fld} {c_74 : Bool} (ho : Tr.val C 100
(.br (!(decide (e_75.kind = 4)))
(.br (decide (0 < ((exs e_68.l).length : Int)))
(.bind (nth (exs e_68.l) 0) fun c5 =>
(.mid 1 qN1 4 (mkS 93 [(2,.lp 2 0),(3,.lp 3 0),(6,.val (.vs 2 true []) .own),vb 7 false,vb 43 true,vv 45 (.agg (Sc.cs w_67)),(46,.lp 3 3),vv 47 (.vs 5 e_68.tg (exs e_68.l)),vv 48 (.cptr (AV.cells c5))] [(2,⟨(Sc.cs w_67),[]⟩),(3,⟨(Ex.cs e_68),[]⟩)] Hp.none 0))) .none)
(.br (!c_74)
(.br (decide (0 < ((exs e_68.l).length : Int)))
(.bind (nth (exs e_68.l) 0) fun c6 =>
(.mid 1 qN1 4 (mkS 93 [(2,.lp 2 0),(3,.lp 3 0),(6,.val (.vs 2 true []) .own),vb 7 false,vb 43 true,vv 45 (.agg (Sc.cs w_67)),(46,.lp 3 3),vv 47 (.vs 5 e_68.tg (exs e_68.l)),vv 48 (.cptr (AV.cells c6))] [(2,⟨(Sc.cs w_67),[]⟩),(3,⟨(Ex.cs e_68),[]⟩)] Hp.none 0))) .none)
(.br (!(decide (f_73.kind = 4)))
(.br (decide (0 < ((exs e_68.l).length : Int)))
(.bind (nth (exs e_68.l) 0) fun c7 =>
(.mid 1 qN1 4 (mkS 93 [(2,.lp 2 0),(3,.lp 3 0),(6,.val (.vs 2 true []) .own),vb 7 false,vb 43 true,vv 45 (.agg (Sc.cs w_67)),(46,.lp 3 3),vv 47 (.vs 5 e_68.tg (exs e_68.l)),vv 48 (.cptr (AV.cells c7))] [(2,⟨(Sc.cs w_67),[]⟩),(3,⟨(Ex.cs e_68),[]⟩)] Hp.none 0))) .none)
(.br (decide (1 < ((exs e_68.l).length : Int)))
(.bind (nth (exs e_68.l) 1) fun c8 =>
(.mid 0 qN4 4 (mkS 93 [(2,.lp 2 0),(3,.lp 3 0),(6,.val (.vs 2 true []) .own),vb 7 false,vb 43 false,vv 61 (.agg (Sc.cs w_67)),(62,.lp 3 3),vv 63 (.vs 5 e_68.tg (exs e_68.l)),vv 64 (.cptr (AV.cells c8))] [(2,⟨(Sc.cs w_67),[]⟩),(3,⟨(Ex.cs e_68),[]⟩)] Hp.none 0))) .none)))) = some o) : ML C 100 [0,5,0,0,5,7,5,0,5,0,5,0,0,5,0] 3 (mkS 93 [(2,.lp 2 0),(3,.lp 3 0),(6,.val (.vs 2 true []) .own),vb 7 false,(8,.lp 8 0),vb 9 c_74,(29,.lp 3 3),vv 30 (.vs 5 e_68.tg (exs e_68.l)),vv 31 (.cptr (Ex.cs e_75))] [(2,⟨(Sc.cs w_67),[]⟩),(3,⟨(Ex.cs e_68),[]⟩),(8,⟨(Fld.cs f_73),[]⟩)] Hp.none 0) = some o := stM C 4 (fun _ _ => by kernel_rfl) ho
theorem p100_5 {w_67 : Sc} {e_68 e_76 : Ex} (ho : Tr.val C 100
(cl0 52 [(.agg (Sc.cs w_67)),(.agg (Ex.cs e_76))] fun r9 => .br (AV.pure r9.v)
(.mid 0 qN1 6 (mkS 93 [(2,.lp 2 0),(3,.lp 3 0),(6,.val (.vs 2 true []) .own),vb 7 false,vb 43 true,vv 45 (.agg (Sc.cs w_67)),(46,.lp 3 3),vv 47 (.vs 5 e_68.tg (exs e_68.l)),vv 48 (.cptr (Ex.cs e_76)),vv 49 (.agg (Ex.cs e_76)),(50,.val r9.v (.comps [1]))] [(2,⟨(Sc.cs w_67),[]⟩),(3,⟨(Ex.cs e_68),[]⟩)] Hp.none 0)) .none) = some o) : ML C 100 qN1 4 (mkS 93 [(2,.lp 2 0),(3,.lp 3 0),(6,.val (.vs 2 true []) .own),vb 7 false,vb 43 true,vv 45 (.agg (Sc.cs w_67)),(46,.lp 3 3),vv 47 (.vs 5 e_68.tg (exs e_68.l)),vv 48 (.cptr (Ex.cs e_76))] [(2,⟨(Sc.cs w_67),[]⟩),(3,⟨(Ex.cs e_68),[]⟩)] Hp.none 0) = some o := stM C 0 (fun _ _ => by kernel_rfl) ho
theorem p100_6 {w_67 : Sc} {e_68 e_79 : Ex} (ho : Tr.val C 100
(cl0 52 [(.agg (Sc.cs w_67)),(.agg (Ex.cs e_79))] fun r10 => .br (AV.pure r10.v)
(.mid 0 qN4 6 (mkS 93 [(2,.lp 2 0),(3,.lp 3 0),(6,.val (.vs 2 true []) .own),vb 7 false,vb 43 false,vv 61 (.agg (Sc.cs w_67)),(62,.lp 3 3),vv 63 (.vs 5 e_68.tg (exs e_68.l)),vv 64 (.cptr (Ex.cs e_79)),vv 65 (.agg (Ex.cs e_79)),(66,.val r10.v (.comps [1]))] [(2,⟨(Sc.cs w_67),[]⟩),(3,⟨(Ex.cs e_68),[]⟩)] Hp.none 0)) .none) = some o) : ML C 100 qN4 4 (mkS 93 [(2,.lp 2 0),(3,.lp 3 0),(6,.val (.vs 2 true []) .own),vb 7 false,vb 43 false,vv 61 (.agg (Sc.cs w_67)),(62,.lp 3 3),vv 63 (.vs 5 e_68.tg (exs e_68.l)),vv 64 (.cptr (Ex.cs e_79))] [(2,⟨(Sc.cs w_67),[]⟩),(3,⟨(Ex.cs e_68),[]⟩)] Hp.none 0) = some o := stM C 0 (fun _ _ => by kernel_rfl) ho
theorem p100_7 {w_67 : Sc} {e_68 e_76 : Ex} {x_80 : Int} {tg_81 : Bool} {l_82 : List Dg} (ho : Tr.val C 100
(.br (za7 [(.tuple [(i6 x_80),(.vs 2 tg_81 (l_82.map Dg.av))])])
(.br (decide (((l_82.map Dg.av).length : Int) = 0))
(.br (decide (1 < ((exs e_68.l).length : Int)))
(.bind (nth (exs e_68.l) 1) fun c11 =>
(.mid 0 qN5 4 (mkS 93 [(2,.lp 2 0),(3,.lp 3 0),vv 6 (.vs 2 true [(.agg [(i6 e_68.at_),(i6 12)])]),vb 7 true,vv 61 (.agg (Sc.cs w_67)),(62,.lp 3 3),vv 63 (.vs 5 e_68.tg (exs e_68.l)),vv 64 (.cptr (AV.cells c11))] [(2,⟨(Sc.cs w_67),[]⟩),(3,⟨(Ex.cs e_68),[]⟩)] Hp.none 0))) .none)
(.br (decide (1 < ((exs e_68.l).length : Int)))
(.bind (nth (exs e_68.l) 1) fun c12 =>
(.mid 0 qN6 4 (mkS 93 [(2,.lp 2 0),(3,.lp 3 0),(6,.val (.vs 2 tg_81 (l_82.map Dg.av)) .own),vb 7 false,vb 55 false,vv 61 (.agg (Sc.cs w_67)),(62,.lp 3 3),vv 63 (.vs 5 e_68.tg (exs e_68.l)),vv 64 (.cptr (AV.cells c12))] [(2,⟨(Sc.cs w_67),[]⟩),(3,⟨(Ex.cs e_68),[]⟩)] Hp.none 0))) .none)) .none) = some o) : ML C 100 qN1 6 (mkS 93 [(2,.lp 2 0),(3,.lp 3 0),(6,.val (.vs 2 true []) .own),vb 7 false,vb 43 true,vv 45 (.agg (Sc.cs w_67)),(46,.lp 3 3),vv 47 (.vs 5 e_68.tg (exs e_68.l)),vv 48 (.cptr (Ex.cs e_76)),vv 49 (.agg (Ex.cs e_76)),(50,.val (.tuple [(i6 x_80),(.vs 2 tg_81 (l_82.map Dg.av))]) (.comps [1]))] [(2,⟨(Sc.cs w_67),[]⟩),(3,⟨(Ex.cs e_68),[]⟩)] Hp.none 0) = some o := stM C 6 (fun _ _ => by kernel_rfl) ho
theorem p100_8 {w_67 : Sc} {e_68 e_79 : Ex} {x_83 : Int} {tg_84 : Bool} {l_85 : List Dg} (ho : Tr.val C 100
(.br (za7 [(.tuple [(i6 x_83),(.vs 2 tg_84 (l_85.map Dg.av))])])
(.br (za7 [(.tuple [(i6 x_83),(.vs 2 tg_84 (l_85.map Dg.av))])])
(.br (AV.pure (.vs 2 tg_84 (l_85.map Dg.av)))
(.br (Nat.ble ((0 + (l_85.map Dg.av).length) * 16) za9)
(.br (Nat.ble (0 + (l_85.map Dg.av).length) za9)
(.br (decide (((l_85.map Dg.av).length : Int) = 0))
(.br (!(decide (x_83 = 2)))
(.br (Nat.ble ((([] ++ (l_85.map Dg.av)).length + 1) * 16) za9)
(.br (Nat.ble (([] ++ (l_85.map Dg.av)).length + 1) za9)
(.br (decide (0 < (List.length (([] ++ (l_85.map Dg.av)) ++ [(.agg [(i6 e_68.at_),(i6 12)])]) : Int)))
(rt (.tuple [(i6 0),(.vs 2 false (([] ++ (l_85.map Dg.av)) ++ [(.agg [(i6 e_68.at_),(i6 12)])]))]))
(rt (.tuple [(i6 3),(.vs 2 true [])]))) .none) .none)
(.br (decide (0 < (([] ++ (l_85.map Dg.av)).length : Int)))
(rt (.tuple [(i6 0),(.vs 2 false ([] ++ (l_85.map Dg.av)))]))
(rt (.tuple [(i6 3),(.vs 2 true [])]))))
(.br (decide (0 < (([] ++ (l_85.map Dg.av)).length : Int)))
(rt (.tuple [(i6 0),(.vs 2 false ([] ++ (l_85.map Dg.av)))]))
(rt (.tuple [(i6 3),(.vs 2 true [])])))) .none) .none) .none) .none) .none) = some o) : ML C 100 qN4 6 (mkS 93 [(2,.lp 2 0),(3,.lp 3 0),(6,.val (.vs 2 true []) .own),vb 7 false,vb 43 false,vv 61 (.agg (Sc.cs w_67)),(62,.lp 3 3),vv 63 (.vs 5 e_68.tg (exs e_68.l)),vv 64 (.cptr (Ex.cs e_79)),vv 65 (.agg (Ex.cs e_79)),(66,.val (.tuple [(i6 x_83),(.vs 2 tg_84 (l_85.map Dg.av))]) (.comps [1]))] [(2,⟨(Sc.cs w_67),[]⟩),(3,⟨(Ex.cs e_68),[]⟩)] Hp.none 0) = some o := stM C 15 (fun _ _ => by kernel_rfl) ho
theorem p100_9 {w_67 : Sc} {e_68 e_86 : Ex} (ho : Tr.val C 100
(cl0 52 [(.agg (Sc.cs w_67)),(.agg (Ex.cs e_86))] fun r13 => .br (AV.pure r13.v)
(.mid 0 qN5 6 (mkS 93 [(2,.lp 2 0),(3,.lp 3 0),vv 6 (.vs 2 true [(.agg [(i6 e_68.at_),(i6 12)])]),vb 7 true,vv 61 (.agg (Sc.cs w_67)),(62,.lp 3 3),vv 63 (.vs 5 e_68.tg (exs e_68.l)),vv 64 (.cptr (Ex.cs e_86)),vv 65 (.agg (Ex.cs e_86)),(66,.val r13.v (.comps [1]))] [(2,⟨(Sc.cs w_67),[]⟩),(3,⟨(Ex.cs e_68),[]⟩)] Hp.none 0)) .none) = some o) : ML C 100 qN5 4 (mkS 93 [(2,.lp 2 0),(3,.lp 3 0),vv 6 (.vs 2 true [(.agg [(i6 e_68.at_),(i6 12)])]),vb 7 true,vv 61 (.agg (Sc.cs w_67)),(62,.lp 3 3),vv 63 (.vs 5 e_68.tg (exs e_68.l)),vv 64 (.cptr (Ex.cs e_86))] [(2,⟨(Sc.cs w_67),[]⟩),(3,⟨(Ex.cs e_68),[]⟩)] Hp.none 0) = some o := stM C 0 (fun _ _ => by kernel_rfl) ho
theorem p100_10 {w_67 : Sc} {e_68 e_87 : Ex} {tg_81 : Bool} {l_82 : List Dg} (ho : Tr.val C 100
(cl0 52 [(.agg (Sc.cs w_67)),(.agg (Ex.cs e_87))] fun r14 => .br (AV.pure r14.v)
(.mid 0 qN6 6 (mkS 93 [(2,.lp 2 0),(3,.lp 3 0),(6,.val (.vs 2 tg_81 (l_82.map Dg.av)) .own),vb 7 false,vb 55 false,vv 61 (.agg (Sc.cs w_67)),(62,.lp 3 3),vv 63 (.vs 5 e_68.tg (exs e_68.l)),vv 64 (.cptr (Ex.cs e_87)),vv 65 (.agg (Ex.cs e_87)),(66,.val r14.v (.comps [1]))] [(2,⟨(Sc.cs w_67),[]⟩),(3,⟨(Ex.cs e_68),[]⟩)] Hp.none 0)) .none) = some o) : ML C 100 qN6 4 (mkS 93 [(2,.lp 2 0),(3,.lp 3 0),(6,.val (.vs 2 tg_81 (l_82.map Dg.av)) .own),vb 7 false,vb 55 false,vv 61 (.agg (Sc.cs w_67)),(62,.lp 3 3),vv 63 (.vs 5 e_68.tg (exs e_68.l)),vv 64 (.cptr (Ex.cs e_87))] [(2,⟨(Sc.cs w_67),[]⟩),(3,⟨(Ex.cs e_68),[]⟩)] Hp.none 0) = some o := stM C 0 (fun _ _ => by kernel_rfl) ho
theorem p100_11 {w_67 : Sc} {e_68 e_86 : Ex} {x_88 : Int} {tg_89 : Bool} {l_90 : List Dg} (ho : Tr.val C 100
(.br (za7 [(.tuple [(i6 x_88),(.vs 2 tg_89 (l_90.map Dg.av))])])
(.br (za7 [(.tuple [(i6 x_88),(.vs 2 tg_89 (l_90.map Dg.av))])])
(.br (AV.pure (.vs 2 tg_89 (l_90.map Dg.av)))
(.br (Nat.ble ((1 + (l_90.map Dg.av).length) * 16) za9)
(.br (Nat.ble (1 + (l_90.map Dg.av).length) za9)
(.br (decide (0 < (List.length ([(.agg [(i6 e_68.at_),(i6 12)])] ++ (l_90.map Dg.av)) : Int)))
(rt (.tuple [(i6 0),(.vs 2 false ([(.agg [(i6 e_68.at_),(i6 12)])] ++ (l_90.map Dg.av)))]))
(rt (.tuple [(i6 3),(.vs 2 true [])]))) .none) .none) .none) .none) .none) = some o) : ML C 100 qN5 6 (mkS 93 [(2,.lp 2 0),(3,.lp 3 0),vv 6 (.vs 2 true [(.agg [(i6 e_68.at_),(i6 12)])]),vb 7 true,vv 61 (.agg (Sc.cs w_67)),(62,.lp 3 3),vv 63 (.vs 5 e_68.tg (exs e_68.l)),vv 64 (.cptr (Ex.cs e_86)),vv 65 (.agg (Ex.cs e_86)),(66,.val (.tuple [(i6 x_88),(.vs 2 tg_89 (l_90.map Dg.av))]) (.comps [1]))] [(2,⟨(Sc.cs w_67),[]⟩),(3,⟨(Ex.cs e_68),[]⟩)] Hp.none 0) = some o := stM C 15 (fun _ _ => by kernel_rfl) ho
theorem p100_12 {w_67 : Sc} {e_68 e_87 : Ex} {tg_81 tg_92 : Bool} {l_82 l_93 : List Dg} {x_91 : Int} (ho : Tr.val C 100
(.br (za7 [(.tuple [(i6 x_91),(.vs 2 tg_92 (l_93.map Dg.av))])])
(.br (za7 [(.tuple [(i6 x_91),(.vs 2 tg_92 (l_93.map Dg.av))])])
(.br (AV.pure (.vs 2 tg_92 (l_93.map Dg.av)))
(.br (Nat.ble (((l_82.map Dg.av).length + (l_93.map Dg.av).length) * 16) za9)
(.br (Nat.ble ((l_82.map Dg.av).length + (l_93.map Dg.av).length) za9)
(.br (decide (((l_93.map Dg.av).length : Int) = 0))
(.br (!(decide (x_91 = 2)))
(.br (Nat.ble ((((l_82.map Dg.av) ++ (l_93.map Dg.av)).length + 1) * 16) za9)
(.br (Nat.ble (((l_82.map Dg.av) ++ (l_93.map Dg.av)).length + 1) za9)
(.br (decide (0 < (List.length (((l_82.map Dg.av) ++ (l_93.map Dg.av)) ++ [(.agg [(i6 e_68.at_),(i6 12)])]) : Int)))
(rt (.tuple [(i6 0),(.vs 2 false (((l_82.map Dg.av) ++ (l_93.map Dg.av)) ++ [(.agg [(i6 e_68.at_),(i6 12)])]))]))
(rt (.tuple [(i6 3),(.vs 2 true [])]))) .none) .none)
(.br (decide (0 < (((l_82.map Dg.av) ++ (l_93.map Dg.av)).length : Int)))
(rt (.tuple [(i6 0),(.vs 2 false ((l_82.map Dg.av) ++ (l_93.map Dg.av)))]))
(rt (.tuple [(i6 3),(.vs 2 true [])]))))
(.br (decide (0 < (((l_82.map Dg.av) ++ (l_93.map Dg.av)).length : Int)))
(rt (.tuple [(i6 0),(.vs 2 false ((l_82.map Dg.av) ++ (l_93.map Dg.av)))]))
(rt (.tuple [(i6 3),(.vs 2 true [])])))) .none) .none) .none) .none) .none) = some o) : ML C 100 qN6 6 (mkS 93 [(2,.lp 2 0),(3,.lp 3 0),(6,.val (.vs 2 tg_81 (l_82.map Dg.av)) .own),vb 7 false,vb 55 false,vv 61 (.agg (Sc.cs w_67)),(62,.lp 3 3),vv 63 (.vs 5 e_68.tg (exs e_68.l)),vv 64 (.cptr (Ex.cs e_87)),vv 65 (.agg (Ex.cs e_87)),(66,.val (.tuple [(i6 x_91),(.vs 2 tg_92 (l_93.map Dg.av))]) (.comps [1]))] [(2,⟨(Sc.cs w_67),[]⟩),(3,⟨(Ex.cs e_68),[]⟩)] Hp.none 0) = some o := stM C 15 (fun _ _ => by kernel_rfl) ho
theorem p52_c (hC : Ext C) {w_94 : Sc} {e_95 : Ex} (ho : RL C 52 [] (mk0 103 [vv 0 (.agg (Sc.cs w_94)),vv 1 (.agg (Ex.cs e_95))]) = some o) : calL C 52 [(.agg (Sc.cs w_94)),(.agg (Ex.cs e_95))] Hp.none 0 = some o := hC.call rfl (fun _ _ => by kernel_rfl) ho
theorem p52_0 {w_94 : Sc} {e_95 : Ex} (ho : Tr.val C 52
(.br (decide (e_95.kind = 1))
(rt (.tuple [(i6 1),(.vs 2 true [])]))
(.br (decide (e_95.kind = 2))
(rt (.tuple [(i6 2),(.vs 2 true [])]))
(.br (decide (e_95.kind = 3))
(rt (.tuple [(i6 3),(.vs 2 true [])]))
(.br (decide (e_95.kind = 4))
(cl0 97 [(.agg (Sc.cs w_94)),(.agg (Ex.cs e_95))] fun r1 => .br (AV.pure r1.v)
(.mid 24 [0,5,0,0,5,2,0,5,7,0,5,7,0,5,7,0,5,6,0] 3 (mkS 103 [(2,.lp 2 0),(3,.lp 3 0),vi 15 e_95.kind,vb 22 true,vv 24 (.agg (Sc.cs w_94)),vv 25 (.agg (Ex.cs e_95)),(26,.val r1.v (.comps [1]))] [(2,⟨(Sc.cs w_94),[]⟩),(3,⟨(Ex.cs e_95),[]⟩)] Hp.none 0)) .none)
(.br (decide (e_95.kind = 5))
(cl0 98 [(.agg (Sc.cs w_94)),(.agg (Ex.cs e_95))] fun r2 => .br (AV.pure r2.v)
(.mid 21 qN11 3 (mkS 103 [(2,.lp 2 0),(3,.lp 3 0),vb 29 true,vv 31 (.agg (Sc.cs w_94)),vv 32 (.agg (Ex.cs e_95)),(33,.val r2.v (.comps [1]))] [(2,⟨(Sc.cs w_94),[]⟩),(3,⟨(Ex.cs e_95),[]⟩)] Hp.none 0)) .none)
(.br (decide (e_95.kind = 6))
(.br (!(decide (((exs e_95.l).length : Int) = 1)))
(cl0 99 [(.agg (Ex.cs e_95)),(i6 12)] fun r3 => .br (AV.pure r3.v)
(.mid 13 qN7 2 (mkSM 103 [(2,.lp 2 0),(3,.lp 3 0),vb 49 true,vv 50 (.agg (Ex.cs e_95)),(51,.val r3.v (.comps [1]))] [(2,⟨(Sc.cs w_94),[]⟩),(3,⟨(Ex.cs e_95),[]⟩)] Hp.none 0 [(36,[((i6 6),(i6 1)),((i6 7),(i6 2))])])) .none)
(.br (eqS e_95.s [104,97,115])
(.br (decide (e_95.kind = 7))
(cl0 100 [(.agg (Sc.cs w_94)),(.agg (Ex.cs e_95))] fun r4 => .br (AV.pure r4.v)
(.mid 8 qN8 3 (mkSM 103 [(2,.lp 2 0),(3,.lp 3 0),vb 61 true,vv 62 (.agg (Sc.cs w_94)),vv 63 (.agg (Ex.cs e_95)),(64,.val r4.v (.comps [1]))] [(2,⟨(Sc.cs w_94),[]⟩),(3,⟨(Ex.cs e_95),[]⟩)] Hp.none 0 [(36,[((i6 6),(i6 1)),((i6 7),(i6 2))])])) .none)
(.run 0 qN2 (mkSM 103 [(2,.lp 2 0),(3,.lp 3 0),(7,.val (.vs 1 true []) .own),(8,.val (.vs 2 true []) .own),vv 68 (.vs 5 e_95.tg (exs e_95.l)),vi 69 ((exs e_95.l).length : Int),vi 70 0] [(2,⟨(Sc.cs w_94),[]⟩),(3,⟨(Ex.cs e_95),[]⟩)] Hp.none 0 [(36,[((i6 6),(i6 1)),((i6 7),(i6 2))])])))
(.run 0 qN2 (mkSM 103 [(2,.lp 2 0),(3,.lp 3 0),(7,.val (.vs 1 true []) .own),(8,.val (.vs 2 true []) .own),vv 68 (.vs 5 e_95.tg (exs e_95.l)),vi 69 ((exs e_95.l).length : Int),vi 70 0] [(2,⟨(Sc.cs w_94),[]⟩),(3,⟨(Ex.cs e_95),[]⟩)] Hp.none 0 [(36,[((i6 6),(i6 1)),((i6 7),(i6 2))])]))))
(.br (decide (e_95.kind = 7))
(.br (!(decide (((exs e_95.l).length : Int) = 2)))
(cl0 99 [(.agg (Ex.cs e_95)),(i6 12)] fun r5 => .br (AV.pure r5.v)
(.mid 13 qN7 2 (mkSM 103 [(2,.lp 2 0),(3,.lp 3 0),vb 49 true,vv 50 (.agg (Ex.cs e_95)),(51,.val r5.v (.comps [1]))] [(2,⟨(Sc.cs w_94),[]⟩),(3,⟨(Ex.cs e_95),[]⟩)] Hp.none 0 [(36,[((i6 6),(i6 1)),((i6 7),(i6 2))])])) .none)
(.br (eqS e_95.s [104,97,115])
(.br (decide (e_95.kind = 7))
(cl0 100 [(.agg (Sc.cs w_94)),(.agg (Ex.cs e_95))] fun r6 => .br (AV.pure r6.v)
(.mid 8 qN8 3 (mkSM 103 [(2,.lp 2 0),(3,.lp 3 0),vb 61 true,vv 62 (.agg (Sc.cs w_94)),vv 63 (.agg (Ex.cs e_95)),(64,.val r6.v (.comps [1]))] [(2,⟨(Sc.cs w_94),[]⟩),(3,⟨(Ex.cs e_95),[]⟩)] Hp.none 0 [(36,[((i6 6),(i6 1)),((i6 7),(i6 2))])])) .none)
(.run 0 qN2 (mkSM 103 [(2,.lp 2 0),(3,.lp 3 0),(7,.val (.vs 1 true []) .own),(8,.val (.vs 2 true []) .own),vv 68 (.vs 5 e_95.tg (exs e_95.l)),vi 69 ((exs e_95.l).length : Int),vi 70 0] [(2,⟨(Sc.cs w_94),[]⟩),(3,⟨(Ex.cs e_95),[]⟩)] Hp.none 0 [(36,[((i6 6),(i6 1)),((i6 7),(i6 2))])])))
(.run 0 qN2 (mkSM 103 [(2,.lp 2 0),(3,.lp 3 0),(7,.val (.vs 1 true []) .own),(8,.val (.vs 2 true []) .own),vv 68 (.vs 5 e_95.tg (exs e_95.l)),vi 69 ((exs e_95.l).length : Int),vi 70 0] [(2,⟨(Sc.cs w_94),[]⟩),(3,⟨(Ex.cs e_95),[]⟩)] Hp.none 0 [(36,[((i6 6),(i6 1)),((i6 7),(i6 2))])]))))
(cl0 99 [(.agg (Ex.cs e_95)),(i6 12)] fun r7 => .br (AV.pure r7.v)
(.mid 13 qN7 2 (mkSM 103 [(2,.lp 2 0),(3,.lp 3 0),vb 49 true,vv 50 (.agg (Ex.cs e_95)),(51,.val r7.v (.comps [1]))] [(2,⟨(Sc.cs w_94),[]⟩),(3,⟨(Ex.cs e_95),[]⟩)] Hp.none 0 [(36,[((i6 6),(i6 1)),((i6 7),(i6 2))])])) .none)))))))) = some o) : RL C 52 [] (mk0 103 [vv 0 (.agg (Sc.cs w_94)),vv 1 (.agg (Ex.cs e_95))]) = some o := stR C 44 (fun _ _ => by kernel_rfl) ho
theorem p52_1 {w_94 : Sc} {e_95 : Ex} {x_96 : Int} {tg_97 : Bool} {l_98 : List Dg} (ho : Tr.val C 52
(rt (.tuple [(i6 x_96),(.vs 2 tg_97 (l_98.map Dg.av))])) = some o) : ML C 52 [0,5,0,0,5,2,0,5,7,0,5,7,0,5,7,0,5,6,0] 3 (mkS 103 [(2,.lp 2 0),(3,.lp 3 0),vi 15 e_95.kind,vb 22 true,vv 24 (.agg (Sc.cs w_94)),vv 25 (.agg (Ex.cs e_95)),(26,.val (.tuple [(i6 x_96),(.vs 2 tg_97 (l_98.map Dg.av))]) (.comps [1]))] [(2,⟨(Sc.cs w_94),[]⟩),(3,⟨(Ex.cs e_95),[]⟩)] Hp.none 0) = some o := stM C 1 (fun _ _ => by kernel_rfl) ho
theorem p52_2 {w_94 : Sc} {e_95 : Ex} {x_99 : Int} {tg_100 : Bool} {l_101 : List Dg} (ho : Tr.val C 52
(rt (.tuple [(i6 x_99),(.vs 2 tg_100 (l_101.map Dg.av))])) = some o) : ML C 52 qN11 3 (mkS 103 [(2,.lp 2 0),(3,.lp 3 0),vb 29 true,vv 31 (.agg (Sc.cs w_94)),vv 32 (.agg (Ex.cs e_95)),(33,.val (.tuple [(i6 x_99),(.vs 2 tg_100 (l_101.map Dg.av))]) (.comps [1]))] [(2,⟨(Sc.cs w_94),[]⟩),(3,⟨(Ex.cs e_95),[]⟩)] Hp.none 0) = some o := stM C 1 (fun _ _ => by kernel_rfl) ho

theorem p52_4 {w_94 : Sc} {e_95 : Ex} {x_105 : Int} {tg_106 : Bool} {l_107 : List Dg} (ho : Tr.val C 52
(rt (.tuple [(i6 x_105),(.vs 2 tg_106 (l_107.map Dg.av))])) = some o) : ML C 52 qN8 3 (mkSM 103 [(2,.lp 2 0),(3,.lp 3 0),vb 61 true,vv 62 (.agg (Sc.cs w_94)),vv 63 (.agg (Ex.cs e_95)),(64,.val (.tuple [(i6 x_105),(.vs 2 tg_106 (l_107.map Dg.av))]) (.comps [1]))] [(2,⟨(Sc.cs w_94),[]⟩),(3,⟨(Ex.cs e_95),[]⟩)] Hp.none 0 [(36,[((i6 6),(i6 1)),((i6 7),(i6 2))])]) = some o := stM C 1 (fun _ _ => by kernel_rfl) ho
theorem p52_5 {tg_108 tg_110 tg_112 : Bool} {l_109 l_111 : List AV} {l_113 : List Ex} {x_114 x_115 : Int} {w_116 : Sc} {e_117 : Ex} (ho : Tr.val C 52
(.br (decide (x_115 < x_114))
(ix (exs l_113) x_115 fun c8 =>
(.mid 4 qN12 1 (mkSM 103 [(2,.lp 2 0),(3,.lp 3 0),(7,.val (.vs 1 tg_108 l_109) .own),(8,.val (.vs 2 tg_110 l_111) .own),vv 68 (.vs 5 tg_112 (exs l_113)),vi 69 x_114,vi 70 x_115,vb 71 true,vv 72 (.cptr (AV.cells c8))] [(2,⟨(Sc.cs w_116),[]⟩),(3,⟨(Ex.cs e_117),[]⟩)] Hp.none 0 [(36,[((i6 6),(i6 1)),((i6 7),(i6 2))])])))
(.br (decide (0 < (l_111.length : Int)))
(rt (.tuple [(i6 0),(.vs 2 tg_110 l_111)]))
(cl0 101 [(.str e_117.s),(.vs 1 tg_108 l_109)] fun r9 => .br (AV.pure r9.v)
(.mid 0 qN13 4 (mkSM 103 [(3,.lp 3 0),(7,.val (.vs 1 tg_108 l_109) .own),(8,.val (.vs 2 tg_110 l_111) .own),vb 90 false,(92,.lp 3 2),vt 93 e_117.s,(94,.val (.vs 1 tg_108 l_109) (.lS 7)),vv 95 r9.v] [(3,⟨(Ex.cs e_117),[]⟩)] Hp.none 0 [(36,[((i6 6),(i6 1)),((i6 7),(i6 2))])])) .none))) = some o) : RL C 52 qN2 (mkSM 103 [(2,.lp 2 0),(3,.lp 3 0),(7,.val (.vs 1 tg_108 l_109) .own),(8,.val (.vs 2 tg_110 l_111) .own),vv 68 (.vs 5 tg_112 (exs l_113)),vi 69 x_114,vi 70 x_115] [(2,⟨(Sc.cs w_116),[]⟩),(3,⟨(Ex.cs e_117),[]⟩)] Hp.none 0 [(36,[((i6 6),(i6 1)),((i6 7),(i6 2))])]) = some o := stR C 13 (fun _ _ => by kernel_rfl) ho
theorem p52_6 {tg_108 tg_110 tg_112 : Bool} {l_109 l_111 : List AV} {l_113 : List Ex} {x_114 x_115 : Int} {w_116 : Sc} {e_117 e_127 : Ex} (ho : Tr.val C 52
(cl0 52 [(.agg (Sc.cs w_116)),(.agg (Ex.cs e_127))] fun r10 => .br (AV.pure r10.v)
(.mid 0 qN14 3 (mkSM 103 [(2,.lp 2 0),(3,.lp 3 0),(7,.val (.vs 1 tg_108 l_109) .own),(8,.val (.vs 2 tg_110 l_111) .own),(10,.lp 10 0),vv 68 (.vs 5 tg_112 (exs l_113)),vi 69 x_114,vi 70 x_115,vv 75 (.agg (Sc.cs w_116)),vv 76 (.agg (Ex.cs e_127)),(77,.val r10.v (.comps [1]))] [(2,⟨(Sc.cs w_116),[]⟩),(3,⟨(Ex.cs e_117),[]⟩),(10,⟨(Ex.cs e_127),[]⟩)] Hp.none 0 [(36,[((i6 6),(i6 1)),((i6 7),(i6 2))])])) .none) = some o) : ML C 52 qN12 1 (mkSM 103 [(2,.lp 2 0),(3,.lp 3 0),(7,.val (.vs 1 tg_108 l_109) .own),(8,.val (.vs 2 tg_110 l_111) .own),vv 68 (.vs 5 tg_112 (exs l_113)),vi 69 x_114,vi 70 x_115,vb 71 true,vv 72 (.cptr (Ex.cs e_127))] [(2,⟨(Sc.cs w_116),[]⟩),(3,⟨(Ex.cs e_117),[]⟩)] Hp.none 0 [(36,[((i6 6),(i6 1)),((i6 7),(i6 2))])]) = some o := stM C 2 (fun _ _ => by kernel_rfl) ho
theorem p52_7 {tg_108 tg_110 : Bool} {l_109 l_111 : List AV} {e_117 : Ex} {x_128 : Int} (ho : Tr.val C 52
(.br (!(decide (x_128 = 0)))
(rt (.tuple [(i6 x_128),(.vs 2 true [])]))
(cl0 99 [(.agg (Ex.cs e_117)),(i6 12)] fun r11 => .br (AV.pure r11.v)
(.mid 0 qN15 2 (mkSM 103 [(3,.lp 3 0),vi 13 x_128,vb 97 false,vv 99 (.agg (Ex.cs e_117)),(100,.val r11.v (.comps [1]))] [(3,⟨(Ex.cs e_117),[]⟩)] Hp.none 0 [(36,[((i6 6),(i6 1)),((i6 7),(i6 2))])])) .none)) = some o) : ML C 52 qN13 4 (mkSM 103 [(3,.lp 3 0),(7,.val (.vs 1 tg_108 l_109) .own),(8,.val (.vs 2 tg_110 l_111) .own),vb 90 false,(92,.lp 3 2),vt 93 e_117.s,(94,.val (.vs 1 tg_108 l_109) (.lS 7)),vi 95 x_128] [(3,⟨(Ex.cs e_117),[]⟩)] Hp.none 0 [(36,[((i6 6),(i6 1)),((i6 7),(i6 2))])]) = some o := stM C 6 (fun _ _ => by kernel_rfl) ho
theorem p52_8 {tg_108 tg_110 tg_112 tg_130 : Bool} {l_109 l_111 : List AV} {l_113 : List Ex} {x_114 x_115 x_129 : Int} {w_116 : Sc} {e_117 e_127 : Ex} {l_131 : List Dg} (ho : Tr.val C 52
(.br (Nat.ble ((l_109.length + 1) * 8) za9)
(.br (Nat.ble (l_109.length + 1) za9)
(.br (Nat.ble ((l_111.length + (l_131.map Dg.av).length) * 16) za9)
(.br (Nat.ble (l_111.length + (l_131.map Dg.av).length) za9)
(.run 0 qN2 (mkSM 103 [(2,.lp 2 0),(3,.lp 3 0),(7,.val (.vs 1 false (l_109 ++ [(i6 x_129)])) .own),(8,.val (.vs 2 false (l_111 ++ (l_131.map Dg.av))) .own),vv 68 (.vs 5 tg_112 (exs l_113)),vi 69 x_114,vi 70 (w64 (x_115 + 1))] [(2,⟨(Sc.cs w_116),[]⟩),(3,⟨(Ex.cs e_117),[]⟩)] Hp.none 0 [(36,[((i6 6),(i6 1)),((i6 7),(i6 2))])])) .none) .none) .none) .none) = some o) : ML C 52 qN14 3 (mkSM 103 [(2,.lp 2 0),(3,.lp 3 0),(7,.val (.vs 1 tg_108 l_109) .own),(8,.val (.vs 2 tg_110 l_111) .own),(10,.lp 10 0),vv 68 (.vs 5 tg_112 (exs l_113)),vi 69 x_114,vi 70 x_115,vv 75 (.agg (Sc.cs w_116)),vv 76 (.agg (Ex.cs e_127)),(77,.val (.tuple [(i6 x_129),(.vs 2 tg_130 (l_131.map Dg.av))]) (.comps [1]))] [(2,⟨(Sc.cs w_116),[]⟩),(3,⟨(Ex.cs e_117),[]⟩),(10,⟨(Ex.cs e_127),[]⟩)] Hp.none 0 [(36,[((i6 6),(i6 1)),((i6 7),(i6 2))])]) = some o := stM C 4 (fun _ _ => by kernel_rfl) ho
theorem p52_9 {e_117 : Ex} {x_128 x_132 : Int} {tg_133 : Bool} {l_134 : List Dg} (ho : Tr.val C 52
(rt (.tuple [(i6 x_132),(.vs 2 tg_133 (l_134.map Dg.av))])) = some o) : ML C 52 qN15 2 (mkSM 103 [(3,.lp 3 0),vi 13 x_128,vb 97 false,vv 99 (.agg (Ex.cs e_117)),(100,.val (.tuple [(i6 x_132),(.vs 2 tg_133 (l_134.map Dg.av))]) (.comps [1]))] [(3,⟨(Ex.cs e_117),[]⟩)] Hp.none 0 [(36,[((i6 6),(i6 1)),((i6 7),(i6 2))])]) = some o := stM C 1 (fun _ _ => by kernel_rfl) ho
theorem p23_c (hC : Ext C) {t_135 : Typ} {tg_136 c_139 : Bool} {l_137 : List Par} {e_138 : Ex} (ho : RL C 23 [] (mk0 18 [vv 0 (.agg (Typ.cs t_135)),vv 1 (.vs 3 tg_136 (l_137.map Par.av)),vv 2 (.agg (Ex.cs e_138)),vb 3 c_139]) = some o) : calL C 23 [(.agg (Typ.cs t_135)),(.vs 3 tg_136 (l_137.map Par.av)),(.agg (Ex.cs e_138)),(.bool c_139)] Hp.none 0 = some o := hC.call rfl (fun _ _ => by kernel_rfl) ho
theorem p23_0 {t_135 : Typ} {tg_136 c_139 : Bool} {l_137 : List Par} {e_138 : Ex} (ho : Tr.val C 23
(cl0 52 [(.agg [(.str t_135.name),(.vs 4 t_135.tgF (t_135.fields.map Fld.av)),(.vs 4 t_135.tgO (t_135.ops.map Opn.av)),(.vs 8 t_135.tgQ (t_135.qrys.map Qry.av)),(.vs 2 t_135.tgI (t_135.idxs.map Idx.av)),(i6 t_135.at_),(.vs 3 tg_136 (l_137.map Par.av)),(.bool c_139)]),(.agg (Ex.cs e_138))] fun r1 => .br (AV.pure r1.v)
(.mid 0 [0,5,0] 6 (mkS 18 [vv 1 (.vs 3 tg_136 (l_137.map Par.av)),vb 3 c_139,(4,.lp 4 0),(6,.lp 6 0),vv 10 (.agg (Typ.cs t_135)),vv 11 (.vs 3 tg_136 (l_137.map Par.av)),vb 12 c_139,vv 13 (.agg [(.str t_135.name),(.vs 4 t_135.tgF (t_135.fields.map Fld.av)),(.vs 4 t_135.tgO (t_135.ops.map Opn.av)),(.vs 8 t_135.tgQ (t_135.qrys.map Qry.av)),(.vs 2 t_135.tgI (t_135.idxs.map Idx.av)),(i6 t_135.at_),(.vs 3 tg_136 (l_137.map Par.av)),(.bool c_139)]),vv 14 (.agg (Ex.cs e_138)),(15,.val r1.v (.comps [1]))] [(4,⟨(Typ.cs t_135),[]⟩),(6,⟨(Ex.cs e_138),[]⟩)] Hp.none 0)) .none) = some o) : RL C 23 [] (mk0 18 [vv 0 (.agg (Typ.cs t_135)),vv 1 (.vs 3 tg_136 (l_137.map Par.av)),vv 2 (.agg (Ex.cs e_138)),vb 3 c_139]) = some o := stR C 4 (fun _ _ => by kernel_rfl) ho
theorem p23_1 {t_135 : Typ} {tg_136 c_139 tg_141 : Bool} {l_137 : List Par} {e_138 : Ex} {x_140 : Int} {l_142 : List Dg} (ho : Tr.val C 23
(rt (.tuple [(i6 x_140),(.vs 2 tg_141 (l_142.map Dg.av))])) = some o) : ML C 23 [0,5,0] 6 (mkS 18 [vv 1 (.vs 3 tg_136 (l_137.map Par.av)),vb 3 c_139,(4,.lp 4 0),(6,.lp 6 0),vv 10 (.agg (Typ.cs t_135)),vv 11 (.vs 3 tg_136 (l_137.map Par.av)),vb 12 c_139,vv 13 (.agg [(.str t_135.name),(.vs 4 t_135.tgF (t_135.fields.map Fld.av)),(.vs 4 t_135.tgO (t_135.ops.map Opn.av)),(.vs 8 t_135.tgQ (t_135.qrys.map Qry.av)),(.vs 2 t_135.tgI (t_135.idxs.map Idx.av)),(i6 t_135.at_),(.vs 3 tg_136 (l_137.map Par.av)),(.bool c_139)]),vv 14 (.agg (Ex.cs e_138)),(15,.val (.tuple [(i6 x_140),(.vs 2 tg_141 (l_142.map Dg.av))]) (.comps [1]))] [(4,⟨(Typ.cs t_135),[]⟩),(6,⟨(Ex.cs e_138),[]⟩)] Hp.none 0) = some o := stM C 1 (fun _ _ => by kernel_rfl) ho
end Go.Proofs.YtfdklpkfpmkgeaaGreatDoor
end
