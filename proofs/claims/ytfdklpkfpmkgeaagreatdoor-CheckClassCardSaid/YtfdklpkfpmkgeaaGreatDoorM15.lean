/- Stage laws,printed by gen_p.py. -/
import Derived.Test.YtfdklpkfpmkgeaaGreatDoorM7
import Derived.Test.YtfdklpkfpmkgeaaGreatDoorM11
import Derived.Test.YtfdklpkfpmkgeaaGreatDoorM14
set_option linter.unusedSimpArgs false
set_option linter.unusedVariables false
set_option linter.unusedSectionVars false
set_option linter.unnecessarySimpa false
section
namespace Go.Proofs.YtfdklpkfpmkgeaaGreatDoor
open Go Go.Vai
attribute [local irreducible] goTo bodyOf mkS
variable {C : Nat → Oracle} {o : Out}
abbrev qK0 : List Nat := [0,5,0,5,0,0,5,2,3]
abbrev qK1 : List Nat := [0,5,0,5,0,0,5,2,3,0,5,0,6,5,0,2,0,5,0,0,5,7,5,0]
abbrev qK2 : List Nat := [0,5,0,5,0,0,5,2,3,0,5,0,6,5,0,2,0]
abbrev qK3 : List Nat := [0,5,0,0,5,2,3,0,0,5,6,5,0,2,0,5,0,0,5,2,0,5,7,0,5,6,0]
abbrev qK4 : List Nat := [0,5,0,0,5,2,3,0,0,5,6,5,0,2,0,5,0,0,5,2,0,5,7,0,5,6,0,5,0]
theorem p35_c (hC : Ext C) {tg_1 : Bool} {l_2 : List AV} (ho : RL C 35 [] (mk0 89 [vv 0 (.vs 6 tg_1 l_2)]) = some o) : calL C 35 [(.vs 6 tg_1 l_2)] Hp.none 0 = some o := hC.call rfl (fun _ _ => by kernel_rfl) ho
theorem p35_0 {tg_1 : Bool} {l_2 : List AV} (ho : Tr.val C 35
 (.run 0 qK0 (mkS 89 [(2,.lp 2 0),(3,.lp 3 0),vv 8 (.vs 6 tg_1 l_2),vi 9 (((List.length l_2) : Nat) : Int),vi 10 0] [(2,⟨[(i6 0),(i6 0),(.bool false),(.bool false)],[]⟩),(3,⟨[(i6 0),(i6 0),(.bool false),(.bool false)],[]⟩)] Hp.none 0)) = some o) : RL C 35 [] (mk0 89 [vv 0 (.vs 6 tg_1 l_2)]) = some o := stR C 9 (fun _ _ => by kernel_rfl) ho
theorem p35_1 {tg_3 c_9 c_10 c_13 c_14 : Bool} {l_4 : List AV} {x_5 x_6 x_7 x_8 x_11 x_12 : Int} (ho : Tr.val C 35
 (.br (decide (x_6 < x_5))
 (.br (decide ((0 : Int) ≤ x_6))
 (.br (decide (x_6 < (((List.length l_4) : Nat) : Int)))
 (.bind (nth l_4 (Int.toNat x_6)) fun c1 =>
 (.mid 0 qK2 1 (mkS 89 [(2,.lp 2 0),(3,.lp 3 0),vv 8 (.vs 6 tg_3 l_4),vi 9 x_5,vi 10 x_6,vb 11 true,vv 12 (.cptr (AV.cells c1))] [(2,⟨[(i6 x_7),(i6 x_8),(.bool c_9),(.bool c_10)],[]⟩),(3,⟨[(i6 x_11),(i6 x_12),(.bool c_13),(.bool c_14)],[]⟩)] Hp.none 0)))
 .none)
 .none)
 (.ret ⟨(.agg [(.int .i64 x_11),(.int .i64 x_12),(.bool c_13),(.bool c_14)]),Hp.none,0⟩)) = some o) : RL C 35 qK0 (mkS 89 [(2,.lp 2 0),(3,.lp 3 0),vv 8 (.vs 6 tg_3 l_4),vi 9 x_5,vi 10 x_6] [(2,⟨[(i6 x_7),(i6 x_8),(.bool c_9),(.bool c_10)],[]⟩),(3,⟨[(i6 x_11),(i6 x_12),(.bool c_13),(.bool c_14)],[]⟩)] Hp.none 0) = some o := stR C 9 (fun _ _ => by kernel_rfl) ho
theorem p35_2 {tg_3 c_9 c_10 c_13 c_14 tg_17 tg_19 tg_21 : Bool} {l_4 l_18 l_20 l_22 : List AV} {x_5 x_6 x_7 x_8 x_11 x_12 x_15 x_23 : Int} {s_16 : List UInt8} (ho : Tr.val C 35
 (.br (!(decide (x_15 = 6)))
 (.br c_13
 (.br c_14
 (.run 0 qK0 (mkS 89 [(2,.lp 2 0),(3,.lp 3 0),vv 8 (.vs 6 tg_3 l_4),vi 9 x_5,vi 10 (IntKind.wrap .i64 (x_6 + 1))] [(2,⟨[(i6 x_7),(i6 x_8),(.bool c_9),(.bool c_10)],[]⟩),(3,⟨[(.int .i64 (IntKind.wrap .i64 (x_11 + 1))),(.int .i64 (IntKind.wrap .i64 (x_12 + 1))),(.bool true),(.bool true)],[]⟩),(5,⟨[(i6 x_15),(.str s_16),(.vs 5 tg_17 l_18),(.vs 6 tg_19 l_20),(.vs 6 tg_21 l_22),(i6 x_23)],[]⟩)] Hp.none 0))
 (.run 0 qK0 (mkS 89 [(2,.lp 2 0),(3,.lp 3 0),vv 8 (.vs 6 tg_3 l_4),vi 9 x_5,vi 10 (IntKind.wrap .i64 (x_6 + 1))] [(2,⟨[(i6 x_7),(i6 x_8),(.bool c_9),(.bool c_10)],[]⟩),(3,⟨[(.int .i64 (IntKind.wrap .i64 (x_11 + 1))),(.int .i64 (IntKind.wrap .i64 (x_12 + 1))),(.bool true),(.bool (!(decide (x_15 = 1))))],[]⟩),(5,⟨[(i6 x_15),(.str s_16),(.vs 5 tg_17 l_18),(.vs 6 tg_19 l_20),(.vs 6 tg_21 l_22),(i6 x_23)],[]⟩)] Hp.none 0)))
 (.br c_14
 (.run 0 qK0 (mkS 89 [(2,.lp 2 0),(3,.lp 3 0),vv 8 (.vs 6 tg_3 l_4),vi 9 x_5,vi 10 (IntKind.wrap .i64 (x_6 + 1))] [(2,⟨[(i6 x_7),(i6 x_8),(.bool c_9),(.bool c_10)],[]⟩),(3,⟨[(.int .i64 (IntKind.wrap .i64 (x_11 + 1))),(.int .i64 (IntKind.wrap .i64 (x_12 + 1))),(.bool (decide (x_15 = 1))),(.bool true)],[]⟩),(5,⟨[(i6 x_15),(.str s_16),(.vs 5 tg_17 l_18),(.vs 6 tg_19 l_20),(.vs 6 tg_21 l_22),(i6 x_23)],[]⟩)] Hp.none 0))
 (.run 0 qK0 (mkS 89 [(2,.lp 2 0),(3,.lp 3 0),vv 8 (.vs 6 tg_3 l_4),vi 9 x_5,vi 10 (IntKind.wrap .i64 (x_6 + 1))] [(2,⟨[(i6 x_7),(i6 x_8),(.bool c_9),(.bool c_10)],[]⟩),(3,⟨[(.int .i64 (IntKind.wrap .i64 (x_11 + 1))),(.int .i64 (IntKind.wrap .i64 (x_12 + 1))),(.bool (decide (x_15 = 1))),(.bool (!(decide (x_15 = 1))))],[]⟩),(5,⟨[(i6 x_15),(.str s_16),(.vs 5 tg_17 l_18),(.vs 6 tg_19 l_20),(.vs 6 tg_21 l_22),(i6 x_23)],[]⟩)] Hp.none 0))))
 (.br (pureL [(.vs 6 tg_19 l_20)])
 (cl0 35 [(.vs 6 tg_19 l_20)] fun r2 => .br (AV.pure r2.v)
 (.br (AV.pure r2.v)
 (.mid 8 qK1 3 (mkS 89 [(2,.lp 2 0),(3,.lp 3 0),(5,.lp 5 0),vv 8 (.vs 6 tg_3 l_4),vi 9 x_5,vi 10 x_6,vb 16 false,(41,.lp 5 3),vv 42 (.vs 6 tg_19 l_20),vv 43 r2.v] [(2,⟨[(i6 x_7),(i6 x_8),(.bool c_9),(.bool c_10)],[]⟩),(3,⟨[(i6 x_11),(i6 x_12),(.bool c_13),(.bool c_14)],[]⟩),(5,⟨[(i6 x_15),(.str s_16),(.vs 5 tg_17 l_18),(.vs 6 tg_19 l_20),(.vs 6 tg_21 l_22),(i6 x_23)],[]⟩)] Hp.none 0))
 .none) .none)
 .none)) = some o) : ML C 35 qK2 1 (mkS 89 [(2,.lp 2 0),(3,.lp 3 0),vv 8 (.vs 6 tg_3 l_4),vi 9 x_5,vi 10 x_6,vb 11 true,vv 12 (.cptr [(i6 x_15),(.str s_16),(.vs 5 tg_17 l_18),(.vs 6 tg_19 l_20),(.vs 6 tg_21 l_22),(i6 x_23)])] [(2,⟨[(i6 x_7),(i6 x_8),(.bool c_9),(.bool c_10)],[]⟩),(3,⟨[(i6 x_11),(i6 x_12),(.bool c_13),(.bool c_14)],[]⟩)] Hp.none 0) = some o := stM C 15 (fun _ _ => by kernel_rfl) ho
theorem p35_3 {tg_24 c_30 c_31 c_34 c_35 tg_38 tg_40 tg_42 : Bool} {l_25 l_39 l_41 l_43 : List AV} {x_26 x_27 x_28 x_29 x_32 x_33 x_36 x_44 : Int} {s_37 : List UInt8} (ho : Tr.val C 35
 (.br (decide (x_27 < x_26))
 (.br (decide ((0 : Int) ≤ x_27))
 (.br (decide (x_27 < (((List.length l_25) : Nat) : Int)))
 (.bind (nth l_25 (Int.toNat x_27)) fun c3 =>
 (.mid 0 qK2 1 (mkS 89 [(2,.lp 2 0),(3,.lp 3 0),vv 8 (.vs 6 tg_24 l_25),vi 9 x_26,vi 10 x_27,vb 11 true,vv 12 (.cptr (AV.cells c3))] [(2,⟨[(i6 x_28),(i6 x_29),(.bool c_30),(.bool c_31)],[]⟩),(3,⟨[(i6 x_32),(i6 x_33),(.bool c_34),(.bool c_35)],[]⟩),(5,⟨[(i6 x_36),(.str s_37),(.vs 5 tg_38 l_39),(.vs 6 tg_40 l_41),(.vs 6 tg_42 l_43),(i6 x_44)],[]⟩)] Hp.none 0)))
 .none)
 .none)
 (.ret ⟨(.agg [(.int .i64 x_32),(.int .i64 x_33),(.bool c_34),(.bool c_35)]),Hp.none,0⟩)) = some o) : RL C 35 qK0 (mkS 89 [(2,.lp 2 0),(3,.lp 3 0),vv 8 (.vs 6 tg_24 l_25),vi 9 x_26,vi 10 x_27] [(2,⟨[(i6 x_28),(i6 x_29),(.bool c_30),(.bool c_31)],[]⟩),(3,⟨[(i6 x_32),(i6 x_33),(.bool c_34),(.bool c_35)],[]⟩),(5,⟨[(i6 x_36),(.str s_37),(.vs 5 tg_38 l_39),(.vs 6 tg_40 l_41),(.vs 6 tg_42 l_43),(i6 x_44)],[]⟩)] Hp.none 0) = some o := stR C 9 (fun _ _ => by kernel_rfl) ho
theorem p35_4 {tg_3 c_9 c_10 c_13 c_14 tg_17 tg_19 tg_21 c_47 c_48 : Bool} {l_4 l_18 l_20 l_22 : List AV} {x_5 x_6 x_7 x_8 x_11 x_12 x_15 x_23 x_45 x_46 : Int} {s_16 : List UInt8} (ho : Tr.val C 35
 (.br (pureL [(.vs 6 tg_21 l_22)])
 (cl0 35 [(.vs 6 tg_21 l_22)] fun r4 => .br (AV.pure r4.v)
 (.br (AV.pure r4.v)
 (.mid 0 qK1 6 (mkS 89 [(2,.lp 2 0),(3,.lp 3 0),(5,.lp 5 0),vv 8 (.vs 6 tg_3 l_4),vi 9 x_5,vi 10 x_6,vb 16 false,(41,.lp 5 3),vv 42 (.vs 6 tg_19 l_20),vv 43 (.agg [(i6 x_45),(i6 x_46),(.bool c_47),(.bool c_48)]),(44,.lp 5 4),vv 45 (.vs 6 tg_21 l_22),vv 46 r4.v] [(2,⟨[(i6 x_7),(i6 x_8),(.bool c_9),(.bool c_10)],[]⟩),(3,⟨[(i6 x_11),(i6 x_12),(.bool c_13),(.bool c_14)],[]⟩),(5,⟨[(i6 x_15),(.str s_16),(.vs 5 tg_17 l_18),(.vs 6 tg_19 l_20),(.vs 6 tg_21 l_22),(i6 x_23)],[]⟩)] Hp.none 0))
 .none) .none)
 .none) = some o) : ML C 35 qK1 3 (mkS 89 [(2,.lp 2 0),(3,.lp 3 0),(5,.lp 5 0),vv 8 (.vs 6 tg_3 l_4),vi 9 x_5,vi 10 x_6,vb 16 false,(41,.lp 5 3),vv 42 (.vs 6 tg_19 l_20),vv 43 (.agg [(i6 x_45),(i6 x_46),(.bool c_47),(.bool c_48)])] [(2,⟨[(i6 x_7),(i6 x_8),(.bool c_9),(.bool c_10)],[]⟩),(3,⟨[(i6 x_11),(i6 x_12),(.bool c_13),(.bool c_14)],[]⟩),(5,⟨[(i6 x_15),(.str s_16),(.vs 5 tg_17 l_18),(.vs 6 tg_19 l_20),(.vs 6 tg_21 l_22),(i6 x_23)],[]⟩)] Hp.none 0) = some o := stM C 0 (fun _ _ => by kernel_rfl) ho
theorem p35_5 {tg_24 c_30 c_31 c_34 c_35 tg_38 tg_40 tg_42 tg_51 tg_53 tg_55 : Bool} {l_25 l_39 l_41 l_43 l_52 l_54 l_56 : List AV} {x_26 x_27 x_28 x_29 x_32 x_33 x_36 x_44 x_49 x_57 : Int} {s_37 s_50 : List UInt8} (ho : Tr.val C 35
 (.br (!(decide (x_49 = 6)))
 (.br c_34
 (.br c_35
 (.run 0 qK0 (mkS 89 [(2,.lp 2 0),(3,.lp 3 0),vv 8 (.vs 6 tg_24 l_25),vi 9 x_26,vi 10 (IntKind.wrap .i64 (x_27 + 1))] [(2,⟨[(i6 x_28),(i6 x_29),(.bool c_30),(.bool c_31)],[]⟩),(3,⟨[(.int .i64 (IntKind.wrap .i64 (x_32 + 1))),(.int .i64 (IntKind.wrap .i64 (x_33 + 1))),(.bool true),(.bool true)],[]⟩),(5,⟨[(i6 x_49),(.str s_50),(.vs 5 tg_51 l_52),(.vs 6 tg_53 l_54),(.vs 6 tg_55 l_56),(i6 x_57)],[]⟩)] Hp.none 0))
 (.run 0 qK0 (mkS 89 [(2,.lp 2 0),(3,.lp 3 0),vv 8 (.vs 6 tg_24 l_25),vi 9 x_26,vi 10 (IntKind.wrap .i64 (x_27 + 1))] [(2,⟨[(i6 x_28),(i6 x_29),(.bool c_30),(.bool c_31)],[]⟩),(3,⟨[(.int .i64 (IntKind.wrap .i64 (x_32 + 1))),(.int .i64 (IntKind.wrap .i64 (x_33 + 1))),(.bool true),(.bool (!(decide (x_49 = 1))))],[]⟩),(5,⟨[(i6 x_49),(.str s_50),(.vs 5 tg_51 l_52),(.vs 6 tg_53 l_54),(.vs 6 tg_55 l_56),(i6 x_57)],[]⟩)] Hp.none 0)))
 (.br c_35
 (.run 0 qK0 (mkS 89 [(2,.lp 2 0),(3,.lp 3 0),vv 8 (.vs 6 tg_24 l_25),vi 9 x_26,vi 10 (IntKind.wrap .i64 (x_27 + 1))] [(2,⟨[(i6 x_28),(i6 x_29),(.bool c_30),(.bool c_31)],[]⟩),(3,⟨[(.int .i64 (IntKind.wrap .i64 (x_32 + 1))),(.int .i64 (IntKind.wrap .i64 (x_33 + 1))),(.bool (decide (x_49 = 1))),(.bool true)],[]⟩),(5,⟨[(i6 x_49),(.str s_50),(.vs 5 tg_51 l_52),(.vs 6 tg_53 l_54),(.vs 6 tg_55 l_56),(i6 x_57)],[]⟩)] Hp.none 0))
 (.run 0 qK0 (mkS 89 [(2,.lp 2 0),(3,.lp 3 0),vv 8 (.vs 6 tg_24 l_25),vi 9 x_26,vi 10 (IntKind.wrap .i64 (x_27 + 1))] [(2,⟨[(i6 x_28),(i6 x_29),(.bool c_30),(.bool c_31)],[]⟩),(3,⟨[(.int .i64 (IntKind.wrap .i64 (x_32 + 1))),(.int .i64 (IntKind.wrap .i64 (x_33 + 1))),(.bool (decide (x_49 = 1))),(.bool (!(decide (x_49 = 1))))],[]⟩),(5,⟨[(i6 x_49),(.str s_50),(.vs 5 tg_51 l_52),(.vs 6 tg_53 l_54),(.vs 6 tg_55 l_56),(i6 x_57)],[]⟩)] Hp.none 0))))
 (.br (pureL [(.vs 6 tg_53 l_54)])
 (cl0 35 [(.vs 6 tg_53 l_54)] fun r5 => .br (AV.pure r5.v)
 (.br (AV.pure r5.v)
 (.mid 8 qK1 3 (mkS 89 [(2,.lp 2 0),(3,.lp 3 0),(5,.lp 5 0),vv 8 (.vs 6 tg_24 l_25),vi 9 x_26,vi 10 x_27,vb 16 false,(41,.lp 5 3),vv 42 (.vs 6 tg_53 l_54),vv 43 r5.v] [(2,⟨[(i6 x_28),(i6 x_29),(.bool c_30),(.bool c_31)],[]⟩),(3,⟨[(i6 x_32),(i6 x_33),(.bool c_34),(.bool c_35)],[]⟩),(5,⟨[(i6 x_49),(.str s_50),(.vs 5 tg_51 l_52),(.vs 6 tg_53 l_54),(.vs 6 tg_55 l_56),(i6 x_57)],[]⟩)] Hp.none 0))
 .none) .none)
 .none)) = some o) : ML C 35 qK2 1 (mkS 89 [(2,.lp 2 0),(3,.lp 3 0),vv 8 (.vs 6 tg_24 l_25),vi 9 x_26,vi 10 x_27,vb 11 true,vv 12 (.cptr [(i6 x_49),(.str s_50),(.vs 5 tg_51 l_52),(.vs 6 tg_53 l_54),(.vs 6 tg_55 l_56),(i6 x_57)])] [(2,⟨[(i6 x_28),(i6 x_29),(.bool c_30),(.bool c_31)],[]⟩),(3,⟨[(i6 x_32),(i6 x_33),(.bool c_34),(.bool c_35)],[]⟩),(5,⟨[(i6 x_36),(.str s_37),(.vs 5 tg_38 l_39),(.vs 6 tg_40 l_41),(.vs 6 tg_42 l_43),(i6 x_44)],[]⟩)] Hp.none 0) = some o := stM C 15 (fun _ _ => by kernel_rfl) ho
theorem p35_6 {tg_3 c_9 c_10 c_13 c_14 tg_17 tg_19 tg_21 c_47 c_48 c_60 c_61 : Bool} {l_4 l_18 l_20 l_22 : List AV} {x_5 x_6 x_7 x_8 x_11 x_12 x_15 x_23 x_45 x_46 x_58 x_59 : Int} {s_16 : List UInt8} (ho : Tr.val C 35
 (.br c_13
 (.br c_14
 (.run 0 qK0 (mkS 89 [(2,.lp 2 0),(3,.lp 3 0),vv 8 (.vs 6 tg_3 l_4),vi 9 x_5,vi 10 (IntKind.wrap .i64 (x_6 + 1))] [(2,⟨[(i6 x_7),(i6 x_8),(.bool c_9),(.bool c_10)],[]⟩),(3,⟨[(.int .i64 (IntKind.wrap .i64 (x_11 + (if x_58 < x_45 then x_58 else x_45)))),(.int .i64 (IntKind.wrap .i64 (x_12 + (if x_46 < x_59 then x_59 else x_46)))),(.bool true),(.bool true)],[]⟩),(5,⟨[(i6 x_15),(.str s_16),(.vs 5 tg_17 l_18),(.vs 6 tg_19 l_20),(.vs 6 tg_21 l_22),(i6 x_23)],[]⟩),(6,⟨[(i6 x_45),(i6 x_46),(.bool c_47),(.bool c_48)],[]⟩),(7,⟨[(i6 x_58),(i6 x_59),(.bool c_60),(.bool c_61)],[]⟩)] Hp.none 0))
 (.br c_48
 (.run 0 qK0 (mkS 89 [(2,.lp 2 0),(3,.lp 3 0),vv 8 (.vs 6 tg_3 l_4),vi 9 x_5,vi 10 (IntKind.wrap .i64 (x_6 + 1))] [(2,⟨[(i6 x_7),(i6 x_8),(.bool c_9),(.bool c_10)],[]⟩),(3,⟨[(.int .i64 (IntKind.wrap .i64 (x_11 + (if x_58 < x_45 then x_58 else x_45)))),(.int .i64 (IntKind.wrap .i64 (x_12 + (if x_46 < x_59 then x_59 else x_46)))),(.bool true),(.bool true)],[]⟩),(5,⟨[(i6 x_15),(.str s_16),(.vs 5 tg_17 l_18),(.vs 6 tg_19 l_20),(.vs 6 tg_21 l_22),(i6 x_23)],[]⟩),(6,⟨[(i6 x_45),(i6 x_46),(.bool c_47),(.bool c_48)],[]⟩),(7,⟨[(i6 x_58),(i6 x_59),(.bool c_60),(.bool c_61)],[]⟩)] Hp.none 0))
 (.run 0 qK0 (mkS 89 [(2,.lp 2 0),(3,.lp 3 0),vv 8 (.vs 6 tg_3 l_4),vi 9 x_5,vi 10 (IntKind.wrap .i64 (x_6 + 1))] [(2,⟨[(i6 x_7),(i6 x_8),(.bool c_9),(.bool c_10)],[]⟩),(3,⟨[(.int .i64 (IntKind.wrap .i64 (x_11 + (if x_58 < x_45 then x_58 else x_45)))),(.int .i64 (IntKind.wrap .i64 (x_12 + (if x_46 < x_59 then x_59 else x_46)))),(.bool true),(.bool c_61)],[]⟩),(5,⟨[(i6 x_15),(.str s_16),(.vs 5 tg_17 l_18),(.vs 6 tg_19 l_20),(.vs 6 tg_21 l_22),(i6 x_23)],[]⟩),(6,⟨[(i6 x_45),(i6 x_46),(.bool c_47),(.bool c_48)],[]⟩),(7,⟨[(i6 x_58),(i6 x_59),(.bool c_60),(.bool c_61)],[]⟩)] Hp.none 0))))
 (.br c_47
 (.br c_14
 (.run 0 qK0 (mkS 89 [(2,.lp 2 0),(3,.lp 3 0),vv 8 (.vs 6 tg_3 l_4),vi 9 x_5,vi 10 (IntKind.wrap .i64 (x_6 + 1))] [(2,⟨[(i6 x_7),(i6 x_8),(.bool c_9),(.bool c_10)],[]⟩),(3,⟨[(.int .i64 (IntKind.wrap .i64 (x_11 + (if x_58 < x_45 then x_58 else x_45)))),(.int .i64 (IntKind.wrap .i64 (x_12 + (if x_46 < x_59 then x_59 else x_46)))),(.bool true),(.bool true)],[]⟩),(5,⟨[(i6 x_15),(.str s_16),(.vs 5 tg_17 l_18),(.vs 6 tg_19 l_20),(.vs 6 tg_21 l_22),(i6 x_23)],[]⟩),(6,⟨[(i6 x_45),(i6 x_46),(.bool c_47),(.bool c_48)],[]⟩),(7,⟨[(i6 x_58),(i6 x_59),(.bool c_60),(.bool c_61)],[]⟩)] Hp.none 0))
 (.br c_48
 (.run 0 qK0 (mkS 89 [(2,.lp 2 0),(3,.lp 3 0),vv 8 (.vs 6 tg_3 l_4),vi 9 x_5,vi 10 (IntKind.wrap .i64 (x_6 + 1))] [(2,⟨[(i6 x_7),(i6 x_8),(.bool c_9),(.bool c_10)],[]⟩),(3,⟨[(.int .i64 (IntKind.wrap .i64 (x_11 + (if x_58 < x_45 then x_58 else x_45)))),(.int .i64 (IntKind.wrap .i64 (x_12 + (if x_46 < x_59 then x_59 else x_46)))),(.bool true),(.bool true)],[]⟩),(5,⟨[(i6 x_15),(.str s_16),(.vs 5 tg_17 l_18),(.vs 6 tg_19 l_20),(.vs 6 tg_21 l_22),(i6 x_23)],[]⟩),(6,⟨[(i6 x_45),(i6 x_46),(.bool c_47),(.bool c_48)],[]⟩),(7,⟨[(i6 x_58),(i6 x_59),(.bool c_60),(.bool c_61)],[]⟩)] Hp.none 0))
 (.run 0 qK0 (mkS 89 [(2,.lp 2 0),(3,.lp 3 0),vv 8 (.vs 6 tg_3 l_4),vi 9 x_5,vi 10 (IntKind.wrap .i64 (x_6 + 1))] [(2,⟨[(i6 x_7),(i6 x_8),(.bool c_9),(.bool c_10)],[]⟩),(3,⟨[(.int .i64 (IntKind.wrap .i64 (x_11 + (if x_58 < x_45 then x_58 else x_45)))),(.int .i64 (IntKind.wrap .i64 (x_12 + (if x_46 < x_59 then x_59 else x_46)))),(.bool true),(.bool c_61)],[]⟩),(5,⟨[(i6 x_15),(.str s_16),(.vs 5 tg_17 l_18),(.vs 6 tg_19 l_20),(.vs 6 tg_21 l_22),(i6 x_23)],[]⟩),(6,⟨[(i6 x_45),(i6 x_46),(.bool c_47),(.bool c_48)],[]⟩),(7,⟨[(i6 x_58),(i6 x_59),(.bool c_60),(.bool c_61)],[]⟩)] Hp.none 0))))
 (.br c_14
 (.run 0 qK0 (mkS 89 [(2,.lp 2 0),(3,.lp 3 0),vv 8 (.vs 6 tg_3 l_4),vi 9 x_5,vi 10 (IntKind.wrap .i64 (x_6 + 1))] [(2,⟨[(i6 x_7),(i6 x_8),(.bool c_9),(.bool c_10)],[]⟩),(3,⟨[(.int .i64 (IntKind.wrap .i64 (x_11 + (if x_58 < x_45 then x_58 else x_45)))),(.int .i64 (IntKind.wrap .i64 (x_12 + (if x_46 < x_59 then x_59 else x_46)))),(.bool c_60),(.bool true)],[]⟩),(5,⟨[(i6 x_15),(.str s_16),(.vs 5 tg_17 l_18),(.vs 6 tg_19 l_20),(.vs 6 tg_21 l_22),(i6 x_23)],[]⟩),(6,⟨[(i6 x_45),(i6 x_46),(.bool c_47),(.bool c_48)],[]⟩),(7,⟨[(i6 x_58),(i6 x_59),(.bool c_60),(.bool c_61)],[]⟩)] Hp.none 0))
 (.br c_48
 (.run 0 qK0 (mkS 89 [(2,.lp 2 0),(3,.lp 3 0),vv 8 (.vs 6 tg_3 l_4),vi 9 x_5,vi 10 (IntKind.wrap .i64 (x_6 + 1))] [(2,⟨[(i6 x_7),(i6 x_8),(.bool c_9),(.bool c_10)],[]⟩),(3,⟨[(.int .i64 (IntKind.wrap .i64 (x_11 + (if x_58 < x_45 then x_58 else x_45)))),(.int .i64 (IntKind.wrap .i64 (x_12 + (if x_46 < x_59 then x_59 else x_46)))),(.bool c_60),(.bool true)],[]⟩),(5,⟨[(i6 x_15),(.str s_16),(.vs 5 tg_17 l_18),(.vs 6 tg_19 l_20),(.vs 6 tg_21 l_22),(i6 x_23)],[]⟩),(6,⟨[(i6 x_45),(i6 x_46),(.bool c_47),(.bool c_48)],[]⟩),(7,⟨[(i6 x_58),(i6 x_59),(.bool c_60),(.bool c_61)],[]⟩)] Hp.none 0))
 (.run 0 qK0 (mkS 89 [(2,.lp 2 0),(3,.lp 3 0),vv 8 (.vs 6 tg_3 l_4),vi 9 x_5,vi 10 (IntKind.wrap .i64 (x_6 + 1))] [(2,⟨[(i6 x_7),(i6 x_8),(.bool c_9),(.bool c_10)],[]⟩),(3,⟨[(.int .i64 (IntKind.wrap .i64 (x_11 + (if x_58 < x_45 then x_58 else x_45)))),(.int .i64 (IntKind.wrap .i64 (x_12 + (if x_46 < x_59 then x_59 else x_46)))),(.bool c_60),(.bool c_61)],[]⟩),(5,⟨[(i6 x_15),(.str s_16),(.vs 5 tg_17 l_18),(.vs 6 tg_19 l_20),(.vs 6 tg_21 l_22),(i6 x_23)],[]⟩),(6,⟨[(i6 x_45),(i6 x_46),(.bool c_47),(.bool c_48)],[]⟩),(7,⟨[(i6 x_58),(i6 x_59),(.bool c_60),(.bool c_61)],[]⟩)] Hp.none 0)))))) = some o) : ML C 35 qK1 6 (mkS 89 [(2,.lp 2 0),(3,.lp 3 0),(5,.lp 5 0),vv 8 (.vs 6 tg_3 l_4),vi 9 x_5,vi 10 x_6,vb 16 false,(41,.lp 5 3),vv 42 (.vs 6 tg_19 l_20),vv 43 (.agg [(i6 x_45),(i6 x_46),(.bool c_47),(.bool c_48)]),(44,.lp 5 4),vv 45 (.vs 6 tg_21 l_22),vv 46 (.agg [(i6 x_58),(i6 x_59),(.bool c_60),(.bool c_61)])] [(2,⟨[(i6 x_7),(i6 x_8),(.bool c_9),(.bool c_10)],[]⟩),(3,⟨[(i6 x_11),(i6 x_12),(.bool c_13),(.bool c_14)],[]⟩),(5,⟨[(i6 x_15),(.str s_16),(.vs 5 tg_17 l_18),(.vs 6 tg_19 l_20),(.vs 6 tg_21 l_22),(i6 x_23)],[]⟩)] Hp.none 0) = some o := stM C 10 (fun _ _ => by kernel_rfl) ho
theorem p35_7 {tg_66 c_72 c_73 c_76 c_77 tg_80 tg_82 tg_84 c_89 c_90 c_93 c_94 : Bool} {l_67 l_81 l_83 l_85 : List AV} {x_68 x_69 x_70 x_71 x_74 x_75 x_78 x_86 x_87 x_88 x_91 x_92 : Int} {s_79 : List UInt8} (ho : Tr.val C 35
 (.br (decide (x_69 < x_68))
 (.br (decide ((0 : Int) ≤ x_69))
 (.br (decide (x_69 < (((List.length l_67) : Nat) : Int)))
 (.bind (nth l_67 (Int.toNat x_69)) fun c6 =>
 (.mid 0 qK2 1 (mkS 89 [(2,.lp 2 0),(3,.lp 3 0),vv 8 (.vs 6 tg_66 l_67),vi 9 x_68,vi 10 x_69,vb 11 true,vv 12 (.cptr (AV.cells c6))] [(2,⟨[(i6 x_70),(i6 x_71),(.bool c_72),(.bool c_73)],[]⟩),(3,⟨[(i6 x_74),(i6 x_75),(.bool c_76),(.bool c_77)],[]⟩),(5,⟨[(i6 x_78),(.str s_79),(.vs 5 tg_80 l_81),(.vs 6 tg_82 l_83),(.vs 6 tg_84 l_85),(i6 x_86)],[]⟩),(6,⟨[(i6 x_87),(i6 x_88),(.bool c_89),(.bool c_90)],[]⟩),(7,⟨[(i6 x_91),(i6 x_92),(.bool c_93),(.bool c_94)],[]⟩)] Hp.none 0)))
 .none)
 .none)
 (.ret ⟨(.agg [(.int .i64 x_74),(.int .i64 x_75),(.bool c_76),(.bool c_77)]),Hp.none,0⟩)) = some o) : RL C 35 qK0 (mkS 89 [(2,.lp 2 0),(3,.lp 3 0),vv 8 (.vs 6 tg_66 l_67),vi 9 x_68,vi 10 x_69] [(2,⟨[(i6 x_70),(i6 x_71),(.bool c_72),(.bool c_73)],[]⟩),(3,⟨[(i6 x_74),(i6 x_75),(.bool c_76),(.bool c_77)],[]⟩),(5,⟨[(i6 x_78),(.str s_79),(.vs 5 tg_80 l_81),(.vs 6 tg_82 l_83),(.vs 6 tg_84 l_85),(i6 x_86)],[]⟩),(6,⟨[(i6 x_87),(i6 x_88),(.bool c_89),(.bool c_90)],[]⟩),(7,⟨[(i6 x_91),(i6 x_92),(.bool c_93),(.bool c_94)],[]⟩)] Hp.none 0) = some o := stR C 9 (fun _ _ => by kernel_rfl) ho
theorem p35_8 {tg_66 c_72 c_73 c_76 c_77 tg_80 tg_82 tg_84 c_89 c_90 c_93 c_94 tg_97 tg_99 tg_101 : Bool} {l_67 l_81 l_83 l_85 l_98 l_100 l_102 : List AV} {x_68 x_69 x_70 x_71 x_74 x_75 x_78 x_86 x_87 x_88 x_91 x_92 x_95 x_103 : Int} {s_79 s_96 : List UInt8} (ho : Tr.val C 35
 (.br (!(decide (x_95 = 6)))
 (.br c_76
 (.br c_77
 (.run 0 qK0 (mkS 89 [(2,.lp 2 0),(3,.lp 3 0),vv 8 (.vs 6 tg_66 l_67),vi 9 x_68,vi 10 (IntKind.wrap .i64 (x_69 + 1))] [(2,⟨[(i6 x_70),(i6 x_71),(.bool c_72),(.bool c_73)],[]⟩),(3,⟨[(.int .i64 (IntKind.wrap .i64 (x_74 + 1))),(.int .i64 (IntKind.wrap .i64 (x_75 + 1))),(.bool true),(.bool true)],[]⟩),(5,⟨[(i6 x_95),(.str s_96),(.vs 5 tg_97 l_98),(.vs 6 tg_99 l_100),(.vs 6 tg_101 l_102),(i6 x_103)],[]⟩),(6,⟨[(i6 x_87),(i6 x_88),(.bool c_89),(.bool c_90)],[]⟩),(7,⟨[(i6 x_91),(i6 x_92),(.bool c_93),(.bool c_94)],[]⟩)] Hp.none 0))
 (.run 0 qK0 (mkS 89 [(2,.lp 2 0),(3,.lp 3 0),vv 8 (.vs 6 tg_66 l_67),vi 9 x_68,vi 10 (IntKind.wrap .i64 (x_69 + 1))] [(2,⟨[(i6 x_70),(i6 x_71),(.bool c_72),(.bool c_73)],[]⟩),(3,⟨[(.int .i64 (IntKind.wrap .i64 (x_74 + 1))),(.int .i64 (IntKind.wrap .i64 (x_75 + 1))),(.bool true),(.bool (!(decide (x_95 = 1))))],[]⟩),(5,⟨[(i6 x_95),(.str s_96),(.vs 5 tg_97 l_98),(.vs 6 tg_99 l_100),(.vs 6 tg_101 l_102),(i6 x_103)],[]⟩),(6,⟨[(i6 x_87),(i6 x_88),(.bool c_89),(.bool c_90)],[]⟩),(7,⟨[(i6 x_91),(i6 x_92),(.bool c_93),(.bool c_94)],[]⟩)] Hp.none 0)))
 (.br c_77
 (.run 0 qK0 (mkS 89 [(2,.lp 2 0),(3,.lp 3 0),vv 8 (.vs 6 tg_66 l_67),vi 9 x_68,vi 10 (IntKind.wrap .i64 (x_69 + 1))] [(2,⟨[(i6 x_70),(i6 x_71),(.bool c_72),(.bool c_73)],[]⟩),(3,⟨[(.int .i64 (IntKind.wrap .i64 (x_74 + 1))),(.int .i64 (IntKind.wrap .i64 (x_75 + 1))),(.bool (decide (x_95 = 1))),(.bool true)],[]⟩),(5,⟨[(i6 x_95),(.str s_96),(.vs 5 tg_97 l_98),(.vs 6 tg_99 l_100),(.vs 6 tg_101 l_102),(i6 x_103)],[]⟩),(6,⟨[(i6 x_87),(i6 x_88),(.bool c_89),(.bool c_90)],[]⟩),(7,⟨[(i6 x_91),(i6 x_92),(.bool c_93),(.bool c_94)],[]⟩)] Hp.none 0))
 (.run 0 qK0 (mkS 89 [(2,.lp 2 0),(3,.lp 3 0),vv 8 (.vs 6 tg_66 l_67),vi 9 x_68,vi 10 (IntKind.wrap .i64 (x_69 + 1))] [(2,⟨[(i6 x_70),(i6 x_71),(.bool c_72),(.bool c_73)],[]⟩),(3,⟨[(.int .i64 (IntKind.wrap .i64 (x_74 + 1))),(.int .i64 (IntKind.wrap .i64 (x_75 + 1))),(.bool (decide (x_95 = 1))),(.bool (!(decide (x_95 = 1))))],[]⟩),(5,⟨[(i6 x_95),(.str s_96),(.vs 5 tg_97 l_98),(.vs 6 tg_99 l_100),(.vs 6 tg_101 l_102),(i6 x_103)],[]⟩),(6,⟨[(i6 x_87),(i6 x_88),(.bool c_89),(.bool c_90)],[]⟩),(7,⟨[(i6 x_91),(i6 x_92),(.bool c_93),(.bool c_94)],[]⟩)] Hp.none 0))))
 (.br (pureL [(.vs 6 tg_99 l_100)])
 (cl0 35 [(.vs 6 tg_99 l_100)] fun r7 => .br (AV.pure r7.v)
 (.br (AV.pure r7.v)
 (.mid 8 qK1 3 (mkS 89 [(2,.lp 2 0),(3,.lp 3 0),(5,.lp 5 0),vv 8 (.vs 6 tg_66 l_67),vi 9 x_68,vi 10 x_69,vb 16 false,(41,.lp 5 3),vv 42 (.vs 6 tg_99 l_100),vv 43 r7.v] [(2,⟨[(i6 x_70),(i6 x_71),(.bool c_72),(.bool c_73)],[]⟩),(3,⟨[(i6 x_74),(i6 x_75),(.bool c_76),(.bool c_77)],[]⟩),(5,⟨[(i6 x_95),(.str s_96),(.vs 5 tg_97 l_98),(.vs 6 tg_99 l_100),(.vs 6 tg_101 l_102),(i6 x_103)],[]⟩),(6,⟨[(i6 x_87),(i6 x_88),(.bool c_89),(.bool c_90)],[]⟩),(7,⟨[(i6 x_91),(i6 x_92),(.bool c_93),(.bool c_94)],[]⟩)] Hp.none 0))
 .none) .none)
 .none)) = some o) : ML C 35 qK2 1 (mkS 89 [(2,.lp 2 0),(3,.lp 3 0),vv 8 (.vs 6 tg_66 l_67),vi 9 x_68,vi 10 x_69,vb 11 true,vv 12 (.cptr [(i6 x_95),(.str s_96),(.vs 5 tg_97 l_98),(.vs 6 tg_99 l_100),(.vs 6 tg_101 l_102),(i6 x_103)])] [(2,⟨[(i6 x_70),(i6 x_71),(.bool c_72),(.bool c_73)],[]⟩),(3,⟨[(i6 x_74),(i6 x_75),(.bool c_76),(.bool c_77)],[]⟩),(5,⟨[(i6 x_78),(.str s_79),(.vs 5 tg_80 l_81),(.vs 6 tg_82 l_83),(.vs 6 tg_84 l_85),(i6 x_86)],[]⟩),(6,⟨[(i6 x_87),(i6 x_88),(.bool c_89),(.bool c_90)],[]⟩),(7,⟨[(i6 x_91),(i6 x_92),(.bool c_93),(.bool c_94)],[]⟩)] Hp.none 0) = some o := stM C 15 (fun _ _ => by kernel_rfl) ho
theorem p35_9 {tg_66 c_72 c_73 c_76 c_77 c_89 c_90 c_93 c_94 tg_97 tg_99 tg_101 c_106 c_107 : Bool} {l_67 l_98 l_100 l_102 : List AV} {x_68 x_69 x_70 x_71 x_74 x_75 x_87 x_88 x_91 x_92 x_95 x_103 x_104 x_105 : Int} {s_96 : List UInt8} (ho : Tr.val C 35
 (.br (pureL [(.vs 6 tg_101 l_102)])
 (cl0 35 [(.vs 6 tg_101 l_102)] fun r8 => .br (AV.pure r8.v)
 (.br (AV.pure r8.v)
 (.mid 0 qK1 6 (mkS 89 [(2,.lp 2 0),(3,.lp 3 0),(5,.lp 5 0),vv 8 (.vs 6 tg_66 l_67),vi 9 x_68,vi 10 x_69,vb 16 false,(41,.lp 5 3),vv 42 (.vs 6 tg_99 l_100),vv 43 (.agg [(i6 x_104),(i6 x_105),(.bool c_106),(.bool c_107)]),(44,.lp 5 4),vv 45 (.vs 6 tg_101 l_102),vv 46 r8.v] [(2,⟨[(i6 x_70),(i6 x_71),(.bool c_72),(.bool c_73)],[]⟩),(3,⟨[(i6 x_74),(i6 x_75),(.bool c_76),(.bool c_77)],[]⟩),(5,⟨[(i6 x_95),(.str s_96),(.vs 5 tg_97 l_98),(.vs 6 tg_99 l_100),(.vs 6 tg_101 l_102),(i6 x_103)],[]⟩),(6,⟨[(i6 x_87),(i6 x_88),(.bool c_89),(.bool c_90)],[]⟩),(7,⟨[(i6 x_91),(i6 x_92),(.bool c_93),(.bool c_94)],[]⟩)] Hp.none 0))
 .none) .none)
 .none) = some o) : ML C 35 qK1 3 (mkS 89 [(2,.lp 2 0),(3,.lp 3 0),(5,.lp 5 0),vv 8 (.vs 6 tg_66 l_67),vi 9 x_68,vi 10 x_69,vb 16 false,(41,.lp 5 3),vv 42 (.vs 6 tg_99 l_100),vv 43 (.agg [(i6 x_104),(i6 x_105),(.bool c_106),(.bool c_107)])] [(2,⟨[(i6 x_70),(i6 x_71),(.bool c_72),(.bool c_73)],[]⟩),(3,⟨[(i6 x_74),(i6 x_75),(.bool c_76),(.bool c_77)],[]⟩),(5,⟨[(i6 x_95),(.str s_96),(.vs 5 tg_97 l_98),(.vs 6 tg_99 l_100),(.vs 6 tg_101 l_102),(i6 x_103)],[]⟩),(6,⟨[(i6 x_87),(i6 x_88),(.bool c_89),(.bool c_90)],[]⟩),(7,⟨[(i6 x_91),(i6 x_92),(.bool c_93),(.bool c_94)],[]⟩)] Hp.none 0) = some o := stM C 0 (fun _ _ => by kernel_rfl) ho
theorem p35_10 {tg_66 c_72 c_73 c_76 c_77 c_89 c_90 c_93 c_94 tg_97 tg_99 tg_101 c_106 c_107 c_110 c_111 : Bool} {l_67 l_98 l_100 l_102 : List AV} {x_68 x_69 x_70 x_71 x_74 x_75 x_87 x_88 x_91 x_92 x_95 x_103 x_104 x_105 x_108 x_109 : Int} {s_96 : List UInt8} (ho : Tr.val C 35
 (.br c_76
 (.br c_77
 (.run 0 qK0 (mkS 89 [(2,.lp 2 0),(3,.lp 3 0),vv 8 (.vs 6 tg_66 l_67),vi 9 x_68,vi 10 (IntKind.wrap .i64 (x_69 + 1))] [(2,⟨[(i6 x_70),(i6 x_71),(.bool c_72),(.bool c_73)],[]⟩),(3,⟨[(.int .i64 (IntKind.wrap .i64 (x_74 + (if x_108 < x_104 then x_108 else x_104)))),(.int .i64 (IntKind.wrap .i64 (x_75 + (if x_105 < x_109 then x_109 else x_105)))),(.bool true),(.bool true)],[]⟩),(5,⟨[(i6 x_95),(.str s_96),(.vs 5 tg_97 l_98),(.vs 6 tg_99 l_100),(.vs 6 tg_101 l_102),(i6 x_103)],[]⟩),(6,⟨[(i6 x_104),(i6 x_105),(.bool c_106),(.bool c_107)],[]⟩),(7,⟨[(i6 x_108),(i6 x_109),(.bool c_110),(.bool c_111)],[]⟩)] Hp.none 0))
 (.br c_107
 (.run 0 qK0 (mkS 89 [(2,.lp 2 0),(3,.lp 3 0),vv 8 (.vs 6 tg_66 l_67),vi 9 x_68,vi 10 (IntKind.wrap .i64 (x_69 + 1))] [(2,⟨[(i6 x_70),(i6 x_71),(.bool c_72),(.bool c_73)],[]⟩),(3,⟨[(.int .i64 (IntKind.wrap .i64 (x_74 + (if x_108 < x_104 then x_108 else x_104)))),(.int .i64 (IntKind.wrap .i64 (x_75 + (if x_105 < x_109 then x_109 else x_105)))),(.bool true),(.bool true)],[]⟩),(5,⟨[(i6 x_95),(.str s_96),(.vs 5 tg_97 l_98),(.vs 6 tg_99 l_100),(.vs 6 tg_101 l_102),(i6 x_103)],[]⟩),(6,⟨[(i6 x_104),(i6 x_105),(.bool c_106),(.bool c_107)],[]⟩),(7,⟨[(i6 x_108),(i6 x_109),(.bool c_110),(.bool c_111)],[]⟩)] Hp.none 0))
 (.run 0 qK0 (mkS 89 [(2,.lp 2 0),(3,.lp 3 0),vv 8 (.vs 6 tg_66 l_67),vi 9 x_68,vi 10 (IntKind.wrap .i64 (x_69 + 1))] [(2,⟨[(i6 x_70),(i6 x_71),(.bool c_72),(.bool c_73)],[]⟩),(3,⟨[(.int .i64 (IntKind.wrap .i64 (x_74 + (if x_108 < x_104 then x_108 else x_104)))),(.int .i64 (IntKind.wrap .i64 (x_75 + (if x_105 < x_109 then x_109 else x_105)))),(.bool true),(.bool c_111)],[]⟩),(5,⟨[(i6 x_95),(.str s_96),(.vs 5 tg_97 l_98),(.vs 6 tg_99 l_100),(.vs 6 tg_101 l_102),(i6 x_103)],[]⟩),(6,⟨[(i6 x_104),(i6 x_105),(.bool c_106),(.bool c_107)],[]⟩),(7,⟨[(i6 x_108),(i6 x_109),(.bool c_110),(.bool c_111)],[]⟩)] Hp.none 0))))
 (.br c_106
 (.br c_77
 (.run 0 qK0 (mkS 89 [(2,.lp 2 0),(3,.lp 3 0),vv 8 (.vs 6 tg_66 l_67),vi 9 x_68,vi 10 (IntKind.wrap .i64 (x_69 + 1))] [(2,⟨[(i6 x_70),(i6 x_71),(.bool c_72),(.bool c_73)],[]⟩),(3,⟨[(.int .i64 (IntKind.wrap .i64 (x_74 + (if x_108 < x_104 then x_108 else x_104)))),(.int .i64 (IntKind.wrap .i64 (x_75 + (if x_105 < x_109 then x_109 else x_105)))),(.bool true),(.bool true)],[]⟩),(5,⟨[(i6 x_95),(.str s_96),(.vs 5 tg_97 l_98),(.vs 6 tg_99 l_100),(.vs 6 tg_101 l_102),(i6 x_103)],[]⟩),(6,⟨[(i6 x_104),(i6 x_105),(.bool c_106),(.bool c_107)],[]⟩),(7,⟨[(i6 x_108),(i6 x_109),(.bool c_110),(.bool c_111)],[]⟩)] Hp.none 0))
 (.br c_107
 (.run 0 qK0 (mkS 89 [(2,.lp 2 0),(3,.lp 3 0),vv 8 (.vs 6 tg_66 l_67),vi 9 x_68,vi 10 (IntKind.wrap .i64 (x_69 + 1))] [(2,⟨[(i6 x_70),(i6 x_71),(.bool c_72),(.bool c_73)],[]⟩),(3,⟨[(.int .i64 (IntKind.wrap .i64 (x_74 + (if x_108 < x_104 then x_108 else x_104)))),(.int .i64 (IntKind.wrap .i64 (x_75 + (if x_105 < x_109 then x_109 else x_105)))),(.bool true),(.bool true)],[]⟩),(5,⟨[(i6 x_95),(.str s_96),(.vs 5 tg_97 l_98),(.vs 6 tg_99 l_100),(.vs 6 tg_101 l_102),(i6 x_103)],[]⟩),(6,⟨[(i6 x_104),(i6 x_105),(.bool c_106),(.bool c_107)],[]⟩),(7,⟨[(i6 x_108),(i6 x_109),(.bool c_110),(.bool c_111)],[]⟩)] Hp.none 0))
 (.run 0 qK0 (mkS 89 [(2,.lp 2 0),(3,.lp 3 0),vv 8 (.vs 6 tg_66 l_67),vi 9 x_68,vi 10 (IntKind.wrap .i64 (x_69 + 1))] [(2,⟨[(i6 x_70),(i6 x_71),(.bool c_72),(.bool c_73)],[]⟩),(3,⟨[(.int .i64 (IntKind.wrap .i64 (x_74 + (if x_108 < x_104 then x_108 else x_104)))),(.int .i64 (IntKind.wrap .i64 (x_75 + (if x_105 < x_109 then x_109 else x_105)))),(.bool true),(.bool c_111)],[]⟩),(5,⟨[(i6 x_95),(.str s_96),(.vs 5 tg_97 l_98),(.vs 6 tg_99 l_100),(.vs 6 tg_101 l_102),(i6 x_103)],[]⟩),(6,⟨[(i6 x_104),(i6 x_105),(.bool c_106),(.bool c_107)],[]⟩),(7,⟨[(i6 x_108),(i6 x_109),(.bool c_110),(.bool c_111)],[]⟩)] Hp.none 0))))
 (.br c_77
 (.run 0 qK0 (mkS 89 [(2,.lp 2 0),(3,.lp 3 0),vv 8 (.vs 6 tg_66 l_67),vi 9 x_68,vi 10 (IntKind.wrap .i64 (x_69 + 1))] [(2,⟨[(i6 x_70),(i6 x_71),(.bool c_72),(.bool c_73)],[]⟩),(3,⟨[(.int .i64 (IntKind.wrap .i64 (x_74 + (if x_108 < x_104 then x_108 else x_104)))),(.int .i64 (IntKind.wrap .i64 (x_75 + (if x_105 < x_109 then x_109 else x_105)))),(.bool c_110),(.bool true)],[]⟩),(5,⟨[(i6 x_95),(.str s_96),(.vs 5 tg_97 l_98),(.vs 6 tg_99 l_100),(.vs 6 tg_101 l_102),(i6 x_103)],[]⟩),(6,⟨[(i6 x_104),(i6 x_105),(.bool c_106),(.bool c_107)],[]⟩),(7,⟨[(i6 x_108),(i6 x_109),(.bool c_110),(.bool c_111)],[]⟩)] Hp.none 0))
 (.br c_107
 (.run 0 qK0 (mkS 89 [(2,.lp 2 0),(3,.lp 3 0),vv 8 (.vs 6 tg_66 l_67),vi 9 x_68,vi 10 (IntKind.wrap .i64 (x_69 + 1))] [(2,⟨[(i6 x_70),(i6 x_71),(.bool c_72),(.bool c_73)],[]⟩),(3,⟨[(.int .i64 (IntKind.wrap .i64 (x_74 + (if x_108 < x_104 then x_108 else x_104)))),(.int .i64 (IntKind.wrap .i64 (x_75 + (if x_105 < x_109 then x_109 else x_105)))),(.bool c_110),(.bool true)],[]⟩),(5,⟨[(i6 x_95),(.str s_96),(.vs 5 tg_97 l_98),(.vs 6 tg_99 l_100),(.vs 6 tg_101 l_102),(i6 x_103)],[]⟩),(6,⟨[(i6 x_104),(i6 x_105),(.bool c_106),(.bool c_107)],[]⟩),(7,⟨[(i6 x_108),(i6 x_109),(.bool c_110),(.bool c_111)],[]⟩)] Hp.none 0))
 (.run 0 qK0 (mkS 89 [(2,.lp 2 0),(3,.lp 3 0),vv 8 (.vs 6 tg_66 l_67),vi 9 x_68,vi 10 (IntKind.wrap .i64 (x_69 + 1))] [(2,⟨[(i6 x_70),(i6 x_71),(.bool c_72),(.bool c_73)],[]⟩),(3,⟨[(.int .i64 (IntKind.wrap .i64 (x_74 + (if x_108 < x_104 then x_108 else x_104)))),(.int .i64 (IntKind.wrap .i64 (x_75 + (if x_105 < x_109 then x_109 else x_105)))),(.bool c_110),(.bool c_111)],[]⟩),(5,⟨[(i6 x_95),(.str s_96),(.vs 5 tg_97 l_98),(.vs 6 tg_99 l_100),(.vs 6 tg_101 l_102),(i6 x_103)],[]⟩),(6,⟨[(i6 x_104),(i6 x_105),(.bool c_106),(.bool c_107)],[]⟩),(7,⟨[(i6 x_108),(i6 x_109),(.bool c_110),(.bool c_111)],[]⟩)] Hp.none 0)))))) = some o) : ML C 35 qK1 6 (mkS 89 [(2,.lp 2 0),(3,.lp 3 0),(5,.lp 5 0),vv 8 (.vs 6 tg_66 l_67),vi 9 x_68,vi 10 x_69,vb 16 false,(41,.lp 5 3),vv 42 (.vs 6 tg_99 l_100),vv 43 (.agg [(i6 x_104),(i6 x_105),(.bool c_106),(.bool c_107)]),(44,.lp 5 4),vv 45 (.vs 6 tg_101 l_102),vv 46 (.agg [(i6 x_108),(i6 x_109),(.bool c_110),(.bool c_111)])] [(2,⟨[(i6 x_70),(i6 x_71),(.bool c_72),(.bool c_73)],[]⟩),(3,⟨[(i6 x_74),(i6 x_75),(.bool c_76),(.bool c_77)],[]⟩),(5,⟨[(i6 x_95),(.str s_96),(.vs 5 tg_97 l_98),(.vs 6 tg_99 l_100),(.vs 6 tg_101 l_102),(i6 x_103)],[]⟩),(6,⟨[(i6 x_87),(i6 x_88),(.bool c_89),(.bool c_90)],[]⟩),(7,⟨[(i6 x_91),(i6 x_92),(.bool c_93),(.bool c_94)],[]⟩)] Hp.none 0) = some o := stM C 10 (fun _ _ => by kernel_rfl) ho
theorem p36_c (hC : Ext C) {tg_112 : Bool} {l_113 : List AV} (ho : RL C 36 [] (mk0 80 [vv 0 (.vs 6 tg_112 l_113)]) = some o) : calL C 36 [(.vs 6 tg_112 l_113)] Hp.none 0 = some o := hC.call rfl (fun _ _ => by kernel_rfl) ho
theorem p36_0 {tg_112 : Bool} {l_113 : List AV} (ho : Tr.val C 36
 (.run 0 [0,5,0,0,5,2,3] (mk0 80 [vv 0 (.vs 6 tg_112 l_113),vi 2 0,vi 3 0,vi 4 0,vi 5 0,vi 6 0])) = some o) : RL C 36 [] (mk0 80 [vv 0 (.vs 6 tg_112 l_113)]) = some o := stR C 7 (fun _ _ => by kernel_rfl) ho
theorem p36_1 {tg_114 : Bool} {l_115 : List AV} {x_116 x_117 x_118 x_119 x_120 : Int} (ho : Tr.val C 36
 (.br (decide (x_120 < (((List.length l_115) : Nat) : Int)))
 (.br (decide ((0 : Int) ≤ x_120))
 (.br (decide (x_120 < (((List.length l_115) : Nat) : Int)))
 (.bind (nth l_115 (Int.toNat x_120)) fun c1 =>
 (.mid 0 [0,5,0,0,5,2,3,0,0,5,6,5,0,2,0,5,0,0] 3 (mk0 80 [vv 0 (.vs 6 tg_114 l_115),vi 2 x_116,vi 3 x_117,vi 4 x_118,vi 5 x_119,vi 6 x_120,vi 7 1,vi 8 1,vi 9 0,vi 10 0,vv 21 (.vs 6 tg_114 l_115),vi 22 x_120,vv 23 (.cptr (AV.cells c1))])))
 .none)
 .none)
 (.ret ⟨(.tuple [(.int .i64 x_116),(.int .i64 x_117),(.int .i64 x_118),(.int .i64 x_119)]),Hp.none,0⟩)) = some o) : RL C 36 [0,5,0,0,5,2,3] (mk0 80 [vv 0 (.vs 6 tg_114 l_115),vi 2 x_116,vi 3 x_117,vi 4 x_118,vi 5 x_119,vi 6 x_120]) = some o := stR C 12 (fun _ _ => by kernel_rfl) ho
theorem p36_2 {tg_114 tg_123 tg_125 tg_127 : Bool} {l_115 l_124 l_126 l_128 : List AV} {x_116 x_117 x_118 x_119 x_120 x_121 x_129 : Int} {s_122 : List UInt8} (ho : Tr.val C 36
 (.br (decide (x_121 = 1))
 (.run 3 [0,5,0,0,5,2,3] (mk0 80 [vv 0 (.vs 6 tg_114 l_115),vi 2 (IntKind.wrap .i64 (x_116 + 1)),vi 3 (IntKind.wrap .i64 (x_117 + 1)),vi 4 (IntKind.wrap .i64 (x_118 + 1)),vi 5 (IntKind.wrap .i64 (x_119 + 1)),vi 6 (IntKind.wrap .i64 (x_120 + 1))]))
 (.br (decide (x_121 = 6))
 (.br (decide ((0 : Int) ≤ x_120))
 (.br (decide (x_120 < (((List.length l_115) : Nat) : Int)))
 (.bind (nth l_115 (Int.toNat x_120)) fun c2 =>
 (.mid 4 qK3 3 (mk0 80 [vv 0 (.vs 6 tg_114 l_115),vi 2 x_116,vi 3 x_117,vi 4 x_118,vi 5 x_119,vi 6 x_120,vi 7 1,vi 8 1,vi 9 0,vi 10 0,vb 28 true,vv 31 (.vs 6 tg_114 l_115),vi 32 x_120,vv 33 (.cptr (AV.cells c2))])))
 .none)
 .none)
 (.run 0 [0,5,0,0,5,2,3] (mk0 80 [vv 0 (.vs 6 tg_114 l_115),vi 2 (IntKind.wrap .i64 (x_116 + 1)),vi 3 (IntKind.wrap .i64 (x_117 + 1)),vi 4 (IntKind.wrap .i64 (x_118 + 0)),vi 5 (IntKind.wrap .i64 (x_119 + 0)),vi 6 (IntKind.wrap .i64 (x_120 + 1))])))) = some o) : ML C 36 [0,5,0,0,5,2,3,0,0,5,6,5,0,2,0,5,0,0] 3 (mk0 80 [vv 0 (.vs 6 tg_114 l_115),vi 2 x_116,vi 3 x_117,vi 4 x_118,vi 5 x_119,vi 6 x_120,vi 7 1,vi 8 1,vi 9 0,vi 10 0,vv 21 (.vs 6 tg_114 l_115),vi 22 x_120,vv 23 (.cptr [(i6 x_121),(.str s_122),(.vs 5 tg_123 l_124),(.vs 6 tg_125 l_126),(.vs 6 tg_127 l_128),(i6 x_129)])]) = some o := stM C 13 (fun _ _ => by kernel_rfl) ho
theorem p36_3 {tg_114 tg_132 tg_134 tg_136 : Bool} {l_115 l_133 l_135 l_137 : List AV} {x_116 x_117 x_118 x_119 x_120 x_130 x_138 : Int} {s_131 : List UInt8} (ho : Tr.val C 36
 (cl0 36 [(.vs 6 tg_134 l_135)] fun r3 => .br (AV.pure r3.v)
 (.mid 0 qK3 6 (mk0 80 [vv 0 (.vs 6 tg_114 l_115),vi 2 x_116,vi 3 x_117,vi 4 x_118,vi 5 x_119,vi 6 x_120,vi 7 1,vi 8 1,vi 9 0,vi 10 0,vb 28 true,vv 31 (.vs 6 tg_114 l_115),vi 32 x_120,vv 33 (.cptr [(i6 x_130),(.str s_131),(.vs 5 tg_132 l_133),(.vs 6 tg_134 l_135),(.vs 6 tg_136 l_137),(i6 x_138)]),vv 34 (.cptr [(.vs 6 tg_134 l_135),(.vs 6 tg_136 l_137),(i6 x_138)]),vv 35 (.vs 6 tg_134 l_135),vv 36 r3.v])) .none) = some o) : ML C 36 qK3 3 (mk0 80 [vv 0 (.vs 6 tg_114 l_115),vi 2 x_116,vi 3 x_117,vi 4 x_118,vi 5 x_119,vi 6 x_120,vi 7 1,vi 8 1,vi 9 0,vi 10 0,vb 28 true,vv 31 (.vs 6 tg_114 l_115),vi 32 x_120,vv 33 (.cptr [(i6 x_130),(.str s_131),(.vs 5 tg_132 l_133),(.vs 6 tg_134 l_135),(.vs 6 tg_136 l_137),(i6 x_138)])]) = some o := stM C 0 (fun _ _ => by kernel_rfl) ho
theorem p36_4 {tg_114 tg_132 tg_134 tg_136 : Bool} {l_115 l_133 l_135 l_137 : List AV} {x_116 x_117 x_118 x_119 x_120 x_130 x_138 x_139 x_140 x_141 x_142 : Int} {s_131 : List UInt8} (ho : Tr.val C 36
 (.br (decide ((0 : Int) ≤ x_120))
 (.br (decide (x_120 < (((List.length l_115) : Nat) : Int)))
 (.bind (nth l_115 (Int.toNat x_120)) fun c4 =>
 (.mid 0 qK4 3 (mk0 80 [vv 0 (.vs 6 tg_114 l_115),vi 2 x_116,vi 3 x_117,vi 4 x_118,vi 5 x_119,vi 6 x_120,vi 7 x_139,vi 8 x_140,vi 9 x_141,vi 10 x_142,vv 42 (.vs 6 tg_114 l_115),vi 43 x_120,vv 44 (.cptr (AV.cells c4))])))
 .none)
 .none) = some o) : ML C 36 qK3 6 (mk0 80 [vv 0 (.vs 6 tg_114 l_115),vi 2 x_116,vi 3 x_117,vi 4 x_118,vi 5 x_119,vi 6 x_120,vi 7 1,vi 8 1,vi 9 0,vi 10 0,vb 28 true,vv 31 (.vs 6 tg_114 l_115),vi 32 x_120,vv 33 (.cptr [(i6 x_130),(.str s_131),(.vs 5 tg_132 l_133),(.vs 6 tg_134 l_135),(.vs 6 tg_136 l_137),(i6 x_138)]),vv 34 (.cptr [(.vs 6 tg_134 l_135),(.vs 6 tg_136 l_137),(i6 x_138)]),vv 35 (.vs 6 tg_134 l_135),vv 36 (.tuple [(i6 x_139),(i6 x_140),(i6 x_141),(i6 x_142)])]) = some o := stM C 2 (fun _ _ => by kernel_rfl) ho
theorem p36_5 {tg_114 tg_145 tg_147 tg_149 : Bool} {l_115 l_146 l_148 l_150 : List AV} {x_116 x_117 x_118 x_119 x_120 x_139 x_140 x_141 x_142 x_143 x_151 : Int} {s_144 : List UInt8} (ho : Tr.val C 36
 (cl0 36 [(.vs 6 tg_149 l_150)] fun r5 => .br (AV.pure r5.v)
 (.mid 0 qK4 6 (mk0 80 [vv 0 (.vs 6 tg_114 l_115),vi 2 x_116,vi 3 x_117,vi 4 x_118,vi 5 x_119,vi 6 x_120,vi 7 x_139,vi 8 x_140,vi 9 x_141,vi 10 x_142,vv 42 (.vs 6 tg_114 l_115),vi 43 x_120,vv 44 (.cptr [(i6 x_143),(.str s_144),(.vs 5 tg_145 l_146),(.vs 6 tg_147 l_148),(.vs 6 tg_149 l_150),(i6 x_151)]),vv 45 (.cptr [(.vs 6 tg_149 l_150),(i6 x_151)]),vv 46 (.vs 6 tg_149 l_150),vv 47 r5.v])) .none) = some o) : ML C 36 qK4 3 (mk0 80 [vv 0 (.vs 6 tg_114 l_115),vi 2 x_116,vi 3 x_117,vi 4 x_118,vi 5 x_119,vi 6 x_120,vi 7 x_139,vi 8 x_140,vi 9 x_141,vi 10 x_142,vv 42 (.vs 6 tg_114 l_115),vi 43 x_120,vv 44 (.cptr [(i6 x_143),(.str s_144),(.vs 5 tg_145 l_146),(.vs 6 tg_147 l_148),(.vs 6 tg_149 l_150),(i6 x_151)])]) = some o := stM C 0 (fun _ _ => by kernel_rfl) ho
theorem p36_6 {tg_114 tg_145 tg_147 tg_149 : Bool} {l_115 l_146 l_148 l_150 : List AV} {x_116 x_117 x_118 x_119 x_120 x_139 x_140 x_141 x_142 x_143 x_151 x_152 x_153 x_154 x_155 : Int} {s_144 : List UInt8} (ho : Tr.val C 36
 (.run 0 [0,5,0,0,5,2,3] (mk0 80 [vv 0 (.vs 6 tg_114 l_115),vi 2 (IntKind.wrap .i64 (x_116 + (if x_152 < x_139 then x_152 else x_139))),vi 3 (IntKind.wrap .i64 (x_117 + (if x_140 < x_153 then x_153 else x_140))),vi 4 (IntKind.wrap .i64 (x_118 + (if x_154 < x_141 then x_154 else x_141))),vi 5 (IntKind.wrap .i64 (x_119 + (if x_142 < x_155 then x_155 else x_142))),vi 6 (IntKind.wrap .i64 (x_120 + 1))])) = some o) : ML C 36 qK4 6 (mk0 80 [vv 0 (.vs 6 tg_114 l_115),vi 2 x_116,vi 3 x_117,vi 4 x_118,vi 5 x_119,vi 6 x_120,vi 7 x_139,vi 8 x_140,vi 9 x_141,vi 10 x_142,vv 42 (.vs 6 tg_114 l_115),vi 43 x_120,vv 44 (.cptr [(i6 x_143),(.str s_144),(.vs 5 tg_145 l_146),(.vs 6 tg_147 l_148),(.vs 6 tg_149 l_150),(i6 x_151)]),vv 45 (.cptr [(.vs 6 tg_149 l_150),(i6 x_151)]),vv 46 (.vs 6 tg_149 l_150),vv 47 (.tuple [(i6 x_152),(i6 x_153),(i6 x_154),(i6 x_155)])]) = some o := stM C 6 (fun _ _ => by kernel_rfl) ho
end Go.Proofs.YtfdklpkfpmkgeaaGreatDoor
end
section
namespace Go.Proofs.YtfdklpkfpmkgeaaGreatDoor
open Go Go.Vai
attribute [local irreducible] goTo bodyOf mkS
variable {C : Nat → Oracle} {o : Out}
abbrev cJ0 : Nat × Blk := (4,⟨[(.vs 6 true [])],[0]⟩)
theorem p15_c (hC : Ext C) {tg_1 c_3 : Bool} {l_2 : List AV} (ho : RL C 15 [] (mk0 24 [vv 0 (.vs 1 tg_1 l_2),vb 1 c_3]) = some o) : calL C 15 [(.vs 1 tg_1 l_2),(.bool c_3)] Hp.none 0 = some o := hC.call rfl (fun _ _ => by kernel_rfl) ho
theorem p15_0 {tg_1 c_3 : Bool} {l_2 : List AV} (ho : Tr.val C 15
 (cl0 18 [(.vs 1 tg_1 l_2)] fun r1 => .br (AV.pure r1.v)
 (.mid 0 [0,5,0] 2 (mkS 24 [vv 0 (.vs 1 tg_1 l_2),vb 1 c_3,(4,.lp 4 0),vv 10 (.vs 1 tg_1 l_2),vv 11 r1.v] [cJ0] Hp.none 0)) .none) = some o) : RL C 15 [] (mk0 24 [vv 0 (.vs 1 tg_1 l_2),vb 1 c_3]) = some o := stR C 4 (fun _ _ => by kernel_rfl) ho
theorem p15_1 {tg_1 c_3 : Bool} {l_2 : List AV} {s_4 : List UInt8} (ho : Tr.val C 15
 (.br c_3
 (cl0 19 [(.vs 1 tg_1 l_2)] fun r2 => .br (AV.pure r2.v)
 (.mid 2 [0,5,0,5,0,0,5,6] 2 (mkS 24 [vv 0 (.vs 1 tg_1 l_2),(4,.lp 4 0),vt 6 s_4,vb 12 true,vv 13 (.vs 1 tg_1 l_2),vv 14 r2.v] [cJ0] Hp.none 0)) .none)
 (cl0 20 [(.str s_4)] fun r3 => .br (AV.pure r3.v)
 (.mid 0 [0,5,0,5,0,0,5,7,5,0] 2 (mkS 24 [vv 0 (.vs 1 tg_1 l_2),(4,.lp 4 0),vt 6 s_4,vb 12 false,vt 16 s_4,vv 17 r3.v] [cJ0] Hp.none 0)) .none)) = some o) : ML C 15 [0,5,0] 2 (mkS 24 [vv 0 (.vs 1 tg_1 l_2),vb 1 c_3,(4,.lp 4 0),vv 10 (.vs 1 tg_1 l_2),vt 11 s_4] [cJ0] Hp.none 0) = some o := stM C 7 (fun _ _ => by kernel_rfl) ho
theorem p15_2 {tg_1 : Bool} {l_2 : List AV} {s_4 s_5 : List UInt8} (ho : Tr.val C 15
 (cl0 20 [(.str s_5)] fun r4 => .br (AV.pure r4.v)
 (.mid 0 [0,5,0,5,0,0,5,6,5,0] 2 (mkS 24 [(4,.lp 4 0),vt 6 s_5,vt 16 s_5,vv 17 r4.v] [cJ0] Hp.none 0)) .none) = some o) : ML C 15 [0,5,0,5,0,0,5,6] 2 (mkS 24 [vv 0 (.vs 1 tg_1 l_2),(4,.lp 4 0),vt 6 s_4,vb 12 true,vv 13 (.vs 1 tg_1 l_2),vt 14 s_5] [cJ0] Hp.none 0) = some o := stM C 2 (fun _ _ => by kernel_rfl) ho
theorem p15_3 {tg_1 tg_6 : Bool} {l_2 l_7 : List AV} {s_4 : List UInt8} {x_8 x_9 : Int} (ho : Tr.val C 15
 (.ret ⟨(.tuple [(.agg [(.vs 6 tg_6 l_7)]),(.bool (decide (x_9 = 0)))]),Hp.none,0⟩) = some o) : ML C 15 [0,5,0,5,0,0,5,7,5,0] 2 (mkS 24 [vv 0 (.vs 1 tg_1 l_2),(4,.lp 4 0),vt 6 s_4,vb 12 false,vt 16 s_4,vv 17 (.tuple [(.agg [(.vs 6 tg_6 l_7)]),(i6 x_8),(i6 x_9)])] [cJ0] Hp.none 0) = some o := stM C 3 (fun _ _ => by kernel_rfl) ho
theorem p15_4 {s_5 : List UInt8} {tg_10 : Bool} {l_11 : List AV} {x_12 x_13 : Int} (ho : Tr.val C 15
 (.ret ⟨(.tuple [(.agg [(.vs 6 tg_10 l_11)]),(.bool (decide (x_13 = 0)))]),Hp.none,0⟩) = some o) : ML C 15 [0,5,0,5,0,0,5,6,5,0] 2 (mkS 24 [(4,.lp 4 0),vt 6 s_5,vt 16 s_5,vv 17 (.tuple [(.agg [(.vs 6 tg_10 l_11)]),(i6 x_12),(i6 x_13)])] [cJ0] Hp.none 0) = some o := stM C 3 (fun _ _ => by kernel_rfl) ho
theorem p16v0_c (hC : Ext C) {s_14 : List UInt8} {l_15 l_17 : List AV} {x_19 : Int} (ho : RL C 16 [] (mk0 30 [vv 0 (.agg [(.str s_14),(.vs 3 false l_15),(.vs 6 false l_17),(i6 x_19)])]) = some o) : calL C 16 [(.agg [(.str s_14),(.vs 3 false l_15),(.vs 6 false l_17),(.int .i64 x_19)])] Hp.none 0 = some o := hC.call rfl (fun _ _ => by kernel_rfl) ho
theorem p16v0_0 {s_14 : List UInt8} {l_15 l_17 : List AV} {x_19 : Int} (ho : Tr.val C 16
 (cl0 35 [(.vs 6 false l_17)] fun r1 => .br (AV.pure r1.v)
 (.mid 0 [0,5,0,0] 3 (mkS 30 [(1,.lp 1 0),(4,.lp 1 2),vv 5 (.vs 6 false l_17),vv 6 r1.v] [(1,⟨[(.str s_14),(.vs 3 false l_15),(.vs 6 false l_17),(i6 x_19)],[]⟩)] Hp.none 0)) .none) = some o) : RL C 16 [] (mk0 30 [vv 0 (.agg [(.str s_14),(.vs 3 false l_15),(.vs 6 false l_17),(i6 x_19)])]) = some o := stR C 5 (fun _ _ => by kernel_rfl) ho
theorem p16v0_1 {s_14 : List UInt8} {l_15 l_17 : List AV} {x_19 x_20 x_21 : Int} {c_22 c_23 : Bool} (ho : Tr.val C 16
 (.br (decide (x_20 = 1))
 (.br (decide (x_21 = 1))
 (.br (!c_23)
 (.ret ⟨(.int .i64 1),Hp.none,0⟩)
 (.br (decide (1 ≤ x_20))
 (.br (!c_22)
 (.ret ⟨(.int .i64 2),Hp.none,0⟩)
 (.ret ⟨(.int .i64 0),Hp.none,0⟩))
 (.ret ⟨(.int .i64 0),Hp.none,0⟩)))
 (.br (decide (1 ≤ x_20))
 (.br (!c_22)
 (.ret ⟨(.int .i64 2),Hp.none,0⟩)
 (.ret ⟨(.int .i64 0),Hp.none,0⟩))
 (.ret ⟨(.int .i64 0),Hp.none,0⟩)))
 (.br (decide (1 ≤ x_20))
 (.br (!c_22)
 (.ret ⟨(.int .i64 2),Hp.none,0⟩)
 (.ret ⟨(.int .i64 0),Hp.none,0⟩))
 (.ret ⟨(.int .i64 0),Hp.none,0⟩))) = some o) : ML C 16 [0,5,0,0] 3 (mkS 30 [(1,.lp 1 0),(4,.lp 1 2),vv 5 (.vs 6 false l_17),vv 6 (.agg [(i6 x_20),(i6 x_21),(.bool c_22),(.bool c_23)])] [(1,⟨[(.str s_14),(.vs 3 false l_15),(.vs 6 false l_17),(i6 x_19)],[]⟩)] Hp.none 0) = some o := stM C 12 (fun _ _ => by kernel_rfl) ho
theorem p16v1_c (hC : Ext C) {s_14 : List UInt8} {l_15 l_18 : List AV} {x_19 : Int} (ho : RL C 16 [] (mk0 30 [vv 0 (.agg [(.str s_14),(.vs 3 false l_15),(.vs 6 true l_18),(i6 x_19)])]) = some o) : calL C 16 [(.agg [(.str s_14),(.vs 3 false l_15),(.vs 6 true l_18),(.int .i64 x_19)])] Hp.none 0 = some o := hC.call rfl (fun _ _ => by kernel_rfl) ho
theorem p16v1_0 {s_14 : List UInt8} {l_15 l_18 : List AV} {x_19 : Int} (ho : Tr.val C 16
 (cl0 35 [(.vs 6 true l_18)] fun r1 => .br (AV.pure r1.v)
 (.mid 0 [0,5,0,0] 3 (mkS 30 [(1,.lp 1 0),(4,.lp 1 2),(5,.val (.vs 6 true l_18) (.lL 1 2)),vv 6 r1.v] [(1,⟨[(.str s_14),(.vs 3 false l_15),(.vs 6 true l_18),(i6 x_19)],[2]⟩)] Hp.none 0)) .none) = some o) : RL C 16 [] (mk0 30 [vv 0 (.agg [(.str s_14),(.vs 3 false l_15),(.vs 6 true l_18),(i6 x_19)])]) = some o := stR C 5 (fun _ _ => by kernel_rfl) ho
theorem p16v1_1 {s_14 : List UInt8} {l_15 l_18 : List AV} {x_19 x_24 x_25 : Int} {c_26 c_27 : Bool} (ho : Tr.val C 16
 (.br (decide (x_24 = 1))
 (.br (decide (x_25 = 1))
 (.br (!c_27)
 (.ret ⟨(.int .i64 1),Hp.none,0⟩)
 (.br (decide (1 ≤ x_24))
 (.br (!c_26)
 (.ret ⟨(.int .i64 2),Hp.none,0⟩)
 (.ret ⟨(.int .i64 0),Hp.none,0⟩))
 (.ret ⟨(.int .i64 0),Hp.none,0⟩)))
 (.br (decide (1 ≤ x_24))
 (.br (!c_26)
 (.ret ⟨(.int .i64 2),Hp.none,0⟩)
 (.ret ⟨(.int .i64 0),Hp.none,0⟩))
 (.ret ⟨(.int .i64 0),Hp.none,0⟩)))
 (.br (decide (1 ≤ x_24))
 (.br (!c_26)
 (.ret ⟨(.int .i64 2),Hp.none,0⟩)
 (.ret ⟨(.int .i64 0),Hp.none,0⟩))
 (.ret ⟨(.int .i64 0),Hp.none,0⟩))) = some o) : ML C 16 [0,5,0,0] 3 (mkS 30 [(1,.lp 1 0),(4,.lp 1 2),(5,.val (.vs 6 true l_18) (.lL 1 2)),vv 6 (.agg [(i6 x_24),(i6 x_25),(.bool c_26),(.bool c_27)])] [(1,⟨[(.str s_14),(.vs 3 false l_15),(.vs 6 true l_18),(i6 x_19)],[2]⟩)] Hp.none 0) = some o := stM C 12 (fun _ _ => by kernel_rfl) ho
theorem p16v2_c (hC : Ext C) {s_14 : List UInt8} {l_16 l_17 : List AV} {x_19 : Int} (ho : RL C 16 [] (mk0 30 [vv 0 (.agg [(.str s_14),(.vs 3 true l_16),(.vs 6 false l_17),(i6 x_19)])]) = some o) : calL C 16 [(.agg [(.str s_14),(.vs 3 true l_16),(.vs 6 false l_17),(.int .i64 x_19)])] Hp.none 0 = some o := hC.call rfl (fun _ _ => by kernel_rfl) ho
theorem p16v2_0 {s_14 : List UInt8} {l_16 l_17 : List AV} {x_19 : Int} (ho : Tr.val C 16
 (cl0 35 [(.vs 6 false l_17)] fun r1 => .br (AV.pure r1.v)
 (.mid 0 [0,5,0,0] 3 (mkS 30 [(1,.lp 1 0),(4,.lp 1 2),vv 5 (.vs 6 false l_17),vv 6 r1.v] [(1,⟨[(.str s_14),(.vs 3 true l_16),(.vs 6 false l_17),(i6 x_19)],[1]⟩)] Hp.none 0)) .none) = some o) : RL C 16 [] (mk0 30 [vv 0 (.agg [(.str s_14),(.vs 3 true l_16),(.vs 6 false l_17),(i6 x_19)])]) = some o := stR C 5 (fun _ _ => by kernel_rfl) ho
theorem p16v2_1 {s_14 : List UInt8} {l_16 l_17 : List AV} {x_19 x_28 x_29 : Int} {c_30 c_31 : Bool} (ho : Tr.val C 16
 (.br (decide (x_28 = 1))
 (.br (decide (x_29 = 1))
 (.br (!c_31)
 (.ret ⟨(.int .i64 1),Hp.none,0⟩)
 (.br (decide (1 ≤ x_28))
 (.br (!c_30)
 (.ret ⟨(.int .i64 2),Hp.none,0⟩)
 (.ret ⟨(.int .i64 0),Hp.none,0⟩))
 (.ret ⟨(.int .i64 0),Hp.none,0⟩)))
 (.br (decide (1 ≤ x_28))
 (.br (!c_30)
 (.ret ⟨(.int .i64 2),Hp.none,0⟩)
 (.ret ⟨(.int .i64 0),Hp.none,0⟩))
 (.ret ⟨(.int .i64 0),Hp.none,0⟩)))
 (.br (decide (1 ≤ x_28))
 (.br (!c_30)
 (.ret ⟨(.int .i64 2),Hp.none,0⟩)
 (.ret ⟨(.int .i64 0),Hp.none,0⟩))
 (.ret ⟨(.int .i64 0),Hp.none,0⟩))) = some o) : ML C 16 [0,5,0,0] 3 (mkS 30 [(1,.lp 1 0),(4,.lp 1 2),vv 5 (.vs 6 false l_17),vv 6 (.agg [(i6 x_28),(i6 x_29),(.bool c_30),(.bool c_31)])] [(1,⟨[(.str s_14),(.vs 3 true l_16),(.vs 6 false l_17),(i6 x_19)],[1]⟩)] Hp.none 0) = some o := stM C 12 (fun _ _ => by kernel_rfl) ho
theorem p16v3_c (hC : Ext C) {s_14 : List UInt8} {l_16 l_18 : List AV} {x_19 : Int} (ho : RL C 16 [] (mk0 30 [vv 0 (.agg [(.str s_14),(.vs 3 true l_16),(.vs 6 true l_18),(i6 x_19)])]) = some o) : calL C 16 [(.agg [(.str s_14),(.vs 3 true l_16),(.vs 6 true l_18),(.int .i64 x_19)])] Hp.none 0 = some o := hC.call rfl (fun _ _ => by kernel_rfl) ho
theorem p16v3_0 {s_14 : List UInt8} {l_16 l_18 : List AV} {x_19 : Int} (ho : Tr.val C 16
 (cl0 35 [(.vs 6 true l_18)] fun r1 => .br (AV.pure r1.v)
 (.mid 0 [0,5,0,0] 3 (mkS 30 [(1,.lp 1 0),(4,.lp 1 2),(5,.val (.vs 6 true l_18) (.lL 1 2)),vv 6 r1.v] [(1,⟨[(.str s_14),(.vs 3 true l_16),(.vs 6 true l_18),(i6 x_19)],[1,2]⟩)] Hp.none 0)) .none) = some o) : RL C 16 [] (mk0 30 [vv 0 (.agg [(.str s_14),(.vs 3 true l_16),(.vs 6 true l_18),(i6 x_19)])]) = some o := stR C 5 (fun _ _ => by kernel_rfl) ho
theorem p16v3_1 {s_14 : List UInt8} {l_16 l_18 : List AV} {x_19 x_32 x_33 : Int} {c_34 c_35 : Bool} (ho : Tr.val C 16
 (.br (decide (x_32 = 1))
 (.br (decide (x_33 = 1))
 (.br (!c_35)
 (.ret ⟨(.int .i64 1),Hp.none,0⟩)
 (.br (decide (1 ≤ x_32))
 (.br (!c_34)
 (.ret ⟨(.int .i64 2),Hp.none,0⟩)
 (.ret ⟨(.int .i64 0),Hp.none,0⟩))
 (.ret ⟨(.int .i64 0),Hp.none,0⟩)))
 (.br (decide (1 ≤ x_32))
 (.br (!c_34)
 (.ret ⟨(.int .i64 2),Hp.none,0⟩)
 (.ret ⟨(.int .i64 0),Hp.none,0⟩))
 (.ret ⟨(.int .i64 0),Hp.none,0⟩)))
 (.br (decide (1 ≤ x_32))
 (.br (!c_34)
 (.ret ⟨(.int .i64 2),Hp.none,0⟩)
 (.ret ⟨(.int .i64 0),Hp.none,0⟩))
 (.ret ⟨(.int .i64 0),Hp.none,0⟩))) = some o) : ML C 16 [0,5,0,0] 3 (mkS 30 [(1,.lp 1 0),(4,.lp 1 2),(5,.val (.vs 6 true l_18) (.lL 1 2)),vv 6 (.agg [(i6 x_32),(i6 x_33),(.bool c_34),(.bool c_35)])] [(1,⟨[(.str s_14),(.vs 3 true l_16),(.vs 6 true l_18),(i6 x_19)],[1,2]⟩)] Hp.none 0) = some o := stM C 12 (fun _ _ => by kernel_rfl) ho
theorem p17v0_c (hC : Ext C) {s_36 : List UInt8} {l_37 l_39 : List AV} {x_41 : Int} (ho : RL C 17 [] (mk0 37 [vv 0 (.agg [(.str s_36),(.vs 3 false l_37),(.vs 6 false l_39),(i6 x_41)])]) = some o) : calL C 17 [(.agg [(.str s_36),(.vs 3 false l_37),(.vs 6 false l_39),(.int .i64 x_41)])] Hp.none 0 = some o := hC.call rfl (fun _ _ => by kernel_rfl) ho
theorem p17v0_0 {s_36 : List UInt8} {l_37 l_39 : List AV} {x_41 : Int} (ho : Tr.val C 17
 (cl0 36 [(.vs 6 false l_39)] fun r1 => .br (AV.pure r1.v)
 (.mid 0 [0,5,0] 3 (mkS 37 [(1,.lp 1 0),(8,.lp 1 2),vv 9 (.vs 6 false l_39),vv 10 r1.v] [(1,⟨[(.str s_36),(.vs 3 false l_37),(.vs 6 false l_39),(i6 x_41)],[]⟩)] Hp.none 0)) .none) = some o) : RL C 17 [] (mk0 37 [vv 0 (.agg [(.str s_36),(.vs 3 false l_37),(.vs 6 false l_39),(i6 x_41)])]) = some o := stR C 4 (fun _ _ => by kernel_rfl) ho
theorem p17v0_1 {s_36 : List UInt8} {l_37 l_39 : List AV} {x_41 x_42 x_43 x_44 x_45 : Int} (ho : Tr.val C 17
 (.br (decide (x_42 = 1))
 (.br (decide (x_43 = 1))
 (.br (decide (x_44 = 1))
 (.br (decide (x_45 = 1))
 (.ret ⟨(.int .i64 1),Hp.none,0⟩)
 (.br (decide (1 ≤ x_42))
 (.br (decide (x_45 = 0))
 (.ret ⟨(.int .i64 2),Hp.none,0⟩)
 (.ret ⟨(.int .i64 0),Hp.none,0⟩))
 (.ret ⟨(.int .i64 0),Hp.none,0⟩)))
 (.br (decide (1 ≤ x_42))
 (.br (decide (x_45 = 0))
 (.ret ⟨(.int .i64 2),Hp.none,0⟩)
 (.ret ⟨(.int .i64 0),Hp.none,0⟩))
 (.ret ⟨(.int .i64 0),Hp.none,0⟩)))
 (.br (decide (1 ≤ x_42))
 (.br (decide (x_45 = 0))
 (.ret ⟨(.int .i64 2),Hp.none,0⟩)
 (.ret ⟨(.int .i64 0),Hp.none,0⟩))
 (.ret ⟨(.int .i64 0),Hp.none,0⟩)))
 (.br (decide (1 ≤ x_42))
 (.br (decide (x_45 = 0))
 (.ret ⟨(.int .i64 2),Hp.none,0⟩)
 (.ret ⟨(.int .i64 0),Hp.none,0⟩))
 (.ret ⟨(.int .i64 0),Hp.none,0⟩))) = some o) : ML C 17 [0,5,0] 3 (mkS 37 [(1,.lp 1 0),(8,.lp 1 2),vv 9 (.vs 6 false l_39),vv 10 (.tuple [(i6 x_42),(i6 x_43),(i6 x_44),(i6 x_45)])] [(1,⟨[(.str s_36),(.vs 3 false l_37),(.vs 6 false l_39),(i6 x_41)],[]⟩)] Hp.none 0) = some o := stM C 13 (fun _ _ => by kernel_rfl) ho
theorem p17v1_c (hC : Ext C) {s_36 : List UInt8} {l_37 l_40 : List AV} {x_41 : Int} (ho : RL C 17 [] (mk0 37 [vv 0 (.agg [(.str s_36),(.vs 3 false l_37),(.vs 6 true l_40),(i6 x_41)])]) = some o) : calL C 17 [(.agg [(.str s_36),(.vs 3 false l_37),(.vs 6 true l_40),(.int .i64 x_41)])] Hp.none 0 = some o := hC.call rfl (fun _ _ => by kernel_rfl) ho
theorem p17v1_0 {s_36 : List UInt8} {l_37 l_40 : List AV} {x_41 : Int} (ho : Tr.val C 17
 (cl0 36 [(.vs 6 true l_40)] fun r1 => .br (AV.pure r1.v)
 (.mid 0 [0,5,0] 3 (mkS 37 [(1,.lp 1 0),(8,.lp 1 2),(9,.val (.vs 6 true l_40) (.lL 1 2)),vv 10 r1.v] [(1,⟨[(.str s_36),(.vs 3 false l_37),(.vs 6 true l_40),(i6 x_41)],[2]⟩)] Hp.none 0)) .none) = some o) : RL C 17 [] (mk0 37 [vv 0 (.agg [(.str s_36),(.vs 3 false l_37),(.vs 6 true l_40),(i6 x_41)])]) = some o := stR C 4 (fun _ _ => by kernel_rfl) ho
theorem p17v1_1 {s_36 : List UInt8} {l_37 l_40 : List AV} {x_41 x_46 x_47 x_48 x_49 : Int} (ho : Tr.val C 17
 (.br (decide (x_46 = 1))
 (.br (decide (x_47 = 1))
 (.br (decide (x_48 = 1))
 (.br (decide (x_49 = 1))
 (.ret ⟨(.int .i64 1),Hp.none,0⟩)
 (.br (decide (1 ≤ x_46))
 (.br (decide (x_49 = 0))
 (.ret ⟨(.int .i64 2),Hp.none,0⟩)
 (.ret ⟨(.int .i64 0),Hp.none,0⟩))
 (.ret ⟨(.int .i64 0),Hp.none,0⟩)))
 (.br (decide (1 ≤ x_46))
 (.br (decide (x_49 = 0))
 (.ret ⟨(.int .i64 2),Hp.none,0⟩)
 (.ret ⟨(.int .i64 0),Hp.none,0⟩))
 (.ret ⟨(.int .i64 0),Hp.none,0⟩)))
 (.br (decide (1 ≤ x_46))
 (.br (decide (x_49 = 0))
 (.ret ⟨(.int .i64 2),Hp.none,0⟩)
 (.ret ⟨(.int .i64 0),Hp.none,0⟩))
 (.ret ⟨(.int .i64 0),Hp.none,0⟩)))
 (.br (decide (1 ≤ x_46))
 (.br (decide (x_49 = 0))
 (.ret ⟨(.int .i64 2),Hp.none,0⟩)
 (.ret ⟨(.int .i64 0),Hp.none,0⟩))
 (.ret ⟨(.int .i64 0),Hp.none,0⟩))) = some o) : ML C 17 [0,5,0] 3 (mkS 37 [(1,.lp 1 0),(8,.lp 1 2),(9,.val (.vs 6 true l_40) (.lL 1 2)),vv 10 (.tuple [(i6 x_46),(i6 x_47),(i6 x_48),(i6 x_49)])] [(1,⟨[(.str s_36),(.vs 3 false l_37),(.vs 6 true l_40),(i6 x_41)],[2]⟩)] Hp.none 0) = some o := stM C 13 (fun _ _ => by kernel_rfl) ho
theorem p17v2_c (hC : Ext C) {s_36 : List UInt8} {l_38 l_39 : List AV} {x_41 : Int} (ho : RL C 17 [] (mk0 37 [vv 0 (.agg [(.str s_36),(.vs 3 true l_38),(.vs 6 false l_39),(i6 x_41)])]) = some o) : calL C 17 [(.agg [(.str s_36),(.vs 3 true l_38),(.vs 6 false l_39),(.int .i64 x_41)])] Hp.none 0 = some o := hC.call rfl (fun _ _ => by kernel_rfl) ho
theorem p17v2_0 {s_36 : List UInt8} {l_38 l_39 : List AV} {x_41 : Int} (ho : Tr.val C 17
 (cl0 36 [(.vs 6 false l_39)] fun r1 => .br (AV.pure r1.v)
 (.mid 0 [0,5,0] 3 (mkS 37 [(1,.lp 1 0),(8,.lp 1 2),vv 9 (.vs 6 false l_39),vv 10 r1.v] [(1,⟨[(.str s_36),(.vs 3 true l_38),(.vs 6 false l_39),(i6 x_41)],[1]⟩)] Hp.none 0)) .none) = some o) : RL C 17 [] (mk0 37 [vv 0 (.agg [(.str s_36),(.vs 3 true l_38),(.vs 6 false l_39),(i6 x_41)])]) = some o := stR C 4 (fun _ _ => by kernel_rfl) ho
theorem p17v2_1 {s_36 : List UInt8} {l_38 l_39 : List AV} {x_41 x_50 x_51 x_52 x_53 : Int} (ho : Tr.val C 17
 (.br (decide (x_50 = 1))
 (.br (decide (x_51 = 1))
 (.br (decide (x_52 = 1))
 (.br (decide (x_53 = 1))
 (.ret ⟨(.int .i64 1),Hp.none,0⟩)
 (.br (decide (1 ≤ x_50))
 (.br (decide (x_53 = 0))
 (.ret ⟨(.int .i64 2),Hp.none,0⟩)
 (.ret ⟨(.int .i64 0),Hp.none,0⟩))
 (.ret ⟨(.int .i64 0),Hp.none,0⟩)))
 (.br (decide (1 ≤ x_50))
 (.br (decide (x_53 = 0))
 (.ret ⟨(.int .i64 2),Hp.none,0⟩)
 (.ret ⟨(.int .i64 0),Hp.none,0⟩))
 (.ret ⟨(.int .i64 0),Hp.none,0⟩)))
 (.br (decide (1 ≤ x_50))
 (.br (decide (x_53 = 0))
 (.ret ⟨(.int .i64 2),Hp.none,0⟩)
 (.ret ⟨(.int .i64 0),Hp.none,0⟩))
 (.ret ⟨(.int .i64 0),Hp.none,0⟩)))
 (.br (decide (1 ≤ x_50))
 (.br (decide (x_53 = 0))
 (.ret ⟨(.int .i64 2),Hp.none,0⟩)
 (.ret ⟨(.int .i64 0),Hp.none,0⟩))
 (.ret ⟨(.int .i64 0),Hp.none,0⟩))) = some o) : ML C 17 [0,5,0] 3 (mkS 37 [(1,.lp 1 0),(8,.lp 1 2),vv 9 (.vs 6 false l_39),vv 10 (.tuple [(i6 x_50),(i6 x_51),(i6 x_52),(i6 x_53)])] [(1,⟨[(.str s_36),(.vs 3 true l_38),(.vs 6 false l_39),(i6 x_41)],[1]⟩)] Hp.none 0) = some o := stM C 13 (fun _ _ => by kernel_rfl) ho
theorem p17v3_c (hC : Ext C) {s_36 : List UInt8} {l_38 l_40 : List AV} {x_41 : Int} (ho : RL C 17 [] (mk0 37 [vv 0 (.agg [(.str s_36),(.vs 3 true l_38),(.vs 6 true l_40),(i6 x_41)])]) = some o) : calL C 17 [(.agg [(.str s_36),(.vs 3 true l_38),(.vs 6 true l_40),(.int .i64 x_41)])] Hp.none 0 = some o := hC.call rfl (fun _ _ => by kernel_rfl) ho
theorem p17v3_0 {s_36 : List UInt8} {l_38 l_40 : List AV} {x_41 : Int} (ho : Tr.val C 17
 (cl0 36 [(.vs 6 true l_40)] fun r1 => .br (AV.pure r1.v)
 (.mid 0 [0,5,0] 3 (mkS 37 [(1,.lp 1 0),(8,.lp 1 2),(9,.val (.vs 6 true l_40) (.lL 1 2)),vv 10 r1.v] [(1,⟨[(.str s_36),(.vs 3 true l_38),(.vs 6 true l_40),(i6 x_41)],[1,2]⟩)] Hp.none 0)) .none) = some o) : RL C 17 [] (mk0 37 [vv 0 (.agg [(.str s_36),(.vs 3 true l_38),(.vs 6 true l_40),(i6 x_41)])]) = some o := stR C 4 (fun _ _ => by kernel_rfl) ho
theorem p17v3_1 {s_36 : List UInt8} {l_38 l_40 : List AV} {x_41 x_54 x_55 x_56 x_57 : Int} (ho : Tr.val C 17
 (.br (decide (x_54 = 1))
 (.br (decide (x_55 = 1))
 (.br (decide (x_56 = 1))
 (.br (decide (x_57 = 1))
 (.ret ⟨(.int .i64 1),Hp.none,0⟩)
 (.br (decide (1 ≤ x_54))
 (.br (decide (x_57 = 0))
 (.ret ⟨(.int .i64 2),Hp.none,0⟩)
 (.ret ⟨(.int .i64 0),Hp.none,0⟩))
 (.ret ⟨(.int .i64 0),Hp.none,0⟩)))
 (.br (decide (1 ≤ x_54))
 (.br (decide (x_57 = 0))
 (.ret ⟨(.int .i64 2),Hp.none,0⟩)
 (.ret ⟨(.int .i64 0),Hp.none,0⟩))
 (.ret ⟨(.int .i64 0),Hp.none,0⟩)))
 (.br (decide (1 ≤ x_54))
 (.br (decide (x_57 = 0))
 (.ret ⟨(.int .i64 2),Hp.none,0⟩)
 (.ret ⟨(.int .i64 0),Hp.none,0⟩))
 (.ret ⟨(.int .i64 0),Hp.none,0⟩)))
 (.br (decide (1 ≤ x_54))
 (.br (decide (x_57 = 0))
 (.ret ⟨(.int .i64 2),Hp.none,0⟩)
 (.ret ⟨(.int .i64 0),Hp.none,0⟩))
 (.ret ⟨(.int .i64 0),Hp.none,0⟩))) = some o) : ML C 17 [0,5,0] 3 (mkS 37 [(1,.lp 1 0),(8,.lp 1 2),(9,.val (.vs 6 true l_40) (.lL 1 2)),vv 10 (.tuple [(i6 x_54),(i6 x_55),(i6 x_56),(i6 x_57)])] [(1,⟨[(.str s_36),(.vs 3 true l_38),(.vs 6 true l_40),(i6 x_41)],[1,2]⟩)] Hp.none 0) = some o := stM C 13 (fun _ _ => by kernel_rfl) ho
end Go.Proofs.YtfdklpkfpmkgeaaGreatDoor
end
section
namespace Go.Proofs.YtfdklpkfpmkgeaaGreatDoor
open Go Go.Vai
attribute [local irreducible] goTo bodyOf mkS
def Cn.av (c : Cn) : AV := .agg [.int .i64 c.least,.int .i64 c.most,.bool c.w,.bool c.o]
def Pa.av (c : Pa) : AV := .tuple [.int .i64 c.a,.int .i64 c.b,.int .i64 c.c,.int .i64 c.d]
theorem Was.to {x : Option Out} {A B : AV} (h : Was x (fun o=>o.v = A)) (e : A = B) : Was x (fun o=>o.v = B) := e ▸ h
theorem agg4 {a a' b b' : Int} {c c' d d' : Bool} (h1 : a = a') (h2 : b = b') (h3 : c = c') (h4 : d = d') : AV.agg [.int .i64 a,.int .i64 b,.bool c,.bool d] = .agg [.int .i64 a',.int .i64 b',.bool c',.bool d'] := by subst h1 h2 h3 h4; rfl
theorem tup4 {a a' b b' c c' d d' : Int} (h1 : a = a') (h2 : b = b') (h3 : c = c') (h4 : d = d') : AV.tuple [.int .i64 a,.int .i64 b,.int .i64 c,.int .i64 d] = .tuple [.int .i64 a',.int .i64 b',.int .i64 c',.int .i64 d'] := by subst h1 h2 h3 h4; rfl
def XB (X : List (Nat × Blk)) : Prop := X = [] ∨ (∃ a b c d e f g h i,X = [(5,⟨[.int .i64 a,.str b,.vs 5 c d,.vs 6 e f,.vs 6 g h,.int .i64 i],[]⟩)]) ∨
 ∃ a b c d e f g h i j k l m n o p q,X = [(5,⟨[.int .i64 a,.str b,.vs 5 c d,.vs 6 e f,.vs 6 g h,.int .i64 i],[]⟩),(6,⟨[.int .i64 j,.int .i64 k,.bool l,.bool m],[]⟩),(7,⟨[.int .i64 n,.int .i64 o,.bool p,.bool q],[]⟩)]
theorem XB.one (a : Int) (b : List UInt8) (c : Bool) (d : List AV) (e : Bool) (f : List AV) (g : Bool) (h : List AV) (i : Int) : XB [(5,⟨[.int .i64 a,.str b,.vs 5 c d,.vs 6 e f,.vs 6 g h,.int .i64 i],[]⟩)] := .inr (.inl ⟨a,b,c,d,e,f,g,h,i,rfl⟩)
theorem XB.three (a : Int) (b : List UInt8) (c : Bool) (d : List AV) (e : Bool) (f : List AV) (g : Bool) (h : List AV) (i j k : Int) (l m : Bool) (n o : Int) (p q : Bool) : XB [(5,⟨[.int .i64 a,.str b,.vs 5 c d,.vs 6 e f,.vs 6 g h,.int .i64 i],[]⟩),(6,⟨[.int .i64 j,.int .i64 k,.bool l,.bool m],[]⟩),(7,⟨[.int .i64 n,.int .i64 o,.bool p,.bool q],[]⟩)] := .inr (.inr ⟨a,b,c,d,e,f,g,h,i,j,k,l,m,n,o,p,q,rfl⟩)
variable {C : Nat→Oracle} (hC : Ext C)
set_option maxHeartbeats 4000000 in
theorem cnt_loop (tg : Bool) (L : List Stm) (hL : L.length ≤ 10000) (ih : ∀ l tg,szL l < szL L→Was (calL C 35 [.vs 6 tg (stms l)] Hp.none 0) (fun o=>o.v = (cnL l).av)) (a1 a2 : Int) (a3 a4 : Bool) :
  ∀ (r : List Stm) (i : Nat) (x y : Int) (w u : Bool) (X : List (Nat × Blk)),L.drop i = r→i ≤ L.length→0 ≤ x→x ≤ y→y + szL r ≤ 10000→XB X →
  Was (RL C 35 [0,5,0,5,0,0,5,2,3] (mkS 89 [(2,.lp 2 0),(3,.lp 3 0),(8,.val (.vs 6 tg (stms L)) .no),(9,.val (.int .i64 (L.length : Int)) .no),(10,.val (.int .i64 (i : Int)) .no)] ([(2,⟨[(.int .i64 a1),(.int .i64 a2),(.bool a3),(.bool a4)],[]⟩),(3,⟨[(.int .i64 x),(.int .i64 y),(.bool w),(.bool u)],[]⟩)] ++ X) Hp.none 0))
   (fun o=>o.v = .agg [.int .i64 (x + (cnL r).least),.int .i64 (y + (cnL r).most),.bool (w || (cnL r).w),.bool (u || (cnL r).o)]):=by
 intro r
 have hlen : (stms L).length = L.length := by rw [stms_map,List.length_map]
 induction r with
 | nil =>
  intro i x y w u X hi hil h0 h1 h2 hX
  have := drop_nil_len _ _ hil hi
  rw [cnL]
  simp only [Int.add_zero,Bool.or_false]
  rcases hX with rfl | ⟨a,b,c,d,e,f,g,h,i',rfl⟩ | ⟨a,b,c,d,e,f,g,h,i',j,k,l,m,n,o,p,q,rfl⟩
  all_goals
   simp only [List.append_nil,List.cons_append,List.nil_append]
   first | refine exW (fun o=>p35_1) ?_ | refine exW (fun o=>p35_3) ?_ | refine exW (fun o=>p35_7) ?_
   exact .bF (by omega) (.mk rfl)
 | cons s r IH =>
  intro i x y w u X hi hil h0 h1 h2 hX
  obtain ⟨g1,g2,g3⟩ := getq_drop _ _ hi
  obtain ⟨k,nm,v,t1,th,t2,el,at'⟩ := s
  have hsz : szL (Stm.mk k nm v t1 th t2 el at' :: r) = 1 + szL th + szL el + szL r := by rw [szL,Stm.sz]
  have hszL : szL L = szL (L.take i) + szL (Stm.mk k nm v t1 th t2 el at' :: r) := by rw [← hi,← szL_append,List.take_append_drop]
  have ihT : ∀ tg,szL th < szL L→Was (calL C 35 [.vs 6 tg (stms th)] Hp.none 0) (fun o=>o.v = .agg [.int .i64 (cnL th).least,.int .i64 (cnL th).most,.bool (cnL th).w,.bool (cnL th).o]) := fun tg h=>ih th tg h
  have ihE : ∀ tg,szL el < szL L→Was (calL C 35 [.vs 6 tg (stms el)] Hp.none 0) (fun o=>o.v = .agg [.int .i64 (cnL el).least,.int .i64 (cnL el).most,.bool (cnL el).w,.bool (cnL el).o]) := fun tg h=>ih el tg h
  have hn : nth (stms L) (Int.toNat (i : Int)) = some (Stm.mk k nm v t1 th t2 el at').av := by rw [Int.toNat_natCast,nth_get,stms_map,List.getElem?_map,g1]; rfl
  obtain ⟨bl,bm,bn⟩ := And.intro (both_stms th).l0 (And.intro (both_stms th).lm (both_stms th).mn)
  obtain ⟨bl',bm',bn'⟩ := And.intro (both_stms el).l0 (And.intro (both_stms el).lm (both_stms el).mn)
  have hc : cnL (Stm.mk k nm v t1 th t2 el at' :: r) = ⟨(Stm.mk k nm v t1 th t2 el at').cn.least + (cnL r).least,(Stm.mk k nm v t1 th t2 el at').cn.most + (cnL r).most,(Stm.mk k nm v t1 th t2 el at').cn.w || (cnL r).w,(Stm.mk k nm v t1 th t2 el at').cn.o || (cnL r).o⟩ := by rw [cnL]
  have wi : IntKind.wrap .i64 ((i : Int) + 1) = ((i + 1 : Nat) : Int) := by rw [wrap64 (by omega) (by omega)]; omega
  rw [hc]
  by_cases k6 : k = 6
  ·have hcn : (Stm.mk k nm v t1 th t2 el at').cn = ⟨if (cnL el).least < (cnL th).least then (cnL el).least else (cnL th).least,if (cnL th).most < (cnL el).most then (cnL el).most else (cnL th).most,(cnL th).w || (cnL el).w,(cnL th).o || (cnL el).o⟩ := by rw [Stm.cn,if_pos k6]
   rw [hcn]
   generalize hm1 : (if (cnL el).least < (cnL th).least then (cnL el).least else (cnL th).least) = m1
   generalize hm2 : (if (cnL th).most < (cnL el).most then (cnL el).most else (cnL th).most) = m2
   have b1 : 0 ≤ m1∧m1 ≤ m2∧m2 ≤ szL th + szL el := by rw [← hm1,← hm2]; split <;> split <;> omega
   have wx : IntKind.wrap .i64 (x + m1) = x + m1 := wrap64 (by omega) (by omega)
   have wy : IntKind.wrap .i64 (y + m2) = y + m2 := wrap64 (by omega) (by omega)
   have go := fun w' u' X' hX'=>IH (i + 1) (x + m1) (y + m2) w' u' X' g2 (by omega) (by omega) (by omega) (by omega) hX'
   rcases hX with rfl | ⟨a,b,c,d,e,f,g,h,i',rfl⟩ | ⟨a,b,c,d,e,f,g,h,i',j,k',l,m,n,o,p,q,rfl⟩
   all_goals
    simp only [List.append_nil,List.cons_append,List.nil_append] at go ⊢
    first | refine exW (fun o=>p35_1) ?_ | refine exW (fun o=>p35_3) ?_ | refine exW (fun o=>p35_7) ?_
    simp only [Tr.val,hlen,hn,Option.bind_some,stm_mk,AV.cells]
    refine .bT (by omega) (.bT (by omega) (.bT (by omega) ?_))
    first | refine exW (fun o=>p35_2) ?_ | refine exW (fun o=>p35_5) ?_ | refine exW (fun o=>p35_8) ?_ | refine exW (fun o=>p35_9) ?_
    simp only [Tr.val,k6,decide_true,Bool.not_true,br_false,pureL,AV.pure,pure_stms,br_true]
    refine .call (ihT _ (by omega)) ?_
    rintro o e
    simp only [e,AV.pure,pureL,br_true]
    clear e
    first | refine exW (fun o=>p35_4) ?_ | refine exW (fun o=>p35_8) ?_ | refine exW (fun o=>p35_9) ?_ | refine exW (fun o=>p35_10) ?_
    simp only [Tr.val,pureL,AV.pure,pure_stms,br_true]
    refine .call (ihE _ (by omega)) ?_
    rintro o e
    simp only [e,AV.pure,pureL,br_true]
    clear e
    first | refine exW (fun o=>p35_6) ?_ | refine exW (fun o=>p35_8) ?_ | refine exW (fun o=>p35_9) ?_ | refine exW (fun o=>p35_10) ?_
    simp only [Tr.val,hm1,hm2,wx,wy,wi]
    repeat' (refine .both (fun h=>?_) (fun h=>?_))
    all_goals exact Was.to (go _ _ _ (XB.three _ _ _ _ _ _ _ _ _ _ _ _ _ _ _ _ _)) (agg4 (by omega) (by omega) (by simp [*]) (by simp [*]))
  ·have hcn : (Stm.mk k nm v t1 th t2 el at').cn = ⟨1,1,decide (k = 1),!decide (k = 1)⟩ := by rw [Stm.cn,if_neg k6]
   rw [hcn]
   have wx : IntKind.wrap .i64 (x + 1) = x + 1 := wrap64 (by omega) (by omega)
   have wy : IntKind.wrap .i64 (y + 1) = y + 1 := wrap64 (by omega) (by omega)
   have go := fun w' u' X' hX'=>IH (i + 1) (x + 1) (y + 1) w' u' X' g2 (by omega) (by omega) (by omega) (by omega) hX'
   rcases hX with rfl | ⟨a,b,c,d,e,f,g,h,i',rfl⟩ | ⟨a,b,c,d,e,f,g,h,i',j,k',l,m,n,o,p,q,rfl⟩
   all_goals
    simp only [List.append_nil,List.cons_append,List.nil_append] at go ⊢
    first | refine exW (fun o=>p35_1) ?_ | refine exW (fun o=>p35_3) ?_ | refine exW (fun o=>p35_7) ?_
    simp only [Tr.val,hlen,hn,Option.bind_some,stm_mk,AV.cells]
    refine .bT (by omega) (.bT (by omega) (.bT (by omega) ?_))
    first | refine exW (fun o=>p35_2) ?_ | refine exW (fun o=>p35_5) ?_ | refine exW (fun o=>p35_8) ?_ | refine exW (fun o=>p35_9) ?_
    simp only [Tr.val,k6,decide_false,Bool.not_false,br_true,wx,wy,wi]
    repeat' (refine .both (fun h=>?_) (fun h=>?_))
    all_goals first
     | exact Was.to (go _ _ _ (XB.one _ _ _ _ _ _ _ _ _)) (agg4 (by omega) (by omega) (by simp [*]) (by simp [*]))
     | exact Was.to (go _ _ _ (XB.three _ _ _ _ _ _ _ _ _ _ _ _ _ _ _ _ _)) (agg4 (by omega) (by omega) (by simp [*]) (by simp [*]))
end Go.Proofs.YtfdklpkfpmkgeaaGreatDoor
end
section
namespace Go.Proofs.YtfdklpkfpmkgeaaGreatDoor
open Go Go.Vai
attribute [local irreducible] goTo bodyOf mkS
theorem len_sz : ∀ l : List Stm,l.length ≤ szL l
 | []=>Nat.zero_le _
 | .mk k s v t1 th t2 el a :: l=>by
  have := len_sz l
  rw [szL,Stm.sz,List.length_cons]
  omega
variable {C : Nat→Oracle} (hC : Ext C)
include hC
theorem w35 : ∀ (N : Nat) (l : List Stm) (tg : Bool),szL l = N→N ≤ 9000→Was (calL C 35 [.vs 6 tg (stms l)] Hp.none 0) (fun o=>o.v = (cnL l).av):=by
 intro N
 induction N using Nat.strongRecOn with
 | _ N ih =>
 intro l tg hl hN
 have hlen : (stms l).length = l.length := by rw [stms_map,List.length_map]
 have := len_sz l
 refine exW (fun o=>p35_c hC) (exW (fun o=>p35_0) ?_)
 have := cnt_loop tg l (by omega) (fun l' tg' h=>ih (szL l') (by omega) l' tg' rfl (by omega)) 0 0 false false l 0 0 0 false false [] rfl (Nat.zero_le _) (by decide) (by decide) (by omega) (.inl rfl)
 simp only [List.append_nil] at this
 simp only [Tr.val,hlen]
 refine this.to ?_
 exact agg4 (by omega) (by omega) (by simp) (by simp)
theorem pa_loop36 (tg : Bool) (L : List Stm) (hL : L.length ≤ 10000) (ih : ∀ l tg,szL l < szL L→Was (calL C 36 [.vs 6 tg (stms l)] Hp.none 0) (fun o=>o.v = (paS l).av)) :
  ∀ (r : List Stm) (i : Nat) (x y z u : Int),L.drop i = r→i ≤ L.length→0 ≤ x→x ≤ y→0 ≤ z→z ≤ u→u ≤ y→y + szL r ≤ 10000 →
  Was (RL C 36 [0,5,0,0,5,2,3] (mkS 80 [(0,.val (.vs 6 tg (stms L)) .no),(2,.val (.int .i64 x) .no),(3,.val (.int .i64 y) .no),(4,.val (.int .i64 z) .no),(5,.val (.int .i64 u) .no),(6,.val (.int .i64 (i : Int)) .no)] [] Hp.none 0))
   (fun o=>o.v = .tuple [.int .i64 (x + (paS r).a),.int .i64 (y + (paS r).b),.int .i64 (z + (paS r).c),.int .i64 (u + (paS r).d)]):=by
 intro r
 have hlen : (stms L).length = L.length := by rw [stms_map,List.length_map]
 induction r with
 | nil =>
  intro i x y z u hi hil h0 h1 h2 h3 h4 h5
  have := drop_nil_len _ _ hil hi
  rw [paS]
  simp only [Int.add_zero]
  refine exW (fun o=>p36_1) ?_
  simp only [Tr.val,hlen]
  exact .bF (by omega) (.mk rfl)
 | cons s r IH =>
  intro i x y z u hi hil h0 h1 h2 h3 h4 h5
  obtain ⟨g1,g2,g3⟩ := getq_drop _ _ hi
  obtain ⟨k,nm,v,t1,th,t2,el,at'⟩ := s
  have hsz : szL (Stm.mk k nm v t1 th t2 el at' :: r) = 1 + szL th + szL el + szL r := by rw [szL,Stm.sz]
  have hszL : szL L = szL (L.take i) + szL (Stm.mk k nm v t1 th t2 el at' :: r) := by rw [← hi,← szL_append,List.take_append_drop]
  have ihT : ∀ tg,szL th < szL L→Was (calL C 36 [.vs 6 tg (stms th)] Hp.none 0) (fun o=>o.v = .tuple [.int .i64 (paS th).a,.int .i64 (paS th).b,.int .i64 (paS th).c,.int .i64 (paS th).d]) := fun tg h=>ih th tg h
  have ihE : ∀ tg,szL el < szL L→Was (calL C 36 [.vs 6 tg (stms el)] Hp.none 0) (fun o=>o.v = .tuple [.int .i64 (paS el).a,.int .i64 (paS el).b,.int .i64 (paS el).c,.int .i64 (paS el).d]) := fun tg h=>ih el tg h
  have hn : nth (stms L) (Int.toNat (i : Int)) = some (Stm.mk k nm v t1 th t2 el at').av := by rw [Int.toNat_natCast,nth_get,stms_map,List.getElem?_map,g1]; rfl
  obtain ⟨A1,B1,l1,m1,n1,c1,d1,e1,_,_,_⟩ := both_stms th
  obtain ⟨A2,B2,l2,m2,n2,c2,d2,e2,_,_,_⟩ := both_stms el
  have hc : paS (Stm.mk k nm v t1 th t2 el at' :: r) = ⟨(Stm.mk k nm v t1 th t2 el at').pa.a + (paS r).a,(Stm.mk k nm v t1 th t2 el at').pa.b + (paS r).b,(Stm.mk k nm v t1 th t2 el at').pa.c + (paS r).c,(Stm.mk k nm v t1 th t2 el at').pa.d + (paS r).d⟩ := by rw [paS]
  have wi : IntKind.wrap .i64 ((i : Int) + 1) = ((i + 1 : Nat) : Int) := by rw [wrap64 (by omega) (by omega)]; omega
  have w1 : ∀ q : Int,0 ≤ q→q ≤ 20000→IntKind.wrap .i64 q = q := fun q a b=>wrap64 (by omega) (by omega)
  rw [hc]
  refine exW (fun o=>p36_1) ?_
  simp only [Tr.val,hlen,hn,Option.bind_some,stm_mk,AV.cells]
  refine .bT (by omega) (.bT (by omega) (.bT (by omega) ?_))
  refine exW (fun o=>p36_2) ?_
  simp only [Tr.val,hlen,hn,Option.bind_some,stm_mk,AV.cells]
  by_cases k1 : k = 1
  ·have hp : (Stm.mk k nm v t1 th t2 el at').pa = ⟨1,1,1,1⟩ := by rw [Stm.pa,if_pos k1]
   rw [hp]
   refine .bT k1 ?_
   rw [wi,w1 (x + 1) (by omega) (by omega),w1 (y + 1) (by omega) (by omega),w1 (z + 1) (by omega) (by omega),w1 (u + 1) (by omega) (by omega)]
   exact (IH (i + 1) _ _ _ _ g2 (by omega) (by omega) (by omega) (by omega) (by omega) (by omega) (by omega)).to (tup4 (by first | omega | (simp only; omega)) (by first | omega | (simp only; omega)) (by first | omega | (simp only; omega)) (by first | omega | (simp only; omega)))
  refine .bF k1 ?_
  by_cases k6 : k = 6
  ·have hp : (Stm.mk k nm v t1 th t2 el at').pa = ⟨if (paS el).a < (paS th).a then (paS el).a else (paS th).a,if (paS th).b < (paS el).b then (paS el).b else (paS th).b,if (paS el).c < (paS th).c then (paS el).c else (paS th).c,if (paS th).d < (paS el).d then (paS el).d else (paS th).d⟩ := by rw [Stm.pa,if_neg k1,if_pos k6]
   rw [hp]
   refine .bT k6 (.bT (by omega) (.bT (by omega) ?_))
   refine exW (fun o=>p36_3) ?_
   simp only [Tr.val,pureL,AV.pure,pure_stms,br_true]
   refine .call (ihT _ (by omega)) ?_
   rintro o e
   simp only [e,AV.pure,pureL,br_true]
   clear e
   refine exW (fun o=>p36_4) ?_
   simp only [Tr.val,hlen,hn,Option.bind_some,stm_mk,AV.cells]
   refine .bT (by omega) (.bT (by omega) ?_)
   refine exW (fun o=>p36_5) ?_
   simp only [Tr.val,pureL,AV.pure,pure_stms,br_true]
   refine .call (ihE _ (by omega)) ?_
   rintro o e
   simp only [e,AV.pure,pureL,br_true]
   clear e
   refine exW (fun o=>p36_6) ?_
   simp only [Tr.val]
   generalize hm1 : (if (paS el).a < (paS th).a then (paS el).a else (paS th).a) = m1'
   generalize hm2 : (if (paS th).b < (paS el).b then (paS el).b else (paS th).b) = m2'
   generalize hm3 : (if (paS el).c < (paS th).c then (paS el).c else (paS th).c) = m3'
   generalize hm4 : (if (paS th).d < (paS el).d then (paS el).d else (paS th).d) = m4'
   have b1 : 0 ≤ m1'∧m1' ≤ m2'∧m2' ≤ szL th + szL el := by rw [← hm1,← hm2]; split <;> split <;> omega
   have b2 : 0 ≤ m3'∧m3' ≤ m4' := by rw [← hm3,← hm4]; split <;> split <;> omega
   have b3 : m4' ≤ m2' := by rw [← hm4,← hm2]; split <;> split <;> omega
   rw [wi,w1 (x + m1') (by omega) (by omega),w1 (y + m2') (by omega) (by omega),w1 (z + m3') (by omega) (by omega),w1 (u + m4') (by omega) (by omega)]
   exact (IH (i + 1) _ _ _ _ g2 (by omega) (by omega) (by omega) (by omega) (by omega) (by omega) (by omega)).to (tup4 (by first | omega | (simp only; omega)) (by first | omega | (simp only; omega)) (by first | omega | (simp only; omega)) (by first | omega | (simp only; omega)))
  ·have hp : (Stm.mk k nm v t1 th t2 el at').pa = ⟨1,1,0,0⟩ := by rw [Stm.pa,if_neg k1,if_neg k6]
   rw [hp]
   refine .bF k6 ?_
   simp only [wi,w1 (x + 1) (by omega) (by omega),w1 (y + 1) (by omega) (by omega),w1 (z + 0) (by omega) (by omega),w1 (u + 0) (by omega) (by omega)]
   exact (IH (i + 1) _ _ _ _ g2 (by omega) (by omega) (by omega) (by omega) (by omega) (by omega) (by omega)).to (tup4 (by first | omega | (simp only; omega)) (by first | omega | (simp only; omega)) (by first | omega | (simp only; omega)) (by first | omega | (simp only; omega)))
theorem w36 : ∀ (N : Nat) (l : List Stm) (tg : Bool),szL l = N→N ≤ 9000→Was (calL C 36 [.vs 6 tg (stms l)] Hp.none 0) (fun o=>o.v = (paS l).av):=by
 intro N
 induction N using Nat.strongRecOn with
 | _ N ih =>
 intro l tg hl hN
 have := len_sz l
 refine exW (fun o=>p36_c hC) (exW (fun o=>p36_0) ?_)
 have := pa_loop36 hC tg l (by omega) (fun l' tg' h=>ih (szL l') (by omega) l' tg' rfl (by omega)) l 0 0 0 0 0 rfl (Nat.zero_le _) (by decide) (by decide) (by decide) (by decide) (by decide) (by omega)
 refine this.to ?_
 exact tup4 (by omega) (by omega) (by omega) (by omega)
theorem w16 (o : Opn) (h : szL o.body ≤ 9000) : Was (calL C 16 [o.av] Hp.none 0) (fun q=>q.v = .int .i64 (clsC (cnL o.body))):=by
 obtain ⟨nm,t1,ps,t2,b,a⟩ := o
 simp only [Opn.av] at h ⊢
 have hc := w35 hC _ b t2 rfl h
 unfold Cn.av at hc
 generalize cnL b = c at hc ⊢
 obtain ⟨l,m,w,u⟩ := c
 cases t1 <;> cases t2
 all_goals
  first | refine exW (fun o=>p16v0_c hC) (exW (fun o=>p16v0_0) ?_) | refine exW (fun o=>p16v1_c hC) (exW (fun o=>p16v1_0) ?_) | refine exW (fun o=>p16v2_c hC) (exW (fun o=>p16v2_0) ?_) | refine exW (fun o=>p16v3_c hC) (exW (fun o=>p16v3_0) ?_)
  simp only [Tr.val,pureL,AV.pure,pure_stms,br_true]
  refine .call hc ?_
  rintro q e
  simp only [e,AV.pure,pureL,br_true]
  first | refine exW (fun o=>p16v0_1) ?_ | refine exW (fun o=>p16v1_1) ?_ | refine exW (fun o=>p16v2_1) ?_ | refine exW (fun o=>p16v3_1) ?_
  simp only [Tr.val,clsC]
  by_cases h1 : l = 1 <;> by_cases h2 : m = 1 <;> by_cases h3 : 1 ≤ l <;> cases w <;> cases u <;> simp only [h1,h2,h3,decide_true,decide_false,br_true,br_false,Bool.not_true,Bool.not_false,and_true,true_and,if_true,if_false,and_false,false_and,Bool.true_eq_false,Bool.false_eq_true] <;> first | exact .mk rfl | (exact absurd (by omega) h3) | skip
  all_goals exact .mk (by simp)
theorem w17 (o : Opn) (h : szL o.body ≤ 9000) : Was (calL C 17 [o.av] Hp.none 0) (fun q=>q.v = .int .i64 (clsR (paS o.body))):=by
 obtain ⟨nm,t1,ps,t2,b,a⟩ := o
 simp only [Opn.av] at h ⊢
 have hc := w36 hC _ b t2 rfl h
 unfold Pa.av at hc
 generalize paS b = c at hc ⊢
 obtain ⟨x,y,z,u⟩ := c
 cases t1 <;> cases t2
 all_goals
  first | refine exW (fun o=>p17v0_c hC) (exW (fun o=>p17v0_0) ?_) | refine exW (fun o=>p17v1_c hC) (exW (fun o=>p17v1_0) ?_) | refine exW (fun o=>p17v2_c hC) (exW (fun o=>p17v2_0) ?_) | refine exW (fun o=>p17v3_c hC) (exW (fun o=>p17v3_0) ?_)
  simp only [Tr.val,pureL,AV.pure,pure_stms,br_true]
  refine .call hc ?_
  rintro q e
  simp only [e,AV.pure,pureL,br_true]
  first | refine exW (fun o=>p17v0_1) ?_ | refine exW (fun o=>p17v1_1) ?_ | refine exW (fun o=>p17v2_1) ?_ | refine exW (fun o=>p17v3_1) ?_
  simp only [Tr.val,clsR]
  by_cases h1 : x = 1 <;> by_cases h2 : y = 1 <;> by_cases h3 : z = 1 <;> by_cases h4 : u = 1 <;> by_cases h5 : 1 ≤ x <;> by_cases h6 : u = 0 <;> simp only [h1,h2,h3,h4,h5,h6,decide_true,decide_false,br_true,br_false,and_true,true_and,if_true,if_false,and_false,false_and] <;> first | exact .mk rfl | (exact absurd (by omega) h5) | skip
  all_goals exact .mk (by simp_all)
theorem w1617 (o : Opn) (h : szL o.body ≤ 9000) : ∃ x : Int,Was (calL C 16 [o.av] Hp.none 0) (fun q=>q.v = .int .i64 x)∧Was (calL C 17 [o.av] Hp.none 0) (fun q=>q.v = .int .i64 x) :=
 ⟨_,w16 hC o h,by rw [cls_same]; exact w17 hC o h⟩
end Go.Proofs.YtfdklpkfpmkgeaaGreatDoor
end
section
namespace Go.Proofs.YtfdklpkfpmkgeaaGreatDoor
open Go Go.Vai
attribute [local irreducible] goTo bodyOf mkS
variable {C : Nat→Oracle} (hC : Ext C)
include hC
set_option maxHeartbeats 4000000 in
theorem stm_loop (tg : Bool) (l : List Int) (hl : l.length ≤ 1000000) (B M : Nat) (hM : 2 * B + 4200 ≤ M) (hM2 : M ≤ 1000000000000) (d : Int) (hd : 0 ≤ d∧d ≤ 100) (ih : d ≤ 2→∀ a : Int,Was (calL C 38 [.vs 1 tg (ints l),.int .i64 a,.int .i64 (d + 1)] Hp.none 0) (QP B)) :
  ∀ (m : Nat) (i a : Int) (s : List UInt8),(4 - i).toNat = m→0 ≤ i→i ≤ 3→s.length ≤ i.toNat * M →
  Was (RL C 38 [0,5,0,5,0,0,5,2,3] (mkS 107 [(0,.val (.vs 1 tg (ints l)) .no),(1,.val (.int .i64 a) .no),(2,.val (.int .i64 d) .no),(8,.val (.str s) .no),(9,.val (.int .i64 i) .no)] [] Hp.none 0)) (QP (3 * M)):=by
 intro m
 induction m with
 | zero=>intro i a s hm h0 h4; omega
 | succ m IH =>
  intro i a s hm h0 h4 hs
  have w1 : IntKind.wrap .i64 (d + 1) = d + 1 := wrap64 (by omega) (by omega)
  have w3 : IntKind.wrap .i64 (i + 1) = i + 1 := wrap64 (by omega) (by omega)
  have k1 : (i + 1).toNat * M = i.toNat * M + M := by rw [show (i + 1).toNat = i.toNat + 1 by omega,Nat.succ_mul]
  have k3 : i.toNat * M ≤ 3 * M := Nat.mul_le_mul_right M (by omega)
  refine exW (fun o=>p38_1) ?_
  simp only [Tr.val,pureL,AV.pure,br_true,pure_ints]
  repeat' (first
   | refine .bL (by first | omega | (simp only [List.length_append,List.length_cons,List.length_nil,List.length_drop,List.length_take]; omega)) ?_
   | refine .bT (by omega) ?_
   | refine .bF (by omega) ?_
   | (refine .call (w34 hC _ _ (by omega) _) ?_; rintro o ⟨x,e⟩; simp only [e,AV.pure,br_true]; clear e)
   | (refine .call (w37 hC _) ?_; rintro o ⟨s,e,h1⟩; simp only [e,AV.pure,br_true]; clear e)
   | (refine .call (w22 hC _ _ (by omega) (by omega)) ?_; rintro o ⟨x,e,h1,h2⟩; simp only [e,AV.pure,br_true]; clear e)
   | (refine .call (ih (by omega) _) ?_; rintro o ⟨s,x,e,h1⟩; simp only [e,AV.pure,pureL,br_true]; clear e)
   | (refine .call (w40 hC _ _ (by omega) _ _ (by omega) (by omega)) ?_; rintro o ⟨s,x,e,h1⟩; simp only [e,AV.pure,pureL,br_true]; clear e)
   | (refine exW (fun o=>p38_2) ?_; simp only [Tr.val,pureL,AV.pure,br_true,AV.cells,pure_ints,len_ints,Bool.not_true,Bool.not_false,w1,w3])
   | (refine exW (fun o=>p38_3) ?_; simp only [Tr.val,pureL,AV.pure,br_true,AV.cells,pure_ints,len_ints,Bool.not_true,Bool.not_false,w1,w3])
   | (refine exW (fun o=>p38_4) ?_; simp only [Tr.val,pureL,AV.pure,br_true,AV.cells,pure_ints,len_ints,Bool.not_true,Bool.not_false,w1,w3])
   | (refine exW (fun o=>p38_5) ?_; simp only [Tr.val,pureL,AV.pure,br_true,AV.cells,pure_ints,len_ints,Bool.not_true,Bool.not_false,w1,w3])
   | (refine exW (fun o=>p38_6) ?_; simp only [Tr.val,pureL,AV.pure,br_true,AV.cells,pure_ints,len_ints,Bool.not_true,Bool.not_false,w1,w3])
   | (refine exW (fun o=>p38_7) ?_; simp only [Tr.val,pureL,AV.pure,br_true,AV.cells,pure_ints,len_ints,Bool.not_true,Bool.not_false,w1,w3])
   | (refine exW (fun o=>p38_8) ?_; simp only [Tr.val,pureL,AV.pure,br_true,AV.cells,pure_ints,len_ints,Bool.not_true,Bool.not_false,w1,w3])
   | (refine exW (fun o=>p38_9) ?_; simp only [Tr.val,pureL,AV.pure,br_true,AV.cells,pure_ints,len_ints,Bool.not_true,Bool.not_false,w1,w3])
   | (refine exW (fun o=>p38_10) ?_; simp only [Tr.val,pureL,AV.pure,br_true,AV.cells,pure_ints,len_ints,Bool.not_true,Bool.not_false,w1,w3])
   | (refine exW (fun o=>p38_11) ?_; simp only [Tr.val,pureL,AV.pure,br_true,AV.cells,pure_ints,len_ints,Bool.not_true,Bool.not_false,w1,w3])
   | (refine .nth (B := 20) rfl (by simp only [List.length_cons,List.length_nil]; omega) fun s hs=>?_; simp only [AV.cells])
   | exact .mk ⟨_,_,rfl,by first | omega | (simp only [List.length_append,List.length_cons,List.length_nil,List.length_drop,List.length_take]; omega)⟩
   | refine .dec (fun h=>?_) (fun h=>?_)
   | refine .both (fun h=>?_) (fun h=>?_))
  all_goals exact IH _ _ _ (by omega) (by omega) (by omega) (by first | omega | (simp only [List.length_append,List.length_cons,List.length_nil]; omega))
theorem w38s (tg : Bool) (l : List Int) (hl : l.length ≤ 1000000) (B M : Nat) (hM : 2 * B + 4200 ≤ M) (hM2 : M ≤ 1000000000000) (d : Int) (hd : 0 ≤ d∧d ≤ 100) (ih : d ≤ 2→∀ a : Int,Was (calL C 38 [.vs 1 tg (ints l),.int .i64 a,.int .i64 (d + 1)] Hp.none 0) (QP B)) (a : Int) :
  Was (calL C 38 [.vs 1 tg (ints l),.int .i64 a,.int .i64 d] Hp.none 0) (QP (3 * M)):=by
 refine exW (fun o=>p38_c hC) (exW (fun o=>p38_0) ?_)
 exact stm_loop hC tg l hl B M hM hM2 d hd ih _ 0 a [] rfl (by decide) (by decide) (by simp)
theorem w38 (tg : Bool) (l : List Int) (hl : l.length ≤ 1000000) (a : Int) : Was (calL C 38 [.vs 1 tg (ints l),.int .i64 a,.int .i64 0] Hp.none 0) (QP 4000000):=by
 have s3 := w38s hC tg l hl 0 4200 (by decide) (by decide) 3 (by decide) (fun h=>absurd h (by decide))
 have s2 := w38s hC tg l hl _ 29400 (by decide) (by decide) 2 (by decide) (fun _=>s3)
 have s1 := w38s hC tg l hl _ 180600 (by decide) (by decide) 1 (by decide) (fun _=>s2)
 have s0 := w38s hC tg l hl _ 1087800 (by decide) (by decide) 0 (by decide) (fun _=>s1)
 exact (s0 a).imp fun o ⟨s,x,e1,e2⟩=>⟨s,x,e1,Nat.le_trans e2 (by decide)⟩
end Go.Proofs.YtfdklpkfpmkgeaaGreatDoor
end
section
namespace Go.Proofs.YtfdklpkfpmkgeaaGreatDoor
open Go Go.Vai
attribute [local irreducible] goTo bodyOf mkS
variable {C : Nat → Oracle} {o : Out}
abbrev cH0 : AV := (.vs 1 true [(.str [116]),(.str [97,99,99,111,117,110,116]),(.str [117])])
abbrev qH0 : List Nat := [0,5,0,5,0,5,0,0,5,2,3,0,0,5,6,5,0,2,0,5,0,5,0,5,0,0,5,2,3]
abbrev qH1 : List Nat := [0,5,0,5,0,5,0,0,5,2,3,0,0,5,6,5,0,2,0]
abbrev qH2 : List Nat := [0,5,0,5,0,5,0,0,5,2,3,0,0]
abbrev qH3 : List Nat := [0,5,0,5,0,5,0,0,5,2,3,0,0,5,6,5,0,2,0,5,0]
abbrev qH4 : List Nat := [0,5,0,5,0,5,0,0,5,2,3,0,0,5,6,5,0,2,0,5,0,5,0,5,0,0,5,2,3,0,0,5,6,5,0,2,0,5,0,5,0,5,0,5,0,5,2,0,5,7,0,5,7,0,5,7,0,5,7,0,5,7,0,5,7,0,5,6,0,5]
abbrev qH5 : List Nat := [0,5,0,5,0,5,0,0,5,2,3,0,0,5,6,5,0,2,0,5,0,5,0,5,0,0,5,2,3,0,0,5,6,5,0,2,0,5,0,5,0,5,0,5,0,5,2,0,5,7,0,5,7,0,5,7,0,5,7,0,5,7,0,5,7,0,5,7,0,5,6,0,5]
abbrev qH6 : List Nat := [0,5,0,5,0,5,0,0,5,2,3,0,0,5,6,5,0,2,0,5,0,5,0,5,0,0,5,2,3,0,0,5,6,5,0,2,0]
abbrev qH7 : List Nat := [0,5,0,5,0,5,0,0,5,2,3,0,0,5,6,5,0,2,0,5,0,5,0,5,0,0,5,2,3,0,0,5,6,5,0,2,0,5,0]
abbrev qH8 : List Nat := [0,5,0,5,0,5,0,0,5,2,3,0,0,5,6,5,0,2,0,5,0,5,0,5,0,0,5,2,3,0,0,5,6,5,0,2,0,5,0,5,0,5,0,5,0]
abbrev qH9 : List Nat := [0,5,0,5,0,5,0,0,5,2,3,0,0,5,6,5,0,2,0,5,0,5,0,5,0,0,5,2,3,0,0,5,6,5,0,2,0,5,0,5,0,5,0,5,0,5,2,0,5,6]
abbrev qH10 : List Nat := [0,5,0,5,0,5,0,0,5,2,3,0,0,5,6,5,0,2,0,5,0,5,0,5,0,0,5,2,3,0,0,5,6,5,0,2,0,5,0,5,0,5,0,5,0,5,2,0,5,7,0,5,6]
abbrev qH11 : List Nat := [0,5,0,5,0,5,0,0,5,2,3,0,0,5,6,5,0,2,0,5,0,5,0,5,0,0,5,2,3,0,0,5,6,5,0,2,0,5,0,5,0,5,0,5,0,5,2,0,5,7,0,5,7,0,5,6]
abbrev qH12 : List Nat := [0,5,0,5,0,5,0,0,5,2,3,0,0,5,6,5,0,2,0,5,0,5,0,5,0,0,5,2,3,0,0,5,6,5,0,2,0,5,0,5,0,5,0,5,0,5,2,0,5,7,0,5,7,0,5,7,0,5,6]
abbrev qH13 : List Nat := [0,5,0,5,0,5,0,0,5,2,3,0,0,5,6,5,0,2,0,5,0,5,0,5,0,0,5,2,3,0,0,5,6,5,0,2,0,5,0,5,0,5,0,5,0,5,2,0,5,7,0,5,7,0,5,7,0,5,7,0,5,6]
abbrev qH14 : List Nat := [0,5,0,5,0,5,0,0,5,2,3,0,0,5,6,5,0,2,0,5,0,5,0,5,0,0,5,2,3,0,0,5,6,5,0,2,0,5,0,5,0,5,0,5,0,5,2,0,5,7,0,5,7,0,5,7,0,5,7,0,5,7,0,5,6]
abbrev qH15 : List Nat := [0,5,0,5,0,5,0,0,5,2,3,0,0,5,6,5,0,2,0,5,0,5,0,5,0,0,5,2,3,0,0,5,6,5,0,2,0,5,0,5,0,5,0,5,0,5,2,0,5,7,0,5,7,0,5,7,0,5,7,0,5,7,0,5,7,0,5,6,0]
abbrev qH16 : List Nat := [0,5,0,5,0,5,0,0,5,2,3,0,0,5,6,5,0,2,0,5,0,5,0,5,0,0,5,2,3,0,0,5,6,5,0,2,0,5,0,5,0,5,0,5,0,5,2,0,5,7,0,5,7,0,5,7,0,5,7,0,5,7,0,5,7,0,5,7,0,5,6,0]
abbrev qH17 : List Nat := [0,5,0,5,0,5,0,0,5,2,3,0,0,5,6,5,0,2,0,5,0,5,0,5,0,0,5,2,3,0,0,5,6,5,0,2,0,5,0,5,0,5,0,5,0,5,2,0,5,7,0,5,7,0,5,7,0,5,7,0,5,7,0,5,7,0,5,7,0,5,7]
theorem p18_c (hC : Ext C) {tg_1 : Bool} {l_2 : List AV} (ho : RL C 18 [] (mk0 151 [vv 0 (.vs 1 tg_1 l_2)]) = some o) : calL C 18 [(.vs 1 tg_1 l_2)] Hp.none 0 = some o := hC.call rfl (fun _ _ => by kernel_rfl) ho
theorem p18_0 {tg_1 : Bool} {l_2 : List AV} (ho : Tr.val C 18
 (.run 0 [0,5,0,5,0,5,0,0,5,2,3] (mk0 151 [vv 0 (.vs 1 tg_1 l_2),vt 3 [],vi 4 0,vi 5 0])) = some o) : RL C 18 [] (mk0 151 [vv 0 (.vs 1 tg_1 l_2)]) = some o := stR C 11 (fun _ _ => by kernel_rfl) ho
theorem p18_1 {tg_3 : Bool} {l_4 : List AV} {s_5 : List UInt8} {x_6 x_7 : Int} (ho : Tr.val C 18
 (cl0 34 [(.vs 1 tg_3 l_4),(.int .i64 0)] fun r1 => .br (AV.pure r1.v)
 (.mid 0 qH2 3 (mk0 151 [vv 0 (.vs 1 tg_3 l_4),vt 3 s_5,vi 4 x_6,vi 5 x_7,vi 11 x_7,vv 12 (.vs 1 tg_3 l_4),vv 13 r1.v])) .none) = some o) : RL C 18 [0,5,0,5,0,5,0,0,5,2,3] (mk0 151 [vv 0 (.vs 1 tg_3 l_4),vt 3 s_5,vi 4 x_6,vi 5 x_7]) = some o := stR C 3 (fun _ _ => by kernel_rfl) ho
theorem p18_2 {tg_3 : Bool} {l_4 : List AV} {s_5 : List UInt8} {x_6 x_7 x_8 : Int} (ho : Tr.val C 18
 (cl0 22 [(.int .i64 x_8),(.int .i64 2)] fun r2 => .br (AV.pure r2.v)
 (.mid 0 qH2 4 (mk0 151 [vv 0 (.vs 1 tg_3 l_4),vt 3 s_5,vi 4 x_6,vi 5 x_7,vi 11 x_7,vv 12 (.vs 1 tg_3 l_4),vi 13 x_8,vv 14 r2.v])) .none) = some o) : ML C 18 qH2 3 (mk0 151 [vv 0 (.vs 1 tg_3 l_4),vt 3 s_5,vi 4 x_6,vi 5 x_7,vi 11 x_7,vv 12 (.vs 1 tg_3 l_4),vi 13 x_8]) = some o := stM C 0 (fun _ _ => by kernel_rfl) ho
theorem p18_3 {tg_3 : Bool} {l_4 : List AV} {s_5 : List UInt8} {x_6 x_7 x_8 x_9 : Int} (ho : Tr.val C 18
 (.br (decide (x_7 ≤ x_9))
 (.br (Nat.ble ((List.length s_5) + 5) 4611686018427387904)
 (cl0 34 [(.vs 1 tg_3 l_4),(.int .i64 x_6)] fun r3 => .br (AV.pure r3.v)
 (.mid 0 qH1 6 (mkS 151 [vv 0 (.vs 1 tg_3 l_4),vt 3 s_5,vi 4 x_6,vi 5 x_7,vb 15 true,vt 18 s_5,vt 19 (s_5 ++ [116,121,112,101,32]),vv 20 cH0,vv 21 (.vs 1 tg_3 l_4),vi 22 x_6,vv 23 r3.v] [] Hp.none 0)) .none)
 .none)
 (.ret ⟨(.str s_5),Hp.none,0⟩)) = some o) : ML C 18 qH2 4 (mk0 151 [vv 0 (.vs 1 tg_3 l_4),vt 3 s_5,vi 4 x_6,vi 5 x_7,vi 11 x_7,vv 12 (.vs 1 tg_3 l_4),vi 13 x_8,vi 14 x_9]) = some o := stM C 6 (fun _ _ => by kernel_rfl) ho
theorem p18_4 {tg_3 : Bool} {l_4 : List AV} {s_5 s_11 : List UInt8} {x_6 x_7 x_10 : Int} (ho : Tr.val C 18
 (cl0 22 [(.int .i64 x_10),(.int .i64 3)] fun r4 => .br (AV.pure r4.v)
 (.mid 0 qH1 7 (mkS 151 [vv 0 (.vs 1 tg_3 l_4),vt 3 s_5,vi 4 x_6,vi 5 x_7,vb 15 true,vt 18 s_5,vt 19 s_11,vv 20 cH0,vv 21 (.vs 1 tg_3 l_4),vi 22 x_6,vi 23 x_10,vv 24 r4.v] [] Hp.none 0)) .none) = some o) : ML C 18 qH1 6 (mkS 151 [vv 0 (.vs 1 tg_3 l_4),vt 3 s_5,vi 4 x_6,vi 5 x_7,vb 15 true,vt 18 s_5,vt 19 s_11,vv 20 cH0,vv 21 (.vs 1 tg_3 l_4),vi 22 x_6,vi 23 x_10] [] Hp.none 0) = some o := stM C 0 (fun _ _ => by kernel_rfl) ho
theorem p18_5 {tg_3 : Bool} {l_4 : List AV} {s_5 s_11 : List UInt8} {x_6 x_7 x_10 x_12 : Int} (ho : Tr.val C 18
 (.br (decide ((0 : Int) ≤ x_12))
 (.br (decide (x_12 < 3))
 (.bind (nth [(.str [116]),(.str [97,99,99,111,117,110,116]),(.str [117])] (Int.toNat x_12)) fun c5 =>
 (.mid 0 qH1 8 (mkS 151 [vv 0 (.vs 1 tg_3 l_4),vt 3 s_5,vi 4 x_6,vi 5 x_7,vb 15 true,vt 18 s_5,vt 19 s_11,vv 20 cH0,vv 21 (.vs 1 tg_3 l_4),vi 22 x_6,vi 23 x_10,vi 24 x_12,vv 25 (.cptr (AV.cells c5))] [] Hp.none 0)))
 .none)
 .none) = some o) : ML C 18 qH1 7 (mkS 151 [vv 0 (.vs 1 tg_3 l_4),vt 3 s_5,vi 4 x_6,vi 5 x_7,vb 15 true,vt 18 s_5,vt 19 s_11,vv 20 cH0,vv 21 (.vs 1 tg_3 l_4),vi 22 x_6,vi 23 x_10,vi 24 x_12] [] Hp.none 0) = some o := stM C 0 (fun _ _ => by kernel_rfl) ho
theorem p18_6 {tg_3 : Bool} {l_4 : List AV} {s_5 s_11 s_13 : List UInt8} {x_6 x_7 x_10 x_12 : Int} (ho : Tr.val C 18
 (.br (Nat.ble ((List.length s_11) + (List.length s_13)) 4611686018427387904)
 (.br (Nat.ble ((List.length (s_11 ++ s_13)) + 12) 4611686018427387904)
 (cl0 34 [(.vs 1 tg_3 l_4),(.int .i64 (IntKind.wrap .i64 (x_6 + 1)))] fun r6 => .br (AV.pure r6.v)
 (.mid 0 qH3 4 (mk0 151 [vv 0 (.vs 1 tg_3 l_4),vt 3 ((s_11 ++ s_13) ++ [32,123,32,35,32,102,105,101,108,100,115,10]),vi 4 x_6,vi 5 x_7,vv 29 (.vs 1 tg_3 l_4),vi 30 x_6,vi 31 (IntKind.wrap .i64 (x_6 + 1)),vv 32 r6.v])) .none)
 .none)
 .none) = some o) : ML C 18 qH1 8 (mkS 151 [vv 0 (.vs 1 tg_3 l_4),vt 3 s_5,vi 4 x_6,vi 5 x_7,vb 15 true,vt 18 s_5,vt 19 s_11,vv 20 cH0,vv 21 (.vs 1 tg_3 l_4),vi 22 x_6,vi 23 x_10,vi 24 x_12,vv 25 (.cptr [(.str s_13)])] [] Hp.none 0) = some o := stM C 2 (fun _ _ => by kernel_rfl) ho
theorem p18_7 {tg_3 : Bool} {l_4 : List AV} {x_6 x_7 x_14 x_16 : Int} {s_15 : List UInt8} (ho : Tr.val C 18
 (cl0 22 [(.int .i64 x_14),(.int .i64 6)] fun r7 => .br (AV.pure r7.v)
 (.mid 0 qH3 5 (mk0 151 [vv 0 (.vs 1 tg_3 l_4),vt 3 s_15,vi 4 x_6,vi 5 x_7,vv 29 (.vs 1 tg_3 l_4),vi 30 x_6,vi 31 x_16,vi 32 x_14,vv 33 r7.v])) .none) = some o) : ML C 18 qH3 4 (mk0 151 [vv 0 (.vs 1 tg_3 l_4),vt 3 s_15,vi 4 x_6,vi 5 x_7,vv 29 (.vs 1 tg_3 l_4),vi 30 x_6,vi 31 x_16,vi 32 x_14]) = some o := stM C 0 (fun _ _ => by kernel_rfl) ho
theorem p18_8 {tg_3 : Bool} {l_4 : List AV} {x_6 x_7 x_14 x_16 x_17 : Int} {s_15 : List UInt8} (ho : Tr.val C 18
 (.run 0 qH0 (mk0 151 [vv 0 (.vs 1 tg_3 l_4),vt 3 s_15,vi 4 (IntKind.wrap .i64 (x_6 + 2)),vi 5 x_7,vi 6 (IntKind.wrap .i64 (2 + x_17)),vi 7 0])) = some o) : ML C 18 qH3 5 (mk0 151 [vv 0 (.vs 1 tg_3 l_4),vt 3 s_15,vi 4 x_6,vi 5 x_7,vv 29 (.vs 1 tg_3 l_4),vi 30 x_6,vi 31 x_16,vi 32 x_14,vi 33 x_17]) = some o := stM C 7 (fun _ _ => by kernel_rfl) ho
theorem p18_9 {tg_18 : Bool} {l_19 : List AV} {s_20 : List UInt8} {x_21 x_22 x_23 x_24 : Int} (ho : Tr.val C 18
 (.br (decide (x_24 < x_23))
 (cl0 34 [(.vs 1 tg_18 l_19),(.int .i64 x_21)] fun r8 => .br (AV.pure r8.v)
 (.mid 0 qH6 3 (mk0 151 [vv 0 (.vs 1 tg_18 l_19),vt 3 s_20,vi 4 x_21,vi 5 x_22,vi 6 x_23,vi 7 x_24,vb 39 true,vv 42 (.vs 1 tg_18 l_19),vi 43 x_21,vv 44 r8.v])) .none)
 (.br (Nat.ble ((List.length s_20) + 2) 4611686018427387904)
 (.run 0 [0,5,0,5,0,5,0,0,5,2,3] (mk0 151 [vv 0 (.vs 1 tg_18 l_19),vt 3 (s_20 ++ [125,10]),vi 4 x_21,vi 5 (IntKind.wrap .i64 (x_22 + 1))]))
 .none)) = some o) : RL C 18 qH0 (mk0 151 [vv 0 (.vs 1 tg_18 l_19),vt 3 s_20,vi 4 x_21,vi 5 x_22,vi 6 x_23,vi 7 x_24]) = some o := stR C 9 (fun _ _ => by kernel_rfl) ho
theorem p18_10 {tg_18 : Bool} {l_19 : List AV} {s_20 : List UInt8} {x_21 x_22 x_23 x_24 x_25 : Int} (ho : Tr.val C 18
 (cl0 34 [(.vs 1 tg_18 l_19),(.int .i64 (IntKind.wrap .i64 (x_21 + 1)))] fun r9 => .br (AV.pure r9.v)
 (.mid 0 qH7 4 (mk0 151 [vv 0 (.vs 1 tg_18 l_19),vt 3 s_20,vi 4 x_21,vi 5 x_22,vi 6 x_23,vi 7 x_24,vi 8 x_25,vv 45 (.vs 1 tg_18 l_19),vi 46 x_21,vi 47 (IntKind.wrap .i64 (x_21 + 1)),vv 48 r9.v])) .none) = some o) : ML C 18 qH6 3 (mk0 151 [vv 0 (.vs 1 tg_18 l_19),vt 3 s_20,vi 4 x_21,vi 5 x_22,vi 6 x_23,vi 7 x_24,vb 39 true,vv 42 (.vs 1 tg_18 l_19),vi 43 x_21,vi 44 x_25]) = some o := stM C 2 (fun _ _ => by kernel_rfl) ho
theorem p18_11 {tg_18 : Bool} {l_19 : List AV} {s_20 : List UInt8} {x_21 x_22 x_23 x_24 x_25 x_26 x_27 : Int} (ho : Tr.val C 18
 (cl0 22 [(.int .i64 x_25),(.int .i64 9)] fun r10 => .br (AV.pure r10.v)
 (.mid 0 qH8 2 (mk0 151 [vv 0 (.vs 1 tg_18 l_19),vt 3 s_20,vi 4 (IntKind.wrap .i64 (x_21 + 2)),vi 5 x_22,vi 6 x_23,vi 7 x_24,vi 8 x_25,vi 9 x_26,vi 51 x_25,vv 52 r10.v])) .none) = some o) : ML C 18 qH7 4 (mk0 151 [vv 0 (.vs 1 tg_18 l_19),vt 3 s_20,vi 4 x_21,vi 5 x_22,vi 6 x_23,vi 7 x_24,vi 8 x_25,vv 45 (.vs 1 tg_18 l_19),vi 46 x_21,vi 47 x_27,vi 48 x_26]) = some o := stM C 6 (fun _ _ => by kernel_rfl) ho
theorem p18_12 {tg_18 : Bool} {l_19 : List AV} {s_20 : List UInt8} {x_22 x_23 x_24 x_25 x_26 x_28 x_29 : Int} (ho : Tr.val C 18
 (.br (decide (x_28 = 0))
 (.br (Nat.ble ((List.length s_20) + 9) 4611686018427387904)
 (cl0 37 [(.int .i64 x_26)] fun r11 => .br (AV.pure r11.v)
 (.mid 22 qH9 4 (mk0 151 [vv 0 (.vs 1 tg_18 l_19),vt 3 s_20,vi 4 x_29,vi 5 x_22,vi 6 x_23,vi 7 x_24,vi 8 x_25,vi 9 x_26,vi 52 x_28,vb 59 true,vt 61 s_20,vt 62 (s_20 ++ [114,101,103,105,115,116,101,114,32]),vi 63 x_26,vv 64 r11.v])) .none)
 .none)
 (.br (decide (x_28 = 1))
 (.br (Nat.ble ((List.length s_20) + 9) 4611686018427387904)
 (cl0 37 [(.int .i64 x_26)] fun r12 => .br (AV.pure r12.v)
 (.mid 19 qH10 4 (mk0 151 [vv 0 (.vs 1 tg_18 l_19),vt 3 s_20,vi 4 x_29,vi 5 x_22,vi 6 x_23,vi 7 x_24,vi 8 x_25,vi 9 x_26,vi 52 x_28,vb 67 true,vt 69 s_20,vt 70 (s_20 ++ [114,101,103,105,115,116,101,114,32]),vi 71 x_26,vv 72 r12.v])) .none)
 .none)
 (.br (decide (x_28 = 2))
 (.br (Nat.ble ((List.length s_20) + 8) 4611686018427387904)
 (cl0 37 [(.int .i64 x_26)] fun r13 => .br (AV.pure r13.v)
 (.mid 16 qH11 4 (mk0 151 [vv 0 (.vs 1 tg_18 l_19),vt 3 s_20,vi 4 x_29,vi 5 x_22,vi 6 x_23,vi 7 x_24,vi 8 x_25,vi 9 x_26,vi 52 x_28,vb 75 true,vt 77 s_20,vt 78 (s_20 ++ [99,111,117,110,116,101,114,32]),vi 79 x_26,vv 80 r13.v])) .none)
 .none)
 (.br (decide (x_28 = 3))
 (.br (Nat.ble ((List.length s_20) + 4) 4611686018427387904)
 (cl0 37 [(.int .i64 x_26)] fun r14 => .br (AV.pure r14.v)
 (.mid 13 qH12 4 (mk0 151 [vv 0 (.vs 1 tg_18 l_19),vt 3 s_20,vi 4 x_29,vi 5 x_22,vi 6 x_23,vi 7 x_24,vi 8 x_25,vi 9 x_26,vi 52 x_28,vb 83 true,vt 85 s_20,vt 86 (s_20 ++ [109,97,120,32]),vi 87 x_26,vv 88 r14.v])) .none)
 .none)
 (.br (decide (x_28 = 4))
 (.br (Nat.ble ((List.length s_20) + 4) 4611686018427387904)
 (cl0 37 [(.int .i64 x_26)] fun r15 => .br (AV.pure r15.v)
 (.mid 10 qH13 4 (mk0 151 [vv 0 (.vs 1 tg_18 l_19),vt 3 s_20,vi 4 x_29,vi 5 x_22,vi 6 x_23,vi 7 x_24,vi 8 x_25,vi 9 x_26,vi 52 x_28,vb 91 true,vt 93 s_20,vt 94 (s_20 ++ [115,101,116,32]),vi 95 x_26,vv 96 r15.v])) .none)
 .none)
 (.br (decide (x_28 = 5))
 (.br (Nat.ble ((List.length s_20) + 5) 4611686018427387904)
 (cl0 37 [(.int .i64 x_26)] fun r16 => .br (AV.pure r16.v)
 (.mid 7 qH14 4 (mk0 151 [vv 0 (.vs 1 tg_18 l_19),vt 3 s_20,vi 4 x_29,vi 5 x_22,vi 6 x_23,vi 7 x_24,vi 8 x_25,vi 9 x_26,vi 52 x_28,vb 99 true,vt 101 s_20,vt 102 (s_20 ++ [102,108,97,103,32]),vi 103 x_26,vv 104 r16.v])) .none)
 .none)
 (.br (decide (x_28 = 6))
 (cl0 38 [(.vs 1 tg_18 l_19),(.int .i64 x_29),(.int .i64 0)] fun r17 => .br (AV.pure r17.v)
 (.mid 3 qH15 3 (mk0 151 [vv 0 (.vs 1 tg_18 l_19),vt 3 s_20,vi 4 x_29,vi 5 x_22,vi 6 x_23,vi 7 x_24,vi 8 x_25,vi 9 x_26,vi 52 x_28,vb 107 true,vv 110 (.vs 1 tg_18 l_19),vi 111 x_29,vv 112 r17.v])) .none)
 (.br (decide (x_28 = 7))
 (cl0 40 [(.vs 1 tg_18 l_19),(.int .i64 x_29),(.int .i64 0)] fun r18 => .br (AV.pure r18.v)
 (.mid 0 qH16 3 (mk0 151 [vv 0 (.vs 1 tg_18 l_19),vt 3 s_20,vi 4 x_29,vi 5 x_22,vi 6 x_23,vi 7 x_24,vi 8 x_25,vi 9 x_26,vb 127 true,vv 130 (.vs 1 tg_18 l_19),vi 131 x_29,vv 132 r18.v])) .none)
 (.br (Nat.ble ((List.length s_20) + 6) 4611686018427387904)
 (cl0 37 [(.int .i64 x_26)] fun r19 => .br (AV.pure r19.v)
 (.mid 1 qH17 4 (mk0 151 [vv 0 (.vs 1 tg_18 l_19),vt 3 s_20,vi 4 x_29,vi 5 x_22,vi 6 x_23,vi 7 x_24,vi 8 x_25,vi 9 x_26,vt 53 s_20,vt 54 (s_20 ++ [105,110,100,101,120,32]),vi 55 x_26,vv 56 r19.v,vb 127 false])) .none)
 .none))))))))) = some o) : ML C 18 qH8 2 (mk0 151 [vv 0 (.vs 1 tg_18 l_19),vt 3 s_20,vi 4 x_29,vi 5 x_22,vi 6 x_23,vi 7 x_24,vi 8 x_25,vi 9 x_26,vi 51 x_25,vi 52 x_28]) = some o := stM C 27 (fun _ _ => by kernel_rfl) ho
theorem p18_13 {tg_18 : Bool} {l_19 : List AV} {s_20 s_30 s_31 : List UInt8} {x_22 x_23 x_24 x_25 x_26 x_28 x_29 : Int} (ho : Tr.val C 18
 (.br (Nat.ble ((List.length s_31) + (List.length s_30)) 4611686018427387904)
 (.br (Nat.ble ((List.length (s_31 ++ s_30)) + 5) 4611686018427387904)
 (.run 0 qH0 (mk0 151 [vv 0 (.vs 1 tg_18 l_19),vt 3 ((s_31 ++ s_30) ++ [32,105,110,116,59]),vi 4 x_29,vi 5 x_22,vi 6 x_23,vi 7 (IntKind.wrap .i64 (x_24 + 1))]))
 .none)
 .none) = some o) : ML C 18 qH9 4 (mk0 151 [vv 0 (.vs 1 tg_18 l_19),vt 3 s_20,vi 4 x_29,vi 5 x_22,vi 6 x_23,vi 7 x_24,vi 8 x_25,vi 9 x_26,vi 52 x_28,vb 59 true,vt 61 s_20,vt 62 s_31,vi 63 x_26,vt 64 s_30]) = some o := stM C 4 (fun _ _ => by kernel_rfl) ho
theorem p18_14 {tg_18 : Bool} {l_19 : List AV} {s_20 s_32 s_33 : List UInt8} {x_22 x_23 x_24 x_25 x_26 x_28 x_29 : Int} (ho : Tr.val C 18
 (.br (Nat.ble ((List.length s_33) + (List.length s_32)) 4611686018427387904)
 (.br (Nat.ble ((List.length (s_33 ++ s_32)) + 7) 4611686018427387904)
 (.run 0 qH0 (mk0 151 [vv 0 (.vs 1 tg_18 l_19),vt 3 ((s_33 ++ s_32) ++ [32,116,101,120,116,59,10]),vi 4 x_29,vi 5 x_22,vi 6 x_23,vi 7 (IntKind.wrap .i64 (x_24 + 1))]))
 .none)
 .none) = some o) : ML C 18 qH10 4 (mk0 151 [vv 0 (.vs 1 tg_18 l_19),vt 3 s_20,vi 4 x_29,vi 5 x_22,vi 6 x_23,vi 7 x_24,vi 8 x_25,vi 9 x_26,vi 52 x_28,vb 67 true,vt 69 s_20,vt 70 s_33,vi 71 x_26,vt 72 s_32]) = some o := stM C 4 (fun _ _ => by kernel_rfl) ho
theorem p18_15 {tg_18 : Bool} {l_19 : List AV} {s_20 s_34 s_35 : List UInt8} {x_22 x_23 x_24 x_25 x_26 x_28 x_29 : Int} (ho : Tr.val C 18
 (.br (Nat.ble ((List.length s_35) + (List.length s_34)) 4611686018427387904)
 (.br (Nat.ble ((List.length (s_35 ++ s_34)) + 2) 4611686018427387904)
 (.run 0 qH0 (mk0 151 [vv 0 (.vs 1 tg_18 l_19),vt 3 ((s_35 ++ s_34) ++ [59,32]),vi 4 x_29,vi 5 x_22,vi 6 x_23,vi 7 (IntKind.wrap .i64 (x_24 + 1))]))
 .none)
 .none) = some o) : ML C 18 qH11 4 (mk0 151 [vv 0 (.vs 1 tg_18 l_19),vt 3 s_20,vi 4 x_29,vi 5 x_22,vi 6 x_23,vi 7 x_24,vi 8 x_25,vi 9 x_26,vi 52 x_28,vb 75 true,vt 77 s_20,vt 78 s_35,vi 79 x_26,vt 80 s_34]) = some o := stM C 4 (fun _ _ => by kernel_rfl) ho
theorem p18_16 {tg_18 : Bool} {l_19 : List AV} {s_20 s_36 s_37 : List UInt8} {x_22 x_23 x_24 x_25 x_26 x_28 x_29 : Int} (ho : Tr.val C 18
 (.br (Nat.ble ((List.length s_37) + (List.length s_36)) 4611686018427387904)
 (.br (Nat.ble ((List.length (s_37 ++ s_36)) + 1) 4611686018427387904)
 (.run 0 qH0 (mk0 151 [vv 0 (.vs 1 tg_18 l_19),vt 3 ((s_37 ++ s_36) ++ [59]),vi 4 x_29,vi 5 x_22,vi 6 x_23,vi 7 (IntKind.wrap .i64 (x_24 + 1))]))
 .none)
 .none) = some o) : ML C 18 qH12 4 (mk0 151 [vv 0 (.vs 1 tg_18 l_19),vt 3 s_20,vi 4 x_29,vi 5 x_22,vi 6 x_23,vi 7 x_24,vi 8 x_25,vi 9 x_26,vi 52 x_28,vb 83 true,vt 85 s_20,vt 86 s_37,vi 87 x_26,vt 88 s_36]) = some o := stM C 4 (fun _ _ => by kernel_rfl) ho
theorem p18_17 {tg_18 : Bool} {l_19 : List AV} {s_20 s_38 s_39 : List UInt8} {x_22 x_23 x_24 x_25 x_26 x_28 x_29 : Int} (ho : Tr.val C 18
 (.br (Nat.ble ((List.length s_39) + (List.length s_38)) 4611686018427387904)
 (.br (Nat.ble ((List.length (s_39 ++ s_38)) + 2) 4611686018427387904)
 (.run 0 qH0 (mk0 151 [vv 0 (.vs 1 tg_18 l_19),vt 3 ((s_39 ++ s_38) ++ [59,9]),vi 4 x_29,vi 5 x_22,vi 6 x_23,vi 7 (IntKind.wrap .i64 (x_24 + 1))]))
 .none)
 .none) = some o) : ML C 18 qH13 4 (mk0 151 [vv 0 (.vs 1 tg_18 l_19),vt 3 s_20,vi 4 x_29,vi 5 x_22,vi 6 x_23,vi 7 x_24,vi 8 x_25,vi 9 x_26,vi 52 x_28,vb 91 true,vt 93 s_20,vt 94 s_39,vi 95 x_26,vt 96 s_38]) = some o := stM C 4 (fun _ _ => by kernel_rfl) ho
theorem p18_18 {tg_18 : Bool} {l_19 : List AV} {s_20 s_40 s_41 : List UInt8} {x_22 x_23 x_24 x_25 x_26 x_28 x_29 : Int} (ho : Tr.val C 18
 (.br (Nat.ble ((List.length s_41) + (List.length s_40)) 4611686018427387904)
 (.br (Nat.ble ((List.length (s_41 ++ s_40)) + 1) 4611686018427387904)
 (.run 0 qH0 (mk0 151 [vv 0 (.vs 1 tg_18 l_19),vt 3 ((s_41 ++ s_40) ++ [59]),vi 4 x_29,vi 5 x_22,vi 6 x_23,vi 7 (IntKind.wrap .i64 (x_24 + 1))]))
 .none)
 .none) = some o) : ML C 18 qH14 4 (mk0 151 [vv 0 (.vs 1 tg_18 l_19),vt 3 s_20,vi 4 x_29,vi 5 x_22,vi 6 x_23,vi 7 x_24,vi 8 x_25,vi 9 x_26,vi 52 x_28,vb 99 true,vt 101 s_20,vt 102 s_41,vi 103 x_26,vt 104 s_40]) = some o := stM C 4 (fun _ _ => by kernel_rfl) ho
theorem p18_19 {tg_18 : Bool} {l_19 : List AV} {s_20 s_42 : List UInt8} {x_22 x_23 x_24 x_25 x_26 x_28 x_29 x_43 : Int} (ho : Tr.val C 18
 (.br (Nat.ble ((List.length s_20) + 3) 4611686018427387904)
 (cl0 37 [(.int .i64 x_26)] fun r20 => .br (AV.pure r20.v)
 (.mid 0 qH4 4 (mk0 151 [vv 0 (.vs 1 tg_18 l_19),vt 3 s_20,vi 4 x_43,vi 5 x_22,vi 6 x_23,vi 7 x_24,vi 8 x_25,vi 9 x_26,vt 10 s_42,vt 115 s_20,vt 116 (s_20 ++ [111,112,32]),vi 117 x_26,vv 118 r20.v])) .none)
 .none) = some o) : ML C 18 qH15 3 (mk0 151 [vv 0 (.vs 1 tg_18 l_19),vt 3 s_20,vi 4 x_29,vi 5 x_22,vi 6 x_23,vi 7 x_24,vi 8 x_25,vi 9 x_26,vi 52 x_28,vb 107 true,vv 110 (.vs 1 tg_18 l_19),vi 111 x_29,vv 112 (.tuple [(.str s_42),(i6 x_43)])]) = some o := stM C 1 (fun _ _ => by kernel_rfl) ho
theorem p18_20 {tg_18 : Bool} {l_19 : List AV} {s_20 s_44 : List UInt8} {x_22 x_23 x_24 x_25 x_26 x_29 x_45 : Int} (ho : Tr.val C 18
 (.br (Nat.ble ((List.length s_20) + 6) 4611686018427387904)
 (cl0 37 [(.int .i64 x_26)] fun r21 => .br (AV.pure r21.v)
 (.mid 0 qH5 4 (mk0 151 [vv 0 (.vs 1 tg_18 l_19),vt 3 s_20,vi 4 x_45,vi 5 x_22,vi 6 x_23,vi 7 x_24,vi 8 x_25,vi 9 x_26,vt 10 s_44,vt 135 s_20,vt 136 (s_20 ++ [113,117,101,114,121,32]),vi 137 x_26,vv 138 r21.v])) .none)
 .none) = some o) : ML C 18 qH16 3 (mk0 151 [vv 0 (.vs 1 tg_18 l_19),vt 3 s_20,vi 4 x_29,vi 5 x_22,vi 6 x_23,vi 7 x_24,vi 8 x_25,vi 9 x_26,vb 127 true,vv 130 (.vs 1 tg_18 l_19),vi 131 x_29,vv 132 (.tuple [(.str s_44),(i6 x_45)])]) = some o := stM C 1 (fun _ _ => by kernel_rfl) ho
theorem p18_21 {tg_18 : Bool} {l_19 : List AV} {s_20 s_46 s_47 : List UInt8} {x_22 x_23 x_24 x_25 x_26 x_29 : Int} (ho : Tr.val C 18
 (.br (Nat.ble ((List.length s_47) + (List.length s_46)) 4611686018427387904)
 (.br (Nat.ble ((List.length (s_47 ++ s_46)) + 1) 4611686018427387904)
 (.run 0 qH0 (mk0 151 [vv 0 (.vs 1 tg_18 l_19),vt 3 ((s_47 ++ s_46) ++ [59]),vi 4 x_29,vi 5 x_22,vi 6 x_23,vi 7 (IntKind.wrap .i64 (x_24 + 1))]))
 .none)
 .none) = some o) : ML C 18 qH17 4 (mk0 151 [vv 0 (.vs 1 tg_18 l_19),vt 3 s_20,vi 4 x_29,vi 5 x_22,vi 6 x_23,vi 7 x_24,vi 8 x_25,vi 9 x_26,vt 53 s_20,vt 54 s_47,vi 55 x_26,vt 56 s_46,vb 127 false]) = some o := stM C 4 (fun _ _ => by kernel_rfl) ho
theorem p18_22 {tg_18 : Bool} {l_19 : List AV} {s_20 s_42 s_48 s_49 : List UInt8} {x_22 x_23 x_24 x_25 x_26 x_43 : Int} (ho : Tr.val C 18
 (.br (Nat.ble ((List.length s_49) + (List.length s_48)) 4611686018427387904)
 (cl0 39 [(.int .i64 x_25)] fun r22 => .br (AV.pure r22.v)
 (.mid 0 qH4 7 (mk0 151 [vv 0 (.vs 1 tg_18 l_19),vt 3 s_20,vi 4 x_43,vi 5 x_22,vi 6 x_23,vi 7 x_24,vi 8 x_25,vi 9 x_26,vt 10 s_42,vt 115 s_20,vt 116 s_49,vi 117 x_26,vt 118 s_48,vt 119 (s_49 ++ s_48),vi 120 x_25,vv 121 r22.v])) .none)
 .none) = some o) : ML C 18 qH4 4 (mk0 151 [vv 0 (.vs 1 tg_18 l_19),vt 3 s_20,vi 4 x_43,vi 5 x_22,vi 6 x_23,vi 7 x_24,vi 8 x_25,vi 9 x_26,vt 10 s_42,vt 115 s_20,vt 116 s_49,vi 117 x_26,vt 118 s_48]) = some o := stM C 0 (fun _ _ => by kernel_rfl) ho
theorem p18_23 {tg_18 : Bool} {l_19 : List AV} {s_20 s_44 s_50 s_51 : List UInt8} {x_22 x_23 x_24 x_25 x_26 x_45 : Int} (ho : Tr.val C 18
 (.br (Nat.ble ((List.length s_51) + (List.length s_50)) 4611686018427387904)
 (.br (Nat.ble ((List.length (s_51 ++ s_50)) + 1) 4611686018427387904)
 (cl0 39 [(.int .i64 x_25)] fun r23 => .br (AV.pure r23.v)
 (.mid 0 qH5 8 (mk0 151 [vv 0 (.vs 1 tg_18 l_19),vt 3 s_20,vi 4 x_45,vi 5 x_22,vi 6 x_23,vi 7 x_24,vi 8 x_25,vi 9 x_26,vt 10 s_44,vt 135 s_20,vt 136 s_51,vi 137 x_26,vt 138 s_50,vt 139 (s_51 ++ s_50),vt 140 ((s_51 ++ s_50) ++ [32]),vi 141 x_25,vv 142 r23.v])) .none)
 .none)
 .none) = some o) : ML C 18 qH5 4 (mk0 151 [vv 0 (.vs 1 tg_18 l_19),vt 3 s_20,vi 4 x_45,vi 5 x_22,vi 6 x_23,vi 7 x_24,vi 8 x_25,vi 9 x_26,vt 10 s_44,vt 135 s_20,vt 136 s_51,vi 137 x_26,vt 138 s_50]) = some o := stM C 0 (fun _ _ => by kernel_rfl) ho
theorem p18_24 {tg_18 : Bool} {l_19 : List AV} {s_20 s_42 s_48 s_49 s_52 s_53 : List UInt8} {x_22 x_23 x_24 x_25 x_26 x_43 : Int} (ho : Tr.val C 18
 (.br (Nat.ble ((List.length s_53) + (List.length s_52)) 4611686018427387904)
 (.br (Nat.ble ((List.length (s_53 ++ s_52)) + 1) 4611686018427387904)
 (.br (Nat.ble ((List.length ((s_53 ++ s_52) ++ [123])) + (List.length s_42)) 4611686018427387904)
 (.br (Nat.ble ((List.length (((s_53 ++ s_52) ++ [123]) ++ s_42)) + 1) 4611686018427387904)
 (.run 0 qH0 (mk0 151 [vv 0 (.vs 1 tg_18 l_19),vt 3 ((((s_53 ++ s_52) ++ [123]) ++ s_42) ++ [125]),vi 4 x_43,vi 5 x_22,vi 6 x_23,vi 7 (IntKind.wrap .i64 (x_24 + 1))]))
 .none)
 .none)
 .none)
 .none) = some o) : ML C 18 qH4 7 (mk0 151 [vv 0 (.vs 1 tg_18 l_19),vt 3 s_20,vi 4 x_43,vi 5 x_22,vi 6 x_23,vi 7 x_24,vi 8 x_25,vi 9 x_26,vt 10 s_42,vt 115 s_20,vt 116 s_49,vi 117 x_26,vt 118 s_48,vt 119 s_53,vi 120 x_25,vt 121 s_52]) = some o := stM C 4 (fun _ _ => by kernel_rfl) ho
theorem p18_25 {tg_18 : Bool} {l_19 : List AV} {s_20 s_44 s_50 s_51 s_54 s_55 s_56 : List UInt8} {x_22 x_23 x_24 x_25 x_26 x_45 : Int} (ho : Tr.val C 18
 (.br (Nat.ble ((List.length s_56) + (List.length s_54)) 4611686018427387904)
 (.br (Nat.ble ((List.length (s_56 ++ s_54)) + 3) 4611686018427387904)
 (.br (Nat.ble ((List.length ((s_56 ++ s_54) ++ [32,61,32])) + (List.length s_44)) 4611686018427387904)
 (.br (Nat.ble ((List.length (((s_56 ++ s_54) ++ [32,61,32]) ++ s_44)) + 2) 4611686018427387904)
 (.run 0 qH0 (mk0 151 [vv 0 (.vs 1 tg_18 l_19),vt 3 ((((s_56 ++ s_54) ++ [32,61,32]) ++ s_44) ++ [32,59]),vi 4 x_45,vi 5 x_22,vi 6 x_23,vi 7 (IntKind.wrap .i64 (x_24 + 1))]))
 .none)
 .none)
 .none)
 .none) = some o) : ML C 18 qH5 8 (mk0 151 [vv 0 (.vs 1 tg_18 l_19),vt 3 s_20,vi 4 x_45,vi 5 x_22,vi 6 x_23,vi 7 x_24,vi 8 x_25,vi 9 x_26,vt 10 s_44,vt 135 s_20,vt 136 s_51,vi 137 x_26,vt 138 s_50,vt 139 s_55,vt 140 s_56,vi 141 x_25,vt 142 s_54]) = some o := stM C 4 (fun _ _ => by kernel_rfl) ho
end Go.Proofs.YtfdklpkfpmkgeaaGreatDoor
end
section
namespace Go.Proofs.YtfdklpkfpmkgeaaGreatDoor
open Go Go.Vai
attribute [local irreducible] goTo bodyOf mkS
variable {C : Nat→Oracle} (hC : Ext C)
include hC
set_option maxHeartbeats 4000000 in
theorem src_inner (tg : Bool) (l : List Int) (hl : l.length ≤ 1000000) (t : Int) (ht : 0 ≤ t∧t ≤ 10) (A : Nat) (hA : A ≤ 1000000000) (Q : Out→Prop)
  (hout : ∀ (a : Int) (s : List UInt8),s.length ≤ A + 28070002→Was (RL C 18 [0,5,0,5,0,5,0,0,5,2,3] (mkS 151 [(0,.val (.vs 1 tg (ints l)) .no),(3,.val (.str s) .no),(4,.val (.int .i64 a) .no),(5,.val (.int .i64 (t + 1)) .no)] [] Hp.none 0)) Q)
  (mem : Int) (hm7 : mem ≤ 7) : ∀ (m : Nat) (i a : Int) (s : List UInt8),(8 - i).toNat = m→0 ≤ i→i ≤ 7→s.length ≤ A + i.toNat * 4010000 →
  Was (RL C 18 [0,5,0,5,0,5,0,0,5,2,3,0,0,5,6,5,0,2,0,5,0,5,0,5,0,0,5,2,3] (mkS 151 [(0,.val (.vs 1 tg (ints l)) .no),(3,.val (.str s) .no),(4,.val (.int .i64 a) .no),(5,.val (.int .i64 t) .no),(6,.val (.int .i64 mem) .no),(7,.val (.int .i64 i) .no)] [] Hp.none 0)) Q:=by
 intro m
 induction m with
 | zero=>intro i a s hm h0 h4; omega
 | succ m IH =>
  intro i a s hm h0 h4 hs
  have w1 : IntKind.wrap .i64 (t + 1) = t + 1 := wrap64 (by omega) (by omega)
  have w3 : IntKind.wrap .i64 (i + 1) = i + 1 := wrap64 (by omega) (by omega)
  refine exW (fun o=>p18_9) ?_
  simp only [Tr.val,pureL,AV.pure,br_true,pure_ints,w1,w3]
  repeat' (first
   | refine .bL (by first | omega | (simp only [List.length_append,List.length_cons,List.length_nil,List.length_drop,List.length_take]; omega)) ?_
   | refine .bT (by omega) ?_
   | refine .bF (by omega) ?_
   | (refine .call (w34 hC _ _ (by omega) _) ?_; rintro o ⟨x,e⟩; simp only [e,AV.pure,br_true]; clear e)
   | (refine .call (w37 hC _) ?_; rintro o ⟨s,e,h1⟩; simp only [e,AV.pure,br_true]; clear e)
   | (refine .call (w22 hC _ _ (by omega) (by omega)) ?_; rintro o ⟨x,e,h1,h2⟩; simp only [e,AV.pure,br_true]; clear e)
   | (refine .call (w39 hC _) ?_; rintro o ⟨s,e,h1⟩; simp only [e,AV.pure,br_true]; clear e)
   | (refine .call (w38 hC _ _ (by omega) _) ?_; rintro o ⟨s,x,e,h1⟩; simp only [e,AV.pure,pureL,br_true]; clear e)
   | (refine .call (w40 hC _ _ (by omega) _ _ (by omega) (by omega)) ?_; rintro o ⟨s,x,e,h1⟩; simp only [e,AV.pure,pureL,br_true]; clear e)
   | (refine exW (fun o=>p18_10) ?_; simp only [Tr.val,pureL,AV.pure,br_true,AV.cells,pure_ints,len_ints,Bool.not_true,Bool.not_false,w1,w3])
   | (refine exW (fun o=>p18_11) ?_; simp only [Tr.val,pureL,AV.pure,br_true,AV.cells,pure_ints,len_ints,Bool.not_true,Bool.not_false,w1,w3])
   | (refine exW (fun o=>p18_12) ?_; simp only [Tr.val,pureL,AV.pure,br_true,AV.cells,pure_ints,len_ints,Bool.not_true,Bool.not_false,w1,w3])
   | (refine exW (fun o=>p18_13) ?_; simp only [Tr.val,pureL,AV.pure,br_true,AV.cells,pure_ints,len_ints,Bool.not_true,Bool.not_false,w1,w3])
   | (refine exW (fun o=>p18_14) ?_; simp only [Tr.val,pureL,AV.pure,br_true,AV.cells,pure_ints,len_ints,Bool.not_true,Bool.not_false,w1,w3])
   | (refine exW (fun o=>p18_15) ?_; simp only [Tr.val,pureL,AV.pure,br_true,AV.cells,pure_ints,len_ints,Bool.not_true,Bool.not_false,w1,w3])
   | (refine exW (fun o=>p18_16) ?_; simp only [Tr.val,pureL,AV.pure,br_true,AV.cells,pure_ints,len_ints,Bool.not_true,Bool.not_false,w1,w3])
   | (refine exW (fun o=>p18_17) ?_; simp only [Tr.val,pureL,AV.pure,br_true,AV.cells,pure_ints,len_ints,Bool.not_true,Bool.not_false,w1,w3])
   | (refine exW (fun o=>p18_18) ?_; simp only [Tr.val,pureL,AV.pure,br_true,AV.cells,pure_ints,len_ints,Bool.not_true,Bool.not_false,w1,w3])
   | (refine exW (fun o=>p18_19) ?_; simp only [Tr.val,pureL,AV.pure,br_true,AV.cells,pure_ints,len_ints,Bool.not_true,Bool.not_false,w1,w3])
   | (refine exW (fun o=>p18_20) ?_; simp only [Tr.val,pureL,AV.pure,br_true,AV.cells,pure_ints,len_ints,Bool.not_true,Bool.not_false,w1,w3])
   | (refine exW (fun o=>p18_21) ?_; simp only [Tr.val,pureL,AV.pure,br_true,AV.cells,pure_ints,len_ints,Bool.not_true,Bool.not_false,w1,w3])
   | (refine exW (fun o=>p18_22) ?_; simp only [Tr.val,pureL,AV.pure,br_true,AV.cells,pure_ints,len_ints,Bool.not_true,Bool.not_false,w1,w3])
   | (refine exW (fun o=>p18_23) ?_; simp only [Tr.val,pureL,AV.pure,br_true,AV.cells,pure_ints,len_ints,Bool.not_true,Bool.not_false,w1,w3])
   | (refine exW (fun o=>p18_24) ?_; simp only [Tr.val,pureL,AV.pure,br_true,AV.cells,pure_ints,len_ints,Bool.not_true,Bool.not_false,w1,w3])
   | (refine exW (fun o=>p18_25) ?_; simp only [Tr.val,pureL,AV.pure,br_true,AV.cells,pure_ints,len_ints,Bool.not_true,Bool.not_false,w1,w3])
   | (refine .nth (B := 20) rfl (by simp only [List.length_cons,List.length_nil]; omega) fun s hs=>?_; simp only [AV.cells])
   | exact .mk ⟨_,rfl,by first | omega | (simp only [List.length_append,List.length_cons,List.length_nil,List.length_drop,List.length_take]; omega)⟩
   | refine .dec (fun h=>?_) (fun h=>?_)
   | refine .both (fun h=>?_) (fun h=>?_))
  all_goals first
   | exact hout _ _ (by simp only [List.length_append,List.length_cons,List.length_nil]; omega)
   | exact IH _ _ _ (by omega) (by omega) (by omega) (by first | omega | (simp only [List.length_append,List.length_cons,List.length_nil]; omega))
set_option maxHeartbeats 4000000 in
theorem src_outer (tg : Bool) (l : List Int) (hl : l.length ≤ 1000000) : ∀ (m : Nat) (t a : Int) (s : List UInt8),(3 - t).toNat = m→0 ≤ t→t ≤ 2→s.length ≤ t.toNat * 30000000 →
  Was (RL C 18 [0,5,0,5,0,5,0,0,5,2,3] (mkS 151 [(0,.val (.vs 1 tg (ints l)) .no),(3,.val (.str s) .no),(4,.val (.int .i64 a) .no),(5,.val (.int .i64 t) .no)] [] Hp.none 0)) (QS 100000000):=by
 intro m
 induction m with
 | zero=>intro i a s hm h0 h4; omega
 | succ m IH =>
  intro t a z hm h0 h4 hs
  refine exW (fun o=>p18_1) ?_
  simp only [Tr.val,pureL,AV.pure,br_true,pure_ints]
  repeat' (first
   | refine .bL (by first | omega | (simp only [List.length_append,List.length_cons,List.length_nil,List.length_drop,List.length_take]; omega)) ?_
   | refine .bT (by omega) ?_
   | refine .bF (by omega) ?_
   | (refine .call (w34 hC _ _ (by omega) _) ?_; rintro o ⟨x,e⟩; simp only [e,AV.pure,br_true]; clear e)
   | (refine .call (w22 hC _ _ (by omega) (by omega)) ?_; rintro o ⟨x,e,h1,h2⟩; simp only [e,AV.pure,br_true]; clear e)
   | (refine exW (fun o=>p18_2) ?_; simp only [Tr.val,pureL,AV.pure,br_true,AV.cells,pure_ints,len_ints,Bool.not_true,Bool.not_false])
   | (refine exW (fun o=>p18_3) ?_; simp only [Tr.val,pureL,AV.pure,br_true,AV.cells,pure_ints,len_ints,Bool.not_true,Bool.not_false])
   | (refine exW (fun o=>p18_4) ?_; simp only [Tr.val,pureL,AV.pure,br_true,AV.cells,pure_ints,len_ints,Bool.not_true,Bool.not_false])
   | (refine exW (fun o=>p18_5) ?_; simp only [Tr.val,pureL,AV.pure,br_true,AV.cells,pure_ints,len_ints,Bool.not_true,Bool.not_false])
   | (refine exW (fun o=>p18_6) ?_; simp only [Tr.val,pureL,AV.pure,br_true,AV.cells,pure_ints,len_ints,Bool.not_true,Bool.not_false])
   | (refine exW (fun o=>p18_7) ?_; simp only [Tr.val,pureL,AV.pure,br_true,AV.cells,pure_ints,len_ints,Bool.not_true,Bool.not_false])
   | (refine exW (fun o=>p18_8) ?_; simp only [Tr.val,pureL,AV.pure,br_true,AV.cells,pure_ints,len_ints,Bool.not_true,Bool.not_false])
   | (refine .nth (B := 20) rfl (by simp only [List.length_cons,List.length_nil]; omega) fun s hs=>?_; simp only [AV.cells])
   | exact .mk ⟨_,rfl,by first | omega | (simp only [List.length_append,List.length_cons,List.length_nil,List.length_drop,List.length_take]; omega)⟩
   | refine .dec (fun h=>?_) (fun h=>?_)
   | refine .both (fun h=>?_) (fun h=>?_))
  all_goals exact src_inner hC tg l hl t (by omega) (z.length + 60) (by omega) _ (fun a' s' hs'=>IH _ _ _ (by omega) (by omega) (by omega) (by omega)) _ (by rw [wrap64 (by omega) (by omega)]; omega) _ 0 _ _ rfl (by decide) (by decide) (by simp only [List.length_append,List.length_cons,List.length_nil]; omega)
theorem w18 (tg : Bool) (l : List Int) (hl : l.length ≤ 1000000) : Was (calL C 18 [.vs 1 tg (ints l)] Hp.none 0) (QS 100000000):=by
 refine exW (fun o=>p18_c hC) (exW (fun o=>p18_0) ?_)
 exact src_outer hC tg l hl _ 0 0 [] rfl (by decide) (by decide) (by simp)
end Go.Proofs.YtfdklpkfpmkgeaaGreatDoor
end
