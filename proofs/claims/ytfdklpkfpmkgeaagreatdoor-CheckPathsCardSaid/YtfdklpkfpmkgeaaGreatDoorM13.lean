/- Stage laws,printed by gen_p.py. -/
import Derived.Test.YtfdklpkfpmkgeaaGreatDoorM5
import Derived.Test.YtfdklpkfpmkgeaaGreatDoorM8
import Derived.Test.YtfdklpkfpmkgeaaGreatDoorM10
import Derived.Test.YtfdklpkfpmkgeaaGreatDoorM12
set_option linter.unusedSimpArgs false
set_option linter.unusedVariables false
set_option linter.unusedSectionVars false
set_option linter.unnecessarySimpa false
section
namespace Go.Proofs.YtfdklpkfpmkgeaaGreatDoor
open Go Go.Vai
attribute [local irreducible] goTo zaq mkS
variable {C : Nat → Oracle} {o : Out}
abbrev qK0 : List Nat := [0,5,0,5,0,0,5,2,3]
abbrev qK1 : List Nat := [0,5,0,5,0,0,5,2,3,0,5,0,6,5,0,2,0,5,0,0,5,7,5,0]
abbrev qK2 : List Nat := [0,5,0,5,0,0,5,2,3,0,5,0,6,5,0,2,0]
theorem p35_c (hC : Ext C) {tg_1 : Bool} {l_2 : List AV} (ho : RL C 35 [] (mk0 89 [vv 0 (.vs 6 tg_1 l_2)]) = some o) : calL C 35 [(.vs 6 tg_1 l_2)] Hp.none 0 = some o := hC.call rfl (fun _ _ => by kernel_rfl) ho
theorem p35_0 {tg_1 : Bool} {l_2 : List AV} (ho : Tr.val C 35
(.run 0 qK0 (mkS 89 [(2,.lp 2 0),(3,.lp 3 0),vv 8 (.vs 6 tg_1 l_2),vi 9 (l_2.length : Int),vi 10 0] [(2,⟨[(i6 0),(i6 0),(.bool false),(.bool false)],[]⟩),(3,⟨[(i6 0),(i6 0),(.bool false),(.bool false)],[]⟩)] Hp.none 0)) = some o) : RL C 35 [] (mk0 89 [vv 0 (.vs 6 tg_1 l_2)]) = some o := stR C 9 (fun _ _ => by kernel_rfl) ho
theorem p35_1 {tg_3 c_9 c_10 c_13 c_14 : Bool} {l_4 : List AV} {x_5 x_6 x_7 x_8 x_11 x_12 : Int} (ho : Tr.val C 35
(.br (decide (x_6 < x_5))
(ix l_4 x_6 fun c1 =>
(.mid 0 qK2 1 (mkS 89 [(2,.lp 2 0),(3,.lp 3 0),vv 8 (.vs 6 tg_3 l_4),vi 9 x_5,vi 10 x_6,vb 11 true,vv 12 (.cptr (AV.cells c1))] [(2,⟨[(i6 x_7),(i6 x_8),(.bool c_9),(.bool c_10)],[]⟩),(3,⟨[(i6 x_11),(i6 x_12),(.bool c_13),(.bool c_14)],[]⟩)] Hp.none 0)))
(rt (.agg [(i6 x_11),(i6 x_12),(.bool c_13),(.bool c_14)]))) = some o) : RL C 35 qK0 (mkS 89 [(2,.lp 2 0),(3,.lp 3 0),vv 8 (.vs 6 tg_3 l_4),vi 9 x_5,vi 10 x_6] [(2,⟨[(i6 x_7),(i6 x_8),(.bool c_9),(.bool c_10)],[]⟩),(3,⟨[(i6 x_11),(i6 x_12),(.bool c_13),(.bool c_14)],[]⟩)] Hp.none 0) = some o := stR C 9 (fun _ _ => by kernel_rfl) ho
theorem p35_2 {tg_3 c_9 c_10 c_13 c_14 tg_17 tg_19 tg_21 : Bool} {l_4 l_18 l_20 l_22 : List AV} {x_5 x_6 x_7 x_8 x_11 x_12 x_15 x_23 : Int} {s_16 : List UInt8} (ho : Tr.val C 35
(.br (!(decide (x_15 = 6)))
(.br c_13
(.br c_14
(.run 0 qK0 (mkS 89 [(2,.lp 2 0),(3,.lp 3 0),vv 8 (.vs 6 tg_3 l_4),vi 9 x_5,vi 10 (w64 (x_6 + 1))] [(2,⟨[(i6 x_7),(i6 x_8),(.bool c_9),(.bool c_10)],[]⟩),(3,⟨[(i6 (w64 (x_11 + 1))),(i6 (w64 (x_12 + 1))),(.bool true),(.bool true)],[]⟩),(5,⟨[(i6 x_15),(.str s_16),(.vs 5 tg_17 l_18),(.vs 6 tg_19 l_20),(.vs 6 tg_21 l_22),(i6 x_23)],[]⟩)] Hp.none 0))
(.run 0 qK0 (mkS 89 [(2,.lp 2 0),(3,.lp 3 0),vv 8 (.vs 6 tg_3 l_4),vi 9 x_5,vi 10 (w64 (x_6 + 1))] [(2,⟨[(i6 x_7),(i6 x_8),(.bool c_9),(.bool c_10)],[]⟩),(3,⟨[(i6 (w64 (x_11 + 1))),(i6 (w64 (x_12 + 1))),(.bool true),(.bool (!(decide (x_15 = 1))))],[]⟩),(5,⟨[(i6 x_15),(.str s_16),(.vs 5 tg_17 l_18),(.vs 6 tg_19 l_20),(.vs 6 tg_21 l_22),(i6 x_23)],[]⟩)] Hp.none 0)))
(.br c_14
(.run 0 qK0 (mkS 89 [(2,.lp 2 0),(3,.lp 3 0),vv 8 (.vs 6 tg_3 l_4),vi 9 x_5,vi 10 (w64 (x_6 + 1))] [(2,⟨[(i6 x_7),(i6 x_8),(.bool c_9),(.bool c_10)],[]⟩),(3,⟨[(i6 (w64 (x_11 + 1))),(i6 (w64 (x_12 + 1))),(.bool (decide (x_15 = 1))),(.bool true)],[]⟩),(5,⟨[(i6 x_15),(.str s_16),(.vs 5 tg_17 l_18),(.vs 6 tg_19 l_20),(.vs 6 tg_21 l_22),(i6 x_23)],[]⟩)] Hp.none 0))
(.run 0 qK0 (mkS 89 [(2,.lp 2 0),(3,.lp 3 0),vv 8 (.vs 6 tg_3 l_4),vi 9 x_5,vi 10 (w64 (x_6 + 1))] [(2,⟨[(i6 x_7),(i6 x_8),(.bool c_9),(.bool c_10)],[]⟩),(3,⟨[(i6 (w64 (x_11 + 1))),(i6 (w64 (x_12 + 1))),(.bool (decide (x_15 = 1))),(.bool (!(decide (x_15 = 1))))],[]⟩),(5,⟨[(i6 x_15),(.str s_16),(.vs 5 tg_17 l_18),(.vs 6 tg_19 l_20),(.vs 6 tg_21 l_22),(i6 x_23)],[]⟩)] Hp.none 0))))
(.br (zab [(.vs 6 tg_19 l_20)])
(cl0 35 [(.vs 6 tg_19 l_20)] fun r2 => .br (AV.pure r2.v)
(.br (AV.pure r2.v)
(.mid 8 qK1 3 (mkS 89 [(2,.lp 2 0),(3,.lp 3 0),(5,.lp 5 0),vv 8 (.vs 6 tg_3 l_4),vi 9 x_5,vi 10 x_6,vb 16 false,(41,.lp 5 3),vv 42 (.vs 6 tg_19 l_20),vv 43 r2.v] [(2,⟨[(i6 x_7),(i6 x_8),(.bool c_9),(.bool c_10)],[]⟩),(3,⟨[(i6 x_11),(i6 x_12),(.bool c_13),(.bool c_14)],[]⟩),(5,⟨[(i6 x_15),(.str s_16),(.vs 5 tg_17 l_18),(.vs 6 tg_19 l_20),(.vs 6 tg_21 l_22),(i6 x_23)],[]⟩)] Hp.none 0)) .none) .none) .none)) = some o) : ML C 35 qK2 1 (mkS 89 [(2,.lp 2 0),(3,.lp 3 0),vv 8 (.vs 6 tg_3 l_4),vi 9 x_5,vi 10 x_6,vb 11 true,vv 12 (.cptr [(i6 x_15),(.str s_16),(.vs 5 tg_17 l_18),(.vs 6 tg_19 l_20),(.vs 6 tg_21 l_22),(i6 x_23)])] [(2,⟨[(i6 x_7),(i6 x_8),(.bool c_9),(.bool c_10)],[]⟩),(3,⟨[(i6 x_11),(i6 x_12),(.bool c_13),(.bool c_14)],[]⟩)] Hp.none 0) = some o := stM C 15 (fun _ _ => by kernel_rfl) ho
theorem p35_3 {tg_24 c_30 c_31 c_34 c_35 tg_38 tg_40 tg_42 : Bool} {l_25 l_39 l_41 l_43 : List AV} {x_26 x_27 x_28 x_29 x_32 x_33 x_36 x_44 : Int} {s_37 : List UInt8} (ho : Tr.val C 35
(.br (decide (x_27 < x_26))
(ix l_25 x_27 fun c3 =>
(.mid 0 qK2 1 (mkS 89 [(2,.lp 2 0),(3,.lp 3 0),vv 8 (.vs 6 tg_24 l_25),vi 9 x_26,vi 10 x_27,vb 11 true,vv 12 (.cptr (AV.cells c3))] [(2,⟨[(i6 x_28),(i6 x_29),(.bool c_30),(.bool c_31)],[]⟩),(3,⟨[(i6 x_32),(i6 x_33),(.bool c_34),(.bool c_35)],[]⟩),(5,⟨[(i6 x_36),(.str s_37),(.vs 5 tg_38 l_39),(.vs 6 tg_40 l_41),(.vs 6 tg_42 l_43),(i6 x_44)],[]⟩)] Hp.none 0)))
(rt (.agg [(i6 x_32),(i6 x_33),(.bool c_34),(.bool c_35)]))) = some o) : RL C 35 qK0 (mkS 89 [(2,.lp 2 0),(3,.lp 3 0),vv 8 (.vs 6 tg_24 l_25),vi 9 x_26,vi 10 x_27] [(2,⟨[(i6 x_28),(i6 x_29),(.bool c_30),(.bool c_31)],[]⟩),(3,⟨[(i6 x_32),(i6 x_33),(.bool c_34),(.bool c_35)],[]⟩),(5,⟨[(i6 x_36),(.str s_37),(.vs 5 tg_38 l_39),(.vs 6 tg_40 l_41),(.vs 6 tg_42 l_43),(i6 x_44)],[]⟩)] Hp.none 0) = some o := stR C 9 (fun _ _ => by kernel_rfl) ho
theorem p35_4 {tg_3 c_9 c_10 c_13 c_14 tg_17 tg_19 tg_21 c_47 c_48 : Bool} {l_4 l_18 l_20 l_22 : List AV} {x_5 x_6 x_7 x_8 x_11 x_12 x_15 x_23 x_45 x_46 : Int} {s_16 : List UInt8} (ho : Tr.val C 35
(.br (zab [(.vs 6 tg_21 l_22)])
(cl0 35 [(.vs 6 tg_21 l_22)] fun r4 => .br (AV.pure r4.v)
(.br (AV.pure r4.v)
(.mid 0 qK1 6 (mkS 89 [(2,.lp 2 0),(3,.lp 3 0),(5,.lp 5 0),vv 8 (.vs 6 tg_3 l_4),vi 9 x_5,vi 10 x_6,vb 16 false,(41,.lp 5 3),vv 42 (.vs 6 tg_19 l_20),vv 43 (.agg [(i6 x_45),(i6 x_46),(.bool c_47),(.bool c_48)]),(44,.lp 5 4),vv 45 (.vs 6 tg_21 l_22),vv 46 r4.v] [(2,⟨[(i6 x_7),(i6 x_8),(.bool c_9),(.bool c_10)],[]⟩),(3,⟨[(i6 x_11),(i6 x_12),(.bool c_13),(.bool c_14)],[]⟩),(5,⟨[(i6 x_15),(.str s_16),(.vs 5 tg_17 l_18),(.vs 6 tg_19 l_20),(.vs 6 tg_21 l_22),(i6 x_23)],[]⟩)] Hp.none 0)) .none) .none) .none) = some o) : ML C 35 qK1 3 (mkS 89 [(2,.lp 2 0),(3,.lp 3 0),(5,.lp 5 0),vv 8 (.vs 6 tg_3 l_4),vi 9 x_5,vi 10 x_6,vb 16 false,(41,.lp 5 3),vv 42 (.vs 6 tg_19 l_20),vv 43 (.agg [(i6 x_45),(i6 x_46),(.bool c_47),(.bool c_48)])] [(2,⟨[(i6 x_7),(i6 x_8),(.bool c_9),(.bool c_10)],[]⟩),(3,⟨[(i6 x_11),(i6 x_12),(.bool c_13),(.bool c_14)],[]⟩),(5,⟨[(i6 x_15),(.str s_16),(.vs 5 tg_17 l_18),(.vs 6 tg_19 l_20),(.vs 6 tg_21 l_22),(i6 x_23)],[]⟩)] Hp.none 0) = some o := stM C 0 (fun _ _ => by kernel_rfl) ho
theorem p35_5 {tg_24 c_30 c_31 c_34 c_35 tg_38 tg_40 tg_42 tg_51 tg_53 tg_55 : Bool} {l_25 l_39 l_41 l_43 l_52 l_54 l_56 : List AV} {x_26 x_27 x_28 x_29 x_32 x_33 x_36 x_44 x_49 x_57 : Int} {s_37 s_50 : List UInt8} (ho : Tr.val C 35
(.br (!(decide (x_49 = 6)))
(.br c_34
(.br c_35
(.run 0 qK0 (mkS 89 [(2,.lp 2 0),(3,.lp 3 0),vv 8 (.vs 6 tg_24 l_25),vi 9 x_26,vi 10 (w64 (x_27 + 1))] [(2,⟨[(i6 x_28),(i6 x_29),(.bool c_30),(.bool c_31)],[]⟩),(3,⟨[(i6 (w64 (x_32 + 1))),(i6 (w64 (x_33 + 1))),(.bool true),(.bool true)],[]⟩),(5,⟨[(i6 x_49),(.str s_50),(.vs 5 tg_51 l_52),(.vs 6 tg_53 l_54),(.vs 6 tg_55 l_56),(i6 x_57)],[]⟩)] Hp.none 0))
(.run 0 qK0 (mkS 89 [(2,.lp 2 0),(3,.lp 3 0),vv 8 (.vs 6 tg_24 l_25),vi 9 x_26,vi 10 (w64 (x_27 + 1))] [(2,⟨[(i6 x_28),(i6 x_29),(.bool c_30),(.bool c_31)],[]⟩),(3,⟨[(i6 (w64 (x_32 + 1))),(i6 (w64 (x_33 + 1))),(.bool true),(.bool (!(decide (x_49 = 1))))],[]⟩),(5,⟨[(i6 x_49),(.str s_50),(.vs 5 tg_51 l_52),(.vs 6 tg_53 l_54),(.vs 6 tg_55 l_56),(i6 x_57)],[]⟩)] Hp.none 0)))
(.br c_35
(.run 0 qK0 (mkS 89 [(2,.lp 2 0),(3,.lp 3 0),vv 8 (.vs 6 tg_24 l_25),vi 9 x_26,vi 10 (w64 (x_27 + 1))] [(2,⟨[(i6 x_28),(i6 x_29),(.bool c_30),(.bool c_31)],[]⟩),(3,⟨[(i6 (w64 (x_32 + 1))),(i6 (w64 (x_33 + 1))),(.bool (decide (x_49 = 1))),(.bool true)],[]⟩),(5,⟨[(i6 x_49),(.str s_50),(.vs 5 tg_51 l_52),(.vs 6 tg_53 l_54),(.vs 6 tg_55 l_56),(i6 x_57)],[]⟩)] Hp.none 0))
(.run 0 qK0 (mkS 89 [(2,.lp 2 0),(3,.lp 3 0),vv 8 (.vs 6 tg_24 l_25),vi 9 x_26,vi 10 (w64 (x_27 + 1))] [(2,⟨[(i6 x_28),(i6 x_29),(.bool c_30),(.bool c_31)],[]⟩),(3,⟨[(i6 (w64 (x_32 + 1))),(i6 (w64 (x_33 + 1))),(.bool (decide (x_49 = 1))),(.bool (!(decide (x_49 = 1))))],[]⟩),(5,⟨[(i6 x_49),(.str s_50),(.vs 5 tg_51 l_52),(.vs 6 tg_53 l_54),(.vs 6 tg_55 l_56),(i6 x_57)],[]⟩)] Hp.none 0))))
(.br (zab [(.vs 6 tg_53 l_54)])
(cl0 35 [(.vs 6 tg_53 l_54)] fun r5 => .br (AV.pure r5.v)
(.br (AV.pure r5.v)
(.mid 8 qK1 3 (mkS 89 [(2,.lp 2 0),(3,.lp 3 0),(5,.lp 5 0),vv 8 (.vs 6 tg_24 l_25),vi 9 x_26,vi 10 x_27,vb 16 false,(41,.lp 5 3),vv 42 (.vs 6 tg_53 l_54),vv 43 r5.v] [(2,⟨[(i6 x_28),(i6 x_29),(.bool c_30),(.bool c_31)],[]⟩),(3,⟨[(i6 x_32),(i6 x_33),(.bool c_34),(.bool c_35)],[]⟩),(5,⟨[(i6 x_49),(.str s_50),(.vs 5 tg_51 l_52),(.vs 6 tg_53 l_54),(.vs 6 tg_55 l_56),(i6 x_57)],[]⟩)] Hp.none 0)) .none) .none) .none)) = some o) : ML C 35 qK2 1 (mkS 89 [(2,.lp 2 0),(3,.lp 3 0),vv 8 (.vs 6 tg_24 l_25),vi 9 x_26,vi 10 x_27,vb 11 true,vv 12 (.cptr [(i6 x_49),(.str s_50),(.vs 5 tg_51 l_52),(.vs 6 tg_53 l_54),(.vs 6 tg_55 l_56),(i6 x_57)])] [(2,⟨[(i6 x_28),(i6 x_29),(.bool c_30),(.bool c_31)],[]⟩),(3,⟨[(i6 x_32),(i6 x_33),(.bool c_34),(.bool c_35)],[]⟩),(5,⟨[(i6 x_36),(.str s_37),(.vs 5 tg_38 l_39),(.vs 6 tg_40 l_41),(.vs 6 tg_42 l_43),(i6 x_44)],[]⟩)] Hp.none 0) = some o := stM C 15 (fun _ _ => by kernel_rfl) ho
theorem p35_6 {tg_3 c_9 c_10 c_13 c_14 tg_17 tg_19 tg_21 c_47 c_48 c_60 c_61 : Bool} {l_4 l_18 l_20 l_22 : List AV} {x_5 x_6 x_7 x_8 x_11 x_12 x_15 x_23 x_45 x_46 x_58 x_59 : Int} {s_16 : List UInt8} (ho : Tr.val C 35
(.br c_13
(.br c_14
(.run 0 qK0 (mkS 89 [(2,.lp 2 0),(3,.lp 3 0),vv 8 (.vs 6 tg_3 l_4),vi 9 x_5,vi 10 (w64 (x_6 + 1))] [(2,⟨[(i6 x_7),(i6 x_8),(.bool c_9),(.bool c_10)],[]⟩),(3,⟨[(i6 (w64 (x_11 + (if x_58 < x_45 then x_58 else x_45)))),(i6 (w64 (x_12 + (if x_46 < x_59 then x_59 else x_46)))),(.bool true),(.bool true)],[]⟩),(5,⟨[(i6 x_15),(.str s_16),(.vs 5 tg_17 l_18),(.vs 6 tg_19 l_20),(.vs 6 tg_21 l_22),(i6 x_23)],[]⟩),(6,⟨[(i6 x_45),(i6 x_46),(.bool c_47),(.bool c_48)],[]⟩),(7,⟨[(i6 x_58),(i6 x_59),(.bool c_60),(.bool c_61)],[]⟩)] Hp.none 0))
(.br c_48
(.run 0 qK0 (mkS 89 [(2,.lp 2 0),(3,.lp 3 0),vv 8 (.vs 6 tg_3 l_4),vi 9 x_5,vi 10 (w64 (x_6 + 1))] [(2,⟨[(i6 x_7),(i6 x_8),(.bool c_9),(.bool c_10)],[]⟩),(3,⟨[(i6 (w64 (x_11 + (if x_58 < x_45 then x_58 else x_45)))),(i6 (w64 (x_12 + (if x_46 < x_59 then x_59 else x_46)))),(.bool true),(.bool true)],[]⟩),(5,⟨[(i6 x_15),(.str s_16),(.vs 5 tg_17 l_18),(.vs 6 tg_19 l_20),(.vs 6 tg_21 l_22),(i6 x_23)],[]⟩),(6,⟨[(i6 x_45),(i6 x_46),(.bool c_47),(.bool c_48)],[]⟩),(7,⟨[(i6 x_58),(i6 x_59),(.bool c_60),(.bool c_61)],[]⟩)] Hp.none 0))
(.run 0 qK0 (mkS 89 [(2,.lp 2 0),(3,.lp 3 0),vv 8 (.vs 6 tg_3 l_4),vi 9 x_5,vi 10 (w64 (x_6 + 1))] [(2,⟨[(i6 x_7),(i6 x_8),(.bool c_9),(.bool c_10)],[]⟩),(3,⟨[(i6 (w64 (x_11 + (if x_58 < x_45 then x_58 else x_45)))),(i6 (w64 (x_12 + (if x_46 < x_59 then x_59 else x_46)))),(.bool true),(.bool c_61)],[]⟩),(5,⟨[(i6 x_15),(.str s_16),(.vs 5 tg_17 l_18),(.vs 6 tg_19 l_20),(.vs 6 tg_21 l_22),(i6 x_23)],[]⟩),(6,⟨[(i6 x_45),(i6 x_46),(.bool c_47),(.bool c_48)],[]⟩),(7,⟨[(i6 x_58),(i6 x_59),(.bool c_60),(.bool c_61)],[]⟩)] Hp.none 0))))
(.br c_47
(.br c_14
(.run 0 qK0 (mkS 89 [(2,.lp 2 0),(3,.lp 3 0),vv 8 (.vs 6 tg_3 l_4),vi 9 x_5,vi 10 (w64 (x_6 + 1))] [(2,⟨[(i6 x_7),(i6 x_8),(.bool c_9),(.bool c_10)],[]⟩),(3,⟨[(i6 (w64 (x_11 + (if x_58 < x_45 then x_58 else x_45)))),(i6 (w64 (x_12 + (if x_46 < x_59 then x_59 else x_46)))),(.bool true),(.bool true)],[]⟩),(5,⟨[(i6 x_15),(.str s_16),(.vs 5 tg_17 l_18),(.vs 6 tg_19 l_20),(.vs 6 tg_21 l_22),(i6 x_23)],[]⟩),(6,⟨[(i6 x_45),(i6 x_46),(.bool c_47),(.bool c_48)],[]⟩),(7,⟨[(i6 x_58),(i6 x_59),(.bool c_60),(.bool c_61)],[]⟩)] Hp.none 0))
(.br c_48
(.run 0 qK0 (mkS 89 [(2,.lp 2 0),(3,.lp 3 0),vv 8 (.vs 6 tg_3 l_4),vi 9 x_5,vi 10 (w64 (x_6 + 1))] [(2,⟨[(i6 x_7),(i6 x_8),(.bool c_9),(.bool c_10)],[]⟩),(3,⟨[(i6 (w64 (x_11 + (if x_58 < x_45 then x_58 else x_45)))),(i6 (w64 (x_12 + (if x_46 < x_59 then x_59 else x_46)))),(.bool true),(.bool true)],[]⟩),(5,⟨[(i6 x_15),(.str s_16),(.vs 5 tg_17 l_18),(.vs 6 tg_19 l_20),(.vs 6 tg_21 l_22),(i6 x_23)],[]⟩),(6,⟨[(i6 x_45),(i6 x_46),(.bool c_47),(.bool c_48)],[]⟩),(7,⟨[(i6 x_58),(i6 x_59),(.bool c_60),(.bool c_61)],[]⟩)] Hp.none 0))
(.run 0 qK0 (mkS 89 [(2,.lp 2 0),(3,.lp 3 0),vv 8 (.vs 6 tg_3 l_4),vi 9 x_5,vi 10 (w64 (x_6 + 1))] [(2,⟨[(i6 x_7),(i6 x_8),(.bool c_9),(.bool c_10)],[]⟩),(3,⟨[(i6 (w64 (x_11 + (if x_58 < x_45 then x_58 else x_45)))),(i6 (w64 (x_12 + (if x_46 < x_59 then x_59 else x_46)))),(.bool true),(.bool c_61)],[]⟩),(5,⟨[(i6 x_15),(.str s_16),(.vs 5 tg_17 l_18),(.vs 6 tg_19 l_20),(.vs 6 tg_21 l_22),(i6 x_23)],[]⟩),(6,⟨[(i6 x_45),(i6 x_46),(.bool c_47),(.bool c_48)],[]⟩),(7,⟨[(i6 x_58),(i6 x_59),(.bool c_60),(.bool c_61)],[]⟩)] Hp.none 0))))
(.br c_14
(.run 0 qK0 (mkS 89 [(2,.lp 2 0),(3,.lp 3 0),vv 8 (.vs 6 tg_3 l_4),vi 9 x_5,vi 10 (w64 (x_6 + 1))] [(2,⟨[(i6 x_7),(i6 x_8),(.bool c_9),(.bool c_10)],[]⟩),(3,⟨[(i6 (w64 (x_11 + (if x_58 < x_45 then x_58 else x_45)))),(i6 (w64 (x_12 + (if x_46 < x_59 then x_59 else x_46)))),(.bool c_60),(.bool true)],[]⟩),(5,⟨[(i6 x_15),(.str s_16),(.vs 5 tg_17 l_18),(.vs 6 tg_19 l_20),(.vs 6 tg_21 l_22),(i6 x_23)],[]⟩),(6,⟨[(i6 x_45),(i6 x_46),(.bool c_47),(.bool c_48)],[]⟩),(7,⟨[(i6 x_58),(i6 x_59),(.bool c_60),(.bool c_61)],[]⟩)] Hp.none 0))
(.br c_48
(.run 0 qK0 (mkS 89 [(2,.lp 2 0),(3,.lp 3 0),vv 8 (.vs 6 tg_3 l_4),vi 9 x_5,vi 10 (w64 (x_6 + 1))] [(2,⟨[(i6 x_7),(i6 x_8),(.bool c_9),(.bool c_10)],[]⟩),(3,⟨[(i6 (w64 (x_11 + (if x_58 < x_45 then x_58 else x_45)))),(i6 (w64 (x_12 + (if x_46 < x_59 then x_59 else x_46)))),(.bool c_60),(.bool true)],[]⟩),(5,⟨[(i6 x_15),(.str s_16),(.vs 5 tg_17 l_18),(.vs 6 tg_19 l_20),(.vs 6 tg_21 l_22),(i6 x_23)],[]⟩),(6,⟨[(i6 x_45),(i6 x_46),(.bool c_47),(.bool c_48)],[]⟩),(7,⟨[(i6 x_58),(i6 x_59),(.bool c_60),(.bool c_61)],[]⟩)] Hp.none 0))
(.run 0 qK0 (mkS 89 [(2,.lp 2 0),(3,.lp 3 0),vv 8 (.vs 6 tg_3 l_4),vi 9 x_5,vi 10 (w64 (x_6 + 1))] [(2,⟨[(i6 x_7),(i6 x_8),(.bool c_9),(.bool c_10)],[]⟩),(3,⟨[(i6 (w64 (x_11 + (if x_58 < x_45 then x_58 else x_45)))),(i6 (w64 (x_12 + (if x_46 < x_59 then x_59 else x_46)))),(.bool c_60),(.bool c_61)],[]⟩),(5,⟨[(i6 x_15),(.str s_16),(.vs 5 tg_17 l_18),(.vs 6 tg_19 l_20),(.vs 6 tg_21 l_22),(i6 x_23)],[]⟩),(6,⟨[(i6 x_45),(i6 x_46),(.bool c_47),(.bool c_48)],[]⟩),(7,⟨[(i6 x_58),(i6 x_59),(.bool c_60),(.bool c_61)],[]⟩)] Hp.none 0)))))) = some o) : ML C 35 qK1 6 (mkS 89 [(2,.lp 2 0),(3,.lp 3 0),(5,.lp 5 0),vv 8 (.vs 6 tg_3 l_4),vi 9 x_5,vi 10 x_6,vb 16 false,(41,.lp 5 3),vv 42 (.vs 6 tg_19 l_20),vv 43 (.agg [(i6 x_45),(i6 x_46),(.bool c_47),(.bool c_48)]),(44,.lp 5 4),vv 45 (.vs 6 tg_21 l_22),vv 46 (.agg [(i6 x_58),(i6 x_59),(.bool c_60),(.bool c_61)])] [(2,⟨[(i6 x_7),(i6 x_8),(.bool c_9),(.bool c_10)],[]⟩),(3,⟨[(i6 x_11),(i6 x_12),(.bool c_13),(.bool c_14)],[]⟩),(5,⟨[(i6 x_15),(.str s_16),(.vs 5 tg_17 l_18),(.vs 6 tg_19 l_20),(.vs 6 tg_21 l_22),(i6 x_23)],[]⟩)] Hp.none 0) = some o := stM C 10 (fun _ _ => by kernel_rfl) ho
theorem p35_7 {tg_66 c_72 c_73 c_76 c_77 tg_80 tg_82 tg_84 c_89 c_90 c_93 c_94 : Bool} {l_67 l_81 l_83 l_85 : List AV} {x_68 x_69 x_70 x_71 x_74 x_75 x_78 x_86 x_87 x_88 x_91 x_92 : Int} {s_79 : List UInt8} (ho : Tr.val C 35
(.br (decide (x_69 < x_68))
(ix l_67 x_69 fun c6 =>
(.mid 0 qK2 1 (mkS 89 [(2,.lp 2 0),(3,.lp 3 0),vv 8 (.vs 6 tg_66 l_67),vi 9 x_68,vi 10 x_69,vb 11 true,vv 12 (.cptr (AV.cells c6))] [(2,⟨[(i6 x_70),(i6 x_71),(.bool c_72),(.bool c_73)],[]⟩),(3,⟨[(i6 x_74),(i6 x_75),(.bool c_76),(.bool c_77)],[]⟩),(5,⟨[(i6 x_78),(.str s_79),(.vs 5 tg_80 l_81),(.vs 6 tg_82 l_83),(.vs 6 tg_84 l_85),(i6 x_86)],[]⟩),(6,⟨[(i6 x_87),(i6 x_88),(.bool c_89),(.bool c_90)],[]⟩),(7,⟨[(i6 x_91),(i6 x_92),(.bool c_93),(.bool c_94)],[]⟩)] Hp.none 0)))
(rt (.agg [(i6 x_74),(i6 x_75),(.bool c_76),(.bool c_77)]))) = some o) : RL C 35 qK0 (mkS 89 [(2,.lp 2 0),(3,.lp 3 0),vv 8 (.vs 6 tg_66 l_67),vi 9 x_68,vi 10 x_69] [(2,⟨[(i6 x_70),(i6 x_71),(.bool c_72),(.bool c_73)],[]⟩),(3,⟨[(i6 x_74),(i6 x_75),(.bool c_76),(.bool c_77)],[]⟩),(5,⟨[(i6 x_78),(.str s_79),(.vs 5 tg_80 l_81),(.vs 6 tg_82 l_83),(.vs 6 tg_84 l_85),(i6 x_86)],[]⟩),(6,⟨[(i6 x_87),(i6 x_88),(.bool c_89),(.bool c_90)],[]⟩),(7,⟨[(i6 x_91),(i6 x_92),(.bool c_93),(.bool c_94)],[]⟩)] Hp.none 0) = some o := stR C 9 (fun _ _ => by kernel_rfl) ho
theorem p35_8 {tg_66 c_72 c_73 c_76 c_77 tg_80 tg_82 tg_84 c_89 c_90 c_93 c_94 tg_97 tg_99 tg_101 : Bool} {l_67 l_81 l_83 l_85 l_98 l_100 l_102 : List AV} {x_68 x_69 x_70 x_71 x_74 x_75 x_78 x_86 x_87 x_88 x_91 x_92 x_95 x_103 : Int} {s_79 s_96 : List UInt8} (ho : Tr.val C 35
(.br (!(decide (x_95 = 6)))
(.br c_76
(.br c_77
(.run 0 qK0 (mkS 89 [(2,.lp 2 0),(3,.lp 3 0),vv 8 (.vs 6 tg_66 l_67),vi 9 x_68,vi 10 (w64 (x_69 + 1))] [(2,⟨[(i6 x_70),(i6 x_71),(.bool c_72),(.bool c_73)],[]⟩),(3,⟨[(i6 (w64 (x_74 + 1))),(i6 (w64 (x_75 + 1))),(.bool true),(.bool true)],[]⟩),(5,⟨[(i6 x_95),(.str s_96),(.vs 5 tg_97 l_98),(.vs 6 tg_99 l_100),(.vs 6 tg_101 l_102),(i6 x_103)],[]⟩),(6,⟨[(i6 x_87),(i6 x_88),(.bool c_89),(.bool c_90)],[]⟩),(7,⟨[(i6 x_91),(i6 x_92),(.bool c_93),(.bool c_94)],[]⟩)] Hp.none 0))
(.run 0 qK0 (mkS 89 [(2,.lp 2 0),(3,.lp 3 0),vv 8 (.vs 6 tg_66 l_67),vi 9 x_68,vi 10 (w64 (x_69 + 1))] [(2,⟨[(i6 x_70),(i6 x_71),(.bool c_72),(.bool c_73)],[]⟩),(3,⟨[(i6 (w64 (x_74 + 1))),(i6 (w64 (x_75 + 1))),(.bool true),(.bool (!(decide (x_95 = 1))))],[]⟩),(5,⟨[(i6 x_95),(.str s_96),(.vs 5 tg_97 l_98),(.vs 6 tg_99 l_100),(.vs 6 tg_101 l_102),(i6 x_103)],[]⟩),(6,⟨[(i6 x_87),(i6 x_88),(.bool c_89),(.bool c_90)],[]⟩),(7,⟨[(i6 x_91),(i6 x_92),(.bool c_93),(.bool c_94)],[]⟩)] Hp.none 0)))
(.br c_77
(.run 0 qK0 (mkS 89 [(2,.lp 2 0),(3,.lp 3 0),vv 8 (.vs 6 tg_66 l_67),vi 9 x_68,vi 10 (w64 (x_69 + 1))] [(2,⟨[(i6 x_70),(i6 x_71),(.bool c_72),(.bool c_73)],[]⟩),(3,⟨[(i6 (w64 (x_74 + 1))),(i6 (w64 (x_75 + 1))),(.bool (decide (x_95 = 1))),(.bool true)],[]⟩),(5,⟨[(i6 x_95),(.str s_96),(.vs 5 tg_97 l_98),(.vs 6 tg_99 l_100),(.vs 6 tg_101 l_102),(i6 x_103)],[]⟩),(6,⟨[(i6 x_87),(i6 x_88),(.bool c_89),(.bool c_90)],[]⟩),(7,⟨[(i6 x_91),(i6 x_92),(.bool c_93),(.bool c_94)],[]⟩)] Hp.none 0))
(.run 0 qK0 (mkS 89 [(2,.lp 2 0),(3,.lp 3 0),vv 8 (.vs 6 tg_66 l_67),vi 9 x_68,vi 10 (w64 (x_69 + 1))] [(2,⟨[(i6 x_70),(i6 x_71),(.bool c_72),(.bool c_73)],[]⟩),(3,⟨[(i6 (w64 (x_74 + 1))),(i6 (w64 (x_75 + 1))),(.bool (decide (x_95 = 1))),(.bool (!(decide (x_95 = 1))))],[]⟩),(5,⟨[(i6 x_95),(.str s_96),(.vs 5 tg_97 l_98),(.vs 6 tg_99 l_100),(.vs 6 tg_101 l_102),(i6 x_103)],[]⟩),(6,⟨[(i6 x_87),(i6 x_88),(.bool c_89),(.bool c_90)],[]⟩),(7,⟨[(i6 x_91),(i6 x_92),(.bool c_93),(.bool c_94)],[]⟩)] Hp.none 0))))
(.br (zab [(.vs 6 tg_99 l_100)])
(cl0 35 [(.vs 6 tg_99 l_100)] fun r7 => .br (AV.pure r7.v)
(.br (AV.pure r7.v)
(.mid 8 qK1 3 (mkS 89 [(2,.lp 2 0),(3,.lp 3 0),(5,.lp 5 0),vv 8 (.vs 6 tg_66 l_67),vi 9 x_68,vi 10 x_69,vb 16 false,(41,.lp 5 3),vv 42 (.vs 6 tg_99 l_100),vv 43 r7.v] [(2,⟨[(i6 x_70),(i6 x_71),(.bool c_72),(.bool c_73)],[]⟩),(3,⟨[(i6 x_74),(i6 x_75),(.bool c_76),(.bool c_77)],[]⟩),(5,⟨[(i6 x_95),(.str s_96),(.vs 5 tg_97 l_98),(.vs 6 tg_99 l_100),(.vs 6 tg_101 l_102),(i6 x_103)],[]⟩),(6,⟨[(i6 x_87),(i6 x_88),(.bool c_89),(.bool c_90)],[]⟩),(7,⟨[(i6 x_91),(i6 x_92),(.bool c_93),(.bool c_94)],[]⟩)] Hp.none 0)) .none) .none) .none)) = some o) : ML C 35 qK2 1 (mkS 89 [(2,.lp 2 0),(3,.lp 3 0),vv 8 (.vs 6 tg_66 l_67),vi 9 x_68,vi 10 x_69,vb 11 true,vv 12 (.cptr [(i6 x_95),(.str s_96),(.vs 5 tg_97 l_98),(.vs 6 tg_99 l_100),(.vs 6 tg_101 l_102),(i6 x_103)])] [(2,⟨[(i6 x_70),(i6 x_71),(.bool c_72),(.bool c_73)],[]⟩),(3,⟨[(i6 x_74),(i6 x_75),(.bool c_76),(.bool c_77)],[]⟩),(5,⟨[(i6 x_78),(.str s_79),(.vs 5 tg_80 l_81),(.vs 6 tg_82 l_83),(.vs 6 tg_84 l_85),(i6 x_86)],[]⟩),(6,⟨[(i6 x_87),(i6 x_88),(.bool c_89),(.bool c_90)],[]⟩),(7,⟨[(i6 x_91),(i6 x_92),(.bool c_93),(.bool c_94)],[]⟩)] Hp.none 0) = some o := stM C 15 (fun _ _ => by kernel_rfl) ho
theorem p35_9 {tg_66 c_72 c_73 c_76 c_77 c_89 c_90 c_93 c_94 tg_97 tg_99 tg_101 c_106 c_107 : Bool} {l_67 l_98 l_100 l_102 : List AV} {x_68 x_69 x_70 x_71 x_74 x_75 x_87 x_88 x_91 x_92 x_95 x_103 x_104 x_105 : Int} {s_96 : List UInt8} (ho : Tr.val C 35
(.br (zab [(.vs 6 tg_101 l_102)])
(cl0 35 [(.vs 6 tg_101 l_102)] fun r8 => .br (AV.pure r8.v)
(.br (AV.pure r8.v)
(.mid 0 qK1 6 (mkS 89 [(2,.lp 2 0),(3,.lp 3 0),(5,.lp 5 0),vv 8 (.vs 6 tg_66 l_67),vi 9 x_68,vi 10 x_69,vb 16 false,(41,.lp 5 3),vv 42 (.vs 6 tg_99 l_100),vv 43 (.agg [(i6 x_104),(i6 x_105),(.bool c_106),(.bool c_107)]),(44,.lp 5 4),vv 45 (.vs 6 tg_101 l_102),vv 46 r8.v] [(2,⟨[(i6 x_70),(i6 x_71),(.bool c_72),(.bool c_73)],[]⟩),(3,⟨[(i6 x_74),(i6 x_75),(.bool c_76),(.bool c_77)],[]⟩),(5,⟨[(i6 x_95),(.str s_96),(.vs 5 tg_97 l_98),(.vs 6 tg_99 l_100),(.vs 6 tg_101 l_102),(i6 x_103)],[]⟩),(6,⟨[(i6 x_87),(i6 x_88),(.bool c_89),(.bool c_90)],[]⟩),(7,⟨[(i6 x_91),(i6 x_92),(.bool c_93),(.bool c_94)],[]⟩)] Hp.none 0)) .none) .none) .none) = some o) : ML C 35 qK1 3 (mkS 89 [(2,.lp 2 0),(3,.lp 3 0),(5,.lp 5 0),vv 8 (.vs 6 tg_66 l_67),vi 9 x_68,vi 10 x_69,vb 16 false,(41,.lp 5 3),vv 42 (.vs 6 tg_99 l_100),vv 43 (.agg [(i6 x_104),(i6 x_105),(.bool c_106),(.bool c_107)])] [(2,⟨[(i6 x_70),(i6 x_71),(.bool c_72),(.bool c_73)],[]⟩),(3,⟨[(i6 x_74),(i6 x_75),(.bool c_76),(.bool c_77)],[]⟩),(5,⟨[(i6 x_95),(.str s_96),(.vs 5 tg_97 l_98),(.vs 6 tg_99 l_100),(.vs 6 tg_101 l_102),(i6 x_103)],[]⟩),(6,⟨[(i6 x_87),(i6 x_88),(.bool c_89),(.bool c_90)],[]⟩),(7,⟨[(i6 x_91),(i6 x_92),(.bool c_93),(.bool c_94)],[]⟩)] Hp.none 0) = some o := stM C 0 (fun _ _ => by kernel_rfl) ho
theorem p35_10 {tg_66 c_72 c_73 c_76 c_77 c_89 c_90 c_93 c_94 tg_97 tg_99 tg_101 c_106 c_107 c_110 c_111 : Bool} {l_67 l_98 l_100 l_102 : List AV} {x_68 x_69 x_70 x_71 x_74 x_75 x_87 x_88 x_91 x_92 x_95 x_103 x_104 x_105 x_108 x_109 : Int} {s_96 : List UInt8} (ho : Tr.val C 35
(.br c_76
(.br c_77
(.run 0 qK0 (mkS 89 [(2,.lp 2 0),(3,.lp 3 0),vv 8 (.vs 6 tg_66 l_67),vi 9 x_68,vi 10 (w64 (x_69 + 1))] [(2,⟨[(i6 x_70),(i6 x_71),(.bool c_72),(.bool c_73)],[]⟩),(3,⟨[(i6 (w64 (x_74 + (if x_108 < x_104 then x_108 else x_104)))),(i6 (w64 (x_75 + (if x_105 < x_109 then x_109 else x_105)))),(.bool true),(.bool true)],[]⟩),(5,⟨[(i6 x_95),(.str s_96),(.vs 5 tg_97 l_98),(.vs 6 tg_99 l_100),(.vs 6 tg_101 l_102),(i6 x_103)],[]⟩),(6,⟨[(i6 x_104),(i6 x_105),(.bool c_106),(.bool c_107)],[]⟩),(7,⟨[(i6 x_108),(i6 x_109),(.bool c_110),(.bool c_111)],[]⟩)] Hp.none 0))
(.br c_107
(.run 0 qK0 (mkS 89 [(2,.lp 2 0),(3,.lp 3 0),vv 8 (.vs 6 tg_66 l_67),vi 9 x_68,vi 10 (w64 (x_69 + 1))] [(2,⟨[(i6 x_70),(i6 x_71),(.bool c_72),(.bool c_73)],[]⟩),(3,⟨[(i6 (w64 (x_74 + (if x_108 < x_104 then x_108 else x_104)))),(i6 (w64 (x_75 + (if x_105 < x_109 then x_109 else x_105)))),(.bool true),(.bool true)],[]⟩),(5,⟨[(i6 x_95),(.str s_96),(.vs 5 tg_97 l_98),(.vs 6 tg_99 l_100),(.vs 6 tg_101 l_102),(i6 x_103)],[]⟩),(6,⟨[(i6 x_104),(i6 x_105),(.bool c_106),(.bool c_107)],[]⟩),(7,⟨[(i6 x_108),(i6 x_109),(.bool c_110),(.bool c_111)],[]⟩)] Hp.none 0))
(.run 0 qK0 (mkS 89 [(2,.lp 2 0),(3,.lp 3 0),vv 8 (.vs 6 tg_66 l_67),vi 9 x_68,vi 10 (w64 (x_69 + 1))] [(2,⟨[(i6 x_70),(i6 x_71),(.bool c_72),(.bool c_73)],[]⟩),(3,⟨[(i6 (w64 (x_74 + (if x_108 < x_104 then x_108 else x_104)))),(i6 (w64 (x_75 + (if x_105 < x_109 then x_109 else x_105)))),(.bool true),(.bool c_111)],[]⟩),(5,⟨[(i6 x_95),(.str s_96),(.vs 5 tg_97 l_98),(.vs 6 tg_99 l_100),(.vs 6 tg_101 l_102),(i6 x_103)],[]⟩),(6,⟨[(i6 x_104),(i6 x_105),(.bool c_106),(.bool c_107)],[]⟩),(7,⟨[(i6 x_108),(i6 x_109),(.bool c_110),(.bool c_111)],[]⟩)] Hp.none 0))))
(.br c_106
(.br c_77
(.run 0 qK0 (mkS 89 [(2,.lp 2 0),(3,.lp 3 0),vv 8 (.vs 6 tg_66 l_67),vi 9 x_68,vi 10 (w64 (x_69 + 1))] [(2,⟨[(i6 x_70),(i6 x_71),(.bool c_72),(.bool c_73)],[]⟩),(3,⟨[(i6 (w64 (x_74 + (if x_108 < x_104 then x_108 else x_104)))),(i6 (w64 (x_75 + (if x_105 < x_109 then x_109 else x_105)))),(.bool true),(.bool true)],[]⟩),(5,⟨[(i6 x_95),(.str s_96),(.vs 5 tg_97 l_98),(.vs 6 tg_99 l_100),(.vs 6 tg_101 l_102),(i6 x_103)],[]⟩),(6,⟨[(i6 x_104),(i6 x_105),(.bool c_106),(.bool c_107)],[]⟩),(7,⟨[(i6 x_108),(i6 x_109),(.bool c_110),(.bool c_111)],[]⟩)] Hp.none 0))
(.br c_107
(.run 0 qK0 (mkS 89 [(2,.lp 2 0),(3,.lp 3 0),vv 8 (.vs 6 tg_66 l_67),vi 9 x_68,vi 10 (w64 (x_69 + 1))] [(2,⟨[(i6 x_70),(i6 x_71),(.bool c_72),(.bool c_73)],[]⟩),(3,⟨[(i6 (w64 (x_74 + (if x_108 < x_104 then x_108 else x_104)))),(i6 (w64 (x_75 + (if x_105 < x_109 then x_109 else x_105)))),(.bool true),(.bool true)],[]⟩),(5,⟨[(i6 x_95),(.str s_96),(.vs 5 tg_97 l_98),(.vs 6 tg_99 l_100),(.vs 6 tg_101 l_102),(i6 x_103)],[]⟩),(6,⟨[(i6 x_104),(i6 x_105),(.bool c_106),(.bool c_107)],[]⟩),(7,⟨[(i6 x_108),(i6 x_109),(.bool c_110),(.bool c_111)],[]⟩)] Hp.none 0))
(.run 0 qK0 (mkS 89 [(2,.lp 2 0),(3,.lp 3 0),vv 8 (.vs 6 tg_66 l_67),vi 9 x_68,vi 10 (w64 (x_69 + 1))] [(2,⟨[(i6 x_70),(i6 x_71),(.bool c_72),(.bool c_73)],[]⟩),(3,⟨[(i6 (w64 (x_74 + (if x_108 < x_104 then x_108 else x_104)))),(i6 (w64 (x_75 + (if x_105 < x_109 then x_109 else x_105)))),(.bool true),(.bool c_111)],[]⟩),(5,⟨[(i6 x_95),(.str s_96),(.vs 5 tg_97 l_98),(.vs 6 tg_99 l_100),(.vs 6 tg_101 l_102),(i6 x_103)],[]⟩),(6,⟨[(i6 x_104),(i6 x_105),(.bool c_106),(.bool c_107)],[]⟩),(7,⟨[(i6 x_108),(i6 x_109),(.bool c_110),(.bool c_111)],[]⟩)] Hp.none 0))))
(.br c_77
(.run 0 qK0 (mkS 89 [(2,.lp 2 0),(3,.lp 3 0),vv 8 (.vs 6 tg_66 l_67),vi 9 x_68,vi 10 (w64 (x_69 + 1))] [(2,⟨[(i6 x_70),(i6 x_71),(.bool c_72),(.bool c_73)],[]⟩),(3,⟨[(i6 (w64 (x_74 + (if x_108 < x_104 then x_108 else x_104)))),(i6 (w64 (x_75 + (if x_105 < x_109 then x_109 else x_105)))),(.bool c_110),(.bool true)],[]⟩),(5,⟨[(i6 x_95),(.str s_96),(.vs 5 tg_97 l_98),(.vs 6 tg_99 l_100),(.vs 6 tg_101 l_102),(i6 x_103)],[]⟩),(6,⟨[(i6 x_104),(i6 x_105),(.bool c_106),(.bool c_107)],[]⟩),(7,⟨[(i6 x_108),(i6 x_109),(.bool c_110),(.bool c_111)],[]⟩)] Hp.none 0))
(.br c_107
(.run 0 qK0 (mkS 89 [(2,.lp 2 0),(3,.lp 3 0),vv 8 (.vs 6 tg_66 l_67),vi 9 x_68,vi 10 (w64 (x_69 + 1))] [(2,⟨[(i6 x_70),(i6 x_71),(.bool c_72),(.bool c_73)],[]⟩),(3,⟨[(i6 (w64 (x_74 + (if x_108 < x_104 then x_108 else x_104)))),(i6 (w64 (x_75 + (if x_105 < x_109 then x_109 else x_105)))),(.bool c_110),(.bool true)],[]⟩),(5,⟨[(i6 x_95),(.str s_96),(.vs 5 tg_97 l_98),(.vs 6 tg_99 l_100),(.vs 6 tg_101 l_102),(i6 x_103)],[]⟩),(6,⟨[(i6 x_104),(i6 x_105),(.bool c_106),(.bool c_107)],[]⟩),(7,⟨[(i6 x_108),(i6 x_109),(.bool c_110),(.bool c_111)],[]⟩)] Hp.none 0))
(.run 0 qK0 (mkS 89 [(2,.lp 2 0),(3,.lp 3 0),vv 8 (.vs 6 tg_66 l_67),vi 9 x_68,vi 10 (w64 (x_69 + 1))] [(2,⟨[(i6 x_70),(i6 x_71),(.bool c_72),(.bool c_73)],[]⟩),(3,⟨[(i6 (w64 (x_74 + (if x_108 < x_104 then x_108 else x_104)))),(i6 (w64 (x_75 + (if x_105 < x_109 then x_109 else x_105)))),(.bool c_110),(.bool c_111)],[]⟩),(5,⟨[(i6 x_95),(.str s_96),(.vs 5 tg_97 l_98),(.vs 6 tg_99 l_100),(.vs 6 tg_101 l_102),(i6 x_103)],[]⟩),(6,⟨[(i6 x_104),(i6 x_105),(.bool c_106),(.bool c_107)],[]⟩),(7,⟨[(i6 x_108),(i6 x_109),(.bool c_110),(.bool c_111)],[]⟩)] Hp.none 0)))))) = some o) : ML C 35 qK1 6 (mkS 89 [(2,.lp 2 0),(3,.lp 3 0),(5,.lp 5 0),vv 8 (.vs 6 tg_66 l_67),vi 9 x_68,vi 10 x_69,vb 16 false,(41,.lp 5 3),vv 42 (.vs 6 tg_99 l_100),vv 43 (.agg [(i6 x_104),(i6 x_105),(.bool c_106),(.bool c_107)]),(44,.lp 5 4),vv 45 (.vs 6 tg_101 l_102),vv 46 (.agg [(i6 x_108),(i6 x_109),(.bool c_110),(.bool c_111)])] [(2,⟨[(i6 x_70),(i6 x_71),(.bool c_72),(.bool c_73)],[]⟩),(3,⟨[(i6 x_74),(i6 x_75),(.bool c_76),(.bool c_77)],[]⟩),(5,⟨[(i6 x_95),(.str s_96),(.vs 5 tg_97 l_98),(.vs 6 tg_99 l_100),(.vs 6 tg_101 l_102),(i6 x_103)],[]⟩),(6,⟨[(i6 x_87),(i6 x_88),(.bool c_89),(.bool c_90)],[]⟩),(7,⟨[(i6 x_91),(i6 x_92),(.bool c_93),(.bool c_94)],[]⟩)] Hp.none 0) = some o := stM C 10 (fun _ _ => by kernel_rfl) ho




end Go.Proofs.YtfdklpkfpmkgeaaGreatDoor
end
section
namespace Go.Proofs.YtfdklpkfpmkgeaaGreatDoor
open Go Go.Vai
attribute [local irreducible] goTo zaq mkS
variable {C : Nat → Oracle} {o : Out}



theorem p16v0_c (hC : Ext C) {s_14 : List UInt8} {l_15 l_17 : List AV} {x_19 : Int} (ho : RL C 16 [] (mk0 30 [vv 0 (.agg [(.str s_14),(.vs 3 false l_15),(.vs 6 false l_17),(i6 x_19)])]) = some o) : calL C 16 [(.agg [(.str s_14),(.vs 3 false l_15),(.vs 6 false l_17),(i6 x_19)])] Hp.none 0 = some o := hC.call rfl (fun _ _ => by kernel_rfl) ho
theorem p16v0_0 {s_14 : List UInt8} {l_15 l_17 : List AV} {x_19 : Int} (ho : Tr.val C 16
(cl0 35 [(.vs 6 false l_17)] fun r1 => .br (AV.pure r1.v)
(.mid 0 [0,5,0,0] 3 (mkS 30 [(1,.lp 1 0),(4,.lp 1 2),vv 5 (.vs 6 false l_17),vv 6 r1.v] [(1,⟨[(.str s_14),(.vs 3 false l_15),(.vs 6 false l_17),(i6 x_19)],[]⟩)] Hp.none 0)) .none) = some o) : RL C 16 [] (mk0 30 [vv 0 (.agg [(.str s_14),(.vs 3 false l_15),(.vs 6 false l_17),(i6 x_19)])]) = some o := stR C 5 (fun _ _ => by kernel_rfl) ho
theorem p16v0_1 {s_14 : List UInt8} {l_15 l_17 : List AV} {x_19 x_20 x_21 : Int} {c_22 c_23 : Bool} (ho : Tr.val C 16
(.br (decide (x_20 = 1))
(.br (decide (x_21 = 1))
(.br (!c_23)
(rt (i6 1))
(.br (decide (1 ≤ x_20))
(.br (!c_22)
(rt (i6 2))
(rt (i6 0)))
(rt (i6 0))))
(.br (decide (1 ≤ x_20))
(.br (!c_22)
(rt (i6 2))
(rt (i6 0)))
(rt (i6 0))))
(.br (decide (1 ≤ x_20))
(.br (!c_22)
(rt (i6 2))
(rt (i6 0)))
(rt (i6 0)))) = some o) : ML C 16 [0,5,0,0] 3 (mkS 30 [(1,.lp 1 0),(4,.lp 1 2),vv 5 (.vs 6 false l_17),vv 6 (.agg [(i6 x_20),(i6 x_21),(.bool c_22),(.bool c_23)])] [(1,⟨[(.str s_14),(.vs 3 false l_15),(.vs 6 false l_17),(i6 x_19)],[]⟩)] Hp.none 0) = some o := stM C 12 (fun _ _ => by kernel_rfl) ho
theorem p16v1_c (hC : Ext C) {s_14 : List UInt8} {l_15 l_18 : List AV} {x_19 : Int} (ho : RL C 16 [] (mk0 30 [vv 0 (.agg [(.str s_14),(.vs 3 false l_15),(.vs 6 true l_18),(i6 x_19)])]) = some o) : calL C 16 [(.agg [(.str s_14),(.vs 3 false l_15),(.vs 6 true l_18),(i6 x_19)])] Hp.none 0 = some o := hC.call rfl (fun _ _ => by kernel_rfl) ho
theorem p16v1_0 {s_14 : List UInt8} {l_15 l_18 : List AV} {x_19 : Int} (ho : Tr.val C 16
(cl0 35 [(.vs 6 true l_18)] fun r1 => .br (AV.pure r1.v)
(.mid 0 [0,5,0,0] 3 (mkS 30 [(1,.lp 1 0),(4,.lp 1 2),(5,.val (.vs 6 true l_18) (.lL 1 2)),vv 6 r1.v] [(1,⟨[(.str s_14),(.vs 3 false l_15),(.vs 6 true l_18),(i6 x_19)],[2]⟩)] Hp.none 0)) .none) = some o) : RL C 16 [] (mk0 30 [vv 0 (.agg [(.str s_14),(.vs 3 false l_15),(.vs 6 true l_18),(i6 x_19)])]) = some o := stR C 5 (fun _ _ => by kernel_rfl) ho
theorem p16v1_1 {s_14 : List UInt8} {l_15 l_18 : List AV} {x_19 x_24 x_25 : Int} {c_26 c_27 : Bool} (ho : Tr.val C 16
(.br (decide (x_24 = 1))
(.br (decide (x_25 = 1))
(.br (!c_27)
(rt (i6 1))
(.br (decide (1 ≤ x_24))
(.br (!c_26)
(rt (i6 2))
(rt (i6 0)))
(rt (i6 0))))
(.br (decide (1 ≤ x_24))
(.br (!c_26)
(rt (i6 2))
(rt (i6 0)))
(rt (i6 0))))
(.br (decide (1 ≤ x_24))
(.br (!c_26)
(rt (i6 2))
(rt (i6 0)))
(rt (i6 0)))) = some o) : ML C 16 [0,5,0,0] 3 (mkS 30 [(1,.lp 1 0),(4,.lp 1 2),(5,.val (.vs 6 true l_18) (.lL 1 2)),vv 6 (.agg [(i6 x_24),(i6 x_25),(.bool c_26),(.bool c_27)])] [(1,⟨[(.str s_14),(.vs 3 false l_15),(.vs 6 true l_18),(i6 x_19)],[2]⟩)] Hp.none 0) = some o := stM C 12 (fun _ _ => by kernel_rfl) ho
theorem p16v2_c (hC : Ext C) {s_14 : List UInt8} {l_16 l_17 : List AV} {x_19 : Int} (ho : RL C 16 [] (mk0 30 [vv 0 (.agg [(.str s_14),(.vs 3 true l_16),(.vs 6 false l_17),(i6 x_19)])]) = some o) : calL C 16 [(.agg [(.str s_14),(.vs 3 true l_16),(.vs 6 false l_17),(i6 x_19)])] Hp.none 0 = some o := hC.call rfl (fun _ _ => by kernel_rfl) ho
theorem p16v2_0 {s_14 : List UInt8} {l_16 l_17 : List AV} {x_19 : Int} (ho : Tr.val C 16
(cl0 35 [(.vs 6 false l_17)] fun r1 => .br (AV.pure r1.v)
(.mid 0 [0,5,0,0] 3 (mkS 30 [(1,.lp 1 0),(4,.lp 1 2),vv 5 (.vs 6 false l_17),vv 6 r1.v] [(1,⟨[(.str s_14),(.vs 3 true l_16),(.vs 6 false l_17),(i6 x_19)],[1]⟩)] Hp.none 0)) .none) = some o) : RL C 16 [] (mk0 30 [vv 0 (.agg [(.str s_14),(.vs 3 true l_16),(.vs 6 false l_17),(i6 x_19)])]) = some o := stR C 5 (fun _ _ => by kernel_rfl) ho
theorem p16v2_1 {s_14 : List UInt8} {l_16 l_17 : List AV} {x_19 x_28 x_29 : Int} {c_30 c_31 : Bool} (ho : Tr.val C 16
(.br (decide (x_28 = 1))
(.br (decide (x_29 = 1))
(.br (!c_31)
(rt (i6 1))
(.br (decide (1 ≤ x_28))
(.br (!c_30)
(rt (i6 2))
(rt (i6 0)))
(rt (i6 0))))
(.br (decide (1 ≤ x_28))
(.br (!c_30)
(rt (i6 2))
(rt (i6 0)))
(rt (i6 0))))
(.br (decide (1 ≤ x_28))
(.br (!c_30)
(rt (i6 2))
(rt (i6 0)))
(rt (i6 0)))) = some o) : ML C 16 [0,5,0,0] 3 (mkS 30 [(1,.lp 1 0),(4,.lp 1 2),vv 5 (.vs 6 false l_17),vv 6 (.agg [(i6 x_28),(i6 x_29),(.bool c_30),(.bool c_31)])] [(1,⟨[(.str s_14),(.vs 3 true l_16),(.vs 6 false l_17),(i6 x_19)],[1]⟩)] Hp.none 0) = some o := stM C 12 (fun _ _ => by kernel_rfl) ho
theorem p16v3_c (hC : Ext C) {s_14 : List UInt8} {l_16 l_18 : List AV} {x_19 : Int} (ho : RL C 16 [] (mk0 30 [vv 0 (.agg [(.str s_14),(.vs 3 true l_16),(.vs 6 true l_18),(i6 x_19)])]) = some o) : calL C 16 [(.agg [(.str s_14),(.vs 3 true l_16),(.vs 6 true l_18),(i6 x_19)])] Hp.none 0 = some o := hC.call rfl (fun _ _ => by kernel_rfl) ho
theorem p16v3_0 {s_14 : List UInt8} {l_16 l_18 : List AV} {x_19 : Int} (ho : Tr.val C 16
(cl0 35 [(.vs 6 true l_18)] fun r1 => .br (AV.pure r1.v)
(.mid 0 [0,5,0,0] 3 (mkS 30 [(1,.lp 1 0),(4,.lp 1 2),(5,.val (.vs 6 true l_18) (.lL 1 2)),vv 6 r1.v] [(1,⟨[(.str s_14),(.vs 3 true l_16),(.vs 6 true l_18),(i6 x_19)],[1,2]⟩)] Hp.none 0)) .none) = some o) : RL C 16 [] (mk0 30 [vv 0 (.agg [(.str s_14),(.vs 3 true l_16),(.vs 6 true l_18),(i6 x_19)])]) = some o := stR C 5 (fun _ _ => by kernel_rfl) ho
theorem p16v3_1 {s_14 : List UInt8} {l_16 l_18 : List AV} {x_19 x_32 x_33 : Int} {c_34 c_35 : Bool} (ho : Tr.val C 16
(.br (decide (x_32 = 1))
(.br (decide (x_33 = 1))
(.br (!c_35)
(rt (i6 1))
(.br (decide (1 ≤ x_32))
(.br (!c_34)
(rt (i6 2))
(rt (i6 0)))
(rt (i6 0))))
(.br (decide (1 ≤ x_32))
(.br (!c_34)
(rt (i6 2))
(rt (i6 0)))
(rt (i6 0))))
(.br (decide (1 ≤ x_32))
(.br (!c_34)
(rt (i6 2))
(rt (i6 0)))
(rt (i6 0)))) = some o) : ML C 16 [0,5,0,0] 3 (mkS 30 [(1,.lp 1 0),(4,.lp 1 2),(5,.val (.vs 6 true l_18) (.lL 1 2)),vv 6 (.agg [(i6 x_32),(i6 x_33),(.bool c_34),(.bool c_35)])] [(1,⟨[(.str s_14),(.vs 3 true l_16),(.vs 6 true l_18),(i6 x_19)],[1,2]⟩)] Hp.none 0) = some o := stM C 12 (fun _ _ => by kernel_rfl) ho






end Go.Proofs.YtfdklpkfpmkgeaaGreatDoor
end
section
namespace Go.Proofs.YtfdklpkfpmkgeaaGreatDoor
open Go Go.Vai
attribute [local irreducible] goTo zaq mkS
def Cn.av (c : Cn) : AV := .agg [.int .i64 c.least,.int .i64 c.most,.bool c.w,.bool c.o]
theorem Was.to {x : Option Out} {A B : AV} (h : Was x (fun o=>o.v = A)) (e : A = B) : Was x (fun o=>o.v = B) := e ▸ h
theorem agg4 {a a' b b' : Int} {c c' d d' : Bool} (h1 : a = a') (h2 : b = b') (h3 : c = c') (h4 : d = d') : AV.agg [.int .i64 a,.int .i64 b,.bool c,.bool d] = .agg [.int .i64 a',.int .i64 b',.bool c',.bool d'] := by subst h1 h2 h3 h4; rfl
def XB (X : List (Nat × Blk)) : Prop := X = [] ∨ (∃ a b c d e f g h i,X = [(5,⟨[.int .i64 a,.str b,.vs 5 c d,.vs 6 e f,.vs 6 g h,.int .i64 i],[]⟩)]) ∨
 ∃ a b c d e f g h i j k l m n o p q,X = [(5,⟨[.int .i64 a,.str b,.vs 5 c d,.vs 6 e f,.vs 6 g h,.int .i64 i],[]⟩),(6,⟨[.int .i64 j,.int .i64 k,.bool l,.bool m],[]⟩),(7,⟨[.int .i64 n,.int .i64 o,.bool p,.bool q],[]⟩)]
theorem XB.one (a : Int) (b : List UInt8) (c : Bool) (d : List AV) (e : Bool) (f : List AV) (g : Bool) (h : List AV) (i : Int) : XB [(5,⟨[.int .i64 a,.str b,.vs 5 c d,.vs 6 e f,.vs 6 g h,.int .i64 i],[]⟩)] := .inr (.inl ⟨a,b,c,d,e,f,g,h,i,rfl⟩)
theorem XB.three (a : Int) (b : List UInt8) (c : Bool) (d : List AV) (e : Bool) (f : List AV) (g : Bool) (h : List AV) (i j k : Int) (l m : Bool) (n o : Int) (p q : Bool) : XB [(5,⟨[.int .i64 a,.str b,.vs 5 c d,.vs 6 e f,.vs 6 g h,.int .i64 i],[]⟩),(6,⟨[.int .i64 j,.int .i64 k,.bool l,.bool m],[]⟩),(7,⟨[.int .i64 n,.int .i64 o,.bool p,.bool q],[]⟩)] := .inr (.inr ⟨a,b,c,d,e,f,g,h,i,j,k,l,m,n,o,p,q,rfl⟩)
variable {C : Nat→Oracle} (hC : Ext C)
set_option maxHeartbeats 4000000 in
theorem cnt_loop (tg : Bool) (L : List Stm) (hL : L.length ≤ 10000) (ih : ∀ l tg,szL l < szL L→Was (calL C 35 [.vs 6 tg (stms l)] Hp.none 0) (fun o=>o.v = (cnL l).av)) (a1 a2 : Int) (a3 a4 : Bool) :
  ∀ (r : List Stm) (i : Nat) (x y : Int) (w u : Bool) (X : List (Nat × Blk)),L.drop i = r→i ≤ L.length→0 ≤ x→x ≤ y→y + szL r ≤ 10000→XB X →
  Was (RL C 35 [0,5,0,5,0,0,5,2,3] (mkS 89 [(2,.lp 2 0),(3,.lp 3 0),(8,.val (.vs 6 tg (stms L)) .no),(9,.val (.int .i64 (L.length : Int)) .no),(10,.val (.int .i64 (i : Int)) .no)] ([(2,⟨[(.int .i64 a1),(.int .i64 a2),(.bool a3),(.bool a4)],[]⟩),(3,⟨[(.int .i64 x),(.int .i64 y),(.bool w),(.bool u)],[]⟩)] ++ X) Hp.none 0))
   (fun o=>o.v = .agg [.int .i64 (x + (cnL r).least),.int .i64 (y + (cnL r).most),.bool (w || (cnL r).w),.bool (u || (cnL r).o)]):=by
 intro r
 have hlen : (stms L).length = L.length := by rw [ze1,List.length_map]
 induction r with
 | nil =>
  intro i x y w u X hi hil h0 h1 h2 hX
  have := zaj _ _ hil hi
  rw [cnL]
  simp only [Int.add_zero,Bool.or_false]
  rcases hX with rfl | ⟨a,b,c,d,e,f,g,h,i',rfl⟩ | ⟨a,b,c,d,e,f,g,h,i',j,k,l,m,n,o,p,q,rfl⟩
  all_goals
   simp only [List.append_nil,List.cons_append,List.nil_append]
   first | refine exW (fun o=>p35_1) ?_ | refine exW (fun o=>p35_3) ?_ | refine exW (fun o=>p35_7) ?_
   exact .bF (by omega) (.mk rfl)
 | cons s r IH =>
  intro i x y w u X hi hil h0 h1 h2 hX
  obtain ⟨g1,g2,g3⟩ := zau _ _ hi
  obtain ⟨k,nm,v,t1,th,t2,el,at'⟩ := s
  have hsz : szL (Stm.mk k nm v t1 th t2 el at' :: r) = 1 + szL th + szL el + szL r := by rw [szL,Stm.sz]
  have hszL : szL L = szL (L.take i) + szL (Stm.mk k nm v t1 th t2 el at' :: r) := by rw [← hi,← zkg,List.take_append_drop]
  have ihT : ∀ tg,szL th < szL L→Was (calL C 35 [.vs 6 tg (stms th)] Hp.none 0) (fun o=>o.v = .agg [.int .i64 (cnL th).least,.int .i64 (cnL th).most,.bool (cnL th).w,.bool (cnL th).o]) := fun tg h=>ih th tg h
  have ihE : ∀ tg,szL el < szL L→Was (calL C 35 [.vs 6 tg (stms el)] Hp.none 0) (fun o=>o.v = .agg [.int .i64 (cnL el).least,.int .i64 (cnL el).most,.bool (cnL el).w,.bool (cnL el).o]) := fun tg h=>ih el tg h
  have hn : nth (stms L) (Int.toNat (i : Int)) = some (Stm.mk k nm v t1 th t2 el at').av := by rw [Int.toNat_natCast,zcc,ze1,List.getElem?_map,g1]; rfl
  obtain ⟨bl,bm,bn⟩ := And.intro (zcg th).l0 (And.intro (zcg th).lm (zcg th).mn)
  obtain ⟨bl',bm',bn'⟩ := And.intro (zcg el).l0 (And.intro (zcg el).lm (zcg el).mn)
  have hc : cnL (Stm.mk k nm v t1 th t2 el at' :: r) = ⟨(Stm.mk k nm v t1 th t2 el at').cn.least + (cnL r).least,(Stm.mk k nm v t1 th t2 el at').cn.most + (cnL r).most,(Stm.mk k nm v t1 th t2 el at').cn.w || (cnL r).w,(Stm.mk k nm v t1 th t2 el at').cn.o || (cnL r).o⟩ := by rw [cnL]
  have wi : w64 ((i : Int) + 1) = ((i + 1 : Nat) : Int) := by rw [zb9 (by omega) (by omega)]; omega
  rw [hc]
  by_cases k6 : k = 6
  ·have hcn : (Stm.mk k nm v t1 th t2 el at').cn = ⟨if (cnL el).least < (cnL th).least then (cnL el).least else (cnL th).least,if (cnL th).most < (cnL el).most then (cnL el).most else (cnL th).most,(cnL th).w || (cnL el).w,(cnL th).o || (cnL el).o⟩ := by rw [Stm.cn,if_pos k6]
   rw [hcn]
   generalize hm1 : (if (cnL el).least < (cnL th).least then (cnL el).least else (cnL th).least) = m1
   generalize hm2 : (if (cnL th).most < (cnL el).most then (cnL el).most else (cnL th).most) = m2
   have b1 : 0 ≤ m1∧m1 ≤ m2∧m2 ≤ szL th + szL el := by rw [← hm1,← hm2]; split <;> split <;> omega
   have wx : w64 (x + m1) = x + m1 := zb9 (by omega) (by omega)
   have wy : w64 (y + m2) = y + m2 := zb9 (by omega) (by omega)
   have go := fun w' u' X' hX'=>IH (i + 1) (x + m1) (y + m2) w' u' X' g2 (by omega) (by omega) (by omega) (by omega) hX'
   rcases hX with rfl | ⟨a,b,c,d,e,f,g,h,i',rfl⟩ | ⟨a,b,c,d,e,f,g,h,i',j,k',l,m,n,o,p,q,rfl⟩
   all_goals
    simp only [List.append_nil,List.cons_append,List.nil_append] at go ⊢
    first | refine exW (fun o=>p35_1) ?_ | refine exW (fun o=>p35_3) ?_ | refine exW (fun o=>p35_7) ?_
    simp only [Tr.val,hlen,hn,Option.bind_some,zhq,AV.cells]
    refine .bT (by omega) (.bT (by omega) (.bT (by omega) ?_))
    first | refine exW (fun o=>p35_2) ?_ | refine exW (fun o=>p35_5) ?_ | refine exW (fun o=>p35_8) ?_ | refine exW (fun o=>p35_9) ?_
    simp only [Tr.val,k6,decide_true,Bool.not_true,zam,zab,AV.pure,za3,za0]
    refine .call (ihT _ (by omega)) ?_
    rintro o e
    simp only [e,AV.pure,zab,za0]
    clear e
    first | refine exW (fun o=>p35_4) ?_ | refine exW (fun o=>p35_8) ?_ | refine exW (fun o=>p35_9) ?_ | refine exW (fun o=>p35_10) ?_
    simp only [Tr.val,zab,AV.pure,za3,za0]
    refine .call (ihE _ (by omega)) ?_
    rintro o e
    simp only [e,AV.pure,zab,za0]
    clear e
    first | refine exW (fun o=>p35_6) ?_ | refine exW (fun o=>p35_8) ?_ | refine exW (fun o=>p35_9) ?_ | refine exW (fun o=>p35_10) ?_
    simp only [Tr.val,hm1,hm2,wx,wy,wi]
    repeat' (refine .both (fun h=>?_) (fun h=>?_))
    all_goals exact Was.to (go _ _ _ (XB.three _ _ _ _ _ _ _ _ _ _ _ _ _ _ _ _ _)) (agg4 (by omega) (by omega) (by simp [*]) (by simp [*]))
  ·have hcn : (Stm.mk k nm v t1 th t2 el at').cn = ⟨1,1,decide (k = 1),!decide (k = 1)⟩ := by rw [Stm.cn,if_neg k6]
   rw [hcn]
   have wx : w64 (x + 1) = x + 1 := zb9 (by omega) (by omega)
   have wy : w64 (y + 1) = y + 1 := zb9 (by omega) (by omega)
   have go := fun w' u' X' hX'=>IH (i + 1) (x + 1) (y + 1) w' u' X' g2 (by omega) (by omega) (by omega) (by omega) hX'
   rcases hX with rfl | ⟨a,b,c,d,e,f,g,h,i',rfl⟩ | ⟨a,b,c,d,e,f,g,h,i',j,k',l,m,n,o,p,q,rfl⟩
   all_goals
    simp only [List.append_nil,List.cons_append,List.nil_append] at go ⊢
    first | refine exW (fun o=>p35_1) ?_ | refine exW (fun o=>p35_3) ?_ | refine exW (fun o=>p35_7) ?_
    simp only [Tr.val,hlen,hn,Option.bind_some,zhq,AV.cells]
    refine .bT (by omega) (.bT (by omega) (.bT (by omega) ?_))
    first | refine exW (fun o=>p35_2) ?_ | refine exW (fun o=>p35_5) ?_ | refine exW (fun o=>p35_8) ?_ | refine exW (fun o=>p35_9) ?_
    simp only [Tr.val,k6,decide_false,Bool.not_false,za0,wx,wy,wi]
    repeat' (refine .both (fun h=>?_) (fun h=>?_))
    all_goals first
     | exact Was.to (go _ _ _ (XB.one _ _ _ _ _ _ _ _ _)) (agg4 (by omega) (by omega) (by simp [*]) (by simp [*]))
     | exact Was.to (go _ _ _ (XB.three _ _ _ _ _ _ _ _ _ _ _ _ _ _ _ _ _)) (agg4 (by omega) (by omega) (by simp [*]) (by simp [*]))
end Go.Proofs.YtfdklpkfpmkgeaaGreatDoor
end
section
namespace Go.Proofs.YtfdklpkfpmkgeaaGreatDoor
open Go Go.Vai
attribute [local irreducible] goTo zaq mkS
theorem len_sz : ∀ l : List Stm,l.length ≤ szL l
 | []=>Nat.zero_le _
 | .mk k s v t1 th t2 el a :: l=>by
  have := len_sz l
  rw [szL,Stm.sz,List.length_cons]
  omega
variable {C : Nat→Oracle} (hC : Ext C)
include hC
theorem w35 : ∀ (N : Nat) (l : List Stm) (tg : Bool),szL l = N→N ≤ 9000→Was (calL C 35 [.vs 6 tg (stms l)] Hp.none 0) (fun o=>o.v = (cnL l).av):=by
 intro N
 induction N using Nat.strongRecOn with
 | _ N ih =>
 intro l tg hl hN
 have hlen : (stms l).length = l.length := by rw [ze1,List.length_map]
 have := len_sz l
 refine exW (fun o=>p35_c hC) (exW (fun o=>p35_0) ?_)
 have := cnt_loop tg l (by omega) (fun l' tg' h=>ih (szL l') (by omega) l' tg' rfl (by omega)) 0 0 false false l 0 0 0 false false [] rfl (Nat.zero_le _) (by decide) (by decide) (by omega) (.inl rfl)
 simp only [List.append_nil] at this
 simp only [Tr.val,hlen]
 refine this.to ?_
 exact agg4 (by omega) (by omega) (by simp) (by simp)
theorem w16 (o : Opn) (h : szL o.body ≤ 9000) : Was (calL C 16 [o.av] Hp.none 0) (fun q=>q.v = .int .i64 (clsC (cnL o.body))):=by
 obtain ⟨nm,t1,ps,t2,b,a⟩ := o
 simp only [Opn.av] at h ⊢
 have hc := w35 hC _ b t2 rfl h
 unfold Cn.av at hc
 generalize cnL b = c at hc ⊢
 obtain ⟨l,m,w,u⟩ := c
 cases t1 <;> cases t2
 all_goals
  first | refine exW (fun o=>p16v0_c hC) (exW (fun o=>p16v0_0) ?_) | refine exW (fun o=>p16v1_c hC) (exW (fun o=>p16v1_0) ?_) | refine exW (fun o=>p16v2_c hC) (exW (fun o=>p16v2_0) ?_) | refine exW (fun o=>p16v3_c hC) (exW (fun o=>p16v3_0) ?_)
  simp only [Tr.val,zab,AV.pure,za3,za0]
  refine .call hc ?_
  rintro q e
  simp only [e,AV.pure,zab,za0]
  first | refine exW (fun o=>p16v0_1) ?_ | refine exW (fun o=>p16v1_1) ?_ | refine exW (fun o=>p16v2_1) ?_ | refine exW (fun o=>p16v3_1) ?_
  simp only [Tr.val,clsC]
  by_cases h1 : l = 1 <;> by_cases h2 : m = 1 <;> by_cases h3 : 1 ≤ l <;> cases w <;> cases u <;> simp only [h1,h2,h3,decide_true,decide_false,za0,zam,Bool.not_true,Bool.not_false,and_true,true_and,if_true,if_false,and_false,false_and,Bool.true_eq_false,Bool.false_eq_true] <;> first | exact .mk rfl | (exact absurd (by omega) h3) | skip
  all_goals exact .mk (by simp)
end Go.Proofs.YtfdklpkfpmkgeaaGreatDoor
end
section
namespace Go.Proofs.YtfdklpkfpmkgeaaGreatDoor
open Go Go.Vai
attribute [local irreducible] goTo zaq mkS
set_option maxHeartbeats 40000000
def nmO (o : Opn) : Nm := ⟨o.name,o.at_⟩
def scO (t : Typ) (o : Opn) : Sc := { t := t,tg := o.tgP,ps := o.params,q := false }
def opnD (t : Typ) (o : Opn) : List Dg := dupD [] (o.params.map nmP) ++ zcw (scO t o) o.body ++ (if clsC (cnL o.body) = 0 then [⟨o.at_,2⟩] else []) ++ (if 4 < (cnL o.body).most then [⟨o.at_,3⟩] else [])
def zms (t : Typ) : List Opn→List Dg
 | []=>[]
 | o :: r=>opnD t o ++ zms t r
def opnW (t : Typ) : List Opn→Nat
 | []=>0
 | o :: r=>o.params.length + wtL (scO t o) o.body + 3 + opnW t r
structure WfO (o : Opn) : Prop where
 wf : WfSL o.body
 bl : o.body.length ≤ 400000
 sz : szL o.body ≤ 9000
 pl : o.params.length ≤ 400000
variable {C : Nat→Oracle} (hC : Ext C)
include hC
theorem w48_opn (t : Typ) (hF : t.fields.length ≤ 1000000) (hI : t.idxs.length ≤ 400000) (T : Hp) (nx : Nat) (tL : Bool) (L : List Opn) (hL : L.length ≤ 400000) {Q : Out→Prop} : ∀ (r : List Opn) (i : Nat) (tg : Bool) (l : List Dg) (ct : Bool) (cs : List Nm),L.drop i = r→i ≤ L.length→(∀ y ∈ r,WfO y)→cs.length + r.length ≤ 400000→l.length + opnW t r + cs.length ≤ 1000000 →
  (∀ tg' ct',Was (RL C 48 [0,5,0,5,0,5,0,0,5,2,3] (mkS 144 [(0,.val (.ptr 0 0) .no),(3,.lp 3 0),(4,.val (.vs 2 ct' ((cs ++ r.map nmO).map Nm.av)) .own),(20,.val (.vs 4 tL (List.map Opn.av L)) .no),(21,.val (.int .i64 (L.length : Int)) .no),(22,.val (.int .i64 (L.length : Int)) .no)] [(3,⟨(Typ.cs t),[]⟩)] (hD tg' (l ++ zms t r) T) nx)) Q) →
  Was (RL C 48 [0,5,0,5,0,5,0,0,5,2,3] (mkS 144 [(0,.val (.ptr 0 0) .no),(3,.lp 3 0),(4,.val (.vs 2 ct (cs.map Nm.av)) .own),(20,.val (.vs 4 tL (List.map Opn.av L)) .no),(21,.val (.int .i64 (L.length : Int)) .no),(22,.val (.int .i64 (i : Int)) .no)] [(3,⟨(Typ.cs t),[]⟩)] (hD tg l T) nx)) Q:=by
 intro r
 induction r with
 | nil =>
  intro i tg l ct cs hi hil hr hc hb K
  have := zaj _ _ hil hi
  have h := K tg ct
  rw [List.map_nil,List.append_nil,zms,List.append_nil] at h
  rw [show i = L.length by omega]
  exact h
 | cons y r ih =>
  intro i tg l ct cs hi hil hr hc hb K
  obtain ⟨h1,h2,h3⟩ := zau _ _ hi
  obtain ⟨y1,y2,y3,y4⟩ := hr y List.mem_cons_self
  rw [List.length_cons] at hc
  rw [opnW] at hb
  have hw := wi64 h3 (by omega)
  have hcs : cs.map Nm.av ++ [.agg [.str y.name,.int .i64 y.at_]] = (cs ++ [nmO y]).map Nm.av := (List.map_append (f := Nm.av) (l₁ := cs) (l₂ := [nmO y])).symm
  have go : ∀ tg' D,D = l ++ opnD t y→Was (RL C 48 [0,5,0,5,0,5,0,0,5,2,3] (mkS 144 [(0,.val (.ptr 0 0) .no),(3,.lp 3 0),(4,.val (.vs 2 false (cs.map Nm.av ++ [.agg [.str y.name,.int .i64 y.at_]])) .own),(20,.val (.vs 4 tL (List.map Opn.av L)) .no),(21,.val (.int .i64 (L.length : Int)) .no),(22,.val (.int .i64 ((i + 1 : Nat) : Int)) .no)] [(3,⟨(Typ.cs t),[]⟩)] (hD tg' D T) nx)) Q:=by
   intro tg' D e
   rw [hcs,e]
   have d1 : (dupD [] (y.params.map nmP)).length ≤ y.params.length:=by
    have := zbu (y.params.map nmP) []
    rwa [List.length_map] at this
   have d2 := zdj (scO t y) y.body
   have d3 := zfw (p := clsC (cnL y.body) = 0) ⟨y.at_,2⟩
   have d4 := zfw (p := 4 < (cnL y.body).most) ⟨y.at_,3⟩
   refine ih (i + 1) tg' _ false (cs ++ [nmO y]) h2 (by omega) (fun z hz=>hr z (List.mem_cons_of_mem _ hz)) (by rw [List.length_append,List.length_cons,List.length_nil]; omega) ?_ (fun a b=>?_)
   ·unfold opnD
    simp only [List.length_append,List.length_cons,List.length_nil]
    omega
   ·have h := K a b
    rw [zms,List.map_cons,← List.append_assoc] at h
    rw [List.append_assoc cs,List.singleton_append]
    exact h
  refine exW (fun o=>p48_2) ?_
  simp only [Tr.val,List.length_map,Int.toNat_natCast,zal,h1,Option.map_some,Option.bind_some,Opn.av_cs,zaf]
  refine .bT (by omega) (.bT (by omega) (.bT (by omega) ?_))
  refine exW (fun o=>p48_3) ?_
  simp only [Tr.val,List.length_map]
  refine .brn (zae (by omega)) (.brn (zae (by omega)) ?_)
  refine .call (w87 hC T nx y.tgP y.params y4 tg l (by omega)) ?_
  rintro o ⟨t1,rfl⟩
  have d1 := zbu (y.params.map fun x=>⟨x.name,x.at_⟩) []
  rw [List.length_map] at d1
  have d2 := zdj (scO t y) y.body
  refine exW (fun o=>p48_5) ?_
  refine .call (w89 hC (scO t y) hF (by show y.params.length ≤ 1000000; omega) T nx y.tgB y.body y2 y1 t1 _ (by rw [List.length_append]; omega)) ?_
  rintro o ⟨t2,rfl⟩
  refine exW (fun o=>p48_8) ?_
  refine .brn (by simp only [AV.pure,zab,za7,za0]) ?_
  refine .call (by have h := w16 hC y y3; rw [Opn.av_cs] at h; exact h) ?_
  rintro o e
  simp only [e,AV.pure,za0]
  refine exW (fun o=>p48_11) ?_
  refine .dec (fun hc0=>?_) (fun hc0=>?_)
  ·refine .call (w84 hC T nx t2 _ (by simp only [List.length_append]; omega) _ _) ?_
   rintro o ⟨t3,rfl⟩
   refine exW (fun o=>p48_14) ?_
   refine .brn (by simp only [AV.pure,zab,za3,za0]) ?_
   refine .call (w35 hC _ y.body y.tgB rfl y3) ?_
   rintro o e
   simp only [e,Cn.av,AV.pure,zab,za0]
   refine exW (fun o=>p48_17) ?_
   refine .dec (fun h4=>?_) (fun h4=>?_)
   ·refine .call (w84 hC T nx t3 _ (by simp only [List.length_append,List.length_cons,List.length_nil]; omega) _ _) ?_
    rintro o ⟨t4,rfl⟩
    refine exW (fun o=>p48_20) ?_
    show Was (RL C 48 _ _) _
    rw [hw]
    exact go t4 _ (by unfold opnD; rw [if_pos hc0,if_pos h4]; simp only [← List.append_assoc]; rfl)
   ·show Was (RL C 48 _ _) _
    rw [hw]
    exact go t3 _ (by unfold opnD; rw [if_pos hc0,if_neg h4,List.append_nil]; simp only [← List.append_assoc]; rfl)
  ·refine .brn (by simp only [AV.pure,zab,za3,za0]) ?_
   refine .call (w35 hC _ y.body y.tgB rfl y3) ?_
   rintro o e
   simp only [e,Cn.av,AV.pure,zab,za0]
   refine exW (fun o=>p48_15) ?_
   refine .dec (fun h4=>?_) (fun h4=>?_)
   ·refine .call (w84 hC T nx t2 _ (by simp only [List.length_append]; omega) _ _) ?_
    rintro o ⟨t4,rfl⟩
    refine exW (fun o=>p48_18) ?_
    show Was (RL C 48 _ _) _
    rw [hw]
    exact go t4 _ (by unfold opnD; rw [if_neg hc0,if_pos h4,List.append_nil]; simp only [← List.append_assoc]; rfl)
   ·show Was (RL C 48 _ _) _
    rw [hw]
    exact go t2 _ (by unfold opnD; rw [if_neg hc0,if_neg h4,List.append_nil,List.append_nil]; simp only [← List.append_assoc]; rfl)
end Go.Proofs.YtfdklpkfpmkgeaaGreatDoor
end
section
namespace Go.Proofs.YtfdklpkfpmkgeaaGreatDoor
open Go Go.Vai
attribute [local irreducible] goTo zaq mkS
set_option maxHeartbeats 40000000
def nmF (f : Fld) : Nm := ⟨f.name,f.at_⟩
def typD (t : Typ) : List Dg := dupD [] (t.fields.map nmF) ++ zms t t.ops ++ znt t t.qrys ++ dupD [] (t.ops.map nmO ++ t.qrys.map nmY) ++ dupD [] (t.idxs.map nmX) ++ zlv t t.idxs
def typW (t : Typ) : Nat := t.fields.length + opnW t t.ops + qryW t t.qrys + t.ops.length + t.qrys.length + 2 * t.idxs.length
structure WfT (t : Typ) : Prop where
 fl : t.fields.length ≤ 400000
 il : t.idxs.length ≤ 400000
 ol : t.ops.length + t.qrys.length ≤ 400000
 ops : ∀ o ∈ t.ops,WfO o
 qrys : ∀ y ∈ t.qrys,WfY y
theorem zjl (t : Typ) : ∀ r : List Opn,(zms t r).length ≤ opnW t r
 | []=>Nat.le_refl _
 | y :: r=>by
  have h := zjl t r
  have d1 : (dupD [] (y.params.map nmP)).length ≤ y.params.length:=by
   have := zbu (y.params.map nmP) []
   rwa [List.length_map] at this
  have d2 := zdj (scO t y) y.body
  have d3 := zfw (p := clsC (cnL y.body) = 0) ⟨y.at_,2⟩
  have d4 := zfw (p := 4 < (cnL y.body).most) ⟨y.at_,3⟩
  rw [zms,opnW]
  unfold opnD
  simp only [List.length_append]
  omega
variable {C : Nat→Oracle} (hC : Ext C)
include hC
theorem w48 (t : Typ) (ht : WfT t) (T : Hp) (nx : Nat) (tg : Bool) (l : List Dg) (hb : l.length + typW t ≤ 1000000) : Was (calL C 48 [.ptr 0 0,.agg t.cs] (hD tg l T) nx) (QD (l ++ typD t) T nx):=by
 obtain ⟨fl,il,ol,hO,hQ⟩ := ht
 unfold typW at hb
 refine exW (fun o=>p48_c hC) (exW (fun o=>p48_0) ?_)
 refine .call (w85 hC T nx t.tgF t.fields fl tg l (by omega)) ?_
 rintro o ⟨t1,rfl⟩
 have d1 := zbu (t.fields.map fun x=>⟨x.name,x.at_⟩) []
 rw [List.length_map] at d1
 have d2 := zjl t t.ops
 refine exW (fun o=>p48_1) ?_
 simp only [Tr.val,List.length_map]
 refine w48_opn hC t (by omega) il T nx t.tgO t.ops (by omega) t.ops 0 t1 _ true [] rfl (Nat.zero_le _) hO (by simp only [List.length_nil]; omega) (by rw [List.length_append]; simp only [List.length_nil]; omega) ?_
 intro t2 ct
 refine exW (fun o=>p48_2) ?_
 refine .bF (by omega) ?_
 simp only [Tr.val,List.length_map]
 have h := w48_qry hC t (by omega) il T nx t.tgQ t.qrys (by omega) t.qrys 0 t2 (l ++ dupD [] (t.fields.map fun x=>⟨x.name,x.at_⟩) ++ zms t t.ops) ct (t.ops.map nmO) rfl (Nat.zero_le _) hQ (by rw [List.length_map]; omega) (by simp only [List.length_append,List.length_map]; omega)
 unfold typD
 simp only [← List.append_assoc]
 exact h
end Go.Proofs.YtfdklpkfpmkgeaaGreatDoor
end
section
namespace Go.Proofs.YtfdklpkfpmkgeaaGreatDoor
open Go Go.Vai
attribute [local irreducible] goTo zaq mkS
variable {C : Nat → Oracle} {o : Out}
abbrev qT0 : List Nat := [0,5,0,5,0,5,0,0,5,2,3,0,5,0,7,5,5,5,5,0,5,0]
theorem p21_c (hC : Ext C) {tg_1 : Bool} {l_2 : List Typ} (ho : RL C 21 [] (mk0 33 [vv 0 (.agg [(.vs 6 tg_1 (l_2.map Typ.av))])]) = some o) : calL C 21 [(.agg [(.vs 6 tg_1 (l_2.map Typ.av))])] Hp.none 0 = some o := hC.call rfl (fun _ _ => by kernel_rfl) ho
theorem p21_0 {tg_1 : Bool} {l_2 : List Typ} (ho : Tr.val C 21
(.call 46 [(.ptr 0 0),(.vs 6 tg_1 (l_2.map Typ.av)),(.func 47 [])] ((0,⟨[(.vs 2 true [])],[0]⟩) :: Hp.none) 1 fun r1 =>
(.mid 0 [0,5,0,5,0] 4 (mkS 33 [(1,.lp 1 0),vv 3 (.ptr 0 0),vv 8 (.ptr 0 0),(9,.lp 1 0),vv 10 (.vs 6 tg_1 (l_2.map Typ.av)),vv 11 r1.v] [(1,⟨[(.vs 6 tg_1 (l_2.map Typ.av))],[]⟩)] r1.H r1.nx))) = some o) : RL C 21 [] (mk0 33 [vv 0 (.agg [(.vs 6 tg_1 (l_2.map Typ.av))])]) = some o := stR C 6 (fun _ _ => by kernel_rfl) ho
theorem p21_1 {tg_1 tg_3 : Bool} {l_2 : List Typ} {l_4 : List AV} (ho : Tr.val C 21
(.run 0 [0,5,0,5,0,5,0,0,5,2,3] (mkS 33 [vv 3 (.ptr 0 0),vv 13 (.vs 6 tg_1 (l_2.map Typ.av)),vi 14 ((l_2.map Typ.av).length : Int),vi 15 0] [] ((0,⟨[(.vs 2 tg_3 l_4)],[0]⟩) :: Hp.none) 1)) = some o) : ML C 21 [0,5,0,5,0] 4 (mkS 33 [(1,.lp 1 0),vv 3 (.ptr 0 0),vv 8 (.ptr 0 0),(9,.lp 1 0),vv 10 (.vs 6 tg_1 (l_2.map Typ.av)),vv 11 (.tuple [])] [(1,⟨[(.vs 6 tg_1 (l_2.map Typ.av))],[]⟩)] ((0,⟨[(.vs 2 tg_3 l_4)],[0]⟩) :: Hp.none) 1) = some o := stM C 5 (fun _ _ => by kernel_rfl) ho
theorem p21_2 {tg_5 tg_9 : Bool} {l_6 : List Typ} {x_7 x_8 : Int} {l_10 : List AV} (ho : Tr.val C 21
(.br (decide (x_8 < x_7))
(ix (l_6.map Typ.av) x_8 fun c2 =>
(.mid 0 [0,5,0,5,0,5,0,0,5,2,3,0,5,0,6,5,0,2,0] 1 (mkS 33 [vv 3 (.ptr 0 0),vv 13 (.vs 6 tg_5 (l_6.map Typ.av)),vi 14 x_7,vi 15 x_8,vb 16 true,vv 17 (.cptr (AV.cells c2))] [] ((0,⟨[(.vs 2 tg_9 l_10)],[0]⟩) :: Hp.none) 1)))
(.call 49 [(.vs 2 tg_9 l_10),(.func 50 [])] ((0,⟨[(.vs 2 tg_9 l_10)],[0]⟩) :: Hp.none) 1 fun r3 =>
(.mid 2 [0,5,0,5,0,5,0,0,5,2,3,0,5,0,7,5,5,5,5,0] 5 (mkS 33 [vv 3 (.ptr 0 0),vv 13 (.vs 6 tg_5 (l_6.map Typ.av)),vi 14 x_7,vi 15 x_8,vb 16 false,vv 23 (.ptr 0 0),vv 24 (.ptr 0 0),vv 25 (.ptr 0 0),vv 26 (.vs 2 tg_9 l_10),vv 27 r3.v] [] r3.H r3.nx)))) = some o) : RL C 21 [0,5,0,5,0,5,0,0,5,2,3] (mkS 33 [vv 3 (.ptr 0 0),vv 13 (.vs 6 tg_5 (l_6.map Typ.av)),vi 14 x_7,vi 15 x_8] [] ((0,⟨[(.vs 2 tg_9 l_10)],[0]⟩) :: Hp.none) 1) = some o := stR C 9 (fun _ _ => by kernel_rfl) ho
theorem p21_3 {tg_5 tg_9 : Bool} {l_6 : List Typ} {x_7 x_8 : Int} {l_10 : List AV} {t_11 : Typ} (ho : Tr.val C 21
(.call 48 [(.ptr 0 0),(.agg (Typ.cs t_11))] ((0,⟨[(.vs 2 tg_9 l_10)],[0]⟩) :: Hp.none) 1 fun r4 =>
(.mid 0 [0,5,0,5,0,5,0,0,5,2,3,0,5,0,6,5,0,2,0,5] 3 (mkS 33 [vv 3 (.ptr 0 0),(5,.lp 5 0),vv 13 (.vs 6 tg_5 (l_6.map Typ.av)),vi 14 x_7,vi 15 x_8,vv 19 (.ptr 0 0),vv 20 (.agg (Typ.cs t_11)),vv 21 r4.v] [(5,⟨(Typ.cs t_11),[]⟩)] r4.H r4.nx))) = some o) : ML C 21 [0,5,0,5,0,5,0,0,5,2,3,0,5,0,6,5,0,2,0] 1 (mkS 33 [vv 3 (.ptr 0 0),vv 13 (.vs 6 tg_5 (l_6.map Typ.av)),vi 14 x_7,vi 15 x_8,vb 16 true,vv 17 (.cptr (Typ.cs t_11))] [] ((0,⟨[(.vs 2 tg_9 l_10)],[0]⟩) :: Hp.none) 1) = some o := stM C 1 (fun _ _ => by kernel_rfl) ho
theorem p21_4 {tg_5 tg_9 tg_12 : Bool} {l_6 : List Typ} {x_7 x_8 : Int} {l_10 l_13 : List AV} (ho : Tr.val C 21
(.call 51 [(.vs 2 tg_12 l_13)] ((0,⟨[(.vs 2 tg_12 l_13)],[0]⟩) :: Hp.none) 1 fun r5 =>
(.mid 0 qT0 5 (mkS 33 [vv 3 (.ptr 0 0),vv 28 (.ptr 0 0),vv 29 (.ptr 0 0),vv 30 (.ptr 0 0),vv 31 (.vs 2 tg_12 l_13),vv 32 r5.v] [] r5.H r5.nx))) = some o) : ML C 21 [0,5,0,5,0,5,0,0,5,2,3,0,5,0,7,5,5,5,5,0] 5 (mkS 33 [vv 3 (.ptr 0 0),vv 13 (.vs 6 tg_5 (l_6.map Typ.av)),vi 14 x_7,vi 15 x_8,vb 16 false,vv 23 (.ptr 0 0),vv 24 (.ptr 0 0),vv 25 (.ptr 0 0),vv 26 (.vs 2 tg_9 l_10),vv 27 (.tuple [])] [] ((0,⟨[(.vs 2 tg_12 l_13)],[0]⟩) :: Hp.none) 1) = some o := stM C 2 (fun _ _ => by kernel_rfl) ho
theorem p21_5 {tg_5 tg_14 : Bool} {l_6 : List Typ} {x_7 x_8 : Int} {t_11 : Typ} {l_15 : List AV} (ho : Tr.val C 21
(.run 0 [0,5,0,5,0,5,0,0,5,2,3] (mkS 33 [vv 3 (.ptr 0 0),vv 13 (.vs 6 tg_5 (l_6.map Typ.av)),vi 14 x_7,vi 15 (w64 (x_8 + 1))] [] ((0,⟨[(.vs 2 tg_14 l_15)],[0]⟩) :: Hp.none) 1)) = some o) : ML C 21 [0,5,0,5,0,5,0,0,5,2,3,0,5,0,6,5,0,2,0,5] 3 (mkS 33 [vv 3 (.ptr 0 0),(5,.lp 5 0),vv 13 (.vs 6 tg_5 (l_6.map Typ.av)),vi 14 x_7,vi 15 x_8,vv 19 (.ptr 0 0),vv 20 (.agg (Typ.cs t_11)),vv 21 (.tuple [])] [(5,⟨(Typ.cs t_11),[]⟩)] ((0,⟨[(.vs 2 tg_14 l_15)],[0]⟩) :: Hp.none) 1) = some o := stM C 3 (fun _ _ => by kernel_rfl) ho
theorem p21_6 {tg_12 tg_16 tg_18 : Bool} {l_13 l_19 : List AV} {l_17 : List Dg} (ho : Tr.val C 21
(.ret ⟨(.vs 2 tg_16 (l_17.map Dg.av)),((0,⟨[(.vs 2 tg_18 l_19)],[0]⟩) :: Hp.none),1⟩) = some o) : ML C 21 qT0 5 (mkS 33 [vv 3 (.ptr 0 0),vv 28 (.ptr 0 0),vv 29 (.ptr 0 0),vv 30 (.ptr 0 0),vv 31 (.vs 2 tg_12 l_13),vv 32 (.vs 2 tg_16 (l_17.map Dg.av))] [] ((0,⟨[(.vs 2 tg_18 l_19)],[0]⟩) :: Hp.none) 1) = some o := stM C 1 (fun _ _ => by kernel_rfl) ho
end Go.Proofs.YtfdklpkfpmkgeaaGreatDoor
end
section
namespace Go.Proofs.YtfdklpkfpmkgeaaGreatDoor
open Go Go.Vai
attribute [local irreducible] goTo zaq mkS
set_option maxHeartbeats 40000000
def nmT (t : Typ) : Nm := ⟨t.name,t.at_⟩
def zs7 : List Typ→List Dg
 | []=>[]
 | t :: r=>typD t ++ zs7 r
def zsy : List Typ→Nat
 | []=>0
 | t :: r=>typW t + zsy r
def chkD (ts : List Typ) : List Dg := dupD [] (ts.map nmT) ++ zs7 ts
theorem zm6 (t : Typ) : ∀ r : List Qry,(znt t r).length ≤ qryW t r
 | []=>Nat.le_refl _
 | y :: r=>by
  have h := zm6 t r
  have d1 : (dupD [] (y.params.map nmP)).length ≤ y.params.length:=by
   have := zbu (y.params.map nmP) []
   rwa [List.length_map] at this
  rw [znt,qryW]
  unfold qryD
  simp only [List.length_append]
  omega
theorem zmk (t : Typ) : ∀ r : List Idx,(zlv t r).length ≤ r.length
 | []=>Nat.le_refl _
 | x :: r=>by
  have h := zmk t r
  have h1 : (znn t x).length ≤ 1:=by
   unfold znn
   split
   ·exact Nat.le_refl _
   ·exact zfw _
  rw [zlv,List.length_append,List.length_cons]
  omega
theorem typD_len (t : Typ) : (typD t).length ≤ typW t:=by
 have d1 := zbu (t.fields.map nmF) []
 have d2 := zjl t t.ops
 have d3 := zm6 t t.qrys
 have d4 := zbu (t.ops.map nmO ++ t.qrys.map nmY) []
 have d5 := zbu (t.idxs.map nmX) []
 have d6 := zmk t t.idxs
 unfold typD typW
 simp only [List.length_append,List.length_map] at *
 omega
def Srt (C : Nat→Oracle) (D R : List Dg) : Prop := ∀ tg,∃ t1 D1 t2 t3 D3,calL C 49 [.vs 2 tg (D.map Dg.av),.func 50 []] (hD tg D Hp.none) 1 = some ⟨.tuple [],hD t1 D1 Hp.none,1⟩ ∧
 calL C 51 [.vs 2 t1 (D1.map Dg.av)] (hD t1 D1 Hp.none) 1 = some ⟨.vs 2 t2 (R.map Dg.av),hD t3 D3 Hp.none,1⟩
variable {C : Nat→Oracle} (hC : Ext C)
include hC
theorem w21_loop (tL : Bool) (L : List Typ) (hL : L.length ≤ 400000) (D R : List Dg) (hS : Srt C D R) : ∀ (r : List Typ) (i : Nat) (tg : Bool) (l : List Dg),L.drop i = r→i ≤ L.length→(∀ t ∈ r,WfT t)→l.length + zsy r ≤ 1000000→D = l ++ zs7 r →
  Was (RL C 21 [0,5,0,5,0,5,0,0,5,2,3] (mkS 33 [(3,.val (.ptr 0 0) .no),(13,.val (.vs 6 tL (L.map Typ.av)) .no),(14,.val (.int .i64 (L.length : Int)) .no),(15,.val (.int .i64 (i : Int)) .no)] [] (hD tg l Hp.none) 1)) (fun o=>∃ tg,o.v = .vs 2 tg (R.map Dg.av)):=by
 intro r
 induction r with
 | nil =>
  intro i tg l hi hil hr hb e
  have := zaj _ _ hil hi
  rw [zs7,List.append_nil] at e
  subst e
  obtain ⟨t1,D1,t2,t3,D3,e1,e2⟩ := hS tg
  refine exW (fun o=>p21_2) ?_
  simp only [Tr.val,List.length_map]
  refine .bF (by omega) ?_
  rw [e1]
  simp only [Option.bind_some]
  refine exW (fun o=>p21_4) ?_
  simp only [Tr.val]
  rw [e2]
  simp only [Option.bind_some]
  exact exW (fun o=>p21_6) (.mk ⟨t2,rfl⟩)
 | cons t r ih =>
  intro i tg l hi hil hr hb e
  obtain ⟨h1,h2,h3⟩ := zau _ _ hi
  rw [zsy] at hb
  refine exW (fun o=>p21_2) ?_
  simp only [Tr.val,List.length_map,Int.toNat_natCast,zal,h1,Option.map_some,Option.bind_some,Typ.av_cs,zaf]
  refine .bT (by omega) (.bT (by omega) (.bT (by omega) ?_))
  refine exW (fun o=>p21_3) ?_
  simp only [Tr.val,AV.pure,zab,zad,za9,za0]
  refine .call (w48 hC t (hr t List.mem_cons_self) Hp.none 1 tg l (by omega)) ?_
  rintro o ⟨t1,rfl⟩
  simp only [AV.pure,zab,za0]
  refine exW (fun o=>p21_5) ?_
  simp only [Tr.val]
  rw [wi64 h3 (by omega)]
  have := typD_len t
  exact ih (i + 1) t1 _ h2 (by omega) (fun x hx=>hr x (List.mem_cons_of_mem _ hx)) (by rw [List.length_append]; omega) (by rw [e,zs7,List.append_assoc])
theorem w21 (tL : Bool) (L : List Typ) (hL : L.length ≤ 400000) (hw : ∀ t ∈ L,WfT t) (hb : L.length + zsy L ≤ 1000000) (R : List Dg) (hS : Srt C (chkD L) R) : Was (calL C 21 [.agg [.vs 6 tL (L.map Typ.av)]] Hp.none 0) (fun o=>∃ tg,o.v = .vs 2 tg (R.map Dg.av)):=by
 refine exW (fun o=>p21_c hC) (exW (fun o=>p21_0) ?_)
 simp only [Tr.val,AV.pure,zab,za4,za0]
 refine .call (w46 hC Hp.none 1 tL L hL true [] (by simp only [List.length_nil]; omega)) ?_
 rintro o ⟨t1,rfl⟩
 simp only [AV.pure,zab,za0,List.nil_append]
 refine exW (fun o=>p21_1) ?_
 simp only [Tr.val,List.length_map]
 have d1 := zbu (L.map fun x=>(⟨x.name,x.at_⟩ : Nm)) []
 rw [List.length_map] at d1
 exact w21_loop hC tL L hL _ R hS L 0 t1 _ rfl (Nat.zero_le _) hw (by omega) rfl
end Go.Proofs.YtfdklpkfpmkgeaaGreatDoor
end
section
namespace Go.Proofs.YtfdklpkfpmkgeaaGreatDoor
open Go Go.Vai
theorem zf1 {a b : Nat} (h : Nat.ble a b = true) : a ≤ b := Nat.le_of_ble_eq_true h
def zg3 (b : Bool) : Int := if b = true then 1 else 0
theorem zrq (w e : Bool) (L : List Stm) (h : Leaf w e L) : cnL L = ⟨zg3 w + zg3 e,zg3 w + zg3 e,w,e⟩:=by
 cases w <;> cases e
 ·rw [show L = [] from h]; rfl
 ·obtain ⟨z,⟨b,rfl⟩,rfl⟩ := h
  rfl
 ·obtain ⟨z,⟨a,b,rfl⟩,rfl⟩ := h
  rfl
 ·obtain ⟨z,y,⟨a,b,rfl⟩,⟨c,rfl⟩,rfl⟩ := h
  rfl
def ovr (r : List (Bool × Bool)) : Bool := r.all fun x=>x.1 && !x.2
def com (r : List (Bool × Bool)) : Bool := r.all fun x=>x.2 && !x.1
structure TCn (O M : Bool) (c : Cn) : Prop where
 l0 : 0 ≤ c.least
 lm : c.least ≤ c.most
 m2 : c.most ≤ 2
 o1 : O = true→c.least = 1∧c.most = 1∧c.o = false
 c1 : M = true→1 ≤ c.least∧c.w = false
 o2 : 1 ≤ c.least→c.most = 1→c.o = false→O = true
 c2 : 1 ≤ c.least→c.w = false→M = true
theorem zt6 (w e O M : Bool) (cl cm : Int) (cw co : Bool) (h : TCn O M ⟨cl,cm,cw,co⟩) : TCn ((w && !e) && O) ((e && !w) && M) ⟨(if cl < zg3 w + zg3 e then cl else zg3 w + zg3 e) + 0,(if zg3 w + zg3 e < cm then cm else zg3 w + zg3 e) + 0,(w || cw) || false,(e || co) || false⟩:=by
 obtain ⟨l0,lm,m2,o1,c1,o2,c2⟩ := h
 simp only at l0 lm m2 o1 c1 o2 c2
 cases w <;> cases e <;> cases O <;> cases M <;> cases cw <;> cases co <;> simp [zg3] at l0 lm m2 o1 c1 o2 c2 ⊢ <;> constructor <;> simp <;> omega
theorem zri : ∀ (r : List (Bool × Bool)) (L : List Stm),Tree r L→TCn (ovr r) (com r) (cnL L)
 | [],_,h=>h.elim
 | [(w,e)],L,h=>by
  rw [zrq w e L h]
  cases w <;> cases e <;> constructor <;> simp [zg3,ovr,com]
 | (w,e) :: x :: r,L,h=>by
  obtain ⟨a,b,t1,th,t2,el,rfl,hl,ht⟩ := h
  have ih := zri (x :: r) el ht
  have e1 := zrq w e th hl
  have ecn : cnL [Stm.mk 6 [] [.mk 4 0 [112] true [] a] t1 th t2 el b] = ⟨(if (cnL el).least < (cnL th).least then (cnL el).least else (cnL th).least) + 0,(if (cnL th).most < (cnL el).most then (cnL el).most else (cnL th).most) + 0,((cnL th).w || (cnL el).w) || false,((cnL th).o || (cnL el).o) || false⟩ := rfl
  rw [ecn,e1]
  exact zt6 w e _ _ _ _ _ _ ih
theorem zpr (r : List (Bool × Bool)) (L : List Stm) (h : Tree r L) : clsC (cnL L) = (if com r = true then 2 else if ovr r = true then 1 else 0)∧¬ 4 < (cnL L).most:=by
 obtain ⟨l0,lm,m2,o1,c1,o2,c2⟩ := zri r L h
 refine ⟨?_,by omega⟩
 unfold clsC
 have no : ¬ (com r = true∧ovr r = true):=by
  rintro ⟨h1,h2⟩
  cases r with
  | nil=>exact h
  | cons x r =>
   simp only [com,ovr,List.all_cons,Bool.and_eq_true,Bool.not_eq_true'] at h1 h2
   have := h1.1.1
   rw [h2.1.2] at this
   cases this
 by_cases hm : com r = true
 ·obtain ⟨a,b⟩ := c1 hm
  rw [if_pos hm,if_neg,if_pos ⟨a,b⟩]
  rintro ⟨x,y,z⟩
  exact no ⟨hm,o2 (by omega) y z⟩
 ·rw [if_neg hm]
  by_cases ho : ovr r = true
  ·obtain ⟨a,b,c⟩ := o1 ho
   rw [if_pos ho,if_pos ⟨a,b,c⟩]
  ·rw [if_neg ho,if_neg,if_neg]
   ·rintro ⟨x,y⟩
    exact hm (c2 x y)
   ·rintro ⟨x,y,z⟩
    exact ho (o2 (by omega) y z)
section
variable (tb : Bool) (L0 : List Stm) (a b c d e : Int)
abbrev scP : Sc := scO (zny L0 tb a b c d e) ⟨[102],false,[⟨[112],3,d⟩],tb,L0,e⟩
theorem w_ok (z : Stm) (h : IsW z) : zkp (scP tb L0 a b c d e) z = []∧WfS z∧wtS (scP tb L0 a b c d e) z ≤ 5∧z.sz = 1:=by
 obtain ⟨x,y,rfl⟩ := h
 refine ⟨by kernel_rfl,⟨fun _=>.leaf _ _ _ _ _ (by decide) (by decide),zf1 rfl,Nat.zero_le _,Nat.zero_le _,trivial,trivial⟩,?_,rfl⟩
 exact of_decide_eq_true (by kernel_rfl)
theorem m_ok (z : Stm) (h : IsM z) : zkp (scP tb L0 a b c d e) z = []∧WfS z∧wtS (scP tb L0 a b c d e) z ≤ 5∧z.sz = 1:=by
 obtain ⟨x,rfl⟩ := h
 refine ⟨by kernel_rfl,⟨fun h=>absurd rfl h,zf1 rfl,Nat.zero_le _,Nat.zero_le _,trivial,trivial⟩,?_,rfl⟩
 exact of_decide_eq_true (by kernel_rfl)
structure LOk (w : Sc) (n : Nat) (L : List Stm) : Prop where
 d : zcw w L = []
 f : WfSL L
 wt : wtL w L ≤ n
 sz : szL L ≤ n
 len : L.length ≤ 2
theorem zsn (w e' : Bool) (L : List Stm) (h : Leaf w e' L) : LOk (scP tb L0 a b c d e) 10 L:=by
 cases w <;> cases e'
 ·rw [show L = [] from h]
  exact ⟨rfl,trivial,Nat.zero_le _,Nat.zero_le _,Nat.zero_le _⟩
 ·obtain ⟨z,hz,rfl⟩ := h
  obtain ⟨h1,h2,h3,h4⟩ := m_ok tb L0 a b c d e z hz
  exact ⟨by rw [zcw,h1]; rfl,⟨h2,trivial⟩,by rw [wtL,wtL]; omega,by rw [szL,szL,h4]; decide,zf1 rfl⟩
 ·obtain ⟨z,hz,rfl⟩ := h
  obtain ⟨h1,h2,h3,h4⟩ := w_ok tb L0 a b c d e z hz
  exact ⟨by rw [zcw,h1]; rfl,⟨h2,trivial⟩,by rw [wtL,wtL]; omega,by rw [szL,szL,h4]; decide,zf1 rfl⟩
 ·obtain ⟨z,y,hz,hy,rfl⟩ := h
  obtain ⟨h1,h2,h3,h4⟩ := w_ok tb L0 a b c d e z hz
  obtain ⟨g1,g2,g3,g4⟩ := m_ok tb L0 a b c d e y hy
  exact ⟨by rw [zcw,h1,zcw,g1]; rfl,⟨h2,g2,trivial⟩,by rw [wtL,wtL,wtL]; omega,by rw [szL,szL,szL,h4,g4]; decide,zf1 rfl⟩
theorem if_ok (x y : Int) (t1 t2 : Bool) (th el : List Stm) : zkp (scP tb L0 a b c d e) (.mk 6 [] [.mk 4 0 [112] true [] x] t1 th t2 el y) = zcw (scP tb L0 a b c d e) th ++ zcw (scP tb L0 a b c d e) el∧(tyE (scP tb L0 a b c d e) (.mk 4 0 [112] true [] x)).2.length = 0:=by
 constructor <;> kernel_rfl
theorem zrg : ∀ (r : List (Bool × Bool)) (L : List Stm),Tree r L→LOk (scP tb L0 a b c d e) (20 * r.length) L
 | [],_,h=>h.elim
 | [(w,e')],L,h=>by
  obtain ⟨h1,h2,h3,h4,h5⟩ := zsn tb L0 a b c d e w e' L h
  exact ⟨h1,h2,by simp only [List.length_cons,List.length_nil]; omega,by simp only [List.length_cons,List.length_nil]; omega,h5⟩
 | (w,e') :: x :: r,L,h=>by
  obtain ⟨p,q,t1,th,t2,el,rfl,hl,ht⟩ := h
  obtain ⟨h1,h2,h3,h4,h5⟩ := zsn tb L0 a b c d e w e' th hl
  obtain ⟨g1,g2,g3,g4,g5⟩ := zrg (x :: r) el ht
  obtain ⟨i1,i2⟩ := if_ok tb L0 a b c d e p q t1 t2 th el
  simp only [List.length_cons] at g3 g4
  refine ⟨?_,⟨?_,trivial⟩,?_,?_,zf1 rfl⟩
  ·rw [zcw,i1,h1,g1]; rfl
  ·rw [WfS]
   exact ⟨fun _=>.leaf _ _ _ _ _ (by decide) (by decide),zf1 rfl,by omega,by omega,h2,g2⟩
  ·rw [wtL,wtS,wtL]
   simp only [List.length_cons]
   have : (tyE (scP tb L0 a b c d e) (valS (.mk 6 [] [.mk 4 0 [112] true [] p] t1 th t2 el q))).2.length = 0 := i2
   omega
  ·rw [szL,Stm.sz,szL]
   simp only [List.length_cons]
   omega
end
theorem path_ok (r : List (Bool × Bool)) (L : List Stm) (hr : r.length ≤ 6) (h : Tree r L) (tb : Bool) (a b c d e : Int) :
  WfT (zny L tb a b c d e)∧typW (zny L tb a b c d e) ≤ 1000∧szL L ≤ 9000∧chkD [zny L tb a b c d e] = (if com r = true ∨ ovr r = true then [] else [⟨e,2⟩]):=by
 obtain ⟨h1,h2,h3,h4,h5⟩ := zrg tb L a b c d e r L h
 obtain ⟨g1,g2⟩ := zpr r L h
 refine ⟨⟨zf1 rfl,zf1 rfl,zf1 rfl,?_,?_⟩,?_,by omega,?_⟩
 ·intro o ho
  obtain rfl := List.mem_singleton.1 ho
  exact ⟨h2,by show L.length ≤ _; omega,by show szL L ≤ _; omega,zf1 rfl⟩
 ·intro y hy
  cases hy
 ·show 2 + (1 + wtL (scP tb L a b c d e) L + 3 + 0) + 0 + 1 + 0 + 2 * 0 ≤ 1000
  omega
 ·have e1 : chkD [zny L tb a b c d e] = [] ++ (([] ++ (([] ++ zcw (scP tb L a b c d e) L ++ (if clsC (cnL L) = 0 then [⟨e,2⟩] else []) ++ (if 4 < (cnL L).most then [⟨e,3⟩] else [])) ++ []) ++ [] ++ [] ++ [] ++ []) ++ []) := by kernel_rfl
  rw [e1,h1,g1,if_neg g2]
  simp only [List.nil_append,List.append_nil]
  by_cases hm : com r = true
  ·rw [if_pos hm,if_neg (by decide),if_pos (.inl hm)]
  ·rw [if_neg hm]
   by_cases ho : ovr r = true
   ·rw [if_pos ho,if_neg (by decide),if_pos (.inr ho)]
   ·rw [if_neg ho,if_pos rfl,if_neg (by rintro (h | h); exact hm h; exact ho h)]
end Go.Proofs.YtfdklpkfpmkgeaaGreatDoor
end
