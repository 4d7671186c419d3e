/- Stage laws,printed by gen_p.py. -/
import Derived.Test.YtfdklpkfpmkgeaaGreatDoorM7
import Derived.Test.YtfdklpkfpmkgeaaGreatDoorM9
set_option linter.unusedSimpArgs false
set_option linter.unusedVariables false
set_option linter.unusedSectionVars false
set_option linter.unnecessarySimpa false
section
namespace Go.Proofs.YtfdklpkfpmkgeaaGreatDoor
open Go Go.Vai
attribute [local irreducible] goTo bodyOf mkS
variable {C : Nat → Oracle} {o : Out}
abbrev cD0 : Nat × Blk := (2,⟨[(i6 0),(i6 0),(.str []),(.vs 5 true []),(i6 0)],[3]⟩)
abbrev cD1 : Nat × Blk := (2,⟨[(i6 0),(.str []),(.vs 5 true []),(.vs 6 true []),(.vs 6 true []),(i6 0)],[2,3,4]⟩)
abbrev cD2 : Nat × Blk := (4,⟨[(i6 0),(i6 0),(.str []),(.vs 5 true []),(i6 0)],[3]⟩)
abbrev cD3 : Nat × Blk := (2,⟨[(.str []),(i6 0),(i6 0)],[]⟩)
abbrev cD5 : AV := (.vs 1 true [(.str [105,110,116]),(.str [116,101,120,116]),(.str [98,111,111,108])])
abbrev cD6 : AV := (.vs 1 true [(.str [119,114,105,116,101]),(.str [114,97,105,115,101]),(.str [97,100,100]),(.str [105,110,115,101,114,116]),(.str [109,97,114,107])])
abbrev qD0 : List Nat := [0,5,0,0,5,7,5,0,5,0,2,3]
abbrev qD1 : List Nat := [0,5,0,0,5,7,5,0,5,0,2,3,0,0]
abbrev qD2 : List Nat := [0,5,0,0,5,7,5,0,5,0,2,3,0,0,5,6,5,2,0,5,0]
abbrev qD3 : List Nat := [0,5,0,5,0,5,0,0,5,6,0,5,2,3]
abbrev qD4 : List Nat := [0,5,0,5,0,5,0,2,3,0,0,5,7,5,5,5,5,0]
abbrev qD5 : List Nat := [0,5,0,0,5,7,5,0,5,0,2,3,0,0,5,6,5,2,0,5,0,5,0]
abbrev qD6 : List Nat := [0,5,0,5,0,5,0,2,0,5,7,0,5,7,0,5,7,0,5,6,0,5]
abbrev qD7 : List Nat := [0,5,0,5,0,5,0,2,0,5,7,0,5,7,0,5,7,0,5,7,0,5,6,0,5,0]
abbrev qD8 : List Nat := [0,5,0,5,0,5,0,2,0,5,7,0,5,7,0,5,7,0,5,7,0,5,7,0]
abbrev qD9 : List Nat := [0,5,0,5,0,5,0,2,0,5,7,0,5,7,0,5,7,0,5,7,0,5,6,0,5,0,5,0]
abbrev qD10 : List Nat := [0,5,0,5,0,5,0,2,0,5,7,0,5,7,0,5,7,0,5,7,0,5,7,0,5,6,0]
abbrev qD11 : List Nat := [0,5,0,5,0,5,0,2,0,5,7,0,5,7,0,5,7,0,5,7,0,5,7,0,5,7,0,5]
abbrev qD12 : List Nat := [0,5,0,5,0,5,0,2,0,5,7,0,5,7,0,5,7,0,5,7,0,5,6,0,5,0,5,0,5,0]
abbrev qD13 : List Nat := [0,5,0,5,0,5,0,2,0,5,7,0,5,7,0,5,7,0,5,7,0,5,7,0,5,6,0,5,0]
abbrev qD14 : List Nat := [0,5,0,5,0,5,0,2,0,5,7,0,5,7,0,5,7,0,5,7,0,5,6,0,5,0,5,0,5,0,5]
abbrev qD15 : List Nat := [0,5,0,5,0,5,0,2,0,5,7,0,5,7,0,5,7,0,5,7,0,5,7,0,5,6,0,5,0,5,0]
abbrev qD16 : List Nat := [0,5,0,5,0,5,0,2,0,5,7,0,5,7,0,5,7,0,5,7,0,5,7,0,5,6,0,5,0,5,0,5,0]
abbrev qD17 : List Nat := [0,5,0,5,0,5,0,2,0,5,7,0,5,7,0,5,7,0,5,7,0,5,7,0,5,6,0,5,0,5,0,5,0,5]
abbrev qD18 : List Nat := [0,5,0,5,0,5,0,0,5,6,0,5,2,3,0,0,5,7,5,5,5,5,0]
abbrev qD19 : List Nat := [0,5,0,5,0,5,0,0,5,6,0,5,2,3,0,0,5,6,5,2,0,5]
abbrev qD20 : List Nat := [0,5,0,5,0,0,5,6,0,5,0,5,0,5,0,5,0,5,0,0,5,6,0]
abbrev qD21 : List Nat := [0,5,0,5,0,0,5,6,0,5,0,5,0,5,0,5,0,5,0,0,5,7,5,0]
abbrev qD22 : List Nat := [0,5,0,5,0,0,5,6,0,5,0,5,0,5,0,5,0,5,0,0,5,6,0,5]
abbrev qD23 : List Nat := [0,5,0,5,0,0,5,6,0,5,0,5,0,5,0,5,0,5,0,0,5,6,0,5,5,0]
theorem p151_c (hC : Ext C) {T : Hp} {nx : Nat} {q_1 : PS} (ho : RL C 151 [] (mkS 5 [vv 0 (.ptr 0 0)] [] (hp q_1 T) nx) = some o) : calL C 151 [(.ptr 0 0)] (hp q_1 T) nx = some o := hC.call rfl (fun _ _ => by kernel_rfl) ho
theorem p151_0 {T : Hp} {nx : Nat} {q_1 : PS} (ho : Tr.val C 151
 (.call 188 [(.ptr 0 0),(.int .i64 1)] (hp q_1 T) nx fun r1 =>
 (.mid 0 [0,5,0] 2 (mkS 5 [vv 0 (.ptr 0 0),(2,.lp 2 0),vv 3 (.ptr 0 0),vv 4 r1.v] [cD0] r1.H r1.nx))) = some o) : RL C 151 [] (mkS 5 [vv 0 (.ptr 0 0)] [] (hp q_1 T) nx) = some o := stR C 4 (fun _ _ => by kernel_rfl) ho
theorem p151_1 {T : Hp} {nx : Nat} {x_2 x_3 x_7 : Int} {s_4 : List UInt8} {tg_5 : Bool} {l_6 : List AV} {q_9 : PS} (ho : Tr.val C 151
 (.ret ⟨(.agg [(.int .i64 x_2),(.int .i64 x_3),(.str s_4),(.vs 5 tg_5 l_6),(.int .i64 x_7)]),(hp q_9 T),nx⟩) = some o) : ML C 151 [0,5,0] 2 (mkS 5 [vv 0 (.ptr 0 0),(2,.lp 2 0),vv 3 (.ptr 0 0),vv 4 (.agg [(i6 x_2),(i6 x_3),(.str s_4),(.vs 5 tg_5 l_6),(i6 x_7)])] [cD0] (hp q_9 T) nx) = some o := stM C 1 (fun _ _ => by kernel_rfl) ho
theorem p188_c (hC : Ext C) {T : Hp} {nx : Nat} {x_10 : Int} {q_11 : PS} (ho : RL C 188 [] (mkS 57 [vv 0 (.ptr 0 0),vi 1 x_10] [] (hp q_11 T) nx) = some o) : calL C 188 [(.ptr 0 0),(.int .i64 x_10)] (hp q_11 T) nx = some o := hC.call rfl (fun _ _ => by kernel_rfl) ho
theorem p188_0 {T : Hp} {nx : Nat} {x_10 : Int} {q_11 : PS} (ho : Tr.val C 188
 (.br (decide (x_10 = 6))
 (.call 215 [(.ptr 0 0)] (hp q_11 T) nx fun r1 =>
 (.mid 1 [0,5,0,0,5,6,0] 2 (mkS 57 [vv 0 (.ptr 0 0),vi 1 x_10,(4,.lp 4 0),vb 7 true,vv 8 (.ptr 0 0),vv 9 r1.v] [cD2] r1.H r1.nx)))
 (.call 188 [(.ptr 0 0),(.int .i64 (IntKind.wrap .i64 (x_10 + 1)))] (hp q_11 T) nx fun r2 =>
 (.mid 0 [0,5,0,0,5,7,5,0] 4 (mkS 57 [vv 0 (.ptr 0 0),vi 1 x_10,(4,.lp 4 0),vb 7 false,vv 10 (.ptr 0 0),vi 11 x_10,vi 12 (IntKind.wrap .i64 (x_10 + 1)),vv 13 r2.v] [cD2] r2.H r2.nx)))) = some o) : RL C 188 [] (mkS 57 [vv 0 (.ptr 0 0),vi 1 x_10] [] (hp q_11 T) nx) = some o := stR C 9 (fun _ _ => by kernel_rfl) ho
theorem p188_1 {T : Hp} {nx : Nat} {x_10 x_12 x_13 x_17 : Int} {s_14 : List UInt8} {tg_15 : Bool} {l_16 : List AV} {q_19 : PS} (ho : Tr.val C 188
 (.ret ⟨(.agg [(.int .i64 x_12),(.int .i64 x_13),(.str s_14),(.vs 5 tg_15 l_16),(.int .i64 x_17)]),(hp q_19 T),nx⟩) = some o) : ML C 188 [0,5,0,0,5,6,0] 2 (mkS 57 [vv 0 (.ptr 0 0),vi 1 x_10,(4,.lp 4 0),vb 7 true,vv 8 (.ptr 0 0),vv 9 (.agg [(i6 x_12),(i6 x_13),(.str s_14),(.vs 5 tg_15 l_16),(i6 x_17)])] [cD2] (hp q_19 T) nx) = some o := stM C 1 (fun _ _ => by kernel_rfl) ho
theorem p188_2 {T : Hp} {nx : Nat} {x_10 x_20 x_21 x_25 x_27 : Int} {s_22 : List UInt8} {tg_23 : Bool} {l_24 : List AV} {q_28 : PS} (ho : Tr.val C 188
 (.run 0 qD0 (mkS 57 [vv 0 (.ptr 0 0),vi 1 x_10,(4,.lp 4 0),(5,.lp 5 0)] [cD2,(5,⟨[(i6 x_20),(i6 x_21),(.str s_22),(.vs 5 tg_23 l_24),(i6 x_25)],[]⟩)] (hp q_28 T) nx)) = some o) : ML C 188 [0,5,0,0,5,7,5,0] 4 (mkS 57 [vv 0 (.ptr 0 0),vi 1 x_10,(4,.lp 4 0),vb 7 false,vv 10 (.ptr 0 0),vi 11 x_10,vi 12 x_27,vv 13 (.agg [(i6 x_20),(i6 x_21),(.str s_22),(.vs 5 tg_23 l_24),(i6 x_25)])] [cD2] (hp q_28 T) nx) = some o := stM C 3 (fun _ _ => by kernel_rfl) ho
theorem p188_3 {T : Hp} {nx : Nat} {x_29 x_30 x_31 x_35 x_36 x_37 x_41 : Int} {s_32 s_38 : List UInt8} {tg_33 tg_39 : Bool} {l_34 l_40 : List AV} {q_42 : PS} (ho : Tr.val C 188
 (.br (!(decide (q_42.kind = 3)))
 (cl0 113 [(.str q_42.s)] fun r3 => .br (AV.pure r3.v)
 (.mid 5 qD1 13 (mkS 57 [vv 0 (.ptr 0 0),vi 1 x_29,(4,.lp 4 0),(5,.lp 5 0),vv 14 (.ptr 0 0),vv 15 (.ptr 0 0),vv 16 (.ptr 0 2),vv 17 (.ptr 0 2),(18,.val (.int .i64 q_42.kind) (.lH 0 2)),vb 19 (!(decide (q_42.kind = 3))),vb 20 true,vv 21 (.ptr 0 0),vv 22 (.ptr 0 0),vv 23 (.ptr 0 2),vv 24 (.ptr 0 3),(25,.val (.str q_42.s) (.lH 0 3)),vv 26 r3.v] [(4,⟨[(i6 x_30),(i6 x_31),(.str s_32),(.vs 5 tg_33 l_34),(i6 x_35)],[3]⟩),(5,⟨[(i6 x_36),(i6 x_37),(.str s_38),(.vs 5 tg_39 l_40),(i6 x_41)],[]⟩)] (hp q_42 T) nx)) .none)
 (.ret ⟨(.agg [(.int .i64 x_36),(.int .i64 x_37),(.str s_38),(.vs 5 tg_39 l_40),(.int .i64 x_41)]),(hp q_42 T),nx⟩)) = some o) : RL C 188 qD0 (mkS 57 [vv 0 (.ptr 0 0),vi 1 x_29,(4,.lp 4 0),(5,.lp 5 0)] [(4,⟨[(i6 x_30),(i6 x_31),(.str s_32),(.vs 5 tg_33 l_34),(i6 x_35)],[3]⟩),(5,⟨[(i6 x_36),(i6 x_37),(.str s_38),(.vs 5 tg_39 l_40),(i6 x_41)],[]⟩)] (hp q_42 T) nx) = some o := stR C 8 (fun _ _ => by kernel_rfl) ho
theorem p188_4 {T : Hp} {nx : Nat} {x_29 x_30 x_31 x_35 x_36 x_37 x_41 x_43 x_44 : Int} {s_32 s_38 s_46 : List UInt8} {tg_33 tg_39 c_45 : Bool} {l_34 l_40 : List AV} {q_47 : PS} (ho : Tr.val C 188
 (.br (decide (x_43 = x_29))
 (.call 42 [(.ptr 0 0)] (hp q_47 T) nx fun r4 =>
 (.mid 0 qD2 2 (mkS 57 [vv 0 (.ptr 0 0),vi 1 x_29,(4,.lp 4 0),(5,.lp 5 0),vv 43 (.ptr 0 0),vv 44 r4.v] [(4,⟨[(i6 x_30),(i6 x_31),(.str s_32),(.vs 5 tg_33 l_34),(i6 x_35)],[3]⟩),(5,⟨[(i6 7),(i6 0),(.str q_47.s),(.vs 5 true [(.agg [(i6 x_36),(i6 x_37),(.str s_38),(.vs 5 tg_39 l_40),(i6 x_41)])]),(.int .i64 q_47.tat)],[]⟩)] r4.H r4.nx)))
 (.ret ⟨(.agg [(.int .i64 x_36),(.int .i64 x_37),(.str s_38),(.vs 5 tg_39 l_40),(.int .i64 x_41)]),(hp q_47 T),nx⟩)) = some o) : ML C 188 qD1 13 (mkS 57 [vv 0 (.ptr 0 0),vi 1 x_29,(4,.lp 4 0),(5,.lp 5 0),vv 14 (.ptr 0 0),vv 15 (.ptr 0 0),vv 16 (.ptr 0 2),vv 17 (.ptr 0 2),(18,.val (i6 x_44) (.lH 0 2)),vb 19 c_45,vb 20 true,vv 21 (.ptr 0 0),vv 22 (.ptr 0 0),vv 23 (.ptr 0 2),vv 24 (.ptr 0 3),(25,.val (.str s_46) (.lH 0 3)),vi 26 x_43] [(4,⟨[(i6 x_30),(i6 x_31),(.str s_32),(.vs 5 tg_33 l_34),(i6 x_35)],[3]⟩),(5,⟨[(i6 x_36),(i6 x_37),(.str s_38),(.vs 5 tg_39 l_40),(i6 x_41)],[]⟩)] (hp q_47 T) nx) = some o := stM C 7 (fun _ _ => by kernel_rfl) ho
theorem p188_5 {T : Hp} {nx : Nat} {x_29 x_30 x_31 x_35 x_36 x_37 x_41 x_50 : Int} {s_32 s_38 s_49 : List UInt8} {tg_33 tg_39 : Bool} {l_34 l_40 : List AV} {q_51 : PS} (ho : Tr.val C 188
 (.call 188 [(.ptr 0 0),(.int .i64 (IntKind.wrap .i64 (x_29 + 1)))] (hp q_51 T) nx fun r5 =>
 (.mid 0 qD5 6 (mkS 57 [vv 0 (.ptr 0 0),vi 1 x_29,(4,.lp 4 0),(5,.lp 5 0),(45,.lp 5 3),vv 46 (.vs 5 true [(.agg [(i6 x_36),(i6 x_37),(.str s_38),(.vs 5 tg_39 l_40),(i6 x_41)])]),vv 47 (.ptr 0 0),vi 48 x_29,vi 49 (IntKind.wrap .i64 (x_29 + 1)),vv 50 r5.v] [(4,⟨[(i6 x_30),(i6 x_31),(.str s_32),(.vs 5 tg_33 l_34),(i6 x_35)],[3]⟩),(5,⟨[(i6 7),(i6 0),(.str s_49),(.vs 5 true [(.agg [(i6 x_36),(i6 x_37),(.str s_38),(.vs 5 tg_39 l_40),(i6 x_41)])]),(i6 x_50)],[]⟩)] r5.H r5.nx))) = some o) : ML C 188 qD2 2 (mkS 57 [vv 0 (.ptr 0 0),vi 1 x_29,(4,.lp 4 0),(5,.lp 5 0),vv 43 (.ptr 0 0),vv 44 (.tuple [])] [(4,⟨[(i6 x_30),(i6 x_31),(.str s_32),(.vs 5 tg_33 l_34),(i6 x_35)],[3]⟩),(5,⟨[(i6 7),(i6 0),(.str s_49),(.vs 5 true [(.agg [(i6 x_36),(i6 x_37),(.str s_38),(.vs 5 tg_39 l_40),(i6 x_41)])]),(i6 x_50)],[]⟩)] (hp q_51 T) nx) = some o := stM C 2 (fun _ _ => by kernel_rfl) ho
theorem p188_6 {T : Hp} {nx : Nat} {x_29 x_30 x_31 x_35 x_36 x_37 x_41 x_50 x_52 x_53 x_57 x_59 : Int} {s_32 s_38 s_49 s_54 : List UInt8} {tg_33 tg_39 tg_55 : Bool} {l_34 l_40 l_56 : List AV} {q_60 : PS} (ho : Tr.val C 188
 (.br (Nat.ble 128 maxBytes)
 (.br (Nat.ble 2 maxBytes)
 (.br (decide (x_29 = 3))
 (.ret ⟨(.agg [(.int .i64 7),(.int .i64 0),(.str s_49),(.vs 5 false [(.agg [(.int .i64 x_36),(.int .i64 x_37),(.str s_38),(.vs 5 tg_39 l_40),(.int .i64 x_41)]),(.agg [(.int .i64 x_52),(.int .i64 x_53),(.str s_54),(.vs 5 tg_55 l_56),(.int .i64 x_57)])]),(.int .i64 x_50)]),(hp q_60 T),nx⟩)
 (.run 1 qD0 (mkS 57 [vv 0 (.ptr 0 0),vi 1 x_29,(4,.lp 4 0),(5,.lp 5 0),vb 55 false] [(4,⟨[(i6 x_30),(i6 x_31),(.str s_32),(.vs 5 tg_33 l_34),(i6 x_35)],[3]⟩),(5,⟨[(i6 7),(i6 0),(.str s_49),(.vs 5 false [(.agg [(i6 x_36),(i6 x_37),(.str s_38),(.vs 5 tg_39 l_40),(i6 x_41)]),(.agg [(i6 x_52),(i6 x_53),(.str s_54),(.vs 5 tg_55 l_56),(i6 x_57)])]),(i6 x_50)],[3]⟩)] (hp q_60 T) nx)))
 .none)
 .none) = some o) : ML C 188 qD5 6 (mkS 57 [vv 0 (.ptr 0 0),vi 1 x_29,(4,.lp 4 0),(5,.lp 5 0),(45,.lp 5 3),vv 46 (.vs 5 true [(.agg [(i6 x_36),(i6 x_37),(.str s_38),(.vs 5 tg_39 l_40),(i6 x_41)])]),vv 47 (.ptr 0 0),vi 48 x_29,vi 49 x_59,vv 50 (.agg [(i6 x_52),(i6 x_53),(.str s_54),(.vs 5 tg_55 l_56),(i6 x_57)])] [(4,⟨[(i6 x_30),(i6 x_31),(.str s_32),(.vs 5 tg_33 l_34),(i6 x_35)],[3]⟩),(5,⟨[(i6 7),(i6 0),(.str s_49),(.vs 5 true [(.agg [(i6 x_36),(i6 x_37),(.str s_38),(.vs 5 tg_39 l_40),(i6 x_41)])]),(i6 x_50)],[]⟩)] (hp q_60 T) nx) = some o := stM C 7 (fun _ _ => by kernel_rfl) ho
theorem p188_7 {T : Hp} {nx : Nat} {x_61 x_63 x_64 x_68 x_69 x_70 x_74 : Int} {c_62 tg_66 tg_72 : Bool} {s_65 s_71 : List UInt8} {l_67 l_73 : List AV} {q_75 : PS} (ho : Tr.val C 188
 (.br (!(decide (q_75.kind = 3)))
 (cl0 113 [(.str q_75.s)] fun r6 => .br (AV.pure r6.v)
 (.mid 5 qD1 13 (mkS 57 [vv 0 (.ptr 0 0),vi 1 x_61,(4,.lp 4 0),(5,.lp 5 0),vv 14 (.ptr 0 0),vv 15 (.ptr 0 0),vv 16 (.ptr 0 2),vv 17 (.ptr 0 2),(18,.val (.int .i64 q_75.kind) (.lH 0 2)),vb 19 (!(decide (q_75.kind = 3))),vb 20 true,vv 21 (.ptr 0 0),vv 22 (.ptr 0 0),vv 23 (.ptr 0 2),vv 24 (.ptr 0 3),(25,.val (.str q_75.s) (.lH 0 3)),vv 26 r6.v,vb 55 c_62] [(4,⟨[(i6 x_63),(i6 x_64),(.str s_65),(.vs 5 tg_66 l_67),(i6 x_68)],[3]⟩),(5,⟨[(i6 x_69),(i6 x_70),(.str s_71),(.vs 5 tg_72 l_73),(i6 x_74)],[3]⟩)] (hp q_75 T) nx)) .none)
 (.ret ⟨(.agg [(.int .i64 x_69),(.int .i64 x_70),(.str s_71),(.vs 5 tg_72 l_73),(.int .i64 x_74)]),(hp q_75 T),nx⟩)) = some o) : RL C 188 qD0 (mkS 57 [vv 0 (.ptr 0 0),vi 1 x_61,(4,.lp 4 0),(5,.lp 5 0),vb 55 c_62] [(4,⟨[(i6 x_63),(i6 x_64),(.str s_65),(.vs 5 tg_66 l_67),(i6 x_68)],[3]⟩),(5,⟨[(i6 x_69),(i6 x_70),(.str s_71),(.vs 5 tg_72 l_73),(i6 x_74)],[3]⟩)] (hp q_75 T) nx) = some o := stR C 8 (fun _ _ => by kernel_rfl) ho
theorem p188_8 {T : Hp} {nx : Nat} {x_61 x_63 x_64 x_68 x_69 x_70 x_74 x_76 x_77 : Int} {c_62 tg_66 tg_72 c_78 : Bool} {s_65 s_71 s_79 : List UInt8} {l_67 l_73 : List AV} {q_80 : PS} (ho : Tr.val C 188
 (.br (decide (x_76 = x_61))
 (.call 42 [(.ptr 0 0)] (hp q_80 T) nx fun r7 =>
 (.mid 0 qD2 2 (mkS 57 [vv 0 (.ptr 0 0),vi 1 x_61,(4,.lp 4 0),(5,.lp 5 0),vv 43 (.ptr 0 0),vv 44 r7.v] [(4,⟨[(i6 x_63),(i6 x_64),(.str s_65),(.vs 5 tg_66 l_67),(i6 x_68)],[3]⟩),(5,⟨[(i6 7),(i6 0),(.str q_80.s),(.vs 5 true [(.agg [(i6 x_69),(i6 x_70),(.str s_71),(.vs 5 tg_72 l_73),(i6 x_74)])]),(.int .i64 q_80.tat)],[]⟩)] r7.H r7.nx)))
 (.ret ⟨(.agg [(.int .i64 x_69),(.int .i64 x_70),(.str s_71),(.vs 5 tg_72 l_73),(.int .i64 x_74)]),(hp q_80 T),nx⟩)) = some o) : ML C 188 qD1 13 (mkS 57 [vv 0 (.ptr 0 0),vi 1 x_61,(4,.lp 4 0),(5,.lp 5 0),vv 14 (.ptr 0 0),vv 15 (.ptr 0 0),vv 16 (.ptr 0 2),vv 17 (.ptr 0 2),(18,.val (i6 x_77) (.lH 0 2)),vb 19 c_78,vb 20 true,vv 21 (.ptr 0 0),vv 22 (.ptr 0 0),vv 23 (.ptr 0 2),vv 24 (.ptr 0 3),(25,.val (.str s_79) (.lH 0 3)),vi 26 x_76,vb 55 c_62] [(4,⟨[(i6 x_63),(i6 x_64),(.str s_65),(.vs 5 tg_66 l_67),(i6 x_68)],[3]⟩),(5,⟨[(i6 x_69),(i6 x_70),(.str s_71),(.vs 5 tg_72 l_73),(i6 x_74)],[3]⟩)] (hp q_80 T) nx) = some o := stM C 7 (fun _ _ => by kernel_rfl) ho
theorem p215_c (hC : Ext C) {T : Hp} {nx : Nat} {q_85 : PS} (ho : RL C 215 [] (mkS 36 [vv 0 (.ptr 0 0)] [] (hp q_85 T) nx) = some o) : calL C 215 [(.ptr 0 0)] (hp q_85 T) nx = some o := hC.call rfl (fun _ _ => by kernel_rfl) ho
theorem p215_0 {T : Hp} {nx : Nat} {q_85 : PS} (ho : Tr.val C 215
 (.call 82 [(.ptr 0 0),(.str [45])] (hp q_85 T) nx fun r1 =>
 (.mid 0 [0,5,0,0] 2 (mkS 36 [vv 0 (.ptr 0 0),(2,.lp 2 0),vv 4 (.ptr 0 0),vv 5 r1.v] [cD0] r1.H r1.nx))) = some o) : RL C 215 [] (mkS 36 [vv 0 (.ptr 0 0)] [] (hp q_85 T) nx) = some o := stR C 5 (fun _ _ => by kernel_rfl) ho
theorem p215_1 {T : Hp} {nx : Nat} {c_86 : Bool} {q_88 : PS} (ho : Tr.val C 215
 (.br (!c_86)
 (.call 82 [(.ptr 0 0),(.str [33])] (hp q_88 T) nx fun r2 =>
 (.mid 6 [0,5,0,0] 6 (mkS 36 [vv 0 (.ptr 0 0),(2,.lp 2 0),vv 4 (.ptr 0 0),vb 5 c_86,vb 6 (!c_86),vb 7 true,vv 8 (.ptr 0 0),vv 9 r2.v] [cD0] r2.H r2.nx)))
 (.call 213 [(.ptr 0 0)] (hp q_88 T) nx fun r3 =>
 (.mid 0 [0,5,0,0,5,7,5,0,5,0] 2 (mkS 36 [vv 0 (.ptr 0 0),(2,.lp 2 0),(3,.lp 3 0),vv 25 (.ptr 0 0),vv 26 r3.v] [cD0,(3,⟨[(i6 6),(i6 0),(.str q_88.s),(.vs 5 true []),(.int .i64 q_88.tat)],[]⟩)] r3.H r3.nx)))) = some o) : ML C 215 [0,5,0,0] 2 (mkS 36 [vv 0 (.ptr 0 0),(2,.lp 2 0),vv 4 (.ptr 0 0),vb 5 c_86] [cD0] (hp q_88 T) nx) = some o := stM C 6 (fun _ _ => by kernel_rfl) ho
theorem p215_2 {T : Hp} {nx : Nat} {c_86 c_89 c_91 : Bool} {q_92 : PS} (ho : Tr.val C 215
 (.br (!c_89)
 (.call 231 [(.ptr 0 0)] (hp q_92 T) nx fun r4 =>
 (.mid 3 [0,5,0,0,5,6,0] 2 (mkS 36 [vv 0 (.ptr 0 0),(2,.lp 2 0),vb 11 true,vv 12 (.ptr 0 0),vv 13 r4.v] [cD0] r4.H r4.nx)))
 (.call 213 [(.ptr 0 0)] (hp q_92 T) nx fun r5 =>
 (.mid 0 [0,5,0,0,5,7,5,0,5,0] 2 (mkS 36 [vv 0 (.ptr 0 0),(2,.lp 2 0),(3,.lp 3 0),vv 25 (.ptr 0 0),vv 26 r5.v] [cD0,(3,⟨[(i6 6),(i6 0),(.str q_92.s),(.vs 5 true []),(.int .i64 q_92.tat)],[]⟩)] r5.H r5.nx)))) = some o) : ML C 215 [0,5,0,0] 6 (mkS 36 [vv 0 (.ptr 0 0),(2,.lp 2 0),vv 4 (.ptr 0 0),vb 5 c_86,vb 6 c_91,vb 7 true,vv 8 (.ptr 0 0),vb 9 c_89] [cD0] (hp q_92 T) nx) = some o := stM C 6 (fun _ _ => by kernel_rfl) ho
theorem p215_3 {T : Hp} {nx : Nat} {s_94 : List UInt8} {x_95 : Int} {q_96 : PS} (ho : Tr.val C 215
 (.call 42 [(.ptr 0 0)] (hp q_96 T) nx fun r6 =>
 (.mid 0 [0,5,0,0,5,7,5,0,5,0,5,0] 2 (mkS 36 [vv 0 (.ptr 0 0),(2,.lp 2 0),(3,.lp 3 0),vv 27 (.ptr 0 0),vv 28 r6.v] [cD0,(3,⟨[(i6 6),(i6 0),(.str s_94),(.vs 5 true []),(i6 x_95)],[]⟩)] r6.H r6.nx))) = some o) : ML C 215 [0,5,0,0,5,7,5,0,5,0] 2 (mkS 36 [vv 0 (.ptr 0 0),(2,.lp 2 0),(3,.lp 3 0),vv 25 (.ptr 0 0),vv 26 (.tuple [])] [cD0,(3,⟨[(i6 6),(i6 0),(.str s_94),(.vs 5 true []),(i6 x_95)],[]⟩)] (hp q_96 T) nx) = some o := stM C 2 (fun _ _ => by kernel_rfl) ho
theorem p215_4 {T : Hp} {nx : Nat} {x_97 x_98 x_102 : Int} {s_99 : List UInt8} {tg_100 : Bool} {l_101 : List AV} {q_104 : PS} (ho : Tr.val C 215
 (.ret ⟨(.agg [(.int .i64 x_97),(.int .i64 x_98),(.str s_99),(.vs 5 tg_100 l_101),(.int .i64 x_102)]),(hp q_104 T),nx⟩) = some o) : ML C 215 [0,5,0,0,5,6,0] 2 (mkS 36 [vv 0 (.ptr 0 0),(2,.lp 2 0),vb 11 true,vv 12 (.ptr 0 0),vv 13 (.agg [(i6 x_97),(i6 x_98),(.str s_99),(.vs 5 tg_100 l_101),(i6 x_102)])] [cD0] (hp q_104 T) nx) = some o := stM C 1 (fun _ _ => by kernel_rfl) ho
theorem p215_5 {T : Hp} {nx : Nat} {s_94 : List UInt8} {x_95 : Int} {q_110 : PS} (ho : Tr.val C 215
 (.call 215 [(.ptr 0 0)] (hp q_110 T) nx fun r7 =>
 (.mid 0 [0,5,0,0,5,7,5,0,5,0,5,0,5,0] 2 (mkS 36 [vv 0 (.ptr 0 0),(2,.lp 2 0),(3,.lp 3 0),vv 29 (.ptr 0 0),vv 30 r7.v] [cD0,(3,⟨[(i6 6),(i6 0),(.str s_94),(.vs 5 true []),(i6 x_95)],[]⟩)] r7.H r7.nx))) = some o) : ML C 215 [0,5,0,0,5,7,5,0,5,0,5,0] 2 (mkS 36 [vv 0 (.ptr 0 0),(2,.lp 2 0),(3,.lp 3 0),vv 27 (.ptr 0 0),vv 28 (.tuple [])] [cD0,(3,⟨[(i6 6),(i6 0),(.str s_94),(.vs 5 true []),(i6 x_95)],[]⟩)] (hp q_110 T) nx) = some o := stM C 2 (fun _ _ => by kernel_rfl) ho
theorem p215_6 {T : Hp} {nx : Nat} {s_94 s_113 : List UInt8} {x_95 x_111 x_112 x_116 : Int} {tg_114 : Bool} {l_115 : List AV} {q_118 : PS} (ho : Tr.val C 215
 (.call 214 [(.ptr 0 0)] (hp q_118 T) nx fun r8 =>
 (.mid 0 [0,5,0,0,5,7,5,0,5,0,5,0,5,0,5,0] 2 (mkS 36 [vv 0 (.ptr 0 0),(2,.lp 2 0),(3,.lp 3 0),vv 33 (.ptr 0 0),vv 34 r8.v] [cD0,(3,⟨[(i6 6),(i6 0),(.str s_94),(.vs 5 true [(.agg [(i6 x_111),(i6 x_112),(.str s_113),(.vs 5 tg_114 l_115),(i6 x_116)])]),(i6 x_95)],[]⟩)] r8.H r8.nx))) = some o) : ML C 215 [0,5,0,0,5,7,5,0,5,0,5,0,5,0] 2 (mkS 36 [vv 0 (.ptr 0 0),(2,.lp 2 0),(3,.lp 3 0),vv 29 (.ptr 0 0),vv 30 (.agg [(i6 x_111),(i6 x_112),(.str s_113),(.vs 5 tg_114 l_115),(i6 x_116)])] [cD0,(3,⟨[(i6 6),(i6 0),(.str s_94),(.vs 5 true []),(i6 x_95)],[]⟩)] (hp q_118 T) nx) = some o := stM C 2 (fun _ _ => by kernel_rfl) ho
theorem p215_7 {T : Hp} {nx : Nat} {s_94 s_113 : List UInt8} {x_95 x_111 x_112 x_116 : Int} {tg_114 : Bool} {l_115 : List AV} {q_120 : PS} (ho : Tr.val C 215
 (.ret ⟨(.agg [(.int .i64 6),(.int .i64 0),(.str s_94),(.vs 5 true [(.agg [(.int .i64 x_111),(.int .i64 x_112),(.str s_113),(.vs 5 tg_114 l_115),(.int .i64 x_116)])]),(.int .i64 x_95)]),(hp q_120 T),nx⟩) = some o) : ML C 215 [0,5,0,0,5,7,5,0,5,0,5,0,5,0,5,0] 2 (mkS 36 [vv 0 (.ptr 0 0),(2,.lp 2 0),(3,.lp 3 0),vv 33 (.ptr 0 0),vv 34 (.tuple [])] [cD0,(3,⟨[(i6 6),(i6 0),(.str s_94),(.vs 5 true [(.agg [(i6 x_111),(i6 x_112),(.str s_113),(.vs 5 tg_114 l_115),(i6 x_116)])]),(i6 x_95)],[]⟩)] (hp q_120 T) nx) = some o := stM C 3 (fun _ _ => by kernel_rfl) ho
theorem p231_c (hC : Ext C) {T : Hp} {nx : Nat} {q_121 : PS} (ho : RL C 231 [] (mkS 82 [vv 0 (.ptr 0 0)] [] (hp q_121 T) nx) = some o) : calL C 231 [(.ptr 0 0)] (hp q_121 T) nx = some o := hC.call rfl (fun _ _ => by kernel_rfl) ho
theorem p231_0 {T : Hp} {nx : Nat} {q_121 : PS} (ho : Tr.val C 231
 (.br (decide (q_121.kind = 2))
 (.call 42 [(.ptr 0 0)] (hp q_121 T) nx fun r1 =>
 (.mid 3 [0,5,0,5,0,5,0,2,0,5,6,0,5] 2 (mkS 82 [vv 0 (.ptr 0 0),(2,.lp 2 0),(4,.lp 4 0),vv 27 (.ptr 0 0),vv 28 r1.v] [cD0,(3,⟨[(.int .i64 q_121.kind),(.str q_121.s),(.int .i64 q_121.n),(.int .i64 q_121.tat)],[]⟩),(4,⟨[(i6 1),(.int .i64 q_121.n),(.str []),(.vs 5 true []),(.int .i64 q_121.tat)],[]⟩)] r1.H r1.nx)))
 (.br (decide (q_121.kind = 3))
 (.call 42 [(.ptr 0 0)] (hp q_121 T) nx fun r2 =>
 (.mid 0 [0,5,0,5,0,5,0,2,0,5,7,0,5,6,0,5] 2 (mkS 82 [vv 0 (.ptr 0 0),(2,.lp 2 0),(4,.lp 4 0),vv 37 (.ptr 0 0),vv 38 r2.v] [cD0,(3,⟨[(.int .i64 q_121.kind),(.str q_121.s),(.int .i64 q_121.n),(.int .i64 q_121.tat)],[]⟩),(4,⟨[(i6 2),(i6 0),(.str q_121.s),(.vs 5 true []),(.int .i64 q_121.tat)],[]⟩)] r2.H r2.nx)))
 (.call 43 [(.ptr 0 0),(.str [116,114,117,101])] (hp q_121 T) nx fun r3 =>
 (.mid 1 [0,5,0,5,0,5,0,2,0,5,7,0,5,7,0] 2 (mkS 82 [vv 0 (.ptr 0 0),(2,.lp 2 0),(3,.lp 3 0),(4,.lp 4 0),vb 29 false,vv 40 (.ptr 0 0),vv 41 r3.v] [cD0,(3,⟨[(.int .i64 q_121.kind),(.str q_121.s),(.int .i64 q_121.n),(.int .i64 q_121.tat)],[]⟩),(4,⟨[(i6 0),(i6 0),(.str []),(.vs 5 true []),(.int .i64 q_121.tat)],[]⟩)] r3.H r3.nx))))) = some o) : RL C 231 [] (mkS 82 [vv 0 (.ptr 0 0)] [] (hp q_121 T) nx) = some o := stR C 17 (fun _ _ => by kernel_rfl) ho
theorem p231_1 {T : Hp} {nx : Nat} {x_123 x_125 x_126 : Int} {s_124 : List UInt8} {q_127 : PS} (ho : Tr.val C 231
 (.ret ⟨(.agg [(.int .i64 1),(.int .i64 x_125),(.str []),(.vs 5 true []),(.int .i64 x_126)]),(hp q_127 T),nx⟩) = some o) : ML C 231 [0,5,0,5,0,5,0,2,0,5,6,0,5] 2 (mkS 82 [vv 0 (.ptr 0 0),(2,.lp 2 0),(4,.lp 4 0),vv 27 (.ptr 0 0),vv 28 (.tuple [])] [cD0,(3,⟨[(i6 x_123),(.str s_124),(i6 x_125),(i6 x_126)],[]⟩),(4,⟨[(i6 1),(i6 x_125),(.str []),(.vs 5 true []),(i6 x_126)],[]⟩)] (hp q_127 T) nx) = some o := stM C 4 (fun _ _ => by kernel_rfl) ho
theorem p231_2 {T : Hp} {nx : Nat} {x_129 x_131 x_132 : Int} {s_130 : List UInt8} {q_133 : PS} (ho : Tr.val C 231
 (.ret ⟨(.agg [(.int .i64 2),(.int .i64 0),(.str s_130),(.vs 5 true []),(.int .i64 x_132)]),(hp q_133 T),nx⟩) = some o) : ML C 231 [0,5,0,5,0,5,0,2,0,5,7,0,5,6,0,5] 2 (mkS 82 [vv 0 (.ptr 0 0),(2,.lp 2 0),(4,.lp 4 0),vv 37 (.ptr 0 0),vv 38 (.tuple [])] [cD0,(3,⟨[(i6 x_129),(.str s_130),(i6 x_131),(i6 x_132)],[]⟩),(4,⟨[(i6 2),(i6 0),(.str s_130),(.vs 5 true []),(i6 x_132)],[]⟩)] (hp q_133 T) nx) = some o := stM C 4 (fun _ _ => by kernel_rfl) ho
theorem p231_3 {T : Hp} {nx : Nat} {c_134 : Bool} {x_136 x_138 x_139 : Int} {s_137 : List UInt8} {q_140 : PS} (ho : Tr.val C 231
 (.br c_134
 (.call 42 [(.ptr 0 0)] (hp q_140 T) nx fun r4 =>
 (.mid 0 [0,5,0,5,0,5,0,2,0,5,7,0,5,7,0,5,6,0,5] 2 (mkS 82 [vv 0 (.ptr 0 0),(2,.lp 2 0),(4,.lp 4 0),vv 44 (.ptr 0 0),vv 45 r4.v] [cD0,(3,⟨[(i6 x_136),(.str s_137),(i6 x_138),(i6 x_139)],[]⟩),(4,⟨[(i6 3),(i6 1),(.str []),(.vs 5 true []),(i6 x_139)],[]⟩)] r4.H r4.nx)))
 (.call 43 [(.ptr 0 0),(.str [102,97,108,115,101])] (hp q_140 T) nx fun r5 =>
 (.mid 1 [0,5,0,5,0,5,0,2,0,5,7,0,5,7,0,5,7,0] 2 (mkS 82 [vv 0 (.ptr 0 0),(2,.lp 2 0),(4,.lp 4 0),vb 39 false,vv 47 (.ptr 0 0),vv 48 r5.v] [cD0,(3,⟨[(i6 x_136),(.str s_137),(i6 x_138),(i6 x_139)],[]⟩),(4,⟨[(i6 0),(i6 0),(.str []),(.vs 5 true []),(i6 x_139)],[]⟩)] r5.H r5.nx)))) = some o) : ML C 231 [0,5,0,5,0,5,0,2,0,5,7,0,5,7,0] 2 (mkS 82 [vv 0 (.ptr 0 0),(2,.lp 2 0),(3,.lp 3 0),(4,.lp 4 0),vb 29 false,vv 40 (.ptr 0 0),vb 41 c_134] [cD0,(3,⟨[(i6 x_136),(.str s_137),(i6 x_138),(i6 x_139)],[]⟩),(4,⟨[(i6 0),(i6 0),(.str []),(.vs 5 true []),(i6 x_139)],[]⟩)] (hp q_140 T) nx) = some o := stM C 4 (fun _ _ => by kernel_rfl) ho
theorem p231_4 {T : Hp} {nx : Nat} {x_136 x_138 x_139 : Int} {s_137 : List UInt8} {q_142 : PS} (ho : Tr.val C 231
 (.ret ⟨(.agg [(.int .i64 3),(.int .i64 1),(.str []),(.vs 5 true []),(.int .i64 x_139)]),(hp q_142 T),nx⟩) = some o) : ML C 231 [0,5,0,5,0,5,0,2,0,5,7,0,5,7,0,5,6,0,5] 2 (mkS 82 [vv 0 (.ptr 0 0),(2,.lp 2 0),(4,.lp 4 0),vv 44 (.ptr 0 0),vv 45 (.tuple [])] [cD0,(3,⟨[(i6 x_136),(.str s_137),(i6 x_138),(i6 x_139)],[]⟩),(4,⟨[(i6 3),(i6 1),(.str []),(.vs 5 true []),(i6 x_139)],[]⟩)] (hp q_142 T) nx) = some o := stM C 4 (fun _ _ => by kernel_rfl) ho
theorem p231_5 {T : Hp} {nx : Nat} {x_136 x_138 x_139 : Int} {s_137 : List UInt8} {c_143 : Bool} {q_145 : PS} (ho : Tr.val C 231
 (.br c_143
 (.call 42 [(.ptr 0 0)] (hp q_145 T) nx fun r6 =>
 (.mid 0 qD6 2 (mkS 82 [vv 0 (.ptr 0 0),(2,.lp 2 0),(4,.lp 4 0),vv 50 (.ptr 0 0),vv 51 r6.v] [cD0,(3,⟨[(i6 x_136),(.str s_137),(i6 x_138),(i6 x_139)],[]⟩),(4,⟨[(i6 3),(i6 0),(.str []),(.vs 5 true []),(i6 x_139)],[]⟩)] r6.H r6.nx)))
 (.call 43 [(.ptr 0 0),(.str [115,105,122,101])] (hp q_145 T) nx fun r7 =>
 (.mid 1 [0,5,0,5,0,5,0,2,0,5,7,0,5,7,0,5,7,0,5,7,0] 2 (mkS 82 [vv 0 (.ptr 0 0),(2,.lp 2 0),(4,.lp 4 0),vb 46 false,vv 53 (.ptr 0 0),vv 54 r7.v] [cD0,(3,⟨[(i6 x_136),(.str s_137),(i6 x_138),(i6 x_139)],[]⟩),(4,⟨[(i6 0),(i6 0),(.str []),(.vs 5 true []),(i6 x_139)],[]⟩)] r7.H r7.nx)))) = some o) : ML C 231 [0,5,0,5,0,5,0,2,0,5,7,0,5,7,0,5,7,0] 2 (mkS 82 [vv 0 (.ptr 0 0),(2,.lp 2 0),(4,.lp 4 0),vb 39 false,vv 47 (.ptr 0 0),vb 48 c_143] [cD0,(3,⟨[(i6 x_136),(.str s_137),(i6 x_138),(i6 x_139)],[]⟩),(4,⟨[(i6 0),(i6 0),(.str []),(.vs 5 true []),(i6 x_139)],[]⟩)] (hp q_145 T) nx) = some o := stM C 4 (fun _ _ => by kernel_rfl) ho
theorem p231_6 {T : Hp} {nx : Nat} {x_136 x_138 x_139 : Int} {s_137 : List UInt8} {q_147 : PS} (ho : Tr.val C 231
 (.ret ⟨(.agg [(.int .i64 3),(.int .i64 0),(.str []),(.vs 5 true []),(.int .i64 x_139)]),(hp q_147 T),nx⟩) = some o) : ML C 231 qD6 2 (mkS 82 [vv 0 (.ptr 0 0),(2,.lp 2 0),(4,.lp 4 0),vv 50 (.ptr 0 0),vv 51 (.tuple [])] [cD0,(3,⟨[(i6 x_136),(.str s_137),(i6 x_138),(i6 x_139)],[]⟩),(4,⟨[(i6 3),(i6 0),(.str []),(.vs 5 true []),(i6 x_139)],[]⟩)] (hp q_147 T) nx) = some o := stM C 4 (fun _ _ => by kernel_rfl) ho
theorem p231_7 {T : Hp} {nx : Nat} {x_136 x_138 x_139 : Int} {s_137 : List UInt8} {c_148 : Bool} {q_150 : PS} (ho : Tr.val C 231
 (.br c_148
 (.call 42 [(.ptr 0 0)] (hp q_150 T) nx fun r8 =>
 (.mid 0 qD7 2 (mkS 82 [vv 0 (.ptr 0 0),(2,.lp 2 0),(4,.lp 4 0),vv 56 (.ptr 0 0),vv 57 r8.v] [cD0,(3,⟨[(i6 x_136),(.str s_137),(i6 x_138),(i6 x_139)],[]⟩),(4,⟨[(i6 5),(i6 0),(.str []),(.vs 5 true []),(i6 x_139)],[]⟩)] r8.H r8.nx)))
 (.call 82 [(.ptr 0 0),(.str [40])] (hp q_150 T) nx fun r9 =>
 (.mid 2 qD8 2 (mkS 82 [vv 0 (.ptr 0 0),(2,.lp 2 0),(4,.lp 4 0),vb 52 false,vv 69 (.ptr 0 0),vv 70 r9.v] [cD0,(3,⟨[(i6 x_136),(.str s_137),(i6 x_138),(i6 x_139)],[]⟩),(4,⟨[(i6 0),(i6 0),(.str []),(.vs 5 true []),(i6 x_139)],[]⟩)] r9.H r9.nx)))) = some o) : ML C 231 [0,5,0,5,0,5,0,2,0,5,7,0,5,7,0,5,7,0,5,7,0] 2 (mkS 82 [vv 0 (.ptr 0 0),(2,.lp 2 0),(4,.lp 4 0),vb 46 false,vv 53 (.ptr 0 0),vb 54 c_148] [cD0,(3,⟨[(i6 x_136),(.str s_137),(i6 x_138),(i6 x_139)],[]⟩),(4,⟨[(i6 0),(i6 0),(.str []),(.vs 5 true []),(i6 x_139)],[]⟩)] (hp q_150 T) nx) = some o := stM C 5 (fun _ _ => by kernel_rfl) ho
theorem p231_8 {T : Hp} {nx : Nat} {x_136 x_138 x_139 : Int} {s_137 : List UInt8} {q_152 : PS} (ho : Tr.val C 231
 (.call 81 [(.ptr 0 0),(.str [40])] (hp q_152 T) nx fun r10 =>
 (.mid 0 qD9 2 (mkS 82 [vv 0 (.ptr 0 0),(2,.lp 2 0),(4,.lp 4 0),vv 58 (.ptr 0 0),vv 59 r10.v] [cD0,(3,⟨[(i6 x_136),(.str s_137),(i6 x_138),(i6 x_139)],[]⟩),(4,⟨[(i6 5),(i6 0),(.str []),(.vs 5 true []),(i6 x_139)],[]⟩)] r10.H r10.nx))) = some o) : ML C 231 qD7 2 (mkS 82 [vv 0 (.ptr 0 0),(2,.lp 2 0),(4,.lp 4 0),vv 56 (.ptr 0 0),vv 57 (.tuple [])] [cD0,(3,⟨[(i6 x_136),(.str s_137),(i6 x_138),(i6 x_139)],[]⟩),(4,⟨[(i6 5),(i6 0),(.str []),(.vs 5 true []),(i6 x_139)],[]⟩)] (hp q_152 T) nx) = some o := stM C 2 (fun _ _ => by kernel_rfl) ho
theorem p231_9 {T : Hp} {nx : Nat} {x_136 x_138 x_139 : Int} {s_137 : List UInt8} {c_153 : Bool} {q_155 : PS} (ho : Tr.val C 231
 (.br c_153
 (.call 213 [(.ptr 0 0)] (hp q_155 T) nx fun r11 =>
 (.mid 1 qD10 2 (mkS 82 [vv 0 (.ptr 0 0),(2,.lp 2 0),(4,.lp 4 0),vb 68 true,vv 71 (.ptr 0 0),vv 72 r11.v] [cD0,(3,⟨[(i6 x_136),(.str s_137),(i6 x_138),(i6 x_139)],[]⟩),(4,⟨[(i6 0),(i6 0),(.str []),(.vs 5 true []),(i6 x_139)],[]⟩)] r11.H r11.nx)))
 (.call 80 [(.ptr 0 0)] (hp q_155 T) nx fun r12 =>
 (.mid 0 qD11 2 (mkS 82 [vv 0 (.ptr 0 0),(2,.lp 2 0),(4,.lp 4 0),vv 14 (.ptr 0 0),vv 15 r12.v] [cD0,(3,⟨[(i6 x_136),(.str s_137),(i6 x_138),(i6 x_139)],[]⟩),(4,⟨[(i6 4),(i6 0),(.str []),(.vs 5 true []),(i6 x_139)],[]⟩)] r12.H r12.nx)))) = some o) : ML C 231 qD8 2 (mkS 82 [vv 0 (.ptr 0 0),(2,.lp 2 0),(4,.lp 4 0),vb 52 false,vv 69 (.ptr 0 0),vb 70 c_153] [cD0,(3,⟨[(i6 x_136),(.str s_137),(i6 x_138),(i6 x_139)],[]⟩),(4,⟨[(i6 0),(i6 0),(.str []),(.vs 5 true []),(i6 x_139)],[]⟩)] (hp q_155 T) nx) = some o := stM C 4 (fun _ _ => by kernel_rfl) ho
theorem p231_10 {T : Hp} {nx : Nat} {x_136 x_138 x_139 : Int} {s_137 : List UInt8} {q_157 : PS} (ho : Tr.val C 231
 (.call 80 [(.ptr 0 0)] (hp q_157 T) nx fun r13 =>
 (.mid 0 qD12 2 (mkS 82 [vv 0 (.ptr 0 0),(2,.lp 2 0),(4,.lp 4 0),vv 61 (.ptr 0 0),vv 62 r13.v] [cD0,(3,⟨[(i6 x_136),(.str s_137),(i6 x_138),(i6 x_139)],[]⟩),(4,⟨[(i6 5),(i6 0),(.str []),(.vs 5 true []),(i6 x_139)],[]⟩)] r13.H r13.nx))) = some o) : ML C 231 qD9 2 (mkS 82 [vv 0 (.ptr 0 0),(2,.lp 2 0),(4,.lp 4 0),vv 58 (.ptr 0 0),vv 59 (.tuple [])] [cD0,(3,⟨[(i6 x_136),(.str s_137),(i6 x_138),(i6 x_139)],[]⟩),(4,⟨[(i6 5),(i6 0),(.str []),(.vs 5 true []),(i6 x_139)],[]⟩)] (hp q_157 T) nx) = some o := stM C 2 (fun _ _ => by kernel_rfl) ho
theorem p231_11 {T : Hp} {nx : Nat} {x_136 x_138 x_139 : Int} {s_137 : List UInt8} {q_159 : PS} (ho : Tr.val C 231
 (.call 42 [(.ptr 0 0)] (hp q_159 T) nx fun r14 =>
 (.mid 0 qD13 2 (mkS 82 [vv 0 (.ptr 0 0),(2,.lp 2 0),(4,.lp 4 0),vv 73 (.ptr 0 0),vv 74 r14.v] [cD0,(3,⟨[(i6 x_136),(.str s_137),(i6 x_138),(i6 x_139)],[]⟩),(4,⟨[(i6 0),(i6 0),(.str []),(.vs 5 true []),(i6 x_139)],[]⟩)] r14.H r14.nx))) = some o) : ML C 231 qD10 2 (mkS 82 [vv 0 (.ptr 0 0),(2,.lp 2 0),(4,.lp 4 0),vb 68 true,vv 71 (.ptr 0 0),vv 72 (.tuple [])] [cD0,(3,⟨[(i6 x_136),(.str s_137),(i6 x_138),(i6 x_139)],[]⟩),(4,⟨[(i6 0),(i6 0),(.str []),(.vs 5 true []),(i6 x_139)],[]⟩)] (hp q_159 T) nx) = some o := stM C 2 (fun _ _ => by kernel_rfl) ho
theorem p231_12 {T : Hp} {nx : Nat} {x_136 x_138 x_139 x_161 : Int} {s_137 s_160 : List UInt8} {q_163 : PS} (ho : Tr.val C 231
 (.ret ⟨(.agg [(.int .i64 4),(.int .i64 0),(.str s_160),(.vs 5 true []),(.int .i64 x_139)]),(hp q_163 T),nx⟩) = some o) : ML C 231 qD11 2 (mkS 82 [vv 0 (.ptr 0 0),(2,.lp 2 0),(4,.lp 4 0),vv 14 (.ptr 0 0),vv 15 (.tuple [(.str s_160),(i6 x_161)])] [cD0,(3,⟨[(i6 x_136),(.str s_137),(i6 x_138),(i6 x_139)],[]⟩),(4,⟨[(i6 4),(i6 0),(.str []),(.vs 5 true []),(i6 x_139)],[]⟩)] (hp q_163 T) nx) = some o := stM C 4 (fun _ _ => by kernel_rfl) ho
theorem p231_13 {T : Hp} {nx : Nat} {x_136 x_138 x_139 x_165 : Int} {s_137 s_164 : List UInt8} {q_167 : PS} (ho : Tr.val C 231
 (.call 81 [(.ptr 0 0),(.str [41])] (hp q_167 T) nx fun r15 =>
 (.mid 0 qD14 2 (mkS 82 [vv 0 (.ptr 0 0),(2,.lp 2 0),(4,.lp 4 0),vv 66 (.ptr 0 0),vv 67 r15.v] [cD0,(3,⟨[(i6 x_136),(.str s_137),(i6 x_138),(i6 x_139)],[]⟩),(4,⟨[(i6 5),(i6 0),(.str s_164),(.vs 5 true []),(i6 x_139)],[]⟩)] r15.H r15.nx))) = some o) : ML C 231 qD12 2 (mkS 82 [vv 0 (.ptr 0 0),(2,.lp 2 0),(4,.lp 4 0),vv 61 (.ptr 0 0),vv 62 (.tuple [(.str s_164),(i6 x_165)])] [cD0,(3,⟨[(i6 x_136),(.str s_137),(i6 x_138),(i6 x_139)],[]⟩),(4,⟨[(i6 5),(i6 0),(.str []),(.vs 5 true []),(i6 x_139)],[]⟩)] (hp q_167 T) nx) = some o := stM C 1 (fun _ _ => by kernel_rfl) ho
theorem p231_14 {T : Hp} {nx : Nat} {x_136 x_138 x_139 : Int} {s_137 : List UInt8} {q_169 : PS} (ho : Tr.val C 231
 (.call 151 [(.ptr 0 0)] (hp q_169 T) nx fun r16 =>
 (.mid 0 qD15 2 (mkS 82 [vv 0 (.ptr 0 0),(2,.lp 2 0),(4,.lp 4 0),vv 75 (.ptr 0 0),vv 76 r16.v] [cD0,(3,⟨[(i6 x_136),(.str s_137),(i6 x_138),(i6 x_139)],[]⟩),(4,⟨[(i6 0),(i6 0),(.str []),(.vs 5 true []),(i6 x_139)],[]⟩)] r16.H r16.nx))) = some o) : ML C 231 qD13 2 (mkS 82 [vv 0 (.ptr 0 0),(2,.lp 2 0),(4,.lp 4 0),vv 73 (.ptr 0 0),vv 74 (.tuple [])] [cD0,(3,⟨[(i6 x_136),(.str s_137),(i6 x_138),(i6 x_139)],[]⟩),(4,⟨[(i6 0),(i6 0),(.str []),(.vs 5 true []),(i6 x_139)],[]⟩)] (hp q_169 T) nx) = some o := stM C 2 (fun _ _ => by kernel_rfl) ho
theorem p231_15 {T : Hp} {nx : Nat} {x_136 x_138 x_139 : Int} {s_137 s_164 : List UInt8} {q_171 : PS} (ho : Tr.val C 231
 (.ret ⟨(.agg [(.int .i64 5),(.int .i64 0),(.str s_164),(.vs 5 true []),(.int .i64 x_139)]),(hp q_171 T),nx⟩) = some o) : ML C 231 qD14 2 (mkS 82 [vv 0 (.ptr 0 0),(2,.lp 2 0),(4,.lp 4 0),vv 66 (.ptr 0 0),vv 67 (.tuple [])] [cD0,(3,⟨[(i6 x_136),(.str s_137),(i6 x_138),(i6 x_139)],[]⟩),(4,⟨[(i6 5),(i6 0),(.str s_164),(.vs 5 true []),(i6 x_139)],[]⟩)] (hp q_171 T) nx) = some o := stM C 4 (fun _ _ => by kernel_rfl) ho
theorem p231_16 {T : Hp} {nx : Nat} {x_136 x_138 x_139 x_172 x_173 x_177 : Int} {s_137 s_174 : List UInt8} {tg_175 : Bool} {l_176 : List AV} {q_179 : PS} (ho : Tr.val C 231
 (.call 214 [(.ptr 0 0)] (hp q_179 T) nx fun r17 =>
 (.mid 0 qD16 2 (mkS 82 [vv 0 (.ptr 0 0),(2,.lp 2 0),(4,.lp 4 0),vv 77 (.ptr 0 0),vv 78 r17.v] [cD0,(3,⟨[(i6 x_136),(.str s_137),(i6 x_138),(i6 x_139)],[]⟩),(4,⟨[(i6 x_172),(i6 x_173),(.str s_174),(.vs 5 tg_175 l_176),(i6 x_177)],[]⟩)] r17.H r17.nx))) = some o) : ML C 231 qD15 2 (mkS 82 [vv 0 (.ptr 0 0),(2,.lp 2 0),(4,.lp 4 0),vv 75 (.ptr 0 0),vv 76 (.agg [(i6 x_172),(i6 x_173),(.str s_174),(.vs 5 tg_175 l_176),(i6 x_177)])] [cD0,(3,⟨[(i6 x_136),(.str s_137),(i6 x_138),(i6 x_139)],[]⟩),(4,⟨[(i6 0),(i6 0),(.str []),(.vs 5 true []),(i6 x_139)],[]⟩)] (hp q_179 T) nx) = some o := stM C 2 (fun _ _ => by kernel_rfl) ho
theorem p231_17 {T : Hp} {nx : Nat} {x_136 x_138 x_139 x_172 x_173 x_177 : Int} {s_137 s_174 : List UInt8} {tg_175 : Bool} {l_176 : List AV} {q_181 : PS} (ho : Tr.val C 231
 (.call 81 [(.ptr 0 0),(.str [41])] (hp q_181 T) nx fun r18 =>
 (.mid 0 qD17 2 (mkS 82 [vv 0 (.ptr 0 0),(2,.lp 2 0),(4,.lp 4 0),vv 79 (.ptr 0 0),vv 80 r18.v] [cD0,(3,⟨[(i6 x_136),(.str s_137),(i6 x_138),(i6 x_139)],[]⟩),(4,⟨[(i6 x_172),(i6 x_173),(.str s_174),(.vs 5 tg_175 l_176),(i6 x_177)],[]⟩)] r18.H r18.nx))) = some o) : ML C 231 qD16 2 (mkS 82 [vv 0 (.ptr 0 0),(2,.lp 2 0),(4,.lp 4 0),vv 77 (.ptr 0 0),vv 78 (.tuple [])] [cD0,(3,⟨[(i6 x_136),(.str s_137),(i6 x_138),(i6 x_139)],[]⟩),(4,⟨[(i6 x_172),(i6 x_173),(.str s_174),(.vs 5 tg_175 l_176),(i6 x_177)],[]⟩)] (hp q_181 T) nx) = some o := stM C 1 (fun _ _ => by kernel_rfl) ho
theorem p231_18 {T : Hp} {nx : Nat} {x_136 x_138 x_139 x_172 x_173 x_177 : Int} {s_137 s_174 : List UInt8} {tg_175 : Bool} {l_176 : List AV} {q_183 : PS} (ho : Tr.val C 231
 (.ret ⟨(.agg [(.int .i64 x_172),(.int .i64 x_173),(.str s_174),(.vs 5 tg_175 l_176),(.int .i64 x_177)]),(hp q_183 T),nx⟩) = some o) : ML C 231 qD17 2 (mkS 82 [vv 0 (.ptr 0 0),(2,.lp 2 0),(4,.lp 4 0),vv 79 (.ptr 0 0),vv 80 (.tuple [])] [cD0,(3,⟨[(i6 x_136),(.str s_137),(i6 x_138),(i6 x_139)],[]⟩),(4,⟨[(i6 x_172),(i6 x_173),(.str s_174),(.vs 5 tg_175 l_176),(i6 x_177)],[]⟩)] (hp q_183 T) nx) = some o := stM C 4 (fun _ _ => by kernel_rfl) ho
theorem p149_c (hC : Ext C) {T : Hp} {nx : Nat} {q_184 : PS} (ho : RL C 149 [] (mkS 26 [vv 0 (.ptr 0 0)] [] (hp q_184 T) nx) = some o) : calL C 149 [(.ptr 0 0)] (hp q_184 T) nx = some o := hC.call rfl (fun _ _ => by kernel_rfl) ho
theorem p149_0 {T : Hp} {nx : Nat} {q_184 : PS} (ho : Tr.val C 149
 (.call 81 [(.ptr 0 0),(.str [40])] (hp q_184 T) nx fun r1 =>
 (.mid 0 [0,5,0,5,0] 2 (mkS 26 [vv 0 (.ptr 0 0),(3,.val (.vs 3 true []) .own),vv 4 (.ptr 0 0),vv 5 r1.v] [] r1.H r1.nx))) = some o) : RL C 149 [] (mkS 26 [vv 0 (.ptr 0 0)] [] (hp q_184 T) nx) = some o := stR C 6 (fun _ _ => by kernel_rfl) ho
theorem p149_1 {T : Hp} {nx : Nat} {q_186 : PS} (ho : Tr.val C 149
 (.call 82 [(.ptr 0 0),(.str [41])] (hp q_186 T) nx fun r2 =>
 (.mid 0 [0,5,0,5,0,5,0,0] 2 (mkS 26 [vv 0 (.ptr 0 0),(3,.val (.vs 3 true []) .own),vv 6 (.ptr 0 0),vv 7 r2.v] [] r2.H r2.nx))) = some o) : ML C 149 [0,5,0,5,0] 2 (mkS 26 [vv 0 (.ptr 0 0),(3,.val (.vs 3 true []) .own),vv 4 (.ptr 0 0),vv 5 (.tuple [])] [] (hp q_186 T) nx) = some o := stM C 3 (fun _ _ => by kernel_rfl) ho
theorem p149_2 {T : Hp} {nx : Nat} {c_187 : Bool} {q_189 : PS} (ho : Tr.val C 149
 (.br (!c_187)
 (.call 186 [(.ptr 0 0)] (hp q_189 T) nx fun r3 =>
 (.mid 1 [0,5,0,5,0,5,0,0,5,6,0] 3 (mkS 26 [vv 0 (.ptr 0 0),(3,.val (.vs 3 true []) .own),vb 8 true,(9,.val (.vs 3 true []) (.lS 3)),vv 10 (.ptr 0 0),vv 11 r3.v] [] r3.H r3.nx)))
 (.call 81 [(.ptr 0 0),(.str [41])] (hp q_189 T) nx fun r4 =>
 (.mid 0 [0,5,0,5,0,5,0,0,5,7,5,0] 2 (mkS 26 [vv 0 (.ptr 0 0),(3,.val (.vs 3 true []) .own),vb 8 false,vv 23 (.ptr 0 0),vv 24 r4.v] [] r4.H r4.nx)))) = some o) : ML C 149 [0,5,0,5,0,5,0,0] 2 (mkS 26 [vv 0 (.ptr 0 0),(3,.val (.vs 3 true []) .own),vv 6 (.ptr 0 0),vb 7 c_187] [] (hp q_189 T) nx) = some o := stM C 4 (fun _ _ => by kernel_rfl) ho
theorem p149_3 {T : Hp} {nx : Nat} {s_190 : List UInt8} {x_191 x_192 : Int} {q_194 : PS} (ho : Tr.val C 149
 (.br (Nat.ble 32 maxBytes)
 (.br (Nat.ble 1 maxBytes)
 (.run 0 qD3 (mkS 26 [vv 0 (.ptr 0 0),(3,.val (.vs 3 false [(.agg [(.str s_190),(i6 x_191),(i6 x_192)])]) .own)] [] (hp q_194 T) nx))
 .none)
 .none) = some o) : ML C 149 [0,5,0,5,0,5,0,0,5,6,0] 3 (mkS 26 [vv 0 (.ptr 0 0),(3,.val (.vs 3 true []) .own),vb 8 true,(9,.val (.vs 3 true []) (.lS 3)),vv 10 (.ptr 0 0),vv 11 (.agg [(.str s_190),(i6 x_191),(i6 x_192)])] [] (hp q_194 T) nx) = some o := stM C 2 (fun _ _ => by kernel_rfl) ho
theorem p149_4 {T : Hp} {nx : Nat} {q_196 : PS} (ho : Tr.val C 149
 (.ret ⟨(.vs 3 true []),(hp q_196 T),nx⟩) = some o) : ML C 149 [0,5,0,5,0,5,0,0,5,7,5,0] 2 (mkS 26 [vv 0 (.ptr 0 0),(3,.val (.vs 3 true []) .own),vb 8 false,vv 23 (.ptr 0 0),vv 24 (.tuple [])] [] (hp q_196 T) nx) = some o := stM C 3 (fun _ _ => by kernel_rfl) ho
theorem p149_5 {T : Hp} {nx : Nat} {tg_197 : Bool} {l_198 : List AV} {q_199 : PS} (ho : Tr.val C 149
 (.call 82 [(.ptr 0 0),(.str [44])] (hp q_199 T) nx fun r5 =>
 (.mid 0 [0,5,0,5,0,5,0,0,5,6,0,5,2,3,0,0] 2 (mkS 26 [vv 0 (.ptr 0 0),(3,.val (.vs 3 tg_197 l_198) .own),vv 14 (.ptr 0 0),vv 15 r5.v] [] r5.H r5.nx))) = some o) : RL C 149 qD3 (mkS 26 [vv 0 (.ptr 0 0),(3,.val (.vs 3 tg_197 l_198) .own)] [] (hp q_199 T) nx) = some o := stR C 3 (fun _ _ => by kernel_rfl) ho
theorem p149_6 {T : Hp} {nx : Nat} {tg_197 c_200 : Bool} {l_198 : List AV} {q_202 : PS} (ho : Tr.val C 149
 (.br c_200
 (.call 42 [(.ptr 0 0)] (hp q_202 T) nx fun r6 =>
 (.mid 0 [0,5,0,5,0,5,0,0,5,6,0,5,2,3,0,0,5,6,5,2,0] 2 (mkS 26 [vv 0 (.ptr 0 0),(3,.val (.vs 3 tg_197 l_198) .own),vb 15 true,vv 16 (.ptr 0 0),vv 17 r6.v] [] r6.H r6.nx)))
 (.call 81 [(.ptr 0 0),(.str [41])] (hp q_202 T) nx fun r7 =>
 (.mid 1 qD18 2 (mkS 26 [vv 0 (.ptr 0 0),(3,.val (.vs 3 tg_197 l_198) .own),vb 15 false,vv 23 (.ptr 0 0),vv 24 r7.v] [] r7.H r7.nx)))) = some o) : ML C 149 [0,5,0,5,0,5,0,0,5,6,0,5,2,3,0,0] 2 (mkS 26 [vv 0 (.ptr 0 0),(3,.val (.vs 3 tg_197 l_198) .own),vv 14 (.ptr 0 0),vb 15 c_200] [] (hp q_202 T) nx) = some o := stM C 5 (fun _ _ => by kernel_rfl) ho
theorem p149_7 {T : Hp} {nx : Nat} {tg_197 : Bool} {l_198 : List AV} {q_204 : PS} (ho : Tr.val C 149
 (.call 186 [(.ptr 0 0)] (hp q_204 T) nx fun r8 =>
 (.mid 0 qD19 3 (mkS 26 [vv 0 (.ptr 0 0),(3,.val (.vs 3 tg_197 l_198) .own),(18,.val (.vs 3 tg_197 l_198) (.lS 3)),vv 19 (.ptr 0 0),vv 20 r8.v] [] r8.H r8.nx))) = some o) : ML C 149 [0,5,0,5,0,5,0,0,5,6,0,5,2,3,0,0,5,6,5,2,0] 2 (mkS 26 [vv 0 (.ptr 0 0),(3,.val (.vs 3 tg_197 l_198) .own),vb 15 true,vv 16 (.ptr 0 0),vv 17 (.tuple [])] [] (hp q_204 T) nx) = some o := stM C 1 (fun _ _ => by kernel_rfl) ho
theorem p149_8 {T : Hp} {nx : Nat} {tg_197 : Bool} {l_198 : List AV} {q_206 : PS} (ho : Tr.val C 149
 (.ret ⟨(.vs 3 tg_197 l_198),(hp q_206 T),nx⟩) = some o) : ML C 149 qD18 2 (mkS 26 [vv 0 (.ptr 0 0),(3,.val (.vs 3 tg_197 l_198) .own),vb 15 false,vv 23 (.ptr 0 0),vv 24 (.tuple [])] [] (hp q_206 T) nx) = some o := stM C 3 (fun _ _ => by kernel_rfl) ho
theorem p149_9 {T : Hp} {nx : Nat} {tg_197 : Bool} {l_198 : List AV} {s_207 : List UInt8} {x_208 x_209 : Int} {q_211 : PS} (ho : Tr.val C 149
 (.br (Nat.ble (((List.length l_198) + 1) * 32) maxBytes)
 (.br (Nat.ble ((List.length l_198) + 1) maxBytes)
 (.run 0 qD3 (mkS 26 [vv 0 (.ptr 0 0),(3,.val (.vs 3 false (l_198 ++ [(.agg [(.str s_207),(i6 x_208),(i6 x_209)])])) .own)] [] (hp q_211 T) nx))
 .none)
 .none) = some o) : ML C 149 qD19 3 (mkS 26 [vv 0 (.ptr 0 0),(3,.val (.vs 3 tg_197 l_198) .own),(18,.val (.vs 3 tg_197 l_198) (.lS 3)),vv 19 (.ptr 0 0),vv 20 (.agg [(.str s_207),(i6 x_208),(i6 x_209)])] [] (hp q_211 T) nx) = some o := stM C 2 (fun _ _ => by kernel_rfl) ho
theorem p186_c (hC : Ext C) {T : Hp} {nx : Nat} {q_212 : PS} (ho : RL C 186 [] (mkS 16 [vv 0 (.ptr 0 0)] [] (hp q_212 T) nx) = some o) : calL C 186 [(.ptr 0 0)] (hp q_212 T) nx = some o := hC.call rfl (fun _ _ => by kernel_rfl) ho
theorem p186_0 {T : Hp} {nx : Nat} {q_212 : PS} (ho : Tr.val C 186
 (.call 80 [(.ptr 0 0)] (hp q_212 T) nx fun r1 =>
 (.mid 0 [0,5,0,5,0] 2 (mkS 16 [vv 0 (.ptr 0 0),(2,.lp 2 0),(3,.lp 3 0),vv 5 (.ptr 0 0),vv 6 r1.v] [cD3,(3,⟨[(.str []),(i6 0),(i6 0)],[]⟩)] r1.H r1.nx))) = some o) : RL C 186 [] (mkS 16 [vv 0 (.ptr 0 0)] [] (hp q_212 T) nx) = some o := stR C 6 (fun _ _ => by kernel_rfl) ho
theorem p186_1 {T : Hp} {nx : Nat} {s_213 : List UInt8} {x_214 : Int} {q_216 : PS} (ho : Tr.val C 186
 (.call 148 [(.ptr 0 0),(.vs 1 true [(.str [105,110,116]),(.str [116,101,120,116]),(.str [98,111,111,108])])] (hp q_216 T) nx fun r2 =>
 (.mid 0 [0,5,0,5,0,5,0] 3 (mkS 16 [vv 0 (.ptr 0 0),(2,.lp 2 0),(3,.lp 3 0),vv 11 (.ptr 0 0),vv 12 cD5,vv 13 r2.v] [cD3,(3,⟨[(.str s_213),(i6 0),(i6 x_214)],[]⟩)] r2.H r2.nx))) = some o) : ML C 186 [0,5,0,5,0] 2 (mkS 16 [vv 0 (.ptr 0 0),(2,.lp 2 0),(3,.lp 3 0),vv 5 (.ptr 0 0),vv 6 (.tuple [(.str s_213),(i6 x_214)])] [cD3,(3,⟨[(.str []),(i6 0),(i6 0)],[]⟩)] (hp q_216 T) nx) = some o := stM C 2 (fun _ _ => by kernel_rfl) ho
theorem p186_2 {T : Hp} {nx : Nat} {s_213 : List UInt8} {x_214 x_217 : Int} {q_219 : PS} (ho : Tr.val C 186
 (.ret ⟨(.agg [(.str s_213),(.int .i64 x_217),(.int .i64 x_214)]),(hp q_219 T),nx⟩) = some o) : ML C 186 [0,5,0,5,0,5,0] 3 (mkS 16 [vv 0 (.ptr 0 0),(2,.lp 2 0),(3,.lp 3 0),vv 11 (.ptr 0 0),vv 12 cD5,vi 13 x_217] [cD3,(3,⟨[(.str s_213),(i6 0),(i6 x_214)],[]⟩)] (hp q_219 T) nx) = some o := stM C 3 (fun _ _ => by kernel_rfl) ho
theorem p150_c (hC : Ext C) {T : Hp} {nx : Nat} {q_220 : PS} (ho : RL C 150 [] (mkS 24 [vv 0 (.ptr 0 0)] [] (hp q_220 T) nx) = some o) : calL C 150 [(.ptr 0 0)] (hp q_220 T) nx = some o := hC.call rfl (fun _ _ => by kernel_rfl) ho
theorem p150_0 {T : Hp} {nx : Nat} {q_220 : PS} (ho : Tr.val C 150
 (.call 81 [(.ptr 0 0),(.str [123])] (hp q_220 T) nx fun r1 =>
 (.mid 0 [0,5,0,5,0] 2 (mkS 24 [vv 0 (.ptr 0 0),(3,.val (.vs 6 true []) .own),vv 4 (.ptr 0 0),vv 5 r1.v] [] r1.H r1.nx))) = some o) : RL C 150 [] (mkS 24 [vv 0 (.ptr 0 0)] [] (hp q_220 T) nx) = some o := stR C 6 (fun _ _ => by kernel_rfl) ho
theorem p150_1 {T : Hp} {nx : Nat} {q_222 : PS} (ho : Tr.val C 150
 (.run 0 [0,5,0,5,0,5,0,2,3] (mkS 24 [vv 0 (.ptr 0 0),(3,.val (.vs 6 true []) .own)] [] (hp q_222 T) nx)) = some o) : ML C 150 [0,5,0,5,0] 2 (mkS 24 [vv 0 (.ptr 0 0),(3,.val (.vs 6 true []) .own),vv 4 (.ptr 0 0),vv 5 (.tuple [])] [] (hp q_222 T) nx) = some o := stM C 3 (fun _ _ => by kernel_rfl) ho
theorem p150_2 {T : Hp} {nx : Nat} {tg_223 : Bool} {l_224 : List AV} {q_225 : PS} (ho : Tr.val C 150
 (.br (decide (q_225.err = 0))
 (.call 82 [(.ptr 0 0),(.str [125])] (hp q_225 T) nx fun r2 =>
 (.mid 4 [0,5,0,5,0,5,0,2,3,0,0] 8 (mkS 24 [vv 0 (.ptr 0 0),(3,.val (.vs 6 tg_223 l_224) .own),vv 6 (.ptr 0 0),vv 7 (.ptr 0 0),vv 8 (.ptr 0 7),vi 9 q_225.err,vb 10 (decide (q_225.err = 0)),vb 11 true,vv 12 (.ptr 0 0),vv 13 r2.v] [] r2.H r2.nx)))
 (.call 81 [(.ptr 0 0),(.str [125])] (hp q_225 T) nx fun r3 =>
 (.mid 0 qD4 2 (mkS 24 [vv 0 (.ptr 0 0),(3,.val (.vs 6 tg_223 l_224) .own),vb 15 false,vv 21 (.ptr 0 0),vv 22 r3.v] [] r3.H r3.nx)))) = some o) : RL C 150 [0,5,0,5,0,5,0,2,3] (mkS 24 [vv 0 (.ptr 0 0),(3,.val (.vs 6 tg_223 l_224) .own)] [] (hp q_225 T) nx) = some o := stR C 7 (fun _ _ => by kernel_rfl) ho
theorem p150_3 {T : Hp} {nx : Nat} {tg_223 c_226 c_229 : Bool} {l_224 : List AV} {x_228 : Int} {q_230 : PS} (ho : Tr.val C 150
 (.br (!c_226)
 (.call 187 [(.ptr 0 0)] (hp q_230 T) nx fun r4 =>
 (.mid 0 [0,5,0,5,0,5,0,2,3,0,0,5,6,5,2] 3 (mkS 24 [vv 0 (.ptr 0 0),(3,.val (.vs 6 tg_223 l_224) .own),vb 15 true,(16,.val (.vs 6 tg_223 l_224) (.lS 3)),vv 17 (.ptr 0 0),vv 18 r4.v] [] r4.H r4.nx)))
 (.call 81 [(.ptr 0 0),(.str [125])] (hp q_230 T) nx fun r5 =>
 (.mid 0 qD4 2 (mkS 24 [vv 0 (.ptr 0 0),(3,.val (.vs 6 tg_223 l_224) .own),vb 15 false,vv 21 (.ptr 0 0),vv 22 r5.v] [] r5.H r5.nx)))) = some o) : ML C 150 [0,5,0,5,0,5,0,2,3,0,0] 8 (mkS 24 [vv 0 (.ptr 0 0),(3,.val (.vs 6 tg_223 l_224) .own),vv 6 (.ptr 0 0),vv 7 (.ptr 0 0),vv 8 (.ptr 0 7),vi 9 x_228,vb 10 c_229,vb 11 true,vv 12 (.ptr 0 0),vb 13 c_226] [] (hp q_230 T) nx) = some o := stM C 4 (fun _ _ => by kernel_rfl) ho
theorem p150_4 {T : Hp} {nx : Nat} {tg_223 : Bool} {l_224 : List AV} {q_232 : PS} (ho : Tr.val C 150
 (.ret ⟨(.vs 6 tg_223 l_224),(hp q_232 T),nx⟩) = some o) : ML C 150 qD4 2 (mkS 24 [vv 0 (.ptr 0 0),(3,.val (.vs 6 tg_223 l_224) .own),vb 15 false,vv 21 (.ptr 0 0),vv 22 (.tuple [])] [] (hp q_232 T) nx) = some o := stM C 3 (fun _ _ => by kernel_rfl) ho
theorem p150_5 {T : Hp} {nx : Nat} {tg_223 tg_235 tg_237 tg_239 : Bool} {l_224 l_236 l_238 l_240 : List AV} {x_233 x_241 : Int} {s_234 : List UInt8} {q_243 : PS} (ho : Tr.val C 150
 (.br (Nat.ble (((List.length l_224) + 1) * 104) maxBytes)
 (.br (Nat.ble ((List.length l_224) + 1) maxBytes)
 (.run 0 [0,5,0,5,0,5,0,2,3] (mkS 24 [vv 0 (.ptr 0 0),(3,.val (.vs 6 false (l_224 ++ [(.agg [(i6 x_233),(.str s_234),(.vs 5 tg_235 l_236),(.vs 6 tg_237 l_238),(.vs 6 tg_239 l_240),(i6 x_241)])])) .own)] [] (hp q_243 T) nx))
 .none)
 .none) = some o) : ML C 150 [0,5,0,5,0,5,0,2,3,0,0,5,6,5,2] 3 (mkS 24 [vv 0 (.ptr 0 0),(3,.val (.vs 6 tg_223 l_224) .own),vb 15 true,(16,.val (.vs 6 tg_223 l_224) (.lS 3)),vv 17 (.ptr 0 0),vv 18 (.agg [(i6 x_233),(.str s_234),(.vs 5 tg_235 l_236),(.vs 6 tg_237 l_238),(.vs 6 tg_239 l_240),(i6 x_241)])] [] (hp q_243 T) nx) = some o := stM C 2 (fun _ _ => by kernel_rfl) ho
theorem p187_c (hC : Ext C) {T : Hp} {nx : Nat} {q_246 : PS} (ho : RL C 187 [] (mkS 56 [vv 0 (.ptr 0 0)] [] (hp q_246 T) nx) = some o) : calL C 187 [(.ptr 0 0)] (hp q_246 T) nx = some o := hC.call rfl (fun _ _ => by kernel_rfl) ho
theorem p187_0 {T : Hp} {nx : Nat} {q_246 : PS} (ho : Tr.val C 187
 (.call 43 [(.ptr 0 0),(.str [105,102])] (hp q_246 T) nx fun r1 =>
 (.mid 0 [0,5,0,5,0,0] 2 (mkS 56 [vv 0 (.ptr 0 0),(2,.lp 2 0),(3,.lp 3 0),vv 10 (.ptr 0 0),vv 11 r1.v] [cD1,(3,⟨[(i6 0),(.str []),(.vs 5 true []),(.vs 6 true []),(.vs 6 true []),(.int .i64 q_246.tat)],[]⟩)] r1.H r1.nx))) = some o) : RL C 187 [] (mkS 56 [vv 0 (.ptr 0 0)] [] (hp q_246 T) nx) = some o := stR C 7 (fun _ _ => by kernel_rfl) ho
theorem p187_1 {T : Hp} {nx : Nat} {c_247 : Bool} {x_249 : Int} {q_250 : PS} (ho : Tr.val C 187
 (.br c_247
 (.call 213 [(.ptr 0 0)] (hp q_250 T) nx fun r2 =>
 (.mid 0 [0,5,0,5,0,0,5,6,0,5,0] 2 (mkS 56 [vv 0 (.ptr 0 0),(2,.lp 2 0),(3,.lp 3 0),vv 13 (.ptr 0 0),vv 14 r2.v] [cD1,(3,⟨[(i6 6),(.str []),(.vs 5 true []),(.vs 6 true []),(.vs 6 true []),(i6 x_249)],[]⟩)] r2.H r2.nx)))
 (.call 148 [(.ptr 0 0),(.vs 1 true [(.str [119,114,105,116,101]),(.str [114,97,105,115,101]),(.str [97,100,100]),(.str [105,110,115,101,114,116]),(.str [109,97,114,107])])] (hp q_250 T) nx fun r3 =>
 (.mid 1 [0,5,0,5,0,0,5,7,5,0] 3 (mkS 56 [vv 0 (.ptr 0 0),(2,.lp 2 0),(3,.lp 3 0),vb 11 false,vv 34 (.ptr 0 0),vv 35 cD6,vv 36 r3.v] [cD1,(3,⟨[(i6 0),(.str []),(.vs 5 true []),(.vs 6 true []),(.vs 6 true []),(i6 x_249)],[]⟩)] r3.H r3.nx)))) = some o) : ML C 187 [0,5,0,5,0,0] 2 (mkS 56 [vv 0 (.ptr 0 0),(2,.lp 2 0),(3,.lp 3 0),vv 10 (.ptr 0 0),vb 11 c_247] [cD1,(3,⟨[(i6 0),(.str []),(.vs 5 true []),(.vs 6 true []),(.vs 6 true []),(i6 x_249)],[]⟩)] (hp q_250 T) nx) = some o := stM C 5 (fun _ _ => by kernel_rfl) ho
theorem p187_2 {T : Hp} {nx : Nat} {x_249 : Int} {q_252 : PS} (ho : Tr.val C 187
 (.call 42 [(.ptr 0 0)] (hp q_252 T) nx fun r4 =>
 (.mid 0 [0,5,0,5,0,0,5,6,0,5,0,5,0] 2 (mkS 56 [vv 0 (.ptr 0 0),(2,.lp 2 0),(3,.lp 3 0),vv 15 (.ptr 0 0),vv 16 r4.v] [cD1,(3,⟨[(i6 6),(.str []),(.vs 5 true []),(.vs 6 true []),(.vs 6 true []),(i6 x_249)],[]⟩)] r4.H r4.nx))) = some o) : ML C 187 [0,5,0,5,0,0,5,6,0,5,0] 2 (mkS 56 [vv 0 (.ptr 0 0),(2,.lp 2 0),(3,.lp 3 0),vv 13 (.ptr 0 0),vv 14 (.tuple [])] [cD1,(3,⟨[(i6 6),(.str []),(.vs 5 true []),(.vs 6 true []),(.vs 6 true []),(i6 x_249)],[]⟩)] (hp q_252 T) nx) = some o := stM C 2 (fun _ _ => by kernel_rfl) ho
theorem p187_3 {T : Hp} {nx : Nat} {x_249 x_253 : Int} {q_255 : PS} (ho : Tr.val C 187
 (.call 80 [(.ptr 0 0)] (hp q_255 T) nx fun r5 =>
 (.mid 0 [0,5,0,5,0,0,5,7,5,0,5,0] 2 (mkS 56 [vv 0 (.ptr 0 0),(2,.lp 2 0),(3,.lp 3 0),vv 39 (.ptr 0 0),vv 40 r5.v] [cD1,(3,⟨[(i6 x_253),(.str []),(.vs 5 true []),(.vs 6 true []),(.vs 6 true []),(i6 x_249)],[]⟩)] r5.H r5.nx))) = some o) : ML C 187 [0,5,0,5,0,0,5,7,5,0] 3 (mkS 56 [vv 0 (.ptr 0 0),(2,.lp 2 0),(3,.lp 3 0),vb 11 false,vv 34 (.ptr 0 0),vv 35 cD6,vi 36 x_253] [cD1,(3,⟨[(i6 0),(.str []),(.vs 5 true []),(.vs 6 true []),(.vs 6 true []),(i6 x_249)],[]⟩)] (hp q_255 T) nx) = some o := stM C 2 (fun _ _ => by kernel_rfl) ho
theorem p187_4 {T : Hp} {nx : Nat} {x_249 : Int} {q_257 : PS} (ho : Tr.val C 187
 (.call 151 [(.ptr 0 0)] (hp q_257 T) nx fun r6 =>
 (.mid 0 [0,5,0,5,0,0,5,6,0,5,0,5,0,5,0] 2 (mkS 56 [vv 0 (.ptr 0 0),(2,.lp 2 0),(3,.lp 3 0),vv 17 (.ptr 0 0),vv 18 r6.v] [cD1,(3,⟨[(i6 6),(.str []),(.vs 5 true []),(.vs 6 true []),(.vs 6 true []),(i6 x_249)],[]⟩)] r6.H r6.nx))) = some o) : ML C 187 [0,5,0,5,0,0,5,6,0,5,0,5,0] 2 (mkS 56 [vv 0 (.ptr 0 0),(2,.lp 2 0),(3,.lp 3 0),vv 15 (.ptr 0 0),vv 16 (.tuple [])] [cD1,(3,⟨[(i6 6),(.str []),(.vs 5 true []),(.vs 6 true []),(.vs 6 true []),(i6 x_249)],[]⟩)] (hp q_257 T) nx) = some o := stM C 2 (fun _ _ => by kernel_rfl) ho
theorem p187_5 {T : Hp} {nx : Nat} {x_249 x_253 x_259 : Int} {s_258 : List UInt8} {q_261 : PS} (ho : Tr.val C 187
 (.br (!(decide (x_253 = 5)))
 (.call 81 [(.ptr 0 0),(.str [61])] (hp q_261 T) nx fun r7 =>
 (.mid 1 [0,5,0,5,0,0,5,7,5,0,5,0,5,0,0,5,6,0] 2 (mkS 56 [vv 0 (.ptr 0 0),(2,.lp 2 0),(3,.lp 3 0),vb 46 true,vv 47 (.ptr 0 0),vv 48 r7.v] [cD1,(3,⟨[(i6 x_253),(.str s_258),(.vs 5 true []),(.vs 6 true []),(.vs 6 true []),(i6 x_249)],[]⟩)] r7.H r7.nx)))
 (.call 81 [(.ptr 0 0),(.str [59])] (hp q_261 T) nx fun r8 =>
 (.mid 0 [0,5,0,5,0,0,5,7,5,0,5,0,5,0,0,5,7,5,0] 2 (mkS 56 [vv 0 (.ptr 0 0),(2,.lp 2 0),(3,.lp 3 0),vb 46 false,vv 53 (.ptr 0 0),vv 54 r8.v] [cD1,(3,⟨[(i6 x_253),(.str s_258),(.vs 5 true []),(.vs 6 true []),(.vs 6 true []),(i6 x_249)],[]⟩)] r8.H r8.nx)))) = some o) : ML C 187 [0,5,0,5,0,0,5,7,5,0,5,0] 2 (mkS 56 [vv 0 (.ptr 0 0),(2,.lp 2 0),(3,.lp 3 0),vv 39 (.ptr 0 0),vv 40 (.tuple [(.str s_258),(i6 x_259)])] [cD1,(3,⟨[(i6 x_253),(.str []),(.vs 5 true []),(.vs 6 true []),(.vs 6 true []),(i6 x_249)],[]⟩)] (hp q_261 T) nx) = some o := stM C 7 (fun _ _ => by kernel_rfl) ho
theorem p187_6 {T : Hp} {nx : Nat} {x_249 x_262 x_263 x_267 : Int} {s_264 : List UInt8} {tg_265 : Bool} {l_266 : List AV} {q_269 : PS} (ho : Tr.val C 187
 (.call 150 [(.ptr 0 0)] (hp q_269 T) nx fun r9 =>
 (.mid 0 [0,5,0,5,0,0,5,6,0,5,0,5,0,5,0,5,0] 2 (mkS 56 [vv 0 (.ptr 0 0),(2,.lp 2 0),(3,.lp 3 0),vv 21 (.ptr 0 0),vv 22 r9.v] [cD1,(3,⟨[(i6 6),(.str []),(.vs 5 true [(.agg [(i6 x_262),(i6 x_263),(.str s_264),(.vs 5 tg_265 l_266),(i6 x_267)])]),(.vs 6 true []),(.vs 6 true []),(i6 x_249)],[]⟩)] r9.H r9.nx))) = some o) : ML C 187 [0,5,0,5,0,0,5,6,0,5,0,5,0,5,0] 2 (mkS 56 [vv 0 (.ptr 0 0),(2,.lp 2 0),(3,.lp 3 0),vv 17 (.ptr 0 0),vv 18 (.agg [(i6 x_262),(i6 x_263),(.str s_264),(.vs 5 tg_265 l_266),(i6 x_267)])] [cD1,(3,⟨[(i6 6),(.str []),(.vs 5 true []),(.vs 6 true []),(.vs 6 true []),(i6 x_249)],[]⟩)] (hp q_269 T) nx) = some o := stM C 2 (fun _ _ => by kernel_rfl) ho
theorem p187_7 {T : Hp} {nx : Nat} {x_249 x_253 : Int} {s_258 : List UInt8} {q_271 : PS} (ho : Tr.val C 187
 (.call 151 [(.ptr 0 0)] (hp q_271 T) nx fun r10 =>
 (.mid 0 [0,5,0,5,0,0,5,7,5,0,5,0,5,0,0,5,6,0,5] 2 (mkS 56 [vv 0 (.ptr 0 0),(2,.lp 2 0),(3,.lp 3 0),vv 49 (.ptr 0 0),vv 50 r10.v] [cD1,(3,⟨[(i6 x_253),(.str s_258),(.vs 5 true []),(.vs 6 true []),(.vs 6 true []),(i6 x_249)],[]⟩)] r10.H r10.nx))) = some o) : ML C 187 [0,5,0,5,0,0,5,7,5,0,5,0,5,0,0,5,6,0] 2 (mkS 56 [vv 0 (.ptr 0 0),(2,.lp 2 0),(3,.lp 3 0),vb 46 true,vv 47 (.ptr 0 0),vv 48 (.tuple [])] [cD1,(3,⟨[(i6 x_253),(.str s_258),(.vs 5 true []),(.vs 6 true []),(.vs 6 true []),(i6 x_249)],[]⟩)] (hp q_271 T) nx) = some o := stM C 1 (fun _ _ => by kernel_rfl) ho
theorem p187_8 {T : Hp} {nx : Nat} {x_249 x_253 : Int} {s_258 : List UInt8} {q_273 : PS} (ho : Tr.val C 187
 (.ret ⟨(.agg [(.int .i64 x_253),(.str s_258),(.vs 5 true []),(.vs 6 true []),(.vs 6 true []),(.int .i64 x_249)]),(hp q_273 T),nx⟩) = some o) : ML C 187 [0,5,0,5,0,0,5,7,5,0,5,0,5,0,0,5,7,5,0] 2 (mkS 56 [vv 0 (.ptr 0 0),(2,.lp 2 0),(3,.lp 3 0),vb 46 false,vv 53 (.ptr 0 0),vv 54 (.tuple [])] [cD1,(3,⟨[(i6 x_253),(.str s_258),(.vs 5 true []),(.vs 6 true []),(.vs 6 true []),(i6 x_249)],[]⟩)] (hp q_273 T) nx) = some o := stM C 3 (fun _ _ => by kernel_rfl) ho
theorem p187_9 {T : Hp} {nx : Nat} {x_249 x_262 x_263 x_267 : Int} {s_264 : List UInt8} {tg_265 tg_274 : Bool} {l_266 l_275 : List AV} {q_277 : PS} (ho : Tr.val C 187
 (.call 43 [(.ptr 0 0),(.str [101,108,115,101])] (hp q_277 T) nx fun r11 =>
 (.mid 0 [0,5,0,5,0,0,5,6,0,5,0,5,0,5,0,5,0,5,0,0] 2 (mkS 56 [vv 0 (.ptr 0 0),(2,.lp 2 0),(3,.lp 3 0),vv 24 (.ptr 0 0),vv 25 r11.v] [cD1,(3,⟨[(i6 6),(.str []),(.vs 5 true [(.agg [(i6 x_262),(i6 x_263),(.str s_264),(.vs 5 tg_265 l_266),(i6 x_267)])]),(.vs 6 tg_274 l_275),(.vs 6 true []),(i6 x_249)],[]⟩)] r11.H r11.nx))) = some o) : ML C 187 [0,5,0,5,0,0,5,6,0,5,0,5,0,5,0,5,0] 2 (mkS 56 [vv 0 (.ptr 0 0),(2,.lp 2 0),(3,.lp 3 0),vv 21 (.ptr 0 0),vv 22 (.vs 6 tg_274 l_275)] [cD1,(3,⟨[(i6 6),(.str []),(.vs 5 true [(.agg [(i6 x_262),(i6 x_263),(.str s_264),(.vs 5 tg_265 l_266),(i6 x_267)])]),(.vs 6 true []),(.vs 6 true []),(i6 x_249)],[]⟩)] (hp q_277 T) nx) = some o := stM C 3 (fun _ _ => by kernel_rfl) ho
theorem p187_10 {T : Hp} {nx : Nat} {x_249 x_253 x_278 x_279 x_283 : Int} {s_258 s_280 : List UInt8} {tg_281 : Bool} {l_282 : List AV} {q_285 : PS} (ho : Tr.val C 187
 (.call 81 [(.ptr 0 0),(.str [59])] (hp q_285 T) nx fun r12 =>
 (.mid 0 [0,5,0,5,0,0,5,7,5,0,5,0,5,0,0,5,6,0,5,5,0] 2 (mkS 56 [vv 0 (.ptr 0 0),(2,.lp 2 0),(3,.lp 3 0),vv 53 (.ptr 0 0),vv 54 r12.v] [cD1,(3,⟨[(i6 x_253),(.str s_258),(.vs 5 true [(.agg [(i6 x_278),(i6 x_279),(.str s_280),(.vs 5 tg_281 l_282),(i6 x_283)])]),(.vs 6 true []),(.vs 6 true []),(i6 x_249)],[]⟩)] r12.H r12.nx))) = some o) : ML C 187 [0,5,0,5,0,0,5,7,5,0,5,0,5,0,0,5,6,0,5] 2 (mkS 56 [vv 0 (.ptr 0 0),(2,.lp 2 0),(3,.lp 3 0),vv 49 (.ptr 0 0),vv 50 (.agg [(i6 x_278),(i6 x_279),(.str s_280),(.vs 5 tg_281 l_282),(i6 x_283)])] [cD1,(3,⟨[(i6 x_253),(.str s_258),(.vs 5 true []),(.vs 6 true []),(.vs 6 true []),(i6 x_249)],[]⟩)] (hp q_285 T) nx) = some o := stM C 2 (fun _ _ => by kernel_rfl) ho
theorem p187_11 {T : Hp} {nx : Nat} {x_249 x_262 x_263 x_267 : Int} {s_264 : List UInt8} {tg_265 tg_274 c_286 : Bool} {l_266 l_275 : List AV} {q_288 : PS} (ho : Tr.val C 187
 (.br c_286
 (.call 42 [(.ptr 0 0)] (hp q_288 T) nx fun r13 =>
 (.mid 1 qD20 2 (mkS 56 [vv 0 (.ptr 0 0),(2,.lp 2 0),(3,.lp 3 0),vb 25 true,vv 26 (.ptr 0 0),vv 27 r13.v] [cD1,(3,⟨[(i6 6),(.str []),(.vs 5 true [(.agg [(i6 x_262),(i6 x_263),(.str s_264),(.vs 5 tg_265 l_266),(i6 x_267)])]),(.vs 6 tg_274 l_275),(.vs 6 true []),(i6 x_249)],[]⟩)] r13.H r13.nx)))
 (.call 214 [(.ptr 0 0)] (hp q_288 T) nx fun r14 =>
 (.mid 0 qD21 2 (mkS 56 [vv 0 (.ptr 0 0),(2,.lp 2 0),(3,.lp 3 0),vb 25 false,vv 31 (.ptr 0 0),vv 32 r14.v] [cD1,(3,⟨[(i6 6),(.str []),(.vs 5 true [(.agg [(i6 x_262),(i6 x_263),(.str s_264),(.vs 5 tg_265 l_266),(i6 x_267)])]),(.vs 6 tg_274 l_275),(.vs 6 true []),(i6 x_249)],[]⟩)] r14.H r14.nx)))) = some o) : ML C 187 [0,5,0,5,0,0,5,6,0,5,0,5,0,5,0,5,0,5,0,0] 2 (mkS 56 [vv 0 (.ptr 0 0),(2,.lp 2 0),(3,.lp 3 0),vv 24 (.ptr 0 0),vb 25 c_286] [cD1,(3,⟨[(i6 6),(.str []),(.vs 5 true [(.agg [(i6 x_262),(i6 x_263),(.str s_264),(.vs 5 tg_265 l_266),(i6 x_267)])]),(.vs 6 tg_274 l_275),(.vs 6 true []),(i6 x_249)],[]⟩)] (hp q_288 T) nx) = some o := stM C 4 (fun _ _ => by kernel_rfl) ho
theorem p187_12 {T : Hp} {nx : Nat} {x_249 x_253 x_278 x_279 x_283 : Int} {s_258 s_280 : List UInt8} {tg_281 : Bool} {l_282 : List AV} {q_290 : PS} (ho : Tr.val C 187
 (.ret ⟨(.agg [(.int .i64 x_253),(.str s_258),(.vs 5 true [(.agg [(.int .i64 x_278),(.int .i64 x_279),(.str s_280),(.vs 5 tg_281 l_282),(.int .i64 x_283)])]),(.vs 6 true []),(.vs 6 true []),(.int .i64 x_249)]),(hp q_290 T),nx⟩) = some o) : ML C 187 [0,5,0,5,0,0,5,7,5,0,5,0,5,0,0,5,6,0,5,5,0] 2 (mkS 56 [vv 0 (.ptr 0 0),(2,.lp 2 0),(3,.lp 3 0),vv 53 (.ptr 0 0),vv 54 (.tuple [])] [cD1,(3,⟨[(i6 x_253),(.str s_258),(.vs 5 true [(.agg [(i6 x_278),(i6 x_279),(.str s_280),(.vs 5 tg_281 l_282),(i6 x_283)])]),(.vs 6 true []),(.vs 6 true []),(i6 x_249)],[]⟩)] (hp q_290 T) nx) = some o := stM C 3 (fun _ _ => by kernel_rfl) ho
theorem p187_13 {T : Hp} {nx : Nat} {x_249 x_262 x_263 x_267 : Int} {s_264 : List UInt8} {tg_265 tg_274 : Bool} {l_266 l_275 : List AV} {q_292 : PS} (ho : Tr.val C 187
 (.call 150 [(.ptr 0 0)] (hp q_292 T) nx fun r15 =>
 (.mid 0 qD22 2 (mkS 56 [vv 0 (.ptr 0 0),(2,.lp 2 0),(3,.lp 3 0),vv 28 (.ptr 0 0),vv 29 r15.v] [cD1,(3,⟨[(i6 6),(.str []),(.vs 5 true [(.agg [(i6 x_262),(i6 x_263),(.str s_264),(.vs 5 tg_265 l_266),(i6 x_267)])]),(.vs 6 tg_274 l_275),(.vs 6 true []),(i6 x_249)],[]⟩)] r15.H r15.nx))) = some o) : ML C 187 qD20 2 (mkS 56 [vv 0 (.ptr 0 0),(2,.lp 2 0),(3,.lp 3 0),vb 25 true,vv 26 (.ptr 0 0),vv 27 (.tuple [])] [cD1,(3,⟨[(i6 6),(.str []),(.vs 5 true [(.agg [(i6 x_262),(i6 x_263),(.str s_264),(.vs 5 tg_265 l_266),(i6 x_267)])]),(.vs 6 tg_274 l_275),(.vs 6 true []),(i6 x_249)],[]⟩)] (hp q_292 T) nx) = some o := stM C 1 (fun _ _ => by kernel_rfl) ho
theorem p187_14 {T : Hp} {nx : Nat} {x_249 x_262 x_263 x_267 : Int} {s_264 : List UInt8} {tg_265 tg_274 : Bool} {l_266 l_275 : List AV} {q_294 : PS} (ho : Tr.val C 187
 (.ret ⟨(.agg [(.int .i64 6),(.str []),(.vs 5 true [(.agg [(.int .i64 x_262),(.int .i64 x_263),(.str s_264),(.vs 5 tg_265 l_266),(.int .i64 x_267)])]),(.vs 6 tg_274 l_275),(.vs 6 true []),(.int .i64 x_249)]),(hp q_294 T),nx⟩) = some o) : ML C 187 qD21 2 (mkS 56 [vv 0 (.ptr 0 0),(2,.lp 2 0),(3,.lp 3 0),vb 25 false,vv 31 (.ptr 0 0),vv 32 (.tuple [])] [cD1,(3,⟨[(i6 6),(.str []),(.vs 5 true [(.agg [(i6 x_262),(i6 x_263),(.str s_264),(.vs 5 tg_265 l_266),(i6 x_267)])]),(.vs 6 tg_274 l_275),(.vs 6 true []),(i6 x_249)],[]⟩)] (hp q_294 T) nx) = some o := stM C 3 (fun _ _ => by kernel_rfl) ho
theorem p187_15 {T : Hp} {nx : Nat} {x_249 x_262 x_263 x_267 : Int} {s_264 : List UInt8} {tg_265 tg_274 tg_295 : Bool} {l_266 l_275 l_296 : List AV} {q_298 : PS} (ho : Tr.val C 187
 (.call 214 [(.ptr 0 0)] (hp q_298 T) nx fun r16 =>
 (.mid 0 qD23 2 (mkS 56 [vv 0 (.ptr 0 0),(2,.lp 2 0),(3,.lp 3 0),vv 31 (.ptr 0 0),vv 32 r16.v] [cD1,(3,⟨[(i6 6),(.str []),(.vs 5 true [(.agg [(i6 x_262),(i6 x_263),(.str s_264),(.vs 5 tg_265 l_266),(i6 x_267)])]),(.vs 6 tg_274 l_275),(.vs 6 tg_295 l_296),(i6 x_249)],[]⟩)] r16.H r16.nx))) = some o) : ML C 187 qD22 2 (mkS 56 [vv 0 (.ptr 0 0),(2,.lp 2 0),(3,.lp 3 0),vv 28 (.ptr 0 0),vv 29 (.vs 6 tg_295 l_296)] [cD1,(3,⟨[(i6 6),(.str []),(.vs 5 true [(.agg [(i6 x_262),(i6 x_263),(.str s_264),(.vs 5 tg_265 l_266),(i6 x_267)])]),(.vs 6 tg_274 l_275),(.vs 6 true []),(i6 x_249)],[]⟩)] (hp q_298 T) nx) = some o := stM C 2 (fun _ _ => by kernel_rfl) ho
theorem p187_16 {T : Hp} {nx : Nat} {x_249 x_262 x_263 x_267 : Int} {s_264 : List UInt8} {tg_265 tg_274 tg_295 : Bool} {l_266 l_275 l_296 : List AV} {q_300 : PS} (ho : Tr.val C 187
 (.ret ⟨(.agg [(.int .i64 6),(.str []),(.vs 5 true [(.agg [(.int .i64 x_262),(.int .i64 x_263),(.str s_264),(.vs 5 tg_265 l_266),(.int .i64 x_267)])]),(.vs 6 tg_274 l_275),(.vs 6 tg_295 l_296),(.int .i64 x_249)]),(hp q_300 T),nx⟩) = some o) : ML C 187 qD23 2 (mkS 56 [vv 0 (.ptr 0 0),(2,.lp 2 0),(3,.lp 3 0),vv 31 (.ptr 0 0),vv 32 (.tuple [])] [cD1,(3,⟨[(i6 6),(.str []),(.vs 5 true [(.agg [(i6 x_262),(i6 x_263),(.str s_264),(.vs 5 tg_265 l_266),(i6 x_267)])]),(.vs 6 tg_274 l_275),(.vs 6 tg_295 l_296),(i6 x_249)],[]⟩)] (hp q_300 T) nx) = some o := stM C 3 (fun _ _ => by kernel_rfl) ho
end Go.Proofs.YtfdklpkfpmkgeaaGreatDoor
end
section
namespace Go.Proofs.YtfdklpkfpmkgeaaGreatDoor
open Go Go.Vai
attribute [local irreducible] goTo bodyOf mkS
variable {C : Nat→Oracle} (hC : Ext C) {T : Hp} {nx : Nat}
theorem av_mk (k n : Int) (s : List UInt8) (tg : Bool) (l : List Ex) (a : Int) : (Ex.mk k n s tg l a).av = .agg [.int .i64 k,.int .i64 n,.str s,.vs 5 tg (exs l),.int .i64 a] := by rw [Ex.av]
theorem exs_nil : exs [] = [] := by rw [exs]
theorem exs_cons (e : Ex) (l : List Ex) : exs (e :: l) = e.av :: exs l := by rw [exs]
def ExW (C : Nat→Oracle) (T : Hp) (nx g : Nat) (args : List AV) (p : PS) (r : Ex × PS) : Prop := calL C g (.ptr 0 0 :: args) (hp p T) nx = some ⟨r.1.av,hp r.2 T,nx⟩
include hC
theorem ex_walk : ∀ f : Nat,
  (∀ n p r,Ok p→n ≤ 6→binF f n p = some r→ExW C T nx 188 [.int .i64 (n : Int)] p r) ∧
  (∀ n e p r,Ok p→n ≤ 5→binL f n e p = some r→∀ (x : List (Nat × Slot)) (fr : List Nat) (a b : Int) (c : List UInt8) (d : Bool) (g : List AV) (h : Int),(x = []∧fr = [] ∨ (∃ c,x = [(55,.val (.bool c) .no)])∧fr = [3]) →
   RL C 188 [0,5,0,0,5,7,5,0,5,0,2,3] (mkS 57 ([(0,.val (.ptr 0 0) .no),(1,.val (.int .i64 (n : Int)) .no),(4,.lp 4 0),(5,.lp 5 0)] ++ x) [(4,⟨[(.int .i64 a),(.int .i64 b),(.str c),(.vs 5 d g),(.int .i64 h)],[3]⟩),(5,⟨e.av.cells,fr⟩)] (hp p T) nx) = some ⟨r.1.av,hp r.2 T,nx⟩) ∧
  (∀ p r,Ok p→unF f p = some r→ExW C T nx 215 [] p r) ∧
  (∀ p r,Ok p→priF f p = some r→ExW C T nx 231 [] p r)
 | 0=>⟨fun _ _ _ _ _ h=>(by rw [binF] at h; cases h),fun _ _ _ _ _ _ h=>(by rw [binL] at h; cases h),fun _ _ _ h=>(by rw [unF] at h; cases h),fun _ _ _ h=>(by rw [priF] at h; cases h)⟩
 | f + 1=>by
  obtain ⟨i1,i2,i3,i4⟩ := ex_walk f
  obtain ⟨j1,j2,j3,j4⟩ := ex_keep f
  unfold ExW at *
  refine ⟨fun n p r hO hn h=>?_,fun n e p r hO hn h x fr a b c d g z hx=>?_,fun p r hO h=>?_,fun p r hO h=>?_⟩
  ·
   rw [binF] at h
   refine p188_c hC (p188_0 ?_)
   simp only [Tr.val]
   split at h
   ·rename_i h6
    refine bT (by omega) ?_
    refine bnd (i3 _ _ hO h) ?_
    obtain ⟨⟨k,m,s,tg,l,q⟩,p'⟩ := r
    simp only [av_mk]
    exact p188_1 rfl
   ·rename_i h6
    obtain ⟨y,h1,h2⟩ := Option.bind_eq_some_iff.1 h
    refine bF (by omega) ?_
    rw [wrap64 (by omega) (by omega),show ((n : Int) + 1) = ((n + 1 : Nat) : Int) by omega]
    refine bnd (i1 _ _ _ hO (by omega) h1) ?_
    obtain ⟨⟨k,m,s,tg,l,q⟩,p'⟩ := y
    simp only [av_mk]
    refine p188_2 ?_
    have := i2 n _ _ r (j1 _ _ _ hO h1).ok (by omega) h2 [] [] 0 0 [] true [] 0 (.inl ⟨rfl,rfl⟩)
    simp only [av_mk,AV.cells] at this
    exact this
  ·
   rw [binL] at h
   obtain ⟨k,m,s,tg,l,q⟩ := e
   simp only [av_mk,AV.cells]
   rcases hx with ⟨rfl,rfl⟩ | ⟨⟨cc,rfl⟩,rfl⟩
   all_goals
    simp only [List.append_nil,List.cons_append,List.nil_append]
    first | refine p188_3 ?_ | refine p188_7 ?_
    simp only [Tr.val,pureL,AV.pure,br_true]
    by_cases h3 : p.kind = 3
    ·refine nF h3 ?_
     rw [if_neg (fun hh=>hh.1 h3)] at h
     injection h with h
     subst h
     simp only [av_mk]
    ·refine nT h3 (bnd (l113 hC p.s) ?_)
     simp only [AV.pure,br_true]
     first | refine p188_4 ?_ | refine p188_8 ?_
     simp only [Tr.val]
     by_cases hl : levelS p.s = (n : Int)
     ·refine bT hl ?_
      rw [if_pos ⟨h3,hl⟩] at h
      obtain ⟨y,h1,h2⟩ := Option.bind_eq_some_iff.1 h
      have hA := PS.adv_ok hO
      refine bnd (l42 hC p hO) ?_
      refine p188_5 ?_
      simp only [Tr.val]
      rw [wrap64 (by omega) (by omega),show ((n : Int) + 1) = ((n + 1 : Nat) : Int) by omega]
      refine bnd (i1 _ _ _ hA (by omega) h1) ?_
      have hY := (j1 _ _ _ hA h1).ok
      obtain ⟨⟨k',m',s',tg',l',q'⟩,p'⟩ := y
      simp only [av_mk]
      refine p188_6 ?_
      simp only [Tr.val]
      refine ct rfl (ct rfl ?_)
      by_cases hn3 : n = 3
      ·refine bT (by omega) ?_
       rw [if_pos hn3] at h2
       injection h2 with h2
       subst h2
       simp only [av_mk,exs_cons,exs_nil]
      ·refine bF (by omega) ?_
       rw [if_neg hn3] at h2
       have := i2 n _ _ r hY (by omega) h2 [(55,.val (.bool false) .no)] [3] a b c d g z (.inr ⟨⟨_,rfl⟩,rfl⟩)
       simp only [av_mk,exs_cons,exs_nil,AV.cells] at this
       exact this
     ·refine bF hl ?_
      rw [if_neg (fun hh=>hl hh.2)] at h
      injection h with h
      subst h
      simp only [av_mk]
  ·
   rw [unF] at h
   refine p215_c hC (p215_0 ?_)
   refine bnd (l82 hC p [45]) ?_
   refine p215_1 ?_
   simp only [Tr.val]
   have go : p.kind ≠ 0→(unF f p.opn.adv).bind (fun r=>some (Ex.mk 6 0 p.s true [r.1] p.tat,r.2.cls)) = some r→ML C 215 [0,5,0,0,5,7,5,0,5,0] 2 (mkS 36 [(0,.val (.ptr 0 0) .no),(2,.lp 2 0),(3,.lp 3 0),(25,.val (.ptr 0 0) .no),(26,.val (.tuple []) .no)] [(2,⟨[(.int .i64 (0)),(.int .i64 (0)),(.str []),(.vs 5 true []),(.int .i64 (0))],[3]⟩),(3,⟨[(.int .i64 (6)),(.int .i64 (0)),(.str p.s),(.vs 5 true []),(.int .i64 p.tat)],[]⟩)] (hp p.opn T) nx) = some ⟨r.1.av,hp r.2 T,nx⟩:=by
    intro hk h
    obtain ⟨y,h1,h2⟩ := Option.bind_eq_some_iff.1 h
    obtain ⟨a1,a2,a3,a4⟩ := opn_adv hO hk
    refine p215_3 ?_
    refine bnd (l42 hC _ (opn_ok hO hk).1) ?_
    refine p215_5 ?_
    refine bnd (i3 _ _ a1 h1) ?_
    have kY := j3 _ _ a1 h1
    obtain ⟨⟨k',m',s',tg',l',q'⟩,p'⟩ := y
    simp only [av_mk]
    refine p215_6 ?_
    refine bnd (l214 hC p' kY.ok.d0 (by have := kY.ok.d1; show p'.depth ≤ 100; simp only at this; omega)) ?_
    injection h2 with h2
    subst h2
    simp only [av_mk,exs_cons,exs_nil]
    exact p215_7 rfl
   cases h45 : p.isG [45]
   ·simp only [Bool.not_false,br_true]
    refine bnd (l82 hC p [33]) ?_
    refine p215_2 ?_
    simp only [Tr.val]
    cases h33 : p.isG [33]
    ·simp only [Bool.not_false,br_true]
     rw [h45,h33,if_neg (by simp)] at h
     refine bnd (i4 _ _ hO h) ?_
     obtain ⟨⟨k',m',s',tg',l',q'⟩,p'⟩ := r
     simp only [av_mk]
     exact p215_4 rfl
    ·simp only [Bool.not_true,br_false]
     rw [if_pos (.inr h33)] at h
     refine bnd (l213 hC p hO) ?_
     exact go (by rw [isG_kind h33]; decide) h
   ·simp only [Bool.not_true,br_false]
    rw [if_pos (.inl h45)] at h
    refine bnd (l213 hC p hO) ?_
    exact go (by rw [isG_kind h45]; decide) h
  ·
   rw [priF] at h
   refine p231_c hC (p231_0 ?_)
   simp only [Tr.val]
   by_cases k2 : p.kind = 2
   ·rw [if_pos k2] at h
    injection h with h
    subst h
    refine bT k2 (bnd (l42 hC p hO) ?_)
    simp only [av_mk,exs_nil]
    exact p231_1 rfl
   rw [if_neg k2] at h
   refine bF k2 ?_
   by_cases k3 : p.kind = 3
   ·rw [if_pos k3] at h
    injection h with h
    subst h
    refine bT k3 (bnd (l42 hC p hO) ?_)
    simp only [av_mk,exs_nil]
    exact p231_2 rfl
   rw [if_neg k3] at h
   refine bF k3 (bnd (l43 hC p wTrue) ?_)
   refine p231_3 ?_
   simp only [Tr.val]
   by_cases kt : p.isW wTrue = true
   ·rw [if_pos kt] at h
    injection h with h
    subst h
    refine ct kt (bnd (l42 hC p hO) ?_)
    simp only [av_mk,exs_nil]
    exact p231_4 rfl
   rw [if_neg kt] at h
   refine cf (by simpa using kt) (bnd (l43 hC p wFalse) ?_)
   refine p231_5 ?_
   simp only [Tr.val]
   by_cases kf : p.isW wFalse = true
   ·rw [if_pos kf] at h
    injection h with h
    subst h
    refine ct kf (bnd (l42 hC p hO) ?_)
    simp only [av_mk,exs_nil]
    exact p231_6 rfl
   rw [if_neg kf] at h
   refine cf (by simpa using kf) (bnd (l43 hC p wSize) ?_)
   refine p231_7 ?_
   simp only [Tr.val]
   by_cases ks : p.isW wSize = true
   ·rw [if_pos ks] at h
    injection h with h
    subst h
    have o1 := PS.adv_ok hO
    have o2 := (Keep.sign o1 [40]).ok
    have o3 := (Keep.name o2).ok
    refine ct ks (bnd (l42 hC p hO) ?_)
    refine p231_8 (bnd (l81 hC _ o1 [40]) ?_)
    refine p231_10 (bnd (l80 hC _ o2) ?_)
    refine p231_13 (bnd (l81 hC _ o3 [41]) ?_)
    simp only [av_mk,exs_nil]
    exact p231_15 rfl
   rw [if_neg ks] at h
   refine cf (by simpa using ks) (bnd (l82 hC p [40]) ?_)
   refine p231_9 ?_
   simp only [Tr.val]
   by_cases kg : p.isG [40] = true
   ·rw [if_pos kg] at h
    obtain ⟨y,h1,h2⟩ := Option.bind_eq_some_iff.1 h
    have hk : p.kind ≠ 0 := by rw [isG_kind kg]; decide
    obtain ⟨a1,a2,a3,a4⟩ := opn_adv hO hk
    have kY := j1 _ _ _ a1 h1
    have kC := cls_keep hO kY.ok (kY.src.trans a2) (kY.dep.trans a3) (by have := kY.mu; omega)
    refine ct kg (bnd (l213 hC p hO) ?_)
    refine p231_11 (bnd (l42 hC _ (opn_ok hO hk).1) ?_)
    have h151 : calL C 151 [.ptr 0 0] (hp p.opn.adv T) nx = some ⟨y.1.av,hp y.2 T,nx⟩:=by
     refine p151_c hC (p151_0 (bnd (i1 _ _ _ a1 (by decide) h1) ?_))
     obtain ⟨⟨k',m',s',tg',l',q'⟩,p'⟩ := y
     simp only [av_mk]
     exact p151_1 rfl
    refine p231_14 (bnd h151 ?_)
    injection h2 with h2
    subst h2
    obtain ⟨⟨k',m',s',tg',l',q'⟩,p'⟩ := y
    simp only [av_mk]
    refine p231_16 (bnd (l214 hC p' kY.ok.d0 (by have := kY.ok.d1; show p'.depth ≤ 100; simp only at this; omega)) ?_)
    refine p231_17 (bnd (l81 hC _ kC.ok [41]) ?_)
    exact p231_18 rfl
   ·rw [if_neg kg] at h
    injection h with h
    subst h
    refine cf (by simpa using kg) (bnd (l80 hC p hO) ?_)
    simp only [av_mk,exs_nil]
    exact p231_12 rfl
end Go.Proofs.YtfdklpkfpmkgeaaGreatDoor
end
section
namespace Go.Proofs.YtfdklpkfpmkgeaaGreatDoor
open Go Go.Vai
attribute [local irreducible] goTo bodyOf mkS
theorem stm_mk (k : Int) (s : List UInt8) (v : List Ex) (tg1 : Bool) (th : List Stm) (tg2 : Bool) (el : List Stm) (a : Int) : (Stm.mk k s v tg1 th tg2 el a).av = .agg [.int .i64 k,.str s,.vs 5 true (exs v),.vs 6 tg1 (stms th),.vs 6 tg2 (stms el),.int .i64 a] := by rw [Stm.av]
theorem stms_nil : stms [] = [] := by rw [stms]
theorem stms_map : ∀ l : List Stm,stms l = l.map Stm.av
 | []=>by rw [stms]; rfl
 | e :: l=>by rw [stms,stms_map l]; rfl
variable {C : Nat→Oracle} (hC : Ext C) {T : Hp} {nx : Nat}
include hC
theorem l151 {f : Nat} {p : PS} {r : Ex × PS} (hO : Ok p) (h : binF f 1 p = some r) : calL C 151 [.ptr 0 0] (hp p T) nx = some ⟨r.1.av,hp r.2 T,nx⟩:=by
 have := (ex_walk (T := T) (nx := nx) hC f).1 1 p r hO (by decide) h
 refine p151_c hC (p151_0 (bnd this ?_))
 obtain ⟨⟨k',m',s',tg',l',q'⟩,p'⟩ := r
 simp only [av_mk]
 exact p151_1 rfl
theorem l186 (p : PS) (hO : Ok p) : calL C 186 [.ptr 0 0] (hp p T) nx = some ⟨(parF p).1.av,hp (parF p).2 T,nx⟩:=by
 refine p186_c hC (p186_0 (bnd (l80 hC p hO) ?_))
 have h148 := l148 (T := T) (nx := nx) hC p.name (Keep.name hO).ok true tyL (by decide)
 refine p186_1 (bnd h148 ?_)
 exact p186_2 rfl
theorem pas_loop : ∀ (f : Nat) (l : List Par) (p : PS) (r : List Par × PS) (tg : Bool),Ok p→l.length + mu p ≤ 20000→pasL f l p = some r→l ≠ [] →
  ∃ tg',RL C 149 [0,5,0,5,0,5,0,0,5,6,0,5,2,3] (mkS 26 [(0,.val (.ptr 0 0) .no),(3,.val (.vs 3 tg (l.map Par.av)) .own)] [] (hp p T) nx) = some ⟨.vs 3 tg' (r.1.map Par.av),hp r.2 T,nx⟩∧(tg = false→tg' = false)
 | 0,_,_,_,_,_,_,h,_=>by cases h
 | f + 1,l,p,r,tg,hO,hb,h,hl=>by
  unfold pasL at h
  split at h
  ·rename_i hg
   have k0 := Keep.adv hO
   have lt := (PS.adv_mu hO).2 (by rw [isG_kind hg]; decide)
   have k1 := parF_keep k0.ok
   have lt' := k1.mu
   obtain ⟨tg',h1,h2⟩ := pas_loop f _ _ r false k1.ok (by rw [List.length_append,List.length_singleton]; omega) h (by simp)
   refine ⟨tg',?_,fun _=>h2 rfl⟩
   refine p149_5 (bnd (l82 hC p [44]) ?_)
   refine p149_6 ?_
   simp only [Tr.val]
   refine ct hg (bnd (l42 hC p hO) ?_)
   refine p149_7 (bnd (l186 hC _ k0.ok) ?_)
   simp only [Par.av]
   refine p149_9 ?_
   simp only [Tr.val,List.length_map]
   refine ct (maxBytes_le (by omega)) (ct (maxBytes_le (by omega)) ?_)
   simp only [List.map_append,List.map_cons,List.map_nil,Par.av] at h1
   exact h1
  ·rename_i hg
   injection h with h
   subst h
   refine ⟨tg,?_,fun h=>h⟩
   refine p149_5 (bnd (l82 hC p [44]) ?_)
   refine p149_6 ?_
   simp only [Tr.val]
   refine cf (by simpa using hg) (bnd (l81 hC p hO [41]) ?_)
   exact p149_8 rfl
theorem l149 {f : Nat} {p : PS} {r : (Bool × List Par) × PS} (hO : Ok p) (h : pasF f p = some r) : calL C 149 [.ptr 0 0] (hp p T) nx = some ⟨.vs 3 r.1.1 (r.1.2.map Par.av),hp r.2 T,nx⟩:=by
 have k0 := Keep.sign hO [40]
 refine p149_c hC (p149_0 (bnd (l81 hC p hO [40]) ?_))
 refine p149_1 (bnd (l82 hC _ [41]) ?_)
 refine p149_2 ?_
 simp only [Tr.val]
 unfold pasF at h
 split at h
 ·rename_i hg
  injection h with h
  subst h
  refine cf (by rw [hg]; rfl) (bnd (l81 hC _ k0.ok [41]) ?_)
  exact p149_4 rfl
 ·rename_i hg
  obtain ⟨x,h1,h2⟩ := Option.map_eq_some_iff.1 h
  subst h2
  have k1 := parF_keep k0.ok
  refine ct (by simpa using hg) (bnd (l186 hC _ k0.ok) ?_)
  simp only [Par.av]
  refine p149_3 ?_
  simp only [Tr.val]
  refine ct rfl (ct rfl ?_)
  obtain ⟨tg',h3,h4⟩ := pas_loop (T := T) (nx := nx) hC f _ _ x false k1.ok (by have := mu_le k1.ok; simp; omega) h1 (by simp)
  rw [h4 rfl] at h3
  exact h3
theorem st_walk : ∀ f : Nat,
  (∀ tg l p r,Ok p→l.length + mu p ≤ 20000→blkL f tg l p = some r→RL C 150 [0,5,0,5,0,5,0,2,3] (mkS 24 [(0,.val (.ptr 0 0) .no),(3,.val (.vs 6 tg (stms l)) .own)] [] (hp p T) nx) = some ⟨.vs 6 r.1.1 (stms r.1.2),hp r.2 T,nx⟩) ∧
  (∀ p r,Ok p→stF f p = some r→calL C 187 [.ptr 0 0] (hp p T) nx = some ⟨r.1.av,hp r.2 T,nx⟩)
 | 0=>⟨fun _ _ _ _ _ _ h=>(by rw [blkL] at h; cases h),fun _ _ _ h=>(by rw [stF] at h; cases h)⟩
 | f + 1=>by
  obtain ⟨i1,i2⟩ := st_walk f
  obtain ⟨j1,j2⟩ := st_keep f
  have h150 : ∀ p r,Ok p→blkL f true [] (p.sign [123]) = some r→calL C 150 [.ptr 0 0] (hp p T) nx = some ⟨.vs 6 r.1.1 (stms r.1.2),hp r.2 T,nx⟩:=by
   intro p r hO h
   have k0 := Keep.sign hO [123]
   refine p150_c hC (p150_0 (bnd (l81 hC p hO [123]) ?_))
   refine p150_1 ?_
   have := i1 true [] _ r k0.ok (by have := mu_le k0.ok; simp; omega) h
   rw [stms_nil] at this
   exact this
  refine ⟨fun tg l p r hO hb h=>?_,fun p r hO h=>?_⟩
  ·rw [blkL] at h
   refine p150_2 ?_
   simp only [Tr.val]
   by_cases h0 : p.err = 0
   ·refine bT h0 (bnd (l82 hC p [125]) ?_)
    refine p150_3 ?_
    simp only [Tr.val]
    cases hg : p.isG [125]
    ·rw [if_pos ⟨h0,hg⟩] at h
     obtain ⟨x,h1,h2⟩ := Option.bind_eq_some_iff.1 h
     obtain ⟨k1,lt⟩ := j2 _ _ hO h1
     have lt := lt h0
     simp only [Bool.not_false,br_true]
     refine bnd (i2 _ _ hO h1) ?_
     have := i1 false (l ++ [x.1]) x.2 r k1.ok (by rw [List.length_append,List.length_singleton]; omega) h2
     obtain ⟨⟨k',s',v',t1,th,t2,el,a'⟩,p'⟩ := x
     simp only [stms_map,List.map_append,List.map_cons,List.map_nil,stm_mk] at this ⊢
     refine p150_5 ?_
     simp only [Tr.val,List.length_map]
     refine ct (maxBytes_le (by omega)) (ct (maxBytes_le (by omega)) ?_)
     exact this
    ·rw [if_neg (fun hh=>by rw [hg] at hh; cases hh.2)] at h
     injection h with h
     subst h
     simp only [Bool.not_true,br_false]
     refine bnd (l81 hC p hO [125]) ?_
     exact p150_4 rfl
   ·rw [if_neg (fun hh=>h0 hh.1)] at h
    injection h with h
    subst h
    refine bF h0 (bnd (l81 hC p hO [125]) ?_)
    exact p150_4 rfl
  ·rw [stF] at h
   refine p187_c hC (p187_0 (bnd (l43 hC p wIf) ?_))
   refine p187_1 ?_
   simp only [Tr.val]
   by_cases hw : p.isW wIf = true
   ·rw [if_pos hw] at h
    have hk : p.kind ≠ 0 := by rw [isW_kind hw]; decide
    obtain ⟨a1,a2,a3,a4⟩ := opn_adv hO hk
    obtain ⟨x,h1,h2⟩ := Option.bind_eq_some_iff.1 h
    have k1 := (ex_keep f).1 _ _ _ a1 h1
    obtain ⟨b,h3,h4⟩ := Option.bind_eq_some_iff.1 h2
    have k2 := k1.trans (Keep.sign k1.ok [123])
    have k3 := k2.trans (j1 _ _ _ _ k2.ok h3)
    refine ct hw (bnd (l213 hC p hO) ?_)
    refine p187_2 (bnd (l42 hC _ (opn_ok hO hk).1) ?_)
    refine p187_4 (bnd (l151 hC a1 h1) ?_)
    obtain ⟨⟨k',m',s',tg',l',q'⟩,p'⟩ := x
    simp only [av_mk]
    refine p187_6 (bnd (h150 _ _ k1.ok h3) ?_)
    refine p187_9 (bnd (l43 hC _ wElse) ?_)
    refine p187_11 ?_
    simp only [Tr.val]
    by_cases he : b.2.isW wElse = true
    ·rw [if_pos he] at h4
     obtain ⟨c,h5,h6⟩ := Option.bind_eq_some_iff.1 h4
     have k4 := k3.trans (Keep.adv k3.ok)
     have k5 := k4.trans (Keep.sign k4.ok [123])
     have k6 := k5.trans (j1 _ _ _ _ k5.ok h5)
     refine ct he (bnd (l42 hC _ k3.ok) ?_)
     refine p187_13 (bnd (h150 _ _ k4.ok h5) ?_)
     refine p187_15 (bnd (l214 hC _ k6.ok.d0 (by have := k6.ok.d1; omega)) ?_)
     injection h6 with h6
     subst h6
     simp only [stm_mk,exs_cons,exs_nil,av_mk]
     exact p187_16 rfl
    ·rw [if_neg he] at h4
     injection h4 with h4
     subst h4
     refine cf (by simpa using he) (bnd (l214 hC _ k3.ok.d0 (by have := k3.ok.d1; omega)) ?_)
     simp only [stm_mk,exs_cons,exs_nil,av_mk,stms_nil]
     exact p187_14 rfl
   ·rw [if_neg hw] at h
    have k1 := Keep.oneF hO stL 0
    have k2 := k1.trans (Keep.name k1.ok)
    have h148 := l148 (T := T) (nx := nx) hC p hO true stL (by decide)
    refine cf (by simpa using hw) (bnd h148 ?_)
    refine p187_3 (bnd (l80 hC _ k1.ok) ?_)
    refine p187_5 ?_
    simp only [Tr.val]
    by_cases h5 : (p.oneF stL 0).1 = 5
    ·rw [if_pos h5] at h
     injection h with h
     subst h
     refine nF h5 (bnd (l81 hC _ k2.ok [59]) ?_)
     rw [h5]
     simp only [stm_mk,exs_nil,stms_nil]
     exact p187_8 rfl
    ·rw [if_neg h5] at h
     obtain ⟨x,h1,h2⟩ := Option.bind_eq_some_iff.1 h
     have k3 := Keep.sign k2.ok [61]
     have k4 := (ex_keep f).1 _ _ _ k3.ok h1
     refine nT h5 (bnd (l81 hC _ k2.ok [61]) ?_)
     refine p187_7 (bnd (l151 hC k3.ok h1) ?_)
     injection h2 with h2
     subst h2
     obtain ⟨⟨k',m',s',tg',l',q'⟩,p'⟩ := x
     simp only [av_mk]
     refine p187_10 (bnd (l81 hC _ k4.ok [59]) ?_)
     simp only [stm_mk,exs_cons,exs_nil,stms_nil,av_mk]
     exact p187_12 rfl
theorem l150 {f : Nat} {p : PS} {r : (Bool × List Stm) × PS} (hO : Ok p) (h : blkF f p = some r) : calL C 150 [.ptr 0 0] (hp p T) nx = some ⟨.vs 6 r.1.1 (stms r.1.2),hp r.2 T,nx⟩:=by
 have k0 := Keep.sign hO [123]
 refine p150_c hC (p150_0 (bnd (l81 hC p hO [123]) ?_))
 refine p150_1 ?_
 have := (st_walk (T := T) (nx := nx) hC f).1 true [] _ r k0.ok (by have := mu_le k0.ok; simp; omega) h
 rw [stms_nil] at this
 exact this
end Go.Proofs.YtfdklpkfpmkgeaaGreatDoor
end
section
namespace Go.Proofs.YtfdklpkfpmkgeaaGreatDoor
open Go Go.Vai
attribute [local irreducible] goTo bodyOf mkS
variable {C : Nat → Oracle} {o : Out}
abbrev cE0 : Nat × Blk := (2,⟨[(.str []),(.vs 4 true []),(.vs 4 true []),(.vs 8 true []),(.vs 2 true []),(i6 0)],[1,2,3,4]⟩)
abbrev cE1 : AV := (.vs 1 true [(.str [105,110,116]),(.str [116,101,120,116])])
abbrev cE2 : Nat × Blk := (2,⟨[(.vs 6 true [])],[0]⟩)
abbrev cE3 : AV := (.vs 1 true [(.str [114,101,103,105,115,116,101,114]),(.str [99,111,117,110,116,101,114]),(.str [109,97,120]),(.str [115,101,116]),(.str [102,108,97,103]),(.str [111,112]),(.str [113,117,101,114,121]),(.str [105,110,100,101,120])])
abbrev cE4 : Nat × Blk := (6,⟨[(.str []),(.vs 3 true []),(.vs 6 true []),(i6 0)],[1,2]⟩)
abbrev cE5 : Nat × Blk := (7,⟨[(.str []),(.vs 3 true []),(i6 0),(i6 0),(.str []),(.vs 5 true []),(i6 0),(i6 0)],[1,5]⟩)
abbrev cE7 : Nat × Blk := (1,⟨[(.str []),(.vs 4 true []),(.vs 4 true []),(.vs 8 true []),(.vs 2 true []),(i6 0)],[1,2,3,4]⟩)
abbrev qE0 : List Nat := [0,5,0,5,0,5,0,5,0,5,0,2,3]
abbrev qE1 : List Nat := [0,5,0,5,0,5,0,5,0,5,0,2,3,0,0,5,7,5,5,5,5,0]
abbrev qE2 : List Nat := [0,5,0,0,5,7,5,0,5,0,5,0,5,0,2,3]
abbrev qE3 : List Nat := [0,5,0,5,2,0,0,5,7,0,5,7,0,5,7,0,5,6,5,6,0,5,0]
abbrev qE4 : List Nat := [0,5,0,5,2,0,0,5,7,0,5,7,0,5,7,0,5,7,5,6,0,5,0]
abbrev qE5 : List Nat := [0,5,0,5,2,0,0,5,7,0,5,7,0,5,7,0,5,7,5,7,0,5,6,0,5,0]
abbrev qE6 : List Nat := [0,5,0,5,2,0,0,5,7,0,5,7,0,5,7,0,5,7,5,7,0,5,7,0,5,6,0,5,0]
abbrev qE7 : List Nat := [0,5,0,5,2,0,0,5,7,0,5,7,0,5,7,0,5,7,5,7,0,5,7,0,5,7,0,5,6,0,5,0]
abbrev qE8 : List Nat := [0,5,0,5,2,0,0,5,7,0,5,6,5,6,0,5,0,5,0,0,5,7,5,0,5]
abbrev qE9 : List Nat := [0,5,0,5,2,0,0,5,7,0,5,7,0,5,6,5,6,0,5,0,5,0,0,5,7,5,0,5]
abbrev qE10 : List Nat := [0,5,0,5,2,0,0,5,7,0,5,7,0,5,7,0,5,6,5,6,0,5,0,5,0,0,5,7,5,0,5]
abbrev qE11 : List Nat := [0,5,0,5,2,0,0,5,7,0,5,7,0,5,7,0,5,7,5,6,0,5,0,5,0,0,5,7,5,0,5]
abbrev qE12 : List Nat := [0,5,0,5,2,0,0,5,7,0,5,7,0,5,7,0,5,7,5,7,0,5,6,0,5,0,5,0]
abbrev qE13 : List Nat := [0,5,0,5,2,0,0,5,7,0,5,7,0,5,7,0,5,7,5,7,0,5,7,0,5,6,0,5,0,5,0]
abbrev qE14 : List Nat := [0,5,0,5,2,0,0,5,7,0,5,7,0,5,7,0,5,7,5,7,0,5,7,0,5,7,0,5,6,0,5,0,5,0,5]
abbrev qE15 : List Nat := [0,5,0,5,2,0,0,5,6,5,6,0,5,0,5,0,0,5,6,5,0,5]
abbrev qE16 : List Nat := [0,5,0,5,2,0,0,5,7,0,5,7,0,5,7,0,5,7,5,7,0,5,6,0,5,0,5,0,5,0]
abbrev qE17 : List Nat := [0,5,0,5,2,0,0,5,7,0,5,7,0,5,7,0,5,7,5,7,0,5,7,0,5,6,0,5,0,5,0,5,0]
abbrev qE18 : List Nat := [0,5,0,5,2,0,0,5,7,0,5,7,0,5,7,0,5,7,5,7,0,5,7,0,5,6,0,5,0,5,0,5,0,5,0]
abbrev qE19 : List Nat := [0,5,0,5,2,0,0,5,7,0,5,7,0,5,7,0,5,7,5,7,0,5,7,0,5,6,0,5,0,5,0,5,0,5,0,5,0,5]
abbrev qE20 : List Nat := [0,5,0,0,5,7,5,0,5,0,5,0,5,0,2,3,0,0,5,6,5,2]
abbrev qE21 : List Nat := [0,5,0,0,5,7,5,0,5,0,5,0,5,0,2,3,0,0,5,7,5,5,5,5,0,0,5,6]
theorem p83_c (hC : Ext C) {q_1 : PS} {s_2 : List UInt8} {tg_3 tg_5 tg_7 tg_9 : Bool} {l_4 l_6 l_8 l_10 : List AV} {x_11 : Int} (ho : RL C 83 [] (mkS 121 [vv 0 (.ptr 0 0),vv 1 (.ptr 1 0)] [] (hp q_1 ((1,⟨[(.str s_2),(.vs 4 tg_3 l_4),(.vs 4 tg_5 l_6),(.vs 8 tg_7 l_8),(.vs 2 tg_9 l_10),(i6 x_11)],[1,2,3,4]⟩) :: Hp.none)) 2) = some o) : calL C 83 [(.ptr 0 0),(.ptr 1 0)] (hp q_1 ((1,⟨[(.str s_2),(.vs 4 tg_3 l_4),(.vs 4 tg_5 l_6),(.vs 8 tg_7 l_8),(.vs 2 tg_9 l_10),(.int .i64 x_11)],[1,2,3,4]⟩) :: Hp.none)) 2 = some o := hC.call rfl (fun _ _ => by kernel_rfl) ho
theorem p83_0 {q_1 : PS} {s_2 : List UInt8} {tg_3 tg_5 tg_7 tg_9 : Bool} {l_4 l_6 l_8 l_10 : List AV} {x_11 : Int} (ho : Tr.val C 83
 (.call 148 [(.ptr 0 0),(.vs 1 true [(.str [114,101,103,105,115,116,101,114]),(.str [99,111,117,110,116,101,114]),(.str [109,97,120]),(.str [115,101,116]),(.str [102,108,97,103]),(.str [111,112]),(.str [113,117,101,114,121]),(.str [105,110,100,101,120])])] (hp q_1 ((1,⟨[(.str s_2),(.vs 4 tg_3 l_4),(.vs 4 tg_5 l_6),(.vs 8 tg_7 l_8),(.vs 2 tg_9 l_10),(.int .i64 x_11)],[1,2,3,4]⟩) :: Hp.none)) 2 fun r1 =>
 (.mid 0 [0] 3 (mkS 121 [vv 0 (.ptr 0 0),vv 1 (.ptr 1 0),vv 9 (.ptr 0 0),vv 10 cE3,vv 11 r1.v] [] r1.H r1.nx))) = some o) : RL C 83 [] (mkS 121 [vv 0 (.ptr 0 0),vv 1 (.ptr 1 0)] [] (hp q_1 ((1,⟨[(.str s_2),(.vs 4 tg_3 l_4),(.vs 4 tg_5 l_6),(.vs 8 tg_7 l_8),(.vs 2 tg_9 l_10),(i6 x_11)],[1,2,3,4]⟩) :: Hp.none)) 2) = some o := stR C 2 (fun _ _ => by kernel_rfl) ho
theorem p83_1 {s_2 : List UInt8} {tg_3 tg_5 tg_7 tg_9 : Bool} {l_4 l_6 l_8 l_10 : List AV} {x_11 x_14 : Int} {q_16 : PS} (ho : Tr.val C 83
 (.br (decide (x_14 = 1))
 (.call 80 [(.ptr 0 0)] (hp q_16 ((1,⟨[(.str s_2),(.vs 4 tg_3 l_4),(.vs 4 tg_5 l_6),(.vs 8 tg_7 l_8),(.vs 2 tg_9 l_10),(.int .i64 x_11)],[1,2,3,4]⟩) :: Hp.none)) 2 fun r2 =>
 (.mid 18 [0,5,0,5,2,0,0,5,6,5,6,0,5,0] 2 (mkS 121 [vv 0 (.ptr 0 0),vv 1 (.ptr 1 0),vi 4 x_14,(5,.lp 5 0),vv 22 (.ptr 0 0),vv 23 r2.v] [(5,⟨[(.str []),(i6 x_14),(i6 0),(i6 0)],[]⟩)] r2.H r2.nx)))
 (.br (decide (x_14 = 2))
 (.call 80 [(.ptr 0 0)] (hp q_16 ((1,⟨[(.str s_2),(.vs 4 tg_3 l_4),(.vs 4 tg_5 l_6),(.vs 8 tg_7 l_8),(.vs 2 tg_9 l_10),(.int .i64 x_11)],[1,2,3,4]⟩) :: Hp.none)) 2 fun r3 =>
 (.mid 15 [0,5,0,5,2,0,0,5,7,0,5,6,5,6,0,5,0] 2 (mkS 121 [vv 0 (.ptr 0 0),vv 1 (.ptr 1 0),vi 4 x_14,(5,.lp 5 0),vv 22 (.ptr 0 0),vv 23 r3.v] [(5,⟨[(.str []),(i6 x_14),(i6 0),(i6 0)],[]⟩)] r3.H r3.nx)))
 (.br (decide (x_14 = 3))
 (.call 80 [(.ptr 0 0)] (hp q_16 ((1,⟨[(.str s_2),(.vs 4 tg_3 l_4),(.vs 4 tg_5 l_6),(.vs 8 tg_7 l_8),(.vs 2 tg_9 l_10),(.int .i64 x_11)],[1,2,3,4]⟩) :: Hp.none)) 2 fun r4 =>
 (.mid 12 [0,5,0,5,2,0,0,5,7,0,5,7,0,5,6,5,6,0,5,0] 2 (mkS 121 [vv 0 (.ptr 0 0),vv 1 (.ptr 1 0),vi 4 x_14,(5,.lp 5 0),vv 22 (.ptr 0 0),vv 23 r4.v] [(5,⟨[(.str []),(i6 x_14),(i6 0),(i6 0)],[]⟩)] r4.H r4.nx)))
 (.br (decide (x_14 = 4))
 (.call 80 [(.ptr 0 0)] (hp q_16 ((1,⟨[(.str s_2),(.vs 4 tg_3 l_4),(.vs 4 tg_5 l_6),(.vs 8 tg_7 l_8),(.vs 2 tg_9 l_10),(.int .i64 x_11)],[1,2,3,4]⟩) :: Hp.none)) 2 fun r5 =>
 (.mid 9 qE3 2 (mkS 121 [vv 0 (.ptr 0 0),vv 1 (.ptr 1 0),vi 4 x_14,(5,.lp 5 0),vv 22 (.ptr 0 0),vv 23 r5.v] [(5,⟨[(.str []),(i6 x_14),(i6 0),(i6 0)],[]⟩)] r5.H r5.nx)))
 (.br (decide (x_14 = 5))
 (.call 80 [(.ptr 0 0)] (hp q_16 ((1,⟨[(.str s_2),(.vs 4 tg_3 l_4),(.vs 4 tg_5 l_6),(.vs 8 tg_7 l_8),(.vs 2 tg_9 l_10),(.int .i64 x_11)],[1,2,3,4]⟩) :: Hp.none)) 2 fun r6 =>
 (.mid 9 qE4 2 (mkS 121 [vv 0 (.ptr 0 0),vv 1 (.ptr 1 0),vi 4 x_14,(5,.lp 5 0),vv 22 (.ptr 0 0),vv 23 r6.v] [(5,⟨[(.str []),(i6 x_14),(i6 0),(i6 0)],[]⟩)] r6.H r6.nx)))
 (.br (decide (x_14 = 6))
 (.call 80 [(.ptr 0 0)] (hp q_16 ((1,⟨[(.str s_2),(.vs 4 tg_3 l_4),(.vs 4 tg_5 l_6),(.vs 8 tg_7 l_8),(.vs 2 tg_9 l_10),(.int .i64 x_11)],[1,2,3,4]⟩) :: Hp.none)) 2 fun r7 =>
 (.mid 6 qE5 2 (mkS 121 [vv 0 (.ptr 0 0),vv 1 (.ptr 1 0),(6,.lp 6 0),vv 49 (.ptr 0 0),vv 50 r7.v] [cE4] r7.H r7.nx)))
 (.br (decide (x_14 = 7))
 (.call 80 [(.ptr 0 0)] (hp q_16 ((1,⟨[(.str s_2),(.vs 4 tg_3 l_4),(.vs 4 tg_5 l_6),(.vs 8 tg_7 l_8),(.vs 2 tg_9 l_10),(.int .i64 x_11)],[1,2,3,4]⟩) :: Hp.none)) 2 fun r8 =>
 (.mid 3 qE6 2 (mkS 121 [vv 0 (.ptr 0 0),vv 1 (.ptr 1 0),(7,.lp 7 0),vv 74 (.ptr 0 0),vv 75 r8.v] [cE5] r8.H r8.nx)))
 (.br (decide (x_14 = 8))
 (.call 80 [(.ptr 0 0)] (hp q_16 ((1,⟨[(.str s_2),(.vs 4 tg_3 l_4),(.vs 4 tg_5 l_6),(.vs 8 tg_7 l_8),(.vs 2 tg_9 l_10),(.int .i64 x_11)],[1,2,3,4]⟩) :: Hp.none)) 2 fun r9 =>
 (.mid 0 qE7 2 (mkS 121 [vv 0 (.ptr 0 0),vv 1 (.ptr 1 0),(8,.lp 8 0),vv 103 (.ptr 0 0),vv 104 r9.v] [(8,⟨[(.str []),(i6 0)],[]⟩)] r9.H r9.nx)))
 (.ret ⟨(.tuple []),(hp q_16 ((1,⟨[(.str s_2),(.vs 4 tg_3 l_4),(.vs 4 tg_5 l_6),(.vs 8 tg_7 l_8),(.vs 2 tg_9 l_10),(.int .i64 x_11)],[1,2,3,4]⟩) :: Hp.none)),2⟩))))))))) = some o) : ML C 83 [0] 3 (mkS 121 [vv 0 (.ptr 0 0),vv 1 (.ptr 1 0),vv 9 (.ptr 0 0),vv 10 cE3,vi 11 x_14] [] (hp q_16 ((1,⟨[(.str s_2),(.vs 4 tg_3 l_4),(.vs 4 tg_5 l_6),(.vs 8 tg_7 l_8),(.vs 2 tg_9 l_10),(i6 x_11)],[1,2,3,4]⟩) :: Hp.none)) 2) = some o := stM C 31 (fun _ _ => by kernel_rfl) ho
theorem p83_2 {s_2 s_17 : List UInt8} {tg_3 tg_5 tg_7 tg_9 : Bool} {l_4 l_6 l_8 l_10 : List AV} {x_11 x_14 x_18 : Int} {q_20 : PS} (ho : Tr.val C 83
 (.br (decide (x_14 = 1))
 (.call 148 [(.ptr 0 0),(.vs 1 true [(.str [105,110,116]),(.str [116,101,120,116])])] (hp q_20 ((1,⟨[(.str s_2),(.vs 4 tg_3 l_4),(.vs 4 tg_5 l_6),(.vs 8 tg_7 l_8),(.vs 2 tg_9 l_10),(.int .i64 x_11)],[1,2,3,4]⟩) :: Hp.none)) 2 fun r10 =>
 (.mid 3 [0,5,0,5,2,0,0,5,6,5,6,0,5,0,5,0,0,5,6] 3 (mkS 121 [vv 0 (.ptr 0 0),vv 1 (.ptr 1 0),(5,.lp 5 0),vb 29 true,vv 30 (.ptr 0 0),vv 31 cE1,vv 32 r10.v] [(5,⟨[(.str s_17),(i6 x_14),(i6 0),(i6 x_18)],[]⟩)] r10.H r10.nx)))
 (.br (Nat.ble (((List.length l_4) + 1) * 40) maxBytes)
 (.br (Nat.ble ((List.length l_4) + 1) maxBytes)
 (.call 81 [(.ptr 0 0),(.str [59])] (hp q_20 ((1,⟨[(.str s_2),(.vs 4 false (l_4 ++ [(.agg [(.str s_17),(.int .i64 x_14),(.int .i64 0),(.int .i64 x_18)])])),(.vs 4 tg_5 l_6),(.vs 8 tg_7 l_8),(.vs 2 tg_9 l_10),(.int .i64 x_11)],[1,2,3,4]⟩) :: Hp.none)) 2 fun r11 =>
 (.mid 0 [0,5,0,5,2,0,0,5,6,5,6,0,5,0,5,0,0,5,7,5,0,5] 2 (mkS 121 [vv 0 (.ptr 0 0),vv 44 (.ptr 0 0),vv 45 r11.v] [(5,⟨[(.str s_17),(i6 x_14),(i6 0),(i6 x_18)],[]⟩)] r11.H r11.nx)))
 .none)
 .none)) = some o) : ML C 83 [0,5,0,5,2,0,0,5,6,5,6,0,5,0] 2 (mkS 121 [vv 0 (.ptr 0 0),vv 1 (.ptr 1 0),vi 4 x_14,(5,.lp 5 0),vv 22 (.ptr 0 0),vv 23 (.tuple [(.str s_17),(i6 x_18)])] [(5,⟨[(.str []),(i6 x_14),(i6 0),(i6 0)],[]⟩)] (hp q_20 ((1,⟨[(.str s_2),(.vs 4 tg_3 l_4),(.vs 4 tg_5 l_6),(.vs 8 tg_7 l_8),(.vs 2 tg_9 l_10),(i6 x_11)],[1,2,3,4]⟩) :: Hp.none)) 2) = some o := stM C 8 (fun _ _ => by kernel_rfl) ho
theorem p83_3 {s_2 s_21 : List UInt8} {tg_3 tg_5 tg_7 tg_9 : Bool} {l_4 l_6 l_8 l_10 : List AV} {x_11 x_14 x_22 : Int} {q_24 : PS} (ho : Tr.val C 83
 (.br (decide (x_14 = 1))
 (.call 148 [(.ptr 0 0),(.vs 1 true [(.str [105,110,116]),(.str [116,101,120,116])])] (hp q_24 ((1,⟨[(.str s_2),(.vs 4 tg_3 l_4),(.vs 4 tg_5 l_6),(.vs 8 tg_7 l_8),(.vs 2 tg_9 l_10),(.int .i64 x_11)],[1,2,3,4]⟩) :: Hp.none)) 2 fun r12 =>
 (.mid 3 [0,5,0,5,2,0,0,5,7,0,5,6,5,6,0,5,0,5,0,0,5,6] 3 (mkS 121 [vv 0 (.ptr 0 0),vv 1 (.ptr 1 0),(5,.lp 5 0),vb 29 true,vv 30 (.ptr 0 0),vv 31 cE1,vv 32 r12.v] [(5,⟨[(.str s_21),(i6 x_14),(i6 0),(i6 x_22)],[]⟩)] r12.H r12.nx)))
 (.br (Nat.ble (((List.length l_4) + 1) * 40) maxBytes)
 (.br (Nat.ble ((List.length l_4) + 1) maxBytes)
 (.call 81 [(.ptr 0 0),(.str [59])] (hp q_24 ((1,⟨[(.str s_2),(.vs 4 false (l_4 ++ [(.agg [(.str s_21),(.int .i64 x_14),(.int .i64 0),(.int .i64 x_22)])])),(.vs 4 tg_5 l_6),(.vs 8 tg_7 l_8),(.vs 2 tg_9 l_10),(.int .i64 x_11)],[1,2,3,4]⟩) :: Hp.none)) 2 fun r13 =>
 (.mid 0 qE8 2 (mkS 121 [vv 0 (.ptr 0 0),vv 44 (.ptr 0 0),vv 45 r13.v] [(5,⟨[(.str s_21),(i6 x_14),(i6 0),(i6 x_22)],[]⟩)] r13.H r13.nx)))
 .none)
 .none)) = some o) : ML C 83 [0,5,0,5,2,0,0,5,7,0,5,6,5,6,0,5,0] 2 (mkS 121 [vv 0 (.ptr 0 0),vv 1 (.ptr 1 0),vi 4 x_14,(5,.lp 5 0),vv 22 (.ptr 0 0),vv 23 (.tuple [(.str s_21),(i6 x_22)])] [(5,⟨[(.str []),(i6 x_14),(i6 0),(i6 0)],[]⟩)] (hp q_24 ((1,⟨[(.str s_2),(.vs 4 tg_3 l_4),(.vs 4 tg_5 l_6),(.vs 8 tg_7 l_8),(.vs 2 tg_9 l_10),(i6 x_11)],[1,2,3,4]⟩) :: Hp.none)) 2) = some o := stM C 8 (fun _ _ => by kernel_rfl) ho
theorem p83_4 {s_2 s_25 : List UInt8} {tg_3 tg_5 tg_7 tg_9 : Bool} {l_4 l_6 l_8 l_10 : List AV} {x_11 x_14 x_26 : Int} {q_28 : PS} (ho : Tr.val C 83
 (.br (decide (x_14 = 1))
 (.call 148 [(.ptr 0 0),(.vs 1 true [(.str [105,110,116]),(.str [116,101,120,116])])] (hp q_28 ((1,⟨[(.str s_2),(.vs 4 tg_3 l_4),(.vs 4 tg_5 l_6),(.vs 8 tg_7 l_8),(.vs 2 tg_9 l_10),(.int .i64 x_11)],[1,2,3,4]⟩) :: Hp.none)) 2 fun r14 =>
 (.mid 3 [0,5,0,5,2,0,0,5,7,0,5,7,0,5,6,5,6,0,5,0,5,0,0,5,6] 3 (mkS 121 [vv 0 (.ptr 0 0),vv 1 (.ptr 1 0),(5,.lp 5 0),vb 29 true,vv 30 (.ptr 0 0),vv 31 cE1,vv 32 r14.v] [(5,⟨[(.str s_25),(i6 x_14),(i6 0),(i6 x_26)],[]⟩)] r14.H r14.nx)))
 (.br (Nat.ble (((List.length l_4) + 1) * 40) maxBytes)
 (.br (Nat.ble ((List.length l_4) + 1) maxBytes)
 (.call 81 [(.ptr 0 0),(.str [59])] (hp q_28 ((1,⟨[(.str s_2),(.vs 4 false (l_4 ++ [(.agg [(.str s_25),(.int .i64 x_14),(.int .i64 0),(.int .i64 x_26)])])),(.vs 4 tg_5 l_6),(.vs 8 tg_7 l_8),(.vs 2 tg_9 l_10),(.int .i64 x_11)],[1,2,3,4]⟩) :: Hp.none)) 2 fun r15 =>
 (.mid 0 qE9 2 (mkS 121 [vv 0 (.ptr 0 0),vv 44 (.ptr 0 0),vv 45 r15.v] [(5,⟨[(.str s_25),(i6 x_14),(i6 0),(i6 x_26)],[]⟩)] r15.H r15.nx)))
 .none)
 .none)) = some o) : ML C 83 [0,5,0,5,2,0,0,5,7,0,5,7,0,5,6,5,6,0,5,0] 2 (mkS 121 [vv 0 (.ptr 0 0),vv 1 (.ptr 1 0),vi 4 x_14,(5,.lp 5 0),vv 22 (.ptr 0 0),vv 23 (.tuple [(.str s_25),(i6 x_26)])] [(5,⟨[(.str []),(i6 x_14),(i6 0),(i6 0)],[]⟩)] (hp q_28 ((1,⟨[(.str s_2),(.vs 4 tg_3 l_4),(.vs 4 tg_5 l_6),(.vs 8 tg_7 l_8),(.vs 2 tg_9 l_10),(i6 x_11)],[1,2,3,4]⟩) :: Hp.none)) 2) = some o := stM C 8 (fun _ _ => by kernel_rfl) ho
theorem p83_5 {s_2 s_29 : List UInt8} {tg_3 tg_5 tg_7 tg_9 : Bool} {l_4 l_6 l_8 l_10 : List AV} {x_11 x_14 x_30 : Int} {q_32 : PS} (ho : Tr.val C 83
 (.br (decide (x_14 = 1))
 (.call 148 [(.ptr 0 0),(.vs 1 true [(.str [105,110,116]),(.str [116,101,120,116])])] (hp q_32 ((1,⟨[(.str s_2),(.vs 4 tg_3 l_4),(.vs 4 tg_5 l_6),(.vs 8 tg_7 l_8),(.vs 2 tg_9 l_10),(.int .i64 x_11)],[1,2,3,4]⟩) :: Hp.none)) 2 fun r16 =>
 (.mid 3 [0,5,0,5,2,0,0,5,7,0,5,7,0,5,7,0,5,6,5,6,0,5,0,5,0,0,5,6] 3 (mkS 121 [vv 0 (.ptr 0 0),vv 1 (.ptr 1 0),(5,.lp 5 0),vb 29 true,vv 30 (.ptr 0 0),vv 31 cE1,vv 32 r16.v] [(5,⟨[(.str s_29),(i6 x_14),(i6 0),(i6 x_30)],[]⟩)] r16.H r16.nx)))
 (.br (Nat.ble (((List.length l_4) + 1) * 40) maxBytes)
 (.br (Nat.ble ((List.length l_4) + 1) maxBytes)
 (.call 81 [(.ptr 0 0),(.str [59])] (hp q_32 ((1,⟨[(.str s_2),(.vs 4 false (l_4 ++ [(.agg [(.str s_29),(.int .i64 x_14),(.int .i64 0),(.int .i64 x_30)])])),(.vs 4 tg_5 l_6),(.vs 8 tg_7 l_8),(.vs 2 tg_9 l_10),(.int .i64 x_11)],[1,2,3,4]⟩) :: Hp.none)) 2 fun r17 =>
 (.mid 0 qE10 2 (mkS 121 [vv 0 (.ptr 0 0),vv 44 (.ptr 0 0),vv 45 r17.v] [(5,⟨[(.str s_29),(i6 x_14),(i6 0),(i6 x_30)],[]⟩)] r17.H r17.nx)))
 .none)
 .none)) = some o) : ML C 83 qE3 2 (mkS 121 [vv 0 (.ptr 0 0),vv 1 (.ptr 1 0),vi 4 x_14,(5,.lp 5 0),vv 22 (.ptr 0 0),vv 23 (.tuple [(.str s_29),(i6 x_30)])] [(5,⟨[(.str []),(i6 x_14),(i6 0),(i6 0)],[]⟩)] (hp q_32 ((1,⟨[(.str s_2),(.vs 4 tg_3 l_4),(.vs 4 tg_5 l_6),(.vs 8 tg_7 l_8),(.vs 2 tg_9 l_10),(i6 x_11)],[1,2,3,4]⟩) :: Hp.none)) 2) = some o := stM C 8 (fun _ _ => by kernel_rfl) ho
theorem p83_6 {s_2 s_33 : List UInt8} {tg_3 tg_5 tg_7 tg_9 : Bool} {l_4 l_6 l_8 l_10 : List AV} {x_11 x_14 x_34 : Int} {q_36 : PS} (ho : Tr.val C 83
 (.br (decide (x_14 = 1))
 (.call 148 [(.ptr 0 0),(.vs 1 true [(.str [105,110,116]),(.str [116,101,120,116])])] (hp q_36 ((1,⟨[(.str s_2),(.vs 4 tg_3 l_4),(.vs 4 tg_5 l_6),(.vs 8 tg_7 l_8),(.vs 2 tg_9 l_10),(.int .i64 x_11)],[1,2,3,4]⟩) :: Hp.none)) 2 fun r18 =>
 (.mid 3 [0,5,0,5,2,0,0,5,7,0,5,7,0,5,7,0,5,7,5,6,0,5,0,5,0,0,5,6] 3 (mkS 121 [vv 0 (.ptr 0 0),vv 1 (.ptr 1 0),(5,.lp 5 0),vb 29 true,vv 30 (.ptr 0 0),vv 31 cE1,vv 32 r18.v] [(5,⟨[(.str s_33),(i6 x_14),(i6 0),(i6 x_34)],[]⟩)] r18.H r18.nx)))
 (.br (Nat.ble (((List.length l_4) + 1) * 40) maxBytes)
 (.br (Nat.ble ((List.length l_4) + 1) maxBytes)
 (.call 81 [(.ptr 0 0),(.str [59])] (hp q_36 ((1,⟨[(.str s_2),(.vs 4 false (l_4 ++ [(.agg [(.str s_33),(.int .i64 x_14),(.int .i64 0),(.int .i64 x_34)])])),(.vs 4 tg_5 l_6),(.vs 8 tg_7 l_8),(.vs 2 tg_9 l_10),(.int .i64 x_11)],[1,2,3,4]⟩) :: Hp.none)) 2 fun r19 =>
 (.mid 0 qE11 2 (mkS 121 [vv 0 (.ptr 0 0),vv 44 (.ptr 0 0),vv 45 r19.v] [(5,⟨[(.str s_33),(i6 x_14),(i6 0),(i6 x_34)],[]⟩)] r19.H r19.nx)))
 .none)
 .none)) = some o) : ML C 83 qE4 2 (mkS 121 [vv 0 (.ptr 0 0),vv 1 (.ptr 1 0),vi 4 x_14,(5,.lp 5 0),vv 22 (.ptr 0 0),vv 23 (.tuple [(.str s_33),(i6 x_34)])] [(5,⟨[(.str []),(i6 x_14),(i6 0),(i6 0)],[]⟩)] (hp q_36 ((1,⟨[(.str s_2),(.vs 4 tg_3 l_4),(.vs 4 tg_5 l_6),(.vs 8 tg_7 l_8),(.vs 2 tg_9 l_10),(i6 x_11)],[1,2,3,4]⟩) :: Hp.none)) 2) = some o := stM C 8 (fun _ _ => by kernel_rfl) ho
theorem p83_7 {s_2 s_37 : List UInt8} {tg_3 tg_5 tg_7 tg_9 : Bool} {l_4 l_6 l_8 l_10 : List AV} {x_11 x_38 : Int} {q_40 : PS} (ho : Tr.val C 83
 (.call 149 [(.ptr 0 0)] (hp q_40 ((1,⟨[(.str s_2),(.vs 4 tg_3 l_4),(.vs 4 tg_5 l_6),(.vs 8 tg_7 l_8),(.vs 2 tg_9 l_10),(.int .i64 x_11)],[1,2,3,4]⟩) :: Hp.none)) 2 fun r20 =>
 (.mid 0 qE12 2 (mkS 121 [vv 0 (.ptr 0 0),vv 1 (.ptr 1 0),(6,.lp 6 0),vv 55 (.ptr 0 0),vv 56 r20.v] [(6,⟨[(.str s_37),(.vs 3 true []),(.vs 6 true []),(i6 x_38)],[1,2]⟩)] r20.H r20.nx))) = some o) : ML C 83 qE5 2 (mkS 121 [vv 0 (.ptr 0 0),vv 1 (.ptr 1 0),(6,.lp 6 0),vv 49 (.ptr 0 0),vv 50 (.tuple [(.str s_37),(i6 x_38)])] [cE4] (hp q_40 ((1,⟨[(.str s_2),(.vs 4 tg_3 l_4),(.vs 4 tg_5 l_6),(.vs 8 tg_7 l_8),(.vs 2 tg_9 l_10),(i6 x_11)],[1,2,3,4]⟩) :: Hp.none)) 2) = some o := stM C 2 (fun _ _ => by kernel_rfl) ho
theorem p83_8 {s_2 s_41 : List UInt8} {tg_3 tg_5 tg_7 tg_9 : Bool} {l_4 l_6 l_8 l_10 : List AV} {x_11 x_42 : Int} {q_44 : PS} (ho : Tr.val C 83
 (.call 149 [(.ptr 0 0)] (hp q_44 ((1,⟨[(.str s_2),(.vs 4 tg_3 l_4),(.vs 4 tg_5 l_6),(.vs 8 tg_7 l_8),(.vs 2 tg_9 l_10),(.int .i64 x_11)],[1,2,3,4]⟩) :: Hp.none)) 2 fun r21 =>
 (.mid 0 qE13 2 (mkS 121 [vv 0 (.ptr 0 0),vv 1 (.ptr 1 0),(7,.lp 7 0),vv 80 (.ptr 0 0),vv 81 r21.v] [(7,⟨[(.str s_41),(.vs 3 true []),(i6 0),(i6 0),(.str []),(.vs 5 true []),(i6 0),(i6 x_42)],[1,5]⟩)] r21.H r21.nx))) = some o) : ML C 83 qE6 2 (mkS 121 [vv 0 (.ptr 0 0),vv 1 (.ptr 1 0),(7,.lp 7 0),vv 74 (.ptr 0 0),vv 75 (.tuple [(.str s_41),(i6 x_42)])] [cE5] (hp q_44 ((1,⟨[(.str s_2),(.vs 4 tg_3 l_4),(.vs 4 tg_5 l_6),(.vs 8 tg_7 l_8),(.vs 2 tg_9 l_10),(i6 x_11)],[1,2,3,4]⟩) :: Hp.none)) 2) = some o := stM C 2 (fun _ _ => by kernel_rfl) ho
theorem p83_9 {s_2 s_45 : List UInt8} {tg_3 tg_5 tg_7 tg_9 : Bool} {l_4 l_6 l_8 l_10 : List AV} {x_11 x_46 : Int} {q_48 : PS} (ho : Tr.val C 83
 (.br (Nat.ble (((List.length l_10) + 1) * 24) maxBytes)
 (.br (Nat.ble ((List.length l_10) + 1) maxBytes)
 (.call 81 [(.ptr 0 0),(.str [59])] (hp q_48 ((1,⟨[(.str s_2),(.vs 4 tg_3 l_4),(.vs 4 tg_5 l_6),(.vs 8 tg_7 l_8),(.vs 2 false (l_10 ++ [(.agg [(.str s_45),(.int .i64 x_46)])])),(.int .i64 x_11)],[1,2,3,4]⟩) :: Hp.none)) 2 fun r22 =>
 (.mid 0 qE14 2 (mkS 121 [vv 0 (.ptr 0 0),vv 119 (.ptr 0 0),vv 120 r22.v] [(8,⟨[(.str s_45),(i6 x_46)],[]⟩)] r22.H r22.nx)))
 .none)
 .none) = some o) : ML C 83 qE7 2 (mkS 121 [vv 0 (.ptr 0 0),vv 1 (.ptr 1 0),(8,.lp 8 0),vv 103 (.ptr 0 0),vv 104 (.tuple [(.str s_45),(i6 x_46)])] [(8,⟨[(.str []),(i6 0)],[]⟩)] (hp q_48 ((1,⟨[(.str s_2),(.vs 4 tg_3 l_4),(.vs 4 tg_5 l_6),(.vs 8 tg_7 l_8),(.vs 2 tg_9 l_10),(i6 x_11)],[1,2,3,4]⟩) :: Hp.none)) 2) = some o := stM C 3 (fun _ _ => by kernel_rfl) ho
theorem p83_10 {s_2 s_17 : List UInt8} {tg_3 tg_5 tg_7 tg_9 : Bool} {l_4 l_6 l_8 l_10 : List AV} {x_11 x_14 x_18 x_49 : Int} {q_51 : PS} (ho : Tr.val C 83
 (.br (Nat.ble (((List.length l_4) + 1) * 40) maxBytes)
 (.br (Nat.ble ((List.length l_4) + 1) maxBytes)
 (.call 81 [(.ptr 0 0),(.str [59])] (hp q_51 ((1,⟨[(.str s_2),(.vs 4 false (l_4 ++ [(.agg [(.str s_17),(.int .i64 x_14),(.int .i64 x_49),(.int .i64 x_18)])])),(.vs 4 tg_5 l_6),(.vs 8 tg_7 l_8),(.vs 2 tg_9 l_10),(.int .i64 x_11)],[1,2,3,4]⟩) :: Hp.none)) 2 fun r23 =>
 (.mid 0 qE15 2 (mkS 121 [vv 0 (.ptr 0 0),vv 44 (.ptr 0 0),vv 45 r23.v] [(5,⟨[(.str s_17),(i6 x_14),(i6 x_49),(i6 x_18)],[]⟩)] r23.H r23.nx)))
 .none)
 .none) = some o) : ML C 83 [0,5,0,5,2,0,0,5,6,5,6,0,5,0,5,0,0,5,6] 3 (mkS 121 [vv 0 (.ptr 0 0),vv 1 (.ptr 1 0),(5,.lp 5 0),vb 29 true,vv 30 (.ptr 0 0),vv 31 cE1,vi 32 x_49] [(5,⟨[(.str s_17),(i6 x_14),(i6 0),(i6 x_18)],[]⟩)] (hp q_51 ((1,⟨[(.str s_2),(.vs 4 tg_3 l_4),(.vs 4 tg_5 l_6),(.vs 8 tg_7 l_8),(.vs 2 tg_9 l_10),(i6 x_11)],[1,2,3,4]⟩) :: Hp.none)) 2) = some o := stM C 3 (fun _ _ => by kernel_rfl) ho

theorem p83_13 {s_2 s_21 : List UInt8} {tg_5 tg_7 tg_9 : Bool} {l_6 l_8 l_10 l_60 : List AV} {x_11 x_14 x_22 : Int} {q_59 : PS} (ho : Tr.val C 83
 (.ret ⟨(.tuple []),(hp q_59 ((1,⟨[(.str s_2),(.vs 4 false l_60),(.vs 4 tg_5 l_6),(.vs 8 tg_7 l_8),(.vs 2 tg_9 l_10),(.int .i64 x_11)],[1,2,3,4]⟩) :: Hp.none)),2⟩) = some o) : ML C 83 qE8 2 (mkS 121 [vv 0 (.ptr 0 0),vv 44 (.ptr 0 0),vv 45 (.tuple [])] [(5,⟨[(.str s_21),(i6 x_14),(i6 0),(i6 x_22)],[]⟩)] (hp q_59 ((1,⟨[(.str s_2),(.vs 4 false l_60),(.vs 4 tg_5 l_6),(.vs 8 tg_7 l_8),(.vs 2 tg_9 l_10),(i6 x_11)],[1,2,3,4]⟩) :: Hp.none)) 2) = some o := stM C 2 (fun _ _ => by kernel_rfl) ho

theorem p83_15 {s_2 s_25 : List UInt8} {tg_5 tg_7 tg_9 : Bool} {l_6 l_8 l_10 l_66 : List AV} {x_11 x_14 x_26 : Int} {q_65 : PS} (ho : Tr.val C 83
 (.ret ⟨(.tuple []),(hp q_65 ((1,⟨[(.str s_2),(.vs 4 false l_66),(.vs 4 tg_5 l_6),(.vs 8 tg_7 l_8),(.vs 2 tg_9 l_10),(.int .i64 x_11)],[1,2,3,4]⟩) :: Hp.none)),2⟩) = some o) : ML C 83 qE9 2 (mkS 121 [vv 0 (.ptr 0 0),vv 44 (.ptr 0 0),vv 45 (.tuple [])] [(5,⟨[(.str s_25),(i6 x_14),(i6 0),(i6 x_26)],[]⟩)] (hp q_65 ((1,⟨[(.str s_2),(.vs 4 false l_66),(.vs 4 tg_5 l_6),(.vs 8 tg_7 l_8),(.vs 2 tg_9 l_10),(i6 x_11)],[1,2,3,4]⟩) :: Hp.none)) 2) = some o := stM C 2 (fun _ _ => by kernel_rfl) ho

theorem p83_17 {s_2 s_29 : List UInt8} {tg_5 tg_7 tg_9 : Bool} {l_6 l_8 l_10 l_72 : List AV} {x_11 x_14 x_30 : Int} {q_71 : PS} (ho : Tr.val C 83
 (.ret ⟨(.tuple []),(hp q_71 ((1,⟨[(.str s_2),(.vs 4 false l_72),(.vs 4 tg_5 l_6),(.vs 8 tg_7 l_8),(.vs 2 tg_9 l_10),(.int .i64 x_11)],[1,2,3,4]⟩) :: Hp.none)),2⟩) = some o) : ML C 83 qE10 2 (mkS 121 [vv 0 (.ptr 0 0),vv 44 (.ptr 0 0),vv 45 (.tuple [])] [(5,⟨[(.str s_29),(i6 x_14),(i6 0),(i6 x_30)],[]⟩)] (hp q_71 ((1,⟨[(.str s_2),(.vs 4 false l_72),(.vs 4 tg_5 l_6),(.vs 8 tg_7 l_8),(.vs 2 tg_9 l_10),(i6 x_11)],[1,2,3,4]⟩) :: Hp.none)) 2) = some o := stM C 2 (fun _ _ => by kernel_rfl) ho

theorem p83_19 {s_2 s_33 : List UInt8} {tg_5 tg_7 tg_9 : Bool} {l_6 l_8 l_10 l_78 : List AV} {x_11 x_14 x_34 : Int} {q_77 : PS} (ho : Tr.val C 83
 (.ret ⟨(.tuple []),(hp q_77 ((1,⟨[(.str s_2),(.vs 4 false l_78),(.vs 4 tg_5 l_6),(.vs 8 tg_7 l_8),(.vs 2 tg_9 l_10),(.int .i64 x_11)],[1,2,3,4]⟩) :: Hp.none)),2⟩) = some o) : ML C 83 qE11 2 (mkS 121 [vv 0 (.ptr 0 0),vv 44 (.ptr 0 0),vv 45 (.tuple [])] [(5,⟨[(.str s_33),(i6 x_14),(i6 0),(i6 x_34)],[]⟩)] (hp q_77 ((1,⟨[(.str s_2),(.vs 4 false l_78),(.vs 4 tg_5 l_6),(.vs 8 tg_7 l_8),(.vs 2 tg_9 l_10),(i6 x_11)],[1,2,3,4]⟩) :: Hp.none)) 2) = some o := stM C 2 (fun _ _ => by kernel_rfl) ho
theorem p83_20 {s_2 s_37 : List UInt8} {tg_3 tg_5 tg_7 tg_9 tg_79 : Bool} {l_4 l_6 l_8 l_10 l_80 : List AV} {x_11 x_38 : Int} {q_82 : PS} (ho : Tr.val C 83
 (.call 150 [(.ptr 0 0)] (hp q_82 ((1,⟨[(.str s_2),(.vs 4 tg_3 l_4),(.vs 4 tg_5 l_6),(.vs 8 tg_7 l_8),(.vs 2 tg_9 l_10),(.int .i64 x_11)],[1,2,3,4]⟩) :: Hp.none)) 2 fun r28 =>
 (.mid 0 qE16 2 (mkS 121 [vv 0 (.ptr 0 0),vv 1 (.ptr 1 0),(6,.lp 6 0),vv 58 (.ptr 0 0),vv 59 r28.v] [(6,⟨[(.str s_37),(.vs 3 tg_79 l_80),(.vs 6 true []),(i6 x_38)],[2]⟩)] r28.H r28.nx))) = some o) : ML C 83 qE12 2 (mkS 121 [vv 0 (.ptr 0 0),vv 1 (.ptr 1 0),(6,.lp 6 0),vv 55 (.ptr 0 0),vv 56 (.vs 3 tg_79 l_80)] [(6,⟨[(.str s_37),(.vs 3 true []),(.vs 6 true []),(i6 x_38)],[1,2]⟩)] (hp q_82 ((1,⟨[(.str s_2),(.vs 4 tg_3 l_4),(.vs 4 tg_5 l_6),(.vs 8 tg_7 l_8),(.vs 2 tg_9 l_10),(i6 x_11)],[1,2,3,4]⟩) :: Hp.none)) 2) = some o := stM C 2 (fun _ _ => by kernel_rfl) ho
theorem p83_21 {s_2 s_41 : List UInt8} {tg_3 tg_5 tg_7 tg_9 tg_83 : Bool} {l_4 l_6 l_8 l_10 l_84 : List AV} {x_11 x_42 : Int} {q_86 : PS} (ho : Tr.val C 83
 (.call 81 [(.ptr 0 0),(.str [61])] (hp q_86 ((1,⟨[(.str s_2),(.vs 4 tg_3 l_4),(.vs 4 tg_5 l_6),(.vs 8 tg_7 l_8),(.vs 2 tg_9 l_10),(.int .i64 x_11)],[1,2,3,4]⟩) :: Hp.none)) 2 fun r29 =>
 (.mid 0 qE17 2 (mkS 121 [vv 0 (.ptr 0 0),vv 1 (.ptr 1 0),(7,.lp 7 0),vv 83 (.ptr 0 0),vv 84 r29.v] [(7,⟨[(.str s_41),(.vs 3 tg_83 l_84),(i6 0),(i6 0),(.str []),(.vs 5 true []),(i6 0),(i6 x_42)],[5]⟩)] r29.H r29.nx))) = some o) : ML C 83 qE13 2 (mkS 121 [vv 0 (.ptr 0 0),vv 1 (.ptr 1 0),(7,.lp 7 0),vv 80 (.ptr 0 0),vv 81 (.vs 3 tg_83 l_84)] [(7,⟨[(.str s_41),(.vs 3 true []),(i6 0),(i6 0),(.str []),(.vs 5 true []),(i6 0),(i6 x_42)],[1,5]⟩)] (hp q_86 ((1,⟨[(.str s_2),(.vs 4 tg_3 l_4),(.vs 4 tg_5 l_6),(.vs 8 tg_7 l_8),(.vs 2 tg_9 l_10),(i6 x_11)],[1,2,3,4]⟩) :: Hp.none)) 2) = some o := stM C 2 (fun _ _ => by kernel_rfl) ho
theorem p83_22 {s_2 s_45 : List UInt8} {tg_3 tg_5 tg_7 : Bool} {l_4 l_6 l_8 l_89 : List AV} {x_11 x_46 : Int} {q_88 : PS} (ho : Tr.val C 83
 (.ret ⟨(.tuple []),(hp q_88 ((1,⟨[(.str s_2),(.vs 4 tg_3 l_4),(.vs 4 tg_5 l_6),(.vs 8 tg_7 l_8),(.vs 2 false l_89),(.int .i64 x_11)],[1,2,3,4]⟩) :: Hp.none)),2⟩) = some o) : ML C 83 qE14 2 (mkS 121 [vv 0 (.ptr 0 0),vv 119 (.ptr 0 0),vv 120 (.tuple [])] [(8,⟨[(.str s_45),(i6 x_46)],[]⟩)] (hp q_88 ((1,⟨[(.str s_2),(.vs 4 tg_3 l_4),(.vs 4 tg_5 l_6),(.vs 8 tg_7 l_8),(.vs 2 false l_89),(i6 x_11)],[1,2,3,4]⟩) :: Hp.none)) 2) = some o := stM C 2 (fun _ _ => by kernel_rfl) ho
theorem p83_23 {s_2 s_17 : List UInt8} {tg_5 tg_7 tg_9 : Bool} {l_6 l_8 l_10 l_92 : List AV} {x_11 x_14 x_18 x_49 : Int} {q_91 : PS} (ho : Tr.val C 83
 (.ret ⟨(.tuple []),(hp q_91 ((1,⟨[(.str s_2),(.vs 4 false l_92),(.vs 4 tg_5 l_6),(.vs 8 tg_7 l_8),(.vs 2 tg_9 l_10),(.int .i64 x_11)],[1,2,3,4]⟩) :: Hp.none)),2⟩) = some o) : ML C 83 qE15 2 (mkS 121 [vv 0 (.ptr 0 0),vv 44 (.ptr 0 0),vv 45 (.tuple [])] [(5,⟨[(.str s_17),(i6 x_14),(i6 x_49),(i6 x_18)],[]⟩)] (hp q_91 ((1,⟨[(.str s_2),(.vs 4 false l_92),(.vs 4 tg_5 l_6),(.vs 8 tg_7 l_8),(.vs 2 tg_9 l_10),(i6 x_11)],[1,2,3,4]⟩) :: Hp.none)) 2) = some o := stM C 2 (fun _ _ => by kernel_rfl) ho


theorem p83_28 {s_2 s_37 : List UInt8} {tg_3 tg_5 tg_7 tg_9 tg_79 tg_105 : Bool} {l_4 l_6 l_8 l_10 l_80 l_106 : List AV} {x_11 x_38 : Int} {q_108 : PS} (ho : Tr.val C 83
 (.br (Nat.ble (((List.length l_6) + 1) * 72) maxBytes)
 (.br (Nat.ble ((List.length l_6) + 1) maxBytes)
 (.ret ⟨(.tuple []),(hp q_108 ((1,⟨[(.str s_2),(.vs 4 tg_3 l_4),(.vs 4 false (l_6 ++ [(.agg [(.str s_37),(.vs 3 tg_79 l_80),(.vs 6 tg_105 l_106),(.int .i64 x_38)])])),(.vs 8 tg_7 l_8),(.vs 2 tg_9 l_10),(.int .i64 x_11)],[1,2,3,4]⟩) :: Hp.none)),2⟩)
 .none)
 .none) = some o) : ML C 83 qE16 2 (mkS 121 [vv 0 (.ptr 0 0),vv 1 (.ptr 1 0),(6,.lp 6 0),vv 58 (.ptr 0 0),vv 59 (.vs 6 tg_105 l_106)] [(6,⟨[(.str s_37),(.vs 3 tg_79 l_80),(.vs 6 true []),(i6 x_38)],[2]⟩)] (hp q_108 ((1,⟨[(.str s_2),(.vs 4 tg_3 l_4),(.vs 4 tg_5 l_6),(.vs 8 tg_7 l_8),(.vs 2 tg_9 l_10),(i6 x_11)],[1,2,3,4]⟩) :: Hp.none)) 2) = some o := stM C 3 (fun _ _ => by kernel_rfl) ho
theorem p83_29 {s_2 s_41 : List UInt8} {tg_3 tg_5 tg_7 tg_9 tg_83 : Bool} {l_4 l_6 l_8 l_10 l_84 : List AV} {x_11 x_42 : Int} {q_110 : PS} (ho : Tr.val C 83
 (.call 151 [(.ptr 0 0)] (hp q_110 ((1,⟨[(.str s_2),(.vs 4 tg_3 l_4),(.vs 4 tg_5 l_6),(.vs 8 tg_7 l_8),(.vs 2 tg_9 l_10),(.int .i64 x_11)],[1,2,3,4]⟩) :: Hp.none)) 2 fun r30 =>
 (.mid 0 qE18 2 (mkS 121 [vv 0 (.ptr 0 0),vv 1 (.ptr 1 0),(7,.lp 7 0),vv 85 (.ptr 0 0),vv 86 r30.v] [(7,⟨[(.str s_41),(.vs 3 tg_83 l_84),(i6 0),(i6 0),(.str []),(.vs 5 true []),(i6 0),(i6 x_42)],[5]⟩)] r30.H r30.nx))) = some o) : ML C 83 qE17 2 (mkS 121 [vv 0 (.ptr 0 0),vv 1 (.ptr 1 0),(7,.lp 7 0),vv 83 (.ptr 0 0),vv 84 (.tuple [])] [(7,⟨[(.str s_41),(.vs 3 tg_83 l_84),(i6 0),(i6 0),(.str []),(.vs 5 true []),(i6 0),(i6 x_42)],[5]⟩)] (hp q_110 ((1,⟨[(.str s_2),(.vs 4 tg_3 l_4),(.vs 4 tg_5 l_6),(.vs 8 tg_7 l_8),(.vs 2 tg_9 l_10),(i6 x_11)],[1,2,3,4]⟩) :: Hp.none)) 2) = some o := stM C 2 (fun _ _ => by kernel_rfl) ho
theorem p83_30 {s_2 s_41 s_113 : List UInt8} {tg_3 tg_5 tg_7 tg_9 tg_83 tg_114 : Bool} {l_4 l_6 l_8 l_10 l_84 l_115 : List AV} {x_11 x_42 x_111 x_112 x_116 : Int} {q_118 : PS} (ho : Tr.val C 83
 (.br (Nat.ble (((List.length l_8) + 1) * 112) maxBytes)
 (.br (Nat.ble ((List.length l_8) + 1) maxBytes)
 (.call 81 [(.ptr 0 0),(.str [59])] (hp q_118 ((1,⟨[(.str s_2),(.vs 4 tg_3 l_4),(.vs 4 tg_5 l_6),(.vs 8 false (l_8 ++ [(.agg [(.str s_41),(.vs 3 tg_83 l_84),(.int .i64 x_111),(.int .i64 x_112),(.str s_113),(.vs 5 tg_114 l_115),(.int .i64 x_116),(.int .i64 x_42)])])),(.vs 2 tg_9 l_10),(.int .i64 x_11)],[1,2,3,4]⟩) :: Hp.none)) 2 fun r31 =>
 (.mid 0 qE19 2 (mkS 121 [vv 0 (.ptr 0 0),vv 98 (.ptr 0 0),vv 99 r31.v] [(7,⟨[(.str s_41),(.vs 3 tg_83 l_84),(i6 x_111),(i6 x_112),(.str s_113),(.vs 5 tg_114 l_115),(i6 x_116),(i6 x_42)],[]⟩)] r31.H r31.nx)))
 .none)
 .none) = some o) : ML C 83 qE18 2 (mkS 121 [vv 0 (.ptr 0 0),vv 1 (.ptr 1 0),(7,.lp 7 0),vv 85 (.ptr 0 0),vv 86 (.agg [(i6 x_111),(i6 x_112),(.str s_113),(.vs 5 tg_114 l_115),(i6 x_116)])] [(7,⟨[(.str s_41),(.vs 3 tg_83 l_84),(i6 0),(i6 0),(.str []),(.vs 5 true []),(i6 0),(i6 x_42)],[5]⟩)] (hp q_118 ((1,⟨[(.str s_2),(.vs 4 tg_3 l_4),(.vs 4 tg_5 l_6),(.vs 8 tg_7 l_8),(.vs 2 tg_9 l_10),(i6 x_11)],[1,2,3,4]⟩) :: Hp.none)) 2) = some o := stM C 3 (fun _ _ => by kernel_rfl) ho
theorem p83_31 {s_2 s_41 s_113 : List UInt8} {tg_3 tg_5 tg_9 tg_83 tg_114 : Bool} {l_4 l_6 l_10 l_84 l_115 l_121 : List AV} {x_11 x_42 x_111 x_112 x_116 : Int} {q_120 : PS} (ho : Tr.val C 83
 (.ret ⟨(.tuple []),(hp q_120 ((1,⟨[(.str s_2),(.vs 4 tg_3 l_4),(.vs 4 tg_5 l_6),(.vs 8 false l_121),(.vs 2 tg_9 l_10),(.int .i64 x_11)],[1,2,3,4]⟩) :: Hp.none)),2⟩) = some o) : ML C 83 qE19 2 (mkS 121 [vv 0 (.ptr 0 0),vv 98 (.ptr 0 0),vv 99 (.tuple [])] [(7,⟨[(.str s_41),(.vs 3 tg_83 l_84),(i6 x_111),(i6 x_112),(.str s_113),(.vs 5 tg_114 l_115),(i6 x_116),(i6 x_42)],[]⟩)] (hp q_120 ((1,⟨[(.str s_2),(.vs 4 tg_3 l_4),(.vs 4 tg_5 l_6),(.vs 8 false l_121),(.vs 2 tg_9 l_10),(i6 x_11)],[1,2,3,4]⟩) :: Hp.none)) 2) = some o := stM C 2 (fun _ _ => by kernel_rfl) ho
theorem p44_c (hC : Ext C) {q_12 : PS} (ho : RL C 44 [] (mkS 30 [vv 0 (.ptr 0 0)] [] (hp q_12 Hp.none) 1) = some o) : calL C 44 [(.ptr 0 0)] (hp q_12 Hp.none) 1 = some o := hC.call rfl (fun _ _ => by kernel_rfl) ho
theorem p44_0 {q_12 : PS} (ho : Tr.val C 44
 (.call 42 [(.ptr 0 0)] (hp q_12 ((1,⟨[(.str []),(.vs 4 true []),(.vs 4 true []),(.vs 8 true []),(.vs 2 true []),(.int .i64 0)],[1,2,3,4]⟩) :: Hp.none)) 2 fun r1 =>
 (.mid 0 [0,5,0,5,0] 2 (mkS 30 [vv 0 (.ptr 0 0),(2,.lp 2 0),vv 3 (.ptr 1 0),vv 4 (.ptr 0 0),vv 5 r1.v] [cE0] r1.H r1.nx))) = some o) : RL C 44 [] (mkS 30 [vv 0 (.ptr 0 0)] [] (hp q_12 Hp.none) 1) = some o := stR C 6 (fun _ _ => by kernel_rfl) ho
theorem p44_1 {q_123 : PS} (ho : Tr.val C 44
 (.call 80 [(.ptr 0 0)] (hp q_123 ((1,⟨[(.str []),(.vs 4 true []),(.vs 4 true []),(.vs 8 true []),(.vs 2 true []),(.int .i64 0)],[1,2,3,4]⟩) :: Hp.none)) 2 fun r2 =>
 (.mid 0 [0,5,0,5,0,5,0] 2 (mkS 30 [vv 0 (.ptr 0 0),(2,.lp 2 0),vv 3 (.ptr 1 0),vv 7 (.ptr 0 0),vv 8 r2.v] [cE0] r2.H r2.nx))) = some o) : ML C 44 [0,5,0,5,0] 2 (mkS 30 [vv 0 (.ptr 0 0),(2,.lp 2 0),vv 3 (.ptr 1 0),vv 4 (.ptr 0 0),vv 5 (.tuple [])] [cE0] (hp q_123 (cE7 :: Hp.none)) 2) = some o := stM C 2 (fun _ _ => by kernel_rfl) ho
theorem p44_2 {s_124 : List UInt8} {x_125 : Int} {q_127 : PS} (ho : Tr.val C 44
 (.call 81 [(.ptr 0 0),(.str [123])] (hp q_127 ((1,⟨[(.str s_124),(.vs 4 true []),(.vs 4 true []),(.vs 8 true []),(.vs 2 true []),(.int .i64 x_125)],[1,2,3,4]⟩) :: Hp.none)) 2 fun r3 =>
 (.mid 0 [0,5,0,5,0,5,0,5,0] 2 (mkS 30 [vv 0 (.ptr 0 0),(2,.lp 2 0),vv 3 (.ptr 1 0),vv 13 (.ptr 0 0),vv 14 r3.v] [cE0] r3.H r3.nx))) = some o) : ML C 44 [0,5,0,5,0,5,0] 2 (mkS 30 [vv 0 (.ptr 0 0),(2,.lp 2 0),vv 3 (.ptr 1 0),vv 7 (.ptr 0 0),vv 8 (.tuple [(.str s_124),(i6 x_125)])] [cE0] (hp q_127 (cE7 :: Hp.none)) 2) = some o := stM C 2 (fun _ _ => by kernel_rfl) ho
theorem p44_3 {s_124 : List UInt8} {x_125 : Int} {q_129 : PS} (ho : Tr.val C 44
 (.run 0 qE0 (mkS 30 [vv 0 (.ptr 0 0),(2,.lp 2 0),vv 3 (.ptr 1 0)] [cE0] (hp q_129 ((1,⟨[(.str s_124),(.vs 4 true []),(.vs 4 true []),(.vs 8 true []),(.vs 2 true []),(i6 x_125)],[1,2,3,4]⟩) :: Hp.none)) 2)) = some o) : ML C 44 [0,5,0,5,0,5,0,5,0] 2 (mkS 30 [vv 0 (.ptr 0 0),(2,.lp 2 0),vv 3 (.ptr 1 0),vv 13 (.ptr 0 0),vv 14 (.tuple [])] [cE0] (hp q_129 ((1,⟨[(.str s_124),(.vs 4 true []),(.vs 4 true []),(.vs 8 true []),(.vs 2 true []),(i6 x_125)],[1,2,3,4]⟩) :: Hp.none)) 2) = some o := stM C 3 (fun _ _ => by kernel_rfl) ho
theorem p44_4 {s_130 s_141 : List UInt8} {tg_131 tg_133 tg_135 tg_137 tg_142 tg_144 tg_146 tg_148 : Bool} {l_132 l_134 l_136 l_138 l_143 l_145 l_147 l_149 : List AV} {x_139 x_150 : Int} {q_140 : PS} (ho : Tr.val C 44
 (.br (decide (q_140.err = 0))
 (.call 82 [(.ptr 0 0),(.str [125])] (hp q_140 ((1,⟨[(.str s_141),(.vs 4 tg_142 l_143),(.vs 4 tg_144 l_145),(.vs 8 tg_146 l_147),(.vs 2 tg_148 l_149),(.int .i64 x_150)],[1,2,3,4]⟩) :: Hp.none)) 2 fun r4 =>
 (.mid 4 [0,5,0,5,0,5,0,5,0,5,0,2,3,0,0] 8 (mkS 30 [vv 0 (.ptr 0 0),(2,.lp 2 0),vv 3 (.ptr 1 0),vv 15 (.ptr 0 0),vv 16 (.ptr 0 0),vv 17 (.ptr 0 7),vi 18 q_140.err,vb 19 (decide (q_140.err = 0)),vb 20 true,vv 21 (.ptr 0 0),vv 22 r4.v] [(2,⟨[(.str s_130),(.vs 4 tg_131 l_132),(.vs 4 tg_133 l_134),(.vs 8 tg_135 l_136),(.vs 2 tg_137 l_138),(i6 x_139)],[1,2,3,4]⟩)] r4.H r4.nx)))
 (.call 81 [(.ptr 0 0),(.str [125])] (hp q_140 ((1,⟨[(.str s_141),(.vs 4 tg_142 l_143),(.vs 4 tg_144 l_145),(.vs 8 tg_146 l_147),(.vs 2 tg_148 l_149),(.int .i64 x_150)],[1,2,3,4]⟩) :: Hp.none)) 2 fun r5 =>
 (.mid 0 qE1 2 (mkS 30 [vv 0 (.ptr 0 0),(2,.lp 2 0),vv 3 (.ptr 1 0),vb 24 false,vv 27 (.ptr 0 0),vv 28 r5.v] [(2,⟨[(.str s_130),(.vs 4 tg_131 l_132),(.vs 4 tg_133 l_134),(.vs 8 tg_135 l_136),(.vs 2 tg_137 l_138),(i6 x_139)],[1,2,3,4]⟩)] r5.H r5.nx)))) = some o) : RL C 44 qE0 (mkS 30 [vv 0 (.ptr 0 0),(2,.lp 2 0),vv 3 (.ptr 1 0)] [(2,⟨[(.str s_130),(.vs 4 tg_131 l_132),(.vs 4 tg_133 l_134),(.vs 8 tg_135 l_136),(.vs 2 tg_137 l_138),(i6 x_139)],[1,2,3,4]⟩)] (hp q_140 ((1,⟨[(.str s_141),(.vs 4 tg_142 l_143),(.vs 4 tg_144 l_145),(.vs 8 tg_146 l_147),(.vs 2 tg_148 l_149),(i6 x_150)],[1,2,3,4]⟩) :: Hp.none)) 2) = some o := stR C 7 (fun _ _ => by kernel_rfl) ho
theorem p44_5 {s_130 s_141 : List UInt8} {tg_131 tg_133 tg_135 tg_137 tg_142 tg_144 tg_146 tg_148 c_151 c_154 : Bool} {l_132 l_134 l_136 l_138 l_143 l_145 l_147 l_149 : List AV} {x_139 x_150 x_153 : Int} {q_155 : PS} (ho : Tr.val C 44
 (.br (!c_151)
 (.call 83 [(.ptr 0 0),(.ptr 1 0)] (hp q_155 ((1,⟨[(.str s_141),(.vs 4 tg_142 l_143),(.vs 4 tg_144 l_145),(.vs 8 tg_146 l_147),(.vs 2 tg_148 l_149),(.int .i64 x_150)],[1,2,3,4]⟩) :: Hp.none)) 2 fun r6 =>
 (.mid 0 [0,5,0,5,0,5,0,5,0,5,0,2,3,0,0,5,6,5,2] 2 (mkS 30 [vv 0 (.ptr 0 0),(2,.lp 2 0),vv 3 (.ptr 1 0),vb 24 true,vv 25 (.ptr 0 0),vv 26 r6.v] [(2,⟨[(.str s_130),(.vs 4 tg_131 l_132),(.vs 4 tg_133 l_134),(.vs 8 tg_135 l_136),(.vs 2 tg_137 l_138),(i6 x_139)],[1,2,3,4]⟩)] r6.H r6.nx)))
 (.call 81 [(.ptr 0 0),(.str [125])] (hp q_155 ((1,⟨[(.str s_141),(.vs 4 tg_142 l_143),(.vs 4 tg_144 l_145),(.vs 8 tg_146 l_147),(.vs 2 tg_148 l_149),(.int .i64 x_150)],[1,2,3,4]⟩) :: Hp.none)) 2 fun r7 =>
 (.mid 0 qE1 2 (mkS 30 [vv 0 (.ptr 0 0),(2,.lp 2 0),vv 3 (.ptr 1 0),vb 24 false,vv 27 (.ptr 0 0),vv 28 r7.v] [(2,⟨[(.str s_130),(.vs 4 tg_131 l_132),(.vs 4 tg_133 l_134),(.vs 8 tg_135 l_136),(.vs 2 tg_137 l_138),(i6 x_139)],[1,2,3,4]⟩)] r7.H r7.nx)))) = some o) : ML C 44 [0,5,0,5,0,5,0,5,0,5,0,2,3,0,0] 8 (mkS 30 [vv 0 (.ptr 0 0),(2,.lp 2 0),vv 3 (.ptr 1 0),vv 15 (.ptr 0 0),vv 16 (.ptr 0 0),vv 17 (.ptr 0 7),vi 18 x_153,vb 19 c_154,vb 20 true,vv 21 (.ptr 0 0),vb 22 c_151] [(2,⟨[(.str s_130),(.vs 4 tg_131 l_132),(.vs 4 tg_133 l_134),(.vs 8 tg_135 l_136),(.vs 2 tg_137 l_138),(i6 x_139)],[1,2,3,4]⟩)] (hp q_155 ((1,⟨[(.str s_141),(.vs 4 tg_142 l_143),(.vs 4 tg_144 l_145),(.vs 8 tg_146 l_147),(.vs 2 tg_148 l_149),(i6 x_150)],[1,2,3,4]⟩) :: Hp.none)) 2) = some o := stM C 4 (fun _ _ => by kernel_rfl) ho
theorem p44_6 {s_130 s_141 : List UInt8} {tg_131 tg_133 tg_135 tg_137 tg_142 tg_144 tg_146 tg_148 : Bool} {l_132 l_134 l_136 l_138 l_143 l_145 l_147 l_149 : List AV} {x_139 x_150 : Int} {q_157 : PS} (ho : Tr.val C 44
 (.ret ⟨(.agg [(.str s_141),(.vs 4 tg_142 l_143),(.vs 4 tg_144 l_145),(.vs 8 tg_146 l_147),(.vs 2 tg_148 l_149),(.int .i64 x_150)]),(hp q_157 ((1,⟨[(.str s_141),(.vs 4 tg_142 l_143),(.vs 4 tg_144 l_145),(.vs 8 tg_146 l_147),(.vs 2 tg_148 l_149),(.int .i64 x_150)],[1,2,3,4]⟩) :: Hp.none)),2⟩) = some o) : ML C 44 qE1 2 (mkS 30 [vv 0 (.ptr 0 0),(2,.lp 2 0),vv 3 (.ptr 1 0),vb 24 false,vv 27 (.ptr 0 0),vv 28 (.tuple [])] [(2,⟨[(.str s_130),(.vs 4 tg_131 l_132),(.vs 4 tg_133 l_134),(.vs 8 tg_135 l_136),(.vs 2 tg_137 l_138),(i6 x_139)],[1,2,3,4]⟩)] (hp q_157 ((1,⟨[(.str s_141),(.vs 4 tg_142 l_143),(.vs 4 tg_144 l_145),(.vs 8 tg_146 l_147),(.vs 2 tg_148 l_149),(i6 x_150)],[1,2,3,4]⟩) :: Hp.none)) 2) = some o := stM C 3 (fun _ _ => by kernel_rfl) ho
theorem p44_7 {s_130 s_159 : List UInt8} {tg_131 tg_133 tg_135 tg_137 tg_160 tg_162 tg_164 tg_166 : Bool} {l_132 l_134 l_136 l_138 l_161 l_163 l_165 l_167 : List AV} {x_139 x_168 : Int} {q_169 : PS} (ho : Tr.val C 44
 (.run 0 qE0 (mkS 30 [vv 0 (.ptr 0 0),(2,.lp 2 0),vv 3 (.ptr 1 0)] [(2,⟨[(.str s_130),(.vs 4 tg_131 l_132),(.vs 4 tg_133 l_134),(.vs 8 tg_135 l_136),(.vs 2 tg_137 l_138),(i6 x_139)],[1,2,3,4]⟩)] (hp q_169 ((1,⟨[(.str s_159),(.vs 4 tg_160 l_161),(.vs 4 tg_162 l_163),(.vs 8 tg_164 l_165),(.vs 2 tg_166 l_167),(i6 x_168)],[1,2,3,4]⟩) :: Hp.none)) 2)) = some o) : ML C 44 [0,5,0,5,0,5,0,5,0,5,0,2,3,0,0,5,6,5,2] 2 (mkS 30 [vv 0 (.ptr 0 0),(2,.lp 2 0),vv 3 (.ptr 1 0),vb 24 true,vv 25 (.ptr 0 0),vv 26 (.tuple [])] [(2,⟨[(.str s_130),(.vs 4 tg_131 l_132),(.vs 4 tg_133 l_134),(.vs 8 tg_135 l_136),(.vs 2 tg_137 l_138),(i6 x_139)],[1,2,3,4]⟩)] (hp q_169 ((1,⟨[(.str s_159),(.vs 4 tg_160 l_161),(.vs 4 tg_162 l_163),(.vs 8 tg_164 l_165),(.vs 2 tg_166 l_167),(i6 x_168)],[1,2,3,4]⟩) :: Hp.none)) 2) = some o := stM C 2 (fun _ _ => by kernel_rfl) ho
theorem p20_c (hC : Ext C) {s_13 : List UInt8} (ho : RL C 20 [] (mk0 54 [vt 0 s_13]) = some o) : calL C 20 [(.str s_13)] Hp.none 0 = some o := hC.call rfl (fun _ _ => by kernel_rfl) ho
theorem p20_0 {s_13 : List UInt8} (ho : Tr.val C 20
 (.br (decide (4000 < (((List.length s_13) : Nat) : Int)))
 (.ret ⟨(.tuple [(.agg [(.vs 6 true [])]),(.int .i64 0),(.int .i64 3)]),Hp.none,0⟩)
 (.call 42 [(.ptr 0 0)] (hp ⟨s_13,0,0,[],0,0,0,0,0⟩ Hp.none) 1 fun r1 =>
 (.mid 0 [0,5,0,0,5,7,5,0,5,0] 2 (mkS 54 [(2,.lp 2 0),vv 5 (.ptr 0 0),vv 15 (.ptr 0 0),vv 16 r1.v] [cE2] r1.H r1.nx)))) = some o) : RL C 20 [] (mk0 54 [vt 0 s_13]) = some o := stR C 11 (fun _ _ => by kernel_rfl) ho
theorem p20_1 {q_173 : PS} (ho : Tr.val C 20
 (.run 0 qE2 (mkS 54 [(2,.lp 2 0),vv 5 (.ptr 0 0),(6,.lp 6 0)] [cE2,(6,⟨[(.vs 6 true [])],[0]⟩)] (hp q_173 Hp.none) 1)) = some o) : ML C 20 [0,5,0,0,5,7,5,0,5,0] 2 (mkS 54 [(2,.lp 2 0),vv 5 (.ptr 0 0),vv 15 (.ptr 0 0),vv 16 (.tuple [])] [cE2] (hp q_173 Hp.none) 1) = some o := stM C 5 (fun _ _ => by kernel_rfl) ho
theorem p20_2 {tg_174 tg_176 : Bool} {l_175 l_177 : List AV} {q_178 : PS} (ho : Tr.val C 20
 (.call 43 [(.ptr 0 0),(.str [116,121,112,101])] (hp q_178 Hp.none) 1 fun r2 =>
 (.mid 0 [0,5,0,0,5,7,5,0,5,0,5,0,5,0,2,3,0,0] 2 (mkS 54 [(2,.lp 2 0),vv 5 (.ptr 0 0),(6,.lp 6 0),vv 17 (.ptr 0 0),vv 18 r2.v] [(2,⟨[(.vs 6 tg_174 l_175)],[0]⟩),(6,⟨[(.vs 6 tg_176 l_177)],[0]⟩)] r2.H r2.nx))) = some o) : RL C 20 qE2 (mkS 54 [(2,.lp 2 0),vv 5 (.ptr 0 0),(6,.lp 6 0)] [(2,⟨[(.vs 6 tg_174 l_175)],[0]⟩),(6,⟨[(.vs 6 tg_176 l_177)],[0]⟩)] (hp q_178 Hp.none) 1) = some o := stR C 3 (fun _ _ => by kernel_rfl) ho
theorem p20_3 {tg_174 tg_176 c_179 : Bool} {l_175 l_177 : List AV} {q_181 : PS} (ho : Tr.val C 20
 (.br c_179
 (.call 44 [(.ptr 0 0)] (hp q_181 Hp.none) 1 fun r3 =>
 (.mid 11 qE20 4 (mkS 54 [(2,.lp 2 0),vv 5 (.ptr 0 0),(6,.lp 6 0),vb 18 true,(19,.lp 6 0),(20,.val (.vs 6 tg_176 l_177) (.lL 6 0)),vv 21 (.ptr 0 0),vv 22 r3.v] [(2,⟨[(.vs 6 tg_174 l_175)],[0]⟩),(6,⟨[(.vs 6 tg_176 l_177)],[0]⟩)] r3.H r3.nx)))
 (.br (!(decide (q_181.kind = 0)))
 (.call 45 [(.ptr 0 0),(.int .i64 11),(.int .i64 q_181.tat)] (hp q_181 Hp.none) 1 fun r4 =>
 (.mid 8 qE21 7 (mkS 54 [(2,.lp 2 0),vv 5 (.ptr 0 0),(6,.lp 6 0),vb 31 true,vv 32 (.ptr 0 0),vv 33 (.ptr 0 0),vv 34 (.ptr 0 0),vv 35 (.ptr 0 2),vv 36 (.ptr 0 5),vi 37 q_181.tat,vv 38 r4.v] [(2,⟨[(.vs 6 tg_174 l_175)],[0]⟩),(6,⟨[(.vs 6 tg_176 l_177)],[0]⟩)] r4.H r4.nx)))
 (.br (!(decide (q_181.err = 0)))
 (.ret ⟨(.tuple [(.agg [(.vs 6 true [])]),(.int .i64 q_181.eat),(.int .i64 q_181.err)]),(hp q_181 Hp.none),1⟩)
 (.ret ⟨(.tuple [(.agg [(.vs 6 tg_176 l_177)]),(.int .i64 0),(.int .i64 0)]),(hp q_181 Hp.none),1⟩)))) = some o) : ML C 20 [0,5,0,0,5,7,5,0,5,0,5,0,5,0,2,3,0,0] 2 (mkS 54 [(2,.lp 2 0),vv 5 (.ptr 0 0),(6,.lp 6 0),vv 17 (.ptr 0 0),vb 18 c_179] [(2,⟨[(.vs 6 tg_174 l_175)],[0]⟩),(6,⟨[(.vs 6 tg_176 l_177)],[0]⟩)] (hp q_181 Hp.none) 1) = some o := stM C 15 (fun _ _ => by kernel_rfl) ho
theorem p20_4 {tg_174 tg_176 tg_183 tg_185 tg_187 tg_189 tg_194 tg_196 tg_198 tg_200 : Bool} {l_175 l_177 l_184 l_186 l_188 l_190 l_195 l_197 l_199 l_201 : List AV} {s_182 s_193 : List UInt8} {x_191 x_202 : Int} {q_203 : PS} (ho : Tr.val C 20
 (.br (Nat.ble (((List.length l_177) + 1) * 120) maxBytes)
 (.br (Nat.ble ((List.length l_177) + 1) maxBytes)
 (.br (dropOk 1 (mkS 54 [(2,.lp 2 0),vv 5 (.ptr 0 0),(6,.lp 6 0)] [(2,⟨[(.vs 6 tg_174 l_175)],[0]⟩),(6,⟨[(.vs 6 false (l_177 ++ [(.agg [(.str s_182),(.vs 4 tg_183 l_184),(.vs 4 tg_185 l_186),(.vs 8 tg_187 l_188),(.vs 2 tg_189 l_190),(i6 x_191)])]))],[0]⟩)] (hp q_203 ((1,⟨[(.str s_193),(.vs 4 tg_194 l_195),(.vs 4 tg_196 l_197),(.vs 8 tg_198 l_199),(.vs 2 tg_200 l_201),(i6 x_202)],[1,2,3,4]⟩) :: Hp.none)) 2))
 (.run 0 qE2 (mkS 54 [(2,.lp 2 0),vv 5 (.ptr 0 0),(6,.lp 6 0)] [(2,⟨[(.vs 6 tg_174 l_175)],[0]⟩),(6,⟨[(.vs 6 false (l_177 ++ [(.agg [(.str s_182),(.vs 4 tg_183 l_184),(.vs 4 tg_185 l_186),(.vs 8 tg_187 l_188),(.vs 2 tg_189 l_190),(i6 x_191)])]))],[0]⟩)] (hp q_203 Hp.none) 1))
 .none)
 .none)
 .none) = some o) : ML C 20 qE20 4 (mkS 54 [(2,.lp 2 0),vv 5 (.ptr 0 0),(6,.lp 6 0),vb 18 true,(19,.lp 6 0),(20,.val (.vs 6 tg_176 l_177) (.lL 6 0)),vv 21 (.ptr 0 0),vv 22 (.agg [(.str s_182),(.vs 4 tg_183 l_184),(.vs 4 tg_185 l_186),(.vs 8 tg_187 l_188),(.vs 2 tg_189 l_190),(i6 x_191)])] [(2,⟨[(.vs 6 tg_174 l_175)],[0]⟩),(6,⟨[(.vs 6 tg_176 l_177)],[0]⟩)] (hp q_203 ((1,⟨[(.str s_193),(.vs 4 tg_194 l_195),(.vs 4 tg_196 l_197),(.vs 8 tg_198 l_199),(.vs 2 tg_200 l_201),(i6 x_202)],[1,2,3,4]⟩) :: Hp.none)) 2) = some o := stM C 2 (fun _ _ => by kernel_rfl) ho
theorem p20_5 {tg_174 tg_176 : Bool} {l_175 l_177 : List AV} {x_205 : Int} {q_206 : PS} (ho : Tr.val C 20
 (.br (!(decide (q_206.err = 0)))
 (.ret ⟨(.tuple [(.agg [(.vs 6 true [])]),(.int .i64 q_206.eat),(.int .i64 q_206.err)]),(hp q_206 Hp.none),1⟩)
 (.ret ⟨(.tuple [(.agg [(.vs 6 tg_176 l_177)]),(.int .i64 0),(.int .i64 0)]),(hp q_206 Hp.none),1⟩)) = some o) : ML C 20 qE21 7 (mkS 54 [(2,.lp 2 0),vv 5 (.ptr 0 0),(6,.lp 6 0),vb 31 true,vv 32 (.ptr 0 0),vv 33 (.ptr 0 0),vv 34 (.ptr 0 0),vv 35 (.ptr 0 2),vv 36 (.ptr 0 5),vi 37 x_205,vv 38 (.tuple [])] [(2,⟨[(.vs 6 tg_174 l_175)],[0]⟩),(6,⟨[(.vs 6 tg_176 l_177)],[0]⟩)] (hp q_206 Hp.none) 1) = some o := stM C 8 (fun _ _ => by kernel_rfl) ho
end Go.Proofs.YtfdklpkfpmkgeaaGreatDoor
end
