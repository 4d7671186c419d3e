/- Stage laws,printed by gen_p.py. -/
import Derived.Test.YtfdklpkfpmkgeaaGreatDoorM10
set_option linter.unusedSimpArgs false
set_option linter.unusedVariables false
set_option linter.unusedSectionVars false
set_option linter.unnecessarySimpa false
section
namespace Go.Proofs.YtfdklpkfpmkgeaaGreatDoor
open Go Go.Vai
attribute [local irreducible] goTo zaq mkS
variable {C : Nat → Oracle} {o : Out}
abbrev qQ0 : List Nat := [0,5,0,5,2,3,0,5,0,6,5,0,2,0]
abbrev qQ1 : List Nat := [0,5,0,5,2,3,0,5,0,6,5,0,2,0,5,0]
abbrev qQ2 : List Nat := [0,5,0,5,2,3,0,5,0,6,5,0,2,0,5,0,5,0,0,5,6]
theorem p46_c (hC : Ext C) {T : Hp} {nx : Nat} {tg_1 tg_3 : Bool} {l_2 : List Dg} {l_4 : List Typ} (ho : RL C 46 [] (mkS 33 [vv 0 (.ptr 0 0),vv 1 (.vs 6 tg_3 (l_4.map Typ.av)),vv 2 (.func 47 [])] [] ((0,⟨[(.vs 2 tg_1 (l_2.map Dg.av))],[0]⟩) :: T) nx) = some o) : calL C 46 [(.ptr 0 0),(.vs 6 tg_3 (l_4.map Typ.av)),(.func 47 [])] ((0,⟨[(.vs 2 tg_1 (l_2.map Dg.av))],[0]⟩) :: T) nx = some o := hC.call rfl (fun _ _ => by kernel_rfl) ho
theorem p46_0 {T : Hp} {nx : Nat} {tg_1 tg_3 : Bool} {l_2 : List Dg} {l_4 : List Typ} (ho : Tr.val C 46
(.run 0 [0,5,0,5,2,3] (mkSM 33 [vv 0 (.ptr 0 0),vv 2 (.func 47 []),(6,.mp 11),vv 12 (.vs 6 tg_3 (l_4.map Typ.av)),vi 13 ((l_4.map Typ.av).length : Int),vi 14 0] [] ((0,⟨[(.vs 2 tg_1 (l_2.map Dg.av))],[0]⟩) :: T) nx [(11,[])])) = some o) : RL C 46 [] (mkS 33 [vv 0 (.ptr 0 0),vv 1 (.vs 6 tg_3 (l_4.map Typ.av)),vv 2 (.func 47 [])] [] ((0,⟨[(.vs 2 tg_1 (l_2.map Dg.av))],[0]⟩) :: T) nx) = some o := stR C 6 (fun _ _ => by kernel_rfl) ho
theorem p46_1 {T : Hp} {nx : Nat} {tg_5 tg_10 : Bool} {l_6 : List Typ} {x_7 x_8 : Int} {k_9 : List (List UInt8)} {l_11 : List Dg} (ho : Tr.val C 46
(.br (decide (x_8 < x_7))
(ix (l_6.map Typ.av) x_8 fun c1 =>
(.mid 0 qQ0 1 (mkSM 33 [vv 0 (.ptr 0 0),vv 2 (.func 47 []),(6,.mp 11),vv 12 (.vs 6 tg_5 (l_6.map Typ.av)),vi 13 x_7,vi 14 x_8,vb 15 true,vv 16 (.cptr (AV.cells c1))] [] ((0,⟨[(.vs 2 tg_10 (l_11.map Dg.av))],[0]⟩) :: T) nx [(11,(List.map kv k_9))])))
(.ret ⟨(.tuple []),((0,⟨[(.vs 2 tg_10 (l_11.map Dg.av))],[0]⟩) :: T),nx⟩)) = some o) : RL C 46 [0,5,0,5,2,3] (mkSM 33 [vv 0 (.ptr 0 0),vv 2 (.func 47 []),(6,.mp 11),vv 12 (.vs 6 tg_5 (l_6.map Typ.av)),vi 13 x_7,vi 14 x_8] [] ((0,⟨[(.vs 2 tg_10 (l_11.map Dg.av))],[0]⟩) :: T) nx [(11,(List.map kv k_9))]) = some o := stR C 9 (fun _ _ => by kernel_rfl) ho
theorem p46_2 {T : Hp} {nx : Nat} {tg_5 tg_10 : Bool} {l_6 : List Typ} {x_7 x_8 : Int} {l_11 : List Dg} {t_12 : Typ} {k_13 : List (List UInt8)} (ho : Tr.val C 46
(cl0 47 [(.agg (Typ.cs t_12))] fun r2 => .br (AV.pure r2.v)
(.mid 0 qQ1 3 (mkSM 33 [vv 0 (.ptr 0 0),vv 2 (.func 47 []),(6,.mp 11),(8,.lp 8 0),vv 12 (.vs 6 tg_5 (l_6.map Typ.av)),vi 13 x_7,vi 14 x_8,vv 19 (.func 47 []),vv 20 (.agg (Typ.cs t_12)),vv 21 r2.v] [(8,⟨(Typ.cs t_12),[]⟩)] ((0,⟨[(.vs 2 tg_10 (l_11.map Dg.av))],[0]⟩) :: T) nx [(11,(List.map kv k_13))])) .none) = some o) : ML C 46 qQ0 1 (mkSM 33 [vv 0 (.ptr 0 0),vv 2 (.func 47 []),(6,.mp 11),vv 12 (.vs 6 tg_5 (l_6.map Typ.av)),vi 13 x_7,vi 14 x_8,vb 15 true,vv 16 (.cptr (Typ.cs t_12))] [] ((0,⟨[(.vs 2 tg_10 (l_11.map Dg.av))],[0]⟩) :: T) nx [(11,(List.map kv k_13))]) = some o := stM C 2 (fun _ _ => by kernel_rfl) ho
theorem p46_3 {T : Hp} {nx : Nat} {tg_5 tg_10 : Bool} {l_6 : List Typ} {x_7 x_8 x_15 : Int} {l_11 : List Dg} {t_12 : Typ} {s_14 : List UInt8} {k_16 : List (List UInt8)} (ho : Tr.val C 46
(.br (zdf Tryz.prog 9 (List.map kv k_16))
(.look (.str s_14) (List.map kv k_16) (.bool false) fun m3 =>
(.isb m3 fun m3b =>
(.br m3b
(.call 84 [(.ptr 0 0),(i6 x_15),(i6 5)] ((0,⟨[(.vs 2 tg_10 (l_11.map Dg.av))],[0]⟩) :: T) nx fun r4 =>
(.mid 4 qQ2 3 (mkSM 33 [vv 0 (.ptr 0 0),vv 2 (.func 47 []),(6,.mp 11),vt 9 s_14,vi 10 x_15,vv 12 (.vs 6 tg_5 (l_6.map Typ.av)),vi 13 x_7,vi 14 x_8,vb 26 true,vv 27 (.ptr 0 0),vi 28 x_15,vv 29 r4.v] [] r4.H r4.nx [(11,(List.map kv k_16))])))
(.br (zdf Tryz.prog 9 (List.map kv k_16))
(.fnd (.str s_14) (List.map kv k_16) fun _ =>
(.run 0 [0,5,0,5,2,3] (mkSM 33 [vv 0 (.ptr 0 0),vv 2 (.func 47 []),(6,.mp 11),vv 12 (.vs 6 tg_5 (l_6.map Typ.av)),vi 13 x_7,vi 14 (w64 (x_8 + 1))] [] ((0,⟨[(.vs 2 tg_10 (l_11.map Dg.av))],[0]⟩) :: T) nx [(11,(mIns (.str s_14) (.bool true) (List.map kv k_16)))]))) .none)))) .none) = some o) : ML C 46 qQ1 3 (mkSM 33 [vv 0 (.ptr 0 0),vv 2 (.func 47 []),(6,.mp 11),(8,.lp 8 0),vv 12 (.vs 6 tg_5 (l_6.map Typ.av)),vi 13 x_7,vi 14 x_8,vv 19 (.func 47 []),vv 20 (.agg (Typ.cs t_12)),vv 21 (.tuple [(.str s_14),(i6 x_15)])] [(8,⟨(Typ.cs t_12),[]⟩)] ((0,⟨[(.vs 2 tg_10 (l_11.map Dg.av))],[0]⟩) :: T) nx [(11,(List.map kv k_16))]) = some o := stM C 9 (fun _ _ => by kernel_rfl) ho
theorem p46_4 {T : Hp} {nx : Nat} {tg_5 tg_17 : Bool} {l_6 : List Typ} {x_7 x_8 x_15 : Int} {s_14 : List UInt8} {l_18 : List Dg} {k_19 : List (List UInt8)} (ho : Tr.val C 46
(.br (zdf Tryz.prog 9 (List.map kv k_19))
(.fnd (.str s_14) (List.map kv k_19) fun _ =>
(.run 0 [0,5,0,5,2,3] (mkSM 33 [vv 0 (.ptr 0 0),vv 2 (.func 47 []),(6,.mp 11),vv 12 (.vs 6 tg_5 (l_6.map Typ.av)),vi 13 x_7,vi 14 (w64 (x_8 + 1))] [] ((0,⟨[(.vs 2 tg_17 (l_18.map Dg.av))],[0]⟩) :: T) nx [(11,(mIns (.str s_14) (.bool true) (List.map kv k_19)))]))) .none) = some o) : ML C 46 qQ2 3 (mkSM 33 [vv 0 (.ptr 0 0),vv 2 (.func 47 []),(6,.mp 11),vt 9 s_14,vi 10 x_15,vv 12 (.vs 6 tg_5 (l_6.map Typ.av)),vi 13 x_7,vi 14 x_8,vb 26 true,vv 27 (.ptr 0 0),vi 28 x_15,vv 29 (.tuple [])] [] ((0,⟨[(.vs 2 tg_17 (l_18.map Dg.av))],[0]⟩) :: T) nx [(11,(List.map kv k_19))]) = some o := stM C 4 (fun _ _ => by kernel_rfl) ho
theorem p85_c (hC : Ext C) {T : Hp} {nx : Nat} {tg_20 tg_22 : Bool} {l_21 : List Dg} {l_23 : List Fld} (ho : RL C 85 [] (mkS 33 [vv 0 (.ptr 0 0),vv 1 (.vs 4 tg_22 (l_23.map Fld.av)),vv 2 (.func 86 [])] [] ((0,⟨[(.vs 2 tg_20 (l_21.map Dg.av))],[0]⟩) :: T) nx) = some o) : calL C 85 [(.ptr 0 0),(.vs 4 tg_22 (l_23.map Fld.av)),(.func 86 [])] ((0,⟨[(.vs 2 tg_20 (l_21.map Dg.av))],[0]⟩) :: T) nx = some o := hC.call rfl (fun _ _ => by kernel_rfl) ho
theorem p85_0 {T : Hp} {nx : Nat} {tg_20 tg_22 : Bool} {l_21 : List Dg} {l_23 : List Fld} (ho : Tr.val C 85
(.run 0 [0,5,0,5,2,3] (mkSM 33 [vv 0 (.ptr 0 0),vv 2 (.func 86 []),(6,.mp 11),vv 12 (.vs 4 tg_22 (l_23.map Fld.av)),vi 13 ((l_23.map Fld.av).length : Int),vi 14 0] [] ((0,⟨[(.vs 2 tg_20 (l_21.map Dg.av))],[0]⟩) :: T) nx [(11,[])])) = some o) : RL C 85 [] (mkS 33 [vv 0 (.ptr 0 0),vv 1 (.vs 4 tg_22 (l_23.map Fld.av)),vv 2 (.func 86 [])] [] ((0,⟨[(.vs 2 tg_20 (l_21.map Dg.av))],[0]⟩) :: T) nx) = some o := stR C 6 (fun _ _ => by kernel_rfl) ho
theorem p85_1 {T : Hp} {nx : Nat} {tg_24 tg_29 : Bool} {l_25 : List Fld} {x_26 x_27 : Int} {k_28 : List (List UInt8)} {l_30 : List Dg} (ho : Tr.val C 85
(.br (decide (x_27 < x_26))
(ix (l_25.map Fld.av) x_27 fun c1 =>
(.mid 0 qQ0 1 (mkSM 33 [vv 0 (.ptr 0 0),vv 2 (.func 86 []),(6,.mp 11),vv 12 (.vs 4 tg_24 (l_25.map Fld.av)),vi 13 x_26,vi 14 x_27,vb 15 true,vv 16 (.cptr (AV.cells c1))] [] ((0,⟨[(.vs 2 tg_29 (l_30.map Dg.av))],[0]⟩) :: T) nx [(11,(List.map kv k_28))])))
(.ret ⟨(.tuple []),((0,⟨[(.vs 2 tg_29 (l_30.map Dg.av))],[0]⟩) :: T),nx⟩)) = some o) : RL C 85 [0,5,0,5,2,3] (mkSM 33 [vv 0 (.ptr 0 0),vv 2 (.func 86 []),(6,.mp 11),vv 12 (.vs 4 tg_24 (l_25.map Fld.av)),vi 13 x_26,vi 14 x_27] [] ((0,⟨[(.vs 2 tg_29 (l_30.map Dg.av))],[0]⟩) :: T) nx [(11,(List.map kv k_28))]) = some o := stR C 9 (fun _ _ => by kernel_rfl) ho
theorem p85_2 {T : Hp} {nx : Nat} {tg_24 tg_29 : Bool} {l_25 : List Fld} {x_26 x_27 : Int} {l_30 : List Dg} {f_31 : Fld} {k_32 : List (List UInt8)} (ho : Tr.val C 85
(cl0 86 [(.agg (Fld.cs f_31))] fun r2 => .br (AV.pure r2.v)
(.mid 0 qQ1 3 (mkSM 33 [vv 0 (.ptr 0 0),vv 2 (.func 86 []),(6,.mp 11),(8,.lp 8 0),vv 12 (.vs 4 tg_24 (l_25.map Fld.av)),vi 13 x_26,vi 14 x_27,vv 19 (.func 86 []),vv 20 (.agg (Fld.cs f_31)),vv 21 r2.v] [(8,⟨(Fld.cs f_31),[]⟩)] ((0,⟨[(.vs 2 tg_29 (l_30.map Dg.av))],[0]⟩) :: T) nx [(11,(List.map kv k_32))])) .none) = some o) : ML C 85 qQ0 1 (mkSM 33 [vv 0 (.ptr 0 0),vv 2 (.func 86 []),(6,.mp 11),vv 12 (.vs 4 tg_24 (l_25.map Fld.av)),vi 13 x_26,vi 14 x_27,vb 15 true,vv 16 (.cptr (Fld.cs f_31))] [] ((0,⟨[(.vs 2 tg_29 (l_30.map Dg.av))],[0]⟩) :: T) nx [(11,(List.map kv k_32))]) = some o := stM C 2 (fun _ _ => by kernel_rfl) ho
theorem p85_3 {T : Hp} {nx : Nat} {tg_24 tg_29 : Bool} {l_25 : List Fld} {x_26 x_27 x_34 : Int} {l_30 : List Dg} {f_31 : Fld} {s_33 : List UInt8} {k_35 : List (List UInt8)} (ho : Tr.val C 85
(.br (zdf Tryz.prog 9 (List.map kv k_35))
(.look (.str s_33) (List.map kv k_35) (.bool false) fun m3 =>
(.isb m3 fun m3b =>
(.br m3b
(.call 84 [(.ptr 0 0),(i6 x_34),(i6 5)] ((0,⟨[(.vs 2 tg_29 (l_30.map Dg.av))],[0]⟩) :: T) nx fun r4 =>
(.mid 4 qQ2 3 (mkSM 33 [vv 0 (.ptr 0 0),vv 2 (.func 86 []),(6,.mp 11),vt 9 s_33,vi 10 x_34,vv 12 (.vs 4 tg_24 (l_25.map Fld.av)),vi 13 x_26,vi 14 x_27,vb 26 true,vv 27 (.ptr 0 0),vi 28 x_34,vv 29 r4.v] [] r4.H r4.nx [(11,(List.map kv k_35))])))
(.br (zdf Tryz.prog 9 (List.map kv k_35))
(.fnd (.str s_33) (List.map kv k_35) fun _ =>
(.run 0 [0,5,0,5,2,3] (mkSM 33 [vv 0 (.ptr 0 0),vv 2 (.func 86 []),(6,.mp 11),vv 12 (.vs 4 tg_24 (l_25.map Fld.av)),vi 13 x_26,vi 14 (w64 (x_27 + 1))] [] ((0,⟨[(.vs 2 tg_29 (l_30.map Dg.av))],[0]⟩) :: T) nx [(11,(mIns (.str s_33) (.bool true) (List.map kv k_35)))]))) .none)))) .none) = some o) : ML C 85 qQ1 3 (mkSM 33 [vv 0 (.ptr 0 0),vv 2 (.func 86 []),(6,.mp 11),(8,.lp 8 0),vv 12 (.vs 4 tg_24 (l_25.map Fld.av)),vi 13 x_26,vi 14 x_27,vv 19 (.func 86 []),vv 20 (.agg (Fld.cs f_31)),vv 21 (.tuple [(.str s_33),(i6 x_34)])] [(8,⟨(Fld.cs f_31),[]⟩)] ((0,⟨[(.vs 2 tg_29 (l_30.map Dg.av))],[0]⟩) :: T) nx [(11,(List.map kv k_35))]) = some o := stM C 9 (fun _ _ => by kernel_rfl) ho
theorem p85_4 {T : Hp} {nx : Nat} {tg_24 tg_36 : Bool} {l_25 : List Fld} {x_26 x_27 x_34 : Int} {s_33 : List UInt8} {l_37 : List Dg} {k_38 : List (List UInt8)} (ho : Tr.val C 85
(.br (zdf Tryz.prog 9 (List.map kv k_38))
(.fnd (.str s_33) (List.map kv k_38) fun _ =>
(.run 0 [0,5,0,5,2,3] (mkSM 33 [vv 0 (.ptr 0 0),vv 2 (.func 86 []),(6,.mp 11),vv 12 (.vs 4 tg_24 (l_25.map Fld.av)),vi 13 x_26,vi 14 (w64 (x_27 + 1))] [] ((0,⟨[(.vs 2 tg_36 (l_37.map Dg.av))],[0]⟩) :: T) nx [(11,(mIns (.str s_33) (.bool true) (List.map kv k_38)))]))) .none) = some o) : ML C 85 qQ2 3 (mkSM 33 [vv 0 (.ptr 0 0),vv 2 (.func 86 []),(6,.mp 11),vt 9 s_33,vi 10 x_34,vv 12 (.vs 4 tg_24 (l_25.map Fld.av)),vi 13 x_26,vi 14 x_27,vb 26 true,vv 27 (.ptr 0 0),vi 28 x_34,vv 29 (.tuple [])] [] ((0,⟨[(.vs 2 tg_36 (l_37.map Dg.av))],[0]⟩) :: T) nx [(11,(List.map kv k_38))]) = some o := stM C 4 (fun _ _ => by kernel_rfl) ho
theorem p87_c (hC : Ext C) {T : Hp} {nx : Nat} {tg_39 tg_41 : Bool} {l_40 : List Dg} {l_42 : List Par} (ho : RL C 87 [] (mkS 33 [vv 0 (.ptr 0 0),vv 1 (.vs 3 tg_41 (l_42.map Par.av)),vv 2 (.func 88 [])] [] ((0,⟨[(.vs 2 tg_39 (l_40.map Dg.av))],[0]⟩) :: T) nx) = some o) : calL C 87 [(.ptr 0 0),(.vs 3 tg_41 (l_42.map Par.av)),(.func 88 [])] ((0,⟨[(.vs 2 tg_39 (l_40.map Dg.av))],[0]⟩) :: T) nx = some o := hC.call rfl (fun _ _ => by kernel_rfl) ho
theorem p87_0 {T : Hp} {nx : Nat} {tg_39 tg_41 : Bool} {l_40 : List Dg} {l_42 : List Par} (ho : Tr.val C 87
(.run 0 [0,5,0,5,2,3] (mkSM 33 [vv 0 (.ptr 0 0),vv 2 (.func 88 []),(6,.mp 11),vv 12 (.vs 3 tg_41 (l_42.map Par.av)),vi 13 ((l_42.map Par.av).length : Int),vi 14 0] [] ((0,⟨[(.vs 2 tg_39 (l_40.map Dg.av))],[0]⟩) :: T) nx [(11,[])])) = some o) : RL C 87 [] (mkS 33 [vv 0 (.ptr 0 0),vv 1 (.vs 3 tg_41 (l_42.map Par.av)),vv 2 (.func 88 [])] [] ((0,⟨[(.vs 2 tg_39 (l_40.map Dg.av))],[0]⟩) :: T) nx) = some o := stR C 6 (fun _ _ => by kernel_rfl) ho
theorem p87_1 {T : Hp} {nx : Nat} {tg_43 tg_48 : Bool} {l_44 : List Par} {x_45 x_46 : Int} {k_47 : List (List UInt8)} {l_49 : List Dg} (ho : Tr.val C 87
(.br (decide (x_46 < x_45))
(ix (l_44.map Par.av) x_46 fun c1 =>
(.mid 0 qQ0 1 (mkSM 33 [vv 0 (.ptr 0 0),vv 2 (.func 88 []),(6,.mp 11),vv 12 (.vs 3 tg_43 (l_44.map Par.av)),vi 13 x_45,vi 14 x_46,vb 15 true,vv 16 (.cptr (AV.cells c1))] [] ((0,⟨[(.vs 2 tg_48 (l_49.map Dg.av))],[0]⟩) :: T) nx [(11,(List.map kv k_47))])))
(.ret ⟨(.tuple []),((0,⟨[(.vs 2 tg_48 (l_49.map Dg.av))],[0]⟩) :: T),nx⟩)) = some o) : RL C 87 [0,5,0,5,2,3] (mkSM 33 [vv 0 (.ptr 0 0),vv 2 (.func 88 []),(6,.mp 11),vv 12 (.vs 3 tg_43 (l_44.map Par.av)),vi 13 x_45,vi 14 x_46] [] ((0,⟨[(.vs 2 tg_48 (l_49.map Dg.av))],[0]⟩) :: T) nx [(11,(List.map kv k_47))]) = some o := stR C 9 (fun _ _ => by kernel_rfl) ho
theorem p87_2 {T : Hp} {nx : Nat} {tg_43 tg_48 : Bool} {l_44 : List Par} {x_45 x_46 : Int} {l_49 : List Dg} {p_50 : Par} {k_51 : List (List UInt8)} (ho : Tr.val C 87
(cl0 88 [(.agg (Par.cs p_50))] fun r2 => .br (AV.pure r2.v)
(.mid 0 qQ1 3 (mkSM 33 [vv 0 (.ptr 0 0),vv 2 (.func 88 []),(6,.mp 11),(8,.lp 8 0),vv 12 (.vs 3 tg_43 (l_44.map Par.av)),vi 13 x_45,vi 14 x_46,vv 19 (.func 88 []),vv 20 (.agg (Par.cs p_50)),vv 21 r2.v] [(8,⟨(Par.cs p_50),[]⟩)] ((0,⟨[(.vs 2 tg_48 (l_49.map Dg.av))],[0]⟩) :: T) nx [(11,(List.map kv k_51))])) .none) = some o) : ML C 87 qQ0 1 (mkSM 33 [vv 0 (.ptr 0 0),vv 2 (.func 88 []),(6,.mp 11),vv 12 (.vs 3 tg_43 (l_44.map Par.av)),vi 13 x_45,vi 14 x_46,vb 15 true,vv 16 (.cptr (Par.cs p_50))] [] ((0,⟨[(.vs 2 tg_48 (l_49.map Dg.av))],[0]⟩) :: T) nx [(11,(List.map kv k_51))]) = some o := stM C 2 (fun _ _ => by kernel_rfl) ho
theorem p87_3 {T : Hp} {nx : Nat} {tg_43 tg_48 : Bool} {l_44 : List Par} {x_45 x_46 x_53 : Int} {l_49 : List Dg} {p_50 : Par} {s_52 : List UInt8} {k_54 : List (List UInt8)} (ho : Tr.val C 87
(.br (zdf Tryz.prog 9 (List.map kv k_54))
(.look (.str s_52) (List.map kv k_54) (.bool false) fun m3 =>
(.isb m3 fun m3b =>
(.br m3b
(.call 84 [(.ptr 0 0),(i6 x_53),(i6 5)] ((0,⟨[(.vs 2 tg_48 (l_49.map Dg.av))],[0]⟩) :: T) nx fun r4 =>
(.mid 4 qQ2 3 (mkSM 33 [vv 0 (.ptr 0 0),vv 2 (.func 88 []),(6,.mp 11),vt 9 s_52,vi 10 x_53,vv 12 (.vs 3 tg_43 (l_44.map Par.av)),vi 13 x_45,vi 14 x_46,vb 26 true,vv 27 (.ptr 0 0),vi 28 x_53,vv 29 r4.v] [] r4.H r4.nx [(11,(List.map kv k_54))])))
(.br (zdf Tryz.prog 9 (List.map kv k_54))
(.fnd (.str s_52) (List.map kv k_54) fun _ =>
(.run 0 [0,5,0,5,2,3] (mkSM 33 [vv 0 (.ptr 0 0),vv 2 (.func 88 []),(6,.mp 11),vv 12 (.vs 3 tg_43 (l_44.map Par.av)),vi 13 x_45,vi 14 (w64 (x_46 + 1))] [] ((0,⟨[(.vs 2 tg_48 (l_49.map Dg.av))],[0]⟩) :: T) nx [(11,(mIns (.str s_52) (.bool true) (List.map kv k_54)))]))) .none)))) .none) = some o) : ML C 87 qQ1 3 (mkSM 33 [vv 0 (.ptr 0 0),vv 2 (.func 88 []),(6,.mp 11),(8,.lp 8 0),vv 12 (.vs 3 tg_43 (l_44.map Par.av)),vi 13 x_45,vi 14 x_46,vv 19 (.func 88 []),vv 20 (.agg (Par.cs p_50)),vv 21 (.tuple [(.str s_52),(i6 x_53)])] [(8,⟨(Par.cs p_50),[]⟩)] ((0,⟨[(.vs 2 tg_48 (l_49.map Dg.av))],[0]⟩) :: T) nx [(11,(List.map kv k_54))]) = some o := stM C 9 (fun _ _ => by kernel_rfl) ho
theorem p87_4 {T : Hp} {nx : Nat} {tg_43 tg_55 : Bool} {l_44 : List Par} {x_45 x_46 x_53 : Int} {s_52 : List UInt8} {l_56 : List Dg} {k_57 : List (List UInt8)} (ho : Tr.val C 87
(.br (zdf Tryz.prog 9 (List.map kv k_57))
(.fnd (.str s_52) (List.map kv k_57) fun _ =>
(.run 0 [0,5,0,5,2,3] (mkSM 33 [vv 0 (.ptr 0 0),vv 2 (.func 88 []),(6,.mp 11),vv 12 (.vs 3 tg_43 (l_44.map Par.av)),vi 13 x_45,vi 14 (w64 (x_46 + 1))] [] ((0,⟨[(.vs 2 tg_55 (l_56.map Dg.av))],[0]⟩) :: T) nx [(11,(mIns (.str s_52) (.bool true) (List.map kv k_57)))]))) .none) = some o) : ML C 87 qQ2 3 (mkSM 33 [vv 0 (.ptr 0 0),vv 2 (.func 88 []),(6,.mp 11),vt 9 s_52,vi 10 x_53,vv 12 (.vs 3 tg_43 (l_44.map Par.av)),vi 13 x_45,vi 14 x_46,vb 26 true,vv 27 (.ptr 0 0),vi 28 x_53,vv 29 (.tuple [])] [] ((0,⟨[(.vs 2 tg_55 (l_56.map Dg.av))],[0]⟩) :: T) nx [(11,(List.map kv k_57))]) = some o := stM C 4 (fun _ _ => by kernel_rfl) ho
theorem p90_c (hC : Ext C) {T : Hp} {nx : Nat} {tg_58 tg_60 : Bool} {l_59 : List Dg} {l_61 : List Nm} (ho : RL C 90 [] (mkS 33 [vv 0 (.ptr 0 0),vv 1 (.vs 2 tg_60 (l_61.map Nm.av)),vv 2 (.func 91 [])] [] ((0,⟨[(.vs 2 tg_58 (l_59.map Dg.av))],[0]⟩) :: T) nx) = some o) : calL C 90 [(.ptr 0 0),(.vs 2 tg_60 (l_61.map Nm.av)),(.func 91 [])] ((0,⟨[(.vs 2 tg_58 (l_59.map Dg.av))],[0]⟩) :: T) nx = some o := hC.call rfl (fun _ _ => by kernel_rfl) ho
theorem p90_0 {T : Hp} {nx : Nat} {tg_58 tg_60 : Bool} {l_59 : List Dg} {l_61 : List Nm} (ho : Tr.val C 90
(.run 0 [0,5,0,5,2,3] (mkSM 33 [vv 0 (.ptr 0 0),vv 2 (.func 91 []),(6,.mp 11),vv 12 (.vs 2 tg_60 (l_61.map Nm.av)),vi 13 ((l_61.map Nm.av).length : Int),vi 14 0] [] ((0,⟨[(.vs 2 tg_58 (l_59.map Dg.av))],[0]⟩) :: T) nx [(11,[])])) = some o) : RL C 90 [] (mkS 33 [vv 0 (.ptr 0 0),vv 1 (.vs 2 tg_60 (l_61.map Nm.av)),vv 2 (.func 91 [])] [] ((0,⟨[(.vs 2 tg_58 (l_59.map Dg.av))],[0]⟩) :: T) nx) = some o := stR C 6 (fun _ _ => by kernel_rfl) ho
theorem p90_1 {T : Hp} {nx : Nat} {tg_62 tg_67 : Bool} {l_63 : List Nm} {x_64 x_65 : Int} {k_66 : List (List UInt8)} {l_68 : List Dg} (ho : Tr.val C 90
(.br (decide (x_65 < x_64))
(ix (l_63.map Nm.av) x_65 fun c1 =>
(.mid 0 qQ0 1 (mkSM 33 [vv 0 (.ptr 0 0),vv 2 (.func 91 []),(6,.mp 11),vv 12 (.vs 2 tg_62 (l_63.map Nm.av)),vi 13 x_64,vi 14 x_65,vb 15 true,vv 16 (.cptr (AV.cells c1))] [] ((0,⟨[(.vs 2 tg_67 (l_68.map Dg.av))],[0]⟩) :: T) nx [(11,(List.map kv k_66))])))
(.ret ⟨(.tuple []),((0,⟨[(.vs 2 tg_67 (l_68.map Dg.av))],[0]⟩) :: T),nx⟩)) = some o) : RL C 90 [0,5,0,5,2,3] (mkSM 33 [vv 0 (.ptr 0 0),vv 2 (.func 91 []),(6,.mp 11),vv 12 (.vs 2 tg_62 (l_63.map Nm.av)),vi 13 x_64,vi 14 x_65] [] ((0,⟨[(.vs 2 tg_67 (l_68.map Dg.av))],[0]⟩) :: T) nx [(11,(List.map kv k_66))]) = some o := stR C 9 (fun _ _ => by kernel_rfl) ho
theorem p90_2 {T : Hp} {nx : Nat} {tg_62 tg_67 : Bool} {l_63 : List Nm} {x_64 x_65 : Int} {l_68 : List Dg} {n_69 : Nm} {k_70 : List (List UInt8)} (ho : Tr.val C 90
(cl0 91 [(.agg (Nm.cs n_69))] fun r2 => .br (AV.pure r2.v)
(.mid 0 qQ1 3 (mkSM 33 [vv 0 (.ptr 0 0),vv 2 (.func 91 []),(6,.mp 11),(8,.lp 8 0),vv 12 (.vs 2 tg_62 (l_63.map Nm.av)),vi 13 x_64,vi 14 x_65,vv 19 (.func 91 []),vv 20 (.agg (Nm.cs n_69)),vv 21 r2.v] [(8,⟨(Nm.cs n_69),[]⟩)] ((0,⟨[(.vs 2 tg_67 (l_68.map Dg.av))],[0]⟩) :: T) nx [(11,(List.map kv k_70))])) .none) = some o) : ML C 90 qQ0 1 (mkSM 33 [vv 0 (.ptr 0 0),vv 2 (.func 91 []),(6,.mp 11),vv 12 (.vs 2 tg_62 (l_63.map Nm.av)),vi 13 x_64,vi 14 x_65,vb 15 true,vv 16 (.cptr (Nm.cs n_69))] [] ((0,⟨[(.vs 2 tg_67 (l_68.map Dg.av))],[0]⟩) :: T) nx [(11,(List.map kv k_70))]) = some o := stM C 2 (fun _ _ => by kernel_rfl) ho
theorem p90_3 {T : Hp} {nx : Nat} {tg_62 tg_67 : Bool} {l_63 : List Nm} {x_64 x_65 x_72 : Int} {l_68 : List Dg} {n_69 : Nm} {s_71 : List UInt8} {k_73 : List (List UInt8)} (ho : Tr.val C 90
(.br (zdf Tryz.prog 9 (List.map kv k_73))
(.look (.str s_71) (List.map kv k_73) (.bool false) fun m3 =>
(.isb m3 fun m3b =>
(.br m3b
(.call 84 [(.ptr 0 0),(i6 x_72),(i6 5)] ((0,⟨[(.vs 2 tg_67 (l_68.map Dg.av))],[0]⟩) :: T) nx fun r4 =>
(.mid 4 qQ2 3 (mkSM 33 [vv 0 (.ptr 0 0),vv 2 (.func 91 []),(6,.mp 11),vt 9 s_71,vi 10 x_72,vv 12 (.vs 2 tg_62 (l_63.map Nm.av)),vi 13 x_64,vi 14 x_65,vb 26 true,vv 27 (.ptr 0 0),vi 28 x_72,vv 29 r4.v] [] r4.H r4.nx [(11,(List.map kv k_73))])))
(.br (zdf Tryz.prog 9 (List.map kv k_73))
(.fnd (.str s_71) (List.map kv k_73) fun _ =>
(.run 0 [0,5,0,5,2,3] (mkSM 33 [vv 0 (.ptr 0 0),vv 2 (.func 91 []),(6,.mp 11),vv 12 (.vs 2 tg_62 (l_63.map Nm.av)),vi 13 x_64,vi 14 (w64 (x_65 + 1))] [] ((0,⟨[(.vs 2 tg_67 (l_68.map Dg.av))],[0]⟩) :: T) nx [(11,(mIns (.str s_71) (.bool true) (List.map kv k_73)))]))) .none)))) .none) = some o) : ML C 90 qQ1 3 (mkSM 33 [vv 0 (.ptr 0 0),vv 2 (.func 91 []),(6,.mp 11),(8,.lp 8 0),vv 12 (.vs 2 tg_62 (l_63.map Nm.av)),vi 13 x_64,vi 14 x_65,vv 19 (.func 91 []),vv 20 (.agg (Nm.cs n_69)),vv 21 (.tuple [(.str s_71),(i6 x_72)])] [(8,⟨(Nm.cs n_69),[]⟩)] ((0,⟨[(.vs 2 tg_67 (l_68.map Dg.av))],[0]⟩) :: T) nx [(11,(List.map kv k_73))]) = some o := stM C 9 (fun _ _ => by kernel_rfl) ho
theorem p90_4 {T : Hp} {nx : Nat} {tg_62 tg_74 : Bool} {l_63 : List Nm} {x_64 x_65 x_72 : Int} {s_71 : List UInt8} {l_75 : List Dg} {k_76 : List (List UInt8)} (ho : Tr.val C 90
(.br (zdf Tryz.prog 9 (List.map kv k_76))
(.fnd (.str s_71) (List.map kv k_76) fun _ =>
(.run 0 [0,5,0,5,2,3] (mkSM 33 [vv 0 (.ptr 0 0),vv 2 (.func 91 []),(6,.mp 11),vv 12 (.vs 2 tg_62 (l_63.map Nm.av)),vi 13 x_64,vi 14 (w64 (x_65 + 1))] [] ((0,⟨[(.vs 2 tg_74 (l_75.map Dg.av))],[0]⟩) :: T) nx [(11,(mIns (.str s_71) (.bool true) (List.map kv k_76)))]))) .none) = some o) : ML C 90 qQ2 3 (mkSM 33 [vv 0 (.ptr 0 0),vv 2 (.func 91 []),(6,.mp 11),vt 9 s_71,vi 10 x_72,vv 12 (.vs 2 tg_62 (l_63.map Nm.av)),vi 13 x_64,vi 14 x_65,vb 26 true,vv 27 (.ptr 0 0),vi 28 x_72,vv 29 (.tuple [])] [] ((0,⟨[(.vs 2 tg_74 (l_75.map Dg.av))],[0]⟩) :: T) nx [(11,(List.map kv k_76))]) = some o := stM C 4 (fun _ _ => by kernel_rfl) ho
theorem p92_c (hC : Ext C) {T : Hp} {nx : Nat} {tg_77 tg_79 : Bool} {l_78 : List Dg} {l_80 : List Idx} (ho : RL C 92 [] (mkS 33 [vv 0 (.ptr 0 0),vv 1 (.vs 2 tg_79 (l_80.map Idx.av)),vv 2 (.func 93 [])] [] ((0,⟨[(.vs 2 tg_77 (l_78.map Dg.av))],[0]⟩) :: T) nx) = some o) : calL C 92 [(.ptr 0 0),(.vs 2 tg_79 (l_80.map Idx.av)),(.func 93 [])] ((0,⟨[(.vs 2 tg_77 (l_78.map Dg.av))],[0]⟩) :: T) nx = some o := hC.call rfl (fun _ _ => by kernel_rfl) ho
theorem p92_0 {T : Hp} {nx : Nat} {tg_77 tg_79 : Bool} {l_78 : List Dg} {l_80 : List Idx} (ho : Tr.val C 92
(.run 0 [0,5,0,5,2,3] (mkSM 33 [vv 0 (.ptr 0 0),vv 2 (.func 93 []),(6,.mp 11),vv 12 (.vs 2 tg_79 (l_80.map Idx.av)),vi 13 ((l_80.map Idx.av).length : Int),vi 14 0] [] ((0,⟨[(.vs 2 tg_77 (l_78.map Dg.av))],[0]⟩) :: T) nx [(11,[])])) = some o) : RL C 92 [] (mkS 33 [vv 0 (.ptr 0 0),vv 1 (.vs 2 tg_79 (l_80.map Idx.av)),vv 2 (.func 93 [])] [] ((0,⟨[(.vs 2 tg_77 (l_78.map Dg.av))],[0]⟩) :: T) nx) = some o := stR C 6 (fun _ _ => by kernel_rfl) ho
theorem p92_1 {T : Hp} {nx : Nat} {tg_81 tg_86 : Bool} {l_82 : List Idx} {x_83 x_84 : Int} {k_85 : List (List UInt8)} {l_87 : List Dg} (ho : Tr.val C 92
(.br (decide (x_84 < x_83))
(ix (l_82.map Idx.av) x_84 fun c1 =>
(.mid 0 qQ0 1 (mkSM 33 [vv 0 (.ptr 0 0),vv 2 (.func 93 []),(6,.mp 11),vv 12 (.vs 2 tg_81 (l_82.map Idx.av)),vi 13 x_83,vi 14 x_84,vb 15 true,vv 16 (.cptr (AV.cells c1))] [] ((0,⟨[(.vs 2 tg_86 (l_87.map Dg.av))],[0]⟩) :: T) nx [(11,(List.map kv k_85))])))
(.ret ⟨(.tuple []),((0,⟨[(.vs 2 tg_86 (l_87.map Dg.av))],[0]⟩) :: T),nx⟩)) = some o) : RL C 92 [0,5,0,5,2,3] (mkSM 33 [vv 0 (.ptr 0 0),vv 2 (.func 93 []),(6,.mp 11),vv 12 (.vs 2 tg_81 (l_82.map Idx.av)),vi 13 x_83,vi 14 x_84] [] ((0,⟨[(.vs 2 tg_86 (l_87.map Dg.av))],[0]⟩) :: T) nx [(11,(List.map kv k_85))]) = some o := stR C 9 (fun _ _ => by kernel_rfl) ho
theorem p92_2 {T : Hp} {nx : Nat} {tg_81 tg_86 : Bool} {l_82 : List Idx} {x_83 x_84 : Int} {l_87 : List Dg} {i_88 : Idx} {k_89 : List (List UInt8)} (ho : Tr.val C 92
(cl0 93 [(.agg (Idx.cs i_88))] fun r2 => .br (AV.pure r2.v)
(.mid 0 qQ1 3 (mkSM 33 [vv 0 (.ptr 0 0),vv 2 (.func 93 []),(6,.mp 11),(8,.lp 8 0),vv 12 (.vs 2 tg_81 (l_82.map Idx.av)),vi 13 x_83,vi 14 x_84,vv 19 (.func 93 []),vv 20 (.agg (Idx.cs i_88)),vv 21 r2.v] [(8,⟨(Idx.cs i_88),[]⟩)] ((0,⟨[(.vs 2 tg_86 (l_87.map Dg.av))],[0]⟩) :: T) nx [(11,(List.map kv k_89))])) .none) = some o) : ML C 92 qQ0 1 (mkSM 33 [vv 0 (.ptr 0 0),vv 2 (.func 93 []),(6,.mp 11),vv 12 (.vs 2 tg_81 (l_82.map Idx.av)),vi 13 x_83,vi 14 x_84,vb 15 true,vv 16 (.cptr (Idx.cs i_88))] [] ((0,⟨[(.vs 2 tg_86 (l_87.map Dg.av))],[0]⟩) :: T) nx [(11,(List.map kv k_89))]) = some o := stM C 2 (fun _ _ => by kernel_rfl) ho
theorem p92_3 {T : Hp} {nx : Nat} {tg_81 tg_86 : Bool} {l_82 : List Idx} {x_83 x_84 x_91 : Int} {l_87 : List Dg} {i_88 : Idx} {s_90 : List UInt8} {k_92 : List (List UInt8)} (ho : Tr.val C 92
(.br (zdf Tryz.prog 9 (List.map kv k_92))
(.look (.str s_90) (List.map kv k_92) (.bool false) fun m3 =>
(.isb m3 fun m3b =>
(.br m3b
(.call 84 [(.ptr 0 0),(i6 x_91),(i6 5)] ((0,⟨[(.vs 2 tg_86 (l_87.map Dg.av))],[0]⟩) :: T) nx fun r4 =>
(.mid 4 qQ2 3 (mkSM 33 [vv 0 (.ptr 0 0),vv 2 (.func 93 []),(6,.mp 11),vt 9 s_90,vi 10 x_91,vv 12 (.vs 2 tg_81 (l_82.map Idx.av)),vi 13 x_83,vi 14 x_84,vb 26 true,vv 27 (.ptr 0 0),vi 28 x_91,vv 29 r4.v] [] r4.H r4.nx [(11,(List.map kv k_92))])))
(.br (zdf Tryz.prog 9 (List.map kv k_92))
(.fnd (.str s_90) (List.map kv k_92) fun _ =>
(.run 0 [0,5,0,5,2,3] (mkSM 33 [vv 0 (.ptr 0 0),vv 2 (.func 93 []),(6,.mp 11),vv 12 (.vs 2 tg_81 (l_82.map Idx.av)),vi 13 x_83,vi 14 (w64 (x_84 + 1))] [] ((0,⟨[(.vs 2 tg_86 (l_87.map Dg.av))],[0]⟩) :: T) nx [(11,(mIns (.str s_90) (.bool true) (List.map kv k_92)))]))) .none)))) .none) = some o) : ML C 92 qQ1 3 (mkSM 33 [vv 0 (.ptr 0 0),vv 2 (.func 93 []),(6,.mp 11),(8,.lp 8 0),vv 12 (.vs 2 tg_81 (l_82.map Idx.av)),vi 13 x_83,vi 14 x_84,vv 19 (.func 93 []),vv 20 (.agg (Idx.cs i_88)),vv 21 (.tuple [(.str s_90),(i6 x_91)])] [(8,⟨(Idx.cs i_88),[]⟩)] ((0,⟨[(.vs 2 tg_86 (l_87.map Dg.av))],[0]⟩) :: T) nx [(11,(List.map kv k_92))]) = some o := stM C 9 (fun _ _ => by kernel_rfl) ho
theorem p92_4 {T : Hp} {nx : Nat} {tg_81 tg_93 : Bool} {l_82 : List Idx} {x_83 x_84 x_91 : Int} {s_90 : List UInt8} {l_94 : List Dg} {k_95 : List (List UInt8)} (ho : Tr.val C 92
(.br (zdf Tryz.prog 9 (List.map kv k_95))
(.fnd (.str s_90) (List.map kv k_95) fun _ =>
(.run 0 [0,5,0,5,2,3] (mkSM 33 [vv 0 (.ptr 0 0),vv 2 (.func 93 []),(6,.mp 11),vv 12 (.vs 2 tg_81 (l_82.map Idx.av)),vi 13 x_83,vi 14 (w64 (x_84 + 1))] [] ((0,⟨[(.vs 2 tg_93 (l_94.map Dg.av))],[0]⟩) :: T) nx [(11,(mIns (.str s_90) (.bool true) (List.map kv k_95)))]))) .none) = some o) : ML C 92 qQ2 3 (mkSM 33 [vv 0 (.ptr 0 0),vv 2 (.func 93 []),(6,.mp 11),vt 9 s_90,vi 10 x_91,vv 12 (.vs 2 tg_81 (l_82.map Idx.av)),vi 13 x_83,vi 14 x_84,vb 26 true,vv 27 (.ptr 0 0),vi 28 x_91,vv 29 (.tuple [])] [] ((0,⟨[(.vs 2 tg_93 (l_94.map Dg.av))],[0]⟩) :: T) nx [(11,(List.map kv k_95))]) = some o := stM C 4 (fun _ _ => by kernel_rfl) ho
theorem p84_c (hC : Ext C) {T : Hp} {nx : Nat} {tg_96 : Bool} {l_97 : List Dg} {x_98 x_99 : Int} (ho : RL C 84 [] (mkS 18 [vv 0 (.ptr 0 0),vi 1 x_98,vi 2 x_99] [] ((0,⟨[(.vs 2 tg_96 (l_97.map Dg.av))],[0]⟩) :: T) nx) = some o) : calL C 84 [(.ptr 0 0),(i6 x_98),(i6 x_99)] ((0,⟨[(.vs 2 tg_96 (l_97.map Dg.av))],[0]⟩) :: T) nx = some o := hC.call rfl (fun _ _ => by kernel_rfl) ho
theorem p84_0 {T : Hp} {nx : Nat} {tg_96 : Bool} {l_97 : List Dg} {x_98 x_99 : Int} (ho : Tr.val C 84
(.br (Nat.ble (((l_97.map Dg.av).length + 1) * 16) za1)
(.br (Nat.ble ((l_97.map Dg.av).length + 1) za1)
(.ret ⟨(.tuple []),((0,⟨[(.vs 2 false ((l_97.map Dg.av) ++ [(.agg [(i6 x_98),(i6 x_99)])]))],[0]⟩) :: T),nx⟩) .none) .none) = some o) : RL C 84 [] (mkS 18 [vv 0 (.ptr 0 0),vi 1 x_98,vi 2 x_99] [] ((0,⟨[(.vs 2 tg_96 (l_97.map Dg.av))],[0]⟩) :: T) nx) = some o := stR C 2 (fun _ _ => by kernel_rfl) ho
theorem p47_c (hC : Ext C) {t_100 : Typ} (ho : RL C 47 [] (mk0 8 [vv 0 (.agg (Typ.cs t_100))]) = some o) : calL C 47 [(.agg (Typ.cs t_100))] Hp.none 0 = some o := hC.call rfl (fun _ _ => by kernel_rfl) ho
theorem p47_0 {t_100 : Typ} (ho : Tr.val C 47
(rt (.tuple [(.str t_100.name),(i6 t_100.at_)])) = some o) : RL C 47 [] (mk0 8 [vv 0 (.agg (Typ.cs t_100))]) = some o := stR C 5 (fun _ _ => by kernel_rfl) ho
theorem p86_c (hC : Ext C) {f_101 : Fld} (ho : RL C 86 [] (mk0 8 [vv 0 (.agg (Fld.cs f_101))]) = some o) : calL C 86 [(.agg (Fld.cs f_101))] Hp.none 0 = some o := hC.call rfl (fun _ _ => by kernel_rfl) ho
theorem p86_0 {f_101 : Fld} (ho : Tr.val C 86
(rt (.tuple [(.str f_101.name),(i6 f_101.at_)])) = some o) : RL C 86 [] (mk0 8 [vv 0 (.agg (Fld.cs f_101))]) = some o := stR C 5 (fun _ _ => by kernel_rfl) ho
theorem p88_c (hC : Ext C) {p_102 : Par} (ho : RL C 88 [] (mk0 8 [vv 0 (.agg (Par.cs p_102))]) = some o) : calL C 88 [(.agg (Par.cs p_102))] Hp.none 0 = some o := hC.call rfl (fun _ _ => by kernel_rfl) ho
theorem p88_0 {p_102 : Par} (ho : Tr.val C 88
(rt (.tuple [(.str p_102.name),(i6 p_102.at_)])) = some o) : RL C 88 [] (mk0 8 [vv 0 (.agg (Par.cs p_102))]) = some o := stR C 5 (fun _ _ => by kernel_rfl) ho
theorem p91_c (hC : Ext C) {n_103 : Nm} (ho : RL C 91 [] (mk0 8 [vv 0 (.agg (Nm.cs n_103))]) = some o) : calL C 91 [(.agg (Nm.cs n_103))] Hp.none 0 = some o := hC.call rfl (fun _ _ => by kernel_rfl) ho
theorem p91_0 {n_103 : Nm} (ho : Tr.val C 91
(rt (.tuple [(.str n_103.name),(i6 n_103.at_)])) = some o) : RL C 91 [] (mk0 8 [vv 0 (.agg (Nm.cs n_103))]) = some o := stR C 5 (fun _ _ => by kernel_rfl) ho
theorem p93_c (hC : Ext C) {i_104 : Idx} (ho : RL C 93 [] (mk0 8 [vv 0 (.agg (Idx.cs i_104))]) = some o) : calL C 93 [(.agg (Idx.cs i_104))] Hp.none 0 = some o := hC.call rfl (fun _ _ => by kernel_rfl) ho
theorem p93_0 {i_104 : Idx} (ho : Tr.val C 93
(rt (.tuple [(.str i_104.field),(i6 i_104.at_)])) = some o) : RL C 93 [] (mk0 8 [vv 0 (.agg (Idx.cs i_104))]) = some o := stR C 5 (fun _ _ => by kernel_rfl) ho
end Go.Proofs.YtfdklpkfpmkgeaaGreatDoor
end
section
namespace Go.Proofs.YtfdklpkfpmkgeaaGreatDoor
open Go Go.Vai
attribute [local irreducible] goTo zaq mkS
set_option maxHeartbeats 40000000
def dupD : List (List UInt8)→List Nm→List Dg
 | _,[]=>[]
 | ks,x :: r=>(if x.name ∈ ks then [⟨x.at_,5⟩] else []) ++ dupD (addK x.name ks) r
def QD (l : List Dg) (T : Hp) (nx : Nat) (o : Out) : Prop := ∃ tg,o = ⟨.tuple [],hD tg l T,nx⟩
theorem zno {C : Nat→Oracle} {f : Nat} {s : List UInt8} {ks : List (List UInt8)} {K : AV→Tr} {Q : Out→Prop} (h : Was ((K (.bool (decide (s ∈ ks)))).val C f) Q) : Was ((Tr.look (.str s) (ks.map kv) (.bool false) K).val C f) Q:=by
 show Was (zd2 (.str s) (ks.map kv) fun r=>optE r ((K (.bool false)).val C f) fun v=>(K v).val C f) Q
 rw [zku]
 by_cases e : s ∈ ks
 ·rw [if_pos e]; rw [decide_eq_true e] at h; exact h
 ·rw [if_neg e]; rw [decide_eq_false e] at h; exact h
theorem zjr {C : Nat→Oracle} {f : Nat} {s : List UInt8} {ks : List (List UInt8)} {t : Tr} {Q : Out→Prop} (h : Was (t.val C f) Q) : Was ((Tr.fnd (.str s) (ks.map kv) fun _=>t).val C f) Q:=by
 show Was (zd2 (.str s) (ks.map kv) fun r=>t.val C f) Q
 rw [zku]
 exact h
theorem zss {C : Nat→Oracle} {f : Nat} {b : Bool} {K : Bool→Tr} {Q : Out→Prop} (h : Was ((K b).val C f) Q) : Was ((Tr.isb (.bool b) K).val C f) Q := h
theorem w_br {C : Nat→Oracle} {f : Nat} {c : Bool} {x y : Tr} {Q : Out→Prop} (h1 : c = true→Was (x.val C f) Q) (h2 : c = false→Was (y.val C f) Q) : Was ((Tr.br c x y).val C f) Q := Was.both h1 h2
variable {C : Nat→Oracle} (hC : Ext C)
include hC
theorem w84 (T : Hp) (nx : Nat) (tg : Bool) (l : List Dg) (hl : l.length ≤ 1000000) (x e : Int) : Was (calL C 84 [.ptr 0 0,.int .i64 x,.int .i64 e] (hD tg l T) nx) (QD (l ++ [⟨x,e⟩]) T nx):=by
 refine exW (fun o=>p84_c hC) (exW (fun o=>p84_0) ?_)
 simp only [Tr.val,List.length_map]
 refine .brn (zae (by omega)) (.brn (zae (by omega)) (.mk ⟨false,?_⟩))
 exact congrArg (fun z=>(⟨.tuple [],(0,⟨[.vs 2 false z],[0]⟩) :: T,nx⟩ : Out)) (List.map_append (f := Dg.av) (l₁ := l) (l₂ := [⟨x,e⟩])).symm
theorem w47 (x : Typ) : Was (calL C 47 [.agg x.cs] Hp.none 0) (fun o=>o = ⟨.tuple [.str x.name,.int .i64 x.at_],Hp.none,0⟩) :=
 exW (fun o=>p47_c hC) (exW (fun o=>p47_0) (.mk rfl))
theorem w46_loop (T : Hp) (nx : Nat) (tL : Bool) (L : List Typ) (hL : L.length ≤ 400000) : ∀ (r : List Typ) (i : Nat) (tg : Bool) (l : List Dg) (ks : List (List UInt8)),L.drop i = r→i ≤ L.length→l.length + r.length ≤ 1000000 →
  Was (RL C 46 [0,5,0,5,2,3] (mkSM 33 [(0,.val (.ptr 0 0) .no),(2,.val (.func 47 []) .no),(6,.mp 11),(12,.val (.vs 6 tL (List.map Typ.av L)) .no),(13,.val (.int .i64 (L.length : Int)) .no),(14,.val (.int .i64 (i : Int)) .no)] [] (hD tg l T) nx [(11,ks.map kv)]))
   (QD (l ++ dupD ks (r.map fun x=>⟨x.name,x.at_⟩)) T nx):=by
 intro r
 induction r with
 | nil =>
  intro i tg l ks hi hil hb
  have := zaj _ _ hil hi
  refine exW (fun o=>p46_1) ?_
  exact .bF (by omega) (.mk ⟨tg,by rw [List.map_nil,dupD,List.append_nil]⟩)
 | cons f r ih =>
  intro i tg l ks hi hil hb
  obtain ⟨h1,h2,h3⟩ := zau _ _ hi
  rw [List.length_cons] at hb
  refine exW (fun o=>p46_1) ?_
  simp only [Tr.val,List.length_map,Int.toNat_natCast,zal,h1,Option.map_some,Option.bind_some]
  refine .bT (by omega) (.bT (by omega) (.bT (by omega) ?_))
  refine exW (fun o=>p46_2) ?_
  simp only [Tr.val,AV.pure,zab,zaa,za2,zad,za5,za9,zac,za3,za8,za6,za7,za4,za0]
  refine .call (w47 hC f) ?_
  rintro o rfl
  simp only [AV.pure,zab,zaa,za2,zad,za5,za9,zac,za3,za8,za6,za7,za4,za0]
  refine exW (fun o=>p46_3) ?_
  refine .brn (zbh ks) (zno (zss (w_br (fun h=>?_) fun h=>?_)))
  ·have h := of_decide_eq_true h
   refine .call (w84 hC T nx tg l (by omega) f.at_ 5) ?_
   rintro o ⟨t1,rfl⟩
   refine exW (fun o=>p46_4) ?_
   refine .brn (zbh ks) (zjr ?_)
   rw [zdh,wi64 h3 (by omega)]
   rw [List.map_cons,dupD,if_pos h,← List.append_assoc]
   exact ih (i + 1) t1 _ _ h2 (by omega) (by rw [List.length_append]; simp only [List.length_cons,List.length_nil]; omega)
  ·have h := of_decide_eq_false h
   refine .brn (zbh ks) (zjr ?_)
   rw [zdh,wi64 h3 (by omega)]
   rw [List.map_cons,dupD,if_neg h,List.nil_append]
   exact ih (i + 1) tg l _ h2 (by omega) (by omega)
theorem w46 (T : Hp) (nx : Nat) (tL : Bool) (L : List Typ) (hL : L.length ≤ 400000) (tg : Bool) (l : List Dg) (hb : l.length + L.length ≤ 1000000) :
  Was (calL C 46 [.ptr 0 0,.vs 6 tL (List.map Typ.av L),.func 47 []] (hD tg l T) nx) (QD (l ++ dupD [] (L.map fun x=>⟨x.name,x.at_⟩)) T nx):=by
 refine exW (fun o=>p46_c hC) (exW (fun o=>p46_0) ?_)
 rw [List.length_map]
 exact w46_loop hC T nx tL L hL L 0 tg l [] rfl (Nat.zero_le _) hb
theorem w86 (x : Fld) : Was (calL C 86 [.agg x.cs] Hp.none 0) (fun o=>o = ⟨.tuple [.str x.name,.int .i64 x.at_],Hp.none,0⟩) :=
 exW (fun o=>p86_c hC) (exW (fun o=>p86_0) (.mk rfl))
theorem w85_loop (T : Hp) (nx : Nat) (tL : Bool) (L : List Fld) (hL : L.length ≤ 400000) : ∀ (r : List Fld) (i : Nat) (tg : Bool) (l : List Dg) (ks : List (List UInt8)),L.drop i = r→i ≤ L.length→l.length + r.length ≤ 1000000 →
  Was (RL C 85 [0,5,0,5,2,3] (mkSM 33 [(0,.val (.ptr 0 0) .no),(2,.val (.func 86 []) .no),(6,.mp 11),(12,.val (.vs 4 tL (List.map Fld.av L)) .no),(13,.val (.int .i64 (L.length : Int)) .no),(14,.val (.int .i64 (i : Int)) .no)] [] (hD tg l T) nx [(11,ks.map kv)]))
   (QD (l ++ dupD ks (r.map fun x=>⟨x.name,x.at_⟩)) T nx):=by
 intro r
 induction r with
 | nil =>
  intro i tg l ks hi hil hb
  have := zaj _ _ hil hi
  refine exW (fun o=>p85_1) ?_
  exact .bF (by omega) (.mk ⟨tg,by rw [List.map_nil,dupD,List.append_nil]⟩)
 | cons f r ih =>
  intro i tg l ks hi hil hb
  obtain ⟨h1,h2,h3⟩ := zau _ _ hi
  rw [List.length_cons] at hb
  refine exW (fun o=>p85_1) ?_
  simp only [Tr.val,List.length_map,Int.toNat_natCast,zal,h1,Option.map_some,Option.bind_some]
  refine .bT (by omega) (.bT (by omega) (.bT (by omega) ?_))
  refine exW (fun o=>p85_2) ?_
  simp only [Tr.val,AV.pure,zab,zaa,za2,zad,za5,za9,zac,za3,za8,za6,za7,za4,za0]
  refine .call (w86 hC f) ?_
  rintro o rfl
  simp only [AV.pure,zab,zaa,za2,zad,za5,za9,zac,za3,za8,za6,za7,za4,za0]
  refine exW (fun o=>p85_3) ?_
  refine .brn (zbh ks) (zno (zss (w_br (fun h=>?_) fun h=>?_)))
  ·have h := of_decide_eq_true h
   refine .call (w84 hC T nx tg l (by omega) f.at_ 5) ?_
   rintro o ⟨t1,rfl⟩
   refine exW (fun o=>p85_4) ?_
   refine .brn (zbh ks) (zjr ?_)
   rw [zdh,wi64 h3 (by omega)]
   rw [List.map_cons,dupD,if_pos h,← List.append_assoc]
   exact ih (i + 1) t1 _ _ h2 (by omega) (by rw [List.length_append]; simp only [List.length_cons,List.length_nil]; omega)
  ·have h := of_decide_eq_false h
   refine .brn (zbh ks) (zjr ?_)
   rw [zdh,wi64 h3 (by omega)]
   rw [List.map_cons,dupD,if_neg h,List.nil_append]
   exact ih (i + 1) tg l _ h2 (by omega) (by omega)
theorem w85 (T : Hp) (nx : Nat) (tL : Bool) (L : List Fld) (hL : L.length ≤ 400000) (tg : Bool) (l : List Dg) (hb : l.length + L.length ≤ 1000000) :
  Was (calL C 85 [.ptr 0 0,.vs 4 tL (List.map Fld.av L),.func 86 []] (hD tg l T) nx) (QD (l ++ dupD [] (L.map fun x=>⟨x.name,x.at_⟩)) T nx):=by
 refine exW (fun o=>p85_c hC) (exW (fun o=>p85_0) ?_)
 rw [List.length_map]
 exact w85_loop hC T nx tL L hL L 0 tg l [] rfl (Nat.zero_le _) hb
theorem w88 (x : Par) : Was (calL C 88 [.agg x.cs] Hp.none 0) (fun o=>o = ⟨.tuple [.str x.name,.int .i64 x.at_],Hp.none,0⟩) :=
 exW (fun o=>p88_c hC) (exW (fun o=>p88_0) (.mk rfl))
theorem w87_loop (T : Hp) (nx : Nat) (tL : Bool) (L : List Par) (hL : L.length ≤ 400000) : ∀ (r : List Par) (i : Nat) (tg : Bool) (l : List Dg) (ks : List (List UInt8)),L.drop i = r→i ≤ L.length→l.length + r.length ≤ 1000000 →
  Was (RL C 87 [0,5,0,5,2,3] (mkSM 33 [(0,.val (.ptr 0 0) .no),(2,.val (.func 88 []) .no),(6,.mp 11),(12,.val (.vs 3 tL (List.map Par.av L)) .no),(13,.val (.int .i64 (L.length : Int)) .no),(14,.val (.int .i64 (i : Int)) .no)] [] (hD tg l T) nx [(11,ks.map kv)]))
   (QD (l ++ dupD ks (r.map fun x=>⟨x.name,x.at_⟩)) T nx):=by
 intro r
 induction r with
 | nil =>
  intro i tg l ks hi hil hb
  have := zaj _ _ hil hi
  refine exW (fun o=>p87_1) ?_
  exact .bF (by omega) (.mk ⟨tg,by rw [List.map_nil,dupD,List.append_nil]⟩)
 | cons f r ih =>
  intro i tg l ks hi hil hb
  obtain ⟨h1,h2,h3⟩ := zau _ _ hi
  rw [List.length_cons] at hb
  refine exW (fun o=>p87_1) ?_
  simp only [Tr.val,List.length_map,Int.toNat_natCast,zal,h1,Option.map_some,Option.bind_some]
  refine .bT (by omega) (.bT (by omega) (.bT (by omega) ?_))
  refine exW (fun o=>p87_2) ?_
  simp only [Tr.val,AV.pure,zab,zaa,za2,zad,za5,za9,zac,za3,za8,za6,za7,za4,za0]
  refine .call (w88 hC f) ?_
  rintro o rfl
  simp only [AV.pure,zab,zaa,za2,zad,za5,za9,zac,za3,za8,za6,za7,za4,za0]
  refine exW (fun o=>p87_3) ?_
  refine .brn (zbh ks) (zno (zss (w_br (fun h=>?_) fun h=>?_)))
  ·have h := of_decide_eq_true h
   refine .call (w84 hC T nx tg l (by omega) f.at_ 5) ?_
   rintro o ⟨t1,rfl⟩
   refine exW (fun o=>p87_4) ?_
   refine .brn (zbh ks) (zjr ?_)
   rw [zdh,wi64 h3 (by omega)]
   rw [List.map_cons,dupD,if_pos h,← List.append_assoc]
   exact ih (i + 1) t1 _ _ h2 (by omega) (by rw [List.length_append]; simp only [List.length_cons,List.length_nil]; omega)
  ·have h := of_decide_eq_false h
   refine .brn (zbh ks) (zjr ?_)
   rw [zdh,wi64 h3 (by omega)]
   rw [List.map_cons,dupD,if_neg h,List.nil_append]
   exact ih (i + 1) tg l _ h2 (by omega) (by omega)
theorem w87 (T : Hp) (nx : Nat) (tL : Bool) (L : List Par) (hL : L.length ≤ 400000) (tg : Bool) (l : List Dg) (hb : l.length + L.length ≤ 1000000) :
  Was (calL C 87 [.ptr 0 0,.vs 3 tL (List.map Par.av L),.func 88 []] (hD tg l T) nx) (QD (l ++ dupD [] (L.map fun x=>⟨x.name,x.at_⟩)) T nx):=by
 refine exW (fun o=>p87_c hC) (exW (fun o=>p87_0) ?_)
 rw [List.length_map]
 exact w87_loop hC T nx tL L hL L 0 tg l [] rfl (Nat.zero_le _) hb
theorem w91 (x : Nm) : Was (calL C 91 [.agg x.cs] Hp.none 0) (fun o=>o = ⟨.tuple [.str x.name,.int .i64 x.at_],Hp.none,0⟩) :=
 exW (fun o=>p91_c hC) (exW (fun o=>p91_0) (.mk rfl))
theorem w90_loop (T : Hp) (nx : Nat) (tL : Bool) (L : List Nm) (hL : L.length ≤ 400000) : ∀ (r : List Nm) (i : Nat) (tg : Bool) (l : List Dg) (ks : List (List UInt8)),L.drop i = r→i ≤ L.length→l.length + r.length ≤ 1000000 →
  Was (RL C 90 [0,5,0,5,2,3] (mkSM 33 [(0,.val (.ptr 0 0) .no),(2,.val (.func 91 []) .no),(6,.mp 11),(12,.val (.vs 2 tL (List.map Nm.av L)) .no),(13,.val (.int .i64 (L.length : Int)) .no),(14,.val (.int .i64 (i : Int)) .no)] [] (hD tg l T) nx [(11,ks.map kv)]))
   (QD (l ++ dupD ks (r.map fun x=>⟨x.name,x.at_⟩)) T nx):=by
 intro r
 induction r with
 | nil =>
  intro i tg l ks hi hil hb
  have := zaj _ _ hil hi
  refine exW (fun o=>p90_1) ?_
  exact .bF (by omega) (.mk ⟨tg,by rw [List.map_nil,dupD,List.append_nil]⟩)
 | cons f r ih =>
  intro i tg l ks hi hil hb
  obtain ⟨h1,h2,h3⟩ := zau _ _ hi
  rw [List.length_cons] at hb
  refine exW (fun o=>p90_1) ?_
  simp only [Tr.val,List.length_map,Int.toNat_natCast,zal,h1,Option.map_some,Option.bind_some]
  refine .bT (by omega) (.bT (by omega) (.bT (by omega) ?_))
  refine exW (fun o=>p90_2) ?_
  simp only [Tr.val,AV.pure,zab,zaa,za2,zad,za5,za9,zac,za3,za8,za6,za7,za4,za0]
  refine .call (w91 hC f) ?_
  rintro o rfl
  simp only [AV.pure,zab,zaa,za2,zad,za5,za9,zac,za3,za8,za6,za7,za4,za0]
  refine exW (fun o=>p90_3) ?_
  refine .brn (zbh ks) (zno (zss (w_br (fun h=>?_) fun h=>?_)))
  ·have h := of_decide_eq_true h
   refine .call (w84 hC T nx tg l (by omega) f.at_ 5) ?_
   rintro o ⟨t1,rfl⟩
   refine exW (fun o=>p90_4) ?_
   refine .brn (zbh ks) (zjr ?_)
   rw [zdh,wi64 h3 (by omega)]
   rw [List.map_cons,dupD,if_pos h,← List.append_assoc]
   exact ih (i + 1) t1 _ _ h2 (by omega) (by rw [List.length_append]; simp only [List.length_cons,List.length_nil]; omega)
  ·have h := of_decide_eq_false h
   refine .brn (zbh ks) (zjr ?_)
   rw [zdh,wi64 h3 (by omega)]
   rw [List.map_cons,dupD,if_neg h,List.nil_append]
   exact ih (i + 1) tg l _ h2 (by omega) (by omega)
theorem w90 (T : Hp) (nx : Nat) (tL : Bool) (L : List Nm) (hL : L.length ≤ 400000) (tg : Bool) (l : List Dg) (hb : l.length + L.length ≤ 1000000) :
  Was (calL C 90 [.ptr 0 0,.vs 2 tL (List.map Nm.av L),.func 91 []] (hD tg l T) nx) (QD (l ++ dupD [] (L.map fun x=>⟨x.name,x.at_⟩)) T nx):=by
 refine exW (fun o=>p90_c hC) (exW (fun o=>p90_0) ?_)
 rw [List.length_map]
 exact w90_loop hC T nx tL L hL L 0 tg l [] rfl (Nat.zero_le _) hb
theorem w93 (x : Idx) : Was (calL C 93 [.agg x.cs] Hp.none 0) (fun o=>o = ⟨.tuple [.str x.field,.int .i64 x.at_],Hp.none,0⟩) :=
 exW (fun o=>p93_c hC) (exW (fun o=>p93_0) (.mk rfl))
theorem w92_loop (T : Hp) (nx : Nat) (tL : Bool) (L : List Idx) (hL : L.length ≤ 400000) : ∀ (r : List Idx) (i : Nat) (tg : Bool) (l : List Dg) (ks : List (List UInt8)),L.drop i = r→i ≤ L.length→l.length + r.length ≤ 1000000 →
  Was (RL C 92 [0,5,0,5,2,3] (mkSM 33 [(0,.val (.ptr 0 0) .no),(2,.val (.func 93 []) .no),(6,.mp 11),(12,.val (.vs 2 tL (List.map Idx.av L)) .no),(13,.val (.int .i64 (L.length : Int)) .no),(14,.val (.int .i64 (i : Int)) .no)] [] (hD tg l T) nx [(11,ks.map kv)]))
   (QD (l ++ dupD ks (r.map fun x=>⟨x.field,x.at_⟩)) T nx):=by
 intro r
 induction r with
 | nil =>
  intro i tg l ks hi hil hb
  have := zaj _ _ hil hi
  refine exW (fun o=>p92_1) ?_
  exact .bF (by omega) (.mk ⟨tg,by rw [List.map_nil,dupD,List.append_nil]⟩)
 | cons f r ih =>
  intro i tg l ks hi hil hb
  obtain ⟨h1,h2,h3⟩ := zau _ _ hi
  rw [List.length_cons] at hb
  refine exW (fun o=>p92_1) ?_
  simp only [Tr.val,List.length_map,Int.toNat_natCast,zal,h1,Option.map_some,Option.bind_some]
  refine .bT (by omega) (.bT (by omega) (.bT (by omega) ?_))
  refine exW (fun o=>p92_2) ?_
  simp only [Tr.val,AV.pure,zab,zaa,za2,zad,za5,za9,zac,za3,za8,za6,za7,za4,za0]
  refine .call (w93 hC f) ?_
  rintro o rfl
  simp only [AV.pure,zab,zaa,za2,zad,za5,za9,zac,za3,za8,za6,za7,za4,za0]
  refine exW (fun o=>p92_3) ?_
  refine .brn (zbh ks) (zno (zss (w_br (fun h=>?_) fun h=>?_)))
  ·have h := of_decide_eq_true h
   refine .call (w84 hC T nx tg l (by omega) f.at_ 5) ?_
   rintro o ⟨t1,rfl⟩
   refine exW (fun o=>p92_4) ?_
   refine .brn (zbh ks) (zjr ?_)
   rw [zdh,wi64 h3 (by omega)]
   rw [List.map_cons,dupD,if_pos h,← List.append_assoc]
   exact ih (i + 1) t1 _ _ h2 (by omega) (by rw [List.length_append]; simp only [List.length_cons,List.length_nil]; omega)
  ·have h := of_decide_eq_false h
   refine .brn (zbh ks) (zjr ?_)
   rw [zdh,wi64 h3 (by omega)]
   rw [List.map_cons,dupD,if_neg h,List.nil_append]
   exact ih (i + 1) tg l _ h2 (by omega) (by omega)
theorem w92 (T : Hp) (nx : Nat) (tL : Bool) (L : List Idx) (hL : L.length ≤ 400000) (tg : Bool) (l : List Dg) (hb : l.length + L.length ≤ 1000000) :
  Was (calL C 92 [.ptr 0 0,.vs 2 tL (List.map Idx.av L),.func 93 []] (hD tg l T) nx) (QD (l ++ dupD [] (L.map fun x=>⟨x.field,x.at_⟩)) T nx):=by
 refine exW (fun o=>p92_c hC) (exW (fun o=>p92_0) ?_)
 rw [List.length_map]
 exact w92_loop hC T nx tL L hL L 0 tg l [] rfl (Nat.zero_le _) hb
end Go.Proofs.YtfdklpkfpmkgeaaGreatDoor
end
section
namespace Go.Proofs.YtfdklpkfpmkgeaaGreatDoor
open Go Go.Vai
attribute [local irreducible] goTo zaq mkS
def resF (s : List UInt8) (x y : Int) : Int :=
 if eqS s [43] = true then (if x = 1∧y = 1 then 1 else 0) else if eqS s [45] = true then (if x = 1∧y = 1 then 1 else 0) else if eqS s [42] = true then (if x = 1∧y = 1 then 1 else 0)
 else if eqS s [33] = true then (if x = 3∧y = 3 then 3 else 0) else if eqS s [38,38] = true then (if x = 3∧y = 3 then 3 else 0) else if eqS s [124,124] = true then (if x = 3∧y = 3 then 3 else 0)
 else if eqS s [61,61] = true then (if x = y then 3 else 0) else if eqS s [33,61] = true then (if x = y then 3 else 0)
 else if eqS s [60] = true then (if x = y∧¬ (x = 3∧y = 3) then 3 else 0) else if eqS s [60,61] = true then (if x = y∧¬ (x = 3∧y = 3) then 3 else 0)
 else if eqS s [62] = true then (if x = y∧¬ (x = 3∧y = 3) then 3 else 0) else if eqS s [62,61] = true then (if x = y∧¬ (x = 3∧y = 3) then 3 else 0) else 0
def opT (e : Ex) (ds : List Dg) (n : Int) : Int × List Dg := if ds = [] then (if n = 0 then oneD e 12 else (n,[])) else (0,ds)
def zm3 (w : Sc) (x : Ex) : Bool := decide (x.kind = 4) && (match denF w x.s with
 | some f=>decide (f.kind = 4)
 | none=>false)
def hasT (w : Sc) (e x : Ex) (a b : Int × List Dg) : Int × List Dg :=
 if w.q = false then oneD e 10 else
  let given := !zm3 w x && decide (a.2 = [])
  let l := (if zm3 w x = true then [] else if a.2 = [] then [⟨e.at_,12⟩] else a.2) ++ b.2
  let l2 := if given = false∧b.2 = []∧b.1 ≠ 2 then l ++ [⟨e.at_,12⟩] else l
  if l2 = [] then (3,[]) else (0,l2)
def leafT (w : Sc) (e : Ex) : Int × List Dg := if e.kind = 1 then (1,[]) else if e.kind = 2 then (2,[]) else if e.kind = 3 then (3,[]) else if e.kind = 4 then nameT w e else zrm w e
def wHas : List UInt8 := [104,97,115]
def tyE (w : Sc) : Ex→Int × List Dg
 | .mk k n s tg [] a=>leafT w (.mk k n s tg [] a)
 | .mk k n s tg [x] a=>opT (.mk k n s tg [x] a) (tyE w x).2 (resF s (tyE w x).1 (tyE w x).1)
 | .mk k n s tg [x,y] a=>if s = wHas then hasT w (.mk k n s tg [x,y] a) x (tyE w x) (tyE w y) else opT (.mk k n s tg [x,y] a) ((tyE w x).2 ++ (tyE w y).2) (resF s (tyE w x).1 (tyE w y).1)
 | .mk _ _ _ _ (_ :: _ :: _ :: _) _=>(0,[])
mutual
def Ex.sz : Ex→Nat
 | .mk _ _ _ _ l _=>1 + szE l
def szE : List Ex→Nat
 | []=>0
 | e :: l=>e.sz + szE l
end
def binW : List (List UInt8) := [[124,124],[38,38],[61,61],[33,61],[60],[60,61],[62],[62,61],[104,97,115],[43],[45],[42]]
inductive WfE : Ex→Prop where
 | leaf (k n : Int) (s : List UInt8) (tg : Bool) (a : Int) (h1 : 1 ≤ k) (h5 : k ≤ 5) : WfE (.mk k n s tg [] a)
 | un (n : Int) (s : List UInt8) (tg : Bool) (a : Int) (x : Ex) (hs : s = [45] ∨ s = [33]) (hx : WfE x) : WfE (.mk 6 n s tg [x] a)
 | bin (n : Int) (s : List UInt8) (tg : Bool) (a : Int) (x y : Ex) (hs : s ∈ binW) (hx : WfE x) (hy : WfE y) : WfE (.mk 7 n s tg [x,y] a)
theorem zry (e : Ex) (ds : List Dg) (n : Int) : (opT e ds n).2.length ≤ ds.length + 1:=by
 unfold opT oneD
 split
 ·split <;> simp
 ·simp
theorem zrw (w : Sc) (e : Ex) : (nameT w e).2.length ≤ 1:=by
 unfold nameT
 repeat' split
 all_goals simp [oneD]
theorem zrh (w : Sc) (e : Ex) : (zrm w e).2.length ≤ 1:=by
 unfold zrm
 repeat' split
 all_goals simp [oneD]
theorem zr8 (w : Sc) (e : Ex) : (leafT w e).2.length ≤ 1:=by
 unfold leafT
 repeat' split
 all_goals first | exact zrw _ _ | exact zrh _ _ | simp
theorem hasT_len (w : Sc) (e x : Ex) (a b : Int × List Dg) : (hasT w e x a b).2.length ≤ a.2.length + b.2.length + 1:=by
 unfold hasT
 split
 ·simp [oneD]
 ·cases h1 : zm3 w x <;> by_cases h2 : a.2 = [] <;> by_cases h3 : b.2 = [] <;> by_cases h4 : b.1 = 2 <;> simp [h2,h3,h4] <;> omega
theorem zh9 (w : Sc) : ∀ e : Ex,(tyE w e).2.length ≤ e.sz
 | .mk k n s tg [] a=>by rw [tyE]; have := zr8 w (.mk k n s tg [] a); simp only [Ex.sz]; omega
 | .mk k n s tg [x] a=>by have := zh9 w x; rw [tyE]; have := zry (.mk k n s tg [x] a) (tyE w x).2 (resF s (tyE w x).1 (tyE w x).1); simp only [Ex.sz,szE]; omega
 | .mk k n s tg [x,y] a=>by
  have := zh9 w x
  have := zh9 w y
  rw [tyE]
  simp only [Ex.sz,szE]
  split
  ·have := hasT_len w (.mk k n s tg [x,y] a) x (tyE w x) (tyE w y); omega
  ·have := zry (.mk k n s tg [x,y] a) ((tyE w x).2 ++ (tyE w y).2) (resF s (tyE w x).1 (tyE w y).1); rw [List.length_append] at this; omega
 | .mk _ _ _ _ (_ :: _ :: _ :: _) _=>by rw [tyE]; simp
end Go.Proofs.YtfdklpkfpmkgeaaGreatDoor
end
section
namespace Go.Proofs.YtfdklpkfpmkgeaaGreatDoor
open Go Go.Vai
attribute [local irreducible] goTo zaq mkS
variable {C : Nat→Oracle} (hC : Ext C)
set_option maxHeartbeats 4000000 in
include hC in
theorem w101 (s : List UInt8) (tg : Bool) (l : List AV) (x y : Int) (hl : (l = [.int .i64 x]∧x = y) ∨ l = [.int .i64 x,.int .i64 y]) : Was (calL C 101 [.str s,.vs 1 tg l] Hp.none 0) (fun o=>o.v = .int .i64 (resF s x y)):=by
 have e0 : nth l 0 = some (.int .i64 x) := by rcases hl with ⟨rfl,_⟩ | rfl <;> rfl
 have hlen : 1 ≤ l.length∧l.length ≤ 2 := by rcases hl with ⟨rfl,_⟩ | rfl <;> simp
 have e1 : nth l (Int.toNat ((l.length : Int) - 1)) = some (.int .i64 y) := by rcases hl with ⟨rfl,h⟩ | rfl; (subst h; rfl); rfl
 refine exW (fun o=>p101_c hC) ?_
 refine exW (fun o=>p101_0) ?_
 simp only [Tr.val,List.length_map,Int.toNat_natCast,zal,zas,zan,Option.map_some,Option.bind_some,Fld.av_cs,Par.av_cs,Dg.av_cs,Typ.av_cs,Qry.av_cs,Ex.av_cs,zaf,AV.pure,zab,zaa,za2,zad,za5,za9,zac,za3,za8,za6,za7,za4,za0,e0]
 refine .bT (by omega) ?_
 refine exW (fun o=>p101_1) ?_
 simp only [Tr.val,List.length_map,Int.toNat_natCast,zal,zas,zan,Option.map_some,Option.bind_some,Fld.av_cs,Par.av_cs,Dg.av_cs,Typ.av_cs,Qry.av_cs,Ex.av_cs,zaf,AV.pure,zab,zaa,za2,zad,za5,za9,zac,za3,za8,za6,za7,za4,za0]
 rw [zb9 (by omega) (by omega),e1]
 simp only [Option.bind_some]
 refine .bT (by omega) (.bT (by omega) ?_)
 refine exW (fun o=>p101_2) ?_
 simp only [Tr.val,resF]
 repeat' (first | refine .dec (fun h=>?_) (fun h=>?_) | refine .ndec (fun h=>?_) (fun h=>?_) | (refine .both (fun h=>?_) (fun h=>?_) <;> simp only [h,if_true,Bool.false_eq_true,if_false]))
 all_goals
  refine .mk (congrArg (AV.int .i64) ?_)
  first | rfl | omega | (split <;> omega)
include hC
theorem w97_loop (w : Sc) (hF : w.t.fields.length ≤ 1000000) (hP : w.ps.length ≤ 1000000) (e : Ex) (tg : Bool) (L : List Par) (hL : L.length ≤ 1000000) : ∀ (r : List Par) (i : Nat),L.drop i = r→i ≤ L.length →
  Was (RL C 97 [0,5,0,0,5,2,3] (mkS 53 [(2,.lp 2 0),(3,.lp 3 0),(11,.val (.vs 3 tg (List.map Par.av L)) .no),(12,.val (.int .i64 (L.length : Int)) .no),(13,.val (.int .i64 (i : Int)) .no)] [(2,⟨(Sc.cs w),[]⟩),(3,⟨(Ex.cs e),[]⟩)] Hp.none 0))
   (RT (match parN r e.s with
    | some p=>(p.type,[])
    | none=>match denF w e.s with
     | none=>oneD e 6
     | some f=>if f.kind = 1 then (f.type,[]) else if f.kind = 2 then (1,[]) else if f.kind = 3 then (1,[]) else if f.kind = 5 then (3,[]) else oneD e 12)):=by
 intro r
 induction r with
 | nil =>
  intro i hi hil
  have := zaj _ _ hil hi
  refine exW (fun o=>p97_1) ?_
  simp only [Tr.val,List.length_map,Int.toNat_natCast,zal,zas,zan,Option.map_some,Option.bind_some,Fld.av_cs,Par.av_cs,Dg.av_cs,Typ.av_cs,Qry.av_cs,Ex.av_cs,zaf,AV.pure,zab,zaa,za2,zad,za5,za9,zac,za3,za8,za6,za7,za4,za0]
  refine .bF (by omega) ?_
  refine .call (w164 hC w hF hP e.s) ?_
  rintro o e1
  have hp : o.v.pure = true := by rw [e1]; cases denF w e.s <;> rfl
  rw [hp,za0,e1]
  clear e1 hp
  have e2 : parN [] e.s = none := rfl
  rw [e2]
  cases denF w e.s with
  | none =>
   refine exW (fun o=>p97_3 (f_46 := fld0)) ?_
   simp only [Tr.val,List.length_map,Int.toNat_natCast,zal,zas,zan,Option.map_some,Option.bind_some,Fld.av_cs,Par.av_cs,Dg.av_cs,Typ.av_cs,Qry.av_cs,Ex.av_cs,zaf]
   simp only [AV.pure,zab,zaa,za2,zad,za5,za9,zac,za3,za8,za6,za7,za4,za0]
   simp only [Bool.not_false,za0]
   refine .call (w99 hC e 6) ?_
   rintro o ⟨tg',e⟩
   simp only [e,AV.pure,zab,zaa,za2,zad,za5,za9,zac,za3,za8,za6,za7,za4,za0]
   clear e
   refine exW (fun o=>p97_4) ?_
   exact .mk ⟨_,rfl⟩
  | some f =>
   refine exW (fun o=>p97_3) ?_
   simp only [Tr.val,List.length_map,Int.toNat_natCast,zal,zas,zan,Option.map_some,Option.bind_some,Fld.av_cs,Par.av_cs,Dg.av_cs,Typ.av_cs,Qry.av_cs,Ex.av_cs,zaf,AV.pure,zab,zaa,za2,zad,za5,za9,zac,za3,za8,za6,za7,za4,za0]
   simp only [Bool.not_true,zam]
   refine .dec (fun h=>?_) (fun h=>?_)
   ·rw [if_pos h]; exact .mk ⟨_,rfl⟩
   rw [if_neg h]
   refine .dec (fun h=>?_) (fun h=>?_)
   ·rw [if_pos h]; exact .mk ⟨_,rfl⟩
   rw [if_neg h]
   refine .dec (fun h=>?_) (fun h=>?_)
   ·rw [if_pos h]; exact .mk ⟨_,rfl⟩
   rw [if_neg h]
   refine .dec (fun h=>?_) (fun h=>?_)
   ·rw [if_pos h]; exact .mk ⟨_,rfl⟩
   rw [if_neg h]
   refine .call (w99 hC e 12) ?_
   rintro o ⟨tg',e⟩
   simp only [e,AV.pure,zab,zaa,za2,zad,za5,za9,zac,za3,za8,za6,za7,za4,za0]
   clear e
   refine exW (fun o=>p97_5) ?_
   exact .mk ⟨_,rfl⟩
 | cons f r ih =>
  intro i hi hil
  obtain ⟨h1,h2,h3⟩ := zau _ _ hi
  refine exW (fun o=>p97_1) ?_
  simp only [Tr.val,List.length_map,Int.toNat_natCast,zal,zas,zan,Option.map_some,Option.bind_some,Fld.av_cs,Par.av_cs,Dg.av_cs,Typ.av_cs,Qry.av_cs,Ex.av_cs,zaf,AV.pure,zab,zaa,za2,zad,za5,za9,zac,za3,za8,za6,za7,za4,za0,h1]
  refine .bT (by omega) (.bT (by omega) (.bT (by omega) ?_))
  refine exW (fun o=>p97_2) ?_
  simp only [Tr.val,List.length_map,Int.toNat_natCast,zal,zas,zan,Option.map_some,Option.bind_some,Fld.av_cs,Par.av_cs,Dg.av_cs,Typ.av_cs,Qry.av_cs,Ex.av_cs,zaf,AV.pure,zab,zaa,za2,zad,za5,za9,zac,za3,za8,za6,za7,za4,za0]
  unfold parN
  rw [List.find?_cons]
  refine .both (fun h=>.mk (by rw [h]; exact ⟨_,rfl⟩)) (fun h=>?_)
  rw [wi64 h3 hL,h]
  exact ih (i + 1) h2 (by omega)
theorem w97 (w : Sc) (hF : w.t.fields.length ≤ 1000000) (hP : w.ps.length ≤ 1000000) (e : Ex) : Was (calL C 97 [.agg w.cs,.agg e.cs] Hp.none 0) (RT (nameT w e)):=by
 refine exW (fun o=>p97_c hC) ?_
 refine exW (fun o=>p97_0) ?_
 simp only [Tr.val,List.length_map,Int.toNat_natCast,zal,zas,zan,Option.map_some,Option.bind_some,Fld.av_cs,Par.av_cs,Dg.av_cs,Typ.av_cs,Qry.av_cs,Ex.av_cs,zaf,AV.pure,zab,zaa,za2,zad,za5,za9,zac,za3,za8,za6,za7,za4,za0]
 exact w97_loop hC w hF hP e w.tg w.ps hP w.ps 0 rfl (Nat.zero_le _)
theorem w98 (w : Sc) (hF : w.t.fields.length ≤ 1000000) (e : Ex) : Was (calL C 98 [.agg w.cs,.agg e.cs] Hp.none 0) (RT (zrm w e)):=by
 refine exW (fun o=>p98_c hC) ?_
 refine exW (fun o=>p98_0) ?_
 simp only [Tr.val,List.length_map,Int.toNat_natCast,zal,zas,zan,Option.map_some,Option.bind_some,Fld.av_cs,Par.av_cs,Dg.av_cs,Typ.av_cs,Qry.av_cs,Ex.av_cs,zaf,AV.pure,zab,zaa,za2,zad,za5,za9,zac,za3,za8,za6,za7,za4,za0]
 refine .call (w94 hC w.t hF e.s) ?_
 rintro o e1
 have hp : o.v.pure = true := by rw [e1]; cases fldF w.t.fields e.s <;> rfl
 rw [hp,za0,e1]
 clear e1 hp
 unfold zrm
 have h0 : ∀ (f : Fld) (c : Bool),(c = false→fldF w.t.fields e.s = none)→(c = true→fldF w.t.fields e.s = some f)→Was (ML C 98 [0,5,0] 5 (mkS 39 [(2,.lp 2 0),(3,.lp 3 0),(9,.lp 2 0),(10,.val (.agg (Typ.cs w.t)) .no),(11,.lp 3 2),(12,.val (.str e.s) .no),(13,.val (.tuple [(.agg (Fld.cs f)),(.bool c)]) .no)] [(2,⟨(Sc.cs w),[]⟩),(3,⟨(Ex.cs e),[]⟩)] Hp.none 0)) (RT (if w.q = false then oneD e 10 else match fldF w.t.fields e.s with
  | none=>oneD e 6
  | some f=>if f.kind = 4 then (1,[]) else oneD e 12)):=by
  intro f c c0 c1
  refine exW (fun o=>p98_1) ?_
  simp only [Tr.val,List.length_map,Int.toNat_natCast,zal,zas,zan,Option.map_some,Option.bind_some,Fld.av_cs,Par.av_cs,Dg.av_cs,Typ.av_cs,Qry.av_cs,Ex.av_cs,zaf,AV.pure,zab,zaa,za2,zad,za5,za9,zac,za3,za8,za6,za7,za4,za0]
  cases hq : w.q
  ·simp only [Bool.not_false,za0,if_true]
   refine .call (w99 hC e 10) ?_
   rintro o ⟨tg',e⟩
   simp only [e,AV.pure,zab,zaa,za2,zad,za5,za9,zac,za3,za8,za6,za7,za4,za0]
   clear e
   refine exW (fun o=>p98_2) ?_
   exact .mk ⟨_,rfl⟩
  simp only [Bool.not_true,zam,Bool.true_eq_false,if_false]
  cases c
  ·rw [c0 rfl]
   simp only [Bool.not_false,za0]
   refine .call (w99 hC e 6) ?_
   rintro o ⟨tg',e⟩
   simp only [e,AV.pure,zab,zaa,za2,zad,za5,za9,zac,za3,za8,za6,za7,za4,za0]
   clear e
   refine exW (fun o=>p98_3) ?_
   exact .mk ⟨_,rfl⟩
  rw [c1 rfl]
  simp only [Bool.not_true,zam]
  by_cases h4 : f.kind = 4
  ·rw [decide_eq_true h4,if_pos h4]
   exact .mk ⟨_,rfl⟩
  rw [decide_eq_false h4,if_neg h4]
  simp only [Bool.not_false,za0]
  refine .call (w99 hC e 12) ?_
  rintro o ⟨tg',e⟩
  simp only [e,AV.pure,zab,zaa,za2,zad,za5,za9,zac,za3,za8,za6,za7,za4,za0]
  clear e
  refine exW (fun o=>p98_4) ?_
  exact .mk ⟨_,rfl⟩
 cases hf : fldF w.t.fields e.s with
 | none=>rw [hf] at h0; exact h0 fld0 false (fun _=>rfl) (fun h=>by cases h)
 | some f=>rw [hf] at h0; exact h0 f true (fun h=>by cases h) (fun _=>rfl)
end Go.Proofs.YtfdklpkfpmkgeaaGreatDoor
end
section
namespace Go.Proofs.YtfdklpkfpmkgeaaGreatDoor
open Go Go.Vai
attribute [local irreducible] goTo zaq mkS
variable {C : Nat→Oracle} (hC : Ext C)
theorem rt_end {l : List Dg} (L : List AV) (hL : L = l.map Dg.av) (tg : Bool) : Was (Vai.br (decide (0 < ((L.length : Nat) : Int))) (some ⟨.tuple [.int .i64 0,.vs 2 tg L],Hp.none,0⟩) (some ⟨.tuple [.int .i64 3,.vs 2 true []],Hp.none,0⟩)) (RT (if l = [] then (3,[]) else (0,l))):=by
 subst hL
 rw [List.length_map]
 cases l with
 | nil=>exact .bF (by simp) (.mk ⟨_,rfl⟩)
 | cons d l=>exact .bT (by simp only [List.length_cons]; omega) (.mk ⟨_,rfl⟩)
set_option maxHeartbeats 4000000 in
include hC in
theorem w100 (w : Sc) (hF : w.t.fields.length ≤ 1000000) (hP : w.ps.length ≤ 1000000) (k n : Int) (s : List UInt8) (tg : Bool) (x y : Ex) (at' : Int) (a b : Int × List Dg) (ha : a.2.length ≤ 1000000) (hb : b.2.length ≤ 1000000)
  (wx : Was (calL C 52 [.agg w.cs,.agg x.cs] Hp.none 0) (RT a)) (wy : Was (calL C 52 [.agg w.cs,.agg y.cs] Hp.none 0) (RT b)) :
  Was (calL C 100 [.agg w.cs,.agg (Ex.mk k n s tg [x,y] at').cs] Hp.none 0) (RT (hasT w (.mk k n s tg [x,y] at') x a b)):=by
 generalize he : Ex.mk k n s tg [x,y] at' = e
 have hl : e.l = [x,y] := by rw [← he]; rfl
 have n0 : nth (exs e.l) 0 = some (.agg x.cs) := by rw [hl,zas]; simp [x.av_cs]
 have n1 : nth (exs e.l) 1 = some (.agg y.cs) := by rw [hl,zas]; simp [y.av_cs]
 have hll : e.l.length = 2 := by rw [hl]; rfl
 refine exW (fun o=>p100_c hC) ?_
 refine exW (fun o=>p100_0) ?_
 unfold hasT
 cases hq : w.q
 ·simp only [Tr.val,Bool.not_false,za0,if_true]
  simp only [AV.pure,zab,zaa,za2,zad,za5,za9,zac,za3,za8,za6,za7,za4,za0]
  refine .call (w99 hC e 10) ?_
  rintro o ⟨tg',e⟩
  simp only [e,AV.pure,zab,zaa,za2,zad,za5,za9,zac,za3,za8,za6,za7,za4,za0]
  clear e
  refine exW (fun o=>p100_1) ?_
  exact .mk ⟨_,rfl⟩
 simp only [Tr.val,Bool.not_true,zam,Bool.true_eq_false,if_false,zan,n0,Option.bind_some,zaf]
 refine .bT (by omega) ?_
 refine exW (fun o=>p100_2) ?_
 simp only [Tr.val,List.length_map,Int.toNat_natCast,zal,zas,zan,Option.map_some,Option.bind_some,Fld.av_cs,Par.av_cs,Dg.av_cs,Typ.av_cs,Qry.av_cs,Ex.av_cs,zaf,AV.pure,zab,zaa,za2,zad,za5,za9,zac,za3,za8,za6,za7,za4,za0]
 refine .call (w164 hC w hF hP x.s) ?_
 rintro o e1
 have hp : o.v.pure = true := by rw [e1]; cases denF w x.s <;> rfl
 rw [hp,za0,za0,e1]
 clear e1 hp
 obtain ⟨f,c,hfc,hc⟩ : ∃ f c,fOut (denF w x.s) = .tuple [.agg (Fld.cs f),.bool c]∧denF w x.s = (if c = true then some f else none):=by
  cases denF w x.s with
  | none=>exact ⟨fld0,false,rfl,rfl⟩
  | some f=>exact ⟨f,true,rfl,rfl⟩
 rw [hfc]
 have hset : zm3 w x = (decide (x.kind = 4) && (c && decide (f.kind = 4))):=by
  unfold zm3
  rw [hc]
  cases c <;> simp
 rw [hset]
 refine exW (fun o=>p100_3) ?_
 simp only [Tr.val,zan,n0,Option.bind_some,zaf]
 refine .bT (by omega) ?_
 refine exW (fun o=>p100_4) ?_
 simp only [Tr.val,zan,n0,n1,Option.bind_some,zaf]
 have noset : Was (ML C 100 [0,5,0,0,5,7,5,0,5,0,5,0,0,5,0,5,6,0] 4 (mkS 93 [(2,.lp 2 0),(3,.lp 3 0),(6,.val (.vs 2 true []) .own),(7,.val (.bool false) .no),(43,.val (.bool true) .no),(45,.val (.agg (Sc.cs w)) .no),(46,.lp 3 3),(47,.val (.vs 5 e.tg (exs e.l)) .no),(48,.val (.cptr (Ex.cs x)) .no)] [(2,⟨(Sc.cs w),[]⟩),(3,⟨(Ex.cs e),[]⟩)] Hp.none 0))
   (RT (let l := (if a.2 = [] then [⟨e.at_,12⟩] else a.2) ++ b.2
    let l2 := if decide (a.2 = []) = false∧b.2 = []∧b.1 ≠ 2 then l ++ [⟨e.at_,12⟩] else l
    if l2 = [] then (3,[]) else (0,l2))):=by
  refine exW (fun o=>p100_5) ?_
  simp only [Tr.val,List.length_map,Int.toNat_natCast,zal,zas,zan,Option.map_some,Option.bind_some,Fld.av_cs,Par.av_cs,Dg.av_cs,Typ.av_cs,Qry.av_cs,Ex.av_cs,zaf,AV.pure,zab,zaa,za2,zad,za5,za9,zac,za3,za8,za6,za7,za4,za0]
  refine .call wx ?_
  rintro o ⟨tga,e1⟩
  simp only [AV.pure,zab,zaa,za2,zad,za5,za9,zac,za3,za8,za6,za7,za4,za0,e1]
  clear e1
  refine exW (fun o=>p100_7) ?_
  simp only [Tr.val,zan,n1,Option.bind_some,zaf]
  simp only [AV.pure,zab,zaa,za2,zad,za5,za9,zac,za3,za8,za6,za7,za4,za0]
  obtain ⟨a1,a2⟩ := a
  obtain ⟨b1,b2⟩ := b
  simp only at ha hb ⊢
  cases a2 with
  | nil =>
   refine .bT (by simp) (.bT (by omega) ?_)
   refine exW (fun o=>p100_9) ?_
   simp only [Tr.val,List.length_map,Int.toNat_natCast,zal,zas,zan,Option.map_some,Option.bind_some,Fld.av_cs,Par.av_cs,Dg.av_cs,Typ.av_cs,Qry.av_cs,Ex.av_cs,zaf,AV.pure,zab,zaa,za2,zad,za5,za9,zac,za3,za8,za6,za7,za4,za0]
   refine .call wy ?_
   rintro o ⟨tgb,e1⟩
   simp only [AV.pure,zab,zaa,za2,zad,za5,za9,zac,za3,za8,za6,za7,za4,za0,e1]
   clear e1
   refine exW (fun o=>p100_11) ?_
   simp only [Tr.val,List.length_map,Int.toNat_natCast,zal,zas,zan,Option.map_some,Option.bind_some,Fld.av_cs,Par.av_cs,Dg.av_cs,Typ.av_cs,Qry.av_cs,Ex.av_cs,zaf,AV.pure,zab,zaa,za2,zad,za5,za9,zac,za3,za8,za6,za7,za4,za0]
   refine .bL (by unfold za1; omega) (.bL (by unfold za1; omega) ?_)
   simp only [if_true,decide_true,Bool.true_eq_false,false_and,if_false]
   exact rt_end (l := ⟨e.at_,12⟩ :: b2) _ rfl _
  | cons d a2 =>
   refine .bF (by simp only [List.length_map,List.length_cons]; omega) (.bT (by omega) ?_)
   refine exW (fun o=>p100_10) ?_
   simp only [Tr.val,List.length_map,Int.toNat_natCast,zal,zas,zan,Option.map_some,Option.bind_some,Fld.av_cs,Par.av_cs,Dg.av_cs,Typ.av_cs,Qry.av_cs,Ex.av_cs,zaf,AV.pure,zab,zaa,za2,zad,za5,za9,zac,za3,za8,za6,za7,za4,za0]
   refine .call wy ?_
   rintro o ⟨tgb,e1⟩
   simp only [AV.pure,zab,zaa,za2,zad,za5,za9,zac,za3,za8,za6,za7,za4,za0,e1]
   clear e1
   refine exW (fun o=>p100_12) ?_
   simp only [Tr.val,List.length_map,List.length_append,List.length_singleton]
   simp only [AV.pure,zab,zaa,za2,zad,za5,za9,zac,za3,za8,za6,za7,za4,za0]
   refine .bL (by unfold za1; omega) (.bL (by unfold za1; omega) ?_)
   simp only [reduceCtorEq,if_false,decide_false,true_and]
   cases b2 with
   | nil =>
    refine .bT (by simp) ?_
    by_cases h2 : b1 = 2
    ·subst h2
     simp only [decide_true,Bool.not_true,zam,ne_eq,not_true,if_false]
     refine .bT (by simp only [List.length_cons]; omega) (.mk ⟨false,?_⟩)
     simp [Dg.av]
    ·rw [decide_eq_false h2]
     simp only [Bool.not_false,za0,ne_eq,h2,not_false_eq_true,and_self,if_true]
     refine .bL (by unfold za1; simp only [List.length_nil]; omega) (.bL (by unfold za1; simp only [List.length_nil]; omega) ?_)
     refine .bT (by simp only [List.length_cons]; omega) (.mk ⟨false,?_⟩)
     simp [Dg.av,Dg.cs]
   | cons d' b2 =>
    refine .bF (by simp only [List.length_cons]; omega) ?_
    simp only [reduceCtorEq,false_and,if_false]
    refine .bT (by simp only [List.length_cons]; omega) (.mk ⟨false,?_⟩)
    simp [Dg.av]
 by_cases k4 : ¬ x.kind = 4
 ·rw [decide_eq_false k4]
  simp only [Bool.not_false,za0,Bool.false_and,Bool.false_eq_true,if_false,Bool.true_and]
  refine .bT (by omega) ?_
  exact noset
 have k4 := Decidable.of_not_not k4
 rw [decide_eq_true k4]
 cases c
 ·simp only [Bool.not_true,Bool.not_false,za0,zam,Bool.true_and,Bool.false_and,Bool.false_eq_true,if_false]
  refine .bT (by omega) ?_
  exact noset
 by_cases f4 : ¬ f.kind = 4
 ·rw [decide_eq_false f4]
  simp only [Bool.not_true,Bool.not_false,za0,zam,Bool.true_and,Bool.and_false,Bool.false_eq_true,if_false]
  refine .bT (by omega) ?_
  exact noset
 clear noset
 have f4 := Decidable.of_not_not f4
 rw [decide_eq_true f4]
 simp only [Bool.not_true,zam,Bool.true_and,Bool.and_true,Bool.false_and,if_true,List.nil_append,true_and]
 refine .bT (by omega) ?_
 refine exW (fun o=>p100_6) ?_
 simp only [Tr.val,List.length_map,Int.toNat_natCast,zal,zas,zan,Option.map_some,Option.bind_some,Fld.av_cs,Par.av_cs,Dg.av_cs,Typ.av_cs,Qry.av_cs,Ex.av_cs,zaf,AV.pure,zab,zaa,za2,zad,za5,za9,zac,za3,za8,za6,za7,za4,za0]
 refine .call wy ?_
 rintro o ⟨tgb,e1⟩
 simp only [AV.pure,zab,zaa,za2,zad,za5,za9,zac,za3,za8,za6,za7,za4,za0,e1]
 clear e1
 obtain ⟨b1,b2⟩ := b
 simp only at hb ⊢
 refine exW (fun o=>p100_8) ?_
 simp only [Tr.val,List.length_map,List.length_append,List.length_singleton,List.nil_append]
 simp only [AV.pure,zab,zaa,za2,zad,za5,za9,zac,za3,za8,za6,za7,za4,za0]
 refine .bL (by unfold za1; omega) (.bL (by unfold za1; omega) ?_)
 cases b2 with
 | nil =>
  refine .bT (by simp) ?_
  by_cases h2 : b1 = 2
  ·subst h2
   simp only [decide_true,Bool.not_true,zam,ne_eq,not_true,and_false,if_false]
   refine .bF (by simp) (.mk ⟨true,?_⟩)
   simp
  ·rw [decide_eq_false h2]
   simp only [Bool.not_false,za0,ne_eq,h2,not_false_eq_true,and_self,if_true]
   refine .bL (by unfold za1; simp only [List.length_nil]; omega) (.bL (by unfold za1; simp only [List.length_nil]; omega) ?_)
   refine .bT (by simp) (.mk ⟨false,?_⟩)
   simp [Dg.av,Dg.cs]
 | cons d' b2 =>
  refine .bF (by simp only [List.length_cons]; omega) ?_
  simp only [reduceCtorEq,false_and,if_false]
  refine .bT (by simp only [List.length_cons]; omega) (.mk ⟨false,?_⟩)
  simp [Dg.av]
end Go.Proofs.YtfdklpkfpmkgeaaGreatDoor
end
section
namespace Go.Proofs.YtfdklpkfpmkgeaaGreatDoor
open Go Go.Vai
attribute [local irreducible] goTo zaq mkS
abbrev p52L : List Nat := [0,5,0,0,5,2,0,5,7,0,5,7,0,5,7,0,5,7,0,5,7,5,5,0,0,5,0,5,7,5,0,0,5,7,5,0,5,0,5,0,0,5,2,3]
abbrev s52 (w : Sc) (e : Ex) (t1 : Bool) (T : List AV) (t2 : Bool) (D : List AV) (tg : Bool) (L : List Ex) (i : Int) : St := mkSM 103 [(2,.lp 2 0),(3,.lp 3 0),(7,.val (.vs 1 t1 T) .own),(8,.val (.vs 2 t2 D) .own),(68,.val (.vs 5 tg (exs L)) .no),(69,.val (.int .i64 (L.length : Int)) .no),(70,.val (.int .i64 i) .no)] [(2,⟨(Sc.cs w),[]⟩),(3,⟨(Ex.cs e),[]⟩)] Hp.none 0 [(36,[((.int .i64 (6)),(.int .i64 (1))),((.int .i64 (7)),(.int .i64 (2)))])]
variable {C : Nat→Oracle} (hC : Ext C)
theorem zkr (w : Sc) (e : Ex) (t1 : Bool) (T : List AV) (t2 : Bool) (D : List AV) (tg : Bool) (L : List Ex) (i : Nat) (x : Ex) (r : Int × List Dg) (hi : L[i]? = some x) (hL : L.length ≤ 1000) (hT : T.length ≤ 1000) (hD : D.length + r.2.length ≤ 1000000000)
  (wx : Was (calL C 52 [.agg w.cs,.agg x.cs] Hp.none 0) (RT r)) {Q : Out→Prop}
  (go : Was (RL C 52 p52L (s52 w e false (T ++ [.int .i64 r.1]) false (D ++ r.2.map Dg.av) tg L ((i + 1 : Nat) : Int))) Q) : Was (RL C 52 p52L (s52 w e t1 T t2 D tg L (i : Int))) Q:=by
 have h3 : i < L.length := (List.getElem?_eq_some_iff.1 hi).1
 refine exW (fun o=>p52_5) ?_
 simp only [Tr.val,zan,Int.toNat_natCast,zas,hi,Option.map_some,Option.bind_some,x.av_cs,zaf]
 refine .bT (by omega) (.bT (by omega) (.bT (by omega) ?_))
 refine exW (fun o=>p52_6) ?_
 simp only [Tr.val,List.length_map,Int.toNat_natCast,zal,zas,zan,Option.map_some,Option.bind_some,Fld.av_cs,Par.av_cs,Dg.av_cs,Typ.av_cs,Qry.av_cs,Ex.av_cs,zaf,AV.pure,zab,zaa,za2,zad,za5,za9,zac,za3,za8,za6,za7,za4,za0]
 refine .call wx ?_
 rintro o ⟨tgr,e1⟩
 simp only [AV.pure,zab,zaa,za2,zad,za5,za9,zac,za3,za8,za6,za7,za4,za0,e1]
 clear e1
 refine exW (fun o=>p52_8) ?_
 simp only [Tr.val,List.length_map]
 refine .bL (by unfold za1; omega) (.bL (by unfold za1; omega) (.bL (by unfold za1; omega) (.bL (by unfold za1; omega) ?_)))
 rw [wi64 h3 (by omega)]
 exact go
include hC
theorem zs1 (w : Sc) (e : Ex) (t1 : Bool) (T : List AV) (t2 : Bool) (ds : List Dg) (D : List AV) (hD : D = ds.map Dg.av) (tg : Bool) (L : List Ex) (x y : Int) (hT : (T = [.int .i64 x]∧x = y) ∨ T = [.int .i64 x,.int .i64 y]) :
  Was (RL C 52 p52L (s52 w e t1 T t2 D tg L (L.length : Int))) (RT (opT e ds (resF e.s x y))):=by
 subst hD
 have hpT : zab T = true := by rcases hT with ⟨rfl,_⟩ | rfl <;> rfl
 refine exW (fun o=>p52_5) ?_
 simp only [Tr.val,zan,List.length_map]
 refine .bF (by omega) ?_
 cases ds with
 | cons d l =>
  exact .bT (by simp only [List.length_cons]; omega) (.mk ⟨t2,rfl⟩)
 | nil =>
  refine .bF (by simp) ?_
  simp only [AV.pure,zab,zaa,za2,zad,za5,za9,zac,za3,za8,za6,za7,za4,za0,hpT]
  refine .call (w101 hC e.s t1 T x y hT) ?_
  rintro o e1
  simp only [AV.pure,zab,zaa,za2,zad,za5,za9,zac,za3,za8,za6,za7,za4,za0,e1]
  clear e1
  refine exW (fun o=>p52_7) ?_
  simp only [Tr.val,opT,if_true]
  by_cases h0 : resF e.s x y = 0
  ·rw [decide_eq_true h0,if_pos h0]
   simp only [Bool.not_true,zam]
   simp only [AV.pure,zab,zaa,za2,zad,za5,za9,zac,za3,za8,za6,za7,za4,za0]
   refine .call (w99 hC e 12) ?_
   rintro o ⟨tg',e⟩
   simp only [e,AV.pure,zab,zaa,za2,zad,za5,za9,zac,za3,za8,za6,za7,za4,za0]
   clear e
   refine exW (fun o=>p52_9) ?_
   exact .mk ⟨_,rfl⟩
  ·rw [decide_eq_false h0,if_neg h0]
   simp only [Bool.not_false,za0]
   exact .mk ⟨_,rfl⟩
theorem w52 (w : Sc) (hF : w.t.fields.length ≤ 1000000) (hP : w.ps.length ≤ 1000000) : ∀ e : Ex,WfE e→e.sz ≤ 1000000→Was (calL C 52 [.agg w.cs,.agg e.cs] Hp.none 0) (RT (tyE w e)):=by
 intro e he
 induction he with
 | leaf k n s tg a h1 h5 =>
  intro _
  rw [tyE]
  generalize hx : Ex.mk k n s tg [] a = e
  have hk : 1 ≤ e.kind∧e.kind ≤ 5 := by rw [← hx]; exact ⟨h1,h5⟩
  refine exW (fun o=>p52_c hC) (exW (fun o=>p52_0) ?_)
  simp only [Tr.val,leafT]
  refine .dec (fun h=>?_) (fun h=>?_)
  ·rw [if_pos h]; exact .mk ⟨_,rfl⟩
  rw [if_neg h]
  refine .dec (fun h=>?_) (fun h=>?_)
  ·rw [if_pos h]; exact .mk ⟨_,rfl⟩
  rw [if_neg h]
  refine .dec (fun h=>?_) (fun h=>?_)
  ·rw [if_pos h]; exact .mk ⟨_,rfl⟩
  rw [if_neg h]
  refine .dec (fun h=>?_) (fun h=>?_)
  ·rw [if_pos h]
   simp only [AV.pure,zab,zaa,za2,zad,za5,za9,zac,za3,za8,za6,za7,za4,za0]
   refine .call (w97 hC w hF hP e) ?_
   rintro o ⟨tg',e1⟩
   simp only [AV.pure,zab,zaa,za2,zad,za5,za9,zac,za3,za8,za6,za7,za4,za0,e1]
   clear e1
   refine exW (fun o=>p52_1) ?_
   exact .mk ⟨_,rfl⟩
  rw [if_neg h]
  refine .bT (by omega) ?_
  simp only [AV.pure,zab,zaa,za2,zad,za5,za9,zac,za3,za8,za6,za7,za4,za0]
  refine .call (w98 hC w hF e) ?_
  rintro o ⟨tg',e1⟩
  simp only [AV.pure,zab,zaa,za2,zad,za5,za9,zac,za3,za8,za6,za7,za4,za0,e1]
  clear e1
  refine exW (fun o=>p52_2) ?_
  exact .mk ⟨_,rfl⟩
 | un n s tg a x hs hx ih =>
  intro hsz
  simp only [Ex.sz,szE] at hsz
  have wx := ih (by omega)
  have hlx := zh9 w x
  have hnh : eqS s [104,97,115] = false := by rcases hs with rfl | rfl <;> rfl
  rw [tyE]
  refine exW (fun o=>p52_c hC) (exW (fun o=>p52_0) ?_)
  simp only [Tr.val,show (Ex.mk 6 n s tg [x] a).kind = 6 from rfl,show (Ex.mk 6 n s tg [x] a).l = [x] from rfl,show (Ex.mk 6 n s tg [x] a).s = s from rfl,zan,hnh,zam]
  refine .bF (by decide) (.bF (by decide) (.bF (by decide) (.bF (by decide) (.bF (by decide) (.bT (by decide) ?_)))))
  simp only [List.length_singleton]
  refine .brf rfl ?_
  refine zkr w _ _ [] _ [] _ [x] 0 x (tyE w x) rfl (by simp) (by simp) (by simp only [List.length_nil]; omega) wx ?_
  exact zs1 hC w _ _ _ _ (tyE w x).2 _ rfl _ [x] _ _ (.inl ⟨rfl,rfl⟩)
 | bin n s tg a x y hs hx hy ihx ihy =>
  intro hsz
  simp only [Ex.sz,szE] at hsz
  have wx := ihx (by omega)
  have wy := ihy (by omega)
  have hlx := zh9 w x
  have hly := zh9 w y
  rw [tyE]
  refine exW (fun o=>p52_c hC) (exW (fun o=>p52_0) ?_)
  simp only [Tr.val,show (Ex.mk 7 n s tg [x,y] a).kind = 7 from rfl,show (Ex.mk 7 n s tg [x,y] a).l = [x,y] from rfl,show (Ex.mk 7 n s tg [x,y] a).s = s from rfl,zan]
  refine .bF (by decide) (.bF (by decide) (.bF (by decide) (.bF (by decide) (.bF (by decide) (.bF (by decide) (.bT (by decide) ?_))))))
  simp only [List.length_cons,List.length_nil]
  refine .brf rfl ?_
  by_cases h : s = wHas
  ·rw [if_pos h]
   refine .brn ((zcx _ _).2 h) (.bT (by decide) ?_)
   simp only [AV.pure,zab,zaa,za2,zad,za5,za9,zac,za3,za8,za6,za7,za4,za0]
   refine .call (w100 hC w hF hP 7 n s tg x y a _ _ (by omega) (by omega) wx wy) ?_
   rintro o ⟨tg',e1⟩
   simp only [AV.pure,zab,zaa,za2,zad,za5,za9,zac,za3,za8,za6,za7,za4,za0,e1]
   clear e1
   refine exW (fun o=>p52_4) ?_
   exact .mk ⟨_,rfl⟩
  ·rw [if_neg h]
   refine .brf (by rw [Bool.eq_false_iff]; exact fun he=>h ((zcx _ _).1 he)) ?_
   refine zkr w _ _ [] _ [] _ [x,y] 0 x (tyE w x) rfl (by simp) (by simp) (by simp only [List.length_nil]; omega) wx ?_
   refine zkr w _ _ _ _ _ _ [x,y] 1 y (tyE w y) rfl (by simp) (by simp) (by simp only [List.length_append,List.length_map,List.length_nil]; omega) wy ?_
   exact zs1 hC w _ _ _ _ ((tyE w x).2 ++ (tyE w y).2) _ (by simp) _ [x,y] _ _ (.inr rfl)
end Go.Proofs.YtfdklpkfpmkgeaaGreatDoor
end
section
namespace Go.Proofs.YtfdklpkfpmkgeaaGreatDoor
open Go Go.Vai
attribute [local irreducible] goTo zaq mkS
variable {C : Nat → Oracle} {o : Out}
abbrev cU0 : Nat × Blk := (2,⟨[(i6 0),(i6 0),(.str []),(.vs 5 true []),(i6 0)],[3]⟩)
theorem p152_c (hC : Ext C) {z_1 : Stm} (ho : RL C 152 [] (mk0 12 [vv 0 (.agg (Stm.cs z_1))]) = some o) : calL C 152 [(.agg (Stm.cs z_1))] Hp.none 0 = some o := hC.call rfl (fun _ _ => by kernel_rfl) ho
theorem p152_0 {z_1 : Stm} (ho : Tr.val C 152
(.br (decide (((exs z_1.value).length : Int) = 0))
(rt (.agg [(i6 0),(i6 0),(.str []),(.vs 5 true []),(i6 0)]))
(.br (decide (0 < ((exs z_1.value).length : Int)))
(.bind (nth (exs z_1.value) 0) fun c1 =>
(.mid 0 [0,5,0,0,5,7,5,0] 3 (mkS 12 [(1,.lp 1 0),(2,.lp 2 0),vb 6 false,(8,.lp 1 2),vv 9 (.vs 5 true (exs z_1.value)),vv 10 (.cptr (AV.cells c1))] [(1,⟨(Stm.cs z_1),[]⟩),cU0] Hp.none 0))) .none)) = some o) : RL C 152 [] (mk0 12 [vv 0 (.agg (Stm.cs z_1))]) = some o := stR C 9 (fun _ _ => by kernel_rfl) ho
theorem p152_1 {z_1 : Stm} {e_2 : Ex} (ho : Tr.val C 152
(rt (.agg (Ex.cs e_2))) = some o) : ML C 152 [0,5,0,0,5,7,5,0] 3 (mkS 12 [(1,.lp 1 0),(2,.lp 2 0),vb 6 false,(8,.lp 1 2),vv 9 (.vs 5 true (exs z_1.value)),vv 10 (.cptr (Ex.cs e_2))] [(1,⟨(Stm.cs z_1),[]⟩),cU0] Hp.none 0) = some o := stM C 1 (fun _ _ => by kernel_rfl) ho
theorem p153_c (hC : Ext C) {x_3 : Int} (ho : RL C 153 [] (mk0 13 [vi 0 x_3]) = some o) : calL C 153 [(i6 x_3)] Hp.none 0 = some o := hC.call rfl (fun _ _ => by kernel_rfl) ho
theorem p153_0 {x_3 : Int} (ho : Tr.val C 153
(.br (decide (x_3 = 1))
(rt (.tuple [(i6 1),(i6 0)]))
(.br (decide (x_3 = 2))
(rt (.tuple [(i6 3),(i6 1)]))
(.br (decide (x_3 = 3))
(rt (.tuple [(i6 2),(i6 1)]))
(.br (decide (x_3 = 4))
(rt (.tuple [(i6 4),(i6 2)]))
(rt (.tuple [(i6 5),(i6 0)])))))) = some o) : RL C 153 [] (mk0 13 [vi 0 x_3]) = some o := stR C 23 (fun _ _ => by kernel_rfl) ho
end Go.Proofs.YtfdklpkfpmkgeaaGreatDoor
end
section
namespace Go.Proofs.YtfdklpkfpmkgeaaGreatDoor
open Go Go.Vai
attribute [local irreducible] goTo zaq mkS
set_option maxHeartbeats 40000000
def ex0 : Ex := .mk 0 0 [] true [] 0
def valS (z : Stm) : Ex := match z.value with
 | []=>ex0
 | e :: _=>e
def kOf (k : Int) : Int × Int := if k = 1 then (1,0) else if k = 2 then (3,1) else if k = 3 then (2,1) else if k = 4 then (4,2) else (5,0)
def stD (w : Sc) (z : Stm) : List Dg :=
 let f := fldF w.t.fields z.field
 let d1 : List Dg := match f with
  | none=>[⟨z.at_,6⟩]
  | some f=>if f.kind = (kOf z.kind).1 then [] else [⟨z.at_,10⟩]
 if z.kind = 5 then d1 else
 let want := if (kOf z.kind).1 = 1 then (f.getD fld0).type else (kOf z.kind).2
 let r := tyE w (valS z)
 d1 ++ r.2 ++ (if d1 = []∧r.2 = []∧r.1 ≠ want then [⟨(valS z).at_,12⟩] else [])
def ifD (w : Sc) (e : Ex) : List Dg := (tyE w e).2 ++ (if (tyE w e).2 = []∧(tyE w e).1 ≠ 3 then [⟨e.at_,12⟩] else [])
mutual
def zkp (w : Sc) : Stm→List Dg
 | .mk k s v t1 th t2 el a=>if k = 6 then ifD w (valS (.mk k s v t1 th t2 el a)) ++ zcw w th ++ zcw w el else stD w (.mk k s v t1 th t2 el a)
def zcw (w : Sc) : List Stm→List Dg
 | []=>[]
 | z :: l=>zkp w z ++ zcw w l
end
variable {C : Nat→Oracle} (hC : Ext C)
include hC
theorem w152 (z : Stm) : Was (calL C 152 [.agg z.cs] Hp.none 0) (fun o=>o = ⟨.agg (valS z).cs,Hp.none,0⟩):=by
 refine exW (fun o=>p152_c hC) (exW (fun o=>p152_0) ?_)
 simp only [Tr.val]
 obtain h | ⟨e,l,h⟩ : z.value = [] ∨ ∃ e l,z.value = e :: l:=by
  cases z.value with
  | nil=>exact Or.inl rfl
  | cons e l=>exact Or.inr ⟨e,l,rfl⟩
 ·refine .bT (by rw [h,exs]; rfl) (.mk ?_)
  unfold valS
  rw [h]
  rfl
 ·have hv : valS z = e := by unfold valS; rw [h]
  rw [hv]
  refine .bF (by rw [h,exs,List.length_cons]; omega) (.bT (by rw [h,exs,List.length_cons]; omega) ?_)
  rw [show Vai.nth (exs z.value) 0 = some e.av by rw [h,exs]; rfl,Option.bind_some,show e.av.cells = e.cs by rw [Ex.av_cs]; rfl]
  exact exW (fun o=>p152_1) (.mk rfl)
theorem w153 (k : Int) : Was (calL C 153 [.int .i64 k] Hp.none 0) (fun o=>o = ⟨.tuple [.int .i64 (kOf k).1,.int .i64 (kOf k).2],Hp.none,0⟩):=by
 refine exW (fun o=>p153_c hC) (exW (fun o=>p153_0) ?_)
 unfold kOf
 refine .dec (fun h=>.mk (by rw [if_pos h])) fun h=>?_
 rw [if_neg h]
 refine .dec (fun h=>.mk (by rw [if_pos h])) fun h=>?_
 rw [if_neg h]
 refine .dec (fun h=>.mk (by rw [if_pos h])) fun h=>?_
 rw [if_neg h]
 refine .dec (fun h=>.mk (by rw [if_pos h])) fun h=>?_
 rw [if_neg h]
 exact .mk rfl
end Go.Proofs.YtfdklpkfpmkgeaaGreatDoor
end
