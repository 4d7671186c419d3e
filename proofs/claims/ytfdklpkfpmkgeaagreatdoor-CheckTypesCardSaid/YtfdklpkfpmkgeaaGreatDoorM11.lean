/- Stage laws,printed by gen_p.py. -/
import Derived.Test.YtfdklpkfpmkgeaaGreatDoorM10
set_option linter.unusedSimpArgs false
set_option linter.unusedVariables false
set_option linter.unusedSectionVars false
set_option linter.unnecessarySimpa false
section
namespace Go.Proofs.YtfdklpkfpmkgeaaGreatDoor
open Go Go.Vai
attribute [local irreducible] goTo zas mkS
variable {C : Nat → Oracle} {o : Out}
abbrev qO0 : List Nat := [0,5,0,0,5,2,3,0,0,5,6,5,0,2,0]
abbrev qO1 : List Nat := [0,5,0,0,5,7,5,0,5,0,5,0,0]
abbrev qO2 : List Nat := [0,5,0,0,5,7,5,0,5,0,5,0,0,5,6,0]
abbrev qO3 : List Nat := [0,5,0,0,5,7,5,0,5,0,5,0,0,5,7,5,0]
abbrev qO4 : List Nat := [0,5,0,0,5,7,5,0,5,0,5,0,0,5,6,0,5,0,5,6,0,5,5,0]
abbrev qO5 : List Nat := [0,5,0,0,5,7,5,0,5,0,5,0,0,5,6,0,5,0,5,7,5,0]
abbrev qO6 : List Nat := [0,5,0,0,5,2,0,5,7,0,5,7,0,5,7,0,5,7,0,5,7,0,5,6,0]
abbrev qO7 : List Nat := [0,5,0,0,5,2,0,5,7,0,5,7,0,5,7,0,5,7,0,5,7,0,5,7,5,5,0,0,5,7,5,0]
abbrev qO8 : List Nat := [0,5,0,0,5,2,0,5,7,0,5,7,0,5,7,0,5,7,0,5,7,0,5,7,5,5,0,0,5,7,5,0,5,0]
abbrev qO9 : List Nat := [0,5,0,0,5,2,0,5,7,0,5,7,0,5,7,0,5,7,0,5,7,0,5,7,5,5,0,0,5,7,5,0,5,0,5,0,5,0,0,5,2,0,0,5,6,5,6,0]
abbrev qO10 : List Nat := [0,5,0,0,5,2,0,5,7,0,5,7,0,5,7,0,5,7,0,5,7,0,5,7,5,5,0,0,5,7,5,0,5,0,5,0,5,0,0,5,2,0,0,5,7,0,5,6,5,6,0]
abbrev qO11 : List Nat := [0,5,0,0,5,2,0,5,7,0,5,7,0,5,7,0,5,7,0,5,7,0,5,7,5,5,0,0,5,7,5,0,5,0,5,0,5,0,0,5,2,0,0,5,7,0,5,7,5,6,0]
abbrev qO12 : List Nat := [0,5,0,0,5,2,0,5,7,0,5,7,0,5,7,0,5,7,0,5,7,0,5,7,5,5,0,0,5,7,5,0,5,0,5,0,5,0,0,5,2,0,0,5,7,0,5,7,5,7,0,0,5,6,5,6,0]
abbrev qO13 : List Nat := [0,5,0,0,5,2,0,5,7,0,5,7,0,5,7,0,5,7,0,5,7,0,5,7,5,5,0,0,5,7,5,0,5,0,5,0,5,0,0,5,2,0,0,5,7,0,5,7,5,7,0,0,5,7,5,6,0]
abbrev qO14 : List Nat := [0,5,0,0,5,2,0,5,7,0,5,7,0,5,7,0,5,7,0,5,7,0,5,7,5,5,0,0,5,7,5,0,5,0,5,0,5,0,0,5,2,0,0,5,7,0,5,7,5,7,0,0,5,7,5,7,0,0,5,7,5,7,5,5,0]
abbrev qO15 : List Nat := [0,5,0,0,5,0,5,7,5,0,5,0,0,5,7,5,0,0,5,2,0,5,6,0]
abbrev qO16 : List Nat := [0,5,0,0,5,2,0,5,7,0,5,7,0,5,7,0,5,7,0,5,6,0]
abbrev qO17 : List Nat := [0,5,0,0,5,2,0,5,7,0,5,7,0,5,7,0,5,7,0,5,7,0,5,7,5,5,0,0,5,6,0]
abbrev qO18 : List Nat := [0,5,0,0,5,2,0,5,7,0,5,7,0,5,7,0,5,7,0,5,6,0,5,0,2,0,5,7,0,5,7,0]
abbrev qO19 : List Nat := [0,5,0,0,5,2,0,5,7,0,5,7,0,5,7,0,5,7,0,5,7,0,5,6,0,5,0,5,0,0,5,6,5,0]
abbrev qO20 : List Nat := [0,5,0,0,5,2,0,5,7,0,5,7,0,5,7,0,5,7,0,5,7,0,5,6,0,5,0,5,0,0,5,7,5,0]
abbrev qO21 : List Nat := [0,5,0,0,5,2,0,5,7,0,5,7,0,5,7,0,5,7,0,5,7,0,5,7,5,5,0,0,5,7,5,0,5,0,5,0,5,0,0,5,2,0,0,5,7,0,5,7,5,7,0,0,5,7,5,7,0,0,5,6,5,6,0]
abbrev qO22 : List Nat := [0,5,0,0,5,2,0,5,7,0,5,7,0,5,7,0,5,7,0,5,7,0,5,7,5,5,0,0,5,7,5,0,5,0,5,0,5,0,0,5,2,0,0,5,7,0,5,7,5,7,0,0,5,7,5,7,0,0,5,7,5,6,0]
theorem p54_c (hC : Ext C) {t_1 : Typ} {s_2 : List UInt8} (ho : RL C 54 [] (mk0 22 [vv 0 (.agg (Typ.cs t_1)),vt 1 s_2]) = some o) : calL C 54 [(.agg (Typ.cs t_1)),(.str s_2)] Hp.none 0 = some o := hC.call rfl (fun _ _ => by kernel_rfl) ho
theorem p54_0 {t_1 : Typ} {s_2 : List UInt8} (ho : Tr.val C 54
(.run 0 [0,5,0,0,5,2,3] (mkS 22 [vt 1 s_2,(2,.lp 2 0),vi 5 0] [(2,⟨(Typ.cs t_1),[]⟩)] Hp.none 0)) = some o) : RL C 54 [] (mk0 22 [vv 0 (.agg (Typ.cs t_1)),vt 1 s_2]) = some o := stR C 7 (fun _ _ => by kernel_rfl) ho
theorem p54_1 {s_3 : List UInt8} {x_4 : Int} {t_5 : Typ} (ho : Tr.val C 54
(.br (decide (x_4 < ((t_5.fields.map Fld.av).length : Int)))
(ix (t_5.fields.map Fld.av) x_4 fun c1 =>
(.mid 0 qO0 4 (mkS 22 [vt 1 s_3,(2,.lp 2 0),vi 5 x_4,vb 10 true,(13,.lp 2 1),vv 14 (.vs 4 t_5.tgF (t_5.fields.map Fld.av)),vi 15 x_4,vv 16 (.cptr (AV.cells c1))] [(2,⟨(Typ.cs t_5),[]⟩)] Hp.none 0)))
(rt (i6 (-1)))) = some o) : RL C 54 [0,5,0,0,5,2,3] (mkS 22 [vt 1 s_3,(2,.lp 2 0),vi 5 x_4] [(2,⟨(Typ.cs t_5),[]⟩)] Hp.none 0) = some o := stR C 9 (fun _ _ => by kernel_rfl) ho
theorem p54_2 {s_3 : List UInt8} {x_4 : Int} {t_5 : Typ} {f_6 : Fld} (ho : Tr.val C 54
(.br (eqS f_6.name s_3)
(rt (i6 x_4))
(.run 0 [0,5,0,0,5,2,3] (mkS 22 [vt 1 s_3,(2,.lp 2 0),vi 5 (w64 (x_4 + 1))] [(2,⟨(Typ.cs t_5),[]⟩)] Hp.none 0))) = some o) : ML C 54 qO0 4 (mkS 22 [vt 1 s_3,(2,.lp 2 0),vi 5 x_4,vb 10 true,(13,.lp 2 1),vv 14 (.vs 4 t_5.tgF (t_5.fields.map Fld.av)),vi 15 x_4,vv 16 (.cptr (Fld.cs f_6))] [(2,⟨(Typ.cs t_5),[]⟩)] Hp.none 0) = some o := stM C 5 (fun _ _ => by kernel_rfl) ho
theorem p102_c (hC : Ext C) {tg_7 : Bool} {l_8 : List Par} {s_9 : List UInt8} (ho : RL C 102 [] (mk0 20 [vv 0 (.vs 3 tg_7 (l_8.map Par.av)),vt 1 s_9]) = some o) : calL C 102 [(.vs 3 tg_7 (l_8.map Par.av)),(.str s_9)] Hp.none 0 = some o := hC.call rfl (fun _ _ => by kernel_rfl) ho
theorem p102_0 {tg_7 : Bool} {l_8 : List Par} {s_9 : List UInt8} (ho : Tr.val C 102
(.run 0 [0,5,0,0,5,2,3] (mk0 20 [vv 0 (.vs 3 tg_7 (l_8.map Par.av)),vt 1 s_9,vi 5 0])) = some o) : RL C 102 [] (mk0 20 [vv 0 (.vs 3 tg_7 (l_8.map Par.av)),vt 1 s_9]) = some o := stR C 7 (fun _ _ => by kernel_rfl) ho
theorem p102_1 {tg_10 : Bool} {l_11 : List Par} {s_12 : List UInt8} {x_13 : Int} (ho : Tr.val C 102
(.br (decide (x_13 < ((l_11.map Par.av).length : Int)))
(ix (l_11.map Par.av) x_13 fun c1 =>
(.mid 0 qO0 3 (mk0 20 [vv 0 (.vs 3 tg_10 (l_11.map Par.av)),vt 1 s_12,vi 5 x_13,vb 9 true,vv 12 (.vs 3 tg_10 (l_11.map Par.av)),vi 13 x_13,vv 14 (.cptr (AV.cells c1))])))
(rt (i6 (-1)))) = some o) : RL C 102 [0,5,0,0,5,2,3] (mk0 20 [vv 0 (.vs 3 tg_10 (l_11.map Par.av)),vt 1 s_12,vi 5 x_13]) = some o := stR C 9 (fun _ _ => by kernel_rfl) ho
theorem p102_2 {tg_10 : Bool} {l_11 : List Par} {s_12 : List UInt8} {x_13 : Int} {p_14 : Par} (ho : Tr.val C 102
(.br (eqS p_14.name s_12)
(rt (i6 x_13))
(.run 0 [0,5,0,0,5,2,3] (mk0 20 [vv 0 (.vs 3 tg_10 (l_11.map Par.av)),vt 1 s_12,vi 5 (w64 (x_13 + 1))]))) = some o) : ML C 102 qO0 3 (mk0 20 [vv 0 (.vs 3 tg_10 (l_11.map Par.av)),vt 1 s_12,vi 5 x_13,vb 9 true,vv 12 (.vs 3 tg_10 (l_11.map Par.av)),vi 13 x_13,vv 14 (.cptr (Par.cs p_14))]) = some o := stM C 5 (fun _ _ => by kernel_rfl) ho
theorem p103_c (hC : Ext C) {t_15 : Typ} {tg_16 : Bool} {l_17 : List Par} {e_18 : Ex} (ho : RL C 103 [] (mk0 33 [vv 0 (.agg (Typ.cs t_15)),vv 1 (.vs 3 tg_16 (l_17.map Par.av)),vv 2 (.agg (Ex.cs e_18))]) = some o) : calL C 103 [(.agg (Typ.cs t_15)),(.vs 3 tg_16 (l_17.map Par.av)),(.agg (Ex.cs e_18))] Hp.none 0 = some o := hC.call rfl (fun _ _ => by kernel_rfl) ho
theorem p103_0 {t_15 : Typ} {tg_16 : Bool} {l_17 : List Par} {e_18 : Ex} (ho : Tr.val C 103
(.br (!(decide (e_18.kind = 4)))
(rt (.bool false))
(cl0 102 [(.vs 3 tg_16 (l_17.map Par.av)),(.str e_18.s)] fun r1 => .br (AV.pure r1.v)
(.mid 4 [0,5,0,0] 8 (mkS 33 [vv 1 (.vs 3 tg_16 (l_17.map Par.av)),(3,.lp 3 0),(5,.lp 5 0),(8,.lp 5 0),vi 9 e_18.kind,vb 10 (!(decide (e_18.kind = 4))),vb 11 false,vv 12 (.vs 3 tg_16 (l_17.map Par.av)),(13,.lp 5 2),vt 14 e_18.s,vv 15 r1.v] [(3,⟨(Typ.cs t_15),[]⟩),(5,⟨(Ex.cs e_18),[]⟩)] Hp.none 0)) .none)) = some o) : RL C 103 [] (mk0 33 [vv 0 (.agg (Typ.cs t_15)),vv 1 (.vs 3 tg_16 (l_17.map Par.av)),vv 2 (.agg (Ex.cs e_18))]) = some o := stR C 9 (fun _ _ => by kernel_rfl) ho
theorem p103_1 {t_15 : Typ} {tg_16 c_20 : Bool} {l_17 : List Par} {e_18 : Ex} {x_19 : Int} (ho : Tr.val C 103
(.br (decide (0 ≤ x_19))
(rt (.bool false))
(cl0 54 [(.agg (Typ.cs t_15)),(.str e_18.s)] fun r2 => .br (AV.pure r2.v)
(.mid 0 [0,5,0,0,5,7,5,0] 4 (mkS 33 [(3,.lp 3 0),(5,.lp 5 0),vb 17 false,vv 18 (.agg (Typ.cs t_15)),(19,.lp 5 2),vt 20 e_18.s,vv 21 r2.v] [(3,⟨(Typ.cs t_15),[]⟩),(5,⟨(Ex.cs e_18),[]⟩)] Hp.none 0)) .none)) = some o) : ML C 103 [0,5,0,0] 8 (mkS 33 [vv 1 (.vs 3 tg_16 (l_17.map Par.av)),(3,.lp 3 0),(5,.lp 5 0),(8,.lp 5 0),vi 9 e_18.kind,vb 10 c_20,vb 11 false,vv 12 (.vs 3 tg_16 (l_17.map Par.av)),(13,.lp 5 2),vt 14 e_18.s,vi 15 x_19] [(3,⟨(Typ.cs t_15),[]⟩),(5,⟨(Ex.cs e_18),[]⟩)] Hp.none 0) = some o := stM C 4 (fun _ _ => by kernel_rfl) ho
theorem p103_2 {t_15 : Typ} {e_18 : Ex} {x_21 : Int} (ho : Tr.val C 103
(.br (decide (0 ≤ x_21))
(ix (t_15.fields.map Fld.av) x_21 fun c3 =>
(.mid 1 [0,5,0,0,5,7,5,0,5,0] 7 (mkS 33 [(3,.lp 3 0),vi 7 x_21,vi 22 x_21,vb 23 (decide (0 ≤ x_21)),vb 24 true,(25,.lp 3 1),vv 26 (.vs 4 t_15.tgF (t_15.fields.map Fld.av)),vi 27 x_21,vv 28 (.cptr (AV.cells c3))] [(3,⟨(Typ.cs t_15),[]⟩)] Hp.none 0)))
(rt (.bool false))) = some o) : ML C 103 [0,5,0,0,5,7,5,0] 4 (mkS 33 [(3,.lp 3 0),(5,.lp 5 0),vb 17 false,vv 18 (.agg (Typ.cs t_15)),(19,.lp 5 2),vt 20 e_18.s,vi 21 x_21] [(3,⟨(Typ.cs t_15),[]⟩),(5,⟨(Ex.cs e_18),[]⟩)] Hp.none 0) = some o := stM C 3 (fun _ _ => by kernel_rfl) ho
theorem p103_3 {t_15 : Typ} {x_21 : Int} {f_22 : Fld} {c_23 : Bool} (ho : Tr.val C 103
(rt (.bool (decide (f_22.kind = 4)))) = some o) : ML C 103 [0,5,0,0,5,7,5,0,5,0] 7 (mkS 33 [(3,.lp 3 0),vi 7 x_21,vi 22 x_21,vb 23 c_23,vb 24 true,(25,.lp 3 1),vv 26 (.vs 4 t_15.tgF (t_15.fields.map Fld.av)),vi 27 x_21,vv 28 (.cptr (Fld.cs f_22))] [(3,⟨(Typ.cs t_15),[]⟩)] Hp.none 0) = some o := stM C 1 (fun _ _ => by kernel_rfl) ho
theorem p55_c (hC : Ext C) {e_24 : Ex} {tg_25 c_27 : Bool} {l_26 : List Dg} {x_28 : Int} (ho : RL C 55 [] (mk0 21 [vv 0 (.agg (Ex.cs e_24)),vv 1 (.vs 2 tg_25 (l_26.map Dg.av)),vb 2 c_27,vi 3 x_28]) = some o) : calL C 55 [(.agg (Ex.cs e_24)),(.vs 2 tg_25 (l_26.map Dg.av)),(.bool c_27),(i6 x_28)] Hp.none 0 = some o := hC.call rfl (fun _ _ => by kernel_rfl) ho
theorem p55_0 {e_24 : Ex} {tg_25 c_27 : Bool} {l_26 : List Dg} {x_28 : Int} (ho : Tr.val C 55
(.br (decide (0 < ((l_26.map Dg.av).length : Int)))
(rt (.tuple [(i6 0),(.vs 2 tg_25 (l_26.map Dg.av))]))
(.br (!c_27)
(rt (.tuple [(i6 0),(.vs 2 true [(.agg [(i6 e_24.at_),(i6 12)])])]))
(rt (.tuple [(i6 x_28),(.vs 2 true [])])))) = some o) : RL C 55 [] (mk0 21 [vv 0 (.agg (Ex.cs e_24)),vv 1 (.vs 2 tg_25 (l_26.map Dg.av)),vb 2 c_27,vi 3 x_28]) = some o := stR C 15 (fun _ _ => by kernel_rfl) ho
theorem p53_c (hC : Ext C) {t_29 : Typ} {tg_30 c_33 : Bool} {l_31 : List Par} {e_32 : Ex} (ho : RL C 53 [] (mk0 59 [vv 0 (.agg (Typ.cs t_29)),vv 1 (.vs 3 tg_30 (l_31.map Par.av)),vv 2 (.agg (Ex.cs e_32)),vb 3 c_33]) = some o) : calL C 53 [(.agg (Typ.cs t_29)),(.vs 3 tg_30 (l_31.map Par.av)),(.agg (Ex.cs e_32)),(.bool c_33)] Hp.none 0 = some o := hC.call rfl (fun _ _ => by kernel_rfl) ho
theorem p53_0 {t_29 : Typ} {tg_30 c_33 : Bool} {l_31 : List Par} {e_32 : Ex} (ho : Tr.val C 53
(cl0 102 [(.vs 3 tg_30 (l_31.map Par.av)),(.str e_32.s)] fun r1 => .br (AV.pure r1.v)
(.mid 0 [0,5,0,0] 4 (mkS 59 [vv 1 (.vs 3 tg_30 (l_31.map Par.av)),vb 3 c_33,(4,.lp 4 0),(6,.lp 6 0),vv 12 (.vs 3 tg_30 (l_31.map Par.av)),(13,.lp 6 2),vt 14 e_32.s,vv 15 r1.v] [(4,⟨(Typ.cs t_29),[]⟩),(6,⟨(Ex.cs e_32),[]⟩)] Hp.none 0)) .none) = some o) : RL C 53 [] (mk0 59 [vv 0 (.agg (Typ.cs t_29)),vv 1 (.vs 3 tg_30 (l_31.map Par.av)),vv 2 (.agg (Ex.cs e_32)),vb 3 c_33]) = some o := stR C 5 (fun _ _ => by kernel_rfl) ho
theorem p53_1 {t_29 : Typ} {tg_30 c_33 : Bool} {l_31 : List Par} {e_32 : Ex} {x_34 : Int} (ho : Tr.val C 53
(.br (decide (0 ≤ x_34))
(ix (l_31.map Par.av) x_34 fun c2 =>
(.mid 1 [0,5,0,0,5,0,5,6,0] 3 (mkS 59 [vv 1 (.vs 3 tg_30 (l_31.map Par.av)),vb 3 c_33,(4,.lp 4 0),(6,.lp 6 0),vi 10 x_34,vb 17 true,vv 18 (.vs 3 tg_30 (l_31.map Par.av)),vi 19 x_34,vv 20 (.cptr (AV.cells c2))] [(4,⟨(Typ.cs t_29),[]⟩),(6,⟨(Ex.cs e_32),[]⟩)] Hp.none 0)))
(cl0 54 [(.agg (Typ.cs t_29)),(.str e_32.s)] fun r3 => .br (AV.pure r3.v)
(.mid 0 [0,5,0,0,5,0,5,7,5,0] 4 (mkS 59 [vv 1 (.vs 3 tg_30 (l_31.map Par.av)),vb 3 c_33,(4,.lp 4 0),(6,.lp 6 0),vi 10 x_34,vb 17 false,vv 23 (.agg (Typ.cs t_29)),(24,.lp 6 2),vt 25 e_32.s,vv 26 r3.v] [(4,⟨(Typ.cs t_29),[]⟩),(6,⟨(Ex.cs e_32),[]⟩)] Hp.none 0)) .none)) = some o) : ML C 53 [0,5,0,0] 4 (mkS 59 [vv 1 (.vs 3 tg_30 (l_31.map Par.av)),vb 3 c_33,(4,.lp 4 0),(6,.lp 6 0),vv 12 (.vs 3 tg_30 (l_31.map Par.av)),(13,.lp 6 2),vt 14 e_32.s,vi 15 x_34] [(4,⟨(Typ.cs t_29),[]⟩),(6,⟨(Ex.cs e_32),[]⟩)] Hp.none 0) = some o := stM C 6 (fun _ _ => by kernel_rfl) ho
theorem p53_2 {t_29 : Typ} {tg_30 c_33 : Bool} {l_31 : List Par} {e_32 : Ex} {x_34 : Int} {p_35 : Par} (ho : Tr.val C 53
(rt (.tuple [(i6 p_35.type),(.vs 2 true [])])) = some o) : ML C 53 [0,5,0,0,5,0,5,6,0] 3 (mkS 59 [vv 1 (.vs 3 tg_30 (l_31.map Par.av)),vb 3 c_33,(4,.lp 4 0),(6,.lp 6 0),vi 10 x_34,vb 17 true,vv 18 (.vs 3 tg_30 (l_31.map Par.av)),vi 19 x_34,vv 20 (.cptr (Par.cs p_35))] [(4,⟨(Typ.cs t_29),[]⟩),(6,⟨(Ex.cs e_32),[]⟩)] Hp.none 0) = some o := stM C 1 (fun _ _ => by kernel_rfl) ho
theorem p53_3 {t_29 : Typ} {tg_30 c_33 : Bool} {l_31 : List Par} {e_32 : Ex} {x_34 x_36 : Int} (ho : Tr.val C 53
(.br (!c_33)
(rt (.tuple [(i6 0),(.vs 2 true [(.agg [(i6 e_32.at_),(i6 6)])])]))
(.br (decide (x_36 < 0))
(rt (.tuple [(i6 0),(.vs 2 true [(.agg [(i6 e_32.at_),(i6 6)])])]))
(ix (t_29.fields.map Fld.av) x_36 fun c4 =>
(.mid 0 [0,5,0,0,5,0,5,7,5,0,5,0,0,5,7,5,0,0] 4 (mkS 59 [(4,.lp 4 0),(6,.lp 6 0),vi 11 x_36,vb 32 false,(37,.lp 4 1),vv 38 (.vs 4 t_29.tgF (t_29.fields.map Fld.av)),vi 39 x_36,vv 40 (.cptr (AV.cells c4))] [(4,⟨(Typ.cs t_29),[]⟩),(6,⟨(Ex.cs e_32),[]⟩)] Hp.none 0))))) = some o) : ML C 53 [0,5,0,0,5,0,5,7,5,0] 4 (mkS 59 [vv 1 (.vs 3 tg_30 (l_31.map Par.av)),vb 3 c_33,(4,.lp 4 0),(6,.lp 6 0),vi 10 x_34,vb 17 false,vv 23 (.agg (Typ.cs t_29)),(24,.lp 6 2),vt 25 e_32.s,vi 26 x_36] [(4,⟨(Typ.cs t_29),[]⟩),(6,⟨(Ex.cs e_32),[]⟩)] Hp.none 0) = some o := stM C 8 (fun _ _ => by kernel_rfl) ho
theorem p53_4 {t_29 : Typ} {e_32 : Ex} {x_36 : Int} {f_37 : Fld} (ho : Tr.val C 53
(.br (decide (f_37.kind = 1))
(ix (t_29.fields.map Fld.av) x_36 fun c5 =>
(.mid 9 qO15 4 (mkS 59 [(4,.lp 4 0),(6,.lp 6 0),vi 11 x_36,vi 42 f_37.kind,vb 43 true,(45,.lp 4 1),vv 46 (.vs 4 t_29.tgF (t_29.fields.map Fld.av)),vi 47 x_36,vv 48 (.cptr (AV.cells c5))] [(4,⟨(Typ.cs t_29),[]⟩),(6,⟨(Ex.cs e_32),[]⟩)] Hp.none 0)))
(.br (decide (f_37.kind = 4))
(rt (.tuple [(i6 0),(.vs 2 true [(.agg [(i6 e_32.at_),(i6 12)])])]))
(.br (decide (f_37.kind = 5))
(rt (.tuple [(i6 3),(.vs 2 true [])]))
(rt (.tuple [(i6 1),(.vs 2 true [])]))))) = some o) : ML C 53 [0,5,0,0,5,0,5,7,5,0,5,0,0,5,7,5,0,0] 4 (mkS 59 [(4,.lp 4 0),(6,.lp 6 0),vi 11 x_36,vb 32 false,(37,.lp 4 1),vv 38 (.vs 4 t_29.tgF (t_29.fields.map Fld.av)),vi 39 x_36,vv 40 (.cptr (Fld.cs f_37))] [(4,⟨(Typ.cs t_29),[]⟩),(6,⟨(Ex.cs e_32),[]⟩)] Hp.none 0) = some o := stM C 15 (fun _ _ => by kernel_rfl) ho
theorem p53_5 {t_29 : Typ} {e_32 : Ex} {x_36 x_39 : Int} {f_38 : Fld} (ho : Tr.val C 53
(rt (.tuple [(i6 f_38.type),(.vs 2 true [])])) = some o) : ML C 53 qO15 4 (mkS 59 [(4,.lp 4 0),(6,.lp 6 0),vi 11 x_36,vi 42 x_39,vb 43 true,(45,.lp 4 1),vv 46 (.vs 4 t_29.tgF (t_29.fields.map Fld.av)),vi 47 x_36,vv 48 (.cptr (Fld.cs f_38))] [(4,⟨(Typ.cs t_29),[]⟩),(6,⟨(Ex.cs e_32),[]⟩)] Hp.none 0) = some o := stM C 1 (fun _ _ => by kernel_rfl) ho
theorem p56_c (hC : Ext C) {t_40 : Typ} {tg_41 c_44 : Bool} {l_42 : List Par} {e_43 : Ex} (ho : RL C 56 [] (mk0 83 [vv 0 (.agg (Typ.cs t_40)),vv 1 (.vs 3 tg_41 (l_42.map Par.av)),vv 2 (.agg (Ex.cs e_43)),vb 3 c_44]) = some o) : calL C 56 [(.agg (Typ.cs t_40)),(.vs 3 tg_41 (l_42.map Par.av)),(.agg (Ex.cs e_43)),(.bool c_44)] Hp.none 0 = some o := hC.call rfl (fun _ _ => by kernel_rfl) ho
theorem p56_0 {t_40 : Typ} {tg_41 c_44 : Bool} {l_42 : List Par} {e_43 : Ex} (ho : Tr.val C 56
(.br (!c_44)
(rt (.tuple [(i6 0),(.vs 2 true [(.agg [(i6 e_43.at_),(i6 10)])])]))
(.br (decide (0 < ((exs e_43.l).length : Int)))
(.bind (nth (exs e_43.l) 0) fun c1 =>
(.mid 0 qO1 5 (mkS 83 [vv 1 (.vs 3 tg_41 (l_42.map Par.av)),vb 3 c_44,(4,.lp 4 0),(6,.lp 6 0),(10,.val (.vs 2 true []) .own),vb 11 false,vv 20 (.agg (Typ.cs t_40)),vv 21 (.vs 3 tg_41 (l_42.map Par.av)),(22,.lp 6 3),vv 23 (.vs 5 e_43.tg (exs e_43.l)),vv 24 (.cptr (AV.cells c1))] [(4,⟨(Typ.cs t_40),[]⟩),(6,⟨(Ex.cs e_43),[]⟩)] Hp.none 0))) .none)) = some o) : RL C 56 [] (mk0 83 [vv 0 (.agg (Typ.cs t_40)),vv 1 (.vs 3 tg_41 (l_42.map Par.av)),vv 2 (.agg (Ex.cs e_43)),vb 3 c_44]) = some o := stR C 14 (fun _ _ => by kernel_rfl) ho
theorem p56_1 {t_40 : Typ} {tg_41 c_44 : Bool} {l_42 : List Par} {e_43 e_45 : Ex} (ho : Tr.val C 56
(.br (za7 [(.agg (Typ.cs t_40)),(.vs 3 tg_41 (l_42.map Par.av)),(.agg (Ex.cs e_45))])
(cl0 103 [(.agg (Typ.cs t_40)),(.vs 3 tg_41 (l_42.map Par.av)),(.agg (Ex.cs e_45))] fun r2 => .br (AV.pure r2.v)
(.br (AV.pure r2.v)
(.mid 0 qO1 7 (mkS 83 [vv 1 (.vs 3 tg_41 (l_42.map Par.av)),vb 3 c_44,(4,.lp 4 0),(6,.lp 6 0),(10,.val (.vs 2 true []) .own),vb 11 false,vv 20 (.agg (Typ.cs t_40)),vv 21 (.vs 3 tg_41 (l_42.map Par.av)),(22,.lp 6 3),vv 23 (.vs 5 e_43.tg (exs e_43.l)),vv 24 (.cptr (Ex.cs e_45)),vv 25 (.agg (Ex.cs e_45)),vv 26 r2.v] [(4,⟨(Typ.cs t_40),[]⟩),(6,⟨(Ex.cs e_43),[]⟩)] Hp.none 0)) .none) .none) .none) = some o) : ML C 56 qO1 5 (mkS 83 [vv 1 (.vs 3 tg_41 (l_42.map Par.av)),vb 3 c_44,(4,.lp 4 0),(6,.lp 6 0),(10,.val (.vs 2 true []) .own),vb 11 false,vv 20 (.agg (Typ.cs t_40)),vv 21 (.vs 3 tg_41 (l_42.map Par.av)),(22,.lp 6 3),vv 23 (.vs 5 e_43.tg (exs e_43.l)),vv 24 (.cptr (Ex.cs e_45))] [(4,⟨(Typ.cs t_40),[]⟩),(6,⟨(Ex.cs e_43),[]⟩)] Hp.none 0) = some o := stM C 0 (fun _ _ => by kernel_rfl) ho
theorem p56_2 {t_40 : Typ} {tg_41 c_44 c_46 : Bool} {l_42 : List Par} {e_43 e_45 : Ex} (ho : Tr.val C 56
(.br (!c_46)
(.br (decide (0 < ((exs e_43.l).length : Int)))
(.bind (nth (exs e_43.l) 0) fun c3 =>
(.mid 1 qO2 5 (mkS 83 [vv 1 (.vs 3 tg_41 (l_42.map Par.av)),vb 3 c_44,(4,.lp 4 0),(6,.lp 6 0),(10,.val (.vs 2 true []) .own),vb 11 false,vb 27 true,vv 29 (.agg (Typ.cs t_40)),vv 30 (.vs 3 tg_41 (l_42.map Par.av)),(31,.lp 6 3),vv 32 (.vs 5 e_43.tg (exs e_43.l)),vv 33 (.cptr (AV.cells c3))] [(4,⟨(Typ.cs t_40),[]⟩),(6,⟨(Ex.cs e_43),[]⟩)] Hp.none 0))) .none)
(.br (decide (1 < ((exs e_43.l).length : Int)))
(.bind (nth (exs e_43.l) 1) fun c4 =>
(.mid 0 qO3 5 (mkS 83 [vv 1 (.vs 3 tg_41 (l_42.map Par.av)),vb 3 c_44,(4,.lp 4 0),(6,.lp 6 0),(10,.val (.vs 2 true []) .own),vb 11 false,vb 27 false,vv 47 (.agg (Typ.cs t_40)),vv 48 (.vs 3 tg_41 (l_42.map Par.av)),(49,.lp 6 3),vv 50 (.vs 5 e_43.tg (exs e_43.l)),vv 51 (.cptr (AV.cells c4))] [(4,⟨(Typ.cs t_40),[]⟩),(6,⟨(Ex.cs e_43),[]⟩)] Hp.none 0))) .none)) = some o) : ML C 56 qO1 7 (mkS 83 [vv 1 (.vs 3 tg_41 (l_42.map Par.av)),vb 3 c_44,(4,.lp 4 0),(6,.lp 6 0),(10,.val (.vs 2 true []) .own),vb 11 false,vv 20 (.agg (Typ.cs t_40)),vv 21 (.vs 3 tg_41 (l_42.map Par.av)),(22,.lp 6 3),vv 23 (.vs 5 e_43.tg (exs e_43.l)),vv 24 (.cptr (Ex.cs e_45)),vv 25 (.agg (Ex.cs e_45)),vb 26 c_46] [(4,⟨(Typ.cs t_40),[]⟩),(6,⟨(Ex.cs e_43),[]⟩)] Hp.none 0) = some o := stM C 4 (fun _ _ => by kernel_rfl) ho
theorem p56_3 {t_40 : Typ} {tg_41 c_44 : Bool} {l_42 : List Par} {e_43 e_47 : Ex} (ho : Tr.val C 56
(.br (za7 [(.agg (Typ.cs t_40)),(.vs 3 tg_41 (l_42.map Par.av)),(.agg (Ex.cs e_47)),(.bool c_44)])
(cl0 24 [(.agg (Typ.cs t_40)),(.vs 3 tg_41 (l_42.map Par.av)),(.agg (Ex.cs e_47)),(.bool c_44)] fun r5 => .br (AV.pure r5.v)
(.br (AV.pure r5.v)
(.mid 0 qO2 8 (mkS 83 [vv 1 (.vs 3 tg_41 (l_42.map Par.av)),vb 3 c_44,(4,.lp 4 0),(6,.lp 6 0),(10,.val (.vs 2 true []) .own),vb 11 false,vb 27 true,vv 29 (.agg (Typ.cs t_40)),vv 30 (.vs 3 tg_41 (l_42.map Par.av)),(31,.lp 6 3),vv 32 (.vs 5 e_43.tg (exs e_43.l)),vv 33 (.cptr (Ex.cs e_47)),vv 34 (.agg (Ex.cs e_47)),vb 35 c_44,vv 36 r5.v] [(4,⟨(Typ.cs t_40),[]⟩),(6,⟨(Ex.cs e_43),[]⟩)] Hp.none 0)) .none) .none) .none) = some o) : ML C 56 qO2 5 (mkS 83 [vv 1 (.vs 3 tg_41 (l_42.map Par.av)),vb 3 c_44,(4,.lp 4 0),(6,.lp 6 0),(10,.val (.vs 2 true []) .own),vb 11 false,vb 27 true,vv 29 (.agg (Typ.cs t_40)),vv 30 (.vs 3 tg_41 (l_42.map Par.av)),(31,.lp 6 3),vv 32 (.vs 5 e_43.tg (exs e_43.l)),vv 33 (.cptr (Ex.cs e_47))] [(4,⟨(Typ.cs t_40),[]⟩),(6,⟨(Ex.cs e_43),[]⟩)] Hp.none 0) = some o := stM C 0 (fun _ _ => by kernel_rfl) ho
theorem p56_4 {t_40 : Typ} {tg_41 c_44 : Bool} {l_42 : List Par} {e_43 e_48 : Ex} (ho : Tr.val C 56
(.br (za7 [(.agg (Typ.cs t_40)),(.vs 3 tg_41 (l_42.map Par.av)),(.agg (Ex.cs e_48)),(.bool c_44)])
(cl0 24 [(.agg (Typ.cs t_40)),(.vs 3 tg_41 (l_42.map Par.av)),(.agg (Ex.cs e_48)),(.bool c_44)] fun r6 => .br (AV.pure r6.v)
(.br (AV.pure r6.v)
(.mid 0 qO3 8 (mkS 83 [vv 1 (.vs 3 tg_41 (l_42.map Par.av)),vb 3 c_44,(4,.lp 4 0),(6,.lp 6 0),(10,.val (.vs 2 true []) .own),vb 11 false,vb 27 false,vv 47 (.agg (Typ.cs t_40)),vv 48 (.vs 3 tg_41 (l_42.map Par.av)),(49,.lp 6 3),vv 50 (.vs 5 e_43.tg (exs e_43.l)),vv 51 (.cptr (Ex.cs e_48)),vv 52 (.agg (Ex.cs e_48)),vb 53 c_44,vv 54 r6.v] [(4,⟨(Typ.cs t_40),[]⟩),(6,⟨(Ex.cs e_43),[]⟩)] Hp.none 0)) .none) .none) .none) = some o) : ML C 56 qO3 5 (mkS 83 [vv 1 (.vs 3 tg_41 (l_42.map Par.av)),vb 3 c_44,(4,.lp 4 0),(6,.lp 6 0),(10,.val (.vs 2 true []) .own),vb 11 false,vb 27 false,vv 47 (.agg (Typ.cs t_40)),vv 48 (.vs 3 tg_41 (l_42.map Par.av)),(49,.lp 6 3),vv 50 (.vs 5 e_43.tg (exs e_43.l)),vv 51 (.cptr (Ex.cs e_48))] [(4,⟨(Typ.cs t_40),[]⟩),(6,⟨(Ex.cs e_43),[]⟩)] Hp.none 0) = some o := stM C 0 (fun _ _ => by kernel_rfl) ho
theorem p56_5 {t_40 : Typ} {tg_41 c_44 tg_50 : Bool} {l_42 : List Par} {e_43 e_47 : Ex} {x_49 : Int} {l_51 : List Dg} (ho : Tr.val C 56
(.br (za7 [(.tuple [(i6 x_49),(.vs 2 tg_50 (l_51.map Dg.av))])])
(.br (za7 [(.tuple [(i6 x_49),(.vs 2 tg_50 (l_51.map Dg.av))])])
(.br (AV.pure (.vs 2 tg_50 (l_51.map Dg.av)))
(.br (decide (((l_51.map Dg.av).length : Int) = 0))
(.br (decide (1 < ((exs e_43.l).length : Int)))
(.bind (nth (exs e_43.l) 1) fun c7 =>
(.mid 0 qO4 5 (mkS 83 [vv 1 (.vs 3 tg_41 (l_42.map Par.av)),vb 3 c_44,(4,.lp 4 0),(6,.lp 6 0),vv 10 (.vs 2 true [(.agg [(i6 e_43.at_),(i6 12)])]),vb 11 true,vv 47 (.agg (Typ.cs t_40)),vv 48 (.vs 3 tg_41 (l_42.map Par.av)),(49,.lp 6 3),vv 50 (.vs 5 e_43.tg (exs e_43.l)),vv 51 (.cptr (AV.cells c7))] [(4,⟨(Typ.cs t_40),[]⟩),(6,⟨(Ex.cs e_43),[]⟩)] Hp.none 0))) .none)
(.br (decide (1 < ((exs e_43.l).length : Int)))
(.bind (nth (exs e_43.l) 1) fun c8 =>
(.mid 2 qO5 5 (mkS 83 [vv 1 (.vs 3 tg_41 (l_42.map Par.av)),vb 3 c_44,(4,.lp 4 0),(6,.lp 6 0),vv 10 (.vs 2 tg_50 (l_51.map Dg.av)),vb 11 false,vb 41 false,vv 47 (.agg (Typ.cs t_40)),vv 48 (.vs 3 tg_41 (l_42.map Par.av)),(49,.lp 6 3),vv 50 (.vs 5 e_43.tg (exs e_43.l)),vv 51 (.cptr (AV.cells c8))] [(4,⟨(Typ.cs t_40),[]⟩),(6,⟨(Ex.cs e_43),[]⟩)] Hp.none 0))) .none)) .none) .none) .none) = some o) : ML C 56 qO2 8 (mkS 83 [vv 1 (.vs 3 tg_41 (l_42.map Par.av)),vb 3 c_44,(4,.lp 4 0),(6,.lp 6 0),(10,.val (.vs 2 true []) .own),vb 11 false,vb 27 true,vv 29 (.agg (Typ.cs t_40)),vv 30 (.vs 3 tg_41 (l_42.map Par.av)),(31,.lp 6 3),vv 32 (.vs 5 e_43.tg (exs e_43.l)),vv 33 (.cptr (Ex.cs e_47)),vv 34 (.agg (Ex.cs e_47)),vb 35 c_44,vv 36 (.tuple [(i6 x_49),(.vs 2 tg_50 (l_51.map Dg.av))])] [(4,⟨(Typ.cs t_40),[]⟩),(6,⟨(Ex.cs e_43),[]⟩)] Hp.none 0) = some o := stM C 8 (fun _ _ => by kernel_rfl) ho
theorem p56_6 {t_40 : Typ} {tg_41 c_44 tg_53 : Bool} {l_42 : List Par} {e_43 e_48 : Ex} {x_52 : Int} {l_54 : List Dg} (ho : Tr.val C 56
(.br (za7 [(.tuple [(i6 x_52),(.vs 2 tg_53 (l_54.map Dg.av))])])
(.br (za7 [(.tuple [(i6 x_52),(.vs 2 tg_53 (l_54.map Dg.av))])])
(.br (AV.pure (.vs 2 tg_53 (l_54.map Dg.av)))
(.br (Nat.ble 0 za9)
(.br (Nat.ble 0 za9)
(.br (Nat.ble ((0 + (l_54.map Dg.av).length) * 16) za9)
(.br (Nat.ble (0 + (l_54.map Dg.av).length) za9)
(.br (decide (((l_54.map Dg.av).length : Int) = 0))
(.br (!(decide (x_52 = 2)))
(.br (Nat.ble ((([] ++ (l_54.map Dg.av)).length + 1) * 16) za9)
(.br (Nat.ble (([] ++ (l_54.map Dg.av)).length + 1) za9)
(.br (decide (0 < (List.length (([] ++ (l_54.map Dg.av)) ++ [(.agg [(i6 e_43.at_),(i6 12)])]) : Int)))
(rt (.tuple [(i6 0),(.vs 2 false (([] ++ (l_54.map Dg.av)) ++ [(.agg [(i6 e_43.at_),(i6 12)])]))]))
(rt (.tuple [(i6 3),(.vs 2 true [])]))) .none) .none)
(.br (decide (0 < (([] ++ (l_54.map Dg.av)).length : Int)))
(rt (.tuple [(i6 0),(.vs 2 false ([] ++ (l_54.map Dg.av)))]))
(rt (.tuple [(i6 3),(.vs 2 true [])]))))
(.br (decide (0 < (([] ++ (l_54.map Dg.av)).length : Int)))
(rt (.tuple [(i6 0),(.vs 2 false ([] ++ (l_54.map Dg.av)))]))
(rt (.tuple [(i6 3),(.vs 2 true [])])))) .none) .none) .none) .none) .none) .none) .none) = some o) : ML C 56 qO3 8 (mkS 83 [vv 1 (.vs 3 tg_41 (l_42.map Par.av)),vb 3 c_44,(4,.lp 4 0),(6,.lp 6 0),(10,.val (.vs 2 true []) .own),vb 11 false,vb 27 false,vv 47 (.agg (Typ.cs t_40)),vv 48 (.vs 3 tg_41 (l_42.map Par.av)),(49,.lp 6 3),vv 50 (.vs 5 e_43.tg (exs e_43.l)),vv 51 (.cptr (Ex.cs e_48)),vv 52 (.agg (Ex.cs e_48)),vb 53 c_44,vv 54 (.tuple [(i6 x_52),(.vs 2 tg_53 (l_54.map Dg.av))])] [(4,⟨(Typ.cs t_40),[]⟩),(6,⟨(Ex.cs e_43),[]⟩)] Hp.none 0) = some o := stM C 15 (fun _ _ => by kernel_rfl) ho
theorem p56_7 {t_40 : Typ} {tg_41 c_44 : Bool} {l_42 : List Par} {e_43 e_55 : Ex} (ho : Tr.val C 56
(.br (za7 [(.agg (Typ.cs t_40)),(.vs 3 tg_41 (l_42.map Par.av)),(.agg (Ex.cs e_55)),(.bool c_44)])
(cl0 24 [(.agg (Typ.cs t_40)),(.vs 3 tg_41 (l_42.map Par.av)),(.agg (Ex.cs e_55)),(.bool c_44)] fun r9 => .br (AV.pure r9.v)
(.br (AV.pure r9.v)
(.mid 0 qO4 8 (mkS 83 [vv 1 (.vs 3 tg_41 (l_42.map Par.av)),vb 3 c_44,(4,.lp 4 0),(6,.lp 6 0),vv 10 (.vs 2 true [(.agg [(i6 e_43.at_),(i6 12)])]),vb 11 true,vv 47 (.agg (Typ.cs t_40)),vv 48 (.vs 3 tg_41 (l_42.map Par.av)),(49,.lp 6 3),vv 50 (.vs 5 e_43.tg (exs e_43.l)),vv 51 (.cptr (Ex.cs e_55)),vv 52 (.agg (Ex.cs e_55)),vb 53 c_44,vv 54 r9.v] [(4,⟨(Typ.cs t_40),[]⟩),(6,⟨(Ex.cs e_43),[]⟩)] Hp.none 0)) .none) .none) .none) = some o) : ML C 56 qO4 5 (mkS 83 [vv 1 (.vs 3 tg_41 (l_42.map Par.av)),vb 3 c_44,(4,.lp 4 0),(6,.lp 6 0),vv 10 (.vs 2 true [(.agg [(i6 e_43.at_),(i6 12)])]),vb 11 true,vv 47 (.agg (Typ.cs t_40)),vv 48 (.vs 3 tg_41 (l_42.map Par.av)),(49,.lp 6 3),vv 50 (.vs 5 e_43.tg (exs e_43.l)),vv 51 (.cptr (Ex.cs e_55))] [(4,⟨(Typ.cs t_40),[]⟩),(6,⟨(Ex.cs e_43),[]⟩)] Hp.none 0) = some o := stM C 0 (fun _ _ => by kernel_rfl) ho
theorem p56_8 {t_40 : Typ} {tg_41 c_44 tg_50 : Bool} {l_42 : List Par} {e_43 e_56 : Ex} {l_51 : List Dg} (ho : Tr.val C 56
(.br (za7 [(.agg (Typ.cs t_40)),(.vs 3 tg_41 (l_42.map Par.av)),(.agg (Ex.cs e_56)),(.bool c_44)])
(cl0 24 [(.agg (Typ.cs t_40)),(.vs 3 tg_41 (l_42.map Par.av)),(.agg (Ex.cs e_56)),(.bool c_44)] fun r10 => .br (AV.pure r10.v)
(.br (AV.pure r10.v)
(.mid 0 qO5 8 (mkS 83 [vv 1 (.vs 3 tg_41 (l_42.map Par.av)),vb 3 c_44,(4,.lp 4 0),(6,.lp 6 0),vv 10 (.vs 2 tg_50 (l_51.map Dg.av)),vb 11 false,vb 41 false,vv 47 (.agg (Typ.cs t_40)),vv 48 (.vs 3 tg_41 (l_42.map Par.av)),(49,.lp 6 3),vv 50 (.vs 5 e_43.tg (exs e_43.l)),vv 51 (.cptr (Ex.cs e_56)),vv 52 (.agg (Ex.cs e_56)),vb 53 c_44,vv 54 r10.v] [(4,⟨(Typ.cs t_40),[]⟩),(6,⟨(Ex.cs e_43),[]⟩)] Hp.none 0)) .none) .none) .none) = some o) : ML C 56 qO5 5 (mkS 83 [vv 1 (.vs 3 tg_41 (l_42.map Par.av)),vb 3 c_44,(4,.lp 4 0),(6,.lp 6 0),vv 10 (.vs 2 tg_50 (l_51.map Dg.av)),vb 11 false,vb 41 false,vv 47 (.agg (Typ.cs t_40)),vv 48 (.vs 3 tg_41 (l_42.map Par.av)),(49,.lp 6 3),vv 50 (.vs 5 e_43.tg (exs e_43.l)),vv 51 (.cptr (Ex.cs e_56))] [(4,⟨(Typ.cs t_40),[]⟩),(6,⟨(Ex.cs e_43),[]⟩)] Hp.none 0) = some o := stM C 0 (fun _ _ => by kernel_rfl) ho
theorem p56_9 {t_40 : Typ} {tg_41 c_44 tg_58 : Bool} {l_42 : List Par} {e_43 e_55 : Ex} {x_57 : Int} {l_59 : List Dg} (ho : Tr.val C 56
(.br (za7 [(.tuple [(i6 x_57),(.vs 2 tg_58 (l_59.map Dg.av))])])
(.br (za7 [(.tuple [(i6 x_57),(.vs 2 tg_58 (l_59.map Dg.av))])])
(.br (AV.pure (.vs 2 tg_58 (l_59.map Dg.av)))
(.br (Nat.ble 16 za9)
(.br (Nat.ble 1 za9)
(.br (Nat.ble ((1 + (l_59.map Dg.av).length) * 16) za9)
(.br (Nat.ble (1 + (l_59.map Dg.av).length) za9)
(.br (decide (((l_59.map Dg.av).length : Int) = 0))
(.br (!(decide (x_57 = 2)))
(.br (decide (0 < (List.length ([(.agg [(i6 e_43.at_),(i6 12)])] ++ (l_59.map Dg.av)) : Int)))
(rt (.tuple [(i6 0),(.vs 2 false ([(.agg [(i6 e_43.at_),(i6 12)])] ++ (l_59.map Dg.av)))]))
(rt (.tuple [(i6 3),(.vs 2 true [])])))
(.br (decide (0 < (List.length ([(.agg [(i6 e_43.at_),(i6 12)])] ++ (l_59.map Dg.av)) : Int)))
(rt (.tuple [(i6 0),(.vs 2 false ([(.agg [(i6 e_43.at_),(i6 12)])] ++ (l_59.map Dg.av)))]))
(rt (.tuple [(i6 3),(.vs 2 true [])]))))
(.br (decide (0 < (List.length ([(.agg [(i6 e_43.at_),(i6 12)])] ++ (l_59.map Dg.av)) : Int)))
(rt (.tuple [(i6 0),(.vs 2 false ([(.agg [(i6 e_43.at_),(i6 12)])] ++ (l_59.map Dg.av)))]))
(rt (.tuple [(i6 3),(.vs 2 true [])])))) .none) .none) .none) .none) .none) .none) .none) = some o) : ML C 56 qO4 8 (mkS 83 [vv 1 (.vs 3 tg_41 (l_42.map Par.av)),vb 3 c_44,(4,.lp 4 0),(6,.lp 6 0),vv 10 (.vs 2 true [(.agg [(i6 e_43.at_),(i6 12)])]),vb 11 true,vv 47 (.agg (Typ.cs t_40)),vv 48 (.vs 3 tg_41 (l_42.map Par.av)),(49,.lp 6 3),vv 50 (.vs 5 e_43.tg (exs e_43.l)),vv 51 (.cptr (Ex.cs e_55)),vv 52 (.agg (Ex.cs e_55)),vb 53 c_44,vv 54 (.tuple [(i6 x_57),(.vs 2 tg_58 (l_59.map Dg.av))])] [(4,⟨(Typ.cs t_40),[]⟩),(6,⟨(Ex.cs e_43),[]⟩)] Hp.none 0) = some o := stM C 15 (fun _ _ => by kernel_rfl) ho
theorem p56_10 {t_40 : Typ} {tg_41 c_44 tg_50 tg_61 : Bool} {l_42 : List Par} {e_43 e_56 : Ex} {l_51 l_62 : List Dg} {x_60 : Int} (ho : Tr.val C 56
(.br (za7 [(.tuple [(i6 x_60),(.vs 2 tg_61 (l_62.map Dg.av))])])
(.br (za7 [(.tuple [(i6 x_60),(.vs 2 tg_61 (l_62.map Dg.av))])])
(.br (AV.pure (.vs 2 tg_61 (l_62.map Dg.av)))
(.br (Nat.ble ((0 + (l_51.map Dg.av).length) * 16) za9)
(.br (Nat.ble (0 + (l_51.map Dg.av).length) za9)
(.br (Nat.ble ((([] ++ (l_51.map Dg.av)).length + (l_62.map Dg.av).length) * 16) za9)
(.br (Nat.ble (([] ++ (l_51.map Dg.av)).length + (l_62.map Dg.av).length) za9)
(.br (decide (((l_62.map Dg.av).length : Int) = 0))
(.br (!(decide (x_60 = 2)))
(.br (Nat.ble (((([] ++ (l_51.map Dg.av)) ++ (l_62.map Dg.av)).length + 1) * 16) za9)
(.br (Nat.ble ((([] ++ (l_51.map Dg.av)) ++ (l_62.map Dg.av)).length + 1) za9)
(.br (decide (0 < (List.length ((([] ++ (l_51.map Dg.av)) ++ (l_62.map Dg.av)) ++ [(.agg [(i6 e_43.at_),(i6 12)])]) : Int)))
(rt (.tuple [(i6 0),(.vs 2 false ((([] ++ (l_51.map Dg.av)) ++ (l_62.map Dg.av)) ++ [(.agg [(i6 e_43.at_),(i6 12)])]))]))
(rt (.tuple [(i6 3),(.vs 2 true [])]))) .none) .none)
(.br (decide (0 < ((([] ++ (l_51.map Dg.av)) ++ (l_62.map Dg.av)).length : Int)))
(rt (.tuple [(i6 0),(.vs 2 false (([] ++ (l_51.map Dg.av)) ++ (l_62.map Dg.av)))]))
(rt (.tuple [(i6 3),(.vs 2 true [])]))))
(.br (decide (0 < ((([] ++ (l_51.map Dg.av)) ++ (l_62.map Dg.av)).length : Int)))
(rt (.tuple [(i6 0),(.vs 2 false (([] ++ (l_51.map Dg.av)) ++ (l_62.map Dg.av)))]))
(rt (.tuple [(i6 3),(.vs 2 true [])])))) .none) .none) .none) .none) .none) .none) .none) = some o) : ML C 56 qO5 8 (mkS 83 [vv 1 (.vs 3 tg_41 (l_42.map Par.av)),vb 3 c_44,(4,.lp 4 0),(6,.lp 6 0),vv 10 (.vs 2 tg_50 (l_51.map Dg.av)),vb 11 false,vb 41 false,vv 47 (.agg (Typ.cs t_40)),vv 48 (.vs 3 tg_41 (l_42.map Par.av)),(49,.lp 6 3),vv 50 (.vs 5 e_43.tg (exs e_43.l)),vv 51 (.cptr (Ex.cs e_56)),vv 52 (.agg (Ex.cs e_56)),vb 53 c_44,vv 54 (.tuple [(i6 x_60),(.vs 2 tg_61 (l_62.map Dg.av))])] [(4,⟨(Typ.cs t_40),[]⟩),(6,⟨(Ex.cs e_43),[]⟩)] Hp.none 0) = some o := stM C 15 (fun _ _ => by kernel_rfl) ho
theorem p24_c (hC : Ext C) {t_63 : Typ} {tg_64 c_67 : Bool} {l_65 : List Par} {e_66 : Ex} (ho : RL C 24 [] (mk0 183 [vv 0 (.agg (Typ.cs t_63)),vv 1 (.vs 3 tg_64 (l_65.map Par.av)),vv 2 (.agg (Ex.cs e_66)),vb 3 c_67]) = some o) : calL C 24 [(.agg (Typ.cs t_63)),(.vs 3 tg_64 (l_65.map Par.av)),(.agg (Ex.cs e_66)),(.bool c_67)] Hp.none 0 = some o := hC.call rfl (fun _ _ => by kernel_rfl) ho
theorem p24_0 {t_63 : Typ} {tg_64 c_67 : Bool} {l_65 : List Par} {e_66 : Ex} (ho : Tr.val C 24
(.br (decide (e_66.kind = 1))
(rt (.tuple [(i6 1),(.vs 2 true [])]))
(.br (decide (e_66.kind = 2))
(rt (.tuple [(i6 2),(.vs 2 true [])]))
(.br (decide (e_66.kind = 3))
(rt (.tuple [(i6 3),(.vs 2 true [])]))
(.br (decide (e_66.kind = 4))
(cl0 53 [(.agg (Typ.cs t_63)),(.vs 3 tg_64 (l_65.map Par.av)),(.agg (Ex.cs e_66)),(.bool c_67)] fun r1 => .br (AV.pure r1.v)
(.mid 13 [0,5,0,0,5,2,0,5,7,0,5,7,0,5,7,0,5,6,0] 5 (mkS 183 [vv 1 (.vs 3 tg_64 (l_65.map Par.av)),vb 3 c_67,(4,.lp 4 0),(6,.lp 6 0),vi 19 e_66.kind,vb 26 true,vv 28 (.agg (Typ.cs t_63)),vv 29 (.vs 3 tg_64 (l_65.map Par.av)),vv 30 (.agg (Ex.cs e_66)),vb 31 c_67,vv 32 r1.v] [(4,⟨(Typ.cs t_63),[]⟩),(6,⟨(Ex.cs e_66),[]⟩)] Hp.none 0)) .none)
(.br (decide (e_66.kind = 5))
(cl0 54 [(.agg (Typ.cs t_63)),(.str e_66.s)] fun r2 => .br (AV.pure r2.v)
(.mid 10 qO16 4 (mkS 183 [vv 1 (.vs 3 tg_64 (l_65.map Par.av)),vb 3 c_67,(4,.lp 4 0),(6,.lp 6 0),vi 19 e_66.kind,vb 35 true,vv 37 (.agg (Typ.cs t_63)),(38,.lp 6 2),vt 39 e_66.s,vv 40 r2.v] [(4,⟨(Typ.cs t_63),[]⟩),(6,⟨(Ex.cs e_66),[]⟩)] Hp.none 0)) .none)
(.br (decide (e_66.kind = 6))
(.br (decide (0 < ((exs e_66.l).length : Int)))
(.bind (nth (exs e_66.l) 0) fun c3 =>
(.mid 7 qO6 5 (mkS 183 [vv 1 (.vs 3 tg_64 (l_65.map Par.av)),vb 3 c_67,(4,.lp 4 0),(6,.lp 6 0),vb 67 true,vv 70 (.agg (Typ.cs t_63)),vv 71 (.vs 3 tg_64 (l_65.map Par.av)),(72,.lp 6 3),vv 73 (.vs 5 e_66.tg (exs e_66.l)),vv 74 (.cptr (AV.cells c3))] [(4,⟨(Typ.cs t_63),[]⟩),(6,⟨(Ex.cs e_66),[]⟩)] Hp.none 0))) .none)
(.br (eqS e_66.s [104,97,115])
(cl0 56 [(.agg (Typ.cs t_63)),(.vs 3 tg_64 (l_65.map Par.av)),(.agg (Ex.cs e_66)),(.bool c_67)] fun r4 => .br (AV.pure r4.v)
(.mid 1 qO17 5 (mkS 183 [vv 1 (.vs 3 tg_64 (l_65.map Par.av)),vb 3 c_67,(4,.lp 4 0),(6,.lp 6 0),vb 94 true,vv 95 (.agg (Typ.cs t_63)),vv 96 (.vs 3 tg_64 (l_65.map Par.av)),vv 97 (.agg (Ex.cs e_66)),vb 98 c_67,vv 99 r4.v] [(4,⟨(Typ.cs t_63),[]⟩),(6,⟨(Ex.cs e_66),[]⟩)] Hp.none 0)) .none)
(.br (decide (0 < ((exs e_66.l).length : Int)))
(.bind (nth (exs e_66.l) 0) fun c5 =>
(.mid 0 qO7 5 (mkS 183 [vv 1 (.vs 3 tg_64 (l_65.map Par.av)),vb 3 c_67,(4,.lp 4 0),(6,.lp 6 0),vb 94 false,vv 103 (.agg (Typ.cs t_63)),vv 104 (.vs 3 tg_64 (l_65.map Par.av)),(105,.lp 6 3),vv 106 (.vs 5 e_66.tg (exs e_66.l)),vv 107 (.cptr (AV.cells c5))] [(4,⟨(Typ.cs t_63),[]⟩),(6,⟨(Ex.cs e_66),[]⟩)] Hp.none 0))) .none)))))))) = some o) : RL C 24 [] (mk0 183 [vv 0 (.agg (Typ.cs t_63)),vv 1 (.vs 3 tg_64 (l_65.map Par.av)),vv 2 (.agg (Ex.cs e_66)),vb 3 c_67]) = some o := stR C 33 (fun _ _ => by kernel_rfl) ho
theorem p24_1 {t_63 : Typ} {tg_64 c_67 tg_69 : Bool} {l_65 : List Par} {e_66 : Ex} {x_68 : Int} {l_70 : List Dg} (ho : Tr.val C 24
(rt (.tuple [(i6 x_68),(.vs 2 tg_69 (l_70.map Dg.av))])) = some o) : ML C 24 [0,5,0,0,5,2,0,5,7,0,5,7,0,5,7,0,5,6,0] 5 (mkS 183 [vv 1 (.vs 3 tg_64 (l_65.map Par.av)),vb 3 c_67,(4,.lp 4 0),(6,.lp 6 0),vi 19 e_66.kind,vb 26 true,vv 28 (.agg (Typ.cs t_63)),vv 29 (.vs 3 tg_64 (l_65.map Par.av)),vv 30 (.agg (Ex.cs e_66)),vb 31 c_67,vv 32 (.tuple [(i6 x_68),(.vs 2 tg_69 (l_70.map Dg.av))])] [(4,⟨(Typ.cs t_63),[]⟩),(6,⟨(Ex.cs e_66),[]⟩)] Hp.none 0) = some o := stM C 1 (fun _ _ => by kernel_rfl) ho
theorem p24_2 {t_63 : Typ} {tg_64 c_67 : Bool} {l_65 : List Par} {e_66 : Ex} {x_71 : Int} (ho : Tr.val C 24
(.br (!c_67)
(rt (.tuple [(i6 0),(.vs 2 true [(.agg [(i6 e_66.at_),(i6 10)])])]))
(.br (decide (x_71 < 0))
(rt (.tuple [(i6 0),(.vs 2 true [(.agg [(i6 e_66.at_),(i6 6)])])]))
(ix (t_63.fields.map Fld.av) x_71 fun c6 =>
(.mid 1 qO18 4 (mkS 183 [(4,.lp 4 0),(6,.lp 6 0),vi 10 x_71,vb 48 false,(56,.lp 4 1),vv 57 (.vs 4 t_63.tgF (t_63.fields.map Fld.av)),vi 58 x_71,vv 59 (.cptr (AV.cells c6))] [(4,⟨(Typ.cs t_63),[]⟩),(6,⟨(Ex.cs e_66),[]⟩)] Hp.none 0))))) = some o) : ML C 24 qO16 4 (mkS 183 [vv 1 (.vs 3 tg_64 (l_65.map Par.av)),vb 3 c_67,(4,.lp 4 0),(6,.lp 6 0),vi 19 e_66.kind,vb 35 true,vv 37 (.agg (Typ.cs t_63)),(38,.lp 6 2),vt 39 e_66.s,vi 40 x_71] [(4,⟨(Typ.cs t_63),[]⟩),(6,⟨(Ex.cs e_66),[]⟩)] Hp.none 0) = some o := stM C 11 (fun _ _ => by kernel_rfl) ho
theorem p24_3 {t_63 : Typ} {tg_64 c_67 : Bool} {l_65 : List Par} {e_66 e_72 : Ex} (ho : Tr.val C 24
(.br (za7 [(.agg (Typ.cs t_63)),(.vs 3 tg_64 (l_65.map Par.av)),(.agg (Ex.cs e_72)),(.bool c_67)])
(cl0 24 [(.agg (Typ.cs t_63)),(.vs 3 tg_64 (l_65.map Par.av)),(.agg (Ex.cs e_72)),(.bool c_67)] fun r7 => .br (AV.pure r7.v)
(.br (AV.pure r7.v)
(.mid 0 qO6 8 (mkS 183 [vv 1 (.vs 3 tg_64 (l_65.map Par.av)),vb 3 c_67,(4,.lp 4 0),(6,.lp 6 0),vb 67 true,vv 70 (.agg (Typ.cs t_63)),vv 71 (.vs 3 tg_64 (l_65.map Par.av)),(72,.lp 6 3),vv 73 (.vs 5 e_66.tg (exs e_66.l)),vv 74 (.cptr (Ex.cs e_72)),vv 75 (.agg (Ex.cs e_72)),vb 76 c_67,vv 77 r7.v] [(4,⟨(Typ.cs t_63),[]⟩),(6,⟨(Ex.cs e_66),[]⟩)] Hp.none 0)) .none) .none) .none) = some o) : ML C 24 qO6 5 (mkS 183 [vv 1 (.vs 3 tg_64 (l_65.map Par.av)),vb 3 c_67,(4,.lp 4 0),(6,.lp 6 0),vb 67 true,vv 70 (.agg (Typ.cs t_63)),vv 71 (.vs 3 tg_64 (l_65.map Par.av)),(72,.lp 6 3),vv 73 (.vs 5 e_66.tg (exs e_66.l)),vv 74 (.cptr (Ex.cs e_72))] [(4,⟨(Typ.cs t_63),[]⟩),(6,⟨(Ex.cs e_66),[]⟩)] Hp.none 0) = some o := stM C 0 (fun _ _ => by kernel_rfl) ho
theorem p24_4 {t_63 : Typ} {tg_64 c_67 tg_74 : Bool} {l_65 : List Par} {e_66 : Ex} {x_73 : Int} {l_75 : List Dg} (ho : Tr.val C 24
(rt (.tuple [(i6 x_73),(.vs 2 tg_74 (l_75.map Dg.av))])) = some o) : ML C 24 qO17 5 (mkS 183 [vv 1 (.vs 3 tg_64 (l_65.map Par.av)),vb 3 c_67,(4,.lp 4 0),(6,.lp 6 0),vb 94 true,vv 95 (.agg (Typ.cs t_63)),vv 96 (.vs 3 tg_64 (l_65.map Par.av)),vv 97 (.agg (Ex.cs e_66)),vb 98 c_67,vv 99 (.tuple [(i6 x_73),(.vs 2 tg_74 (l_75.map Dg.av))])] [(4,⟨(Typ.cs t_63),[]⟩),(6,⟨(Ex.cs e_66),[]⟩)] Hp.none 0) = some o := stM C 1 (fun _ _ => by kernel_rfl) ho
theorem p24_5 {t_63 : Typ} {tg_64 c_67 : Bool} {l_65 : List Par} {e_66 e_76 : Ex} (ho : Tr.val C 24
(.br (za7 [(.agg (Typ.cs t_63)),(.vs 3 tg_64 (l_65.map Par.av)),(.agg (Ex.cs e_76)),(.bool c_67)])
(cl0 24 [(.agg (Typ.cs t_63)),(.vs 3 tg_64 (l_65.map Par.av)),(.agg (Ex.cs e_76)),(.bool c_67)] fun r8 => .br (AV.pure r8.v)
(.br (AV.pure r8.v)
(.mid 0 qO7 8 (mkS 183 [vv 1 (.vs 3 tg_64 (l_65.map Par.av)),vb 3 c_67,(4,.lp 4 0),(6,.lp 6 0),vb 94 false,vv 103 (.agg (Typ.cs t_63)),vv 104 (.vs 3 tg_64 (l_65.map Par.av)),(105,.lp 6 3),vv 106 (.vs 5 e_66.tg (exs e_66.l)),vv 107 (.cptr (Ex.cs e_76)),vv 108 (.agg (Ex.cs e_76)),vb 109 c_67,vv 110 r8.v] [(4,⟨(Typ.cs t_63),[]⟩),(6,⟨(Ex.cs e_66),[]⟩)] Hp.none 0)) .none) .none) .none) = some o) : ML C 24 qO7 5 (mkS 183 [vv 1 (.vs 3 tg_64 (l_65.map Par.av)),vb 3 c_67,(4,.lp 4 0),(6,.lp 6 0),vb 94 false,vv 103 (.agg (Typ.cs t_63)),vv 104 (.vs 3 tg_64 (l_65.map Par.av)),(105,.lp 6 3),vv 106 (.vs 5 e_66.tg (exs e_66.l)),vv 107 (.cptr (Ex.cs e_76))] [(4,⟨(Typ.cs t_63),[]⟩),(6,⟨(Ex.cs e_66),[]⟩)] Hp.none 0) = some o := stM C 0 (fun _ _ => by kernel_rfl) ho
theorem p24_6 {t_63 : Typ} {e_66 : Ex} {x_71 : Int} {f_77 : Fld} (ho : Tr.val C 24
(.br (!(decide (f_77.kind = 4)))
(rt (.tuple [(i6 0),(.vs 2 true [(.agg [(i6 e_66.at_),(i6 12)])])]))
(rt (.tuple [(i6 1),(.vs 2 true [])]))) = some o) : ML C 24 qO18 4 (mkS 183 [(4,.lp 4 0),(6,.lp 6 0),vi 10 x_71,vb 48 false,(56,.lp 4 1),vv 57 (.vs 4 t_63.tgF (t_63.fields.map Fld.av)),vi 58 x_71,vv 59 (.cptr (Fld.cs f_77))] [(4,⟨(Typ.cs t_63),[]⟩),(6,⟨(Ex.cs e_66),[]⟩)] Hp.none 0) = some o := stM C 6 (fun _ _ => by kernel_rfl) ho
theorem p24_7 {t_63 : Typ} {tg_64 c_67 tg_79 : Bool} {l_65 : List Par} {e_66 e_72 : Ex} {x_78 : Int} {l_80 : List Dg} (ho : Tr.val C 24
(.br (za7 [(.tuple [(i6 x_78),(.vs 2 tg_79 (l_80.map Dg.av))])])
(.br (za7 [(.tuple [(i6 x_78),(.vs 2 tg_79 (l_80.map Dg.av))])])
(.br (AV.pure (.vs 2 tg_79 (l_80.map Dg.av)))
(.br (eqS e_66.s [33])
(cl0 55 [(.agg (Ex.cs e_66)),(.vs 2 tg_79 (l_80.map Dg.av)),(.bool (decide (x_78 = 3))),(i6 3)] fun r9 => .br (AV.pure r9.v)
(.mid 0 qO19 7 (mkS 183 [(6,.lp 6 0),vi 11 x_78,vv 12 (.vs 2 tg_79 (l_80.map Dg.av)),vi 13 3,vv 83 (.agg (Ex.cs e_66)),vv 84 (.vs 2 tg_79 (l_80.map Dg.av)),vi 85 x_78,vi 86 3,vb 87 (decide (x_78 = 3)),vi 88 3,vv 89 r9.v] [(6,⟨(Ex.cs e_66),[]⟩)] Hp.none 0)) .none)
(cl0 55 [(.agg (Ex.cs e_66)),(.vs 2 tg_79 (l_80.map Dg.av)),(.bool (decide (x_78 = 1))),(i6 1)] fun r10 => .br (AV.pure r10.v)
(.mid 0 qO20 7 (mkS 183 [(6,.lp 6 0),vi 11 x_78,vv 12 (.vs 2 tg_79 (l_80.map Dg.av)),vi 13 1,vb 82 false,vv 83 (.agg (Ex.cs e_66)),vv 84 (.vs 2 tg_79 (l_80.map Dg.av)),vi 85 x_78,vi 86 1,vb 87 (decide (x_78 = 1)),vi 88 1,vv 89 r10.v] [(6,⟨(Ex.cs e_66),[]⟩)] Hp.none 0)) .none)) .none) .none) .none) = some o) : ML C 24 qO6 8 (mkS 183 [vv 1 (.vs 3 tg_64 (l_65.map Par.av)),vb 3 c_67,(4,.lp 4 0),(6,.lp 6 0),vb 67 true,vv 70 (.agg (Typ.cs t_63)),vv 71 (.vs 3 tg_64 (l_65.map Par.av)),(72,.lp 6 3),vv 73 (.vs 5 e_66.tg (exs e_66.l)),vv 74 (.cptr (Ex.cs e_72)),vv 75 (.agg (Ex.cs e_72)),vb 76 c_67,vv 77 (.tuple [(i6 x_78),(.vs 2 tg_79 (l_80.map Dg.av))])] [(4,⟨(Typ.cs t_63),[]⟩),(6,⟨(Ex.cs e_66),[]⟩)] Hp.none 0) = some o := stM C 9 (fun _ _ => by kernel_rfl) ho
theorem p24_8 {t_63 : Typ} {tg_64 c_67 tg_82 : Bool} {l_65 : List Par} {e_66 e_76 : Ex} {x_81 : Int} {l_83 : List Dg} (ho : Tr.val C 24
(.br (za7 [(.tuple [(i6 x_81),(.vs 2 tg_82 (l_83.map Dg.av))])])
(.br (za7 [(.tuple [(i6 x_81),(.vs 2 tg_82 (l_83.map Dg.av))])])
(.br (AV.pure (.vs 2 tg_82 (l_83.map Dg.av)))
(.br (decide (1 < ((exs e_66.l).length : Int)))
(.bind (nth (exs e_66.l) 1) fun c11 =>
(.mid 0 qO8 5 (mkS 183 [vv 1 (.vs 3 tg_64 (l_65.map Par.av)),vb 3 c_67,(4,.lp 4 0),(6,.lp 6 0),vi 14 x_81,vv 15 (.vs 2 tg_82 (l_83.map Dg.av)),vv 114 (.agg (Typ.cs t_63)),vv 115 (.vs 3 tg_64 (l_65.map Par.av)),(116,.lp 6 3),vv 117 (.vs 5 e_66.tg (exs e_66.l)),vv 118 (.cptr (AV.cells c11))] [(4,⟨(Typ.cs t_63),[]⟩),(6,⟨(Ex.cs e_66),[]⟩)] Hp.none 0))) .none) .none) .none) .none) = some o) : ML C 24 qO7 8 (mkS 183 [vv 1 (.vs 3 tg_64 (l_65.map Par.av)),vb 3 c_67,(4,.lp 4 0),(6,.lp 6 0),vb 94 false,vv 103 (.agg (Typ.cs t_63)),vv 104 (.vs 3 tg_64 (l_65.map Par.av)),(105,.lp 6 3),vv 106 (.vs 5 e_66.tg (exs e_66.l)),vv 107 (.cptr (Ex.cs e_76)),vv 108 (.agg (Ex.cs e_76)),vb 109 c_67,vv 110 (.tuple [(i6 x_81),(.vs 2 tg_82 (l_83.map Dg.av))])] [(4,⟨(Typ.cs t_63),[]⟩),(6,⟨(Ex.cs e_66),[]⟩)] Hp.none 0) = some o := stM C 2 (fun _ _ => by kernel_rfl) ho
theorem p24_9 {e_66 : Ex} {x_78 x_84 : Int} {tg_79 tg_85 c_87 : Bool} {l_80 l_86 : List Dg} (ho : Tr.val C 24
(rt (.tuple [(i6 x_84),(.vs 2 tg_85 (l_86.map Dg.av))])) = some o) : ML C 24 qO19 7 (mkS 183 [(6,.lp 6 0),vi 11 x_78,vv 12 (.vs 2 tg_79 (l_80.map Dg.av)),vi 13 3,vv 83 (.agg (Ex.cs e_66)),vv 84 (.vs 2 tg_79 (l_80.map Dg.av)),vi 85 x_78,vi 86 3,vb 87 c_87,vi 88 3,vv 89 (.tuple [(i6 x_84),(.vs 2 tg_85 (l_86.map Dg.av))])] [(6,⟨(Ex.cs e_66),[]⟩)] Hp.none 0) = some o := stM C 1 (fun _ _ => by kernel_rfl) ho
theorem p24_10 {e_66 : Ex} {x_78 x_88 : Int} {tg_79 tg_89 c_91 : Bool} {l_80 l_90 : List Dg} (ho : Tr.val C 24
(rt (.tuple [(i6 x_88),(.vs 2 tg_89 (l_90.map Dg.av))])) = some o) : ML C 24 qO20 7 (mkS 183 [(6,.lp 6 0),vi 11 x_78,vv 12 (.vs 2 tg_79 (l_80.map Dg.av)),vi 13 1,vb 82 false,vv 83 (.agg (Ex.cs e_66)),vv 84 (.vs 2 tg_79 (l_80.map Dg.av)),vi 85 x_78,vi 86 1,vb 87 c_91,vi 88 1,vv 89 (.tuple [(i6 x_88),(.vs 2 tg_89 (l_90.map Dg.av))])] [(6,⟨(Ex.cs e_66),[]⟩)] Hp.none 0) = some o := stM C 1 (fun _ _ => by kernel_rfl) ho
theorem p24_11 {t_63 : Typ} {tg_64 c_67 tg_82 : Bool} {l_65 : List Par} {e_66 e_92 : Ex} {x_81 : Int} {l_83 : List Dg} (ho : Tr.val C 24
(.br (za7 [(.agg (Typ.cs t_63)),(.vs 3 tg_64 (l_65.map Par.av)),(.agg (Ex.cs e_92)),(.bool c_67)])
(cl0 24 [(.agg (Typ.cs t_63)),(.vs 3 tg_64 (l_65.map Par.av)),(.agg (Ex.cs e_92)),(.bool c_67)] fun r12 => .br (AV.pure r12.v)
(.br (AV.pure r12.v)
(.mid 0 qO8 8 (mkS 183 [vv 1 (.vs 3 tg_64 (l_65.map Par.av)),vb 3 c_67,(4,.lp 4 0),(6,.lp 6 0),vi 14 x_81,vv 15 (.vs 2 tg_82 (l_83.map Dg.av)),vv 114 (.agg (Typ.cs t_63)),vv 115 (.vs 3 tg_64 (l_65.map Par.av)),(116,.lp 6 3),vv 117 (.vs 5 e_66.tg (exs e_66.l)),vv 118 (.cptr (Ex.cs e_92)),vv 119 (.agg (Ex.cs e_92)),vb 120 c_67,vv 121 r12.v] [(4,⟨(Typ.cs t_63),[]⟩),(6,⟨(Ex.cs e_66),[]⟩)] Hp.none 0)) .none) .none) .none) = some o) : ML C 24 qO8 5 (mkS 183 [vv 1 (.vs 3 tg_64 (l_65.map Par.av)),vb 3 c_67,(4,.lp 4 0),(6,.lp 6 0),vi 14 x_81,vv 15 (.vs 2 tg_82 (l_83.map Dg.av)),vv 114 (.agg (Typ.cs t_63)),vv 115 (.vs 3 tg_64 (l_65.map Par.av)),(116,.lp 6 3),vv 117 (.vs 5 e_66.tg (exs e_66.l)),vv 118 (.cptr (Ex.cs e_92))] [(4,⟨(Typ.cs t_63),[]⟩),(6,⟨(Ex.cs e_66),[]⟩)] Hp.none 0) = some o := stM C 0 (fun _ _ => by kernel_rfl) ho
theorem p24_12 {t_63 : Typ} {tg_64 c_67 tg_82 tg_94 : Bool} {l_65 : List Par} {e_66 e_92 : Ex} {x_81 x_93 : Int} {l_83 l_95 : List Dg} (ho : Tr.val C 24
(.br (za7 [(.tuple [(i6 x_93),(.vs 2 tg_94 (l_95.map Dg.av))])])
(.br (za7 [(.tuple [(i6 x_93),(.vs 2 tg_94 (l_95.map Dg.av))])])
(.br (AV.pure (.vs 2 tg_94 (l_95.map Dg.av)))
(.br (Nat.ble ((0 + (l_83.map Dg.av).length) * 16) za9)
(.br (Nat.ble (0 + (l_83.map Dg.av).length) za9)
(.br (Nat.ble ((([] ++ (l_83.map Dg.av)).length + (l_95.map Dg.av).length) * 16) za9)
(.br (Nat.ble (([] ++ (l_83.map Dg.av)).length + (l_95.map Dg.av).length) za9)
(.br (eqS e_66.s [43])
(.br (decide (x_81 = 1))
(cl0 55 [(.agg (Ex.cs e_66)),(.vs 2 false (([] ++ (l_83.map Dg.av)) ++ (l_95.map Dg.av))),(.bool (decide (x_93 = 1))),(i6 1)] fun r13 => .br (AV.pure r13.v)
(.mid 17 qO9 9 (mkS 183 [(6,.lp 6 0),vi 14 x_81,(15,.val (.vs 2 false (([] ++ (l_83.map Dg.av)) ++ (l_95.map Dg.av))) .own),vi 16 x_93,vt 130 e_66.s,vb 131 true,vv 135 (.agg (Ex.cs e_66)),(136,.val (.vs 2 false (([] ++ (l_83.map Dg.av)) ++ (l_95.map Dg.av))) (.lS 15)),vi 137 x_81,vb 138 (decide (x_81 = 1)),vb 139 true,vi 140 x_93,vb 141 (decide (x_93 = 1)),vb 142 (decide (x_93 = 1)),vv 143 r13.v] [(6,⟨(Ex.cs e_66),[]⟩)] Hp.none 0)) .none)
(cl0 55 [(.agg (Ex.cs e_66)),(.vs 2 false (([] ++ (l_83.map Dg.av)) ++ (l_95.map Dg.av))),(.bool false),(i6 1)] fun r14 => .br (AV.pure r14.v)
(.mid 17 qO9 9 (mkS 183 [(6,.lp 6 0),vi 14 x_81,(15,.val (.vs 2 false (([] ++ (l_83.map Dg.av)) ++ (l_95.map Dg.av))) .own),vi 16 x_93,vt 130 e_66.s,vb 131 true,vv 135 (.agg (Ex.cs e_66)),(136,.val (.vs 2 false (([] ++ (l_83.map Dg.av)) ++ (l_95.map Dg.av))) (.lS 15)),vi 137 x_81,vb 138 (decide (x_81 = 1)),vb 139 false,vv 140 (.tuple []),vv 141 (.tuple []),vb 142 false,vv 143 r14.v] [(6,⟨(Ex.cs e_66),[]⟩)] Hp.none 0)) .none))
(.br (eqS e_66.s [45])
(.br (decide (x_81 = 1))
(cl0 55 [(.agg (Ex.cs e_66)),(.vs 2 false (([] ++ (l_83.map Dg.av)) ++ (l_95.map Dg.av))),(.bool (decide (x_93 = 1))),(i6 1)] fun r15 => .br (AV.pure r15.v)
(.mid 14 qO10 9 (mkS 183 [(6,.lp 6 0),vi 14 x_81,(15,.val (.vs 2 false (([] ++ (l_83.map Dg.av)) ++ (l_95.map Dg.av))) .own),vi 16 x_93,vt 130 e_66.s,vb 131 true,vv 135 (.agg (Ex.cs e_66)),(136,.val (.vs 2 false (([] ++ (l_83.map Dg.av)) ++ (l_95.map Dg.av))) (.lS 15)),vi 137 x_81,vb 138 (decide (x_81 = 1)),vb 139 true,vi 140 x_93,vb 141 (decide (x_93 = 1)),vb 142 (decide (x_93 = 1)),vv 143 r15.v] [(6,⟨(Ex.cs e_66),[]⟩)] Hp.none 0)) .none)
(cl0 55 [(.agg (Ex.cs e_66)),(.vs 2 false (([] ++ (l_83.map Dg.av)) ++ (l_95.map Dg.av))),(.bool false),(i6 1)] fun r16 => .br (AV.pure r16.v)
(.mid 14 qO10 9 (mkS 183 [(6,.lp 6 0),vi 14 x_81,(15,.val (.vs 2 false (([] ++ (l_83.map Dg.av)) ++ (l_95.map Dg.av))) .own),vi 16 x_93,vt 130 e_66.s,vb 131 true,vv 135 (.agg (Ex.cs e_66)),(136,.val (.vs 2 false (([] ++ (l_83.map Dg.av)) ++ (l_95.map Dg.av))) (.lS 15)),vi 137 x_81,vb 138 (decide (x_81 = 1)),vb 139 false,vv 140 (.tuple []),vv 141 (.tuple []),vb 142 false,vv 143 r16.v] [(6,⟨(Ex.cs e_66),[]⟩)] Hp.none 0)) .none))
(.br (eqS e_66.s [42])
(.br (decide (x_81 = 1))
(cl0 55 [(.agg (Ex.cs e_66)),(.vs 2 false (([] ++ (l_83.map Dg.av)) ++ (l_95.map Dg.av))),(.bool (decide (x_93 = 1))),(i6 1)] fun r17 => .br (AV.pure r17.v)
(.mid 14 qO11 9 (mkS 183 [(6,.lp 6 0),vi 14 x_81,(15,.val (.vs 2 false (([] ++ (l_83.map Dg.av)) ++ (l_95.map Dg.av))) .own),vi 16 x_93,vt 130 e_66.s,vb 131 true,vv 135 (.agg (Ex.cs e_66)),(136,.val (.vs 2 false (([] ++ (l_83.map Dg.av)) ++ (l_95.map Dg.av))) (.lS 15)),vi 137 x_81,vb 138 (decide (x_81 = 1)),vb 139 true,vi 140 x_93,vb 141 (decide (x_93 = 1)),vb 142 (decide (x_93 = 1)),vv 143 r17.v] [(6,⟨(Ex.cs e_66),[]⟩)] Hp.none 0)) .none)
(cl0 55 [(.agg (Ex.cs e_66)),(.vs 2 false (([] ++ (l_83.map Dg.av)) ++ (l_95.map Dg.av))),(.bool false),(i6 1)] fun r18 => .br (AV.pure r18.v)
(.mid 14 qO11 9 (mkS 183 [(6,.lp 6 0),vi 14 x_81,(15,.val (.vs 2 false (([] ++ (l_83.map Dg.av)) ++ (l_95.map Dg.av))) .own),vi 16 x_93,vt 130 e_66.s,vb 131 true,vv 135 (.agg (Ex.cs e_66)),(136,.val (.vs 2 false (([] ++ (l_83.map Dg.av)) ++ (l_95.map Dg.av))) (.lS 15)),vi 137 x_81,vb 138 (decide (x_81 = 1)),vb 139 false,vv 140 (.tuple []),vv 141 (.tuple []),vb 142 false,vv 143 r18.v] [(6,⟨(Ex.cs e_66),[]⟩)] Hp.none 0)) .none))
(.br (eqS e_66.s [38,38])
(.br (decide (x_81 = 3))
(cl0 55 [(.agg (Ex.cs e_66)),(.vs 2 false (([] ++ (l_83.map Dg.av)) ++ (l_95.map Dg.av))),(.bool (decide (x_93 = 3))),(i6 3)] fun r19 => .br (AV.pure r19.v)
(.mid 8 qO12 9 (mkS 183 [(6,.lp 6 0),vi 14 x_81,(15,.val (.vs 2 false (([] ++ (l_83.map Dg.av)) ++ (l_95.map Dg.av))) .own),vi 16 x_93,vt 130 e_66.s,vb 146 true,vv 149 (.agg (Ex.cs e_66)),(150,.val (.vs 2 false (([] ++ (l_83.map Dg.av)) ++ (l_95.map Dg.av))) (.lS 15)),vi 151 x_81,vb 152 (decide (x_81 = 3)),vb 153 true,vi 154 x_93,vb 155 (decide (x_93 = 3)),vb 156 (decide (x_93 = 3)),vv 157 r19.v] [(6,⟨(Ex.cs e_66),[]⟩)] Hp.none 0)) .none)
(cl0 55 [(.agg (Ex.cs e_66)),(.vs 2 false (([] ++ (l_83.map Dg.av)) ++ (l_95.map Dg.av))),(.bool false),(i6 3)] fun r20 => .br (AV.pure r20.v)
(.mid 8 qO12 9 (mkS 183 [(6,.lp 6 0),vi 14 x_81,(15,.val (.vs 2 false (([] ++ (l_83.map Dg.av)) ++ (l_95.map Dg.av))) .own),vi 16 x_93,vt 130 e_66.s,vb 146 true,vv 149 (.agg (Ex.cs e_66)),(150,.val (.vs 2 false (([] ++ (l_83.map Dg.av)) ++ (l_95.map Dg.av))) (.lS 15)),vi 151 x_81,vb 152 (decide (x_81 = 3)),vb 153 false,vv 154 (.tuple []),vv 155 (.tuple []),vb 156 false,vv 157 r20.v] [(6,⟨(Ex.cs e_66),[]⟩)] Hp.none 0)) .none))
(.br (eqS e_66.s [124,124])
(.br (decide (x_81 = 3))
(cl0 55 [(.agg (Ex.cs e_66)),(.vs 2 false (([] ++ (l_83.map Dg.av)) ++ (l_95.map Dg.av))),(.bool (decide (x_93 = 3))),(i6 3)] fun r21 => .br (AV.pure r21.v)
(.mid 8 qO13 9 (mkS 183 [(6,.lp 6 0),vi 14 x_81,(15,.val (.vs 2 false (([] ++ (l_83.map Dg.av)) ++ (l_95.map Dg.av))) .own),vi 16 x_93,vt 130 e_66.s,vb 146 true,vv 149 (.agg (Ex.cs e_66)),(150,.val (.vs 2 false (([] ++ (l_83.map Dg.av)) ++ (l_95.map Dg.av))) (.lS 15)),vi 151 x_81,vb 152 (decide (x_81 = 3)),vb 153 true,vi 154 x_93,vb 155 (decide (x_93 = 3)),vb 156 (decide (x_93 = 3)),vv 157 r21.v] [(6,⟨(Ex.cs e_66),[]⟩)] Hp.none 0)) .none)
(cl0 55 [(.agg (Ex.cs e_66)),(.vs 2 false (([] ++ (l_83.map Dg.av)) ++ (l_95.map Dg.av))),(.bool false),(i6 3)] fun r22 => .br (AV.pure r22.v)
(.mid 8 qO13 9 (mkS 183 [(6,.lp 6 0),vi 14 x_81,(15,.val (.vs 2 false (([] ++ (l_83.map Dg.av)) ++ (l_95.map Dg.av))) .own),vi 16 x_93,vt 130 e_66.s,vb 146 true,vv 149 (.agg (Ex.cs e_66)),(150,.val (.vs 2 false (([] ++ (l_83.map Dg.av)) ++ (l_95.map Dg.av))) (.lS 15)),vi 151 x_81,vb 152 (decide (x_81 = 3)),vb 153 false,vv 154 (.tuple []),vv 155 (.tuple []),vb 156 false,vv 157 r22.v] [(6,⟨(Ex.cs e_66),[]⟩)] Hp.none 0)) .none))
(.br (eqS e_66.s [61,61])
(cl0 55 [(.agg (Ex.cs e_66)),(.vs 2 false (([] ++ (l_83.map Dg.av)) ++ (l_95.map Dg.av))),(.bool (decide (x_81 = x_93))),(i6 3)] fun r23 => .br (AV.pure r23.v)
(.mid 2 qO21 6 (mkS 183 [(6,.lp 6 0),vi 14 x_81,(15,.val (.vs 2 false (([] ++ (l_83.map Dg.av)) ++ (l_95.map Dg.av))) .own),vi 16 x_93,vt 130 e_66.s,vb 160 true,vv 163 (.agg (Ex.cs e_66)),(164,.val (.vs 2 false (([] ++ (l_83.map Dg.av)) ++ (l_95.map Dg.av))) (.lS 15)),vi 165 x_81,vi 166 x_93,vb 167 (decide (x_81 = x_93)),vv 168 r23.v] [(6,⟨(Ex.cs e_66),[]⟩)] Hp.none 0)) .none)
(.br (eqS e_66.s [33,61])
(cl0 55 [(.agg (Ex.cs e_66)),(.vs 2 false (([] ++ (l_83.map Dg.av)) ++ (l_95.map Dg.av))),(.bool (decide (x_81 = x_93))),(i6 3)] fun r24 => .br (AV.pure r24.v)
(.mid 2 qO22 6 (mkS 183 [(6,.lp 6 0),vi 14 x_81,(15,.val (.vs 2 false (([] ++ (l_83.map Dg.av)) ++ (l_95.map Dg.av))) .own),vi 16 x_93,vb 160 true,vv 163 (.agg (Ex.cs e_66)),(164,.val (.vs 2 false (([] ++ (l_83.map Dg.av)) ++ (l_95.map Dg.av))) (.lS 15)),vi 165 x_81,vi 166 x_93,vb 167 (decide (x_81 = x_93)),vv 168 r24.v] [(6,⟨(Ex.cs e_66),[]⟩)] Hp.none 0)) .none)
(.br (decide (x_81 = x_93))
(cl0 55 [(.agg (Ex.cs e_66)),(.vs 2 false (([] ++ (l_83.map Dg.av)) ++ (l_95.map Dg.av))),(.bool (!(decide (x_81 = 3)))),(i6 3)] fun r25 => .br (AV.pure r25.v)
(.mid 0 qO14 10 (mkS 183 [(6,.lp 6 0),vi 14 x_81,(15,.val (.vs 2 false (([] ++ (l_83.map Dg.av)) ++ (l_95.map Dg.av))) .own),vi 16 x_93,vb 160 false,vv 171 (.agg (Ex.cs e_66)),(172,.val (.vs 2 false (([] ++ (l_83.map Dg.av)) ++ (l_95.map Dg.av))) (.lS 15)),vi 173 x_81,vi 174 x_93,vb 175 (decide (x_81 = x_93)),vb 176 true,vi 177 x_81,vb 178 (!(decide (x_81 = 3))),vb 179 (!(decide (x_81 = 3))),vv 180 r25.v] [(6,⟨(Ex.cs e_66),[]⟩)] Hp.none 0)) .none)
(cl0 55 [(.agg (Ex.cs e_66)),(.vs 2 false (([] ++ (l_83.map Dg.av)) ++ (l_95.map Dg.av))),(.bool false),(i6 3)] fun r26 => .br (AV.pure r26.v)
(.mid 0 qO14 10 (mkS 183 [(6,.lp 6 0),vi 14 x_81,(15,.val (.vs 2 false (([] ++ (l_83.map Dg.av)) ++ (l_95.map Dg.av))) .own),vi 16 x_93,vb 160 false,vv 171 (.agg (Ex.cs e_66)),(172,.val (.vs 2 false (([] ++ (l_83.map Dg.av)) ++ (l_95.map Dg.av))) (.lS 15)),vi 173 x_81,vi 174 x_93,vb 175 (decide (x_81 = x_93)),vb 176 false,vv 177 (.tuple []),vv 178 (.tuple []),vb 179 false,vv 180 r26.v] [(6,⟨(Ex.cs e_66),[]⟩)] Hp.none 0)) .none))))))))) .none) .none) .none) .none) .none) .none) .none) = some o) : ML C 24 qO8 8 (mkS 183 [vv 1 (.vs 3 tg_64 (l_65.map Par.av)),vb 3 c_67,(4,.lp 4 0),(6,.lp 6 0),vi 14 x_81,vv 15 (.vs 2 tg_82 (l_83.map Dg.av)),vv 114 (.agg (Typ.cs t_63)),vv 115 (.vs 3 tg_64 (l_65.map Par.av)),(116,.lp 6 3),vv 117 (.vs 5 e_66.tg (exs e_66.l)),vv 118 (.cptr (Ex.cs e_92)),vv 119 (.agg (Ex.cs e_92)),vb 120 c_67,vv 121 (.tuple [(i6 x_93),(.vs 2 tg_94 (l_95.map Dg.av))])] [(4,⟨(Typ.cs t_63),[]⟩),(6,⟨(Ex.cs e_66),[]⟩)] Hp.none 0) = some o := stM C 31 (fun _ _ => by kernel_rfl) ho
theorem zc5 {e_66 : Ex} {x_81 x_93 x_96 : Int} {tg_97 c_100 c_101 : Bool} {l_98 : List Dg} {l_99 : List AV} (ho : Tr.val C 24
(rt (.tuple [(i6 x_96),(.vs 2 tg_97 (l_98.map Dg.av))])) = some o) : ML C 24 qO9 9 (mkS 183 [(6,.lp 6 0),vi 14 x_81,(15,.val (.vs 2 false l_99) .own),vi 16 x_93,vt 130 e_66.s,vb 131 true,vv 135 (.agg (Ex.cs e_66)),(136,.val (.vs 2 false l_99) (.lS 15)),vi 137 x_81,vb 138 c_100,vb 139 true,vi 140 x_93,vb 141 c_101,vb 142 c_101,vv 143 (.tuple [(i6 x_96),(.vs 2 tg_97 (l_98.map Dg.av))])] [(6,⟨(Ex.cs e_66),[]⟩)] Hp.none 0) = some o := stM C 1 (fun _ _ => by kernel_rfl) ho
theorem zce {e_66 : Ex} {x_81 x_93 x_102 : Int} {tg_103 c_106 : Bool} {l_104 : List Dg} {l_105 : List AV} (ho : Tr.val C 24
(rt (.tuple [(i6 x_102),(.vs 2 tg_103 (l_104.map Dg.av))])) = some o) : ML C 24 qO9 9 (mkS 183 [(6,.lp 6 0),vi 14 x_81,(15,.val (.vs 2 false l_105) .own),vi 16 x_93,vt 130 e_66.s,vb 131 true,vv 135 (.agg (Ex.cs e_66)),(136,.val (.vs 2 false l_105) (.lS 15)),vi 137 x_81,vb 138 c_106,vb 139 false,vv 140 (.tuple []),vv 141 (.tuple []),vb 142 false,vv 143 (.tuple [(i6 x_102),(.vs 2 tg_103 (l_104.map Dg.av))])] [(6,⟨(Ex.cs e_66),[]⟩)] Hp.none 0) = some o := stM C 1 (fun _ _ => by kernel_rfl) ho
theorem zc8 {e_66 : Ex} {x_81 x_93 x_107 : Int} {tg_108 c_111 c_112 : Bool} {l_109 : List Dg} {l_110 : List AV} (ho : Tr.val C 24
(rt (.tuple [(i6 x_107),(.vs 2 tg_108 (l_109.map Dg.av))])) = some o) : ML C 24 qO10 9 (mkS 183 [(6,.lp 6 0),vi 14 x_81,(15,.val (.vs 2 false l_110) .own),vi 16 x_93,vt 130 e_66.s,vb 131 true,vv 135 (.agg (Ex.cs e_66)),(136,.val (.vs 2 false l_110) (.lS 15)),vi 137 x_81,vb 138 c_111,vb 139 true,vi 140 x_93,vb 141 c_112,vb 142 c_112,vv 143 (.tuple [(i6 x_107),(.vs 2 tg_108 (l_109.map Dg.av))])] [(6,⟨(Ex.cs e_66),[]⟩)] Hp.none 0) = some o := stM C 1 (fun _ _ => by kernel_rfl) ho
theorem zc9 {e_66 : Ex} {x_81 x_93 x_113 : Int} {tg_114 c_117 : Bool} {l_115 : List Dg} {l_116 : List AV} (ho : Tr.val C 24
(rt (.tuple [(i6 x_113),(.vs 2 tg_114 (l_115.map Dg.av))])) = some o) : ML C 24 qO10 9 (mkS 183 [(6,.lp 6 0),vi 14 x_81,(15,.val (.vs 2 false l_116) .own),vi 16 x_93,vt 130 e_66.s,vb 131 true,vv 135 (.agg (Ex.cs e_66)),(136,.val (.vs 2 false l_116) (.lS 15)),vi 137 x_81,vb 138 c_117,vb 139 false,vv 140 (.tuple []),vv 141 (.tuple []),vb 142 false,vv 143 (.tuple [(i6 x_113),(.vs 2 tg_114 (l_115.map Dg.av))])] [(6,⟨(Ex.cs e_66),[]⟩)] Hp.none 0) = some o := stM C 1 (fun _ _ => by kernel_rfl) ho
theorem zc7 {e_66 : Ex} {x_81 x_93 x_118 : Int} {tg_119 c_122 c_123 : Bool} {l_120 : List Dg} {l_121 : List AV} (ho : Tr.val C 24
(rt (.tuple [(i6 x_118),(.vs 2 tg_119 (l_120.map Dg.av))])) = some o) : ML C 24 qO11 9 (mkS 183 [(6,.lp 6 0),vi 14 x_81,(15,.val (.vs 2 false l_121) .own),vi 16 x_93,vt 130 e_66.s,vb 131 true,vv 135 (.agg (Ex.cs e_66)),(136,.val (.vs 2 false l_121) (.lS 15)),vi 137 x_81,vb 138 c_122,vb 139 true,vi 140 x_93,vb 141 c_123,vb 142 c_123,vv 143 (.tuple [(i6 x_118),(.vs 2 tg_119 (l_120.map Dg.av))])] [(6,⟨(Ex.cs e_66),[]⟩)] Hp.none 0) = some o := stM C 1 (fun _ _ => by kernel_rfl) ho
theorem zcd {e_66 : Ex} {x_81 x_93 x_124 : Int} {tg_125 c_128 : Bool} {l_126 : List Dg} {l_127 : List AV} (ho : Tr.val C 24
(rt (.tuple [(i6 x_124),(.vs 2 tg_125 (l_126.map Dg.av))])) = some o) : ML C 24 qO11 9 (mkS 183 [(6,.lp 6 0),vi 14 x_81,(15,.val (.vs 2 false l_127) .own),vi 16 x_93,vt 130 e_66.s,vb 131 true,vv 135 (.agg (Ex.cs e_66)),(136,.val (.vs 2 false l_127) (.lS 15)),vi 137 x_81,vb 138 c_128,vb 139 false,vv 140 (.tuple []),vv 141 (.tuple []),vb 142 false,vv 143 (.tuple [(i6 x_124),(.vs 2 tg_125 (l_126.map Dg.av))])] [(6,⟨(Ex.cs e_66),[]⟩)] Hp.none 0) = some o := stM C 1 (fun _ _ => by kernel_rfl) ho
theorem zc4 {e_66 : Ex} {x_81 x_93 x_129 : Int} {tg_130 c_133 c_134 : Bool} {l_131 : List Dg} {l_132 : List AV} (ho : Tr.val C 24
(rt (.tuple [(i6 x_129),(.vs 2 tg_130 (l_131.map Dg.av))])) = some o) : ML C 24 qO12 9 (mkS 183 [(6,.lp 6 0),vi 14 x_81,(15,.val (.vs 2 false l_132) .own),vi 16 x_93,vt 130 e_66.s,vb 146 true,vv 149 (.agg (Ex.cs e_66)),(150,.val (.vs 2 false l_132) (.lS 15)),vi 151 x_81,vb 152 c_133,vb 153 true,vi 154 x_93,vb 155 c_134,vb 156 c_134,vv 157 (.tuple [(i6 x_129),(.vs 2 tg_130 (l_131.map Dg.av))])] [(6,⟨(Ex.cs e_66),[]⟩)] Hp.none 0) = some o := stM C 1 (fun _ _ => by kernel_rfl) ho
theorem zcg {e_66 : Ex} {x_81 x_93 x_135 : Int} {tg_136 c_139 : Bool} {l_137 : List Dg} {l_138 : List AV} (ho : Tr.val C 24
(rt (.tuple [(i6 x_135),(.vs 2 tg_136 (l_137.map Dg.av))])) = some o) : ML C 24 qO12 9 (mkS 183 [(6,.lp 6 0),vi 14 x_81,(15,.val (.vs 2 false l_138) .own),vi 16 x_93,vt 130 e_66.s,vb 146 true,vv 149 (.agg (Ex.cs e_66)),(150,.val (.vs 2 false l_138) (.lS 15)),vi 151 x_81,vb 152 c_139,vb 153 false,vv 154 (.tuple []),vv 155 (.tuple []),vb 156 false,vv 157 (.tuple [(i6 x_135),(.vs 2 tg_136 (l_137.map Dg.av))])] [(6,⟨(Ex.cs e_66),[]⟩)] Hp.none 0) = some o := stM C 1 (fun _ _ => by kernel_rfl) ho
theorem zc6 {e_66 : Ex} {x_81 x_93 x_140 : Int} {tg_141 c_144 c_145 : Bool} {l_142 : List Dg} {l_143 : List AV} (ho : Tr.val C 24
(rt (.tuple [(i6 x_140),(.vs 2 tg_141 (l_142.map Dg.av))])) = some o) : ML C 24 qO13 9 (mkS 183 [(6,.lp 6 0),vi 14 x_81,(15,.val (.vs 2 false l_143) .own),vi 16 x_93,vt 130 e_66.s,vb 146 true,vv 149 (.agg (Ex.cs e_66)),(150,.val (.vs 2 false l_143) (.lS 15)),vi 151 x_81,vb 152 c_144,vb 153 true,vi 154 x_93,vb 155 c_145,vb 156 c_145,vv 157 (.tuple [(i6 x_140),(.vs 2 tg_141 (l_142.map Dg.av))])] [(6,⟨(Ex.cs e_66),[]⟩)] Hp.none 0) = some o := stM C 1 (fun _ _ => by kernel_rfl) ho
theorem zc2 {e_66 : Ex} {x_81 x_93 x_146 : Int} {tg_147 c_150 : Bool} {l_148 : List Dg} {l_149 : List AV} (ho : Tr.val C 24
(rt (.tuple [(i6 x_146),(.vs 2 tg_147 (l_148.map Dg.av))])) = some o) : ML C 24 qO13 9 (mkS 183 [(6,.lp 6 0),vi 14 x_81,(15,.val (.vs 2 false l_149) .own),vi 16 x_93,vt 130 e_66.s,vb 146 true,vv 149 (.agg (Ex.cs e_66)),(150,.val (.vs 2 false l_149) (.lS 15)),vi 151 x_81,vb 152 c_150,vb 153 false,vv 154 (.tuple []),vv 155 (.tuple []),vb 156 false,vv 157 (.tuple [(i6 x_146),(.vs 2 tg_147 (l_148.map Dg.av))])] [(6,⟨(Ex.cs e_66),[]⟩)] Hp.none 0) = some o := stM C 1 (fun _ _ => by kernel_rfl) ho
theorem zcc {e_66 : Ex} {x_81 x_93 x_151 : Int} {tg_152 c_155 : Bool} {l_153 : List Dg} {l_154 : List AV} (ho : Tr.val C 24
(rt (.tuple [(i6 x_151),(.vs 2 tg_152 (l_153.map Dg.av))])) = some o) : ML C 24 qO21 6 (mkS 183 [(6,.lp 6 0),vi 14 x_81,(15,.val (.vs 2 false l_154) .own),vi 16 x_93,vt 130 e_66.s,vb 160 true,vv 163 (.agg (Ex.cs e_66)),(164,.val (.vs 2 false l_154) (.lS 15)),vi 165 x_81,vi 166 x_93,vb 167 c_155,vv 168 (.tuple [(i6 x_151),(.vs 2 tg_152 (l_153.map Dg.av))])] [(6,⟨(Ex.cs e_66),[]⟩)] Hp.none 0) = some o := stM C 1 (fun _ _ => by kernel_rfl) ho
theorem zca {e_66 : Ex} {x_81 x_93 x_156 : Int} {tg_157 c_160 : Bool} {l_158 : List Dg} {l_159 : List AV} (ho : Tr.val C 24
(rt (.tuple [(i6 x_156),(.vs 2 tg_157 (l_158.map Dg.av))])) = some o) : ML C 24 qO22 6 (mkS 183 [(6,.lp 6 0),vi 14 x_81,(15,.val (.vs 2 false l_159) .own),vi 16 x_93,vb 160 true,vv 163 (.agg (Ex.cs e_66)),(164,.val (.vs 2 false l_159) (.lS 15)),vi 165 x_81,vi 166 x_93,vb 167 c_160,vv 168 (.tuple [(i6 x_156),(.vs 2 tg_157 (l_158.map Dg.av))])] [(6,⟨(Ex.cs e_66),[]⟩)] Hp.none 0) = some o := stM C 1 (fun _ _ => by kernel_rfl) ho
theorem zc3 {e_66 : Ex} {x_81 x_93 x_161 : Int} {tg_162 c_165 c_166 : Bool} {l_163 : List Dg} {l_164 : List AV} (ho : Tr.val C 24
(rt (.tuple [(i6 x_161),(.vs 2 tg_162 (l_163.map Dg.av))])) = some o) : ML C 24 qO14 10 (mkS 183 [(6,.lp 6 0),vi 14 x_81,(15,.val (.vs 2 false l_164) .own),vi 16 x_93,vb 160 false,vv 171 (.agg (Ex.cs e_66)),(172,.val (.vs 2 false l_164) (.lS 15)),vi 173 x_81,vi 174 x_93,vb 175 c_165,vb 176 true,vi 177 x_81,vb 178 c_166,vb 179 c_166,vv 180 (.tuple [(i6 x_161),(.vs 2 tg_162 (l_163.map Dg.av))])] [(6,⟨(Ex.cs e_66),[]⟩)] Hp.none 0) = some o := stM C 1 (fun _ _ => by kernel_rfl) ho
theorem zcb {e_66 : Ex} {x_81 x_93 x_167 : Int} {tg_168 c_171 : Bool} {l_169 : List Dg} {l_170 : List AV} (ho : Tr.val C 24
(rt (.tuple [(i6 x_167),(.vs 2 tg_168 (l_169.map Dg.av))])) = some o) : ML C 24 qO14 10 (mkS 183 [(6,.lp 6 0),vi 14 x_81,(15,.val (.vs 2 false l_170) .own),vi 16 x_93,vb 160 false,vv 171 (.agg (Ex.cs e_66)),(172,.val (.vs 2 false l_170) (.lS 15)),vi 173 x_81,vi 174 x_93,vb 175 c_171,vb 176 false,vv 177 (.tuple []),vv 178 (.tuple []),vb 179 false,vv 180 (.tuple [(i6 x_167),(.vs 2 tg_168 (l_169.map Dg.av))])] [(6,⟨(Ex.cs e_66),[]⟩)] Hp.none 0) = some o := stM C 1 (fun _ _ => by kernel_rfl) ho
end Go.Proofs.YtfdklpkfpmkgeaaGreatDoor
end
section
namespace Go.Proofs.YtfdklpkfpmkgeaaGreatDoor
open Go Go.Vai
attribute [local irreducible] goTo zas mkS
def fldF (l : List Fld) (s : List UInt8) : Option Fld := l.find? fun f=>eqS f.name s
def parN (l : List Par) (s : List UInt8) : Option Par := l.find? fun p=>eqS p.name s
def fld0 : Fld := ⟨[],0,0,0⟩
def fOut : Option Fld→AV
 | some f=>.tuple [.agg f.cs,.bool true]
 | none=>.tuple [.agg fld0.cs,.bool false]
def denF (w : Sc) (s : List UInt8) : Option Fld := match parN w.ps s with
 | some _=>none
 | none=>if w.q = true then fldF w.t.fields s else none
def RT (r : Int × List Dg) (o : Out) : Prop := ∃ tg,o.v = .tuple [.int .i64 r.1,.vs 2 tg (r.2.map Dg.av)]
def oneD (e : Ex) (err : Int) : Int × List Dg := (0,[⟨e.at_,err⟩])
def zqk (w : Sc) (e : Ex) : Int × List Dg := match parN w.ps e.s with
 | some p=>(p.type,[])
 | none=>match denF w e.s with
  | none=>oneD e 6
  | some f=>if f.kind = 1 then (f.type,[]) else if f.kind = 2 then (1,[]) else if f.kind = 3 then (1,[]) else if f.kind = 5 then (3,[]) else oneD e 12
def zqf (w : Sc) (e : Ex) : Int × List Dg :=
 if w.q = false then oneD e 10 else match fldF w.t.fields e.s with
  | none=>oneD e 6
  | some f=>if f.kind = 4 then (1,[]) else oneD e 12
def idxF {α : Type} (p : α→Bool) : List α→Nat→Int
 | [],_=>-1
 | x :: l,i=>if p x = true then (i : Int) else idxF p l (i + 1)
theorem Was.ndec {p : Prop} [Decidable p] {x y : Option Out} {Q : Out→Prop} (h1 : ¬ p→Was x Q) (h2 : p→Was y Q) : Was (Vai.br (!decide p) x y) Q:=by
 by_cases h : p
 ·rw [decide_eq_true h]; exact h2 h
 ·rw [decide_eq_false h]; exact h1 h
theorem wi64 {i n : Nat} (h : i < n) (hn : n ≤ 1000000) : w64 ((i : Int) + 1) = ((i + 1 : Nat) : Int) := by rw [zaz (by omega) (by omega)]; omega
theorem ze5 {α : Type} (p : α→Bool) : ∀ (l : List α) (i : Nat),(idxF p l i = -1∧l.find? p = none) ∨ ∃ k x,idxF p l i = ((i + k : Nat) : Int)∧l[k]? = some x∧l.find? p = some x
 | [],i=>.inl ⟨rfl,rfl⟩
 | x :: l,i=>by
  unfold idxF
  cases h : p x
  ·rw [if_neg (by simp),List.find?_cons,h]
   rcases ze5 p l (i + 1) with ⟨h1,h2⟩ | ⟨k,y,h1,h2,h3⟩
   ·exact .inl ⟨h1,h2⟩
   ·exact .inr ⟨k + 1,y,by rw [h1]; omega,h2,h3⟩
  ·rw [if_pos rfl,List.find?_cons,h]
   exact .inr ⟨0,x,rfl,rfl,rfl⟩
variable {C : Nat→Oracle} (hC : Ext C)
theorem w94_loop (tg : Bool) (L : List Fld) (hL : L.length ≤ 1000000) (s z : List UInt8) (a b c : Int) : ∀ (r : List Fld) (i : Nat),L.drop i = r→i ≤ L.length →
  Was (RL C 94 [0,5,0,0,5,2,3] (mkS 22 [(1,.val (.str s) .no),(4,.lp 4 0),(9,.val (.vs 4 tg (List.map Fld.av L)) .no),(10,.val (.int .i64 (L.length : Int)) .no),(11,.val (.int .i64 (i : Int)) .no)] [(4,⟨[(.str z),(.int .i64 a),(.int .i64 b),(.int .i64 c)],[]⟩)] Hp.none 0))
   (fun o=>o.v = fOut (fldF r s)):=by
 intro r
 induction r with
 | nil =>
  intro i hi hil
  have := zan _ _ hil hi
  refine exW (fun o=>p94_1) ?_
  exact .bF (by omega) (.mk rfl)
 | cons f r ih =>
  intro i hi hil
  obtain ⟨h1,h2,h3⟩ := zay _ _ hi
  refine exW (fun o=>p94_1) ?_
  simp only [Tr.val,List.length_map,Int.toNat_natCast,zaj,zah,zaf,Option.map_some,Option.bind_some,Fld.av_cs,Par.av_cs,Dg.av_cs,Typ.av_cs,Qry.av_cs,Ex.av_cs,zad,AV.pure,za7,za5,za6,zab,za4,zac,zaa,za3,za2,za0,za1,h1]
  refine .bT (by omega) (.bT (by omega) (.bT (by omega) ?_))
  refine exW (fun o=>p94_2) ?_
  simp only [Tr.val,List.length_map,Int.toNat_natCast,zaj,zah,zaf,Option.map_some,Option.bind_some,Fld.av_cs,Par.av_cs,Dg.av_cs,Typ.av_cs,Qry.av_cs,Ex.av_cs,zad,AV.pure,za7,za5,za6,zab,za4,zac,zaa,za3,za2,za0,za1]
  unfold fldF
  rw [List.find?_cons]
  refine .both (fun h=>.mk (by rw [h]; rfl)) (fun h=>?_)
  rw [wi64 h3 hL,h]
  exact ih (i + 1) h2 (by omega)
theorem w54_loop (t : Typ) (hL : t.fields.length ≤ 1000000) (s : List UInt8) : ∀ (r : List Fld) (i : Nat),t.fields.drop i = r→i ≤ t.fields.length →
  Was (RL C 54 [0,5,0,0,5,2,3] (mkS 22 [(1,.val (.str s) .no),(2,.lp 2 0),(5,.val (.int .i64 (i : Int)) .no)] [(2,⟨(Typ.cs t),[]⟩)] Hp.none 0))
   (fun o=>o.v = .int .i64 (idxF (fun f : Fld=>eqS f.name s) r i)):=by
 intro r
 induction r with
 | nil =>
  intro i hi hil
  have := zan _ _ hil hi
  refine exW (fun o=>p54_1) ?_
  simp only [Tr.val,List.length_map,Int.toNat_natCast,zaj,zah,zaf,Option.map_some,Option.bind_some,Fld.av_cs,Par.av_cs,Dg.av_cs,Typ.av_cs,Qry.av_cs,Ex.av_cs,zad,AV.pure,za7,za5,za6,zab,za4,zac,zaa,za3,za2,za0,za1]
  exact .bF (by omega) (.mk rfl)
 | cons f r ih =>
  intro i hi hil
  obtain ⟨h1,h2,h3⟩ := zay _ _ hi
  refine exW (fun o=>p54_1) ?_
  simp only [Tr.val,List.length_map,Int.toNat_natCast,zaj,zah,zaf,Option.map_some,Option.bind_some,Fld.av_cs,Par.av_cs,Dg.av_cs,Typ.av_cs,Qry.av_cs,Ex.av_cs,zad,AV.pure,za7,za5,za6,zab,za4,zac,zaa,za3,za2,za0,za1,h1]
  refine .bT (by omega) (.bT (by omega) (.bT (by omega) ?_))
  refine exW (fun o=>p54_2) ?_
  simp only [Tr.val,List.length_map,Int.toNat_natCast,zaj,zah,zaf,Option.map_some,Option.bind_some,Fld.av_cs,Par.av_cs,Dg.av_cs,Typ.av_cs,Qry.av_cs,Ex.av_cs,zad,AV.pure,za7,za5,za6,zab,za4,zac,zaa,za3,za2,za0,za1]
  unfold idxF
  refine .both (fun h=>.mk (by rw [if_pos h])) (fun h=>?_)
  rw [wi64 h3 hL,if_neg (by rw [h]; simp)]
  exact ih (i + 1) h2 (by omega)
theorem zrf (tg : Bool) (L : List Par) (hL : L.length ≤ 1000000) (s : List UInt8) : ∀ (r : List Par) (i : Nat),L.drop i = r→i ≤ L.length →
  Was (RL C 102 [0,5,0,0,5,2,3] (mkS 20 [(0,.val (.vs 3 tg (List.map Par.av L)) .no),(1,.val (.str s) .no),(5,.val (.int .i64 (i : Int)) .no)] [] Hp.none 0))
   (fun o=>o.v = .int .i64 (idxF (fun f : Par=>eqS f.name s) r i)):=by
 intro r
 induction r with
 | nil =>
  intro i hi hil
  have := zan _ _ hil hi
  refine exW (fun o=>p102_1) ?_
  simp only [Tr.val,List.length_map,Int.toNat_natCast,zaj,zah,zaf,Option.map_some,Option.bind_some,Fld.av_cs,Par.av_cs,Dg.av_cs,Typ.av_cs,Qry.av_cs,Ex.av_cs,zad,AV.pure,za7,za5,za6,zab,za4,zac,zaa,za3,za2,za0,za1]
  exact .bF (by omega) (.mk rfl)
 | cons f r ih =>
  intro i hi hil
  obtain ⟨h1,h2,h3⟩ := zay _ _ hi
  refine exW (fun o=>p102_1) ?_
  simp only [Tr.val,List.length_map,Int.toNat_natCast,zaj,zah,zaf,Option.map_some,Option.bind_some,Fld.av_cs,Par.av_cs,Dg.av_cs,Typ.av_cs,Qry.av_cs,Ex.av_cs,zad,AV.pure,za7,za5,za6,zab,za4,zac,zaa,za3,za2,za0,za1,h1]
  refine .bT (by omega) (.bT (by omega) (.bT (by omega) ?_))
  refine exW (fun o=>p102_2) ?_
  simp only [Tr.val,List.length_map,Int.toNat_natCast,zaj,zah,zaf,Option.map_some,Option.bind_some,Fld.av_cs,Par.av_cs,Dg.av_cs,Typ.av_cs,Qry.av_cs,Ex.av_cs,zad,AV.pure,za7,za5,za6,zab,za4,zac,zaa,za3,za2,za0,za1]
  unfold idxF
  refine .both (fun h=>.mk (by rw [if_pos h])) (fun h=>?_)
  rw [wi64 h3 hL,if_neg (by rw [h]; simp)]
  exact ih (i + 1) h2 (by omega)
include hC
theorem w94 (t : Typ) (hL : t.fields.length ≤ 1000000) (s : List UInt8) : Was (calL C 94 [.agg t.cs,.str s] Hp.none 0) (fun o=>o.v = fOut (fldF t.fields s)):=by
 refine exW (fun o=>p94_c hC) ?_
 refine exW (fun o=>p94_0) ?_
 simp only [Tr.val,List.length_map,Int.toNat_natCast,zaj,zah,zaf,Option.map_some,Option.bind_some,Fld.av_cs,Par.av_cs,Dg.av_cs,Typ.av_cs,Qry.av_cs,Ex.av_cs,zad,AV.pure,za7,za5,za6,zab,za4,zac,zaa,za3,za2,za0,za1]
 exact w94_loop _ t.fields hL s _ _ _ _ t.fields 0 rfl (Nat.zero_le _)
theorem w54 (t : Typ) (hL : t.fields.length ≤ 1000000) (s : List UInt8) : Was (calL C 54 [.agg t.cs,.str s] Hp.none 0) (fun o=>o.v = .int .i64 (idxF (fun f : Fld=>eqS f.name s) t.fields 0)):=by
 refine exW (fun o=>p54_c hC) ?_
 refine exW (fun o=>p54_0) ?_
 simp only [Tr.val,List.length_map,Int.toNat_natCast,zaj,zah,zaf,Option.map_some,Option.bind_some,Fld.av_cs,Par.av_cs,Dg.av_cs,Typ.av_cs,Qry.av_cs,Ex.av_cs,zad,AV.pure,za7,za5,za6,zab,za4,zac,zaa,za3,za2,za0,za1]
 exact w54_loop t hL s t.fields 0 rfl (Nat.zero_le _)
theorem w102 (tg : Bool) (l : List Par) (hL : l.length ≤ 1000000) (s : List UInt8) : Was (calL C 102 [.vs 3 tg (l.map Par.av),.str s] Hp.none 0) (fun o=>o.v = .int .i64 (idxF (fun f : Par=>eqS f.name s) l 0)):=by
 refine exW (fun o=>p102_c hC) ?_
 refine exW (fun o=>p102_0) ?_
 simp only [Tr.val,List.length_map,Int.toNat_natCast,zaj,zah,zaf,Option.map_some,Option.bind_some,Fld.av_cs,Par.av_cs,Dg.av_cs,Typ.av_cs,Qry.av_cs,Ex.av_cs,zad,AV.pure,za7,za5,za6,zab,za4,zac,zaa,za3,za2,za0,za1]
 exact zrf tg l hL s l 0 rfl (Nat.zero_le _)
theorem w99 (e : Ex) (err : Int) : Was (calL C 99 [.agg e.cs,.int .i64 err] Hp.none 0) (RT (oneD e err)):=by
 refine exW (fun o=>p99_c hC) (exW (fun o=>p99_0) ?_)
 exact .mk ⟨true,rfl⟩
theorem zr4 (w : Sc) (hF : w.t.fields.length ≤ 1000000) (tg : Bool) (L : List Par) (hL : L.length ≤ 1000000) (s z : List UInt8) (a b c : Int) : ∀ (r : List Par) (i : Nat),L.drop i = r→i ≤ L.length →
  Was (RL C 164 [0,5,0,0,5,2,3] (mkS 31 [(1,.val (.str s) .no),(2,.lp 2 0),(4,.lp 4 0),(9,.val (.vs 3 tg (List.map Par.av L)) .no),(10,.val (.int .i64 (L.length : Int)) .no),(11,.val (.int .i64 (i : Int)) .no)] [(2,⟨(Sc.cs w),[]⟩),(4,⟨[(.str z),(.int .i64 a),(.int .i64 b),(.int .i64 c)],[]⟩)] Hp.none 0))
   (fun o=>o.v = fOut (match parN r s with
    | some _=>none
    | none=>if w.q = true then fldF w.t.fields s else none)):=by
 intro r
 induction r with
 | nil =>
  intro i hi hil
  have := zan _ _ hil hi
  refine exW (fun o=>p164_1) ?_
  simp only [Tr.val,List.length_map,Int.toNat_natCast,zaj,zah,zaf,Option.map_some,Option.bind_some,Fld.av_cs,Par.av_cs,Dg.av_cs,Typ.av_cs,Qry.av_cs,Ex.av_cs,zad,AV.pure,za7,za5,za6,zab,za4,zac,zaa,za3,za2,za0,za1]
  refine .bF (by omega) ?_
  cases hq : w.q
  ·exact .mk rfl
  ·simp only [Bool.not_true,zam]
   refine .call (w94 hC w.t hF s) ?_
   rintro o e
   have hp : o.v.pure = true := by rw [e]; cases fldF w.t.fields s <;> rfl
   rw [hp,za1,e]
   rw [show parN [] s = none from rfl]
   simp only [if_true]
   cases fldF w.t.fields s with
   | none=>exact exW (fun o=>p164_3 (f_35 := fld0)) (.mk rfl)
   | some f=>exact exW (fun o=>p164_3) (.mk rfl)
 | cons f r ih =>
  intro i hi hil
  obtain ⟨h1,h2,h3⟩ := zay _ _ hi
  refine exW (fun o=>p164_1) ?_
  simp only [Tr.val,List.length_map,Int.toNat_natCast,zaj,zah,zaf,Option.map_some,Option.bind_some,Fld.av_cs,Par.av_cs,Dg.av_cs,Typ.av_cs,Qry.av_cs,Ex.av_cs,zad,AV.pure,za7,za5,za6,zab,za4,zac,zaa,za3,za2,za0,za1,h1]
  refine .bT (by omega) (.bT (by omega) (.bT (by omega) ?_))
  refine exW (fun o=>p164_2) ?_
  simp only [Tr.val,List.length_map,Int.toNat_natCast,zaj,zah,zaf,Option.map_some,Option.bind_some,Fld.av_cs,Par.av_cs,Dg.av_cs,Typ.av_cs,Qry.av_cs,Ex.av_cs,zad,AV.pure,za7,za5,za6,zab,za4,zac,zaa,za3,za2,za0,za1]
  unfold parN
  rw [List.find?_cons]
  refine .both (fun h=>.mk (by rw [h]; rfl)) (fun h=>?_)
  rw [wi64 h3 hL,h]
  exact ih (i + 1) h2 (by omega)
theorem w164 (w : Sc) (hF : w.t.fields.length ≤ 1000000) (hL : w.ps.length ≤ 1000000) (s : List UInt8) : Was (calL C 164 [.agg w.cs,.str s] Hp.none 0) (fun o=>o.v = fOut (denF w s)):=by
 refine exW (fun o=>p164_c hC) ?_
 refine exW (fun o=>p164_0) ?_
 simp only [Tr.val,List.length_map,Int.toNat_natCast,zaj,zah,zaf,Option.map_some,Option.bind_some,Fld.av_cs,Par.av_cs,Dg.av_cs,Typ.av_cs,Qry.av_cs,Ex.av_cs,zad,AV.pure,za7,za5,za6,zab,za4,zac,zaa,za3,za2,za0,za1]
 exact zr4 hC w hF w.tg w.ps hL s _ _ _ _ w.ps 0 rfl (Nat.zero_le _)
end Go.Proofs.YtfdklpkfpmkgeaaGreatDoor
end
section
namespace Go.Proofs.YtfdklpkfpmkgeaaGreatDoor
open Go Go.Vai
attribute [local irreducible] goTo zas mkS
def resF (s : List UInt8) (x y : Int) : Int :=
 if eqS s [43] = true then (if x = 1∧y = 1 then 1 else 0) else if eqS s [45] = true then (if x = 1∧y = 1 then 1 else 0) else if eqS s [42] = true then (if x = 1∧y = 1 then 1 else 0)
 else if eqS s [33] = true then (if x = 3∧y = 3 then 3 else 0) else if eqS s [38,38] = true then (if x = 3∧y = 3 then 3 else 0) else if eqS s [124,124] = true then (if x = 3∧y = 3 then 3 else 0)
 else if eqS s [61,61] = true then (if x = y then 3 else 0) else if eqS s [33,61] = true then (if x = y then 3 else 0)
 else if eqS s [60] = true then (if x = y∧¬ (x = 3∧y = 3) then 3 else 0) else if eqS s [60,61] = true then (if x = y∧¬ (x = 3∧y = 3) then 3 else 0)
 else if eqS s [62] = true then (if x = y∧¬ (x = 3∧y = 3) then 3 else 0) else if eqS s [62,61] = true then (if x = y∧¬ (x = 3∧y = 3) then 3 else 0) else 0
def opT (e : Ex) (ds : List Dg) (n : Int) : Int × List Dg := if ds = [] then (if n = 0 then oneD e 12 else (n,[])) else (0,ds)
def zhw (w : Sc) (x : Ex) : Bool := decide (x.kind = 4) && (match denF w x.s with
 | some f=>decide (f.kind = 4)
 | none=>false)
def hasT (w : Sc) (e x : Ex) (a b : Int × List Dg) : Int × List Dg :=
 if w.q = false then oneD e 10 else
  let given := !zhw w x && decide (a.2 = [])
  let l := (if zhw w x = true then [] else if a.2 = [] then [⟨e.at_,12⟩] else a.2) ++ b.2
  let l2 := if given = false∧b.2 = []∧b.1 ≠ 2 then l ++ [⟨e.at_,12⟩] else l
  if l2 = [] then (3,[]) else (0,l2)
def zt0 (w : Sc) (e : Ex) : Int × List Dg := if e.kind = 1 then (1,[]) else if e.kind = 2 then (2,[]) else if e.kind = 3 then (3,[]) else if e.kind = 4 then zqk w e else zqf w e
def wHas : List UInt8 := [104,97,115]
def tyE (w : Sc) : Ex→Int × List Dg
 | .mk k n s tg [] a=>zt0 w (.mk k n s tg [] a)
 | .mk k n s tg [x] a=>opT (.mk k n s tg [x] a) (tyE w x).2 (resF s (tyE w x).1 (tyE w x).1)
 | .mk k n s tg [x,y] a=>if s = wHas then hasT w (.mk k n s tg [x,y] a) x (tyE w x) (tyE w y) else opT (.mk k n s tg [x,y] a) ((tyE w x).2 ++ (tyE w y).2) (resF s (tyE w x).1 (tyE w y).1)
 | .mk _ _ _ _ (_ :: _ :: _ :: _) _=>(0,[])
mutual
def Ex.sz : Ex→Nat
 | .mk _ _ _ _ l _=>1 + szE l
def szE : List Ex→Nat
 | []=>0
 | e :: l=>e.sz + szE l
end
def binW : List (List UInt8) := [[124,124],[38,38],[61,61],[33,61],[60],[60,61],[62],[62,61],[104,97,115],[43],[45],[42]]
inductive WfE : Ex→Prop where
 | leaf (k n : Int) (s : List UInt8) (tg : Bool) (a : Int) (h1 : 1 ≤ k) (h5 : k ≤ 5) : WfE (.mk k n s tg [] a)
 | un (n : Int) (s : List UInt8) (tg : Bool) (a : Int) (x : Ex) (hs : s = [45] ∨ s = [33]) (hx : WfE x) : WfE (.mk 6 n s tg [x] a)
 | bin (n : Int) (s : List UInt8) (tg : Bool) (a : Int) (x y : Ex) (hs : s ∈ binW) (hx : WfE x) (hy : WfE y) : WfE (.mk 7 n s tg [x,y] a)
theorem zrc (e : Ex) (ds : List Dg) (n : Int) : (opT e ds n).2.length ≤ ds.length + 1:=by
 unfold opT oneD
 split
 ·split <;> simp
 ·simp
theorem zrz (w : Sc) (e : Ex) : (zqk w e).2.length ≤ 1:=by
 unfold zqk
 repeat' split
 all_goals simp [oneD]
theorem zr0 (w : Sc) (e : Ex) : (zqf w e).2.length ≤ 1:=by
 unfold zqf
 repeat' split
 all_goals simp [oneD]
theorem zrr (w : Sc) (e : Ex) : (zt0 w e).2.length ≤ 1:=by
 unfold zt0
 repeat' split
 all_goals first | exact zrz _ _ | exact zr0 _ _ | simp
theorem hasT_len (w : Sc) (e x : Ex) (a b : Int × List Dg) : (hasT w e x a b).2.length ≤ a.2.length + b.2.length + 1:=by
 unfold hasT
 split
 ·simp [oneD]
 ·cases h1 : zhw w x <;> by_cases h2 : a.2 = [] <;> by_cases h3 : b.2 = [] <;> by_cases h4 : b.1 = 2 <;> simp [h2,h3,h4] <;> omega
theorem zei (w : Sc) : ∀ e : Ex,(tyE w e).2.length ≤ e.sz
 | .mk k n s tg [] a=>by rw [tyE]; have := zrr w (.mk k n s tg [] a); simp only [Ex.sz]; omega
 | .mk k n s tg [x] a=>by have := zei w x; rw [tyE]; have := zrc (.mk k n s tg [x] a) (tyE w x).2 (resF s (tyE w x).1 (tyE w x).1); simp only [Ex.sz,szE]; omega
 | .mk k n s tg [x,y] a=>by
  have := zei w x
  have := zei w y
  rw [tyE]
  simp only [Ex.sz,szE]
  split
  ·have := hasT_len w (.mk k n s tg [x,y] a) x (tyE w x) (tyE w y); omega
  ·have := zrc (.mk k n s tg [x,y] a) ((tyE w x).2 ++ (tyE w y).2) (resF s (tyE w x).1 (tyE w y).1); rw [List.length_append] at this; omega
 | .mk _ _ _ _ (_ :: _ :: _ :: _) _=>by rw [tyE]; simp
end Go.Proofs.YtfdklpkfpmkgeaaGreatDoor
end
section
namespace Go.Proofs.YtfdklpkfpmkgeaaGreatDoor
open Go Go.Vai
attribute [local irreducible] goTo zas mkS
variable {C : Nat→Oracle} (hC : Ext C)
set_option maxHeartbeats 4000000 in
include hC in
theorem w101 (s : List UInt8) (tg : Bool) (l : List AV) (x y : Int) (hl : (l = [.int .i64 x]∧x = y) ∨ l = [.int .i64 x,.int .i64 y]) : Was (calL C 101 [.str s,.vs 1 tg l] Hp.none 0) (fun o=>o.v = .int .i64 (resF s x y)):=by
 have e0 : nth l 0 = some (.int .i64 x) := by rcases hl with ⟨rfl,_⟩ | rfl <;> rfl
 have hlen : 1 ≤ l.length∧l.length ≤ 2 := by rcases hl with ⟨rfl,_⟩ | rfl <;> simp
 have e1 : nth l (Int.toNat ((l.length : Int) - 1)) = some (.int .i64 y) := by rcases hl with ⟨rfl,h⟩ | rfl; (subst h; rfl); rfl
 refine exW (fun o=>p101_c hC) ?_
 refine exW (fun o=>p101_0) ?_
 simp only [Tr.val,List.length_map,Int.toNat_natCast,zaj,zah,zaf,Option.map_some,Option.bind_some,Fld.av_cs,Par.av_cs,Dg.av_cs,Typ.av_cs,Qry.av_cs,Ex.av_cs,zad,AV.pure,za7,za5,za6,zab,za4,zac,zaa,za3,za2,za0,za1,e0]
 refine .bT (by omega) ?_
 refine exW (fun o=>p101_1) ?_
 simp only [Tr.val,List.length_map,Int.toNat_natCast,zaj,zah,zaf,Option.map_some,Option.bind_some,Fld.av_cs,Par.av_cs,Dg.av_cs,Typ.av_cs,Qry.av_cs,Ex.av_cs,zad,AV.pure,za7,za5,za6,zab,za4,zac,zaa,za3,za2,za0,za1]
 rw [zaz (by omega) (by omega),e1]
 simp only [Option.bind_some]
 refine .bT (by omega) (.bT (by omega) ?_)
 refine exW (fun o=>p101_2) ?_
 simp only [Tr.val,resF]
 repeat' (first | refine .dec (fun h=>?_) (fun h=>?_) | refine .ndec (fun h=>?_) (fun h=>?_) | (refine .both (fun h=>?_) (fun h=>?_) <;> simp only [h,if_true,Bool.false_eq_true,if_false]))
 all_goals
  refine .mk (congrArg (AV.int .i64) ?_)
  first | rfl | omega | (split <;> omega)
include hC
theorem w97_loop (w : Sc) (hF : w.t.fields.length ≤ 1000000) (hP : w.ps.length ≤ 1000000) (e : Ex) (tg : Bool) (L : List Par) (hL : L.length ≤ 1000000) : ∀ (r : List Par) (i : Nat),L.drop i = r→i ≤ L.length →
  Was (RL C 97 [0,5,0,0,5,2,3] (mkS 53 [(2,.lp 2 0),(3,.lp 3 0),(11,.val (.vs 3 tg (List.map Par.av L)) .no),(12,.val (.int .i64 (L.length : Int)) .no),(13,.val (.int .i64 (i : Int)) .no)] [(2,⟨(Sc.cs w),[]⟩),(3,⟨(Ex.cs e),[]⟩)] Hp.none 0))
   (RT (match parN r e.s with
    | some p=>(p.type,[])
    | none=>match denF w e.s with
     | none=>oneD e 6
     | some f=>if f.kind = 1 then (f.type,[]) else if f.kind = 2 then (1,[]) else if f.kind = 3 then (1,[]) else if f.kind = 5 then (3,[]) else oneD e 12)):=by
 intro r
 induction r with
 | nil =>
  intro i hi hil
  have := zan _ _ hil hi
  refine exW (fun o=>p97_1) ?_
  simp only [Tr.val,List.length_map,Int.toNat_natCast,zaj,zah,zaf,Option.map_some,Option.bind_some,Fld.av_cs,Par.av_cs,Dg.av_cs,Typ.av_cs,Qry.av_cs,Ex.av_cs,zad,AV.pure,za7,za5,za6,zab,za4,zac,zaa,za3,za2,za0,za1]
  refine .bF (by omega) ?_
  refine .call (w164 hC w hF hP e.s) ?_
  rintro o e1
  have hp : o.v.pure = true := by rw [e1]; cases denF w e.s <;> rfl
  rw [hp,za1,e1]
  clear e1 hp
  have e2 : parN [] e.s = none := rfl
  rw [e2]
  cases denF w e.s with
  | none =>
   refine exW (fun o=>p97_3 (f_46 := fld0)) ?_
   simp only [Tr.val,List.length_map,Int.toNat_natCast,zaj,zah,zaf,Option.map_some,Option.bind_some,Fld.av_cs,Par.av_cs,Dg.av_cs,Typ.av_cs,Qry.av_cs,Ex.av_cs,zad]
   simp only [AV.pure,za7,za5,za6,zab,za4,zac,zaa,za3,za2,za0,za1]
   simp only [Bool.not_false,za1]
   refine .call (w99 hC e 6) ?_
   rintro o ⟨tg',e⟩
   simp only [e,AV.pure,za7,za5,za6,zab,za4,zac,zaa,za3,za2,za0,za1]
   clear e
   refine exW (fun o=>p97_4) ?_
   exact .mk ⟨_,rfl⟩
  | some f =>
   refine exW (fun o=>p97_3) ?_
   simp only [Tr.val,List.length_map,Int.toNat_natCast,zaj,zah,zaf,Option.map_some,Option.bind_some,Fld.av_cs,Par.av_cs,Dg.av_cs,Typ.av_cs,Qry.av_cs,Ex.av_cs,zad,AV.pure,za7,za5,za6,zab,za4,zac,zaa,za3,za2,za0,za1]
   simp only [Bool.not_true,zam]
   refine .dec (fun h=>?_) (fun h=>?_)
   ·rw [if_pos h]; exact .mk ⟨_,rfl⟩
   rw [if_neg h]
   refine .dec (fun h=>?_) (fun h=>?_)
   ·rw [if_pos h]; exact .mk ⟨_,rfl⟩
   rw [if_neg h]
   refine .dec (fun h=>?_) (fun h=>?_)
   ·rw [if_pos h]; exact .mk ⟨_,rfl⟩
   rw [if_neg h]
   refine .dec (fun h=>?_) (fun h=>?_)
   ·rw [if_pos h]; exact .mk ⟨_,rfl⟩
   rw [if_neg h]
   refine .call (w99 hC e 12) ?_
   rintro o ⟨tg',e⟩
   simp only [e,AV.pure,za7,za5,za6,zab,za4,zac,zaa,za3,za2,za0,za1]
   clear e
   refine exW (fun o=>p97_5) ?_
   exact .mk ⟨_,rfl⟩
 | cons f r ih =>
  intro i hi hil
  obtain ⟨h1,h2,h3⟩ := zay _ _ hi
  refine exW (fun o=>p97_1) ?_
  simp only [Tr.val,List.length_map,Int.toNat_natCast,zaj,zah,zaf,Option.map_some,Option.bind_some,Fld.av_cs,Par.av_cs,Dg.av_cs,Typ.av_cs,Qry.av_cs,Ex.av_cs,zad,AV.pure,za7,za5,za6,zab,za4,zac,zaa,za3,za2,za0,za1,h1]
  refine .bT (by omega) (.bT (by omega) (.bT (by omega) ?_))
  refine exW (fun o=>p97_2) ?_
  simp only [Tr.val,List.length_map,Int.toNat_natCast,zaj,zah,zaf,Option.map_some,Option.bind_some,Fld.av_cs,Par.av_cs,Dg.av_cs,Typ.av_cs,Qry.av_cs,Ex.av_cs,zad,AV.pure,za7,za5,za6,zab,za4,zac,zaa,za3,za2,za0,za1]
  unfold parN
  rw [List.find?_cons]
  refine .both (fun h=>.mk (by rw [h]; exact ⟨_,rfl⟩)) (fun h=>?_)
  rw [wi64 h3 hL,h]
  exact ih (i + 1) h2 (by omega)
theorem w97 (w : Sc) (hF : w.t.fields.length ≤ 1000000) (hP : w.ps.length ≤ 1000000) (e : Ex) : Was (calL C 97 [.agg w.cs,.agg e.cs] Hp.none 0) (RT (zqk w e)):=by
 refine exW (fun o=>p97_c hC) ?_
 refine exW (fun o=>p97_0) ?_
 simp only [Tr.val,List.length_map,Int.toNat_natCast,zaj,zah,zaf,Option.map_some,Option.bind_some,Fld.av_cs,Par.av_cs,Dg.av_cs,Typ.av_cs,Qry.av_cs,Ex.av_cs,zad,AV.pure,za7,za5,za6,zab,za4,zac,zaa,za3,za2,za0,za1]
 exact w97_loop hC w hF hP e w.tg w.ps hP w.ps 0 rfl (Nat.zero_le _)
theorem w98 (w : Sc) (hF : w.t.fields.length ≤ 1000000) (e : Ex) : Was (calL C 98 [.agg w.cs,.agg e.cs] Hp.none 0) (RT (zqf w e)):=by
 refine exW (fun o=>p98_c hC) ?_
 refine exW (fun o=>p98_0) ?_
 simp only [Tr.val,List.length_map,Int.toNat_natCast,zaj,zah,zaf,Option.map_some,Option.bind_some,Fld.av_cs,Par.av_cs,Dg.av_cs,Typ.av_cs,Qry.av_cs,Ex.av_cs,zad,AV.pure,za7,za5,za6,zab,za4,zac,zaa,za3,za2,za0,za1]
 refine .call (w94 hC w.t hF e.s) ?_
 rintro o e1
 have hp : o.v.pure = true := by rw [e1]; cases fldF w.t.fields e.s <;> rfl
 rw [hp,za1,e1]
 clear e1 hp
 unfold zqf
 have h0 : ∀ (f : Fld) (c : Bool),(c = false→fldF w.t.fields e.s = none)→(c = true→fldF w.t.fields e.s = some f)→Was (ML C 98 [0,5,0] 5 (mkS 39 [(2,.lp 2 0),(3,.lp 3 0),(9,.lp 2 0),(10,.val (.agg (Typ.cs w.t)) .no),(11,.lp 3 2),(12,.val (.str e.s) .no),(13,.val (.tuple [(.agg (Fld.cs f)),(.bool c)]) .no)] [(2,⟨(Sc.cs w),[]⟩),(3,⟨(Ex.cs e),[]⟩)] Hp.none 0)) (RT (if w.q = false then oneD e 10 else match fldF w.t.fields e.s with
  | none=>oneD e 6
  | some f=>if f.kind = 4 then (1,[]) else oneD e 12)):=by
  intro f c c0 c1
  refine exW (fun o=>p98_1) ?_
  simp only [Tr.val,List.length_map,Int.toNat_natCast,zaj,zah,zaf,Option.map_some,Option.bind_some,Fld.av_cs,Par.av_cs,Dg.av_cs,Typ.av_cs,Qry.av_cs,Ex.av_cs,zad,AV.pure,za7,za5,za6,zab,za4,zac,zaa,za3,za2,za0,za1]
  cases hq : w.q
  ·simp only [Bool.not_false,za1,if_true]
   refine .call (w99 hC e 10) ?_
   rintro o ⟨tg',e⟩
   simp only [e,AV.pure,za7,za5,za6,zab,za4,zac,zaa,za3,za2,za0,za1]
   clear e
   refine exW (fun o=>p98_2) ?_
   exact .mk ⟨_,rfl⟩
  simp only [Bool.not_true,zam,Bool.true_eq_false,if_false]
  cases c
  ·rw [c0 rfl]
   simp only [Bool.not_false,za1]
   refine .call (w99 hC e 6) ?_
   rintro o ⟨tg',e⟩
   simp only [e,AV.pure,za7,za5,za6,zab,za4,zac,zaa,za3,za2,za0,za1]
   clear e
   refine exW (fun o=>p98_3) ?_
   exact .mk ⟨_,rfl⟩
  rw [c1 rfl]
  simp only [Bool.not_true,zam]
  by_cases h4 : f.kind = 4
  ·rw [decide_eq_true h4,if_pos h4]
   exact .mk ⟨_,rfl⟩
  rw [decide_eq_false h4,if_neg h4]
  simp only [Bool.not_false,za1]
  refine .call (w99 hC e 12) ?_
  rintro o ⟨tg',e⟩
  simp only [e,AV.pure,za7,za5,za6,zab,za4,zac,zaa,za3,za2,za0,za1]
  clear e
  refine exW (fun o=>p98_4) ?_
  exact .mk ⟨_,rfl⟩
 cases hf : fldF w.t.fields e.s with
 | none=>rw [hf] at h0; exact h0 fld0 false (fun _=>rfl) (fun h=>by cases h)
 | some f=>rw [hf] at h0; exact h0 f true (fun h=>by cases h) (fun _=>rfl)
end Go.Proofs.YtfdklpkfpmkgeaaGreatDoor
end
section
namespace Go.Proofs.YtfdklpkfpmkgeaaGreatDoor
open Go Go.Vai
attribute [local irreducible] goTo zas mkS
variable {C : Nat→Oracle} (hC : Ext C)
theorem zsp {l : List Dg} (L : List AV) (hL : L = l.map Dg.av) (tg : Bool) : Was (Vai.br (decide (0 < ((L.length : Nat) : Int))) (some ⟨.tuple [.int .i64 0,.vs 2 tg L],Hp.none,0⟩) (some ⟨.tuple [.int .i64 3,.vs 2 true []],Hp.none,0⟩)) (RT (if l = [] then (3,[]) else (0,l))):=by
 subst hL
 rw [List.length_map]
 cases l with
 | nil=>exact .bF (by simp) (.mk ⟨_,rfl⟩)
 | cons d l=>exact .bT (by simp only [List.length_cons]; omega) (.mk ⟨_,rfl⟩)
set_option maxHeartbeats 4000000 in
include hC in
theorem w100 (w : Sc) (hF : w.t.fields.length ≤ 1000000) (hP : w.ps.length ≤ 1000000) (k n : Int) (s : List UInt8) (tg : Bool) (x y : Ex) (at' : Int) (a b : Int × List Dg) (ha : a.2.length ≤ 1000000) (hb : b.2.length ≤ 1000000)
  (wx : Was (calL C 52 [.agg w.cs,.agg x.cs] Hp.none 0) (RT a)) (wy : Was (calL C 52 [.agg w.cs,.agg y.cs] Hp.none 0) (RT b)) :
  Was (calL C 100 [.agg w.cs,.agg (Ex.mk k n s tg [x,y] at').cs] Hp.none 0) (RT (hasT w (.mk k n s tg [x,y] at') x a b)):=by
 generalize he : Ex.mk k n s tg [x,y] at' = e
 have hl : e.l = [x,y] := by rw [← he]; rfl
 have n0 : nth (exs e.l) 0 = some (.agg x.cs) := by rw [hl,zah]; simp [x.av_cs]
 have n1 : nth (exs e.l) 1 = some (.agg y.cs) := by rw [hl,zah]; simp [y.av_cs]
 have hll : e.l.length = 2 := by rw [hl]; rfl
 refine exW (fun o=>p100_c hC) ?_
 refine exW (fun o=>p100_0) ?_
 unfold hasT
 cases hq : w.q
 ·simp only [Tr.val,Bool.not_false,za1,if_true]
  simp only [AV.pure,za7,za5,za6,zab,za4,zac,zaa,za3,za2,za0,za1]
  refine .call (w99 hC e 10) ?_
  rintro o ⟨tg',e⟩
  simp only [e,AV.pure,za7,za5,za6,zab,za4,zac,zaa,za3,za2,za0,za1]
  clear e
  refine exW (fun o=>p100_1) ?_
  exact .mk ⟨_,rfl⟩
 simp only [Tr.val,Bool.not_true,zam,Bool.true_eq_false,if_false,zaf,n0,Option.bind_some,zad]
 refine .bT (by omega) ?_
 refine exW (fun o=>p100_2) ?_
 simp only [Tr.val,List.length_map,Int.toNat_natCast,zaj,zah,zaf,Option.map_some,Option.bind_some,Fld.av_cs,Par.av_cs,Dg.av_cs,Typ.av_cs,Qry.av_cs,Ex.av_cs,zad,AV.pure,za7,za5,za6,zab,za4,zac,zaa,za3,za2,za0,za1]
 refine .call (w164 hC w hF hP x.s) ?_
 rintro o e1
 have hp : o.v.pure = true := by rw [e1]; cases denF w x.s <;> rfl
 rw [hp,za1,za1,e1]
 clear e1 hp
 obtain ⟨f,c,hfc,hc⟩ : ∃ f c,fOut (denF w x.s) = .tuple [.agg (Fld.cs f),.bool c]∧denF w x.s = (if c = true then some f else none):=by
  cases denF w x.s with
  | none=>exact ⟨fld0,false,rfl,rfl⟩
  | some f=>exact ⟨f,true,rfl,rfl⟩
 rw [hfc]
 have hset : zhw w x = (decide (x.kind = 4) && (c && decide (f.kind = 4))):=by
  unfold zhw
  rw [hc]
  cases c <;> simp
 rw [hset]
 refine exW (fun o=>p100_3) ?_
 simp only [Tr.val,zaf,n0,Option.bind_some,zad]
 refine .bT (by omega) ?_
 refine exW (fun o=>p100_4) ?_
 simp only [Tr.val,zaf,n0,n1,Option.bind_some,zad]
 have noset : Was (ML C 100 [0,5,0,0,5,7,5,0,5,0,5,0,0,5,0,5,6,0] 4 (mkS 93 [(2,.lp 2 0),(3,.lp 3 0),(6,.val (.vs 2 true []) .own),(7,.val (.bool false) .no),(43,.val (.bool true) .no),(45,.val (.agg (Sc.cs w)) .no),(46,.lp 3 3),(47,.val (.vs 5 e.tg (exs e.l)) .no),(48,.val (.cptr (Ex.cs x)) .no)] [(2,⟨(Sc.cs w),[]⟩),(3,⟨(Ex.cs e),[]⟩)] Hp.none 0))
   (RT (let l := (if a.2 = [] then [⟨e.at_,12⟩] else a.2) ++ b.2
    let l2 := if decide (a.2 = []) = false∧b.2 = []∧b.1 ≠ 2 then l ++ [⟨e.at_,12⟩] else l
    if l2 = [] then (3,[]) else (0,l2))):=by
  refine exW (fun o=>p100_5) ?_
  simp only [Tr.val,List.length_map,Int.toNat_natCast,zaj,zah,zaf,Option.map_some,Option.bind_some,Fld.av_cs,Par.av_cs,Dg.av_cs,Typ.av_cs,Qry.av_cs,Ex.av_cs,zad,AV.pure,za7,za5,za6,zab,za4,zac,zaa,za3,za2,za0,za1]
  refine .call wx ?_
  rintro o ⟨tga,e1⟩
  simp only [AV.pure,za7,za5,za6,zab,za4,zac,zaa,za3,za2,za0,za1,e1]
  clear e1
  refine exW (fun o=>p100_7) ?_
  simp only [Tr.val,zaf,n1,Option.bind_some,zad]
  simp only [AV.pure,za7,za5,za6,zab,za4,zac,zaa,za3,za2,za0,za1]
  obtain ⟨a1,a2⟩ := a
  obtain ⟨b1,b2⟩ := b
  simp only at ha hb ⊢
  cases a2 with
  | nil =>
   refine .bT (by simp) (.bT (by omega) ?_)
   refine exW (fun o=>p100_9) ?_
   simp only [Tr.val,List.length_map,Int.toNat_natCast,zaj,zah,zaf,Option.map_some,Option.bind_some,Fld.av_cs,Par.av_cs,Dg.av_cs,Typ.av_cs,Qry.av_cs,Ex.av_cs,zad,AV.pure,za7,za5,za6,zab,za4,zac,zaa,za3,za2,za0,za1]
   refine .call wy ?_
   rintro o ⟨tgb,e1⟩
   simp only [AV.pure,za7,za5,za6,zab,za4,zac,zaa,za3,za2,za0,za1,e1]
   clear e1
   refine exW (fun o=>p100_11) ?_
   simp only [Tr.val,List.length_map,Int.toNat_natCast,zaj,zah,zaf,Option.map_some,Option.bind_some,Fld.av_cs,Par.av_cs,Dg.av_cs,Typ.av_cs,Qry.av_cs,Ex.av_cs,zad,AV.pure,za7,za5,za6,zab,za4,zac,zaa,za3,za2,za0,za1]
   refine .bL (by unfold za9; omega) (.bL (by unfold za9; omega) ?_)
   simp only [if_true,decide_true,Bool.true_eq_false,false_and,if_false]
   exact zsp (l := ⟨e.at_,12⟩ :: b2) _ rfl _
  | cons d a2 =>
   refine .bF (by simp only [List.length_map,List.length_cons]; omega) (.bT (by omega) ?_)
   refine exW (fun o=>p100_10) ?_
   simp only [Tr.val,List.length_map,Int.toNat_natCast,zaj,zah,zaf,Option.map_some,Option.bind_some,Fld.av_cs,Par.av_cs,Dg.av_cs,Typ.av_cs,Qry.av_cs,Ex.av_cs,zad,AV.pure,za7,za5,za6,zab,za4,zac,zaa,za3,za2,za0,za1]
   refine .call wy ?_
   rintro o ⟨tgb,e1⟩
   simp only [AV.pure,za7,za5,za6,zab,za4,zac,zaa,za3,za2,za0,za1,e1]
   clear e1
   refine exW (fun o=>p100_12) ?_
   simp only [Tr.val,List.length_map,List.length_append,List.length_singleton]
   simp only [AV.pure,za7,za5,za6,zab,za4,zac,zaa,za3,za2,za0,za1]
   refine .bL (by unfold za9; omega) (.bL (by unfold za9; omega) ?_)
   simp only [reduceCtorEq,if_false,decide_false,true_and]
   cases b2 with
   | nil =>
    refine .bT (by simp) ?_
    by_cases h2 : b1 = 2
    ·subst h2
     simp only [decide_true,Bool.not_true,zam,ne_eq,not_true,if_false]
     refine .bT (by simp only [List.length_cons]; omega) (.mk ⟨false,?_⟩)
     simp [Dg.av]
    ·rw [decide_eq_false h2]
     simp only [Bool.not_false,za1,ne_eq,h2,not_false_eq_true,and_self,if_true]
     refine .bL (by unfold za9; simp only [List.length_nil]; omega) (.bL (by unfold za9; simp only [List.length_nil]; omega) ?_)
     refine .bT (by simp only [List.length_cons]; omega) (.mk ⟨false,?_⟩)
     simp [Dg.av,Dg.cs]
   | cons d' b2 =>
    refine .bF (by simp only [List.length_cons]; omega) ?_
    simp only [reduceCtorEq,false_and,if_false]
    refine .bT (by simp only [List.length_cons]; omega) (.mk ⟨false,?_⟩)
    simp [Dg.av]
 by_cases k4 : ¬ x.kind = 4
 ·rw [decide_eq_false k4]
  simp only [Bool.not_false,za1,Bool.false_and,Bool.false_eq_true,if_false,Bool.true_and]
  refine .bT (by omega) ?_
  exact noset
 have k4 := Decidable.of_not_not k4
 rw [decide_eq_true k4]
 cases c
 ·simp only [Bool.not_true,Bool.not_false,za1,zam,Bool.true_and,Bool.false_and,Bool.false_eq_true,if_false]
  refine .bT (by omega) ?_
  exact noset
 by_cases f4 : ¬ f.kind = 4
 ·rw [decide_eq_false f4]
  simp only [Bool.not_true,Bool.not_false,za1,zam,Bool.true_and,Bool.and_false,Bool.false_eq_true,if_false]
  refine .bT (by omega) ?_
  exact noset
 clear noset
 have f4 := Decidable.of_not_not f4
 rw [decide_eq_true f4]
 simp only [Bool.not_true,zam,Bool.true_and,Bool.and_true,Bool.false_and,if_true,List.nil_append,true_and]
 refine .bT (by omega) ?_
 refine exW (fun o=>p100_6) ?_
 simp only [Tr.val,List.length_map,Int.toNat_natCast,zaj,zah,zaf,Option.map_some,Option.bind_some,Fld.av_cs,Par.av_cs,Dg.av_cs,Typ.av_cs,Qry.av_cs,Ex.av_cs,zad,AV.pure,za7,za5,za6,zab,za4,zac,zaa,za3,za2,za0,za1]
 refine .call wy ?_
 rintro o ⟨tgb,e1⟩
 simp only [AV.pure,za7,za5,za6,zab,za4,zac,zaa,za3,za2,za0,za1,e1]
 clear e1
 obtain ⟨b1,b2⟩ := b
 simp only at hb ⊢
 refine exW (fun o=>p100_8) ?_
 simp only [Tr.val,List.length_map,List.length_append,List.length_singleton,List.nil_append]
 simp only [AV.pure,za7,za5,za6,zab,za4,zac,zaa,za3,za2,za0,za1]
 refine .bL (by unfold za9; omega) (.bL (by unfold za9; omega) ?_)
 cases b2 with
 | nil =>
  refine .bT (by simp) ?_
  by_cases h2 : b1 = 2
  ·subst h2
   simp only [decide_true,Bool.not_true,zam,ne_eq,not_true,and_false,if_false]
   refine .bF (by simp) (.mk ⟨true,?_⟩)
   simp
  ·rw [decide_eq_false h2]
   simp only [Bool.not_false,za1,ne_eq,h2,not_false_eq_true,and_self,if_true]
   refine .bL (by unfold za9; simp only [List.length_nil]; omega) (.bL (by unfold za9; simp only [List.length_nil]; omega) ?_)
   refine .bT (by simp) (.mk ⟨false,?_⟩)
   simp [Dg.av,Dg.cs]
 | cons d' b2 =>
  refine .bF (by simp only [List.length_cons]; omega) ?_
  simp only [reduceCtorEq,false_and,if_false]
  refine .bT (by simp only [List.length_cons]; omega) (.mk ⟨false,?_⟩)
  simp [Dg.av]
end Go.Proofs.YtfdklpkfpmkgeaaGreatDoor
end
section
namespace Go.Proofs.YtfdklpkfpmkgeaaGreatDoor
open Go Go.Vai
attribute [local irreducible] goTo zas mkS
abbrev p52L : List Nat := [0,5,0,0,5,2,0,5,7,0,5,7,0,5,7,0,5,7,0,5,7,5,5,0,0,5,0,5,7,5,0,0,5,7,5,0,5,0,5,0,0,5,2,3]
abbrev s52 (w : Sc) (e : Ex) (t1 : Bool) (T : List AV) (t2 : Bool) (D : List AV) (tg : Bool) (L : List Ex) (i : Int) : St := mkSM 103 [(2,.lp 2 0),(3,.lp 3 0),(7,.val (.vs 1 t1 T) .own),(8,.val (.vs 2 t2 D) .own),(68,.val (.vs 5 tg (exs L)) .no),(69,.val (.int .i64 (L.length : Int)) .no),(70,.val (.int .i64 i) .no)] [(2,⟨(Sc.cs w),[]⟩),(3,⟨(Ex.cs e),[]⟩)] Hp.none 0 [(36,[((.int .i64 (6)),(.int .i64 (1))),((.int .i64 (7)),(.int .i64 (2)))])]
variable {C : Nat→Oracle} (hC : Ext C)
theorem zlk (w : Sc) (e : Ex) (t1 : Bool) (T : List AV) (t2 : Bool) (D : List AV) (tg : Bool) (L : List Ex) (i : Nat) (x : Ex) (r : Int × List Dg) (hi : L[i]? = some x) (hL : L.length ≤ 1000) (hT : T.length ≤ 1000) (hD : D.length + r.2.length ≤ 1000000000)
  (wx : Was (calL C 52 [.agg w.cs,.agg x.cs] Hp.none 0) (RT r)) {Q : Out→Prop}
  (go : Was (RL C 52 p52L (s52 w e false (T ++ [.int .i64 r.1]) false (D ++ r.2.map Dg.av) tg L ((i + 1 : Nat) : Int))) Q) : Was (RL C 52 p52L (s52 w e t1 T t2 D tg L (i : Int))) Q:=by
 have h3 : i < L.length := (List.getElem?_eq_some_iff.1 hi).1
 refine exW (fun o=>p52_5) ?_
 simp only [Tr.val,zaf,Int.toNat_natCast,zah,hi,Option.map_some,Option.bind_some,x.av_cs,zad]
 refine .bT (by omega) (.bT (by omega) (.bT (by omega) ?_))
 refine exW (fun o=>p52_6) ?_
 simp only [Tr.val,List.length_map,Int.toNat_natCast,zaj,zah,zaf,Option.map_some,Option.bind_some,Fld.av_cs,Par.av_cs,Dg.av_cs,Typ.av_cs,Qry.av_cs,Ex.av_cs,zad,AV.pure,za7,za5,za6,zab,za4,zac,zaa,za3,za2,za0,za1]
 refine .call wx ?_
 rintro o ⟨tgr,e1⟩
 simp only [AV.pure,za7,za5,za6,zab,za4,zac,zaa,za3,za2,za0,za1,e1]
 clear e1
 refine exW (fun o=>p52_8) ?_
 simp only [Tr.val,List.length_map]
 refine .bL (by unfold za9; omega) (.bL (by unfold za9; omega) (.bL (by unfold za9; omega) (.bL (by unfold za9; omega) ?_)))
 rw [wi64 h3 (by omega)]
 exact go
include hC
theorem zr9 (w : Sc) (e : Ex) (t1 : Bool) (T : List AV) (t2 : Bool) (ds : List Dg) (D : List AV) (hD : D = ds.map Dg.av) (tg : Bool) (L : List Ex) (x y : Int) (hT : (T = [.int .i64 x]∧x = y) ∨ T = [.int .i64 x,.int .i64 y]) :
  Was (RL C 52 p52L (s52 w e t1 T t2 D tg L (L.length : Int))) (RT (opT e ds (resF e.s x y))):=by
 subst hD
 have hpT : za7 T = true := by rcases hT with ⟨rfl,_⟩ | rfl <;> rfl
 refine exW (fun o=>p52_5) ?_
 simp only [Tr.val,zaf,List.length_map]
 refine .bF (by omega) ?_
 cases ds with
 | cons d l =>
  exact .bT (by simp only [List.length_cons]; omega) (.mk ⟨t2,rfl⟩)
 | nil =>
  refine .bF (by simp) ?_
  simp only [AV.pure,za7,za5,za6,zab,za4,zac,zaa,za3,za2,za0,za1,hpT]
  refine .call (w101 hC e.s t1 T x y hT) ?_
  rintro o e1
  simp only [AV.pure,za7,za5,za6,zab,za4,zac,zaa,za3,za2,za0,za1,e1]
  clear e1
  refine exW (fun o=>p52_7) ?_
  simp only [Tr.val,opT,if_true]
  by_cases h0 : resF e.s x y = 0
  ·rw [decide_eq_true h0,if_pos h0]
   simp only [Bool.not_true,zam]
   simp only [AV.pure,za7,za5,za6,zab,za4,zac,zaa,za3,za2,za0,za1]
   refine .call (w99 hC e 12) ?_
   rintro o ⟨tg',e⟩
   simp only [e,AV.pure,za7,za5,za6,zab,za4,zac,zaa,za3,za2,za0,za1]
   clear e
   refine exW (fun o=>p52_9) ?_
   exact .mk ⟨_,rfl⟩
  ·rw [decide_eq_false h0,if_neg h0]
   simp only [Bool.not_false,za1]
   exact .mk ⟨_,rfl⟩
theorem w52 (w : Sc) (hF : w.t.fields.length ≤ 1000000) (hP : w.ps.length ≤ 1000000) : ∀ e : Ex,WfE e→e.sz ≤ 1000000→Was (calL C 52 [.agg w.cs,.agg e.cs] Hp.none 0) (RT (tyE w e)):=by
 intro e he
 induction he with
 | leaf k n s tg a h1 h5 =>
  intro _
  rw [tyE]
  generalize hx : Ex.mk k n s tg [] a = e
  have hk : 1 ≤ e.kind∧e.kind ≤ 5 := by rw [← hx]; exact ⟨h1,h5⟩
  refine exW (fun o=>p52_c hC) (exW (fun o=>p52_0) ?_)
  simp only [Tr.val,zt0]
  refine .dec (fun h=>?_) (fun h=>?_)
  ·rw [if_pos h]; exact .mk ⟨_,rfl⟩
  rw [if_neg h]
  refine .dec (fun h=>?_) (fun h=>?_)
  ·rw [if_pos h]; exact .mk ⟨_,rfl⟩
  rw [if_neg h]
  refine .dec (fun h=>?_) (fun h=>?_)
  ·rw [if_pos h]; exact .mk ⟨_,rfl⟩
  rw [if_neg h]
  refine .dec (fun h=>?_) (fun h=>?_)
  ·rw [if_pos h]
   simp only [AV.pure,za7,za5,za6,zab,za4,zac,zaa,za3,za2,za0,za1]
   refine .call (w97 hC w hF hP e) ?_
   rintro o ⟨tg',e1⟩
   simp only [AV.pure,za7,za5,za6,zab,za4,zac,zaa,za3,za2,za0,za1,e1]
   clear e1
   refine exW (fun o=>p52_1) ?_
   exact .mk ⟨_,rfl⟩
  rw [if_neg h]
  refine .bT (by omega) ?_
  simp only [AV.pure,za7,za5,za6,zab,za4,zac,zaa,za3,za2,za0,za1]
  refine .call (w98 hC w hF e) ?_
  rintro o ⟨tg',e1⟩
  simp only [AV.pure,za7,za5,za6,zab,za4,zac,zaa,za3,za2,za0,za1,e1]
  clear e1
  refine exW (fun o=>p52_2) ?_
  exact .mk ⟨_,rfl⟩
 | un n s tg a x hs hx ih =>
  intro hsz
  simp only [Ex.sz,szE] at hsz
  have wx := ih (by omega)
  have hlx := zei w x
  have hnh : eqS s [104,97,115] = false := by rcases hs with rfl | rfl <;> rfl
  rw [tyE]
  refine exW (fun o=>p52_c hC) (exW (fun o=>p52_0) ?_)
  simp only [Tr.val,show (Ex.mk 6 n s tg [x] a).kind = 6 from rfl,show (Ex.mk 6 n s tg [x] a).l = [x] from rfl,show (Ex.mk 6 n s tg [x] a).s = s from rfl,zaf,hnh,zam]
  refine .bF (by decide) (.bF (by decide) (.bF (by decide) (.bF (by decide) (.bF (by decide) (.bT (by decide) ?_)))))
  simp only [List.length_singleton]
  refine .brf rfl ?_
  refine zlk w _ _ [] _ [] _ [x] 0 x (tyE w x) rfl (by simp) (by simp) (by simp only [List.length_nil]; omega) wx ?_
  exact zr9 hC w _ _ _ _ (tyE w x).2 _ rfl _ [x] _ _ (.inl ⟨rfl,rfl⟩)
 | bin n s tg a x y hs hx hy ihx ihy =>
  intro hsz
  simp only [Ex.sz,szE] at hsz
  have wx := ihx (by omega)
  have wy := ihy (by omega)
  have hlx := zei w x
  have hly := zei w y
  rw [tyE]
  refine exW (fun o=>p52_c hC) (exW (fun o=>p52_0) ?_)
  simp only [Tr.val,show (Ex.mk 7 n s tg [x,y] a).kind = 7 from rfl,show (Ex.mk 7 n s tg [x,y] a).l = [x,y] from rfl,show (Ex.mk 7 n s tg [x,y] a).s = s from rfl,zaf]
  refine .bF (by decide) (.bF (by decide) (.bF (by decide) (.bF (by decide) (.bF (by decide) (.bF (by decide) (.bT (by decide) ?_))))))
  simp only [List.length_cons,List.length_nil]
  refine .brf rfl ?_
  by_cases h : s = wHas
  ·rw [if_pos h]
   refine .brn ((zdz _ _).2 h) (.bT (by decide) ?_)
   simp only [AV.pure,za7,za5,za6,zab,za4,zac,zaa,za3,za2,za0,za1]
   refine .call (w100 hC w hF hP 7 n s tg x y a _ _ (by omega) (by omega) wx wy) ?_
   rintro o ⟨tg',e1⟩
   simp only [AV.pure,za7,za5,za6,zab,za4,zac,zaa,za3,za2,za0,za1,e1]
   clear e1
   refine exW (fun o=>p52_4) ?_
   exact .mk ⟨_,rfl⟩
  ·rw [if_neg h]
   refine .brf (by rw [Bool.eq_false_iff]; exact fun he=>h ((zdz _ _).1 he)) ?_
   refine zlk w _ _ [] _ [] _ [x,y] 0 x (tyE w x) rfl (by simp) (by simp) (by simp only [List.length_nil]; omega) wx ?_
   refine zlk w _ _ _ _ _ _ [x,y] 1 y (tyE w y) rfl (by simp) (by simp) (by simp only [List.length_append,List.length_map,List.length_nil]; omega) wy ?_
   exact zr9 hC w _ _ _ _ ((tyE w x).2 ++ (tyE w y).2) _ (by simp) _ [x,y] _ _ (.inr rfl)
theorem w23 (t : Typ) (hF : t.fields.length ≤ 1000000) (tg : Bool) (ps : List Par) (hP : ps.length ≤ 1000000) (e : Ex) (q : Bool) (he : WfE e) (hsz : e.sz ≤ 1000000) : Was (calL C 23 [.agg t.cs,.vs 3 tg (ps.map Par.av),.agg e.cs,.bool q] Hp.none 0) (RT (tyE ⟨t,tg,ps,q⟩ e)):=by
 refine exW (fun o=>p23_c hC) ?_
 refine exW (fun o=>p23_0) ?_
 have e0 : ([(.str t.name),(.vs 4 t.tgF (List.map Fld.av t.fields)),(.vs 4 t.tgO (List.map Opn.av t.ops)),(.vs 8 t.tgQ (List.map Qry.av t.qrys)),(.vs 2 t.tgI (List.map Idx.av t.idxs)),(.int .i64 t.at_),(.vs 3 tg (List.map Par.av ps)),(.bool q)] : List AV) = Sc.cs ⟨t,tg,ps,q⟩ := rfl
 simp only [Tr.val,e0]
 simp only [AV.pure,za7,za5,za6,zab,za4,zac,zaa,za3,za2,za0,za1]
 refine .call (w52 hC ⟨t,tg,ps,q⟩ hF hP e he hsz) ?_
 rintro o ⟨tg',e1⟩
 simp only [AV.pure,za7,za5,za6,zab,za4,zac,zaa,za3,za2,za0,za1,e1]
 clear e1
 refine exW (fun o=>p23_1) ?_
 exact .mk ⟨_,rfl⟩
end Go.Proofs.YtfdklpkfpmkgeaaGreatDoor
end
