/- Stage laws,printed by gen_p.py. -/
import Derived.Test.YtfdklpkfpmkgeaaGreatDoorM5
import Derived.Test.YtfdklpkfpmkgeaaGreatDoorM6
import Derived.Test.YtfdklpkfpmkgeaaGreatDoorM10
import Derived.Test.YtfdklpkfpmkgeaaGreatDoorM11
set_option linter.unusedSimpArgs false
set_option linter.unusedVariables false
set_option linter.unusedSectionVars false
set_option linter.unnecessarySimpa false
section
namespace Go.Proofs.YtfdklpkfpmkgeaaGreatDoor
open Go Go.Vai
attribute [local irreducible] goTo zaq mkS
variable {C : Nat → Oracle} {o : Out}
abbrev qR0 : List Nat := [0,5,0,5,2,3,0,5,0,6,5,0,2,0,5,0,0,5,6,0]
abbrev qR1 : List Nat := [0,5,0,5,2,3,0,5,0,6,5,0,2,0,5,0,0,5,6,0,5,0,5,0,0,5,6]
abbrev qR2 : List Nat := [0,5,0,5,2,3,0,5,0,6,5,0,2,0,5,0,0,5,7,5,0,5,0,5,0,5,0,2,0,5,7,0,5,7,5,5,0,0,5,7,5,0,0,5,6,5,0]
abbrev qR3 : List Nat := [0,5,0,5,2,3,0,5,0,6,5,0,2,0,5,0,0,5,7,5,0,5,0,5,0,5,0,2,0,5,7,0,5,7,5,5,0,0,5,7,5,0,0,5,7,5,0]
abbrev qR4 : List Nat := [0,5,0,5,2,3,0,5,0,6,5,0,2,0,5,0,0,5,7,5,0,5,0,5,0,5,0,2,0,5,6,5,5,0,0,5,7,5,0,0,5,6,5,0]
abbrev qR5 : List Nat := [0,5,0,5,2,3,0,5,0,6,5,0,2,0,5,0,0,5,7,5,0,5,0,5,0,5,0,2,0,5,6,5,5,0,0,5,7,5,0,0,5,7,5,0]
abbrev qR6 : List Nat := [0,5,0,5,2,3,0,5,0,6,5,0,2,0,5,0,0,5,7,5,0,5,0,5,0,5,0,2,0,5,7,0,5,6,5,5,0,0,5,7,5,0,0,5,6,5,0]
abbrev qR7 : List Nat := [0,5,0,5,2,3,0,5,0,6,5,0,2,0,5,0,0,5,7,5,0,5,0,5,0,5,0,2,0,5,7,0,5,6,5,5,0,0,5,7,5,0,0,5,7,5,0]
abbrev qR8 : List Nat := [0,5,0,5,2,3,0,5,0,6,5,0,2,0,5,0,0,5,7,5,0,5,0,5,0,5,0,2,0,5,7,0,5,7,5,5,0,0,5,7,5,0,0,5,6,5,0,5,0,5,0,5,6]
abbrev qR9 : List Nat := [0,5,0,5,2,3,0,5,0,6,5,0,2,0,5,0,0,5,7,5,0,5,0,5,0,5,0,2,0,5,7,0,5,7,5,5,0,0,5,7,5,0,0,5,7,5,0,5,0,5,0,5,6]
abbrev qR10 : List Nat := [0,5,0,5,2,3,0,5,0,6,5,0,2,0,5,0,0,5,6,0,5,0,5,0,0,5,7,5,0]
abbrev qR11 : List Nat := [0,5,0,5,2,3,0,5,0,6,5,0,2,0,5,0,0,5,7,5,0,5,0]
abbrev qR12 : List Nat := [0,5,0,5,2,3,0,5,0,6,5,0,2,0,5,0,0,5,7,5,0,5,0,5,0,5,0,2,0,5,6]
abbrev qR13 : List Nat := [0,5,0,5,2,3,0,5,0,6,5,0,2,0,5,0,0,5,7,5,0,5,0,5,0,5,0,2,0,5,7,0,5,6]
abbrev qR14 : List Nat := [0,5,0,5,2,3,0,5,0,6,5,0,2,0,5,0,0,5,6,0,5,0,5,0,0,5,7,5,0,5,0]
abbrev qR15 : List Nat := [0,5,0,5,2,3,0,5,0,6,5,0,2,0,5,0,0,5,6,0,5,0,5,0,0,5,6,5,0]
abbrev qR16 : List Nat := [0,5,0,5,2,3,0,5,0,6,5,0,2,0,5,0,0,5,6,0,5,0,5,0,0,5,6,5,0,5,0]
theorem p89_c (hC : Ext C) {T : Hp} {nx : Nat} {tg_1 tg_4 : Bool} {l_2 : List Dg} {w_3 : Sc} {l_5 : List Stm} (ho : RL C 89 [] (mkS 135 [vv 0 (.ptr 0 0),vv 1 (.agg (Sc.cs w_3)),vv 2 (.vs 6 tg_4 (stms l_5))] [] ((0,⟨[(.vs 2 tg_1 (l_2.map Dg.av))],[0]⟩) :: T) nx) = some o) : calL C 89 [(.ptr 0 0),(.agg (Sc.cs w_3)),(.vs 6 tg_4 (stms l_5))] ((0,⟨[(.vs 2 tg_1 (l_2.map Dg.av))],[0]⟩) :: T) nx = some o := hC.call rfl (fun _ _ => by kernel_rfl) ho
theorem p89_0 {T : Hp} {nx : Nat} {tg_1 tg_4 : Bool} {l_2 : List Dg} {w_3 : Sc} {l_5 : List Stm} (ho : Tr.val C 89
(.run 0 [0,5,0,5,2,3] (mkS 135 [vv 0 (.ptr 0 0),(4,.lp 4 0),vv 17 (.vs 6 tg_4 (stms l_5)),vi 18 ((stms l_5).length : Int),vi 19 0] [(4,⟨(Sc.cs w_3),[]⟩)] ((0,⟨[(.vs 2 tg_1 (l_2.map Dg.av))],[0]⟩) :: T) nx)) = some o) : RL C 89 [] (mkS 135 [vv 0 (.ptr 0 0),vv 1 (.agg (Sc.cs w_3)),vv 2 (.vs 6 tg_4 (stms l_5))] [] ((0,⟨[(.vs 2 tg_1 (l_2.map Dg.av))],[0]⟩) :: T) nx) = some o := stR C 6 (fun _ _ => by kernel_rfl) ho
theorem p89_1 {T : Hp} {nx : Nat} {tg_6 tg_11 : Bool} {l_7 : List Stm} {x_8 x_9 : Int} {w_10 : Sc} {l_12 : List Dg} (ho : Tr.val C 89
(.br (decide (x_9 < x_8))
(ix (stms l_7) x_9 fun c1 =>
(.mid 0 [0,5,0,5,2,3,0,5,0,6,5,0,2,0] 1 (mkS 135 [vv 0 (.ptr 0 0),(4,.lp 4 0),vv 17 (.vs 6 tg_6 (stms l_7)),vi 18 x_8,vi 19 x_9,vb 20 true,vv 21 (.cptr (AV.cells c1))] [(4,⟨(Sc.cs w_10),[]⟩)] ((0,⟨[(.vs 2 tg_11 (l_12.map Dg.av))],[0]⟩) :: T) nx)))
(.ret ⟨(.tuple []),((0,⟨[(.vs 2 tg_11 (l_12.map Dg.av))],[0]⟩) :: T),nx⟩)) = some o) : RL C 89 [0,5,0,5,2,3] (mkS 135 [vv 0 (.ptr 0 0),(4,.lp 4 0),vv 17 (.vs 6 tg_6 (stms l_7)),vi 18 x_8,vi 19 x_9] [(4,⟨(Sc.cs w_10),[]⟩)] ((0,⟨[(.vs 2 tg_11 (l_12.map Dg.av))],[0]⟩) :: T) nx) = some o := stR C 9 (fun _ _ => by kernel_rfl) ho
theorem p89_2 {T : Hp} {nx : Nat} {tg_6 tg_11 : Bool} {l_7 : List Stm} {x_8 x_9 : Int} {w_10 : Sc} {l_12 : List Dg} {z_13 : Stm} (ho : Tr.val C 89
(.br (decide (z_13.kind = 6))
(.br (zab [(.agg (Stm.cs z_13))])
(cl0 152 [(.agg (Stm.cs z_13))] fun r2 => .br (AV.pure r2.v)
(.br (AV.pure r2.v)
(.mid 1 qR0 3 (mkS 135 [vv 0 (.ptr 0 0),(4,.lp 4 0),(7,.lp 7 0),vv 17 (.vs 6 tg_6 (stms l_7)),vi 18 x_8,vi 19 x_9,vb 25 true,vv 27 (.agg (Sc.cs w_10)),vv 28 (.agg (Stm.cs z_13)),vv 29 r2.v] [(4,⟨(Sc.cs w_10),[]⟩),(7,⟨(Stm.cs z_13),[]⟩)] ((0,⟨[(.vs 2 tg_11 (l_12.map Dg.av))],[0]⟩) :: T) nx)) .none) .none) .none)
(cl0 153 [(i6 z_13.kind)] fun r3 => .br (AV.pure r3.v)
(.mid 0 [0,5,0,5,2,3,0,5,0,6,5,0,2,0,5,0,0,5,7,5,0] 3 (mkS 135 [vv 0 (.ptr 0 0),(4,.lp 4 0),(7,.lp 7 0),vv 17 (.vs 6 tg_6 (stms l_7)),vi 18 x_8,vi 19 x_9,vb 25 false,(65,.lp 7 0),vi 66 z_13.kind,vv 67 r3.v] [(4,⟨(Sc.cs w_10),[]⟩),(7,⟨(Stm.cs z_13),[]⟩)] ((0,⟨[(.vs 2 tg_11 (l_12.map Dg.av))],[0]⟩) :: T) nx)) .none)) = some o) : ML C 89 [0,5,0,5,2,3,0,5,0,6,5,0,2,0] 1 (mkS 135 [vv 0 (.ptr 0 0),(4,.lp 4 0),vv 17 (.vs 6 tg_6 (stms l_7)),vi 18 x_8,vi 19 x_9,vb 20 true,vv 21 (.cptr (Stm.cs z_13))] [(4,⟨(Sc.cs w_10),[]⟩)] ((0,⟨[(.vs 2 tg_11 (l_12.map Dg.av))],[0]⟩) :: T) nx) = some o := stM C 7 (fun _ _ => by kernel_rfl) ho
theorem p89_3 {T : Hp} {nx : Nat} {tg_6 tg_11 : Bool} {l_7 : List Stm} {x_8 x_9 : Int} {w_10 : Sc} {l_12 : List Dg} {z_13 : Stm} {e_14 : Ex} (ho : Tr.val C 89
(cl0 52 [(.agg (Sc.cs w_10)),(.agg (Ex.cs e_14))] fun r4 => .br (AV.pure r4.v)
(.mid 0 qR0 4 (mkS 135 [vv 0 (.ptr 0 0),(4,.lp 4 0),(7,.lp 7 0),vv 17 (.vs 6 tg_6 (stms l_7)),vi 18 x_8,vi 19 x_9,vb 25 true,vv 27 (.agg (Sc.cs w_10)),vv 28 (.agg (Stm.cs z_13)),vv 29 (.agg (Ex.cs e_14)),(30,.val r4.v (.comps [1]))] [(4,⟨(Sc.cs w_10),[]⟩),(7,⟨(Stm.cs z_13),[]⟩)] ((0,⟨[(.vs 2 tg_11 (l_12.map Dg.av))],[0]⟩) :: T) nx)) .none) = some o) : ML C 89 qR0 3 (mkS 135 [vv 0 (.ptr 0 0),(4,.lp 4 0),(7,.lp 7 0),vv 17 (.vs 6 tg_6 (stms l_7)),vi 18 x_8,vi 19 x_9,vb 25 true,vv 27 (.agg (Sc.cs w_10)),vv 28 (.agg (Stm.cs z_13)),vv 29 (.agg (Ex.cs e_14))] [(4,⟨(Sc.cs w_10),[]⟩),(7,⟨(Stm.cs z_13),[]⟩)] ((0,⟨[(.vs 2 tg_11 (l_12.map Dg.av))],[0]⟩) :: T) nx) = some o := stM C 0 (fun _ _ => by kernel_rfl) ho
theorem p89_4 {T : Hp} {nx : Nat} {tg_6 tg_11 : Bool} {l_7 : List Stm} {x_8 x_9 x_15 x_16 : Int} {w_10 : Sc} {l_12 : List Dg} {z_13 : Stm} (ho : Tr.val C 89
(cl0 94 [(.agg (Typ.cs w_10.t)),(.str z_13.field)] fun r5 => .br (AV.pure r5.v)
(.mid 0 qR11 5 (mkS 135 [vv 0 (.ptr 0 0),(4,.lp 4 0),(7,.lp 7 0),vi 10 x_15,vi 11 x_16,vv 17 (.vs 6 tg_6 (stms l_7)),vi 18 x_8,vi 19 x_9,(71,.lp 4 0),vv 72 (.agg (Typ.cs w_10.t)),(73,.lp 7 1),vt 74 z_13.field,vv 75 r5.v] [(4,⟨(Sc.cs w_10),[]⟩),(7,⟨(Stm.cs z_13),[]⟩)] ((0,⟨[(.vs 2 tg_11 (l_12.map Dg.av))],[0]⟩) :: T) nx)) .none) = some o) : ML C 89 [0,5,0,5,2,3,0,5,0,6,5,0,2,0,5,0,0,5,7,5,0] 3 (mkS 135 [vv 0 (.ptr 0 0),(4,.lp 4 0),(7,.lp 7 0),vv 17 (.vs 6 tg_6 (stms l_7)),vi 18 x_8,vi 19 x_9,vb 25 false,(65,.lp 7 0),vi 66 z_13.kind,vv 67 (.tuple [(i6 x_15),(i6 x_16)])] [(4,⟨(Sc.cs w_10),[]⟩),(7,⟨(Stm.cs z_13),[]⟩)] ((0,⟨[(.vs 2 tg_11 (l_12.map Dg.av))],[0]⟩) :: T) nx) = some o := stM C 2 (fun _ _ => by kernel_rfl) ho
theorem p89_5 {T : Hp} {nx : Nat} {tg_6 tg_11 tg_18 : Bool} {l_7 : List Stm} {x_8 x_9 x_17 : Int} {w_10 : Sc} {l_12 l_19 : List Dg} {z_13 : Stm} {e_14 : Ex} (ho : Tr.val C 89
(.br (zab [(.tuple [(i6 x_17),(.vs 2 tg_18 (l_19.map Dg.av))])])
(.br (zab [(.tuple [(i6 x_17),(.vs 2 tg_18 (l_19.map Dg.av))])])
(.br (AV.pure (.vs 2 tg_18 (l_19.map Dg.av)))
(.br (Nat.ble (((l_12.map Dg.av).length + (l_19.map Dg.av).length) * 16) za1)
(.br (Nat.ble ((l_12.map Dg.av).length + (l_19.map Dg.av).length) za1)
(.br (decide (((l_19.map Dg.av).length : Int) = 0))
(.br (!(decide (x_17 = 3)))
(cl0 152 [(.agg (Stm.cs z_13))] fun r6 => .br (AV.pure r6.v)
(.mid 2 qR1 3 (mkS 135 [vv 0 (.ptr 0 0),(4,.lp 4 0),(7,.lp 7 0),vv 17 (.vs 6 tg_6 (stms l_7)),vi 18 x_8,vi 19 x_9,vb 48 true,vv 49 (.ptr 0 0),vv 50 (.agg (Stm.cs z_13)),vv 51 r6.v] [(4,⟨(Sc.cs w_10),[]⟩),(7,⟨(Stm.cs z_13),[]⟩)] ((0,⟨[(.vs 2 false ((l_12.map Dg.av) ++ (l_19.map Dg.av)))],[0]⟩) :: T) nx)) .none)
(.call 89 [(.ptr 0 0),(.agg (Sc.cs w_10)),(.vs 6 z_13.tgT (stms z_13.thn))] ((0,⟨[(.vs 2 false ((l_12.map Dg.av) ++ (l_19.map Dg.av)))],[0]⟩) :: T) nx fun r7 =>
(.mid 0 qR10 5 (mkS 135 [vv 0 (.ptr 0 0),(4,.lp 4 0),(7,.lp 7 0),vv 17 (.vs 6 tg_6 (stms l_7)),vi 18 x_8,vi 19 x_9,vb 48 false,vv 54 (.ptr 0 0),vv 55 (.agg (Sc.cs w_10)),(56,.lp 7 3),vv 57 (.vs 6 z_13.tgT (stms z_13.thn)),vv 58 r7.v] [(4,⟨(Sc.cs w_10),[]⟩),(7,⟨(Stm.cs z_13),[]⟩)] r7.H r7.nx))))
(.call 89 [(.ptr 0 0),(.agg (Sc.cs w_10)),(.vs 6 z_13.tgT (stms z_13.thn))] ((0,⟨[(.vs 2 false ((l_12.map Dg.av) ++ (l_19.map Dg.av)))],[0]⟩) :: T) nx fun r8 =>
(.mid 0 qR10 5 (mkS 135 [vv 0 (.ptr 0 0),(4,.lp 4 0),(7,.lp 7 0),vv 17 (.vs 6 tg_6 (stms l_7)),vi 18 x_8,vi 19 x_9,vb 48 false,vv 54 (.ptr 0 0),vv 55 (.agg (Sc.cs w_10)),(56,.lp 7 3),vv 57 (.vs 6 z_13.tgT (stms z_13.thn)),vv 58 r8.v] [(4,⟨(Sc.cs w_10),[]⟩),(7,⟨(Stm.cs z_13),[]⟩)] r8.H r8.nx)))) .none) .none) .none) .none) .none) = some o) : ML C 89 qR0 4 (mkS 135 [vv 0 (.ptr 0 0),(4,.lp 4 0),(7,.lp 7 0),vv 17 (.vs 6 tg_6 (stms l_7)),vi 18 x_8,vi 19 x_9,vb 25 true,vv 27 (.agg (Sc.cs w_10)),vv 28 (.agg (Stm.cs z_13)),vv 29 (.agg (Ex.cs e_14)),(30,.val (.tuple [(i6 x_17),(.vs 2 tg_18 (l_19.map Dg.av))]) (.comps [1]))] [(4,⟨(Sc.cs w_10),[]⟩),(7,⟨(Stm.cs z_13),[]⟩)] ((0,⟨[(.vs 2 tg_11 (l_12.map Dg.av))],[0]⟩) :: T) nx) = some o := stM C 9 (fun _ _ => by kernel_rfl) ho
theorem p89_6 {T : Hp} {nx : Nat} {tg_6 tg_11 c_21 : Bool} {l_7 : List Stm} {x_8 x_9 x_15 x_16 : Int} {w_10 : Sc} {l_12 : List Dg} {z_13 : Stm} {f_20 : Fld} (ho : Tr.val C 89
(.br (!c_21)
(.call 84 [(.ptr 0 0),(i6 z_13.at_),(i6 6)] ((0,⟨[(.vs 2 tg_11 (l_12.map Dg.av))],[0]⟩) :: T) nx fun r9 =>
(.mid 16 qR12 4 (mkS 135 [vv 0 (.ptr 0 0),(4,.lp 4 0),(7,.lp 7 0),vi 10 x_15,vi 11 x_16,(12,.lp 12 0),vb 14 true,vv 17 (.vs 6 tg_6 (stms l_7)),vi 18 x_8,vi 19 x_9,vb 78 true,vv 81 (.ptr 0 0),(82,.lp 7 5),vi 83 z_13.at_,vv 84 r9.v] [(4,⟨(Sc.cs w_10),[]⟩),(7,⟨(Stm.cs z_13),[]⟩),(12,⟨(Fld.cs f_20),[]⟩)] r9.H r9.nx)))
(.br (!(decide (f_20.kind = x_15)))
(.call 84 [(.ptr 0 0),(i6 z_13.at_),(i6 10)] ((0,⟨[(.vs 2 tg_11 (l_12.map Dg.av))],[0]⟩) :: T) nx fun r10 =>
(.mid 13 qR13 4 (mkS 135 [vv 0 (.ptr 0 0),(4,.lp 4 0),(7,.lp 7 0),vi 10 x_15,vi 11 x_16,(12,.lp 12 0),vb 14 true,vv 17 (.vs 6 tg_6 (stms l_7)),vi 18 x_8,vi 19 x_9,vb 85 true,vv 90 (.ptr 0 0),(91,.lp 7 5),vi 92 z_13.at_,vv 93 r10.v] [(4,⟨(Sc.cs w_10),[]⟩),(7,⟨(Stm.cs z_13),[]⟩),(12,⟨(Fld.cs f_20),[]⟩)] r10.H r10.nx)))
(.br (decide (z_13.kind = 5))
(.run 5 [0,5,0,5,2,3] (mkS 135 [vv 0 (.ptr 0 0),(4,.lp 4 0),vv 17 (.vs 6 tg_6 (stms l_7)),vi 18 x_8,vi 19 (w64 (x_9 + 1))] [(4,⟨(Sc.cs w_10),[]⟩)] ((0,⟨[(.vs 2 tg_11 (l_12.map Dg.av))],[0]⟩) :: T) nx))
(.br (decide (x_15 = 1))
(.br (zab [(.agg (Stm.cs z_13))])
(cl0 152 [(.agg (Stm.cs z_13))] fun r11 => .br (AV.pure r11.v)
(.br (AV.pure r11.v)
(.mid 0 qR2 3 (mkS 135 [vv 0 (.ptr 0 0),(4,.lp 4 0),(7,.lp 7 0),vi 11 f_20.type,vb 14 false,vv 17 (.vs 6 tg_6 (stms l_7)),vi 18 x_8,vi 19 x_9,vv 102 (.agg (Sc.cs w_10)),vv 103 (.agg (Stm.cs z_13)),vv 104 r11.v] [(4,⟨(Sc.cs w_10),[]⟩),(7,⟨(Stm.cs z_13),[]⟩)] ((0,⟨[(.vs 2 tg_11 (l_12.map Dg.av))],[0]⟩) :: T) nx)) .none) .none) .none)
(.br (zab [(.agg (Stm.cs z_13))])
(cl0 152 [(.agg (Stm.cs z_13))] fun r12 => .br (AV.pure r12.v)
(.br (AV.pure r12.v)
(.mid 0 qR3 3 (mkS 135 [vv 0 (.ptr 0 0),(4,.lp 4 0),(7,.lp 7 0),vi 11 x_16,(12,.lp 12 0),vb 14 false,vv 17 (.vs 6 tg_6 (stms l_7)),vi 18 x_8,vi 19 x_9,vb 98 false,vv 102 (.agg (Sc.cs w_10)),vv 103 (.agg (Stm.cs z_13)),vv 104 r12.v] [(4,⟨(Sc.cs w_10),[]⟩),(7,⟨(Stm.cs z_13),[]⟩),(12,⟨(Fld.cs f_20),[]⟩)] ((0,⟨[(.vs 2 tg_11 (l_12.map Dg.av))],[0]⟩) :: T) nx)) .none) .none) .none))))) = some o) : ML C 89 qR11 5 (mkS 135 [vv 0 (.ptr 0 0),(4,.lp 4 0),(7,.lp 7 0),vi 10 x_15,vi 11 x_16,vv 17 (.vs 6 tg_6 (stms l_7)),vi 18 x_8,vi 19 x_9,(71,.lp 4 0),vv 72 (.agg (Typ.cs w_10.t)),(73,.lp 7 1),vt 74 z_13.field,vv 75 (.tuple [(.agg (Fld.cs f_20)),(.bool c_21)])] [(4,⟨(Sc.cs w_10),[]⟩),(7,⟨(Stm.cs z_13),[]⟩)] ((0,⟨[(.vs 2 tg_11 (l_12.map Dg.av))],[0]⟩) :: T) nx) = some o := stM C 24 (fun _ _ => by kernel_rfl) ho
theorem p89_7 {T : Hp} {nx : Nat} {tg_6 : Bool} {l_7 : List Stm} {x_8 x_9 : Int} {w_10 : Sc} {z_13 : Stm} {e_22 : Ex} {l_23 : List AV} (ho : Tr.val C 89
(.call 84 [(.ptr 0 0),(i6 e_22.at_),(i6 12)] ((0,⟨[(.vs 2 false l_23)],[0]⟩) :: T) nx fun r13 =>
(.mid 0 qR1 5 (mkS 135 [vv 0 (.ptr 0 0),(4,.lp 4 0),(7,.lp 7 0),vv 17 (.vs 6 tg_6 (stms l_7)),vi 18 x_8,vi 19 x_9,vb 48 true,vv 49 (.ptr 0 0),vv 50 (.agg (Stm.cs z_13)),vv 51 (.agg (Ex.cs e_22)),vi 52 e_22.at_,vv 53 r13.v] [(4,⟨(Sc.cs w_10),[]⟩),(7,⟨(Stm.cs z_13),[]⟩)] r13.H r13.nx))) = some o) : ML C 89 qR1 3 (mkS 135 [vv 0 (.ptr 0 0),(4,.lp 4 0),(7,.lp 7 0),vv 17 (.vs 6 tg_6 (stms l_7)),vi 18 x_8,vi 19 x_9,vb 48 true,vv 49 (.ptr 0 0),vv 50 (.agg (Stm.cs z_13)),vv 51 (.agg (Ex.cs e_22))] [(4,⟨(Sc.cs w_10),[]⟩),(7,⟨(Stm.cs z_13),[]⟩)] ((0,⟨[(.vs 2 false l_23)],[0]⟩) :: T) nx) = some o := stM C 0 (fun _ _ => by kernel_rfl) ho
theorem p89_8 {T : Hp} {nx : Nat} {tg_6 tg_24 : Bool} {l_7 : List Stm} {x_8 x_9 : Int} {w_10 : Sc} {z_13 : Stm} {l_25 : List AV} (ho : Tr.val C 89
(.call 89 [(.ptr 0 0),(.agg (Sc.cs w_10)),(.vs 6 z_13.tgE (stms z_13.els))] ((0,⟨[(.vs 2 tg_24 l_25)],[0]⟩) :: T) nx fun r14 =>
(.mid 0 qR14 5 (mkS 135 [vv 0 (.ptr 0 0),(4,.lp 4 0),(7,.lp 7 0),vv 17 (.vs 6 tg_6 (stms l_7)),vi 18 x_8,vi 19 x_9,vv 59 (.ptr 0 0),vv 60 (.agg (Sc.cs w_10)),(61,.lp 7 4),vv 62 (.vs 6 z_13.tgE (stms z_13.els)),vv 63 r14.v] [(4,⟨(Sc.cs w_10),[]⟩),(7,⟨(Stm.cs z_13),[]⟩)] r14.H r14.nx))) = some o) : ML C 89 qR10 5 (mkS 135 [vv 0 (.ptr 0 0),(4,.lp 4 0),(7,.lp 7 0),vv 17 (.vs 6 tg_6 (stms l_7)),vi 18 x_8,vi 19 x_9,vb 48 false,vv 54 (.ptr 0 0),vv 55 (.agg (Sc.cs w_10)),(56,.lp 7 3),vv 57 (.vs 6 z_13.tgT (stms z_13.thn)),vv 58 (.tuple [])] [(4,⟨(Sc.cs w_10),[]⟩),(7,⟨(Stm.cs z_13),[]⟩)] ((0,⟨[(.vs 2 tg_24 l_25)],[0]⟩) :: T) nx) = some o := stM C 2 (fun _ _ => by kernel_rfl) ho
theorem p89_9 {T : Hp} {nx : Nat} {tg_6 tg_28 : Bool} {l_7 : List Stm} {x_8 x_9 x_15 x_16 : Int} {w_10 : Sc} {z_13 : Stm} {f_20 : Fld} {l_29 : List Dg} (ho : Tr.val C 89
(.br (decide (z_13.kind = 5))
(.run 5 [0,5,0,5,2,3] (mkS 135 [vv 0 (.ptr 0 0),(4,.lp 4 0),vv 17 (.vs 6 tg_6 (stms l_7)),vi 18 x_8,vi 19 (w64 (x_9 + 1))] [(4,⟨(Sc.cs w_10),[]⟩)] ((0,⟨[(.vs 2 tg_28 (l_29.map Dg.av))],[0]⟩) :: T) nx))
(.br (decide (x_15 = 1))
(.br (zab [(.agg (Stm.cs z_13))])
(cl0 152 [(.agg (Stm.cs z_13))] fun r15 => .br (AV.pure r15.v)
(.br (AV.pure r15.v)
(.mid 0 qR4 3 (mkS 135 [vv 0 (.ptr 0 0),(4,.lp 4 0),(7,.lp 7 0),vi 11 f_20.type,vb 14 true,vv 17 (.vs 6 tg_6 (stms l_7)),vi 18 x_8,vi 19 x_9,vv 102 (.agg (Sc.cs w_10)),vv 103 (.agg (Stm.cs z_13)),vv 104 r15.v] [(4,⟨(Sc.cs w_10),[]⟩),(7,⟨(Stm.cs z_13),[]⟩)] ((0,⟨[(.vs 2 tg_28 (l_29.map Dg.av))],[0]⟩) :: T) nx)) .none) .none) .none)
(.br (zab [(.agg (Stm.cs z_13))])
(cl0 152 [(.agg (Stm.cs z_13))] fun r16 => .br (AV.pure r16.v)
(.br (AV.pure r16.v)
(.mid 0 qR5 3 (mkS 135 [vv 0 (.ptr 0 0),(4,.lp 4 0),(7,.lp 7 0),vi 11 x_16,(12,.lp 12 0),vb 14 true,vv 17 (.vs 6 tg_6 (stms l_7)),vi 18 x_8,vi 19 x_9,vb 98 false,vv 102 (.agg (Sc.cs w_10)),vv 103 (.agg (Stm.cs z_13)),vv 104 r16.v] [(4,⟨(Sc.cs w_10),[]⟩),(7,⟨(Stm.cs z_13),[]⟩),(12,⟨(Fld.cs f_20),[]⟩)] ((0,⟨[(.vs 2 tg_28 (l_29.map Dg.av))],[0]⟩) :: T) nx)) .none) .none) .none))) = some o) : ML C 89 qR12 4 (mkS 135 [vv 0 (.ptr 0 0),(4,.lp 4 0),(7,.lp 7 0),vi 10 x_15,vi 11 x_16,(12,.lp 12 0),vb 14 true,vv 17 (.vs 6 tg_6 (stms l_7)),vi 18 x_8,vi 19 x_9,vb 78 true,vv 81 (.ptr 0 0),(82,.lp 7 5),vi 83 z_13.at_,vv 84 (.tuple [])] [(4,⟨(Sc.cs w_10),[]⟩),(7,⟨(Stm.cs z_13),[]⟩),(12,⟨(Fld.cs f_20),[]⟩)] ((0,⟨[(.vs 2 tg_28 (l_29.map Dg.av))],[0]⟩) :: T) nx) = some o := stM C 13 (fun _ _ => by kernel_rfl) ho
theorem p89_10 {T : Hp} {nx : Nat} {tg_6 tg_30 : Bool} {l_7 : List Stm} {x_8 x_9 x_15 x_16 : Int} {w_10 : Sc} {z_13 : Stm} {f_20 : Fld} {l_31 : List Dg} (ho : Tr.val C 89
(.br (decide (z_13.kind = 5))
(.run 5 [0,5,0,5,2,3] (mkS 135 [vv 0 (.ptr 0 0),(4,.lp 4 0),vv 17 (.vs 6 tg_6 (stms l_7)),vi 18 x_8,vi 19 (w64 (x_9 + 1))] [(4,⟨(Sc.cs w_10),[]⟩)] ((0,⟨[(.vs 2 tg_30 (l_31.map Dg.av))],[0]⟩) :: T) nx))
(.br (decide (x_15 = 1))
(.br (zab [(.agg (Stm.cs z_13))])
(cl0 152 [(.agg (Stm.cs z_13))] fun r17 => .br (AV.pure r17.v)
(.br (AV.pure r17.v)
(.mid 0 qR6 3 (mkS 135 [vv 0 (.ptr 0 0),(4,.lp 4 0),(7,.lp 7 0),vi 11 f_20.type,vb 14 true,vv 17 (.vs 6 tg_6 (stms l_7)),vi 18 x_8,vi 19 x_9,vv 102 (.agg (Sc.cs w_10)),vv 103 (.agg (Stm.cs z_13)),vv 104 r17.v] [(4,⟨(Sc.cs w_10),[]⟩),(7,⟨(Stm.cs z_13),[]⟩)] ((0,⟨[(.vs 2 tg_30 (l_31.map Dg.av))],[0]⟩) :: T) nx)) .none) .none) .none)
(.br (zab [(.agg (Stm.cs z_13))])
(cl0 152 [(.agg (Stm.cs z_13))] fun r18 => .br (AV.pure r18.v)
(.br (AV.pure r18.v)
(.mid 0 qR7 3 (mkS 135 [vv 0 (.ptr 0 0),(4,.lp 4 0),(7,.lp 7 0),vi 11 x_16,(12,.lp 12 0),vb 14 true,vv 17 (.vs 6 tg_6 (stms l_7)),vi 18 x_8,vi 19 x_9,vb 98 false,vv 102 (.agg (Sc.cs w_10)),vv 103 (.agg (Stm.cs z_13)),vv 104 r18.v] [(4,⟨(Sc.cs w_10),[]⟩),(7,⟨(Stm.cs z_13),[]⟩),(12,⟨(Fld.cs f_20),[]⟩)] ((0,⟨[(.vs 2 tg_30 (l_31.map Dg.av))],[0]⟩) :: T) nx)) .none) .none) .none))) = some o) : ML C 89 qR13 4 (mkS 135 [vv 0 (.ptr 0 0),(4,.lp 4 0),(7,.lp 7 0),vi 10 x_15,vi 11 x_16,(12,.lp 12 0),vb 14 true,vv 17 (.vs 6 tg_6 (stms l_7)),vi 18 x_8,vi 19 x_9,vb 85 true,vv 90 (.ptr 0 0),(91,.lp 7 5),vi 92 z_13.at_,vv 93 (.tuple [])] [(4,⟨(Sc.cs w_10),[]⟩),(7,⟨(Stm.cs z_13),[]⟩),(12,⟨(Fld.cs f_20),[]⟩)] ((0,⟨[(.vs 2 tg_30 (l_31.map Dg.av))],[0]⟩) :: T) nx) = some o := stM C 13 (fun _ _ => by kernel_rfl) ho
theorem p89_11 {T : Hp} {nx : Nat} {tg_6 tg_11 : Bool} {l_7 : List Stm} {x_8 x_9 x_33 : Int} {w_10 : Sc} {l_12 : List Dg} {z_13 : Stm} {e_32 : Ex} (ho : Tr.val C 89
(cl0 52 [(.agg (Sc.cs w_10)),(.agg (Ex.cs e_32))] fun r19 => .br (AV.pure r19.v)
(.mid 0 qR2 4 (mkS 135 [vv 0 (.ptr 0 0),(4,.lp 4 0),(7,.lp 7 0),vi 11 x_33,vb 14 false,vv 17 (.vs 6 tg_6 (stms l_7)),vi 18 x_8,vi 19 x_9,vv 102 (.agg (Sc.cs w_10)),vv 103 (.agg (Stm.cs z_13)),vv 104 (.agg (Ex.cs e_32)),(105,.val r19.v (.comps [1]))] [(4,⟨(Sc.cs w_10),[]⟩),(7,⟨(Stm.cs z_13),[]⟩)] ((0,⟨[(.vs 2 tg_11 (l_12.map Dg.av))],[0]⟩) :: T) nx)) .none) = some o) : ML C 89 qR2 3 (mkS 135 [vv 0 (.ptr 0 0),(4,.lp 4 0),(7,.lp 7 0),vi 11 x_33,vb 14 false,vv 17 (.vs 6 tg_6 (stms l_7)),vi 18 x_8,vi 19 x_9,vv 102 (.agg (Sc.cs w_10)),vv 103 (.agg (Stm.cs z_13)),vv 104 (.agg (Ex.cs e_32))] [(4,⟨(Sc.cs w_10),[]⟩),(7,⟨(Stm.cs z_13),[]⟩)] ((0,⟨[(.vs 2 tg_11 (l_12.map Dg.av))],[0]⟩) :: T) nx) = some o := stM C 0 (fun _ _ => by kernel_rfl) ho
theorem p89_12 {T : Hp} {nx : Nat} {tg_6 tg_11 : Bool} {l_7 : List Stm} {x_8 x_9 x_16 : Int} {w_10 : Sc} {l_12 : List Dg} {z_13 : Stm} {f_20 : Fld} {e_34 : Ex} (ho : Tr.val C 89
(cl0 52 [(.agg (Sc.cs w_10)),(.agg (Ex.cs e_34))] fun r20 => .br (AV.pure r20.v)
(.mid 0 qR3 4 (mkS 135 [vv 0 (.ptr 0 0),(4,.lp 4 0),(7,.lp 7 0),vi 11 x_16,(12,.lp 12 0),vb 14 false,vv 17 (.vs 6 tg_6 (stms l_7)),vi 18 x_8,vi 19 x_9,vb 98 false,vv 102 (.agg (Sc.cs w_10)),vv 103 (.agg (Stm.cs z_13)),vv 104 (.agg (Ex.cs e_34)),(105,.val r20.v (.comps [1]))] [(4,⟨(Sc.cs w_10),[]⟩),(7,⟨(Stm.cs z_13),[]⟩),(12,⟨(Fld.cs f_20),[]⟩)] ((0,⟨[(.vs 2 tg_11 (l_12.map Dg.av))],[0]⟩) :: T) nx)) .none) = some o) : ML C 89 qR3 3 (mkS 135 [vv 0 (.ptr 0 0),(4,.lp 4 0),(7,.lp 7 0),vi 11 x_16,(12,.lp 12 0),vb 14 false,vv 17 (.vs 6 tg_6 (stms l_7)),vi 18 x_8,vi 19 x_9,vb 98 false,vv 102 (.agg (Sc.cs w_10)),vv 103 (.agg (Stm.cs z_13)),vv 104 (.agg (Ex.cs e_34))] [(4,⟨(Sc.cs w_10),[]⟩),(7,⟨(Stm.cs z_13),[]⟩),(12,⟨(Fld.cs f_20),[]⟩)] ((0,⟨[(.vs 2 tg_11 (l_12.map Dg.av))],[0]⟩) :: T) nx) = some o := stM C 0 (fun _ _ => by kernel_rfl) ho
theorem p89_13 {T : Hp} {nx : Nat} {tg_6 tg_35 : Bool} {l_7 : List Stm} {x_8 x_9 : Int} {w_10 : Sc} {z_13 : Stm} {e_22 : Ex} {l_36 : List AV} (ho : Tr.val C 89
(.call 89 [(.ptr 0 0),(.agg (Sc.cs w_10)),(.vs 6 z_13.tgT (stms z_13.thn))] ((0,⟨[(.vs 2 tg_35 l_36)],[0]⟩) :: T) nx fun r21 =>
(.mid 0 qR15 5 (mkS 135 [vv 0 (.ptr 0 0),(4,.lp 4 0),(7,.lp 7 0),vv 17 (.vs 6 tg_6 (stms l_7)),vi 18 x_8,vi 19 x_9,vv 54 (.ptr 0 0),vv 55 (.agg (Sc.cs w_10)),(56,.lp 7 3),vv 57 (.vs 6 z_13.tgT (stms z_13.thn)),vv 58 r21.v] [(4,⟨(Sc.cs w_10),[]⟩),(7,⟨(Stm.cs z_13),[]⟩)] r21.H r21.nx))) = some o) : ML C 89 qR1 5 (mkS 135 [vv 0 (.ptr 0 0),(4,.lp 4 0),(7,.lp 7 0),vv 17 (.vs 6 tg_6 (stms l_7)),vi 18 x_8,vi 19 x_9,vb 48 true,vv 49 (.ptr 0 0),vv 50 (.agg (Stm.cs z_13)),vv 51 (.agg (Ex.cs e_22)),vi 52 e_22.at_,vv 53 (.tuple [])] [(4,⟨(Sc.cs w_10),[]⟩),(7,⟨(Stm.cs z_13),[]⟩)] ((0,⟨[(.vs 2 tg_35 l_36)],[0]⟩) :: T) nx) = some o := stM C 2 (fun _ _ => by kernel_rfl) ho
theorem p89_14 {T : Hp} {nx : Nat} {tg_6 tg_37 : Bool} {l_7 : List Stm} {x_8 x_9 : Int} {w_10 : Sc} {z_13 : Stm} {l_38 : List AV} (ho : Tr.val C 89
(.run 0 [0,5,0,5,2,3] (mkS 135 [vv 0 (.ptr 0 0),(4,.lp 4 0),vv 17 (.vs 6 tg_6 (stms l_7)),vi 18 x_8,vi 19 (w64 (x_9 + 1))] [(4,⟨(Sc.cs w_10),[]⟩)] ((0,⟨[(.vs 2 tg_37 l_38)],[0]⟩) :: T) nx)) = some o) : ML C 89 qR14 5 (mkS 135 [vv 0 (.ptr 0 0),(4,.lp 4 0),(7,.lp 7 0),vv 17 (.vs 6 tg_6 (stms l_7)),vi 18 x_8,vi 19 x_9,vv 59 (.ptr 0 0),vv 60 (.agg (Sc.cs w_10)),(61,.lp 7 4),vv 62 (.vs 6 z_13.tgE (stms z_13.els)),vv 63 (.tuple [])] [(4,⟨(Sc.cs w_10),[]⟩),(7,⟨(Stm.cs z_13),[]⟩)] ((0,⟨[(.vs 2 tg_37 l_38)],[0]⟩) :: T) nx) = some o := stM C 3 (fun _ _ => by kernel_rfl) ho
theorem p89_15 {T : Hp} {nx : Nat} {tg_6 tg_28 : Bool} {l_7 : List Stm} {x_8 x_9 x_40 : Int} {w_10 : Sc} {z_13 : Stm} {l_29 : List Dg} {e_39 : Ex} (ho : Tr.val C 89
(cl0 52 [(.agg (Sc.cs w_10)),(.agg (Ex.cs e_39))] fun r22 => .br (AV.pure r22.v)
(.mid 0 qR4 4 (mkS 135 [vv 0 (.ptr 0 0),(4,.lp 4 0),(7,.lp 7 0),vi 11 x_40,vb 14 true,vv 17 (.vs 6 tg_6 (stms l_7)),vi 18 x_8,vi 19 x_9,vv 102 (.agg (Sc.cs w_10)),vv 103 (.agg (Stm.cs z_13)),vv 104 (.agg (Ex.cs e_39)),(105,.val r22.v (.comps [1]))] [(4,⟨(Sc.cs w_10),[]⟩),(7,⟨(Stm.cs z_13),[]⟩)] ((0,⟨[(.vs 2 tg_28 (l_29.map Dg.av))],[0]⟩) :: T) nx)) .none) = some o) : ML C 89 qR4 3 (mkS 135 [vv 0 (.ptr 0 0),(4,.lp 4 0),(7,.lp 7 0),vi 11 x_40,vb 14 true,vv 17 (.vs 6 tg_6 (stms l_7)),vi 18 x_8,vi 19 x_9,vv 102 (.agg (Sc.cs w_10)),vv 103 (.agg (Stm.cs z_13)),vv 104 (.agg (Ex.cs e_39))] [(4,⟨(Sc.cs w_10),[]⟩),(7,⟨(Stm.cs z_13),[]⟩)] ((0,⟨[(.vs 2 tg_28 (l_29.map Dg.av))],[0]⟩) :: T) nx) = some o := stM C 0 (fun _ _ => by kernel_rfl) ho
theorem p89_16 {T : Hp} {nx : Nat} {tg_6 tg_28 : Bool} {l_7 : List Stm} {x_8 x_9 x_16 : Int} {w_10 : Sc} {z_13 : Stm} {f_20 : Fld} {l_29 : List Dg} {e_41 : Ex} (ho : Tr.val C 89
(cl0 52 [(.agg (Sc.cs w_10)),(.agg (Ex.cs e_41))] fun r23 => .br (AV.pure r23.v)
(.mid 0 qR5 4 (mkS 135 [vv 0 (.ptr 0 0),(4,.lp 4 0),(7,.lp 7 0),vi 11 x_16,(12,.lp 12 0),vb 14 true,vv 17 (.vs 6 tg_6 (stms l_7)),vi 18 x_8,vi 19 x_9,vb 98 false,vv 102 (.agg (Sc.cs w_10)),vv 103 (.agg (Stm.cs z_13)),vv 104 (.agg (Ex.cs e_41)),(105,.val r23.v (.comps [1]))] [(4,⟨(Sc.cs w_10),[]⟩),(7,⟨(Stm.cs z_13),[]⟩),(12,⟨(Fld.cs f_20),[]⟩)] ((0,⟨[(.vs 2 tg_28 (l_29.map Dg.av))],[0]⟩) :: T) nx)) .none) = some o) : ML C 89 qR5 3 (mkS 135 [vv 0 (.ptr 0 0),(4,.lp 4 0),(7,.lp 7 0),vi 11 x_16,(12,.lp 12 0),vb 14 true,vv 17 (.vs 6 tg_6 (stms l_7)),vi 18 x_8,vi 19 x_9,vb 98 false,vv 102 (.agg (Sc.cs w_10)),vv 103 (.agg (Stm.cs z_13)),vv 104 (.agg (Ex.cs e_41))] [(4,⟨(Sc.cs w_10),[]⟩),(7,⟨(Stm.cs z_13),[]⟩),(12,⟨(Fld.cs f_20),[]⟩)] ((0,⟨[(.vs 2 tg_28 (l_29.map Dg.av))],[0]⟩) :: T) nx) = some o := stM C 0 (fun _ _ => by kernel_rfl) ho
theorem p89_17 {T : Hp} {nx : Nat} {tg_6 tg_30 : Bool} {l_7 : List Stm} {x_8 x_9 x_43 : Int} {w_10 : Sc} {z_13 : Stm} {l_31 : List Dg} {e_42 : Ex} (ho : Tr.val C 89
(cl0 52 [(.agg (Sc.cs w_10)),(.agg (Ex.cs e_42))] fun r24 => .br (AV.pure r24.v)
(.mid 0 qR6 4 (mkS 135 [vv 0 (.ptr 0 0),(4,.lp 4 0),(7,.lp 7 0),vi 11 x_43,vb 14 true,vv 17 (.vs 6 tg_6 (stms l_7)),vi 18 x_8,vi 19 x_9,vv 102 (.agg (Sc.cs w_10)),vv 103 (.agg (Stm.cs z_13)),vv 104 (.agg (Ex.cs e_42)),(105,.val r24.v (.comps [1]))] [(4,⟨(Sc.cs w_10),[]⟩),(7,⟨(Stm.cs z_13),[]⟩)] ((0,⟨[(.vs 2 tg_30 (l_31.map Dg.av))],[0]⟩) :: T) nx)) .none) = some o) : ML C 89 qR6 3 (mkS 135 [vv 0 (.ptr 0 0),(4,.lp 4 0),(7,.lp 7 0),vi 11 x_43,vb 14 true,vv 17 (.vs 6 tg_6 (stms l_7)),vi 18 x_8,vi 19 x_9,vv 102 (.agg (Sc.cs w_10)),vv 103 (.agg (Stm.cs z_13)),vv 104 (.agg (Ex.cs e_42))] [(4,⟨(Sc.cs w_10),[]⟩),(7,⟨(Stm.cs z_13),[]⟩)] ((0,⟨[(.vs 2 tg_30 (l_31.map Dg.av))],[0]⟩) :: T) nx) = some o := stM C 0 (fun _ _ => by kernel_rfl) ho
theorem p89_18 {T : Hp} {nx : Nat} {tg_6 tg_30 : Bool} {l_7 : List Stm} {x_8 x_9 x_16 : Int} {w_10 : Sc} {z_13 : Stm} {f_20 : Fld} {l_31 : List Dg} {e_44 : Ex} (ho : Tr.val C 89
(cl0 52 [(.agg (Sc.cs w_10)),(.agg (Ex.cs e_44))] fun r25 => .br (AV.pure r25.v)
(.mid 0 qR7 4 (mkS 135 [vv 0 (.ptr 0 0),(4,.lp 4 0),(7,.lp 7 0),vi 11 x_16,(12,.lp 12 0),vb 14 true,vv 17 (.vs 6 tg_6 (stms l_7)),vi 18 x_8,vi 19 x_9,vb 98 false,vv 102 (.agg (Sc.cs w_10)),vv 103 (.agg (Stm.cs z_13)),vv 104 (.agg (Ex.cs e_44)),(105,.val r25.v (.comps [1]))] [(4,⟨(Sc.cs w_10),[]⟩),(7,⟨(Stm.cs z_13),[]⟩),(12,⟨(Fld.cs f_20),[]⟩)] ((0,⟨[(.vs 2 tg_30 (l_31.map Dg.av))],[0]⟩) :: T) nx)) .none) = some o) : ML C 89 qR7 3 (mkS 135 [vv 0 (.ptr 0 0),(4,.lp 4 0),(7,.lp 7 0),vi 11 x_16,(12,.lp 12 0),vb 14 true,vv 17 (.vs 6 tg_6 (stms l_7)),vi 18 x_8,vi 19 x_9,vb 98 false,vv 102 (.agg (Sc.cs w_10)),vv 103 (.agg (Stm.cs z_13)),vv 104 (.agg (Ex.cs e_44))] [(4,⟨(Sc.cs w_10),[]⟩),(7,⟨(Stm.cs z_13),[]⟩),(12,⟨(Fld.cs f_20),[]⟩)] ((0,⟨[(.vs 2 tg_30 (l_31.map Dg.av))],[0]⟩) :: T) nx) = some o := stM C 0 (fun _ _ => by kernel_rfl) ho
theorem p89_19 {T : Hp} {nx : Nat} {tg_6 tg_11 tg_46 : Bool} {l_7 : List Stm} {x_8 x_9 x_33 x_45 : Int} {w_10 : Sc} {l_12 l_47 : List Dg} {z_13 : Stm} {e_32 : Ex} (ho : Tr.val C 89
(.br (zab [(.tuple [(i6 x_45),(.vs 2 tg_46 (l_47.map Dg.av))])])
(.br (zab [(.tuple [(i6 x_45),(.vs 2 tg_46 (l_47.map Dg.av))])])
(.br (AV.pure (.vs 2 tg_46 (l_47.map Dg.av)))
(.br (Nat.ble (((l_12.map Dg.av).length + (l_47.map Dg.av).length) * 16) za1)
(.br (Nat.ble ((l_12.map Dg.av).length + (l_47.map Dg.av).length) za1)
(.br (decide (((l_47.map Dg.av).length : Int) = 0))
(.br (!(decide (x_45 = x_33)))
(cl0 152 [(.agg (Stm.cs z_13))] fun r26 => .br (AV.pure r26.v)
(.mid 3 qR8 3 (mkS 135 [vv 0 (.ptr 0 0),(4,.lp 4 0),(7,.lp 7 0),vv 17 (.vs 6 tg_6 (stms l_7)),vi 18 x_8,vi 19 x_9,vb 128 true,vv 129 (.ptr 0 0),vv 130 (.agg (Stm.cs z_13)),vv 131 r26.v] [(4,⟨(Sc.cs w_10),[]⟩),(7,⟨(Stm.cs z_13),[]⟩)] ((0,⟨[(.vs 2 false ((l_12.map Dg.av) ++ (l_47.map Dg.av)))],[0]⟩) :: T) nx)) .none)
(.run 0 [0,5,0,5,2,3] (mkS 135 [vv 0 (.ptr 0 0),(4,.lp 4 0),vv 17 (.vs 6 tg_6 (stms l_7)),vi 18 x_8,vi 19 (w64 (x_9 + 1))] [(4,⟨(Sc.cs w_10),[]⟩)] ((0,⟨[(.vs 2 false ((l_12.map Dg.av) ++ (l_47.map Dg.av)))],[0]⟩) :: T) nx)))
(.run 0 [0,5,0,5,2,3] (mkS 135 [vv 0 (.ptr 0 0),(4,.lp 4 0),vv 17 (.vs 6 tg_6 (stms l_7)),vi 18 x_8,vi 19 (w64 (x_9 + 1))] [(4,⟨(Sc.cs w_10),[]⟩)] ((0,⟨[(.vs 2 false ((l_12.map Dg.av) ++ (l_47.map Dg.av)))],[0]⟩) :: T) nx))) .none) .none) .none) .none) .none) = some o) : ML C 89 qR2 4 (mkS 135 [vv 0 (.ptr 0 0),(4,.lp 4 0),(7,.lp 7 0),vi 11 x_33,vb 14 false,vv 17 (.vs 6 tg_6 (stms l_7)),vi 18 x_8,vi 19 x_9,vv 102 (.agg (Sc.cs w_10)),vv 103 (.agg (Stm.cs z_13)),vv 104 (.agg (Ex.cs e_32)),(105,.val (.tuple [(i6 x_45),(.vs 2 tg_46 (l_47.map Dg.av))]) (.comps [1]))] [(4,⟨(Sc.cs w_10),[]⟩),(7,⟨(Stm.cs z_13),[]⟩)] ((0,⟨[(.vs 2 tg_11 (l_12.map Dg.av))],[0]⟩) :: T) nx) = some o := stM C 9 (fun _ _ => by kernel_rfl) ho
theorem p89_20 {T : Hp} {nx : Nat} {tg_6 tg_11 tg_49 : Bool} {l_7 : List Stm} {x_8 x_9 x_16 x_48 : Int} {w_10 : Sc} {l_12 l_50 : List Dg} {z_13 : Stm} {f_20 : Fld} {e_34 : Ex} (ho : Tr.val C 89
(.br (zab [(.tuple [(i6 x_48),(.vs 2 tg_49 (l_50.map Dg.av))])])
(.br (zab [(.tuple [(i6 x_48),(.vs 2 tg_49 (l_50.map Dg.av))])])
(.br (AV.pure (.vs 2 tg_49 (l_50.map Dg.av)))
(.br (Nat.ble (((l_12.map Dg.av).length + (l_50.map Dg.av).length) * 16) za1)
(.br (Nat.ble ((l_12.map Dg.av).length + (l_50.map Dg.av).length) za1)
(.br (decide (((l_50.map Dg.av).length : Int) = 0))
(.br (!(decide (x_48 = x_16)))
(cl0 152 [(.agg (Stm.cs z_13))] fun r27 => .br (AV.pure r27.v)
(.mid 3 qR9 3 (mkS 135 [vv 0 (.ptr 0 0),(4,.lp 4 0),(7,.lp 7 0),vv 17 (.vs 6 tg_6 (stms l_7)),vi 18 x_8,vi 19 x_9,vb 128 true,vv 129 (.ptr 0 0),vv 130 (.agg (Stm.cs z_13)),vv 131 r27.v] [(4,⟨(Sc.cs w_10),[]⟩),(7,⟨(Stm.cs z_13),[]⟩)] ((0,⟨[(.vs 2 false ((l_12.map Dg.av) ++ (l_50.map Dg.av)))],[0]⟩) :: T) nx)) .none)
(.run 0 [0,5,0,5,2,3] (mkS 135 [vv 0 (.ptr 0 0),(4,.lp 4 0),vv 17 (.vs 6 tg_6 (stms l_7)),vi 18 x_8,vi 19 (w64 (x_9 + 1))] [(4,⟨(Sc.cs w_10),[]⟩)] ((0,⟨[(.vs 2 false ((l_12.map Dg.av) ++ (l_50.map Dg.av)))],[0]⟩) :: T) nx)))
(.run 0 [0,5,0,5,2,3] (mkS 135 [vv 0 (.ptr 0 0),(4,.lp 4 0),vv 17 (.vs 6 tg_6 (stms l_7)),vi 18 x_8,vi 19 (w64 (x_9 + 1))] [(4,⟨(Sc.cs w_10),[]⟩)] ((0,⟨[(.vs 2 false ((l_12.map Dg.av) ++ (l_50.map Dg.av)))],[0]⟩) :: T) nx))) .none) .none) .none) .none) .none) = some o) : ML C 89 qR3 4 (mkS 135 [vv 0 (.ptr 0 0),(4,.lp 4 0),(7,.lp 7 0),vi 11 x_16,(12,.lp 12 0),vb 14 false,vv 17 (.vs 6 tg_6 (stms l_7)),vi 18 x_8,vi 19 x_9,vb 98 false,vv 102 (.agg (Sc.cs w_10)),vv 103 (.agg (Stm.cs z_13)),vv 104 (.agg (Ex.cs e_34)),(105,.val (.tuple [(i6 x_48),(.vs 2 tg_49 (l_50.map Dg.av))]) (.comps [1]))] [(4,⟨(Sc.cs w_10),[]⟩),(7,⟨(Stm.cs z_13),[]⟩),(12,⟨(Fld.cs f_20),[]⟩)] ((0,⟨[(.vs 2 tg_11 (l_12.map Dg.av))],[0]⟩) :: T) nx) = some o := stM C 9 (fun _ _ => by kernel_rfl) ho
theorem p89_21 {T : Hp} {nx : Nat} {tg_6 tg_51 : Bool} {l_7 : List Stm} {x_8 x_9 : Int} {w_10 : Sc} {z_13 : Stm} {l_52 : List AV} (ho : Tr.val C 89
(.call 89 [(.ptr 0 0),(.agg (Sc.cs w_10)),(.vs 6 z_13.tgE (stms z_13.els))] ((0,⟨[(.vs 2 tg_51 l_52)],[0]⟩) :: T) nx fun r28 =>
(.mid 0 qR16 5 (mkS 135 [vv 0 (.ptr 0 0),(4,.lp 4 0),(7,.lp 7 0),vv 17 (.vs 6 tg_6 (stms l_7)),vi 18 x_8,vi 19 x_9,vv 59 (.ptr 0 0),vv 60 (.agg (Sc.cs w_10)),(61,.lp 7 4),vv 62 (.vs 6 z_13.tgE (stms z_13.els)),vv 63 r28.v] [(4,⟨(Sc.cs w_10),[]⟩),(7,⟨(Stm.cs z_13),[]⟩)] r28.H r28.nx))) = some o) : ML C 89 qR15 5 (mkS 135 [vv 0 (.ptr 0 0),(4,.lp 4 0),(7,.lp 7 0),vv 17 (.vs 6 tg_6 (stms l_7)),vi 18 x_8,vi 19 x_9,vv 54 (.ptr 0 0),vv 55 (.agg (Sc.cs w_10)),(56,.lp 7 3),vv 57 (.vs 6 z_13.tgT (stms z_13.thn)),vv 58 (.tuple [])] [(4,⟨(Sc.cs w_10),[]⟩),(7,⟨(Stm.cs z_13),[]⟩)] ((0,⟨[(.vs 2 tg_51 l_52)],[0]⟩) :: T) nx) = some o := stM C 2 (fun _ _ => by kernel_rfl) ho
theorem p89_22 {T : Hp} {nx : Nat} {tg_6 tg_28 tg_54 : Bool} {l_7 : List Stm} {x_8 x_9 x_40 x_53 : Int} {w_10 : Sc} {z_13 : Stm} {l_29 l_55 : List Dg} {e_39 : Ex} (ho : Tr.val C 89
(.br (zab [(.tuple [(i6 x_53),(.vs 2 tg_54 (l_55.map Dg.av))])])
(.br (zab [(.tuple [(i6 x_53),(.vs 2 tg_54 (l_55.map Dg.av))])])
(.br (AV.pure (.vs 2 tg_54 (l_55.map Dg.av)))
(.br (Nat.ble (((l_29.map Dg.av).length + (l_55.map Dg.av).length) * 16) za1)
(.br (Nat.ble ((l_29.map Dg.av).length + (l_55.map Dg.av).length) za1)
(.run 0 [0,5,0,5,2,3] (mkS 135 [vv 0 (.ptr 0 0),(4,.lp 4 0),vv 17 (.vs 6 tg_6 (stms l_7)),vi 18 x_8,vi 19 (w64 (x_9 + 1))] [(4,⟨(Sc.cs w_10),[]⟩)] ((0,⟨[(.vs 2 false ((l_29.map Dg.av) ++ (l_55.map Dg.av)))],[0]⟩) :: T) nx)) .none) .none) .none) .none) .none) = some o) : ML C 89 qR4 4 (mkS 135 [vv 0 (.ptr 0 0),(4,.lp 4 0),(7,.lp 7 0),vi 11 x_40,vb 14 true,vv 17 (.vs 6 tg_6 (stms l_7)),vi 18 x_8,vi 19 x_9,vv 102 (.agg (Sc.cs w_10)),vv 103 (.agg (Stm.cs z_13)),vv 104 (.agg (Ex.cs e_39)),(105,.val (.tuple [(i6 x_53),(.vs 2 tg_54 (l_55.map Dg.av))]) (.comps [1]))] [(4,⟨(Sc.cs w_10),[]⟩),(7,⟨(Stm.cs z_13),[]⟩)] ((0,⟨[(.vs 2 tg_28 (l_29.map Dg.av))],[0]⟩) :: T) nx) = some o := stM C 9 (fun _ _ => by kernel_rfl) ho
theorem p89_23 {T : Hp} {nx : Nat} {tg_6 tg_28 tg_57 : Bool} {l_7 : List Stm} {x_8 x_9 x_16 x_56 : Int} {w_10 : Sc} {z_13 : Stm} {f_20 : Fld} {l_29 l_58 : List Dg} {e_41 : Ex} (ho : Tr.val C 89
(.br (zab [(.tuple [(i6 x_56),(.vs 2 tg_57 (l_58.map Dg.av))])])
(.br (zab [(.tuple [(i6 x_56),(.vs 2 tg_57 (l_58.map Dg.av))])])
(.br (AV.pure (.vs 2 tg_57 (l_58.map Dg.av)))
(.br (Nat.ble (((l_29.map Dg.av).length + (l_58.map Dg.av).length) * 16) za1)
(.br (Nat.ble ((l_29.map Dg.av).length + (l_58.map Dg.av).length) za1)
(.run 0 [0,5,0,5,2,3] (mkS 135 [vv 0 (.ptr 0 0),(4,.lp 4 0),vv 17 (.vs 6 tg_6 (stms l_7)),vi 18 x_8,vi 19 (w64 (x_9 + 1))] [(4,⟨(Sc.cs w_10),[]⟩)] ((0,⟨[(.vs 2 false ((l_29.map Dg.av) ++ (l_58.map Dg.av)))],[0]⟩) :: T) nx)) .none) .none) .none) .none) .none) = some o) : ML C 89 qR5 4 (mkS 135 [vv 0 (.ptr 0 0),(4,.lp 4 0),(7,.lp 7 0),vi 11 x_16,(12,.lp 12 0),vb 14 true,vv 17 (.vs 6 tg_6 (stms l_7)),vi 18 x_8,vi 19 x_9,vb 98 false,vv 102 (.agg (Sc.cs w_10)),vv 103 (.agg (Stm.cs z_13)),vv 104 (.agg (Ex.cs e_41)),(105,.val (.tuple [(i6 x_56),(.vs 2 tg_57 (l_58.map Dg.av))]) (.comps [1]))] [(4,⟨(Sc.cs w_10),[]⟩),(7,⟨(Stm.cs z_13),[]⟩),(12,⟨(Fld.cs f_20),[]⟩)] ((0,⟨[(.vs 2 tg_28 (l_29.map Dg.av))],[0]⟩) :: T) nx) = some o := stM C 9 (fun _ _ => by kernel_rfl) ho
theorem p89_24 {T : Hp} {nx : Nat} {tg_6 tg_30 tg_60 : Bool} {l_7 : List Stm} {x_8 x_9 x_43 x_59 : Int} {w_10 : Sc} {z_13 : Stm} {l_31 l_61 : List Dg} {e_42 : Ex} (ho : Tr.val C 89
(.br (zab [(.tuple [(i6 x_59),(.vs 2 tg_60 (l_61.map Dg.av))])])
(.br (zab [(.tuple [(i6 x_59),(.vs 2 tg_60 (l_61.map Dg.av))])])
(.br (AV.pure (.vs 2 tg_60 (l_61.map Dg.av)))
(.br (Nat.ble (((l_31.map Dg.av).length + (l_61.map Dg.av).length) * 16) za1)
(.br (Nat.ble ((l_31.map Dg.av).length + (l_61.map Dg.av).length) za1)
(.run 0 [0,5,0,5,2,3] (mkS 135 [vv 0 (.ptr 0 0),(4,.lp 4 0),vv 17 (.vs 6 tg_6 (stms l_7)),vi 18 x_8,vi 19 (w64 (x_9 + 1))] [(4,⟨(Sc.cs w_10),[]⟩)] ((0,⟨[(.vs 2 false ((l_31.map Dg.av) ++ (l_61.map Dg.av)))],[0]⟩) :: T) nx)) .none) .none) .none) .none) .none) = some o) : ML C 89 qR6 4 (mkS 135 [vv 0 (.ptr 0 0),(4,.lp 4 0),(7,.lp 7 0),vi 11 x_43,vb 14 true,vv 17 (.vs 6 tg_6 (stms l_7)),vi 18 x_8,vi 19 x_9,vv 102 (.agg (Sc.cs w_10)),vv 103 (.agg (Stm.cs z_13)),vv 104 (.agg (Ex.cs e_42)),(105,.val (.tuple [(i6 x_59),(.vs 2 tg_60 (l_61.map Dg.av))]) (.comps [1]))] [(4,⟨(Sc.cs w_10),[]⟩),(7,⟨(Stm.cs z_13),[]⟩)] ((0,⟨[(.vs 2 tg_30 (l_31.map Dg.av))],[0]⟩) :: T) nx) = some o := stM C 9 (fun _ _ => by kernel_rfl) ho
theorem p89_25 {T : Hp} {nx : Nat} {tg_6 tg_30 tg_63 : Bool} {l_7 : List Stm} {x_8 x_9 x_16 x_62 : Int} {w_10 : Sc} {z_13 : Stm} {f_20 : Fld} {l_31 l_64 : List Dg} {e_44 : Ex} (ho : Tr.val C 89
(.br (zab [(.tuple [(i6 x_62),(.vs 2 tg_63 (l_64.map Dg.av))])])
(.br (zab [(.tuple [(i6 x_62),(.vs 2 tg_63 (l_64.map Dg.av))])])
(.br (AV.pure (.vs 2 tg_63 (l_64.map Dg.av)))
(.br (Nat.ble (((l_31.map Dg.av).length + (l_64.map Dg.av).length) * 16) za1)
(.br (Nat.ble ((l_31.map Dg.av).length + (l_64.map Dg.av).length) za1)
(.run 0 [0,5,0,5,2,3] (mkS 135 [vv 0 (.ptr 0 0),(4,.lp 4 0),vv 17 (.vs 6 tg_6 (stms l_7)),vi 18 x_8,vi 19 (w64 (x_9 + 1))] [(4,⟨(Sc.cs w_10),[]⟩)] ((0,⟨[(.vs 2 false ((l_31.map Dg.av) ++ (l_64.map Dg.av)))],[0]⟩) :: T) nx)) .none) .none) .none) .none) .none) = some o) : ML C 89 qR7 4 (mkS 135 [vv 0 (.ptr 0 0),(4,.lp 4 0),(7,.lp 7 0),vi 11 x_16,(12,.lp 12 0),vb 14 true,vv 17 (.vs 6 tg_6 (stms l_7)),vi 18 x_8,vi 19 x_9,vb 98 false,vv 102 (.agg (Sc.cs w_10)),vv 103 (.agg (Stm.cs z_13)),vv 104 (.agg (Ex.cs e_44)),(105,.val (.tuple [(i6 x_62),(.vs 2 tg_63 (l_64.map Dg.av))]) (.comps [1]))] [(4,⟨(Sc.cs w_10),[]⟩),(7,⟨(Stm.cs z_13),[]⟩),(12,⟨(Fld.cs f_20),[]⟩)] ((0,⟨[(.vs 2 tg_30 (l_31.map Dg.av))],[0]⟩) :: T) nx) = some o := stM C 9 (fun _ _ => by kernel_rfl) ho
theorem p89_26 {T : Hp} {nx : Nat} {tg_6 : Bool} {l_7 : List Stm} {x_8 x_9 : Int} {w_10 : Sc} {z_13 : Stm} {e_65 : Ex} {l_66 : List AV} (ho : Tr.val C 89
(.call 84 [(.ptr 0 0),(i6 e_65.at_),(i6 12)] ((0,⟨[(.vs 2 false l_66)],[0]⟩) :: T) nx fun r29 =>
(.mid 0 qR8 5 (mkS 135 [vv 0 (.ptr 0 0),(4,.lp 4 0),(7,.lp 7 0),vv 17 (.vs 6 tg_6 (stms l_7)),vi 18 x_8,vi 19 x_9,vb 128 true,vv 129 (.ptr 0 0),vv 130 (.agg (Stm.cs z_13)),vv 131 (.agg (Ex.cs e_65)),vi 132 e_65.at_,vv 133 r29.v] [(4,⟨(Sc.cs w_10),[]⟩),(7,⟨(Stm.cs z_13),[]⟩)] r29.H r29.nx))) = some o) : ML C 89 qR8 3 (mkS 135 [vv 0 (.ptr 0 0),(4,.lp 4 0),(7,.lp 7 0),vv 17 (.vs 6 tg_6 (stms l_7)),vi 18 x_8,vi 19 x_9,vb 128 true,vv 129 (.ptr 0 0),vv 130 (.agg (Stm.cs z_13)),vv 131 (.agg (Ex.cs e_65))] [(4,⟨(Sc.cs w_10),[]⟩),(7,⟨(Stm.cs z_13),[]⟩)] ((0,⟨[(.vs 2 false l_66)],[0]⟩) :: T) nx) = some o := stM C 0 (fun _ _ => by kernel_rfl) ho
theorem p89_27 {T : Hp} {nx : Nat} {tg_6 : Bool} {l_7 : List Stm} {x_8 x_9 : Int} {w_10 : Sc} {z_13 : Stm} {e_67 : Ex} {l_68 : List AV} (ho : Tr.val C 89
(.call 84 [(.ptr 0 0),(i6 e_67.at_),(i6 12)] ((0,⟨[(.vs 2 false l_68)],[0]⟩) :: T) nx fun r30 =>
(.mid 0 qR9 5 (mkS 135 [vv 0 (.ptr 0 0),(4,.lp 4 0),(7,.lp 7 0),vv 17 (.vs 6 tg_6 (stms l_7)),vi 18 x_8,vi 19 x_9,vb 128 true,vv 129 (.ptr 0 0),vv 130 (.agg (Stm.cs z_13)),vv 131 (.agg (Ex.cs e_67)),vi 132 e_67.at_,vv 133 r30.v] [(4,⟨(Sc.cs w_10),[]⟩),(7,⟨(Stm.cs z_13),[]⟩)] r30.H r30.nx))) = some o) : ML C 89 qR9 3 (mkS 135 [vv 0 (.ptr 0 0),(4,.lp 4 0),(7,.lp 7 0),vv 17 (.vs 6 tg_6 (stms l_7)),vi 18 x_8,vi 19 x_9,vb 128 true,vv 129 (.ptr 0 0),vv 130 (.agg (Stm.cs z_13)),vv 131 (.agg (Ex.cs e_67))] [(4,⟨(Sc.cs w_10),[]⟩),(7,⟨(Stm.cs z_13),[]⟩)] ((0,⟨[(.vs 2 false l_68)],[0]⟩) :: T) nx) = some o := stM C 0 (fun _ _ => by kernel_rfl) ho
theorem p89_28 {T : Hp} {nx : Nat} {tg_6 tg_69 : Bool} {l_7 : List Stm} {x_8 x_9 : Int} {w_10 : Sc} {z_13 : Stm} {l_70 : List AV} (ho : Tr.val C 89
(.run 0 [0,5,0,5,2,3] (mkS 135 [vv 0 (.ptr 0 0),(4,.lp 4 0),vv 17 (.vs 6 tg_6 (stms l_7)),vi 18 x_8,vi 19 (w64 (x_9 + 1))] [(4,⟨(Sc.cs w_10),[]⟩)] ((0,⟨[(.vs 2 tg_69 l_70)],[0]⟩) :: T) nx)) = some o) : ML C 89 qR16 5 (mkS 135 [vv 0 (.ptr 0 0),(4,.lp 4 0),(7,.lp 7 0),vv 17 (.vs 6 tg_6 (stms l_7)),vi 18 x_8,vi 19 x_9,vv 59 (.ptr 0 0),vv 60 (.agg (Sc.cs w_10)),(61,.lp 7 4),vv 62 (.vs 6 z_13.tgE (stms z_13.els)),vv 63 (.tuple [])] [(4,⟨(Sc.cs w_10),[]⟩),(7,⟨(Stm.cs z_13),[]⟩)] ((0,⟨[(.vs 2 tg_69 l_70)],[0]⟩) :: T) nx) = some o := stM C 3 (fun _ _ => by kernel_rfl) ho
theorem p89_29 {T : Hp} {nx : Nat} {tg_6 tg_71 : Bool} {l_7 : List Stm} {x_8 x_9 : Int} {w_10 : Sc} {z_13 : Stm} {e_65 : Ex} {l_72 : List AV} (ho : Tr.val C 89
(.run 0 [0,5,0,5,2,3] (mkS 135 [vv 0 (.ptr 0 0),(4,.lp 4 0),vv 17 (.vs 6 tg_6 (stms l_7)),vi 18 x_8,vi 19 (w64 (x_9 + 1))] [(4,⟨(Sc.cs w_10),[]⟩)] ((0,⟨[(.vs 2 tg_71 l_72)],[0]⟩) :: T) nx)) = some o) : ML C 89 qR8 5 (mkS 135 [vv 0 (.ptr 0 0),(4,.lp 4 0),(7,.lp 7 0),vv 17 (.vs 6 tg_6 (stms l_7)),vi 18 x_8,vi 19 x_9,vb 128 true,vv 129 (.ptr 0 0),vv 130 (.agg (Stm.cs z_13)),vv 131 (.agg (Ex.cs e_65)),vi 132 e_65.at_,vv 133 (.tuple [])] [(4,⟨(Sc.cs w_10),[]⟩),(7,⟨(Stm.cs z_13),[]⟩)] ((0,⟨[(.vs 2 tg_71 l_72)],[0]⟩) :: T) nx) = some o := stM C 3 (fun _ _ => by kernel_rfl) ho
theorem p89_30 {T : Hp} {nx : Nat} {tg_6 tg_73 : Bool} {l_7 : List Stm} {x_8 x_9 : Int} {w_10 : Sc} {z_13 : Stm} {e_67 : Ex} {l_74 : List AV} (ho : Tr.val C 89
(.run 0 [0,5,0,5,2,3] (mkS 135 [vv 0 (.ptr 0 0),(4,.lp 4 0),vv 17 (.vs 6 tg_6 (stms l_7)),vi 18 x_8,vi 19 (w64 (x_9 + 1))] [(4,⟨(Sc.cs w_10),[]⟩)] ((0,⟨[(.vs 2 tg_73 l_74)],[0]⟩) :: T) nx)) = some o) : ML C 89 qR9 5 (mkS 135 [vv 0 (.ptr 0 0),(4,.lp 4 0),(7,.lp 7 0),vv 17 (.vs 6 tg_6 (stms l_7)),vi 18 x_8,vi 19 x_9,vb 128 true,vv 129 (.ptr 0 0),vv 130 (.agg (Stm.cs z_13)),vv 131 (.agg (Ex.cs e_67)),vi 132 e_67.at_,vv 133 (.tuple [])] [(4,⟨(Sc.cs w_10),[]⟩),(7,⟨(Stm.cs z_13),[]⟩)] ((0,⟨[(.vs 2 tg_73 l_74)],[0]⟩) :: T) nx) = some o := stM C 3 (fun _ _ => by kernel_rfl) ho
end Go.Proofs.YtfdklpkfpmkgeaaGreatDoor
end
section
namespace Go.Proofs.YtfdklpkfpmkgeaaGreatDoor
open Go Go.Vai
attribute [local irreducible] goTo zaq mkS
set_option maxHeartbeats 40000000
abbrev s89 (w : Sc) (tL : Bool) (L : List Stm) (i : Int) (tg : Bool) (l : List Dg) (T : Hp) (nx : Nat) : St := mkS 135 [(0,.val (.ptr 0 0) .no),(4,.lp 4 0),(17,.val (.vs 6 tL (stms L)) .no),(18,.val (.int .i64 (L.length : Int)) .no),(19,.val (.int .i64 i) .no)] [(4,⟨(Sc.cs w),[]⟩)] (hD tg l T) nx
abbrev m89 (w : Sc) (tL : Bool) (L : List Stm) (i : Int) (z : Stm) (tg : Bool) (l : List Dg) (T : Hp) (nx : Nat) : St := mkS 135 [(0,.val (.ptr 0 0) .no),(4,.lp 4 0),(17,.val (.vs 6 tL (stms L)) .no),(18,.val (.int .i64 (L.length : Int)) .no),(19,.val (.int .i64 i) .no),(20,.val (.bool true) .no),(21,.val (.cptr (Stm.cs z)) .no)] [(4,⟨(Sc.cs w),[]⟩)] (hD tg l T) nx
theorem zhl (l r : List Dg) : l.map Dg.av ++ r.map Dg.av = (l ++ r).map Dg.av := List.map_append.symm
variable {C : Nat→Oracle} (hC : Ext C)
include hC
theorem b_if (w : Sc) (hF : w.t.fields.length ≤ 1000000) (hP : w.ps.length ≤ 1000000) (T : Hp) (nx : Nat) (z : Stm) (hk : z.kind = 6) (hv : WfE (valS z)) (hs : (valS z).sz ≤ 1000000) (tL : Bool) (L : List Stm) (hL : L.length ≤ 400000) (i : Nat) (hi : i < L.length) (tg : Bool) (l : List Dg)
  (nT nE : Nat) (hnT : (zcw w z.thn).length ≤ nT)
  (hT : ∀ t l',l'.length + nT ≤ 1000000→Was (calL C 89 [.ptr 0 0,.agg w.cs,.vs 6 z.tgT (stms z.thn)] (hD t l' T) nx) (QD (l' ++ zcw w z.thn) T nx))
  (hE : ∀ t l',l'.length + nE ≤ 1000000→Was (calL C 89 [.ptr 0 0,.agg w.cs,.vs 6 z.tgE (stms z.els)] (hD t l' T) nx) (QD (l' ++ zcw w z.els) T nx))
  (hb : l.length + ((tyE w (valS z)).2.length + 1) + nT + nE ≤ 1000000) {Q : Out→Prop}
  (K : ∀ t,Was (RL C 89 [0,5,0,5,2,3] (s89 w tL L ((i + 1 : Nat) : Int) t (l ++ ifD w (valS z) ++ zcw w z.thn ++ zcw w z.els) T nx)) Q) :
  Was (ML C 89 [0,5,0,5,2,3,0,5,0,6,5,0,2,0] 1 (m89 w tL L (i : Int) z tg l T nx)) Q:=by
 have hw := wi64 hi (by omega)
 unfold ifD at K
 refine exW (fun o=>p89_2) ?_
 simp only [Tr.val,List.length_map,Int.toNat_natCast,zal,zas,zan,Option.map_some,Option.bind_some,Fld.av_cs,Par.av_cs,Dg.av_cs,Typ.av_cs,Qry.av_cs,Ex.av_cs,zaf,AV.pure,zab,zaa,za2,zad,za5,za9,zac,za3,za8,za6,za7,za4,za0]
 refine .bT hk ?_
 refine .call (w152 hC z) ?_
 rintro o rfl
 simp only [AV.pure,zab,zaa,za2,zad,za5,za9,zac,za3,za8,za6,za7,za4,za0,za2]
 refine exW (fun o=>p89_3) ?_
 simp only [Tr.val,List.length_map,Int.toNat_natCast,zal,zas,zan,Option.map_some,Option.bind_some,Fld.av_cs,Par.av_cs,Dg.av_cs,Typ.av_cs,Qry.av_cs,Ex.av_cs,zaf,AV.pure,zab,zaa,za2,zad,za5,za9,zac,za3,za8,za6,za7,za4,za0]
 refine .call (w52 hC w hF hP _ hv hs) ?_
 rintro o ⟨t1,e⟩
 simp only [e,AV.pure,zab,za9,za0]
 refine exW (fun o=>p89_5) ?_
 generalize hr : tyE w (valS z) = r at *
 obtain ⟨x,d⟩ := r
 simp only [Tr.val,AV.pure,zab,za9,za0,List.length_map] at *
 refine .brn (zae (by omega)) (.brn (zae (by omega)) ?_)
 rw [zhl]
 have go : ¬ (d = []∧x ≠ 3)→Was ((calL C 89 [.ptr 0 0,.agg w.cs,.vs 6 z.tgT (stms z.thn)] (hD false (l ++ d) T) nx).bind fun r8=>ML C 89 [0,5,0,5,2,3,0,5,0,6,5,0,2,0,5,0,0,5,6,0,5,0,5,0,0,5,7,5,0] 5 (mkS 135 [(0,.val (.ptr 0 0) .no),(4,.lp 4 0),(7,.lp 7 0),(17,.val (.vs 6 tL (stms L)) .no),(18,.val (.int .i64 (L.length : Int)) .no),(19,.val (.int .i64 (i : Int)) .no),(48,.val (.bool false) .no),(54,.val (.ptr 0 0) .no),(55,.val (.agg (Sc.cs w)) .no),(56,.lp 7 3),(57,.val (.vs 6 z.tgT (stms z.thn)) .no),(58,.val r8.v .no)] [(4,⟨(Sc.cs w),[]⟩),(7,⟨(Stm.cs z),[]⟩)] r8.H r8.nx)) Q:=by
  intro hn
  rw [if_neg hn,List.append_nil] at K
  refine .call (hT false (l ++ d) (by rw [List.length_append]; omega)) ?_
  rintro o ⟨t2,rfl⟩
  refine exW (fun o=>p89_8) ?_
  refine .call (hE t2 _ (by simp only [List.length_append]; omega)) ?_
  rintro o ⟨t3,rfl⟩
  refine exW (fun o=>p89_14) ?_
  show Was (RL C 89 _ _) Q
  rw [hw]
  exact K t3
 by_cases hd : d = []
 ·refine .bT (by rw [hd]; rfl) (Was.ndec (fun hx=>?_) (fun hx=>go (fun h=>h.2 hx)))
  rw [if_pos ⟨hd,hx⟩] at K
  refine .brn (by simp only [za6,AV.pure,zab,za0]) ?_
  refine .call (w152 hC z) ?_
  rintro o rfl
  refine .brn (by simp only [AV.pure,za2]) ?_
  refine exW (fun o=>p89_7) ?_
  refine .call (w84 hC T nx false (l ++ d) (by rw [List.length_append]; omega) _ _) ?_
  rintro o ⟨t2,rfl⟩
  refine exW (fun o=>p89_13) ?_
  refine .call (hT t2 _ (by simp only [List.length_append,List.length_cons,List.length_nil]; omega)) ?_
  rintro o ⟨t3,rfl⟩
  refine exW (fun o=>p89_21) ?_
  refine .call (hE t3 _ (by simp only [List.length_append,List.length_cons,List.length_nil]; omega)) ?_
  rintro o ⟨t4,rfl⟩
  refine exW (fun o=>p89_28) ?_
  show Was (RL C 89 _ _) Q
  rw [hw]
  rw [← List.append_assoc] at K
  exact K t4
 ·exact .bF (by intro h; exact hd (List.length_eq_zero_iff.1 (by omega))) (go fun h=>hd h.1)
theorem b_st (w : Sc) (hF : w.t.fields.length ≤ 1000000) (hP : w.ps.length ≤ 1000000) (T : Hp) (nx : Nat) (z : Stm) (hk : z.kind ≠ 6) (hv : z.kind ≠ 5→WfE (valS z)) (hs : (valS z).sz ≤ 1000000) (tL : Bool) (L : List Stm) (hL : L.length ≤ 400000) (i : Nat) (hi : i < L.length) (tg : Bool) (l : List Dg)
  (hb : l.length + ((tyE w (valS z)).2.length + 2) ≤ 1000000) {Q : Out→Prop}
  (K : ∀ t D,D = l ++ stD w z→Was (RL C 89 [0,5,0,5,2,3] (s89 w tL L ((i + 1 : Nat) : Int) t D T nx)) Q) :
  Was (ML C 89 [0,5,0,5,2,3,0,5,0,6,5,0,2,0] 1 (m89 w tL L (i : Int) z tg l T nx)) Q:=by
 have hw := wi64 hi (by omega)
 refine exW (fun o=>p89_2) ?_
 simp only [Tr.val,List.length_map,Int.toNat_natCast,zal,zas,zan,Option.map_some,Option.bind_some,Fld.av_cs,Par.av_cs,Dg.av_cs,Typ.av_cs,Qry.av_cs,Ex.av_cs,zaf,AV.pure,zab,zaa,za2,zad,za5,za9,zac,za3,za8,za6,za7,za4,za0]
 refine .bF hk ?_
 refine .call (w153 hC z.kind) ?_
 rintro o rfl
 simp only [AV.pure,zab,zaa,za2,zad,za5,za9,zac,za3,za8,za6,za7,za4,za0]
 refine exW (fun o=>p89_4) ?_
 simp only [Tr.val,List.length_map,Int.toNat_natCast,zal,zas,zan,Option.map_some,Option.bind_some,Fld.av_cs,Par.av_cs,Dg.av_cs,Typ.av_cs,Qry.av_cs,Ex.av_cs,zaf,AV.pure,zab,zaa,za2,zad,za5,za9,zac,za3,za8,za6,za7,za4,za0]
 refine .call (w94 hC w.t hF z.field) ?_
 rintro o e
 cases hf : fldF w.t.fields z.field with
 | none =>
  rw [hf] at e
  simp only [e,fOut,AV.pure,zab,zgw,za0]
  refine exW (fun o=>p89_6) ?_
  simp only [Tr.val,List.length_map,Int.toNat_natCast,zal,zas,zan,Option.map_some,Option.bind_some,Fld.av_cs,Par.av_cs,Dg.av_cs,Typ.av_cs,Qry.av_cs,Ex.av_cs,zaf,AV.pure,zab,zaa,za2,zad,za5,za9,zac,za3,za8,za6,za7,za4,za0]
  refine .brn rfl ?_
  refine .call (w84 hC T nx tg l (by omega) _ _) ?_
  rintro o ⟨t0,rfl⟩
  refine exW (fun o=>p89_9) ?_
  simp only [Tr.val,List.length_map,Int.toNat_natCast,zal,zas,zan,Option.map_some,Option.bind_some,Fld.av_cs,Par.av_cs,Dg.av_cs,Typ.av_cs,Qry.av_cs,Ex.av_cs,zaf,AV.pure,zab,zaa,za2,zad,za5,za9,zac,za3,za8,za6,za7,za4,za0]
  refine .dec (fun h5=>?_) (fun h5=>?_)
  ·rw [hw]
   exact K t0 _ (by unfold stD; simp only [hf]; rw [if_pos h5])
  have hst : l ++ stD w z = (l ++ [⟨z.at_,6⟩]) ++ (tyE w (valS z)).2 := by unfold stD; simp only [hf]; rw [if_neg h5,if_neg (by intro h; cases h.1),List.append_nil,List.append_assoc]
  have hv := hv h5
  have hl : (l ++ [(⟨z.at_,6⟩ : Dg)]).length = l.length + 1 := by rw [List.length_append]; rfl
  refine .dec (fun h1=>?_) (fun h1=>?_)
  ·refine .call (w152 hC z) ?_
   rintro o rfl
   simp only [AV.pure,zab,zaa,za2,zad,za5,za9,zac,za3,za8,za6,za7,za4,za0,za2]
   refine exW (fun o=>p89_15) ?_
   simp only [Tr.val,List.length_map,Int.toNat_natCast,zal,zas,zan,Option.map_some,Option.bind_some,Fld.av_cs,Par.av_cs,Dg.av_cs,Typ.av_cs,Qry.av_cs,Ex.av_cs,zaf,AV.pure,zab,zaa,za2,zad,za5,za9,zac,za3,za8,za6,za7,za4,za0]
   refine .call (w52 hC w hF hP _ hv hs) ?_
   rintro o ⟨t1,e⟩
   simp only [e,AV.pure,zab,za9,za0]
   refine exW (fun o=>p89_22) ?_
   simp only [Tr.val,AV.pure,zab,za9,za0,List.length_map]
   refine .brn (zae (by omega)) (.brn (zae (by omega)) ?_)
   rw [zhl]
   rw [hw]
   exact K false _ hst.symm
  ·refine .call (w152 hC z) ?_
   rintro o rfl
   simp only [AV.pure,zab,zaa,za2,zad,za5,za9,zac,za3,za8,za6,za7,za4,za0,za2]
   refine exW (fun o=>p89_16) ?_
   simp only [Tr.val,List.length_map,Int.toNat_natCast,zal,zas,zan,Option.map_some,Option.bind_some,Fld.av_cs,Par.av_cs,Dg.av_cs,Typ.av_cs,Qry.av_cs,Ex.av_cs,zaf,AV.pure,zab,zaa,za2,zad,za5,za9,zac,za3,za8,za6,za7,za4,za0]
   refine .call (w52 hC w hF hP _ hv hs) ?_
   rintro o ⟨t1,e⟩
   simp only [e,AV.pure,zab,za9,za0]
   refine exW (fun o=>p89_23) ?_
   simp only [Tr.val,AV.pure,zab,za9,za0,List.length_map]
   refine .brn (zae (by omega)) (.brn (zae (by omega)) ?_)
   rw [zhl]
   rw [hw]
   exact K false _ hst.symm
 | some f =>
  rw [hf] at e
  simp only [e,fOut,AV.pure,zab,zgw,za0]
  refine exW (fun o=>p89_6) ?_
  simp only [Tr.val,List.length_map,Int.toNat_natCast,zal,zas,zan,Option.map_some,Option.bind_some,Fld.av_cs,Par.av_cs,Dg.av_cs,Typ.av_cs,Qry.av_cs,Ex.av_cs,zaf,AV.pure,zab,zaa,za2,zad,za5,za9,zac,za3,za8,za6,za7,za4,za0]
  refine .brf rfl ?_
  refine Was.ndec (fun hk'=>?_) (fun hk'=>?_)
  ·refine .call (w84 hC T nx tg l (by omega) _ _) ?_
   rintro o ⟨t0,rfl⟩
   refine exW (fun o=>p89_10) ?_
   simp only [Tr.val,List.length_map,Int.toNat_natCast,zal,zas,zan,Option.map_some,Option.bind_some,Fld.av_cs,Par.av_cs,Dg.av_cs,Typ.av_cs,Qry.av_cs,Ex.av_cs,zaf,AV.pure,zab,zaa,za2,zad,za5,za9,zac,za3,za8,za6,za7,za4,za0]
   refine .dec (fun h5=>?_) (fun h5=>?_)
   ·rw [hw]
    exact K t0 _ (by unfold stD; simp only [hf]; rw [if_pos h5,if_neg hk'])
   have hst : l ++ stD w z = (l ++ [⟨z.at_,10⟩]) ++ (tyE w (valS z)).2 := by unfold stD; simp only [hf]; rw [if_neg h5,if_neg hk',if_neg (by intro h; cases h.1),List.append_nil,List.append_assoc]
   have hv := hv h5
   have hl : (l ++ [(⟨z.at_,10⟩ : Dg)]).length = l.length + 1 := by rw [List.length_append]; rfl
   refine .dec (fun h1=>?_) (fun h1=>?_)
   ·refine .call (w152 hC z) ?_
    rintro o rfl
    simp only [AV.pure,zab,zaa,za2,zad,za5,za9,zac,za3,za8,za6,za7,za4,za0,za2]
    refine exW (fun o=>p89_17) ?_
    simp only [Tr.val,List.length_map,Int.toNat_natCast,zal,zas,zan,Option.map_some,Option.bind_some,Fld.av_cs,Par.av_cs,Dg.av_cs,Typ.av_cs,Qry.av_cs,Ex.av_cs,zaf,AV.pure,zab,zaa,za2,zad,za5,za9,zac,za3,za8,za6,za7,za4,za0]
    refine .call (w52 hC w hF hP _ hv hs) ?_
    rintro o ⟨t1,e⟩
    simp only [e,AV.pure,zab,za9,za0]
    refine exW (fun o=>p89_24) ?_
    simp only [Tr.val,AV.pure,zab,za9,za0,List.length_map]
    refine .brn (zae (by omega)) (.brn (zae (by omega)) ?_)
    rw [zhl]
    rw [hw]
    exact K false _ hst.symm
   ·refine .call (w152 hC z) ?_
    rintro o rfl
    simp only [AV.pure,zab,zaa,za2,zad,za5,za9,zac,za3,za8,za6,za7,za4,za0,za2]
    refine exW (fun o=>p89_18) ?_
    simp only [Tr.val,List.length_map,Int.toNat_natCast,zal,zas,zan,Option.map_some,Option.bind_some,Fld.av_cs,Par.av_cs,Dg.av_cs,Typ.av_cs,Qry.av_cs,Ex.av_cs,zaf,AV.pure,zab,zaa,za2,zad,za5,za9,zac,za3,za8,za6,za7,za4,za0]
    refine .call (w52 hC w hF hP _ hv hs) ?_
    rintro o ⟨t1,e⟩
    simp only [e,AV.pure,zab,za9,za0]
    refine exW (fun o=>p89_25) ?_
    simp only [Tr.val,AV.pure,zab,za9,za0,List.length_map]
    refine .brn (zae (by omega)) (.brn (zae (by omega)) ?_)
    rw [zhl]
    rw [hw]
    exact K false _ hst.symm
  ·refine .dec (fun h5=>?_) (fun h5=>?_)
   ·rw [hw]
    exact K tg _ (by unfold stD; simp only [hf]; rw [if_pos h5,if_pos hk',List.append_nil])
   have hv := hv h5
   refine .dec (fun h1=>?_) (fun h1=>?_)
   ·have hst : l ++ stD w z = (l ++ (tyE w (valS z)).2) ++ (if (tyE w (valS z)).2 = []∧(tyE w (valS z)).1 ≠ f.type then [⟨(valS z).at_,12⟩] else []) := by unfold stD; simp only [hf]; rw [if_neg h5,if_pos hk',if_pos h1,List.nil_append,List.append_assoc]; simp
    refine .call (w152 hC z) ?_
    rintro o rfl
    simp only [AV.pure,zab,zaa,za2,zad,za5,za9,zac,za3,za8,za6,za7,za4,za0,za2]
    refine exW (fun o=>p89_11) ?_
    simp only [Tr.val,List.length_map,Int.toNat_natCast,zal,zas,zan,Option.map_some,Option.bind_some,Fld.av_cs,Par.av_cs,Dg.av_cs,Typ.av_cs,Qry.av_cs,Ex.av_cs,zaf,AV.pure,zab,zaa,za2,zad,za5,za9,zac,za3,za8,za6,za7,za4,za0]
    refine .call (w52 hC w hF hP _ hv hs) ?_
    rintro o ⟨t1,e⟩
    simp only [e,AV.pure,zab,za9,za0]
    refine exW (fun o=>p89_19) ?_
    simp only [Tr.val,AV.pure,zab,za9,za0,List.length_map]
    refine .brn (zae (by omega)) (.brn (zae (by omega)) ?_)
    rw [zhl]
    by_cases hd : (tyE w (valS z)).2 = []
    ·refine .bT (by rw [hd]; rfl) (Was.ndec (fun hx=>?_) (fun hx=>?_))
     ·refine .brn (by simp only [za6,AV.pure,zab,za0]) ?_
      refine .call (w152 hC z) ?_
      rintro o rfl
      refine .brn (by simp only [AV.pure,za2]) ?_
      refine exW (fun o=>p89_26) ?_
      refine .call (w84 hC T nx false _ (by rw [List.length_append]; omega) _ _) ?_
      rintro o ⟨t2,rfl⟩
      refine exW (fun o=>p89_29) ?_
      show Was (RL C 89 _ _) Q
      rw [hw]
      exact K t2 _ (by rw [hst,if_pos ⟨hd,hx⟩])
     ·rw [hw]
      exact K false _ (by rw [hst,if_neg (fun h=>h.2 hx),List.append_nil])
    ·refine .bF (by intro h; exact hd (List.length_eq_zero_iff.1 (by omega))) ?_
     rw [hw]
     exact K false _ (by rw [hst,if_neg (fun h=>hd h.1),List.append_nil])
   ·have hst : l ++ stD w z = (l ++ (tyE w (valS z)).2) ++ (if (tyE w (valS z)).2 = []∧(tyE w (valS z)).1 ≠ (kOf z.kind).2 then [⟨(valS z).at_,12⟩] else []) := by unfold stD; simp only [hf]; rw [if_neg h5,if_pos hk',if_neg h1,List.nil_append,List.append_assoc]; simp
    refine .call (w152 hC z) ?_
    rintro o rfl
    simp only [AV.pure,zab,zaa,za2,zad,za5,za9,zac,za3,za8,za6,za7,za4,za0,za2]
    refine exW (fun o=>p89_12) ?_
    simp only [Tr.val,List.length_map,Int.toNat_natCast,zal,zas,zan,Option.map_some,Option.bind_some,Fld.av_cs,Par.av_cs,Dg.av_cs,Typ.av_cs,Qry.av_cs,Ex.av_cs,zaf,AV.pure,zab,zaa,za2,zad,za5,za9,zac,za3,za8,za6,za7,za4,za0]
    refine .call (w52 hC w hF hP _ hv hs) ?_
    rintro o ⟨t1,e⟩
    simp only [e,AV.pure,zab,za9,za0]
    refine exW (fun o=>p89_20) ?_
    simp only [Tr.val,AV.pure,zab,za9,za0,List.length_map]
    refine .brn (zae (by omega)) (.brn (zae (by omega)) ?_)
    rw [zhl]
    by_cases hd : (tyE w (valS z)).2 = []
    ·refine .bT (by rw [hd]; rfl) (Was.ndec (fun hx=>?_) (fun hx=>?_))
     ·refine .brn (by simp only [za6,AV.pure,zab,za0]) ?_
      refine .call (w152 hC z) ?_
      rintro o rfl
      refine .brn (by simp only [AV.pure,za2]) ?_
      refine exW (fun o=>p89_27) ?_
      refine .call (w84 hC T nx false _ (by rw [List.length_append]; omega) _ _) ?_
      rintro o ⟨t2,rfl⟩
      refine exW (fun o=>p89_30) ?_
      show Was (RL C 89 _ _) Q
      rw [hw]
      exact K t2 _ (by rw [hst,if_pos ⟨hd,hx⟩])
     ·rw [hw]
      exact K false _ (by rw [hst,if_neg (fun h=>h.2 hx),List.append_nil])
    ·refine .bF (by intro h; exact hd (List.length_eq_zero_iff.1 (by omega))) ?_
     rw [hw]
     exact K false _ (by rw [hst,if_neg (fun h=>hd h.1),List.append_nil])
end Go.Proofs.YtfdklpkfpmkgeaaGreatDoor
end
section
namespace Go.Proofs.YtfdklpkfpmkgeaaGreatDoor
open Go Go.Vai
attribute [local irreducible] goTo zaq mkS
set_option maxHeartbeats 40000000
set_option linter.unusedSectionVars false
theorem zid (l : List Stm) : (stms l).length = l.length := by rw [ze1,List.length_map]
theorem nth_stms (l : List Stm) (i : Nat) : nth (stms l) i = l[i]?.map Stm.av := by rw [ze1,zal]
mutual
def wtS (w : Sc) : Stm→Nat
 | .mk k s v t1 th t2 el a=>(tyE w (valS (.mk k s v t1 th t2 el a))).2.length + 2 + wtL w th + wtL w el
def wtL (w : Sc) : List Stm→Nat
 | []=>0
 | z :: l=>wtS w z + wtL w l
end
mutual
def WfS : Stm→Prop
 | .mk k s v t1 th t2 el a=>(k ≠ 5→WfE (valS (.mk k s v t1 th t2 el a)))∧(valS (.mk k s v t1 th t2 el a)).sz ≤ 1000000∧th.length ≤ 400000∧el.length ≤ 400000∧WfSL th∧WfSL el
def WfSL : List Stm→Prop
 | []=>True
 | z :: l=>WfS z∧WfSL l
end
theorem zfw {p : Prop} [Decidable p] (x : Dg) : (if p then [x] else []).length ≤ 1 := by split <;> simp
theorem stD_len (w : Sc) (z : Stm) : (stD w z).length ≤ (tyE w (valS z)).2.length + 2:=by
 unfold stD
 cases fldF w.t.fields z.field with
 | none =>
  simp only
  split
  ·simp
  ·rw [List.length_append,List.length_append,if_neg (by intro h; cases h.1)]
   simp only [List.length_cons,List.length_nil]
   omega
 | some f =>
  simp only
  by_cases h : f.kind = (kOf z.kind).1
  ·simp only [if_pos h]
   split
   ·simp
   ·rw [List.length_append,List.length_append]
    refine Nat.le_trans (Nat.add_le_add_left (zfw _) _) ?_
    simp only [List.length_nil]
    omega
  ·simp only [if_neg h]
   split
   ·simp
   ·rw [List.length_append,List.length_append,if_neg (by intro h; cases h.1)]
    simp only [List.length_cons,List.length_nil]
    omega
theorem ifD_len (w : Sc) (e : Ex) : (ifD w e).length ≤ (tyE w e).2.length + 1:=by
 unfold ifD
 rw [List.length_append]
 split <;> simp only [List.length_cons,List.length_nil] <;> omega
mutual
theorem znm (w : Sc) : ∀ z : Stm,(zkp w z).length ≤ wtS w z
 | .mk k s v t1 th t2 el a=>by
  have h1 := zdj w th
  have h2 := zdj w el
  rw [zkp,wtS]
  split
  ·rw [List.length_append,List.length_append]
   have := ifD_len w (valS (.mk k s v t1 th t2 el a))
   omega
  ·have := stD_len w (.mk k s v t1 th t2 el a)
   omega
theorem zdj (w : Sc) : ∀ l : List Stm,(zcw w l).length ≤ wtL w l
 | []=>by rw [zcw,wtL]; exact Nat.le_refl _
 | z :: l=>by
  have h1 := znm w z
  have h2 := zdj w l
  rw [zcw,wtL,List.length_append]
  omega
end
variable {C : Nat→Oracle} (hC : Ext C) (w : Sc) (hF : w.t.fields.length ≤ 1000000) (hP : w.ps.length ≤ 1000000) (T : Hp) (nx : Nat)
include hC hF hP
mutual
theorem t_stm : ∀ z : Stm,WfS z→∀ (tL : Bool) (L : List Stm),L.length ≤ 400000→∀ i,i < L.length→∀ tg l,l.length + wtS w z ≤ 1000000→∀ Q : Out→Prop,
  (∀ t,Was (RL C 89 [0,5,0,5,2,3] (s89 w tL L ((i + 1 : Nat) : Int) t (l ++ zkp w z) T nx)) Q)→Was (ML C 89 [0,5,0,5,2,3,0,5,0,6,5,0,2,0] 1 (m89 w tL L (i : Int) z tg l T nx)) Q
 | .mk k s v t1 th t2 el a=>fun hz tL L hL i hi tg l hb Q K=>by
  rw [WfS] at hz
  rw [wtS] at hb
  rw [zkp] at K
  by_cases hk : k = 6
  ·rw [if_pos hk] at K
   have r1 := zpy th hz.2.2.2.2.1 t1 th hz.2.2.1
   have r2 := zpy el hz.2.2.2.2.2 t2 el hz.2.2.2.1
   refine b_if hC w hF hP T nx (.mk k s v t1 th t2 el a) hk (hz.1 (by omega)) hz.2.1 tL L hL i hi tg l (wtL w th) (wtL w el) (zdj w th) ?_ ?_ (by omega) (fun t=>?_)
   ·intro t l' h'
    exact exW (fun o=>p89_c hC) (exW (fun o=>p89_0) (by rw [zid]; exact r1 0 rfl (Nat.zero_le _) t l' h'))
   ·intro t l' h'
    exact exW (fun o=>p89_c hC) (exW (fun o=>p89_0) (by rw [zid]; exact r2 0 rfl (Nat.zero_le _) t l' h'))
   ·have K := K t
    rw [← List.append_assoc,← List.append_assoc] at K
    exact K
  ·rw [if_neg hk] at K
   exact b_st hC w hF hP T nx (.mk k s v t1 th t2 el a) hk hz.1 hz.2.1 tL L hL i hi tg l (by omega) (fun t D e=>by rw [e]; exact K t)
theorem zpy : ∀ r : List Stm,WfSL r→∀ (tL : Bool) (L : List Stm),L.length ≤ 400000→∀ i,L.drop i = r→i ≤ L.length→∀ tg l,l.length + wtL w r ≤ 1000000 →
  Was (RL C 89 [0,5,0,5,2,3] (s89 w tL L (i : Int) tg l T nx)) (QD (l ++ zcw w r) T nx)
 | []=>fun _ tL L hL i hi hil tg l hb=>by
  have := zaj _ _ hil hi
  refine exW (fun o=>p89_1) ?_
  exact .bF (by omega) (.mk ⟨tg,by rw [zcw,List.append_nil]⟩)
 | z :: r=>fun hz tL L hL i hi hil tg l hb=>by
  rw [WfSL] at hz
  rw [wtL] at hb
  obtain ⟨h1,h2,h3⟩ := zau _ _ hi
  have hl := znm w z
  refine exW (fun o=>p89_1) ?_
  simp only [Tr.val,zid,Int.toNat_natCast,nth_stms,h1,Option.map_some,Option.bind_some,Stm.av_cs,zaf]
  refine .bT (by omega) (.bT (by omega) (.bT (by omega) ?_))
  refine t_stm z hz.1 tL L hL i h3 tg l (by omega) _ (fun t=>?_)
  have := zpy r hz.2 tL L hL (i + 1) h2 (by omega) t (l ++ zkp w z) (by rw [List.length_append]; omega)
  rw [zcw,← List.append_assoc]
  exact this
end
theorem w89 (tL : Bool) (L : List Stm) (hL : L.length ≤ 400000) (hz : WfSL L) (tg : Bool) (l : List Dg) (hb : l.length + wtL w L ≤ 1000000) : Was (calL C 89 [.ptr 0 0,.agg w.cs,.vs 6 tL (stms L)] (hD tg l T) nx) (QD (l ++ zcw w L) T nx) :=
 exW (fun o=>p89_c hC) (exW (fun o=>p89_0) (by rw [zid]; exact zpy hC w hF hP T nx L hz tL L hL 0 rfl (Nat.zero_le _) tg l hb))
end Go.Proofs.YtfdklpkfpmkgeaaGreatDoor
end
section
namespace Go.Proofs.YtfdklpkfpmkgeaaGreatDoor
open Go Go.Vai
attribute [local irreducible] goTo zaq mkS
variable {C : Nat → Oracle} {o : Out}
abbrev qS0 : List Nat := [0,5,0,5,0,5,0,0,5,2,3]
abbrev qS1 : List Nat := [0,5,0,5,0,5,0,0,5,2,3,0,5,0,7,5,5,5,5,0,0,5,2,3,0,5,0,7,5,5,5,5,0,5,0,5,0,5,2,3]
abbrev qS2 : List Nat := [0,5,0,5,0,5,0,0,5,2,3,0,5,0,7,5,5,5,5,0,0,5,2,3]
abbrev qS3 : List Nat := [0,5,0,5,0,5,0,0,5,2,3,0,5,0,6,5,0,2,0,5,0,5,0]
abbrev qS4 : List Nat := [0,5,0,5,0,5,0,0,5,2,3,0,5,0,7,5,5,5,5,0,0,5,2,3,0,5,0,6,5,0,2,0]
abbrev qS5 : List Nat := [0,5,0,5,0,5,0,0,5,2,3,0,5,0,7,5,5,5,5,0,0,5,2,3,0,5,0,7,5,5,5,5,0]
abbrev qS6 : List Nat := [0,5,0,5,0,5,0,0,5,2,3,0,5,0,6,5,0,2,0,5,0,5,0,5,0]
abbrev qS7 : List Nat := [0,5,0,5,0,5,0,0,5,2,3,0,5,0,7,5,5,5,5,0,0,5,2,3,0,5,0,6,5,0,2,0,5,0,5,0]
abbrev qS8 : List Nat := [0,5,0,5,0,5,0,0,5,2,3,0,5,0,7,5,5,5,5,0,0,5,2,3,0,5,0,7,5,5,5,5,0,5,0]
abbrev qS9 : List Nat := [0,5,0,5,0,5,0,0,5,2,3,0,5,0,6,5,0,2,0,5,0,5,0,5,0,5,0,0]
abbrev qS10 : List Nat := [0,5,0,5,0,5,0,0,5,2,3,0,5,0,7,5,5,5,5,0,0,5,2,3,0,5,0,6,5,0,2,0,5,0,5,0,5,0]
abbrev qS11 : List Nat := [0,5,0,5,0,5,0,0,5,2,3,0,5,0,6,5,0,2,0,5,0,5,0,5,0,5,0,0,5,6]
abbrev qS12 : List Nat := [0,5,0,5,0,5,0,0,5,2,3,0,5,0,6,5,0,2,0,5,0,5,0,5,0,5,0,0,5,7,5,0]
abbrev qS13 : List Nat := [0,5,0,5,0,5,0,0,5,2,3,0,5,0,7,5,5,5,5,0,0,5,2,3,0,5,0,7,5,5,5,5,0,5,0,5,0,5,2,3,0,5,0,6,5,0,2,0]
abbrev qS14 : List Nat := [0,5,0,5,0,5,0,0,5,2,3,0,5,0,6,5,0,2,0,5,0,5,0,5,0,5,0,0,5,6,5,0]
abbrev qS15 : List Nat := [0,5,0,5,0,5,0,0,5,2,3,0,5,0,6,5,0,2,0,5,0,5,0,5,0,5,0,0,5,7,5,0,5,6]
abbrev qS16 : List Nat := [0,5,0,5,0,5,0,0,5,2,3,0,5,0,7,5,5,5,5,0,0,5,2,3,0,5,0,7,5,5,5,5,0,5,0,5,0,5,2,3,0,5,0,6,5,0,2,0,5,0]
abbrev qS17 : List Nat := [0,5,0,5,0,5,0,0,5,2,3,0,5,0,6,5,0,2,0,5,0,5,0,5,0,5,0,0,5,6,5,0,5,6]
abbrev qS18 : List Nat := [0,5,0,5,0,5,0,0,5,2,3,0,5,0,7,5,5,5,5,0,0,5,2,3,0,5,0,7,5,5,5,5,0,5,0,5,0,5,2,3,0,5,0,6,5,0,2,0,5,0,5,2,0,5,6]
abbrev qS19 : List Nat := [0,5,0,5,0,5,0,0,5,2,3,0,5,0,7,5,5,5,5,0,0,5,2,3,0,5,0,7,5,5,5,5,0,5,0,5,0,5,2,3,0,5,0,6,5,0,2,0,5,0,5,2,0,5,7,0,5,6]
theorem p48_c (hC : Ext C) {T : Hp} {nx : Nat} {tg_1 : Bool} {l_2 : List Dg} {t_3 : Typ} (ho : RL C 48 [] (mkS 144 [vv 0 (.ptr 0 0),vv 1 (.agg (Typ.cs t_3))] [] ((0,⟨[(.vs 2 tg_1 (l_2.map Dg.av))],[0]⟩) :: T) nx) = some o) : calL C 48 [(.ptr 0 0),(.agg (Typ.cs t_3))] ((0,⟨[(.vs 2 tg_1 (l_2.map Dg.av))],[0]⟩) :: T) nx = some o := hC.call rfl (fun _ _ => by kernel_rfl) ho
theorem p48_0 {T : Hp} {nx : Nat} {tg_1 : Bool} {l_2 : List Dg} {t_3 : Typ} (ho : Tr.val C 48
(.call 85 [(.ptr 0 0),(.vs 4 t_3.tgF (t_3.fields.map Fld.av)),(.func 86 [])] ((0,⟨[(.vs 2 tg_1 (l_2.map Dg.av))],[0]⟩) :: T) nx fun r1 =>
(.mid 0 [0,5,0] 4 (mkS 144 [vv 0 (.ptr 0 0),(3,.lp 3 0),vv 15 (.ptr 0 0),(16,.lp 3 1),vv 17 (.vs 4 t_3.tgF (t_3.fields.map Fld.av)),vv 18 r1.v] [(3,⟨(Typ.cs t_3),[]⟩)] r1.H r1.nx))) = some o) : RL C 48 [] (mkS 144 [vv 0 (.ptr 0 0),vv 1 (.agg (Typ.cs t_3))] [] ((0,⟨[(.vs 2 tg_1 (l_2.map Dg.av))],[0]⟩) :: T) nx) = some o := stR C 4 (fun _ _ => by kernel_rfl) ho
theorem p48_1 {T : Hp} {nx : Nat} {t_3 : Typ} {tg_4 : Bool} {l_5 : List Dg} (ho : Tr.val C 48
(.run 0 qS0 (mkS 144 [vv 0 (.ptr 0 0),(3,.lp 3 0),(4,.val (.vs 2 true []) .own),vv 20 (.vs 4 t_3.tgO (t_3.ops.map Opn.av)),vi 21 ((t_3.ops.map Opn.av).length : Int),vi 22 0] [(3,⟨(Typ.cs t_3),[]⟩)] ((0,⟨[(.vs 2 tg_4 (l_5.map Dg.av))],[0]⟩) :: T) nx)) = some o) : ML C 48 [0,5,0] 4 (mkS 144 [vv 0 (.ptr 0 0),(3,.lp 3 0),vv 15 (.ptr 0 0),(16,.lp 3 1),vv 17 (.vs 4 t_3.tgF (t_3.fields.map Fld.av)),vv 18 (.tuple [])] [(3,⟨(Typ.cs t_3),[]⟩)] ((0,⟨[(.vs 2 tg_4 (l_5.map Dg.av))],[0]⟩) :: T) nx) = some o := stM C 7 (fun _ _ => by kernel_rfl) ho
theorem p48_2 {T : Hp} {nx : Nat} {tg_6 tg_8 tg_13 : Bool} {l_7 : List AV} {l_9 : List Opn} {x_10 x_11 : Int} {t_12 : Typ} {l_14 : List Dg} (ho : Tr.val C 48
(.br (decide (x_11 < x_10))
(ix (l_9.map Opn.av) x_11 fun c2 =>
(.mid 1 [0,5,0,5,0,5,0,0,5,2,3,0,5,0,6,5,0,2,0] 1 (mkS 144 [vv 0 (.ptr 0 0),(3,.lp 3 0),(4,.val (.vs 2 tg_6 l_7) .own),vv 20 (.vs 4 tg_8 (l_9.map Opn.av)),vi 21 x_10,vi 22 x_11,vb 23 true,vv 24 (.cptr (AV.cells c2))] [(3,⟨(Typ.cs t_12),[]⟩)] ((0,⟨[(.vs 2 tg_13 (l_14.map Dg.av))],[0]⟩) :: T) nx)))
(.run 0 qS2 (mkS 144 [vv 0 (.ptr 0 0),(3,.lp 3 0),(4,.val (.vs 2 tg_6 l_7) .own),vv 64 (.vs 8 t_12.tgQ (t_12.qrys.map Qry.av)),vi 65 ((t_12.qrys.map Qry.av).length : Int),vi 66 0] [(3,⟨(Typ.cs t_12),[]⟩)] ((0,⟨[(.vs 2 tg_13 (l_14.map Dg.av))],[0]⟩) :: T) nx))) = some o) : RL C 48 qS0 (mkS 144 [vv 0 (.ptr 0 0),(3,.lp 3 0),(4,.val (.vs 2 tg_6 l_7) .own),vv 20 (.vs 4 tg_8 (l_9.map Opn.av)),vi 21 x_10,vi 22 x_11] [(3,⟨(Typ.cs t_12),[]⟩)] ((0,⟨[(.vs 2 tg_13 (l_14.map Dg.av))],[0]⟩) :: T) nx) = some o := stR C 10 (fun _ _ => by kernel_rfl) ho
theorem p48_3 {T : Hp} {nx : Nat} {tg_6 tg_8 tg_13 : Bool} {l_7 : List AV} {l_9 : List Opn} {x_10 x_11 : Int} {t_12 : Typ} {l_14 : List Dg} {u_15 : Opn} (ho : Tr.val C 48
(.br (Nat.ble ((l_7.length + 1) * 24) za1)
(.br (Nat.ble (l_7.length + 1) za1)
(.call 87 [(.ptr 0 0),(.vs 3 u_15.tgP (u_15.params.map Par.av)),(.func 88 [])] ((0,⟨[(.vs 2 tg_13 (l_14.map Dg.av))],[0]⟩) :: T) nx fun r3 =>
(.mid 0 qS3 4 (mkS 144 [vv 0 (.ptr 0 0),(3,.lp 3 0),(4,.val (.vs 2 false (l_7 ++ [(.agg [(.str u_15.name),(i6 u_15.at_)])])) .own),(6,.lp 6 0),vv 20 (.vs 4 tg_8 (l_9.map Opn.av)),vi 21 x_10,vi 22 x_11,vv 34 (.ptr 0 0),(35,.lp 6 1),vv 36 (.vs 3 u_15.tgP (u_15.params.map Par.av)),vv 37 r3.v] [(3,⟨(Typ.cs t_12),[]⟩),(6,⟨(Opn.cs u_15),[]⟩)] r3.H r3.nx))) .none) .none) = some o) : ML C 48 [0,5,0,5,0,5,0,0,5,2,3,0,5,0,6,5,0,2,0] 1 (mkS 144 [vv 0 (.ptr 0 0),(3,.lp 3 0),(4,.val (.vs 2 tg_6 l_7) .own),vv 20 (.vs 4 tg_8 (l_9.map Opn.av)),vi 21 x_10,vi 22 x_11,vb 23 true,vv 24 (.cptr (Opn.cs u_15))] [(3,⟨(Typ.cs t_12),[]⟩)] ((0,⟨[(.vs 2 tg_13 (l_14.map Dg.av))],[0]⟩) :: T) nx) = some o := stM C 4 (fun _ _ => by kernel_rfl) ho
theorem p48_4 {T : Hp} {nx : Nat} {tg_16 tg_18 tg_23 : Bool} {l_17 : List AV} {l_19 : List Qry} {x_20 x_21 : Int} {t_22 : Typ} {l_24 : List Dg} (ho : Tr.val C 48
(.br (decide (x_21 < x_20))
(ix (l_19.map Qry.av) x_21 fun c4 =>
(.mid 0 qS4 1 (mkS 144 [vv 0 (.ptr 0 0),(3,.lp 3 0),(4,.val (.vs 2 tg_16 l_17) .own),vv 64 (.vs 8 tg_18 (l_19.map Qry.av)),vi 65 x_20,vi 66 x_21,vb 67 true,vv 68 (.cptr (AV.cells c4))] [(3,⟨(Typ.cs t_22),[]⟩)] ((0,⟨[(.vs 2 tg_23 (l_24.map Dg.av))],[0]⟩) :: T) nx)))
(.call 90 [(.ptr 0 0),(.vs 2 tg_16 l_17),(.func 91 [])] ((0,⟨[(.vs 2 tg_23 (l_24.map Dg.av))],[0]⟩) :: T) nx fun r5 =>
(.mid 2 qS5 3 (mkS 144 [vv 0 (.ptr 0 0),(3,.lp 3 0),(4,.val (.vs 2 tg_16 l_17) .own),vv 64 (.vs 8 tg_18 (l_19.map Qry.av)),vi 65 x_20,vi 66 x_21,vb 67 false,vv 102 (.ptr 0 0),(103,.val (.vs 2 tg_16 l_17) (.lS 4)),vv 104 r5.v] [(3,⟨(Typ.cs t_22),[]⟩)] r5.H r5.nx)))) = some o) : RL C 48 qS2 (mkS 144 [vv 0 (.ptr 0 0),(3,.lp 3 0),(4,.val (.vs 2 tg_16 l_17) .own),vv 64 (.vs 8 tg_18 (l_19.map Qry.av)),vi 65 x_20,vi 66 x_21] [(3,⟨(Typ.cs t_22),[]⟩)] ((0,⟨[(.vs 2 tg_23 (l_24.map Dg.av))],[0]⟩) :: T) nx) = some o := stR C 9 (fun _ _ => by kernel_rfl) ho
theorem p48_5 {T : Hp} {nx : Nat} {tg_8 tg_25 : Bool} {l_9 : List Opn} {x_10 x_11 : Int} {t_12 : Typ} {u_15 : Opn} {l_26 : List Dg} {l_27 : List AV} (ho : Tr.val C 48
(.call 89 [(.ptr 0 0),(.agg [(.str t_12.name),(.vs 4 t_12.tgF (t_12.fields.map Fld.av)),(.vs 4 t_12.tgO (t_12.ops.map Opn.av)),(.vs 8 t_12.tgQ (t_12.qrys.map Qry.av)),(.vs 2 t_12.tgI (t_12.idxs.map Idx.av)),(i6 t_12.at_),(.vs 3 u_15.tgP (u_15.params.map Par.av)),(.bool false)]),(.vs 6 u_15.tgB (stms u_15.body))] ((0,⟨[(.vs 2 tg_25 (l_26.map Dg.av))],[0]⟩) :: T) nx fun r6 =>
(.mid 0 qS6 8 (mkS 144 [vv 0 (.ptr 0 0),(3,.lp 3 0),(4,.val (.vs 2 false l_27) .own),(6,.lp 6 0),vv 20 (.vs 4 tg_8 (l_9.map Opn.av)),vi 21 x_10,vi 22 x_11,vv 38 (.ptr 0 0),vv 39 (.agg (Typ.cs t_12)),(40,.lp 6 1),vv 41 (.vs 3 u_15.tgP (u_15.params.map Par.av)),vv 42 (.agg [(.str t_12.name),(.vs 4 t_12.tgF (t_12.fields.map Fld.av)),(.vs 4 t_12.tgO (t_12.ops.map Opn.av)),(.vs 8 t_12.tgQ (t_12.qrys.map Qry.av)),(.vs 2 t_12.tgI (t_12.idxs.map Idx.av)),(i6 t_12.at_),(.vs 3 u_15.tgP (u_15.params.map Par.av)),(.bool false)]),(43,.lp 6 2),vv 44 (.vs 6 u_15.tgB (stms u_15.body)),vv 45 r6.v] [(3,⟨(Typ.cs t_12),[]⟩),(6,⟨(Opn.cs u_15),[]⟩)] r6.H r6.nx))) = some o) : ML C 48 qS3 4 (mkS 144 [vv 0 (.ptr 0 0),(3,.lp 3 0),(4,.val (.vs 2 false l_27) .own),(6,.lp 6 0),vv 20 (.vs 4 tg_8 (l_9.map Opn.av)),vi 21 x_10,vi 22 x_11,vv 34 (.ptr 0 0),(35,.lp 6 1),vv 36 (.vs 3 u_15.tgP (u_15.params.map Par.av)),vv 37 (.tuple [])] [(3,⟨(Typ.cs t_12),[]⟩),(6,⟨(Opn.cs u_15),[]⟩)] ((0,⟨[(.vs 2 tg_25 (l_26.map Dg.av))],[0]⟩) :: T) nx) = some o := stM C 2 (fun _ _ => by kernel_rfl) ho
theorem p48_6 {T : Hp} {nx : Nat} {tg_16 tg_18 tg_23 : Bool} {l_17 : List AV} {l_19 : List Qry} {x_20 x_21 : Int} {t_22 : Typ} {l_24 : List Dg} {y_28 : Qry} (ho : Tr.val C 48
(.br (Nat.ble ((l_17.length + 1) * 24) za1)
(.br (Nat.ble (l_17.length + 1) za1)
(.call 87 [(.ptr 0 0),(.vs 3 y_28.tgP (y_28.params.map Par.av)),(.func 88 [])] ((0,⟨[(.vs 2 tg_23 (l_24.map Dg.av))],[0]⟩) :: T) nx fun r7 =>
(.mid 0 qS7 4 (mkS 144 [vv 0 (.ptr 0 0),(3,.lp 3 0),(4,.val (.vs 2 false (l_17 ++ [(.agg [(.str y_28.name),(i6 y_28.at_)])])) .own),(8,.lp 8 0),vv 64 (.vs 8 tg_18 (l_19.map Qry.av)),vi 65 x_20,vi 66 x_21,vv 78 (.ptr 0 0),(79,.lp 8 1),vv 80 (.vs 3 y_28.tgP (y_28.params.map Par.av)),vv 81 r7.v] [(3,⟨(Typ.cs t_22),[]⟩),(8,⟨(Qry.cs y_28),[]⟩)] r7.H r7.nx))) .none) .none) = some o) : ML C 48 qS4 1 (mkS 144 [vv 0 (.ptr 0 0),(3,.lp 3 0),(4,.val (.vs 2 tg_16 l_17) .own),vv 64 (.vs 8 tg_18 (l_19.map Qry.av)),vi 65 x_20,vi 66 x_21,vb 67 true,vv 68 (.cptr (Qry.cs y_28))] [(3,⟨(Typ.cs t_22),[]⟩)] ((0,⟨[(.vs 2 tg_23 (l_24.map Dg.av))],[0]⟩) :: T) nx) = some o := stM C 4 (fun _ _ => by kernel_rfl) ho
theorem p48_7 {T : Hp} {nx : Nat} {tg_16 tg_18 tg_29 : Bool} {l_17 : List AV} {l_19 : List Qry} {x_20 x_21 : Int} {t_22 : Typ} {l_30 : List Dg} (ho : Tr.val C 48
(.call 92 [(.ptr 0 0),(.vs 2 t_22.tgI (t_22.idxs.map Idx.av)),(.func 93 [])] ((0,⟨[(.vs 2 tg_29 (l_30.map Dg.av))],[0]⟩) :: T) nx fun r8 =>
(.mid 0 qS8 4 (mkS 144 [vv 0 (.ptr 0 0),(3,.lp 3 0),vv 105 (.ptr 0 0),(106,.lp 3 4),vv 107 (.vs 2 t_22.tgI (t_22.idxs.map Idx.av)),vv 108 r8.v] [(3,⟨(Typ.cs t_22),[]⟩)] r8.H r8.nx))) = some o) : ML C 48 qS5 3 (mkS 144 [vv 0 (.ptr 0 0),(3,.lp 3 0),(4,.val (.vs 2 tg_16 l_17) .own),vv 64 (.vs 8 tg_18 (l_19.map Qry.av)),vi 65 x_20,vi 66 x_21,vb 67 false,vv 102 (.ptr 0 0),(103,.val (.vs 2 tg_16 l_17) (.lS 4)),vv 104 (.tuple [])] [(3,⟨(Typ.cs t_22),[]⟩)] ((0,⟨[(.vs 2 tg_29 (l_30.map Dg.av))],[0]⟩) :: T) nx) = some o := stM C 2 (fun _ _ => by kernel_rfl) ho
theorem p48_8 {T : Hp} {nx : Nat} {tg_8 tg_31 : Bool} {l_9 : List Opn} {x_10 x_11 : Int} {t_12 : Typ} {u_15 : Opn} {l_27 : List AV} {l_32 : List Dg} (ho : Tr.val C 48
(cl0 16 [(.agg (Opn.cs u_15))] fun r9 => .br (AV.pure r9.v)
(.mid 0 qS9 2 (mkS 144 [vv 0 (.ptr 0 0),(3,.lp 3 0),(4,.val (.vs 2 false l_27) .own),(6,.lp 6 0),vv 20 (.vs 4 tg_8 (l_9.map Opn.av)),vi 21 x_10,vi 22 x_11,vv 46 (.agg (Opn.cs u_15)),vv 47 r9.v] [(3,⟨(Typ.cs t_12),[]⟩),(6,⟨(Opn.cs u_15),[]⟩)] ((0,⟨[(.vs 2 tg_31 (l_32.map Dg.av))],[0]⟩) :: T) nx)) .none) = some o) : ML C 48 qS6 8 (mkS 144 [vv 0 (.ptr 0 0),(3,.lp 3 0),(4,.val (.vs 2 false l_27) .own),(6,.lp 6 0),vv 20 (.vs 4 tg_8 (l_9.map Opn.av)),vi 21 x_10,vi 22 x_11,vv 38 (.ptr 0 0),vv 39 (.agg (Typ.cs t_12)),(40,.lp 6 1),vv 41 (.vs 3 u_15.tgP (u_15.params.map Par.av)),vv 42 (.agg [(.str t_12.name),(.vs 4 t_12.tgF (t_12.fields.map Fld.av)),(.vs 4 t_12.tgO (t_12.ops.map Opn.av)),(.vs 8 t_12.tgQ (t_12.qrys.map Qry.av)),(.vs 2 t_12.tgI (t_12.idxs.map Idx.av)),(i6 t_12.at_),(.vs 3 u_15.tgP (u_15.params.map Par.av)),(.bool false)]),(43,.lp 6 2),vv 44 (.vs 6 u_15.tgB (stms u_15.body)),vv 45 (.tuple [])] [(3,⟨(Typ.cs t_12),[]⟩),(6,⟨(Opn.cs u_15),[]⟩)] ((0,⟨[(.vs 2 tg_31 (l_32.map Dg.av))],[0]⟩) :: T) nx) = some o := stM C 3 (fun _ _ => by kernel_rfl) ho
theorem p48_9 {T : Hp} {nx : Nat} {tg_18 tg_33 : Bool} {l_19 : List Qry} {x_20 x_21 : Int} {t_22 : Typ} {y_28 : Qry} {l_34 : List Dg} {l_35 : List AV} (ho : Tr.val C 48
(cl0 52 [(.agg [(.str t_22.name),(.vs 4 t_22.tgF (t_22.fields.map Fld.av)),(.vs 4 t_22.tgO (t_22.ops.map Opn.av)),(.vs 8 t_22.tgQ (t_22.qrys.map Qry.av)),(.vs 2 t_22.tgI (t_22.idxs.map Idx.av)),(i6 t_22.at_),(.vs 3 y_28.tgP (y_28.params.map Par.av)),(.bool true)]),(.agg (Ex.cs y_28.res))] fun r10 => .br (AV.pure r10.v)
(.mid 0 qS10 7 (mkS 144 [vv 0 (.ptr 0 0),(3,.lp 3 0),(4,.val (.vs 2 false l_35) .own),(8,.lp 8 0),vv 64 (.vs 8 tg_18 (l_19.map Qry.av)),vi 65 x_20,vi 66 x_21,vv 83 (.agg (Typ.cs t_22)),(84,.lp 8 1),vv 85 (.vs 3 y_28.tgP (y_28.params.map Par.av)),vv 86 (.agg [(.str t_22.name),(.vs 4 t_22.tgF (t_22.fields.map Fld.av)),(.vs 4 t_22.tgO (t_22.ops.map Opn.av)),(.vs 8 t_22.tgQ (t_22.qrys.map Qry.av)),(.vs 2 t_22.tgI (t_22.idxs.map Idx.av)),(i6 t_22.at_),(.vs 3 y_28.tgP (y_28.params.map Par.av)),(.bool true)]),(87,.lp 8 2),vv 88 (.agg (Ex.cs y_28.res)),(89,.val r10.v (.comps [1]))] [(3,⟨(Typ.cs t_22),[]⟩),(8,⟨(Qry.cs y_28),[]⟩)] ((0,⟨[(.vs 2 tg_33 (l_34.map Dg.av))],[0]⟩) :: T) nx)) .none) = some o) : ML C 48 qS7 4 (mkS 144 [vv 0 (.ptr 0 0),(3,.lp 3 0),(4,.val (.vs 2 false l_35) .own),(8,.lp 8 0),vv 64 (.vs 8 tg_18 (l_19.map Qry.av)),vi 65 x_20,vi 66 x_21,vv 78 (.ptr 0 0),(79,.lp 8 1),vv 80 (.vs 3 y_28.tgP (y_28.params.map Par.av)),vv 81 (.tuple [])] [(3,⟨(Typ.cs t_22),[]⟩),(8,⟨(Qry.cs y_28),[]⟩)] ((0,⟨[(.vs 2 tg_33 (l_34.map Dg.av))],[0]⟩) :: T) nx) = some o := stM C 2 (fun _ _ => by kernel_rfl) ho
theorem p48_10 {T : Hp} {nx : Nat} {t_22 : Typ} {tg_36 : Bool} {l_37 : List Dg} (ho : Tr.val C 48
(.run 0 qS1 (mkS 144 [vv 0 (.ptr 0 0),(3,.lp 3 0),vv 110 (.vs 2 t_22.tgI (t_22.idxs.map Idx.av)),vi 111 ((t_22.idxs.map Idx.av).length : Int),vi 112 0] [(3,⟨(Typ.cs t_22),[]⟩)] ((0,⟨[(.vs 2 tg_36 (l_37.map Dg.av))],[0]⟩) :: T) nx)) = some o) : ML C 48 qS8 4 (mkS 144 [vv 0 (.ptr 0 0),(3,.lp 3 0),vv 105 (.ptr 0 0),(106,.lp 3 4),vv 107 (.vs 2 t_22.tgI (t_22.idxs.map Idx.av)),vv 108 (.tuple [])] [(3,⟨(Typ.cs t_22),[]⟩)] ((0,⟨[(.vs 2 tg_36 (l_37.map Dg.av))],[0]⟩) :: T) nx) = some o := stM C 4 (fun _ _ => by kernel_rfl) ho
theorem p48_11 {T : Hp} {nx : Nat} {tg_8 tg_31 : Bool} {l_9 : List Opn} {x_10 x_11 x_38 : Int} {t_12 : Typ} {u_15 : Opn} {l_27 : List AV} {l_32 : List Dg} (ho : Tr.val C 48
(.br (decide (x_38 = 0))
(.call 84 [(.ptr 0 0),(i6 u_15.at_),(i6 2)] ((0,⟨[(.vs 2 tg_31 (l_32.map Dg.av))],[0]⟩) :: T) nx fun r11 =>
(.mid 2 qS11 4 (mkS 144 [vv 0 (.ptr 0 0),(3,.lp 3 0),(4,.val (.vs 2 false l_27) .own),(6,.lp 6 0),vv 20 (.vs 4 tg_8 (l_9.map Opn.av)),vi 21 x_10,vi 22 x_11,vb 48 true,vv 49 (.ptr 0 0),(50,.lp 6 3),vi 51 u_15.at_,vv 52 r11.v] [(3,⟨(Typ.cs t_12),[]⟩),(6,⟨(Opn.cs u_15),[]⟩)] r11.H r11.nx)))
(cl0 35 [(.vs 6 u_15.tgB (stms u_15.body))] fun r12 => .br (AV.pure r12.v)
(.mid 0 qS12 3 (mkS 144 [vv 0 (.ptr 0 0),(3,.lp 3 0),(4,.val (.vs 2 false l_27) .own),(6,.lp 6 0),vv 20 (.vs 4 tg_8 (l_9.map Opn.av)),vi 21 x_10,vi 22 x_11,vb 48 false,(53,.lp 6 2),vv 54 (.vs 6 u_15.tgB (stms u_15.body)),vv 55 r12.v] [(3,⟨(Typ.cs t_12),[]⟩),(6,⟨(Opn.cs u_15),[]⟩)] ((0,⟨[(.vs 2 tg_31 (l_32.map Dg.av))],[0]⟩) :: T) nx)) .none)) = some o) : ML C 48 qS9 2 (mkS 144 [vv 0 (.ptr 0 0),(3,.lp 3 0),(4,.val (.vs 2 false l_27) .own),(6,.lp 6 0),vv 20 (.vs 4 tg_8 (l_9.map Opn.av)),vi 21 x_10,vi 22 x_11,vv 46 (.agg (Opn.cs u_15)),vi 47 x_38] [(3,⟨(Typ.cs t_12),[]⟩),(6,⟨(Opn.cs u_15),[]⟩)] ((0,⟨[(.vs 2 tg_31 (l_32.map Dg.av))],[0]⟩) :: T) nx) = some o := stM C 4 (fun _ _ => by kernel_rfl) ho
theorem p48_12 {T : Hp} {nx : Nat} {tg_18 tg_33 tg_40 : Bool} {l_19 : List Qry} {x_20 x_21 x_39 : Int} {t_22 : Typ} {y_28 : Qry} {l_34 l_41 : List Dg} {l_35 : List AV} (ho : Tr.val C 48
(.br (Nat.ble (((l_34.map Dg.av).length + (l_41.map Dg.av).length) * 16) za1)
(.br (Nat.ble ((l_34.map Dg.av).length + (l_41.map Dg.av).length) za1)
(.run 0 qS2 (mkS 144 [vv 0 (.ptr 0 0),(3,.lp 3 0),(4,.val (.vs 2 false l_35) .own),vv 64 (.vs 8 tg_18 (l_19.map Qry.av)),vi 65 x_20,vi 66 (w64 (x_21 + 1))] [(3,⟨(Typ.cs t_22),[]⟩)] ((0,⟨[(.vs 2 false ((l_34.map Dg.av) ++ (l_41.map Dg.av)))],[0]⟩) :: T) nx)) .none) .none) = some o) : ML C 48 qS10 7 (mkS 144 [vv 0 (.ptr 0 0),(3,.lp 3 0),(4,.val (.vs 2 false l_35) .own),(8,.lp 8 0),vv 64 (.vs 8 tg_18 (l_19.map Qry.av)),vi 65 x_20,vi 66 x_21,vv 83 (.agg (Typ.cs t_22)),(84,.lp 8 1),vv 85 (.vs 3 y_28.tgP (y_28.params.map Par.av)),vv 86 (.agg [(.str t_22.name),(.vs 4 t_22.tgF (t_22.fields.map Fld.av)),(.vs 4 t_22.tgO (t_22.ops.map Opn.av)),(.vs 8 t_22.tgQ (t_22.qrys.map Qry.av)),(.vs 2 t_22.tgI (t_22.idxs.map Idx.av)),(i6 t_22.at_),(.vs 3 y_28.tgP (y_28.params.map Par.av)),(.bool true)]),(87,.lp 8 2),vv 88 (.agg (Ex.cs y_28.res)),(89,.val (.tuple [(i6 x_39),(.vs 2 tg_40 (l_41.map Dg.av))]) (.comps [1]))] [(3,⟨(Typ.cs t_22),[]⟩),(8,⟨(Qry.cs y_28),[]⟩)] ((0,⟨[(.vs 2 tg_33 (l_34.map Dg.av))],[0]⟩) :: T) nx) = some o := stM C 4 (fun _ _ => by kernel_rfl) ho
theorem p48_13 {T : Hp} {nx : Nat} {tg_42 tg_47 : Bool} {l_43 : List Idx} {x_44 x_45 : Int} {t_46 : Typ} {l_48 : List Dg} (ho : Tr.val C 48
(.br (decide (x_45 < x_44))
(ix (l_43.map Idx.av) x_45 fun c13 =>
(.mid 0 qS13 1 (mkS 144 [vv 0 (.ptr 0 0),(3,.lp 3 0),vv 110 (.vs 2 tg_42 (l_43.map Idx.av)),vi 111 x_44,vi 112 x_45,vb 113 true,vv 114 (.cptr (AV.cells c13))] [(3,⟨(Typ.cs t_46),[]⟩)] ((0,⟨[(.vs 2 tg_47 (l_48.map Dg.av))],[0]⟩) :: T) nx)))
(.ret ⟨(.tuple []),((0,⟨[(.vs 2 tg_47 (l_48.map Dg.av))],[0]⟩) :: T),nx⟩)) = some o) : RL C 48 qS1 (mkS 144 [vv 0 (.ptr 0 0),(3,.lp 3 0),vv 110 (.vs 2 tg_42 (l_43.map Idx.av)),vi 111 x_44,vi 112 x_45] [(3,⟨(Typ.cs t_46),[]⟩)] ((0,⟨[(.vs 2 tg_47 (l_48.map Dg.av))],[0]⟩) :: T) nx) = some o := stR C 9 (fun _ _ => by kernel_rfl) ho
theorem p48_14 {T : Hp} {nx : Nat} {tg_8 tg_49 : Bool} {l_9 : List Opn} {x_10 x_11 : Int} {t_12 : Typ} {u_15 : Opn} {l_27 : List AV} {l_50 : List Dg} (ho : Tr.val C 48
(cl0 35 [(.vs 6 u_15.tgB (stms u_15.body))] fun r14 => .br (AV.pure r14.v)
(.mid 0 qS14 3 (mkS 144 [vv 0 (.ptr 0 0),(3,.lp 3 0),(4,.val (.vs 2 false l_27) .own),(6,.lp 6 0),vv 20 (.vs 4 tg_8 (l_9.map Opn.av)),vi 21 x_10,vi 22 x_11,(53,.lp 6 2),vv 54 (.vs 6 u_15.tgB (stms u_15.body)),vv 55 r14.v] [(3,⟨(Typ.cs t_12),[]⟩),(6,⟨(Opn.cs u_15),[]⟩)] ((0,⟨[(.vs 2 tg_49 (l_50.map Dg.av))],[0]⟩) :: T) nx)) .none) = some o) : ML C 48 qS11 4 (mkS 144 [vv 0 (.ptr 0 0),(3,.lp 3 0),(4,.val (.vs 2 false l_27) .own),(6,.lp 6 0),vv 20 (.vs 4 tg_8 (l_9.map Opn.av)),vi 21 x_10,vi 22 x_11,vb 48 true,vv 49 (.ptr 0 0),(50,.lp 6 3),vi 51 u_15.at_,vv 52 (.tuple [])] [(3,⟨(Typ.cs t_12),[]⟩),(6,⟨(Opn.cs u_15),[]⟩)] ((0,⟨[(.vs 2 tg_49 (l_50.map Dg.av))],[0]⟩) :: T) nx) = some o := stM C 2 (fun _ _ => by kernel_rfl) ho
theorem p48_15 {T : Hp} {nx : Nat} {tg_8 tg_31 c_53 c_54 : Bool} {l_9 : List Opn} {x_10 x_11 x_51 x_52 : Int} {t_12 : Typ} {u_15 : Opn} {l_27 : List AV} {l_32 : List Dg} (ho : Tr.val C 48
(.br (decide (4 < x_52))
(.call 84 [(.ptr 0 0),(i6 u_15.at_),(i6 3)] ((0,⟨[(.vs 2 tg_31 (l_32.map Dg.av))],[0]⟩) :: T) nx fun r15 =>
(.mid 3 qS15 4 (mkS 144 [vv 0 (.ptr 0 0),(3,.lp 3 0),(4,.val (.vs 2 false l_27) .own),(6,.lp 6 0),vv 20 (.vs 4 tg_8 (l_9.map Opn.av)),vi 21 x_10,vi 22 x_11,vb 57 true,vv 58 (.ptr 0 0),(59,.lp 6 3),vi 60 u_15.at_,vv 61 r15.v] [(3,⟨(Typ.cs t_12),[]⟩),(6,⟨(Opn.cs u_15),[]⟩)] r15.H r15.nx)))
(.run 0 qS0 (mkS 144 [vv 0 (.ptr 0 0),(3,.lp 3 0),(4,.val (.vs 2 false l_27) .own),vv 20 (.vs 4 tg_8 (l_9.map Opn.av)),vi 21 x_10,vi 22 (w64 (x_11 + 1))] [(3,⟨(Typ.cs t_12),[]⟩)] ((0,⟨[(.vs 2 tg_31 (l_32.map Dg.av))],[0]⟩) :: T) nx))) = some o) : ML C 48 qS12 3 (mkS 144 [vv 0 (.ptr 0 0),(3,.lp 3 0),(4,.val (.vs 2 false l_27) .own),(6,.lp 6 0),vv 20 (.vs 4 tg_8 (l_9.map Opn.av)),vi 21 x_10,vi 22 x_11,vb 48 false,(53,.lp 6 2),vv 54 (.vs 6 u_15.tgB (stms u_15.body)),vv 55 (.agg [(i6 x_51),(i6 x_52),(.bool c_53),(.bool c_54)])] [(3,⟨(Typ.cs t_12),[]⟩),(6,⟨(Opn.cs u_15),[]⟩)] ((0,⟨[(.vs 2 tg_31 (l_32.map Dg.av))],[0]⟩) :: T) nx) = some o := stM C 5 (fun _ _ => by kernel_rfl) ho
theorem p48_16 {T : Hp} {nx : Nat} {tg_42 tg_47 : Bool} {l_43 : List Idx} {x_44 x_45 : Int} {t_46 : Typ} {l_48 : List Dg} {i_55 : Idx} (ho : Tr.val C 48
(cl0 94 [(.agg (Typ.cs t_46)),(.str i_55.field)] fun r16 => .br (AV.pure r16.v)
(.mid 0 qS16 4 (mkS 144 [vv 0 (.ptr 0 0),(3,.lp 3 0),(12,.lp 12 0),vv 110 (.vs 2 tg_42 (l_43.map Idx.av)),vi 111 x_44,vi 112 x_45,vv 117 (.agg (Typ.cs t_46)),(118,.lp 12 0),vt 119 i_55.field,vv 120 r16.v] [(3,⟨(Typ.cs t_46),[]⟩),(12,⟨(Idx.cs i_55),[]⟩)] ((0,⟨[(.vs 2 tg_47 (l_48.map Dg.av))],[0]⟩) :: T) nx)) .none) = some o) : ML C 48 qS13 1 (mkS 144 [vv 0 (.ptr 0 0),(3,.lp 3 0),vv 110 (.vs 2 tg_42 (l_43.map Idx.av)),vi 111 x_44,vi 112 x_45,vb 113 true,vv 114 (.cptr (Idx.cs i_55))] [(3,⟨(Typ.cs t_46),[]⟩)] ((0,⟨[(.vs 2 tg_47 (l_48.map Dg.av))],[0]⟩) :: T) nx) = some o := stM C 2 (fun _ _ => by kernel_rfl) ho
theorem p48_17 {T : Hp} {nx : Nat} {tg_8 tg_49 c_58 c_59 : Bool} {l_9 : List Opn} {x_10 x_11 x_56 x_57 : Int} {t_12 : Typ} {u_15 : Opn} {l_27 : List AV} {l_50 : List Dg} (ho : Tr.val C 48
(.br (decide (4 < x_57))
(.call 84 [(.ptr 0 0),(i6 u_15.at_),(i6 3)] ((0,⟨[(.vs 2 tg_49 (l_50.map Dg.av))],[0]⟩) :: T) nx fun r17 =>
(.mid 3 qS17 4 (mkS 144 [vv 0 (.ptr 0 0),(3,.lp 3 0),(4,.val (.vs 2 false l_27) .own),(6,.lp 6 0),vv 20 (.vs 4 tg_8 (l_9.map Opn.av)),vi 21 x_10,vi 22 x_11,vb 57 true,vv 58 (.ptr 0 0),(59,.lp 6 3),vi 60 u_15.at_,vv 61 r17.v] [(3,⟨(Typ.cs t_12),[]⟩),(6,⟨(Opn.cs u_15),[]⟩)] r17.H r17.nx)))
(.run 0 qS0 (mkS 144 [vv 0 (.ptr 0 0),(3,.lp 3 0),(4,.val (.vs 2 false l_27) .own),vv 20 (.vs 4 tg_8 (l_9.map Opn.av)),vi 21 x_10,vi 22 (w64 (x_11 + 1))] [(3,⟨(Typ.cs t_12),[]⟩)] ((0,⟨[(.vs 2 tg_49 (l_50.map Dg.av))],[0]⟩) :: T) nx))) = some o) : ML C 48 qS14 3 (mkS 144 [vv 0 (.ptr 0 0),(3,.lp 3 0),(4,.val (.vs 2 false l_27) .own),(6,.lp 6 0),vv 20 (.vs 4 tg_8 (l_9.map Opn.av)),vi 21 x_10,vi 22 x_11,(53,.lp 6 2),vv 54 (.vs 6 u_15.tgB (stms u_15.body)),vv 55 (.agg [(i6 x_56),(i6 x_57),(.bool c_58),(.bool c_59)])] [(3,⟨(Typ.cs t_12),[]⟩),(6,⟨(Opn.cs u_15),[]⟩)] ((0,⟨[(.vs 2 tg_49 (l_50.map Dg.av))],[0]⟩) :: T) nx) = some o := stM C 5 (fun _ _ => by kernel_rfl) ho
theorem p48_18 {T : Hp} {nx : Nat} {tg_8 tg_60 : Bool} {l_9 : List Opn} {x_10 x_11 : Int} {t_12 : Typ} {u_15 : Opn} {l_27 : List AV} {l_61 : List Dg} (ho : Tr.val C 48
(.run 0 qS0 (mkS 144 [vv 0 (.ptr 0 0),(3,.lp 3 0),(4,.val (.vs 2 false l_27) .own),vv 20 (.vs 4 tg_8 (l_9.map Opn.av)),vi 21 x_10,vi 22 (w64 (x_11 + 1))] [(3,⟨(Typ.cs t_12),[]⟩)] ((0,⟨[(.vs 2 tg_60 (l_61.map Dg.av))],[0]⟩) :: T) nx)) = some o) : ML C 48 qS15 4 (mkS 144 [vv 0 (.ptr 0 0),(3,.lp 3 0),(4,.val (.vs 2 false l_27) .own),(6,.lp 6 0),vv 20 (.vs 4 tg_8 (l_9.map Opn.av)),vi 21 x_10,vi 22 x_11,vb 57 true,vv 58 (.ptr 0 0),(59,.lp 6 3),vi 60 u_15.at_,vv 61 (.tuple [])] [(3,⟨(Typ.cs t_12),[]⟩),(6,⟨(Opn.cs u_15),[]⟩)] ((0,⟨[(.vs 2 tg_60 (l_61.map Dg.av))],[0]⟩) :: T) nx) = some o := stM C 3 (fun _ _ => by kernel_rfl) ho
theorem p48_19 {T : Hp} {nx : Nat} {tg_42 tg_47 c_63 : Bool} {l_43 : List Idx} {x_44 x_45 : Int} {t_46 : Typ} {l_48 : List Dg} {i_55 : Idx} {f_62 : Fld} (ho : Tr.val C 48
(.br (!c_63)
(.call 84 [(.ptr 0 0),(i6 i_55.at_),(i6 6)] ((0,⟨[(.vs 2 tg_47 (l_48.map Dg.av))],[0]⟩) :: T) nx fun r18 =>
(.mid 7 qS18 4 (mkS 144 [vv 0 (.ptr 0 0),(3,.lp 3 0),(12,.lp 12 0),(13,.lp 13 0),vv 110 (.vs 2 tg_42 (l_43.map Idx.av)),vi 111 x_44,vi 112 x_45,vb 123 true,vv 126 (.ptr 0 0),(127,.lp 12 1),vi 128 i_55.at_,vv 129 r18.v] [(3,⟨(Typ.cs t_46),[]⟩),(12,⟨(Idx.cs i_55),[]⟩),(13,⟨(Fld.cs f_62),[]⟩)] r18.H r18.nx)))
(.br (!(decide (f_62.kind = 1)))
(.br (!(decide (f_62.kind = 4)))
(.call 84 [(.ptr 0 0),(i6 i_55.at_),(i6 10)] ((0,⟨[(.vs 2 tg_47 (l_48.map Dg.av))],[0]⟩) :: T) nx fun r19 =>
(.mid 4 qS19 4 (mkS 144 [vv 0 (.ptr 0 0),(3,.lp 3 0),(12,.lp 12 0),vv 110 (.vs 2 tg_42 (l_43.map Idx.av)),vi 111 x_44,vi 112 x_45,vb 130 true,vv 139 (.ptr 0 0),(140,.lp 12 1),vi 141 i_55.at_,vv 142 r19.v] [(3,⟨(Typ.cs t_46),[]⟩),(12,⟨(Idx.cs i_55),[]⟩)] r19.H r19.nx)))
(.run 0 qS1 (mkS 144 [vv 0 (.ptr 0 0),(3,.lp 3 0),vv 110 (.vs 2 tg_42 (l_43.map Idx.av)),vi 111 x_44,vi 112 (w64 (x_45 + 1))] [(3,⟨(Typ.cs t_46),[]⟩)] ((0,⟨[(.vs 2 tg_47 (l_48.map Dg.av))],[0]⟩) :: T) nx)))
(.run 0 qS1 (mkS 144 [vv 0 (.ptr 0 0),(3,.lp 3 0),vv 110 (.vs 2 tg_42 (l_43.map Idx.av)),vi 111 x_44,vi 112 (w64 (x_45 + 1))] [(3,⟨(Typ.cs t_46),[]⟩)] ((0,⟨[(.vs 2 tg_47 (l_48.map Dg.av))],[0]⟩) :: T) nx)))) = some o) : ML C 48 qS16 4 (mkS 144 [vv 0 (.ptr 0 0),(3,.lp 3 0),(12,.lp 12 0),vv 110 (.vs 2 tg_42 (l_43.map Idx.av)),vi 111 x_44,vi 112 x_45,vv 117 (.agg (Typ.cs t_46)),(118,.lp 12 0),vt 119 i_55.field,vv 120 (.tuple [(.agg (Fld.cs f_62)),(.bool c_63)])] [(3,⟨(Typ.cs t_46),[]⟩),(12,⟨(Idx.cs i_55),[]⟩)] ((0,⟨[(.vs 2 tg_47 (l_48.map Dg.av))],[0]⟩) :: T) nx) = some o := stM C 12 (fun _ _ => by kernel_rfl) ho
theorem p48_20 {T : Hp} {nx : Nat} {tg_8 tg_64 : Bool} {l_9 : List Opn} {x_10 x_11 : Int} {t_12 : Typ} {u_15 : Opn} {l_27 : List AV} {l_65 : List Dg} (ho : Tr.val C 48
(.run 0 qS0 (mkS 144 [vv 0 (.ptr 0 0),(3,.lp 3 0),(4,.val (.vs 2 false l_27) .own),vv 20 (.vs 4 tg_8 (l_9.map Opn.av)),vi 21 x_10,vi 22 (w64 (x_11 + 1))] [(3,⟨(Typ.cs t_12),[]⟩)] ((0,⟨[(.vs 2 tg_64 (l_65.map Dg.av))],[0]⟩) :: T) nx)) = some o) : ML C 48 qS17 4 (mkS 144 [vv 0 (.ptr 0 0),(3,.lp 3 0),(4,.val (.vs 2 false l_27) .own),(6,.lp 6 0),vv 20 (.vs 4 tg_8 (l_9.map Opn.av)),vi 21 x_10,vi 22 x_11,vb 57 true,vv 58 (.ptr 0 0),(59,.lp 6 3),vi 60 u_15.at_,vv 61 (.tuple [])] [(3,⟨(Typ.cs t_12),[]⟩),(6,⟨(Opn.cs u_15),[]⟩)] ((0,⟨[(.vs 2 tg_64 (l_65.map Dg.av))],[0]⟩) :: T) nx) = some o := stM C 3 (fun _ _ => by kernel_rfl) ho
theorem p48_21 {T : Hp} {nx : Nat} {tg_42 tg_66 : Bool} {l_43 : List Idx} {x_44 x_45 : Int} {t_46 : Typ} {i_55 : Idx} {f_62 : Fld} {l_67 : List Dg} (ho : Tr.val C 48
(.run 0 qS1 (mkS 144 [vv 0 (.ptr 0 0),(3,.lp 3 0),vv 110 (.vs 2 tg_42 (l_43.map Idx.av)),vi 111 x_44,vi 112 (w64 (x_45 + 1))] [(3,⟨(Typ.cs t_46),[]⟩)] ((0,⟨[(.vs 2 tg_66 (l_67.map Dg.av))],[0]⟩) :: T) nx)) = some o) : ML C 48 qS18 4 (mkS 144 [vv 0 (.ptr 0 0),(3,.lp 3 0),(12,.lp 12 0),(13,.lp 13 0),vv 110 (.vs 2 tg_42 (l_43.map Idx.av)),vi 111 x_44,vi 112 x_45,vb 123 true,vv 126 (.ptr 0 0),(127,.lp 12 1),vi 128 i_55.at_,vv 129 (.tuple [])] [(3,⟨(Typ.cs t_46),[]⟩),(12,⟨(Idx.cs i_55),[]⟩),(13,⟨(Fld.cs f_62),[]⟩)] ((0,⟨[(.vs 2 tg_66 (l_67.map Dg.av))],[0]⟩) :: T) nx) = some o := stM C 4 (fun _ _ => by kernel_rfl) ho
theorem p48_22 {T : Hp} {nx : Nat} {tg_42 tg_68 : Bool} {l_43 : List Idx} {x_44 x_45 : Int} {t_46 : Typ} {i_55 : Idx} {l_69 : List Dg} (ho : Tr.val C 48
(.run 0 qS1 (mkS 144 [vv 0 (.ptr 0 0),(3,.lp 3 0),vv 110 (.vs 2 tg_42 (l_43.map Idx.av)),vi 111 x_44,vi 112 (w64 (x_45 + 1))] [(3,⟨(Typ.cs t_46),[]⟩)] ((0,⟨[(.vs 2 tg_68 (l_69.map Dg.av))],[0]⟩) :: T) nx)) = some o) : ML C 48 qS19 4 (mkS 144 [vv 0 (.ptr 0 0),(3,.lp 3 0),(12,.lp 12 0),vv 110 (.vs 2 tg_42 (l_43.map Idx.av)),vi 111 x_44,vi 112 x_45,vb 130 true,vv 139 (.ptr 0 0),(140,.lp 12 1),vi 141 i_55.at_,vv 142 (.tuple [])] [(3,⟨(Typ.cs t_46),[]⟩),(12,⟨(Idx.cs i_55),[]⟩)] ((0,⟨[(.vs 2 tg_68 (l_69.map Dg.av))],[0]⟩) :: T) nx) = some o := stM C 4 (fun _ _ => by kernel_rfl) ho
end Go.Proofs.YtfdklpkfpmkgeaaGreatDoor
end
section
namespace Go.Proofs.YtfdklpkfpmkgeaaGreatDoor
open Go Go.Vai
attribute [local irreducible] goTo zaq mkS
set_option maxHeartbeats 40000000
def znn (t : Typ) (x : Idx) : List Dg := match fldF t.fields x.field with
 | none=>[⟨x.at_,6⟩]
 | some f=>if f.kind ≠ 1∧f.kind ≠ 4 then [⟨x.at_,10⟩] else []
def zlv (t : Typ) : List Idx→List Dg
 | []=>[]
 | x :: r=>znn t x ++ zlv t r
variable {C : Nat→Oracle} (hC : Ext C)
include hC
theorem w48_idx (t : Typ) (hF : t.fields.length ≤ 1000000) (T : Hp) (nx : Nat) (tL : Bool) (L : List Idx) (hL : L.length ≤ 400000) : ∀ (r : List Idx) (i : Nat) (tg : Bool) (l : List Dg),L.drop i = r→i ≤ L.length→l.length + r.length ≤ 1000000 →
  Was (RL C 48 [0,5,0,5,0,5,0,0,5,2,3,0,5,0,7,5,5,5,5,0,0,5,2,3,0,5,0,7,5,5,5,5,0,5,0,5,0,5,2,3] (mkS 144 [(0,.val (.ptr 0 0) .no),(3,.lp 3 0),(110,.val (.vs 2 tL (List.map Idx.av L)) .no),(111,.val (.int .i64 (L.length : Int)) .no),(112,.val (.int .i64 (i : Int)) .no)] [(3,⟨(Typ.cs t),[]⟩)] (hD tg l T) nx))
   (QD (l ++ zlv t r) T nx):=by
 intro r
 induction r with
 | nil =>
  intro i tg l hi hil hb
  have := zaj _ _ hil hi
  refine exW (fun o=>p48_13) ?_
  exact .bF (by omega) (.mk ⟨tg,by rw [zlv,List.append_nil]⟩)
 | cons x r ih =>
  intro i tg l hi hil hb
  obtain ⟨h1,h2,h3⟩ := zau _ _ hi
  rw [List.length_cons] at hb
  have hw := wi64 h3 (by omega)
  have go : ∀ tg' (d : List Dg),d.length ≤ 1→d = znn t x→Was (RL C 48 [0,5,0,5,0,5,0,0,5,2,3,0,5,0,7,5,5,5,5,0,0,5,2,3,0,5,0,7,5,5,5,5,0,5,0,5,0,5,2,3] (mkS 144 [(0,.val (.ptr 0 0) .no),(3,.lp 3 0),(110,.val (.vs 2 tL (List.map Idx.av L)) .no),(111,.val (.int .i64 (L.length : Int)) .no),(112,.val (.int .i64 ((i + 1 : Nat) : Int)) .no)] [(3,⟨(Typ.cs t),[]⟩)] (hD tg' (l ++ d) T) nx))
   (QD (l ++ zlv t (x :: r)) T nx):=by
   intro tg' d hd e
   rw [zlv,← List.append_assoc,← e]
   exact ih (i + 1) tg' (l ++ d) h2 (by omega) (by rw [List.length_append]; omega)
  refine exW (fun o=>p48_13) ?_
  simp only [Tr.val,List.length_map,Int.toNat_natCast,zal,h1,Option.map_some,Option.bind_some]
  refine .bT (by omega) (.bT (by omega) (.bT (by omega) ?_))
  refine exW (fun o=>p48_16) ?_
  simp only [Tr.val,AV.pure,zab,zaa,za2,zad,za5,za9,zac,za3,za8,za6,za7,za4,za0]
  refine .call (w94 hC t hF x.field) ?_
  rintro o e
  cases hf : fldF t.fields x.field with
  | none =>
   rw [hf] at e
   simp only [e,fOut,AV.pure,zab,zgw,za0]
   refine exW (fun o=>p48_19) ?_
   refine .brn rfl ?_
   refine .call (w84 hC T nx tg l (by omega) _ _) ?_
   rintro o ⟨t0,rfl⟩
   refine exW (fun o=>p48_21) ?_
   show Was (RL C 48 _ _) _
   rw [hw]
   exact go t0 _ (Nat.le_refl 1) (by unfold znn; rw [hf])
  | some f =>
   rw [hf] at e
   simp only [e,fOut,AV.pure,zab,zgw,za0]
   refine exW (fun o=>p48_19) ?_
   refine .brf rfl ?_
   refine Was.ndec (fun k1=>Was.ndec (fun k4=>?_) (fun k4=>?_)) (fun k1=>?_)
   ·refine .call (w84 hC T nx tg l (by omega) _ _) ?_
    rintro o ⟨t0,rfl⟩
    refine exW (fun o=>p48_22) ?_
    show Was (RL C 48 _ _) _
    rw [hw]
    exact go t0 _ (Nat.le_refl 1) (by unfold znn; rw [hf]; exact (if_pos ⟨k1,k4⟩).symm)
   ·have := go tg [] (Nat.zero_le _) (by unfold znn; rw [hf]; exact (if_neg (fun h=>h.2 k4)).symm)
    rw [List.append_nil] at this
    show Was (RL C 48 _ _) _
    rw [hw]
    exact this
   ·have := go tg [] (Nat.zero_le _) (by unfold znn; rw [hf]; exact (if_neg (fun h=>h.1 k1)).symm)
    rw [List.append_nil] at this
    show Was (RL C 48 _ _) _
    rw [hw]
    exact this
end Go.Proofs.YtfdklpkfpmkgeaaGreatDoor
end
section
namespace Go.Proofs.YtfdklpkfpmkgeaaGreatDoor
open Go Go.Vai
attribute [local irreducible] goTo zaq mkS
set_option maxHeartbeats 40000000
theorem zbu : ∀ (r : List Nm) (ks : List (List UInt8)),(dupD ks r).length ≤ r.length
 | [],_=>Nat.le_refl _
 | x :: r,ks=>by
  rw [dupD,List.length_append,List.length_cons]
  have h1 := zbu r (addK x.name ks)
  have h2 := zfw (p := x.name ∈ ks) ⟨x.at_,5⟩
  omega
def nmP (p : Par) : Nm := ⟨p.name,p.at_⟩
def nmX (x : Idx) : Nm := ⟨x.field,x.at_⟩
def nmY (y : Qry) : Nm := ⟨y.name,y.at_⟩
def scY (t : Typ) (y : Qry) : Sc := { t := t,tg := y.tgP,ps := y.params,q := true }
def qryD (t : Typ) (y : Qry) : List Dg := dupD [] (y.params.map nmP) ++ (tyE (scY t y) y.res).2
def znt (t : Typ) : List Qry→List Dg
 | []=>[]
 | y :: r=>qryD t y ++ znt t r
def qryW (t : Typ) : List Qry→Nat
 | []=>0
 | y :: r=>y.params.length + (tyE (scY t y) y.res).2.length + qryW t r
structure WfY (y : Qry) : Prop where
 wf : WfE y.res
 sz : y.res.sz ≤ 1000000
 pl : y.params.length ≤ 400000
variable {C : Nat→Oracle} (hC : Ext C)
include hC
theorem w48_qry (t : Typ) (hF : t.fields.length ≤ 1000000) (hI : t.idxs.length ≤ 400000) (T : Hp) (nx : Nat) (tL : Bool) (L : List Qry) (hL : L.length ≤ 400000) : ∀ (r : List Qry) (i : Nat) (tg : Bool) (l : List Dg) (ct : Bool) (cs : List Nm),L.drop i = r→i ≤ L.length→(∀ y ∈ r,WfY y)→cs.length + r.length ≤ 400000→l.length + qryW t r + (cs.length + r.length) + 2 * t.idxs.length ≤ 1000000 →
  Was (RL C 48 [0,5,0,5,0,5,0,0,5,2,3,0,5,0,7,5,5,5,5,0,0,5,2,3] (mkS 144 [(0,.val (.ptr 0 0) .no),(3,.lp 3 0),(4,.val (.vs 2 ct (cs.map Nm.av)) .own),(64,.val (.vs 8 tL (List.map Qry.av L)) .no),(65,.val (.int .i64 (L.length : Int)) .no),(66,.val (.int .i64 (i : Int)) .no)] [(3,⟨(Typ.cs t),[]⟩)] (hD tg l T) nx))
   (QD (l ++ znt t r ++ dupD [] (cs ++ r.map nmY) ++ dupD [] (t.idxs.map nmX) ++ zlv t t.idxs) T nx):=by
 intro r
 induction r with
 | nil =>
  intro i tg l ct cs hi hil hr hc hb
  have := zaj _ _ hil hi
  rw [List.length_nil] at hb hc
  refine exW (fun o=>p48_4) ?_
  refine .bF (by omega) ?_
  refine .call (w90 hC T nx ct cs (by omega) tg l (by omega)) ?_
  rintro o ⟨t1,rfl⟩
  have d1 := zbu (cs.map fun x=>⟨x.name,x.at_⟩) []
  rw [List.length_map] at d1
  refine exW (fun o=>p48_7) ?_
  refine .call (w92 hC T nx t.tgI t.idxs hI t1 _ (by rw [List.length_append]; omega)) ?_
  rintro o ⟨t2,rfl⟩
  have d2 := zbu (t.idxs.map fun x=>⟨x.field,x.at_⟩) []
  rw [List.length_map] at d2
  refine exW (fun o=>p48_10) ?_
  rw [List.length_map]
  have h := w48_idx hC t hF T nx t.tgI t.idxs hI t.idxs 0 t2 (l ++ dupD [] (cs.map fun x=>⟨x.name,x.at_⟩) ++ dupD [] (t.idxs.map fun x=>⟨x.field,x.at_⟩)) rfl (Nat.zero_le _) (by simp only [List.length_append]; omega)
  rw [znt,List.append_nil,List.map_nil,List.append_nil]
  show Was (RL C 48 _ _) _
  rw [show cs.map (fun x=>(⟨x.name,x.at_⟩ : Nm)) = cs from List.map_id cs] at h ⊢
  exact h
 | cons y r ih =>
  intro i tg l ct cs hi hil hr hc hb
  obtain ⟨h1,h2,h3⟩ := zau _ _ hi
  obtain ⟨y1,y2,y3⟩ := hr y List.mem_cons_self
  rw [List.length_cons] at hb hc
  rw [qryW] at hb
  have hw := wi64 h3 (by omega)
  refine exW (fun o=>p48_4) ?_
  simp only [Tr.val,List.length_map,Int.toNat_natCast,zal,h1,Option.map_some,Option.bind_some,Qry.av_cs,zaf]
  refine .bT (by omega) (.bT (by omega) (.bT (by omega) ?_))
  refine exW (fun o=>p48_6) ?_
  simp only [Tr.val,List.length_map]
  refine .brn (zae (by omega)) (.brn (zae (by omega)) ?_)
  refine .call (w87 hC T nx y.tgP y.params y3 tg l (by omega)) ?_
  rintro o ⟨t1,rfl⟩
  have d1 := zbu (y.params.map fun x=>⟨x.name,x.at_⟩) []
  rw [List.length_map] at d1
  refine exW (fun o=>p48_9) ?_
  refine .brn (by simp only [AV.pure,zab,za5,za2,za8,zr3,zso,zsb,za0]) ?_
  refine .call (w52 hC (scY t y) hF (by show y.params.length ≤ 1000000; omega) y.res y1 y2) ?_
  rintro o ⟨t2,e⟩
  simp only [e,AV.pure,zab,za9,za0]
  refine exW (fun o=>p48_12) ?_
  simp only [Tr.val,List.length_map]
  refine .brn (zae (by rw [List.length_append]; omega)) (.brn (zae (by rw [List.length_append]; omega)) ?_)
  rw [zhl,hw,show cs.map Nm.av ++ [.agg [.str y.name,.int .i64 y.at_]] = (cs ++ [nmY y]).map Nm.av from (List.map_append (f := Nm.av) (l₁ := cs) (l₂ := [nmY y])).symm]
  have h := ih (i + 1) false (l ++ dupD [] (y.params.map nmP) ++ (tyE (scY t y) y.res).2) false (cs ++ [nmY y]) h2 (by omega) (fun z hz=>hr z (List.mem_cons_of_mem _ hz)) (by rw [List.length_append,List.length_cons,List.length_nil]; omega)
   (by
    have : (dupD [] (y.params.map nmP)).length ≤ y.params.length := d1
    simp only [List.length_append,List.length_cons,List.length_nil]
    omega)
  rw [znt,qryD,List.map_cons]
  rw [List.append_assoc cs,List.singleton_append] at h
  rw [← List.append_assoc,← List.append_assoc]
  exact h
end Go.Proofs.YtfdklpkfpmkgeaaGreatDoor
end
section
namespace Go.Proofs.YtfdklpkfpmkgeaaGreatDoor
open Go Go.Vai
mutual
def Stm.sz : Stm→Nat
 | .mk _ _ _ _ th _ el _=>1 + szL th + szL el
def szL : List Stm→Nat
 | []=>0
 | e :: l=>e.sz + szL l
end
structure Cn where
 least : Int
 most : Int
 w : Bool
 o : Bool
mutual
def Stm.cn : Stm→Cn
 | .mk k _ _ _ th _ el _=>if k = 6 then ⟨if (cnL el).least < (cnL th).least then (cnL el).least else (cnL th).least,if (cnL th).most < (cnL el).most then (cnL el).most else (cnL th).most,(cnL th).w || (cnL el).w,(cnL th).o || (cnL el).o⟩ else ⟨1,1,decide (k = 1),!decide (k = 1)⟩
def cnL : List Stm→Cn
 | []=>⟨0,0,false,false⟩
 | e :: l=>⟨e.cn.least + (cnL l).least,e.cn.most + (cnL l).most,e.cn.w || (cnL l).w,e.cn.o || (cnL l).o⟩
end
structure Pa where
 a : Int
 b : Int
 c : Int
 d : Int
mutual
def Stm.pa : Stm→Pa
 | .mk k _ _ _ th _ el _=>if k = 1 then ⟨1,1,1,1⟩ else if k = 6 then ⟨if (paS el).a < (paS th).a then (paS el).a else (paS th).a,if (paS th).b < (paS el).b then (paS el).b else (paS th).b,if (paS el).c < (paS th).c then (paS el).c else (paS th).c,if (paS th).d < (paS el).d then (paS el).d else (paS th).d⟩ else ⟨1,1,0,0⟩
def paS : List Stm→Pa
 | []=>⟨0,0,0,0⟩
 | e :: l=>⟨e.pa.a + (paS l).a,e.pa.b + (paS l).b,e.pa.c + (paS l).c,e.pa.d + (paS l).d⟩
end
structure Both (n : Nat) (c : Cn) (p : Pa) : Prop where
 a : p.a = c.least
 b : p.b = c.most
 l0 : 0 ≤ c.least
 lm : c.least ≤ c.most
 mn : c.most ≤ n
 c0 : 0 ≤ p.c
 cd : p.c ≤ p.d
 db : p.d ≤ p.b
 w : c.w = false ↔ p.d = 0
 o1 : c.o = false→p.c = p.a∧p.d = p.b
 o2 : c.o = true→p.c + 1 ≤ p.b
mutual
theorem both_stm : ∀ e : Stm,Both e.sz e.cn e.pa
 | .mk k s v t1 th t2 el a=>by
  have h1 := zcg th
  have h2 := zcg el
  rw [Stm.sz,Stm.cn,Stm.pa]
  by_cases k1 : k = 1
  ·subst k1
   rw [if_neg (by decide),if_pos rfl]
   exact ⟨rfl,rfl,by simp,by simp,by simp; omega,by simp,by simp,by simp,by simp,by simp,by simp⟩
  rw [if_neg k1]
  by_cases k6 : k = 6
  ·rw [if_pos k6,if_pos k6]
   obtain ⟨a1,b1,l1,m1,n1,c1,d1,e1,w1,o1,p1⟩ := h1
   obtain ⟨a2,b2,l2,m2,n2,c2,d2,e2,w2,o2,p2⟩ := h2
   refine ⟨?_,?_,?_,?_,?_,?_,?_,?_,?_,?_,?_⟩
   ·simp only [a1,a2]
   ·simp only [b1,b2]
   ·simp only; split <;> omega
   ·simp only; split <;> split <;> omega
   ·simp only; split <;> omega
   ·simp only; split <;> omega
   ·simp only; split <;> split <;> omega
   ·simp only; split <;> split <;> omega
   ·simp only [Bool.or_eq_false_iff,w1,w2]
    constructor
    ·rintro ⟨x,y⟩; split <;> omega
    ·intro h; split at h <;> omega
   ·simp only [Bool.or_eq_false_iff]
    rintro ⟨x,y⟩
    have q1 := o1 x
    have q2 := o2 y
    rw [q1.1,q1.2,q2.1,q2.2]
    exact ⟨rfl,rfl⟩
   ·simp only [Bool.or_eq_true]
    rintro (x | x)
    ·have q1 := p1 x; split <;> split <;> omega
    ·have q1 := p2 x; split <;> split <;> omega
  ·rw [if_neg k6,if_neg k6]
   simp only [k1,decide_false,Bool.not_false]
   exact ⟨rfl,rfl,by simp,by simp,by simp; omega,by simp,by simp,by simp,by simp,by simp,by simp⟩
theorem zcg : ∀ l : List Stm,Both (szL l) (cnL l) (paS l)
 | []=>by
  rw [szL,cnL,paS]
  exact ⟨rfl,rfl,by simp,by simp,by simp,by simp,by simp,by simp,by simp,by simp,by simp⟩
 | e :: l=>by
  obtain ⟨a1,b1,l1,m1,n1,c1,d1,e1,w1,o1,p1⟩ := both_stm e
  obtain ⟨a2,b2,l2,m2,n2,c2,d2,e2,w2,o2,p2⟩ := zcg l
  rw [szL,cnL,paS]
  refine ⟨?_,?_,?_,?_,?_,?_,?_,?_,?_,?_,?_⟩
  ·simp only [a1,a2]
  ·simp only [b1,b2]
  ·simp only; omega
  ·simp only; omega
  ·simp only; omega
  ·simp only; omega
  ·simp only; omega
  ·simp only; omega
  ·simp only [Bool.or_eq_false_iff,w1,w2]; omega
  ·simp only [Bool.or_eq_false_iff]
   rintro ⟨x,y⟩
   have q1 := o1 x
   have q2 := o2 y
   omega
  ·simp only [Bool.or_eq_true]
   rintro (x | x)
   ·have q1 := p1 x; omega
   ·have q1 := p2 x; omega
end
def clsC (c : Cn) : Int := if c.least = 1∧c.most = 1∧c.o = false then 1 else if 1 ≤ c.least∧c.w = false then 2 else 0
theorem zkg : ∀ a b : List Stm,szL (a ++ b) = szL a + szL b
 | [],b=>by rw [List.nil_append,szL,Nat.zero_add]
 | e :: a,b=>by rw [List.cons_append,szL,szL,zkg a b,Nat.add_assoc]
end Go.Proofs.YtfdklpkfpmkgeaaGreatDoor
end
section
namespace Go.Proofs.YtfdklpkfpmkgeaaGreatDoor
open Go Go.Vai
attribute [local irreducible] goTo zaq mkS
theorem bytesOf_one (y : Int) : zdp [.int .u8 y] = some [UInt8.ofNat y.toNat] := rfl
variable {C : Nat→Oracle} (hC : Ext C)
include hC
omit hC
include hC
end Go.Proofs.YtfdklpkfpmkgeaaGreatDoor
end
section
namespace Go.Proofs.YtfdklpkfpmkgeaaGreatDoor
open Go Go.Vai
attribute [local irreducible] goTo zaq mkS
variable {C : Nat → Oracle} {o : Out}

























end Go.Proofs.YtfdklpkfpmkgeaaGreatDoor
end
section
namespace Go.Proofs.YtfdklpkfpmkgeaaGreatDoor
open Go Go.Vai
attribute [local irreducible] goTo zaq mkS
variable {C : Nat→Oracle} (hC : Ext C)
include hC
end Go.Proofs.YtfdklpkfpmkgeaaGreatDoor
end
