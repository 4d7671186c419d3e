/- Stage laws,printed by gen_p.py. -/
import Derived.Test.YtfdklpkfpmkgeaaGreatDoorM5
import Derived.Test.YtfdklpkfpmkgeaaGreatDoorM13
set_option linter.unusedSimpArgs false
set_option linter.unusedVariables false
set_option linter.unusedSectionVars false
set_option linter.unnecessarySimpa false
section
namespace Go.Proofs.YtfdklpkfpmkgeaaGreatDoor
open Go Go.Vai
attribute [local irreducible] goTo zas mkS
variable {C : Nat → Oracle} {o : Out}
abbrev cI0 : AV := (.vs 1 true [(.str [110]),(.str [55]),(.str [48]),(.str [110]),(.str [49,50,51,52,53,54,55,56,57,48,49])])
abbrev cI1 : AV := (.vs 1 true [(.str [112]),(.str [116,114,117,101]),(.str [102,97,108,115,101])])
abbrev cI2 : AV := (.vs 1 true [(.str [97]),(.str [98]),(.str [99]),(.str [115,105,122,101,40,116,97,103,115,41])])
abbrev cI3 : AV := (.vs 1 true [(.str [119]),(.str [34,34]),(.str [34,97,110,110,34]),(.str [119])])
abbrev cI4 : AV := (.vs 1 true [(.str [32,43,32]),(.str [32,45,32]),(.str [32,42,32])])
abbrev cI5 : AV := (.vs 1 true [(.str [32,38,38,32]),(.str [32,124,124,32])])
abbrev cI6 : AV := (.vs 1 true [(.str [32,61,61,32]),(.str [32,33,61,32]),(.str [32,60,32]),(.str [32,60,61,32]),(.str [32,62,32]),(.str [32,62,61,32])])
abbrev qI0 : List Nat := [0,5,0,5,0,5,0,0,5,6,5,0,5,0,0,5,2,0,5,6,0,0,5,0,5,7,0,5,7,5,0,0,5,7,5,0]
abbrev qI1 : List Nat := [0,5,0,5,0,5,0,0,5,7,5,0,5,0,0,5,2,0,5,6,0,0,5,0,5,7,0,5,7,5,0,0,5,7,5,0]
abbrev qI2 : List Nat := [0,5,0,5,0,5,0,0,5,6,5,0,5,0,0,5,2,0,5,6,0,0,5,0,5,7,0,5,7,5,0,0,5,6,0]
abbrev qI3 : List Nat := [0,5,0,5,0,5,0,0,5,7,5,0,5,0,0,5,2,0,5,6,0,0,5,0,5,7,0,5,7,5,0,0,5,6,0]
abbrev qI4 : List Nat := [0,5,0,5,0,5,0,0,5,6,5,0,5,0,0,5,2,0,5,7,0,5,6,0,0,5,7,5,0]
abbrev qI5 : List Nat := [0,5,0,5,0,5,0,0,5,7,5,0,5,0,0,5,2,0,5,7,0,5,6,0,0,5,7,5,0]
abbrev qI6 : List Nat := [0,5,0,5,0,5,0,0,5,6,5,0,5,0,0,5,2,0,5,7,0,5,7,5,5,0,0,5,2,0,5,6,5,5,0,0,5,7,5,0]
abbrev qI7 : List Nat := [0,5,0,5,0,5,0,0,5,6,5,0,5,0,0,5,2,0,5,7,0,5,7,5,5,0,0,5,2,0,5,7,0,5,7,0,5,7,0,5,7,0,5,7,5,5,0,0,5,7,5,0]
abbrev qI8 : List Nat := [0,5,0,5,0,5,0,0,5,7,5,0,5,0,0,5,2,0,5,7,0,5,7,5,5,0,0,5,2,0,5,6,5,5,0,0,5,7,5,0]
abbrev qI9 : List Nat := [0,5,0,5,0,5,0,0,5,7,5,0,5,0,0,5,2,0,5,7,0,5,7,5,5,0,0,5,2,0,5,7,0,5,7,0,5,7,0,5,7,0,5,7,5,5,0,0,5,7,5,0]
abbrev qI10 : List Nat := [0,5,0,5,0,5,0,0,5,6,5,0,5,0,0,5,2,0,5,6,0,0]
abbrev qI11 : List Nat := [0,5,0,5,0,5,0,0,5,6,5,0,5,0,0,5,2,0,5,7,0,5,7,5,5,0,0]
abbrev qI12 : List Nat := [0,5,0,5,0,5,0,0,5,7,5,0,5,0,0,5,2,0,5,6,0,0]
abbrev qI13 : List Nat := [0,5,0,5,0,5,0,0,5,7,5,0,5,0,0,5,2,0,5,7,0,5,7,5,5,0,0]
abbrev qI14 : List Nat := [0,5,0,5,0,5,0,0,5,6,5,0,5,0,0,5,2,0,5,6,0,0,5,0,5,7,0,5,6,0]
abbrev qI15 : List Nat := [0,5,0,5,0,5,0,0,5,6,5,0,5,0,0,5,2,0,5,7,0,5,7,5,5,0,0,5,2,0,5,7,0,5,7,0,5,7,0,5,7,0,5,6,0,5,0]
abbrev qI16 : List Nat := [0,5,0,5,0,5,0,0,5,7,5,0,5,0,0,5,2,0,5,6,0,0,5,0,5,7,0,5,6,0]
abbrev qI17 : List Nat := [0,5,0,5,0,5,0,0,5,7,5,0,5,0,0,5,2,0,5,7,0,5,7,5,5,0,0,5,2,0,5,7,0,5,7,0,5,7,0,5,7,0,5,6,0,5,0]
abbrev qI18 : List Nat := [0,5,0,5,0,5,0,0,5,6,5,0,5,0,0,5,2,0,5,6,0,0,5,0,5,6,0]
abbrev qI19 : List Nat := [0,5,0,5,0,5,0,0,5,6,5,0,5,0,0,5,2,0,5,7,0,5,7,5,5,0,0,5,2,0,5,7,0,5,6,0]
abbrev qI20 : List Nat := [0,5,0,5,0,5,0,0,5,6,5,0,5,0,0,5,2,0,5,7,0,5,7,5,5,0,0,5,2,0,5,7,0,5,7,0,5,6,0]
abbrev qI21 : List Nat := [0,5,0,5,0,5,0,0,5,6,5,0,5,0,0,5,2,0,5,7,0,5,7,5,5,0,0,5,2,0,5,7,0,5,7,0,5,7,0,5,6,0]
abbrev qI22 : List Nat := [0,5,0,5,0,5,0,0,5,7,5,0,5,0,0,5,2,0,5,6,0,0,5,0,5,6,0]
abbrev qI23 : List Nat := [0,5,0,5,0,5,0,0,5,7,5,0,5,0,0,5,2,0,5,7,0,5,7,5,5,0,0,5,2,0,5,7,0,5,6,0]
abbrev qI24 : List Nat := [0,5,0,5,0,5,0,0,5,7,5,0,5,0,0,5,2,0,5,7,0,5,7,5,5,0,0,5,2,0,5,7,0,5,7,0,5,6,0]
abbrev qI25 : List Nat := [0,5,0,5,0,5,0,0,5,7,5,0,5,0,0,5,2,0,5,7,0,5,7,5,5,0,0,5,2,0,5,7,0,5,7,0,5,7,0,5,6,0]
abbrev qI26 : List Nat := [0,5,0,5,0,5,0,0,5,6,5,0,5,0,0,5,2,0,5,6,0,0,5,0,5,6,0,5,0]
abbrev qI27 : List Nat := [0,5,0,5,0,5,0,0,5,6,5,0,5,0,0,5,2,0,5,7,0,5,7,5,5,0,0,5,2,0,5,7,0,5,6,0,5,0]
abbrev qI28 : List Nat := [0,5,0,5,0,5,0,0,5,6,5,0,5,0,0,5,2,0,5,7,0,5,7,5,5,0,0,5,2,0,5,7,0,5,7,0,5,7,0,5,7,0,5,6,0,5,0,5,0]
abbrev qI29 : List Nat := [0,5,0,5,0,5,0,0,5,7,5,0,5,0,0,5,2,0,5,6,0,0,5,0,5,6,0,5,0]
abbrev qI30 : List Nat := [0,5,0,5,0,5,0,0,5,7,5,0,5,0,0,5,2,0,5,7,0,5,7,5,5,0,0,5,2,0,5,7,0,5,6,0,5,0]
abbrev qI31 : List Nat := [0,5,0,5,0,5,0,0,5,7,5,0,5,0,0,5,2,0,5,7,0,5,7,5,5,0,0,5,2,0,5,7,0,5,7,0,5,7,0,5,7,0,5,6,0,5,0,5,0]
abbrev qI32 : List Nat := [0,5,0,5,0,5,0,0,5,6,5,0,5,0,0,5,2,0,5,6,0,0,5,0,5,6,0,5,0,5,0]
abbrev qI33 : List Nat := [0,5,0,5,0,5,0,0,5,6,5,0,5,0,0,5,2,0,5,7,0,5,7,5,5,0,0,5,2,0,5,7,0,5,6,0,5,0,5,0]
abbrev qI34 : List Nat := [0,5,0,5,0,5,0,0,5,6,5,0,5,0,0,5,2,0,5,7,0,5,7,5,5,0,0,5,2,0,5,7,0,5,7,0,5,7,0,5,7,0,5,6,0,5,0,5,0,5,0]
abbrev qI35 : List Nat := [0,5,0,5,0,5,0,0,5,7,5,0,5,0,0,5,2,0,5,6,0,0,5,0,5,6,0,5,0,5,0]
abbrev qI36 : List Nat := [0,5,0,5,0,5,0,0,5,7,5,0,5,0,0,5,2,0,5,7,0,5,7,5,5,0,0,5,2,0,5,7,0,5,6,0,5,0,5,0]
abbrev qI37 : List Nat := [0,5,0,5,0,5,0,0,5,7,5,0,5,0,0,5,2,0,5,7,0,5,7,5,5,0,0,5,2,0,5,7,0,5,7,0,5,7,0,5,7,0,5,6,0,5,0,5,0,5,0]
theorem p41_c (hC : Ext C) {tg_1 c_6 : Bool} {l_2 : List AV} {x_3 x_4 x_5 : Int} (ho : RL C 41 [] (mk0 292 [vv 0 (.vs 1 tg_1 l_2),vi 1 x_3,vi 2 x_4,vi 3 x_5,vb 4 c_6]) = some o) : calL C 41 [(.vs 1 tg_1 l_2),(i6 x_3),(i6 x_4),(i6 x_5),(.bool c_6)] Hp.none 0 = some o := hC.call rfl (fun _ _ => by kernel_rfl) ho
theorem p41_0 {tg_1 c_6 : Bool} {l_2 : List AV} {x_3 x_4 x_5 : Int} (ho : Tr.val C 41
(cl0 34 [(.vs 1 tg_1 l_2),(i6 x_3)] fun r1 => .br (AV.pure r1.v)
(.mid 0 [0,5,0] 3 (mk0 292 [vv 0 (.vs 1 tg_1 l_2),vi 1 x_3,vi 2 x_4,vi 3 x_5,vb 4 c_6,vv 36 (.vs 1 tg_1 l_2),vi 37 x_3,vv 38 r1.v])) .none) = some o) : RL C 41 [] (mk0 292 [vv 0 (.vs 1 tg_1 l_2),vi 1 x_3,vi 2 x_4,vi 3 x_5,vb 4 c_6]) = some o := stR C 4 (fun _ _ => by kernel_rfl) ho
theorem p41_1 {tg_1 c_6 : Bool} {l_2 : List AV} {x_3 x_4 x_5 x_7 : Int} (ho : Tr.val C 41
(cl0 22 [(i6 x_7),(i6 1099511627776)] fun r2 => .br (AV.pure r2.v)
(.mid 0 [0,5,0,5,0] 2 (mk0 292 [vv 0 (.vs 1 tg_1 l_2),vi 1 x_3,vi 2 x_4,vi 3 x_5,vb 4 c_6,vi 12 x_7,vi 39 x_7,vv 40 r2.v])) .none) = some o) : ML C 41 [0,5,0] 3 (mk0 292 [vv 0 (.vs 1 tg_1 l_2),vi 1 x_3,vi 2 x_4,vi 3 x_5,vb 4 c_6,vv 36 (.vs 1 tg_1 l_2),vi 37 x_3,vi 38 x_7]) = some o := stM C 2 (fun _ _ => by kernel_rfl) ho
theorem p41_2 {tg_1 c_6 : Bool} {l_2 : List AV} {x_3 x_4 x_5 x_7 x_8 : Int} (ho : Tr.val C 41
(cl0 22 [(i6 x_7),(i6 37)] fun r3 => .br (AV.pure r3.v)
(.mid 0 [0,5,0,5,0,5,0,0] 2 (mk0 292 [vv 0 (.vs 1 tg_1 l_2),vi 1 x_3,vi 2 x_4,vi 3 x_5,vb 4 c_6,vi 12 x_7,vi 13 (w64 (Int.tdiv x_8 16)),vi 42 x_7,vv 43 r3.v])) .none) = some o) : ML C 41 [0,5,0,5,0] 2 (mk0 292 [vv 0 (.vs 1 tg_1 l_2),vi 1 x_3,vi 2 x_4,vi 3 x_5,vb 4 c_6,vi 12 x_7,vi 39 x_7,vi 40 x_8]) = some o := stM C 3 (fun _ _ => by kernel_rfl) ho
theorem p41_3 {tg_1 c_6 : Bool} {l_2 : List AV} {x_3 x_4 x_5 x_7 x_9 x_10 : Int} (ho : Tr.val C 41
(.br (decide (x_9 = 36))
(.br (decide (3 < x_5))
(.br (decide ((w64 (1 + (Int.tmod x_10 3))) = 1))
(cl0 22 [(i6 x_7),(i6 8)] fun r4 => .br (AV.pure r4.v)
(.mid 7 qI10 2 (mk0 292 [vv 0 (.vs 1 tg_1 l_2),vi 1 x_3,vi 2 (w64 (1 + (Int.tmod x_10 3))),vi 3 x_5,vb 4 c_6,vi 12 x_7,vi 13 x_10,vb 14 true,vi 57 (w64 (1 + (Int.tmod x_10 3))),vb 58 true,vi 60 x_7,vv 61 r4.v])) .none)
(.br (decide ((w64 (1 + (Int.tmod x_10 3))) = 2))
(.br c_6
(.br (decide ((Int.tmod x_10 2) = 0))
(rt (.tuple [(.str [111,119,110,101,114]),(i6 (w64 (x_3 + 1)))]))
(ixl 4 [(.str [119]),(.str [34,34]),(.str [34,97,110,110,34]),(.str [119])] (Int.tmod (w64 (Int.tdiv x_10 2)) 4) fun c5 =>
(.mid 0 qI4 5 (mkS 292 [vi 1 x_3,vi 13 x_10,vb 149 false,vv 152 cI3,vi 153 x_10,vi 154 (w64 (Int.tdiv x_10 2)),vi 155 (Int.tmod (w64 (Int.tdiv x_10 2)) 4),vv 156 (.cptr (AV.cells c5))] [] Hp.none 0))))
(ixl 4 [(.str [119]),(.str [34,34]),(.str [34,97,110,110,34]),(.str [119])] (Int.tmod (w64 (Int.tdiv x_10 2)) 4) fun c6 =>
(.mid 0 qI4 5 (mkS 292 [vi 1 x_3,vi 13 x_10,vb 149 false,vv 152 cI3,vi 153 x_10,vi 154 (w64 (Int.tdiv x_10 2)),vi 155 (Int.tmod (w64 (Int.tdiv x_10 2)) 4),vv 156 (.cptr (AV.cells c6))] [] Hp.none 0))))
(cl0 22 [(i6 x_7),(i6 10)] fun r7 => .br (AV.pure r7.v)
(.mid 2 qI11 2 (mk0 292 [vv 0 (.vs 1 tg_1 l_2),vi 1 x_3,vi 2 (w64 (1 + (Int.tmod x_10 3))),vi 3 x_5,vb 4 c_6,vi 12 x_7,vi 13 x_10,vb 14 true,vb 142 false,vi 160 x_7,vv 161 r7.v])) .none)))
(.br (decide ((w64 (1 + (Int.tmod x_10 3))) = 1))
(cl0 22 [(i6 x_7),(i6 8)] fun r8 => .br (AV.pure r8.v)
(.mid 7 qI10 2 (mk0 292 [vv 0 (.vs 1 tg_1 l_2),vi 1 x_3,vi 2 (w64 (1 + (Int.tmod x_10 3))),vi 3 x_5,vb 4 c_6,vi 12 x_7,vi 13 x_10,vb 14 (decide ((w64 ((l_2.length : Int) + 4)) < x_3)),vi 57 (w64 (1 + (Int.tmod x_10 3))),vb 58 true,vi 60 x_7,vv 61 r8.v])) .none)
(.br (decide ((w64 (1 + (Int.tmod x_10 3))) = 2))
(.br c_6
(.br (decide ((Int.tmod x_10 2) = 0))
(rt (.tuple [(.str [111,119,110,101,114]),(i6 (w64 (x_3 + 1)))]))
(ixl 4 [(.str [119]),(.str [34,34]),(.str [34,97,110,110,34]),(.str [119])] (Int.tmod (w64 (Int.tdiv x_10 2)) 4) fun c9 =>
(.mid 0 qI4 5 (mkS 292 [vi 1 x_3,vi 13 x_10,vb 149 false,vv 152 cI3,vi 153 x_10,vi 154 (w64 (Int.tdiv x_10 2)),vi 155 (Int.tmod (w64 (Int.tdiv x_10 2)) 4),vv 156 (.cptr (AV.cells c9))] [] Hp.none 0))))
(ixl 4 [(.str [119]),(.str [34,34]),(.str [34,97,110,110,34]),(.str [119])] (Int.tmod (w64 (Int.tdiv x_10 2)) 4) fun c10 =>
(.mid 0 qI4 5 (mkS 292 [vi 1 x_3,vi 13 x_10,vb 149 false,vv 152 cI3,vi 153 x_10,vi 154 (w64 (Int.tdiv x_10 2)),vi 155 (Int.tmod (w64 (Int.tdiv x_10 2)) 4),vv 156 (.cptr (AV.cells c10))] [] Hp.none 0))))
(cl0 22 [(i6 x_7),(i6 10)] fun r11 => .br (AV.pure r11.v)
(.mid 2 qI11 2 (mk0 292 [vv 0 (.vs 1 tg_1 l_2),vi 1 x_3,vi 2 (w64 (1 + (Int.tmod x_10 3))),vi 3 x_5,vb 4 c_6,vi 12 x_7,vi 13 x_10,vb 14 (decide ((w64 ((l_2.length : Int) + 4)) < x_3)),vb 142 false,vi 160 x_7,vv 161 r11.v])) .none))))
(.br (decide (3 < x_5))
(.br (decide (x_4 = 1))
(cl0 22 [(i6 x_7),(i6 8)] fun r12 => .br (AV.pure r12.v)
(.mid 7 qI12 2 (mk0 292 [vv 0 (.vs 1 tg_1 l_2),vi 1 x_3,vi 2 x_4,vi 3 x_5,vb 4 c_6,vi 12 x_7,vi 13 x_10,vb 14 true,vi 57 x_4,vb 58 true,vi 60 x_7,vv 61 r12.v])) .none)
(.br (decide (x_4 = 2))
(.br c_6
(.br (decide ((Int.tmod x_10 2) = 0))
(rt (.tuple [(.str [111,119,110,101,114]),(i6 (w64 (x_3 + 1)))]))
(ixl 4 [(.str [119]),(.str [34,34]),(.str [34,97,110,110,34]),(.str [119])] (Int.tmod (w64 (Int.tdiv x_10 2)) 4) fun c13 =>
(.mid 0 qI5 5 (mkS 292 [vi 1 x_3,vi 13 x_10,vb 149 false,vv 152 cI3,vi 153 x_10,vi 154 (w64 (Int.tdiv x_10 2)),vi 155 (Int.tmod (w64 (Int.tdiv x_10 2)) 4),vv 156 (.cptr (AV.cells c13))] [] Hp.none 0))))
(ixl 4 [(.str [119]),(.str [34,34]),(.str [34,97,110,110,34]),(.str [119])] (Int.tmod (w64 (Int.tdiv x_10 2)) 4) fun c14 =>
(.mid 0 qI5 5 (mkS 292 [vi 1 x_3,vi 13 x_10,vb 149 false,vv 152 cI3,vi 153 x_10,vi 154 (w64 (Int.tdiv x_10 2)),vi 155 (Int.tmod (w64 (Int.tdiv x_10 2)) 4),vv 156 (.cptr (AV.cells c14))] [] Hp.none 0))))
(cl0 22 [(i6 x_7),(i6 10)] fun r15 => .br (AV.pure r15.v)
(.mid 2 qI13 2 (mk0 292 [vv 0 (.vs 1 tg_1 l_2),vi 1 x_3,vi 2 x_4,vi 3 x_5,vb 4 c_6,vi 12 x_7,vi 13 x_10,vb 14 true,vb 142 false,vi 160 x_7,vv 161 r15.v])) .none)))
(.br (decide (x_4 = 1))
(cl0 22 [(i6 x_7),(i6 8)] fun r16 => .br (AV.pure r16.v)
(.mid 7 qI12 2 (mk0 292 [vv 0 (.vs 1 tg_1 l_2),vi 1 x_3,vi 2 x_4,vi 3 x_5,vb 4 c_6,vi 12 x_7,vi 13 x_10,vb 14 (decide ((w64 ((l_2.length : Int) + 4)) < x_3)),vi 57 x_4,vb 58 true,vi 60 x_7,vv 61 r16.v])) .none)
(.br (decide (x_4 = 2))
(.br c_6
(.br (decide ((Int.tmod x_10 2) = 0))
(rt (.tuple [(.str [111,119,110,101,114]),(i6 (w64 (x_3 + 1)))]))
(ixl 4 [(.str [119]),(.str [34,34]),(.str [34,97,110,110,34]),(.str [119])] (Int.tmod (w64 (Int.tdiv x_10 2)) 4) fun c17 =>
(.mid 0 qI5 5 (mkS 292 [vi 1 x_3,vi 13 x_10,vb 149 false,vv 152 cI3,vi 153 x_10,vi 154 (w64 (Int.tdiv x_10 2)),vi 155 (Int.tmod (w64 (Int.tdiv x_10 2)) 4),vv 156 (.cptr (AV.cells c17))] [] Hp.none 0))))
(ixl 4 [(.str [119]),(.str [34,34]),(.str [34,97,110,110,34]),(.str [119])] (Int.tmod (w64 (Int.tdiv x_10 2)) 4) fun c18 =>
(.mid 0 qI5 5 (mkS 292 [vi 1 x_3,vi 13 x_10,vb 149 false,vv 152 cI3,vi 153 x_10,vi 154 (w64 (Int.tdiv x_10 2)),vi 155 (Int.tmod (w64 (Int.tdiv x_10 2)) 4),vv 156 (.cptr (AV.cells c18))] [] Hp.none 0))))
(cl0 22 [(i6 x_7),(i6 10)] fun r19 => .br (AV.pure r19.v)
(.mid 2 qI13 2 (mk0 292 [vv 0 (.vs 1 tg_1 l_2),vi 1 x_3,vi 2 x_4,vi 3 x_5,vb 4 c_6,vi 12 x_7,vi 13 x_10,vb 14 (decide ((w64 ((l_2.length : Int) + 4)) < x_3)),vb 142 false,vi 160 x_7,vv 161 r19.v])) .none))))) = some o) : ML C 41 [0,5,0,5,0,5,0,0] 2 (mk0 292 [vv 0 (.vs 1 tg_1 l_2),vi 1 x_3,vi 2 x_4,vi 3 x_5,vb 4 c_6,vi 12 x_7,vi 13 x_10,vi 42 x_7,vi 43 x_9]) = some o := stM C 21 (fun _ _ => by kernel_rfl) ho
theorem p41_4 {tg_1 c_6 : Bool} {l_2 : List AV} {x_3 x_5 x_7 x_10 x_11 x_12 : Int} (ho : Tr.val C 41
(.br c_6
(.br (decide ((Int.tmod x_10 2) = 0))
(ixl 4 [(.str [97]),(.str [98]),(.str [99]),(.str [115,105,122,101,40,116,97,103,115,41])] (Int.tmod (w64 (Int.tdiv x_10 2)) 4) fun c20 =>
(.mid 1 qI2 5 (mkS 292 [vi 1 x_3,vi 13 x_10,vb 125 true,vv 126 cI2,vi 127 x_10,vi 128 (w64 (Int.tdiv x_10 2)),vi 129 (Int.tmod (w64 (Int.tdiv x_10 2)) 4),vv 130 (.cptr (AV.cells c20))] [] Hp.none 0)))
(ixl 5 [(.str [110]),(.str [55]),(.str [48]),(.str [110]),(.str [49,50,51,52,53,54,55,56,57,48,49])] (Int.tmod (w64 (Int.tdiv x_10 2)) 5) fun c21 =>
(.mid 0 qI0 5 (mkS 292 [vi 1 x_3,vi 13 x_10,vb 125 false,vv 134 cI0,vi 135 x_10,vi 136 (w64 (Int.tdiv x_10 2)),vi 137 (Int.tmod (w64 (Int.tdiv x_10 2)) 5),vv 138 (.cptr (AV.cells c21))] [] Hp.none 0))))
(ixl 5 [(.str [110]),(.str [55]),(.str [48]),(.str [110]),(.str [49,50,51,52,53,54,55,56,57,48,49])] (Int.tmod (w64 (Int.tdiv x_10 2)) 5) fun c22 =>
(.mid 0 qI0 5 (mkS 292 [vi 1 x_3,vi 13 x_10,vb 125 false,vv 134 cI0,vi 135 x_10,vi 136 (w64 (Int.tdiv x_10 2)),vi 137 (Int.tmod (w64 (Int.tdiv x_10 2)) 5),vv 138 (.cptr (AV.cells c22))] [] Hp.none 0)))) = some o) : ML C 41 qI10 2 (mk0 292 [vv 0 (.vs 1 tg_1 l_2),vi 1 x_3,vi 2 x_12,vi 3 x_5,vb 4 c_6,vi 12 x_7,vi 13 x_10,vb 14 true,vi 57 x_12,vb 58 true,vi 60 x_7,vi 61 x_11]) = some o := stM C 14 (fun _ _ => by kernel_rfl) ho
theorem p41_5 {x_3 x_10 x_14 x_15 : Int} {s_13 : List UInt8} (ho : Tr.val C 41
(rt (.tuple [(.str s_13),(i6 (w64 (x_3 + 1)))])) = some o) : ML C 41 qI4 5 (mkS 292 [vi 1 x_3,vi 13 x_10,vb 149 false,vv 152 cI3,vi 153 x_10,vi 154 x_14,vi 155 x_15,vv 156 (.cptr [(.str s_13)])] [] Hp.none 0) = some o := stM C 1 (fun _ _ => by kernel_rfl) ho
theorem p41_6 {tg_1 c_6 : Bool} {l_2 : List AV} {x_3 x_5 x_7 x_10 x_19 x_20 : Int} (ho : Tr.val C 41
(.br c_6
(.br (decide ((Int.tmod x_10 3) = 0))
(rt (.tuple [(.str [120,49]),(i6 (w64 (x_3 + 1)))]))
(ixl 3 [(.str [112]),(.str [116,114,117,101]),(.str [102,97,108,115,101])] (Int.tmod (w64 (Int.tdiv x_10 3)) 3) fun c23 =>
(.mid 0 qI6 5 (mkS 292 [vi 1 x_3,vi 13 x_10,vb 281 false,vv 284 cI1,vi 285 x_10,vi 286 (w64 (Int.tdiv x_10 3)),vi 287 (Int.tmod (w64 (Int.tdiv x_10 3)) 3),vv 288 (.cptr (AV.cells c23))] [] Hp.none 0))))
(ixl 3 [(.str [112]),(.str [116,114,117,101]),(.str [102,97,108,115,101])] (Int.tmod (w64 (Int.tdiv x_10 3)) 3) fun c24 =>
(.mid 0 qI6 5 (mkS 292 [vi 1 x_3,vi 13 x_10,vb 281 false,vv 284 cI1,vi 285 x_10,vi 286 (w64 (Int.tdiv x_10 3)),vi 287 (Int.tmod (w64 (Int.tdiv x_10 3)) 3),vv 288 (.cptr (AV.cells c24))] [] Hp.none 0)))) = some o) : ML C 41 qI11 2 (mk0 292 [vv 0 (.vs 1 tg_1 l_2),vi 1 x_3,vi 2 x_20,vi 3 x_5,vb 4 c_6,vi 12 x_7,vi 13 x_10,vb 14 true,vb 142 false,vi 160 x_7,vi 161 x_19]) = some o := stM C 13 (fun _ _ => by kernel_rfl) ho
theorem p41_7 {tg_1 c_6 c_23 : Bool} {l_2 : List AV} {x_3 x_5 x_7 x_10 x_21 x_22 : Int} (ho : Tr.val C 41
(.br (!c_23)
(.br (decide (x_21 < 3))
(cl0 41 [(.vs 1 tg_1 l_2),(i6 (w64 (x_3 + 1))),(i6 x_22),(i6 (w64 (x_5 + 1))),(.bool c_6)] fun r25 => .br (AV.pure r25.v)
(.mid 9 qI18 8 (mk0 292 [vv 0 (.vs 1 tg_1 l_2),vi 1 x_3,vi 2 x_22,vi 3 x_5,vb 4 c_6,vi 13 x_10,vb 14 c_23,vi 15 x_21,vb 67 true,vv 69 (.vs 1 tg_1 l_2),vi 70 x_3,vi 71 (w64 (x_3 + 1)),vi 72 x_22,vi 73 x_5,vi 74 (w64 (x_5 + 1)),vb 75 c_6,vv 76 r25.v])) .none)
(.br (!c_23)
(.br (decide (x_21 = 3))
(cl0 41 [(.vs 1 tg_1 l_2),(i6 (w64 (x_3 + 1))),(i6 x_22),(i6 (w64 (x_5 + 1))),(.bool c_6)] fun r26 => .br (AV.pure r26.v)
(.mid 6 qI14 8 (mk0 292 [vv 0 (.vs 1 tg_1 l_2),vi 1 x_3,vi 2 x_22,vi 3 x_5,vb 4 c_6,vi 13 x_10,vb 105 true,vv 107 (.vs 1 tg_1 l_2),vi 108 x_3,vi 109 (w64 (x_3 + 1)),vi 110 x_22,vi 111 x_5,vi 112 (w64 (x_5 + 1)),vb 113 c_6,vv 114 r26.v])) .none)
(.br c_6
(.br (decide ((Int.tmod x_10 2) = 0))
(ixl 4 [(.str [97]),(.str [98]),(.str [99]),(.str [115,105,122,101,40,116,97,103,115,41])] (Int.tmod (w64 (Int.tdiv x_10 2)) 4) fun c27 =>
(.mid 1 qI2 5 (mkS 292 [vi 1 x_3,vi 13 x_10,vb 125 true,vv 126 cI2,vi 127 x_10,vi 128 (w64 (Int.tdiv x_10 2)),vi 129 (Int.tmod (w64 (Int.tdiv x_10 2)) 4),vv 130 (.cptr (AV.cells c27))] [] Hp.none 0)))
(ixl 5 [(.str [110]),(.str [55]),(.str [48]),(.str [110]),(.str [49,50,51,52,53,54,55,56,57,48,49])] (Int.tmod (w64 (Int.tdiv x_10 2)) 5) fun c28 =>
(.mid 0 qI0 5 (mkS 292 [vi 1 x_3,vi 13 x_10,vb 125 false,vv 134 cI0,vi 135 x_10,vi 136 (w64 (Int.tdiv x_10 2)),vi 137 (Int.tmod (w64 (Int.tdiv x_10 2)) 5),vv 138 (.cptr (AV.cells c28))] [] Hp.none 0))))
(ixl 5 [(.str [110]),(.str [55]),(.str [48]),(.str [110]),(.str [49,50,51,52,53,54,55,56,57,48,49])] (Int.tmod (w64 (Int.tdiv x_10 2)) 5) fun c29 =>
(.mid 0 qI0 5 (mkS 292 [vi 1 x_3,vi 13 x_10,vb 125 false,vv 134 cI0,vi 135 x_10,vi 136 (w64 (Int.tdiv x_10 2)),vi 137 (Int.tmod (w64 (Int.tdiv x_10 2)) 5),vv 138 (.cptr (AV.cells c29))] [] Hp.none 0)))))
(.br c_6
(.br (decide ((Int.tmod x_10 2) = 0))
(ixl 4 [(.str [97]),(.str [98]),(.str [99]),(.str [115,105,122,101,40,116,97,103,115,41])] (Int.tmod (w64 (Int.tdiv x_10 2)) 4) fun c30 =>
(.mid 1 qI2 5 (mkS 292 [vi 1 x_3,vi 13 x_10,vb 125 true,vv 126 cI2,vi 127 x_10,vi 128 (w64 (Int.tdiv x_10 2)),vi 129 (Int.tmod (w64 (Int.tdiv x_10 2)) 4),vv 130 (.cptr (AV.cells c30))] [] Hp.none 0)))
(ixl 5 [(.str [110]),(.str [55]),(.str [48]),(.str [110]),(.str [49,50,51,52,53,54,55,56,57,48,49])] (Int.tmod (w64 (Int.tdiv x_10 2)) 5) fun c31 =>
(.mid 0 qI0 5 (mkS 292 [vi 1 x_3,vi 13 x_10,vb 125 false,vv 134 cI0,vi 135 x_10,vi 136 (w64 (Int.tdiv x_10 2)),vi 137 (Int.tmod (w64 (Int.tdiv x_10 2)) 5),vv 138 (.cptr (AV.cells c31))] [] Hp.none 0))))
(ixl 5 [(.str [110]),(.str [55]),(.str [48]),(.str [110]),(.str [49,50,51,52,53,54,55,56,57,48,49])] (Int.tmod (w64 (Int.tdiv x_10 2)) 5) fun c32 =>
(.mid 0 qI0 5 (mkS 292 [vi 1 x_3,vi 13 x_10,vb 125 false,vv 134 cI0,vi 135 x_10,vi 136 (w64 (Int.tdiv x_10 2)),vi 137 (Int.tmod (w64 (Int.tdiv x_10 2)) 5),vv 138 (.cptr (AV.cells c32))] [] Hp.none 0))))))
(.br (!c_23)
(.br (decide (x_21 = 3))
(cl0 41 [(.vs 1 tg_1 l_2),(i6 (w64 (x_3 + 1))),(i6 x_22),(i6 (w64 (x_5 + 1))),(.bool c_6)] fun r33 => .br (AV.pure r33.v)
(.mid 6 qI14 8 (mk0 292 [vv 0 (.vs 1 tg_1 l_2),vi 1 x_3,vi 2 x_22,vi 3 x_5,vb 4 c_6,vi 13 x_10,vb 105 true,vv 107 (.vs 1 tg_1 l_2),vi 108 x_3,vi 109 (w64 (x_3 + 1)),vi 110 x_22,vi 111 x_5,vi 112 (w64 (x_5 + 1)),vb 113 c_6,vv 114 r33.v])) .none)
(.br c_6
(.br (decide ((Int.tmod x_10 2) = 0))
(ixl 4 [(.str [97]),(.str [98]),(.str [99]),(.str [115,105,122,101,40,116,97,103,115,41])] (Int.tmod (w64 (Int.tdiv x_10 2)) 4) fun c34 =>
(.mid 1 qI2 5 (mkS 292 [vi 1 x_3,vi 13 x_10,vb 125 true,vv 126 cI2,vi 127 x_10,vi 128 (w64 (Int.tdiv x_10 2)),vi 129 (Int.tmod (w64 (Int.tdiv x_10 2)) 4),vv 130 (.cptr (AV.cells c34))] [] Hp.none 0)))
(ixl 5 [(.str [110]),(.str [55]),(.str [48]),(.str [110]),(.str [49,50,51,52,53,54,55,56,57,48,49])] (Int.tmod (w64 (Int.tdiv x_10 2)) 5) fun c35 =>
(.mid 0 qI0 5 (mkS 292 [vi 1 x_3,vi 13 x_10,vb 125 false,vv 134 cI0,vi 135 x_10,vi 136 (w64 (Int.tdiv x_10 2)),vi 137 (Int.tmod (w64 (Int.tdiv x_10 2)) 5),vv 138 (.cptr (AV.cells c35))] [] Hp.none 0))))
(ixl 5 [(.str [110]),(.str [55]),(.str [48]),(.str [110]),(.str [49,50,51,52,53,54,55,56,57,48,49])] (Int.tmod (w64 (Int.tdiv x_10 2)) 5) fun c36 =>
(.mid 0 qI0 5 (mkS 292 [vi 1 x_3,vi 13 x_10,vb 125 false,vv 134 cI0,vi 135 x_10,vi 136 (w64 (Int.tdiv x_10 2)),vi 137 (Int.tmod (w64 (Int.tdiv x_10 2)) 5),vv 138 (.cptr (AV.cells c36))] [] Hp.none 0)))))
(.br c_6
(.br (decide ((Int.tmod x_10 2) = 0))
(ixl 4 [(.str [97]),(.str [98]),(.str [99]),(.str [115,105,122,101,40,116,97,103,115,41])] (Int.tmod (w64 (Int.tdiv x_10 2)) 4) fun c37 =>
(.mid 1 qI2 5 (mkS 292 [vi 1 x_3,vi 13 x_10,vb 125 true,vv 126 cI2,vi 127 x_10,vi 128 (w64 (Int.tdiv x_10 2)),vi 129 (Int.tmod (w64 (Int.tdiv x_10 2)) 4),vv 130 (.cptr (AV.cells c37))] [] Hp.none 0)))
(ixl 5 [(.str [110]),(.str [55]),(.str [48]),(.str [110]),(.str [49,50,51,52,53,54,55,56,57,48,49])] (Int.tmod (w64 (Int.tdiv x_10 2)) 5) fun c38 =>
(.mid 0 qI0 5 (mkS 292 [vi 1 x_3,vi 13 x_10,vb 125 false,vv 134 cI0,vi 135 x_10,vi 136 (w64 (Int.tdiv x_10 2)),vi 137 (Int.tmod (w64 (Int.tdiv x_10 2)) 5),vv 138 (.cptr (AV.cells c38))] [] Hp.none 0))))
(ixl 5 [(.str [110]),(.str [55]),(.str [48]),(.str [110]),(.str [49,50,51,52,53,54,55,56,57,48,49])] (Int.tmod (w64 (Int.tdiv x_10 2)) 5) fun c39 =>
(.mid 0 qI0 5 (mkS 292 [vi 1 x_3,vi 13 x_10,vb 125 false,vv 134 cI0,vi 135 x_10,vi 136 (w64 (Int.tdiv x_10 2)),vi 137 (Int.tmod (w64 (Int.tdiv x_10 2)) 5),vv 138 (.cptr (AV.cells c39))] [] Hp.none 0)))))) = some o) : ML C 41 qI10 2 (mk0 292 [vv 0 (.vs 1 tg_1 l_2),vi 1 x_3,vi 2 x_22,vi 3 x_5,vb 4 c_6,vi 12 x_7,vi 13 x_10,vb 14 c_23,vi 57 x_22,vb 58 true,vi 60 x_7,vi 61 x_21]) = some o := stM C 14 (fun _ _ => by kernel_rfl) ho
theorem p41_8 {tg_1 c_6 c_32 : Bool} {l_2 : List AV} {x_3 x_5 x_7 x_10 x_30 x_31 : Int} (ho : Tr.val C 41
(.br c_32
(.br c_6
(.br (decide ((Int.tmod x_10 3) = 0))
(rt (.tuple [(.str [120,49]),(i6 (w64 (x_3 + 1)))]))
(ixl 3 [(.str [112]),(.str [116,114,117,101]),(.str [102,97,108,115,101])] (Int.tmod (w64 (Int.tdiv x_10 3)) 3) fun c40 =>
(.mid 12 qI6 5 (mkS 292 [vi 1 x_3,vi 13 x_10,vb 281 false,vv 284 cI1,vi 285 x_10,vi 286 (w64 (Int.tdiv x_10 3)),vi 287 (Int.tmod (w64 (Int.tdiv x_10 3)) 3),vv 288 (.cptr (AV.cells c40))] [] Hp.none 0))))
(ixl 3 [(.str [112]),(.str [116,114,117,101]),(.str [102,97,108,115,101])] (Int.tmod (w64 (Int.tdiv x_10 3)) 3) fun c41 =>
(.mid 12 qI6 5 (mkS 292 [vi 1 x_3,vi 13 x_10,vb 281 false,vv 284 cI1,vi 285 x_10,vi 286 (w64 (Int.tdiv x_10 3)),vi 287 (Int.tmod (w64 (Int.tdiv x_10 3)) 3),vv 288 (.cptr (AV.cells c41))] [] Hp.none 0))))
(.br (decide (x_30 < 2))
(cl0 41 [(.vs 1 tg_1 l_2),(i6 (w64 (x_3 + 1))),(i6 x_31),(i6 (w64 (x_5 + 1))),(.bool c_6)] fun r42 => .br (AV.pure r42.v)
(.mid 16 qI19 8 (mk0 292 [vv 0 (.vs 1 tg_1 l_2),vi 1 x_3,vi 2 x_31,vi 3 x_5,vb 4 c_6,vi 13 x_10,vi 22 x_30,vb 164 true,vv 168 (.vs 1 tg_1 l_2),vi 169 x_3,vi 170 (w64 (x_3 + 1)),vi 171 x_31,vi 172 x_5,vi 173 (w64 (x_5 + 1)),vb 174 c_6,vv 175 r42.v])) .none)
(.br (decide (x_30 = 2))
(cl0 41 [(.vs 1 tg_1 l_2),(i6 (w64 (x_3 + 1))),(i6 x_31),(i6 (w64 (x_5 + 1))),(.bool c_6)] fun r43 => .br (AV.pure r43.v)
(.mid 13 qI20 8 (mk0 292 [vv 0 (.vs 1 tg_1 l_2),vi 1 x_3,vi 2 x_31,vi 3 x_5,vb 4 c_6,vi 13 x_10,vi 22 x_30,vb 199 true,vv 203 (.vs 1 tg_1 l_2),vi 204 x_3,vi 205 (w64 (x_3 + 1)),vi 206 x_31,vi 207 x_5,vi 208 (w64 (x_5 + 1)),vb 209 c_6,vv 210 r43.v])) .none)
(.br (decide (x_30 = 3))
(.br c_6
(cl0 41 [(.vs 1 tg_1 l_2),(i6 (w64 (x_3 + 1))),(i6 2),(i6 (w64 (x_5 + 1))),(.bool c_6)] fun r44 => .br (AV.pure r44.v)
(.mid 10 qI21 7 (mk0 292 [vv 0 (.vs 1 tg_1 l_2),vi 1 x_3,vi 3 x_5,vb 4 c_6,vi 13 x_10,vi 22 x_30,vb 216 true,vv 223 (.vs 1 tg_1 l_2),vi 224 x_3,vi 225 (w64 (x_3 + 1)),vi 226 x_5,vi 227 (w64 (x_5 + 1)),vb 228 c_6,vv 229 r44.v])) .none)
(.br (decide (x_30 < 8))
(cl0 41 [(.vs 1 tg_1 l_2),(i6 (w64 (x_3 + 1))),(i6 (w64 (1 + (Int.tmod x_10 2)))),(i6 (w64 (x_5 + 1))),(.bool c_6)] fun r45 => .br (AV.pure r45.v)
(.mid 5 qI15 8 (mk0 292 [vv 0 (.vs 1 tg_1 l_2),vi 1 x_3,vi 3 x_5,vb 4 c_6,vi 13 x_10,vi 31 (w64 (1 + (Int.tmod x_10 2))),vv 243 (.vs 1 tg_1 l_2),vi 244 x_3,vi 245 (w64 (x_3 + 1)),vi 246 (w64 (1 + (Int.tmod x_10 2))),vi 247 x_5,vi 248 (w64 (x_5 + 1)),vb 249 c_6,vv 250 r45.v])) .none)
(.br c_6
(.br (decide ((Int.tmod x_10 3) = 0))
(rt (.tuple [(.str [120,49]),(i6 (w64 (x_3 + 1)))]))
(ixl 3 [(.str [112]),(.str [116,114,117,101]),(.str [102,97,108,115,101])] (Int.tmod (w64 (Int.tdiv x_10 3)) 3) fun c46 =>
(.mid 0 qI7 5 (mkS 292 [vi 1 x_3,vi 13 x_10,vb 281 false,vv 284 cI1,vi 285 x_10,vi 286 (w64 (Int.tdiv x_10 3)),vi 287 (Int.tmod (w64 (Int.tdiv x_10 3)) 3),vv 288 (.cptr (AV.cells c46))] [] Hp.none 0))))
(ixl 3 [(.str [112]),(.str [116,114,117,101]),(.str [102,97,108,115,101])] (Int.tmod (w64 (Int.tdiv x_10 3)) 3) fun c47 =>
(.mid 0 qI7 5 (mkS 292 [vi 1 x_3,vi 13 x_10,vb 281 false,vv 284 cI1,vi 285 x_10,vi 286 (w64 (Int.tdiv x_10 3)),vi 287 (Int.tmod (w64 (Int.tdiv x_10 3)) 3),vv 288 (.cptr (AV.cells c47))] [] Hp.none 0))))))
(.br (decide (x_30 < 8))
(cl0 41 [(.vs 1 tg_1 l_2),(i6 (w64 (x_3 + 1))),(i6 (w64 (1 + (Int.tmod x_10 2)))),(i6 (w64 (x_5 + 1))),(.bool c_6)] fun r48 => .br (AV.pure r48.v)
(.mid 5 qI15 8 (mk0 292 [vv 0 (.vs 1 tg_1 l_2),vi 1 x_3,vi 3 x_5,vb 4 c_6,vi 13 x_10,vi 31 (w64 (1 + (Int.tmod x_10 2))),vv 243 (.vs 1 tg_1 l_2),vi 244 x_3,vi 245 (w64 (x_3 + 1)),vi 246 (w64 (1 + (Int.tmod x_10 2))),vi 247 x_5,vi 248 (w64 (x_5 + 1)),vb 249 c_6,vv 250 r48.v])) .none)
(.br c_6
(.br (decide ((Int.tmod x_10 3) = 0))
(rt (.tuple [(.str [120,49]),(i6 (w64 (x_3 + 1)))]))
(ixl 3 [(.str [112]),(.str [116,114,117,101]),(.str [102,97,108,115,101])] (Int.tmod (w64 (Int.tdiv x_10 3)) 3) fun c49 =>
(.mid 0 qI7 5 (mkS 292 [vi 1 x_3,vi 13 x_10,vb 281 false,vv 284 cI1,vi 285 x_10,vi 286 (w64 (Int.tdiv x_10 3)),vi 287 (Int.tmod (w64 (Int.tdiv x_10 3)) 3),vv 288 (.cptr (AV.cells c49))] [] Hp.none 0))))
(ixl 3 [(.str [112]),(.str [116,114,117,101]),(.str [102,97,108,115,101])] (Int.tmod (w64 (Int.tdiv x_10 3)) 3) fun c50 =>
(.mid 0 qI7 5 (mkS 292 [vi 1 x_3,vi 13 x_10,vb 281 false,vv 284 cI1,vi 285 x_10,vi 286 (w64 (Int.tdiv x_10 3)),vi 287 (Int.tmod (w64 (Int.tdiv x_10 3)) 3),vv 288 (.cptr (AV.cells c50))] [] Hp.none 0))))))))) = some o) : ML C 41 qI11 2 (mk0 292 [vv 0 (.vs 1 tg_1 l_2),vi 1 x_3,vi 2 x_31,vi 3 x_5,vb 4 c_6,vi 12 x_7,vi 13 x_10,vb 14 c_32,vb 142 false,vi 160 x_7,vi 161 x_30]) = some o := stM C 25 (fun _ _ => by kernel_rfl) ho
theorem p41_9 {tg_1 c_6 : Bool} {l_2 : List AV} {x_3 x_4 x_5 x_7 x_10 x_33 : Int} (ho : Tr.val C 41
(.br c_6
(.br (decide ((Int.tmod x_10 2) = 0))
(ixl 4 [(.str [97]),(.str [98]),(.str [99]),(.str [115,105,122,101,40,116,97,103,115,41])] (Int.tmod (w64 (Int.tdiv x_10 2)) 4) fun c51 =>
(.mid 1 qI3 5 (mkS 292 [vi 1 x_3,vi 13 x_10,vb 125 true,vv 126 cI2,vi 127 x_10,vi 128 (w64 (Int.tdiv x_10 2)),vi 129 (Int.tmod (w64 (Int.tdiv x_10 2)) 4),vv 130 (.cptr (AV.cells c51))] [] Hp.none 0)))
(ixl 5 [(.str [110]),(.str [55]),(.str [48]),(.str [110]),(.str [49,50,51,52,53,54,55,56,57,48,49])] (Int.tmod (w64 (Int.tdiv x_10 2)) 5) fun c52 =>
(.mid 0 qI1 5 (mkS 292 [vi 1 x_3,vi 13 x_10,vb 125 false,vv 134 cI0,vi 135 x_10,vi 136 (w64 (Int.tdiv x_10 2)),vi 137 (Int.tmod (w64 (Int.tdiv x_10 2)) 5),vv 138 (.cptr (AV.cells c52))] [] Hp.none 0))))
(ixl 5 [(.str [110]),(.str [55]),(.str [48]),(.str [110]),(.str [49,50,51,52,53,54,55,56,57,48,49])] (Int.tmod (w64 (Int.tdiv x_10 2)) 5) fun c53 =>
(.mid 0 qI1 5 (mkS 292 [vi 1 x_3,vi 13 x_10,vb 125 false,vv 134 cI0,vi 135 x_10,vi 136 (w64 (Int.tdiv x_10 2)),vi 137 (Int.tmod (w64 (Int.tdiv x_10 2)) 5),vv 138 (.cptr (AV.cells c53))] [] Hp.none 0)))) = some o) : ML C 41 qI12 2 (mk0 292 [vv 0 (.vs 1 tg_1 l_2),vi 1 x_3,vi 2 x_4,vi 3 x_5,vb 4 c_6,vi 12 x_7,vi 13 x_10,vb 14 true,vi 57 x_4,vb 58 true,vi 60 x_7,vi 61 x_33]) = some o := stM C 14 (fun _ _ => by kernel_rfl) ho
theorem p41_10 {x_3 x_10 x_35 x_36 : Int} {s_34 : List UInt8} (ho : Tr.val C 41
(rt (.tuple [(.str s_34),(i6 (w64 (x_3 + 1)))])) = some o) : ML C 41 qI5 5 (mkS 292 [vi 1 x_3,vi 13 x_10,vb 149 false,vv 152 cI3,vi 153 x_10,vi 154 x_35,vi 155 x_36,vv 156 (.cptr [(.str s_34)])] [] Hp.none 0) = some o := stM C 1 (fun _ _ => by kernel_rfl) ho
theorem p41_11 {tg_1 c_6 : Bool} {l_2 : List AV} {x_3 x_4 x_5 x_7 x_10 x_40 : Int} (ho : Tr.val C 41
(.br c_6
(.br (decide ((Int.tmod x_10 3) = 0))
(rt (.tuple [(.str [120,49]),(i6 (w64 (x_3 + 1)))]))
(ixl 3 [(.str [112]),(.str [116,114,117,101]),(.str [102,97,108,115,101])] (Int.tmod (w64 (Int.tdiv x_10 3)) 3) fun c54 =>
(.mid 0 qI8 5 (mkS 292 [vi 1 x_3,vi 13 x_10,vb 281 false,vv 284 cI1,vi 285 x_10,vi 286 (w64 (Int.tdiv x_10 3)),vi 287 (Int.tmod (w64 (Int.tdiv x_10 3)) 3),vv 288 (.cptr (AV.cells c54))] [] Hp.none 0))))
(ixl 3 [(.str [112]),(.str [116,114,117,101]),(.str [102,97,108,115,101])] (Int.tmod (w64 (Int.tdiv x_10 3)) 3) fun c55 =>
(.mid 0 qI8 5 (mkS 292 [vi 1 x_3,vi 13 x_10,vb 281 false,vv 284 cI1,vi 285 x_10,vi 286 (w64 (Int.tdiv x_10 3)),vi 287 (Int.tmod (w64 (Int.tdiv x_10 3)) 3),vv 288 (.cptr (AV.cells c55))] [] Hp.none 0)))) = some o) : ML C 41 qI13 2 (mk0 292 [vv 0 (.vs 1 tg_1 l_2),vi 1 x_3,vi 2 x_4,vi 3 x_5,vb 4 c_6,vi 12 x_7,vi 13 x_10,vb 14 true,vb 142 false,vi 160 x_7,vi 161 x_40]) = some o := stM C 13 (fun _ _ => by kernel_rfl) ho
theorem p41_12 {tg_1 c_6 c_42 : Bool} {l_2 : List AV} {x_3 x_4 x_5 x_7 x_10 x_41 : Int} (ho : Tr.val C 41
(.br (!c_42)
(.br (decide (x_41 < 3))
(cl0 41 [(.vs 1 tg_1 l_2),(i6 (w64 (x_3 + 1))),(i6 x_4),(i6 (w64 (x_5 + 1))),(.bool c_6)] fun r56 => .br (AV.pure r56.v)
(.mid 9 qI22 8 (mk0 292 [vv 0 (.vs 1 tg_1 l_2),vi 1 x_3,vi 2 x_4,vi 3 x_5,vb 4 c_6,vi 13 x_10,vb 14 c_42,vi 15 x_41,vb 67 true,vv 69 (.vs 1 tg_1 l_2),vi 70 x_3,vi 71 (w64 (x_3 + 1)),vi 72 x_4,vi 73 x_5,vi 74 (w64 (x_5 + 1)),vb 75 c_6,vv 76 r56.v])) .none)
(.br (!c_42)
(.br (decide (x_41 = 3))
(cl0 41 [(.vs 1 tg_1 l_2),(i6 (w64 (x_3 + 1))),(i6 x_4),(i6 (w64 (x_5 + 1))),(.bool c_6)] fun r57 => .br (AV.pure r57.v)
(.mid 6 qI16 8 (mk0 292 [vv 0 (.vs 1 tg_1 l_2),vi 1 x_3,vi 2 x_4,vi 3 x_5,vb 4 c_6,vi 13 x_10,vb 105 true,vv 107 (.vs 1 tg_1 l_2),vi 108 x_3,vi 109 (w64 (x_3 + 1)),vi 110 x_4,vi 111 x_5,vi 112 (w64 (x_5 + 1)),vb 113 c_6,vv 114 r57.v])) .none)
(.br c_6
(.br (decide ((Int.tmod x_10 2) = 0))
(ixl 4 [(.str [97]),(.str [98]),(.str [99]),(.str [115,105,122,101,40,116,97,103,115,41])] (Int.tmod (w64 (Int.tdiv x_10 2)) 4) fun c58 =>
(.mid 1 qI3 5 (mkS 292 [vi 1 x_3,vi 13 x_10,vb 125 true,vv 126 cI2,vi 127 x_10,vi 128 (w64 (Int.tdiv x_10 2)),vi 129 (Int.tmod (w64 (Int.tdiv x_10 2)) 4),vv 130 (.cptr (AV.cells c58))] [] Hp.none 0)))
(ixl 5 [(.str [110]),(.str [55]),(.str [48]),(.str [110]),(.str [49,50,51,52,53,54,55,56,57,48,49])] (Int.tmod (w64 (Int.tdiv x_10 2)) 5) fun c59 =>
(.mid 0 qI1 5 (mkS 292 [vi 1 x_3,vi 13 x_10,vb 125 false,vv 134 cI0,vi 135 x_10,vi 136 (w64 (Int.tdiv x_10 2)),vi 137 (Int.tmod (w64 (Int.tdiv x_10 2)) 5),vv 138 (.cptr (AV.cells c59))] [] Hp.none 0))))
(ixl 5 [(.str [110]),(.str [55]),(.str [48]),(.str [110]),(.str [49,50,51,52,53,54,55,56,57,48,49])] (Int.tmod (w64 (Int.tdiv x_10 2)) 5) fun c60 =>
(.mid 0 qI1 5 (mkS 292 [vi 1 x_3,vi 13 x_10,vb 125 false,vv 134 cI0,vi 135 x_10,vi 136 (w64 (Int.tdiv x_10 2)),vi 137 (Int.tmod (w64 (Int.tdiv x_10 2)) 5),vv 138 (.cptr (AV.cells c60))] [] Hp.none 0)))))
(.br c_6
(.br (decide ((Int.tmod x_10 2) = 0))
(ixl 4 [(.str [97]),(.str [98]),(.str [99]),(.str [115,105,122,101,40,116,97,103,115,41])] (Int.tmod (w64 (Int.tdiv x_10 2)) 4) fun c61 =>
(.mid 1 qI3 5 (mkS 292 [vi 1 x_3,vi 13 x_10,vb 125 true,vv 126 cI2,vi 127 x_10,vi 128 (w64 (Int.tdiv x_10 2)),vi 129 (Int.tmod (w64 (Int.tdiv x_10 2)) 4),vv 130 (.cptr (AV.cells c61))] [] Hp.none 0)))
(ixl 5 [(.str [110]),(.str [55]),(.str [48]),(.str [110]),(.str [49,50,51,52,53,54,55,56,57,48,49])] (Int.tmod (w64 (Int.tdiv x_10 2)) 5) fun c62 =>
(.mid 0 qI1 5 (mkS 292 [vi 1 x_3,vi 13 x_10,vb 125 false,vv 134 cI0,vi 135 x_10,vi 136 (w64 (Int.tdiv x_10 2)),vi 137 (Int.tmod (w64 (Int.tdiv x_10 2)) 5),vv 138 (.cptr (AV.cells c62))] [] Hp.none 0))))
(ixl 5 [(.str [110]),(.str [55]),(.str [48]),(.str [110]),(.str [49,50,51,52,53,54,55,56,57,48,49])] (Int.tmod (w64 (Int.tdiv x_10 2)) 5) fun c63 =>
(.mid 0 qI1 5 (mkS 292 [vi 1 x_3,vi 13 x_10,vb 125 false,vv 134 cI0,vi 135 x_10,vi 136 (w64 (Int.tdiv x_10 2)),vi 137 (Int.tmod (w64 (Int.tdiv x_10 2)) 5),vv 138 (.cptr (AV.cells c63))] [] Hp.none 0))))))
(.br (!c_42)
(.br (decide (x_41 = 3))
(cl0 41 [(.vs 1 tg_1 l_2),(i6 (w64 (x_3 + 1))),(i6 x_4),(i6 (w64 (x_5 + 1))),(.bool c_6)] fun r64 => .br (AV.pure r64.v)
(.mid 6 qI16 8 (mk0 292 [vv 0 (.vs 1 tg_1 l_2),vi 1 x_3,vi 2 x_4,vi 3 x_5,vb 4 c_6,vi 13 x_10,vb 105 true,vv 107 (.vs 1 tg_1 l_2),vi 108 x_3,vi 109 (w64 (x_3 + 1)),vi 110 x_4,vi 111 x_5,vi 112 (w64 (x_5 + 1)),vb 113 c_6,vv 114 r64.v])) .none)
(.br c_6
(.br (decide ((Int.tmod x_10 2) = 0))
(ixl 4 [(.str [97]),(.str [98]),(.str [99]),(.str [115,105,122,101,40,116,97,103,115,41])] (Int.tmod (w64 (Int.tdiv x_10 2)) 4) fun c65 =>
(.mid 1 qI3 5 (mkS 292 [vi 1 x_3,vi 13 x_10,vb 125 true,vv 126 cI2,vi 127 x_10,vi 128 (w64 (Int.tdiv x_10 2)),vi 129 (Int.tmod (w64 (Int.tdiv x_10 2)) 4),vv 130 (.cptr (AV.cells c65))] [] Hp.none 0)))
(ixl 5 [(.str [110]),(.str [55]),(.str [48]),(.str [110]),(.str [49,50,51,52,53,54,55,56,57,48,49])] (Int.tmod (w64 (Int.tdiv x_10 2)) 5) fun c66 =>
(.mid 0 qI1 5 (mkS 292 [vi 1 x_3,vi 13 x_10,vb 125 false,vv 134 cI0,vi 135 x_10,vi 136 (w64 (Int.tdiv x_10 2)),vi 137 (Int.tmod (w64 (Int.tdiv x_10 2)) 5),vv 138 (.cptr (AV.cells c66))] [] Hp.none 0))))
(ixl 5 [(.str [110]),(.str [55]),(.str [48]),(.str [110]),(.str [49,50,51,52,53,54,55,56,57,48,49])] (Int.tmod (w64 (Int.tdiv x_10 2)) 5) fun c67 =>
(.mid 0 qI1 5 (mkS 292 [vi 1 x_3,vi 13 x_10,vb 125 false,vv 134 cI0,vi 135 x_10,vi 136 (w64 (Int.tdiv x_10 2)),vi 137 (Int.tmod (w64 (Int.tdiv x_10 2)) 5),vv 138 (.cptr (AV.cells c67))] [] Hp.none 0)))))
(.br c_6
(.br (decide ((Int.tmod x_10 2) = 0))
(ixl 4 [(.str [97]),(.str [98]),(.str [99]),(.str [115,105,122,101,40,116,97,103,115,41])] (Int.tmod (w64 (Int.tdiv x_10 2)) 4) fun c68 =>
(.mid 1 qI3 5 (mkS 292 [vi 1 x_3,vi 13 x_10,vb 125 true,vv 126 cI2,vi 127 x_10,vi 128 (w64 (Int.tdiv x_10 2)),vi 129 (Int.tmod (w64 (Int.tdiv x_10 2)) 4),vv 130 (.cptr (AV.cells c68))] [] Hp.none 0)))
(ixl 5 [(.str [110]),(.str [55]),(.str [48]),(.str [110]),(.str [49,50,51,52,53,54,55,56,57,48,49])] (Int.tmod (w64 (Int.tdiv x_10 2)) 5) fun c69 =>
(.mid 0 qI1 5 (mkS 292 [vi 1 x_3,vi 13 x_10,vb 125 false,vv 134 cI0,vi 135 x_10,vi 136 (w64 (Int.tdiv x_10 2)),vi 137 (Int.tmod (w64 (Int.tdiv x_10 2)) 5),vv 138 (.cptr (AV.cells c69))] [] Hp.none 0))))
(ixl 5 [(.str [110]),(.str [55]),(.str [48]),(.str [110]),(.str [49,50,51,52,53,54,55,56,57,48,49])] (Int.tmod (w64 (Int.tdiv x_10 2)) 5) fun c70 =>
(.mid 0 qI1 5 (mkS 292 [vi 1 x_3,vi 13 x_10,vb 125 false,vv 134 cI0,vi 135 x_10,vi 136 (w64 (Int.tdiv x_10 2)),vi 137 (Int.tmod (w64 (Int.tdiv x_10 2)) 5),vv 138 (.cptr (AV.cells c70))] [] Hp.none 0)))))) = some o) : ML C 41 qI12 2 (mk0 292 [vv 0 (.vs 1 tg_1 l_2),vi 1 x_3,vi 2 x_4,vi 3 x_5,vb 4 c_6,vi 12 x_7,vi 13 x_10,vb 14 c_42,vi 57 x_4,vb 58 true,vi 60 x_7,vi 61 x_41]) = some o := stM C 14 (fun _ _ => by kernel_rfl) ho
theorem p41_13 {tg_1 c_6 c_50 : Bool} {l_2 : List AV} {x_3 x_4 x_5 x_7 x_10 x_49 : Int} (ho : Tr.val C 41
(.br c_50
(.br c_6
(.br (decide ((Int.tmod x_10 3) = 0))
(rt (.tuple [(.str [120,49]),(i6 (w64 (x_3 + 1)))]))
(ixl 3 [(.str [112]),(.str [116,114,117,101]),(.str [102,97,108,115,101])] (Int.tmod (w64 (Int.tdiv x_10 3)) 3) fun c71 =>
(.mid 12 qI8 5 (mkS 292 [vi 1 x_3,vi 13 x_10,vb 281 false,vv 284 cI1,vi 285 x_10,vi 286 (w64 (Int.tdiv x_10 3)),vi 287 (Int.tmod (w64 (Int.tdiv x_10 3)) 3),vv 288 (.cptr (AV.cells c71))] [] Hp.none 0))))
(ixl 3 [(.str [112]),(.str [116,114,117,101]),(.str [102,97,108,115,101])] (Int.tmod (w64 (Int.tdiv x_10 3)) 3) fun c72 =>
(.mid 12 qI8 5 (mkS 292 [vi 1 x_3,vi 13 x_10,vb 281 false,vv 284 cI1,vi 285 x_10,vi 286 (w64 (Int.tdiv x_10 3)),vi 287 (Int.tmod (w64 (Int.tdiv x_10 3)) 3),vv 288 (.cptr (AV.cells c72))] [] Hp.none 0))))
(.br (decide (x_49 < 2))
(cl0 41 [(.vs 1 tg_1 l_2),(i6 (w64 (x_3 + 1))),(i6 x_4),(i6 (w64 (x_5 + 1))),(.bool c_6)] fun r73 => .br (AV.pure r73.v)
(.mid 16 qI23 8 (mk0 292 [vv 0 (.vs 1 tg_1 l_2),vi 1 x_3,vi 2 x_4,vi 3 x_5,vb 4 c_6,vi 13 x_10,vi 22 x_49,vb 164 true,vv 168 (.vs 1 tg_1 l_2),vi 169 x_3,vi 170 (w64 (x_3 + 1)),vi 171 x_4,vi 172 x_5,vi 173 (w64 (x_5 + 1)),vb 174 c_6,vv 175 r73.v])) .none)
(.br (decide (x_49 = 2))
(cl0 41 [(.vs 1 tg_1 l_2),(i6 (w64 (x_3 + 1))),(i6 x_4),(i6 (w64 (x_5 + 1))),(.bool c_6)] fun r74 => .br (AV.pure r74.v)
(.mid 13 qI24 8 (mk0 292 [vv 0 (.vs 1 tg_1 l_2),vi 1 x_3,vi 2 x_4,vi 3 x_5,vb 4 c_6,vi 13 x_10,vi 22 x_49,vb 199 true,vv 203 (.vs 1 tg_1 l_2),vi 204 x_3,vi 205 (w64 (x_3 + 1)),vi 206 x_4,vi 207 x_5,vi 208 (w64 (x_5 + 1)),vb 209 c_6,vv 210 r74.v])) .none)
(.br (decide (x_49 = 3))
(.br c_6
(cl0 41 [(.vs 1 tg_1 l_2),(i6 (w64 (x_3 + 1))),(i6 2),(i6 (w64 (x_5 + 1))),(.bool c_6)] fun r75 => .br (AV.pure r75.v)
(.mid 10 qI25 7 (mk0 292 [vv 0 (.vs 1 tg_1 l_2),vi 1 x_3,vi 3 x_5,vb 4 c_6,vi 13 x_10,vi 22 x_49,vb 216 true,vv 223 (.vs 1 tg_1 l_2),vi 224 x_3,vi 225 (w64 (x_3 + 1)),vi 226 x_5,vi 227 (w64 (x_5 + 1)),vb 228 c_6,vv 229 r75.v])) .none)
(.br (decide (x_49 < 8))
(cl0 41 [(.vs 1 tg_1 l_2),(i6 (w64 (x_3 + 1))),(i6 (w64 (1 + (Int.tmod x_10 2)))),(i6 (w64 (x_5 + 1))),(.bool c_6)] fun r76 => .br (AV.pure r76.v)
(.mid 5 qI17 8 (mk0 292 [vv 0 (.vs 1 tg_1 l_2),vi 1 x_3,vi 3 x_5,vb 4 c_6,vi 13 x_10,vi 31 (w64 (1 + (Int.tmod x_10 2))),vv 243 (.vs 1 tg_1 l_2),vi 244 x_3,vi 245 (w64 (x_3 + 1)),vi 246 (w64 (1 + (Int.tmod x_10 2))),vi 247 x_5,vi 248 (w64 (x_5 + 1)),vb 249 c_6,vv 250 r76.v])) .none)
(.br c_6
(.br (decide ((Int.tmod x_10 3) = 0))
(rt (.tuple [(.str [120,49]),(i6 (w64 (x_3 + 1)))]))
(ixl 3 [(.str [112]),(.str [116,114,117,101]),(.str [102,97,108,115,101])] (Int.tmod (w64 (Int.tdiv x_10 3)) 3) fun c77 =>
(.mid 0 qI9 5 (mkS 292 [vi 1 x_3,vi 13 x_10,vb 281 false,vv 284 cI1,vi 285 x_10,vi 286 (w64 (Int.tdiv x_10 3)),vi 287 (Int.tmod (w64 (Int.tdiv x_10 3)) 3),vv 288 (.cptr (AV.cells c77))] [] Hp.none 0))))
(ixl 3 [(.str [112]),(.str [116,114,117,101]),(.str [102,97,108,115,101])] (Int.tmod (w64 (Int.tdiv x_10 3)) 3) fun c78 =>
(.mid 0 qI9 5 (mkS 292 [vi 1 x_3,vi 13 x_10,vb 281 false,vv 284 cI1,vi 285 x_10,vi 286 (w64 (Int.tdiv x_10 3)),vi 287 (Int.tmod (w64 (Int.tdiv x_10 3)) 3),vv 288 (.cptr (AV.cells c78))] [] Hp.none 0))))))
(.br (decide (x_49 < 8))
(cl0 41 [(.vs 1 tg_1 l_2),(i6 (w64 (x_3 + 1))),(i6 (w64 (1 + (Int.tmod x_10 2)))),(i6 (w64 (x_5 + 1))),(.bool c_6)] fun r79 => .br (AV.pure r79.v)
(.mid 5 qI17 8 (mk0 292 [vv 0 (.vs 1 tg_1 l_2),vi 1 x_3,vi 3 x_5,vb 4 c_6,vi 13 x_10,vi 31 (w64 (1 + (Int.tmod x_10 2))),vv 243 (.vs 1 tg_1 l_2),vi 244 x_3,vi 245 (w64 (x_3 + 1)),vi 246 (w64 (1 + (Int.tmod x_10 2))),vi 247 x_5,vi 248 (w64 (x_5 + 1)),vb 249 c_6,vv 250 r79.v])) .none)
(.br c_6
(.br (decide ((Int.tmod x_10 3) = 0))
(rt (.tuple [(.str [120,49]),(i6 (w64 (x_3 + 1)))]))
(ixl 3 [(.str [112]),(.str [116,114,117,101]),(.str [102,97,108,115,101])] (Int.tmod (w64 (Int.tdiv x_10 3)) 3) fun c80 =>
(.mid 0 qI9 5 (mkS 292 [vi 1 x_3,vi 13 x_10,vb 281 false,vv 284 cI1,vi 285 x_10,vi 286 (w64 (Int.tdiv x_10 3)),vi 287 (Int.tmod (w64 (Int.tdiv x_10 3)) 3),vv 288 (.cptr (AV.cells c80))] [] Hp.none 0))))
(ixl 3 [(.str [112]),(.str [116,114,117,101]),(.str [102,97,108,115,101])] (Int.tmod (w64 (Int.tdiv x_10 3)) 3) fun c81 =>
(.mid 0 qI9 5 (mkS 292 [vi 1 x_3,vi 13 x_10,vb 281 false,vv 284 cI1,vi 285 x_10,vi 286 (w64 (Int.tdiv x_10 3)),vi 287 (Int.tmod (w64 (Int.tdiv x_10 3)) 3),vv 288 (.cptr (AV.cells c81))] [] Hp.none 0))))))))) = some o) : ML C 41 qI13 2 (mk0 292 [vv 0 (.vs 1 tg_1 l_2),vi 1 x_3,vi 2 x_4,vi 3 x_5,vb 4 c_6,vi 12 x_7,vi 13 x_10,vb 14 c_50,vb 142 false,vi 160 x_7,vi 161 x_49]) = some o := stM C 25 (fun _ _ => by kernel_rfl) ho
theorem p41_14 {x_3 x_10 x_52 x_53 : Int} {s_51 : List UInt8} (ho : Tr.val C 41
(rt (.tuple [(.str s_51),(i6 (w64 (x_3 + 1)))])) = some o) : ML C 41 qI2 5 (mkS 292 [vi 1 x_3,vi 13 x_10,vb 125 true,vv 126 cI2,vi 127 x_10,vi 128 x_52,vi 129 x_53,vv 130 (.cptr [(.str s_51)])] [] Hp.none 0) = some o := stM C 1 (fun _ _ => by kernel_rfl) ho
theorem p41_15 {x_3 x_10 x_55 x_56 : Int} {s_54 : List UInt8} (ho : Tr.val C 41
(rt (.tuple [(.str s_54),(i6 (w64 (x_3 + 1)))])) = some o) : ML C 41 qI0 5 (mkS 292 [vi 1 x_3,vi 13 x_10,vb 125 false,vv 134 cI0,vi 135 x_10,vi 136 x_55,vi 137 x_56,vv 138 (.cptr [(.str s_54)])] [] Hp.none 0) = some o := stM C 1 (fun _ _ => by kernel_rfl) ho
theorem p41_16 {x_3 x_10 x_61 x_62 : Int} {s_60 : List UInt8} (ho : Tr.val C 41
(rt (.tuple [(.str s_60),(i6 (w64 (x_3 + 1)))])) = some o) : ML C 41 qI6 5 (mkS 292 [vi 1 x_3,vi 13 x_10,vb 281 false,vv 284 cI1,vi 285 x_10,vi 286 x_61,vi 287 x_62,vv 288 (.cptr [(.str s_60)])] [] Hp.none 0) = some o := stM C 1 (fun _ _ => by kernel_rfl) ho
theorem p41_17 {tg_1 c_6 c_23 : Bool} {l_2 : List AV} {x_3 x_5 x_10 x_21 x_22 x_67 x_68 x_69 : Int} {s_66 : List UInt8} (ho : Tr.val C 41
(cl0 41 [(.vs 1 tg_1 l_2),(i6 x_67),(i6 x_22),(i6 (w64 (x_5 + 1))),(.bool c_6)] fun r82 => .br (AV.pure r82.v)
(.mid 0 qI26 7 (mk0 292 [vv 0 (.vs 1 tg_1 l_2),vi 2 x_22,vi 3 x_5,vb 4 c_6,vi 15 x_21,vt 16 s_66,vi 17 x_67,vv 80 (.vs 1 tg_1 l_2),vi 81 x_67,vi 82 x_22,vi 83 x_5,vi 84 (w64 (x_5 + 1)),vb 85 c_6,vv 86 r82.v])) .none) = some o) : ML C 41 qI18 8 (mk0 292 [vv 0 (.vs 1 tg_1 l_2),vi 1 x_3,vi 2 x_22,vi 3 x_5,vb 4 c_6,vi 13 x_10,vb 14 c_23,vi 15 x_21,vb 67 true,vv 69 (.vs 1 tg_1 l_2),vi 70 x_3,vi 71 x_68,vi 72 x_22,vi 73 x_5,vi 74 x_69,vb 75 c_6,vv 76 (.tuple [(.str s_66),(i6 x_67)])]) = some o := stM C 2 (fun _ _ => by kernel_rfl) ho
theorem p41_18 {tg_1 c_6 : Bool} {l_2 : List AV} {x_3 x_5 x_10 x_22 x_71 x_72 x_73 : Int} {s_70 : List UInt8} (ho : Tr.val C 41
(.br (Nat.ble (1 + s_70.length) 4611686018427387904)
(rt (.tuple [(.str ([45] ++ s_70)),(i6 x_71)])) .none) = some o) : ML C 41 qI14 8 (mk0 292 [vv 0 (.vs 1 tg_1 l_2),vi 1 x_3,vi 2 x_22,vi 3 x_5,vb 4 c_6,vi 13 x_10,vb 105 true,vv 107 (.vs 1 tg_1 l_2),vi 108 x_3,vi 109 x_72,vi 110 x_22,vi 111 x_5,vi 112 x_73,vb 113 c_6,vv 114 (.tuple [(.str s_70),(i6 x_71)])]) = some o := stM C 3 (fun _ _ => by kernel_rfl) ho
theorem p41_19 {tg_1 c_6 : Bool} {l_2 : List AV} {x_3 x_5 x_10 x_30 x_31 x_121 x_122 x_123 : Int} {s_120 : List UInt8} (ho : Tr.val C 41
(cl0 41 [(.vs 1 tg_1 l_2),(i6 x_121),(i6 x_31),(i6 (w64 (x_5 + 1))),(.bool c_6)] fun r83 => .br (AV.pure r83.v)
(.mid 0 qI27 7 (mk0 292 [vv 0 (.vs 1 tg_1 l_2),vi 2 x_31,vi 3 x_5,vb 4 c_6,vi 22 x_30,vt 23 s_120,vi 24 x_121,vv 179 (.vs 1 tg_1 l_2),vi 180 x_121,vi 181 x_31,vi 182 x_5,vi 183 (w64 (x_5 + 1)),vb 184 c_6,vv 185 r83.v])) .none) = some o) : ML C 41 qI19 8 (mk0 292 [vv 0 (.vs 1 tg_1 l_2),vi 1 x_3,vi 2 x_31,vi 3 x_5,vb 4 c_6,vi 13 x_10,vi 22 x_30,vb 164 true,vv 168 (.vs 1 tg_1 l_2),vi 169 x_3,vi 170 x_122,vi 171 x_31,vi 172 x_5,vi 173 x_123,vb 174 c_6,vv 175 (.tuple [(.str s_120),(i6 x_121)])]) = some o := stM C 2 (fun _ _ => by kernel_rfl) ho
theorem p41_20 {tg_1 c_6 : Bool} {l_2 : List AV} {x_3 x_5 x_10 x_30 x_31 x_125 x_126 x_127 : Int} {s_124 : List UInt8} (ho : Tr.val C 41
(.br (Nat.ble (1 + s_124.length) 4611686018427387904)
(rt (.tuple [(.str ([33] ++ s_124)),(i6 x_125)])) .none) = some o) : ML C 41 qI20 8 (mk0 292 [vv 0 (.vs 1 tg_1 l_2),vi 1 x_3,vi 2 x_31,vi 3 x_5,vb 4 c_6,vi 13 x_10,vi 22 x_30,vb 199 true,vv 203 (.vs 1 tg_1 l_2),vi 204 x_3,vi 205 x_126,vi 206 x_31,vi 207 x_5,vi 208 x_127,vb 209 c_6,vv 210 (.tuple [(.str s_124),(i6 x_125)])]) = some o := stM C 3 (fun _ _ => by kernel_rfl) ho
theorem p41_21 {tg_1 c_6 : Bool} {l_2 : List AV} {x_3 x_5 x_10 x_30 x_129 x_130 x_131 : Int} {s_128 : List UInt8} (ho : Tr.val C 41
(.br (Nat.ble (10 + s_128.length) 4611686018427387904)
(.br (Nat.ble (([40,116,97,103,115,32,104,97,115,32] ++ s_128).length + 1) 4611686018427387904)
(rt (.tuple [(.str (([40,116,97,103,115,32,104,97,115,32] ++ s_128) ++ [41])),(i6 x_129)])) .none) .none) = some o) : ML C 41 qI21 7 (mk0 292 [vv 0 (.vs 1 tg_1 l_2),vi 1 x_3,vi 3 x_5,vb 4 c_6,vi 13 x_10,vi 22 x_30,vb 216 true,vv 223 (.vs 1 tg_1 l_2),vi 224 x_3,vi 225 x_130,vi 226 x_5,vi 227 x_131,vb 228 c_6,vv 229 (.tuple [(.str s_128),(i6 x_129)])]) = some o := stM C 3 (fun _ _ => by kernel_rfl) ho
theorem p41_22 {tg_1 c_6 : Bool} {l_2 : List AV} {x_3 x_5 x_10 x_133 x_134 x_135 x_136 : Int} {s_132 : List UInt8} (ho : Tr.val C 41
(cl0 41 [(.vs 1 tg_1 l_2),(i6 x_133),(i6 x_134),(i6 (w64 (x_5 + 1))),(.bool c_6)] fun r84 => .br (AV.pure r84.v)
(.mid 0 qI28 7 (mk0 292 [vv 0 (.vs 1 tg_1 l_2),vi 3 x_5,vb 4 c_6,vi 13 x_10,vi 31 x_134,vt 32 s_132,vi 33 x_133,vv 254 (.vs 1 tg_1 l_2),vi 255 x_133,vi 256 x_134,vi 257 x_5,vi 258 (w64 (x_5 + 1)),vb 259 c_6,vv 260 r84.v])) .none) = some o) : ML C 41 qI15 8 (mk0 292 [vv 0 (.vs 1 tg_1 l_2),vi 1 x_3,vi 3 x_5,vb 4 c_6,vi 13 x_10,vi 31 x_134,vv 243 (.vs 1 tg_1 l_2),vi 244 x_3,vi 245 x_135,vi 246 x_134,vi 247 x_5,vi 248 x_136,vb 249 c_6,vv 250 (.tuple [(.str s_132),(i6 x_133)])]) = some o := stM C 2 (fun _ _ => by kernel_rfl) ho
theorem p41_23 {x_3 x_10 x_138 x_139 : Int} {s_137 : List UInt8} (ho : Tr.val C 41
(rt (.tuple [(.str s_137),(i6 (w64 (x_3 + 1)))])) = some o) : ML C 41 qI7 5 (mkS 292 [vi 1 x_3,vi 13 x_10,vb 281 false,vv 284 cI1,vi 285 x_10,vi 286 x_138,vi 287 x_139,vv 288 (.cptr [(.str s_137)])] [] Hp.none 0) = some o := stM C 1 (fun _ _ => by kernel_rfl) ho
theorem p41_24 {x_3 x_10 x_155 x_156 : Int} {s_154 : List UInt8} (ho : Tr.val C 41
(rt (.tuple [(.str s_154),(i6 (w64 (x_3 + 1)))])) = some o) : ML C 41 qI3 5 (mkS 292 [vi 1 x_3,vi 13 x_10,vb 125 true,vv 126 cI2,vi 127 x_10,vi 128 x_155,vi 129 x_156,vv 130 (.cptr [(.str s_154)])] [] Hp.none 0) = some o := stM C 1 (fun _ _ => by kernel_rfl) ho
theorem p41_25 {x_3 x_10 x_158 x_159 : Int} {s_157 : List UInt8} (ho : Tr.val C 41
(rt (.tuple [(.str s_157),(i6 (w64 (x_3 + 1)))])) = some o) : ML C 41 qI1 5 (mkS 292 [vi 1 x_3,vi 13 x_10,vb 125 false,vv 134 cI0,vi 135 x_10,vi 136 x_158,vi 137 x_159,vv 138 (.cptr [(.str s_157)])] [] Hp.none 0) = some o := stM C 1 (fun _ _ => by kernel_rfl) ho
theorem p41_26 {x_3 x_10 x_164 x_165 : Int} {s_163 : List UInt8} (ho : Tr.val C 41
(rt (.tuple [(.str s_163),(i6 (w64 (x_3 + 1)))])) = some o) : ML C 41 qI8 5 (mkS 292 [vi 1 x_3,vi 13 x_10,vb 281 false,vv 284 cI1,vi 285 x_10,vi 286 x_164,vi 287 x_165,vv 288 (.cptr [(.str s_163)])] [] Hp.none 0) = some o := stM C 1 (fun _ _ => by kernel_rfl) ho
theorem p41_27 {tg_1 c_6 c_42 : Bool} {l_2 : List AV} {x_3 x_4 x_5 x_10 x_41 x_170 x_171 x_172 : Int} {s_169 : List UInt8} (ho : Tr.val C 41
(cl0 41 [(.vs 1 tg_1 l_2),(i6 x_170),(i6 x_4),(i6 (w64 (x_5 + 1))),(.bool c_6)] fun r85 => .br (AV.pure r85.v)
(.mid 0 qI29 7 (mk0 292 [vv 0 (.vs 1 tg_1 l_2),vi 2 x_4,vi 3 x_5,vb 4 c_6,vi 15 x_41,vt 16 s_169,vi 17 x_170,vv 80 (.vs 1 tg_1 l_2),vi 81 x_170,vi 82 x_4,vi 83 x_5,vi 84 (w64 (x_5 + 1)),vb 85 c_6,vv 86 r85.v])) .none) = some o) : ML C 41 qI22 8 (mk0 292 [vv 0 (.vs 1 tg_1 l_2),vi 1 x_3,vi 2 x_4,vi 3 x_5,vb 4 c_6,vi 13 x_10,vb 14 c_42,vi 15 x_41,vb 67 true,vv 69 (.vs 1 tg_1 l_2),vi 70 x_3,vi 71 x_171,vi 72 x_4,vi 73 x_5,vi 74 x_172,vb 75 c_6,vv 76 (.tuple [(.str s_169),(i6 x_170)])]) = some o := stM C 2 (fun _ _ => by kernel_rfl) ho
theorem p41_28 {tg_1 c_6 : Bool} {l_2 : List AV} {x_3 x_4 x_5 x_10 x_174 x_175 x_176 : Int} {s_173 : List UInt8} (ho : Tr.val C 41
(.br (Nat.ble (1 + s_173.length) 4611686018427387904)
(rt (.tuple [(.str ([45] ++ s_173)),(i6 x_174)])) .none) = some o) : ML C 41 qI16 8 (mk0 292 [vv 0 (.vs 1 tg_1 l_2),vi 1 x_3,vi 2 x_4,vi 3 x_5,vb 4 c_6,vi 13 x_10,vb 105 true,vv 107 (.vs 1 tg_1 l_2),vi 108 x_3,vi 109 x_175,vi 110 x_4,vi 111 x_5,vi 112 x_176,vb 113 c_6,vv 114 (.tuple [(.str s_173),(i6 x_174)])]) = some o := stM C 3 (fun _ _ => by kernel_rfl) ho
theorem p41_29 {tg_1 c_6 : Bool} {l_2 : List AV} {x_3 x_4 x_5 x_10 x_49 x_224 x_225 x_226 : Int} {s_223 : List UInt8} (ho : Tr.val C 41
(cl0 41 [(.vs 1 tg_1 l_2),(i6 x_224),(i6 x_4),(i6 (w64 (x_5 + 1))),(.bool c_6)] fun r86 => .br (AV.pure r86.v)
(.mid 0 qI30 7 (mk0 292 [vv 0 (.vs 1 tg_1 l_2),vi 2 x_4,vi 3 x_5,vb 4 c_6,vi 22 x_49,vt 23 s_223,vi 24 x_224,vv 179 (.vs 1 tg_1 l_2),vi 180 x_224,vi 181 x_4,vi 182 x_5,vi 183 (w64 (x_5 + 1)),vb 184 c_6,vv 185 r86.v])) .none) = some o) : ML C 41 qI23 8 (mk0 292 [vv 0 (.vs 1 tg_1 l_2),vi 1 x_3,vi 2 x_4,vi 3 x_5,vb 4 c_6,vi 13 x_10,vi 22 x_49,vb 164 true,vv 168 (.vs 1 tg_1 l_2),vi 169 x_3,vi 170 x_225,vi 171 x_4,vi 172 x_5,vi 173 x_226,vb 174 c_6,vv 175 (.tuple [(.str s_223),(i6 x_224)])]) = some o := stM C 2 (fun _ _ => by kernel_rfl) ho
theorem p41_30 {tg_1 c_6 : Bool} {l_2 : List AV} {x_3 x_4 x_5 x_10 x_49 x_228 x_229 x_230 : Int} {s_227 : List UInt8} (ho : Tr.val C 41
(.br (Nat.ble (1 + s_227.length) 4611686018427387904)
(rt (.tuple [(.str ([33] ++ s_227)),(i6 x_228)])) .none) = some o) : ML C 41 qI24 8 (mk0 292 [vv 0 (.vs 1 tg_1 l_2),vi 1 x_3,vi 2 x_4,vi 3 x_5,vb 4 c_6,vi 13 x_10,vi 22 x_49,vb 199 true,vv 203 (.vs 1 tg_1 l_2),vi 204 x_3,vi 205 x_229,vi 206 x_4,vi 207 x_5,vi 208 x_230,vb 209 c_6,vv 210 (.tuple [(.str s_227),(i6 x_228)])]) = some o := stM C 3 (fun _ _ => by kernel_rfl) ho
theorem p41_31 {tg_1 c_6 : Bool} {l_2 : List AV} {x_3 x_5 x_10 x_49 x_232 x_233 x_234 : Int} {s_231 : List UInt8} (ho : Tr.val C 41
(.br (Nat.ble (10 + s_231.length) 4611686018427387904)
(.br (Nat.ble (([40,116,97,103,115,32,104,97,115,32] ++ s_231).length + 1) 4611686018427387904)
(rt (.tuple [(.str (([40,116,97,103,115,32,104,97,115,32] ++ s_231) ++ [41])),(i6 x_232)])) .none) .none) = some o) : ML C 41 qI25 7 (mk0 292 [vv 0 (.vs 1 tg_1 l_2),vi 1 x_3,vi 3 x_5,vb 4 c_6,vi 13 x_10,vi 22 x_49,vb 216 true,vv 223 (.vs 1 tg_1 l_2),vi 224 x_3,vi 225 x_233,vi 226 x_5,vi 227 x_234,vb 228 c_6,vv 229 (.tuple [(.str s_231),(i6 x_232)])]) = some o := stM C 3 (fun _ _ => by kernel_rfl) ho
theorem p41_32 {tg_1 c_6 : Bool} {l_2 : List AV} {x_3 x_5 x_10 x_236 x_237 x_238 x_239 : Int} {s_235 : List UInt8} (ho : Tr.val C 41
(cl0 41 [(.vs 1 tg_1 l_2),(i6 x_236),(i6 x_237),(i6 (w64 (x_5 + 1))),(.bool c_6)] fun r87 => .br (AV.pure r87.v)
(.mid 0 qI31 7 (mk0 292 [vv 0 (.vs 1 tg_1 l_2),vi 3 x_5,vb 4 c_6,vi 13 x_10,vi 31 x_237,vt 32 s_235,vi 33 x_236,vv 254 (.vs 1 tg_1 l_2),vi 255 x_236,vi 256 x_237,vi 257 x_5,vi 258 (w64 (x_5 + 1)),vb 259 c_6,vv 260 r87.v])) .none) = some o) : ML C 41 qI17 8 (mk0 292 [vv 0 (.vs 1 tg_1 l_2),vi 1 x_3,vi 3 x_5,vb 4 c_6,vi 13 x_10,vi 31 x_237,vv 243 (.vs 1 tg_1 l_2),vi 244 x_3,vi 245 x_238,vi 246 x_237,vi 247 x_5,vi 248 x_239,vb 249 c_6,vv 250 (.tuple [(.str s_235),(i6 x_236)])]) = some o := stM C 2 (fun _ _ => by kernel_rfl) ho
theorem p41_33 {x_3 x_10 x_241 x_242 : Int} {s_240 : List UInt8} (ho : Tr.val C 41
(rt (.tuple [(.str s_240),(i6 (w64 (x_3 + 1)))])) = some o) : ML C 41 qI9 5 (mkS 292 [vi 1 x_3,vi 13 x_10,vb 281 false,vv 284 cI1,vi 285 x_10,vi 286 x_241,vi 287 x_242,vv 288 (.cptr [(.str s_240)])] [] Hp.none 0) = some o := stM C 1 (fun _ _ => by kernel_rfl) ho
theorem p41_34 {tg_1 c_6 : Bool} {l_2 : List AV} {x_5 x_21 x_22 x_67 x_258 x_259 : Int} {s_66 s_257 : List UInt8} (ho : Tr.val C 41
(.br (Nat.ble (1 + s_66.length) 4611686018427387904)
(ixl 3 [(.str [32,43,32]),(.str [32,45,32]),(.str [32,42,32])] x_21 fun c88 =>
(.mid 0 qI32 5 (mkS 292 [vi 15 x_21,vt 16 s_66,vt 18 s_257,vi 19 x_258,vt 89 s_66,vt 90 ([40] ++ s_66),vv 91 cI4,vi 92 x_21,vv 93 (.cptr (AV.cells c88))] [] Hp.none 0))) .none) = some o) : ML C 41 qI26 7 (mk0 292 [vv 0 (.vs 1 tg_1 l_2),vi 2 x_22,vi 3 x_5,vb 4 c_6,vi 15 x_21,vt 16 s_66,vi 17 x_67,vv 80 (.vs 1 tg_1 l_2),vi 81 x_67,vi 82 x_22,vi 83 x_5,vi 84 x_259,vb 85 c_6,vv 86 (.tuple [(.str s_257),(i6 x_258)])]) = some o := stM C 2 (fun _ _ => by kernel_rfl) ho
theorem p41_35 {tg_1 c_6 : Bool} {l_2 : List AV} {x_5 x_30 x_31 x_121 x_261 x_262 : Int} {s_120 s_260 : List UInt8} (ho : Tr.val C 41
(.br (Nat.ble (1 + s_120.length) 4611686018427387904)
(ixl 2 [(.str [32,38,38,32]),(.str [32,124,124,32])] x_30 fun c89 =>
(.mid 0 qI33 5 (mkS 292 [vi 22 x_30,vt 23 s_120,vt 25 s_260,vi 26 x_261,vt 188 s_120,vt 189 ([40] ++ s_120),vv 190 cI5,vi 191 x_30,vv 192 (.cptr (AV.cells c89))] [] Hp.none 0))) .none) = some o) : ML C 41 qI27 7 (mk0 292 [vv 0 (.vs 1 tg_1 l_2),vi 2 x_31,vi 3 x_5,vb 4 c_6,vi 22 x_30,vt 23 s_120,vi 24 x_121,vv 179 (.vs 1 tg_1 l_2),vi 180 x_121,vi 181 x_31,vi 182 x_5,vi 183 x_262,vb 184 c_6,vv 185 (.tuple [(.str s_260),(i6 x_261)])]) = some o := stM C 2 (fun _ _ => by kernel_rfl) ho
theorem p41_36 {tg_1 c_6 : Bool} {l_2 : List AV} {x_5 x_10 x_133 x_134 x_264 x_265 : Int} {s_132 s_263 : List UInt8} (ho : Tr.val C 41
(.br (Nat.ble (1 + s_132.length) 4611686018427387904)
(ixl 6 [(.str [32,61,61,32]),(.str [32,33,61,32]),(.str [32,60,32]),(.str [32,60,61,32]),(.str [32,62,32]),(.str [32,62,61,32])] (Int.tmod (w64 (Int.tdiv x_10 2)) 6) fun c90 =>
(.mid 0 qI34 7 (mkS 292 [vi 13 x_10,vt 32 s_132,vt 34 s_263,vi 35 x_264,vt 263 s_132,vt 264 ([40] ++ s_132),vv 265 cI6,vi 266 x_10,vi 267 (w64 (Int.tdiv x_10 2)),vi 268 (Int.tmod (w64 (Int.tdiv x_10 2)) 6),vv 269 (.cptr (AV.cells c90))] [] Hp.none 0))) .none) = some o) : ML C 41 qI28 7 (mk0 292 [vv 0 (.vs 1 tg_1 l_2),vi 3 x_5,vb 4 c_6,vi 13 x_10,vi 31 x_134,vt 32 s_132,vi 33 x_133,vv 254 (.vs 1 tg_1 l_2),vi 255 x_133,vi 256 x_134,vi 257 x_5,vi 258 x_265,vb 259 c_6,vv 260 (.tuple [(.str s_263),(i6 x_264)])]) = some o := stM C 2 (fun _ _ => by kernel_rfl) ho
theorem p41_37 {tg_1 c_6 : Bool} {l_2 : List AV} {x_4 x_5 x_41 x_170 x_267 x_268 : Int} {s_169 s_266 : List UInt8} (ho : Tr.val C 41
(.br (Nat.ble (1 + s_169.length) 4611686018427387904)
(ixl 3 [(.str [32,43,32]),(.str [32,45,32]),(.str [32,42,32])] x_41 fun c91 =>
(.mid 0 qI35 5 (mkS 292 [vi 15 x_41,vt 16 s_169,vt 18 s_266,vi 19 x_267,vt 89 s_169,vt 90 ([40] ++ s_169),vv 91 cI4,vi 92 x_41,vv 93 (.cptr (AV.cells c91))] [] Hp.none 0))) .none) = some o) : ML C 41 qI29 7 (mk0 292 [vv 0 (.vs 1 tg_1 l_2),vi 2 x_4,vi 3 x_5,vb 4 c_6,vi 15 x_41,vt 16 s_169,vi 17 x_170,vv 80 (.vs 1 tg_1 l_2),vi 81 x_170,vi 82 x_4,vi 83 x_5,vi 84 x_268,vb 85 c_6,vv 86 (.tuple [(.str s_266),(i6 x_267)])]) = some o := stM C 2 (fun _ _ => by kernel_rfl) ho
theorem p41_38 {tg_1 c_6 : Bool} {l_2 : List AV} {x_4 x_5 x_49 x_224 x_270 x_271 : Int} {s_223 s_269 : List UInt8} (ho : Tr.val C 41
(.br (Nat.ble (1 + s_223.length) 4611686018427387904)
(ixl 2 [(.str [32,38,38,32]),(.str [32,124,124,32])] x_49 fun c92 =>
(.mid 0 qI36 5 (mkS 292 [vi 22 x_49,vt 23 s_223,vt 25 s_269,vi 26 x_270,vt 188 s_223,vt 189 ([40] ++ s_223),vv 190 cI5,vi 191 x_49,vv 192 (.cptr (AV.cells c92))] [] Hp.none 0))) .none) = some o) : ML C 41 qI30 7 (mk0 292 [vv 0 (.vs 1 tg_1 l_2),vi 2 x_4,vi 3 x_5,vb 4 c_6,vi 22 x_49,vt 23 s_223,vi 24 x_224,vv 179 (.vs 1 tg_1 l_2),vi 180 x_224,vi 181 x_4,vi 182 x_5,vi 183 x_271,vb 184 c_6,vv 185 (.tuple [(.str s_269),(i6 x_270)])]) = some o := stM C 2 (fun _ _ => by kernel_rfl) ho
theorem p41_39 {tg_1 c_6 : Bool} {l_2 : List AV} {x_5 x_10 x_236 x_237 x_273 x_274 : Int} {s_235 s_272 : List UInt8} (ho : Tr.val C 41
(.br (Nat.ble (1 + s_235.length) 4611686018427387904)
(ixl 6 [(.str [32,61,61,32]),(.str [32,33,61,32]),(.str [32,60,32]),(.str [32,60,61,32]),(.str [32,62,32]),(.str [32,62,61,32])] (Int.tmod (w64 (Int.tdiv x_10 2)) 6) fun c93 =>
(.mid 0 qI37 7 (mkS 292 [vi 13 x_10,vt 32 s_235,vt 34 s_272,vi 35 x_273,vt 263 s_235,vt 264 ([40] ++ s_235),vv 265 cI6,vi 266 x_10,vi 267 (w64 (Int.tdiv x_10 2)),vi 268 (Int.tmod (w64 (Int.tdiv x_10 2)) 6),vv 269 (.cptr (AV.cells c93))] [] Hp.none 0))) .none) = some o) : ML C 41 qI31 7 (mk0 292 [vv 0 (.vs 1 tg_1 l_2),vi 3 x_5,vb 4 c_6,vi 13 x_10,vi 31 x_237,vt 32 s_235,vi 33 x_236,vv 254 (.vs 1 tg_1 l_2),vi 255 x_236,vi 256 x_237,vi 257 x_5,vi 258 x_274,vb 259 c_6,vv 260 (.tuple [(.str s_272),(i6 x_273)])]) = some o := stM C 2 (fun _ _ => by kernel_rfl) ho
theorem p41_40 {x_21 x_258 : Int} {s_66 s_257 s_275 s_276 : List UInt8} (ho : Tr.val C 41
(.br (Nat.ble (s_276.length + s_275.length) 4611686018427387904)
(.br (Nat.ble ((s_276 ++ s_275).length + s_257.length) 4611686018427387904)
(.br (Nat.ble (((s_276 ++ s_275) ++ s_257).length + 1) 4611686018427387904)
(rt (.tuple [(.str (((s_276 ++ s_275) ++ s_257) ++ [41])),(i6 x_258)])) .none) .none) .none) = some o) : ML C 41 qI32 5 (mkS 292 [vi 15 x_21,vt 16 s_66,vt 18 s_257,vi 19 x_258,vt 89 s_66,vt 90 s_276,vv 91 cI4,vi 92 x_21,vv 93 (.cptr [(.str s_275)])] [] Hp.none 0) = some o := stM C 1 (fun _ _ => by kernel_rfl) ho
theorem p41_41 {x_30 x_261 : Int} {s_120 s_260 s_277 s_278 : List UInt8} (ho : Tr.val C 41
(.br (Nat.ble (s_278.length + s_277.length) 4611686018427387904)
(.br (Nat.ble ((s_278 ++ s_277).length + s_260.length) 4611686018427387904)
(.br (Nat.ble (((s_278 ++ s_277) ++ s_260).length + 1) 4611686018427387904)
(rt (.tuple [(.str (((s_278 ++ s_277) ++ s_260) ++ [41])),(i6 x_261)])) .none) .none) .none) = some o) : ML C 41 qI33 5 (mkS 292 [vi 22 x_30,vt 23 s_120,vt 25 s_260,vi 26 x_261,vt 188 s_120,vt 189 s_278,vv 190 cI5,vi 191 x_30,vv 192 (.cptr [(.str s_277)])] [] Hp.none 0) = some o := stM C 1 (fun _ _ => by kernel_rfl) ho
theorem p41_42 {x_10 x_264 x_281 x_282 : Int} {s_132 s_263 s_279 s_280 : List UInt8} (ho : Tr.val C 41
(.br (Nat.ble (s_280.length + s_279.length) 4611686018427387904)
(.br (Nat.ble ((s_280 ++ s_279).length + s_263.length) 4611686018427387904)
(.br (Nat.ble (((s_280 ++ s_279) ++ s_263).length + 1) 4611686018427387904)
(rt (.tuple [(.str (((s_280 ++ s_279) ++ s_263) ++ [41])),(i6 x_264)])) .none) .none) .none) = some o) : ML C 41 qI34 7 (mkS 292 [vi 13 x_10,vt 32 s_132,vt 34 s_263,vi 35 x_264,vt 263 s_132,vt 264 s_280,vv 265 cI6,vi 266 x_10,vi 267 x_281,vi 268 x_282,vv 269 (.cptr [(.str s_279)])] [] Hp.none 0) = some o := stM C 1 (fun _ _ => by kernel_rfl) ho
theorem p41_43 {x_41 x_267 : Int} {s_169 s_266 s_283 s_284 : List UInt8} (ho : Tr.val C 41
(.br (Nat.ble (s_284.length + s_283.length) 4611686018427387904)
(.br (Nat.ble ((s_284 ++ s_283).length + s_266.length) 4611686018427387904)
(.br (Nat.ble (((s_284 ++ s_283) ++ s_266).length + 1) 4611686018427387904)
(rt (.tuple [(.str (((s_284 ++ s_283) ++ s_266) ++ [41])),(i6 x_267)])) .none) .none) .none) = some o) : ML C 41 qI35 5 (mkS 292 [vi 15 x_41,vt 16 s_169,vt 18 s_266,vi 19 x_267,vt 89 s_169,vt 90 s_284,vv 91 cI4,vi 92 x_41,vv 93 (.cptr [(.str s_283)])] [] Hp.none 0) = some o := stM C 1 (fun _ _ => by kernel_rfl) ho
theorem p41_44 {x_49 x_270 : Int} {s_223 s_269 s_285 s_286 : List UInt8} (ho : Tr.val C 41
(.br (Nat.ble (s_286.length + s_285.length) 4611686018427387904)
(.br (Nat.ble ((s_286 ++ s_285).length + s_269.length) 4611686018427387904)
(.br (Nat.ble (((s_286 ++ s_285) ++ s_269).length + 1) 4611686018427387904)
(rt (.tuple [(.str (((s_286 ++ s_285) ++ s_269) ++ [41])),(i6 x_270)])) .none) .none) .none) = some o) : ML C 41 qI36 5 (mkS 292 [vi 22 x_49,vt 23 s_223,vt 25 s_269,vi 26 x_270,vt 188 s_223,vt 189 s_286,vv 190 cI5,vi 191 x_49,vv 192 (.cptr [(.str s_285)])] [] Hp.none 0) = some o := stM C 1 (fun _ _ => by kernel_rfl) ho
theorem p41_45 {x_10 x_273 x_289 x_290 : Int} {s_235 s_272 s_287 s_288 : List UInt8} (ho : Tr.val C 41
(.br (Nat.ble (s_288.length + s_287.length) 4611686018427387904)
(.br (Nat.ble ((s_288 ++ s_287).length + s_272.length) 4611686018427387904)
(.br (Nat.ble (((s_288 ++ s_287) ++ s_272).length + 1) 4611686018427387904)
(rt (.tuple [(.str (((s_288 ++ s_287) ++ s_272) ++ [41])),(i6 x_273)])) .none) .none) .none) = some o) : ML C 41 qI37 7 (mkS 292 [vi 13 x_10,vt 32 s_235,vt 34 s_272,vi 35 x_273,vt 263 s_235,vt 264 s_288,vv 265 cI6,vi 266 x_10,vi 267 x_289,vi 268 x_290,vv 269 (.cptr [(.str s_287)])] [] Hp.none 0) = some o := stM C 1 (fun _ _ => by kernel_rfl) ho
end Go.Proofs.YtfdklpkfpmkgeaaGreatDoor
end
section
namespace Go.Proofs.YtfdklpkfpmkgeaaGreatDoor
open Go Go.Vai
attribute [local irreducible] goTo zas mkS
variable {C : Nat→Oracle} (hC : Ext C)
include hC
set_option maxHeartbeats 8000000 in
theorem zlw (tg : Bool) (l : List Int) (hl : l.length ≤ 1000000) (q : Bool) (B : Nat) (hB : B ≤ 100000) (d : Int) (hd : 0 ≤ d∧d ≤ 4) (ih : d ≤ 3→∀ a ty : Int,Was (calL C 41 [.vs 1 tg (ints l),.int .i64 a,.int .i64 ty,.int .i64 (d + 1),.bool q] Hp.none 0) (QP B)) (a ty : Int) :
  Was (calL C 41 [.vs 1 tg (ints l),.int .i64 a,.int .i64 ty,.int .i64 d,.bool q] Hp.none 0) (QP (2 * B + 50)):=by
 have w1 : w64 (d + 1) = d + 1 := zaz (by omega) (by omega)
 refine exW (fun o=>p41_c hC) (exW (fun o=>p41_0) ?_)
 simp only [Tr.val,za7,AV.pure,za1,za0]
 refine .call (w34 hC _ _ (by omega) _) ?_
 rintro o ⟨n,e⟩
 simp only [e,AV.pure,za1]
 refine exW (fun o=>p41_1) ?_
 simp only [Tr.val,za7,AV.pure,za1,za0]
 refine .call (w22 hC _ _ (by omega) (by omega)) ?_
 rintro o ⟨x,e,h1,h2⟩
 simp only [e,AV.pure,za1]
 refine exW (fun o=>p41_2) ?_
 simp only [Tr.val,za7,AV.pure,za1,za0]
 obtain ⟨v,hv,hv0,hv1⟩ : ∃ v : Int,w64 (Int.tdiv x 16) = v∧0 ≤ v∧v ≤ 1099511627776:=by
  refine ⟨_,rfl,?_⟩
  rw [Int.tdiv_eq_ediv_of_nonneg h1,zaz (by omega) (by omega)]
  omega
 simp only [hv]
 have f1 : Int.tmod v 2 = v % 2 := Int.tmod_eq_emod_of_nonneg hv0
 have f2 : Int.tmod v 3 = v % 3 := Int.tmod_eq_emod_of_nonneg hv0
 have f3 : w64 (Int.tdiv v 2) = v / 2 := by rw [Int.tdiv_eq_ediv_of_nonneg hv0,zaz (by omega) (by omega)]
 have f4 : w64 (Int.tdiv v 3) = v / 3 := by rw [Int.tdiv_eq_ediv_of_nonneg hv0,zaz (by omega) (by omega)]
 have f5 : Int.tmod (v / 2) 4 = v / 2 % 4 := Int.tmod_eq_emod_of_nonneg (by omega)
 have f6 : Int.tmod (v / 2) 5 = v / 2 % 5 := Int.tmod_eq_emod_of_nonneg (by omega)
 have f7 : Int.tmod (v / 2) 6 = v / 2 % 6 := Int.tmod_eq_emod_of_nonneg (by omega)
 have f8 : Int.tmod (v / 3) 3 = v / 3 % 3 := Int.tmod_eq_emod_of_nonneg (by omega)
 clear hv e
 repeat' (first
  | refine .bL (by first | omega | (simp only [List.length_append,List.length_cons,List.length_nil,List.length_drop,List.length_take]; omega)) ?_
  | refine .bT (by omega) ?_
  | refine .bF (by omega) ?_
  | (refine .call (w34 hC _ _ (by omega) _) ?_; rintro o ⟨x,e⟩; simp only [e,AV.pure,za1]; clear e)
  | (refine .call (w22 hC _ _ (by omega) (by omega)) ?_; rintro o ⟨x,e,h1,h2⟩; simp only [e,AV.pure,za1]; clear e)
  | (refine .call (ih (by omega) _ _) ?_; rintro o ⟨s,x,e,h1⟩; simp only [e,AV.pure,za7,za1]; clear e)
  | (refine exW (fun o=>p41_3) ?_; simp only [Tr.val,za7,AV.pure,za1,AV.cells,za0,za8,Bool.not_true,Bool.not_false,w1,f1,f2,f3,f4,f5,f6,f7,f8])
  | (refine exW (fun o=>p41_4) ?_; simp only [Tr.val,za7,AV.pure,za1,AV.cells,za0,za8,Bool.not_true,Bool.not_false,w1,f1,f2,f3,f4,f5,f6,f7,f8])
  | (refine exW (fun o=>p41_5) ?_; simp only [Tr.val,za7,AV.pure,za1,AV.cells,za0,za8,Bool.not_true,Bool.not_false,w1,f1,f2,f3,f4,f5,f6,f7,f8])
  | (refine exW (fun o=>p41_6) ?_; simp only [Tr.val,za7,AV.pure,za1,AV.cells,za0,za8,Bool.not_true,Bool.not_false,w1,f1,f2,f3,f4,f5,f6,f7,f8])
  | (refine exW (fun o=>p41_7) ?_; simp only [Tr.val,za7,AV.pure,za1,AV.cells,za0,za8,Bool.not_true,Bool.not_false,w1,f1,f2,f3,f4,f5,f6,f7,f8])
  | (refine exW (fun o=>p41_8) ?_; simp only [Tr.val,za7,AV.pure,za1,AV.cells,za0,za8,Bool.not_true,Bool.not_false,w1,f1,f2,f3,f4,f5,f6,f7,f8])
  | (refine exW (fun o=>p41_9) ?_; simp only [Tr.val,za7,AV.pure,za1,AV.cells,za0,za8,Bool.not_true,Bool.not_false,w1,f1,f2,f3,f4,f5,f6,f7,f8])
  | (refine exW (fun o=>p41_10) ?_; simp only [Tr.val,za7,AV.pure,za1,AV.cells,za0,za8,Bool.not_true,Bool.not_false,w1,f1,f2,f3,f4,f5,f6,f7,f8])
  | (refine exW (fun o=>p41_11) ?_; simp only [Tr.val,za7,AV.pure,za1,AV.cells,za0,za8,Bool.not_true,Bool.not_false,w1,f1,f2,f3,f4,f5,f6,f7,f8])
  | (refine exW (fun o=>p41_12) ?_; simp only [Tr.val,za7,AV.pure,za1,AV.cells,za0,za8,Bool.not_true,Bool.not_false,w1,f1,f2,f3,f4,f5,f6,f7,f8])
  | (refine exW (fun o=>p41_13) ?_; simp only [Tr.val,za7,AV.pure,za1,AV.cells,za0,za8,Bool.not_true,Bool.not_false,w1,f1,f2,f3,f4,f5,f6,f7,f8])
  | (refine exW (fun o=>p41_14) ?_; simp only [Tr.val,za7,AV.pure,za1,AV.cells,za0,za8,Bool.not_true,Bool.not_false,w1,f1,f2,f3,f4,f5,f6,f7,f8])
  | (refine exW (fun o=>p41_15) ?_; simp only [Tr.val,za7,AV.pure,za1,AV.cells,za0,za8,Bool.not_true,Bool.not_false,w1,f1,f2,f3,f4,f5,f6,f7,f8])
  | (refine exW (fun o=>p41_16) ?_; simp only [Tr.val,za7,AV.pure,za1,AV.cells,za0,za8,Bool.not_true,Bool.not_false,w1,f1,f2,f3,f4,f5,f6,f7,f8])
  | (refine exW (fun o=>p41_17) ?_; simp only [Tr.val,za7,AV.pure,za1,AV.cells,za0,za8,Bool.not_true,Bool.not_false,w1,f1,f2,f3,f4,f5,f6,f7,f8])
  | (refine exW (fun o=>p41_18) ?_; simp only [Tr.val,za7,AV.pure,za1,AV.cells,za0,za8,Bool.not_true,Bool.not_false,w1,f1,f2,f3,f4,f5,f6,f7,f8])
  | (refine exW (fun o=>p41_19) ?_; simp only [Tr.val,za7,AV.pure,za1,AV.cells,za0,za8,Bool.not_true,Bool.not_false,w1,f1,f2,f3,f4,f5,f6,f7,f8])
  | (refine exW (fun o=>p41_20) ?_; simp only [Tr.val,za7,AV.pure,za1,AV.cells,za0,za8,Bool.not_true,Bool.not_false,w1,f1,f2,f3,f4,f5,f6,f7,f8])
  | (refine exW (fun o=>p41_21) ?_; simp only [Tr.val,za7,AV.pure,za1,AV.cells,za0,za8,Bool.not_true,Bool.not_false,w1,f1,f2,f3,f4,f5,f6,f7,f8])
  | (refine exW (fun o=>p41_22) ?_; simp only [Tr.val,za7,AV.pure,za1,AV.cells,za0,za8,Bool.not_true,Bool.not_false,w1,f1,f2,f3,f4,f5,f6,f7,f8])
  | (refine exW (fun o=>p41_23) ?_; simp only [Tr.val,za7,AV.pure,za1,AV.cells,za0,za8,Bool.not_true,Bool.not_false,w1,f1,f2,f3,f4,f5,f6,f7,f8])
  | (refine exW (fun o=>p41_24) ?_; simp only [Tr.val,za7,AV.pure,za1,AV.cells,za0,za8,Bool.not_true,Bool.not_false,w1,f1,f2,f3,f4,f5,f6,f7,f8])
  | (refine exW (fun o=>p41_25) ?_; simp only [Tr.val,za7,AV.pure,za1,AV.cells,za0,za8,Bool.not_true,Bool.not_false,w1,f1,f2,f3,f4,f5,f6,f7,f8])
  | (refine exW (fun o=>p41_26) ?_; simp only [Tr.val,za7,AV.pure,za1,AV.cells,za0,za8,Bool.not_true,Bool.not_false,w1,f1,f2,f3,f4,f5,f6,f7,f8])
  | (refine exW (fun o=>p41_27) ?_; simp only [Tr.val,za7,AV.pure,za1,AV.cells,za0,za8,Bool.not_true,Bool.not_false,w1,f1,f2,f3,f4,f5,f6,f7,f8])
  | (refine exW (fun o=>p41_28) ?_; simp only [Tr.val,za7,AV.pure,za1,AV.cells,za0,za8,Bool.not_true,Bool.not_false,w1,f1,f2,f3,f4,f5,f6,f7,f8])
  | (refine exW (fun o=>p41_29) ?_; simp only [Tr.val,za7,AV.pure,za1,AV.cells,za0,za8,Bool.not_true,Bool.not_false,w1,f1,f2,f3,f4,f5,f6,f7,f8])
  | (refine exW (fun o=>p41_30) ?_; simp only [Tr.val,za7,AV.pure,za1,AV.cells,za0,za8,Bool.not_true,Bool.not_false,w1,f1,f2,f3,f4,f5,f6,f7,f8])
  | (refine exW (fun o=>p41_31) ?_; simp only [Tr.val,za7,AV.pure,za1,AV.cells,za0,za8,Bool.not_true,Bool.not_false,w1,f1,f2,f3,f4,f5,f6,f7,f8])
  | (refine exW (fun o=>p41_32) ?_; simp only [Tr.val,za7,AV.pure,za1,AV.cells,za0,za8,Bool.not_true,Bool.not_false,w1,f1,f2,f3,f4,f5,f6,f7,f8])
  | (refine exW (fun o=>p41_33) ?_; simp only [Tr.val,za7,AV.pure,za1,AV.cells,za0,za8,Bool.not_true,Bool.not_false,w1,f1,f2,f3,f4,f5,f6,f7,f8])
  | (refine exW (fun o=>p41_34) ?_; simp only [Tr.val,za7,AV.pure,za1,AV.cells,za0,za8,Bool.not_true,Bool.not_false,w1,f1,f2,f3,f4,f5,f6,f7,f8])
  | (refine exW (fun o=>p41_35) ?_; simp only [Tr.val,za7,AV.pure,za1,AV.cells,za0,za8,Bool.not_true,Bool.not_false,w1,f1,f2,f3,f4,f5,f6,f7,f8])
  | (refine exW (fun o=>p41_36) ?_; simp only [Tr.val,za7,AV.pure,za1,AV.cells,za0,za8,Bool.not_true,Bool.not_false,w1,f1,f2,f3,f4,f5,f6,f7,f8])
  | (refine exW (fun o=>p41_37) ?_; simp only [Tr.val,za7,AV.pure,za1,AV.cells,za0,za8,Bool.not_true,Bool.not_false,w1,f1,f2,f3,f4,f5,f6,f7,f8])
  | (refine exW (fun o=>p41_38) ?_; simp only [Tr.val,za7,AV.pure,za1,AV.cells,za0,za8,Bool.not_true,Bool.not_false,w1,f1,f2,f3,f4,f5,f6,f7,f8])
  | (refine exW (fun o=>p41_39) ?_; simp only [Tr.val,za7,AV.pure,za1,AV.cells,za0,za8,Bool.not_true,Bool.not_false,w1,f1,f2,f3,f4,f5,f6,f7,f8])
  | (refine exW (fun o=>p41_40) ?_; simp only [Tr.val,za7,AV.pure,za1,AV.cells,za0,za8,Bool.not_true,Bool.not_false,w1,f1,f2,f3,f4,f5,f6,f7,f8])
  | (refine exW (fun o=>p41_41) ?_; simp only [Tr.val,za7,AV.pure,za1,AV.cells,za0,za8,Bool.not_true,Bool.not_false,w1,f1,f2,f3,f4,f5,f6,f7,f8])
  | (refine exW (fun o=>p41_42) ?_; simp only [Tr.val,za7,AV.pure,za1,AV.cells,za0,za8,Bool.not_true,Bool.not_false,w1,f1,f2,f3,f4,f5,f6,f7,f8])
  | (refine exW (fun o=>p41_43) ?_; simp only [Tr.val,za7,AV.pure,za1,AV.cells,za0,za8,Bool.not_true,Bool.not_false,w1,f1,f2,f3,f4,f5,f6,f7,f8])
  | (refine exW (fun o=>p41_44) ?_; simp only [Tr.val,za7,AV.pure,za1,AV.cells,za0,za8,Bool.not_true,Bool.not_false,w1,f1,f2,f3,f4,f5,f6,f7,f8])
  | (refine exW (fun o=>p41_45) ?_; simp only [Tr.val,za7,AV.pure,za1,AV.cells,za0,za8,Bool.not_true,Bool.not_false,w1,f1,f2,f3,f4,f5,f6,f7,f8])
  | (refine .nth (B := 20) rfl (by simp only [List.length_cons,List.length_nil]; omega) fun s hs=>?_; simp only [AV.cells])
  | exact .mk ⟨_,_,rfl,by first | omega | (simp only [List.length_append,List.length_cons,List.length_nil,List.length_drop,List.length_take]; omega)⟩
  | refine .dec (fun h=>?_) (fun h=>?_)
  | refine .both (fun h=>?_) (fun h=>?_))
theorem w41 (tg : Bool) (l : List Int) (hl : l.length ≤ 1000000) (a ty : Int) (q : Bool) : Was (calL C 41 [.vs 1 tg (ints l),.int .i64 a,.int .i64 ty,.int .i64 0,.bool q] Hp.none 0) (QP 3000):=by
 have s4 := zlw hC tg l hl q 0 (by decide) 4 (by decide) (fun h=>absurd h (by decide))
 have s3 := zlw hC tg l hl q _ (by decide) 3 (by decide) (fun _=>s4)
 have s2 := zlw hC tg l hl q _ (by decide) 2 (by decide) (fun _=>s3)
 have s1 := zlw hC tg l hl q _ (by decide) 1 (by decide) (fun _=>s2)
 have s0 := zlw hC tg l hl q _ (by decide) 0 (by decide) (fun _=>s1)
 exact (s0 a ty).imp fun o ⟨s,x,e1,e2⟩=>⟨s,x,e1,Nat.le_trans e2 (by decide)⟩
end Go.Proofs.YtfdklpkfpmkgeaaGreatDoor
end
