/- Stage laws,printed by gen_p.py. -/
import Derived.Test.YtfdklpkfpmkgeaaGreatDoorM5
import Derived.Test.YtfdklpkfpmkgeaaGreatDoorM6
import Derived.Test.YtfdklpkfpmkgeaaGreatDoorM7
set_option linter.unusedSimpArgs false
set_option linter.unusedVariables false
set_option linter.unusedSectionVars false
set_option linter.unnecessarySimpa false
section
namespace Go.Proofs.YtfdklpkfpmkgeaaGreatDoor
open Go Go.Vai
attribute [local irreducible] goTo zaq mkS
variable {C : Nat → Oracle} {o : Out}
abbrev cE0 : Nat × Blk := (2,⟨[(.str []),(.vs 4 true []),(.vs 4 true []),(.vs 8 true []),(.vs 2 true []),(i6 0)],[1,2,3,4]⟩)
abbrev cE1 : AV := (.vs 1 true [(.str [105,110,116]),(.str [116,101,120,116])])
abbrev cE2 : Nat × Blk := (2,⟨[(.vs 6 true [])],[0]⟩)
abbrev cE3 : AV := (.vs 1 true [(.str [114,101,103,105,115,116,101,114]),(.str [99,111,117,110,116,101,114]),(.str [109,97,120]),(.str [115,101,116]),(.str [102,108,97,103]),(.str [111,112]),(.str [113,117,101,114,121]),(.str [105,110,100,101,120])])
abbrev cE4 : Nat × Blk := (6,⟨[(.str []),(.vs 3 true []),(.vs 6 true []),(i6 0)],[1,2]⟩)
abbrev cE5 : Nat × Blk := (7,⟨[(.str []),(.vs 3 true []),(i6 0),(i6 0),(.str []),(.vs 5 true []),(i6 0),(i6 0)],[1,5]⟩)
abbrev cE7 : Nat × Blk := (1,⟨[(.str []),(.vs 4 true []),(.vs 4 true []),(.vs 8 true []),(.vs 2 true []),(i6 0)],[1,2,3,4]⟩)
abbrev qE0 : List Nat := [0,5,0,5,0,5,0,5,0,5,0,2,3]
abbrev qE1 : List Nat := [0,5,0,5,0,5,0,5,0,5,0,2,3,0,0,5,7,5,5,5,5,0]
abbrev qE2 : List Nat := [0,5,0,0,5,7,5,0,5,0,5,0,5,0,2,3]
abbrev qE3 : List Nat := [0,5,0,5,2,0,0,5,7,0,5,7,0,5,7,0,5,6,5,6,0,5,0]
abbrev qE4 : List Nat := [0,5,0,5,2,0,0,5,7,0,5,7,0,5,7,0,5,7,5,6,0,5,0]
abbrev qE5 : List Nat := [0,5,0,5,2,0,0,5,7,0,5,7,0,5,7,0,5,7,5,7,0,5,6,0,5,0]
abbrev qE6 : List Nat := [0,5,0,5,2,0,0,5,7,0,5,7,0,5,7,0,5,7,5,7,0,5,7,0,5,6,0,5,0]
abbrev qE7 : List Nat := [0,5,0,5,2,0,0,5,7,0,5,7,0,5,7,0,5,7,5,7,0,5,7,0,5,7,0,5,6,0,5,0]
abbrev qE8 : List Nat := [0,5,0,5,2,0,0,5,7,0,5,6,5,6,0,5,0,5,0,0,5,7,5,0,5]
abbrev qE9 : List Nat := [0,5,0,5,2,0,0,5,7,0,5,7,0,5,6,5,6,0,5,0,5,0,0,5,7,5,0,5]
abbrev qE10 : List Nat := [0,5,0,5,2,0,0,5,7,0,5,7,0,5,7,0,5,6,5,6,0,5,0,5,0,0,5,7,5,0,5]
abbrev qE11 : List Nat := [0,5,0,5,2,0,0,5,7,0,5,7,0,5,7,0,5,7,5,6,0,5,0,5,0,0,5,7,5,0,5]
abbrev qE12 : List Nat := [0,5,0,5,2,0,0,5,7,0,5,7,0,5,7,0,5,7,5,7,0,5,6,0,5,0,5,0]
abbrev qE13 : List Nat := [0,5,0,5,2,0,0,5,7,0,5,7,0,5,7,0,5,7,5,7,0,5,7,0,5,6,0,5,0,5,0]
abbrev qE14 : List Nat := [0,5,0,5,2,0,0,5,7,0,5,7,0,5,7,0,5,7,5,7,0,5,7,0,5,7,0,5,6,0,5,0,5,0,5]
abbrev qE15 : List Nat := [0,5,0,5,2,0,0,5,6,5,6,0,5,0,5,0,0,5,6,5,0,5]
abbrev qE16 : List Nat := [0,5,0,5,2,0,0,5,7,0,5,7,0,5,7,0,5,7,5,7,0,5,6,0,5,0,5,0,5,0]
abbrev qE17 : List Nat := [0,5,0,5,2,0,0,5,7,0,5,7,0,5,7,0,5,7,5,7,0,5,7,0,5,6,0,5,0,5,0,5,0]
abbrev qE18 : List Nat := [0,5,0,5,2,0,0,5,7,0,5,7,0,5,7,0,5,7,5,7,0,5,7,0,5,6,0,5,0,5,0,5,0,5,0]
abbrev qE19 : List Nat := [0,5,0,5,2,0,0,5,7,0,5,7,0,5,7,0,5,7,5,7,0,5,7,0,5,6,0,5,0,5,0,5,0,5,0,5,0,5]
abbrev qE20 : List Nat := [0,5,0,0,5,7,5,0,5,0,5,0,5,0,2,3,0,0,5,6,5,2]
abbrev qE21 : List Nat := [0,5,0,0,5,7,5,0,5,0,5,0,5,0,2,3,0,0,5,7,5,5,5,5,0,0,5,6]
theorem p83_c (hC : Ext C) {q_1 : PS} {s_2 : List UInt8} {tg_3 tg_5 tg_7 tg_9 : Bool} {l_4 l_6 l_8 l_10 : List AV} {x_11 : Int} (ho : RL C 83 [] (mkS 121 [vv 0 (.ptr 0 0),vv 1 (.ptr 1 0)] [] (hp q_1 ((1,⟨[(.str s_2),(.vs 4 tg_3 l_4),(.vs 4 tg_5 l_6),(.vs 8 tg_7 l_8),(.vs 2 tg_9 l_10),(i6 x_11)],[1,2,3,4]⟩) :: Hp.none)) 2) = some o) : calL C 83 [(.ptr 0 0),(.ptr 1 0)] (hp q_1 ((1,⟨[(.str s_2),(.vs 4 tg_3 l_4),(.vs 4 tg_5 l_6),(.vs 8 tg_7 l_8),(.vs 2 tg_9 l_10),(i6 x_11)],[1,2,3,4]⟩) :: Hp.none)) 2 = some o := hC.call rfl (fun _ _ => by kernel_rfl) ho
theorem p83_0 {q_1 : PS} {s_2 : List UInt8} {tg_3 tg_5 tg_7 tg_9 : Bool} {l_4 l_6 l_8 l_10 : List AV} {x_11 : Int} (ho : Tr.val C 83
(.call 148 [(.ptr 0 0),(.vs 1 true [(.str [114,101,103,105,115,116,101,114]),(.str [99,111,117,110,116,101,114]),(.str [109,97,120]),(.str [115,101,116]),(.str [102,108,97,103]),(.str [111,112]),(.str [113,117,101,114,121]),(.str [105,110,100,101,120])])] (hp q_1 ((1,⟨[(.str s_2),(.vs 4 tg_3 l_4),(.vs 4 tg_5 l_6),(.vs 8 tg_7 l_8),(.vs 2 tg_9 l_10),(i6 x_11)],[1,2,3,4]⟩) :: Hp.none)) 2 fun r1 =>
(.mid 0 [0] 3 (mkS 121 [vv 0 (.ptr 0 0),vv 1 (.ptr 1 0),vv 9 (.ptr 0 0),vv 10 cE3,vv 11 r1.v] [] r1.H r1.nx))) = some o) : RL C 83 [] (mkS 121 [vv 0 (.ptr 0 0),vv 1 (.ptr 1 0)] [] (hp q_1 ((1,⟨[(.str s_2),(.vs 4 tg_3 l_4),(.vs 4 tg_5 l_6),(.vs 8 tg_7 l_8),(.vs 2 tg_9 l_10),(i6 x_11)],[1,2,3,4]⟩) :: Hp.none)) 2) = some o := stR C 2 (fun _ _ => by kernel_rfl) ho
theorem p83_1 {s_2 : List UInt8} {tg_3 tg_5 tg_7 tg_9 : Bool} {l_4 l_6 l_8 l_10 : List AV} {x_11 x_14 : Int} {q_16 : PS} (ho : Tr.val C 83
(.br (decide (x_14 = 1))
(.call 80 [(.ptr 0 0)] (hp q_16 ((1,⟨[(.str s_2),(.vs 4 tg_3 l_4),(.vs 4 tg_5 l_6),(.vs 8 tg_7 l_8),(.vs 2 tg_9 l_10),(i6 x_11)],[1,2,3,4]⟩) :: Hp.none)) 2 fun r2 =>
(.mid 18 [0,5,0,5,2,0,0,5,6,5,6,0,5,0] 2 (mkS 121 [vv 0 (.ptr 0 0),vv 1 (.ptr 1 0),vi 4 x_14,(5,.lp 5 0),vv 22 (.ptr 0 0),vv 23 r2.v] [(5,⟨[(.str []),(i6 x_14),(i6 0),(i6 0)],[]⟩)] r2.H r2.nx)))
(.br (decide (x_14 = 2))
(.call 80 [(.ptr 0 0)] (hp q_16 ((1,⟨[(.str s_2),(.vs 4 tg_3 l_4),(.vs 4 tg_5 l_6),(.vs 8 tg_7 l_8),(.vs 2 tg_9 l_10),(i6 x_11)],[1,2,3,4]⟩) :: Hp.none)) 2 fun r3 =>
(.mid 15 [0,5,0,5,2,0,0,5,7,0,5,6,5,6,0,5,0] 2 (mkS 121 [vv 0 (.ptr 0 0),vv 1 (.ptr 1 0),vi 4 x_14,(5,.lp 5 0),vv 22 (.ptr 0 0),vv 23 r3.v] [(5,⟨[(.str []),(i6 x_14),(i6 0),(i6 0)],[]⟩)] r3.H r3.nx)))
(.br (decide (x_14 = 3))
(.call 80 [(.ptr 0 0)] (hp q_16 ((1,⟨[(.str s_2),(.vs 4 tg_3 l_4),(.vs 4 tg_5 l_6),(.vs 8 tg_7 l_8),(.vs 2 tg_9 l_10),(i6 x_11)],[1,2,3,4]⟩) :: Hp.none)) 2 fun r4 =>
(.mid 12 [0,5,0,5,2,0,0,5,7,0,5,7,0,5,6,5,6,0,5,0] 2 (mkS 121 [vv 0 (.ptr 0 0),vv 1 (.ptr 1 0),vi 4 x_14,(5,.lp 5 0),vv 22 (.ptr 0 0),vv 23 r4.v] [(5,⟨[(.str []),(i6 x_14),(i6 0),(i6 0)],[]⟩)] r4.H r4.nx)))
(.br (decide (x_14 = 4))
(.call 80 [(.ptr 0 0)] (hp q_16 ((1,⟨[(.str s_2),(.vs 4 tg_3 l_4),(.vs 4 tg_5 l_6),(.vs 8 tg_7 l_8),(.vs 2 tg_9 l_10),(i6 x_11)],[1,2,3,4]⟩) :: Hp.none)) 2 fun r5 =>
(.mid 9 qE3 2 (mkS 121 [vv 0 (.ptr 0 0),vv 1 (.ptr 1 0),vi 4 x_14,(5,.lp 5 0),vv 22 (.ptr 0 0),vv 23 r5.v] [(5,⟨[(.str []),(i6 x_14),(i6 0),(i6 0)],[]⟩)] r5.H r5.nx)))
(.br (decide (x_14 = 5))
(.call 80 [(.ptr 0 0)] (hp q_16 ((1,⟨[(.str s_2),(.vs 4 tg_3 l_4),(.vs 4 tg_5 l_6),(.vs 8 tg_7 l_8),(.vs 2 tg_9 l_10),(i6 x_11)],[1,2,3,4]⟩) :: Hp.none)) 2 fun r6 =>
(.mid 9 qE4 2 (mkS 121 [vv 0 (.ptr 0 0),vv 1 (.ptr 1 0),vi 4 x_14,(5,.lp 5 0),vv 22 (.ptr 0 0),vv 23 r6.v] [(5,⟨[(.str []),(i6 x_14),(i6 0),(i6 0)],[]⟩)] r6.H r6.nx)))
(.br (decide (x_14 = 6))
(.call 80 [(.ptr 0 0)] (hp q_16 ((1,⟨[(.str s_2),(.vs 4 tg_3 l_4),(.vs 4 tg_5 l_6),(.vs 8 tg_7 l_8),(.vs 2 tg_9 l_10),(i6 x_11)],[1,2,3,4]⟩) :: Hp.none)) 2 fun r7 =>
(.mid 6 qE5 2 (mkS 121 [vv 0 (.ptr 0 0),vv 1 (.ptr 1 0),(6,.lp 6 0),vv 49 (.ptr 0 0),vv 50 r7.v] [cE4] r7.H r7.nx)))
(.br (decide (x_14 = 7))
(.call 80 [(.ptr 0 0)] (hp q_16 ((1,⟨[(.str s_2),(.vs 4 tg_3 l_4),(.vs 4 tg_5 l_6),(.vs 8 tg_7 l_8),(.vs 2 tg_9 l_10),(i6 x_11)],[1,2,3,4]⟩) :: Hp.none)) 2 fun r8 =>
(.mid 3 qE6 2 (mkS 121 [vv 0 (.ptr 0 0),vv 1 (.ptr 1 0),(7,.lp 7 0),vv 74 (.ptr 0 0),vv 75 r8.v] [cE5] r8.H r8.nx)))
(.br (decide (x_14 = 8))
(.call 80 [(.ptr 0 0)] (hp q_16 ((1,⟨[(.str s_2),(.vs 4 tg_3 l_4),(.vs 4 tg_5 l_6),(.vs 8 tg_7 l_8),(.vs 2 tg_9 l_10),(i6 x_11)],[1,2,3,4]⟩) :: Hp.none)) 2 fun r9 =>
(.mid 0 qE7 2 (mkS 121 [vv 0 (.ptr 0 0),vv 1 (.ptr 1 0),(8,.lp 8 0),vv 103 (.ptr 0 0),vv 104 r9.v] [(8,⟨[(.str []),(i6 0)],[]⟩)] r9.H r9.nx)))
(.ret ⟨(.tuple []),(hp q_16 ((1,⟨[(.str s_2),(.vs 4 tg_3 l_4),(.vs 4 tg_5 l_6),(.vs 8 tg_7 l_8),(.vs 2 tg_9 l_10),(i6 x_11)],[1,2,3,4]⟩) :: Hp.none)),2⟩))))))))) = some o) : ML C 83 [0] 3 (mkS 121 [vv 0 (.ptr 0 0),vv 1 (.ptr 1 0),vv 9 (.ptr 0 0),vv 10 cE3,vi 11 x_14] [] (hp q_16 ((1,⟨[(.str s_2),(.vs 4 tg_3 l_4),(.vs 4 tg_5 l_6),(.vs 8 tg_7 l_8),(.vs 2 tg_9 l_10),(i6 x_11)],[1,2,3,4]⟩) :: Hp.none)) 2) = some o := stM C 31 (fun _ _ => by kernel_rfl) ho
theorem p83_2 {s_2 s_17 : List UInt8} {tg_3 tg_5 tg_7 tg_9 : Bool} {l_4 l_6 l_8 l_10 : List AV} {x_11 x_14 x_18 : Int} {q_20 : PS} (ho : Tr.val C 83
(.br (decide (x_14 = 1))
(.call 148 [(.ptr 0 0),(.vs 1 true [(.str [105,110,116]),(.str [116,101,120,116])])] (hp q_20 ((1,⟨[(.str s_2),(.vs 4 tg_3 l_4),(.vs 4 tg_5 l_6),(.vs 8 tg_7 l_8),(.vs 2 tg_9 l_10),(i6 x_11)],[1,2,3,4]⟩) :: Hp.none)) 2 fun r10 =>
(.mid 3 [0,5,0,5,2,0,0,5,6,5,6,0,5,0,5,0,0,5,6] 3 (mkS 121 [vv 0 (.ptr 0 0),vv 1 (.ptr 1 0),(5,.lp 5 0),vb 29 true,vv 30 (.ptr 0 0),vv 31 cE1,vv 32 r10.v] [(5,⟨[(.str s_17),(i6 x_14),(i6 0),(i6 x_18)],[]⟩)] r10.H r10.nx)))
(.br (Nat.ble ((l_4.length + 1) * 40) za1)
(.br (Nat.ble (l_4.length + 1) za1)
(.call 81 [(.ptr 0 0),(.str [59])] (hp q_20 ((1,⟨[(.str s_2),(.vs 4 false (l_4 ++ [(.agg [(.str s_17),(i6 x_14),(i6 0),(i6 x_18)])])),(.vs 4 tg_5 l_6),(.vs 8 tg_7 l_8),(.vs 2 tg_9 l_10),(i6 x_11)],[1,2,3,4]⟩) :: Hp.none)) 2 fun r11 =>
(.mid 0 [0,5,0,5,2,0,0,5,6,5,6,0,5,0,5,0,0,5,7,5,0,5] 2 (mkS 121 [vv 0 (.ptr 0 0),vv 44 (.ptr 0 0),vv 45 r11.v] [(5,⟨[(.str s_17),(i6 x_14),(i6 0),(i6 x_18)],[]⟩)] r11.H r11.nx))) .none) .none)) = some o) : ML C 83 [0,5,0,5,2,0,0,5,6,5,6,0,5,0] 2 (mkS 121 [vv 0 (.ptr 0 0),vv 1 (.ptr 1 0),vi 4 x_14,(5,.lp 5 0),vv 22 (.ptr 0 0),vv 23 (.tuple [(.str s_17),(i6 x_18)])] [(5,⟨[(.str []),(i6 x_14),(i6 0),(i6 0)],[]⟩)] (hp q_20 ((1,⟨[(.str s_2),(.vs 4 tg_3 l_4),(.vs 4 tg_5 l_6),(.vs 8 tg_7 l_8),(.vs 2 tg_9 l_10),(i6 x_11)],[1,2,3,4]⟩) :: Hp.none)) 2) = some o := stM C 8 (fun _ _ => by kernel_rfl) ho
theorem p83_3 {s_2 s_21 : List UInt8} {tg_3 tg_5 tg_7 tg_9 : Bool} {l_4 l_6 l_8 l_10 : List AV} {x_11 x_14 x_22 : Int} {q_24 : PS} (ho : Tr.val C 83
(.br (decide (x_14 = 1))
(.call 148 [(.ptr 0 0),(.vs 1 true [(.str [105,110,116]),(.str [116,101,120,116])])] (hp q_24 ((1,⟨[(.str s_2),(.vs 4 tg_3 l_4),(.vs 4 tg_5 l_6),(.vs 8 tg_7 l_8),(.vs 2 tg_9 l_10),(i6 x_11)],[1,2,3,4]⟩) :: Hp.none)) 2 fun r12 =>
(.mid 3 [0,5,0,5,2,0,0,5,7,0,5,6,5,6,0,5,0,5,0,0,5,6] 3 (mkS 121 [vv 0 (.ptr 0 0),vv 1 (.ptr 1 0),(5,.lp 5 0),vb 29 true,vv 30 (.ptr 0 0),vv 31 cE1,vv 32 r12.v] [(5,⟨[(.str s_21),(i6 x_14),(i6 0),(i6 x_22)],[]⟩)] r12.H r12.nx)))
(.br (Nat.ble ((l_4.length + 1) * 40) za1)
(.br (Nat.ble (l_4.length + 1) za1)
(.call 81 [(.ptr 0 0),(.str [59])] (hp q_24 ((1,⟨[(.str s_2),(.vs 4 false (l_4 ++ [(.agg [(.str s_21),(i6 x_14),(i6 0),(i6 x_22)])])),(.vs 4 tg_5 l_6),(.vs 8 tg_7 l_8),(.vs 2 tg_9 l_10),(i6 x_11)],[1,2,3,4]⟩) :: Hp.none)) 2 fun r13 =>
(.mid 0 qE8 2 (mkS 121 [vv 0 (.ptr 0 0),vv 44 (.ptr 0 0),vv 45 r13.v] [(5,⟨[(.str s_21),(i6 x_14),(i6 0),(i6 x_22)],[]⟩)] r13.H r13.nx))) .none) .none)) = some o) : ML C 83 [0,5,0,5,2,0,0,5,7,0,5,6,5,6,0,5,0] 2 (mkS 121 [vv 0 (.ptr 0 0),vv 1 (.ptr 1 0),vi 4 x_14,(5,.lp 5 0),vv 22 (.ptr 0 0),vv 23 (.tuple [(.str s_21),(i6 x_22)])] [(5,⟨[(.str []),(i6 x_14),(i6 0),(i6 0)],[]⟩)] (hp q_24 ((1,⟨[(.str s_2),(.vs 4 tg_3 l_4),(.vs 4 tg_5 l_6),(.vs 8 tg_7 l_8),(.vs 2 tg_9 l_10),(i6 x_11)],[1,2,3,4]⟩) :: Hp.none)) 2) = some o := stM C 8 (fun _ _ => by kernel_rfl) ho
theorem p83_4 {s_2 s_25 : List UInt8} {tg_3 tg_5 tg_7 tg_9 : Bool} {l_4 l_6 l_8 l_10 : List AV} {x_11 x_14 x_26 : Int} {q_28 : PS} (ho : Tr.val C 83
(.br (decide (x_14 = 1))
(.call 148 [(.ptr 0 0),(.vs 1 true [(.str [105,110,116]),(.str [116,101,120,116])])] (hp q_28 ((1,⟨[(.str s_2),(.vs 4 tg_3 l_4),(.vs 4 tg_5 l_6),(.vs 8 tg_7 l_8),(.vs 2 tg_9 l_10),(i6 x_11)],[1,2,3,4]⟩) :: Hp.none)) 2 fun r14 =>
(.mid 3 [0,5,0,5,2,0,0,5,7,0,5,7,0,5,6,5,6,0,5,0,5,0,0,5,6] 3 (mkS 121 [vv 0 (.ptr 0 0),vv 1 (.ptr 1 0),(5,.lp 5 0),vb 29 true,vv 30 (.ptr 0 0),vv 31 cE1,vv 32 r14.v] [(5,⟨[(.str s_25),(i6 x_14),(i6 0),(i6 x_26)],[]⟩)] r14.H r14.nx)))
(.br (Nat.ble ((l_4.length + 1) * 40) za1)
(.br (Nat.ble (l_4.length + 1) za1)
(.call 81 [(.ptr 0 0),(.str [59])] (hp q_28 ((1,⟨[(.str s_2),(.vs 4 false (l_4 ++ [(.agg [(.str s_25),(i6 x_14),(i6 0),(i6 x_26)])])),(.vs 4 tg_5 l_6),(.vs 8 tg_7 l_8),(.vs 2 tg_9 l_10),(i6 x_11)],[1,2,3,4]⟩) :: Hp.none)) 2 fun r15 =>
(.mid 0 qE9 2 (mkS 121 [vv 0 (.ptr 0 0),vv 44 (.ptr 0 0),vv 45 r15.v] [(5,⟨[(.str s_25),(i6 x_14),(i6 0),(i6 x_26)],[]⟩)] r15.H r15.nx))) .none) .none)) = some o) : ML C 83 [0,5,0,5,2,0,0,5,7,0,5,7,0,5,6,5,6,0,5,0] 2 (mkS 121 [vv 0 (.ptr 0 0),vv 1 (.ptr 1 0),vi 4 x_14,(5,.lp 5 0),vv 22 (.ptr 0 0),vv 23 (.tuple [(.str s_25),(i6 x_26)])] [(5,⟨[(.str []),(i6 x_14),(i6 0),(i6 0)],[]⟩)] (hp q_28 ((1,⟨[(.str s_2),(.vs 4 tg_3 l_4),(.vs 4 tg_5 l_6),(.vs 8 tg_7 l_8),(.vs 2 tg_9 l_10),(i6 x_11)],[1,2,3,4]⟩) :: Hp.none)) 2) = some o := stM C 8 (fun _ _ => by kernel_rfl) ho
theorem p83_5 {s_2 s_29 : List UInt8} {tg_3 tg_5 tg_7 tg_9 : Bool} {l_4 l_6 l_8 l_10 : List AV} {x_11 x_14 x_30 : Int} {q_32 : PS} (ho : Tr.val C 83
(.br (decide (x_14 = 1))
(.call 148 [(.ptr 0 0),(.vs 1 true [(.str [105,110,116]),(.str [116,101,120,116])])] (hp q_32 ((1,⟨[(.str s_2),(.vs 4 tg_3 l_4),(.vs 4 tg_5 l_6),(.vs 8 tg_7 l_8),(.vs 2 tg_9 l_10),(i6 x_11)],[1,2,3,4]⟩) :: Hp.none)) 2 fun r16 =>
(.mid 3 [0,5,0,5,2,0,0,5,7,0,5,7,0,5,7,0,5,6,5,6,0,5,0,5,0,0,5,6] 3 (mkS 121 [vv 0 (.ptr 0 0),vv 1 (.ptr 1 0),(5,.lp 5 0),vb 29 true,vv 30 (.ptr 0 0),vv 31 cE1,vv 32 r16.v] [(5,⟨[(.str s_29),(i6 x_14),(i6 0),(i6 x_30)],[]⟩)] r16.H r16.nx)))
(.br (Nat.ble ((l_4.length + 1) * 40) za1)
(.br (Nat.ble (l_4.length + 1) za1)
(.call 81 [(.ptr 0 0),(.str [59])] (hp q_32 ((1,⟨[(.str s_2),(.vs 4 false (l_4 ++ [(.agg [(.str s_29),(i6 x_14),(i6 0),(i6 x_30)])])),(.vs 4 tg_5 l_6),(.vs 8 tg_7 l_8),(.vs 2 tg_9 l_10),(i6 x_11)],[1,2,3,4]⟩) :: Hp.none)) 2 fun r17 =>
(.mid 0 qE10 2 (mkS 121 [vv 0 (.ptr 0 0),vv 44 (.ptr 0 0),vv 45 r17.v] [(5,⟨[(.str s_29),(i6 x_14),(i6 0),(i6 x_30)],[]⟩)] r17.H r17.nx))) .none) .none)) = some o) : ML C 83 qE3 2 (mkS 121 [vv 0 (.ptr 0 0),vv 1 (.ptr 1 0),vi 4 x_14,(5,.lp 5 0),vv 22 (.ptr 0 0),vv 23 (.tuple [(.str s_29),(i6 x_30)])] [(5,⟨[(.str []),(i6 x_14),(i6 0),(i6 0)],[]⟩)] (hp q_32 ((1,⟨[(.str s_2),(.vs 4 tg_3 l_4),(.vs 4 tg_5 l_6),(.vs 8 tg_7 l_8),(.vs 2 tg_9 l_10),(i6 x_11)],[1,2,3,4]⟩) :: Hp.none)) 2) = some o := stM C 8 (fun _ _ => by kernel_rfl) ho
theorem p83_6 {s_2 s_33 : List UInt8} {tg_3 tg_5 tg_7 tg_9 : Bool} {l_4 l_6 l_8 l_10 : List AV} {x_11 x_14 x_34 : Int} {q_36 : PS} (ho : Tr.val C 83
(.br (decide (x_14 = 1))
(.call 148 [(.ptr 0 0),(.vs 1 true [(.str [105,110,116]),(.str [116,101,120,116])])] (hp q_36 ((1,⟨[(.str s_2),(.vs 4 tg_3 l_4),(.vs 4 tg_5 l_6),(.vs 8 tg_7 l_8),(.vs 2 tg_9 l_10),(i6 x_11)],[1,2,3,4]⟩) :: Hp.none)) 2 fun r18 =>
(.mid 3 [0,5,0,5,2,0,0,5,7,0,5,7,0,5,7,0,5,7,5,6,0,5,0,5,0,0,5,6] 3 (mkS 121 [vv 0 (.ptr 0 0),vv 1 (.ptr 1 0),(5,.lp 5 0),vb 29 true,vv 30 (.ptr 0 0),vv 31 cE1,vv 32 r18.v] [(5,⟨[(.str s_33),(i6 x_14),(i6 0),(i6 x_34)],[]⟩)] r18.H r18.nx)))
(.br (Nat.ble ((l_4.length + 1) * 40) za1)
(.br (Nat.ble (l_4.length + 1) za1)
(.call 81 [(.ptr 0 0),(.str [59])] (hp q_36 ((1,⟨[(.str s_2),(.vs 4 false (l_4 ++ [(.agg [(.str s_33),(i6 x_14),(i6 0),(i6 x_34)])])),(.vs 4 tg_5 l_6),(.vs 8 tg_7 l_8),(.vs 2 tg_9 l_10),(i6 x_11)],[1,2,3,4]⟩) :: Hp.none)) 2 fun r19 =>
(.mid 0 qE11 2 (mkS 121 [vv 0 (.ptr 0 0),vv 44 (.ptr 0 0),vv 45 r19.v] [(5,⟨[(.str s_33),(i6 x_14),(i6 0),(i6 x_34)],[]⟩)] r19.H r19.nx))) .none) .none)) = some o) : ML C 83 qE4 2 (mkS 121 [vv 0 (.ptr 0 0),vv 1 (.ptr 1 0),vi 4 x_14,(5,.lp 5 0),vv 22 (.ptr 0 0),vv 23 (.tuple [(.str s_33),(i6 x_34)])] [(5,⟨[(.str []),(i6 x_14),(i6 0),(i6 0)],[]⟩)] (hp q_36 ((1,⟨[(.str s_2),(.vs 4 tg_3 l_4),(.vs 4 tg_5 l_6),(.vs 8 tg_7 l_8),(.vs 2 tg_9 l_10),(i6 x_11)],[1,2,3,4]⟩) :: Hp.none)) 2) = some o := stM C 8 (fun _ _ => by kernel_rfl) ho
theorem p83_7 {s_2 s_37 : List UInt8} {tg_3 tg_5 tg_7 tg_9 : Bool} {l_4 l_6 l_8 l_10 : List AV} {x_11 x_38 : Int} {q_40 : PS} (ho : Tr.val C 83
(.call 149 [(.ptr 0 0)] (hp q_40 ((1,⟨[(.str s_2),(.vs 4 tg_3 l_4),(.vs 4 tg_5 l_6),(.vs 8 tg_7 l_8),(.vs 2 tg_9 l_10),(i6 x_11)],[1,2,3,4]⟩) :: Hp.none)) 2 fun r20 =>
(.mid 0 qE12 2 (mkS 121 [vv 0 (.ptr 0 0),vv 1 (.ptr 1 0),(6,.lp 6 0),vv 55 (.ptr 0 0),vv 56 r20.v] [(6,⟨[(.str s_37),(.vs 3 true []),(.vs 6 true []),(i6 x_38)],[1,2]⟩)] r20.H r20.nx))) = some o) : ML C 83 qE5 2 (mkS 121 [vv 0 (.ptr 0 0),vv 1 (.ptr 1 0),(6,.lp 6 0),vv 49 (.ptr 0 0),vv 50 (.tuple [(.str s_37),(i6 x_38)])] [cE4] (hp q_40 ((1,⟨[(.str s_2),(.vs 4 tg_3 l_4),(.vs 4 tg_5 l_6),(.vs 8 tg_7 l_8),(.vs 2 tg_9 l_10),(i6 x_11)],[1,2,3,4]⟩) :: Hp.none)) 2) = some o := stM C 2 (fun _ _ => by kernel_rfl) ho
theorem p83_8 {s_2 s_41 : List UInt8} {tg_3 tg_5 tg_7 tg_9 : Bool} {l_4 l_6 l_8 l_10 : List AV} {x_11 x_42 : Int} {q_44 : PS} (ho : Tr.val C 83
(.call 149 [(.ptr 0 0)] (hp q_44 ((1,⟨[(.str s_2),(.vs 4 tg_3 l_4),(.vs 4 tg_5 l_6),(.vs 8 tg_7 l_8),(.vs 2 tg_9 l_10),(i6 x_11)],[1,2,3,4]⟩) :: Hp.none)) 2 fun r21 =>
(.mid 0 qE13 2 (mkS 121 [vv 0 (.ptr 0 0),vv 1 (.ptr 1 0),(7,.lp 7 0),vv 80 (.ptr 0 0),vv 81 r21.v] [(7,⟨[(.str s_41),(.vs 3 true []),(i6 0),(i6 0),(.str []),(.vs 5 true []),(i6 0),(i6 x_42)],[1,5]⟩)] r21.H r21.nx))) = some o) : ML C 83 qE6 2 (mkS 121 [vv 0 (.ptr 0 0),vv 1 (.ptr 1 0),(7,.lp 7 0),vv 74 (.ptr 0 0),vv 75 (.tuple [(.str s_41),(i6 x_42)])] [cE5] (hp q_44 ((1,⟨[(.str s_2),(.vs 4 tg_3 l_4),(.vs 4 tg_5 l_6),(.vs 8 tg_7 l_8),(.vs 2 tg_9 l_10),(i6 x_11)],[1,2,3,4]⟩) :: Hp.none)) 2) = some o := stM C 2 (fun _ _ => by kernel_rfl) ho
theorem p83_9 {s_2 s_45 : List UInt8} {tg_3 tg_5 tg_7 tg_9 : Bool} {l_4 l_6 l_8 l_10 : List AV} {x_11 x_46 : Int} {q_48 : PS} (ho : Tr.val C 83
(.br (Nat.ble ((l_10.length + 1) * 24) za1)
(.br (Nat.ble (l_10.length + 1) za1)
(.call 81 [(.ptr 0 0),(.str [59])] (hp q_48 ((1,⟨[(.str s_2),(.vs 4 tg_3 l_4),(.vs 4 tg_5 l_6),(.vs 8 tg_7 l_8),(.vs 2 false (l_10 ++ [(.agg [(.str s_45),(i6 x_46)])])),(i6 x_11)],[1,2,3,4]⟩) :: Hp.none)) 2 fun r22 =>
(.mid 0 qE14 2 (mkS 121 [vv 0 (.ptr 0 0),vv 119 (.ptr 0 0),vv 120 r22.v] [(8,⟨[(.str s_45),(i6 x_46)],[]⟩)] r22.H r22.nx))) .none) .none) = some o) : ML C 83 qE7 2 (mkS 121 [vv 0 (.ptr 0 0),vv 1 (.ptr 1 0),(8,.lp 8 0),vv 103 (.ptr 0 0),vv 104 (.tuple [(.str s_45),(i6 x_46)])] [(8,⟨[(.str []),(i6 0)],[]⟩)] (hp q_48 ((1,⟨[(.str s_2),(.vs 4 tg_3 l_4),(.vs 4 tg_5 l_6),(.vs 8 tg_7 l_8),(.vs 2 tg_9 l_10),(i6 x_11)],[1,2,3,4]⟩) :: Hp.none)) 2) = some o := stM C 3 (fun _ _ => by kernel_rfl) ho
theorem p83_10 {s_2 s_17 : List UInt8} {tg_3 tg_5 tg_7 tg_9 : Bool} {l_4 l_6 l_8 l_10 : List AV} {x_11 x_14 x_18 x_49 : Int} {q_51 : PS} (ho : Tr.val C 83
(.br (Nat.ble ((l_4.length + 1) * 40) za1)
(.br (Nat.ble (l_4.length + 1) za1)
(.call 81 [(.ptr 0 0),(.str [59])] (hp q_51 ((1,⟨[(.str s_2),(.vs 4 false (l_4 ++ [(.agg [(.str s_17),(i6 x_14),(i6 x_49),(i6 x_18)])])),(.vs 4 tg_5 l_6),(.vs 8 tg_7 l_8),(.vs 2 tg_9 l_10),(i6 x_11)],[1,2,3,4]⟩) :: Hp.none)) 2 fun r23 =>
(.mid 0 qE15 2 (mkS 121 [vv 0 (.ptr 0 0),vv 44 (.ptr 0 0),vv 45 r23.v] [(5,⟨[(.str s_17),(i6 x_14),(i6 x_49),(i6 x_18)],[]⟩)] r23.H r23.nx))) .none) .none) = some o) : ML C 83 [0,5,0,5,2,0,0,5,6,5,6,0,5,0,5,0,0,5,6] 3 (mkS 121 [vv 0 (.ptr 0 0),vv 1 (.ptr 1 0),(5,.lp 5 0),vb 29 true,vv 30 (.ptr 0 0),vv 31 cE1,vi 32 x_49] [(5,⟨[(.str s_17),(i6 x_14),(i6 0),(i6 x_18)],[]⟩)] (hp q_51 ((1,⟨[(.str s_2),(.vs 4 tg_3 l_4),(.vs 4 tg_5 l_6),(.vs 8 tg_7 l_8),(.vs 2 tg_9 l_10),(i6 x_11)],[1,2,3,4]⟩) :: Hp.none)) 2) = some o := stM C 3 (fun _ _ => by kernel_rfl) ho

theorem p83_13 {s_2 s_21 : List UInt8} {tg_5 tg_7 tg_9 : Bool} {l_6 l_8 l_10 l_60 : List AV} {x_11 x_14 x_22 : Int} {q_59 : PS} (ho : Tr.val C 83
(.ret ⟨(.tuple []),(hp q_59 ((1,⟨[(.str s_2),(.vs 4 false l_60),(.vs 4 tg_5 l_6),(.vs 8 tg_7 l_8),(.vs 2 tg_9 l_10),(i6 x_11)],[1,2,3,4]⟩) :: Hp.none)),2⟩) = some o) : ML C 83 qE8 2 (mkS 121 [vv 0 (.ptr 0 0),vv 44 (.ptr 0 0),vv 45 (.tuple [])] [(5,⟨[(.str s_21),(i6 x_14),(i6 0),(i6 x_22)],[]⟩)] (hp q_59 ((1,⟨[(.str s_2),(.vs 4 false l_60),(.vs 4 tg_5 l_6),(.vs 8 tg_7 l_8),(.vs 2 tg_9 l_10),(i6 x_11)],[1,2,3,4]⟩) :: Hp.none)) 2) = some o := stM C 2 (fun _ _ => by kernel_rfl) ho

theorem p83_15 {s_2 s_25 : List UInt8} {tg_5 tg_7 tg_9 : Bool} {l_6 l_8 l_10 l_66 : List AV} {x_11 x_14 x_26 : Int} {q_65 : PS} (ho : Tr.val C 83
(.ret ⟨(.tuple []),(hp q_65 ((1,⟨[(.str s_2),(.vs 4 false l_66),(.vs 4 tg_5 l_6),(.vs 8 tg_7 l_8),(.vs 2 tg_9 l_10),(i6 x_11)],[1,2,3,4]⟩) :: Hp.none)),2⟩) = some o) : ML C 83 qE9 2 (mkS 121 [vv 0 (.ptr 0 0),vv 44 (.ptr 0 0),vv 45 (.tuple [])] [(5,⟨[(.str s_25),(i6 x_14),(i6 0),(i6 x_26)],[]⟩)] (hp q_65 ((1,⟨[(.str s_2),(.vs 4 false l_66),(.vs 4 tg_5 l_6),(.vs 8 tg_7 l_8),(.vs 2 tg_9 l_10),(i6 x_11)],[1,2,3,4]⟩) :: Hp.none)) 2) = some o := stM C 2 (fun _ _ => by kernel_rfl) ho

theorem p83_17 {s_2 s_29 : List UInt8} {tg_5 tg_7 tg_9 : Bool} {l_6 l_8 l_10 l_72 : List AV} {x_11 x_14 x_30 : Int} {q_71 : PS} (ho : Tr.val C 83
(.ret ⟨(.tuple []),(hp q_71 ((1,⟨[(.str s_2),(.vs 4 false l_72),(.vs 4 tg_5 l_6),(.vs 8 tg_7 l_8),(.vs 2 tg_9 l_10),(i6 x_11)],[1,2,3,4]⟩) :: Hp.none)),2⟩) = some o) : ML C 83 qE10 2 (mkS 121 [vv 0 (.ptr 0 0),vv 44 (.ptr 0 0),vv 45 (.tuple [])] [(5,⟨[(.str s_29),(i6 x_14),(i6 0),(i6 x_30)],[]⟩)] (hp q_71 ((1,⟨[(.str s_2),(.vs 4 false l_72),(.vs 4 tg_5 l_6),(.vs 8 tg_7 l_8),(.vs 2 tg_9 l_10),(i6 x_11)],[1,2,3,4]⟩) :: Hp.none)) 2) = some o := stM C 2 (fun _ _ => by kernel_rfl) ho

theorem p83_19 {s_2 s_33 : List UInt8} {tg_5 tg_7 tg_9 : Bool} {l_6 l_8 l_10 l_78 : List AV} {x_11 x_14 x_34 : Int} {q_77 : PS} (ho : Tr.val C 83
(.ret ⟨(.tuple []),(hp q_77 ((1,⟨[(.str s_2),(.vs 4 false l_78),(.vs 4 tg_5 l_6),(.vs 8 tg_7 l_8),(.vs 2 tg_9 l_10),(i6 x_11)],[1,2,3,4]⟩) :: Hp.none)),2⟩) = some o) : ML C 83 qE11 2 (mkS 121 [vv 0 (.ptr 0 0),vv 44 (.ptr 0 0),vv 45 (.tuple [])] [(5,⟨[(.str s_33),(i6 x_14),(i6 0),(i6 x_34)],[]⟩)] (hp q_77 ((1,⟨[(.str s_2),(.vs 4 false l_78),(.vs 4 tg_5 l_6),(.vs 8 tg_7 l_8),(.vs 2 tg_9 l_10),(i6 x_11)],[1,2,3,4]⟩) :: Hp.none)) 2) = some o := stM C 2 (fun _ _ => by kernel_rfl) ho
theorem p83_20 {s_2 s_37 : List UInt8} {tg_3 tg_5 tg_7 tg_9 tg_79 : Bool} {l_4 l_6 l_8 l_10 l_80 : List AV} {x_11 x_38 : Int} {q_82 : PS} (ho : Tr.val C 83
(.call 150 [(.ptr 0 0)] (hp q_82 ((1,⟨[(.str s_2),(.vs 4 tg_3 l_4),(.vs 4 tg_5 l_6),(.vs 8 tg_7 l_8),(.vs 2 tg_9 l_10),(i6 x_11)],[1,2,3,4]⟩) :: Hp.none)) 2 fun r28 =>
(.mid 0 qE16 2 (mkS 121 [vv 0 (.ptr 0 0),vv 1 (.ptr 1 0),(6,.lp 6 0),vv 58 (.ptr 0 0),vv 59 r28.v] [(6,⟨[(.str s_37),(.vs 3 tg_79 l_80),(.vs 6 true []),(i6 x_38)],[2]⟩)] r28.H r28.nx))) = some o) : ML C 83 qE12 2 (mkS 121 [vv 0 (.ptr 0 0),vv 1 (.ptr 1 0),(6,.lp 6 0),vv 55 (.ptr 0 0),vv 56 (.vs 3 tg_79 l_80)] [(6,⟨[(.str s_37),(.vs 3 true []),(.vs 6 true []),(i6 x_38)],[1,2]⟩)] (hp q_82 ((1,⟨[(.str s_2),(.vs 4 tg_3 l_4),(.vs 4 tg_5 l_6),(.vs 8 tg_7 l_8),(.vs 2 tg_9 l_10),(i6 x_11)],[1,2,3,4]⟩) :: Hp.none)) 2) = some o := stM C 2 (fun _ _ => by kernel_rfl) ho
theorem p83_21 {s_2 s_41 : List UInt8} {tg_3 tg_5 tg_7 tg_9 tg_83 : Bool} {l_4 l_6 l_8 l_10 l_84 : List AV} {x_11 x_42 : Int} {q_86 : PS} (ho : Tr.val C 83
(.call 81 [(.ptr 0 0),(.str [61])] (hp q_86 ((1,⟨[(.str s_2),(.vs 4 tg_3 l_4),(.vs 4 tg_5 l_6),(.vs 8 tg_7 l_8),(.vs 2 tg_9 l_10),(i6 x_11)],[1,2,3,4]⟩) :: Hp.none)) 2 fun r29 =>
(.mid 0 qE17 2 (mkS 121 [vv 0 (.ptr 0 0),vv 1 (.ptr 1 0),(7,.lp 7 0),vv 83 (.ptr 0 0),vv 84 r29.v] [(7,⟨[(.str s_41),(.vs 3 tg_83 l_84),(i6 0),(i6 0),(.str []),(.vs 5 true []),(i6 0),(i6 x_42)],[5]⟩)] r29.H r29.nx))) = some o) : ML C 83 qE13 2 (mkS 121 [vv 0 (.ptr 0 0),vv 1 (.ptr 1 0),(7,.lp 7 0),vv 80 (.ptr 0 0),vv 81 (.vs 3 tg_83 l_84)] [(7,⟨[(.str s_41),(.vs 3 true []),(i6 0),(i6 0),(.str []),(.vs 5 true []),(i6 0),(i6 x_42)],[1,5]⟩)] (hp q_86 ((1,⟨[(.str s_2),(.vs 4 tg_3 l_4),(.vs 4 tg_5 l_6),(.vs 8 tg_7 l_8),(.vs 2 tg_9 l_10),(i6 x_11)],[1,2,3,4]⟩) :: Hp.none)) 2) = some o := stM C 2 (fun _ _ => by kernel_rfl) ho
theorem p83_22 {s_2 s_45 : List UInt8} {tg_3 tg_5 tg_7 : Bool} {l_4 l_6 l_8 l_89 : List AV} {x_11 x_46 : Int} {q_88 : PS} (ho : Tr.val C 83
(.ret ⟨(.tuple []),(hp q_88 ((1,⟨[(.str s_2),(.vs 4 tg_3 l_4),(.vs 4 tg_5 l_6),(.vs 8 tg_7 l_8),(.vs 2 false l_89),(i6 x_11)],[1,2,3,4]⟩) :: Hp.none)),2⟩) = some o) : ML C 83 qE14 2 (mkS 121 [vv 0 (.ptr 0 0),vv 119 (.ptr 0 0),vv 120 (.tuple [])] [(8,⟨[(.str s_45),(i6 x_46)],[]⟩)] (hp q_88 ((1,⟨[(.str s_2),(.vs 4 tg_3 l_4),(.vs 4 tg_5 l_6),(.vs 8 tg_7 l_8),(.vs 2 false l_89),(i6 x_11)],[1,2,3,4]⟩) :: Hp.none)) 2) = some o := stM C 2 (fun _ _ => by kernel_rfl) ho
theorem p83_23 {s_2 s_17 : List UInt8} {tg_5 tg_7 tg_9 : Bool} {l_6 l_8 l_10 l_92 : List AV} {x_11 x_14 x_18 x_49 : Int} {q_91 : PS} (ho : Tr.val C 83
(.ret ⟨(.tuple []),(hp q_91 ((1,⟨[(.str s_2),(.vs 4 false l_92),(.vs 4 tg_5 l_6),(.vs 8 tg_7 l_8),(.vs 2 tg_9 l_10),(i6 x_11)],[1,2,3,4]⟩) :: Hp.none)),2⟩) = some o) : ML C 83 qE15 2 (mkS 121 [vv 0 (.ptr 0 0),vv 44 (.ptr 0 0),vv 45 (.tuple [])] [(5,⟨[(.str s_17),(i6 x_14),(i6 x_49),(i6 x_18)],[]⟩)] (hp q_91 ((1,⟨[(.str s_2),(.vs 4 false l_92),(.vs 4 tg_5 l_6),(.vs 8 tg_7 l_8),(.vs 2 tg_9 l_10),(i6 x_11)],[1,2,3,4]⟩) :: Hp.none)) 2) = some o := stM C 2 (fun _ _ => by kernel_rfl) ho


theorem p83_28 {s_2 s_37 : List UInt8} {tg_3 tg_5 tg_7 tg_9 tg_79 tg_105 : Bool} {l_4 l_6 l_8 l_10 l_80 l_106 : List AV} {x_11 x_38 : Int} {q_108 : PS} (ho : Tr.val C 83
(.br (Nat.ble ((l_6.length + 1) * 72) za1)
(.br (Nat.ble (l_6.length + 1) za1)
(.ret ⟨(.tuple []),(hp q_108 ((1,⟨[(.str s_2),(.vs 4 tg_3 l_4),(.vs 4 false (l_6 ++ [(.agg [(.str s_37),(.vs 3 tg_79 l_80),(.vs 6 tg_105 l_106),(i6 x_38)])])),(.vs 8 tg_7 l_8),(.vs 2 tg_9 l_10),(i6 x_11)],[1,2,3,4]⟩) :: Hp.none)),2⟩) .none) .none) = some o) : ML C 83 qE16 2 (mkS 121 [vv 0 (.ptr 0 0),vv 1 (.ptr 1 0),(6,.lp 6 0),vv 58 (.ptr 0 0),vv 59 (.vs 6 tg_105 l_106)] [(6,⟨[(.str s_37),(.vs 3 tg_79 l_80),(.vs 6 true []),(i6 x_38)],[2]⟩)] (hp q_108 ((1,⟨[(.str s_2),(.vs 4 tg_3 l_4),(.vs 4 tg_5 l_6),(.vs 8 tg_7 l_8),(.vs 2 tg_9 l_10),(i6 x_11)],[1,2,3,4]⟩) :: Hp.none)) 2) = some o := stM C 3 (fun _ _ => by kernel_rfl) ho
theorem p83_29 {s_2 s_41 : List UInt8} {tg_3 tg_5 tg_7 tg_9 tg_83 : Bool} {l_4 l_6 l_8 l_10 l_84 : List AV} {x_11 x_42 : Int} {q_110 : PS} (ho : Tr.val C 83
(.call 151 [(.ptr 0 0)] (hp q_110 ((1,⟨[(.str s_2),(.vs 4 tg_3 l_4),(.vs 4 tg_5 l_6),(.vs 8 tg_7 l_8),(.vs 2 tg_9 l_10),(i6 x_11)],[1,2,3,4]⟩) :: Hp.none)) 2 fun r30 =>
(.mid 0 qE18 2 (mkS 121 [vv 0 (.ptr 0 0),vv 1 (.ptr 1 0),(7,.lp 7 0),vv 85 (.ptr 0 0),vv 86 r30.v] [(7,⟨[(.str s_41),(.vs 3 tg_83 l_84),(i6 0),(i6 0),(.str []),(.vs 5 true []),(i6 0),(i6 x_42)],[5]⟩)] r30.H r30.nx))) = some o) : ML C 83 qE17 2 (mkS 121 [vv 0 (.ptr 0 0),vv 1 (.ptr 1 0),(7,.lp 7 0),vv 83 (.ptr 0 0),vv 84 (.tuple [])] [(7,⟨[(.str s_41),(.vs 3 tg_83 l_84),(i6 0),(i6 0),(.str []),(.vs 5 true []),(i6 0),(i6 x_42)],[5]⟩)] (hp q_110 ((1,⟨[(.str s_2),(.vs 4 tg_3 l_4),(.vs 4 tg_5 l_6),(.vs 8 tg_7 l_8),(.vs 2 tg_9 l_10),(i6 x_11)],[1,2,3,4]⟩) :: Hp.none)) 2) = some o := stM C 2 (fun _ _ => by kernel_rfl) ho
theorem p83_30 {s_2 s_41 s_113 : List UInt8} {tg_3 tg_5 tg_7 tg_9 tg_83 tg_114 : Bool} {l_4 l_6 l_8 l_10 l_84 l_115 : List AV} {x_11 x_42 x_111 x_112 x_116 : Int} {q_118 : PS} (ho : Tr.val C 83
(.br (Nat.ble ((l_8.length + 1) * 112) za1)
(.br (Nat.ble (l_8.length + 1) za1)
(.call 81 [(.ptr 0 0),(.str [59])] (hp q_118 ((1,⟨[(.str s_2),(.vs 4 tg_3 l_4),(.vs 4 tg_5 l_6),(.vs 8 false (l_8 ++ [(.agg [(.str s_41),(.vs 3 tg_83 l_84),(i6 x_111),(i6 x_112),(.str s_113),(.vs 5 tg_114 l_115),(i6 x_116),(i6 x_42)])])),(.vs 2 tg_9 l_10),(i6 x_11)],[1,2,3,4]⟩) :: Hp.none)) 2 fun r31 =>
(.mid 0 qE19 2 (mkS 121 [vv 0 (.ptr 0 0),vv 98 (.ptr 0 0),vv 99 r31.v] [(7,⟨[(.str s_41),(.vs 3 tg_83 l_84),(i6 x_111),(i6 x_112),(.str s_113),(.vs 5 tg_114 l_115),(i6 x_116),(i6 x_42)],[]⟩)] r31.H r31.nx))) .none) .none) = some o) : ML C 83 qE18 2 (mkS 121 [vv 0 (.ptr 0 0),vv 1 (.ptr 1 0),(7,.lp 7 0),vv 85 (.ptr 0 0),vv 86 (.agg [(i6 x_111),(i6 x_112),(.str s_113),(.vs 5 tg_114 l_115),(i6 x_116)])] [(7,⟨[(.str s_41),(.vs 3 tg_83 l_84),(i6 0),(i6 0),(.str []),(.vs 5 true []),(i6 0),(i6 x_42)],[5]⟩)] (hp q_118 ((1,⟨[(.str s_2),(.vs 4 tg_3 l_4),(.vs 4 tg_5 l_6),(.vs 8 tg_7 l_8),(.vs 2 tg_9 l_10),(i6 x_11)],[1,2,3,4]⟩) :: Hp.none)) 2) = some o := stM C 3 (fun _ _ => by kernel_rfl) ho
theorem p83_31 {s_2 s_41 s_113 : List UInt8} {tg_3 tg_5 tg_9 tg_83 tg_114 : Bool} {l_4 l_6 l_10 l_84 l_115 l_121 : List AV} {x_11 x_42 x_111 x_112 x_116 : Int} {q_120 : PS} (ho : Tr.val C 83
(.ret ⟨(.tuple []),(hp q_120 ((1,⟨[(.str s_2),(.vs 4 tg_3 l_4),(.vs 4 tg_5 l_6),(.vs 8 false l_121),(.vs 2 tg_9 l_10),(i6 x_11)],[1,2,3,4]⟩) :: Hp.none)),2⟩) = some o) : ML C 83 qE19 2 (mkS 121 [vv 0 (.ptr 0 0),vv 98 (.ptr 0 0),vv 99 (.tuple [])] [(7,⟨[(.str s_41),(.vs 3 tg_83 l_84),(i6 x_111),(i6 x_112),(.str s_113),(.vs 5 tg_114 l_115),(i6 x_116),(i6 x_42)],[]⟩)] (hp q_120 ((1,⟨[(.str s_2),(.vs 4 tg_3 l_4),(.vs 4 tg_5 l_6),(.vs 8 false l_121),(.vs 2 tg_9 l_10),(i6 x_11)],[1,2,3,4]⟩) :: Hp.none)) 2) = some o := stM C 2 (fun _ _ => by kernel_rfl) ho
theorem p44_c (hC : Ext C) {q_12 : PS} (ho : RL C 44 [] (mkS 30 [vv 0 (.ptr 0 0)] [] (hp q_12 Hp.none) 1) = some o) : calL C 44 [(.ptr 0 0)] (hp q_12 Hp.none) 1 = some o := hC.call rfl (fun _ _ => by kernel_rfl) ho
theorem p44_0 {q_12 : PS} (ho : Tr.val C 44
(.call 42 [(.ptr 0 0)] (hp q_12 ((1,⟨[(.str []),(.vs 4 true []),(.vs 4 true []),(.vs 8 true []),(.vs 2 true []),(i6 0)],[1,2,3,4]⟩) :: Hp.none)) 2 fun r1 =>
(.mid 0 [0,5,0,5,0] 2 (mkS 30 [vv 0 (.ptr 0 0),(2,.lp 2 0),vv 3 (.ptr 1 0),vv 4 (.ptr 0 0),vv 5 r1.v] [cE0] r1.H r1.nx))) = some o) : RL C 44 [] (mkS 30 [vv 0 (.ptr 0 0)] [] (hp q_12 Hp.none) 1) = some o := stR C 6 (fun _ _ => by kernel_rfl) ho
theorem p44_1 {q_123 : PS} (ho : Tr.val C 44
(.call 80 [(.ptr 0 0)] (hp q_123 ((1,⟨[(.str []),(.vs 4 true []),(.vs 4 true []),(.vs 8 true []),(.vs 2 true []),(i6 0)],[1,2,3,4]⟩) :: Hp.none)) 2 fun r2 =>
(.mid 0 [0,5,0,5,0,5,0] 2 (mkS 30 [vv 0 (.ptr 0 0),(2,.lp 2 0),vv 3 (.ptr 1 0),vv 7 (.ptr 0 0),vv 8 r2.v] [cE0] r2.H r2.nx))) = some o) : ML C 44 [0,5,0,5,0] 2 (mkS 30 [vv 0 (.ptr 0 0),(2,.lp 2 0),vv 3 (.ptr 1 0),vv 4 (.ptr 0 0),vv 5 (.tuple [])] [cE0] (hp q_123 (cE7 :: Hp.none)) 2) = some o := stM C 2 (fun _ _ => by kernel_rfl) ho
theorem p44_2 {s_124 : List UInt8} {x_125 : Int} {q_127 : PS} (ho : Tr.val C 44
(.call 81 [(.ptr 0 0),(.str [123])] (hp q_127 ((1,⟨[(.str s_124),(.vs 4 true []),(.vs 4 true []),(.vs 8 true []),(.vs 2 true []),(i6 x_125)],[1,2,3,4]⟩) :: Hp.none)) 2 fun r3 =>
(.mid 0 [0,5,0,5,0,5,0,5,0] 2 (mkS 30 [vv 0 (.ptr 0 0),(2,.lp 2 0),vv 3 (.ptr 1 0),vv 13 (.ptr 0 0),vv 14 r3.v] [cE0] r3.H r3.nx))) = some o) : ML C 44 [0,5,0,5,0,5,0] 2 (mkS 30 [vv 0 (.ptr 0 0),(2,.lp 2 0),vv 3 (.ptr 1 0),vv 7 (.ptr 0 0),vv 8 (.tuple [(.str s_124),(i6 x_125)])] [cE0] (hp q_127 (cE7 :: Hp.none)) 2) = some o := stM C 2 (fun _ _ => by kernel_rfl) ho
theorem p44_3 {s_124 : List UInt8} {x_125 : Int} {q_129 : PS} (ho : Tr.val C 44
(.run 0 qE0 (mkS 30 [vv 0 (.ptr 0 0),(2,.lp 2 0),vv 3 (.ptr 1 0)] [cE0] (hp q_129 ((1,⟨[(.str s_124),(.vs 4 true []),(.vs 4 true []),(.vs 8 true []),(.vs 2 true []),(i6 x_125)],[1,2,3,4]⟩) :: Hp.none)) 2)) = some o) : ML C 44 [0,5,0,5,0,5,0,5,0] 2 (mkS 30 [vv 0 (.ptr 0 0),(2,.lp 2 0),vv 3 (.ptr 1 0),vv 13 (.ptr 0 0),vv 14 (.tuple [])] [cE0] (hp q_129 ((1,⟨[(.str s_124),(.vs 4 true []),(.vs 4 true []),(.vs 8 true []),(.vs 2 true []),(i6 x_125)],[1,2,3,4]⟩) :: Hp.none)) 2) = some o := stM C 3 (fun _ _ => by kernel_rfl) ho
theorem p44_4 {s_130 s_141 : List UInt8} {tg_131 tg_133 tg_135 tg_137 tg_142 tg_144 tg_146 tg_148 : Bool} {l_132 l_134 l_136 l_138 l_143 l_145 l_147 l_149 : List AV} {x_139 x_150 : Int} {q_140 : PS} (ho : Tr.val C 44
(.br (decide (q_140.err = 0))
(.call 82 [(.ptr 0 0),(.str [125])] (hp q_140 ((1,⟨[(.str s_141),(.vs 4 tg_142 l_143),(.vs 4 tg_144 l_145),(.vs 8 tg_146 l_147),(.vs 2 tg_148 l_149),(i6 x_150)],[1,2,3,4]⟩) :: Hp.none)) 2 fun r4 =>
(.mid 4 [0,5,0,5,0,5,0,5,0,5,0,2,3,0,0] 8 (mkS 30 [vv 0 (.ptr 0 0),(2,.lp 2 0),vv 3 (.ptr 1 0),vv 15 (.ptr 0 0),vv 16 (.ptr 0 0),vv 17 (.ptr 0 7),vi 18 q_140.err,vb 19 (decide (q_140.err = 0)),vb 20 true,vv 21 (.ptr 0 0),vv 22 r4.v] [(2,⟨[(.str s_130),(.vs 4 tg_131 l_132),(.vs 4 tg_133 l_134),(.vs 8 tg_135 l_136),(.vs 2 tg_137 l_138),(i6 x_139)],[1,2,3,4]⟩)] r4.H r4.nx)))
(.call 81 [(.ptr 0 0),(.str [125])] (hp q_140 ((1,⟨[(.str s_141),(.vs 4 tg_142 l_143),(.vs 4 tg_144 l_145),(.vs 8 tg_146 l_147),(.vs 2 tg_148 l_149),(i6 x_150)],[1,2,3,4]⟩) :: Hp.none)) 2 fun r5 =>
(.mid 0 qE1 2 (mkS 30 [vv 0 (.ptr 0 0),(2,.lp 2 0),vv 3 (.ptr 1 0),vb 24 false,vv 27 (.ptr 0 0),vv 28 r5.v] [(2,⟨[(.str s_130),(.vs 4 tg_131 l_132),(.vs 4 tg_133 l_134),(.vs 8 tg_135 l_136),(.vs 2 tg_137 l_138),(i6 x_139)],[1,2,3,4]⟩)] r5.H r5.nx)))) = some o) : RL C 44 qE0 (mkS 30 [vv 0 (.ptr 0 0),(2,.lp 2 0),vv 3 (.ptr 1 0)] [(2,⟨[(.str s_130),(.vs 4 tg_131 l_132),(.vs 4 tg_133 l_134),(.vs 8 tg_135 l_136),(.vs 2 tg_137 l_138),(i6 x_139)],[1,2,3,4]⟩)] (hp q_140 ((1,⟨[(.str s_141),(.vs 4 tg_142 l_143),(.vs 4 tg_144 l_145),(.vs 8 tg_146 l_147),(.vs 2 tg_148 l_149),(i6 x_150)],[1,2,3,4]⟩) :: Hp.none)) 2) = some o := stR C 7 (fun _ _ => by kernel_rfl) ho
theorem p44_5 {s_130 s_141 : List UInt8} {tg_131 tg_133 tg_135 tg_137 tg_142 tg_144 tg_146 tg_148 c_151 c_154 : Bool} {l_132 l_134 l_136 l_138 l_143 l_145 l_147 l_149 : List AV} {x_139 x_150 x_153 : Int} {q_155 : PS} (ho : Tr.val C 44
(.br (!c_151)
(.call 83 [(.ptr 0 0),(.ptr 1 0)] (hp q_155 ((1,⟨[(.str s_141),(.vs 4 tg_142 l_143),(.vs 4 tg_144 l_145),(.vs 8 tg_146 l_147),(.vs 2 tg_148 l_149),(i6 x_150)],[1,2,3,4]⟩) :: Hp.none)) 2 fun r6 =>
(.mid 0 [0,5,0,5,0,5,0,5,0,5,0,2,3,0,0,5,6,5,2] 2 (mkS 30 [vv 0 (.ptr 0 0),(2,.lp 2 0),vv 3 (.ptr 1 0),vb 24 true,vv 25 (.ptr 0 0),vv 26 r6.v] [(2,⟨[(.str s_130),(.vs 4 tg_131 l_132),(.vs 4 tg_133 l_134),(.vs 8 tg_135 l_136),(.vs 2 tg_137 l_138),(i6 x_139)],[1,2,3,4]⟩)] r6.H r6.nx)))
(.call 81 [(.ptr 0 0),(.str [125])] (hp q_155 ((1,⟨[(.str s_141),(.vs 4 tg_142 l_143),(.vs 4 tg_144 l_145),(.vs 8 tg_146 l_147),(.vs 2 tg_148 l_149),(i6 x_150)],[1,2,3,4]⟩) :: Hp.none)) 2 fun r7 =>
(.mid 0 qE1 2 (mkS 30 [vv 0 (.ptr 0 0),(2,.lp 2 0),vv 3 (.ptr 1 0),vb 24 false,vv 27 (.ptr 0 0),vv 28 r7.v] [(2,⟨[(.str s_130),(.vs 4 tg_131 l_132),(.vs 4 tg_133 l_134),(.vs 8 tg_135 l_136),(.vs 2 tg_137 l_138),(i6 x_139)],[1,2,3,4]⟩)] r7.H r7.nx)))) = some o) : ML C 44 [0,5,0,5,0,5,0,5,0,5,0,2,3,0,0] 8 (mkS 30 [vv 0 (.ptr 0 0),(2,.lp 2 0),vv 3 (.ptr 1 0),vv 15 (.ptr 0 0),vv 16 (.ptr 0 0),vv 17 (.ptr 0 7),vi 18 x_153,vb 19 c_154,vb 20 true,vv 21 (.ptr 0 0),vb 22 c_151] [(2,⟨[(.str s_130),(.vs 4 tg_131 l_132),(.vs 4 tg_133 l_134),(.vs 8 tg_135 l_136),(.vs 2 tg_137 l_138),(i6 x_139)],[1,2,3,4]⟩)] (hp q_155 ((1,⟨[(.str s_141),(.vs 4 tg_142 l_143),(.vs 4 tg_144 l_145),(.vs 8 tg_146 l_147),(.vs 2 tg_148 l_149),(i6 x_150)],[1,2,3,4]⟩) :: Hp.none)) 2) = some o := stM C 4 (fun _ _ => by kernel_rfl) ho
theorem p44_6 {s_130 s_141 : List UInt8} {tg_131 tg_133 tg_135 tg_137 tg_142 tg_144 tg_146 tg_148 : Bool} {l_132 l_134 l_136 l_138 l_143 l_145 l_147 l_149 : List AV} {x_139 x_150 : Int} {q_157 : PS} (ho : Tr.val C 44
(.ret ⟨(.agg [(.str s_141),(.vs 4 tg_142 l_143),(.vs 4 tg_144 l_145),(.vs 8 tg_146 l_147),(.vs 2 tg_148 l_149),(i6 x_150)]),(hp q_157 ((1,⟨[(.str s_141),(.vs 4 tg_142 l_143),(.vs 4 tg_144 l_145),(.vs 8 tg_146 l_147),(.vs 2 tg_148 l_149),(i6 x_150)],[1,2,3,4]⟩) :: Hp.none)),2⟩) = some o) : ML C 44 qE1 2 (mkS 30 [vv 0 (.ptr 0 0),(2,.lp 2 0),vv 3 (.ptr 1 0),vb 24 false,vv 27 (.ptr 0 0),vv 28 (.tuple [])] [(2,⟨[(.str s_130),(.vs 4 tg_131 l_132),(.vs 4 tg_133 l_134),(.vs 8 tg_135 l_136),(.vs 2 tg_137 l_138),(i6 x_139)],[1,2,3,4]⟩)] (hp q_157 ((1,⟨[(.str s_141),(.vs 4 tg_142 l_143),(.vs 4 tg_144 l_145),(.vs 8 tg_146 l_147),(.vs 2 tg_148 l_149),(i6 x_150)],[1,2,3,4]⟩) :: Hp.none)) 2) = some o := stM C 3 (fun _ _ => by kernel_rfl) ho
theorem p44_7 {s_130 s_159 : List UInt8} {tg_131 tg_133 tg_135 tg_137 tg_160 tg_162 tg_164 tg_166 : Bool} {l_132 l_134 l_136 l_138 l_161 l_163 l_165 l_167 : List AV} {x_139 x_168 : Int} {q_169 : PS} (ho : Tr.val C 44
(.run 0 qE0 (mkS 30 [vv 0 (.ptr 0 0),(2,.lp 2 0),vv 3 (.ptr 1 0)] [(2,⟨[(.str s_130),(.vs 4 tg_131 l_132),(.vs 4 tg_133 l_134),(.vs 8 tg_135 l_136),(.vs 2 tg_137 l_138),(i6 x_139)],[1,2,3,4]⟩)] (hp q_169 ((1,⟨[(.str s_159),(.vs 4 tg_160 l_161),(.vs 4 tg_162 l_163),(.vs 8 tg_164 l_165),(.vs 2 tg_166 l_167),(i6 x_168)],[1,2,3,4]⟩) :: Hp.none)) 2)) = some o) : ML C 44 [0,5,0,5,0,5,0,5,0,5,0,2,3,0,0,5,6,5,2] 2 (mkS 30 [vv 0 (.ptr 0 0),(2,.lp 2 0),vv 3 (.ptr 1 0),vb 24 true,vv 25 (.ptr 0 0),vv 26 (.tuple [])] [(2,⟨[(.str s_130),(.vs 4 tg_131 l_132),(.vs 4 tg_133 l_134),(.vs 8 tg_135 l_136),(.vs 2 tg_137 l_138),(i6 x_139)],[1,2,3,4]⟩)] (hp q_169 ((1,⟨[(.str s_159),(.vs 4 tg_160 l_161),(.vs 4 tg_162 l_163),(.vs 8 tg_164 l_165),(.vs 2 tg_166 l_167),(i6 x_168)],[1,2,3,4]⟩) :: Hp.none)) 2) = some o := stM C 2 (fun _ _ => by kernel_rfl) ho
theorem p20_c (hC : Ext C) {s_13 : List UInt8} (ho : RL C 20 [] (mk0 54 [vt 0 s_13]) = some o) : calL C 20 [(.str s_13)] Hp.none 0 = some o := hC.call rfl (fun _ _ => by kernel_rfl) ho
theorem p20_0 {s_13 : List UInt8} (ho : Tr.val C 20
(.br (decide (4000 < (s_13.length : Int)))
(rt (.tuple [(.agg [(.vs 6 true [])]),(i6 0),(i6 3)]))
(.call 42 [(.ptr 0 0)] (hp ⟨s_13,0,0,[],0,0,0,0,0⟩ Hp.none) 1 fun r1 =>
(.mid 0 [0,5,0,0,5,7,5,0,5,0] 2 (mkS 54 [(2,.lp 2 0),vv 5 (.ptr 0 0),vv 15 (.ptr 0 0),vv 16 r1.v] [cE2] r1.H r1.nx)))) = some o) : RL C 20 [] (mk0 54 [vt 0 s_13]) = some o := stR C 11 (fun _ _ => by kernel_rfl) ho
theorem p20_1 {q_173 : PS} (ho : Tr.val C 20
(.run 0 qE2 (mkS 54 [(2,.lp 2 0),vv 5 (.ptr 0 0),(6,.lp 6 0)] [cE2,(6,⟨[(.vs 6 true [])],[0]⟩)] (hp q_173 Hp.none) 1)) = some o) : ML C 20 [0,5,0,0,5,7,5,0,5,0] 2 (mkS 54 [(2,.lp 2 0),vv 5 (.ptr 0 0),vv 15 (.ptr 0 0),vv 16 (.tuple [])] [cE2] (hp q_173 Hp.none) 1) = some o := stM C 5 (fun _ _ => by kernel_rfl) ho
theorem p20_2 {tg_174 tg_176 : Bool} {l_175 l_177 : List AV} {q_178 : PS} (ho : Tr.val C 20
(.call 43 [(.ptr 0 0),(.str [116,121,112,101])] (hp q_178 Hp.none) 1 fun r2 =>
(.mid 0 [0,5,0,0,5,7,5,0,5,0,5,0,5,0,2,3,0,0] 2 (mkS 54 [(2,.lp 2 0),vv 5 (.ptr 0 0),(6,.lp 6 0),vv 17 (.ptr 0 0),vv 18 r2.v] [(2,⟨[(.vs 6 tg_174 l_175)],[0]⟩),(6,⟨[(.vs 6 tg_176 l_177)],[0]⟩)] r2.H r2.nx))) = some o) : RL C 20 qE2 (mkS 54 [(2,.lp 2 0),vv 5 (.ptr 0 0),(6,.lp 6 0)] [(2,⟨[(.vs 6 tg_174 l_175)],[0]⟩),(6,⟨[(.vs 6 tg_176 l_177)],[0]⟩)] (hp q_178 Hp.none) 1) = some o := stR C 3 (fun _ _ => by kernel_rfl) ho
theorem p20_3 {tg_174 tg_176 c_179 : Bool} {l_175 l_177 : List AV} {q_181 : PS} (ho : Tr.val C 20
(.br c_179
(.call 44 [(.ptr 0 0)] (hp q_181 Hp.none) 1 fun r3 =>
(.mid 11 qE20 4 (mkS 54 [(2,.lp 2 0),vv 5 (.ptr 0 0),(6,.lp 6 0),vb 18 true,(19,.lp 6 0),(20,.val (.vs 6 tg_176 l_177) (.lL 6 0)),vv 21 (.ptr 0 0),vv 22 r3.v] [(2,⟨[(.vs 6 tg_174 l_175)],[0]⟩),(6,⟨[(.vs 6 tg_176 l_177)],[0]⟩)] r3.H r3.nx)))
(.br (!(decide (q_181.kind = 0)))
(.call 45 [(.ptr 0 0),(i6 11),(i6 q_181.tat)] (hp q_181 Hp.none) 1 fun r4 =>
(.mid 8 qE21 7 (mkS 54 [(2,.lp 2 0),vv 5 (.ptr 0 0),(6,.lp 6 0),vb 31 true,vv 32 (.ptr 0 0),vv 33 (.ptr 0 0),vv 34 (.ptr 0 0),vv 35 (.ptr 0 2),vv 36 (.ptr 0 5),vi 37 q_181.tat,vv 38 r4.v] [(2,⟨[(.vs 6 tg_174 l_175)],[0]⟩),(6,⟨[(.vs 6 tg_176 l_177)],[0]⟩)] r4.H r4.nx)))
(.br (!(decide (q_181.err = 0)))
(.ret ⟨(.tuple [(.agg [(.vs 6 true [])]),(i6 q_181.eat),(i6 q_181.err)]),(hp q_181 Hp.none),1⟩)
(.ret ⟨(.tuple [(.agg [(.vs 6 tg_176 l_177)]),(i6 0),(i6 0)]),(hp q_181 Hp.none),1⟩)))) = some o) : ML C 20 [0,5,0,0,5,7,5,0,5,0,5,0,5,0,2,3,0,0] 2 (mkS 54 [(2,.lp 2 0),vv 5 (.ptr 0 0),(6,.lp 6 0),vv 17 (.ptr 0 0),vb 18 c_179] [(2,⟨[(.vs 6 tg_174 l_175)],[0]⟩),(6,⟨[(.vs 6 tg_176 l_177)],[0]⟩)] (hp q_181 Hp.none) 1) = some o := stM C 15 (fun _ _ => by kernel_rfl) ho
theorem p20_4 {tg_174 tg_176 tg_183 tg_185 tg_187 tg_189 tg_194 tg_196 tg_198 tg_200 : Bool} {l_175 l_177 l_184 l_186 l_188 l_190 l_195 l_197 l_199 l_201 : List AV} {s_182 s_193 : List UInt8} {x_191 x_202 : Int} {q_203 : PS} (ho : Tr.val C 20
(.br (Nat.ble ((l_177.length + 1) * 120) za1)
(.br (Nat.ble (l_177.length + 1) za1)
(.br (zk9 1 (mkS 54 [(2,.lp 2 0),vv 5 (.ptr 0 0),(6,.lp 6 0)] [(2,⟨[(.vs 6 tg_174 l_175)],[0]⟩),(6,⟨[(.vs 6 false (l_177 ++ [(.agg [(.str s_182),(.vs 4 tg_183 l_184),(.vs 4 tg_185 l_186),(.vs 8 tg_187 l_188),(.vs 2 tg_189 l_190),(i6 x_191)])]))],[0]⟩)] (hp q_203 ((1,⟨[(.str s_193),(.vs 4 tg_194 l_195),(.vs 4 tg_196 l_197),(.vs 8 tg_198 l_199),(.vs 2 tg_200 l_201),(i6 x_202)],[1,2,3,4]⟩) :: Hp.none)) 2))
(.run 0 qE2 (mkS 54 [(2,.lp 2 0),vv 5 (.ptr 0 0),(6,.lp 6 0)] [(2,⟨[(.vs 6 tg_174 l_175)],[0]⟩),(6,⟨[(.vs 6 false (l_177 ++ [(.agg [(.str s_182),(.vs 4 tg_183 l_184),(.vs 4 tg_185 l_186),(.vs 8 tg_187 l_188),(.vs 2 tg_189 l_190),(i6 x_191)])]))],[0]⟩)] (hp q_203 Hp.none) 1)) .none) .none) .none) = some o) : ML C 20 qE20 4 (mkS 54 [(2,.lp 2 0),vv 5 (.ptr 0 0),(6,.lp 6 0),vb 18 true,(19,.lp 6 0),(20,.val (.vs 6 tg_176 l_177) (.lL 6 0)),vv 21 (.ptr 0 0),vv 22 (.agg [(.str s_182),(.vs 4 tg_183 l_184),(.vs 4 tg_185 l_186),(.vs 8 tg_187 l_188),(.vs 2 tg_189 l_190),(i6 x_191)])] [(2,⟨[(.vs 6 tg_174 l_175)],[0]⟩),(6,⟨[(.vs 6 tg_176 l_177)],[0]⟩)] (hp q_203 ((1,⟨[(.str s_193),(.vs 4 tg_194 l_195),(.vs 4 tg_196 l_197),(.vs 8 tg_198 l_199),(.vs 2 tg_200 l_201),(i6 x_202)],[1,2,3,4]⟩) :: Hp.none)) 2) = some o := stM C 2 (fun _ _ => by kernel_rfl) ho
theorem p20_5 {tg_174 tg_176 : Bool} {l_175 l_177 : List AV} {x_205 : Int} {q_206 : PS} (ho : Tr.val C 20
(.br (!(decide (q_206.err = 0)))
(.ret ⟨(.tuple [(.agg [(.vs 6 true [])]),(i6 q_206.eat),(i6 q_206.err)]),(hp q_206 Hp.none),1⟩)
(.ret ⟨(.tuple [(.agg [(.vs 6 tg_176 l_177)]),(i6 0),(i6 0)]),(hp q_206 Hp.none),1⟩)) = some o) : ML C 20 qE21 7 (mkS 54 [(2,.lp 2 0),vv 5 (.ptr 0 0),(6,.lp 6 0),vb 31 true,vv 32 (.ptr 0 0),vv 33 (.ptr 0 0),vv 34 (.ptr 0 0),vv 35 (.ptr 0 2),vv 36 (.ptr 0 5),vi 37 x_205,vv 38 (.tuple [])] [(2,⟨[(.vs 6 tg_174 l_175)],[0]⟩),(6,⟨[(.vs 6 tg_176 l_177)],[0]⟩)] (hp q_206 Hp.none) 1) = some o := stM C 8 (fun _ _ => by kernel_rfl) ho
end Go.Proofs.YtfdklpkfpmkgeaaGreatDoor
end
section
namespace Go.Proofs.YtfdklpkfpmkgeaaGreatDoor
open Go Go.Vai
attribute [local irreducible] goTo zaq mkS
def ht (t : Typ) : Hp := ((1,⟨t.cs,[1,2,3,4]⟩) :: Hp.none)
section
variable {C : Nat→Oracle} (hC : Ext C)
include hC
theorem l83 {f : Nat} {t : Typ} {p : PS} {r : Typ × PS} (hO : Ok p) (hb : t.fields.length + t.ops.length + t.qrys.length + t.idxs.length ≤ 20000) (h : memF f t p = some r) :
  calL C 83 [.ptr 0 0,.ptr 1 0] (hp p (ht t)) 2 = some ⟨.tuple [],hp r.2 (ht r.1),2⟩:=by
 have k1 := Keep.oneF hO memW 0
 have k2 := Keep.name k1.ok
 have h148 := l148 (T := ht t) (nx := 2) hC p hO true memW (by decide)
 have h80 := l80 (T := ht t) (nx := 2) hC (p.oneF memW 0).2 k1.ok
 unfold memF at h
 refine p83_c hC (p83_0 (bnd h148 ?_))
 refine p83_1 ?_
 simp only [Tr.val]
 by_cases e1 : (p.oneF memW 0).1 = 1
 ·rw [if_pos e1] at h
  injection h with h; subst h
  have k3 := k2.trans (Keep.oneF k2.ok regW 0)
  refine bT e1 (bnd h80 ?_)
  refine p83_2 ?_
  simp only [Tr.val]
  refine bT e1 (bnd (l148 (T := ht t) (nx := 2) hC _ k2.ok true regW (by decide)) ?_)
  refine p83_10 ?_
  simp only [Tr.val,List.length_map]
  refine ct (zae (by omega)) (ct (zae (by omega)) ?_)
  refine bnd (l81 hC _ k3.ok [59]) ?_
  refine p83_23 ?_
  simp only [Tr.val,ht,Typ.cs,List.map_append,List.map_cons,List.map_nil,Fld.av,e1]
 rw [if_neg e1] at h
 refine bF e1 ?_
 by_cases e2 : (p.oneF memW 0).1 = 2
 ·rw [if_pos (.inl e2)] at h
  injection h with h; subst h
  refine bT e2 (bnd h80 ?_)
  refine p83_3 ?_
  simp only [Tr.val,List.length_map]
  refine bF e1 (ct (zae (by omega)) (ct (zae (by omega)) (bnd (l81 hC _ k2.ok [59]) ?_)))
  refine p83_13 ?_
  simp only [Tr.val,ht,Typ.cs,List.map_append,List.map_cons,List.map_nil,Fld.av]
 refine bF e2 ?_
 by_cases e3 : (p.oneF memW 0).1 = 3
 ·rw [if_pos (.inr (.inl e3))] at h
  injection h with h; subst h
  refine bT e3 (bnd h80 ?_)
  refine p83_4 ?_
  simp only [Tr.val,List.length_map]
  refine bF e1 (ct (zae (by omega)) (ct (zae (by omega)) (bnd (l81 hC _ k2.ok [59]) ?_)))
  refine p83_15 ?_
  simp only [Tr.val,ht,Typ.cs,List.map_append,List.map_cons,List.map_nil,Fld.av]
 refine bF e3 ?_
 by_cases e4 : (p.oneF memW 0).1 = 4
 ·rw [if_pos (.inr (.inr (.inl e4)))] at h
  injection h with h; subst h
  refine bT e4 (bnd h80 ?_)
  refine p83_5 ?_
  simp only [Tr.val,List.length_map]
  refine bF e1 (ct (zae (by omega)) (ct (zae (by omega)) (bnd (l81 hC _ k2.ok [59]) ?_)))
  refine p83_17 ?_
  simp only [Tr.val,ht,Typ.cs,List.map_append,List.map_cons,List.map_nil,Fld.av]
 refine bF e4 ?_
 by_cases e5 : (p.oneF memW 0).1 = 5
 ·rw [if_pos (.inr (.inr (.inr e5)))] at h
  injection h with h; subst h
  refine bT e5 (bnd h80 ?_)
  refine p83_6 ?_
  simp only [Tr.val,List.length_map]
  refine bF e1 (ct (zae (by omega)) (ct (zae (by omega)) (bnd (l81 hC _ k2.ok [59]) ?_)))
  refine p83_19 ?_
  simp only [Tr.val,ht,Typ.cs,List.map_append,List.map_cons,List.map_nil,Fld.av]
 rw [if_neg (fun hh=>by omega)] at h
 refine bF e5 ?_
 by_cases e6 : (p.oneF memW 0).1 = 6
 ·rw [if_pos e6] at h
  obtain ⟨a,h1,h2⟩ := Option.bind_eq_some_iff.1 h
  obtain ⟨b,h3,h4⟩ := Option.bind_eq_some_iff.1 h2
  injection h4 with h4; subst h4
  have k3 := zgv k2.ok h1
  refine bT e6 (bnd h80 ?_)
  refine p83_7 (bnd (l149 hC k2.ok h1) ?_)
  refine p83_20 (bnd (l150 hC k3.ok h3) ?_)
  refine p83_28 ?_
  simp only [Tr.val,List.length_map]
  refine ct (zae (by omega)) (ct (zae (by omega)) ?_)
  simp only [ht,Typ.cs,List.map_append,List.map_cons,List.map_nil,Opn.av]
 rw [if_neg e6] at h
 refine bF e6 ?_
 by_cases e7 : (p.oneF memW 0).1 = 7
 ·rw [if_pos e7] at h
  obtain ⟨a,h1,h2⟩ := Option.bind_eq_some_iff.1 h
  obtain ⟨b,h3,h4⟩ := Option.bind_eq_some_iff.1 h2
  injection h4 with h4; subst h4
  have k3 := zgv k2.ok h1
  have k4 := Keep.sign k3.ok [61]
  have k5 := (zev f).1 _ _ _ k4.ok h3
  refine bT e7 (bnd h80 ?_)
  refine p83_8 (bnd (l149 hC k2.ok h1) ?_)
  refine p83_21 (bnd (l81 hC _ k3.ok [61]) ?_)
  refine p83_29 (bnd (l151 hC k4.ok h3) ?_)
  obtain ⟨⟨k',m',s',tg',l',q'⟩,p'⟩ := b
  simp only [zc5]
  refine p83_30 ?_
  simp only [Tr.val,List.length_map]
  refine ct (zae (by omega)) (ct (zae (by omega)) ?_)
  refine bnd (l81 hC _ k5.ok [59]) ?_
  refine p83_31 ?_
  simp only [Tr.val,ht,Typ.cs,List.map_append,List.map_cons,List.map_nil,Qry.av,zc5,AV.cells,List.cons_append,List.nil_append]
 rw [if_neg e7] at h
 refine bF e7 ?_
 by_cases e8 : (p.oneF memW 0).1 = 8
 ·rw [if_pos e8] at h
  injection h with h; subst h
  refine bT e8 (bnd h80 ?_)
  refine p83_9 ?_
  simp only [Tr.val,List.length_map]
  refine ct (zae (by omega)) (ct (zae (by omega)) ?_)
  refine bnd (l81 hC _ k2.ok [59]) ?_
  refine p83_22 ?_
  simp only [Tr.val,ht,Typ.cs,List.map_append,List.map_cons,List.map_nil,Idx.av]
 ·rw [if_neg e8] at h
  injection h with h; subst h
  exact bF e8 rfl
omit hC in
theorem memF_len {f : Nat} {t : Typ} {p : PS} {r : Typ × PS} (h : memF f t p = some r) : r.1.fields.length + r.1.ops.length + r.1.qrys.length + r.1.idxs.length ≤ t.fields.length + t.ops.length + t.qrys.length + t.idxs.length + 1:=by
 unfold memF at h
 split at h
 ·injection h with h; subst h; simp; omega
 split at h
 ·injection h with h; subst h; simp; omega
 split at h
 ·obtain ⟨a,h1,h2⟩ := Option.bind_eq_some_iff.1 h
  obtain ⟨b,h3,h4⟩ := Option.bind_eq_some_iff.1 h2
  injection h4 with h4; subst h4; simp; omega
 split at h
 ·obtain ⟨a,h1,h2⟩ := Option.bind_eq_some_iff.1 h
  obtain ⟨b,h3,h4⟩ := Option.bind_eq_some_iff.1 h2
  injection h4 with h4; subst h4; simp; omega
 split at h
 ·injection h with h; subst h; simp; omega
 ·injection h with h; subst h; simp
theorem zrx : ∀ (f : Nat) (t : Typ) (p : PS) (r : Typ × PS) (s : List UInt8) (b1 b2 b3 b4 : Bool) (g1 g2 g3 g4 : List AV) (x : Int),Ok p→t.fields.length + t.ops.length + t.qrys.length + t.idxs.length + mu p ≤ 20000→tdL f t p = some r →
  RL C 44 [0,5,0,5,0,5,0,5,0,5,0,2,3] (mkS 30 [(0,.val (.ptr 0 0) .no),(2,.lp 2 0),(3,.val (.ptr 1 0) .no)] [(2,⟨[(.str s),(.vs 4 b1 g1),(.vs 4 b2 g2),(.vs 8 b3 g3),(.vs 2 b4 g4),(.int .i64 x)],[1,2,3,4]⟩)] (hp p (ht t)) 2) = some ⟨r.1.av,hp r.2 (ht r.1),2⟩
 | 0,_,_,_,_,_,_,_,_,_,_,_,_,_,_,_,h=>by cases h
 | f + 1,t,p,r,s,b1,b2,b3,b4,g1,g2,g3,g4,x,hO,hb,h=>by
  unfold tdL at h
  have h81 := l81 (T := ht t) (nx := 2) hC p hO [125]
  have h82 := l82 (T := ht t) (nx := 2) hC p [125]
  refine p44_4 ?_
  simp only [Tr.val]
  by_cases h0 : p.err = 0
  ·refine bT h0 (bnd h82 ?_)
   refine p44_5 ?_
   simp only [Tr.val]
   cases hg : p.isG [125]
   ·rw [if_pos ⟨h0,hg⟩] at h
    obtain ⟨a,h1,h2⟩ := Option.bind_eq_some_iff.1 h
    obtain ⟨k1,lt⟩ := zm4 hO h1
    have lt := lt h0
    have ln : a.1.fields.length + a.1.ops.length + a.1.qrys.length + a.1.idxs.length ≤ t.fields.length + t.ops.length + t.qrys.length + t.idxs.length + 1 := memF_len h1
    simp only [Bool.not_false,za0]
    refine bnd (l83 hC hO (by omega) h1) ?_
    refine p44_7 ?_
    have := zrx f a.1 a.2 r s b1 b2 b3 b4 g1 g2 g3 g4 x k1.ok (by omega) h2
    exact this
   ·rw [if_neg (fun hh=>by rw [hg] at hh; cases hh.2)] at h
    injection h with h
    subst h
    simp only [Bool.not_true,zam]
    refine bnd h81 ?_
    exact p44_6 rfl
  ·rw [if_neg (fun hh=>h0 hh.1)] at h
   injection h with h
   subst h
   refine bF h0 (bnd h81 ?_)
   exact p44_6 rfl
theorem l44 {f : Nat} {p : PS} {r : Typ × PS} (hO : Ok p) (h : tdF f p = some r) : calL C 44 [.ptr 0 0] (hp p Hp.none) 1 = some ⟨r.1.av,hp r.2 (ht r.1),2⟩:=by
 have k1 := Keep.adv hO
 have k2 := Keep.name k1.ok
 have k3 := Keep.sign k2.ok [123]
 refine p44_c hC (p44_0 (bnd (l42 hC p hO) ?_))
 refine p44_1 (bnd (l80 hC _ k1.ok) ?_)
 refine p44_2 (bnd (l81 hC _ k2.ok [123]) ?_)
 refine p44_3 ?_
 exact zrx hC f _ _ r [] true true true true [] [] [] [] 0 k3.ok (by have := zsh k3.ok; simp; omega) h
end
mutual
theorem zsd : ∀ e : Ex,e.av.pure = true
 | .mk k m s tg l a=>by
  rw [zc5]
  simp only [AV.pure,zab]
  rw [zac l]
theorem zac : ∀ l : List Ex,zab (exs l) = true
 | []=>by rw [zce]; rfl
 | e :: l=>by rw [ze0,zc4,zsd e,zac l]; rfl
end
mutual
theorem zps : ∀ e : Stm,e.av.pure = true
 | .mk k s v t1 th t2 el a=>by
  rw [zhq]
  simp only [AV.pure,zab]
  rw [zac v,za3 th,za3 el]
theorem za3 : ∀ l : List Stm,zab (stms l) = true
 | []=>by rw [zfm]; rfl
 | e :: l=>by rw [stms,zc4,zps e,za3 l]; rfl
end
theorem zbi {α : Type} (f : α→AV) (h : ∀ x,(f x).pure = true) (l : List α) : zab (l.map f) = true:=by
 induction l with
 | nil=>rfl
 | cons e l ih=>rw [List.map_cons,zc4,h,ih]; rfl
theorem pure_par (x : Par) : x.av.pure = true := rfl
theorem za5 (l : List Par) : zab (l.map Par.av) = true := zbi _ pure_par l
theorem zib (x : Opn) : x.av.pure = true:=by
 simp only [Opn.av,AV.pure,zab,za5,za3]
theorem zl2 (x : Qry) : x.av.pure = true:=by
 obtain ⟨n,tg,ps,⟨k,m,s,tg',l,q⟩,a⟩ := x
 simp only [Qry.av,zc5,AV.cells,List.cons_append,List.nil_append,AV.pure,zab,za5,zac]
theorem zad (t : Typ) : zab t.cs = true:=by
 simp only [Typ.cs,zab,AV.pure,zbi _ (fun x : Fld=>(rfl : x.av.pure = true)),zbi _ zib,zbi _ zl2,zbi _ (fun x : Idx=>(rfl : x.av.pure = true))]
theorem za4 (l : List Typ) : zab (l.map Typ.av) = true := zbi Typ.av (fun t=>zad t) l
def zp4 (m : Nat) (s : Slot) : Bool := match s with
 | .val v _=>v.okD m
 | _=>true
theorem zfb {m : Nat} : ∀ (n i : Nat) (l : List (Nat × Slot)),(∀ p ∈ l,zp4 m p.2 = true)→zfs m (mkL l n i) = true
 | 0,_,_,_=>rfl
 | n + 1,i,[],h=>by
  unfold mkL zfs
  exact zfb n (i + 1) [] h
 | n + 1,i,(t,s) :: r,h=>by
  show zfs m (match Nat.beq t i with
   | true=>s :: mkL r n (i + 1)
   | false=>.und :: mkL ((t,s) :: r) n (i + 1)) = true
  cases Nat.beq t i with
  | true =>
   have hs := h (t,s) List.mem_cons_self
   unfold zfs
   show (match zp4 m s with
    | true=>zfs m (mkL r n (i + 1))
    | false=>false) = true
   rw [show zp4 m s = true from hs]
   exact zfb n (i + 1) r fun p hp=>h p (List.mem_cons_of_mem _ hp)
  | false =>
   unfold zfs
   exact zfb n (i + 1) _ h
theorem drop_ok {m n nx : Nat} {l : List (Nat × Slot)} {L : List (Nat × Blk)} {H : Hp} (h1 : ∀ p ∈ l,zp4 m p.2 = true) (h2 : zhv L = true) (h3 : zhv (zju m H) = true) : zk9 m (mkS n l L H nx) = true:=by
 unfold zk9 mkS
 simp only [zfb n 0 l h1,h2,h3]
 rfl
def paO (p : PS) (tg : Bool) (l : List Typ) : AV := if p.fin.err = 0 then .tuple [.agg [.vs 6 tg (l.map Typ.av)],.int .i64 0,.int .i64 0] else .tuple [.agg [.vs 6 true []],.int .i64 p.fin.eat,.int .i64 p.fin.err]
variable {C : Nat→Oracle} (hC : Ext C)
include hC
theorem zru : ∀ (f : Nat) (tg : Bool) (l : List Typ) (p : PS) (r : (Bool × List Typ) × PS),Ok p→l.length + mu p ≤ 20000→paL f tg l p = some r →
  RL C 20 [0,5,0,0,5,7,5,0,5,0,5,0,5,0,2,3] (mkS 54 [(2,.lp 2 0),(5,.val (.ptr 0 0) .no),(6,.lp 6 0)] [(2,⟨[(.vs 6 true [])],[0]⟩),(6,⟨[(.vs 6 tg (l.map Typ.av))],[0]⟩)] (hp p Hp.none) 1) = some ⟨paO r.2 r.1.1 r.1.2,hp r.2.fin Hp.none,1⟩
 | 0,_,_,_,_,_,_,h=>by cases h
 | f + 1,tg,l,p,r,hO,hb,h=>by
  unfold paL at h
  refine p20_2 (bnd (l43 hC p wType) ?_)
  refine p20_3 ?_
  simp only [Tr.val]
  by_cases hw : p.isW wType = true
  ·rw [if_pos hw] at h
   obtain ⟨a,h1,h2⟩ := Option.bind_eq_some_iff.1 h
   have k1 := tdF_keep hO h1
   have lt := tdF_lt hO (by rw [zia hw]; decide) h1
   refine ct hw (bnd (l44 hC hO h1) ?_)
   simp only [Typ.av,Typ.cs,ht]
   refine p20_4 ?_
   simp only [Tr.val,List.length_map]
   refine ct (zae (by omega)) (ct (zae (by omega)) (ct ?_ ?_))
   ·have hp1 := za4 l
    have hp2 := za4 (l ++ [a.1])
    simp only [List.map_append,List.map_cons,List.map_nil,Typ.av,Typ.cs] at hp2
    refine drop_ok ?_ ?_ ?_
    ·simp only [List.mem_cons,List.not_mem_nil,or_false,forall_eq_or_imp,forall_eq]
     exact ⟨rfl,rfl,rfl⟩
    ·simp only [zhv,zab,AV.pure,hp2]
    ·rfl
   ·have := zru f false (l ++ [a.1]) a.2 r k1.ok (by rw [List.length_append,List.length_singleton]; omega) h2
    simp only [List.map_append,List.map_cons,List.map_nil,Typ.av,Typ.cs] at this
    exact this
  ·rw [if_neg hw] at h
   injection h with h
   subst h
   refine cf (by simpa using hw) ?_
   by_cases hk : p.kind = 0
   ·refine nF hk ?_
    simp only [paO,PS.fin,if_pos hk]
    by_cases he : p.err = 0
    ·rw [if_pos he]; exact nF he rfl
    ·rw [if_neg he]; exact nT he rfl
   ·refine nT hk (bnd (l45 hC _ _ _) ?_)
    refine p20_5 ?_
    simp only [Tr.val,paO,PS.fin,if_neg hk]
    have he := p.fail_err (e := 11) p.tat (by decide)
    rw [if_neg he]
    exact nT he rfl
theorem l20 {src : List UInt8} (hl : src.length ≤ 4000) {f : Nat} {r : (Bool × List Typ) × PS} (h : paL f true [] (ps0 src).adv = some r) : calL C 20 [.str src] Hp.none 0 = some ⟨paO r.2 r.1.1 r.1.2,hp r.2.fin Hp.none,1⟩:=by
 refine p20_c hC (p20_0 ?_)
 simp only [Tr.val]
 have k0 := Keep.adv (ps0_ok hl)
 refine bF (by omega) (bnd (l42 (T := Hp.none) (nx := 1) hC (ps0 src) (ps0_ok hl)) ?_)
 refine p20_1 ?_
 have := zru hC f true [] _ r k0.ok (by have := zsh k0.ok; simp; omega) h
 exact this
end Go.Proofs.YtfdklpkfpmkgeaaGreatDoor
end
section
namespace Go.Proofs.YtfdklpkfpmkgeaaGreatDoor
open Go Go.Vai
theorem zs5 (g : Nat) (args : List AV) (H : Hp) (nx : Nat) (h : ext g = false) : xCal g args H nx = none:=by
 unfold xCal
 split
 ·rename_i hf
  obtain rfl := Nat.eq_of_beq_eq_true hf
  cases h
 ·split
  ·rename_i hf
   obtain rfl := Nat.eq_of_beq_eq_true hf
   cases h
  ·rfl
theorem mkExt (b : Oracle) (h1 : ∀ g args H nx,xCal g args H nx ≠ none→b g args H nx = xCal g args H nx) (h2 : ∀ g args H nx,ext g = false→b g args H nx = none) : Ext (calW Tryz.prog ann b):=by
 refine ⟨⟨b,rfl,h2⟩,fun s c hs=>?_,fun s hs=>?_⟩
 ·refine calB b ((h1 _ _ _ _ ?_).trans rfl)
  exact fun h=>by cases h
 ·have e : xCal 144 [.str s,.int .i64 10,.int .i64 64] Hp.none 0 = match Lib.parseIntB 64 s with
     | .ok u=>some ⟨.tuple [.int .i64 u,.nilI],Hp.none,0⟩
     | .range=>some ⟨.tuple [.int .i64 (Lib.intSat 64 s),.iface 286 .undef],Hp.none,0⟩
     | _=>some ⟨.tuple [.int .i64 0,.iface 286 .undef],Hp.none,0⟩:=by
   show br (decide ((10 : Int) = 10)) (br (decide ((64 : Int) = 64)) (br (Nat.ble s.length 1099511627776) _ none) none) none = _
   rw [ble_t hs]
   rfl
  cases hp : Lib.parseIntB 64 s with
  | ok u =>
   rw [hp] at e
   exact ⟨u,.nilI,calB b ((h1 _ _ _ _ (by rw [e]; simp)).trans e),rfl,rfl,rfl⟩
  | range =>
   rw [hp] at e
   exact ⟨Lib.intSat 64 s,.iface 286 .undef,calB b ((h1 _ _ _ _ (by rw [e]; simp)).trans e),rfl,286,.undef,rfl⟩
  | _ =>
   rw [hp] at e
   exact ⟨0,.iface 286 .undef,calB b ((h1 _ _ _ _ (by rw [e]; simp)).trans e),rfl,286,.undef,rfl⟩
theorem xExt : Ext (calW Tryz.prog ann xCal) := mkExt xCal (fun _ _ _ _ _=>rfl) zs5
def zrk : List UInt8 := [116,121,112,101,32,97,32,123,32,99,111,117,110,116,101,114,32,99,59,32,111,112,32,102,40,110,32,105,110,116,41,32,123,32,119,114,105,116,101,32,99,32,61,32,110,59,32,125,32,111,112,32,103,40,41,32,123,32,125,32,125]
def awTyp : Typ := ⟨[97],false,[⟨[99],2,0,17⟩],false,[⟨[102],false,[⟨[110],1,25⟩],false,[.mk 1 [99] [.mk 4 0 [110] true [] 44] true [] true [] 34],23⟩,⟨[103],true,[],true,[],52⟩],true,[],true,[],5⟩
theorem aw_parse : paL 60 true [] (ps0 zrk).adv = some ((false,[awTyp]),⟨zrk,61,0,[],0,61,0,0,0⟩) := by kernel_rfl
def awVal : AV := .tuple [.agg [.vs 6 false [awTyp.av]],.int .i64 0,.int .i64 0]
theorem aw_20 : ∃ d H nx,calW Tryz.prog ann xCal d 20 [.str zrk] Hp.none 0 = some ⟨awVal,H,nx⟩:=by
 obtain ⟨d,h⟩ := zsr (l20 xExt (src := zrk) (by decide) aw_parse)
 exact ⟨d,_,_,h⟩
noncomputable def pCal : Oracle := fun g args H nx=>match Nat.beq g 20 with
 | true=>match args with
  | [.str s]=>match eqS s zrk with
   | true=>match H,nx with
    | [],0=>some ⟨awVal,aw_20.choose_spec.choose,aw_20.choose_spec.choose_spec.choose⟩
    | _,_=>none
   | false=>none
  | _=>none
 | false=>none
theorem pCal_ok : zc6 Tryz.prog ann pCal:=by
 intro f args H nx out hc
 unfold pCal at hc
 split at hc
 ·rename_i hf
  obtain rfl := Nat.eq_of_beq_eq_true hf
  split at hc
  ·rename_i s
   split at hc
   ·rename_i hs
    obtain rfl := (zcx _ _).1 hs
    split at hc
    ·have h := aw_20.choose_spec.choose_spec.choose_spec
     rw [← h] at hc
     exact zoe mixed noNum zt4 _ _ _ _ _ _ hc
    ·cases hc
   ·cases hc
  ·cases hc
 ·cases hc
end Go.Proofs.YtfdklpkfpmkgeaaGreatDoor
end
