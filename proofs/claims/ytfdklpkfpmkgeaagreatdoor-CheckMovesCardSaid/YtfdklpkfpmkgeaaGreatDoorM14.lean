/- Stage laws,printed by gen_p.py. -/
import Derived.Test.YtfdklpkfpmkgeaaGreatDoorM6
import Derived.Test.YtfdklpkfpmkgeaaGreatDoorM10
import Derived.Test.YtfdklpkfpmkgeaaGreatDoorM12
import Derived.Test.YtfdklpkfpmkgeaaGreatDoorM13
set_option linter.unusedSimpArgs false
set_option linter.unusedVariables false
set_option linter.unusedSectionVars false
set_option linter.unnecessarySimpa false
namespace Go.Proofs.YtfdklpkfpmkgeaaGreatDoor
section
open Go Go.Vai
attribute [local irreducible] goTo zao mkS
variable {C : Nat → Oracle} {o : Out}
abbrev cI0 : AV := (.vs 1 true [(.str [110]),(.str [55]),(.str [48]),(.str [110]),(.str [49,50,51,52,53,54,55,56,57,48,49])])
abbrev cI1 : AV := (.vs 1 true [(.str [112]),(.str [116,114,117,101]),(.str [102,97,108,115,101])])
abbrev cI2 : AV := (.vs 1 true [(.str [97]),(.str [98]),(.str [99]),(.str [115,105,122,101,40,116,97,103,115,41])])
abbrev cI3 : AV := (.vs 1 true [(.str [119]),(.str [34,34]),(.str [34,97,110,110,34]),(.str [119])])
abbrev cI4 : AV := (.vs 1 true [(.str [32,43,32]),(.str [32,45,32]),(.str [32,42,32])])
abbrev cI5 : AV := (.vs 1 true [(.str [32,38,38,32]),(.str [32,124,124,32])])
abbrev cI6 : AV := (.vs 1 true [(.str [32,61,61,32]),(.str [32,33,61,32]),(.str [32,60,32]),(.str [32,60,61,32]),(.str [32,62,32]),(.str [32,62,61,32])])
abbrev qI0 : List Nat := Q68
abbrev qI1 : List Nat := Q6a
abbrev qI2 : List Nat := Q61
abbrev qI3 : List Nat := Q62
abbrev qI4 : List Nat := Q4t
abbrev qI5 : List Nat := Q4v
abbrev qI6 : List Nat := Q6r
abbrev qI7 : List Nat := Q8i
abbrev qI8 : List Nat := Q6t
abbrev qI9 : List Nat := Q8j
abbrev qI10 : List Nat := Q3a
abbrev qI11 : List Nat := Q49
abbrev qI12 : List Nat := Q3b
abbrev qI13 : List Nat := Q4b
abbrev qI14 : List Nat := Q53
abbrev qI15 : List Nat := Q7o
abbrev qI16 : List Nat := Q54
abbrev qI17 : List Nat := Q7p
abbrev qI18 : List Nat := Q48
abbrev qI19 : List Nat := Q69
abbrev qI20 : List Nat := Q6l
abbrev qI21 : List Nat := Q72
abbrev qI22 : List Nat := Q4a
abbrev qI23 : List Nat := Q6b
abbrev qI24 : List Nat := Q6m
abbrev qI25 : List Nat := Q73
abbrev qI26 : List Nat := Q4s
abbrev qI27 : List Nat := Q6g
abbrev qI28 : List Nat := Q82
abbrev qI29 : List Nat := Q4u
abbrev qI30 : List Nat := Q6h
abbrev qI31 : List Nat := Q83
abbrev qI32 : List Nat := Q58
abbrev qI33 : List Nat := Q6s
abbrev qI34 : List Nat := Q8d
abbrev qI35 : List Nat := Q59
abbrev qI36 : List Nat := Q6u
abbrev qI37 : List Nat := Q8e
theorem p41_c (hC : Ext C) {a b : Bool} {c : List AV} {d e f : Int} : LC C o 41 (mk0 292 [vv 0 (.vs 1 a c),vi 1 d,vi 2 e,vi 3 f,vb 4 b]) [(.vs 1 a c),(i6 d),(i6 e),(i6 f),(.bool b)] Hp.none 0 := lC hC
theorem p41_0 {a d b c e f} : LR C o 41 [] (mk0 292 [vv 0 (.vs 1 a b),vi 1 c,vi 2 e,vi 3 f,vb 4 d]) (cl0 34 [(.vs 1 a b),(i6 c)] fun g => .br (AV.pure g.v)
(.mid 0 [0,5,0] 3 (mk0 292 [vv 0 (.vs 1 a b),vi 1 c,vi 2 e,vi 3 f,vb 4 d,vv 36 (.vs 1 a b),vi 37 c,vv 38 g.v])) .none) := lR 4
theorem p41_1 {a e c d f g b} : LM C o 41 [0,5,0] 3 (mk0 292 [vv 0 (.vs 1 a c),vi 1 d,vi 2 f,vi 3 g,vb 4 e,vv 36 (.vs 1 a c),vi 37 d,vi 38 b]) (cl0 22 [(i6 b),(i6 1099511627776)] fun h => .br (AV.pure h.v)
(.mid 0 Q05 2 (mk0 292 [vv 0 (.vs 1 a c),vi 1 d,vi 2 f,vi 3 g,vb 4 e,vi 12 b,vi 39 b,vv 40 h.v])) .none) := lM 2
theorem p41_2 {b c d e f g a h} : LM C o 41 Q05 2 (mk0 292 [vv 0 (.vs 1 b d),vi 1 e,vi 2 f,vi 3 g,vb 4 c,vi 12 a,vi 39 a,vi 40 h]) (cl0 22 [(i6 a),(i6 37)] fun i => .br (AV.pure i.v)
(.mid 0 Q0h 2 (mk0 292 [vv 0 (.vs 1 b d),vi 1 e,vi 2 f,vi 3 g,vb 4 c,vi 12 a,vi 13 (w64 (Int.tdiv h 16)),vi 42 a,vv 43 i.v])) .none) := lM 3
abbrev yS366 := fun (a : Bool) (b : List AV) c d e f g h i j => mk0 292 [vv 0 (.vs 1 a b),vi 1 c,vi 2 d,vi 3 e,vb 4 f,vi 12 g,vi 13 h,vb 14 i,vi 57 d,vb 58 true,vi 60 g,j]
abbrev zun := fun a b c d e => mkS 292 [vi 1 a,vi 13 b,vb 149 false,vv 152 cI3,vi 153 b,vi 154 c,vi 155 d,vv 156 (.cptr e)] [] Hp.none 0
abbrev yS368 := fun (a : Bool) (b : List AV) c d e f g h i j => mk0 292 [vv 0 (.vs 1 a b),vi 1 c,vi 2 d,vi 3 e,vb 4 f,vi 12 g,vi 13 h,vb 14 i,vb 142 false,vi 160 g,j]
abbrev yS369 := fun (a : Bool) (b : List AV) c d e f g h i j => mk0 292 [vv 0 (.vs 1 a b),vi 1 c,vi 2 d,vi 3 e,vb 4 f,vi 12 g,vi 13 h,vb 14 i,vi 57 d,vb 58 true,vi 60 g,j]
abbrev zul := fun a b c d e => mkS 292 [vi 1 a,vi 13 b,vb 149 false,vv 152 cI3,vi 153 b,vi 154 c,vi 155 d,vv 156 (.cptr e)] [] Hp.none 0
abbrev yS371 := fun (a : Bool) (b : List AV) c d e f g h i j => mk0 292 [vv 0 (.vs 1 a b),vi 1 c,vi 2 d,vi 3 e,vb 4 f,vi 12 g,vi 13 h,vb 14 i,vb 142 false,vi 160 g,j]
theorem p41_3 {d e f c g h b i a} : LM C o 41 Q0h 2 (mk0 292 [vv 0 (.vs 1 d f),vi 1 c,vi 2 g,vi 3 h,vb 4 e,vi 12 b,vi 13 a,vi 42 b,vi 43 i]) (.br (decide (i = 36))
(.br (decide (3 < h))
(.br (decide ((w64 (1 + (Int.tmod a 3))) = 1))
(cl0 22 [(i6 b),(i6 8)] fun u => .br (AV.pure u.v)
(.mid 7 qI10 2 (yS366 d f c (w64 (1 + (Int.tmod a 3))) h e b a true (vv 61 u.v))) .none)
(.br (decide ((w64 (1 + (Int.tmod a 3))) = 2))
(.br e
(.br (decide ((Int.tmod a 2) = 0))
(rt (.tuple [(.str [111,119,110,101,114]),(i6 (w64 (c + 1)))]))
(ixl 4 [(.str [119]),(.str [34,34]),(.str [34,97,110,110,34]),(.str [119])] (Int.tmod (w64 (Int.tdiv a 2)) 4) fun y =>
(.mid 0 qI4 5 (zun c a (w64 (Int.tdiv a 2)) (Int.tmod (w64 (Int.tdiv a 2)) 4) (AV.cells y)))))
(ixl 4 [(.str [119]),(.str [34,34]),(.str [34,97,110,110,34]),(.str [119])] (Int.tmod (w64 (Int.tdiv a 2)) 4) fun z =>
(.mid 0 qI4 5 (zun c a (w64 (Int.tdiv a 2)) (Int.tmod (w64 (Int.tdiv a 2)) 4) (AV.cells z)))))
(cl0 22 [(i6 b),(i6 10)] fun w => .br (AV.pure w.v)
(.mid 2 qI11 2 (yS368 d f c (w64 (1 + (Int.tmod a 3))) h e b a true (vv 161 w.v))) .none)))
(.br (decide ((w64 (1 + (Int.tmod a 3))) = 1))
(cl0 22 [(i6 b),(i6 8)] fun x => .br (AV.pure x.v)
(.mid 7 qI10 2 (yS366 d f c (w64 (1 + (Int.tmod a 3))) h e b a (decide ((w64 ((f.length : Int) + 4)) < c)) (vv 61 x.v))) .none)
(.br (decide ((w64 (1 + (Int.tmod a 3))) = 2))
(.br e
(.br (decide ((Int.tmod a 2) = 0))
(rt (.tuple [(.str [111,119,110,101,114]),(i6 (w64 (c + 1)))]))
(ixl 4 [(.str [119]),(.str [34,34]),(.str [34,97,110,110,34]),(.str [119])] (Int.tmod (w64 (Int.tdiv a 2)) 4) fun A =>
(.mid 0 qI4 5 (zun c a (w64 (Int.tdiv a 2)) (Int.tmod (w64 (Int.tdiv a 2)) 4) (AV.cells A)))))
(ixl 4 [(.str [119]),(.str [34,34]),(.str [34,97,110,110,34]),(.str [119])] (Int.tmod (w64 (Int.tdiv a 2)) 4) fun p =>
(.mid 0 qI4 5 (zun c a (w64 (Int.tdiv a 2)) (Int.tmod (w64 (Int.tdiv a 2)) 4) (AV.cells p)))))
(cl0 22 [(i6 b),(i6 10)] fun j => .br (AV.pure j.v)
(.mid 2 qI11 2 (yS368 d f c (w64 (1 + (Int.tmod a 3))) h e b a (decide ((w64 ((f.length : Int) + 4)) < c)) (vv 161 j.v))) .none))))
(.br (decide (3 < h))
(.br (decide (g = 1))
(cl0 22 [(i6 b),(i6 8)] fun k => .br (AV.pure k.v)
(.mid 7 qI12 2 (yS369 d f c g h e b a true (vv 61 k.v))) .none)
(.br (decide (g = 2))
(.br e
(.br (decide ((Int.tmod a 2) = 0))
(rt (.tuple [(.str [111,119,110,101,114]),(i6 (w64 (c + 1)))]))
(ixl 4 [(.str [119]),(.str [34,34]),(.str [34,97,110,110,34]),(.str [119])] (Int.tmod (w64 (Int.tdiv a 2)) 4) fun q =>
(.mid 0 qI5 5 (zul c a (w64 (Int.tdiv a 2)) (Int.tmod (w64 (Int.tdiv a 2)) 4) (AV.cells q)))))
(ixl 4 [(.str [119]),(.str [34,34]),(.str [34,97,110,110,34]),(.str [119])] (Int.tmod (w64 (Int.tdiv a 2)) 4) fun r =>
(.mid 0 qI5 5 (zul c a (w64 (Int.tdiv a 2)) (Int.tmod (w64 (Int.tdiv a 2)) 4) (AV.cells r)))))
(cl0 22 [(i6 b),(i6 10)] fun l => .br (AV.pure l.v)
(.mid 2 qI13 2 (yS371 d f c g h e b a true (vv 161 l.v))) .none)))
(.br (decide (g = 1))
(cl0 22 [(i6 b),(i6 8)] fun m => .br (AV.pure m.v)
(.mid 7 qI12 2 (yS369 d f c g h e b a (decide ((w64 ((f.length : Int) + 4)) < c)) (vv 61 m.v))) .none)
(.br (decide (g = 2))
(.br e
(.br (decide ((Int.tmod a 2) = 0))
(rt (.tuple [(.str [111,119,110,101,114]),(i6 (w64 (c + 1)))]))
(ixl 4 [(.str [119]),(.str [34,34]),(.str [34,97,110,110,34]),(.str [119])] (Int.tmod (w64 (Int.tdiv a 2)) 4) fun s =>
(.mid 0 qI5 5 (zul c a (w64 (Int.tdiv a 2)) (Int.tmod (w64 (Int.tdiv a 2)) 4) (AV.cells s)))))
(ixl 4 [(.str [119]),(.str [34,34]),(.str [34,97,110,110,34]),(.str [119])] (Int.tmod (w64 (Int.tdiv a 2)) 4) fun t =>
(.mid 0 qI5 5 (zul c a (w64 (Int.tdiv a 2)) (Int.tmod (w64 (Int.tdiv a 2)) 4) (AV.cells t)))))
(cl0 22 [(i6 b),(i6 10)] fun n => .br (AV.pure n.v)
(.mid 2 qI13 2 (yS371 d f c g h e b a (decide ((w64 ((f.length : Int) + 4)) < c)) (vv 161 n.v))) .none))))) := lM 21
abbrev zsz := fun a b c d e => mkS 292 [vi 1 a,vi 13 b,vb 125 true,vv 126 cI2,vi 127 b,vi 128 c,vi 129 d,vv 130 (.cptr e)] [] Hp.none 0
abbrev zkh := fun a b c d e => mkS 292 [vi 1 a,vi 13 b,vb 125 false,vv 134 cI0,vi 135 b,vi 136 c,vi 137 d,vv 138 (.cptr e)] [] Hp.none 0
theorem p41_4 {d e h b i f a g c} : LM C o 41 qI10 2 (yS366 d h b c i e f a true (vi 61 g)) (.br e
(.br (decide ((Int.tmod a 2) = 0))
(ixl 4 [(.str [97]),(.str [98]),(.str [99]),(.str [115,105,122,101,40,116,97,103,115,41])] (Int.tmod (w64 (Int.tdiv a 2)) 4) fun j =>
(.mid 1 qI2 5 (zsz b a (w64 (Int.tdiv a 2)) (Int.tmod (w64 (Int.tdiv a 2)) 4) (AV.cells j))))
(ixl 5 [(.str [110]),(.str [55]),(.str [48]),(.str [110]),(.str [49,50,51,52,53,54,55,56,57,48,49])] (Int.tmod (w64 (Int.tdiv a 2)) 5) fun k =>
(.mid 0 qI0 5 (zkh b a (w64 (Int.tdiv a 2)) (Int.tmod (w64 (Int.tdiv a 2)) 5) (AV.cells k)))))
(ixl 5 [(.str [110]),(.str [55]),(.str [48]),(.str [110]),(.str [49,50,51,52,53,54,55,56,57,48,49])] (Int.tmod (w64 (Int.tdiv a 2)) 5) fun l =>
(.mid 0 qI0 5 (zkh b a (w64 (Int.tdiv a 2)) (Int.tmod (w64 (Int.tdiv a 2)) 5) (AV.cells l))))) := lM 14
theorem p41_5 {c a d e b} : LM C o 41 qI4 5 (zun c a d e [(.str b)]) (rt (.tuple [(.str b),(i6 (w64 (c + 1)))])) := lM 1
abbrev zu3 := fun a b c d e => mkS 292 [vi 1 a,vi 13 b,vb 281 false,vv 284 cI1,vi 285 b,vi 286 c,vi 287 d,vv 288 (.cptr e)] [] Hp.none 0
theorem p41_6 {c d h b i e a f g} : LM C o 41 qI11 2 (yS368 c h b g i d e a true (vi 161 f)) (.br d
(.br (decide ((Int.tmod a 3) = 0))
(rt (.tuple [(.str [120,49]),(i6 (w64 (b + 1)))]))
(ixl 3 [(.str [112]),(.str [116,114,117,101]),(.str [102,97,108,115,101])] (Int.tmod (w64 (Int.tdiv a 3)) 3) fun j =>
(.mid 0 qI6 5 (zu3 b a (w64 (Int.tdiv a 3)) (Int.tmod (w64 (Int.tdiv a 3)) 3) (AV.cells j)))))
(ixl 3 [(.str [112]),(.str [116,114,117,101]),(.str [102,97,108,115,101])] (Int.tmod (w64 (Int.tdiv a 3)) 3) fun k =>
(.mid 0 qI6 5 (zu3 b a (w64 (Int.tdiv a 3)) (Int.tmod (w64 (Int.tdiv a 3)) 3) (AV.cells k))))) := lM 13
abbrev yS375 := fun (a : Bool) (b : List AV) c d e f g h i j k l => mk0 292 [vv 0 (.vs 1 a b),vi 1 c,vi 2 d,vi 3 e,vb 4 f,vi 13 g,vb 14 h,vi 15 i,vb 67 true,vv 69 (.vs 1 a b),vi 70 c,vi 71 j,vi 72 d,vi 73 e,vi 74 k,vb 75 f,vv 76 l]
abbrev yS376 := fun (a : Bool) (b : List AV) c d e f g h i j => mk0 292 [vv 0 (.vs 1 a b),vi 1 c,vi 2 d,vi 3 e,vb 4 f,vi 13 g,vb 105 true,vv 107 (.vs 1 a b),vi 108 c,vi 109 h,vi 110 d,vi 111 e,vi 112 i,vb 113 f,vv 114 j]
theorem p41_7 {d e h g b f j a i c} : LM C o 41 qI10 2 (yS366 d g b c f e j a h (vi 61 i)) (.br (!h)
(.br (decide (i < 3))
(cl0 41 [(.vs 1 d g),(i6 (w64 (b + 1))),(i6 c),(i6 (w64 (f + 1))),(.bool e)] fun k => .br (AV.pure k.v)
(.mid 9 qI18 8 (yS375 d g b c f e a h i (w64 (b + 1)) (w64 (f + 1)) k.v)) .none)
(.br (!h)
(.br (decide (i = 3))
(cl0 41 [(.vs 1 d g),(i6 (w64 (b + 1))),(i6 c),(i6 (w64 (f + 1))),(.bool e)] fun l => .br (AV.pure l.v)
(.mid 6 qI14 8 (yS376 d g b c f e a (w64 (b + 1)) (w64 (f + 1)) l.v)) .none)
(.br e
(.br (decide ((Int.tmod a 2) = 0))
(ixl 4 [(.str [97]),(.str [98]),(.str [99]),(.str [115,105,122,101,40,116,97,103,115,41])] (Int.tmod (w64 (Int.tdiv a 2)) 4) fun n =>
(.mid 1 qI2 5 (zsz b a (w64 (Int.tdiv a 2)) (Int.tmod (w64 (Int.tdiv a 2)) 4) (AV.cells n))))
(ixl 5 [(.str [110]),(.str [55]),(.str [48]),(.str [110]),(.str [49,50,51,52,53,54,55,56,57,48,49])] (Int.tmod (w64 (Int.tdiv a 2)) 5) fun p =>
(.mid 0 qI0 5 (zkh b a (w64 (Int.tdiv a 2)) (Int.tmod (w64 (Int.tdiv a 2)) 5) (AV.cells p)))))
(ixl 5 [(.str [110]),(.str [55]),(.str [48]),(.str [110]),(.str [49,50,51,52,53,54,55,56,57,48,49])] (Int.tmod (w64 (Int.tdiv a 2)) 5) fun q =>
(.mid 0 qI0 5 (zkh b a (w64 (Int.tdiv a 2)) (Int.tmod (w64 (Int.tdiv a 2)) 5) (AV.cells q))))))
(.br e
(.br (decide ((Int.tmod a 2) = 0))
(ixl 4 [(.str [97]),(.str [98]),(.str [99]),(.str [115,105,122,101,40,116,97,103,115,41])] (Int.tmod (w64 (Int.tdiv a 2)) 4) fun r =>
(.mid 1 qI2 5 (zsz b a (w64 (Int.tdiv a 2)) (Int.tmod (w64 (Int.tdiv a 2)) 4) (AV.cells r))))
(ixl 5 [(.str [110]),(.str [55]),(.str [48]),(.str [110]),(.str [49,50,51,52,53,54,55,56,57,48,49])] (Int.tmod (w64 (Int.tdiv a 2)) 5) fun s =>
(.mid 0 qI0 5 (zkh b a (w64 (Int.tdiv a 2)) (Int.tmod (w64 (Int.tdiv a 2)) 5) (AV.cells s)))))
(ixl 5 [(.str [110]),(.str [55]),(.str [48]),(.str [110]),(.str [49,50,51,52,53,54,55,56,57,48,49])] (Int.tmod (w64 (Int.tdiv a 2)) 5) fun t =>
(.mid 0 qI0 5 (zkh b a (w64 (Int.tdiv a 2)) (Int.tmod (w64 (Int.tdiv a 2)) 5) (AV.cells t)))))))
(.br (!h)
(.br (decide (i = 3))
(cl0 41 [(.vs 1 d g),(i6 (w64 (b + 1))),(i6 c),(i6 (w64 (f + 1))),(.bool e)] fun m => .br (AV.pure m.v)
(.mid 6 qI14 8 (yS376 d g b c f e a (w64 (b + 1)) (w64 (f + 1)) m.v)) .none)
(.br e
(.br (decide ((Int.tmod a 2) = 0))
(ixl 4 [(.str [97]),(.str [98]),(.str [99]),(.str [115,105,122,101,40,116,97,103,115,41])] (Int.tmod (w64 (Int.tdiv a 2)) 4) fun u =>
(.mid 1 qI2 5 (zsz b a (w64 (Int.tdiv a 2)) (Int.tmod (w64 (Int.tdiv a 2)) 4) (AV.cells u))))
(ixl 5 [(.str [110]),(.str [55]),(.str [48]),(.str [110]),(.str [49,50,51,52,53,54,55,56,57,48,49])] (Int.tmod (w64 (Int.tdiv a 2)) 5) fun w =>
(.mid 0 qI0 5 (zkh b a (w64 (Int.tdiv a 2)) (Int.tmod (w64 (Int.tdiv a 2)) 5) (AV.cells w)))))
(ixl 5 [(.str [110]),(.str [55]),(.str [48]),(.str [110]),(.str [49,50,51,52,53,54,55,56,57,48,49])] (Int.tmod (w64 (Int.tdiv a 2)) 5) fun x =>
(.mid 0 qI0 5 (zkh b a (w64 (Int.tdiv a 2)) (Int.tmod (w64 (Int.tdiv a 2)) 5) (AV.cells x))))))
(.br e
(.br (decide ((Int.tmod a 2) = 0))
(ixl 4 [(.str [97]),(.str [98]),(.str [99]),(.str [115,105,122,101,40,116,97,103,115,41])] (Int.tmod (w64 (Int.tdiv a 2)) 4) fun y =>
(.mid 1 qI2 5 (zsz b a (w64 (Int.tdiv a 2)) (Int.tmod (w64 (Int.tdiv a 2)) 4) (AV.cells y))))
(ixl 5 [(.str [110]),(.str [55]),(.str [48]),(.str [110]),(.str [49,50,51,52,53,54,55,56,57,48,49])] (Int.tmod (w64 (Int.tdiv a 2)) 5) fun z =>
(.mid 0 qI0 5 (zkh b a (w64 (Int.tdiv a 2)) (Int.tmod (w64 (Int.tdiv a 2)) 5) (AV.cells z)))))
(ixl 5 [(.str [110]),(.str [55]),(.str [48]),(.str [110]),(.str [49,50,51,52,53,54,55,56,57,48,49])] (Int.tmod (w64 (Int.tdiv a 2)) 5) fun A =>
(.mid 0 qI0 5 (zkh b a (w64 (Int.tdiv a 2)) (Int.tmod (w64 (Int.tdiv a 2)) 5) (AV.cells A))))))) := lM 14
abbrev yS377 := fun (a : Bool) (b : List AV) c d e f g h i j k => mk0 292 [vv 0 (.vs 1 a b),vi 1 c,vi 2 d,vi 3 e,vb 4 f,vi 13 g,vi 22 h,vb 164 true,vv 168 (.vs 1 a b),vi 169 c,vi 170 i,vi 171 d,vi 172 e,vi 173 j,vb 174 f,vv 175 k]
abbrev yS378 := fun (a : Bool) (b : List AV) c d e f g h i j k => mk0 292 [vv 0 (.vs 1 a b),vi 1 c,vi 2 d,vi 3 e,vb 4 f,vi 13 g,vi 22 h,vb 199 true,vv 203 (.vs 1 a b),vi 204 c,vi 205 i,vi 206 d,vi 207 e,vi 208 j,vb 209 f,vv 210 k]
abbrev yS379 := fun (a : Bool) (b : List AV) c d e f g h i j => mk0 292 [vv 0 (.vs 1 a b),vi 1 c,vi 3 d,vb 4 e,vi 13 f,vi 22 g,vb 216 true,vv 223 (.vs 1 a b),vi 224 c,vi 225 h,vi 226 d,vi 227 i,vb 228 e,vv 229 j]
abbrev yS380 := fun (a : Bool) (b : List AV) c d e f g h i j => mk0 292 [vv 0 (.vs 1 a b),vi 1 c,vi 3 d,vb 4 e,vi 13 f,vi 31 g,vv 243 (.vs 1 a b),vi 244 c,vi 245 h,vi 246 g,vi 247 d,vi 248 i,vb 249 e,vv 250 j]
abbrev zwh := fun a b c d e => mkS 292 [vi 1 a,vi 13 b,vb 281 false,vv 284 cI1,vi 285 b,vi 286 c,vi 287 d,vv 288 (.cptr e)] [] Hp.none 0
theorem p41_8 {c e i f b d j a g h} : LM C o 41 qI11 2 (yS368 c f b h d e j a i (vi 161 g)) (.br i
(.br e
(.br (decide ((Int.tmod a 3) = 0))
(rt (.tuple [(.str [120,49]),(i6 (w64 (b + 1)))]))
(ixl 3 [(.str [112]),(.str [116,114,117,101]),(.str [102,97,108,115,101])] (Int.tmod (w64 (Int.tdiv a 3)) 3) fun q =>
(.mid 12 qI6 5 (zu3 b a (w64 (Int.tdiv a 3)) (Int.tmod (w64 (Int.tdiv a 3)) 3) (AV.cells q)))))
(ixl 3 [(.str [112]),(.str [116,114,117,101]),(.str [102,97,108,115,101])] (Int.tmod (w64 (Int.tdiv a 3)) 3) fun r =>
(.mid 12 qI6 5 (zu3 b a (w64 (Int.tdiv a 3)) (Int.tmod (w64 (Int.tdiv a 3)) 3) (AV.cells r)))))
(.br (decide (g < 2))
(cl0 41 [(.vs 1 c f),(i6 (w64 (b + 1))),(i6 h),(i6 (w64 (d + 1))),(.bool e)] fun k => .br (AV.pure k.v)
(.mid 16 qI19 8 (yS377 c f b h d e a g (w64 (b + 1)) (w64 (d + 1)) k.v)) .none)
(.br (decide (g = 2))
(cl0 41 [(.vs 1 c f),(i6 (w64 (b + 1))),(i6 h),(i6 (w64 (d + 1))),(.bool e)] fun l => .br (AV.pure l.v)
(.mid 13 qI20 8 (yS378 c f b h d e a g (w64 (b + 1)) (w64 (d + 1)) l.v)) .none)
(.br (decide (g = 3))
(.br e
(cl0 41 [(.vs 1 c f),(i6 (w64 (b + 1))),(i6 2),(i6 (w64 (d + 1))),(.bool e)] fun m => .br (AV.pure m.v)
(.mid 10 qI21 7 (yS379 c f b d e a g (w64 (b + 1)) (w64 (d + 1)) m.v)) .none)
(.br (decide (g < 8))
(cl0 41 [(.vs 1 c f),(i6 (w64 (b + 1))),(i6 (w64 (1 + (Int.tmod a 2)))),(i6 (w64 (d + 1))),(.bool e)] fun n => .br (AV.pure n.v)
(.mid 5 qI15 8 (yS380 c f b d e a (w64 (1 + (Int.tmod a 2))) (w64 (b + 1)) (w64 (d + 1)) n.v)) .none)
(.br e
(.br (decide ((Int.tmod a 3) = 0))
(rt (.tuple [(.str [120,49]),(i6 (w64 (b + 1)))]))
(ixl 3 [(.str [112]),(.str [116,114,117,101]),(.str [102,97,108,115,101])] (Int.tmod (w64 (Int.tdiv a 3)) 3) fun s =>
(.mid 0 qI7 5 (zwh b a (w64 (Int.tdiv a 3)) (Int.tmod (w64 (Int.tdiv a 3)) 3) (AV.cells s)))))
(ixl 3 [(.str [112]),(.str [116,114,117,101]),(.str [102,97,108,115,101])] (Int.tmod (w64 (Int.tdiv a 3)) 3) fun t =>
(.mid 0 qI7 5 (zwh b a (w64 (Int.tdiv a 3)) (Int.tmod (w64 (Int.tdiv a 3)) 3) (AV.cells t)))))))
(.br (decide (g < 8))
(cl0 41 [(.vs 1 c f),(i6 (w64 (b + 1))),(i6 (w64 (1 + (Int.tmod a 2)))),(i6 (w64 (d + 1))),(.bool e)] fun p => .br (AV.pure p.v)
(.mid 5 qI15 8 (yS380 c f b d e a (w64 (1 + (Int.tmod a 2))) (w64 (b + 1)) (w64 (d + 1)) p.v)) .none)
(.br e
(.br (decide ((Int.tmod a 3) = 0))
(rt (.tuple [(.str [120,49]),(i6 (w64 (b + 1)))]))
(ixl 3 [(.str [112]),(.str [116,114,117,101]),(.str [102,97,108,115,101])] (Int.tmod (w64 (Int.tdiv a 3)) 3) fun u =>
(.mid 0 qI7 5 (zwh b a (w64 (Int.tdiv a 3)) (Int.tmod (w64 (Int.tdiv a 3)) 3) (AV.cells u)))))
(ixl 3 [(.str [112]),(.str [116,114,117,101]),(.str [102,97,108,115,101])] (Int.tmod (w64 (Int.tdiv a 3)) 3) fun w =>
(.mid 0 qI7 5 (zwh b a (w64 (Int.tdiv a 3)) (Int.tmod (w64 (Int.tdiv a 3)) 3) (AV.cells w)))))))))) := lM 25
abbrev zt9 := fun a b c d e => mkS 292 [vi 1 a,vi 13 b,vb 125 true,vv 126 cI2,vi 127 b,vi 128 c,vi 129 d,vv 130 (.cptr e)] [] Hp.none 0
abbrev zjw := fun a b c d e => mkS 292 [vi 1 a,vi 13 b,vb 125 false,vv 134 cI0,vi 135 b,vi 136 c,vi 137 d,vv 138 (.cptr e)] [] Hp.none 0
theorem p41_9 {c d h b e i f a g} : LM C o 41 qI12 2 (yS369 c h b e i d f a true (vi 61 g)) (.br d
(.br (decide ((Int.tmod a 2) = 0))
(ixl 4 [(.str [97]),(.str [98]),(.str [99]),(.str [115,105,122,101,40,116,97,103,115,41])] (Int.tmod (w64 (Int.tdiv a 2)) 4) fun j =>
(.mid 1 qI3 5 (zt9 b a (w64 (Int.tdiv a 2)) (Int.tmod (w64 (Int.tdiv a 2)) 4) (AV.cells j))))
(ixl 5 [(.str [110]),(.str [55]),(.str [48]),(.str [110]),(.str [49,50,51,52,53,54,55,56,57,48,49])] (Int.tmod (w64 (Int.tdiv a 2)) 5) fun k =>
(.mid 0 qI1 5 (zjw b a (w64 (Int.tdiv a 2)) (Int.tmod (w64 (Int.tdiv a 2)) 5) (AV.cells k)))))
(ixl 5 [(.str [110]),(.str [55]),(.str [48]),(.str [110]),(.str [49,50,51,52,53,54,55,56,57,48,49])] (Int.tmod (w64 (Int.tdiv a 2)) 5) fun l =>
(.mid 0 qI1 5 (zjw b a (w64 (Int.tdiv a 2)) (Int.tmod (w64 (Int.tdiv a 2)) 5) (AV.cells l))))) := lM 14
theorem p41_10 {c a d e b} : LM C o 41 qI5 5 (zul c a d e [(.str b)]) (rt (.tuple [(.str b),(i6 (w64 (c + 1)))])) := lM 1
abbrev zud := fun a b c d e => mkS 292 [vi 1 a,vi 13 b,vb 281 false,vv 284 cI1,vi 285 b,vi 286 c,vi 287 d,vv 288 (.cptr e)] [] Hp.none 0
theorem p41_11 {c d g b h i e a f} : LM C o 41 qI13 2 (yS371 c g b h i d e a true (vi 161 f)) (.br d
(.br (decide ((Int.tmod a 3) = 0))
(rt (.tuple [(.str [120,49]),(i6 (w64 (b + 1)))]))
(ixl 3 [(.str [112]),(.str [116,114,117,101]),(.str [102,97,108,115,101])] (Int.tmod (w64 (Int.tdiv a 3)) 3) fun j =>
(.mid 0 qI8 5 (zud b a (w64 (Int.tdiv a 3)) (Int.tmod (w64 (Int.tdiv a 3)) 3) (AV.cells j)))))
(ixl 3 [(.str [112]),(.str [116,114,117,101]),(.str [102,97,108,115,101])] (Int.tmod (w64 (Int.tdiv a 3)) 3) fun k =>
(.mid 0 qI8 5 (zud b a (w64 (Int.tdiv a 3)) (Int.tmod (w64 (Int.tdiv a 3)) 3) (AV.cells k))))) := lM 13
abbrev yS385 := fun (a : Bool) (b : List AV) c d e f g h i j k l => mk0 292 [vv 0 (.vs 1 a b),vi 1 c,vi 2 d,vi 3 e,vb 4 f,vi 13 g,vb 14 h,vi 15 i,vb 67 true,vv 69 (.vs 1 a b),vi 70 c,vi 71 j,vi 72 d,vi 73 e,vi 74 k,vb 75 f,vv 76 l]
abbrev yS386 := fun (a : Bool) (b : List AV) c d e f g h i j => mk0 292 [vv 0 (.vs 1 a b),vi 1 c,vi 2 d,vi 3 e,vb 4 f,vi 13 g,vb 105 true,vv 107 (.vs 1 a b),vi 108 c,vi 109 h,vi 110 d,vi 111 e,vi 112 i,vb 113 f,vv 114 j]
theorem p41_12 {c d h g b f e j a i} : LM C o 41 qI12 2 (yS369 c g b f e d j a h (vi 61 i)) (.br (!h)
(.br (decide (i < 3))
(cl0 41 [(.vs 1 c g),(i6 (w64 (b + 1))),(i6 f),(i6 (w64 (e + 1))),(.bool d)] fun k => .br (AV.pure k.v)
(.mid 9 qI22 8 (yS385 c g b f e d a h i (w64 (b + 1)) (w64 (e + 1)) k.v)) .none)
(.br (!h)
(.br (decide (i = 3))
(cl0 41 [(.vs 1 c g),(i6 (w64 (b + 1))),(i6 f),(i6 (w64 (e + 1))),(.bool d)] fun l => .br (AV.pure l.v)
(.mid 6 qI16 8 (yS386 c g b f e d a (w64 (b + 1)) (w64 (e + 1)) l.v)) .none)
(.br d
(.br (decide ((Int.tmod a 2) = 0))
(ixl 4 [(.str [97]),(.str [98]),(.str [99]),(.str [115,105,122,101,40,116,97,103,115,41])] (Int.tmod (w64 (Int.tdiv a 2)) 4) fun n =>
(.mid 1 qI3 5 (zt9 b a (w64 (Int.tdiv a 2)) (Int.tmod (w64 (Int.tdiv a 2)) 4) (AV.cells n))))
(ixl 5 [(.str [110]),(.str [55]),(.str [48]),(.str [110]),(.str [49,50,51,52,53,54,55,56,57,48,49])] (Int.tmod (w64 (Int.tdiv a 2)) 5) fun p =>
(.mid 0 qI1 5 (zjw b a (w64 (Int.tdiv a 2)) (Int.tmod (w64 (Int.tdiv a 2)) 5) (AV.cells p)))))
(ixl 5 [(.str [110]),(.str [55]),(.str [48]),(.str [110]),(.str [49,50,51,52,53,54,55,56,57,48,49])] (Int.tmod (w64 (Int.tdiv a 2)) 5) fun q =>
(.mid 0 qI1 5 (zjw b a (w64 (Int.tdiv a 2)) (Int.tmod (w64 (Int.tdiv a 2)) 5) (AV.cells q))))))
(.br d
(.br (decide ((Int.tmod a 2) = 0))
(ixl 4 [(.str [97]),(.str [98]),(.str [99]),(.str [115,105,122,101,40,116,97,103,115,41])] (Int.tmod (w64 (Int.tdiv a 2)) 4) fun r =>
(.mid 1 qI3 5 (zt9 b a (w64 (Int.tdiv a 2)) (Int.tmod (w64 (Int.tdiv a 2)) 4) (AV.cells r))))
(ixl 5 [(.str [110]),(.str [55]),(.str [48]),(.str [110]),(.str [49,50,51,52,53,54,55,56,57,48,49])] (Int.tmod (w64 (Int.tdiv a 2)) 5) fun s =>
(.mid 0 qI1 5 (zjw b a (w64 (Int.tdiv a 2)) (Int.tmod (w64 (Int.tdiv a 2)) 5) (AV.cells s)))))
(ixl 5 [(.str [110]),(.str [55]),(.str [48]),(.str [110]),(.str [49,50,51,52,53,54,55,56,57,48,49])] (Int.tmod (w64 (Int.tdiv a 2)) 5) fun t =>
(.mid 0 qI1 5 (zjw b a (w64 (Int.tdiv a 2)) (Int.tmod (w64 (Int.tdiv a 2)) 5) (AV.cells t)))))))
(.br (!h)
(.br (decide (i = 3))
(cl0 41 [(.vs 1 c g),(i6 (w64 (b + 1))),(i6 f),(i6 (w64 (e + 1))),(.bool d)] fun m => .br (AV.pure m.v)
(.mid 6 qI16 8 (yS386 c g b f e d a (w64 (b + 1)) (w64 (e + 1)) m.v)) .none)
(.br d
(.br (decide ((Int.tmod a 2) = 0))
(ixl 4 [(.str [97]),(.str [98]),(.str [99]),(.str [115,105,122,101,40,116,97,103,115,41])] (Int.tmod (w64 (Int.tdiv a 2)) 4) fun u =>
(.mid 1 qI3 5 (zt9 b a (w64 (Int.tdiv a 2)) (Int.tmod (w64 (Int.tdiv a 2)) 4) (AV.cells u))))
(ixl 5 [(.str [110]),(.str [55]),(.str [48]),(.str [110]),(.str [49,50,51,52,53,54,55,56,57,48,49])] (Int.tmod (w64 (Int.tdiv a 2)) 5) fun w =>
(.mid 0 qI1 5 (zjw b a (w64 (Int.tdiv a 2)) (Int.tmod (w64 (Int.tdiv a 2)) 5) (AV.cells w)))))
(ixl 5 [(.str [110]),(.str [55]),(.str [48]),(.str [110]),(.str [49,50,51,52,53,54,55,56,57,48,49])] (Int.tmod (w64 (Int.tdiv a 2)) 5) fun x =>
(.mid 0 qI1 5 (zjw b a (w64 (Int.tdiv a 2)) (Int.tmod (w64 (Int.tdiv a 2)) 5) (AV.cells x))))))
(.br d
(.br (decide ((Int.tmod a 2) = 0))
(ixl 4 [(.str [97]),(.str [98]),(.str [99]),(.str [115,105,122,101,40,116,97,103,115,41])] (Int.tmod (w64 (Int.tdiv a 2)) 4) fun y =>
(.mid 1 qI3 5 (zt9 b a (w64 (Int.tdiv a 2)) (Int.tmod (w64 (Int.tdiv a 2)) 4) (AV.cells y))))
(ixl 5 [(.str [110]),(.str [55]),(.str [48]),(.str [110]),(.str [49,50,51,52,53,54,55,56,57,48,49])] (Int.tmod (w64 (Int.tdiv a 2)) 5) fun z =>
(.mid 0 qI1 5 (zjw b a (w64 (Int.tdiv a 2)) (Int.tmod (w64 (Int.tdiv a 2)) 5) (AV.cells z)))))
(ixl 5 [(.str [110]),(.str [55]),(.str [48]),(.str [110]),(.str [49,50,51,52,53,54,55,56,57,48,49])] (Int.tmod (w64 (Int.tdiv a 2)) 5) fun A =>
(.mid 0 qI1 5 (zjw b a (w64 (Int.tdiv a 2)) (Int.tmod (w64 (Int.tdiv a 2)) 5) (AV.cells A))))))) := lM 14
abbrev yS387 := fun (a : Bool) (b : List AV) c d e f g h i j k => mk0 292 [vv 0 (.vs 1 a b),vi 1 c,vi 2 d,vi 3 e,vb 4 f,vi 13 g,vi 22 h,vb 164 true,vv 168 (.vs 1 a b),vi 169 c,vi 170 i,vi 171 d,vi 172 e,vi 173 j,vb 174 f,vv 175 k]
abbrev yS388 := fun (a : Bool) (b : List AV) c d e f g h i j k => mk0 292 [vv 0 (.vs 1 a b),vi 1 c,vi 2 d,vi 3 e,vb 4 f,vi 13 g,vi 22 h,vb 199 true,vv 203 (.vs 1 a b),vi 204 c,vi 205 i,vi 206 d,vi 207 e,vi 208 j,vb 209 f,vv 210 k]
abbrev yS389 := fun (a : Bool) (b : List AV) c d e f g h i j => mk0 292 [vv 0 (.vs 1 a b),vi 1 c,vi 3 d,vb 4 e,vi 13 f,vi 22 g,vb 216 true,vv 223 (.vs 1 a b),vi 224 c,vi 225 h,vi 226 d,vi 227 i,vb 228 e,vv 229 j]
abbrev yS390 := fun (a : Bool) (b : List AV) c d e f g h i j => mk0 292 [vv 0 (.vs 1 a b),vi 1 c,vi 3 d,vb 4 e,vi 13 f,vi 31 g,vv 243 (.vs 1 a b),vi 244 c,vi 245 h,vi 246 g,vi 247 d,vi 248 i,vb 249 e,vv 250 j]
abbrev zwn := fun a b c d e => mkS 292 [vi 1 a,vi 13 b,vb 281 false,vv 284 cI1,vi 285 b,vi 286 c,vi 287 d,vv 288 (.cptr e)] [] Hp.none 0
theorem p41_13 {c e i f b h d j a g} : LM C o 41 qI13 2 (yS371 c f b h d e j a i (vi 161 g)) (.br i
(.br e
(.br (decide ((Int.tmod a 3) = 0))
(rt (.tuple [(.str [120,49]),(i6 (w64 (b + 1)))]))
(ixl 3 [(.str [112]),(.str [116,114,117,101]),(.str [102,97,108,115,101])] (Int.tmod (w64 (Int.tdiv a 3)) 3) fun q =>
(.mid 12 qI8 5 (zud b a (w64 (Int.tdiv a 3)) (Int.tmod (w64 (Int.tdiv a 3)) 3) (AV.cells q)))))
(ixl 3 [(.str [112]),(.str [116,114,117,101]),(.str [102,97,108,115,101])] (Int.tmod (w64 (Int.tdiv a 3)) 3) fun r =>
(.mid 12 qI8 5 (zud b a (w64 (Int.tdiv a 3)) (Int.tmod (w64 (Int.tdiv a 3)) 3) (AV.cells r)))))
(.br (decide (g < 2))
(cl0 41 [(.vs 1 c f),(i6 (w64 (b + 1))),(i6 h),(i6 (w64 (d + 1))),(.bool e)] fun k => .br (AV.pure k.v)
(.mid 16 qI23 8 (yS387 c f b h d e a g (w64 (b + 1)) (w64 (d + 1)) k.v)) .none)
(.br (decide (g = 2))
(cl0 41 [(.vs 1 c f),(i6 (w64 (b + 1))),(i6 h),(i6 (w64 (d + 1))),(.bool e)] fun l => .br (AV.pure l.v)
(.mid 13 qI24 8 (yS388 c f b h d e a g (w64 (b + 1)) (w64 (d + 1)) l.v)) .none)
(.br (decide (g = 3))
(.br e
(cl0 41 [(.vs 1 c f),(i6 (w64 (b + 1))),(i6 2),(i6 (w64 (d + 1))),(.bool e)] fun m => .br (AV.pure m.v)
(.mid 10 qI25 7 (yS389 c f b d e a g (w64 (b + 1)) (w64 (d + 1)) m.v)) .none)
(.br (decide (g < 8))
(cl0 41 [(.vs 1 c f),(i6 (w64 (b + 1))),(i6 (w64 (1 + (Int.tmod a 2)))),(i6 (w64 (d + 1))),(.bool e)] fun n => .br (AV.pure n.v)
(.mid 5 qI17 8 (yS390 c f b d e a (w64 (1 + (Int.tmod a 2))) (w64 (b + 1)) (w64 (d + 1)) n.v)) .none)
(.br e
(.br (decide ((Int.tmod a 3) = 0))
(rt (.tuple [(.str [120,49]),(i6 (w64 (b + 1)))]))
(ixl 3 [(.str [112]),(.str [116,114,117,101]),(.str [102,97,108,115,101])] (Int.tmod (w64 (Int.tdiv a 3)) 3) fun s =>
(.mid 0 qI9 5 (zwn b a (w64 (Int.tdiv a 3)) (Int.tmod (w64 (Int.tdiv a 3)) 3) (AV.cells s)))))
(ixl 3 [(.str [112]),(.str [116,114,117,101]),(.str [102,97,108,115,101])] (Int.tmod (w64 (Int.tdiv a 3)) 3) fun t =>
(.mid 0 qI9 5 (zwn b a (w64 (Int.tdiv a 3)) (Int.tmod (w64 (Int.tdiv a 3)) 3) (AV.cells t)))))))
(.br (decide (g < 8))
(cl0 41 [(.vs 1 c f),(i6 (w64 (b + 1))),(i6 (w64 (1 + (Int.tmod a 2)))),(i6 (w64 (d + 1))),(.bool e)] fun p => .br (AV.pure p.v)
(.mid 5 qI17 8 (yS390 c f b d e a (w64 (1 + (Int.tmod a 2))) (w64 (b + 1)) (w64 (d + 1)) p.v)) .none)
(.br e
(.br (decide ((Int.tmod a 3) = 0))
(rt (.tuple [(.str [120,49]),(i6 (w64 (b + 1)))]))
(ixl 3 [(.str [112]),(.str [116,114,117,101]),(.str [102,97,108,115,101])] (Int.tmod (w64 (Int.tdiv a 3)) 3) fun u =>
(.mid 0 qI9 5 (zwn b a (w64 (Int.tdiv a 3)) (Int.tmod (w64 (Int.tdiv a 3)) 3) (AV.cells u)))))
(ixl 3 [(.str [112]),(.str [116,114,117,101]),(.str [102,97,108,115,101])] (Int.tmod (w64 (Int.tdiv a 3)) 3) fun w =>
(.mid 0 qI9 5 (zwn b a (w64 (Int.tdiv a 3)) (Int.tmod (w64 (Int.tdiv a 3)) 3) (AV.cells w)))))))))) := lM 25
theorem p41_14 {c a d e b} : LM C o 41 qI2 5 (zsz c a d e [(.str b)]) (rt (.tuple [(.str b),(i6 (w64 (c + 1)))])) := lM 1
theorem p41_15 {c a d e b} : LM C o 41 qI0 5 (zkh c a d e [(.str b)]) (rt (.tuple [(.str b),(i6 (w64 (c + 1)))])) := lM 1
theorem p41_16 {c a d e b} : LM C o 41 qI6 5 (zu3 c a d e [(.str b)]) (rt (.tuple [(.str b),(i6 (w64 (c + 1)))])) := lM 1
abbrev yS392 := fun (a : Bool) (b : List AV) c d e f g h i j => mk0 292 [vv 0 (.vs 1 a b),vi 2 c,vi 3 d,vb 4 e,vi 15 f,vt 16 g,vi 17 h,vv 80 (.vs 1 a b),vi 81 h,vi 82 c,vi 83 d,vi 84 i,vb 85 e,vv 86 j]
theorem p41_17 {a e i f j d k g b c l m h} : LM C o 41 qI18 8 (yS375 a f j b d e k i g l m (.tuple [(.str h),(i6 c)])) (cl0 41 [(.vs 1 a f),(i6 c),(i6 b),(i6 (w64 (d + 1))),(.bool e)] fun n => .br (AV.pure n.v)
(.mid 0 qI26 7 (yS392 a f b d e g h c (w64 (d + 1)) n.v)) .none) := lM 2
theorem p41_18 {b e f g h i c d j k a} : LM C o 41 qI14 8 (yS376 b f g c h e i j k (.tuple [(.str a),(i6 d)])) (.br (Nat.ble (1 + a.length) 4611686018427387904)
(rt (.tuple [(.str ([45] ++ a)),(i6 d)])) .none) := lM 3
abbrev yS393 := fun (a : Bool) (b : List AV) c d e f g h i j => mk0 292 [vv 0 (.vs 1 a b),vi 2 c,vi 3 d,vb 4 e,vi 22 f,vt 23 g,vi 24 h,vv 179 (.vs 1 a b),vi 180 h,vi 181 c,vi 182 d,vi 183 i,vb 184 e,vv 185 j]
theorem p41_19 {b e f k d l h c a i j g} : LM C o 41 qI19 8 (yS377 b f k c d e l h i j (.tuple [(.str g),(i6 a)])) (cl0 41 [(.vs 1 b f),(i6 a),(i6 c),(i6 (w64 (d + 1))),(.bool e)] fun m => .br (AV.pure m.v)
(.mid 0 qI27 7 (yS393 b f c d e h g a (w64 (d + 1)) m.v)) .none) := lM 2
theorem p41_20 {c g h i j k l d b e f a} : LM C o 41 qI20 8 (yS378 c h i d j g k l e f (.tuple [(.str a),(i6 b)])) (.br (Nat.ble (1 + a.length) 4611686018427387904)
(rt (.tuple [(.str ([33] ++ a)),(i6 b)])) .none) := lM 3
theorem p41_21 {c f g h i j k b d e a} : LM C o 41 qI21 7 (yS379 c g h i f j k d e (.tuple [(.str a),(i6 b)])) (.br (Nat.ble (10 + a.length) 4611686018427387904)
(.br (Nat.ble (([40,116,97,103,115,32,104,97,115,32] ++ a).length + 1) 4611686018427387904)
(rt (.tuple [(.str (([40,116,97,103,115,32,104,97,115,32] ++ a) ++ [41])),(i6 b)])) .none) .none) := lM 3
abbrev yS394 := fun (a : Bool) (b : List AV) c d e f g h i j => mk0 292 [vv 0 (.vs 1 a b),vi 3 c,vb 4 d,vi 13 e,vi 31 f,vt 32 g,vi 33 h,vv 254 (.vs 1 a b),vi 255 h,vi 256 f,vi 257 c,vi 258 i,vb 259 d,vv 260 j]
theorem p41_22 {c e f k d h b a i j g} : LM C o 41 qI15 8 (yS380 c f k d e h a i j (.tuple [(.str g),(i6 b)])) (cl0 41 [(.vs 1 c f),(i6 b),(i6 a),(i6 (w64 (d + 1))),(.bool e)] fun l => .br (AV.pure l.v)
(.mid 0 qI28 7 (yS394 c f d e h a g b (w64 (d + 1)) l.v)) .none) := lM 2
theorem p41_23 {e b c d a} : LM C o 41 qI7 5 (zwh e b c d [(.str a)]) (rt (.tuple [(.str a),(i6 (w64 (e + 1)))])) := lM 1
theorem p41_24 {e b c d a} : LM C o 41 qI3 5 (zt9 e b c d [(.str a)]) (rt (.tuple [(.str a),(i6 (w64 (e + 1)))])) := lM 1
theorem p41_25 {e b c d a} : LM C o 41 qI1 5 (zjw e b c d [(.str a)]) (rt (.tuple [(.str a),(i6 (w64 (e + 1)))])) := lM 1
theorem p41_26 {e b c d a} : LM C o 41 qI8 5 (zud e b c d [(.str a)]) (rt (.tuple [(.str a),(i6 (w64 (e + 1)))])) := lM 1
abbrev yS395 := fun (a : Bool) (b : List AV) c d e f g h i j => mk0 292 [vv 0 (.vs 1 a b),vi 2 c,vi 3 d,vb 4 e,vi 15 f,vt 16 g,vi 17 h,vv 80 (.vs 1 a b),vi 81 h,vi 82 c,vi 83 d,vi 84 i,vb 85 e,vv 86 j]
theorem p41_27 {b d k e l f c m h a i j g} : LM C o 41 qI22 8 (yS385 b e l f c d m k h i j (.tuple [(.str g),(i6 a)])) (cl0 41 [(.vs 1 b e),(i6 a),(i6 f),(i6 (w64 (c + 1))),(.bool d)] fun n => .br (AV.pure n.v)
(.mid 0 qI29 7 (yS395 b e f c d h g a (w64 (c + 1)) n.v)) .none) := lM 2
theorem p41_28 {c f g h i j k b d e a} : LM C o 41 qI16 8 (yS386 c g h i j f k d e (.tuple [(.str a),(i6 b)])) (.br (Nat.ble (1 + a.length) 4611686018427387904)
(rt (.tuple [(.str ([45] ++ a)),(i6 b)])) .none) := lM 3
abbrev yS396 := fun (a : Bool) (b : List AV) c d e f g h i j => mk0 292 [vv 0 (.vs 1 a b),vi 2 c,vi 3 d,vb 4 e,vi 22 f,vt 23 g,vi 24 h,vv 179 (.vs 1 a b),vi 180 h,vi 181 c,vi 182 d,vi 183 i,vb 184 e,vv 185 j]
theorem p41_29 {b d e k f c l h a i j g} : LM C o 41 qI23 8 (yS387 b e k f c d l h i j (.tuple [(.str g),(i6 a)])) (cl0 41 [(.vs 1 b e),(i6 a),(i6 f),(i6 (w64 (c + 1))),(.bool d)] fun m => .br (AV.pure m.v)
(.mid 0 qI30 7 (yS396 b e f c d h g a (w64 (c + 1)) m.v)) .none) := lM 2
theorem p41_30 {c f g h i j k l b d e a} : LM C o 41 qI24 8 (yS388 c g h i j f k l d e (.tuple [(.str a),(i6 b)])) (.br (Nat.ble (1 + a.length) 4611686018427387904)
(rt (.tuple [(.str ([33] ++ a)),(i6 b)])) .none) := lM 3
theorem p41_31 {c f g h i j k b d e a} : LM C o 41 qI25 7 (yS389 c g h i f j k d e (.tuple [(.str a),(i6 b)])) (.br (Nat.ble (10 + a.length) 4611686018427387904)
(.br (Nat.ble (([40,116,97,103,115,32,104,97,115,32] ++ a).length + 1) 4611686018427387904)
(rt (.tuple [(.str (([40,116,97,103,115,32,104,97,115,32] ++ a) ++ [41])),(i6 b)])) .none) .none) := lM 3
abbrev yS397 := fun (a : Bool) (b : List AV) c d e f g h i j => mk0 292 [vv 0 (.vs 1 a b),vi 3 c,vb 4 d,vi 13 e,vi 31 f,vt 32 g,vi 33 h,vv 254 (.vs 1 a b),vi 255 h,vi 256 f,vi 257 c,vi 258 i,vb 259 d,vv 260 j]
theorem p41_32 {c e f k d h b a i j g} : LM C o 41 qI17 8 (yS390 c f k d e h a i j (.tuple [(.str g),(i6 b)])) (cl0 41 [(.vs 1 c f),(i6 b),(i6 a),(i6 (w64 (d + 1))),(.bool e)] fun l => .br (AV.pure l.v)
(.mid 0 qI31 7 (yS397 c f d e h a g b (w64 (d + 1)) l.v)) .none) := lM 2
theorem p41_33 {e b c d a} : LM C o 41 qI9 5 (zwn e b c d [(.str a)]) (rt (.tuple [(.str a),(i6 (w64 (e + 1)))])) := lM 1
abbrev yS398 := fun a b c d e f => mkS 292 [vi 15 a,vt 16 b,vt 18 c,vi 19 d,vt 89 b,vt 90 e,vv 91 cI4,vi 92 a,vv 93 (.cptr f)] [] Hp.none 0
theorem p41_34 {e i j k b f g c h a d} : LM C o 41 qI26 7 (yS392 e j f k i b a g h (.tuple [(.str d),(i6 c)])) (.br (Nat.ble (1 + a.length) 4611686018427387904)
(ixl 3 [(.str [32,43,32]),(.str [32,45,32]),(.str [32,42,32])] b fun l =>
(.mid 0 qI32 5 (yS398 b a d c ([40] ++ a) (AV.cells l)))) .none) := lM 2
abbrev yS399 := fun a b c d e f => mkS 292 [vi 22 a,vt 23 b,vt 25 c,vi 26 d,vt 188 b,vt 189 e,vv 190 cI5,vi 191 a,vv 192 (.cptr f)] [] Hp.none 0
theorem p41_35 {f i j k b g c d h a e} : LM C o 41 qI27 7 (yS393 f j g k i b a c h (.tuple [(.str e),(i6 d)])) (.br (Nat.ble (1 + a.length) 4611686018427387904)
(ixl 2 [(.str [32,38,38,32]),(.str [32,124,124,32])] b fun l =>
(.mid 0 qI33 5 (yS399 b a e d ([40] ++ a) (AV.cells l)))) .none) := lM 2
abbrev yS400 := fun a b c d e f g h => mkS 292 [vi 13 a,vt 32 b,vt 34 c,vi 35 d,vt 263 b,vt 264 e,vv 265 cI6,vi 266 a,vi 267 f,vi 268 g,vv 269 (.cptr h)] [] Hp.none 0
theorem p41_36 {g i j k b c d e h a f} : LM C o 41 qI28 7 (yS394 g j k i b d a c h (.tuple [(.str f),(i6 e)])) (.br (Nat.ble (1 + a.length) 4611686018427387904)
(ixl 6 [(.str [32,61,61,32]),(.str [32,33,61,32]),(.str [32,60,32]),(.str [32,60,61,32]),(.str [32,62,32]),(.str [32,62,61,32])] (Int.tmod (w64 (Int.tdiv b 2)) 6) fun l =>
(.mid 0 qI34 7 (yS400 b a f e ([40] ++ a) (w64 (Int.tdiv b 2)) (Int.tmod (w64 (Int.tdiv b 2)) 6) (AV.cells l)))) .none) := lM 2
abbrev yS401 := fun a b c d e f => mkS 292 [vi 15 a,vt 16 b,vt 18 c,vi 19 d,vt 89 b,vt 90 e,vv 91 cI4,vi 92 a,vv 93 (.cptr f)] [] Hp.none 0
theorem p41_37 {f h i j k b c d g a e} : LM C o 41 qI29 7 (yS395 f i j k h b a c g (.tuple [(.str e),(i6 d)])) (.br (Nat.ble (1 + a.length) 4611686018427387904)
(ixl 3 [(.str [32,43,32]),(.str [32,45,32]),(.str [32,42,32])] b fun l =>
(.mid 0 qI35 5 (yS401 b a e d ([40] ++ a) (AV.cells l)))) .none) := lM 2
abbrev yS402 := fun a b c d e f => mkS 292 [vi 22 a,vt 23 b,vt 25 c,vi 26 d,vt 188 b,vt 189 e,vv 190 cI5,vi 191 a,vv 192 (.cptr f)] [] Hp.none 0
theorem p41_38 {f h i j k b c d g a e} : LM C o 41 qI30 7 (yS396 f i j k h b a c g (.tuple [(.str e),(i6 d)])) (.br (Nat.ble (1 + a.length) 4611686018427387904)
(ixl 2 [(.str [32,38,38,32]),(.str [32,124,124,32])] b fun l =>
(.mid 0 qI36 5 (yS402 b a e d ([40] ++ a) (AV.cells l)))) .none) := lM 2
abbrev yS403 := fun a b c d e f g h => mkS 292 [vi 13 a,vt 32 b,vt 34 c,vi 35 d,vt 263 b,vt 264 e,vv 265 cI6,vi 266 a,vi 267 f,vi 268 g,vv 269 (.cptr h)] [] Hp.none 0
theorem p41_39 {g i j k b c d e h a f} : LM C o 41 qI31 7 (yS397 g j k i b d a c h (.tuple [(.str f),(i6 e)])) (.br (Nat.ble (1 + a.length) 4611686018427387904)
(ixl 6 [(.str [32,61,61,32]),(.str [32,33,61,32]),(.str [32,60,32]),(.str [32,60,61,32]),(.str [32,62,32]),(.str [32,62,61,32])] (Int.tmod (w64 (Int.tdiv b 2)) 6) fun l =>
(.mid 0 qI37 7 (yS403 b a f e ([40] ++ a) (w64 (Int.tdiv b 2)) (Int.tmod (w64 (Int.tdiv b 2)) 6) (AV.cells l)))) .none) := lM 2
theorem p41_40 {e d f c a b} : LM C o 41 qI32 5 (yS398 e f c d b [(.str a)]) (.br (Nat.ble (b.length + a.length) 4611686018427387904)
(.br (Nat.ble ((b ++ a).length + c.length) 4611686018427387904)
(.br (Nat.ble (((b ++ a) ++ c).length + 1) 4611686018427387904)
(rt (.tuple [(.str (((b ++ a) ++ c) ++ [41])),(i6 d)])) .none) .none) .none) := lM 1
theorem p41_41 {f d e c a b} : LM C o 41 qI33 5 (yS399 f e c d b [(.str a)]) (.br (Nat.ble (b.length + a.length) 4611686018427387904)
(.br (Nat.ble ((b ++ a).length + c.length) 4611686018427387904)
(.br (Nat.ble (((b ++ a) ++ c).length + 1) 4611686018427387904)
(rt (.tuple [(.str (((b ++ a) ++ c) ++ [41])),(i6 d)])) .none) .none) .none) := lM 1
theorem p41_42 {f d g h e c a b} : LM C o 41 qI34 7 (yS400 f e c d b g h [(.str a)]) (.br (Nat.ble (b.length + a.length) 4611686018427387904)
(.br (Nat.ble ((b ++ a).length + c.length) 4611686018427387904)
(.br (Nat.ble (((b ++ a) ++ c).length + 1) 4611686018427387904)
(rt (.tuple [(.str (((b ++ a) ++ c) ++ [41])),(i6 d)])) .none) .none) .none) := lM 1
theorem p41_43 {f d e c a b} : LM C o 41 qI35 5 (yS401 f e c d b [(.str a)]) (.br (Nat.ble (b.length + a.length) 4611686018427387904)
(.br (Nat.ble ((b ++ a).length + c.length) 4611686018427387904)
(.br (Nat.ble (((b ++ a) ++ c).length + 1) 4611686018427387904)
(rt (.tuple [(.str (((b ++ a) ++ c) ++ [41])),(i6 d)])) .none) .none) .none) := lM 1
theorem p41_44 {f d e c a b} : LM C o 41 qI36 5 (yS402 f e c d b [(.str a)]) (.br (Nat.ble (b.length + a.length) 4611686018427387904)
(.br (Nat.ble ((b ++ a).length + c.length) 4611686018427387904)
(.br (Nat.ble (((b ++ a) ++ c).length + 1) 4611686018427387904)
(rt (.tuple [(.str (((b ++ a) ++ c) ++ [41])),(i6 d)])) .none) .none) .none) := lM 1
theorem p41_45 {f d g h e c a b} : LM C o 41 qI37 7 (yS403 f e c d b g h [(.str a)]) (.br (Nat.ble (b.length + a.length) 4611686018427387904)
(.br (Nat.ble ((b ++ a).length + c.length) 4611686018427387904)
(.br (Nat.ble (((b ++ a) ++ c).length + 1) 4611686018427387904)
(rt (.tuple [(.str (((b ++ a) ++ c) ++ [41])),(i6 d)])) .none) .none) .none) := lM 1
end
section
open Go Go.Vai
attribute [local irreducible] goTo zao mkS
variable {C : Nat→Oracle} (hC : Ext C)
include hC
set_option maxHeartbeats 8000000 in
theorem zox (tg : Bool) (l : List Int) (hl : l.length ≤ 1000000) (q : Bool) (B : Nat) (hB : B ≤ 100000) (d : Int) (hd : 0 ≤ d∧d ≤ 4) (ih : d ≤ 3→∀ a ty : Int,Was (calL C 41 [.vs 1 tg (ints l),.int .i64 a,.int .i64 ty,.int .i64 (d + 1),.bool q] Hp.none 0) (QP B)) (a ty : Int) :
  Was (calL C 41 [.vs 1 tg (ints l),.int .i64 a,.int .i64 ty,.int .i64 d,.bool q] Hp.none 0) (QP (2 * B + 50)):=by
 have w1 : w64 (d + 1) = d + 1 := zb1 (by omega) (by omega);refine exW (fun o=>p41_c hC) (exW (fun o=>p41_0) ?_);simp only [Tr.val,za3,AV.pure,za0,za1];refine .call (w34 hC _ _ (by omega) _) ?_;rintro o ⟨n,e⟩;simp only [e,AV.pure,za0];refine exW (fun o=>p41_1) ?_;simp only [Tr.val,za3,AV.pure,za0,za1];refine .call (w22 hC _ _ (by omega) (by omega)) ?_;rintro o ⟨x,e,h1,h2⟩;simp only [e,AV.pure,za0];refine exW (fun o=>p41_2) ?_;simp only [Tr.val,za3,AV.pure,za0,za1];obtain ⟨v,hv,hv0,hv1⟩ : ∃ v : Int,w64 (Int.tdiv x 16) = v∧0 ≤ v∧v ≤ 1099511627776:=by
  refine ⟨_,rfl,?_⟩;rw [Int.tdiv_eq_ediv_of_nonneg h1,zb1 (by omega) (by omega)];omega
 simp only [hv];have f1 : Int.tmod v 2 = v % 2 := Int.tmod_eq_emod_of_nonneg hv0;have f2 : Int.tmod v 3 = v % 3 := Int.tmod_eq_emod_of_nonneg hv0;have f3 : w64 (Int.tdiv v 2) = v / 2 := by rw [Int.tdiv_eq_ediv_of_nonneg hv0,zb1 (by omega) (by omega)]
 have f4 : w64 (Int.tdiv v 3) = v / 3 := by rw [Int.tdiv_eq_ediv_of_nonneg hv0,zb1 (by omega) (by omega)]
 have f5 : Int.tmod (v / 2) 4 = v / 2 % 4 := Int.tmod_eq_emod_of_nonneg (by omega);have f6 : Int.tmod (v / 2) 5 = v / 2 % 5 := Int.tmod_eq_emod_of_nonneg (by omega);have f7 : Int.tmod (v / 2) 6 = v / 2 % 6 := Int.tmod_eq_emod_of_nonneg (by omega);have f8 : Int.tmod (v / 3) 3 = v / 3 % 3 := Int.tmod_eq_emod_of_nonneg (by omega);clear hv e
 repeat' (first
  | refine .bL (by first | omega | (simp only [lnA,lnC,lnN,List.length_drop,List.length_take]; omega)) ?_
  | refine .bT (by omega) ?_
  | refine .bF (by omega) ?_
  | (refine .call (w34 hC _ _ (by omega) _) ?_; rintro o ⟨x,e⟩; simp only [e,AV.pure,za0]; clear e)
  | (refine .call (w22 hC _ _ (by omega) (by omega)) ?_; rintro o ⟨x,e,h1,h2⟩; simp only [e,AV.pure,za0]; clear e)
  | (refine .call (ih (by omega) _ _) ?_; rintro o ⟨s,x,e,h1⟩; simp only [e,AV.pure,za3,za0]; clear e)
  | (refine exW (fun o=>p41_3) ?_; simp only [Tr.val,za3,AV.pure,za0,AV.cells,za1,za4,bnT,bnF,w1,f1,f2,f3,f4,f5,f6,f7,f8])
  | (refine exW (fun o=>p41_4) ?_; simp only [Tr.val,za3,AV.pure,za0,AV.cells,za1,za4,bnT,bnF,w1,f1,f2,f3,f4,f5,f6,f7,f8])
  | (refine exW (fun o=>p41_5) ?_; simp only [Tr.val,za3,AV.pure,za0,AV.cells,za1,za4,bnT,bnF,w1,f1,f2,f3,f4,f5,f6,f7,f8])
  | (refine exW (fun o=>p41_6) ?_; simp only [Tr.val,za3,AV.pure,za0,AV.cells,za1,za4,bnT,bnF,w1,f1,f2,f3,f4,f5,f6,f7,f8])
  | (refine exW (fun o=>p41_7) ?_; simp only [Tr.val,za3,AV.pure,za0,AV.cells,za1,za4,bnT,bnF,w1,f1,f2,f3,f4,f5,f6,f7,f8])
  | (refine exW (fun o=>p41_8) ?_; simp only [Tr.val,za3,AV.pure,za0,AV.cells,za1,za4,bnT,bnF,w1,f1,f2,f3,f4,f5,f6,f7,f8])
  | (refine exW (fun o=>p41_9) ?_; simp only [Tr.val,za3,AV.pure,za0,AV.cells,za1,za4,bnT,bnF,w1,f1,f2,f3,f4,f5,f6,f7,f8])
  | (refine exW (fun o=>p41_10) ?_; simp only [Tr.val,za3,AV.pure,za0,AV.cells,za1,za4,bnT,bnF,w1,f1,f2,f3,f4,f5,f6,f7,f8])
  | (refine exW (fun o=>p41_11) ?_; simp only [Tr.val,za3,AV.pure,za0,AV.cells,za1,za4,bnT,bnF,w1,f1,f2,f3,f4,f5,f6,f7,f8])
  | (refine exW (fun o=>p41_12) ?_; simp only [Tr.val,za3,AV.pure,za0,AV.cells,za1,za4,bnT,bnF,w1,f1,f2,f3,f4,f5,f6,f7,f8])
  | (refine exW (fun o=>p41_13) ?_; simp only [Tr.val,za3,AV.pure,za0,AV.cells,za1,za4,bnT,bnF,w1,f1,f2,f3,f4,f5,f6,f7,f8])
  | (refine exW (fun o=>p41_14) ?_; simp only [Tr.val,za3,AV.pure,za0,AV.cells,za1,za4,bnT,bnF,w1,f1,f2,f3,f4,f5,f6,f7,f8])
  | (refine exW (fun o=>p41_15) ?_; simp only [Tr.val,za3,AV.pure,za0,AV.cells,za1,za4,bnT,bnF,w1,f1,f2,f3,f4,f5,f6,f7,f8])
  | (refine exW (fun o=>p41_16) ?_; simp only [Tr.val,za3,AV.pure,za0,AV.cells,za1,za4,bnT,bnF,w1,f1,f2,f3,f4,f5,f6,f7,f8])
  | (refine exW (fun o=>p41_17) ?_; simp only [Tr.val,za3,AV.pure,za0,AV.cells,za1,za4,bnT,bnF,w1,f1,f2,f3,f4,f5,f6,f7,f8])
  | (refine exW (fun o=>p41_18) ?_; simp only [Tr.val,za3,AV.pure,za0,AV.cells,za1,za4,bnT,bnF,w1,f1,f2,f3,f4,f5,f6,f7,f8])
  | (refine exW (fun o=>p41_19) ?_; simp only [Tr.val,za3,AV.pure,za0,AV.cells,za1,za4,bnT,bnF,w1,f1,f2,f3,f4,f5,f6,f7,f8])
  | (refine exW (fun o=>p41_20) ?_; simp only [Tr.val,za3,AV.pure,za0,AV.cells,za1,za4,bnT,bnF,w1,f1,f2,f3,f4,f5,f6,f7,f8])
  | (refine exW (fun o=>p41_21) ?_; simp only [Tr.val,za3,AV.pure,za0,AV.cells,za1,za4,bnT,bnF,w1,f1,f2,f3,f4,f5,f6,f7,f8])
  | (refine exW (fun o=>p41_22) ?_; simp only [Tr.val,za3,AV.pure,za0,AV.cells,za1,za4,bnT,bnF,w1,f1,f2,f3,f4,f5,f6,f7,f8])
  | (refine exW (fun o=>p41_23) ?_; simp only [Tr.val,za3,AV.pure,za0,AV.cells,za1,za4,bnT,bnF,w1,f1,f2,f3,f4,f5,f6,f7,f8])
  | (refine exW (fun o=>p41_24) ?_; simp only [Tr.val,za3,AV.pure,za0,AV.cells,za1,za4,bnT,bnF,w1,f1,f2,f3,f4,f5,f6,f7,f8])
  | (refine exW (fun o=>p41_25) ?_; simp only [Tr.val,za3,AV.pure,za0,AV.cells,za1,za4,bnT,bnF,w1,f1,f2,f3,f4,f5,f6,f7,f8])
  | (refine exW (fun o=>p41_26) ?_; simp only [Tr.val,za3,AV.pure,za0,AV.cells,za1,za4,bnT,bnF,w1,f1,f2,f3,f4,f5,f6,f7,f8])
  | (refine exW (fun o=>p41_27) ?_; simp only [Tr.val,za3,AV.pure,za0,AV.cells,za1,za4,bnT,bnF,w1,f1,f2,f3,f4,f5,f6,f7,f8])
  | (refine exW (fun o=>p41_28) ?_; simp only [Tr.val,za3,AV.pure,za0,AV.cells,za1,za4,bnT,bnF,w1,f1,f2,f3,f4,f5,f6,f7,f8])
  | (refine exW (fun o=>p41_29) ?_; simp only [Tr.val,za3,AV.pure,za0,AV.cells,za1,za4,bnT,bnF,w1,f1,f2,f3,f4,f5,f6,f7,f8])
  | (refine exW (fun o=>p41_30) ?_; simp only [Tr.val,za3,AV.pure,za0,AV.cells,za1,za4,bnT,bnF,w1,f1,f2,f3,f4,f5,f6,f7,f8])
  | (refine exW (fun o=>p41_31) ?_; simp only [Tr.val,za3,AV.pure,za0,AV.cells,za1,za4,bnT,bnF,w1,f1,f2,f3,f4,f5,f6,f7,f8])
  | (refine exW (fun o=>p41_32) ?_; simp only [Tr.val,za3,AV.pure,za0,AV.cells,za1,za4,bnT,bnF,w1,f1,f2,f3,f4,f5,f6,f7,f8])
  | (refine exW (fun o=>p41_33) ?_; simp only [Tr.val,za3,AV.pure,za0,AV.cells,za1,za4,bnT,bnF,w1,f1,f2,f3,f4,f5,f6,f7,f8])
  | (refine exW (fun o=>p41_34) ?_; simp only [Tr.val,za3,AV.pure,za0,AV.cells,za1,za4,bnT,bnF,w1,f1,f2,f3,f4,f5,f6,f7,f8])
  | (refine exW (fun o=>p41_35) ?_; simp only [Tr.val,za3,AV.pure,za0,AV.cells,za1,za4,bnT,bnF,w1,f1,f2,f3,f4,f5,f6,f7,f8])
  | (refine exW (fun o=>p41_36) ?_; simp only [Tr.val,za3,AV.pure,za0,AV.cells,za1,za4,bnT,bnF,w1,f1,f2,f3,f4,f5,f6,f7,f8])
  | (refine exW (fun o=>p41_37) ?_; simp only [Tr.val,za3,AV.pure,za0,AV.cells,za1,za4,bnT,bnF,w1,f1,f2,f3,f4,f5,f6,f7,f8])
  | (refine exW (fun o=>p41_38) ?_; simp only [Tr.val,za3,AV.pure,za0,AV.cells,za1,za4,bnT,bnF,w1,f1,f2,f3,f4,f5,f6,f7,f8])
  | (refine exW (fun o=>p41_39) ?_; simp only [Tr.val,za3,AV.pure,za0,AV.cells,za1,za4,bnT,bnF,w1,f1,f2,f3,f4,f5,f6,f7,f8])
  | (refine exW (fun o=>p41_40) ?_; simp only [Tr.val,za3,AV.pure,za0,AV.cells,za1,za4,bnT,bnF,w1,f1,f2,f3,f4,f5,f6,f7,f8])
  | (refine exW (fun o=>p41_41) ?_; simp only [Tr.val,za3,AV.pure,za0,AV.cells,za1,za4,bnT,bnF,w1,f1,f2,f3,f4,f5,f6,f7,f8])
  | (refine exW (fun o=>p41_42) ?_; simp only [Tr.val,za3,AV.pure,za0,AV.cells,za1,za4,bnT,bnF,w1,f1,f2,f3,f4,f5,f6,f7,f8])
  | (refine exW (fun o=>p41_43) ?_; simp only [Tr.val,za3,AV.pure,za0,AV.cells,za1,za4,bnT,bnF,w1,f1,f2,f3,f4,f5,f6,f7,f8])
  | (refine exW (fun o=>p41_44) ?_; simp only [Tr.val,za3,AV.pure,za0,AV.cells,za1,za4,bnT,bnF,w1,f1,f2,f3,f4,f5,f6,f7,f8])
  | (refine exW (fun o=>p41_45) ?_; simp only [Tr.val,za3,AV.pure,za0,AV.cells,za1,za4,bnT,bnF,w1,f1,f2,f3,f4,f5,f6,f7,f8])
  | (refine .nth (B := 20) rfl (by simp only [lnC,lnN]; omega) fun s hs=>?_; simp only [AV.cells])
  | exact .mk ⟨_,_,rfl,by first | omega | (simp only [lnA,lnC,lnN,List.length_drop,List.length_take]; omega)⟩
  | refine .dec (fun h=>?_) (fun h=>?_)
  | refine .both (fun h=>?_) (fun h=>?_))
theorem w41 (tg : Bool) (l : List Int) (hl : l.length ≤ 1000000) (a ty : Int) (q : Bool) : Was (calL C 41 [.vs 1 tg (ints l),.int .i64 a,.int .i64 ty,.int .i64 0,.bool q] Hp.none 0) (QP 3000):=by
 have s4 := zox hC tg l hl q 0 (by decide) 4 (by decide) (fun h=>absurd h (by decide));have s3 := zox hC tg l hl q _ (by decide) 3 (by decide) (fun _=>s4);have s2 := zox hC tg l hl q _ (by decide) 2 (by decide) (fun _=>s3);have s1 := zox hC tg l hl q _ (by decide) 1 (by decide) (fun _=>s2);have s0 := zox hC tg l hl q _ (by decide) 0 (by decide) (fun _=>s1);exact (s0 a ty).imp fun o ⟨s,x,e1,e2⟩=>⟨s,x,e1,Nat.le_trans e2 (by decide)⟩
end
section
open Go Go.Vai
attribute [local irreducible] goTo zao mkS
variable {C : Nat → Oracle} {o : Out}
abbrev cL0 : AV := (.vs 1 true [(.str [105,110,100,101,120,32,111,119,110,101,114,59,32]),(.str [105,110,100,101,120,32,116,97,103,115,59,32]),(.str [105,110,100,101,120,32,97,59,32]),(.str [])])
abbrev qL0 : List Nat := Q0t
abbrev qL1 : List Nat := Q2n
abbrev qL2 : List Nat := Q2x
abbrev qL3 : List Nat := Q7e
abbrev qL4 : List Nat := Q7f
abbrev qL5 : List Nat := Q77
abbrev qL6 : List Nat := Q7j
abbrev qL7 : List Nat := Q81
abbrev qL8 : List Nat := Q8g
abbrev qL9 : List Nat := Q8h
abbrev qL10 : List Nat := Q3l
abbrev qL11 : List Nat := Q4j
abbrev qL12 : List Nat := Q6w
abbrev qL13 : List Nat := Q6x
abbrev qL14 : List Nat := Q6k
abbrev qL15 : List Nat := Q71
abbrev qL16 : List Nat := Q7h
abbrev qL17 : List Nat := Q7w
abbrev qL18 : List Nat := Q7x
abbrev qL19 : List Nat := Q75
abbrev qL20 : List Nat := Q76
abbrev qL21 : List Nat := Q6y
abbrev qL22 : List Nat := Q79
abbrev qL23 : List Nat := Q7n
abbrev qL24 : List Nat := Q86
abbrev qL25 : List Nat := Q87
abbrev qL26 : List Nat := Q7l
abbrev qL27 : List Nat := Q7m
abbrev qL28 : List Nat := Q7g
abbrev qL29 : List Nat := Q7v
abbrev qL30 : List Nat := Q8c
abbrev qL31 : List Nat := Q8q
abbrev qL32 : List Nat := Q8r
theorem p19_c (hC : Ext C) {a : Bool} {b : List AV} : LC C o 19 (mk0 112 [vv 0 (.vs 1 a b)]) [(.vs 1 a b)] Hp.none 0 := lC hC
abbrev znl := fun (a : Bool) (b : List AV) c d e => mk0 112 [vv 0 (.vs 1 a b),vt 3 c,vi 4 d,vi 5 e]
theorem p19_0 {a b} : LR C o 19 [] (mk0 112 [vv 0 (.vs 1 a b)]) (.run 0 qL0 (znl a b [116,121,112,101,32,116,32,123,32,114,101,103,105,115,116,101,114,32,111,119,110,101,114,32,116,101,120,116,59,32,114,101,103,105,115,116,101,114,32,97,32,105,110,116,59,32,99,111,117,110,116,101,114,32,98,59,32,109,97,120,32,99,59,32,115,101,116,32,116,97,103,115,59,32,102,108,97,103,32,120,49,59,32] 0 0)) := lR 11
abbrev yS407 := fun (a : Bool) (b : List AV) c d e f => mkS 112 [vv 0 (.vs 1 a b),vt 3 c,vi 4 d,vi 5 e,vb 15 false,vt 102 c,vv 103 cL0,vv 104 (.vs 1 a b),vi 105 d,f] [] Hp.none 0
theorem p19_1 {a b d c e} : LR C o 19 qL0 (znl a b d c e) (.br (decide (e < 3))
(cl0 34 [(.vs 1 a b),(i6 c)] fun f => .br (AV.pure f.v)
(.mid 0 Q2e 3 (mk0 112 [vv 0 (.vs 1 a b),vt 3 d,vi 4 c,vi 5 e,vb 15 true,vv 18 (.vs 1 a b),vi 19 c,vv 20 f.v])) .none)
(cl0 34 [(.vs 1 a b),(i6 c)] fun g => .br (AV.pure g.v)
(.mid 2 qL1 5 (yS407 a b d c e (vv 106 g.v))) .none)) := lR 9
theorem p19_2 {a c e b f d} : LM C o 19 Q2e 3 (mk0 112 [vv 0 (.vs 1 a c),vt 3 e,vi 4 b,vi 5 f,vb 15 true,vv 18 (.vs 1 a c),vi 19 b,vi 20 d]) (cl0 22 [(i6 d),(i6 3)] fun g => .br (AV.pure g.v)
(.mid 0 qL2 5 (mk0 112 [vv 0 (.vs 1 a c),vt 3 e,vi 4 b,vi 5 f,vi 6 d,vv 22 (.vs 1 a c),vi 23 b,vi 24 (w64 (b + 1)),vi 25 d,vv 26 g.v])) .none) := lM 2
abbrev yS409 := fun (a : Bool) (b : List AV) c d e f g => mkS 112 [vv 0 (.vs 1 a b),vt 3 c,vi 4 d,vi 5 e,vb 15 false,vt 102 c,vv 103 cL0,vv 104 (.vs 1 a b),vi 105 d,vi 106 f,g] [] Hp.none 0
theorem p19_3 {a b c d f e} : LM C o 19 qL1 5 (yS407 a b c d f (vi 106 e)) (cl0 22 [(i6 e),(i6 4)] fun g => .br (AV.pure g.v)
(.mid 0 qL1 6 (yS409 a b c d f e (vv 107 g.v))) .none) := lM 0
theorem p19_4 {a c g e h f b d} : LM C o 19 qL2 5 (mk0 112 [vv 0 (.vs 1 a c),vt 3 g,vi 4 e,vi 5 h,vi 6 f,vv 22 (.vs 1 a c),vi 23 e,vi 24 d,vi 25 f,vi 26 b]) (cl0 41 [(.vs 1 a c),(i6 d),(i6 (w64 (b + 1))),(i6 0),(.bool false)] fun i => .br (AV.pure i.v)
(.mid 0 qL2 7 (mk0 112 [vv 0 (.vs 1 a c),vt 3 g,vi 4 e,vi 5 h,vi 6 f,vv 22 (.vs 1 a c),vi 23 e,vi 24 d,vi 25 f,vi 26 b,vi 27 (w64 (b + 1)),vv 28 i.v])) .none) := lM 0
abbrev yS411 := fun (a : Bool) (b : List AV) c d e f g h => mkS 112 [vv 0 (.vs 1 a b),vt 3 c,vi 4 d,vi 5 e,vb 15 false,vt 102 c,vv 103 cL0,vv 104 (.vs 1 a b),vi 105 d,vi 106 f,vi 107 g,vv 108 (.cptr h)] [] Hp.none 0
theorem p19_5 {a c d e f g b} : LM C o 19 qL1 6 (yS409 a c d e f g (vi 107 b)) (ixl 4 [(.str [105,110,100,101,120,32,111,119,110,101,114,59,32]),(.str [105,110,100,101,120,32,116,97,103,115,59,32]),(.str [105,110,100,101,120,32,97,59,32]),(.str [])] b fun h =>
(.mid 0 qL1 7 (yS411 a c d e f g b (AV.cells h)))) := lM 0
theorem p19_6 {a e f c g h b i j d k} : LM C o 19 qL2 7 (mk0 112 [vv 0 (.vs 1 a e),vt 3 f,vi 4 g,vi 5 h,vi 6 b,vv 22 (.vs 1 a e),vi 23 g,vi 24 j,vi 25 b,vi 26 i,vi 27 k,vv 28 (.tuple [(.str c),(i6 d)])]) (cl0 22 [(i6 b),(i6 3)] fun l => .br (AV.pure l.v)
(.mid 0 qL10 2 (mk0 112 [vv 0 (.vs 1 a e),vt 3 f,vi 5 h,vi 6 b,vt 7 c,vi 8 d,vi 31 b,vv 32 l.v])) .none) := lM 2
theorem p19_7 {c d b a e g h f} : LM C o 19 qL1 7 (yS411 c d b e g h f [(.str a)]) (.br (Nat.ble (b.length + a.length) 4611686018427387904)
(.br (Nat.ble ((b ++ a).length + 1) 4611686018427387904)
(rt (.str ((b ++ a) ++ [125]))) .none) .none) := lM 1
theorem p19_8 {b f g c h a d e} : LM C o 19 qL10 2 (mk0 112 [vv 0 (.vs 1 b f),vt 3 g,vi 5 h,vi 6 a,vt 7 c,vi 8 d,vi 31 a,vi 32 e]) (cl0 22 [(i6 (w64 (Int.tdiv a 3))),(i6 6)] fun i => .br (AV.pure i.v)
(.mid 0 qL11 3 (mk0 112 [vv 0 (.vs 1 b f),vt 3 g,vi 5 h,vi 6 a,vt 7 c,vi 8 d,vi 9 (w64 (e + 1)),vi 34 a,vi 35 (w64 (Int.tdiv a 3)),vv 36 i.v])) .none) := lM 5
theorem p19_9 {d g b a c i e f h j} : LM C o 19 qL11 3 (mk0 112 [vv 0 (.vs 1 d g),vt 3 b,vi 5 c,vi 6 i,vt 7 a,vi 8 e,vi 9 h,vi 34 i,vi 35 j,vi 36 f]) (.br (decide (f = 0))
(.br (Nat.ble (10 + a.length) 4611686018427387904)
(.br (Nat.ble (([119,114,105,116,101,32,97,32,61,32] ++ a).length + 1) 4611686018427387904)
(.br (decide (h = 2))
(.br (Nat.ble (14 + a.length) 4611686018427387904)
(.br (Nat.ble (([119,114,105,116,101,32,111,119,110,101,114,32,61,32] ++ a).length + 1) 4611686018427387904)
(.br (Nat.ble (b.length + 4) 4611686018427387904)
(cl0 29 [(i6 c)] fun r => .br (AV.pure r.v)
(.mid 7 qL12 4 (mk0 112 [vv 0 (.vs 1 d g),vt 3 b,vi 5 c,vi 8 e,vt 10 (([119,114,105,116,101,32,111,119,110,101,114,32,61,32] ++ a) ++ [59]),vt 70 b,vt 71 (b ++ [111,112,32,102]),vi 72 c,vv 73 r.v])) .none) .none) .none) .none)
(.br (Nat.ble (b.length + 4) 4611686018427387904)
(cl0 29 [(i6 c)] fun k => .br (AV.pure k.v)
(.mid 7 qL13 4 (mk0 112 [vv 0 (.vs 1 d g),vt 3 b,vi 5 c,vt 7 a,vi 8 e,vt 10 (([119,114,105,116,101,32,97,32,61,32] ++ a) ++ [59]),vb 46 false,vt 70 b,vt 71 (b ++ [111,112,32,102]),vi 72 c,vv 73 k.v])) .none) .none)) .none) .none)
(.br (decide (f = 1))
(.br (Nat.ble (8 + a.length) 4611686018427387904)
(.br (Nat.ble (([97,100,100,32,98,32,61,32] ++ a).length + 14) 4611686018427387904)
(.br (Nat.ble (b.length + 4) 4611686018427387904)
(cl0 29 [(i6 c)] fun l => .br (AV.pure l.v)
(.mid 9 qL14 4 (mk0 112 [vv 0 (.vs 1 d g),vt 3 b,vi 5 c,vi 8 e,vt 10 (([97,100,100,32,98,32,61,32] ++ a) ++ [59,32,114,97,105,115,101,32,99,32,61,32,110,59]),vt 70 b,vt 71 (b ++ [111,112,32,102]),vi 72 c,vv 73 l.v])) .none) .none) .none) .none)
(.br (decide (f = 2))
(.br (Nat.ble (14 + a.length) 4611686018427387904)
(.br (Nat.ble (([105,110,115,101,114,116,32,116,97,103,115,32,61,32] ++ a).length + 10) 4611686018427387904)
(.br (Nat.ble (b.length + 4) 4611686018427387904)
(cl0 29 [(i6 c)] fun m => .br (AV.pure m.v)
(.mid 6 qL15 4 (mk0 112 [vv 0 (.vs 1 d g),vt 3 b,vi 5 c,vi 8 e,vt 10 (([105,110,115,101,114,116,32,116,97,103,115,32,61,32] ++ a) ++ [59,32,109,97,114,107,32,120,49,59]),vt 70 b,vt 71 (b ++ [111,112,32,102]),vi 72 c,vv 73 m.v])) .none) .none) .none) .none)
(.br (decide (f = 3))
(.br (Nat.ble (3 + a.length) 4611686018427387904)
(.br (Nat.ble (([105,102,32] ++ a).length + 13) 4611686018427387904)
(.br (Nat.ble (b.length + 4) 4611686018427387904)
(cl0 29 [(i6 c)] fun n => .br (AV.pure n.v)
(.mid 3 qL16 4 (mk0 112 [vv 0 (.vs 1 d g),vt 3 b,vi 5 c,vi 8 e,vt 10 (([105,102,32] ++ a) ++ [32,123,32,109,97,114,107,32,120,49,59,32,125]),vt 70 b,vt 71 (b ++ [111,112,32,102]),vi 72 c,vv 73 n.v])) .none) .none) .none) .none)
(.br (decide (f = 4))
(.br (Nat.ble (3 + a.length) 4611686018427387904)
(.br (Nat.ble (([105,102,32] ++ a).length + 54) 4611686018427387904)
(.br (Nat.ble (b.length + 4) 4611686018427387904)
(cl0 29 [(i6 c)] fun p => .br (AV.pure p.v)
(.mid 0 qL17 4 (mk0 112 [vv 0 (.vs 1 d g),vt 3 b,vi 5 c,vi 8 e,vt 10 (([105,102,32] ++ a) ++ [32,123,32,97,100,100,32,98,32,61,32,110,59,32,125,32,101,108,115,101,32,123,32,105,110,115,101,114,116,32,116,97,103,115,32,61,32,119,59,32,114,97,105,115,101,32,99,32,61,32,51,59,32,125]),vt 70 b,vt 71 (b ++ [111,112,32,102]),vi 72 c,vv 73 p.v])) .none) .none) .none) .none)
(.br (Nat.ble (17 + a.length) 4611686018427387904)
(.br (Nat.ble (([109,97,114,107,32,120,49,59,32,97,100,100,32,98,32,61,32] ++ a).length + 1) 4611686018427387904)
(.br (Nat.ble (b.length + 4) 4611686018427387904)
(cl0 29 [(i6 c)] fun q => .br (AV.pure q.v)
(.mid 0 qL18 4 (mk0 112 [vv 0 (.vs 1 d g),vt 3 b,vi 5 c,vi 8 e,vt 10 (([109,97,114,107,32,120,49,59,32,97,100,100,32,98,32,61,32] ++ a) ++ [59]),vt 70 b,vt 71 (b ++ [111,112,32,102]),vi 72 c,vv 73 q.v])) .none) .none) .none) .none)))))) := lM 20
theorem p19_10 {c f h a d b g e} : LM C o 19 qL12 4 (mk0 112 [vv 0 (.vs 1 c f),vt 3 h,vi 5 g,vi 8 e,vt 10 d,vt 70 h,vt 71 b,vi 72 g,vt 73 a]) (.br (Nat.ble (b.length + a.length) 4611686018427387904)
(.br (Nat.ble ((b ++ a).length + 26) 4611686018427387904)
(.br (Nat.ble (((b ++ a) ++ [40,110,32,105,110,116,44,32,119,32,116,101,120,116,44,32,112,32,98,111,111,108,41,32,123,32]).length + d.length) 4611686018427387904)
(.br (Nat.ble ((((b ++ a) ++ [40,110,32,105,110,116,44,32,119,32,116,101,120,116,44,32,112,32,98,111,111,108,41,32,123,32]) ++ d).length + 3) 4611686018427387904)
(cl0 34 [(.vs 1 c f),(i6 e)] fun i => .br (AV.pure i.v)
(.mid 0 qL19 3 (mk0 112 [vv 0 (.vs 1 c f),vt 3 ((((b ++ a) ++ [40,110,32,105,110,116,44,32,119,32,116,101,120,116,44,32,112,32,98,111,111,108,41,32,123,32]) ++ d) ++ [32,125,32]),vi 5 g,vi 8 e,vv 79 (.vs 1 c f),vi 80 e,vv 81 i.v])) .none) .none) .none) .none) .none) := lM 2
theorem p19_11 {c f h i a d b g e} : LM C o 19 qL13 4 (mk0 112 [vv 0 (.vs 1 c f),vt 3 h,vi 5 g,vt 7 i,vi 8 e,vt 10 d,vb 46 false,vt 70 h,vt 71 b,vi 72 g,vt 73 a]) (.br (Nat.ble (b.length + a.length) 4611686018427387904)
(.br (Nat.ble ((b ++ a).length + 26) 4611686018427387904)
(.br (Nat.ble (((b ++ a) ++ [40,110,32,105,110,116,44,32,119,32,116,101,120,116,44,32,112,32,98,111,111,108,41,32,123,32]).length + d.length) 4611686018427387904)
(.br (Nat.ble ((((b ++ a) ++ [40,110,32,105,110,116,44,32,119,32,116,101,120,116,44,32,112,32,98,111,111,108,41,32,123,32]) ++ d).length + 3) 4611686018427387904)
(cl0 34 [(.vs 1 c f),(i6 e)] fun j => .br (AV.pure j.v)
(.mid 0 qL20 3 (mk0 112 [vv 0 (.vs 1 c f),vt 3 ((((b ++ a) ++ [40,110,32,105,110,116,44,32,119,32,116,101,120,116,44,32,112,32,98,111,111,108,41,32,123,32]) ++ d) ++ [32,125,32]),vi 5 g,vi 8 e,vv 79 (.vs 1 c f),vi 80 e,vv 81 j.v])) .none) .none) .none) .none) .none) := lM 2
theorem p19_12 {c f h a d b g e} : LM C o 19 qL14 4 (mk0 112 [vv 0 (.vs 1 c f),vt 3 h,vi 5 g,vi 8 e,vt 10 d,vt 70 h,vt 71 b,vi 72 g,vt 73 a]) (.br (Nat.ble (b.length + a.length) 4611686018427387904)
(.br (Nat.ble ((b ++ a).length + 26) 4611686018427387904)
(.br (Nat.ble (((b ++ a) ++ [40,110,32,105,110,116,44,32,119,32,116,101,120,116,44,32,112,32,98,111,111,108,41,32,123,32]).length + d.length) 4611686018427387904)
(.br (Nat.ble ((((b ++ a) ++ [40,110,32,105,110,116,44,32,119,32,116,101,120,116,44,32,112,32,98,111,111,108,41,32,123,32]) ++ d).length + 3) 4611686018427387904)
(cl0 34 [(.vs 1 c f),(i6 e)] fun i => .br (AV.pure i.v)
(.mid 0 qL21 3 (mk0 112 [vv 0 (.vs 1 c f),vt 3 ((((b ++ a) ++ [40,110,32,105,110,116,44,32,119,32,116,101,120,116,44,32,112,32,98,111,111,108,41,32,123,32]) ++ d) ++ [32,125,32]),vi 5 g,vi 8 e,vv 79 (.vs 1 c f),vi 80 e,vv 81 i.v])) .none) .none) .none) .none) .none) := lM 2
theorem p19_13 {c f h a d b g e} : LM C o 19 qL15 4 (mk0 112 [vv 0 (.vs 1 c f),vt 3 h,vi 5 g,vi 8 e,vt 10 d,vt 70 h,vt 71 b,vi 72 g,vt 73 a]) (.br (Nat.ble (b.length + a.length) 4611686018427387904)
(.br (Nat.ble ((b ++ a).length + 26) 4611686018427387904)
(.br (Nat.ble (((b ++ a) ++ [40,110,32,105,110,116,44,32,119,32,116,101,120,116,44,32,112,32,98,111,111,108,41,32,123,32]).length + d.length) 4611686018427387904)
(.br (Nat.ble ((((b ++ a) ++ [40,110,32,105,110,116,44,32,119,32,116,101,120,116,44,32,112,32,98,111,111,108,41,32,123,32]) ++ d).length + 3) 4611686018427387904)
(cl0 34 [(.vs 1 c f),(i6 e)] fun i => .br (AV.pure i.v)
(.mid 0 qL22 3 (mk0 112 [vv 0 (.vs 1 c f),vt 3 ((((b ++ a) ++ [40,110,32,105,110,116,44,32,119,32,116,101,120,116,44,32,112,32,98,111,111,108,41,32,123,32]) ++ d) ++ [32,125,32]),vi 5 g,vi 8 e,vv 79 (.vs 1 c f),vi 80 e,vv 81 i.v])) .none) .none) .none) .none) .none) := lM 2
theorem p19_14 {c f h a d b g e} : LM C o 19 qL16 4 (mk0 112 [vv 0 (.vs 1 c f),vt 3 h,vi 5 g,vi 8 e,vt 10 d,vt 70 h,vt 71 b,vi 72 g,vt 73 a]) (.br (Nat.ble (b.length + a.length) 4611686018427387904)
(.br (Nat.ble ((b ++ a).length + 26) 4611686018427387904)
(.br (Nat.ble (((b ++ a) ++ [40,110,32,105,110,116,44,32,119,32,116,101,120,116,44,32,112,32,98,111,111,108,41,32,123,32]).length + d.length) 4611686018427387904)
(.br (Nat.ble ((((b ++ a) ++ [40,110,32,105,110,116,44,32,119,32,116,101,120,116,44,32,112,32,98,111,111,108,41,32,123,32]) ++ d).length + 3) 4611686018427387904)
(cl0 34 [(.vs 1 c f),(i6 e)] fun i => .br (AV.pure i.v)
(.mid 0 qL23 3 (mk0 112 [vv 0 (.vs 1 c f),vt 3 ((((b ++ a) ++ [40,110,32,105,110,116,44,32,119,32,116,101,120,116,44,32,112,32,98,111,111,108,41,32,123,32]) ++ d) ++ [32,125,32]),vi 5 g,vi 8 e,vv 79 (.vs 1 c f),vi 80 e,vv 81 i.v])) .none) .none) .none) .none) .none) := lM 2
theorem p19_15 {c f h a d b g e} : LM C o 19 qL17 4 (mk0 112 [vv 0 (.vs 1 c f),vt 3 h,vi 5 g,vi 8 e,vt 10 d,vt 70 h,vt 71 b,vi 72 g,vt 73 a]) (.br (Nat.ble (b.length + a.length) 4611686018427387904)
(.br (Nat.ble ((b ++ a).length + 26) 4611686018427387904)
(.br (Nat.ble (((b ++ a) ++ [40,110,32,105,110,116,44,32,119,32,116,101,120,116,44,32,112,32,98,111,111,108,41,32,123,32]).length + d.length) 4611686018427387904)
(.br (Nat.ble ((((b ++ a) ++ [40,110,32,105,110,116,44,32,119,32,116,101,120,116,44,32,112,32,98,111,111,108,41,32,123,32]) ++ d).length + 3) 4611686018427387904)
(cl0 34 [(.vs 1 c f),(i6 e)] fun i => .br (AV.pure i.v)
(.mid 0 qL24 3 (mk0 112 [vv 0 (.vs 1 c f),vt 3 ((((b ++ a) ++ [40,110,32,105,110,116,44,32,119,32,116,101,120,116,44,32,112,32,98,111,111,108,41,32,123,32]) ++ d) ++ [32,125,32]),vi 5 g,vi 8 e,vv 79 (.vs 1 c f),vi 80 e,vv 81 i.v])) .none) .none) .none) .none) .none) := lM 2
theorem p19_16 {c f h a d b g e} : LM C o 19 qL18 4 (mk0 112 [vv 0 (.vs 1 c f),vt 3 h,vi 5 g,vi 8 e,vt 10 d,vt 70 h,vt 71 b,vi 72 g,vt 73 a]) (.br (Nat.ble (b.length + a.length) 4611686018427387904)
(.br (Nat.ble ((b ++ a).length + 26) 4611686018427387904)
(.br (Nat.ble (((b ++ a) ++ [40,110,32,105,110,116,44,32,119,32,116,101,120,116,44,32,112,32,98,111,111,108,41,32,123,32]).length + d.length) 4611686018427387904)
(.br (Nat.ble ((((b ++ a) ++ [40,110,32,105,110,116,44,32,119,32,116,101,120,116,44,32,112,32,98,111,111,108,41,32,123,32]) ++ d).length + 3) 4611686018427387904)
(cl0 34 [(.vs 1 c f),(i6 e)] fun i => .br (AV.pure i.v)
(.mid 0 qL25 3 (mk0 112 [vv 0 (.vs 1 c f),vt 3 ((((b ++ a) ++ [40,110,32,105,110,116,44,32,119,32,116,101,120,116,44,32,112,32,98,111,111,108,41,32,123,32]) ++ d) ++ [32,125,32]),vi 5 g,vi 8 e,vv 79 (.vs 1 c f),vi 80 e,vv 81 i.v])) .none) .none) .none) .none) .none) := lM 2
theorem p19_17 {b d f a c e} : LM C o 19 qL19 3 (mk0 112 [vv 0 (.vs 1 b d),vt 3 e,vi 5 f,vi 8 a,vv 79 (.vs 1 b d),vi 80 a,vi 81 c]) (cl0 22 [(i6 c),(i6 3)] fun g => .br (AV.pure g.v)
(.mid 0 qL3 5 (mk0 112 [vv 0 (.vs 1 b d),vt 3 e,vi 5 f,vi 8 a,vi 11 c,vv 83 (.vs 1 b d),vi 84 a,vi 85 (w64 (a + 1)),vi 86 c,vv 87 g.v])) .none) := lM 2
theorem p19_18 {b d f a c e} : LM C o 19 qL20 3 (mk0 112 [vv 0 (.vs 1 b d),vt 3 e,vi 5 f,vi 8 a,vv 79 (.vs 1 b d),vi 80 a,vi 81 c]) (cl0 22 [(i6 c),(i6 3)] fun g => .br (AV.pure g.v)
(.mid 0 qL4 5 (mk0 112 [vv 0 (.vs 1 b d),vt 3 e,vi 5 f,vi 8 a,vi 11 c,vv 83 (.vs 1 b d),vi 84 a,vi 85 (w64 (a + 1)),vi 86 c,vv 87 g.v])) .none) := lM 2
theorem p19_19 {b d f a c e} : LM C o 19 qL21 3 (mk0 112 [vv 0 (.vs 1 b d),vt 3 e,vi 5 f,vi 8 a,vv 79 (.vs 1 b d),vi 80 a,vi 81 c]) (cl0 22 [(i6 c),(i6 3)] fun g => .br (AV.pure g.v)
(.mid 0 qL5 5 (mk0 112 [vv 0 (.vs 1 b d),vt 3 e,vi 5 f,vi 8 a,vi 11 c,vv 83 (.vs 1 b d),vi 84 a,vi 85 (w64 (a + 1)),vi 86 c,vv 87 g.v])) .none) := lM 2
theorem p19_20 {b d f a c e} : LM C o 19 qL22 3 (mk0 112 [vv 0 (.vs 1 b d),vt 3 e,vi 5 f,vi 8 a,vv 79 (.vs 1 b d),vi 80 a,vi 81 c]) (cl0 22 [(i6 c),(i6 3)] fun g => .br (AV.pure g.v)
(.mid 0 qL6 5 (mk0 112 [vv 0 (.vs 1 b d),vt 3 e,vi 5 f,vi 8 a,vi 11 c,vv 83 (.vs 1 b d),vi 84 a,vi 85 (w64 (a + 1)),vi 86 c,vv 87 g.v])) .none) := lM 2
theorem p19_21 {b d f a c e} : LM C o 19 qL23 3 (mk0 112 [vv 0 (.vs 1 b d),vt 3 e,vi 5 f,vi 8 a,vv 79 (.vs 1 b d),vi 80 a,vi 81 c]) (cl0 22 [(i6 c),(i6 3)] fun g => .br (AV.pure g.v)
(.mid 0 qL7 5 (mk0 112 [vv 0 (.vs 1 b d),vt 3 e,vi 5 f,vi 8 a,vi 11 c,vv 83 (.vs 1 b d),vi 84 a,vi 85 (w64 (a + 1)),vi 86 c,vv 87 g.v])) .none) := lM 2
theorem p19_22 {b d f a c e} : LM C o 19 qL24 3 (mk0 112 [vv 0 (.vs 1 b d),vt 3 e,vi 5 f,vi 8 a,vv 79 (.vs 1 b d),vi 80 a,vi 81 c]) (cl0 22 [(i6 c),(i6 3)] fun g => .br (AV.pure g.v)
(.mid 0 qL8 5 (mk0 112 [vv 0 (.vs 1 b d),vt 3 e,vi 5 f,vi 8 a,vi 11 c,vv 83 (.vs 1 b d),vi 84 a,vi 85 (w64 (a + 1)),vi 86 c,vv 87 g.v])) .none) := lM 2
theorem p19_23 {b d f a c e} : LM C o 19 qL25 3 (mk0 112 [vv 0 (.vs 1 b d),vt 3 e,vi 5 f,vi 8 a,vv 79 (.vs 1 b d),vi 80 a,vi 81 c]) (cl0 22 [(i6 c),(i6 3)] fun g => .br (AV.pure g.v)
(.mid 0 qL9 5 (mk0 112 [vv 0 (.vs 1 b d),vt 3 e,vi 5 f,vi 8 a,vi 11 c,vv 83 (.vs 1 b d),vi 84 a,vi 85 (w64 (a + 1)),vi 86 c,vv 87 g.v])) .none) := lM 2
theorem p19_24 {a e h b c d f g} : LM C o 19 qL3 5 (mk0 112 [vv 0 (.vs 1 a e),vt 3 g,vi 5 h,vi 8 b,vi 11 c,vv 83 (.vs 1 a e),vi 84 b,vi 85 f,vi 86 c,vi 87 d]) (cl0 41 [(.vs 1 a e),(i6 f),(i6 (w64 (d + 1))),(i6 0),(.bool true)] fun i => .br (AV.pure i.v)
(.mid 0 qL3 7 (mk0 112 [vv 0 (.vs 1 a e),vt 3 g,vi 5 h,vi 8 b,vi 11 c,vv 83 (.vs 1 a e),vi 84 b,vi 85 f,vi 86 c,vi 87 d,vi 88 (w64 (d + 1)),vv 89 i.v])) .none) := lM 0
theorem p19_25 {a e h b c d f g} : LM C o 19 qL4 5 (mk0 112 [vv 0 (.vs 1 a e),vt 3 g,vi 5 h,vi 8 b,vi 11 c,vv 83 (.vs 1 a e),vi 84 b,vi 85 f,vi 86 c,vi 87 d]) (cl0 41 [(.vs 1 a e),(i6 f),(i6 (w64 (d + 1))),(i6 0),(.bool true)] fun i => .br (AV.pure i.v)
(.mid 0 qL4 7 (mk0 112 [vv 0 (.vs 1 a e),vt 3 g,vi 5 h,vi 8 b,vi 11 c,vv 83 (.vs 1 a e),vi 84 b,vi 85 f,vi 86 c,vi 87 d,vi 88 (w64 (d + 1)),vv 89 i.v])) .none) := lM 0
theorem p19_26 {a e h b c d f g} : LM C o 19 qL5 5 (mk0 112 [vv 0 (.vs 1 a e),vt 3 g,vi 5 h,vi 8 b,vi 11 c,vv 83 (.vs 1 a e),vi 84 b,vi 85 f,vi 86 c,vi 87 d]) (cl0 41 [(.vs 1 a e),(i6 f),(i6 (w64 (d + 1))),(i6 0),(.bool true)] fun i => .br (AV.pure i.v)
(.mid 0 qL5 7 (mk0 112 [vv 0 (.vs 1 a e),vt 3 g,vi 5 h,vi 8 b,vi 11 c,vv 83 (.vs 1 a e),vi 84 b,vi 85 f,vi 86 c,vi 87 d,vi 88 (w64 (d + 1)),vv 89 i.v])) .none) := lM 0
theorem p19_27 {a e h b c d f g} : LM C o 19 qL6 5 (mk0 112 [vv 0 (.vs 1 a e),vt 3 g,vi 5 h,vi 8 b,vi 11 c,vv 83 (.vs 1 a e),vi 84 b,vi 85 f,vi 86 c,vi 87 d]) (cl0 41 [(.vs 1 a e),(i6 f),(i6 (w64 (d + 1))),(i6 0),(.bool true)] fun i => .br (AV.pure i.v)
(.mid 0 qL6 7 (mk0 112 [vv 0 (.vs 1 a e),vt 3 g,vi 5 h,vi 8 b,vi 11 c,vv 83 (.vs 1 a e),vi 84 b,vi 85 f,vi 86 c,vi 87 d,vi 88 (w64 (d + 1)),vv 89 i.v])) .none) := lM 0
theorem p19_28 {a e h b c d f g} : LM C o 19 qL7 5 (mk0 112 [vv 0 (.vs 1 a e),vt 3 g,vi 5 h,vi 8 b,vi 11 c,vv 83 (.vs 1 a e),vi 84 b,vi 85 f,vi 86 c,vi 87 d]) (cl0 41 [(.vs 1 a e),(i6 f),(i6 (w64 (d + 1))),(i6 0),(.bool true)] fun i => .br (AV.pure i.v)
(.mid 0 qL7 7 (mk0 112 [vv 0 (.vs 1 a e),vt 3 g,vi 5 h,vi 8 b,vi 11 c,vv 83 (.vs 1 a e),vi 84 b,vi 85 f,vi 86 c,vi 87 d,vi 88 (w64 (d + 1)),vv 89 i.v])) .none) := lM 0
theorem p19_29 {a e h b c d f g} : LM C o 19 qL8 5 (mk0 112 [vv 0 (.vs 1 a e),vt 3 g,vi 5 h,vi 8 b,vi 11 c,vv 83 (.vs 1 a e),vi 84 b,vi 85 f,vi 86 c,vi 87 d]) (cl0 41 [(.vs 1 a e),(i6 f),(i6 (w64 (d + 1))),(i6 0),(.bool true)] fun i => .br (AV.pure i.v)
(.mid 0 qL8 7 (mk0 112 [vv 0 (.vs 1 a e),vt 3 g,vi 5 h,vi 8 b,vi 11 c,vv 83 (.vs 1 a e),vi 84 b,vi 85 f,vi 86 c,vi 87 d,vi 88 (w64 (d + 1)),vv 89 i.v])) .none) := lM 0
theorem p19_30 {a e h b c d f g} : LM C o 19 qL9 5 (mk0 112 [vv 0 (.vs 1 a e),vt 3 g,vi 5 h,vi 8 b,vi 11 c,vv 83 (.vs 1 a e),vi 84 b,vi 85 f,vi 86 c,vi 87 d]) (cl0 41 [(.vs 1 a e),(i6 f),(i6 (w64 (d + 1))),(i6 0),(.bool true)] fun i => .br (AV.pure i.v)
(.mid 0 qL9 7 (mk0 112 [vv 0 (.vs 1 a e),vt 3 g,vi 5 h,vi 8 b,vi 11 c,vv 83 (.vs 1 a e),vi 84 b,vi 85 f,vi 86 c,vi 87 d,vi 88 (w64 (d + 1)),vv 89 i.v])) .none) := lM 0
theorem p19_31 {b h c d e i j f k a g} : LM C o 19 qL3 7 (mk0 112 [vv 0 (.vs 1 b h),vt 3 a,vi 5 c,vi 8 d,vi 11 e,vv 83 (.vs 1 b h),vi 84 d,vi 85 j,vi 86 e,vi 87 i,vi 88 k,vv 89 (.tuple [(.str g),(i6 f)])]) (.br (Nat.ble (a.length + 7) 4611686018427387904)
(cl0 29 [(i6 c)] fun l => .br (AV.pure l.v)
(.mid 0 qL26 4 (mk0 112 [vv 0 (.vs 1 b h),vt 3 a,vi 5 c,vt 12 g,vi 13 f,vt 92 a,vt 93 (a ++ [113,117,101,114,121,32,113]),vi 94 c,vv 95 l.v])) .none) .none) := lM 2
theorem p19_32 {b h c d e i j f k a g} : LM C o 19 qL4 7 (mk0 112 [vv 0 (.vs 1 b h),vt 3 a,vi 5 c,vi 8 d,vi 11 e,vv 83 (.vs 1 b h),vi 84 d,vi 85 j,vi 86 e,vi 87 i,vi 88 k,vv 89 (.tuple [(.str g),(i6 f)])]) (.br (Nat.ble (a.length + 7) 4611686018427387904)
(cl0 29 [(i6 c)] fun l => .br (AV.pure l.v)
(.mid 0 qL27 4 (mk0 112 [vv 0 (.vs 1 b h),vt 3 a,vi 5 c,vt 12 g,vi 13 f,vt 92 a,vt 93 (a ++ [113,117,101,114,121,32,113]),vi 94 c,vv 95 l.v])) .none) .none) := lM 2
theorem p19_33 {b h c d e i j f k a g} : LM C o 19 qL5 7 (mk0 112 [vv 0 (.vs 1 b h),vt 3 a,vi 5 c,vi 8 d,vi 11 e,vv 83 (.vs 1 b h),vi 84 d,vi 85 j,vi 86 e,vi 87 i,vi 88 k,vv 89 (.tuple [(.str g),(i6 f)])]) (.br (Nat.ble (a.length + 7) 4611686018427387904)
(cl0 29 [(i6 c)] fun l => .br (AV.pure l.v)
(.mid 0 qL28 4 (mk0 112 [vv 0 (.vs 1 b h),vt 3 a,vi 5 c,vt 12 g,vi 13 f,vt 92 a,vt 93 (a ++ [113,117,101,114,121,32,113]),vi 94 c,vv 95 l.v])) .none) .none) := lM 2
theorem p19_34 {b h c d e i j f k a g} : LM C o 19 qL6 7 (mk0 112 [vv 0 (.vs 1 b h),vt 3 a,vi 5 c,vi 8 d,vi 11 e,vv 83 (.vs 1 b h),vi 84 d,vi 85 j,vi 86 e,vi 87 i,vi 88 k,vv 89 (.tuple [(.str g),(i6 f)])]) (.br (Nat.ble (a.length + 7) 4611686018427387904)
(cl0 29 [(i6 c)] fun l => .br (AV.pure l.v)
(.mid 0 qL29 4 (mk0 112 [vv 0 (.vs 1 b h),vt 3 a,vi 5 c,vt 12 g,vi 13 f,vt 92 a,vt 93 (a ++ [113,117,101,114,121,32,113]),vi 94 c,vv 95 l.v])) .none) .none) := lM 2
theorem p19_35 {b h c d e i j f k a g} : LM C o 19 qL7 7 (mk0 112 [vv 0 (.vs 1 b h),vt 3 a,vi 5 c,vi 8 d,vi 11 e,vv 83 (.vs 1 b h),vi 84 d,vi 85 j,vi 86 e,vi 87 i,vi 88 k,vv 89 (.tuple [(.str g),(i6 f)])]) (.br (Nat.ble (a.length + 7) 4611686018427387904)
(cl0 29 [(i6 c)] fun l => .br (AV.pure l.v)
(.mid 0 qL30 4 (mk0 112 [vv 0 (.vs 1 b h),vt 3 a,vi 5 c,vt 12 g,vi 13 f,vt 92 a,vt 93 (a ++ [113,117,101,114,121,32,113]),vi 94 c,vv 95 l.v])) .none) .none) := lM 2
theorem p19_36 {b h c d e i j f k a g} : LM C o 19 qL8 7 (mk0 112 [vv 0 (.vs 1 b h),vt 3 a,vi 5 c,vi 8 d,vi 11 e,vv 83 (.vs 1 b h),vi 84 d,vi 85 j,vi 86 e,vi 87 i,vi 88 k,vv 89 (.tuple [(.str g),(i6 f)])]) (.br (Nat.ble (a.length + 7) 4611686018427387904)
(cl0 29 [(i6 c)] fun l => .br (AV.pure l.v)
(.mid 0 qL31 4 (mk0 112 [vv 0 (.vs 1 b h),vt 3 a,vi 5 c,vt 12 g,vi 13 f,vt 92 a,vt 93 (a ++ [113,117,101,114,121,32,113]),vi 94 c,vv 95 l.v])) .none) .none) := lM 2
theorem p19_37 {b h c d e i j f k a g} : LM C o 19 qL9 7 (mk0 112 [vv 0 (.vs 1 b h),vt 3 a,vi 5 c,vi 8 d,vi 11 e,vv 83 (.vs 1 b h),vi 84 d,vi 85 j,vi 86 e,vi 87 i,vi 88 k,vv 89 (.tuple [(.str g),(i6 f)])]) (.br (Nat.ble (a.length + 7) 4611686018427387904)
(cl0 29 [(i6 c)] fun l => .br (AV.pure l.v)
(.mid 0 qL32 4 (mk0 112 [vv 0 (.vs 1 b h),vt 3 a,vi 5 c,vt 12 g,vi 13 f,vt 92 a,vt 93 (a ++ [113,117,101,114,121,32,113]),vi 94 c,vv 95 l.v])) .none) .none) := lM 2
theorem p19_38 {d h g e f c a b} : LM C o 19 qL26 4 (mk0 112 [vv 0 (.vs 1 d h),vt 3 f,vi 5 g,vt 12 c,vi 13 e,vt 92 f,vt 93 b,vi 94 g,vt 95 a]) (.br (Nat.ble (b.length + a.length) 4611686018427387904)
(.br (Nat.ble ((b ++ a).length + 26) 4611686018427387904)
(.br (Nat.ble (((b ++ a) ++ [40,110,32,105,110,116,44,32,119,32,116,101,120,116,44,32,112,32,98,111,111,108,41,32,61,32]).length + c.length) 4611686018427387904)
(.br (Nat.ble ((((b ++ a) ++ [40,110,32,105,110,116,44,32,119,32,116,101,120,116,44,32,112,32,98,111,111,108,41,32,61,32]) ++ c).length + 2) 4611686018427387904)
(.run 0 qL0 (znl d h ((((b ++ a) ++ [40,110,32,105,110,116,44,32,119,32,116,101,120,116,44,32,112,32,98,111,111,108,41,32,61,32]) ++ c) ++ [59,32]) e (w64 (g + 1)))) .none) .none) .none) .none) := lM 4
theorem p19_39 {d h g e f c a b} : LM C o 19 qL27 4 (mk0 112 [vv 0 (.vs 1 d h),vt 3 f,vi 5 g,vt 12 c,vi 13 e,vt 92 f,vt 93 b,vi 94 g,vt 95 a]) (.br (Nat.ble (b.length + a.length) 4611686018427387904)
(.br (Nat.ble ((b ++ a).length + 26) 4611686018427387904)
(.br (Nat.ble (((b ++ a) ++ [40,110,32,105,110,116,44,32,119,32,116,101,120,116,44,32,112,32,98,111,111,108,41,32,61,32]).length + c.length) 4611686018427387904)
(.br (Nat.ble ((((b ++ a) ++ [40,110,32,105,110,116,44,32,119,32,116,101,120,116,44,32,112,32,98,111,111,108,41,32,61,32]) ++ c).length + 2) 4611686018427387904)
(.run 0 qL0 (znl d h ((((b ++ a) ++ [40,110,32,105,110,116,44,32,119,32,116,101,120,116,44,32,112,32,98,111,111,108,41,32,61,32]) ++ c) ++ [59,32]) e (w64 (g + 1)))) .none) .none) .none) .none) := lM 4
theorem p19_40 {d h g e f c a b} : LM C o 19 qL28 4 (mk0 112 [vv 0 (.vs 1 d h),vt 3 f,vi 5 g,vt 12 c,vi 13 e,vt 92 f,vt 93 b,vi 94 g,vt 95 a]) (.br (Nat.ble (b.length + a.length) 4611686018427387904)
(.br (Nat.ble ((b ++ a).length + 26) 4611686018427387904)
(.br (Nat.ble (((b ++ a) ++ [40,110,32,105,110,116,44,32,119,32,116,101,120,116,44,32,112,32,98,111,111,108,41,32,61,32]).length + c.length) 4611686018427387904)
(.br (Nat.ble ((((b ++ a) ++ [40,110,32,105,110,116,44,32,119,32,116,101,120,116,44,32,112,32,98,111,111,108,41,32,61,32]) ++ c).length + 2) 4611686018427387904)
(.run 0 qL0 (znl d h ((((b ++ a) ++ [40,110,32,105,110,116,44,32,119,32,116,101,120,116,44,32,112,32,98,111,111,108,41,32,61,32]) ++ c) ++ [59,32]) e (w64 (g + 1)))) .none) .none) .none) .none) := lM 4
theorem p19_41 {d h g e f c a b} : LM C o 19 qL29 4 (mk0 112 [vv 0 (.vs 1 d h),vt 3 f,vi 5 g,vt 12 c,vi 13 e,vt 92 f,vt 93 b,vi 94 g,vt 95 a]) (.br (Nat.ble (b.length + a.length) 4611686018427387904)
(.br (Nat.ble ((b ++ a).length + 26) 4611686018427387904)
(.br (Nat.ble (((b ++ a) ++ [40,110,32,105,110,116,44,32,119,32,116,101,120,116,44,32,112,32,98,111,111,108,41,32,61,32]).length + c.length) 4611686018427387904)
(.br (Nat.ble ((((b ++ a) ++ [40,110,32,105,110,116,44,32,119,32,116,101,120,116,44,32,112,32,98,111,111,108,41,32,61,32]) ++ c).length + 2) 4611686018427387904)
(.run 0 qL0 (znl d h ((((b ++ a) ++ [40,110,32,105,110,116,44,32,119,32,116,101,120,116,44,32,112,32,98,111,111,108,41,32,61,32]) ++ c) ++ [59,32]) e (w64 (g + 1)))) .none) .none) .none) .none) := lM 4
theorem p19_42 {d h g e f c b a} : LM C o 19 qL30 4 (mk0 112 [vv 0 (.vs 1 d h),vt 3 f,vi 5 g,vt 12 c,vi 13 e,vt 92 f,vt 93 a,vi 94 g,vt 95 b]) (.br (Nat.ble (a.length + b.length) 4611686018427387904)
(.br (Nat.ble ((a ++ b).length + 26) 4611686018427387904)
(.br (Nat.ble (((a ++ b) ++ [40,110,32,105,110,116,44,32,119,32,116,101,120,116,44,32,112,32,98,111,111,108,41,32,61,32]).length + c.length) 4611686018427387904)
(.br (Nat.ble ((((a ++ b) ++ [40,110,32,105,110,116,44,32,119,32,116,101,120,116,44,32,112,32,98,111,111,108,41,32,61,32]) ++ c).length + 2) 4611686018427387904)
(.run 0 qL0 (znl d h ((((a ++ b) ++ [40,110,32,105,110,116,44,32,119,32,116,101,120,116,44,32,112,32,98,111,111,108,41,32,61,32]) ++ c) ++ [59,32]) e (w64 (g + 1)))) .none) .none) .none) .none) := lM 4
theorem p19_43 {d h g e f c a b} : LM C o 19 qL31 4 (mk0 112 [vv 0 (.vs 1 d h),vt 3 f,vi 5 g,vt 12 c,vi 13 e,vt 92 f,vt 93 b,vi 94 g,vt 95 a]) (.br (Nat.ble (b.length + a.length) 4611686018427387904)
(.br (Nat.ble ((b ++ a).length + 26) 4611686018427387904)
(.br (Nat.ble (((b ++ a) ++ [40,110,32,105,110,116,44,32,119,32,116,101,120,116,44,32,112,32,98,111,111,108,41,32,61,32]).length + c.length) 4611686018427387904)
(.br (Nat.ble ((((b ++ a) ++ [40,110,32,105,110,116,44,32,119,32,116,101,120,116,44,32,112,32,98,111,111,108,41,32,61,32]) ++ c).length + 2) 4611686018427387904)
(.run 0 qL0 (znl d h ((((b ++ a) ++ [40,110,32,105,110,116,44,32,119,32,116,101,120,116,44,32,112,32,98,111,111,108,41,32,61,32]) ++ c) ++ [59,32]) e (w64 (g + 1)))) .none) .none) .none) .none) := lM 4
theorem p19_44 {d h g e f c a b} : LM C o 19 qL32 4 (mk0 112 [vv 0 (.vs 1 d h),vt 3 f,vi 5 g,vt 12 c,vi 13 e,vt 92 f,vt 93 b,vi 94 g,vt 95 a]) (.br (Nat.ble (b.length + a.length) 4611686018427387904)
(.br (Nat.ble ((b ++ a).length + 26) 4611686018427387904)
(.br (Nat.ble (((b ++ a) ++ [40,110,32,105,110,116,44,32,119,32,116,101,120,116,44,32,112,32,98,111,111,108,41,32,61,32]).length + c.length) 4611686018427387904)
(.br (Nat.ble ((((b ++ a) ++ [40,110,32,105,110,116,44,32,119,32,116,101,120,116,44,32,112,32,98,111,111,108,41,32,61,32]) ++ c).length + 2) 4611686018427387904)
(.run 0 qL0 (znl d h ((((b ++ a) ++ [40,110,32,105,110,116,44,32,119,32,116,101,120,116,44,32,112,32,98,111,111,108,41,32,61,32]) ++ c) ++ [59,32]) e (w64 (g + 1)))) .none) .none) .none) .none) := lM 4
end
section
open Go Go.Vai
attribute [local irreducible] goTo zao mkS
variable {C : Nat→Oracle} (hC : Ext C)
include hC
set_option maxHeartbeats 8000000 in
theorem zt1 (tg : Bool) (l : List Int) (hl : l.length ≤ 1000000) : ∀ (m : Nat) (i a : Int) (z : List UInt8),(4 - i).toNat = m→0 ≤ i→i ≤ 3→z.length ≤ 300 + i.toNat * 20000 →
  Was (RL C 19 Q0t (mkS 112 [(0,.val (.vs 1 tg (ints l)) .no),(3,.val (.str z) .no),(4,.val (.int .i64 a) .no),(5,.val (.int .i64 i) .no)] [] Hp.none 0)) (QS 100000):=by
 intro m
 induction m with
 | zero=>intro i a s hm h0 h4; omega
 | succ m IH =>
  intro i a z hm h0 h4 hs;have w3 : w64 (i + 1) = i + 1 := zb1 (by omega) (by omega);refine exW (fun o=>p19_1) ?_;simp only [Tr.val,za3,AV.pure,za0,za1]
  repeat' (first
   | refine .bL (by first | omega | (simp only [lnA,lnC,lnN,List.length_drop,List.length_take]; omega)) ?_
   | refine .bT (by omega) ?_
   | refine .bF (by omega) ?_
   | (refine .call (w34 hC _ _ (by omega) _) ?_; rintro o ⟨x,e⟩; simp only [e,AV.pure,za0]; clear e)
   | (refine .call (w22 hC _ _ (by omega) (by omega)) ?_; rintro o ⟨x,e,h1,h2⟩; simp only [e,AV.pure,za0]; clear e)
   | (refine .call (w29 hC _) ?_; rintro o ⟨s,e,h1⟩; simp only [e,AV.pure,za0]; clear e)
   | (refine .call (w41 hC _ _ (by omega) _ _ _) ?_; rintro o ⟨s,x,e,h1⟩; simp only [e,AV.pure,za3,za0]; clear e)
   | (refine exW (fun o=>p19_2) ?_; simp only [Tr.val,za3,AV.pure,za0,AV.cells,za1,za4,bnT,bnF,w3])
   | (refine exW (fun o=>p19_3) ?_; simp only [Tr.val,za3,AV.pure,za0,AV.cells,za1,za4,bnT,bnF,w3])
   | (refine exW (fun o=>p19_4) ?_; simp only [Tr.val,za3,AV.pure,za0,AV.cells,za1,za4,bnT,bnF,w3])
   | (refine exW (fun o=>p19_5) ?_; simp only [Tr.val,za3,AV.pure,za0,AV.cells,za1,za4,bnT,bnF,w3])
   | (refine exW (fun o=>p19_6) ?_; simp only [Tr.val,za3,AV.pure,za0,AV.cells,za1,za4,bnT,bnF,w3])
   | (refine exW (fun o=>p19_7) ?_; simp only [Tr.val,za3,AV.pure,za0,AV.cells,za1,za4,bnT,bnF,w3])
   | (refine exW (fun o=>p19_8) ?_; simp only [Tr.val,za3,AV.pure,za0,AV.cells,za1,za4,bnT,bnF,w3])
   | (refine exW (fun o=>p19_9) ?_; simp only [Tr.val,za3,AV.pure,za0,AV.cells,za1,za4,bnT,bnF,w3])
   | (refine exW (fun o=>p19_10) ?_; simp only [Tr.val,za3,AV.pure,za0,AV.cells,za1,za4,bnT,bnF,w3])
   | (refine exW (fun o=>p19_11) ?_; simp only [Tr.val,za3,AV.pure,za0,AV.cells,za1,za4,bnT,bnF,w3])
   | (refine exW (fun o=>p19_12) ?_; simp only [Tr.val,za3,AV.pure,za0,AV.cells,za1,za4,bnT,bnF,w3])
   | (refine exW (fun o=>p19_13) ?_; simp only [Tr.val,za3,AV.pure,za0,AV.cells,za1,za4,bnT,bnF,w3])
   | (refine exW (fun o=>p19_14) ?_; simp only [Tr.val,za3,AV.pure,za0,AV.cells,za1,za4,bnT,bnF,w3])
   | (refine exW (fun o=>p19_15) ?_; simp only [Tr.val,za3,AV.pure,za0,AV.cells,za1,za4,bnT,bnF,w3])
   | (refine exW (fun o=>p19_16) ?_; simp only [Tr.val,za3,AV.pure,za0,AV.cells,za1,za4,bnT,bnF,w3])
   | (refine exW (fun o=>p19_17) ?_; simp only [Tr.val,za3,AV.pure,za0,AV.cells,za1,za4,bnT,bnF,w3])
   | (refine exW (fun o=>p19_18) ?_; simp only [Tr.val,za3,AV.pure,za0,AV.cells,za1,za4,bnT,bnF,w3])
   | (refine exW (fun o=>p19_19) ?_; simp only [Tr.val,za3,AV.pure,za0,AV.cells,za1,za4,bnT,bnF,w3])
   | (refine exW (fun o=>p19_20) ?_; simp only [Tr.val,za3,AV.pure,za0,AV.cells,za1,za4,bnT,bnF,w3])
   | (refine exW (fun o=>p19_21) ?_; simp only [Tr.val,za3,AV.pure,za0,AV.cells,za1,za4,bnT,bnF,w3])
   | (refine exW (fun o=>p19_22) ?_; simp only [Tr.val,za3,AV.pure,za0,AV.cells,za1,za4,bnT,bnF,w3])
   | (refine exW (fun o=>p19_23) ?_; simp only [Tr.val,za3,AV.pure,za0,AV.cells,za1,za4,bnT,bnF,w3])
   | (refine exW (fun o=>p19_24) ?_; simp only [Tr.val,za3,AV.pure,za0,AV.cells,za1,za4,bnT,bnF,w3])
   | (refine exW (fun o=>p19_25) ?_; simp only [Tr.val,za3,AV.pure,za0,AV.cells,za1,za4,bnT,bnF,w3])
   | (refine exW (fun o=>p19_26) ?_; simp only [Tr.val,za3,AV.pure,za0,AV.cells,za1,za4,bnT,bnF,w3])
   | (refine exW (fun o=>p19_27) ?_; simp only [Tr.val,za3,AV.pure,za0,AV.cells,za1,za4,bnT,bnF,w3])
   | (refine exW (fun o=>p19_28) ?_; simp only [Tr.val,za3,AV.pure,za0,AV.cells,za1,za4,bnT,bnF,w3])
   | (refine exW (fun o=>p19_29) ?_; simp only [Tr.val,za3,AV.pure,za0,AV.cells,za1,za4,bnT,bnF,w3])
   | (refine exW (fun o=>p19_30) ?_; simp only [Tr.val,za3,AV.pure,za0,AV.cells,za1,za4,bnT,bnF,w3])
   | (refine exW (fun o=>p19_31) ?_; simp only [Tr.val,za3,AV.pure,za0,AV.cells,za1,za4,bnT,bnF,w3])
   | (refine exW (fun o=>p19_32) ?_; simp only [Tr.val,za3,AV.pure,za0,AV.cells,za1,za4,bnT,bnF,w3])
   | (refine exW (fun o=>p19_33) ?_; simp only [Tr.val,za3,AV.pure,za0,AV.cells,za1,za4,bnT,bnF,w3])
   | (refine exW (fun o=>p19_34) ?_; simp only [Tr.val,za3,AV.pure,za0,AV.cells,za1,za4,bnT,bnF,w3])
   | (refine exW (fun o=>p19_35) ?_; simp only [Tr.val,za3,AV.pure,za0,AV.cells,za1,za4,bnT,bnF,w3])
   | (refine exW (fun o=>p19_36) ?_; simp only [Tr.val,za3,AV.pure,za0,AV.cells,za1,za4,bnT,bnF,w3])
   | (refine exW (fun o=>p19_37) ?_; simp only [Tr.val,za3,AV.pure,za0,AV.cells,za1,za4,bnT,bnF,w3])
   | (refine exW (fun o=>p19_38) ?_; simp only [Tr.val,za3,AV.pure,za0,AV.cells,za1,za4,bnT,bnF,w3])
   | (refine exW (fun o=>p19_39) ?_; simp only [Tr.val,za3,AV.pure,za0,AV.cells,za1,za4,bnT,bnF,w3])
   | (refine exW (fun o=>p19_40) ?_; simp only [Tr.val,za3,AV.pure,za0,AV.cells,za1,za4,bnT,bnF,w3])
   | (refine exW (fun o=>p19_41) ?_; simp only [Tr.val,za3,AV.pure,za0,AV.cells,za1,za4,bnT,bnF,w3])
   | (refine exW (fun o=>p19_42) ?_; simp only [Tr.val,za3,AV.pure,za0,AV.cells,za1,za4,bnT,bnF,w3])
   | (refine exW (fun o=>p19_43) ?_; simp only [Tr.val,za3,AV.pure,za0,AV.cells,za1,za4,bnT,bnF,w3])
   | (refine exW (fun o=>p19_44) ?_; simp only [Tr.val,za3,AV.pure,za0,AV.cells,za1,za4,bnT,bnF,w3])
   | (refine .nth (B := 20) rfl (by simp only [lnC,lnN]; omega) fun s hs=>?_; simp only [AV.cells])
   | exact .mk ⟨_,rfl,by first | omega | (simp only [lnA,lnC,lnN,List.length_drop,List.length_take]; omega)⟩
   | refine .dec (fun h=>?_) (fun h=>?_)
   | refine .both (fun h=>?_) (fun h=>?_))
  all_goals exact IH _ _ _ (by omega) (by omega) (by omega) (by first | omega | (simp only [lnA,lnC,lnN]; omega))
theorem w19 (tg : Bool) (l : List Int) (hl : l.length ≤ 1000000) : Was (calL C 19 [.vs 1 tg (ints l)] Hp.none 0) (QS 100000):=by
 refine exW (fun o=>p19_c hC) (exW (fun o=>p19_0) ?_);exact zt1 hC tg l hl _ 0 0 _ rfl (by decide) (by decide) (by decide)
end
section
open Go Go.Vai
attribute [local irreducible] goTo zao mkS
set_option maxHeartbeats 40000000
set_option linter.unusedSectionVars false
theorem zut {p : PS} (h : p.fin.err = 0) : p.err = 0:=by
 unfold PS.fin at h;split at h
 ·exact h
 ·exact absurd h (PS.fail_err _ _ (by decide))
theorem dgq_av (l : List (Int × Int)) : l.map pAV = (l.map dgq).map Dg.av:=by
 rw [List.map_map];rfl
variable {C : Nat→Oracle} (hC : Ext C)
include hC
variable (haw : Was (calL C 14 [] Hp.none 0) QT)
include haw
end
section
open Go Go.Vai
attribute [local irreducible] goTo zao mkS
variable {C : Nat → Oracle} {o : Out}
abbrev qY0 : List Nat := Q6o
abbrev qY1 : List Nat := Q0x
abbrev qY2 : List Nat := Q15
abbrev qY3 : List Nat := Q3h
abbrev qY4 : List Nat := Q1j
abbrev qY5 : List Nat := Q3i
abbrev qY6 : List Nat := Q5o
abbrev qY7 : List Nat := Q34
abbrev qY8 : List Nat := Q4g
abbrev qY9 : List Nat := Q6c
abbrev qY10 : List Nat := Q5j
abbrev qY11 : List Nat := Q5p
abbrev qY12 : List Nat := Q70
theorem p5_c (hC : Ext C) {a b : Bool} {c : List AV} {d : Int} : LC C o 5 (mk0 97 [vv 0 (.vs 1 a c),vb 1 b,vi 2 d]) [(.vs 1 a c),(.bool b),(i6 d)] Hp.none 0 := lC hC
theorem p5_0 {a c b d} : LR C o 5 [] (mk0 97 [vv 0 (.vs 1 a b),vb 1 c,vi 2 d]) (.br (decide (60 < (b.length : Int)))
(cl0 14 [] fun e => .br (AV.pure e.v)
(.mid 0 Q0c 1 (mk0 97 [vv 0 (.vs 1 a b),vb 1 c,vi 2 d,vb 20 true,vv 21 e.v])) .none)
(.run 1 Q07 (mk0 97 [vv 0 (.vs 1 a b),vb 1 c,vi 2 d,vb 20 false]))) := lR 8
theorem p5_1 {a c b d e} : LM C o 5 Q0c 1 (mk0 97 [vv 0 (.vs 1 a d),vb 1 c,vi 2 e,vb 20 true,vb 21 b]) (rt (.bool b)) := lM 1
theorem p5_2 {a d c b e} : LR C o 5 Q07 (mk0 97 [vv 0 (.vs 1 a b),vb 1 d,vi 2 e,vb 20 c]) (cl0 18 [(.vs 1 a b)] fun f => .br (AV.pure f.v)
(.mid 0 Q0b 2 (mk0 97 [vv 0 (.vs 1 a b),vb 1 d,vi 2 e,vb 20 c,vv 22 (.vs 1 a b),vv 23 f.v])) .none) := lR 2
theorem p5_3 {a e f b d c} : LM C o 5 Q0b 2 (mk0 97 [vv 0 (.vs 1 a b),vb 1 e,vi 2 d,vb 20 f,vv 22 (.vs 1 a b),vt 23 c]) (.br e
(cl0 19 [(.vs 1 a b)] fun g => .br (AV.pure g.v)
(.mid 0 Q0y 2 (mk0 97 [vv 0 (.vs 1 a b),vi 2 d,vt 7 c,vb 24 true,vv 25 (.vs 1 a b),vv 26 g.v])) .none)
(.run 0 qY1 (mk0 97 [vv 0 (.vs 1 a b),vi 2 d,vt 7 c,vb 24 false]))) := lM 5
theorem p5_4 {a c d e b} : LM C o 5 Q0y 2 (mk0 97 [vv 0 (.vs 1 a c),vi 2 d,vt 7 e,vb 24 true,vv 25 (.vs 1 a c),vt 26 b]) (.run 0 qY1 (mk0 97 [vi 2 d,vt 7 b])) := lM 0
theorem p5_5 {b c d a e} : LR C o 5 qY1 (mk0 97 [vv 0 (.vs 1 b d),vi 2 a,vt 7 e,vb 24 c]) (cl0 22 [(i6 a),(i6 30)] fun f => .br (AV.pure f.v)
(.mid 0 qY2 2 (mk0 97 [vv 0 (.vs 1 b d),vi 2 a,vt 7 e,vb 24 c,vi 27 a,vv 28 f.v])) .none) := lR 2
theorem p5_6 {a b} : LR C o 5 qY1 (mk0 97 [vi 2 a,vt 7 b]) (cl0 22 [(i6 a),(i6 30)] fun c => .br (AV.pure c.v)
(.mid 0 qY2 2 (mk0 97 [vi 2 a,vt 7 b,vi 27 a,vv 28 c.v])) .none) := lR 2
theorem p5_7 {d e f c a b} : LM C o 5 qY2 2 (mk0 97 [vv 0 (.vs 1 d f),vi 2 c,vt 7 b,vb 24 e,vi 27 c,vi 28 a]) (.br (decide (0 ≤ a))
(.br (decide (a = a))
(.br (decide ((a * (1 : Int)) ≤ 281474976710656))
(.br (decide (a ≤ 281474976710656))
(.bind (zbz (zdi false 1 (Int.toNat a) (zi0 [(.int .u8 0)] (Int.toNat a)))) fun g =>
(.br (Nat.ble (2 + g.length) 4611686018427387904)
(.br (Nat.ble (([35,32] ++ g).length + 1) 4611686018427387904)
(cl0 20 [(.str b)] fun h => .br (AV.pure h.v)
(.mid 0 qY4 2 (mk0 97 [vt 7 b,vt 8 (([35,32] ++ g) ++ [10]),vt 34 b,vv 35 h.v])) .none) .none) .none)) .none) .none) .none) .none) := lM 2
theorem p5_8 {c a b} : LM C o 5 qY2 2 (mk0 97 [vi 2 c,vt 7 b,vi 27 c,vi 28 a]) (.br (decide (0 ≤ a))
(.br (decide (a = a))
(.br (decide ((a * (1 : Int)) ≤ 281474976710656))
(.br (decide (a ≤ 281474976710656))
(.bind (zbz (zdi false 1 (Int.toNat a) (zi0 [(.int .u8 0)] (Int.toNat a)))) fun d =>
(.br (Nat.ble (2 + d.length) 4611686018427387904)
(.br (Nat.ble (([35,32] ++ d).length + 1) 4611686018427387904)
(cl0 20 [(.str b)] fun e => .br (AV.pure e.v)
(.mid 0 qY4 2 (mk0 97 [vt 7 b,vt 8 (([35,32] ++ d) ++ [10]),vt 34 b,vv 35 e.v])) .none) .none) .none)) .none) .none) .none) .none) := lM 2
abbrev yS459 := fun a b c d e (f : Bool) (g : List Typ) => mkS 97 [vt 7 a,vt 8 b,(9,.lp 9 0),vi 11 c,vt 40 b,vt 41 a,vt 42 d,vv 43 e] [(9,⟨[(.vs 6 f (g.map Typ.av))],[]⟩)] Hp.none 0
theorem p5_9 {a b c f e} {d : List Typ} : LM C o 5 qY4 2 (mkS 97 [vt 7 a,vt 8 b,vt 34 a,vv 35 (.tuple [(.agg [(.vs 6 c (d.map Typ.av))]),(i6 f),(i6 e)])] [] Hp.none 0) (.br (Nat.ble (b.length + a.length) 4611686018427387904)
(cl0 20 [(.str (b ++ a))] fun g => .br (AV.pure g.v)
(.mid 0 Q1y 4 (yS459 a b e (b ++ a) g.v c d)) .none) .none) := lM 2
abbrev yS460 := fun a b (c : Bool) (d : List Typ) (e : Bool) (f : List Typ) => mkS 97 [vt 8 a,(9,.lp 9 0),(12,.lp 12 0),vb 52 true,b] [(9,⟨[(.vs 6 c (d.map Typ.av))],[]⟩),(12,⟨[(.vs 6 e (f.map Typ.av))],[]⟩)] Hp.none 0
abbrev yS461 := fun a b (c : Bool) (d : List Typ) (e : Bool) (f : List Typ) => mkS 97 [vt 8 a,(9,.lp 9 0),(12,.lp 12 0),vb 52 b] [(9,⟨[(.vs 6 c (d.map Typ.av))],[]⟩),(12,⟨[(.vs 6 e (f.map Typ.av))],[]⟩)] Hp.none 0
theorem p5_10 {f c i b g j h} {a : Bool} {d e : List Typ} : LM C o 5 Q1y 4 (yS459 f c g i (.tuple [(.agg [(.vs 6 b (e.map Typ.av))]),(i6 j),(i6 h)]) a d) (.br (!(decide (g = 0)))
(cl0 14 [] fun k => .br (AV.pure k.v)
(.mid 0 qY5 1 (yS460 c (vv 53 k.v) a d b e)) .none)
(.br (!(decide (h = 0)))
(cl0 14 [] fun l => .br (AV.pure l.v)
(.mid 0 qY5 1 (yS460 c (vv 53 l.v) a d b e)) .none)
(.run 1 qY7 (yS461 c false a d b e)))) := lM 6
theorem p5_11 {a f} {b c : Bool} {d e : List Typ} : LM C o 5 qY5 1 (yS460 f (vb 53 a) b d c e) (rt (.bool a)) := lM 1
abbrev yS462 := fun a b (c : Bool) (d : List Typ) e (f : Bool) (g : List Typ) => mkS 97 [vt 8 a,(9,.lp 9 0),(12,.lp 12 0),vb 52 b,vv 54 (.agg [(.vs 6 c (d.map Typ.av))]),vv 55 e] [(9,⟨[(.vs 6 c (d.map Typ.av))],[]⟩),(12,⟨[(.vs 6 f (g.map Typ.av))],[]⟩)] Hp.none 0
theorem p5_12 {d e a c b f} : LR C o 5 qY7 (yS461 d e a b c f) (.br (za3 [(.agg [(.vs 6 a (b.map Typ.av))])])
(cl0 21 [(.agg [(.vs 6 a (b.map Typ.av))])] fun g => .br (AV.pure g.v)
(.br (AV.pure g.v)
(.mid 0 qY3 2 (yS462 d e a b g.v c f)) .none) .none) .none) := lR 2
abbrev yS463 := fun a b (c : Bool) (d : List Typ) (e : Bool) (f : List Dg) (g : Bool) (h : List Typ) i => mkS 97 [vt 8 a,(9,.lp 9 0),(12,.lp 12 0),vb 52 b,vv 54 (.agg [(.vs 6 c (d.map Typ.av))]),vv 55 (.vs 2 e (f.map Dg.av)),vv 56 (.agg [(.vs 6 g (h.map Typ.av))]),vv 57 i] [(9,⟨[(.vs 6 c (d.map Typ.av))],[]⟩),(12,⟨[(.vs 6 g (h.map Typ.av))],[]⟩)] Hp.none 0
theorem p5_13 {f g b e d} {a : Bool} {c : List Typ} {h : List Dg} : LM C o 5 qY3 2 (yS462 f g b d (.vs 2 e (h.map Dg.av)) a c) (.br (za3 [(.agg [(.vs 6 a (c.map Typ.av))])])
(cl0 21 [(.agg [(.vs 6 a (c.map Typ.av))])] fun i => .br (AV.pure i.v)
(.br (AV.pure i.v)
(.mid 0 qY3 4 (yS463 f g b d e h a c i.v)) .none) .none) .none) := lM 0
theorem p5_14 {i j a b c d e f g} {h : List Dg} : LM C o 5 qY3 4 (yS463 i j a e c g b f (.vs 2 d (h.map Dg.av))) (.br (!(decide (((g.map Dg.av).length : Int) = ((h.map Dg.av).length : Int))))
(rt (.bool false))
(.run 2 qY8 (mkS 97 [vt 8 i,vv 15 (.vs 2 c (g.map Dg.av)),vv 16 (.vs 2 d (h.map Dg.av)),vb 62 false] [(9,⟨[(.vs 6 a (e.map Typ.av))],[]⟩),(12,⟨[(.vs 6 b (f.map Typ.av))],[]⟩)] Hp.none 0))) := lM 7
abbrev yS465 := fun a (b : Bool) (c : List Dg) (d : Bool) (e : List Dg) f (g : Bool) (h : List Typ) (i : Bool) (j : List Typ) => mkS 97 [vt 8 a,vv 15 (.vs 2 b (c.map Dg.av)),vv 16 (.vs 2 d (e.map Dg.av)),vi 17 f] [(9,⟨[(.vs 6 g (h.map Typ.av))],[]⟩),(12,⟨[(.vs 6 i (j.map Typ.av))],[]⟩)] Hp.none 0
theorem p5_15 {e a b j c d} {f g : List Dg} {h i : List Typ} : LR C o 5 qY8 (mkS 97 [vt 8 e,vv 15 (.vs 2 a (f.map Dg.av)),vv 16 (.vs 2 b (g.map Dg.av)),vb 62 j] [(9,⟨[(.vs 6 c (h.map Typ.av))],[]⟩),(12,⟨[(.vs 6 d (i.map Typ.av))],[]⟩)] Hp.none 0) (.run 0 qY6 (yS465 e a f b g 0 c h d i)) := lR 5
theorem p5_16 {g a b c d e h f i j} : LR C o 5 qY6 (yS465 g a e b h f c i d j) (.br (decide (f < ((e.map Dg.av).length : Int)))
(.run 0 qY9 (mkS 97 [vt 8 g,vv 15 (.vs 2 a (e.map Dg.av)),vv 16 (.vs 2 b (h.map Dg.av)),vi 17 f,vb 66 true] [(9,⟨[(.vs 6 c (i.map Typ.av))],[]⟩),(12,⟨[(.vs 6 d (j.map Typ.av))],[]⟩)] Hp.none 0))
(.run 0 qY10 (mkS 97 [vt 8 g,vv 15 (.vs 2 a (e.map Dg.av)),vv 16 (.vs 2 b (h.map Dg.av)),vi 17 f,vb 66 false] [(9,⟨[(.vs 6 c (i.map Typ.av))],[]⟩),(12,⟨[(.vs 6 d (j.map Typ.av))],[]⟩)] Hp.none 0))) := lR 5
abbrev yS468 := fun a (b : Bool) (c : List Dg) (d : Bool) (e : List Dg) f g h (i : Bool) (j : List Typ) (k : Bool) (l : List Typ) => mkS 97 [vt 8 a,vv 15 (.vs 2 b (c.map Dg.av)),vv 16 (.vs 2 d (e.map Dg.av)),vi 17 f,vb 66 g,vv 69 (.vs 2 b (c.map Dg.av)),vi 70 f,vv 71 (.cptr h)] [(9,⟨[(.vs 6 i (j.map Typ.av))],[]⟩),(12,⟨[(.vs 6 k (l.map Typ.av))],[]⟩)] Hp.none 0
theorem p5_17 {g a d h e f c} {b i : List Dg} {j k : List Typ} : LR C o 5 qY9 (mkS 97 [vt 8 g,vv 15 (.vs 2 a (b.map Dg.av)),vv 16 (.vs 2 d (i.map Dg.av)),vi 17 c,vb 66 h] [(9,⟨[(.vs 6 e (j.map Typ.av))],[]⟩),(12,⟨[(.vs 6 f (k.map Typ.av))],[]⟩)] Hp.none 0) (ix (b.map Dg.av) c fun l =>
(.mid 0 qY0 3 (yS468 g a b d i c h (AV.cells l) e j f k))) := lR 4
theorem p5_18 {e a b f c d i} {g h : List Dg} {j k : List Typ} : LR C o 5 qY10 (mkS 97 [vt 8 e,vv 15 (.vs 2 a (g.map Dg.av)),vv 16 (.vs 2 b (h.map Dg.av)),vi 17 i,vb 66 f] [(9,⟨[(.vs 6 c (j.map Typ.av))],[]⟩),(12,⟨[(.vs 6 d (k.map Typ.av))],[]⟩)] Hp.none 0) (cl0 14 [] fun l => .br (AV.pure l.v)
(.mid 0 qY11 1 (mkS 97 [vt 8 e,vv 15 (.vs 2 a (g.map Dg.av)),vv 16 (.vs 2 b (h.map Dg.av)),vi 17 i,vb 66 f,vv 96 l.v] [(9,⟨[(.vs 6 c (j.map Typ.av))],[]⟩),(12,⟨[(.vs 6 d (k.map Typ.av))],[]⟩)] Hp.none 0)) .none) := lR 2
abbrev yS470 := fun a (b : Bool) (c : List Dg) (d : Bool) (e : List Dg) f g (h : Dg) i (j : Bool) (k : List Typ) (l : Bool) (m : List Typ) => mkS 97 [vt 8 a,vv 15 (.vs 2 b (c.map Dg.av)),vv 16 (.vs 2 d (e.map Dg.av)),vi 17 f,vb 66 g,vv 69 (.vs 2 b (c.map Dg.av)),vi 70 f,vv 71 (.cptr (Dg.cs h)),vv 72 (.cptr [(i6 h.err)]),vi 73 h.err,vv 74 (.vs 2 d (e.map Dg.av)),vi 75 f,vv 76 (.cptr i)] [(9,⟨[(.vs 6 j (k.map Typ.av))],[]⟩),(12,⟨[(.vs 6 l (m.map Typ.av))],[]⟩)] Hp.none 0
theorem p5_19 {i b c j d e a f} {g h : Bool} {k l : List Typ} : LM C o 5 qY0 3 (yS468 i b d c e a j (Dg.cs f) g k h l) (ix (e.map Dg.av) a fun m =>
(.mid 0 qY0 8 (yS470 i b d c e a j f (AV.cells m) g k h l))) := lM 0
theorem p5_20 {f b c g d e a j} {h i : List Dg} {k l : List Typ} : LM C o 5 qY11 1 (mkS 97 [vt 8 f,vv 15 (.vs 2 b (h.map Dg.av)),vv 16 (.vs 2 c (i.map Dg.av)),vi 17 j,vb 66 g,vb 96 a] [(9,⟨[(.vs 6 d (k.map Typ.av))],[]⟩),(12,⟨[(.vs 6 e (l.map Typ.av))],[]⟩)] Hp.none 0) (rt (.bool a)) := lM 1
abbrev yS471 := fun a (b : Bool) (c : List Dg) (d : Bool) (e : List Dg) f g (h i : Dg) j k (l : Bool) (m : List Typ) (n : Bool) (o : List Typ) => mkS 97 [vt 8 a,vv 15 (.vs 2 b (c.map Dg.av)),vv 16 (.vs 2 d (e.map Dg.av)),vi 17 f,vb 66 g,vv 69 (.vs 2 b (c.map Dg.av)),vi 70 f,vv 71 (.cptr (Dg.cs h)),vv 72 (.cptr [(i6 h.err)]),vi 73 h.err,vv 74 (.vs 2 d (e.map Dg.av)),vi 75 f,vv 76 (.cptr (Dg.cs i)),vv 77 (.cptr [(i6 i.err)]),vi 78 i.err,vb 79 j,vb 80 false,vv 81 (.vs 2 b (c.map Dg.av)),vi 82 f,vv 83 (.cptr k)] [(9,⟨[(.vs 6 l (m.map Typ.av))],[]⟩),(12,⟨[(.vs 6 n (o.map Typ.av))],[]⟩)] Hp.none 0
theorem p5_21 {j c f k d g a b e} {h i : Bool} {l m : List Typ} : LM C o 5 qY0 8 (yS470 j c d f g a k b (Dg.cs e) h l i m) (.br (!(decide (b.err = e.err)))
(rt (.bool false))
(ix (d.map Dg.av) a fun n =>
(.mid 4 qY0 15 (yS471 j c d f g a k b e (! (decide (b.err = e.err))) (AV.cells n) h l i m)))) := lM 4
abbrev yS472 := fun a (b : Bool) (c : List Dg) (d : Bool) (e : List Dg) f g (h i : Dg) j (k : Dg) l m n (o : Bool) (p : List Typ) (q : Bool) (r : List Typ) => mkS 97 [vt 8 a,vv 15 (.vs 2 b (c.map Dg.av)),vv 16 (.vs 2 d (e.map Dg.av)),vi 17 f,vb 66 g,vv 69 (.vs 2 b (c.map Dg.av)),vi 70 f,vv 71 (.cptr (Dg.cs h)),vv 72 (.cptr [(i6 h.err)]),vi 73 h.err,vv 74 (.vs 2 d (e.map Dg.av)),vi 75 f,vv 76 (.cptr (Dg.cs i)),vv 77 (.cptr [(i6 i.err)]),vi 78 i.err,vb 79 j,vb 80 false,vv 81 (.vs 2 b (c.map Dg.av)),vi 82 f,vv 83 (.cptr (Dg.cs k)),vv 84 (.cptr (Dg.cs k)),vi 85 k.at_,vt 86 a,vi 87 l,vi 88 m,vv 89 (.vs 2 d (e.map Dg.av)),vi 90 f,vv 91 (.cptr n)] [(9,⟨[(.vs 6 o (p.map Typ.av))],[]⟩),(12,⟨[(.vs 6 q (r.map Typ.av))],[]⟩)] Hp.none 0
theorem p5_22 {h b c l m d e a f g i} {j k : Bool} {n p : List Typ} : LM C o 5 qY0 15 (yS471 h b d c e a l f g m (Dg.cs i) j n k p) (ix (e.map Dg.av) a fun q =>
(.mid 0 qY0 23 (yS472 h b d c e a l f g m i (h.length : Int) (w64 (i.at_ + (h.length : Int))) (AV.cells q) j n k p))) := lM 0
theorem p5_23 {f b c q r d e a s l i j k p} {g h : Bool} {m n : List Typ} : LM C o 5 qY0 23 (yS472 f b d c e a q i j r k s l (Dg.cs p) g m h n) (.br (!(decide (l = p.at_)))
(rt (.bool false))
(.run 2 qY12 (mkS 97 [vt 8 f,vv 15 (.vs 2 b (d.map Dg.av)),vv 16 (.vs 2 c (e.map Dg.av)),vi 17 a,vb 95 false] [(9,⟨[(.vs 6 g (m.map Typ.av))],[]⟩),(12,⟨[(.vs 6 h (n.map Typ.av))],[]⟩)] Hp.none 0))) := lM 4
theorem p5_24 {j a b k c d g} {e f : List Dg} {h i : List Typ} : LR C o 5 qY12 (mkS 97 [vt 8 j,vv 15 (.vs 2 a (e.map Dg.av)),vv 16 (.vs 2 b (f.map Dg.av)),vi 17 g,vb 95 k] [(9,⟨[(.vs 6 c (h.map Typ.av))],[]⟩),(12,⟨[(.vs 6 d (i.map Typ.av))],[]⟩)] Hp.none 0) (.run 0 qY6 (yS465 j a e b f (w64 (g + 1)) c h d i)) := lR 3
end
section
open Go Go.Vai
attribute [local irreducible] goTo zao mkS
set_option maxHeartbeats 40000000
set_option linter.unusedSectionVars false
theorem zgm : ∀ n : Nat,zbz (zdi false 1 n (zi0 [.int .u8 (0)] n)) = some (List.replicate n 0)
 | 0=>rfl
 | n + 1=>by
  show (zbz (zdi false 1 n (zi0 [.int .u8 (0)] n))).bind (fun r=>some (UInt8.ofNat (0 : Int).toNat :: r)) = _;rw [zgm n];rfl
theorem Was.nF {p : Prop} [Decidable p] {x y : Option Out} {Q : Out→Prop} (h : p) (e : Was y Q) : Was (Vai.br (!decide p) x y) Q := .brf (by rw [decide_eq_true h]; rfl) e
structure MovD (K : Nat) (L L2 : List Dg) : Prop where
 len : L2.length = L.length
 le : L.length ≤ 1000000
 R : ∀ d ∈ L,InR 5000 d.at_
 mv : ∀ (i : Nat) (d : Dg),L[i]? = some d→∃ d',L2[i]? = some d'∧d'.err = d.err∧d'.at_ = d.at_ + K
theorem movD {K : Nat} {D D2 : List (Int × Int)} (h : D2 = D.map (shX K)) (hl : D.length ≤ 1000000) (hR : ∀ x ∈ D,InR 5000 x.1) : MovD K (D.map dgq) (D2.map dgq):=by
 subst h;refine ⟨by simp,by simpa using hl,fun d hd=>?_,fun i d hd=>?_⟩
 ·obtain ⟨p,hp,rfl⟩ := List.mem_map.1 hd;exact hR p hp
 ·rw [List.getElem?_map] at hd;cases hp : D[i]? with
  | none=>rw [hp] at hd; cases hd
  | some p =>
   rw [hp] at hd;injection hd with hd;subst hd;exact ⟨dgq (shX K p),by rw [List.getElem?_map,List.getElem?_map,hp]; rfl,rfl,rfl⟩
variable {C : Nat→Oracle} (hC : Ext C)
include hC
theorem w20k (src : List UInt8) (R : List Typ→Prop) (hR : src.length ≤ 4000→∃ f r,paL f true [] (Go.Proofs.YtfdklpkfpmkgeaaGreatDoor.ps0 src).adv = some r∧(r.2.fin.err = 0→R r.1.2)) :
  Was (calL C 20 [.str src] Hp.none 0) (fun o=>∃ tg ts x e,o.v = .tuple [.agg [.vs 6 tg (ts.map Typ.av)],.int .i64 x,.int .i64 e]∧(e = 0→R ts∧src.length ≤ 4000)):=by
 by_cases hl : src.length ≤ 4000
 ·obtain ⟨f,r,h,hr⟩ := hR hl;refine ⟨_,l20 hC hl h,?_⟩;simp only [paO];split
  ·rename_i he;exact ⟨r.1.1,r.1.2,0,0,rfl,fun _=>⟨hr he,hl⟩⟩
  ·rename_i he;exact ⟨true,[],_,_,rfl,fun h=>absurd h he⟩
 ·exact ⟨_,l20_long hC hl,true,[],0,3,rfl,fun h=>by cases h⟩
variable (haw : Was (calL C 14 [] Hp.none 0) QT)
include haw
abbrev p5A : List Nat := Q5o
theorem w5_loop (hd : List UInt8) (hh : hd.length ≤ 100) (L L2 : List Dg) (hM : MovD hd.length L L2) (t1 t2 a1 a2 : Bool) (T1 T2 : List Typ) : ∀ (r : List Dg) (i : Nat),L.drop i = r→i ≤ L.length →
  Was (RL C 5 p5A (mkS 97 [(8,.val (.str hd) .no),(15,.val (.vs 2 t1 (List.map Dg.av L)) .no),(16,.val (.vs 2 t2 (List.map Dg.av L2)) .no),(17,.val (.int .i64 (i : Int)) .no)] [(9,⟨[(.vs 6 a1 (List.map Typ.av T1))],[]⟩),(12,⟨[(.vs 6 a2 (List.map Typ.av T2))],[]⟩)] Hp.none 0)) QT:=by
 have hL := hM.le;have hLL := hM.len;intro r
 induction r with
 | nil =>
  intro i hi hil;have := zal _ _ hil hi;refine exW (fun o=>p5_16) ?_;simp only [Tr.val,lnM];refine .bF (by omega) ?_;refine exW (fun o=>p5_18) ?_;simp only [Tr.val,AV.pure,za3,za0];refine .call haw ?_;rintro o e;unfold QT at e;simp only [e,AV.pure,za0];refine exW (fun o=>p5_20) ?_;exact .mk rfl
 | cons d r ih =>
  intro i hi hil;obtain ⟨h1,h2,h3⟩ := zat _ _ hi;obtain ⟨d',k1,k2,k3⟩ := hM.mv i d h1;obtain ⟨g1,g2⟩ := hM.R d (List.mem_of_getElem? h1);refine exW (fun o=>p5_16) ?_;simp only [Tr.val,lnM];refine .bT (by omega) ?_;refine exW (fun o=>p5_17) ?_;simp only [Tr.val,lnM,itN,zan,h1,omS,obS,Dg.av_cs,zak];refine .bT (by omega) (.bT (by omega) ?_);refine exW (fun o=>p5_19) ?_;simp only [Tr.val,lnM,itN,zan,k1,omS,obS,Dg.av_cs,zak];refine .bT (by omega) (.bT (by omega) ?_);refine exW (fun o=>p5_21) ?_;simp only [Tr.val,lnM,itN,zan,h1,omS,obS,Dg.av_cs,zak];refine .nF k2.symm (.bT (by omega) (.bT (by omega) ?_));refine exW (fun o=>p5_22) ?_;simp only [Tr.val,lnM,itN,zan,k1,omS,obS,Dg.av_cs,zak];refine .bT (by omega) (.bT (by omega) ?_);refine exW (fun o=>p5_23) ?_;simp only [Tr.val];refine .nF (by rw [zb1 (by omega) (by omega),k3]) ?_;refine exW (fun o=>p5_24) ?_;simp only [Tr.val];rw [wi64 h3 hL];exact ih (i + 1) h2 (by omega)
theorem w5_chk (hd : List UInt8) (hh : hd.length ≤ 100) (c : Bool) (a1 a2 : Bool) (T1 T2 : List Typ) (hw : ∀ t ∈ T1,WfT t) (hb : T1.length + zgp T1 ≤ 100000) (hD : DgsR 4000 (chkD T1)) (hw2 : ∀ t ∈ T2,WfT t) (hb2 : T2.length + zgp T2 ≤ 100000) (hD2 : DgsR 4000 (chkD T2)) (hT : T2 = T1.map (shT (hd.length : Int))) :
  Was (RL C 5 Q34 (mkS 97 [(8,.val (.str hd) .no),(9,.lp 9 0),(12,.lp 12 0),(52,.val (.bool c) .no)] [(9,⟨[(.vs 6 a1 (List.map Typ.av T1))],[]⟩),(12,⟨[(.vs 6 a2 (List.map Typ.av T2))],[]⟩)] Hp.none 0)) QT:=by
 have h21 := w21 hC a1 T1 (by omega) hw (by omega) (hD.ok (by omega));have h22 := w21 hC a2 T2 (by omega) hw2 (by omega) (hD2.ok (by omega));rw [dgq_av] at h21 h22;have hS : srtP (chkD T2) = (srtP (chkD T1)).map (shX (hd.length : Int)) := by rw [hT,chkD_sh _ _ (fun t ht o ho=>((hw t ht).ops o ho).wf),srtP_sh]
 have hlen : (srtP (chkD T1)).length ≤ 1000000:=by
  have d2 : ∀ r : List Typ,(zgi r).length ≤ zgp r := fun r=>by
   induction r with
   | nil=>exact Nat.le_refl _
   | cons t r ih =>
    have := znk t;rw [zgi,zgp,lnA];omega
  have d3 := d2 T1;have d1 := zc5 (T1.map nmT) [];have d4 := zqb (zec ((chkD T1).map dgp));rw [zhh,lnM] at d4;rw [lnM] at d1;have d5 : (chkD T1).length = (dupD [] (T1.map nmT)).length + (zgi T1).length := lnA;show (ddP (zec ((chkD T1).map dgp))).length ≤ _;omega
 have hM := movD hS hlen (fun x hx=>by
  obtain ⟨⟨h1,h2⟩,_⟩ := srtP_at hD x hx;exact ⟨h1,by omega⟩)
 refine exW (fun o=>p5_12) ?_;simp only [Tr.val,AV.pure,za3,za8,za0];refine .call h21 ?_;rintro o e;simp only [e,AV.pure,zab,za0];clear e;refine exW (fun o=>p5_13) ?_;simp only [Tr.val,AV.pure,za3,za8,za0];refine .call h22 ?_;rintro o e;simp only [e,AV.pure,zab,za0];clear e;refine exW (fun o=>p5_14) ?_;simp only [Tr.val];refine .nF (by have := hM.len; simp only [lnM] at this ⊢; omega) ?_;refine exW (fun o=>p5_15) ?_;simp only [Tr.val];exact w5_loop hC haw hd hh _ _ hM false false a1 a2 T1 T2 _ 0 rfl (Nat.zero_le _)
theorem w5_par (s hd : List UInt8) (hs : s.length ≤ 100000000) (n : Nat) (hn : n ≤ 30) (hh : hd = hdrN n) :
  Was ((calL C 20 [.str s] Hp.none 0).bind fun r=>Vai.br (AV.pure r.v) (ML C 5 Q1j 2 (mkS 97 [(7,.val (.str s) .no),(8,.val (.str hd) .no),(34,.val (.str s) .no),(35,.val r.v .no)] [] Hp.none 0)) none) QT:=by
 have hl : hd.length ≤ 100:=by
  rw [hh];unfold hdrN;simp;omega
 obtain ⟨T,hT⟩ : ∃ T : List Typ,s.length ≤ 4000→∃ f r,paL f true [] (Go.Proofs.YtfdklpkfpmkgeaaGreatDoor.ps0 s).adv = some r∧r.1.2 = T:=by
  by_cases h : s.length ≤ 4000
  ·obtain ⟨f,r,h'⟩ := pa_tot h;exact ⟨r.1.2,fun _=>⟨f,r,h',rfl⟩⟩
  ·exact ⟨[],fun h'=>absurd h' h⟩
 refine .call (w20k hC s (fun ts=>ts = T∧(∀ t ∈ T,WfT t)∧T.length + zgp T ≤ 100000∧DgsR s.length (chkD T)) fun h=>?_) ?_
 ·obtain ⟨f,r,h',rfl⟩ := hT h;obtain ⟨a1,a2⟩ := pa_chk h h';exact ⟨f,r,h',fun he=>⟨rfl,a1,a2,chkD_R ((pa_at h h').2 (zut he))⟩⟩
 ·rintro o ⟨tg,ts,x,e,ho,he⟩;simp only [ho,AV.pure,za3,za8,za0];clear ho;refine exW (fun o=>p5_9) ?_;simp only [Tr.val,AV.pure,za3,za0];refine .bL (by omega) ?_;refine .call (w20k hC (hd ++ s) (fun ts'=>ts' = T.map (shT (hd.length : Int))∧(∀ t ∈ ts',WfT t)∧ts'.length + zgp ts' ≤ 100000∧DgsR (hd ++ s).length (chkD ts')) fun h=>?_) ?_
  ·obtain ⟨f,r,h',rfl⟩ := hT (by rw [lnA] at h; omega);obtain ⟨r',e1,e2⟩ := pa_sh n h';rw [← hh] at e1 e2;obtain ⟨a1,a2⟩ := pa_chk h e1;exact ⟨f,r',e1,fun he=>⟨e2,a1,a2,chkD_R ((pa_at h e1).2 (zut he))⟩⟩
  ·rintro o ⟨tg',ts',x',e',ho,he'⟩;simp only [ho,AV.pure,za3,za8,za0];clear ho;refine exW (fun o=>p5_10) ?_;simp only [Tr.val,AV.pure,za3,za0];refine .ndec (fun _=>?_) fun h0=>.ndec (fun _=>?_) fun h1=>?_
   ·refine .call haw ?_;rintro o e;unfold QT at e;simp only [e,AV.pure,za0];refine exW (fun o=>p5_11) ?_;exact .mk rfl
   ·refine .call haw ?_;rintro o e;unfold QT at e;simp only [e,AV.pure,za0];refine exW (fun o=>p5_11) ?_;exact .mk rfl
   ·obtain ⟨⟨rfl,b1,b2,b3⟩,b4⟩ := he h0;obtain ⟨⟨rfl,c1,c2,c3⟩,c4⟩ := he' h1;exact w5_chk hC haw hd hl _ tg tg' ts _ b1 b2 (fun d hd=>by obtain ⟨⟨k1,k2⟩,k3⟩ := b3 d hd; exact ⟨⟨k1,by omega⟩,k3⟩) c1 c2 (fun d hd=>by obtain ⟨⟨k1,k2⟩,k3⟩ := c3 d hd; exact ⟨⟨k1,by omega⟩,k3⟩) rfl
theorem w5 (tg : Bool) (l : List Int) (b : Bool) (x : Int) : Was (calL C 5 [.vs 1 tg (ints l),.bool b,.int .i64 x] Hp.none 0) QT:=by
 refine exW (fun o=>p5_c hC) (exW (fun o=>p5_0) ?_);simp only [Tr.val,za4,AV.pure,za3,za0];refine .dec (fun h=>?_) fun h=>?_
 ·refine .call haw ?_;rintro o e;unfold QT at e;simp only [e,AV.pure,za0];refine exW (fun o=>p5_1) ?_;exact .mk rfl
 ·have h0 : l.length ≤ 1000000 := by omega
  refine exW (fun o=>p5_2) ?_;simp only [Tr.val,AV.pure,za3,za1,za0];refine .call (w18 hC tg l h0) ?_;rintro o ⟨s,e,hs⟩;simp only [e,AV.pure,za0];clear e;refine exW (fun o=>p5_3) ?_;simp only [Tr.val,AV.pure,za3,za1,za0];cases b
  ·simp only [zaw];refine exW (fun o=>p5_5) ?_;simp only [Tr.val,AV.pure,za3,za0];refine .call (w22 hC x 30 (by decide) (by decide)) ?_;rintro o ⟨v,e,v0,v1⟩;simp only [e,AV.pure,za0];clear e;refine exW (fun o=>p5_7) ?_;simp only [Tr.val,AV.pure,za3,za0,zgm,obS];refine .bT v0 (.bT trivial (.bT (by omega) (.bT (by omega) (.bL (by rw [List.length_replicate]; omega) (.bL (by simp; omega) ?_)))));exact w5_par hC haw s _ hs v.toNat (by omega) (List.append_assoc _ _ _)
  ·simp only [za0];refine .call (w19 hC tg l h0) ?_;rintro o ⟨s',e,hs'⟩;simp only [e,AV.pure,za0];clear e;refine exW (fun o=>p5_4) ?_;simp only [Tr.val];refine exW (fun o=>p5_6) ?_;simp only [Tr.val,AV.pure,za3,za0];refine .call (w22 hC x 30 (by decide) (by decide)) ?_;rintro o ⟨v,e,v0,v1⟩;simp only [e,AV.pure,za0];clear e;refine exW (fun o=>p5_8) ?_;simp only [Tr.val,AV.pure,za3,za0,zgm,obS];refine .bT v0 (.bT trivial (.bT (by omega) (.bT (by omega) (.bL (by rw [List.length_replicate]; omega) (.bL (by simp; omega) ?_)))));exact w5_par hC haw s' _ (by omega) v.toNat (by omega) (List.append_assoc _ _ _)
end
end Go.Proofs.YtfdklpkfpmkgeaaGreatDoor
