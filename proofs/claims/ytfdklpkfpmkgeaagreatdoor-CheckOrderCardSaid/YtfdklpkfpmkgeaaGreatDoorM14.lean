/- Stage laws,printed by gen_p.py. -/
import Derived.Test.YtfdklpkfpmkgeaaGreatDoorM6
import Derived.Test.YtfdklpkfpmkgeaaGreatDoorM12
import Derived.Test.YtfdklpkfpmkgeaaGreatDoorM13
set_option linter.unusedSimpArgs false
set_option linter.unusedVariables false
set_option linter.unusedSectionVars false
set_option linter.unnecessarySimpa false
section
namespace Go.Proofs.YtfdklpkfpmkgeaaGreatDoor
open Go Go.Vai
attribute [local irreducible] goTo zao mkS
variable {C : Nat → Oracle} {o : Out}
abbrev cI0 : AV := (.vs 1 true [(.str [110]),(.str [55]),(.str [48]),(.str [110]),(.str [49,50,51,52,53,54,55,56,57,48,49])])
abbrev cI1 : AV := (.vs 1 true [(.str [112]),(.str [116,114,117,101]),(.str [102,97,108,115,101])])
abbrev cI2 : AV := (.vs 1 true [(.str [97]),(.str [98]),(.str [99]),(.str [115,105,122,101,40,116,97,103,115,41])])
abbrev cI3 : AV := (.vs 1 true [(.str [119]),(.str [34,34]),(.str [34,97,110,110,34]),(.str [119])])
abbrev cI4 : AV := (.vs 1 true [(.str [32,43,32]),(.str [32,45,32]),(.str [32,42,32])])
abbrev cI5 : AV := (.vs 1 true [(.str [32,38,38,32]),(.str [32,124,124,32])])
abbrev cI6 : AV := (.vs 1 true [(.str [32,61,61,32]),(.str [32,33,61,32]),(.str [32,60,32]),(.str [32,60,61,32]),(.str [32,62,32]),(.str [32,62,61,32])])
abbrev qI0 : List Nat := [0,5,0,5,0,5,0,0,5,6,5,0,5,0,0,5,2,0,5,6,0,0,5,0,5,7,0,5,7,5,0,0,5,7,5,0]
abbrev qI1 : List Nat := [0,5,0,5,0,5,0,0,5,7,5,0,5,0,0,5,2,0,5,6,0,0,5,0,5,7,0,5,7,5,0,0,5,7,5,0]
abbrev qI2 : List Nat := [0,5,0,5,0,5,0,0,5,6,5,0,5,0,0,5,2,0,5,6,0,0,5,0,5,7,0,5,7,5,0,0,5,6,0]
abbrev qI3 : List Nat := [0,5,0,5,0,5,0,0,5,7,5,0,5,0,0,5,2,0,5,6,0,0,5,0,5,7,0,5,7,5,0,0,5,6,0]
abbrev qI4 : List Nat := [0,5,0,5,0,5,0,0,5,6,5,0,5,0,0,5,2,0,5,7,0,5,6,0,0,5,7,5,0]
abbrev qI5 : List Nat := [0,5,0,5,0,5,0,0,5,7,5,0,5,0,0,5,2,0,5,7,0,5,6,0,0,5,7,5,0]
abbrev qI6 : List Nat := [0,5,0,5,0,5,0,0,5,6,5,0,5,0,0,5,2,0,5,7,0,5,7,5,5,0,0,5,2,0,5,6,5,5,0,0,5,7,5,0]
abbrev qI7 : List Nat := [0,5,0,5,0,5,0,0,5,6,5,0,5,0,0,5,2,0,5,7,0,5,7,5,5,0,0,5,2,0,5,7,0,5,7,0,5,7,0,5,7,0,5,7,5,5,0,0,5,7,5,0]
abbrev qI8 : List Nat := [0,5,0,5,0,5,0,0,5,7,5,0,5,0,0,5,2,0,5,7,0,5,7,5,5,0,0,5,2,0,5,6,5,5,0,0,5,7,5,0]
abbrev qI9 : List Nat := [0,5,0,5,0,5,0,0,5,7,5,0,5,0,0,5,2,0,5,7,0,5,7,5,5,0,0,5,2,0,5,7,0,5,7,0,5,7,0,5,7,0,5,7,5,5,0,0,5,7,5,0]
abbrev qI10 : List Nat := [0,5,0,5,0,5,0,0,5,6,5,0,5,0,0,5,2,0,5,6,0,0]
abbrev qI11 : List Nat := [0,5,0,5,0,5,0,0,5,6,5,0,5,0,0,5,2,0,5,7,0,5,7,5,5,0,0]
abbrev qI12 : List Nat := [0,5,0,5,0,5,0,0,5,7,5,0,5,0,0,5,2,0,5,6,0,0]
abbrev qI13 : List Nat := [0,5,0,5,0,5,0,0,5,7,5,0,5,0,0,5,2,0,5,7,0,5,7,5,5,0,0]
abbrev qI14 : List Nat := [0,5,0,5,0,5,0,0,5,6,5,0,5,0,0,5,2,0,5,6,0,0,5,0,5,7,0,5,6,0]
abbrev qI15 : List Nat := [0,5,0,5,0,5,0,0,5,6,5,0,5,0,0,5,2,0,5,7,0,5,7,5,5,0,0,5,2,0,5,7,0,5,7,0,5,7,0,5,7,0,5,6,0,5,0]
abbrev qI16 : List Nat := [0,5,0,5,0,5,0,0,5,7,5,0,5,0,0,5,2,0,5,6,0,0,5,0,5,7,0,5,6,0]
abbrev qI17 : List Nat := [0,5,0,5,0,5,0,0,5,7,5,0,5,0,0,5,2,0,5,7,0,5,7,5,5,0,0,5,2,0,5,7,0,5,7,0,5,7,0,5,7,0,5,6,0,5,0]
abbrev qI18 : List Nat := [0,5,0,5,0,5,0,0,5,6,5,0,5,0,0,5,2,0,5,6,0,0,5,0,5,6,0]
abbrev qI19 : List Nat := [0,5,0,5,0,5,0,0,5,6,5,0,5,0,0,5,2,0,5,7,0,5,7,5,5,0,0,5,2,0,5,7,0,5,6,0]
abbrev qI20 : List Nat := [0,5,0,5,0,5,0,0,5,6,5,0,5,0,0,5,2,0,5,7,0,5,7,5,5,0,0,5,2,0,5,7,0,5,7,0,5,6,0]
abbrev qI21 : List Nat := [0,5,0,5,0,5,0,0,5,6,5,0,5,0,0,5,2,0,5,7,0,5,7,5,5,0,0,5,2,0,5,7,0,5,7,0,5,7,0,5,6,0]
abbrev qI22 : List Nat := [0,5,0,5,0,5,0,0,5,7,5,0,5,0,0,5,2,0,5,6,0,0,5,0,5,6,0]
abbrev qI23 : List Nat := [0,5,0,5,0,5,0,0,5,7,5,0,5,0,0,5,2,0,5,7,0,5,7,5,5,0,0,5,2,0,5,7,0,5,6,0]
abbrev qI24 : List Nat := [0,5,0,5,0,5,0,0,5,7,5,0,5,0,0,5,2,0,5,7,0,5,7,5,5,0,0,5,2,0,5,7,0,5,7,0,5,6,0]
abbrev qI25 : List Nat := [0,5,0,5,0,5,0,0,5,7,5,0,5,0,0,5,2,0,5,7,0,5,7,5,5,0,0,5,2,0,5,7,0,5,7,0,5,7,0,5,6,0]
abbrev qI26 : List Nat := [0,5,0,5,0,5,0,0,5,6,5,0,5,0,0,5,2,0,5,6,0,0,5,0,5,6,0,5,0]
abbrev qI27 : List Nat := [0,5,0,5,0,5,0,0,5,6,5,0,5,0,0,5,2,0,5,7,0,5,7,5,5,0,0,5,2,0,5,7,0,5,6,0,5,0]
abbrev qI28 : List Nat := [0,5,0,5,0,5,0,0,5,6,5,0,5,0,0,5,2,0,5,7,0,5,7,5,5,0,0,5,2,0,5,7,0,5,7,0,5,7,0,5,7,0,5,6,0,5,0,5,0]
abbrev qI29 : List Nat := [0,5,0,5,0,5,0,0,5,7,5,0,5,0,0,5,2,0,5,6,0,0,5,0,5,6,0,5,0]
abbrev qI30 : List Nat := [0,5,0,5,0,5,0,0,5,7,5,0,5,0,0,5,2,0,5,7,0,5,7,5,5,0,0,5,2,0,5,7,0,5,6,0,5,0]
abbrev qI31 : List Nat := [0,5,0,5,0,5,0,0,5,7,5,0,5,0,0,5,2,0,5,7,0,5,7,5,5,0,0,5,2,0,5,7,0,5,7,0,5,7,0,5,7,0,5,6,0,5,0,5,0]
abbrev qI32 : List Nat := [0,5,0,5,0,5,0,0,5,6,5,0,5,0,0,5,2,0,5,6,0,0,5,0,5,6,0,5,0,5,0]
abbrev qI33 : List Nat := [0,5,0,5,0,5,0,0,5,6,5,0,5,0,0,5,2,0,5,7,0,5,7,5,5,0,0,5,2,0,5,7,0,5,6,0,5,0,5,0]
abbrev qI34 : List Nat := [0,5,0,5,0,5,0,0,5,6,5,0,5,0,0,5,2,0,5,7,0,5,7,5,5,0,0,5,2,0,5,7,0,5,7,0,5,7,0,5,7,0,5,6,0,5,0,5,0,5,0]
abbrev qI35 : List Nat := [0,5,0,5,0,5,0,0,5,7,5,0,5,0,0,5,2,0,5,6,0,0,5,0,5,6,0,5,0,5,0]
abbrev qI36 : List Nat := [0,5,0,5,0,5,0,0,5,7,5,0,5,0,0,5,2,0,5,7,0,5,7,5,5,0,0,5,2,0,5,7,0,5,6,0,5,0,5,0]
abbrev qI37 : List Nat := [0,5,0,5,0,5,0,0,5,7,5,0,5,0,0,5,2,0,5,7,0,5,7,5,5,0,0,5,2,0,5,7,0,5,7,0,5,7,0,5,7,0,5,6,0,5,0,5,0,5,0]
theorem p41_c (hC : Ext C) {a b : Bool} {c : List AV} {d e f : Int} : LC C o 41 (mk0 292 [vv 0 (.vs 1 a c),vi 1 d,vi 2 e,vi 3 f,vb 4 b]) [(.vs 1 a c),(i6 d),(i6 e),(i6 f),(.bool b)] Hp.none 0 := lC hC
theorem p41_0 {a d b c e f} : LR C o 41 [] (mk0 292 [vv 0 (.vs 1 a b),vi 1 c,vi 2 e,vi 3 f,vb 4 d]) (cl0 34 [(.vs 1 a b),(i6 c)] fun g => .br (AV.pure g.v)
(.mid 0 [0,5,0] 3 (mk0 292 [vv 0 (.vs 1 a b),vi 1 c,vi 2 e,vi 3 f,vb 4 d,vv 36 (.vs 1 a b),vi 37 c,vv 38 g.v])) .none) := lR 4
theorem p41_1 {a e c d f g b} : LM C o 41 [0,5,0] 3 (mk0 292 [vv 0 (.vs 1 a c),vi 1 d,vi 2 f,vi 3 g,vb 4 e,vv 36 (.vs 1 a c),vi 37 d,vi 38 b]) (cl0 22 [(i6 b),(i6 1099511627776)] fun h => .br (AV.pure h.v)
(.mid 0 [0,5,0,5,0] 2 (mk0 292 [vv 0 (.vs 1 a c),vi 1 d,vi 2 f,vi 3 g,vb 4 e,vi 12 b,vi 39 b,vv 40 h.v])) .none) := lM 2
theorem p41_2 {b c d e f g a h} : LM C o 41 [0,5,0,5,0] 2 (mk0 292 [vv 0 (.vs 1 b d),vi 1 e,vi 2 f,vi 3 g,vb 4 c,vi 12 a,vi 39 a,vi 40 h]) (cl0 22 [(i6 a),(i6 37)] fun i => .br (AV.pure i.v)
(.mid 0 [0,5,0,5,0,5,0,0] 2 (mk0 292 [vv 0 (.vs 1 b d),vi 1 e,vi 2 f,vi 3 g,vb 4 c,vi 12 a,vi 13 (w64 (Int.tdiv h 16)),vi 42 a,vv 43 i.v])) .none) := lM 3
abbrev yS390 := fun (a : Bool) (b : List AV) c d e f g h i j => mk0 292 [vv 0 (.vs 1 a b),vi 1 c,vi 2 d,vi 3 e,vb 4 f,vi 12 g,vi 13 h,vb 14 i,vi 57 d,vb 58 true,vi 60 g,j]
abbrev zvc := fun a b c d e => mkS 292 [vi 1 a,vi 13 b,vb 149 false,vv 152 cI3,vi 153 b,vi 154 c,vi 155 d,vv 156 (.cptr e)] [] Hp.none 0
abbrev yS392 := fun (a : Bool) (b : List AV) c d e f g h i j => mk0 292 [vv 0 (.vs 1 a b),vi 1 c,vi 2 d,vi 3 e,vb 4 f,vi 12 g,vi 13 h,vb 14 i,vb 142 false,vi 160 g,j]
abbrev yS393 := fun (a : Bool) (b : List AV) c d e f g h i j => mk0 292 [vv 0 (.vs 1 a b),vi 1 c,vi 2 d,vi 3 e,vb 4 f,vi 12 g,vi 13 h,vb 14 i,vi 57 d,vb 58 true,vi 60 g,j]
abbrev zut := fun a b c d e => mkS 292 [vi 1 a,vi 13 b,vb 149 false,vv 152 cI3,vi 153 b,vi 154 c,vi 155 d,vv 156 (.cptr e)] [] Hp.none 0
abbrev yS395 := fun (a : Bool) (b : List AV) c d e f g h i j => mk0 292 [vv 0 (.vs 1 a b),vi 1 c,vi 2 d,vi 3 e,vb 4 f,vi 12 g,vi 13 h,vb 14 i,vb 142 false,vi 160 g,j]
theorem p41_3 {d e f c g h b i a} : LM C o 41 [0,5,0,5,0,5,0,0] 2 (mk0 292 [vv 0 (.vs 1 d f),vi 1 c,vi 2 g,vi 3 h,vb 4 e,vi 12 b,vi 13 a,vi 42 b,vi 43 i]) (.br (decide (i = 36))
(.br (decide (3 < h))
(.br (decide ((w64 (1 + (Int.tmod a 3))) = 1))
(cl0 22 [(i6 b),(i6 8)] fun u => .br (AV.pure u.v)
(.mid 7 qI10 2 (yS390 d f c (w64 (1 + (Int.tmod a 3))) h e b a true (vv 61 u.v))) .none)
(.br (decide ((w64 (1 + (Int.tmod a 3))) = 2))
(.br e
(.br (decide ((Int.tmod a 2) = 0))
(rt (.tuple [(.str [111,119,110,101,114]),(i6 (w64 (c + 1)))]))
(ixl 4 [(.str [119]),(.str [34,34]),(.str [34,97,110,110,34]),(.str [119])] (Int.tmod (w64 (Int.tdiv a 2)) 4) fun y =>
(.mid 0 qI4 5 (zvc c a (w64 (Int.tdiv a 2)) (Int.tmod (w64 (Int.tdiv a 2)) 4) (AV.cells y)))))
(ixl 4 [(.str [119]),(.str [34,34]),(.str [34,97,110,110,34]),(.str [119])] (Int.tmod (w64 (Int.tdiv a 2)) 4) fun z =>
(.mid 0 qI4 5 (zvc c a (w64 (Int.tdiv a 2)) (Int.tmod (w64 (Int.tdiv a 2)) 4) (AV.cells z)))))
(cl0 22 [(i6 b),(i6 10)] fun w => .br (AV.pure w.v)
(.mid 2 qI11 2 (yS392 d f c (w64 (1 + (Int.tmod a 3))) h e b a true (vv 161 w.v))) .none)))
(.br (decide ((w64 (1 + (Int.tmod a 3))) = 1))
(cl0 22 [(i6 b),(i6 8)] fun x => .br (AV.pure x.v)
(.mid 7 qI10 2 (yS390 d f c (w64 (1 + (Int.tmod a 3))) h e b a (decide ((w64 ((f.length : Int) + 4)) < c)) (vv 61 x.v))) .none)
(.br (decide ((w64 (1 + (Int.tmod a 3))) = 2))
(.br e
(.br (decide ((Int.tmod a 2) = 0))
(rt (.tuple [(.str [111,119,110,101,114]),(i6 (w64 (c + 1)))]))
(ixl 4 [(.str [119]),(.str [34,34]),(.str [34,97,110,110,34]),(.str [119])] (Int.tmod (w64 (Int.tdiv a 2)) 4) fun A =>
(.mid 0 qI4 5 (zvc c a (w64 (Int.tdiv a 2)) (Int.tmod (w64 (Int.tdiv a 2)) 4) (AV.cells A)))))
(ixl 4 [(.str [119]),(.str [34,34]),(.str [34,97,110,110,34]),(.str [119])] (Int.tmod (w64 (Int.tdiv a 2)) 4) fun p =>
(.mid 0 qI4 5 (zvc c a (w64 (Int.tdiv a 2)) (Int.tmod (w64 (Int.tdiv a 2)) 4) (AV.cells p)))))
(cl0 22 [(i6 b),(i6 10)] fun j => .br (AV.pure j.v)
(.mid 2 qI11 2 (yS392 d f c (w64 (1 + (Int.tmod a 3))) h e b a (decide ((w64 ((f.length : Int) + 4)) < c)) (vv 161 j.v))) .none))))
(.br (decide (3 < h))
(.br (decide (g = 1))
(cl0 22 [(i6 b),(i6 8)] fun k => .br (AV.pure k.v)
(.mid 7 qI12 2 (yS393 d f c g h e b a true (vv 61 k.v))) .none)
(.br (decide (g = 2))
(.br e
(.br (decide ((Int.tmod a 2) = 0))
(rt (.tuple [(.str [111,119,110,101,114]),(i6 (w64 (c + 1)))]))
(ixl 4 [(.str [119]),(.str [34,34]),(.str [34,97,110,110,34]),(.str [119])] (Int.tmod (w64 (Int.tdiv a 2)) 4) fun q =>
(.mid 0 qI5 5 (zut c a (w64 (Int.tdiv a 2)) (Int.tmod (w64 (Int.tdiv a 2)) 4) (AV.cells q)))))
(ixl 4 [(.str [119]),(.str [34,34]),(.str [34,97,110,110,34]),(.str [119])] (Int.tmod (w64 (Int.tdiv a 2)) 4) fun r =>
(.mid 0 qI5 5 (zut c a (w64 (Int.tdiv a 2)) (Int.tmod (w64 (Int.tdiv a 2)) 4) (AV.cells r)))))
(cl0 22 [(i6 b),(i6 10)] fun l => .br (AV.pure l.v)
(.mid 2 qI13 2 (yS395 d f c g h e b a true (vv 161 l.v))) .none)))
(.br (decide (g = 1))
(cl0 22 [(i6 b),(i6 8)] fun m => .br (AV.pure m.v)
(.mid 7 qI12 2 (yS393 d f c g h e b a (decide ((w64 ((f.length : Int) + 4)) < c)) (vv 61 m.v))) .none)
(.br (decide (g = 2))
(.br e
(.br (decide ((Int.tmod a 2) = 0))
(rt (.tuple [(.str [111,119,110,101,114]),(i6 (w64 (c + 1)))]))
(ixl 4 [(.str [119]),(.str [34,34]),(.str [34,97,110,110,34]),(.str [119])] (Int.tmod (w64 (Int.tdiv a 2)) 4) fun s =>
(.mid 0 qI5 5 (zut c a (w64 (Int.tdiv a 2)) (Int.tmod (w64 (Int.tdiv a 2)) 4) (AV.cells s)))))
(ixl 4 [(.str [119]),(.str [34,34]),(.str [34,97,110,110,34]),(.str [119])] (Int.tmod (w64 (Int.tdiv a 2)) 4) fun t =>
(.mid 0 qI5 5 (zut c a (w64 (Int.tdiv a 2)) (Int.tmod (w64 (Int.tdiv a 2)) 4) (AV.cells t)))))
(cl0 22 [(i6 b),(i6 10)] fun n => .br (AV.pure n.v)
(.mid 2 qI13 2 (yS395 d f c g h e b a (decide ((w64 ((f.length : Int) + 4)) < c)) (vv 161 n.v))) .none))))) := lM 21
abbrev zta := fun a b c d e => mkS 292 [vi 1 a,vi 13 b,vb 125 true,vv 126 cI2,vi 127 b,vi 128 c,vi 129 d,vv 130 (.cptr e)] [] Hp.none 0
abbrev zjz := fun a b c d e => mkS 292 [vi 1 a,vi 13 b,vb 125 false,vv 134 cI0,vi 135 b,vi 136 c,vi 137 d,vv 138 (.cptr e)] [] Hp.none 0
theorem p41_4 {d e h b i f a g c} : LM C o 41 qI10 2 (yS390 d h b c i e f a true (vi 61 g)) (.br e
(.br (decide ((Int.tmod a 2) = 0))
(ixl 4 [(.str [97]),(.str [98]),(.str [99]),(.str [115,105,122,101,40,116,97,103,115,41])] (Int.tmod (w64 (Int.tdiv a 2)) 4) fun j =>
(.mid 1 qI2 5 (zta b a (w64 (Int.tdiv a 2)) (Int.tmod (w64 (Int.tdiv a 2)) 4) (AV.cells j))))
(ixl 5 [(.str [110]),(.str [55]),(.str [48]),(.str [110]),(.str [49,50,51,52,53,54,55,56,57,48,49])] (Int.tmod (w64 (Int.tdiv a 2)) 5) fun k =>
(.mid 0 qI0 5 (zjz b a (w64 (Int.tdiv a 2)) (Int.tmod (w64 (Int.tdiv a 2)) 5) (AV.cells k)))))
(ixl 5 [(.str [110]),(.str [55]),(.str [48]),(.str [110]),(.str [49,50,51,52,53,54,55,56,57,48,49])] (Int.tmod (w64 (Int.tdiv a 2)) 5) fun l =>
(.mid 0 qI0 5 (zjz b a (w64 (Int.tdiv a 2)) (Int.tmod (w64 (Int.tdiv a 2)) 5) (AV.cells l))))) := lM 14
theorem p41_5 {c a d e b} : LM C o 41 qI4 5 (zvc c a d e [(.str b)]) (rt (.tuple [(.str b),(i6 (w64 (c + 1)))])) := lM 1
abbrev zua := fun a b c d e => mkS 292 [vi 1 a,vi 13 b,vb 281 false,vv 284 cI1,vi 285 b,vi 286 c,vi 287 d,vv 288 (.cptr e)] [] Hp.none 0
theorem p41_6 {c d h b i e a f g} : LM C o 41 qI11 2 (yS392 c h b g i d e a true (vi 161 f)) (.br d
(.br (decide ((Int.tmod a 3) = 0))
(rt (.tuple [(.str [120,49]),(i6 (w64 (b + 1)))]))
(ixl 3 [(.str [112]),(.str [116,114,117,101]),(.str [102,97,108,115,101])] (Int.tmod (w64 (Int.tdiv a 3)) 3) fun j =>
(.mid 0 qI6 5 (zua b a (w64 (Int.tdiv a 3)) (Int.tmod (w64 (Int.tdiv a 3)) 3) (AV.cells j)))))
(ixl 3 [(.str [112]),(.str [116,114,117,101]),(.str [102,97,108,115,101])] (Int.tmod (w64 (Int.tdiv a 3)) 3) fun k =>
(.mid 0 qI6 5 (zua b a (w64 (Int.tdiv a 3)) (Int.tmod (w64 (Int.tdiv a 3)) 3) (AV.cells k))))) := lM 13
abbrev yS399 := fun (a : Bool) (b : List AV) c d e f g h i j k l => mk0 292 [vv 0 (.vs 1 a b),vi 1 c,vi 2 d,vi 3 e,vb 4 f,vi 13 g,vb 14 h,vi 15 i,vb 67 true,vv 69 (.vs 1 a b),vi 70 c,vi 71 j,vi 72 d,vi 73 e,vi 74 k,vb 75 f,vv 76 l]
abbrev yS400 := fun (a : Bool) (b : List AV) c d e f g h i j => mk0 292 [vv 0 (.vs 1 a b),vi 1 c,vi 2 d,vi 3 e,vb 4 f,vi 13 g,vb 105 true,vv 107 (.vs 1 a b),vi 108 c,vi 109 h,vi 110 d,vi 111 e,vi 112 i,vb 113 f,vv 114 j]
theorem p41_7 {d e h g b f j a i c} : LM C o 41 qI10 2 (yS390 d g b c f e j a h (vi 61 i)) (.br (!h)
(.br (decide (i < 3))
(cl0 41 [(.vs 1 d g),(i6 (w64 (b + 1))),(i6 c),(i6 (w64 (f + 1))),(.bool e)] fun k => .br (AV.pure k.v)
(.mid 9 qI18 8 (yS399 d g b c f e a h i (w64 (b + 1)) (w64 (f + 1)) k.v)) .none)
(.br (!h)
(.br (decide (i = 3))
(cl0 41 [(.vs 1 d g),(i6 (w64 (b + 1))),(i6 c),(i6 (w64 (f + 1))),(.bool e)] fun l => .br (AV.pure l.v)
(.mid 6 qI14 8 (yS400 d g b c f e a (w64 (b + 1)) (w64 (f + 1)) l.v)) .none)
(.br e
(.br (decide ((Int.tmod a 2) = 0))
(ixl 4 [(.str [97]),(.str [98]),(.str [99]),(.str [115,105,122,101,40,116,97,103,115,41])] (Int.tmod (w64 (Int.tdiv a 2)) 4) fun n =>
(.mid 1 qI2 5 (zta b a (w64 (Int.tdiv a 2)) (Int.tmod (w64 (Int.tdiv a 2)) 4) (AV.cells n))))
(ixl 5 [(.str [110]),(.str [55]),(.str [48]),(.str [110]),(.str [49,50,51,52,53,54,55,56,57,48,49])] (Int.tmod (w64 (Int.tdiv a 2)) 5) fun p =>
(.mid 0 qI0 5 (zjz b a (w64 (Int.tdiv a 2)) (Int.tmod (w64 (Int.tdiv a 2)) 5) (AV.cells p)))))
(ixl 5 [(.str [110]),(.str [55]),(.str [48]),(.str [110]),(.str [49,50,51,52,53,54,55,56,57,48,49])] (Int.tmod (w64 (Int.tdiv a 2)) 5) fun q =>
(.mid 0 qI0 5 (zjz b a (w64 (Int.tdiv a 2)) (Int.tmod (w64 (Int.tdiv a 2)) 5) (AV.cells q))))))
(.br e
(.br (decide ((Int.tmod a 2) = 0))
(ixl 4 [(.str [97]),(.str [98]),(.str [99]),(.str [115,105,122,101,40,116,97,103,115,41])] (Int.tmod (w64 (Int.tdiv a 2)) 4) fun r =>
(.mid 1 qI2 5 (zta b a (w64 (Int.tdiv a 2)) (Int.tmod (w64 (Int.tdiv a 2)) 4) (AV.cells r))))
(ixl 5 [(.str [110]),(.str [55]),(.str [48]),(.str [110]),(.str [49,50,51,52,53,54,55,56,57,48,49])] (Int.tmod (w64 (Int.tdiv a 2)) 5) fun s =>
(.mid 0 qI0 5 (zjz b a (w64 (Int.tdiv a 2)) (Int.tmod (w64 (Int.tdiv a 2)) 5) (AV.cells s)))))
(ixl 5 [(.str [110]),(.str [55]),(.str [48]),(.str [110]),(.str [49,50,51,52,53,54,55,56,57,48,49])] (Int.tmod (w64 (Int.tdiv a 2)) 5) fun t =>
(.mid 0 qI0 5 (zjz b a (w64 (Int.tdiv a 2)) (Int.tmod (w64 (Int.tdiv a 2)) 5) (AV.cells t)))))))
(.br (!h)
(.br (decide (i = 3))
(cl0 41 [(.vs 1 d g),(i6 (w64 (b + 1))),(i6 c),(i6 (w64 (f + 1))),(.bool e)] fun m => .br (AV.pure m.v)
(.mid 6 qI14 8 (yS400 d g b c f e a (w64 (b + 1)) (w64 (f + 1)) m.v)) .none)
(.br e
(.br (decide ((Int.tmod a 2) = 0))
(ixl 4 [(.str [97]),(.str [98]),(.str [99]),(.str [115,105,122,101,40,116,97,103,115,41])] (Int.tmod (w64 (Int.tdiv a 2)) 4) fun u =>
(.mid 1 qI2 5 (zta b a (w64 (Int.tdiv a 2)) (Int.tmod (w64 (Int.tdiv a 2)) 4) (AV.cells u))))
(ixl 5 [(.str [110]),(.str [55]),(.str [48]),(.str [110]),(.str [49,50,51,52,53,54,55,56,57,48,49])] (Int.tmod (w64 (Int.tdiv a 2)) 5) fun w =>
(.mid 0 qI0 5 (zjz b a (w64 (Int.tdiv a 2)) (Int.tmod (w64 (Int.tdiv a 2)) 5) (AV.cells w)))))
(ixl 5 [(.str [110]),(.str [55]),(.str [48]),(.str [110]),(.str [49,50,51,52,53,54,55,56,57,48,49])] (Int.tmod (w64 (Int.tdiv a 2)) 5) fun x =>
(.mid 0 qI0 5 (zjz b a (w64 (Int.tdiv a 2)) (Int.tmod (w64 (Int.tdiv a 2)) 5) (AV.cells x))))))
(.br e
(.br (decide ((Int.tmod a 2) = 0))
(ixl 4 [(.str [97]),(.str [98]),(.str [99]),(.str [115,105,122,101,40,116,97,103,115,41])] (Int.tmod (w64 (Int.tdiv a 2)) 4) fun y =>
(.mid 1 qI2 5 (zta b a (w64 (Int.tdiv a 2)) (Int.tmod (w64 (Int.tdiv a 2)) 4) (AV.cells y))))
(ixl 5 [(.str [110]),(.str [55]),(.str [48]),(.str [110]),(.str [49,50,51,52,53,54,55,56,57,48,49])] (Int.tmod (w64 (Int.tdiv a 2)) 5) fun z =>
(.mid 0 qI0 5 (zjz b a (w64 (Int.tdiv a 2)) (Int.tmod (w64 (Int.tdiv a 2)) 5) (AV.cells z)))))
(ixl 5 [(.str [110]),(.str [55]),(.str [48]),(.str [110]),(.str [49,50,51,52,53,54,55,56,57,48,49])] (Int.tmod (w64 (Int.tdiv a 2)) 5) fun A =>
(.mid 0 qI0 5 (zjz b a (w64 (Int.tdiv a 2)) (Int.tmod (w64 (Int.tdiv a 2)) 5) (AV.cells A))))))) := lM 14
abbrev yS401 := fun (a : Bool) (b : List AV) c d e f g h i j k => mk0 292 [vv 0 (.vs 1 a b),vi 1 c,vi 2 d,vi 3 e,vb 4 f,vi 13 g,vi 22 h,vb 164 true,vv 168 (.vs 1 a b),vi 169 c,vi 170 i,vi 171 d,vi 172 e,vi 173 j,vb 174 f,vv 175 k]
abbrev yS402 := fun (a : Bool) (b : List AV) c d e f g h i j k => mk0 292 [vv 0 (.vs 1 a b),vi 1 c,vi 2 d,vi 3 e,vb 4 f,vi 13 g,vi 22 h,vb 199 true,vv 203 (.vs 1 a b),vi 204 c,vi 205 i,vi 206 d,vi 207 e,vi 208 j,vb 209 f,vv 210 k]
abbrev yS403 := fun (a : Bool) (b : List AV) c d e f g h i j => mk0 292 [vv 0 (.vs 1 a b),vi 1 c,vi 3 d,vb 4 e,vi 13 f,vi 22 g,vb 216 true,vv 223 (.vs 1 a b),vi 224 c,vi 225 h,vi 226 d,vi 227 i,vb 228 e,vv 229 j]
abbrev yS404 := fun (a : Bool) (b : List AV) c d e f g h i j => mk0 292 [vv 0 (.vs 1 a b),vi 1 c,vi 3 d,vb 4 e,vi 13 f,vi 31 g,vv 243 (.vs 1 a b),vi 244 c,vi 245 h,vi 246 g,vi 247 d,vi 248 i,vb 249 e,vv 250 j]
abbrev zu2 := fun a b c d e => mkS 292 [vi 1 a,vi 13 b,vb 281 false,vv 284 cI1,vi 285 b,vi 286 c,vi 287 d,vv 288 (.cptr e)] [] Hp.none 0
theorem p41_8 {c e i f b d j a g h} : LM C o 41 qI11 2 (yS392 c f b h d e j a i (vi 161 g)) (.br i
(.br e
(.br (decide ((Int.tmod a 3) = 0))
(rt (.tuple [(.str [120,49]),(i6 (w64 (b + 1)))]))
(ixl 3 [(.str [112]),(.str [116,114,117,101]),(.str [102,97,108,115,101])] (Int.tmod (w64 (Int.tdiv a 3)) 3) fun q =>
(.mid 12 qI6 5 (zua b a (w64 (Int.tdiv a 3)) (Int.tmod (w64 (Int.tdiv a 3)) 3) (AV.cells q)))))
(ixl 3 [(.str [112]),(.str [116,114,117,101]),(.str [102,97,108,115,101])] (Int.tmod (w64 (Int.tdiv a 3)) 3) fun r =>
(.mid 12 qI6 5 (zua b a (w64 (Int.tdiv a 3)) (Int.tmod (w64 (Int.tdiv a 3)) 3) (AV.cells r)))))
(.br (decide (g < 2))
(cl0 41 [(.vs 1 c f),(i6 (w64 (b + 1))),(i6 h),(i6 (w64 (d + 1))),(.bool e)] fun k => .br (AV.pure k.v)
(.mid 16 qI19 8 (yS401 c f b h d e a g (w64 (b + 1)) (w64 (d + 1)) k.v)) .none)
(.br (decide (g = 2))
(cl0 41 [(.vs 1 c f),(i6 (w64 (b + 1))),(i6 h),(i6 (w64 (d + 1))),(.bool e)] fun l => .br (AV.pure l.v)
(.mid 13 qI20 8 (yS402 c f b h d e a g (w64 (b + 1)) (w64 (d + 1)) l.v)) .none)
(.br (decide (g = 3))
(.br e
(cl0 41 [(.vs 1 c f),(i6 (w64 (b + 1))),(i6 2),(i6 (w64 (d + 1))),(.bool e)] fun m => .br (AV.pure m.v)
(.mid 10 qI21 7 (yS403 c f b d e a g (w64 (b + 1)) (w64 (d + 1)) m.v)) .none)
(.br (decide (g < 8))
(cl0 41 [(.vs 1 c f),(i6 (w64 (b + 1))),(i6 (w64 (1 + (Int.tmod a 2)))),(i6 (w64 (d + 1))),(.bool e)] fun n => .br (AV.pure n.v)
(.mid 5 qI15 8 (yS404 c f b d e a (w64 (1 + (Int.tmod a 2))) (w64 (b + 1)) (w64 (d + 1)) n.v)) .none)
(.br e
(.br (decide ((Int.tmod a 3) = 0))
(rt (.tuple [(.str [120,49]),(i6 (w64 (b + 1)))]))
(ixl 3 [(.str [112]),(.str [116,114,117,101]),(.str [102,97,108,115,101])] (Int.tmod (w64 (Int.tdiv a 3)) 3) fun s =>
(.mid 0 qI7 5 (zu2 b a (w64 (Int.tdiv a 3)) (Int.tmod (w64 (Int.tdiv a 3)) 3) (AV.cells s)))))
(ixl 3 [(.str [112]),(.str [116,114,117,101]),(.str [102,97,108,115,101])] (Int.tmod (w64 (Int.tdiv a 3)) 3) fun t =>
(.mid 0 qI7 5 (zu2 b a (w64 (Int.tdiv a 3)) (Int.tmod (w64 (Int.tdiv a 3)) 3) (AV.cells t)))))))
(.br (decide (g < 8))
(cl0 41 [(.vs 1 c f),(i6 (w64 (b + 1))),(i6 (w64 (1 + (Int.tmod a 2)))),(i6 (w64 (d + 1))),(.bool e)] fun p => .br (AV.pure p.v)
(.mid 5 qI15 8 (yS404 c f b d e a (w64 (1 + (Int.tmod a 2))) (w64 (b + 1)) (w64 (d + 1)) p.v)) .none)
(.br e
(.br (decide ((Int.tmod a 3) = 0))
(rt (.tuple [(.str [120,49]),(i6 (w64 (b + 1)))]))
(ixl 3 [(.str [112]),(.str [116,114,117,101]),(.str [102,97,108,115,101])] (Int.tmod (w64 (Int.tdiv a 3)) 3) fun u =>
(.mid 0 qI7 5 (zu2 b a (w64 (Int.tdiv a 3)) (Int.tmod (w64 (Int.tdiv a 3)) 3) (AV.cells u)))))
(ixl 3 [(.str [112]),(.str [116,114,117,101]),(.str [102,97,108,115,101])] (Int.tmod (w64 (Int.tdiv a 3)) 3) fun w =>
(.mid 0 qI7 5 (zu2 b a (w64 (Int.tdiv a 3)) (Int.tmod (w64 (Int.tdiv a 3)) 3) (AV.cells w)))))))))) := lM 25
abbrev zsn := fun a b c d e => mkS 292 [vi 1 a,vi 13 b,vb 125 true,vv 126 cI2,vi 127 b,vi 128 c,vi 129 d,vv 130 (.cptr e)] [] Hp.none 0
abbrev zkn := fun a b c d e => mkS 292 [vi 1 a,vi 13 b,vb 125 false,vv 134 cI0,vi 135 b,vi 136 c,vi 137 d,vv 138 (.cptr e)] [] Hp.none 0
theorem p41_9 {c d h b e i f a g} : LM C o 41 qI12 2 (yS393 c h b e i d f a true (vi 61 g)) (.br d
(.br (decide ((Int.tmod a 2) = 0))
(ixl 4 [(.str [97]),(.str [98]),(.str [99]),(.str [115,105,122,101,40,116,97,103,115,41])] (Int.tmod (w64 (Int.tdiv a 2)) 4) fun j =>
(.mid 1 qI3 5 (zsn b a (w64 (Int.tdiv a 2)) (Int.tmod (w64 (Int.tdiv a 2)) 4) (AV.cells j))))
(ixl 5 [(.str [110]),(.str [55]),(.str [48]),(.str [110]),(.str [49,50,51,52,53,54,55,56,57,48,49])] (Int.tmod (w64 (Int.tdiv a 2)) 5) fun k =>
(.mid 0 qI1 5 (zkn b a (w64 (Int.tdiv a 2)) (Int.tmod (w64 (Int.tdiv a 2)) 5) (AV.cells k)))))
(ixl 5 [(.str [110]),(.str [55]),(.str [48]),(.str [110]),(.str [49,50,51,52,53,54,55,56,57,48,49])] (Int.tmod (w64 (Int.tdiv a 2)) 5) fun l =>
(.mid 0 qI1 5 (zkn b a (w64 (Int.tdiv a 2)) (Int.tmod (w64 (Int.tdiv a 2)) 5) (AV.cells l))))) := lM 14
theorem p41_10 {c a d e b} : LM C o 41 qI5 5 (zut c a d e [(.str b)]) (rt (.tuple [(.str b),(i6 (w64 (c + 1)))])) := lM 1
abbrev zu3 := fun a b c d e => mkS 292 [vi 1 a,vi 13 b,vb 281 false,vv 284 cI1,vi 285 b,vi 286 c,vi 287 d,vv 288 (.cptr e)] [] Hp.none 0
theorem p41_11 {c d g b h i e a f} : LM C o 41 qI13 2 (yS395 c g b h i d e a true (vi 161 f)) (.br d
(.br (decide ((Int.tmod a 3) = 0))
(rt (.tuple [(.str [120,49]),(i6 (w64 (b + 1)))]))
(ixl 3 [(.str [112]),(.str [116,114,117,101]),(.str [102,97,108,115,101])] (Int.tmod (w64 (Int.tdiv a 3)) 3) fun j =>
(.mid 0 qI8 5 (zu3 b a (w64 (Int.tdiv a 3)) (Int.tmod (w64 (Int.tdiv a 3)) 3) (AV.cells j)))))
(ixl 3 [(.str [112]),(.str [116,114,117,101]),(.str [102,97,108,115,101])] (Int.tmod (w64 (Int.tdiv a 3)) 3) fun k =>
(.mid 0 qI8 5 (zu3 b a (w64 (Int.tdiv a 3)) (Int.tmod (w64 (Int.tdiv a 3)) 3) (AV.cells k))))) := lM 13
abbrev yS409 := fun (a : Bool) (b : List AV) c d e f g h i j k l => mk0 292 [vv 0 (.vs 1 a b),vi 1 c,vi 2 d,vi 3 e,vb 4 f,vi 13 g,vb 14 h,vi 15 i,vb 67 true,vv 69 (.vs 1 a b),vi 70 c,vi 71 j,vi 72 d,vi 73 e,vi 74 k,vb 75 f,vv 76 l]
abbrev yS410 := fun (a : Bool) (b : List AV) c d e f g h i j => mk0 292 [vv 0 (.vs 1 a b),vi 1 c,vi 2 d,vi 3 e,vb 4 f,vi 13 g,vb 105 true,vv 107 (.vs 1 a b),vi 108 c,vi 109 h,vi 110 d,vi 111 e,vi 112 i,vb 113 f,vv 114 j]
theorem p41_12 {c d h g b f e j a i} : LM C o 41 qI12 2 (yS393 c g b f e d j a h (vi 61 i)) (.br (!h)
(.br (decide (i < 3))
(cl0 41 [(.vs 1 c g),(i6 (w64 (b + 1))),(i6 f),(i6 (w64 (e + 1))),(.bool d)] fun k => .br (AV.pure k.v)
(.mid 9 qI22 8 (yS409 c g b f e d a h i (w64 (b + 1)) (w64 (e + 1)) k.v)) .none)
(.br (!h)
(.br (decide (i = 3))
(cl0 41 [(.vs 1 c g),(i6 (w64 (b + 1))),(i6 f),(i6 (w64 (e + 1))),(.bool d)] fun l => .br (AV.pure l.v)
(.mid 6 qI16 8 (yS410 c g b f e d a (w64 (b + 1)) (w64 (e + 1)) l.v)) .none)
(.br d
(.br (decide ((Int.tmod a 2) = 0))
(ixl 4 [(.str [97]),(.str [98]),(.str [99]),(.str [115,105,122,101,40,116,97,103,115,41])] (Int.tmod (w64 (Int.tdiv a 2)) 4) fun n =>
(.mid 1 qI3 5 (zsn b a (w64 (Int.tdiv a 2)) (Int.tmod (w64 (Int.tdiv a 2)) 4) (AV.cells n))))
(ixl 5 [(.str [110]),(.str [55]),(.str [48]),(.str [110]),(.str [49,50,51,52,53,54,55,56,57,48,49])] (Int.tmod (w64 (Int.tdiv a 2)) 5) fun p =>
(.mid 0 qI1 5 (zkn b a (w64 (Int.tdiv a 2)) (Int.tmod (w64 (Int.tdiv a 2)) 5) (AV.cells p)))))
(ixl 5 [(.str [110]),(.str [55]),(.str [48]),(.str [110]),(.str [49,50,51,52,53,54,55,56,57,48,49])] (Int.tmod (w64 (Int.tdiv a 2)) 5) fun q =>
(.mid 0 qI1 5 (zkn b a (w64 (Int.tdiv a 2)) (Int.tmod (w64 (Int.tdiv a 2)) 5) (AV.cells q))))))
(.br d
(.br (decide ((Int.tmod a 2) = 0))
(ixl 4 [(.str [97]),(.str [98]),(.str [99]),(.str [115,105,122,101,40,116,97,103,115,41])] (Int.tmod (w64 (Int.tdiv a 2)) 4) fun r =>
(.mid 1 qI3 5 (zsn b a (w64 (Int.tdiv a 2)) (Int.tmod (w64 (Int.tdiv a 2)) 4) (AV.cells r))))
(ixl 5 [(.str [110]),(.str [55]),(.str [48]),(.str [110]),(.str [49,50,51,52,53,54,55,56,57,48,49])] (Int.tmod (w64 (Int.tdiv a 2)) 5) fun s =>
(.mid 0 qI1 5 (zkn b a (w64 (Int.tdiv a 2)) (Int.tmod (w64 (Int.tdiv a 2)) 5) (AV.cells s)))))
(ixl 5 [(.str [110]),(.str [55]),(.str [48]),(.str [110]),(.str [49,50,51,52,53,54,55,56,57,48,49])] (Int.tmod (w64 (Int.tdiv a 2)) 5) fun t =>
(.mid 0 qI1 5 (zkn b a (w64 (Int.tdiv a 2)) (Int.tmod (w64 (Int.tdiv a 2)) 5) (AV.cells t)))))))
(.br (!h)
(.br (decide (i = 3))
(cl0 41 [(.vs 1 c g),(i6 (w64 (b + 1))),(i6 f),(i6 (w64 (e + 1))),(.bool d)] fun m => .br (AV.pure m.v)
(.mid 6 qI16 8 (yS410 c g b f e d a (w64 (b + 1)) (w64 (e + 1)) m.v)) .none)
(.br d
(.br (decide ((Int.tmod a 2) = 0))
(ixl 4 [(.str [97]),(.str [98]),(.str [99]),(.str [115,105,122,101,40,116,97,103,115,41])] (Int.tmod (w64 (Int.tdiv a 2)) 4) fun u =>
(.mid 1 qI3 5 (zsn b a (w64 (Int.tdiv a 2)) (Int.tmod (w64 (Int.tdiv a 2)) 4) (AV.cells u))))
(ixl 5 [(.str [110]),(.str [55]),(.str [48]),(.str [110]),(.str [49,50,51,52,53,54,55,56,57,48,49])] (Int.tmod (w64 (Int.tdiv a 2)) 5) fun w =>
(.mid 0 qI1 5 (zkn b a (w64 (Int.tdiv a 2)) (Int.tmod (w64 (Int.tdiv a 2)) 5) (AV.cells w)))))
(ixl 5 [(.str [110]),(.str [55]),(.str [48]),(.str [110]),(.str [49,50,51,52,53,54,55,56,57,48,49])] (Int.tmod (w64 (Int.tdiv a 2)) 5) fun x =>
(.mid 0 qI1 5 (zkn b a (w64 (Int.tdiv a 2)) (Int.tmod (w64 (Int.tdiv a 2)) 5) (AV.cells x))))))
(.br d
(.br (decide ((Int.tmod a 2) = 0))
(ixl 4 [(.str [97]),(.str [98]),(.str [99]),(.str [115,105,122,101,40,116,97,103,115,41])] (Int.tmod (w64 (Int.tdiv a 2)) 4) fun y =>
(.mid 1 qI3 5 (zsn b a (w64 (Int.tdiv a 2)) (Int.tmod (w64 (Int.tdiv a 2)) 4) (AV.cells y))))
(ixl 5 [(.str [110]),(.str [55]),(.str [48]),(.str [110]),(.str [49,50,51,52,53,54,55,56,57,48,49])] (Int.tmod (w64 (Int.tdiv a 2)) 5) fun z =>
(.mid 0 qI1 5 (zkn b a (w64 (Int.tdiv a 2)) (Int.tmod (w64 (Int.tdiv a 2)) 5) (AV.cells z)))))
(ixl 5 [(.str [110]),(.str [55]),(.str [48]),(.str [110]),(.str [49,50,51,52,53,54,55,56,57,48,49])] (Int.tmod (w64 (Int.tdiv a 2)) 5) fun A =>
(.mid 0 qI1 5 (zkn b a (w64 (Int.tdiv a 2)) (Int.tmod (w64 (Int.tdiv a 2)) 5) (AV.cells A))))))) := lM 14
abbrev yS411 := fun (a : Bool) (b : List AV) c d e f g h i j k => mk0 292 [vv 0 (.vs 1 a b),vi 1 c,vi 2 d,vi 3 e,vb 4 f,vi 13 g,vi 22 h,vb 164 true,vv 168 (.vs 1 a b),vi 169 c,vi 170 i,vi 171 d,vi 172 e,vi 173 j,vb 174 f,vv 175 k]
abbrev yS412 := fun (a : Bool) (b : List AV) c d e f g h i j k => mk0 292 [vv 0 (.vs 1 a b),vi 1 c,vi 2 d,vi 3 e,vb 4 f,vi 13 g,vi 22 h,vb 199 true,vv 203 (.vs 1 a b),vi 204 c,vi 205 i,vi 206 d,vi 207 e,vi 208 j,vb 209 f,vv 210 k]
abbrev yS413 := fun (a : Bool) (b : List AV) c d e f g h i j => mk0 292 [vv 0 (.vs 1 a b),vi 1 c,vi 3 d,vb 4 e,vi 13 f,vi 22 g,vb 216 true,vv 223 (.vs 1 a b),vi 224 c,vi 225 h,vi 226 d,vi 227 i,vb 228 e,vv 229 j]
abbrev yS414 := fun (a : Bool) (b : List AV) c d e f g h i j => mk0 292 [vv 0 (.vs 1 a b),vi 1 c,vi 3 d,vb 4 e,vi 13 f,vi 31 g,vv 243 (.vs 1 a b),vi 244 c,vi 245 h,vi 246 g,vi 247 d,vi 248 i,vb 249 e,vv 250 j]
abbrev zvd := fun a b c d e => mkS 292 [vi 1 a,vi 13 b,vb 281 false,vv 284 cI1,vi 285 b,vi 286 c,vi 287 d,vv 288 (.cptr e)] [] Hp.none 0
theorem p41_13 {c e i f b h d j a g} : LM C o 41 qI13 2 (yS395 c f b h d e j a i (vi 161 g)) (.br i
(.br e
(.br (decide ((Int.tmod a 3) = 0))
(rt (.tuple [(.str [120,49]),(i6 (w64 (b + 1)))]))
(ixl 3 [(.str [112]),(.str [116,114,117,101]),(.str [102,97,108,115,101])] (Int.tmod (w64 (Int.tdiv a 3)) 3) fun q =>
(.mid 12 qI8 5 (zu3 b a (w64 (Int.tdiv a 3)) (Int.tmod (w64 (Int.tdiv a 3)) 3) (AV.cells q)))))
(ixl 3 [(.str [112]),(.str [116,114,117,101]),(.str [102,97,108,115,101])] (Int.tmod (w64 (Int.tdiv a 3)) 3) fun r =>
(.mid 12 qI8 5 (zu3 b a (w64 (Int.tdiv a 3)) (Int.tmod (w64 (Int.tdiv a 3)) 3) (AV.cells r)))))
(.br (decide (g < 2))
(cl0 41 [(.vs 1 c f),(i6 (w64 (b + 1))),(i6 h),(i6 (w64 (d + 1))),(.bool e)] fun k => .br (AV.pure k.v)
(.mid 16 qI23 8 (yS411 c f b h d e a g (w64 (b + 1)) (w64 (d + 1)) k.v)) .none)
(.br (decide (g = 2))
(cl0 41 [(.vs 1 c f),(i6 (w64 (b + 1))),(i6 h),(i6 (w64 (d + 1))),(.bool e)] fun l => .br (AV.pure l.v)
(.mid 13 qI24 8 (yS412 c f b h d e a g (w64 (b + 1)) (w64 (d + 1)) l.v)) .none)
(.br (decide (g = 3))
(.br e
(cl0 41 [(.vs 1 c f),(i6 (w64 (b + 1))),(i6 2),(i6 (w64 (d + 1))),(.bool e)] fun m => .br (AV.pure m.v)
(.mid 10 qI25 7 (yS413 c f b d e a g (w64 (b + 1)) (w64 (d + 1)) m.v)) .none)
(.br (decide (g < 8))
(cl0 41 [(.vs 1 c f),(i6 (w64 (b + 1))),(i6 (w64 (1 + (Int.tmod a 2)))),(i6 (w64 (d + 1))),(.bool e)] fun n => .br (AV.pure n.v)
(.mid 5 qI17 8 (yS414 c f b d e a (w64 (1 + (Int.tmod a 2))) (w64 (b + 1)) (w64 (d + 1)) n.v)) .none)
(.br e
(.br (decide ((Int.tmod a 3) = 0))
(rt (.tuple [(.str [120,49]),(i6 (w64 (b + 1)))]))
(ixl 3 [(.str [112]),(.str [116,114,117,101]),(.str [102,97,108,115,101])] (Int.tmod (w64 (Int.tdiv a 3)) 3) fun s =>
(.mid 0 qI9 5 (zvd b a (w64 (Int.tdiv a 3)) (Int.tmod (w64 (Int.tdiv a 3)) 3) (AV.cells s)))))
(ixl 3 [(.str [112]),(.str [116,114,117,101]),(.str [102,97,108,115,101])] (Int.tmod (w64 (Int.tdiv a 3)) 3) fun t =>
(.mid 0 qI9 5 (zvd b a (w64 (Int.tdiv a 3)) (Int.tmod (w64 (Int.tdiv a 3)) 3) (AV.cells t)))))))
(.br (decide (g < 8))
(cl0 41 [(.vs 1 c f),(i6 (w64 (b + 1))),(i6 (w64 (1 + (Int.tmod a 2)))),(i6 (w64 (d + 1))),(.bool e)] fun p => .br (AV.pure p.v)
(.mid 5 qI17 8 (yS414 c f b d e a (w64 (1 + (Int.tmod a 2))) (w64 (b + 1)) (w64 (d + 1)) p.v)) .none)
(.br e
(.br (decide ((Int.tmod a 3) = 0))
(rt (.tuple [(.str [120,49]),(i6 (w64 (b + 1)))]))
(ixl 3 [(.str [112]),(.str [116,114,117,101]),(.str [102,97,108,115,101])] (Int.tmod (w64 (Int.tdiv a 3)) 3) fun u =>
(.mid 0 qI9 5 (zvd b a (w64 (Int.tdiv a 3)) (Int.tmod (w64 (Int.tdiv a 3)) 3) (AV.cells u)))))
(ixl 3 [(.str [112]),(.str [116,114,117,101]),(.str [102,97,108,115,101])] (Int.tmod (w64 (Int.tdiv a 3)) 3) fun w =>
(.mid 0 qI9 5 (zvd b a (w64 (Int.tdiv a 3)) (Int.tmod (w64 (Int.tdiv a 3)) 3) (AV.cells w)))))))))) := lM 25
theorem p41_14 {c a d e b} : LM C o 41 qI2 5 (zta c a d e [(.str b)]) (rt (.tuple [(.str b),(i6 (w64 (c + 1)))])) := lM 1
theorem p41_15 {c a d e b} : LM C o 41 qI0 5 (zjz c a d e [(.str b)]) (rt (.tuple [(.str b),(i6 (w64 (c + 1)))])) := lM 1
theorem p41_16 {c a d e b} : LM C o 41 qI6 5 (zua c a d e [(.str b)]) (rt (.tuple [(.str b),(i6 (w64 (c + 1)))])) := lM 1
abbrev yS416 := fun (a : Bool) (b : List AV) c d e f g h i j => mk0 292 [vv 0 (.vs 1 a b),vi 2 c,vi 3 d,vb 4 e,vi 15 f,vt 16 g,vi 17 h,vv 80 (.vs 1 a b),vi 81 h,vi 82 c,vi 83 d,vi 84 i,vb 85 e,vv 86 j]
theorem p41_17 {a e i f j d k g b c l m h} : LM C o 41 qI18 8 (yS399 a f j b d e k i g l m (.tuple [(.str h),(i6 c)])) (cl0 41 [(.vs 1 a f),(i6 c),(i6 b),(i6 (w64 (d + 1))),(.bool e)] fun n => .br (AV.pure n.v)
(.mid 0 qI26 7 (yS416 a f b d e g h c (w64 (d + 1)) n.v)) .none) := lM 2
theorem p41_18 {b e f g h i c d j k a} : LM C o 41 qI14 8 (yS400 b f g c h e i j k (.tuple [(.str a),(i6 d)])) (.br (Nat.ble (1 + a.length) 4611686018427387904)
(rt (.tuple [(.str ([45] ++ a)),(i6 d)])) .none) := lM 3
abbrev yS417 := fun (a : Bool) (b : List AV) c d e f g h i j => mk0 292 [vv 0 (.vs 1 a b),vi 2 c,vi 3 d,vb 4 e,vi 22 f,vt 23 g,vi 24 h,vv 179 (.vs 1 a b),vi 180 h,vi 181 c,vi 182 d,vi 183 i,vb 184 e,vv 185 j]
theorem p41_19 {b e f k d l h c a i j g} : LM C o 41 qI19 8 (yS401 b f k c d e l h i j (.tuple [(.str g),(i6 a)])) (cl0 41 [(.vs 1 b f),(i6 a),(i6 c),(i6 (w64 (d + 1))),(.bool e)] fun m => .br (AV.pure m.v)
(.mid 0 qI27 7 (yS417 b f c d e h g a (w64 (d + 1)) m.v)) .none) := lM 2
theorem p41_20 {c g h i j k l d b e f a} : LM C o 41 qI20 8 (yS402 c h i d j g k l e f (.tuple [(.str a),(i6 b)])) (.br (Nat.ble (1 + a.length) 4611686018427387904)
(rt (.tuple [(.str ([33] ++ a)),(i6 b)])) .none) := lM 3
theorem p41_21 {c f g h i j k b d e a} : LM C o 41 qI21 7 (yS403 c g h i f j k d e (.tuple [(.str a),(i6 b)])) (.br (Nat.ble (10 + a.length) 4611686018427387904)
(.br (Nat.ble (([40,116,97,103,115,32,104,97,115,32] ++ a).length + 1) 4611686018427387904)
(rt (.tuple [(.str (([40,116,97,103,115,32,104,97,115,32] ++ a) ++ [41])),(i6 b)])) .none) .none) := lM 3
abbrev yS418 := fun (a : Bool) (b : List AV) c d e f g h i j => mk0 292 [vv 0 (.vs 1 a b),vi 3 c,vb 4 d,vi 13 e,vi 31 f,vt 32 g,vi 33 h,vv 254 (.vs 1 a b),vi 255 h,vi 256 f,vi 257 c,vi 258 i,vb 259 d,vv 260 j]
theorem p41_22 {c e f k d h b a i j g} : LM C o 41 qI15 8 (yS404 c f k d e h a i j (.tuple [(.str g),(i6 b)])) (cl0 41 [(.vs 1 c f),(i6 b),(i6 a),(i6 (w64 (d + 1))),(.bool e)] fun l => .br (AV.pure l.v)
(.mid 0 qI28 7 (yS418 c f d e h a g b (w64 (d + 1)) l.v)) .none) := lM 2
theorem p41_23 {e b c d a} : LM C o 41 qI7 5 (zu2 e b c d [(.str a)]) (rt (.tuple [(.str a),(i6 (w64 (e + 1)))])) := lM 1
theorem p41_24 {e b c d a} : LM C o 41 qI3 5 (zsn e b c d [(.str a)]) (rt (.tuple [(.str a),(i6 (w64 (e + 1)))])) := lM 1
theorem p41_25 {e b c d a} : LM C o 41 qI1 5 (zkn e b c d [(.str a)]) (rt (.tuple [(.str a),(i6 (w64 (e + 1)))])) := lM 1
theorem p41_26 {e b c d a} : LM C o 41 qI8 5 (zu3 e b c d [(.str a)]) (rt (.tuple [(.str a),(i6 (w64 (e + 1)))])) := lM 1
abbrev yS419 := fun (a : Bool) (b : List AV) c d e f g h i j => mk0 292 [vv 0 (.vs 1 a b),vi 2 c,vi 3 d,vb 4 e,vi 15 f,vt 16 g,vi 17 h,vv 80 (.vs 1 a b),vi 81 h,vi 82 c,vi 83 d,vi 84 i,vb 85 e,vv 86 j]
theorem p41_27 {b d k e l f c m h a i j g} : LM C o 41 qI22 8 (yS409 b e l f c d m k h i j (.tuple [(.str g),(i6 a)])) (cl0 41 [(.vs 1 b e),(i6 a),(i6 f),(i6 (w64 (c + 1))),(.bool d)] fun n => .br (AV.pure n.v)
(.mid 0 qI29 7 (yS419 b e f c d h g a (w64 (c + 1)) n.v)) .none) := lM 2
theorem p41_28 {c f g h i j k b d e a} : LM C o 41 qI16 8 (yS410 c g h i j f k d e (.tuple [(.str a),(i6 b)])) (.br (Nat.ble (1 + a.length) 4611686018427387904)
(rt (.tuple [(.str ([45] ++ a)),(i6 b)])) .none) := lM 3
abbrev yS420 := fun (a : Bool) (b : List AV) c d e f g h i j => mk0 292 [vv 0 (.vs 1 a b),vi 2 c,vi 3 d,vb 4 e,vi 22 f,vt 23 g,vi 24 h,vv 179 (.vs 1 a b),vi 180 h,vi 181 c,vi 182 d,vi 183 i,vb 184 e,vv 185 j]
theorem p41_29 {b d e k f c l h a i j g} : LM C o 41 qI23 8 (yS411 b e k f c d l h i j (.tuple [(.str g),(i6 a)])) (cl0 41 [(.vs 1 b e),(i6 a),(i6 f),(i6 (w64 (c + 1))),(.bool d)] fun m => .br (AV.pure m.v)
(.mid 0 qI30 7 (yS420 b e f c d h g a (w64 (c + 1)) m.v)) .none) := lM 2
theorem p41_30 {c f g h i j k l b d e a} : LM C o 41 qI24 8 (yS412 c g h i j f k l d e (.tuple [(.str a),(i6 b)])) (.br (Nat.ble (1 + a.length) 4611686018427387904)
(rt (.tuple [(.str ([33] ++ a)),(i6 b)])) .none) := lM 3
theorem p41_31 {c f g h i j k b d e a} : LM C o 41 qI25 7 (yS413 c g h i f j k d e (.tuple [(.str a),(i6 b)])) (.br (Nat.ble (10 + a.length) 4611686018427387904)
(.br (Nat.ble (([40,116,97,103,115,32,104,97,115,32] ++ a).length + 1) 4611686018427387904)
(rt (.tuple [(.str (([40,116,97,103,115,32,104,97,115,32] ++ a) ++ [41])),(i6 b)])) .none) .none) := lM 3
abbrev yS421 := fun (a : Bool) (b : List AV) c d e f g h i j => mk0 292 [vv 0 (.vs 1 a b),vi 3 c,vb 4 d,vi 13 e,vi 31 f,vt 32 g,vi 33 h,vv 254 (.vs 1 a b),vi 255 h,vi 256 f,vi 257 c,vi 258 i,vb 259 d,vv 260 j]
theorem p41_32 {c e f k d h b a i j g} : LM C o 41 qI17 8 (yS414 c f k d e h a i j (.tuple [(.str g),(i6 b)])) (cl0 41 [(.vs 1 c f),(i6 b),(i6 a),(i6 (w64 (d + 1))),(.bool e)] fun l => .br (AV.pure l.v)
(.mid 0 qI31 7 (yS421 c f d e h a g b (w64 (d + 1)) l.v)) .none) := lM 2
theorem p41_33 {e b c d a} : LM C o 41 qI9 5 (zvd e b c d [(.str a)]) (rt (.tuple [(.str a),(i6 (w64 (e + 1)))])) := lM 1
abbrev yS422 := fun a b c d e f => mkS 292 [vi 15 a,vt 16 b,vt 18 c,vi 19 d,vt 89 b,vt 90 e,vv 91 cI4,vi 92 a,vv 93 (.cptr f)] [] Hp.none 0
theorem p41_34 {e i j k b f g c h a d} : LM C o 41 qI26 7 (yS416 e j f k i b a g h (.tuple [(.str d),(i6 c)])) (.br (Nat.ble (1 + a.length) 4611686018427387904)
(ixl 3 [(.str [32,43,32]),(.str [32,45,32]),(.str [32,42,32])] b fun l =>
(.mid 0 qI32 5 (yS422 b a d c ([40] ++ a) (AV.cells l)))) .none) := lM 2
abbrev yS423 := fun a b c d e f => mkS 292 [vi 22 a,vt 23 b,vt 25 c,vi 26 d,vt 188 b,vt 189 e,vv 190 cI5,vi 191 a,vv 192 (.cptr f)] [] Hp.none 0
theorem p41_35 {f i j k b g c d h a e} : LM C o 41 qI27 7 (yS417 f j g k i b a c h (.tuple [(.str e),(i6 d)])) (.br (Nat.ble (1 + a.length) 4611686018427387904)
(ixl 2 [(.str [32,38,38,32]),(.str [32,124,124,32])] b fun l =>
(.mid 0 qI33 5 (yS423 b a e d ([40] ++ a) (AV.cells l)))) .none) := lM 2
abbrev yS424 := fun a b c d e f g h => mkS 292 [vi 13 a,vt 32 b,vt 34 c,vi 35 d,vt 263 b,vt 264 e,vv 265 cI6,vi 266 a,vi 267 f,vi 268 g,vv 269 (.cptr h)] [] Hp.none 0
theorem p41_36 {g i j k b c d e h a f} : LM C o 41 qI28 7 (yS418 g j k i b d a c h (.tuple [(.str f),(i6 e)])) (.br (Nat.ble (1 + a.length) 4611686018427387904)
(ixl 6 [(.str [32,61,61,32]),(.str [32,33,61,32]),(.str [32,60,32]),(.str [32,60,61,32]),(.str [32,62,32]),(.str [32,62,61,32])] (Int.tmod (w64 (Int.tdiv b 2)) 6) fun l =>
(.mid 0 qI34 7 (yS424 b a f e ([40] ++ a) (w64 (Int.tdiv b 2)) (Int.tmod (w64 (Int.tdiv b 2)) 6) (AV.cells l)))) .none) := lM 2
abbrev yS425 := fun a b c d e f => mkS 292 [vi 15 a,vt 16 b,vt 18 c,vi 19 d,vt 89 b,vt 90 e,vv 91 cI4,vi 92 a,vv 93 (.cptr f)] [] Hp.none 0
theorem p41_37 {f h i j k b c d g a e} : LM C o 41 qI29 7 (yS419 f i j k h b a c g (.tuple [(.str e),(i6 d)])) (.br (Nat.ble (1 + a.length) 4611686018427387904)
(ixl 3 [(.str [32,43,32]),(.str [32,45,32]),(.str [32,42,32])] b fun l =>
(.mid 0 qI35 5 (yS425 b a e d ([40] ++ a) (AV.cells l)))) .none) := lM 2
abbrev yS426 := fun a b c d e f => mkS 292 [vi 22 a,vt 23 b,vt 25 c,vi 26 d,vt 188 b,vt 189 e,vv 190 cI5,vi 191 a,vv 192 (.cptr f)] [] Hp.none 0
theorem p41_38 {f h i j k b c d g a e} : LM C o 41 qI30 7 (yS420 f i j k h b a c g (.tuple [(.str e),(i6 d)])) (.br (Nat.ble (1 + a.length) 4611686018427387904)
(ixl 2 [(.str [32,38,38,32]),(.str [32,124,124,32])] b fun l =>
(.mid 0 qI36 5 (yS426 b a e d ([40] ++ a) (AV.cells l)))) .none) := lM 2
abbrev yS427 := fun a b c d e f g h => mkS 292 [vi 13 a,vt 32 b,vt 34 c,vi 35 d,vt 263 b,vt 264 e,vv 265 cI6,vi 266 a,vi 267 f,vi 268 g,vv 269 (.cptr h)] [] Hp.none 0
theorem p41_39 {g i j k b c d e h a f} : LM C o 41 qI31 7 (yS421 g j k i b d a c h (.tuple [(.str f),(i6 e)])) (.br (Nat.ble (1 + a.length) 4611686018427387904)
(ixl 6 [(.str [32,61,61,32]),(.str [32,33,61,32]),(.str [32,60,32]),(.str [32,60,61,32]),(.str [32,62,32]),(.str [32,62,61,32])] (Int.tmod (w64 (Int.tdiv b 2)) 6) fun l =>
(.mid 0 qI37 7 (yS427 b a f e ([40] ++ a) (w64 (Int.tdiv b 2)) (Int.tmod (w64 (Int.tdiv b 2)) 6) (AV.cells l)))) .none) := lM 2
theorem p41_40 {e d f c a b} : LM C o 41 qI32 5 (yS422 e f c d b [(.str a)]) (.br (Nat.ble (b.length + a.length) 4611686018427387904)
(.br (Nat.ble ((b ++ a).length + c.length) 4611686018427387904)
(.br (Nat.ble (((b ++ a) ++ c).length + 1) 4611686018427387904)
(rt (.tuple [(.str (((b ++ a) ++ c) ++ [41])),(i6 d)])) .none) .none) .none) := lM 1
theorem p41_41 {f d e c a b} : LM C o 41 qI33 5 (yS423 f e c d b [(.str a)]) (.br (Nat.ble (b.length + a.length) 4611686018427387904)
(.br (Nat.ble ((b ++ a).length + c.length) 4611686018427387904)
(.br (Nat.ble (((b ++ a) ++ c).length + 1) 4611686018427387904)
(rt (.tuple [(.str (((b ++ a) ++ c) ++ [41])),(i6 d)])) .none) .none) .none) := lM 1
theorem p41_42 {f d g h e c a b} : LM C o 41 qI34 7 (yS424 f e c d b g h [(.str a)]) (.br (Nat.ble (b.length + a.length) 4611686018427387904)
(.br (Nat.ble ((b ++ a).length + c.length) 4611686018427387904)
(.br (Nat.ble (((b ++ a) ++ c).length + 1) 4611686018427387904)
(rt (.tuple [(.str (((b ++ a) ++ c) ++ [41])),(i6 d)])) .none) .none) .none) := lM 1
theorem p41_43 {f d e c a b} : LM C o 41 qI35 5 (yS425 f e c d b [(.str a)]) (.br (Nat.ble (b.length + a.length) 4611686018427387904)
(.br (Nat.ble ((b ++ a).length + c.length) 4611686018427387904)
(.br (Nat.ble (((b ++ a) ++ c).length + 1) 4611686018427387904)
(rt (.tuple [(.str (((b ++ a) ++ c) ++ [41])),(i6 d)])) .none) .none) .none) := lM 1
theorem p41_44 {f d e c a b} : LM C o 41 qI36 5 (yS426 f e c d b [(.str a)]) (.br (Nat.ble (b.length + a.length) 4611686018427387904)
(.br (Nat.ble ((b ++ a).length + c.length) 4611686018427387904)
(.br (Nat.ble (((b ++ a) ++ c).length + 1) 4611686018427387904)
(rt (.tuple [(.str (((b ++ a) ++ c) ++ [41])),(i6 d)])) .none) .none) .none) := lM 1
theorem p41_45 {f d g h e c a b} : LM C o 41 qI37 7 (yS427 f e c d b g h [(.str a)]) (.br (Nat.ble (b.length + a.length) 4611686018427387904)
(.br (Nat.ble ((b ++ a).length + c.length) 4611686018427387904)
(.br (Nat.ble (((b ++ a) ++ c).length + 1) 4611686018427387904)
(rt (.tuple [(.str (((b ++ a) ++ c) ++ [41])),(i6 d)])) .none) .none) .none) := lM 1
end Go.Proofs.YtfdklpkfpmkgeaaGreatDoor
end
section
namespace Go.Proofs.YtfdklpkfpmkgeaaGreatDoor
open Go Go.Vai
attribute [local irreducible] goTo zao mkS
variable {C : Nat→Oracle} (hC : Ext C)
include hC
set_option maxHeartbeats 8000000 in
theorem zpg (tg : Bool) (l : List Int) (hl : l.length ≤ 1000000) (q : Bool) (B : Nat) (hB : B ≤ 100000) (d : Int) (hd : 0 ≤ d∧d ≤ 4) (ih : d ≤ 3→∀ a ty : Int,Was (calL C 41 [.vs 1 tg (ints l),.int .i64 a,.int .i64 ty,.int .i64 (d + 1),.bool q] Hp.none 0) (QP B)) (a ty : Int) :
  Was (calL C 41 [.vs 1 tg (ints l),.int .i64 a,.int .i64 ty,.int .i64 d,.bool q] Hp.none 0) (QP (2 * B + 50)):=by
 have w1 : w64 (d + 1) = d + 1 := zb0 (by omega) (by omega);refine exW (fun o=>p41_c hC) (exW (fun o=>p41_0) ?_);simp only [Tr.val,za2,AV.pure,za0,za1];refine .call (w34 hC _ _ (by omega) _) ?_;rintro o ⟨n,e⟩;simp only [e,AV.pure,za0];refine exW (fun o=>p41_1) ?_;simp only [Tr.val,za2,AV.pure,za0,za1];refine .call (w22 hC _ _ (by omega) (by omega)) ?_;rintro o ⟨x,e,h1,h2⟩;simp only [e,AV.pure,za0];refine exW (fun o=>p41_2) ?_;simp only [Tr.val,za2,AV.pure,za0,za1];obtain ⟨v,hv,hv0,hv1⟩ : ∃ v : Int,w64 (Int.tdiv x 16) = v∧0 ≤ v∧v ≤ 1099511627776:=by
  refine ⟨_,rfl,?_⟩;rw [Int.tdiv_eq_ediv_of_nonneg h1,zb0 (by omega) (by omega)];omega
 simp only [hv];have f1 : Int.tmod v 2 = v % 2 := Int.tmod_eq_emod_of_nonneg hv0;have f2 : Int.tmod v 3 = v % 3 := Int.tmod_eq_emod_of_nonneg hv0;have f3 : w64 (Int.tdiv v 2) = v / 2 := by rw [Int.tdiv_eq_ediv_of_nonneg hv0,zb0 (by omega) (by omega)]
 have f4 : w64 (Int.tdiv v 3) = v / 3 := by rw [Int.tdiv_eq_ediv_of_nonneg hv0,zb0 (by omega) (by omega)]
 have f5 : Int.tmod (v / 2) 4 = v / 2 % 4 := Int.tmod_eq_emod_of_nonneg (by omega);have f6 : Int.tmod (v / 2) 5 = v / 2 % 5 := Int.tmod_eq_emod_of_nonneg (by omega);have f7 : Int.tmod (v / 2) 6 = v / 2 % 6 := Int.tmod_eq_emod_of_nonneg (by omega);have f8 : Int.tmod (v / 3) 3 = v / 3 % 3 := Int.tmod_eq_emod_of_nonneg (by omega);clear hv e
 repeat' (first
  | refine .bL (by first | omega | (simp only [List.length_append,List.length_cons,List.length_nil,List.length_drop,List.length_take]; omega)) ?_
  | refine .bT (by omega) ?_
  | refine .bF (by omega) ?_
  | (refine .call (w34 hC _ _ (by omega) _) ?_; rintro o ⟨x,e⟩; simp only [e,AV.pure,za0]; clear e)
  | (refine .call (w22 hC _ _ (by omega) (by omega)) ?_; rintro o ⟨x,e,h1,h2⟩; simp only [e,AV.pure,za0]; clear e)
  | (refine .call (ih (by omega) _ _) ?_; rintro o ⟨s,x,e,h1⟩; simp only [e,AV.pure,za2,za0]; clear e)
  | (refine exW (fun o=>p41_3) ?_; simp only [Tr.val,za2,AV.pure,za0,AV.cells,za1,za3,Bool.not_true,Bool.not_false,w1,f1,f2,f3,f4,f5,f6,f7,f8])
  | (refine exW (fun o=>p41_4) ?_; simp only [Tr.val,za2,AV.pure,za0,AV.cells,za1,za3,Bool.not_true,Bool.not_false,w1,f1,f2,f3,f4,f5,f6,f7,f8])
  | (refine exW (fun o=>p41_5) ?_; simp only [Tr.val,za2,AV.pure,za0,AV.cells,za1,za3,Bool.not_true,Bool.not_false,w1,f1,f2,f3,f4,f5,f6,f7,f8])
  | (refine exW (fun o=>p41_6) ?_; simp only [Tr.val,za2,AV.pure,za0,AV.cells,za1,za3,Bool.not_true,Bool.not_false,w1,f1,f2,f3,f4,f5,f6,f7,f8])
  | (refine exW (fun o=>p41_7) ?_; simp only [Tr.val,za2,AV.pure,za0,AV.cells,za1,za3,Bool.not_true,Bool.not_false,w1,f1,f2,f3,f4,f5,f6,f7,f8])
  | (refine exW (fun o=>p41_8) ?_; simp only [Tr.val,za2,AV.pure,za0,AV.cells,za1,za3,Bool.not_true,Bool.not_false,w1,f1,f2,f3,f4,f5,f6,f7,f8])
  | (refine exW (fun o=>p41_9) ?_; simp only [Tr.val,za2,AV.pure,za0,AV.cells,za1,za3,Bool.not_true,Bool.not_false,w1,f1,f2,f3,f4,f5,f6,f7,f8])
  | (refine exW (fun o=>p41_10) ?_; simp only [Tr.val,za2,AV.pure,za0,AV.cells,za1,za3,Bool.not_true,Bool.not_false,w1,f1,f2,f3,f4,f5,f6,f7,f8])
  | (refine exW (fun o=>p41_11) ?_; simp only [Tr.val,za2,AV.pure,za0,AV.cells,za1,za3,Bool.not_true,Bool.not_false,w1,f1,f2,f3,f4,f5,f6,f7,f8])
  | (refine exW (fun o=>p41_12) ?_; simp only [Tr.val,za2,AV.pure,za0,AV.cells,za1,za3,Bool.not_true,Bool.not_false,w1,f1,f2,f3,f4,f5,f6,f7,f8])
  | (refine exW (fun o=>p41_13) ?_; simp only [Tr.val,za2,AV.pure,za0,AV.cells,za1,za3,Bool.not_true,Bool.not_false,w1,f1,f2,f3,f4,f5,f6,f7,f8])
  | (refine exW (fun o=>p41_14) ?_; simp only [Tr.val,za2,AV.pure,za0,AV.cells,za1,za3,Bool.not_true,Bool.not_false,w1,f1,f2,f3,f4,f5,f6,f7,f8])
  | (refine exW (fun o=>p41_15) ?_; simp only [Tr.val,za2,AV.pure,za0,AV.cells,za1,za3,Bool.not_true,Bool.not_false,w1,f1,f2,f3,f4,f5,f6,f7,f8])
  | (refine exW (fun o=>p41_16) ?_; simp only [Tr.val,za2,AV.pure,za0,AV.cells,za1,za3,Bool.not_true,Bool.not_false,w1,f1,f2,f3,f4,f5,f6,f7,f8])
  | (refine exW (fun o=>p41_17) ?_; simp only [Tr.val,za2,AV.pure,za0,AV.cells,za1,za3,Bool.not_true,Bool.not_false,w1,f1,f2,f3,f4,f5,f6,f7,f8])
  | (refine exW (fun o=>p41_18) ?_; simp only [Tr.val,za2,AV.pure,za0,AV.cells,za1,za3,Bool.not_true,Bool.not_false,w1,f1,f2,f3,f4,f5,f6,f7,f8])
  | (refine exW (fun o=>p41_19) ?_; simp only [Tr.val,za2,AV.pure,za0,AV.cells,za1,za3,Bool.not_true,Bool.not_false,w1,f1,f2,f3,f4,f5,f6,f7,f8])
  | (refine exW (fun o=>p41_20) ?_; simp only [Tr.val,za2,AV.pure,za0,AV.cells,za1,za3,Bool.not_true,Bool.not_false,w1,f1,f2,f3,f4,f5,f6,f7,f8])
  | (refine exW (fun o=>p41_21) ?_; simp only [Tr.val,za2,AV.pure,za0,AV.cells,za1,za3,Bool.not_true,Bool.not_false,w1,f1,f2,f3,f4,f5,f6,f7,f8])
  | (refine exW (fun o=>p41_22) ?_; simp only [Tr.val,za2,AV.pure,za0,AV.cells,za1,za3,Bool.not_true,Bool.not_false,w1,f1,f2,f3,f4,f5,f6,f7,f8])
  | (refine exW (fun o=>p41_23) ?_; simp only [Tr.val,za2,AV.pure,za0,AV.cells,za1,za3,Bool.not_true,Bool.not_false,w1,f1,f2,f3,f4,f5,f6,f7,f8])
  | (refine exW (fun o=>p41_24) ?_; simp only [Tr.val,za2,AV.pure,za0,AV.cells,za1,za3,Bool.not_true,Bool.not_false,w1,f1,f2,f3,f4,f5,f6,f7,f8])
  | (refine exW (fun o=>p41_25) ?_; simp only [Tr.val,za2,AV.pure,za0,AV.cells,za1,za3,Bool.not_true,Bool.not_false,w1,f1,f2,f3,f4,f5,f6,f7,f8])
  | (refine exW (fun o=>p41_26) ?_; simp only [Tr.val,za2,AV.pure,za0,AV.cells,za1,za3,Bool.not_true,Bool.not_false,w1,f1,f2,f3,f4,f5,f6,f7,f8])
  | (refine exW (fun o=>p41_27) ?_; simp only [Tr.val,za2,AV.pure,za0,AV.cells,za1,za3,Bool.not_true,Bool.not_false,w1,f1,f2,f3,f4,f5,f6,f7,f8])
  | (refine exW (fun o=>p41_28) ?_; simp only [Tr.val,za2,AV.pure,za0,AV.cells,za1,za3,Bool.not_true,Bool.not_false,w1,f1,f2,f3,f4,f5,f6,f7,f8])
  | (refine exW (fun o=>p41_29) ?_; simp only [Tr.val,za2,AV.pure,za0,AV.cells,za1,za3,Bool.not_true,Bool.not_false,w1,f1,f2,f3,f4,f5,f6,f7,f8])
  | (refine exW (fun o=>p41_30) ?_; simp only [Tr.val,za2,AV.pure,za0,AV.cells,za1,za3,Bool.not_true,Bool.not_false,w1,f1,f2,f3,f4,f5,f6,f7,f8])
  | (refine exW (fun o=>p41_31) ?_; simp only [Tr.val,za2,AV.pure,za0,AV.cells,za1,za3,Bool.not_true,Bool.not_false,w1,f1,f2,f3,f4,f5,f6,f7,f8])
  | (refine exW (fun o=>p41_32) ?_; simp only [Tr.val,za2,AV.pure,za0,AV.cells,za1,za3,Bool.not_true,Bool.not_false,w1,f1,f2,f3,f4,f5,f6,f7,f8])
  | (refine exW (fun o=>p41_33) ?_; simp only [Tr.val,za2,AV.pure,za0,AV.cells,za1,za3,Bool.not_true,Bool.not_false,w1,f1,f2,f3,f4,f5,f6,f7,f8])
  | (refine exW (fun o=>p41_34) ?_; simp only [Tr.val,za2,AV.pure,za0,AV.cells,za1,za3,Bool.not_true,Bool.not_false,w1,f1,f2,f3,f4,f5,f6,f7,f8])
  | (refine exW (fun o=>p41_35) ?_; simp only [Tr.val,za2,AV.pure,za0,AV.cells,za1,za3,Bool.not_true,Bool.not_false,w1,f1,f2,f3,f4,f5,f6,f7,f8])
  | (refine exW (fun o=>p41_36) ?_; simp only [Tr.val,za2,AV.pure,za0,AV.cells,za1,za3,Bool.not_true,Bool.not_false,w1,f1,f2,f3,f4,f5,f6,f7,f8])
  | (refine exW (fun o=>p41_37) ?_; simp only [Tr.val,za2,AV.pure,za0,AV.cells,za1,za3,Bool.not_true,Bool.not_false,w1,f1,f2,f3,f4,f5,f6,f7,f8])
  | (refine exW (fun o=>p41_38) ?_; simp only [Tr.val,za2,AV.pure,za0,AV.cells,za1,za3,Bool.not_true,Bool.not_false,w1,f1,f2,f3,f4,f5,f6,f7,f8])
  | (refine exW (fun o=>p41_39) ?_; simp only [Tr.val,za2,AV.pure,za0,AV.cells,za1,za3,Bool.not_true,Bool.not_false,w1,f1,f2,f3,f4,f5,f6,f7,f8])
  | (refine exW (fun o=>p41_40) ?_; simp only [Tr.val,za2,AV.pure,za0,AV.cells,za1,za3,Bool.not_true,Bool.not_false,w1,f1,f2,f3,f4,f5,f6,f7,f8])
  | (refine exW (fun o=>p41_41) ?_; simp only [Tr.val,za2,AV.pure,za0,AV.cells,za1,za3,Bool.not_true,Bool.not_false,w1,f1,f2,f3,f4,f5,f6,f7,f8])
  | (refine exW (fun o=>p41_42) ?_; simp only [Tr.val,za2,AV.pure,za0,AV.cells,za1,za3,Bool.not_true,Bool.not_false,w1,f1,f2,f3,f4,f5,f6,f7,f8])
  | (refine exW (fun o=>p41_43) ?_; simp only [Tr.val,za2,AV.pure,za0,AV.cells,za1,za3,Bool.not_true,Bool.not_false,w1,f1,f2,f3,f4,f5,f6,f7,f8])
  | (refine exW (fun o=>p41_44) ?_; simp only [Tr.val,za2,AV.pure,za0,AV.cells,za1,za3,Bool.not_true,Bool.not_false,w1,f1,f2,f3,f4,f5,f6,f7,f8])
  | (refine exW (fun o=>p41_45) ?_; simp only [Tr.val,za2,AV.pure,za0,AV.cells,za1,za3,Bool.not_true,Bool.not_false,w1,f1,f2,f3,f4,f5,f6,f7,f8])
  | (refine .nth (B := 20) rfl (by simp only [List.length_cons,List.length_nil]; omega) fun s hs=>?_; simp only [AV.cells])
  | exact .mk ⟨_,_,rfl,by first | omega | (simp only [List.length_append,List.length_cons,List.length_nil,List.length_drop,List.length_take]; omega)⟩
  | refine .dec (fun h=>?_) (fun h=>?_)
  | refine .both (fun h=>?_) (fun h=>?_))
theorem w41 (tg : Bool) (l : List Int) (hl : l.length ≤ 1000000) (a ty : Int) (q : Bool) : Was (calL C 41 [.vs 1 tg (ints l),.int .i64 a,.int .i64 ty,.int .i64 0,.bool q] Hp.none 0) (QP 3000):=by
 have s4 := zpg hC tg l hl q 0 (by decide) 4 (by decide) (fun h=>absurd h (by decide));have s3 := zpg hC tg l hl q _ (by decide) 3 (by decide) (fun _=>s4);have s2 := zpg hC tg l hl q _ (by decide) 2 (by decide) (fun _=>s3);have s1 := zpg hC tg l hl q _ (by decide) 1 (by decide) (fun _=>s2);have s0 := zpg hC tg l hl q _ (by decide) 0 (by decide) (fun _=>s1);exact (s0 a ty).imp fun o ⟨s,x,e1,e2⟩=>⟨s,x,e1,Nat.le_trans e2 (by decide)⟩
end Go.Proofs.YtfdklpkfpmkgeaaGreatDoor
end
section
namespace Go.Proofs.YtfdklpkfpmkgeaaGreatDoor
open Go Go.Vai
attribute [local irreducible] goTo zao mkS
variable {C : Nat → Oracle} {o : Out}
abbrev cL0 : AV := (.vs 1 true [(.str [105,110,100,101,120,32,111,119,110,101,114,59,32]),(.str [105,110,100,101,120,32,116,97,103,115,59,32]),(.str [105,110,100,101,120,32,97,59,32]),(.str [])])
abbrev qL0 : List Nat := [0,5,0,5,0,5,0,0,5,2,3]
abbrev qL1 : List Nat := [0,5,0,5,0,5,0,0,5,2,3,0,0,5,7,5,5,5,5,0]
abbrev qL2 : List Nat := [0,5,0,5,0,5,0,0,5,2,3,0,0,5,6,5,0,2,0,5,0]
abbrev qL3 : List Nat := [0,5,0,5,0,5,0,0,5,2,3,0,0,5,6,5,0,2,0,5,0,5,0,5,0,5,0,0,5,2,0,5,6,0,5,0,5,6,5,5,0,5,0,5,0]
abbrev qL4 : List Nat := [0,5,0,5,0,5,0,0,5,2,3,0,0,5,6,5,0,2,0,5,0,5,0,5,0,5,0,0,5,2,0,5,6,0,5,0,5,7,5,5,0,5,0,5,0]
abbrev qL5 : List Nat := [0,5,0,5,0,5,0,0,5,2,3,0,0,5,6,5,0,2,0,5,0,5,0,5,0,5,0,0,5,2,0,5,7,0,5,6,5,5,0,5,0,5,0]
abbrev qL6 : List Nat := [0,5,0,5,0,5,0,0,5,2,3,0,0,5,6,5,0,2,0,5,0,5,0,5,0,5,0,0,5,2,0,5,7,0,5,7,0,5,6,5,5,0,5,0,5,0]
abbrev qL7 : List Nat := [0,5,0,5,0,5,0,0,5,2,3,0,0,5,6,5,0,2,0,5,0,5,0,5,0,5,0,0,5,2,0,5,7,0,5,7,0,5,7,0,5,6,5,5,0,5,0,5,0]
abbrev qL8 : List Nat := [0,5,0,5,0,5,0,0,5,2,3,0,0,5,6,5,0,2,0,5,0,5,0,5,0,5,0,0,5,2,0,5,7,0,5,7,0,5,7,0,5,7,0,5,6,5,5,0,5,0,5,0]
abbrev qL9 : List Nat := [0,5,0,5,0,5,0,0,5,2,3,0,0,5,6,5,0,2,0,5,0,5,0,5,0,5,0,0,5,2,0,5,7,0,5,7,0,5,7,0,5,7,0,5,7,5,5,0,5,0,5,0]
abbrev qL10 : List Nat := [0,5,0,5,0,5,0,0,5,2,3,0,0,5,6,5,0,2,0,5,0,5,0]
abbrev qL11 : List Nat := [0,5,0,5,0,5,0,0,5,2,3,0,0,5,6,5,0,2,0,5,0,5,0,5,0,5,0,0]
abbrev qL12 : List Nat := [0,5,0,5,0,5,0,0,5,2,3,0,0,5,6,5,0,2,0,5,0,5,0,5,0,5,0,0,5,2,0,5,6,0,5,0,5,6,5,5,0]
abbrev qL13 : List Nat := [0,5,0,5,0,5,0,0,5,2,3,0,0,5,6,5,0,2,0,5,0,5,0,5,0,5,0,0,5,2,0,5,6,0,5,0,5,7,5,5,0]
abbrev qL14 : List Nat := [0,5,0,5,0,5,0,0,5,2,3,0,0,5,6,5,0,2,0,5,0,5,0,5,0,5,0,0,5,2,0,5,7,0,5,6,5,5,0]
abbrev qL15 : List Nat := [0,5,0,5,0,5,0,0,5,2,3,0,0,5,6,5,0,2,0,5,0,5,0,5,0,5,0,0,5,2,0,5,7,0,5,7,0,5,6,5,5,0]
abbrev qL16 : List Nat := [0,5,0,5,0,5,0,0,5,2,3,0,0,5,6,5,0,2,0,5,0,5,0,5,0,5,0,0,5,2,0,5,7,0,5,7,0,5,7,0,5,6,5,5,0]
abbrev qL17 : List Nat := [0,5,0,5,0,5,0,0,5,2,3,0,0,5,6,5,0,2,0,5,0,5,0,5,0,5,0,0,5,2,0,5,7,0,5,7,0,5,7,0,5,7,0,5,6,5,5,0]
abbrev qL18 : List Nat := [0,5,0,5,0,5,0,0,5,2,3,0,0,5,6,5,0,2,0,5,0,5,0,5,0,5,0,0,5,2,0,5,7,0,5,7,0,5,7,0,5,7,0,5,7,5,5,0]
abbrev qL19 : List Nat := [0,5,0,5,0,5,0,0,5,2,3,0,0,5,6,5,0,2,0,5,0,5,0,5,0,5,0,0,5,2,0,5,6,0,5,0,5,6,5,5,0,5,0]
abbrev qL20 : List Nat := [0,5,0,5,0,5,0,0,5,2,3,0,0,5,6,5,0,2,0,5,0,5,0,5,0,5,0,0,5,2,0,5,6,0,5,0,5,7,5,5,0,5,0]
abbrev qL21 : List Nat := [0,5,0,5,0,5,0,0,5,2,3,0,0,5,6,5,0,2,0,5,0,5,0,5,0,5,0,0,5,2,0,5,7,0,5,6,5,5,0,5,0]
abbrev qL22 : List Nat := [0,5,0,5,0,5,0,0,5,2,3,0,0,5,6,5,0,2,0,5,0,5,0,5,0,5,0,0,5,2,0,5,7,0,5,7,0,5,6,5,5,0,5,0]
abbrev qL23 : List Nat := [0,5,0,5,0,5,0,0,5,2,3,0,0,5,6,5,0,2,0,5,0,5,0,5,0,5,0,0,5,2,0,5,7,0,5,7,0,5,7,0,5,6,5,5,0,5,0]
abbrev qL24 : List Nat := [0,5,0,5,0,5,0,0,5,2,3,0,0,5,6,5,0,2,0,5,0,5,0,5,0,5,0,0,5,2,0,5,7,0,5,7,0,5,7,0,5,7,0,5,6,5,5,0,5,0]
abbrev qL25 : List Nat := [0,5,0,5,0,5,0,0,5,2,3,0,0,5,6,5,0,2,0,5,0,5,0,5,0,5,0,0,5,2,0,5,7,0,5,7,0,5,7,0,5,7,0,5,7,5,5,0,5,0]
abbrev qL26 : List Nat := [0,5,0,5,0,5,0,0,5,2,3,0,0,5,6,5,0,2,0,5,0,5,0,5,0,5,0,0,5,2,0,5,6,0,5,0,5,6,5,5,0,5,0,5,0,5,0]
abbrev qL27 : List Nat := [0,5,0,5,0,5,0,0,5,2,3,0,0,5,6,5,0,2,0,5,0,5,0,5,0,5,0,0,5,2,0,5,6,0,5,0,5,7,5,5,0,5,0,5,0,5,0]
abbrev qL28 : List Nat := [0,5,0,5,0,5,0,0,5,2,3,0,0,5,6,5,0,2,0,5,0,5,0,5,0,5,0,0,5,2,0,5,7,0,5,6,5,5,0,5,0,5,0,5,0]
abbrev qL29 : List Nat := [0,5,0,5,0,5,0,0,5,2,3,0,0,5,6,5,0,2,0,5,0,5,0,5,0,5,0,0,5,2,0,5,7,0,5,7,0,5,6,5,5,0,5,0,5,0,5,0]
abbrev qL30 : List Nat := [0,5,0,5,0,5,0,0,5,2,3,0,0,5,6,5,0,2,0,5,0,5,0,5,0,5,0,0,5,2,0,5,7,0,5,7,0,5,7,0,5,6,5,5,0,5,0,5,0,5,0]
abbrev qL31 : List Nat := [0,5,0,5,0,5,0,0,5,2,3,0,0,5,6,5,0,2,0,5,0,5,0,5,0,5,0,0,5,2,0,5,7,0,5,7,0,5,7,0,5,7,0,5,6,5,5,0,5,0,5,0,5,0]
abbrev qL32 : List Nat := [0,5,0,5,0,5,0,0,5,2,3,0,0,5,6,5,0,2,0,5,0,5,0,5,0,5,0,0,5,2,0,5,7,0,5,7,0,5,7,0,5,7,0,5,7,5,5,0,5,0,5,0,5,0]
theorem p19_c (hC : Ext C) {a : Bool} {b : List AV} : LC C o 19 (mk0 112 [vv 0 (.vs 1 a b)]) [(.vs 1 a b)] Hp.none 0 := lC hC
abbrev zms := fun (a : Bool) (b : List AV) c d e => mk0 112 [vv 0 (.vs 1 a b),vt 3 c,vi 4 d,vi 5 e]
theorem p19_0 {a b} : LR C o 19 [] (mk0 112 [vv 0 (.vs 1 a b)]) (.run 0 qL0 (zms a b [116,121,112,101,32,116,32,123,32,114,101,103,105,115,116,101,114,32,111,119,110,101,114,32,116,101,120,116,59,32,114,101,103,105,115,116,101,114,32,97,32,105,110,116,59,32,99,111,117,110,116,101,114,32,98,59,32,109,97,120,32,99,59,32,115,101,116,32,116,97,103,115,59,32,102,108,97,103,32,120,49,59,32] 0 0)) := lR 11
abbrev yS431 := fun (a : Bool) (b : List AV) c d e f => mkS 112 [vv 0 (.vs 1 a b),vt 3 c,vi 4 d,vi 5 e,vb 15 false,vt 102 c,vv 103 cL0,vv 104 (.vs 1 a b),vi 105 d,f] [] Hp.none 0
theorem p19_1 {a b d c e} : LR C o 19 qL0 (zms a b d c e) (.br (decide (e < 3))
(cl0 34 [(.vs 1 a b),(i6 c)] fun f => .br (AV.pure f.v)
(.mid 0 [0,5,0,5,0,5,0,0,5,2,3,0,0,5,6,5,0,2,0] 3 (mk0 112 [vv 0 (.vs 1 a b),vt 3 d,vi 4 c,vi 5 e,vb 15 true,vv 18 (.vs 1 a b),vi 19 c,vv 20 f.v])) .none)
(cl0 34 [(.vs 1 a b),(i6 c)] fun g => .br (AV.pure g.v)
(.mid 2 qL1 5 (yS431 a b d c e (vv 106 g.v))) .none)) := lR 9
theorem p19_2 {a c e b f d} : LM C o 19 [0,5,0,5,0,5,0,0,5,2,3,0,0,5,6,5,0,2,0] 3 (mk0 112 [vv 0 (.vs 1 a c),vt 3 e,vi 4 b,vi 5 f,vb 15 true,vv 18 (.vs 1 a c),vi 19 b,vi 20 d]) (cl0 22 [(i6 d),(i6 3)] fun g => .br (AV.pure g.v)
(.mid 0 qL2 5 (mk0 112 [vv 0 (.vs 1 a c),vt 3 e,vi 4 b,vi 5 f,vi 6 d,vv 22 (.vs 1 a c),vi 23 b,vi 24 (w64 (b + 1)),vi 25 d,vv 26 g.v])) .none) := lM 2
abbrev yS433 := fun (a : Bool) (b : List AV) c d e f g => mkS 112 [vv 0 (.vs 1 a b),vt 3 c,vi 4 d,vi 5 e,vb 15 false,vt 102 c,vv 103 cL0,vv 104 (.vs 1 a b),vi 105 d,vi 106 f,g] [] Hp.none 0
theorem p19_3 {a b c d f e} : LM C o 19 qL1 5 (yS431 a b c d f (vi 106 e)) (cl0 22 [(i6 e),(i6 4)] fun g => .br (AV.pure g.v)
(.mid 0 qL1 6 (yS433 a b c d f e (vv 107 g.v))) .none) := lM 0
theorem p19_4 {a c g e h f b d} : LM C o 19 qL2 5 (mk0 112 [vv 0 (.vs 1 a c),vt 3 g,vi 4 e,vi 5 h,vi 6 f,vv 22 (.vs 1 a c),vi 23 e,vi 24 d,vi 25 f,vi 26 b]) (cl0 41 [(.vs 1 a c),(i6 d),(i6 (w64 (b + 1))),(i6 0),(.bool false)] fun i => .br (AV.pure i.v)
(.mid 0 qL2 7 (mk0 112 [vv 0 (.vs 1 a c),vt 3 g,vi 4 e,vi 5 h,vi 6 f,vv 22 (.vs 1 a c),vi 23 e,vi 24 d,vi 25 f,vi 26 b,vi 27 (w64 (b + 1)),vv 28 i.v])) .none) := lM 0
abbrev yS435 := fun (a : Bool) (b : List AV) c d e f g h => mkS 112 [vv 0 (.vs 1 a b),vt 3 c,vi 4 d,vi 5 e,vb 15 false,vt 102 c,vv 103 cL0,vv 104 (.vs 1 a b),vi 105 d,vi 106 f,vi 107 g,vv 108 (.cptr h)] [] Hp.none 0
theorem p19_5 {a c d e f g b} : LM C o 19 qL1 6 (yS433 a c d e f g (vi 107 b)) (ixl 4 [(.str [105,110,100,101,120,32,111,119,110,101,114,59,32]),(.str [105,110,100,101,120,32,116,97,103,115,59,32]),(.str [105,110,100,101,120,32,97,59,32]),(.str [])] b fun h =>
(.mid 0 qL1 7 (yS435 a c d e f g b (AV.cells h)))) := lM 0
theorem p19_6 {a e f c g h b i j d k} : LM C o 19 qL2 7 (mk0 112 [vv 0 (.vs 1 a e),vt 3 f,vi 4 g,vi 5 h,vi 6 b,vv 22 (.vs 1 a e),vi 23 g,vi 24 j,vi 25 b,vi 26 i,vi 27 k,vv 28 (.tuple [(.str c),(i6 d)])]) (cl0 22 [(i6 b),(i6 3)] fun l => .br (AV.pure l.v)
(.mid 0 qL10 2 (mk0 112 [vv 0 (.vs 1 a e),vt 3 f,vi 5 h,vi 6 b,vt 7 c,vi 8 d,vi 31 b,vv 32 l.v])) .none) := lM 2
theorem p19_7 {c d b a e g h f} : LM C o 19 qL1 7 (yS435 c d b e g h f [(.str a)]) (.br (Nat.ble (b.length + a.length) 4611686018427387904)
(.br (Nat.ble ((b ++ a).length + 1) 4611686018427387904)
(rt (.str ((b ++ a) ++ [125]))) .none) .none) := lM 1
theorem p19_8 {b f g c h a d e} : LM C o 19 qL10 2 (mk0 112 [vv 0 (.vs 1 b f),vt 3 g,vi 5 h,vi 6 a,vt 7 c,vi 8 d,vi 31 a,vi 32 e]) (cl0 22 [(i6 (w64 (Int.tdiv a 3))),(i6 6)] fun i => .br (AV.pure i.v)
(.mid 0 qL11 3 (mk0 112 [vv 0 (.vs 1 b f),vt 3 g,vi 5 h,vi 6 a,vt 7 c,vi 8 d,vi 9 (w64 (e + 1)),vi 34 a,vi 35 (w64 (Int.tdiv a 3)),vv 36 i.v])) .none) := lM 5
theorem p19_9 {d g b a c i e f h j} : LM C o 19 qL11 3 (mk0 112 [vv 0 (.vs 1 d g),vt 3 b,vi 5 c,vi 6 i,vt 7 a,vi 8 e,vi 9 h,vi 34 i,vi 35 j,vi 36 f]) (.br (decide (f = 0))
(.br (Nat.ble (10 + a.length) 4611686018427387904)
(.br (Nat.ble (([119,114,105,116,101,32,97,32,61,32] ++ a).length + 1) 4611686018427387904)
(.br (decide (h = 2))
(.br (Nat.ble (14 + a.length) 4611686018427387904)
(.br (Nat.ble (([119,114,105,116,101,32,111,119,110,101,114,32,61,32] ++ a).length + 1) 4611686018427387904)
(.br (Nat.ble (b.length + 4) 4611686018427387904)
(cl0 29 [(i6 c)] fun r => .br (AV.pure r.v)
(.mid 7 qL12 4 (mk0 112 [vv 0 (.vs 1 d g),vt 3 b,vi 5 c,vi 8 e,vt 10 (([119,114,105,116,101,32,111,119,110,101,114,32,61,32] ++ a) ++ [59]),vt 70 b,vt 71 (b ++ [111,112,32,102]),vi 72 c,vv 73 r.v])) .none) .none) .none) .none)
(.br (Nat.ble (b.length + 4) 4611686018427387904)
(cl0 29 [(i6 c)] fun k => .br (AV.pure k.v)
(.mid 7 qL13 4 (mk0 112 [vv 0 (.vs 1 d g),vt 3 b,vi 5 c,vt 7 a,vi 8 e,vt 10 (([119,114,105,116,101,32,97,32,61,32] ++ a) ++ [59]),vb 46 false,vt 70 b,vt 71 (b ++ [111,112,32,102]),vi 72 c,vv 73 k.v])) .none) .none)) .none) .none)
(.br (decide (f = 1))
(.br (Nat.ble (8 + a.length) 4611686018427387904)
(.br (Nat.ble (([97,100,100,32,98,32,61,32] ++ a).length + 14) 4611686018427387904)
(.br (Nat.ble (b.length + 4) 4611686018427387904)
(cl0 29 [(i6 c)] fun l => .br (AV.pure l.v)
(.mid 9 qL14 4 (mk0 112 [vv 0 (.vs 1 d g),vt 3 b,vi 5 c,vi 8 e,vt 10 (([97,100,100,32,98,32,61,32] ++ a) ++ [59,32,114,97,105,115,101,32,99,32,61,32,110,59]),vt 70 b,vt 71 (b ++ [111,112,32,102]),vi 72 c,vv 73 l.v])) .none) .none) .none) .none)
(.br (decide (f = 2))
(.br (Nat.ble (14 + a.length) 4611686018427387904)
(.br (Nat.ble (([105,110,115,101,114,116,32,116,97,103,115,32,61,32] ++ a).length + 10) 4611686018427387904)
(.br (Nat.ble (b.length + 4) 4611686018427387904)
(cl0 29 [(i6 c)] fun m => .br (AV.pure m.v)
(.mid 6 qL15 4 (mk0 112 [vv 0 (.vs 1 d g),vt 3 b,vi 5 c,vi 8 e,vt 10 (([105,110,115,101,114,116,32,116,97,103,115,32,61,32] ++ a) ++ [59,32,109,97,114,107,32,120,49,59]),vt 70 b,vt 71 (b ++ [111,112,32,102]),vi 72 c,vv 73 m.v])) .none) .none) .none) .none)
(.br (decide (f = 3))
(.br (Nat.ble (3 + a.length) 4611686018427387904)
(.br (Nat.ble (([105,102,32] ++ a).length + 13) 4611686018427387904)
(.br (Nat.ble (b.length + 4) 4611686018427387904)
(cl0 29 [(i6 c)] fun n => .br (AV.pure n.v)
(.mid 3 qL16 4 (mk0 112 [vv 0 (.vs 1 d g),vt 3 b,vi 5 c,vi 8 e,vt 10 (([105,102,32] ++ a) ++ [32,123,32,109,97,114,107,32,120,49,59,32,125]),vt 70 b,vt 71 (b ++ [111,112,32,102]),vi 72 c,vv 73 n.v])) .none) .none) .none) .none)
(.br (decide (f = 4))
(.br (Nat.ble (3 + a.length) 4611686018427387904)
(.br (Nat.ble (([105,102,32] ++ a).length + 54) 4611686018427387904)
(.br (Nat.ble (b.length + 4) 4611686018427387904)
(cl0 29 [(i6 c)] fun p => .br (AV.pure p.v)
(.mid 0 qL17 4 (mk0 112 [vv 0 (.vs 1 d g),vt 3 b,vi 5 c,vi 8 e,vt 10 (([105,102,32] ++ a) ++ [32,123,32,97,100,100,32,98,32,61,32,110,59,32,125,32,101,108,115,101,32,123,32,105,110,115,101,114,116,32,116,97,103,115,32,61,32,119,59,32,114,97,105,115,101,32,99,32,61,32,51,59,32,125]),vt 70 b,vt 71 (b ++ [111,112,32,102]),vi 72 c,vv 73 p.v])) .none) .none) .none) .none)
(.br (Nat.ble (17 + a.length) 4611686018427387904)
(.br (Nat.ble (([109,97,114,107,32,120,49,59,32,97,100,100,32,98,32,61,32] ++ a).length + 1) 4611686018427387904)
(.br (Nat.ble (b.length + 4) 4611686018427387904)
(cl0 29 [(i6 c)] fun q => .br (AV.pure q.v)
(.mid 0 qL18 4 (mk0 112 [vv 0 (.vs 1 d g),vt 3 b,vi 5 c,vi 8 e,vt 10 (([109,97,114,107,32,120,49,59,32,97,100,100,32,98,32,61,32] ++ a) ++ [59]),vt 70 b,vt 71 (b ++ [111,112,32,102]),vi 72 c,vv 73 q.v])) .none) .none) .none) .none)))))) := lM 20
theorem p19_10 {c f h a d b g e} : LM C o 19 qL12 4 (mk0 112 [vv 0 (.vs 1 c f),vt 3 h,vi 5 g,vi 8 e,vt 10 d,vt 70 h,vt 71 b,vi 72 g,vt 73 a]) (.br (Nat.ble (b.length + a.length) 4611686018427387904)
(.br (Nat.ble ((b ++ a).length + 26) 4611686018427387904)
(.br (Nat.ble (((b ++ a) ++ [40,110,32,105,110,116,44,32,119,32,116,101,120,116,44,32,112,32,98,111,111,108,41,32,123,32]).length + d.length) 4611686018427387904)
(.br (Nat.ble ((((b ++ a) ++ [40,110,32,105,110,116,44,32,119,32,116,101,120,116,44,32,112,32,98,111,111,108,41,32,123,32]) ++ d).length + 3) 4611686018427387904)
(cl0 34 [(.vs 1 c f),(i6 e)] fun i => .br (AV.pure i.v)
(.mid 0 qL19 3 (mk0 112 [vv 0 (.vs 1 c f),vt 3 ((((b ++ a) ++ [40,110,32,105,110,116,44,32,119,32,116,101,120,116,44,32,112,32,98,111,111,108,41,32,123,32]) ++ d) ++ [32,125,32]),vi 5 g,vi 8 e,vv 79 (.vs 1 c f),vi 80 e,vv 81 i.v])) .none) .none) .none) .none) .none) := lM 2
theorem p19_11 {c f h i a d b g e} : LM C o 19 qL13 4 (mk0 112 [vv 0 (.vs 1 c f),vt 3 h,vi 5 g,vt 7 i,vi 8 e,vt 10 d,vb 46 false,vt 70 h,vt 71 b,vi 72 g,vt 73 a]) (.br (Nat.ble (b.length + a.length) 4611686018427387904)
(.br (Nat.ble ((b ++ a).length + 26) 4611686018427387904)
(.br (Nat.ble (((b ++ a) ++ [40,110,32,105,110,116,44,32,119,32,116,101,120,116,44,32,112,32,98,111,111,108,41,32,123,32]).length + d.length) 4611686018427387904)
(.br (Nat.ble ((((b ++ a) ++ [40,110,32,105,110,116,44,32,119,32,116,101,120,116,44,32,112,32,98,111,111,108,41,32,123,32]) ++ d).length + 3) 4611686018427387904)
(cl0 34 [(.vs 1 c f),(i6 e)] fun j => .br (AV.pure j.v)
(.mid 0 qL20 3 (mk0 112 [vv 0 (.vs 1 c f),vt 3 ((((b ++ a) ++ [40,110,32,105,110,116,44,32,119,32,116,101,120,116,44,32,112,32,98,111,111,108,41,32,123,32]) ++ d) ++ [32,125,32]),vi 5 g,vi 8 e,vv 79 (.vs 1 c f),vi 80 e,vv 81 j.v])) .none) .none) .none) .none) .none) := lM 2
theorem p19_12 {c f h a d b g e} : LM C o 19 qL14 4 (mk0 112 [vv 0 (.vs 1 c f),vt 3 h,vi 5 g,vi 8 e,vt 10 d,vt 70 h,vt 71 b,vi 72 g,vt 73 a]) (.br (Nat.ble (b.length + a.length) 4611686018427387904)
(.br (Nat.ble ((b ++ a).length + 26) 4611686018427387904)
(.br (Nat.ble (((b ++ a) ++ [40,110,32,105,110,116,44,32,119,32,116,101,120,116,44,32,112,32,98,111,111,108,41,32,123,32]).length + d.length) 4611686018427387904)
(.br (Nat.ble ((((b ++ a) ++ [40,110,32,105,110,116,44,32,119,32,116,101,120,116,44,32,112,32,98,111,111,108,41,32,123,32]) ++ d).length + 3) 4611686018427387904)
(cl0 34 [(.vs 1 c f),(i6 e)] fun i => .br (AV.pure i.v)
(.mid 0 qL21 3 (mk0 112 [vv 0 (.vs 1 c f),vt 3 ((((b ++ a) ++ [40,110,32,105,110,116,44,32,119,32,116,101,120,116,44,32,112,32,98,111,111,108,41,32,123,32]) ++ d) ++ [32,125,32]),vi 5 g,vi 8 e,vv 79 (.vs 1 c f),vi 80 e,vv 81 i.v])) .none) .none) .none) .none) .none) := lM 2
theorem p19_13 {c f h a d b g e} : LM C o 19 qL15 4 (mk0 112 [vv 0 (.vs 1 c f),vt 3 h,vi 5 g,vi 8 e,vt 10 d,vt 70 h,vt 71 b,vi 72 g,vt 73 a]) (.br (Nat.ble (b.length + a.length) 4611686018427387904)
(.br (Nat.ble ((b ++ a).length + 26) 4611686018427387904)
(.br (Nat.ble (((b ++ a) ++ [40,110,32,105,110,116,44,32,119,32,116,101,120,116,44,32,112,32,98,111,111,108,41,32,123,32]).length + d.length) 4611686018427387904)
(.br (Nat.ble ((((b ++ a) ++ [40,110,32,105,110,116,44,32,119,32,116,101,120,116,44,32,112,32,98,111,111,108,41,32,123,32]) ++ d).length + 3) 4611686018427387904)
(cl0 34 [(.vs 1 c f),(i6 e)] fun i => .br (AV.pure i.v)
(.mid 0 qL22 3 (mk0 112 [vv 0 (.vs 1 c f),vt 3 ((((b ++ a) ++ [40,110,32,105,110,116,44,32,119,32,116,101,120,116,44,32,112,32,98,111,111,108,41,32,123,32]) ++ d) ++ [32,125,32]),vi 5 g,vi 8 e,vv 79 (.vs 1 c f),vi 80 e,vv 81 i.v])) .none) .none) .none) .none) .none) := lM 2
theorem p19_14 {c f h a d b g e} : LM C o 19 qL16 4 (mk0 112 [vv 0 (.vs 1 c f),vt 3 h,vi 5 g,vi 8 e,vt 10 d,vt 70 h,vt 71 b,vi 72 g,vt 73 a]) (.br (Nat.ble (b.length + a.length) 4611686018427387904)
(.br (Nat.ble ((b ++ a).length + 26) 4611686018427387904)
(.br (Nat.ble (((b ++ a) ++ [40,110,32,105,110,116,44,32,119,32,116,101,120,116,44,32,112,32,98,111,111,108,41,32,123,32]).length + d.length) 4611686018427387904)
(.br (Nat.ble ((((b ++ a) ++ [40,110,32,105,110,116,44,32,119,32,116,101,120,116,44,32,112,32,98,111,111,108,41,32,123,32]) ++ d).length + 3) 4611686018427387904)
(cl0 34 [(.vs 1 c f),(i6 e)] fun i => .br (AV.pure i.v)
(.mid 0 qL23 3 (mk0 112 [vv 0 (.vs 1 c f),vt 3 ((((b ++ a) ++ [40,110,32,105,110,116,44,32,119,32,116,101,120,116,44,32,112,32,98,111,111,108,41,32,123,32]) ++ d) ++ [32,125,32]),vi 5 g,vi 8 e,vv 79 (.vs 1 c f),vi 80 e,vv 81 i.v])) .none) .none) .none) .none) .none) := lM 2
theorem p19_15 {c f h a d b g e} : LM C o 19 qL17 4 (mk0 112 [vv 0 (.vs 1 c f),vt 3 h,vi 5 g,vi 8 e,vt 10 d,vt 70 h,vt 71 b,vi 72 g,vt 73 a]) (.br (Nat.ble (b.length + a.length) 4611686018427387904)
(.br (Nat.ble ((b ++ a).length + 26) 4611686018427387904)
(.br (Nat.ble (((b ++ a) ++ [40,110,32,105,110,116,44,32,119,32,116,101,120,116,44,32,112,32,98,111,111,108,41,32,123,32]).length + d.length) 4611686018427387904)
(.br (Nat.ble ((((b ++ a) ++ [40,110,32,105,110,116,44,32,119,32,116,101,120,116,44,32,112,32,98,111,111,108,41,32,123,32]) ++ d).length + 3) 4611686018427387904)
(cl0 34 [(.vs 1 c f),(i6 e)] fun i => .br (AV.pure i.v)
(.mid 0 qL24 3 (mk0 112 [vv 0 (.vs 1 c f),vt 3 ((((b ++ a) ++ [40,110,32,105,110,116,44,32,119,32,116,101,120,116,44,32,112,32,98,111,111,108,41,32,123,32]) ++ d) ++ [32,125,32]),vi 5 g,vi 8 e,vv 79 (.vs 1 c f),vi 80 e,vv 81 i.v])) .none) .none) .none) .none) .none) := lM 2
theorem p19_16 {c f h a d b g e} : LM C o 19 qL18 4 (mk0 112 [vv 0 (.vs 1 c f),vt 3 h,vi 5 g,vi 8 e,vt 10 d,vt 70 h,vt 71 b,vi 72 g,vt 73 a]) (.br (Nat.ble (b.length + a.length) 4611686018427387904)
(.br (Nat.ble ((b ++ a).length + 26) 4611686018427387904)
(.br (Nat.ble (((b ++ a) ++ [40,110,32,105,110,116,44,32,119,32,116,101,120,116,44,32,112,32,98,111,111,108,41,32,123,32]).length + d.length) 4611686018427387904)
(.br (Nat.ble ((((b ++ a) ++ [40,110,32,105,110,116,44,32,119,32,116,101,120,116,44,32,112,32,98,111,111,108,41,32,123,32]) ++ d).length + 3) 4611686018427387904)
(cl0 34 [(.vs 1 c f),(i6 e)] fun i => .br (AV.pure i.v)
(.mid 0 qL25 3 (mk0 112 [vv 0 (.vs 1 c f),vt 3 ((((b ++ a) ++ [40,110,32,105,110,116,44,32,119,32,116,101,120,116,44,32,112,32,98,111,111,108,41,32,123,32]) ++ d) ++ [32,125,32]),vi 5 g,vi 8 e,vv 79 (.vs 1 c f),vi 80 e,vv 81 i.v])) .none) .none) .none) .none) .none) := lM 2
theorem p19_17 {b d f a c e} : LM C o 19 qL19 3 (mk0 112 [vv 0 (.vs 1 b d),vt 3 e,vi 5 f,vi 8 a,vv 79 (.vs 1 b d),vi 80 a,vi 81 c]) (cl0 22 [(i6 c),(i6 3)] fun g => .br (AV.pure g.v)
(.mid 0 qL3 5 (mk0 112 [vv 0 (.vs 1 b d),vt 3 e,vi 5 f,vi 8 a,vi 11 c,vv 83 (.vs 1 b d),vi 84 a,vi 85 (w64 (a + 1)),vi 86 c,vv 87 g.v])) .none) := lM 2
theorem p19_18 {b d f a c e} : LM C o 19 qL20 3 (mk0 112 [vv 0 (.vs 1 b d),vt 3 e,vi 5 f,vi 8 a,vv 79 (.vs 1 b d),vi 80 a,vi 81 c]) (cl0 22 [(i6 c),(i6 3)] fun g => .br (AV.pure g.v)
(.mid 0 qL4 5 (mk0 112 [vv 0 (.vs 1 b d),vt 3 e,vi 5 f,vi 8 a,vi 11 c,vv 83 (.vs 1 b d),vi 84 a,vi 85 (w64 (a + 1)),vi 86 c,vv 87 g.v])) .none) := lM 2
theorem p19_19 {b d f a c e} : LM C o 19 qL21 3 (mk0 112 [vv 0 (.vs 1 b d),vt 3 e,vi 5 f,vi 8 a,vv 79 (.vs 1 b d),vi 80 a,vi 81 c]) (cl0 22 [(i6 c),(i6 3)] fun g => .br (AV.pure g.v)
(.mid 0 qL5 5 (mk0 112 [vv 0 (.vs 1 b d),vt 3 e,vi 5 f,vi 8 a,vi 11 c,vv 83 (.vs 1 b d),vi 84 a,vi 85 (w64 (a + 1)),vi 86 c,vv 87 g.v])) .none) := lM 2
theorem p19_20 {b d f a c e} : LM C o 19 qL22 3 (mk0 112 [vv 0 (.vs 1 b d),vt 3 e,vi 5 f,vi 8 a,vv 79 (.vs 1 b d),vi 80 a,vi 81 c]) (cl0 22 [(i6 c),(i6 3)] fun g => .br (AV.pure g.v)
(.mid 0 qL6 5 (mk0 112 [vv 0 (.vs 1 b d),vt 3 e,vi 5 f,vi 8 a,vi 11 c,vv 83 (.vs 1 b d),vi 84 a,vi 85 (w64 (a + 1)),vi 86 c,vv 87 g.v])) .none) := lM 2
theorem p19_21 {b d f a c e} : LM C o 19 qL23 3 (mk0 112 [vv 0 (.vs 1 b d),vt 3 e,vi 5 f,vi 8 a,vv 79 (.vs 1 b d),vi 80 a,vi 81 c]) (cl0 22 [(i6 c),(i6 3)] fun g => .br (AV.pure g.v)
(.mid 0 qL7 5 (mk0 112 [vv 0 (.vs 1 b d),vt 3 e,vi 5 f,vi 8 a,vi 11 c,vv 83 (.vs 1 b d),vi 84 a,vi 85 (w64 (a + 1)),vi 86 c,vv 87 g.v])) .none) := lM 2
theorem p19_22 {b d f a c e} : LM C o 19 qL24 3 (mk0 112 [vv 0 (.vs 1 b d),vt 3 e,vi 5 f,vi 8 a,vv 79 (.vs 1 b d),vi 80 a,vi 81 c]) (cl0 22 [(i6 c),(i6 3)] fun g => .br (AV.pure g.v)
(.mid 0 qL8 5 (mk0 112 [vv 0 (.vs 1 b d),vt 3 e,vi 5 f,vi 8 a,vi 11 c,vv 83 (.vs 1 b d),vi 84 a,vi 85 (w64 (a + 1)),vi 86 c,vv 87 g.v])) .none) := lM 2
theorem p19_23 {b d f a c e} : LM C o 19 qL25 3 (mk0 112 [vv 0 (.vs 1 b d),vt 3 e,vi 5 f,vi 8 a,vv 79 (.vs 1 b d),vi 80 a,vi 81 c]) (cl0 22 [(i6 c),(i6 3)] fun g => .br (AV.pure g.v)
(.mid 0 qL9 5 (mk0 112 [vv 0 (.vs 1 b d),vt 3 e,vi 5 f,vi 8 a,vi 11 c,vv 83 (.vs 1 b d),vi 84 a,vi 85 (w64 (a + 1)),vi 86 c,vv 87 g.v])) .none) := lM 2
theorem p19_24 {a e h b c d f g} : LM C o 19 qL3 5 (mk0 112 [vv 0 (.vs 1 a e),vt 3 g,vi 5 h,vi 8 b,vi 11 c,vv 83 (.vs 1 a e),vi 84 b,vi 85 f,vi 86 c,vi 87 d]) (cl0 41 [(.vs 1 a e),(i6 f),(i6 (w64 (d + 1))),(i6 0),(.bool true)] fun i => .br (AV.pure i.v)
(.mid 0 qL3 7 (mk0 112 [vv 0 (.vs 1 a e),vt 3 g,vi 5 h,vi 8 b,vi 11 c,vv 83 (.vs 1 a e),vi 84 b,vi 85 f,vi 86 c,vi 87 d,vi 88 (w64 (d + 1)),vv 89 i.v])) .none) := lM 0
theorem p19_25 {a e h b c d f g} : LM C o 19 qL4 5 (mk0 112 [vv 0 (.vs 1 a e),vt 3 g,vi 5 h,vi 8 b,vi 11 c,vv 83 (.vs 1 a e),vi 84 b,vi 85 f,vi 86 c,vi 87 d]) (cl0 41 [(.vs 1 a e),(i6 f),(i6 (w64 (d + 1))),(i6 0),(.bool true)] fun i => .br (AV.pure i.v)
(.mid 0 qL4 7 (mk0 112 [vv 0 (.vs 1 a e),vt 3 g,vi 5 h,vi 8 b,vi 11 c,vv 83 (.vs 1 a e),vi 84 b,vi 85 f,vi 86 c,vi 87 d,vi 88 (w64 (d + 1)),vv 89 i.v])) .none) := lM 0
theorem p19_26 {a e h b c d f g} : LM C o 19 qL5 5 (mk0 112 [vv 0 (.vs 1 a e),vt 3 g,vi 5 h,vi 8 b,vi 11 c,vv 83 (.vs 1 a e),vi 84 b,vi 85 f,vi 86 c,vi 87 d]) (cl0 41 [(.vs 1 a e),(i6 f),(i6 (w64 (d + 1))),(i6 0),(.bool true)] fun i => .br (AV.pure i.v)
(.mid 0 qL5 7 (mk0 112 [vv 0 (.vs 1 a e),vt 3 g,vi 5 h,vi 8 b,vi 11 c,vv 83 (.vs 1 a e),vi 84 b,vi 85 f,vi 86 c,vi 87 d,vi 88 (w64 (d + 1)),vv 89 i.v])) .none) := lM 0
theorem p19_27 {a e h b c d f g} : LM C o 19 qL6 5 (mk0 112 [vv 0 (.vs 1 a e),vt 3 g,vi 5 h,vi 8 b,vi 11 c,vv 83 (.vs 1 a e),vi 84 b,vi 85 f,vi 86 c,vi 87 d]) (cl0 41 [(.vs 1 a e),(i6 f),(i6 (w64 (d + 1))),(i6 0),(.bool true)] fun i => .br (AV.pure i.v)
(.mid 0 qL6 7 (mk0 112 [vv 0 (.vs 1 a e),vt 3 g,vi 5 h,vi 8 b,vi 11 c,vv 83 (.vs 1 a e),vi 84 b,vi 85 f,vi 86 c,vi 87 d,vi 88 (w64 (d + 1)),vv 89 i.v])) .none) := lM 0
theorem p19_28 {a e h b c d f g} : LM C o 19 qL7 5 (mk0 112 [vv 0 (.vs 1 a e),vt 3 g,vi 5 h,vi 8 b,vi 11 c,vv 83 (.vs 1 a e),vi 84 b,vi 85 f,vi 86 c,vi 87 d]) (cl0 41 [(.vs 1 a e),(i6 f),(i6 (w64 (d + 1))),(i6 0),(.bool true)] fun i => .br (AV.pure i.v)
(.mid 0 qL7 7 (mk0 112 [vv 0 (.vs 1 a e),vt 3 g,vi 5 h,vi 8 b,vi 11 c,vv 83 (.vs 1 a e),vi 84 b,vi 85 f,vi 86 c,vi 87 d,vi 88 (w64 (d + 1)),vv 89 i.v])) .none) := lM 0
theorem p19_29 {a e h b c d f g} : LM C o 19 qL8 5 (mk0 112 [vv 0 (.vs 1 a e),vt 3 g,vi 5 h,vi 8 b,vi 11 c,vv 83 (.vs 1 a e),vi 84 b,vi 85 f,vi 86 c,vi 87 d]) (cl0 41 [(.vs 1 a e),(i6 f),(i6 (w64 (d + 1))),(i6 0),(.bool true)] fun i => .br (AV.pure i.v)
(.mid 0 qL8 7 (mk0 112 [vv 0 (.vs 1 a e),vt 3 g,vi 5 h,vi 8 b,vi 11 c,vv 83 (.vs 1 a e),vi 84 b,vi 85 f,vi 86 c,vi 87 d,vi 88 (w64 (d + 1)),vv 89 i.v])) .none) := lM 0
theorem p19_30 {a e h b c d f g} : LM C o 19 qL9 5 (mk0 112 [vv 0 (.vs 1 a e),vt 3 g,vi 5 h,vi 8 b,vi 11 c,vv 83 (.vs 1 a e),vi 84 b,vi 85 f,vi 86 c,vi 87 d]) (cl0 41 [(.vs 1 a e),(i6 f),(i6 (w64 (d + 1))),(i6 0),(.bool true)] fun i => .br (AV.pure i.v)
(.mid 0 qL9 7 (mk0 112 [vv 0 (.vs 1 a e),vt 3 g,vi 5 h,vi 8 b,vi 11 c,vv 83 (.vs 1 a e),vi 84 b,vi 85 f,vi 86 c,vi 87 d,vi 88 (w64 (d + 1)),vv 89 i.v])) .none) := lM 0
theorem p19_31 {b h c d e i j f k a g} : LM C o 19 qL3 7 (mk0 112 [vv 0 (.vs 1 b h),vt 3 a,vi 5 c,vi 8 d,vi 11 e,vv 83 (.vs 1 b h),vi 84 d,vi 85 j,vi 86 e,vi 87 i,vi 88 k,vv 89 (.tuple [(.str g),(i6 f)])]) (.br (Nat.ble (a.length + 7) 4611686018427387904)
(cl0 29 [(i6 c)] fun l => .br (AV.pure l.v)
(.mid 0 qL26 4 (mk0 112 [vv 0 (.vs 1 b h),vt 3 a,vi 5 c,vt 12 g,vi 13 f,vt 92 a,vt 93 (a ++ [113,117,101,114,121,32,113]),vi 94 c,vv 95 l.v])) .none) .none) := lM 2
theorem p19_32 {b h c d e i j f k a g} : LM C o 19 qL4 7 (mk0 112 [vv 0 (.vs 1 b h),vt 3 a,vi 5 c,vi 8 d,vi 11 e,vv 83 (.vs 1 b h),vi 84 d,vi 85 j,vi 86 e,vi 87 i,vi 88 k,vv 89 (.tuple [(.str g),(i6 f)])]) (.br (Nat.ble (a.length + 7) 4611686018427387904)
(cl0 29 [(i6 c)] fun l => .br (AV.pure l.v)
(.mid 0 qL27 4 (mk0 112 [vv 0 (.vs 1 b h),vt 3 a,vi 5 c,vt 12 g,vi 13 f,vt 92 a,vt 93 (a ++ [113,117,101,114,121,32,113]),vi 94 c,vv 95 l.v])) .none) .none) := lM 2
theorem p19_33 {b h c d e i j f k a g} : LM C o 19 qL5 7 (mk0 112 [vv 0 (.vs 1 b h),vt 3 a,vi 5 c,vi 8 d,vi 11 e,vv 83 (.vs 1 b h),vi 84 d,vi 85 j,vi 86 e,vi 87 i,vi 88 k,vv 89 (.tuple [(.str g),(i6 f)])]) (.br (Nat.ble (a.length + 7) 4611686018427387904)
(cl0 29 [(i6 c)] fun l => .br (AV.pure l.v)
(.mid 0 qL28 4 (mk0 112 [vv 0 (.vs 1 b h),vt 3 a,vi 5 c,vt 12 g,vi 13 f,vt 92 a,vt 93 (a ++ [113,117,101,114,121,32,113]),vi 94 c,vv 95 l.v])) .none) .none) := lM 2
theorem p19_34 {b h c d e i j f k a g} : LM C o 19 qL6 7 (mk0 112 [vv 0 (.vs 1 b h),vt 3 a,vi 5 c,vi 8 d,vi 11 e,vv 83 (.vs 1 b h),vi 84 d,vi 85 j,vi 86 e,vi 87 i,vi 88 k,vv 89 (.tuple [(.str g),(i6 f)])]) (.br (Nat.ble (a.length + 7) 4611686018427387904)
(cl0 29 [(i6 c)] fun l => .br (AV.pure l.v)
(.mid 0 qL29 4 (mk0 112 [vv 0 (.vs 1 b h),vt 3 a,vi 5 c,vt 12 g,vi 13 f,vt 92 a,vt 93 (a ++ [113,117,101,114,121,32,113]),vi 94 c,vv 95 l.v])) .none) .none) := lM 2
theorem p19_35 {b h c d e i j f k a g} : LM C o 19 qL7 7 (mk0 112 [vv 0 (.vs 1 b h),vt 3 a,vi 5 c,vi 8 d,vi 11 e,vv 83 (.vs 1 b h),vi 84 d,vi 85 j,vi 86 e,vi 87 i,vi 88 k,vv 89 (.tuple [(.str g),(i6 f)])]) (.br (Nat.ble (a.length + 7) 4611686018427387904)
(cl0 29 [(i6 c)] fun l => .br (AV.pure l.v)
(.mid 0 qL30 4 (mk0 112 [vv 0 (.vs 1 b h),vt 3 a,vi 5 c,vt 12 g,vi 13 f,vt 92 a,vt 93 (a ++ [113,117,101,114,121,32,113]),vi 94 c,vv 95 l.v])) .none) .none) := lM 2
theorem p19_36 {b h c d e i j f k a g} : LM C o 19 qL8 7 (mk0 112 [vv 0 (.vs 1 b h),vt 3 a,vi 5 c,vi 8 d,vi 11 e,vv 83 (.vs 1 b h),vi 84 d,vi 85 j,vi 86 e,vi 87 i,vi 88 k,vv 89 (.tuple [(.str g),(i6 f)])]) (.br (Nat.ble (a.length + 7) 4611686018427387904)
(cl0 29 [(i6 c)] fun l => .br (AV.pure l.v)
(.mid 0 qL31 4 (mk0 112 [vv 0 (.vs 1 b h),vt 3 a,vi 5 c,vt 12 g,vi 13 f,vt 92 a,vt 93 (a ++ [113,117,101,114,121,32,113]),vi 94 c,vv 95 l.v])) .none) .none) := lM 2
theorem p19_37 {b h c d e i j f k a g} : LM C o 19 qL9 7 (mk0 112 [vv 0 (.vs 1 b h),vt 3 a,vi 5 c,vi 8 d,vi 11 e,vv 83 (.vs 1 b h),vi 84 d,vi 85 j,vi 86 e,vi 87 i,vi 88 k,vv 89 (.tuple [(.str g),(i6 f)])]) (.br (Nat.ble (a.length + 7) 4611686018427387904)
(cl0 29 [(i6 c)] fun l => .br (AV.pure l.v)
(.mid 0 qL32 4 (mk0 112 [vv 0 (.vs 1 b h),vt 3 a,vi 5 c,vt 12 g,vi 13 f,vt 92 a,vt 93 (a ++ [113,117,101,114,121,32,113]),vi 94 c,vv 95 l.v])) .none) .none) := lM 2
theorem p19_38 {d h g e f c a b} : LM C o 19 qL26 4 (mk0 112 [vv 0 (.vs 1 d h),vt 3 f,vi 5 g,vt 12 c,vi 13 e,vt 92 f,vt 93 b,vi 94 g,vt 95 a]) (.br (Nat.ble (b.length + a.length) 4611686018427387904)
(.br (Nat.ble ((b ++ a).length + 26) 4611686018427387904)
(.br (Nat.ble (((b ++ a) ++ [40,110,32,105,110,116,44,32,119,32,116,101,120,116,44,32,112,32,98,111,111,108,41,32,61,32]).length + c.length) 4611686018427387904)
(.br (Nat.ble ((((b ++ a) ++ [40,110,32,105,110,116,44,32,119,32,116,101,120,116,44,32,112,32,98,111,111,108,41,32,61,32]) ++ c).length + 2) 4611686018427387904)
(.run 0 qL0 (zms d h ((((b ++ a) ++ [40,110,32,105,110,116,44,32,119,32,116,101,120,116,44,32,112,32,98,111,111,108,41,32,61,32]) ++ c) ++ [59,32]) e (w64 (g + 1)))) .none) .none) .none) .none) := lM 4
theorem p19_39 {d h g e f c a b} : LM C o 19 qL27 4 (mk0 112 [vv 0 (.vs 1 d h),vt 3 f,vi 5 g,vt 12 c,vi 13 e,vt 92 f,vt 93 b,vi 94 g,vt 95 a]) (.br (Nat.ble (b.length + a.length) 4611686018427387904)
(.br (Nat.ble ((b ++ a).length + 26) 4611686018427387904)
(.br (Nat.ble (((b ++ a) ++ [40,110,32,105,110,116,44,32,119,32,116,101,120,116,44,32,112,32,98,111,111,108,41,32,61,32]).length + c.length) 4611686018427387904)
(.br (Nat.ble ((((b ++ a) ++ [40,110,32,105,110,116,44,32,119,32,116,101,120,116,44,32,112,32,98,111,111,108,41,32,61,32]) ++ c).length + 2) 4611686018427387904)
(.run 0 qL0 (zms d h ((((b ++ a) ++ [40,110,32,105,110,116,44,32,119,32,116,101,120,116,44,32,112,32,98,111,111,108,41,32,61,32]) ++ c) ++ [59,32]) e (w64 (g + 1)))) .none) .none) .none) .none) := lM 4
theorem p19_40 {d h g e f c a b} : LM C o 19 qL28 4 (mk0 112 [vv 0 (.vs 1 d h),vt 3 f,vi 5 g,vt 12 c,vi 13 e,vt 92 f,vt 93 b,vi 94 g,vt 95 a]) (.br (Nat.ble (b.length + a.length) 4611686018427387904)
(.br (Nat.ble ((b ++ a).length + 26) 4611686018427387904)
(.br (Nat.ble (((b ++ a) ++ [40,110,32,105,110,116,44,32,119,32,116,101,120,116,44,32,112,32,98,111,111,108,41,32,61,32]).length + c.length) 4611686018427387904)
(.br (Nat.ble ((((b ++ a) ++ [40,110,32,105,110,116,44,32,119,32,116,101,120,116,44,32,112,32,98,111,111,108,41,32,61,32]) ++ c).length + 2) 4611686018427387904)
(.run 0 qL0 (zms d h ((((b ++ a) ++ [40,110,32,105,110,116,44,32,119,32,116,101,120,116,44,32,112,32,98,111,111,108,41,32,61,32]) ++ c) ++ [59,32]) e (w64 (g + 1)))) .none) .none) .none) .none) := lM 4
theorem p19_41 {d h g e f c a b} : LM C o 19 qL29 4 (mk0 112 [vv 0 (.vs 1 d h),vt 3 f,vi 5 g,vt 12 c,vi 13 e,vt 92 f,vt 93 b,vi 94 g,vt 95 a]) (.br (Nat.ble (b.length + a.length) 4611686018427387904)
(.br (Nat.ble ((b ++ a).length + 26) 4611686018427387904)
(.br (Nat.ble (((b ++ a) ++ [40,110,32,105,110,116,44,32,119,32,116,101,120,116,44,32,112,32,98,111,111,108,41,32,61,32]).length + c.length) 4611686018427387904)
(.br (Nat.ble ((((b ++ a) ++ [40,110,32,105,110,116,44,32,119,32,116,101,120,116,44,32,112,32,98,111,111,108,41,32,61,32]) ++ c).length + 2) 4611686018427387904)
(.run 0 qL0 (zms d h ((((b ++ a) ++ [40,110,32,105,110,116,44,32,119,32,116,101,120,116,44,32,112,32,98,111,111,108,41,32,61,32]) ++ c) ++ [59,32]) e (w64 (g + 1)))) .none) .none) .none) .none) := lM 4
theorem p19_42 {d h g e f c b a} : LM C o 19 qL30 4 (mk0 112 [vv 0 (.vs 1 d h),vt 3 f,vi 5 g,vt 12 c,vi 13 e,vt 92 f,vt 93 a,vi 94 g,vt 95 b]) (.br (Nat.ble (a.length + b.length) 4611686018427387904)
(.br (Nat.ble ((a ++ b).length + 26) 4611686018427387904)
(.br (Nat.ble (((a ++ b) ++ [40,110,32,105,110,116,44,32,119,32,116,101,120,116,44,32,112,32,98,111,111,108,41,32,61,32]).length + c.length) 4611686018427387904)
(.br (Nat.ble ((((a ++ b) ++ [40,110,32,105,110,116,44,32,119,32,116,101,120,116,44,32,112,32,98,111,111,108,41,32,61,32]) ++ c).length + 2) 4611686018427387904)
(.run 0 qL0 (zms d h ((((a ++ b) ++ [40,110,32,105,110,116,44,32,119,32,116,101,120,116,44,32,112,32,98,111,111,108,41,32,61,32]) ++ c) ++ [59,32]) e (w64 (g + 1)))) .none) .none) .none) .none) := lM 4
theorem p19_43 {d h g e f c a b} : LM C o 19 qL31 4 (mk0 112 [vv 0 (.vs 1 d h),vt 3 f,vi 5 g,vt 12 c,vi 13 e,vt 92 f,vt 93 b,vi 94 g,vt 95 a]) (.br (Nat.ble (b.length + a.length) 4611686018427387904)
(.br (Nat.ble ((b ++ a).length + 26) 4611686018427387904)
(.br (Nat.ble (((b ++ a) ++ [40,110,32,105,110,116,44,32,119,32,116,101,120,116,44,32,112,32,98,111,111,108,41,32,61,32]).length + c.length) 4611686018427387904)
(.br (Nat.ble ((((b ++ a) ++ [40,110,32,105,110,116,44,32,119,32,116,101,120,116,44,32,112,32,98,111,111,108,41,32,61,32]) ++ c).length + 2) 4611686018427387904)
(.run 0 qL0 (zms d h ((((b ++ a) ++ [40,110,32,105,110,116,44,32,119,32,116,101,120,116,44,32,112,32,98,111,111,108,41,32,61,32]) ++ c) ++ [59,32]) e (w64 (g + 1)))) .none) .none) .none) .none) := lM 4
theorem p19_44 {d h g e f c a b} : LM C o 19 qL32 4 (mk0 112 [vv 0 (.vs 1 d h),vt 3 f,vi 5 g,vt 12 c,vi 13 e,vt 92 f,vt 93 b,vi 94 g,vt 95 a]) (.br (Nat.ble (b.length + a.length) 4611686018427387904)
(.br (Nat.ble ((b ++ a).length + 26) 4611686018427387904)
(.br (Nat.ble (((b ++ a) ++ [40,110,32,105,110,116,44,32,119,32,116,101,120,116,44,32,112,32,98,111,111,108,41,32,61,32]).length + c.length) 4611686018427387904)
(.br (Nat.ble ((((b ++ a) ++ [40,110,32,105,110,116,44,32,119,32,116,101,120,116,44,32,112,32,98,111,111,108,41,32,61,32]) ++ c).length + 2) 4611686018427387904)
(.run 0 qL0 (zms d h ((((b ++ a) ++ [40,110,32,105,110,116,44,32,119,32,116,101,120,116,44,32,112,32,98,111,111,108,41,32,61,32]) ++ c) ++ [59,32]) e (w64 (g + 1)))) .none) .none) .none) .none) := lM 4
end Go.Proofs.YtfdklpkfpmkgeaaGreatDoor
end
section
namespace Go.Proofs.YtfdklpkfpmkgeaaGreatDoor
open Go Go.Vai
attribute [local irreducible] goTo zao mkS
variable {C : Nat→Oracle} (hC : Ext C)
include hC
set_option maxHeartbeats 8000000 in
theorem zs8 (tg : Bool) (l : List Int) (hl : l.length ≤ 1000000) : ∀ (m : Nat) (i a : Int) (z : List UInt8),(4 - i).toNat = m→0 ≤ i→i ≤ 3→z.length ≤ 300 + i.toNat * 20000 →
  Was (RL C 19 [0,5,0,5,0,5,0,0,5,2,3] (mkS 112 [(0,.val (.vs 1 tg (ints l)) .no),(3,.val (.str z) .no),(4,.val (.int .i64 a) .no),(5,.val (.int .i64 i) .no)] [] Hp.none 0)) (QS 100000):=by
 intro m
 induction m with
 | zero=>intro i a s hm h0 h4; omega
 | succ m IH =>
  intro i a z hm h0 h4 hs;have w3 : w64 (i + 1) = i + 1 := zb0 (by omega) (by omega);refine exW (fun o=>p19_1) ?_;simp only [Tr.val,za2,AV.pure,za0,za1]
  repeat' (first
   | refine .bL (by first | omega | (simp only [List.length_append,List.length_cons,List.length_nil,List.length_drop,List.length_take]; omega)) ?_
   | refine .bT (by omega) ?_
   | refine .bF (by omega) ?_
   | (refine .call (w34 hC _ _ (by omega) _) ?_; rintro o ⟨x,e⟩; simp only [e,AV.pure,za0]; clear e)
   | (refine .call (w22 hC _ _ (by omega) (by omega)) ?_; rintro o ⟨x,e,h1,h2⟩; simp only [e,AV.pure,za0]; clear e)
   | (refine .call (w29 hC _) ?_; rintro o ⟨s,e,h1⟩; simp only [e,AV.pure,za0]; clear e)
   | (refine .call (w41 hC _ _ (by omega) _ _ _) ?_; rintro o ⟨s,x,e,h1⟩; simp only [e,AV.pure,za2,za0]; clear e)
   | (refine exW (fun o=>p19_2) ?_; simp only [Tr.val,za2,AV.pure,za0,AV.cells,za1,za3,Bool.not_true,Bool.not_false,w3])
   | (refine exW (fun o=>p19_3) ?_; simp only [Tr.val,za2,AV.pure,za0,AV.cells,za1,za3,Bool.not_true,Bool.not_false,w3])
   | (refine exW (fun o=>p19_4) ?_; simp only [Tr.val,za2,AV.pure,za0,AV.cells,za1,za3,Bool.not_true,Bool.not_false,w3])
   | (refine exW (fun o=>p19_5) ?_; simp only [Tr.val,za2,AV.pure,za0,AV.cells,za1,za3,Bool.not_true,Bool.not_false,w3])
   | (refine exW (fun o=>p19_6) ?_; simp only [Tr.val,za2,AV.pure,za0,AV.cells,za1,za3,Bool.not_true,Bool.not_false,w3])
   | (refine exW (fun o=>p19_7) ?_; simp only [Tr.val,za2,AV.pure,za0,AV.cells,za1,za3,Bool.not_true,Bool.not_false,w3])
   | (refine exW (fun o=>p19_8) ?_; simp only [Tr.val,za2,AV.pure,za0,AV.cells,za1,za3,Bool.not_true,Bool.not_false,w3])
   | (refine exW (fun o=>p19_9) ?_; simp only [Tr.val,za2,AV.pure,za0,AV.cells,za1,za3,Bool.not_true,Bool.not_false,w3])
   | (refine exW (fun o=>p19_10) ?_; simp only [Tr.val,za2,AV.pure,za0,AV.cells,za1,za3,Bool.not_true,Bool.not_false,w3])
   | (refine exW (fun o=>p19_11) ?_; simp only [Tr.val,za2,AV.pure,za0,AV.cells,za1,za3,Bool.not_true,Bool.not_false,w3])
   | (refine exW (fun o=>p19_12) ?_; simp only [Tr.val,za2,AV.pure,za0,AV.cells,za1,za3,Bool.not_true,Bool.not_false,w3])
   | (refine exW (fun o=>p19_13) ?_; simp only [Tr.val,za2,AV.pure,za0,AV.cells,za1,za3,Bool.not_true,Bool.not_false,w3])
   | (refine exW (fun o=>p19_14) ?_; simp only [Tr.val,za2,AV.pure,za0,AV.cells,za1,za3,Bool.not_true,Bool.not_false,w3])
   | (refine exW (fun o=>p19_15) ?_; simp only [Tr.val,za2,AV.pure,za0,AV.cells,za1,za3,Bool.not_true,Bool.not_false,w3])
   | (refine exW (fun o=>p19_16) ?_; simp only [Tr.val,za2,AV.pure,za0,AV.cells,za1,za3,Bool.not_true,Bool.not_false,w3])
   | (refine exW (fun o=>p19_17) ?_; simp only [Tr.val,za2,AV.pure,za0,AV.cells,za1,za3,Bool.not_true,Bool.not_false,w3])
   | (refine exW (fun o=>p19_18) ?_; simp only [Tr.val,za2,AV.pure,za0,AV.cells,za1,za3,Bool.not_true,Bool.not_false,w3])
   | (refine exW (fun o=>p19_19) ?_; simp only [Tr.val,za2,AV.pure,za0,AV.cells,za1,za3,Bool.not_true,Bool.not_false,w3])
   | (refine exW (fun o=>p19_20) ?_; simp only [Tr.val,za2,AV.pure,za0,AV.cells,za1,za3,Bool.not_true,Bool.not_false,w3])
   | (refine exW (fun o=>p19_21) ?_; simp only [Tr.val,za2,AV.pure,za0,AV.cells,za1,za3,Bool.not_true,Bool.not_false,w3])
   | (refine exW (fun o=>p19_22) ?_; simp only [Tr.val,za2,AV.pure,za0,AV.cells,za1,za3,Bool.not_true,Bool.not_false,w3])
   | (refine exW (fun o=>p19_23) ?_; simp only [Tr.val,za2,AV.pure,za0,AV.cells,za1,za3,Bool.not_true,Bool.not_false,w3])
   | (refine exW (fun o=>p19_24) ?_; simp only [Tr.val,za2,AV.pure,za0,AV.cells,za1,za3,Bool.not_true,Bool.not_false,w3])
   | (refine exW (fun o=>p19_25) ?_; simp only [Tr.val,za2,AV.pure,za0,AV.cells,za1,za3,Bool.not_true,Bool.not_false,w3])
   | (refine exW (fun o=>p19_26) ?_; simp only [Tr.val,za2,AV.pure,za0,AV.cells,za1,za3,Bool.not_true,Bool.not_false,w3])
   | (refine exW (fun o=>p19_27) ?_; simp only [Tr.val,za2,AV.pure,za0,AV.cells,za1,za3,Bool.not_true,Bool.not_false,w3])
   | (refine exW (fun o=>p19_28) ?_; simp only [Tr.val,za2,AV.pure,za0,AV.cells,za1,za3,Bool.not_true,Bool.not_false,w3])
   | (refine exW (fun o=>p19_29) ?_; simp only [Tr.val,za2,AV.pure,za0,AV.cells,za1,za3,Bool.not_true,Bool.not_false,w3])
   | (refine exW (fun o=>p19_30) ?_; simp only [Tr.val,za2,AV.pure,za0,AV.cells,za1,za3,Bool.not_true,Bool.not_false,w3])
   | (refine exW (fun o=>p19_31) ?_; simp only [Tr.val,za2,AV.pure,za0,AV.cells,za1,za3,Bool.not_true,Bool.not_false,w3])
   | (refine exW (fun o=>p19_32) ?_; simp only [Tr.val,za2,AV.pure,za0,AV.cells,za1,za3,Bool.not_true,Bool.not_false,w3])
   | (refine exW (fun o=>p19_33) ?_; simp only [Tr.val,za2,AV.pure,za0,AV.cells,za1,za3,Bool.not_true,Bool.not_false,w3])
   | (refine exW (fun o=>p19_34) ?_; simp only [Tr.val,za2,AV.pure,za0,AV.cells,za1,za3,Bool.not_true,Bool.not_false,w3])
   | (refine exW (fun o=>p19_35) ?_; simp only [Tr.val,za2,AV.pure,za0,AV.cells,za1,za3,Bool.not_true,Bool.not_false,w3])
   | (refine exW (fun o=>p19_36) ?_; simp only [Tr.val,za2,AV.pure,za0,AV.cells,za1,za3,Bool.not_true,Bool.not_false,w3])
   | (refine exW (fun o=>p19_37) ?_; simp only [Tr.val,za2,AV.pure,za0,AV.cells,za1,za3,Bool.not_true,Bool.not_false,w3])
   | (refine exW (fun o=>p19_38) ?_; simp only [Tr.val,za2,AV.pure,za0,AV.cells,za1,za3,Bool.not_true,Bool.not_false,w3])
   | (refine exW (fun o=>p19_39) ?_; simp only [Tr.val,za2,AV.pure,za0,AV.cells,za1,za3,Bool.not_true,Bool.not_false,w3])
   | (refine exW (fun o=>p19_40) ?_; simp only [Tr.val,za2,AV.pure,za0,AV.cells,za1,za3,Bool.not_true,Bool.not_false,w3])
   | (refine exW (fun o=>p19_41) ?_; simp only [Tr.val,za2,AV.pure,za0,AV.cells,za1,za3,Bool.not_true,Bool.not_false,w3])
   | (refine exW (fun o=>p19_42) ?_; simp only [Tr.val,za2,AV.pure,za0,AV.cells,za1,za3,Bool.not_true,Bool.not_false,w3])
   | (refine exW (fun o=>p19_43) ?_; simp only [Tr.val,za2,AV.pure,za0,AV.cells,za1,za3,Bool.not_true,Bool.not_false,w3])
   | (refine exW (fun o=>p19_44) ?_; simp only [Tr.val,za2,AV.pure,za0,AV.cells,za1,za3,Bool.not_true,Bool.not_false,w3])
   | (refine .nth (B := 20) rfl (by simp only [List.length_cons,List.length_nil]; omega) fun s hs=>?_; simp only [AV.cells])
   | exact .mk ⟨_,rfl,by first | omega | (simp only [List.length_append,List.length_cons,List.length_nil,List.length_drop,List.length_take]; omega)⟩
   | refine .dec (fun h=>?_) (fun h=>?_)
   | refine .both (fun h=>?_) (fun h=>?_))
  all_goals exact IH _ _ _ (by omega) (by omega) (by omega) (by first | omega | (simp only [List.length_append,List.length_cons,List.length_nil]; omega))
theorem w19 (tg : Bool) (l : List Int) (hl : l.length ≤ 1000000) : Was (calL C 19 [.vs 1 tg (ints l)] Hp.none 0) (QS 100000):=by
 refine exW (fun o=>p19_c hC) (exW (fun o=>p19_0) ?_);exact zs8 hC tg l hl _ 0 0 _ rfl (by decide) (by decide) (by decide)
end Go.Proofs.YtfdklpkfpmkgeaaGreatDoor
end
section
namespace Go.Proofs.YtfdklpkfpmkgeaaGreatDoor
open Go Go.Vai
attribute [local irreducible] goTo zao mkS
set_option maxHeartbeats 40000000
set_option linter.unusedSectionVars false
theorem fin_err {p : PS} (h : p.fin.err = 0) : p.err = 0:=by
 unfold PS.fin at h;split at h
 ·exact h
 ·exact absurd h (PS.fail_err _ _ (by decide))
theorem dgq_av (l : List (Int × Int)) : l.map pAV = (l.map dgq).map Dg.av:=by
 rw [List.map_map];rfl
theorem dgp_dgq (l : List (Int × Int)) : (l.map dgq).map dgp = l:=by
 rw [List.map_map];exact List.map_id _
structure OrdD (N : Nat) (L : List Dg) : Prop where
 len : L.length ≤ 1000000
 R : ∀ d ∈ L,InR N d.at_∧1 ≤ d.err∧d.err ≤ 100
 lt : (L.map dgp).Pairwise ltP
theorem OrdD.prev {N : Nat} {L : List Dg} (h : OrdD N L) {i : Nat} {x d : Dg} (h1 : L[i]? = some x) (h2 : L[i + 1]? = some d) : x.at_ < d.at_ ∨ (x.at_ = d.at_∧x.err < d.err):=by
 obtain ⟨a1,a2⟩ := List.getElem?_eq_some_iff.1 h1;obtain ⟨b1,b2⟩ := List.getElem?_eq_some_iff.1 h2;have := List.pairwise_iff_getElem.1 h.lt i (i + 1) (by rw [List.length_map]; exact a1) (by rw [List.length_map]; exact b1) (by omega);rw [List.getElem_map,List.getElem_map,a2,b2] at this;exact this
variable {C : Nat→Oracle} (hC : Ext C)
include hC
theorem w20f (src : List UInt8) : Was (calL C 20 [.str src] Hp.none 0) (fun o=>∃ tg ts x e,o.v = .tuple [.agg [.vs 6 tg (ts.map Typ.av)],.int .i64 x,.int .i64 e]∧(e = 0→(∀ t ∈ ts,WfT t)∧ts.length + zhv ts ≤ 100000∧DgsR src.length (chkD ts)∧src.length ≤ 4000)):=by
 by_cases hl : src.length ≤ 4000
 ·obtain ⟨f,r,h⟩ := pa_tot hl;refine ⟨_,l20 hC hl h,?_⟩;simp only [paO];split
  ·rename_i he;obtain ⟨a1,a2⟩ := pa_chk hl h;exact ⟨r.1.1,r.1.2,0,0,rfl,fun _=>⟨a1,a2,chkD_R ((pa_at hl h).2 (fin_err he)),hl⟩⟩
  ·rename_i he;exact ⟨true,[],_,_,rfl,fun h=>absurd h he⟩
 ·exact ⟨_,l20_long hC hl,true,[],0,3,rfl,fun h=>by cases h⟩
variable (haw : Was (calL C 14 [] Hp.none 0) QT)
include haw
abbrev p4A : List Nat := [0,5,0,0,5,5,0,5,0,0,5,5,0,5,0,0,5,5,0,5,0,0,5,2,3]
abbrev p4B : List Nat := [0,5,0,0,5,5,0,5,0,0,5,5,0,5,0,0,5,5,0,5,0,0,5,2,3,0,0,5,5,0,2,0,5,5]
theorem w4_loop (s : List UInt8) (L : List Dg) (hO : OrdD s.length L) (tL tg : Bool) (ts : List Typ) : ∀ (r : List Dg) (i : Nat),L.drop i = r→i ≤ L.length →
  Was (RL C 4 p4A (mkS 108 [(5,.val (.str s) .no),(9,.val (.vs 2 tL (L.map Dg.av)) .no),(10,.val (.int .i64 (i : Int)) .no)] [(6,⟨[(.vs 6 tg (ts.map Typ.av))],[]⟩)] Hp.none 0)) QT:=by
 have hL := hO.len;intro r
 induction r with
 | nil =>
  intro i hi hil;have := zak _ _ hil hi;refine exW (fun o=>p4_12) ?_;simp only [Tr.val,List.length_map];refine .bF (by omega) ?_;refine exW (fun o=>p4_14) ?_;simp only [Tr.val,AV.pure,za2,za0];refine .call haw ?_;rintro o e;unfold QT at e;simp only [e,AV.pure,za0];refine exW (fun o=>p4_16) ?_;exact .mk rfl
 | cons d r ih =>
  intro i hi hil;obtain ⟨h1,h2,h3⟩ := zav _ _ hi;obtain ⟨⟨g1,g2⟩,g3,g4⟩ := hO.R d (List.mem_of_getElem? h1);have go : ∀ c : Bool,Was (RL C 4 p4B (mkS 108 [(5,.val (.str s) .no),(9,.val (.vs 2 tL (L.map Dg.av)) .no),(10,.val (.int .i64 (i : Int)) .no),(106,.val (.bool c) .no)] [(6,⟨[(.vs 6 tg (ts.map Typ.av))],[]⟩)] Hp.none 0)) QT := fun c=>by
   refine exW (fun o=>p4_20) ?_;simp only [Tr.val];rw [wi64 h3 hL];exact ih (i + 1) h2 (by omega)
  refine exW (fun o=>p4_12) ?_;simp only [Tr.val,List.length_map];refine .bT (by omega) ?_;refine exW (fun o=>p4_13) ?_;simp only [Tr.val,List.length_map,Int.toNat_natCast,zam,h1,Option.map_some,Option.bind_some,Dg.av_cs,zah];refine .bT (by omega) (.bT (by omega) ?_);refine exW (fun o=>p4_15) ?_;simp only [Tr.val,List.length_map,Int.toNat_natCast,zam,h1,Option.map_some,Option.bind_some,Dg.av_cs,zah];refine .bF (by omega) (.bT (by omega) (.bT (by omega) ?_));refine exW (fun o=>p4_17) ?_;simp only [Tr.val,List.length_map,Int.toNat_natCast,zam,h1,Option.map_some,Option.bind_some,Dg.av_cs,zah];refine .bF (by omega) (.bT (by omega) (.bT (by omega) ?_));refine exW (fun o=>p4_18) ?_;simp only [Tr.val,List.length_map,Int.toNat_natCast,zam,h1,Option.map_some,Option.bind_some,Dg.av_cs,zah];refine .bF (by omega) ?_;cases i with
  | zero=>exact .bF (by decide) (go false)
  | succ j =>
   refine .bT (by omega) (.bT (by omega) (.bT (by omega) ?_));have hj : j < L.length := by omega
   obtain ⟨x,hx⟩ : ∃ x,L[j]? = some x := ⟨_,List.getElem?_eq_getElem hj⟩;have hlt := hO.prev hx h1;have hw : w64 (((j + 1 : Nat) : Int) - 1) = (j : Int) := by rw [zb0 (by omega) (by omega)]; omega
   refine exW (fun o=>p4_19) ?_;simp only [Tr.val,hw,List.length_map,Int.toNat_natCast,zam,hx,Option.map_some,Option.bind_some,Dg.av_cs,zah];refine .bT (by omega) (.bT (by omega) ?_);refine exW (fun o=>p4_21) ?_;simp only [Tr.val,List.length_map,Int.toNat_natCast,zam,h1,Option.map_some,Option.bind_some,Dg.av_cs,zah];refine .bF (by omega) (.bT (by omega) (.bT (by omega) ?_));refine exW (fun o=>p4_22) ?_;simp only [Tr.val,hw,List.length_map,Int.toNat_natCast,zam,hx,Option.map_some,Option.bind_some,Dg.av_cs,zah];refine .bT (by omega) (.bT (by omega) ?_);refine exW (fun o=>p4_23) ?_;simp only [Tr.val,List.length_map,Int.toNat_natCast,zam,h1,Option.map_some,Option.bind_some,Dg.av_cs,zah];refine .dec (fun he=>?_) fun he=>go false;refine .bT (by omega) (.bT (by omega) ?_);refine exW (fun o=>p4_24) ?_;simp only [Tr.val,hw,List.length_map,Int.toNat_natCast,zam,hx,Option.map_some,Option.bind_some,Dg.av_cs,zah];refine .bT (by omega) (.bT (by omega) ?_);refine exW (fun o=>p4_25) ?_;simp only [Tr.val];exact .bF (by omega) (go false)
theorem w4_chk (s : List UInt8) (c : Bool) (tg : Bool) (ts : List Typ) (hw : ∀ t ∈ ts,WfT t) (hb : ts.length + zhv ts ≤ 100000) (hD : DgsR s.length (chkD ts)) (hs : s.length ≤ 4000) :
  Was (RL C 4 [0,5,0,0,5,5,0,5,0,0,5,5,0,5,0,0,5,5] (mkS 108 [(5,.val (.str s) .no),(6,.lp 6 0),(27,.val (.bool c) .no)] [(6,⟨[(.vs 6 tg (List.map Typ.av ts))],[]⟩)] Hp.none 0)) QT:=by
 have h21 := w21 hC tg ts (by omega) hw (by omega) (hD.ok (by omega));rw [dgq_av] at h21;refine exW (fun o=>p4_10) ?_;simp only [Tr.val,AV.pure,za2,za7,za0];refine .call h21 ?_;rintro o e;simp only [e,AV.pure,zad,za0];clear e;refine exW (fun o=>p4_11) ?_;simp only [Tr.val];refine w4_loop hC haw s _ ⟨?_,fun d hd=>?_,?_⟩ false tg ts _ 0 rfl (Nat.zero_le _)
 ·have d2 : ∀ r : List Typ,(zit r).length ≤ zhv r := fun r=>by
   induction r with
   | nil=>exact Nat.le_refl _
   | cons t r ih =>
    have := zm1 t;rw [zit,zhv,List.length_append];omega
  have d3 := d2 ts;have d1 := zbx (ts.map nmT) [];have d4 := zpq (zfo ((chkD ts).map dgp));rw [zgs,List.length_map] at d4;rw [List.length_map] at d1;rw [List.length_map];have d5 : (chkD ts).length = (dupD [] (ts.map nmT)).length + (zit ts).length := List.length_append;show (ddP (zfo ((chkD ts).map dgp))).length ≤ _;omega
 ·obtain ⟨p,hp,rfl⟩ := List.mem_map.1 hd;exact srtP_at hD p hp
 ·rw [dgp_dgq];exact srtP_lt _
theorem w4 (tg : Bool) (l : List Int) (b : Bool) : Was (calL C 4 [.vs 1 tg (ints l),.bool b] Hp.none 0) QT:=by
 refine exW (fun o=>p4_c hC) (exW (fun o=>p4_0) ?_);simp only [Tr.val,za3,AV.pure,za2,za0];refine .dec (fun h=>?_) fun h=>?_
 ·refine .call haw ?_;rintro o e;unfold QT at e;simp only [e,AV.pure,za0];refine exW (fun o=>p4_1) ?_;exact .mk rfl
 ·have h0 : l.length ≤ 1000000 := by omega
  refine exW (fun o=>p4_2) ?_;simp only [Tr.val,AV.pure,za2,za1,za0];refine .call (w18 hC tg l h0) ?_;rintro o ⟨s,e,hs⟩;simp only [e,AV.pure,za0];clear e;refine exW (fun o=>p4_3) ?_;simp only [Tr.val,AV.pure,za2,za1,za0];cases b
  ·simp only [zaw];refine exW (fun o=>p4_5) ?_;simp only [Tr.val,AV.pure,za2,za0];refine .call (w20f hC s) ?_;rintro o ⟨tg',ts,x,e',e,hts⟩;simp only [e,AV.pure,za2,za7,za0];clear e;refine exW (fun o=>p4_7) ?_;simp only [Tr.val,AV.pure,za2,za0];refine .ndec (fun he=>?_) fun he=>?_
   ·refine .call haw ?_;rintro o e;unfold QT at e;simp only [e,AV.pure,za0];refine exW (fun o=>p4_9) ?_;exact .mk rfl
   ·obtain ⟨a1,a2,a3,a4⟩ := hts he;exact w4_chk hC haw s false tg' ts a1 a2 a3 a4
  ·simp only [za0];refine .call (w19 hC tg l h0) ?_;rintro o ⟨s',e,hs'⟩;simp only [e,AV.pure,za0];clear e;refine exW (fun o=>p4_4) ?_;simp only [Tr.val];refine exW (fun o=>p4_6) ?_;simp only [Tr.val,AV.pure,za2,za0];refine .call (w20f hC s') ?_;rintro o ⟨tg',ts,x,e',e,hts⟩;simp only [e,AV.pure,za2,za7,za0];clear e;refine exW (fun o=>p4_8) ?_;simp only [Tr.val,AV.pure,za2,za0];refine .ndec (fun he=>?_) fun he=>?_
   ·refine .call haw ?_;rintro o e;unfold QT at e;simp only [e,AV.pure,za0];refine exW (fun o=>p4_9) ?_;exact .mk rfl
   ·obtain ⟨a1,a2,a3,a4⟩ := hts he;exact w4_chk hC haw s' false tg' ts a1 a2 a3 a4
end Go.Proofs.YtfdklpkfpmkgeaaGreatDoor
end
