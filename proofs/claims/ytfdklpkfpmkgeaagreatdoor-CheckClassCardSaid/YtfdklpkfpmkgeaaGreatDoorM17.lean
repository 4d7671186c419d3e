/- Typed expressions of generated sources. -/
import Derived.ProofKit
import Derived.SizedLaws
import Derived.LaidHandle
import Derived.LaidMore
import Derived.Deep.Strs
import Derived.OpenShut
import Derived.Test.YtfdklpkfpmkgeaaGreatDoorM7
import Derived.Test.YtfdklpkfpmkgeaaGreatDoorM13
import Derived.Test.YtfdklpkfpmkgeaaGreatDoorM14
import Derived.Test.YtfdklpkfpmkgeaaGreatDoorM15
import Derived.Test.YtfdklpkfpmkgeaaGreatDoorM16
set_option linter.unusedSimpArgs false
set_option linter.unusedVariables false
set_option linter.unusedSectionVars false
set_option linter.unnecessarySimpa false
section
namespace Go.Proofs.YtfdklpkfpmkgeaaGreatDoor
open Go Go.Vai
attribute [local irreducible] goTo bodyOf mkS
variable {C : Nat→Oracle} (hC : Ext C)
include hC
set_option maxHeartbeats 8000000 in
theorem step41 (tg : Bool) (l : List Int) (hl : l.length ≤ 1000000) (q : Bool) (B : Nat) (hB : B ≤ 100000) (d : Int) (hd : 0 ≤ d∧d ≤ 4) (ih : d ≤ 3→∀ a ty : Int,Was (calL C 41 [.vs 1 tg (ints l),.int .i64 a,.int .i64 ty,.int .i64 (d + 1),.bool q] Hp.none 0) (QP B)) (a ty : Int) :
  Was (calL C 41 [.vs 1 tg (ints l),.int .i64 a,.int .i64 ty,.int .i64 d,.bool q] Hp.none 0) (QP (2 * B + 50)):=by
 have w1 : IntKind.wrap .i64 (d + 1) = d + 1 := wrap64 (by omega) (by omega)
 refine exW (fun o=>p41_c hC) (exW (fun o=>p41_0) ?_)
 simp only [Tr.val,pureL,AV.pure,br_true,pure_ints]
 refine .call (w34 hC _ _ (by omega) _) ?_
 rintro o ⟨n,e⟩
 simp only [e,AV.pure,br_true]
 refine exW (fun o=>p41_1) ?_
 simp only [Tr.val,pureL,AV.pure,br_true,pure_ints]
 refine .call (w22 hC _ _ (by omega) (by omega)) ?_
 rintro o ⟨x,e,h1,h2⟩
 simp only [e,AV.pure,br_true]
 refine exW (fun o=>p41_2) ?_
 simp only [Tr.val,pureL,AV.pure,br_true,pure_ints]
 obtain ⟨v,hv,hv0,hv1⟩ : ∃ v : Int,IntKind.wrap .i64 (Int.tdiv x 16) = v∧0 ≤ v∧v ≤ 1099511627776:=by
  refine ⟨_,rfl,?_⟩
  rw [Int.tdiv_eq_ediv_of_nonneg h1,wrap64 (by omega) (by omega)]
  omega
 simp only [hv]
 have f1 : Int.tmod v 2 = v % 2 := Int.tmod_eq_emod_of_nonneg hv0
 have f2 : Int.tmod v 3 = v % 3 := Int.tmod_eq_emod_of_nonneg hv0
 have f3 : IntKind.wrap .i64 (Int.tdiv v 2) = v / 2 := by rw [Int.tdiv_eq_ediv_of_nonneg hv0,wrap64 (by omega) (by omega)]
 have f4 : IntKind.wrap .i64 (Int.tdiv v 3) = v / 3 := by rw [Int.tdiv_eq_ediv_of_nonneg hv0,wrap64 (by omega) (by omega)]
 have f5 : Int.tmod (v / 2) 4 = v / 2 % 4 := Int.tmod_eq_emod_of_nonneg (by omega)
 have f6 : Int.tmod (v / 2) 5 = v / 2 % 5 := Int.tmod_eq_emod_of_nonneg (by omega)
 have f7 : Int.tmod (v / 2) 6 = v / 2 % 6 := Int.tmod_eq_emod_of_nonneg (by omega)
 have f8 : Int.tmod (v / 3) 3 = v / 3 % 3 := Int.tmod_eq_emod_of_nonneg (by omega)
 clear hv e
 repeat' (first
  | refine .bL (by first | omega | (simp only [List.length_append,List.length_cons,List.length_nil,List.length_drop,List.length_take]; omega)) ?_
  | refine .bT (by omega) ?_
  | refine .bF (by omega) ?_
  | (refine .call (w34 hC _ _ (by omega) _) ?_; rintro o ⟨x,e⟩; simp only [e,AV.pure,br_true]; clear e)
  | (refine .call (w22 hC _ _ (by omega) (by omega)) ?_; rintro o ⟨x,e,h1,h2⟩; simp only [e,AV.pure,br_true]; clear e)
  | (refine .call (ih (by omega) _ _) ?_; rintro o ⟨s,x,e,h1⟩; simp only [e,AV.pure,pureL,br_true]; clear e)
  | (refine exW (fun o=>p41_3) ?_; simp only [Tr.val,pureL,AV.pure,br_true,AV.cells,pure_ints,len_ints,Bool.not_true,Bool.not_false,w1,f1,f2,f3,f4,f5,f6,f7,f8])
  | (refine exW (fun o=>p41_4) ?_; simp only [Tr.val,pureL,AV.pure,br_true,AV.cells,pure_ints,len_ints,Bool.not_true,Bool.not_false,w1,f1,f2,f3,f4,f5,f6,f7,f8])
  | (refine exW (fun o=>p41_5) ?_; simp only [Tr.val,pureL,AV.pure,br_true,AV.cells,pure_ints,len_ints,Bool.not_true,Bool.not_false,w1,f1,f2,f3,f4,f5,f6,f7,f8])
  | (refine exW (fun o=>p41_6) ?_; simp only [Tr.val,pureL,AV.pure,br_true,AV.cells,pure_ints,len_ints,Bool.not_true,Bool.not_false,w1,f1,f2,f3,f4,f5,f6,f7,f8])
  | (refine exW (fun o=>p41_7) ?_; simp only [Tr.val,pureL,AV.pure,br_true,AV.cells,pure_ints,len_ints,Bool.not_true,Bool.not_false,w1,f1,f2,f3,f4,f5,f6,f7,f8])
  | (refine exW (fun o=>p41_8) ?_; simp only [Tr.val,pureL,AV.pure,br_true,AV.cells,pure_ints,len_ints,Bool.not_true,Bool.not_false,w1,f1,f2,f3,f4,f5,f6,f7,f8])
  | (refine exW (fun o=>p41_9) ?_; simp only [Tr.val,pureL,AV.pure,br_true,AV.cells,pure_ints,len_ints,Bool.not_true,Bool.not_false,w1,f1,f2,f3,f4,f5,f6,f7,f8])
  | (refine exW (fun o=>p41_10) ?_; simp only [Tr.val,pureL,AV.pure,br_true,AV.cells,pure_ints,len_ints,Bool.not_true,Bool.not_false,w1,f1,f2,f3,f4,f5,f6,f7,f8])
  | (refine exW (fun o=>p41_11) ?_; simp only [Tr.val,pureL,AV.pure,br_true,AV.cells,pure_ints,len_ints,Bool.not_true,Bool.not_false,w1,f1,f2,f3,f4,f5,f6,f7,f8])
  | (refine exW (fun o=>p41_12) ?_; simp only [Tr.val,pureL,AV.pure,br_true,AV.cells,pure_ints,len_ints,Bool.not_true,Bool.not_false,w1,f1,f2,f3,f4,f5,f6,f7,f8])
  | (refine exW (fun o=>p41_13) ?_; simp only [Tr.val,pureL,AV.pure,br_true,AV.cells,pure_ints,len_ints,Bool.not_true,Bool.not_false,w1,f1,f2,f3,f4,f5,f6,f7,f8])
  | (refine exW (fun o=>p41_14) ?_; simp only [Tr.val,pureL,AV.pure,br_true,AV.cells,pure_ints,len_ints,Bool.not_true,Bool.not_false,w1,f1,f2,f3,f4,f5,f6,f7,f8])
  | (refine exW (fun o=>p41_15) ?_; simp only [Tr.val,pureL,AV.pure,br_true,AV.cells,pure_ints,len_ints,Bool.not_true,Bool.not_false,w1,f1,f2,f3,f4,f5,f6,f7,f8])
  | (refine exW (fun o=>p41_16) ?_; simp only [Tr.val,pureL,AV.pure,br_true,AV.cells,pure_ints,len_ints,Bool.not_true,Bool.not_false,w1,f1,f2,f3,f4,f5,f6,f7,f8])
  | (refine exW (fun o=>p41_17) ?_; simp only [Tr.val,pureL,AV.pure,br_true,AV.cells,pure_ints,len_ints,Bool.not_true,Bool.not_false,w1,f1,f2,f3,f4,f5,f6,f7,f8])
  | (refine exW (fun o=>p41_18) ?_; simp only [Tr.val,pureL,AV.pure,br_true,AV.cells,pure_ints,len_ints,Bool.not_true,Bool.not_false,w1,f1,f2,f3,f4,f5,f6,f7,f8])
  | (refine exW (fun o=>p41_19) ?_; simp only [Tr.val,pureL,AV.pure,br_true,AV.cells,pure_ints,len_ints,Bool.not_true,Bool.not_false,w1,f1,f2,f3,f4,f5,f6,f7,f8])
  | (refine exW (fun o=>p41_20) ?_; simp only [Tr.val,pureL,AV.pure,br_true,AV.cells,pure_ints,len_ints,Bool.not_true,Bool.not_false,w1,f1,f2,f3,f4,f5,f6,f7,f8])
  | (refine exW (fun o=>p41_21) ?_; simp only [Tr.val,pureL,AV.pure,br_true,AV.cells,pure_ints,len_ints,Bool.not_true,Bool.not_false,w1,f1,f2,f3,f4,f5,f6,f7,f8])
  | (refine exW (fun o=>p41_22) ?_; simp only [Tr.val,pureL,AV.pure,br_true,AV.cells,pure_ints,len_ints,Bool.not_true,Bool.not_false,w1,f1,f2,f3,f4,f5,f6,f7,f8])
  | (refine exW (fun o=>p41_23) ?_; simp only [Tr.val,pureL,AV.pure,br_true,AV.cells,pure_ints,len_ints,Bool.not_true,Bool.not_false,w1,f1,f2,f3,f4,f5,f6,f7,f8])
  | (refine exW (fun o=>p41_24) ?_; simp only [Tr.val,pureL,AV.pure,br_true,AV.cells,pure_ints,len_ints,Bool.not_true,Bool.not_false,w1,f1,f2,f3,f4,f5,f6,f7,f8])
  | (refine exW (fun o=>p41_25) ?_; simp only [Tr.val,pureL,AV.pure,br_true,AV.cells,pure_ints,len_ints,Bool.not_true,Bool.not_false,w1,f1,f2,f3,f4,f5,f6,f7,f8])
  | (refine exW (fun o=>p41_26) ?_; simp only [Tr.val,pureL,AV.pure,br_true,AV.cells,pure_ints,len_ints,Bool.not_true,Bool.not_false,w1,f1,f2,f3,f4,f5,f6,f7,f8])
  | (refine exW (fun o=>p41_27) ?_; simp only [Tr.val,pureL,AV.pure,br_true,AV.cells,pure_ints,len_ints,Bool.not_true,Bool.not_false,w1,f1,f2,f3,f4,f5,f6,f7,f8])
  | (refine exW (fun o=>p41_28) ?_; simp only [Tr.val,pureL,AV.pure,br_true,AV.cells,pure_ints,len_ints,Bool.not_true,Bool.not_false,w1,f1,f2,f3,f4,f5,f6,f7,f8])
  | (refine exW (fun o=>p41_29) ?_; simp only [Tr.val,pureL,AV.pure,br_true,AV.cells,pure_ints,len_ints,Bool.not_true,Bool.not_false,w1,f1,f2,f3,f4,f5,f6,f7,f8])
  | (refine exW (fun o=>p41_30) ?_; simp only [Tr.val,pureL,AV.pure,br_true,AV.cells,pure_ints,len_ints,Bool.not_true,Bool.not_false,w1,f1,f2,f3,f4,f5,f6,f7,f8])
  | (refine exW (fun o=>p41_31) ?_; simp only [Tr.val,pureL,AV.pure,br_true,AV.cells,pure_ints,len_ints,Bool.not_true,Bool.not_false,w1,f1,f2,f3,f4,f5,f6,f7,f8])
  | (refine exW (fun o=>p41_32) ?_; simp only [Tr.val,pureL,AV.pure,br_true,AV.cells,pure_ints,len_ints,Bool.not_true,Bool.not_false,w1,f1,f2,f3,f4,f5,f6,f7,f8])
  | (refine exW (fun o=>p41_33) ?_; simp only [Tr.val,pureL,AV.pure,br_true,AV.cells,pure_ints,len_ints,Bool.not_true,Bool.not_false,w1,f1,f2,f3,f4,f5,f6,f7,f8])
  | (refine exW (fun o=>p41_34) ?_; simp only [Tr.val,pureL,AV.pure,br_true,AV.cells,pure_ints,len_ints,Bool.not_true,Bool.not_false,w1,f1,f2,f3,f4,f5,f6,f7,f8])
  | (refine exW (fun o=>p41_35) ?_; simp only [Tr.val,pureL,AV.pure,br_true,AV.cells,pure_ints,len_ints,Bool.not_true,Bool.not_false,w1,f1,f2,f3,f4,f5,f6,f7,f8])
  | (refine exW (fun o=>p41_36) ?_; simp only [Tr.val,pureL,AV.pure,br_true,AV.cells,pure_ints,len_ints,Bool.not_true,Bool.not_false,w1,f1,f2,f3,f4,f5,f6,f7,f8])
  | (refine exW (fun o=>p41_37) ?_; simp only [Tr.val,pureL,AV.pure,br_true,AV.cells,pure_ints,len_ints,Bool.not_true,Bool.not_false,w1,f1,f2,f3,f4,f5,f6,f7,f8])
  | (refine exW (fun o=>p41_38) ?_; simp only [Tr.val,pureL,AV.pure,br_true,AV.cells,pure_ints,len_ints,Bool.not_true,Bool.not_false,w1,f1,f2,f3,f4,f5,f6,f7,f8])
  | (refine exW (fun o=>p41_39) ?_; simp only [Tr.val,pureL,AV.pure,br_true,AV.cells,pure_ints,len_ints,Bool.not_true,Bool.not_false,w1,f1,f2,f3,f4,f5,f6,f7,f8])
  | (refine exW (fun o=>p41_40) ?_; simp only [Tr.val,pureL,AV.pure,br_true,AV.cells,pure_ints,len_ints,Bool.not_true,Bool.not_false,w1,f1,f2,f3,f4,f5,f6,f7,f8])
  | (refine exW (fun o=>p41_41) ?_; simp only [Tr.val,pureL,AV.pure,br_true,AV.cells,pure_ints,len_ints,Bool.not_true,Bool.not_false,w1,f1,f2,f3,f4,f5,f6,f7,f8])
  | (refine exW (fun o=>p41_42) ?_; simp only [Tr.val,pureL,AV.pure,br_true,AV.cells,pure_ints,len_ints,Bool.not_true,Bool.not_false,w1,f1,f2,f3,f4,f5,f6,f7,f8])
  | (refine exW (fun o=>p41_43) ?_; simp only [Tr.val,pureL,AV.pure,br_true,AV.cells,pure_ints,len_ints,Bool.not_true,Bool.not_false,w1,f1,f2,f3,f4,f5,f6,f7,f8])
  | (refine exW (fun o=>p41_44) ?_; simp only [Tr.val,pureL,AV.pure,br_true,AV.cells,pure_ints,len_ints,Bool.not_true,Bool.not_false,w1,f1,f2,f3,f4,f5,f6,f7,f8])
  | (refine exW (fun o=>p41_45) ?_; simp only [Tr.val,pureL,AV.pure,br_true,AV.cells,pure_ints,len_ints,Bool.not_true,Bool.not_false,w1,f1,f2,f3,f4,f5,f6,f7,f8])
  | (refine .nth (B := 20) rfl (by simp only [List.length_cons,List.length_nil]; omega) fun s hs=>?_; simp only [AV.cells])
  | exact .mk ⟨_,_,rfl,by first | omega | (simp only [List.length_append,List.length_cons,List.length_nil,List.length_drop,List.length_take]; omega)⟩
  | refine .dec (fun h=>?_) (fun h=>?_)
  | refine .both (fun h=>?_) (fun h=>?_))
theorem w41 (tg : Bool) (l : List Int) (hl : l.length ≤ 1000000) (a ty : Int) (q : Bool) : Was (calL C 41 [.vs 1 tg (ints l),.int .i64 a,.int .i64 ty,.int .i64 0,.bool q] Hp.none 0) (QP 3000):=by
 have s4 := step41 hC tg l hl q 0 (by decide) 4 (by decide) (fun h=>absurd h (by decide))
 have s3 := step41 hC tg l hl q _ (by decide) 3 (by decide) (fun _=>s4)
 have s2 := step41 hC tg l hl q _ (by decide) 2 (by decide) (fun _=>s3)
 have s1 := step41 hC tg l hl q _ (by decide) 1 (by decide) (fun _=>s2)
 have s0 := step41 hC tg l hl q _ (by decide) 0 (by decide) (fun _=>s1)
 exact (s0 a ty).imp fun o ⟨s,x,e1,e2⟩=>⟨s,x,e1,Nat.le_trans e2 (by decide)⟩
end Go.Proofs.YtfdklpkfpmkgeaaGreatDoor
end
section
namespace Go.Proofs.YtfdklpkfpmkgeaaGreatDoor
open Go Go.Vai
attribute [local irreducible] goTo bodyOf mkS
variable {C : Nat → Oracle} {o : Out}
abbrev cL0 : AV := (.vs 1 true [(.str [105,110,100,101,120,32,111,119,110,101,114,59,32]),(.str [105,110,100,101,120,32,116,97,103,115,59,32]),(.str [105,110,100,101,120,32,97,59,32]),(.str [])])
abbrev qL0 : List Nat := [0,5,0,5,0,5,0,0,5,2,3]
abbrev qL1 : List Nat := [0,5,0,5,0,5,0,0,5,2,3,0,0,5,7,5,5,5,5,0]
abbrev qL2 : List Nat := [0,5,0,5,0,5,0,0,5,2,3,0,0,5,6,5,0,2,0,5,0]
abbrev qL3 : List Nat := [0,5,0,5,0,5,0,0,5,2,3,0,0,5,6,5,0,2,0,5,0,5,0,5,0,5,0,0,5,2,0,5,6,0,5,0,5,6,5,5,0,5,0,5,0]
abbrev qL4 : List Nat := [0,5,0,5,0,5,0,0,5,2,3,0,0,5,6,5,0,2,0,5,0,5,0,5,0,5,0,0,5,2,0,5,6,0,5,0,5,7,5,5,0,5,0,5,0]
abbrev qL5 : List Nat := [0,5,0,5,0,5,0,0,5,2,3,0,0,5,6,5,0,2,0,5,0,5,0,5,0,5,0,0,5,2,0,5,7,0,5,6,5,5,0,5,0,5,0]
abbrev qL6 : List Nat := [0,5,0,5,0,5,0,0,5,2,3,0,0,5,6,5,0,2,0,5,0,5,0,5,0,5,0,0,5,2,0,5,7,0,5,7,0,5,6,5,5,0,5,0,5,0]
abbrev qL7 : List Nat := [0,5,0,5,0,5,0,0,5,2,3,0,0,5,6,5,0,2,0,5,0,5,0,5,0,5,0,0,5,2,0,5,7,0,5,7,0,5,7,0,5,6,5,5,0,5,0,5,0]
abbrev qL8 : List Nat := [0,5,0,5,0,5,0,0,5,2,3,0,0,5,6,5,0,2,0,5,0,5,0,5,0,5,0,0,5,2,0,5,7,0,5,7,0,5,7,0,5,7,0,5,6,5,5,0,5,0,5,0]
abbrev qL9 : List Nat := [0,5,0,5,0,5,0,0,5,2,3,0,0,5,6,5,0,2,0,5,0,5,0,5,0,5,0,0,5,2,0,5,7,0,5,7,0,5,7,0,5,7,0,5,7,5,5,0,5,0,5,0]
abbrev qL10 : List Nat := [0,5,0,5,0,5,0,0,5,2,3,0,0,5,6,5,0,2,0,5,0,5,0]
abbrev qL11 : List Nat := [0,5,0,5,0,5,0,0,5,2,3,0,0,5,6,5,0,2,0,5,0,5,0,5,0,5,0,0]
abbrev qL12 : List Nat := [0,5,0,5,0,5,0,0,5,2,3,0,0,5,6,5,0,2,0,5,0,5,0,5,0,5,0,0,5,2,0,5,6,0,5,0,5,6,5,5,0]
abbrev qL13 : List Nat := [0,5,0,5,0,5,0,0,5,2,3,0,0,5,6,5,0,2,0,5,0,5,0,5,0,5,0,0,5,2,0,5,6,0,5,0,5,7,5,5,0]
abbrev qL14 : List Nat := [0,5,0,5,0,5,0,0,5,2,3,0,0,5,6,5,0,2,0,5,0,5,0,5,0,5,0,0,5,2,0,5,7,0,5,6,5,5,0]
abbrev qL15 : List Nat := [0,5,0,5,0,5,0,0,5,2,3,0,0,5,6,5,0,2,0,5,0,5,0,5,0,5,0,0,5,2,0,5,7,0,5,7,0,5,6,5,5,0]
abbrev qL16 : List Nat := [0,5,0,5,0,5,0,0,5,2,3,0,0,5,6,5,0,2,0,5,0,5,0,5,0,5,0,0,5,2,0,5,7,0,5,7,0,5,7,0,5,6,5,5,0]
abbrev qL17 : List Nat := [0,5,0,5,0,5,0,0,5,2,3,0,0,5,6,5,0,2,0,5,0,5,0,5,0,5,0,0,5,2,0,5,7,0,5,7,0,5,7,0,5,7,0,5,6,5,5,0]
abbrev qL18 : List Nat := [0,5,0,5,0,5,0,0,5,2,3,0,0,5,6,5,0,2,0,5,0,5,0,5,0,5,0,0,5,2,0,5,7,0,5,7,0,5,7,0,5,7,0,5,7,5,5,0]
abbrev qL19 : List Nat := [0,5,0,5,0,5,0,0,5,2,3,0,0,5,6,5,0,2,0,5,0,5,0,5,0,5,0,0,5,2,0,5,6,0,5,0,5,6,5,5,0,5,0]
abbrev qL20 : List Nat := [0,5,0,5,0,5,0,0,5,2,3,0,0,5,6,5,0,2,0,5,0,5,0,5,0,5,0,0,5,2,0,5,6,0,5,0,5,7,5,5,0,5,0]
abbrev qL21 : List Nat := [0,5,0,5,0,5,0,0,5,2,3,0,0,5,6,5,0,2,0,5,0,5,0,5,0,5,0,0,5,2,0,5,7,0,5,6,5,5,0,5,0]
abbrev qL22 : List Nat := [0,5,0,5,0,5,0,0,5,2,3,0,0,5,6,5,0,2,0,5,0,5,0,5,0,5,0,0,5,2,0,5,7,0,5,7,0,5,6,5,5,0,5,0]
abbrev qL23 : List Nat := [0,5,0,5,0,5,0,0,5,2,3,0,0,5,6,5,0,2,0,5,0,5,0,5,0,5,0,0,5,2,0,5,7,0,5,7,0,5,7,0,5,6,5,5,0,5,0]
abbrev qL24 : List Nat := [0,5,0,5,0,5,0,0,5,2,3,0,0,5,6,5,0,2,0,5,0,5,0,5,0,5,0,0,5,2,0,5,7,0,5,7,0,5,7,0,5,7,0,5,6,5,5,0,5,0]
abbrev qL25 : List Nat := [0,5,0,5,0,5,0,0,5,2,3,0,0,5,6,5,0,2,0,5,0,5,0,5,0,5,0,0,5,2,0,5,7,0,5,7,0,5,7,0,5,7,0,5,7,5,5,0,5,0]
abbrev qL26 : List Nat := [0,5,0,5,0,5,0,0,5,2,3,0,0,5,6,5,0,2,0,5,0,5,0,5,0,5,0,0,5,2,0,5,6,0,5,0,5,6,5,5,0,5,0,5,0,5,0]
abbrev qL27 : List Nat := [0,5,0,5,0,5,0,0,5,2,3,0,0,5,6,5,0,2,0,5,0,5,0,5,0,5,0,0,5,2,0,5,6,0,5,0,5,7,5,5,0,5,0,5,0,5,0]
abbrev qL28 : List Nat := [0,5,0,5,0,5,0,0,5,2,3,0,0,5,6,5,0,2,0,5,0,5,0,5,0,5,0,0,5,2,0,5,7,0,5,6,5,5,0,5,0,5,0,5,0]
abbrev qL29 : List Nat := [0,5,0,5,0,5,0,0,5,2,3,0,0,5,6,5,0,2,0,5,0,5,0,5,0,5,0,0,5,2,0,5,7,0,5,7,0,5,6,5,5,0,5,0,5,0,5,0]
abbrev qL30 : List Nat := [0,5,0,5,0,5,0,0,5,2,3,0,0,5,6,5,0,2,0,5,0,5,0,5,0,5,0,0,5,2,0,5,7,0,5,7,0,5,7,0,5,6,5,5,0,5,0,5,0,5,0]
abbrev qL31 : List Nat := [0,5,0,5,0,5,0,0,5,2,3,0,0,5,6,5,0,2,0,5,0,5,0,5,0,5,0,0,5,2,0,5,7,0,5,7,0,5,7,0,5,7,0,5,6,5,5,0,5,0,5,0,5,0]
abbrev qL32 : List Nat := [0,5,0,5,0,5,0,0,5,2,3,0,0,5,6,5,0,2,0,5,0,5,0,5,0,5,0,0,5,2,0,5,7,0,5,7,0,5,7,0,5,7,0,5,7,5,5,0,5,0,5,0,5,0]
theorem p19_c (hC : Ext C) {tg_1 : Bool} {l_2 : List AV} (ho : RL C 19 [] (mk0 112 [vv 0 (.vs 1 tg_1 l_2)]) = some o) : calL C 19 [(.vs 1 tg_1 l_2)] Hp.none 0 = some o := hC.call rfl (fun _ _ => by kernel_rfl) ho
theorem p19_0 {tg_1 : Bool} {l_2 : List AV} (ho : Tr.val C 19
 (.run 0 qL0 (mk0 112 [vv 0 (.vs 1 tg_1 l_2),vt 3 [116,121,112,101,32,116,32,123,32,114,101,103,105,115,116,101,114,32,111,119,110,101,114,32,116,101,120,116,59,32,114,101,103,105,115,116,101,114,32,97,32,105,110,116,59,32,99,111,117,110,116,101,114,32,98,59,32,109,97,120,32,99,59,32,115,101,116,32,116,97,103,115,59,32,102,108,97,103,32,120,49,59,32],vi 4 0,vi 5 0])) = some o) : RL C 19 [] (mk0 112 [vv 0 (.vs 1 tg_1 l_2)]) = some o := stR C 11 (fun _ _ => by kernel_rfl) ho
theorem p19_1 {tg_3 : Bool} {l_4 : List AV} {s_5 : List UInt8} {x_6 x_7 : Int} (ho : Tr.val C 19
 (.br (decide (x_7 < 3))
 (cl0 34 [(.vs 1 tg_3 l_4),(.int .i64 x_6)] fun r1 => .br (AV.pure r1.v)
 (.mid 0 [0,5,0,5,0,5,0,0,5,2,3,0,0,5,6,5,0,2,0] 3 (mk0 112 [vv 0 (.vs 1 tg_3 l_4),vt 3 s_5,vi 4 x_6,vi 5 x_7,vb 15 true,vv 18 (.vs 1 tg_3 l_4),vi 19 x_6,vv 20 r1.v])) .none)
 (cl0 34 [(.vs 1 tg_3 l_4),(.int .i64 x_6)] fun r2 => .br (AV.pure r2.v)
 (.mid 2 qL1 5 (mkS 112 [vv 0 (.vs 1 tg_3 l_4),vt 3 s_5,vi 4 x_6,vi 5 x_7,vb 15 false,vt 102 s_5,vv 103 cL0,vv 104 (.vs 1 tg_3 l_4),vi 105 x_6,vv 106 r2.v] [] Hp.none 0)) .none)) = some o) : RL C 19 qL0 (mk0 112 [vv 0 (.vs 1 tg_3 l_4),vt 3 s_5,vi 4 x_6,vi 5 x_7]) = some o := stR C 9 (fun _ _ => by kernel_rfl) ho
theorem p19_2 {tg_3 : Bool} {l_4 : List AV} {s_5 : List UInt8} {x_6 x_7 x_8 : Int} (ho : Tr.val C 19
 (cl0 22 [(.int .i64 x_8),(.int .i64 3)] fun r3 => .br (AV.pure r3.v)
 (.mid 0 qL2 5 (mk0 112 [vv 0 (.vs 1 tg_3 l_4),vt 3 s_5,vi 4 x_6,vi 5 x_7,vi 6 x_8,vv 22 (.vs 1 tg_3 l_4),vi 23 x_6,vi 24 (IntKind.wrap .i64 (x_6 + 1)),vi 25 x_8,vv 26 r3.v])) .none) = some o) : ML C 19 [0,5,0,5,0,5,0,0,5,2,3,0,0,5,6,5,0,2,0] 3 (mk0 112 [vv 0 (.vs 1 tg_3 l_4),vt 3 s_5,vi 4 x_6,vi 5 x_7,vb 15 true,vv 18 (.vs 1 tg_3 l_4),vi 19 x_6,vi 20 x_8]) = some o := stM C 2 (fun _ _ => by kernel_rfl) ho
theorem p19_3 {tg_3 : Bool} {l_4 : List AV} {s_5 : List UInt8} {x_6 x_7 x_9 : Int} (ho : Tr.val C 19
 (cl0 22 [(.int .i64 x_9),(.int .i64 4)] fun r4 => .br (AV.pure r4.v)
 (.mid 0 qL1 6 (mkS 112 [vv 0 (.vs 1 tg_3 l_4),vt 3 s_5,vi 4 x_6,vi 5 x_7,vb 15 false,vt 102 s_5,vv 103 cL0,vv 104 (.vs 1 tg_3 l_4),vi 105 x_6,vi 106 x_9,vv 107 r4.v] [] Hp.none 0)) .none) = some o) : ML C 19 qL1 5 (mkS 112 [vv 0 (.vs 1 tg_3 l_4),vt 3 s_5,vi 4 x_6,vi 5 x_7,vb 15 false,vt 102 s_5,vv 103 cL0,vv 104 (.vs 1 tg_3 l_4),vi 105 x_6,vi 106 x_9] [] Hp.none 0) = some o := stM C 0 (fun _ _ => by kernel_rfl) ho
theorem p19_4 {tg_3 : Bool} {l_4 : List AV} {s_5 : List UInt8} {x_6 x_7 x_8 x_10 x_11 : Int} (ho : Tr.val C 19
 (cl0 41 [(.vs 1 tg_3 l_4),(.int .i64 x_11),(.int .i64 (IntKind.wrap .i64 (x_10 + 1))),(.int .i64 0),(.bool false)] fun r5 => .br (AV.pure r5.v)
 (.mid 0 qL2 7 (mk0 112 [vv 0 (.vs 1 tg_3 l_4),vt 3 s_5,vi 4 x_6,vi 5 x_7,vi 6 x_8,vv 22 (.vs 1 tg_3 l_4),vi 23 x_6,vi 24 x_11,vi 25 x_8,vi 26 x_10,vi 27 (IntKind.wrap .i64 (x_10 + 1)),vv 28 r5.v])) .none) = some o) : ML C 19 qL2 5 (mk0 112 [vv 0 (.vs 1 tg_3 l_4),vt 3 s_5,vi 4 x_6,vi 5 x_7,vi 6 x_8,vv 22 (.vs 1 tg_3 l_4),vi 23 x_6,vi 24 x_11,vi 25 x_8,vi 26 x_10]) = some o := stM C 0 (fun _ _ => by kernel_rfl) ho
theorem p19_5 {tg_3 : Bool} {l_4 : List AV} {s_5 : List UInt8} {x_6 x_7 x_9 x_12 : Int} (ho : Tr.val C 19
 (.br (decide ((0 : Int) ≤ x_12))
 (.br (decide (x_12 < 4))
 (.bind (nth [(.str [105,110,100,101,120,32,111,119,110,101,114,59,32]),(.str [105,110,100,101,120,32,116,97,103,115,59,32]),(.str [105,110,100,101,120,32,97,59,32]),(.str [])] (Int.toNat x_12)) fun c6 =>
 (.mid 0 qL1 7 (mkS 112 [vv 0 (.vs 1 tg_3 l_4),vt 3 s_5,vi 4 x_6,vi 5 x_7,vb 15 false,vt 102 s_5,vv 103 cL0,vv 104 (.vs 1 tg_3 l_4),vi 105 x_6,vi 106 x_9,vi 107 x_12,vv 108 (.cptr (AV.cells c6))] [] Hp.none 0)))
 .none)
 .none) = some o) : ML C 19 qL1 6 (mkS 112 [vv 0 (.vs 1 tg_3 l_4),vt 3 s_5,vi 4 x_6,vi 5 x_7,vb 15 false,vt 102 s_5,vv 103 cL0,vv 104 (.vs 1 tg_3 l_4),vi 105 x_6,vi 106 x_9,vi 107 x_12] [] Hp.none 0) = some o := stM C 0 (fun _ _ => by kernel_rfl) ho
theorem p19_6 {tg_3 : Bool} {l_4 : List AV} {s_5 s_13 : List UInt8} {x_6 x_7 x_8 x_10 x_11 x_14 x_15 : Int} (ho : Tr.val C 19
 (cl0 22 [(.int .i64 x_8),(.int .i64 3)] fun r7 => .br (AV.pure r7.v)
 (.mid 0 qL10 2 (mk0 112 [vv 0 (.vs 1 tg_3 l_4),vt 3 s_5,vi 5 x_7,vi 6 x_8,vt 7 s_13,vi 8 x_14,vi 31 x_8,vv 32 r7.v])) .none) = some o) : ML C 19 qL2 7 (mk0 112 [vv 0 (.vs 1 tg_3 l_4),vt 3 s_5,vi 4 x_6,vi 5 x_7,vi 6 x_8,vv 22 (.vs 1 tg_3 l_4),vi 23 x_6,vi 24 x_11,vi 25 x_8,vi 26 x_10,vi 27 x_15,vv 28 (.tuple [(.str s_13),(i6 x_14)])]) = some o := stM C 2 (fun _ _ => by kernel_rfl) ho
theorem p19_7 {tg_3 : Bool} {l_4 : List AV} {s_5 s_16 : List UInt8} {x_6 x_7 x_9 x_12 : Int} (ho : Tr.val C 19
 (.br (Nat.ble ((List.length s_5) + (List.length s_16)) 4611686018427387904)
 (.br (Nat.ble ((List.length (s_5 ++ s_16)) + 1) 4611686018427387904)
 (.ret ⟨(.str ((s_5 ++ s_16) ++ [125])),Hp.none,0⟩)
 .none)
 .none) = some o) : ML C 19 qL1 7 (mkS 112 [vv 0 (.vs 1 tg_3 l_4),vt 3 s_5,vi 4 x_6,vi 5 x_7,vb 15 false,vt 102 s_5,vv 103 cL0,vv 104 (.vs 1 tg_3 l_4),vi 105 x_6,vi 106 x_9,vi 107 x_12,vv 108 (.cptr [(.str s_16)])] [] Hp.none 0) = some o := stM C 1 (fun _ _ => by kernel_rfl) ho
theorem p19_8 {tg_3 : Bool} {l_4 : List AV} {s_5 s_13 : List UInt8} {x_7 x_8 x_14 x_17 : Int} (ho : Tr.val C 19
 (cl0 22 [(.int .i64 (IntKind.wrap .i64 (Int.tdiv x_8 3))),(.int .i64 6)] fun r8 => .br (AV.pure r8.v)
 (.mid 0 qL11 3 (mk0 112 [vv 0 (.vs 1 tg_3 l_4),vt 3 s_5,vi 5 x_7,vi 6 x_8,vt 7 s_13,vi 8 x_14,vi 9 (IntKind.wrap .i64 (x_17 + 1)),vi 34 x_8,vi 35 (IntKind.wrap .i64 (Int.tdiv x_8 3)),vv 36 r8.v])) .none) = some o) : ML C 19 qL10 2 (mk0 112 [vv 0 (.vs 1 tg_3 l_4),vt 3 s_5,vi 5 x_7,vi 6 x_8,vt 7 s_13,vi 8 x_14,vi 31 x_8,vi 32 x_17]) = some o := stM C 5 (fun _ _ => by kernel_rfl) ho
theorem p19_9 {tg_3 : Bool} {l_4 : List AV} {s_5 s_13 : List UInt8} {x_7 x_8 x_14 x_18 x_19 x_20 : Int} (ho : Tr.val C 19
 (.br (decide (x_18 = 0))
 (.br (Nat.ble (10 + (List.length s_13)) 4611686018427387904)
 (.br (Nat.ble ((List.length ([119,114,105,116,101,32,97,32,61,32] ++ s_13)) + 1) 4611686018427387904)
 (.br (decide (x_19 = 2))
 (.br (Nat.ble (14 + (List.length s_13)) 4611686018427387904)
 (.br (Nat.ble ((List.length ([119,114,105,116,101,32,111,119,110,101,114,32,61,32] ++ s_13)) + 1) 4611686018427387904)
 (.br (Nat.ble ((List.length s_5) + 4) 4611686018427387904)
 (cl0 29 [(.int .i64 x_7)] fun r9 => .br (AV.pure r9.v)
 (.mid 7 qL12 4 (mk0 112 [vv 0 (.vs 1 tg_3 l_4),vt 3 s_5,vi 5 x_7,vi 8 x_14,vt 10 (([119,114,105,116,101,32,111,119,110,101,114,32,61,32] ++ s_13) ++ [59]),vt 70 s_5,vt 71 (s_5 ++ [111,112,32,102]),vi 72 x_7,vv 73 r9.v])) .none)
 .none)
 .none)
 .none)
 (.br (Nat.ble ((List.length s_5) + 4) 4611686018427387904)
 (cl0 29 [(.int .i64 x_7)] fun r10 => .br (AV.pure r10.v)
 (.mid 7 qL13 4 (mk0 112 [vv 0 (.vs 1 tg_3 l_4),vt 3 s_5,vi 5 x_7,vt 7 s_13,vi 8 x_14,vt 10 (([119,114,105,116,101,32,97,32,61,32] ++ s_13) ++ [59]),vb 46 false,vt 70 s_5,vt 71 (s_5 ++ [111,112,32,102]),vi 72 x_7,vv 73 r10.v])) .none)
 .none))
 .none)
 .none)
 (.br (decide (x_18 = 1))
 (.br (Nat.ble (8 + (List.length s_13)) 4611686018427387904)
 (.br (Nat.ble ((List.length ([97,100,100,32,98,32,61,32] ++ s_13)) + 14) 4611686018427387904)
 (.br (Nat.ble ((List.length s_5) + 4) 4611686018427387904)
 (cl0 29 [(.int .i64 x_7)] fun r11 => .br (AV.pure r11.v)
 (.mid 9 qL14 4 (mk0 112 [vv 0 (.vs 1 tg_3 l_4),vt 3 s_5,vi 5 x_7,vi 8 x_14,vt 10 (([97,100,100,32,98,32,61,32] ++ s_13) ++ [59,32,114,97,105,115,101,32,99,32,61,32,110,59]),vt 70 s_5,vt 71 (s_5 ++ [111,112,32,102]),vi 72 x_7,vv 73 r11.v])) .none)
 .none)
 .none)
 .none)
 (.br (decide (x_18 = 2))
 (.br (Nat.ble (14 + (List.length s_13)) 4611686018427387904)
 (.br (Nat.ble ((List.length ([105,110,115,101,114,116,32,116,97,103,115,32,61,32] ++ s_13)) + 10) 4611686018427387904)
 (.br (Nat.ble ((List.length s_5) + 4) 4611686018427387904)
 (cl0 29 [(.int .i64 x_7)] fun r12 => .br (AV.pure r12.v)
 (.mid 6 qL15 4 (mk0 112 [vv 0 (.vs 1 tg_3 l_4),vt 3 s_5,vi 5 x_7,vi 8 x_14,vt 10 (([105,110,115,101,114,116,32,116,97,103,115,32,61,32] ++ s_13) ++ [59,32,109,97,114,107,32,120,49,59]),vt 70 s_5,vt 71 (s_5 ++ [111,112,32,102]),vi 72 x_7,vv 73 r12.v])) .none)
 .none)
 .none)
 .none)
 (.br (decide (x_18 = 3))
 (.br (Nat.ble (3 + (List.length s_13)) 4611686018427387904)
 (.br (Nat.ble ((List.length ([105,102,32] ++ s_13)) + 13) 4611686018427387904)
 (.br (Nat.ble ((List.length s_5) + 4) 4611686018427387904)
 (cl0 29 [(.int .i64 x_7)] fun r13 => .br (AV.pure r13.v)
 (.mid 3 qL16 4 (mk0 112 [vv 0 (.vs 1 tg_3 l_4),vt 3 s_5,vi 5 x_7,vi 8 x_14,vt 10 (([105,102,32] ++ s_13) ++ [32,123,32,109,97,114,107,32,120,49,59,32,125]),vt 70 s_5,vt 71 (s_5 ++ [111,112,32,102]),vi 72 x_7,vv 73 r13.v])) .none)
 .none)
 .none)
 .none)
 (.br (decide (x_18 = 4))
 (.br (Nat.ble (3 + (List.length s_13)) 4611686018427387904)
 (.br (Nat.ble ((List.length ([105,102,32] ++ s_13)) + 54) 4611686018427387904)
 (.br (Nat.ble ((List.length s_5) + 4) 4611686018427387904)
 (cl0 29 [(.int .i64 x_7)] fun r14 => .br (AV.pure r14.v)
 (.mid 0 qL17 4 (mk0 112 [vv 0 (.vs 1 tg_3 l_4),vt 3 s_5,vi 5 x_7,vi 8 x_14,vt 10 (([105,102,32] ++ s_13) ++ [32,123,32,97,100,100,32,98,32,61,32,110,59,32,125,32,101,108,115,101,32,123,32,105,110,115,101,114,116,32,116,97,103,115,32,61,32,119,59,32,114,97,105,115,101,32,99,32,61,32,51,59,32,125]),vt 70 s_5,vt 71 (s_5 ++ [111,112,32,102]),vi 72 x_7,vv 73 r14.v])) .none)
 .none)
 .none)
 .none)
 (.br (Nat.ble (17 + (List.length s_13)) 4611686018427387904)
 (.br (Nat.ble ((List.length ([109,97,114,107,32,120,49,59,32,97,100,100,32,98,32,61,32] ++ s_13)) + 1) 4611686018427387904)
 (.br (Nat.ble ((List.length s_5) + 4) 4611686018427387904)
 (cl0 29 [(.int .i64 x_7)] fun r15 => .br (AV.pure r15.v)
 (.mid 0 qL18 4 (mk0 112 [vv 0 (.vs 1 tg_3 l_4),vt 3 s_5,vi 5 x_7,vi 8 x_14,vt 10 (([109,97,114,107,32,120,49,59,32,97,100,100,32,98,32,61,32] ++ s_13) ++ [59]),vt 70 s_5,vt 71 (s_5 ++ [111,112,32,102]),vi 72 x_7,vv 73 r15.v])) .none)
 .none)
 .none)
 .none)))))) = some o) : ML C 19 qL11 3 (mk0 112 [vv 0 (.vs 1 tg_3 l_4),vt 3 s_5,vi 5 x_7,vi 6 x_8,vt 7 s_13,vi 8 x_14,vi 9 x_19,vi 34 x_8,vi 35 x_20,vi 36 x_18]) = some o := stM C 20 (fun _ _ => by kernel_rfl) ho
theorem p19_10 {tg_3 : Bool} {l_4 : List AV} {s_5 s_21 s_22 s_23 : List UInt8} {x_7 x_14 : Int} (ho : Tr.val C 19
 (.br (Nat.ble ((List.length s_23) + (List.length s_21)) 4611686018427387904)
 (.br (Nat.ble ((List.length (s_23 ++ s_21)) + 26) 4611686018427387904)
 (.br (Nat.ble ((List.length ((s_23 ++ s_21) ++ [40,110,32,105,110,116,44,32,119,32,116,101,120,116,44,32,112,32,98,111,111,108,41,32,123,32])) + (List.length s_22)) 4611686018427387904)
 (.br (Nat.ble ((List.length (((s_23 ++ s_21) ++ [40,110,32,105,110,116,44,32,119,32,116,101,120,116,44,32,112,32,98,111,111,108,41,32,123,32]) ++ s_22)) + 3) 4611686018427387904)
 (cl0 34 [(.vs 1 tg_3 l_4),(.int .i64 x_14)] fun r16 => .br (AV.pure r16.v)
 (.mid 0 qL19 3 (mk0 112 [vv 0 (.vs 1 tg_3 l_4),vt 3 ((((s_23 ++ s_21) ++ [40,110,32,105,110,116,44,32,119,32,116,101,120,116,44,32,112,32,98,111,111,108,41,32,123,32]) ++ s_22) ++ [32,125,32]),vi 5 x_7,vi 8 x_14,vv 79 (.vs 1 tg_3 l_4),vi 80 x_14,vv 81 r16.v])) .none)
 .none)
 .none)
 .none)
 .none) = some o) : ML C 19 qL12 4 (mk0 112 [vv 0 (.vs 1 tg_3 l_4),vt 3 s_5,vi 5 x_7,vi 8 x_14,vt 10 s_22,vt 70 s_5,vt 71 s_23,vi 72 x_7,vt 73 s_21]) = some o := stM C 2 (fun _ _ => by kernel_rfl) ho
theorem p19_11 {tg_3 : Bool} {l_4 : List AV} {s_5 s_13 s_24 s_25 s_26 : List UInt8} {x_7 x_14 : Int} (ho : Tr.val C 19
 (.br (Nat.ble ((List.length s_26) + (List.length s_24)) 4611686018427387904)
 (.br (Nat.ble ((List.length (s_26 ++ s_24)) + 26) 4611686018427387904)
 (.br (Nat.ble ((List.length ((s_26 ++ s_24) ++ [40,110,32,105,110,116,44,32,119,32,116,101,120,116,44,32,112,32,98,111,111,108,41,32,123,32])) + (List.length s_25)) 4611686018427387904)
 (.br (Nat.ble ((List.length (((s_26 ++ s_24) ++ [40,110,32,105,110,116,44,32,119,32,116,101,120,116,44,32,112,32,98,111,111,108,41,32,123,32]) ++ s_25)) + 3) 4611686018427387904)
 (cl0 34 [(.vs 1 tg_3 l_4),(.int .i64 x_14)] fun r17 => .br (AV.pure r17.v)
 (.mid 0 qL20 3 (mk0 112 [vv 0 (.vs 1 tg_3 l_4),vt 3 ((((s_26 ++ s_24) ++ [40,110,32,105,110,116,44,32,119,32,116,101,120,116,44,32,112,32,98,111,111,108,41,32,123,32]) ++ s_25) ++ [32,125,32]),vi 5 x_7,vi 8 x_14,vv 79 (.vs 1 tg_3 l_4),vi 80 x_14,vv 81 r17.v])) .none)
 .none)
 .none)
 .none)
 .none) = some o) : ML C 19 qL13 4 (mk0 112 [vv 0 (.vs 1 tg_3 l_4),vt 3 s_5,vi 5 x_7,vt 7 s_13,vi 8 x_14,vt 10 s_25,vb 46 false,vt 70 s_5,vt 71 s_26,vi 72 x_7,vt 73 s_24]) = some o := stM C 2 (fun _ _ => by kernel_rfl) ho
theorem p19_12 {tg_3 : Bool} {l_4 : List AV} {s_5 s_27 s_28 s_29 : List UInt8} {x_7 x_14 : Int} (ho : Tr.val C 19
 (.br (Nat.ble ((List.length s_29) + (List.length s_27)) 4611686018427387904)
 (.br (Nat.ble ((List.length (s_29 ++ s_27)) + 26) 4611686018427387904)
 (.br (Nat.ble ((List.length ((s_29 ++ s_27) ++ [40,110,32,105,110,116,44,32,119,32,116,101,120,116,44,32,112,32,98,111,111,108,41,32,123,32])) + (List.length s_28)) 4611686018427387904)
 (.br (Nat.ble ((List.length (((s_29 ++ s_27) ++ [40,110,32,105,110,116,44,32,119,32,116,101,120,116,44,32,112,32,98,111,111,108,41,32,123,32]) ++ s_28)) + 3) 4611686018427387904)
 (cl0 34 [(.vs 1 tg_3 l_4),(.int .i64 x_14)] fun r18 => .br (AV.pure r18.v)
 (.mid 0 qL21 3 (mk0 112 [vv 0 (.vs 1 tg_3 l_4),vt 3 ((((s_29 ++ s_27) ++ [40,110,32,105,110,116,44,32,119,32,116,101,120,116,44,32,112,32,98,111,111,108,41,32,123,32]) ++ s_28) ++ [32,125,32]),vi 5 x_7,vi 8 x_14,vv 79 (.vs 1 tg_3 l_4),vi 80 x_14,vv 81 r18.v])) .none)
 .none)
 .none)
 .none)
 .none) = some o) : ML C 19 qL14 4 (mk0 112 [vv 0 (.vs 1 tg_3 l_4),vt 3 s_5,vi 5 x_7,vi 8 x_14,vt 10 s_28,vt 70 s_5,vt 71 s_29,vi 72 x_7,vt 73 s_27]) = some o := stM C 2 (fun _ _ => by kernel_rfl) ho
theorem p19_13 {tg_3 : Bool} {l_4 : List AV} {s_5 s_30 s_31 s_32 : List UInt8} {x_7 x_14 : Int} (ho : Tr.val C 19
 (.br (Nat.ble ((List.length s_32) + (List.length s_30)) 4611686018427387904)
 (.br (Nat.ble ((List.length (s_32 ++ s_30)) + 26) 4611686018427387904)
 (.br (Nat.ble ((List.length ((s_32 ++ s_30) ++ [40,110,32,105,110,116,44,32,119,32,116,101,120,116,44,32,112,32,98,111,111,108,41,32,123,32])) + (List.length s_31)) 4611686018427387904)
 (.br (Nat.ble ((List.length (((s_32 ++ s_30) ++ [40,110,32,105,110,116,44,32,119,32,116,101,120,116,44,32,112,32,98,111,111,108,41,32,123,32]) ++ s_31)) + 3) 4611686018427387904)
 (cl0 34 [(.vs 1 tg_3 l_4),(.int .i64 x_14)] fun r19 => .br (AV.pure r19.v)
 (.mid 0 qL22 3 (mk0 112 [vv 0 (.vs 1 tg_3 l_4),vt 3 ((((s_32 ++ s_30) ++ [40,110,32,105,110,116,44,32,119,32,116,101,120,116,44,32,112,32,98,111,111,108,41,32,123,32]) ++ s_31) ++ [32,125,32]),vi 5 x_7,vi 8 x_14,vv 79 (.vs 1 tg_3 l_4),vi 80 x_14,vv 81 r19.v])) .none)
 .none)
 .none)
 .none)
 .none) = some o) : ML C 19 qL15 4 (mk0 112 [vv 0 (.vs 1 tg_3 l_4),vt 3 s_5,vi 5 x_7,vi 8 x_14,vt 10 s_31,vt 70 s_5,vt 71 s_32,vi 72 x_7,vt 73 s_30]) = some o := stM C 2 (fun _ _ => by kernel_rfl) ho
theorem p19_14 {tg_3 : Bool} {l_4 : List AV} {s_5 s_33 s_34 s_35 : List UInt8} {x_7 x_14 : Int} (ho : Tr.val C 19
 (.br (Nat.ble ((List.length s_35) + (List.length s_33)) 4611686018427387904)
 (.br (Nat.ble ((List.length (s_35 ++ s_33)) + 26) 4611686018427387904)
 (.br (Nat.ble ((List.length ((s_35 ++ s_33) ++ [40,110,32,105,110,116,44,32,119,32,116,101,120,116,44,32,112,32,98,111,111,108,41,32,123,32])) + (List.length s_34)) 4611686018427387904)
 (.br (Nat.ble ((List.length (((s_35 ++ s_33) ++ [40,110,32,105,110,116,44,32,119,32,116,101,120,116,44,32,112,32,98,111,111,108,41,32,123,32]) ++ s_34)) + 3) 4611686018427387904)
 (cl0 34 [(.vs 1 tg_3 l_4),(.int .i64 x_14)] fun r20 => .br (AV.pure r20.v)
 (.mid 0 qL23 3 (mk0 112 [vv 0 (.vs 1 tg_3 l_4),vt 3 ((((s_35 ++ s_33) ++ [40,110,32,105,110,116,44,32,119,32,116,101,120,116,44,32,112,32,98,111,111,108,41,32,123,32]) ++ s_34) ++ [32,125,32]),vi 5 x_7,vi 8 x_14,vv 79 (.vs 1 tg_3 l_4),vi 80 x_14,vv 81 r20.v])) .none)
 .none)
 .none)
 .none)
 .none) = some o) : ML C 19 qL16 4 (mk0 112 [vv 0 (.vs 1 tg_3 l_4),vt 3 s_5,vi 5 x_7,vi 8 x_14,vt 10 s_34,vt 70 s_5,vt 71 s_35,vi 72 x_7,vt 73 s_33]) = some o := stM C 2 (fun _ _ => by kernel_rfl) ho
theorem p19_15 {tg_3 : Bool} {l_4 : List AV} {s_5 s_36 s_37 s_38 : List UInt8} {x_7 x_14 : Int} (ho : Tr.val C 19
 (.br (Nat.ble ((List.length s_38) + (List.length s_36)) 4611686018427387904)
 (.br (Nat.ble ((List.length (s_38 ++ s_36)) + 26) 4611686018427387904)
 (.br (Nat.ble ((List.length ((s_38 ++ s_36) ++ [40,110,32,105,110,116,44,32,119,32,116,101,120,116,44,32,112,32,98,111,111,108,41,32,123,32])) + (List.length s_37)) 4611686018427387904)
 (.br (Nat.ble ((List.length (((s_38 ++ s_36) ++ [40,110,32,105,110,116,44,32,119,32,116,101,120,116,44,32,112,32,98,111,111,108,41,32,123,32]) ++ s_37)) + 3) 4611686018427387904)
 (cl0 34 [(.vs 1 tg_3 l_4),(.int .i64 x_14)] fun r21 => .br (AV.pure r21.v)
 (.mid 0 qL24 3 (mk0 112 [vv 0 (.vs 1 tg_3 l_4),vt 3 ((((s_38 ++ s_36) ++ [40,110,32,105,110,116,44,32,119,32,116,101,120,116,44,32,112,32,98,111,111,108,41,32,123,32]) ++ s_37) ++ [32,125,32]),vi 5 x_7,vi 8 x_14,vv 79 (.vs 1 tg_3 l_4),vi 80 x_14,vv 81 r21.v])) .none)
 .none)
 .none)
 .none)
 .none) = some o) : ML C 19 qL17 4 (mk0 112 [vv 0 (.vs 1 tg_3 l_4),vt 3 s_5,vi 5 x_7,vi 8 x_14,vt 10 s_37,vt 70 s_5,vt 71 s_38,vi 72 x_7,vt 73 s_36]) = some o := stM C 2 (fun _ _ => by kernel_rfl) ho
theorem p19_16 {tg_3 : Bool} {l_4 : List AV} {s_5 s_39 s_40 s_41 : List UInt8} {x_7 x_14 : Int} (ho : Tr.val C 19
 (.br (Nat.ble ((List.length s_41) + (List.length s_39)) 4611686018427387904)
 (.br (Nat.ble ((List.length (s_41 ++ s_39)) + 26) 4611686018427387904)
 (.br (Nat.ble ((List.length ((s_41 ++ s_39) ++ [40,110,32,105,110,116,44,32,119,32,116,101,120,116,44,32,112,32,98,111,111,108,41,32,123,32])) + (List.length s_40)) 4611686018427387904)
 (.br (Nat.ble ((List.length (((s_41 ++ s_39) ++ [40,110,32,105,110,116,44,32,119,32,116,101,120,116,44,32,112,32,98,111,111,108,41,32,123,32]) ++ s_40)) + 3) 4611686018427387904)
 (cl0 34 [(.vs 1 tg_3 l_4),(.int .i64 x_14)] fun r22 => .br (AV.pure r22.v)
 (.mid 0 qL25 3 (mk0 112 [vv 0 (.vs 1 tg_3 l_4),vt 3 ((((s_41 ++ s_39) ++ [40,110,32,105,110,116,44,32,119,32,116,101,120,116,44,32,112,32,98,111,111,108,41,32,123,32]) ++ s_40) ++ [32,125,32]),vi 5 x_7,vi 8 x_14,vv 79 (.vs 1 tg_3 l_4),vi 80 x_14,vv 81 r22.v])) .none)
 .none)
 .none)
 .none)
 .none) = some o) : ML C 19 qL18 4 (mk0 112 [vv 0 (.vs 1 tg_3 l_4),vt 3 s_5,vi 5 x_7,vi 8 x_14,vt 10 s_40,vt 70 s_5,vt 71 s_41,vi 72 x_7,vt 73 s_39]) = some o := stM C 2 (fun _ _ => by kernel_rfl) ho
theorem p19_17 {tg_3 : Bool} {l_4 : List AV} {x_7 x_14 x_42 : Int} {s_43 : List UInt8} (ho : Tr.val C 19
 (cl0 22 [(.int .i64 x_42),(.int .i64 3)] fun r23 => .br (AV.pure r23.v)
 (.mid 0 qL3 5 (mk0 112 [vv 0 (.vs 1 tg_3 l_4),vt 3 s_43,vi 5 x_7,vi 8 x_14,vi 11 x_42,vv 83 (.vs 1 tg_3 l_4),vi 84 x_14,vi 85 (IntKind.wrap .i64 (x_14 + 1)),vi 86 x_42,vv 87 r23.v])) .none) = some o) : ML C 19 qL19 3 (mk0 112 [vv 0 (.vs 1 tg_3 l_4),vt 3 s_43,vi 5 x_7,vi 8 x_14,vv 79 (.vs 1 tg_3 l_4),vi 80 x_14,vi 81 x_42]) = some o := stM C 2 (fun _ _ => by kernel_rfl) ho
theorem p19_18 {tg_3 : Bool} {l_4 : List AV} {x_7 x_14 x_44 : Int} {s_45 : List UInt8} (ho : Tr.val C 19
 (cl0 22 [(.int .i64 x_44),(.int .i64 3)] fun r24 => .br (AV.pure r24.v)
 (.mid 0 qL4 5 (mk0 112 [vv 0 (.vs 1 tg_3 l_4),vt 3 s_45,vi 5 x_7,vi 8 x_14,vi 11 x_44,vv 83 (.vs 1 tg_3 l_4),vi 84 x_14,vi 85 (IntKind.wrap .i64 (x_14 + 1)),vi 86 x_44,vv 87 r24.v])) .none) = some o) : ML C 19 qL20 3 (mk0 112 [vv 0 (.vs 1 tg_3 l_4),vt 3 s_45,vi 5 x_7,vi 8 x_14,vv 79 (.vs 1 tg_3 l_4),vi 80 x_14,vi 81 x_44]) = some o := stM C 2 (fun _ _ => by kernel_rfl) ho
theorem p19_19 {tg_3 : Bool} {l_4 : List AV} {x_7 x_14 x_46 : Int} {s_47 : List UInt8} (ho : Tr.val C 19
 (cl0 22 [(.int .i64 x_46),(.int .i64 3)] fun r25 => .br (AV.pure r25.v)
 (.mid 0 qL5 5 (mk0 112 [vv 0 (.vs 1 tg_3 l_4),vt 3 s_47,vi 5 x_7,vi 8 x_14,vi 11 x_46,vv 83 (.vs 1 tg_3 l_4),vi 84 x_14,vi 85 (IntKind.wrap .i64 (x_14 + 1)),vi 86 x_46,vv 87 r25.v])) .none) = some o) : ML C 19 qL21 3 (mk0 112 [vv 0 (.vs 1 tg_3 l_4),vt 3 s_47,vi 5 x_7,vi 8 x_14,vv 79 (.vs 1 tg_3 l_4),vi 80 x_14,vi 81 x_46]) = some o := stM C 2 (fun _ _ => by kernel_rfl) ho
theorem p19_20 {tg_3 : Bool} {l_4 : List AV} {x_7 x_14 x_48 : Int} {s_49 : List UInt8} (ho : Tr.val C 19
 (cl0 22 [(.int .i64 x_48),(.int .i64 3)] fun r26 => .br (AV.pure r26.v)
 (.mid 0 qL6 5 (mk0 112 [vv 0 (.vs 1 tg_3 l_4),vt 3 s_49,vi 5 x_7,vi 8 x_14,vi 11 x_48,vv 83 (.vs 1 tg_3 l_4),vi 84 x_14,vi 85 (IntKind.wrap .i64 (x_14 + 1)),vi 86 x_48,vv 87 r26.v])) .none) = some o) : ML C 19 qL22 3 (mk0 112 [vv 0 (.vs 1 tg_3 l_4),vt 3 s_49,vi 5 x_7,vi 8 x_14,vv 79 (.vs 1 tg_3 l_4),vi 80 x_14,vi 81 x_48]) = some o := stM C 2 (fun _ _ => by kernel_rfl) ho
theorem p19_21 {tg_3 : Bool} {l_4 : List AV} {x_7 x_14 x_50 : Int} {s_51 : List UInt8} (ho : Tr.val C 19
 (cl0 22 [(.int .i64 x_50),(.int .i64 3)] fun r27 => .br (AV.pure r27.v)
 (.mid 0 qL7 5 (mk0 112 [vv 0 (.vs 1 tg_3 l_4),vt 3 s_51,vi 5 x_7,vi 8 x_14,vi 11 x_50,vv 83 (.vs 1 tg_3 l_4),vi 84 x_14,vi 85 (IntKind.wrap .i64 (x_14 + 1)),vi 86 x_50,vv 87 r27.v])) .none) = some o) : ML C 19 qL23 3 (mk0 112 [vv 0 (.vs 1 tg_3 l_4),vt 3 s_51,vi 5 x_7,vi 8 x_14,vv 79 (.vs 1 tg_3 l_4),vi 80 x_14,vi 81 x_50]) = some o := stM C 2 (fun _ _ => by kernel_rfl) ho
theorem p19_22 {tg_3 : Bool} {l_4 : List AV} {x_7 x_14 x_52 : Int} {s_53 : List UInt8} (ho : Tr.val C 19
 (cl0 22 [(.int .i64 x_52),(.int .i64 3)] fun r28 => .br (AV.pure r28.v)
 (.mid 0 qL8 5 (mk0 112 [vv 0 (.vs 1 tg_3 l_4),vt 3 s_53,vi 5 x_7,vi 8 x_14,vi 11 x_52,vv 83 (.vs 1 tg_3 l_4),vi 84 x_14,vi 85 (IntKind.wrap .i64 (x_14 + 1)),vi 86 x_52,vv 87 r28.v])) .none) = some o) : ML C 19 qL24 3 (mk0 112 [vv 0 (.vs 1 tg_3 l_4),vt 3 s_53,vi 5 x_7,vi 8 x_14,vv 79 (.vs 1 tg_3 l_4),vi 80 x_14,vi 81 x_52]) = some o := stM C 2 (fun _ _ => by kernel_rfl) ho
theorem p19_23 {tg_3 : Bool} {l_4 : List AV} {x_7 x_14 x_54 : Int} {s_55 : List UInt8} (ho : Tr.val C 19
 (cl0 22 [(.int .i64 x_54),(.int .i64 3)] fun r29 => .br (AV.pure r29.v)
 (.mid 0 qL9 5 (mk0 112 [vv 0 (.vs 1 tg_3 l_4),vt 3 s_55,vi 5 x_7,vi 8 x_14,vi 11 x_54,vv 83 (.vs 1 tg_3 l_4),vi 84 x_14,vi 85 (IntKind.wrap .i64 (x_14 + 1)),vi 86 x_54,vv 87 r29.v])) .none) = some o) : ML C 19 qL25 3 (mk0 112 [vv 0 (.vs 1 tg_3 l_4),vt 3 s_55,vi 5 x_7,vi 8 x_14,vv 79 (.vs 1 tg_3 l_4),vi 80 x_14,vi 81 x_54]) = some o := stM C 2 (fun _ _ => by kernel_rfl) ho
theorem p19_24 {tg_3 : Bool} {l_4 : List AV} {x_7 x_14 x_42 x_56 x_57 : Int} {s_43 : List UInt8} (ho : Tr.val C 19
 (cl0 41 [(.vs 1 tg_3 l_4),(.int .i64 x_57),(.int .i64 (IntKind.wrap .i64 (x_56 + 1))),(.int .i64 0),(.bool true)] fun r30 => .br (AV.pure r30.v)
 (.mid 0 qL3 7 (mk0 112 [vv 0 (.vs 1 tg_3 l_4),vt 3 s_43,vi 5 x_7,vi 8 x_14,vi 11 x_42,vv 83 (.vs 1 tg_3 l_4),vi 84 x_14,vi 85 x_57,vi 86 x_42,vi 87 x_56,vi 88 (IntKind.wrap .i64 (x_56 + 1)),vv 89 r30.v])) .none) = some o) : ML C 19 qL3 5 (mk0 112 [vv 0 (.vs 1 tg_3 l_4),vt 3 s_43,vi 5 x_7,vi 8 x_14,vi 11 x_42,vv 83 (.vs 1 tg_3 l_4),vi 84 x_14,vi 85 x_57,vi 86 x_42,vi 87 x_56]) = some o := stM C 0 (fun _ _ => by kernel_rfl) ho
theorem p19_25 {tg_3 : Bool} {l_4 : List AV} {x_7 x_14 x_44 x_58 x_59 : Int} {s_45 : List UInt8} (ho : Tr.val C 19
 (cl0 41 [(.vs 1 tg_3 l_4),(.int .i64 x_59),(.int .i64 (IntKind.wrap .i64 (x_58 + 1))),(.int .i64 0),(.bool true)] fun r31 => .br (AV.pure r31.v)
 (.mid 0 qL4 7 (mk0 112 [vv 0 (.vs 1 tg_3 l_4),vt 3 s_45,vi 5 x_7,vi 8 x_14,vi 11 x_44,vv 83 (.vs 1 tg_3 l_4),vi 84 x_14,vi 85 x_59,vi 86 x_44,vi 87 x_58,vi 88 (IntKind.wrap .i64 (x_58 + 1)),vv 89 r31.v])) .none) = some o) : ML C 19 qL4 5 (mk0 112 [vv 0 (.vs 1 tg_3 l_4),vt 3 s_45,vi 5 x_7,vi 8 x_14,vi 11 x_44,vv 83 (.vs 1 tg_3 l_4),vi 84 x_14,vi 85 x_59,vi 86 x_44,vi 87 x_58]) = some o := stM C 0 (fun _ _ => by kernel_rfl) ho
theorem p19_26 {tg_3 : Bool} {l_4 : List AV} {x_7 x_14 x_46 x_60 x_61 : Int} {s_47 : List UInt8} (ho : Tr.val C 19
 (cl0 41 [(.vs 1 tg_3 l_4),(.int .i64 x_61),(.int .i64 (IntKind.wrap .i64 (x_60 + 1))),(.int .i64 0),(.bool true)] fun r32 => .br (AV.pure r32.v)
 (.mid 0 qL5 7 (mk0 112 [vv 0 (.vs 1 tg_3 l_4),vt 3 s_47,vi 5 x_7,vi 8 x_14,vi 11 x_46,vv 83 (.vs 1 tg_3 l_4),vi 84 x_14,vi 85 x_61,vi 86 x_46,vi 87 x_60,vi 88 (IntKind.wrap .i64 (x_60 + 1)),vv 89 r32.v])) .none) = some o) : ML C 19 qL5 5 (mk0 112 [vv 0 (.vs 1 tg_3 l_4),vt 3 s_47,vi 5 x_7,vi 8 x_14,vi 11 x_46,vv 83 (.vs 1 tg_3 l_4),vi 84 x_14,vi 85 x_61,vi 86 x_46,vi 87 x_60]) = some o := stM C 0 (fun _ _ => by kernel_rfl) ho
theorem p19_27 {tg_3 : Bool} {l_4 : List AV} {x_7 x_14 x_48 x_62 x_63 : Int} {s_49 : List UInt8} (ho : Tr.val C 19
 (cl0 41 [(.vs 1 tg_3 l_4),(.int .i64 x_63),(.int .i64 (IntKind.wrap .i64 (x_62 + 1))),(.int .i64 0),(.bool true)] fun r33 => .br (AV.pure r33.v)
 (.mid 0 qL6 7 (mk0 112 [vv 0 (.vs 1 tg_3 l_4),vt 3 s_49,vi 5 x_7,vi 8 x_14,vi 11 x_48,vv 83 (.vs 1 tg_3 l_4),vi 84 x_14,vi 85 x_63,vi 86 x_48,vi 87 x_62,vi 88 (IntKind.wrap .i64 (x_62 + 1)),vv 89 r33.v])) .none) = some o) : ML C 19 qL6 5 (mk0 112 [vv 0 (.vs 1 tg_3 l_4),vt 3 s_49,vi 5 x_7,vi 8 x_14,vi 11 x_48,vv 83 (.vs 1 tg_3 l_4),vi 84 x_14,vi 85 x_63,vi 86 x_48,vi 87 x_62]) = some o := stM C 0 (fun _ _ => by kernel_rfl) ho
theorem p19_28 {tg_3 : Bool} {l_4 : List AV} {x_7 x_14 x_50 x_64 x_65 : Int} {s_51 : List UInt8} (ho : Tr.val C 19
 (cl0 41 [(.vs 1 tg_3 l_4),(.int .i64 x_65),(.int .i64 (IntKind.wrap .i64 (x_64 + 1))),(.int .i64 0),(.bool true)] fun r34 => .br (AV.pure r34.v)
 (.mid 0 qL7 7 (mk0 112 [vv 0 (.vs 1 tg_3 l_4),vt 3 s_51,vi 5 x_7,vi 8 x_14,vi 11 x_50,vv 83 (.vs 1 tg_3 l_4),vi 84 x_14,vi 85 x_65,vi 86 x_50,vi 87 x_64,vi 88 (IntKind.wrap .i64 (x_64 + 1)),vv 89 r34.v])) .none) = some o) : ML C 19 qL7 5 (mk0 112 [vv 0 (.vs 1 tg_3 l_4),vt 3 s_51,vi 5 x_7,vi 8 x_14,vi 11 x_50,vv 83 (.vs 1 tg_3 l_4),vi 84 x_14,vi 85 x_65,vi 86 x_50,vi 87 x_64]) = some o := stM C 0 (fun _ _ => by kernel_rfl) ho
theorem p19_29 {tg_3 : Bool} {l_4 : List AV} {x_7 x_14 x_52 x_66 x_67 : Int} {s_53 : List UInt8} (ho : Tr.val C 19
 (cl0 41 [(.vs 1 tg_3 l_4),(.int .i64 x_67),(.int .i64 (IntKind.wrap .i64 (x_66 + 1))),(.int .i64 0),(.bool true)] fun r35 => .br (AV.pure r35.v)
 (.mid 0 qL8 7 (mk0 112 [vv 0 (.vs 1 tg_3 l_4),vt 3 s_53,vi 5 x_7,vi 8 x_14,vi 11 x_52,vv 83 (.vs 1 tg_3 l_4),vi 84 x_14,vi 85 x_67,vi 86 x_52,vi 87 x_66,vi 88 (IntKind.wrap .i64 (x_66 + 1)),vv 89 r35.v])) .none) = some o) : ML C 19 qL8 5 (mk0 112 [vv 0 (.vs 1 tg_3 l_4),vt 3 s_53,vi 5 x_7,vi 8 x_14,vi 11 x_52,vv 83 (.vs 1 tg_3 l_4),vi 84 x_14,vi 85 x_67,vi 86 x_52,vi 87 x_66]) = some o := stM C 0 (fun _ _ => by kernel_rfl) ho
theorem p19_30 {tg_3 : Bool} {l_4 : List AV} {x_7 x_14 x_54 x_68 x_69 : Int} {s_55 : List UInt8} (ho : Tr.val C 19
 (cl0 41 [(.vs 1 tg_3 l_4),(.int .i64 x_69),(.int .i64 (IntKind.wrap .i64 (x_68 + 1))),(.int .i64 0),(.bool true)] fun r36 => .br (AV.pure r36.v)
 (.mid 0 qL9 7 (mk0 112 [vv 0 (.vs 1 tg_3 l_4),vt 3 s_55,vi 5 x_7,vi 8 x_14,vi 11 x_54,vv 83 (.vs 1 tg_3 l_4),vi 84 x_14,vi 85 x_69,vi 86 x_54,vi 87 x_68,vi 88 (IntKind.wrap .i64 (x_68 + 1)),vv 89 r36.v])) .none) = some o) : ML C 19 qL9 5 (mk0 112 [vv 0 (.vs 1 tg_3 l_4),vt 3 s_55,vi 5 x_7,vi 8 x_14,vi 11 x_54,vv 83 (.vs 1 tg_3 l_4),vi 84 x_14,vi 85 x_69,vi 86 x_54,vi 87 x_68]) = some o := stM C 0 (fun _ _ => by kernel_rfl) ho
theorem p19_31 {tg_3 : Bool} {l_4 : List AV} {x_7 x_14 x_42 x_56 x_57 x_71 x_72 : Int} {s_43 s_70 : List UInt8} (ho : Tr.val C 19
 (.br (Nat.ble ((List.length s_43) + 7) 4611686018427387904)
 (cl0 29 [(.int .i64 x_7)] fun r37 => .br (AV.pure r37.v)
 (.mid 0 qL26 4 (mk0 112 [vv 0 (.vs 1 tg_3 l_4),vt 3 s_43,vi 5 x_7,vt 12 s_70,vi 13 x_71,vt 92 s_43,vt 93 (s_43 ++ [113,117,101,114,121,32,113]),vi 94 x_7,vv 95 r37.v])) .none)
 .none) = some o) : ML C 19 qL3 7 (mk0 112 [vv 0 (.vs 1 tg_3 l_4),vt 3 s_43,vi 5 x_7,vi 8 x_14,vi 11 x_42,vv 83 (.vs 1 tg_3 l_4),vi 84 x_14,vi 85 x_57,vi 86 x_42,vi 87 x_56,vi 88 x_72,vv 89 (.tuple [(.str s_70),(i6 x_71)])]) = some o := stM C 2 (fun _ _ => by kernel_rfl) ho
theorem p19_32 {tg_3 : Bool} {l_4 : List AV} {x_7 x_14 x_44 x_58 x_59 x_74 x_75 : Int} {s_45 s_73 : List UInt8} (ho : Tr.val C 19
 (.br (Nat.ble ((List.length s_45) + 7) 4611686018427387904)
 (cl0 29 [(.int .i64 x_7)] fun r38 => .br (AV.pure r38.v)
 (.mid 0 qL27 4 (mk0 112 [vv 0 (.vs 1 tg_3 l_4),vt 3 s_45,vi 5 x_7,vt 12 s_73,vi 13 x_74,vt 92 s_45,vt 93 (s_45 ++ [113,117,101,114,121,32,113]),vi 94 x_7,vv 95 r38.v])) .none)
 .none) = some o) : ML C 19 qL4 7 (mk0 112 [vv 0 (.vs 1 tg_3 l_4),vt 3 s_45,vi 5 x_7,vi 8 x_14,vi 11 x_44,vv 83 (.vs 1 tg_3 l_4),vi 84 x_14,vi 85 x_59,vi 86 x_44,vi 87 x_58,vi 88 x_75,vv 89 (.tuple [(.str s_73),(i6 x_74)])]) = some o := stM C 2 (fun _ _ => by kernel_rfl) ho
theorem p19_33 {tg_3 : Bool} {l_4 : List AV} {x_7 x_14 x_46 x_60 x_61 x_77 x_78 : Int} {s_47 s_76 : List UInt8} (ho : Tr.val C 19
 (.br (Nat.ble ((List.length s_47) + 7) 4611686018427387904)
 (cl0 29 [(.int .i64 x_7)] fun r39 => .br (AV.pure r39.v)
 (.mid 0 qL28 4 (mk0 112 [vv 0 (.vs 1 tg_3 l_4),vt 3 s_47,vi 5 x_7,vt 12 s_76,vi 13 x_77,vt 92 s_47,vt 93 (s_47 ++ [113,117,101,114,121,32,113]),vi 94 x_7,vv 95 r39.v])) .none)
 .none) = some o) : ML C 19 qL5 7 (mk0 112 [vv 0 (.vs 1 tg_3 l_4),vt 3 s_47,vi 5 x_7,vi 8 x_14,vi 11 x_46,vv 83 (.vs 1 tg_3 l_4),vi 84 x_14,vi 85 x_61,vi 86 x_46,vi 87 x_60,vi 88 x_78,vv 89 (.tuple [(.str s_76),(i6 x_77)])]) = some o := stM C 2 (fun _ _ => by kernel_rfl) ho
theorem p19_34 {tg_3 : Bool} {l_4 : List AV} {x_7 x_14 x_48 x_62 x_63 x_80 x_81 : Int} {s_49 s_79 : List UInt8} (ho : Tr.val C 19
 (.br (Nat.ble ((List.length s_49) + 7) 4611686018427387904)
 (cl0 29 [(.int .i64 x_7)] fun r40 => .br (AV.pure r40.v)
 (.mid 0 qL29 4 (mk0 112 [vv 0 (.vs 1 tg_3 l_4),vt 3 s_49,vi 5 x_7,vt 12 s_79,vi 13 x_80,vt 92 s_49,vt 93 (s_49 ++ [113,117,101,114,121,32,113]),vi 94 x_7,vv 95 r40.v])) .none)
 .none) = some o) : ML C 19 qL6 7 (mk0 112 [vv 0 (.vs 1 tg_3 l_4),vt 3 s_49,vi 5 x_7,vi 8 x_14,vi 11 x_48,vv 83 (.vs 1 tg_3 l_4),vi 84 x_14,vi 85 x_63,vi 86 x_48,vi 87 x_62,vi 88 x_81,vv 89 (.tuple [(.str s_79),(i6 x_80)])]) = some o := stM C 2 (fun _ _ => by kernel_rfl) ho
theorem p19_35 {tg_3 : Bool} {l_4 : List AV} {x_7 x_14 x_50 x_64 x_65 x_83 x_84 : Int} {s_51 s_82 : List UInt8} (ho : Tr.val C 19
 (.br (Nat.ble ((List.length s_51) + 7) 4611686018427387904)
 (cl0 29 [(.int .i64 x_7)] fun r41 => .br (AV.pure r41.v)
 (.mid 0 qL30 4 (mk0 112 [vv 0 (.vs 1 tg_3 l_4),vt 3 s_51,vi 5 x_7,vt 12 s_82,vi 13 x_83,vt 92 s_51,vt 93 (s_51 ++ [113,117,101,114,121,32,113]),vi 94 x_7,vv 95 r41.v])) .none)
 .none) = some o) : ML C 19 qL7 7 (mk0 112 [vv 0 (.vs 1 tg_3 l_4),vt 3 s_51,vi 5 x_7,vi 8 x_14,vi 11 x_50,vv 83 (.vs 1 tg_3 l_4),vi 84 x_14,vi 85 x_65,vi 86 x_50,vi 87 x_64,vi 88 x_84,vv 89 (.tuple [(.str s_82),(i6 x_83)])]) = some o := stM C 2 (fun _ _ => by kernel_rfl) ho
theorem p19_36 {tg_3 : Bool} {l_4 : List AV} {x_7 x_14 x_52 x_66 x_67 x_86 x_87 : Int} {s_53 s_85 : List UInt8} (ho : Tr.val C 19
 (.br (Nat.ble ((List.length s_53) + 7) 4611686018427387904)
 (cl0 29 [(.int .i64 x_7)] fun r42 => .br (AV.pure r42.v)
 (.mid 0 qL31 4 (mk0 112 [vv 0 (.vs 1 tg_3 l_4),vt 3 s_53,vi 5 x_7,vt 12 s_85,vi 13 x_86,vt 92 s_53,vt 93 (s_53 ++ [113,117,101,114,121,32,113]),vi 94 x_7,vv 95 r42.v])) .none)
 .none) = some o) : ML C 19 qL8 7 (mk0 112 [vv 0 (.vs 1 tg_3 l_4),vt 3 s_53,vi 5 x_7,vi 8 x_14,vi 11 x_52,vv 83 (.vs 1 tg_3 l_4),vi 84 x_14,vi 85 x_67,vi 86 x_52,vi 87 x_66,vi 88 x_87,vv 89 (.tuple [(.str s_85),(i6 x_86)])]) = some o := stM C 2 (fun _ _ => by kernel_rfl) ho
theorem p19_37 {tg_3 : Bool} {l_4 : List AV} {x_7 x_14 x_54 x_68 x_69 x_89 x_90 : Int} {s_55 s_88 : List UInt8} (ho : Tr.val C 19
 (.br (Nat.ble ((List.length s_55) + 7) 4611686018427387904)
 (cl0 29 [(.int .i64 x_7)] fun r43 => .br (AV.pure r43.v)
 (.mid 0 qL32 4 (mk0 112 [vv 0 (.vs 1 tg_3 l_4),vt 3 s_55,vi 5 x_7,vt 12 s_88,vi 13 x_89,vt 92 s_55,vt 93 (s_55 ++ [113,117,101,114,121,32,113]),vi 94 x_7,vv 95 r43.v])) .none)
 .none) = some o) : ML C 19 qL9 7 (mk0 112 [vv 0 (.vs 1 tg_3 l_4),vt 3 s_55,vi 5 x_7,vi 8 x_14,vi 11 x_54,vv 83 (.vs 1 tg_3 l_4),vi 84 x_14,vi 85 x_69,vi 86 x_54,vi 87 x_68,vi 88 x_90,vv 89 (.tuple [(.str s_88),(i6 x_89)])]) = some o := stM C 2 (fun _ _ => by kernel_rfl) ho
theorem p19_38 {tg_3 : Bool} {l_4 : List AV} {x_7 x_71 : Int} {s_43 s_70 s_91 s_92 : List UInt8} (ho : Tr.val C 19
 (.br (Nat.ble ((List.length s_92) + (List.length s_91)) 4611686018427387904)
 (.br (Nat.ble ((List.length (s_92 ++ s_91)) + 26) 4611686018427387904)
 (.br (Nat.ble ((List.length ((s_92 ++ s_91) ++ [40,110,32,105,110,116,44,32,119,32,116,101,120,116,44,32,112,32,98,111,111,108,41,32,61,32])) + (List.length s_70)) 4611686018427387904)
 (.br (Nat.ble ((List.length (((s_92 ++ s_91) ++ [40,110,32,105,110,116,44,32,119,32,116,101,120,116,44,32,112,32,98,111,111,108,41,32,61,32]) ++ s_70)) + 2) 4611686018427387904)
 (.run 0 qL0 (mk0 112 [vv 0 (.vs 1 tg_3 l_4),vt 3 ((((s_92 ++ s_91) ++ [40,110,32,105,110,116,44,32,119,32,116,101,120,116,44,32,112,32,98,111,111,108,41,32,61,32]) ++ s_70) ++ [59,32]),vi 4 x_71,vi 5 (IntKind.wrap .i64 (x_7 + 1))]))
 .none)
 .none)
 .none)
 .none) = some o) : ML C 19 qL26 4 (mk0 112 [vv 0 (.vs 1 tg_3 l_4),vt 3 s_43,vi 5 x_7,vt 12 s_70,vi 13 x_71,vt 92 s_43,vt 93 s_92,vi 94 x_7,vt 95 s_91]) = some o := stM C 4 (fun _ _ => by kernel_rfl) ho
theorem p19_39 {tg_3 : Bool} {l_4 : List AV} {x_7 x_74 : Int} {s_45 s_73 s_93 s_94 : List UInt8} (ho : Tr.val C 19
 (.br (Nat.ble ((List.length s_94) + (List.length s_93)) 4611686018427387904)
 (.br (Nat.ble ((List.length (s_94 ++ s_93)) + 26) 4611686018427387904)
 (.br (Nat.ble ((List.length ((s_94 ++ s_93) ++ [40,110,32,105,110,116,44,32,119,32,116,101,120,116,44,32,112,32,98,111,111,108,41,32,61,32])) + (List.length s_73)) 4611686018427387904)
 (.br (Nat.ble ((List.length (((s_94 ++ s_93) ++ [40,110,32,105,110,116,44,32,119,32,116,101,120,116,44,32,112,32,98,111,111,108,41,32,61,32]) ++ s_73)) + 2) 4611686018427387904)
 (.run 0 qL0 (mk0 112 [vv 0 (.vs 1 tg_3 l_4),vt 3 ((((s_94 ++ s_93) ++ [40,110,32,105,110,116,44,32,119,32,116,101,120,116,44,32,112,32,98,111,111,108,41,32,61,32]) ++ s_73) ++ [59,32]),vi 4 x_74,vi 5 (IntKind.wrap .i64 (x_7 + 1))]))
 .none)
 .none)
 .none)
 .none) = some o) : ML C 19 qL27 4 (mk0 112 [vv 0 (.vs 1 tg_3 l_4),vt 3 s_45,vi 5 x_7,vt 12 s_73,vi 13 x_74,vt 92 s_45,vt 93 s_94,vi 94 x_7,vt 95 s_93]) = some o := stM C 4 (fun _ _ => by kernel_rfl) ho
theorem p19_40 {tg_3 : Bool} {l_4 : List AV} {x_7 x_77 : Int} {s_47 s_76 s_95 s_96 : List UInt8} (ho : Tr.val C 19
 (.br (Nat.ble ((List.length s_96) + (List.length s_95)) 4611686018427387904)
 (.br (Nat.ble ((List.length (s_96 ++ s_95)) + 26) 4611686018427387904)
 (.br (Nat.ble ((List.length ((s_96 ++ s_95) ++ [40,110,32,105,110,116,44,32,119,32,116,101,120,116,44,32,112,32,98,111,111,108,41,32,61,32])) + (List.length s_76)) 4611686018427387904)
 (.br (Nat.ble ((List.length (((s_96 ++ s_95) ++ [40,110,32,105,110,116,44,32,119,32,116,101,120,116,44,32,112,32,98,111,111,108,41,32,61,32]) ++ s_76)) + 2) 4611686018427387904)
 (.run 0 qL0 (mk0 112 [vv 0 (.vs 1 tg_3 l_4),vt 3 ((((s_96 ++ s_95) ++ [40,110,32,105,110,116,44,32,119,32,116,101,120,116,44,32,112,32,98,111,111,108,41,32,61,32]) ++ s_76) ++ [59,32]),vi 4 x_77,vi 5 (IntKind.wrap .i64 (x_7 + 1))]))
 .none)
 .none)
 .none)
 .none) = some o) : ML C 19 qL28 4 (mk0 112 [vv 0 (.vs 1 tg_3 l_4),vt 3 s_47,vi 5 x_7,vt 12 s_76,vi 13 x_77,vt 92 s_47,vt 93 s_96,vi 94 x_7,vt 95 s_95]) = some o := stM C 4 (fun _ _ => by kernel_rfl) ho
theorem p19_41 {tg_3 : Bool} {l_4 : List AV} {x_7 x_80 : Int} {s_49 s_79 s_97 s_98 : List UInt8} (ho : Tr.val C 19
 (.br (Nat.ble ((List.length s_98) + (List.length s_97)) 4611686018427387904)
 (.br (Nat.ble ((List.length (s_98 ++ s_97)) + 26) 4611686018427387904)
 (.br (Nat.ble ((List.length ((s_98 ++ s_97) ++ [40,110,32,105,110,116,44,32,119,32,116,101,120,116,44,32,112,32,98,111,111,108,41,32,61,32])) + (List.length s_79)) 4611686018427387904)
 (.br (Nat.ble ((List.length (((s_98 ++ s_97) ++ [40,110,32,105,110,116,44,32,119,32,116,101,120,116,44,32,112,32,98,111,111,108,41,32,61,32]) ++ s_79)) + 2) 4611686018427387904)
 (.run 0 qL0 (mk0 112 [vv 0 (.vs 1 tg_3 l_4),vt 3 ((((s_98 ++ s_97) ++ [40,110,32,105,110,116,44,32,119,32,116,101,120,116,44,32,112,32,98,111,111,108,41,32,61,32]) ++ s_79) ++ [59,32]),vi 4 x_80,vi 5 (IntKind.wrap .i64 (x_7 + 1))]))
 .none)
 .none)
 .none)
 .none) = some o) : ML C 19 qL29 4 (mk0 112 [vv 0 (.vs 1 tg_3 l_4),vt 3 s_49,vi 5 x_7,vt 12 s_79,vi 13 x_80,vt 92 s_49,vt 93 s_98,vi 94 x_7,vt 95 s_97]) = some o := stM C 4 (fun _ _ => by kernel_rfl) ho
theorem p19_42 {tg_3 : Bool} {l_4 : List AV} {x_7 x_83 : Int} {s_51 s_82 s_99 s_100 : List UInt8} (ho : Tr.val C 19
 (.br (Nat.ble ((List.length s_100) + (List.length s_99)) 4611686018427387904)
 (.br (Nat.ble ((List.length (s_100 ++ s_99)) + 26) 4611686018427387904)
 (.br (Nat.ble ((List.length ((s_100 ++ s_99) ++ [40,110,32,105,110,116,44,32,119,32,116,101,120,116,44,32,112,32,98,111,111,108,41,32,61,32])) + (List.length s_82)) 4611686018427387904)
 (.br (Nat.ble ((List.length (((s_100 ++ s_99) ++ [40,110,32,105,110,116,44,32,119,32,116,101,120,116,44,32,112,32,98,111,111,108,41,32,61,32]) ++ s_82)) + 2) 4611686018427387904)
 (.run 0 qL0 (mk0 112 [vv 0 (.vs 1 tg_3 l_4),vt 3 ((((s_100 ++ s_99) ++ [40,110,32,105,110,116,44,32,119,32,116,101,120,116,44,32,112,32,98,111,111,108,41,32,61,32]) ++ s_82) ++ [59,32]),vi 4 x_83,vi 5 (IntKind.wrap .i64 (x_7 + 1))]))
 .none)
 .none)
 .none)
 .none) = some o) : ML C 19 qL30 4 (mk0 112 [vv 0 (.vs 1 tg_3 l_4),vt 3 s_51,vi 5 x_7,vt 12 s_82,vi 13 x_83,vt 92 s_51,vt 93 s_100,vi 94 x_7,vt 95 s_99]) = some o := stM C 4 (fun _ _ => by kernel_rfl) ho
theorem p19_43 {tg_3 : Bool} {l_4 : List AV} {x_7 x_86 : Int} {s_53 s_85 s_101 s_102 : List UInt8} (ho : Tr.val C 19
 (.br (Nat.ble ((List.length s_102) + (List.length s_101)) 4611686018427387904)
 (.br (Nat.ble ((List.length (s_102 ++ s_101)) + 26) 4611686018427387904)
 (.br (Nat.ble ((List.length ((s_102 ++ s_101) ++ [40,110,32,105,110,116,44,32,119,32,116,101,120,116,44,32,112,32,98,111,111,108,41,32,61,32])) + (List.length s_85)) 4611686018427387904)
 (.br (Nat.ble ((List.length (((s_102 ++ s_101) ++ [40,110,32,105,110,116,44,32,119,32,116,101,120,116,44,32,112,32,98,111,111,108,41,32,61,32]) ++ s_85)) + 2) 4611686018427387904)
 (.run 0 qL0 (mk0 112 [vv 0 (.vs 1 tg_3 l_4),vt 3 ((((s_102 ++ s_101) ++ [40,110,32,105,110,116,44,32,119,32,116,101,120,116,44,32,112,32,98,111,111,108,41,32,61,32]) ++ s_85) ++ [59,32]),vi 4 x_86,vi 5 (IntKind.wrap .i64 (x_7 + 1))]))
 .none)
 .none)
 .none)
 .none) = some o) : ML C 19 qL31 4 (mk0 112 [vv 0 (.vs 1 tg_3 l_4),vt 3 s_53,vi 5 x_7,vt 12 s_85,vi 13 x_86,vt 92 s_53,vt 93 s_102,vi 94 x_7,vt 95 s_101]) = some o := stM C 4 (fun _ _ => by kernel_rfl) ho
theorem p19_44 {tg_3 : Bool} {l_4 : List AV} {x_7 x_89 : Int} {s_55 s_88 s_103 s_104 : List UInt8} (ho : Tr.val C 19
 (.br (Nat.ble ((List.length s_104) + (List.length s_103)) 4611686018427387904)
 (.br (Nat.ble ((List.length (s_104 ++ s_103)) + 26) 4611686018427387904)
 (.br (Nat.ble ((List.length ((s_104 ++ s_103) ++ [40,110,32,105,110,116,44,32,119,32,116,101,120,116,44,32,112,32,98,111,111,108,41,32,61,32])) + (List.length s_88)) 4611686018427387904)
 (.br (Nat.ble ((List.length (((s_104 ++ s_103) ++ [40,110,32,105,110,116,44,32,119,32,116,101,120,116,44,32,112,32,98,111,111,108,41,32,61,32]) ++ s_88)) + 2) 4611686018427387904)
 (.run 0 qL0 (mk0 112 [vv 0 (.vs 1 tg_3 l_4),vt 3 ((((s_104 ++ s_103) ++ [40,110,32,105,110,116,44,32,119,32,116,101,120,116,44,32,112,32,98,111,111,108,41,32,61,32]) ++ s_88) ++ [59,32]),vi 4 x_89,vi 5 (IntKind.wrap .i64 (x_7 + 1))]))
 .none)
 .none)
 .none)
 .none) = some o) : ML C 19 qL32 4 (mk0 112 [vv 0 (.vs 1 tg_3 l_4),vt 3 s_55,vi 5 x_7,vt 12 s_88,vi 13 x_89,vt 92 s_55,vt 93 s_104,vi 94 x_7,vt 95 s_103]) = some o := stM C 4 (fun _ _ => by kernel_rfl) ho
end Go.Proofs.YtfdklpkfpmkgeaaGreatDoor
end
section
namespace Go.Proofs.YtfdklpkfpmkgeaaGreatDoor
open Go Go.Vai
attribute [local irreducible] goTo bodyOf mkS
variable {C : Nat→Oracle} (hC : Ext C)
include hC
set_option maxHeartbeats 8000000 in
theorem typed_loop (tg : Bool) (l : List Int) (hl : l.length ≤ 1000000) : ∀ (m : Nat) (i a : Int) (z : List UInt8),(4 - i).toNat = m→0 ≤ i→i ≤ 3→z.length ≤ 300 + i.toNat * 20000 →
  Was (RL C 19 [0,5,0,5,0,5,0,0,5,2,3] (mkS 112 [(0,.val (.vs 1 tg (ints l)) .no),(3,.val (.str z) .no),(4,.val (.int .i64 a) .no),(5,.val (.int .i64 i) .no)] [] Hp.none 0)) (QS 100000):=by
 intro m
 induction m with
 | zero=>intro i a s hm h0 h4; omega
 | succ m IH =>
  intro i a z hm h0 h4 hs
  have w3 : IntKind.wrap .i64 (i + 1) = i + 1 := wrap64 (by omega) (by omega)
  refine exW (fun o=>p19_1) ?_
  simp only [Tr.val,pureL,AV.pure,br_true,pure_ints]
  repeat' (first
   | refine .bL (by first | omega | (simp only [List.length_append,List.length_cons,List.length_nil,List.length_drop,List.length_take]; omega)) ?_
   | refine .bT (by omega) ?_
   | refine .bF (by omega) ?_
   | (refine .call (w34 hC _ _ (by omega) _) ?_; rintro o ⟨x,e⟩; simp only [e,AV.pure,br_true]; clear e)
   | (refine .call (w22 hC _ _ (by omega) (by omega)) ?_; rintro o ⟨x,e,h1,h2⟩; simp only [e,AV.pure,br_true]; clear e)
   | (refine .call (w29 hC _) ?_; rintro o ⟨s,e,h1⟩; simp only [e,AV.pure,br_true]; clear e)
   | (refine .call (w41 hC _ _ (by omega) _ _ _) ?_; rintro o ⟨s,x,e,h1⟩; simp only [e,AV.pure,pureL,br_true]; clear e)
   | (refine exW (fun o=>p19_2) ?_; simp only [Tr.val,pureL,AV.pure,br_true,AV.cells,pure_ints,len_ints,Bool.not_true,Bool.not_false,w3])
   | (refine exW (fun o=>p19_3) ?_; simp only [Tr.val,pureL,AV.pure,br_true,AV.cells,pure_ints,len_ints,Bool.not_true,Bool.not_false,w3])
   | (refine exW (fun o=>p19_4) ?_; simp only [Tr.val,pureL,AV.pure,br_true,AV.cells,pure_ints,len_ints,Bool.not_true,Bool.not_false,w3])
   | (refine exW (fun o=>p19_5) ?_; simp only [Tr.val,pureL,AV.pure,br_true,AV.cells,pure_ints,len_ints,Bool.not_true,Bool.not_false,w3])
   | (refine exW (fun o=>p19_6) ?_; simp only [Tr.val,pureL,AV.pure,br_true,AV.cells,pure_ints,len_ints,Bool.not_true,Bool.not_false,w3])
   | (refine exW (fun o=>p19_7) ?_; simp only [Tr.val,pureL,AV.pure,br_true,AV.cells,pure_ints,len_ints,Bool.not_true,Bool.not_false,w3])
   | (refine exW (fun o=>p19_8) ?_; simp only [Tr.val,pureL,AV.pure,br_true,AV.cells,pure_ints,len_ints,Bool.not_true,Bool.not_false,w3])
   | (refine exW (fun o=>p19_9) ?_; simp only [Tr.val,pureL,AV.pure,br_true,AV.cells,pure_ints,len_ints,Bool.not_true,Bool.not_false,w3])
   | (refine exW (fun o=>p19_10) ?_; simp only [Tr.val,pureL,AV.pure,br_true,AV.cells,pure_ints,len_ints,Bool.not_true,Bool.not_false,w3])
   | (refine exW (fun o=>p19_11) ?_; simp only [Tr.val,pureL,AV.pure,br_true,AV.cells,pure_ints,len_ints,Bool.not_true,Bool.not_false,w3])
   | (refine exW (fun o=>p19_12) ?_; simp only [Tr.val,pureL,AV.pure,br_true,AV.cells,pure_ints,len_ints,Bool.not_true,Bool.not_false,w3])
   | (refine exW (fun o=>p19_13) ?_; simp only [Tr.val,pureL,AV.pure,br_true,AV.cells,pure_ints,len_ints,Bool.not_true,Bool.not_false,w3])
   | (refine exW (fun o=>p19_14) ?_; simp only [Tr.val,pureL,AV.pure,br_true,AV.cells,pure_ints,len_ints,Bool.not_true,Bool.not_false,w3])
   | (refine exW (fun o=>p19_15) ?_; simp only [Tr.val,pureL,AV.pure,br_true,AV.cells,pure_ints,len_ints,Bool.not_true,Bool.not_false,w3])
   | (refine exW (fun o=>p19_16) ?_; simp only [Tr.val,pureL,AV.pure,br_true,AV.cells,pure_ints,len_ints,Bool.not_true,Bool.not_false,w3])
   | (refine exW (fun o=>p19_17) ?_; simp only [Tr.val,pureL,AV.pure,br_true,AV.cells,pure_ints,len_ints,Bool.not_true,Bool.not_false,w3])
   | (refine exW (fun o=>p19_18) ?_; simp only [Tr.val,pureL,AV.pure,br_true,AV.cells,pure_ints,len_ints,Bool.not_true,Bool.not_false,w3])
   | (refine exW (fun o=>p19_19) ?_; simp only [Tr.val,pureL,AV.pure,br_true,AV.cells,pure_ints,len_ints,Bool.not_true,Bool.not_false,w3])
   | (refine exW (fun o=>p19_20) ?_; simp only [Tr.val,pureL,AV.pure,br_true,AV.cells,pure_ints,len_ints,Bool.not_true,Bool.not_false,w3])
   | (refine exW (fun o=>p19_21) ?_; simp only [Tr.val,pureL,AV.pure,br_true,AV.cells,pure_ints,len_ints,Bool.not_true,Bool.not_false,w3])
   | (refine exW (fun o=>p19_22) ?_; simp only [Tr.val,pureL,AV.pure,br_true,AV.cells,pure_ints,len_ints,Bool.not_true,Bool.not_false,w3])
   | (refine exW (fun o=>p19_23) ?_; simp only [Tr.val,pureL,AV.pure,br_true,AV.cells,pure_ints,len_ints,Bool.not_true,Bool.not_false,w3])
   | (refine exW (fun o=>p19_24) ?_; simp only [Tr.val,pureL,AV.pure,br_true,AV.cells,pure_ints,len_ints,Bool.not_true,Bool.not_false,w3])
   | (refine exW (fun o=>p19_25) ?_; simp only [Tr.val,pureL,AV.pure,br_true,AV.cells,pure_ints,len_ints,Bool.not_true,Bool.not_false,w3])
   | (refine exW (fun o=>p19_26) ?_; simp only [Tr.val,pureL,AV.pure,br_true,AV.cells,pure_ints,len_ints,Bool.not_true,Bool.not_false,w3])
   | (refine exW (fun o=>p19_27) ?_; simp only [Tr.val,pureL,AV.pure,br_true,AV.cells,pure_ints,len_ints,Bool.not_true,Bool.not_false,w3])
   | (refine exW (fun o=>p19_28) ?_; simp only [Tr.val,pureL,AV.pure,br_true,AV.cells,pure_ints,len_ints,Bool.not_true,Bool.not_false,w3])
   | (refine exW (fun o=>p19_29) ?_; simp only [Tr.val,pureL,AV.pure,br_true,AV.cells,pure_ints,len_ints,Bool.not_true,Bool.not_false,w3])
   | (refine exW (fun o=>p19_30) ?_; simp only [Tr.val,pureL,AV.pure,br_true,AV.cells,pure_ints,len_ints,Bool.not_true,Bool.not_false,w3])
   | (refine exW (fun o=>p19_31) ?_; simp only [Tr.val,pureL,AV.pure,br_true,AV.cells,pure_ints,len_ints,Bool.not_true,Bool.not_false,w3])
   | (refine exW (fun o=>p19_32) ?_; simp only [Tr.val,pureL,AV.pure,br_true,AV.cells,pure_ints,len_ints,Bool.not_true,Bool.not_false,w3])
   | (refine exW (fun o=>p19_33) ?_; simp only [Tr.val,pureL,AV.pure,br_true,AV.cells,pure_ints,len_ints,Bool.not_true,Bool.not_false,w3])
   | (refine exW (fun o=>p19_34) ?_; simp only [Tr.val,pureL,AV.pure,br_true,AV.cells,pure_ints,len_ints,Bool.not_true,Bool.not_false,w3])
   | (refine exW (fun o=>p19_35) ?_; simp only [Tr.val,pureL,AV.pure,br_true,AV.cells,pure_ints,len_ints,Bool.not_true,Bool.not_false,w3])
   | (refine exW (fun o=>p19_36) ?_; simp only [Tr.val,pureL,AV.pure,br_true,AV.cells,pure_ints,len_ints,Bool.not_true,Bool.not_false,w3])
   | (refine exW (fun o=>p19_37) ?_; simp only [Tr.val,pureL,AV.pure,br_true,AV.cells,pure_ints,len_ints,Bool.not_true,Bool.not_false,w3])
   | (refine exW (fun o=>p19_38) ?_; simp only [Tr.val,pureL,AV.pure,br_true,AV.cells,pure_ints,len_ints,Bool.not_true,Bool.not_false,w3])
   | (refine exW (fun o=>p19_39) ?_; simp only [Tr.val,pureL,AV.pure,br_true,AV.cells,pure_ints,len_ints,Bool.not_true,Bool.not_false,w3])
   | (refine exW (fun o=>p19_40) ?_; simp only [Tr.val,pureL,AV.pure,br_true,AV.cells,pure_ints,len_ints,Bool.not_true,Bool.not_false,w3])
   | (refine exW (fun o=>p19_41) ?_; simp only [Tr.val,pureL,AV.pure,br_true,AV.cells,pure_ints,len_ints,Bool.not_true,Bool.not_false,w3])
   | (refine exW (fun o=>p19_42) ?_; simp only [Tr.val,pureL,AV.pure,br_true,AV.cells,pure_ints,len_ints,Bool.not_true,Bool.not_false,w3])
   | (refine exW (fun o=>p19_43) ?_; simp only [Tr.val,pureL,AV.pure,br_true,AV.cells,pure_ints,len_ints,Bool.not_true,Bool.not_false,w3])
   | (refine exW (fun o=>p19_44) ?_; simp only [Tr.val,pureL,AV.pure,br_true,AV.cells,pure_ints,len_ints,Bool.not_true,Bool.not_false,w3])
   | (refine .nth (B := 20) rfl (by simp only [List.length_cons,List.length_nil]; omega) fun s hs=>?_; simp only [AV.cells])
   | exact .mk ⟨_,rfl,by first | omega | (simp only [List.length_append,List.length_cons,List.length_nil,List.length_drop,List.length_take]; omega)⟩
   | refine .dec (fun h=>?_) (fun h=>?_)
   | refine .both (fun h=>?_) (fun h=>?_))
  all_goals exact IH _ _ _ (by omega) (by omega) (by omega) (by first | omega | (simp only [List.length_append,List.length_cons,List.length_nil]; omega))
theorem w19 (tg : Bool) (l : List Int) (hl : l.length ≤ 1000000) : Was (calL C 19 [.vs 1 tg (ints l)] Hp.none 0) (QS 100000):=by
 refine exW (fun o=>p19_c hC) (exW (fun o=>p19_0) ?_)
 exact typed_loop hC tg l hl _ 0 0 _ rfl (by decide) (by decide) (by decide)
end Go.Proofs.YtfdklpkfpmkgeaaGreatDoor
end
section
namespace Go.Proofs.YtfdklpkfpmkgeaaGreatDoor
open Go Go.Vai
attribute [local irreducible] goTo bodyOf mkS
variable {C : Nat→Oracle} (hC : Ext C)
include hC
theorem w20 (src : List UInt8) : Was (calL C 20 [.str src] Hp.none 0) (fun o=>∃ tg ts x e,o.v = .tuple [.agg [.vs 6 tg (ts.map Typ.av)],.int .i64 x,.int .i64 e]∧TsOk ts):=by
 by_cases hl : src.length ≤ 4000
 ·obtain ⟨f,r,h⟩ := pa_tot hl
  refine ⟨_,l20 hC hl h,?_⟩
  simp only [paO]
  split
  ·exact ⟨r.1.1,r.1.2,0,0,rfl,pa_ok hl h⟩
  ·exact ⟨true,[],_,_,rfl,Nat.zero_le _,fun t ht=>by cases ht⟩
 ·exact ⟨_,l20_long hC hl,true,[],0,3,rfl,Nat.zero_le _,fun t ht=>by cases ht⟩
theorem w15 (tg : Bool) (l : List Int) (hl : l.length ≤ 1000000) (b : Bool) : Was (calL C 15 [.vs 1 tg (ints l),.bool b] Hp.none 0) (fun o=>∃ tg ts c,o.v = .tuple [.agg [.vs 6 tg (ts.map Typ.av)],.bool c]∧TsOk ts):=by
 refine exW (fun o=>p15_c hC) (exW (fun o=>p15_0) ?_)
 simp only [Tr.val,pureL,AV.pure,pure_ints,br_true]
 refine .call (w18 hC tg l hl) ?_
 rintro o ⟨s,e,hs⟩
 simp only [e,AV.pure,br_true]
 clear e
 refine exW (fun o=>p15_1) ?_
 simp only [Tr.val,pureL,AV.pure,pure_ints,br_true]
 cases b
 ·simp only [br_false]
  refine .call (w20 hC s) ?_
  rintro o ⟨tg',ts,x,e',e,hts⟩
  simp only [e,AV.pure,pureL,pure_typs,br_true]
  refine exW (fun o=>p15_3) ?_
  exact .mk ⟨_,_,_,rfl,hts⟩
 ·simp only [br_true]
  refine .call (w19 hC tg l hl) ?_
  rintro o ⟨s',e,hs'⟩
  simp only [e,AV.pure,br_true]
  clear e
  refine exW (fun o=>p15_2) ?_
  simp only [Tr.val,pureL,AV.pure,br_true]
  refine .call (w20 hC s') ?_
  rintro o ⟨tg',ts,x,e',e,hts⟩
  simp only [e,AV.pure,pureL,pure_typs,br_true]
  refine exW (fun o=>p15_4) ?_
  exact .mk ⟨_,_,_,rfl,hts⟩
end Go.Proofs.YtfdklpkfpmkgeaaGreatDoor
end
section
namespace Go.Proofs.YtfdklpkfpmkgeaaGreatDoor
open Go Go.Vai
attribute [local irreducible] goTo bodyOf mkS
variable {C : Nat → Oracle} {o : Out}
abbrev qM0 : List Nat := [0,5,0,0,5,7,5,0,5,0,0,5,2,3,0,0,5,6,5,0,2,0,5,2,3,0,0,5,6,5,0,2,0]
abbrev qM1 : List Nat := [0,5,0,0,5,7,5,0,5,0,0,5,2,3,0,0,5,7,5,5,5,5,0]
abbrev qM2 : List Nat := [0,5,0,0,5,7,5,0,5,0,0,5,2,3]
abbrev qM3 : List Nat := [0,5,0,0,5,7,5,0,5,0,0,5,2,3,0,0,5,6,5,0,2,0,5,2,3]
abbrev qM4 : List Nat := [0,5,0,0,5,7,5,0,5,0,0,5,2,3,0,0,5,6,5,0,2,0,5,2,3,0,0,5,6,5,0,2,0,5,0]
abbrev qM5 : List Nat := [0,5,0,0,5,7,5,0,5,0,0,5,2,3,0,0,5,6,5,0,2,0,5,2,3,0,0]
theorem p3_c (hC : Ext C) {tg_1 c_3 : Bool} {l_2 : List AV} (ho : RL C 3 [] (mk0 56 [vv 0 (.vs 1 tg_1 l_2),vb 1 c_3]) = some o) : calL C 3 [(.vs 1 tg_1 l_2),(.bool c_3)] Hp.none 0 = some o := hC.call rfl (fun _ _ => by kernel_rfl) ho
theorem p3_0 {tg_1 c_3 : Bool} {l_2 : List AV} (ho : Tr.val C 3
 (.br (decide (80 < (((List.length l_2) : Nat) : Int)))
 (cl0 14 [] fun r1 => .br (AV.pure r1.v)
 (.mid 1 [0,5,0,0,5,6,0] 1 (mk0 56 [vv 0 (.vs 1 tg_1 l_2),vb 1 c_3,vb 12 true,vv 13 r1.v])) .none)
 (cl0 15 [(.vs 1 tg_1 l_2),(.bool c_3)] fun r2 => .br (AV.pure r2.v)
 (.mid 0 [0,5,0,0,5,7,5,0] 3 (mk0 56 [vv 0 (.vs 1 tg_1 l_2),vb 1 c_3,vb 12 false,vv 15 (.vs 1 tg_1 l_2),vb 16 c_3,vv 17 r2.v])) .none)) = some o) : RL C 3 [] (mk0 56 [vv 0 (.vs 1 tg_1 l_2),vb 1 c_3]) = some o := stR C 9 (fun _ _ => by kernel_rfl) ho
theorem p3_1 {tg_1 c_3 c_4 : Bool} {l_2 : List AV} (ho : Tr.val C 3
 (.ret ⟨(.bool c_4),Hp.none,0⟩) = some o) : ML C 3 [0,5,0,0,5,6,0] 1 (mk0 56 [vv 0 (.vs 1 tg_1 l_2),vb 1 c_3,vb 12 true,vb 13 c_4]) = some o := stM C 1 (fun _ _ => by kernel_rfl) ho
theorem p3_2 {tg_1 c_3 tg_5 c_7 : Bool} {l_2 l_6 : List AV} (ho : Tr.val C 3
 (.run 0 qM2 (mkS 56 [(5,.lp 5 0),vb 6 c_7,vi 7 0] [(5,⟨[(.vs 6 tg_5 l_6)],[]⟩)] Hp.none 0)) = some o) : ML C 3 [0,5,0,0,5,7,5,0] 3 (mkS 56 [vv 0 (.vs 1 tg_1 l_2),vb 1 c_3,vb 12 false,vv 15 (.vs 1 tg_1 l_2),vb 16 c_3,vv 17 (.tuple [(.agg [(.vs 6 tg_5 l_6)]),(.bool c_7)])] [] Hp.none 0) = some o := stM C 5 (fun _ _ => by kernel_rfl) ho
theorem p3_3 {c_8 tg_10 : Bool} {x_9 : Int} {l_11 : List AV} (ho : Tr.val C 3
 (.br c_8
 (.br (decide (x_9 < (((List.length l_11) : Nat) : Int)))
 (.run 0 qM3 (mkS 56 [(5,.lp 5 0),vb 6 c_8,vi 7 x_9,vi 8 0] [(5,⟨[(.vs 6 tg_10 l_11)],[]⟩)] Hp.none 0))
 (cl0 14 [] fun r3 => .br (AV.pure r3.v)
 (.mid 4 qM1 1 (mkS 56 [(5,.lp 5 0),vb 6 c_8,vi 7 x_9,vb 27 false,vv 55 r3.v] [(5,⟨[(.vs 6 tg_10 l_11)],[]⟩)] Hp.none 0)) .none))
 (cl0 14 [] fun r4 => .br (AV.pure r4.v)
 (.mid 4 qM1 1 (mkS 56 [(5,.lp 5 0),vb 6 c_8,vi 7 x_9,vb 27 false,vv 55 r4.v] [(5,⟨[(.vs 6 tg_10 l_11)],[]⟩)] Hp.none 0)) .none)) = some o) : RL C 3 qM2 (mkS 56 [(5,.lp 5 0),vb 6 c_8,vi 7 x_9] [(5,⟨[(.vs 6 tg_10 l_11)],[]⟩)] Hp.none 0) = some o := stR C 11 (fun _ _ => by kernel_rfl) ho
theorem p3_4 {c_12 tg_15 : Bool} {x_13 x_14 : Int} {l_16 : List AV} (ho : Tr.val C 3
 (.br (decide ((0 : Int) ≤ x_13))
 (.br (decide (x_13 < (((List.length l_16) : Nat) : Int)))
 (.bind (nth l_16 (Int.toNat x_13)) fun c5 =>
 (.mid 0 qM5 5 (mkS 56 [(5,.lp 5 0),vb 6 c_12,vi 7 x_13,vi 8 x_14,vi 30 x_14,(31,.lp 5 0),vv 32 (.vs 6 tg_15 l_16),vi 33 x_13,vv 34 (.cptr (AV.cells c5))] [(5,⟨[(.vs 6 tg_15 l_16)],[]⟩)] Hp.none 0)))
 .none)
 .none) = some o) : RL C 3 qM3 (mkS 56 [(5,.lp 5 0),vb 6 c_12,vi 7 x_13,vi 8 x_14] [(5,⟨[(.vs 6 tg_15 l_16)],[]⟩)] Hp.none 0) = some o := stR C 3 (fun _ _ => by kernel_rfl) ho
theorem p3_5 {c_8 tg_10 c_17 : Bool} {x_9 : Int} {l_11 : List AV} (ho : Tr.val C 3
 (.ret ⟨(.bool c_17),Hp.none,0⟩) = some o) : ML C 3 qM1 1 (mkS 56 [(5,.lp 5 0),vb 6 c_8,vi 7 x_9,vb 27 false,vb 55 c_17] [(5,⟨[(.vs 6 tg_10 l_11)],[]⟩)] Hp.none 0) = some o := stM C 1 (fun _ _ => by kernel_rfl) ho
theorem p3_6 {c_12 tg_15 tg_20 tg_22 tg_24 tg_26 : Bool} {x_13 x_14 x_28 : Int} {l_16 l_21 l_23 l_25 l_27 : List AV} {s_19 : List UInt8} (ho : Tr.val C 3
 (.br (decide (x_14 < (((List.length l_23) : Nat) : Int)))
 (.br (decide ((0 : Int) ≤ x_13))
 (.br (decide (x_13 < (((List.length l_16) : Nat) : Int)))
 (.bind (nth l_16 (Int.toNat x_13)) fun c6 =>
 (.mid 0 qM0 4 (mkS 56 [(5,.lp 5 0),vb 6 c_12,vi 7 x_13,vi 8 x_14,vb 38 true,(41,.lp 5 0),vv 42 (.vs 6 tg_15 l_16),vi 43 x_13,vv 44 (.cptr (AV.cells c6))] [(5,⟨[(.vs 6 tg_15 l_16)],[]⟩)] Hp.none 0)))
 .none)
 .none)
 (.run 1 qM2 (mkS 56 [(5,.lp 5 0),vb 6 c_12,vi 7 (IntKind.wrap .i64 (x_13 + 1))] [(5,⟨[(.vs 6 tg_15 l_16)],[]⟩)] Hp.none 0))) = some o) : ML C 3 qM5 5 (mkS 56 [(5,.lp 5 0),vb 6 c_12,vi 7 x_13,vi 8 x_14,vi 30 x_14,(31,.lp 5 0),vv 32 (.vs 6 tg_15 l_16),vi 33 x_13,vv 34 (.cptr [(.str s_19),(.vs 4 tg_20 l_21),(.vs 4 tg_22 l_23),(.vs 8 tg_24 l_25),(.vs 2 tg_26 l_27),(i6 x_28)])] [(5,⟨[(.vs 6 tg_15 l_16)],[]⟩)] Hp.none 0) = some o := stM C 6 (fun _ _ => by kernel_rfl) ho
theorem p3_7 {c_12 tg_15 tg_30 tg_32 tg_34 tg_36 : Bool} {x_13 x_14 x_38 : Int} {l_16 l_31 l_33 l_35 l_37 : List AV} {s_29 : List UInt8} (ho : Tr.val C 3
 (.br (decide ((0 : Int) ≤ x_14))
 (.br (decide (x_14 < (((List.length l_33) : Nat) : Int)))
 (.bind (nth l_33 (Int.toNat x_14)) fun c7 =>
 (.mid 0 qM0 8 (mkS 56 [(5,.lp 5 0),vb 6 c_12,vi 7 x_13,vi 8 x_14,vb 38 true,(41,.lp 5 0),vv 42 (.vs 6 tg_15 l_16),vi 43 x_13,vv 44 (.cptr [(.str s_29),(.vs 4 tg_30 l_31),(.vs 4 tg_32 l_33),(.vs 8 tg_34 l_35),(.vs 2 tg_36 l_37),(i6 x_38)]),vv 45 (.cptr [(.vs 4 tg_32 l_33),(.vs 8 tg_34 l_35),(.vs 2 tg_36 l_37),(i6 x_38)]),vv 46 (.vs 4 tg_32 l_33),vi 47 x_14,vv 48 (.cptr (AV.cells c7))] [(5,⟨[(.vs 6 tg_15 l_16)],[]⟩)] Hp.none 0)))
 .none)
 .none) = some o) : ML C 3 qM0 4 (mkS 56 [(5,.lp 5 0),vb 6 c_12,vi 7 x_13,vi 8 x_14,vb 38 true,(41,.lp 5 0),vv 42 (.vs 6 tg_15 l_16),vi 43 x_13,vv 44 (.cptr [(.str s_29),(.vs 4 tg_30 l_31),(.vs 4 tg_32 l_33),(.vs 8 tg_34 l_35),(.vs 2 tg_36 l_37),(i6 x_38)])] [(5,⟨[(.vs 6 tg_15 l_16)],[]⟩)] Hp.none 0) = some o := stM C 0 (fun _ _ => by kernel_rfl) ho
theorem p3_8 {c_12 tg_15 tg_30 tg_32 tg_34 tg_36 tg_40 tg_42 : Bool} {x_13 x_14 x_38 x_44 : Int} {l_16 l_31 l_33 l_35 l_37 l_41 l_43 : List AV} {s_29 s_39 : List UInt8} (ho : Tr.val C 3
 (.br (pureL [(.agg [(.str s_39),(.vs 3 tg_40 l_41),(.vs 6 tg_42 l_43),(.int .i64 x_44)])])
 (cl0 16 [(.agg [(.str s_39),(.vs 3 tg_40 l_41),(.vs 6 tg_42 l_43),(.int .i64 x_44)])] fun r8 => .br (AV.pure r8.v)
 (.br (AV.pure r8.v)
 (.mid 0 qM4 2 (mkS 56 [(5,.lp 5 0),vb 6 c_12,vi 7 x_13,vi 8 x_14,(9,.lp 9 0),vv 50 (.agg [(.str s_39),(.vs 3 tg_40 l_41),(.vs 6 tg_42 l_43),(i6 x_44)]),vv 51 r8.v] [(5,⟨[(.vs 6 tg_15 l_16)],[]⟩),(9,⟨[(.str s_39),(.vs 3 tg_40 l_41),(.vs 6 tg_42 l_43),(i6 x_44)],[]⟩)] Hp.none 0))
 .none) .none)
 .none) = some o) : ML C 3 qM0 8 (mkS 56 [(5,.lp 5 0),vb 6 c_12,vi 7 x_13,vi 8 x_14,vb 38 true,(41,.lp 5 0),vv 42 (.vs 6 tg_15 l_16),vi 43 x_13,vv 44 (.cptr [(.str s_29),(.vs 4 tg_30 l_31),(.vs 4 tg_32 l_33),(.vs 8 tg_34 l_35),(.vs 2 tg_36 l_37),(i6 x_38)]),vv 45 (.cptr [(.vs 4 tg_32 l_33),(.vs 8 tg_34 l_35),(.vs 2 tg_36 l_37),(i6 x_38)]),vv 46 (.vs 4 tg_32 l_33),vi 47 x_14,vv 48 (.cptr [(.str s_39),(.vs 3 tg_40 l_41),(.vs 6 tg_42 l_43),(i6 x_44)])] [(5,⟨[(.vs 6 tg_15 l_16)],[]⟩)] Hp.none 0) = some o := stM C 2 (fun _ _ => by kernel_rfl) ho
theorem p3_9 {c_12 tg_15 tg_40 tg_42 : Bool} {x_13 x_14 x_44 x_45 : Int} {l_16 l_41 l_43 : List AV} {s_39 : List UInt8} (ho : Tr.val C 3
 (.br (pureL [(.agg [(.str s_39),(.vs 3 tg_40 l_41),(.vs 6 tg_42 l_43),(.int .i64 x_44)])])
 (cl0 17 [(.agg [(.str s_39),(.vs 3 tg_40 l_41),(.vs 6 tg_42 l_43),(.int .i64 x_44)])] fun r9 => .br (AV.pure r9.v)
 (.br (AV.pure r9.v)
 (.mid 0 qM4 4 (mkS 56 [(5,.lp 5 0),vb 6 c_12,vi 7 x_13,vi 8 x_14,(9,.lp 9 0),vv 50 (.agg [(.str s_39),(.vs 3 tg_40 l_41),(.vs 6 tg_42 l_43),(i6 x_44)]),vi 51 x_45,vv 52 (.agg [(.str s_39),(.vs 3 tg_40 l_41),(.vs 6 tg_42 l_43),(i6 x_44)]),vv 53 r9.v] [(5,⟨[(.vs 6 tg_15 l_16)],[]⟩),(9,⟨[(.str s_39),(.vs 3 tg_40 l_41),(.vs 6 tg_42 l_43),(i6 x_44)],[]⟩)] Hp.none 0))
 .none) .none)
 .none) = some o) : ML C 3 qM4 2 (mkS 56 [(5,.lp 5 0),vb 6 c_12,vi 7 x_13,vi 8 x_14,(9,.lp 9 0),vv 50 (.agg [(.str s_39),(.vs 3 tg_40 l_41),(.vs 6 tg_42 l_43),(i6 x_44)]),vi 51 x_45] [(5,⟨[(.vs 6 tg_15 l_16)],[]⟩),(9,⟨[(.str s_39),(.vs 3 tg_40 l_41),(.vs 6 tg_42 l_43),(i6 x_44)],[]⟩)] Hp.none 0) = some o := stM C 0 (fun _ _ => by kernel_rfl) ho
theorem p3_10 {c_12 tg_15 tg_40 tg_42 : Bool} {x_13 x_14 x_44 x_45 x_46 : Int} {l_16 l_41 l_43 : List AV} {s_39 : List UInt8} (ho : Tr.val C 3
 (.br (!(decide (x_45 = x_46)))
 (.ret ⟨(.bool false),Hp.none,0⟩)
 (.run 0 qM3 (mkS 56 [(5,.lp 5 0),vb 6 c_12,vi 7 x_13,vi 8 (IntKind.wrap .i64 (x_14 + 1))] [(5,⟨[(.vs 6 tg_15 l_16)],[]⟩),(9,⟨[(.str s_39),(.vs 3 tg_40 l_41),(.vs 6 tg_42 l_43),(i6 x_44)],[]⟩)] Hp.none 0))) = some o) : ML C 3 qM4 4 (mkS 56 [(5,.lp 5 0),vb 6 c_12,vi 7 x_13,vi 8 x_14,(9,.lp 9 0),vv 50 (.agg [(.str s_39),(.vs 3 tg_40 l_41),(.vs 6 tg_42 l_43),(i6 x_44)]),vi 51 x_45,vv 52 (.agg [(.str s_39),(.vs 3 tg_40 l_41),(.vs 6 tg_42 l_43),(i6 x_44)]),vi 53 x_46] [(5,⟨[(.vs 6 tg_15 l_16)],[]⟩),(9,⟨[(.str s_39),(.vs 3 tg_40 l_41),(.vs 6 tg_42 l_43),(i6 x_44)],[]⟩)] Hp.none 0) = some o := stM C 5 (fun _ _ => by kernel_rfl) ho
theorem p3_11 {c_47 tg_50 tg_53 tg_55 : Bool} {x_48 x_49 x_57 : Int} {l_51 l_54 l_56 : List AV} {s_52 : List UInt8} (ho : Tr.val C 3
 (.br (decide ((0 : Int) ≤ x_48))
 (.br (decide (x_48 < (((List.length l_51) : Nat) : Int)))
 (.bind (nth l_51 (Int.toNat x_48)) fun c10 =>
 (.mid 0 qM5 5 (mkS 56 [(5,.lp 5 0),vb 6 c_47,vi 7 x_48,vi 8 x_49,vi 30 x_49,(31,.lp 5 0),vv 32 (.vs 6 tg_50 l_51),vi 33 x_48,vv 34 (.cptr (AV.cells c10))] [(5,⟨[(.vs 6 tg_50 l_51)],[]⟩),(9,⟨[(.str s_52),(.vs 3 tg_53 l_54),(.vs 6 tg_55 l_56),(i6 x_57)],[]⟩)] Hp.none 0)))
 .none)
 .none) = some o) : RL C 3 qM3 (mkS 56 [(5,.lp 5 0),vb 6 c_47,vi 7 x_48,vi 8 x_49] [(5,⟨[(.vs 6 tg_50 l_51)],[]⟩),(9,⟨[(.str s_52),(.vs 3 tg_53 l_54),(.vs 6 tg_55 l_56),(i6 x_57)],[]⟩)] Hp.none 0) = some o := stR C 3 (fun _ _ => by kernel_rfl) ho
theorem p3_12 {c_47 tg_50 tg_53 tg_55 tg_59 tg_61 tg_63 tg_65 : Bool} {x_48 x_49 x_57 x_67 : Int} {l_51 l_54 l_56 l_60 l_62 l_64 l_66 : List AV} {s_52 s_58 : List UInt8} (ho : Tr.val C 3
 (.br (decide (x_49 < (((List.length l_62) : Nat) : Int)))
 (.br (decide ((0 : Int) ≤ x_48))
 (.br (decide (x_48 < (((List.length l_51) : Nat) : Int)))
 (.bind (nth l_51 (Int.toNat x_48)) fun c11 =>
 (.mid 0 qM0 4 (mkS 56 [(5,.lp 5 0),vb 6 c_47,vi 7 x_48,vi 8 x_49,vb 38 true,(41,.lp 5 0),vv 42 (.vs 6 tg_50 l_51),vi 43 x_48,vv 44 (.cptr (AV.cells c11))] [(5,⟨[(.vs 6 tg_50 l_51)],[]⟩),(9,⟨[(.str s_52),(.vs 3 tg_53 l_54),(.vs 6 tg_55 l_56),(i6 x_57)],[]⟩)] Hp.none 0)))
 .none)
 .none)
 (.run 1 qM2 (mkS 56 [(5,.lp 5 0),vb 6 c_47,vi 7 (IntKind.wrap .i64 (x_48 + 1))] [(5,⟨[(.vs 6 tg_50 l_51)],[]⟩),(9,⟨[(.str s_52),(.vs 3 tg_53 l_54),(.vs 6 tg_55 l_56),(i6 x_57)],[]⟩)] Hp.none 0))) = some o) : ML C 3 qM5 5 (mkS 56 [(5,.lp 5 0),vb 6 c_47,vi 7 x_48,vi 8 x_49,vi 30 x_49,(31,.lp 5 0),vv 32 (.vs 6 tg_50 l_51),vi 33 x_48,vv 34 (.cptr [(.str s_58),(.vs 4 tg_59 l_60),(.vs 4 tg_61 l_62),(.vs 8 tg_63 l_64),(.vs 2 tg_65 l_66),(i6 x_67)])] [(5,⟨[(.vs 6 tg_50 l_51)],[]⟩),(9,⟨[(.str s_52),(.vs 3 tg_53 l_54),(.vs 6 tg_55 l_56),(i6 x_57)],[]⟩)] Hp.none 0) = some o := stM C 6 (fun _ _ => by kernel_rfl) ho
theorem p3_13 {c_47 tg_50 tg_53 tg_55 tg_69 tg_71 tg_73 tg_75 : Bool} {x_48 x_49 x_57 x_77 : Int} {l_51 l_54 l_56 l_70 l_72 l_74 l_76 : List AV} {s_52 s_68 : List UInt8} (ho : Tr.val C 3
 (.br (decide ((0 : Int) ≤ x_49))
 (.br (decide (x_49 < (((List.length l_72) : Nat) : Int)))
 (.bind (nth l_72 (Int.toNat x_49)) fun c12 =>
 (.mid 0 qM0 8 (mkS 56 [(5,.lp 5 0),vb 6 c_47,vi 7 x_48,vi 8 x_49,vb 38 true,(41,.lp 5 0),vv 42 (.vs 6 tg_50 l_51),vi 43 x_48,vv 44 (.cptr [(.str s_68),(.vs 4 tg_69 l_70),(.vs 4 tg_71 l_72),(.vs 8 tg_73 l_74),(.vs 2 tg_75 l_76),(i6 x_77)]),vv 45 (.cptr [(.vs 4 tg_71 l_72),(.vs 8 tg_73 l_74),(.vs 2 tg_75 l_76),(i6 x_77)]),vv 46 (.vs 4 tg_71 l_72),vi 47 x_49,vv 48 (.cptr (AV.cells c12))] [(5,⟨[(.vs 6 tg_50 l_51)],[]⟩),(9,⟨[(.str s_52),(.vs 3 tg_53 l_54),(.vs 6 tg_55 l_56),(i6 x_57)],[]⟩)] Hp.none 0)))
 .none)
 .none) = some o) : ML C 3 qM0 4 (mkS 56 [(5,.lp 5 0),vb 6 c_47,vi 7 x_48,vi 8 x_49,vb 38 true,(41,.lp 5 0),vv 42 (.vs 6 tg_50 l_51),vi 43 x_48,vv 44 (.cptr [(.str s_68),(.vs 4 tg_69 l_70),(.vs 4 tg_71 l_72),(.vs 8 tg_73 l_74),(.vs 2 tg_75 l_76),(i6 x_77)])] [(5,⟨[(.vs 6 tg_50 l_51)],[]⟩),(9,⟨[(.str s_52),(.vs 3 tg_53 l_54),(.vs 6 tg_55 l_56),(i6 x_57)],[]⟩)] Hp.none 0) = some o := stM C 0 (fun _ _ => by kernel_rfl) ho
theorem p3_14 {c_78 tg_80 tg_83 tg_85 : Bool} {x_79 x_87 : Int} {l_81 l_84 l_86 : List AV} {s_82 : List UInt8} (ho : Tr.val C 3
 (.br c_78
 (.br (decide (x_79 < (((List.length l_81) : Nat) : Int)))
 (.run 0 qM3 (mkS 56 [(5,.lp 5 0),vb 6 c_78,vi 7 x_79,vi 8 0] [(5,⟨[(.vs 6 tg_80 l_81)],[]⟩),(9,⟨[(.str s_82),(.vs 3 tg_83 l_84),(.vs 6 tg_85 l_86),(i6 x_87)],[]⟩)] Hp.none 0))
 (cl0 14 [] fun r13 => .br (AV.pure r13.v)
 (.mid 4 qM1 1 (mkS 56 [(5,.lp 5 0),vb 6 c_78,vi 7 x_79,vb 27 false,vv 55 r13.v] [(5,⟨[(.vs 6 tg_80 l_81)],[]⟩),(9,⟨[(.str s_82),(.vs 3 tg_83 l_84),(.vs 6 tg_85 l_86),(i6 x_87)],[]⟩)] Hp.none 0)) .none))
 (cl0 14 [] fun r14 => .br (AV.pure r14.v)
 (.mid 4 qM1 1 (mkS 56 [(5,.lp 5 0),vb 6 c_78,vi 7 x_79,vb 27 false,vv 55 r14.v] [(5,⟨[(.vs 6 tg_80 l_81)],[]⟩),(9,⟨[(.str s_82),(.vs 3 tg_83 l_84),(.vs 6 tg_85 l_86),(i6 x_87)],[]⟩)] Hp.none 0)) .none)) = some o) : RL C 3 qM2 (mkS 56 [(5,.lp 5 0),vb 6 c_78,vi 7 x_79] [(5,⟨[(.vs 6 tg_80 l_81)],[]⟩),(9,⟨[(.str s_82),(.vs 3 tg_83 l_84),(.vs 6 tg_85 l_86),(i6 x_87)],[]⟩)] Hp.none 0) = some o := stR C 11 (fun _ _ => by kernel_rfl) ho
theorem p3_15 {c_47 tg_50 tg_53 tg_55 tg_69 tg_71 tg_73 tg_75 tg_89 tg_91 : Bool} {x_48 x_49 x_57 x_77 x_93 : Int} {l_51 l_54 l_56 l_70 l_72 l_74 l_76 l_90 l_92 : List AV} {s_52 s_68 s_88 : List UInt8} (ho : Tr.val C 3
 (.br (pureL [(.agg [(.str s_88),(.vs 3 tg_89 l_90),(.vs 6 tg_91 l_92),(.int .i64 x_93)])])
 (cl0 16 [(.agg [(.str s_88),(.vs 3 tg_89 l_90),(.vs 6 tg_91 l_92),(.int .i64 x_93)])] fun r15 => .br (AV.pure r15.v)
 (.br (AV.pure r15.v)
 (.mid 0 qM4 2 (mkS 56 [(5,.lp 5 0),vb 6 c_47,vi 7 x_48,vi 8 x_49,(9,.lp 9 0),vv 50 (.agg [(.str s_88),(.vs 3 tg_89 l_90),(.vs 6 tg_91 l_92),(i6 x_93)]),vv 51 r15.v] [(5,⟨[(.vs 6 tg_50 l_51)],[]⟩),(9,⟨[(.str s_88),(.vs 3 tg_89 l_90),(.vs 6 tg_91 l_92),(i6 x_93)],[]⟩)] Hp.none 0))
 .none) .none)
 .none) = some o) : ML C 3 qM0 8 (mkS 56 [(5,.lp 5 0),vb 6 c_47,vi 7 x_48,vi 8 x_49,vb 38 true,(41,.lp 5 0),vv 42 (.vs 6 tg_50 l_51),vi 43 x_48,vv 44 (.cptr [(.str s_68),(.vs 4 tg_69 l_70),(.vs 4 tg_71 l_72),(.vs 8 tg_73 l_74),(.vs 2 tg_75 l_76),(i6 x_77)]),vv 45 (.cptr [(.vs 4 tg_71 l_72),(.vs 8 tg_73 l_74),(.vs 2 tg_75 l_76),(i6 x_77)]),vv 46 (.vs 4 tg_71 l_72),vi 47 x_49,vv 48 (.cptr [(.str s_88),(.vs 3 tg_89 l_90),(.vs 6 tg_91 l_92),(i6 x_93)])] [(5,⟨[(.vs 6 tg_50 l_51)],[]⟩),(9,⟨[(.str s_52),(.vs 3 tg_53 l_54),(.vs 6 tg_55 l_56),(i6 x_57)],[]⟩)] Hp.none 0) = some o := stM C 2 (fun _ _ => by kernel_rfl) ho
theorem p3_16 {c_78 tg_80 tg_83 tg_85 c_94 : Bool} {x_79 x_87 : Int} {l_81 l_84 l_86 : List AV} {s_82 : List UInt8} (ho : Tr.val C 3
 (.ret ⟨(.bool c_94),Hp.none,0⟩) = some o) : ML C 3 qM1 1 (mkS 56 [(5,.lp 5 0),vb 6 c_78,vi 7 x_79,vb 27 false,vb 55 c_94] [(5,⟨[(.vs 6 tg_80 l_81)],[]⟩),(9,⟨[(.str s_82),(.vs 3 tg_83 l_84),(.vs 6 tg_85 l_86),(i6 x_87)],[]⟩)] Hp.none 0) = some o := stM C 1 (fun _ _ => by kernel_rfl) ho
end Go.Proofs.YtfdklpkfpmkgeaaGreatDoor
end
section
namespace Go.Proofs.YtfdklpkfpmkgeaaGreatDoor
open Go Go.Vai
attribute [local irreducible] goTo bodyOf mkS
def QT (o : Out) : Prop := o.v = .bool true
def XO (X : List (Nat × Blk)) : Prop := X = [] ∨ ∃ a b c d e f,X = [(9,⟨[.str a,.vs 3 b c,.vs 6 d e,.int .i64 f],[]⟩)]
theorem XO.one (o : Opn) : XO [(9,⟨[.str o.name,.vs 3 o.tgP (o.params.map Par.av),.vs 6 o.tgB (stms o.body),.int .i64 o.at_],[]⟩)] := .inr ⟨_,_,_,_,_,_,rfl⟩
variable {C : Nat→Oracle} (hC : Ext C) (haw : Was (calL C 14 [] Hp.none 0) QT)
section
variable (tg : Bool) (ts : List Typ) (hts : TsOk ts) (c : Bool) (i : Nat) (hi : i < ts.length) (t : Typ) (ht : ts[i]? = some t)
include hC hts hi ht
theorem cls_inner (hout : ∀ X,XO X→Was (RL C 3 [0,5,0,0,5,7,5,0,5,0,0,5,2,3] (mkS 56 [(5,.lp 5 0),(6,.val (.bool c) .no),(7,.val (.int .i64 ((i + 1 : Nat) : Int)) .no)] ([(5,⟨[(.vs 6 tg (ts.map Typ.av))],[]⟩)] ++ X) Hp.none 0)) QT) :
  ∀ (r : List Opn) (k : Nat) (X : List (Nat × Blk)),t.ops.drop k = r→k ≤ t.ops.length→XO X →
  Was (RL C 3 [0,5,0,0,5,7,5,0,5,0,0,5,2,3,0,0,5,6,5,0,2,0,5,2,3] (mkS 56 [(5,.lp 5 0),(6,.val (.bool c) .no),(7,.val (.int .i64 (i : Int)) .no),(8,.val (.int .i64 (k : Int)) .no)] ([(5,⟨[(.vs 6 tg (ts.map Typ.av))],[]⟩)] ++ X) Hp.none 0)) QT:=by
 intro r
 have h20 := hts.1
 have hT := hts.2 t (List.mem_of_getElem? ht)
 have hop : t.ops.length ≤ 9000 := by have := hT.tot; unfold Typ.tot at this; omega
 have hn : nth (ts.map Typ.av) (Int.toNat (i : Int)) = some t.av := by rw [Int.toNat_natCast,nth_get,List.getElem?_map,ht]; rfl
 have wi : IntKind.wrap .i64 ((i : Int) + 1) = ((i + 1 : Nat) : Int) := by rw [wrap64 (by omega) (by omega)]; omega
 induction r with
 | nil =>
  intro k X hk hkl hX
  have := drop_nil_len _ _ hkl hk
  rcases hX with rfl | ⟨a,b,c',d,e,f,rfl⟩
  all_goals
   simp only [List.append_nil,List.cons_append,List.nil_append]
   first | refine exW (fun o=>p3_4) ?_ | refine exW (fun o=>p3_11) ?_
   simp only [Tr.val,List.length_map,hn,Option.bind_some,Typ.av,AV.cells,Typ.cs]
   refine .bT (by omega) (.bT (by omega) ?_)
   first | refine exW (fun o=>p3_6) ?_ | refine exW (fun o=>p3_12) ?_
   simp only [Tr.val,List.length_map,wi]
   refine .bF (by omega) ?_
   first | exact hout [] (.inl rfl) | exact hout _ (.inr ⟨_,_,_,_,_,_,rfl⟩)
 | cons o r IH =>
  intro k X hk hkl hX
  obtain ⟨g1,g2,g3⟩ := getq_drop _ _ hk
  have hn2 : nth (t.ops.map Opn.av) (Int.toNat (k : Int)) = some o.av := by rw [Int.toNat_natCast,nth_get,List.getElem?_map,g1]; rfl
  obtain ⟨x,h16,h17⟩ := w1617 hC o (hT.ops o (List.mem_of_getElem? g1))
  have wk : IntKind.wrap .i64 ((k : Int) + 1) = ((k + 1 : Nat) : Int) := by rw [wrap64 (by omega) (by omega)]; omega
  rcases hX with rfl | ⟨a,b,c',d,e,f,rfl⟩
  all_goals
   simp only [List.append_nil,List.cons_append,List.nil_append]
   first | refine exW (fun o=>p3_4) ?_ | refine exW (fun o=>p3_11) ?_
   simp only [Tr.val,List.length_map,hn,Option.bind_some,Typ.av,AV.cells,Typ.cs]
   refine .bT (by omega) (.bT (by omega) ?_)
   first | refine exW (fun o=>p3_6) ?_ | refine exW (fun o=>p3_12) ?_
   simp only [Tr.val,List.length_map,hn,Option.bind_some,Typ.av,AV.cells,Typ.cs]
   refine .bT (by omega) (.bT (by omega) (.bT (by omega) ?_))
   first | refine exW (fun o=>p3_7) ?_ | refine exW (fun o=>p3_13) ?_
   simp only [Tr.val,List.length_map,hn2,Option.bind_some,Opn.av,AV.cells]
   refine .bT (by omega) (.bT (by omega) ?_)
   first | refine exW (fun o=>p3_8) ?_ | refine exW (fun o=>p3_15) ?_
   simp only [Tr.val,pureL,AV.pure,pure_pars,pure_stms,br_true]
   refine .call h16 ?_
   rintro q e1
   simp only [e1,AV.pure,br_true]
   first | refine exW (fun o=>p3_9) ?_ | refine exW (fun o=>p3_16) ?_ | refine exW (fun o=>p3_17) ?_
   simp only [Tr.val,pureL,AV.pure,pure_pars,pure_stms,br_true]
   refine .call h17 ?_
   rintro q e2
   simp only [e2,AV.pure,br_true]
   first | refine exW (fun o=>p3_10) ?_ | refine exW (fun o=>p3_16) ?_ | refine exW (fun o=>p3_17) ?_
   simp only [Tr.val,wk,decide_true,Bool.not_true,br_false]
   exact IH (k + 1) _ g2 (by omega) (XO.one o)
end
include hC haw
theorem cls_outer (tg : Bool) (ts : List Typ) (hts : TsOk ts) (c : Bool) : ∀ (r : List Typ) (i : Nat) (X : List (Nat × Blk)),ts.drop i = r→i ≤ ts.length→XO X →
  Was (RL C 3 [0,5,0,0,5,7,5,0,5,0,0,5,2,3] (mkS 56 [(5,.lp 5 0),(6,.val (.bool c) .no),(7,.val (.int .i64 (i : Int)) .no)] ([(5,⟨[(.vs 6 tg (ts.map Typ.av))],[]⟩)] ++ X) Hp.none 0)) QT:=by
 intro r
 have aw : ∀ (F : Out→Option Out),(∀ o,QT o→Was (F o) QT)→Was ((calL C 14 [] Hp.none 0).bind F) QT := fun F h=>.call haw h
 induction r with
 | nil =>
  intro i X hi hil hX
  have := drop_nil_len _ _ hil hi
  rcases hX with rfl | ⟨a,b,c',d,e,f,rfl⟩
  all_goals
   simp only [List.append_nil,List.cons_append,List.nil_append]
   first | refine exW (fun o=>p3_3) ?_ | refine exW (fun o=>p3_14) ?_
   simp only [Tr.val,List.length_map,pureL,br_true]
   refine .both (fun _=>.bF (by omega) ?_) (fun _=>?_)
   all_goals
    refine aw _ ?_
    rintro o e1
    unfold QT at e1
    simp only [e1,AV.pure,br_true]
    first | refine exW (fun o=>p3_5) ?_ | refine exW (fun o=>p3_16) ?_ | refine exW (fun o=>p3_17) ?_
    exact .mk rfl
 | cons t r IH =>
  intro i X hi hil hX
  obtain ⟨g1,g2,g3⟩ := getq_drop _ _ hi
  rcases hX with rfl | ⟨a,b,c',d,e,f,rfl⟩
  all_goals
   simp only [List.append_nil,List.cons_append,List.nil_append]
   first | refine exW (fun o=>p3_3) ?_ | refine exW (fun o=>p3_14) ?_
   simp only [Tr.val,List.length_map,pureL,br_true]
   refine .both (fun _=>.bT (by omega) ?_) (fun _=>?_)
   ·first
     | exact cls_inner hC tg ts hts c i g3 t g1 (fun X hX=>IH (i + 1) X g2 (by omega) hX) _ 0 [] rfl (Nat.zero_le _) (.inl rfl)
     | exact cls_inner hC tg ts hts c i g3 t g1 (fun X hX=>IH (i + 1) X g2 (by omega) hX) _ 0 _ rfl (Nat.zero_le _) (.inr ⟨_,_,_,_,_,_,rfl⟩)
   ·refine aw _ ?_
    rintro o e1
    unfold QT at e1
    simp only [e1,AV.pure,br_true]
    first | refine exW (fun o=>p3_5) ?_ | refine exW (fun o=>p3_16) ?_ | refine exW (fun o=>p3_17) ?_
    exact .mk rfl
theorem w3 (tg : Bool) (l : List Int) (b : Bool) : Was (calL C 3 [.vs 1 tg (ints l),.bool b] Hp.none 0) QT:=by
 refine exW (fun o=>p3_c hC) (exW (fun o=>p3_0) ?_)
 simp only [Tr.val,len_ints,pureL,AV.pure,pure_ints,br_true]
 refine .dec (fun h=>?_) fun h=>?_
 ·refine .call haw ?_
  rintro o e1
  unfold QT at e1
  simp only [e1,AV.pure,br_true]
  refine exW (fun o=>p3_1) ?_
  exact .mk rfl
 ·refine .call (w15 hC tg l (by omega) b) ?_
  rintro o ⟨tg',ts,c,e,hts⟩
  simp only [e,AV.pure,pureL,pure_typs,br_true]
  refine exW (fun o=>p3_2) ?_
  exact cls_outer hC haw tg' ts hts c ts 0 [] rfl (Nat.zero_le _) (.inl rfl)
end Go.Proofs.YtfdklpkfpmkgeaaGreatDoor
end
section
namespace Go.Proofs.YtfdklpkfpmkgeaaGreatDoor
open Go Go.Vai
noncomputable def bs : Oracle := orCal aCal xCal
theorem bs_ok : CalOk Tryz.prog ann bs := orCal_ok aCal_ok xCal_ok
theorem aCal_no {g : Nat} (args : List AV) (H : Hp) (nx : Nat) (h : Nat.beq g 14 = false) : aCal g args H nx = none:=by
 unfold aCal baseCal
 rw [h]
theorem bs_no {g : Nat} (args : List AV) (H : Hp) (nx : Nat) (h : Nat.beq g 14 = false) : bs g args H nx = xCal g args H nx:=by
 unfold bs orCal
 rw [aCal_no args H nx h]
theorem bs_ext : Ext (calW Tryz.prog ann bs) := mkExt bs
 (fun g args H nx h=>bs_no args H nx (by
  cases he : Nat.beq g 14 with
  | false=>rfl
  | true =>
   obtain rfl := Nat.eq_of_beq_eq_true he
   exact absurd (show xCal 14 args H nx = none from rfl) h))
 (fun g args H nx h=>(bs_no args H nx (by
  cases he : Nat.beq g 14 with
  | false=>rfl
  | true =>
   obtain rfl := Nat.eq_of_beq_eq_true he
   cases h)).trans (xCal_no g args H nx h))
theorem bs_aw : Was (calL (calW Tryz.prog ann bs) 14 [] Hp.none 0) QT:=by
 have h := awake_true
 cases e : aCal 14 [] Hp.none 0 with
 | none=>rw [e] at h; cases h
 | some o =>
  rw [e] at h
  refine ⟨o,calB bs ?_,Option.some.inj h⟩
  unfold bs orCal
  rw [e]
theorem c3 (tg : Bool) (l : List Int) (b : Bool) : ∃ d H nx,calW Tryz.prog ann bs d 3 [.vs 1 tg (ints l),.bool b] Hp.none 0 = some ⟨.bool true,H,nx⟩:=by
 obtain ⟨⟨v,H,nx⟩,h1,h2⟩ := w3 bs_ext bs_aw tg l b
 obtain ⟨d,h⟩ := calL_of h1
 exact ⟨d,H,nx,by rw [h,show v = .bool true from h2]⟩
end Go.Proofs.YtfdklpkfpmkgeaaGreatDoor
end
section
namespace Go.Vai
open Go.ChangeShapes Go.WideShapes Go.ChangeAt Go.RowKit
section
variable {H : Type} {enc : TypeId × Value→H} {P : Program} {W : World} {base : Nat}
end
end Go.Vai
end
section
namespace Go.Vai
open Go.ChangeShapes Go.WideShapes Go.ChangeAt Go.RowKit
section
variable {P : Program} {W : World}
theorem laid_mem {n : String} {d : DataW Unit} : ∀ {l : List (String × DataW Unit)} {ps : List MemPlace},DataW.LaidVars P W l ps→(n,d) ∈ l →
  ∃ g t cs fuel p,P.globalNamed n = some g∧(P.globals[g]?).map (·.type) = some t∧W.var? P n = some cs∧DataW.trod (fun _=>()) P W 0 (fun _=>true) false fuel t cs.toList = some (d,p)∧∀ x ∈ MemPlace.row ⟨g,0,none⟩ cs.size,x ∈ ps
 | [],_,_,hm=>by cases hm
 | (n',d') :: l,ps,h,hm=>by
  obtain ⟨g,t,cs,fuel,p,q,h1,h2,h3,h4,h5,rfl⟩ := h
  rcases List.mem_cons.1 hm with he | hm
  ·injection he with e1 e2
   subst e1 e2
   exact ⟨g,t,cs,fuel,p,h1,h2,h3,h4,fun x hx=>by simp [hx]⟩
  ·obtain ⟨g',t',cs',fuel',p',k1,k2,k3,k4,k5⟩ := laid_mem h5 hm
   exact ⟨g',t',cs',fuel',p',k1,k2,k3,k4,fun x hx=>by simp [k5 x hx]⟩
theorem laid_get {l : List (String × DataW Unit)} (h : laidMet P l W) {n : String} {d : DataW Unit} (hm : (n,d) ∈ l) {g t : Nat} (hg : P.globalNamed n = some g) (ht : (P.globals[g]?).map (·.type) = some t) :
  ∃ cs fuel p,(∀ i : Nat,W.cell? ⟨g,i,none⟩ = cs[i]?)∧DataW.trod (fun _=>()) P W 0 (fun _=>true) false fuel t cs = some (d,p)∧∀ u v,cs = [.iface u v]→Value.okWide P W .any 0 u v:=by
 obtain ⟨ps,hl,_,hrows⟩ := h
 obtain ⟨g',t',cs,fuel,p,h1,h2,h3,h4,h5⟩ := laid_mem hl hm
 obtain rfl := Option.some.inj (hg.symm.trans h1)
 obtain rfl := Option.some.inj (ht.symm.trans h2)
 have hc : ∀ i : Nat,W.cell? ⟨g,i,none⟩ = cs.toList[i]? := fun i=>by rw [World.var?_cell h1 h3 i]; simp
 refine ⟨cs.toList,fuel,p,hc,h4,fun u v e=>?_⟩
 have hs : cs.size = 1 := by rw [← Array.length_toList,e]; rfl
 exact (hrows g 0 (h5 _ (by rw [hs]; simp [MemPlace.row]))).2 u v (by rw [hc 0,e]; rfl)
theorem rep_glob {g : Nat} {cs : List Value} {avs : List AV} (hc : ∀ i : Nat,W.cell? ⟨g,i,none⟩ = cs[i]?) (h1 : ∀ u ∈ cs,u.oneCell' = true) (hr : RepL (gStart W) W cs avs) : Rep (gStart W) W (.pointer (some ⟨g,0,none⟩)) (.cptr avs) :=
 .cptr g 0 avs cs hr.1 (fun j u hu=>by
  have hk : W.cell? ⟨g,0 + j,none⟩ = some u := by rw [Nat.zero_add,hc,hu]
  exact ⟨hk,pub_of_cell hk,h1 u (List.mem_of_getElem? hu)⟩) hr.2
theorem spot_none {a : Addr} {u : Value} (h : W.cell? a = some u) : a.spot = none:=by
 obtain ⟨B,o,s⟩ := a
 cases s with
 | none=>rfl
 | some s =>
  unfold World.cell? at h
  split at h
  ·simp at h
  ·cases h
theorem glob_ints {n : String} {k : IntKind} {zs : List Int} {l : List (String × DataW Unit)} (h : laidMet P l W) (hm : (n,.agg (zs.map fun z=>.lit (.int k z))) ∈ l) {g t e : Nat} (hg : P.globalNamed n = some g) (ht : (P.globals[g]?).map (·.type) = some t)
  (hu : P.underlying t = some (.array zs.length e)) (he : P.underlying e = some (.int k)) (hc : P.cellsOf e = 1) (hct : P.cellsOf t = zs.length) :
  Rep (gStart W) W (.pointer (some ⟨g,0,none⟩)) (.cptr (zs.map (.int k))):=by
 obtain ⟨cs,fuel,p,hcell,hd,_⟩ := laid_get h hm hg ht
 obtain ⟨xs,m,_,hx,hlen,hn,hel⟩ := DataW.trod_array hu hd
 injection hx with hx _
 injection hx with hx
 have hcs : cs = zs.map (.int k):=by
  refine List.ext_getElem? fun i=>?_
  by_cases hi : i < zs.length
  ·have h1 := hel i hi
   rw [hc,Nat.mul_one,List.getElem?_eq_getElem (by omega)] at h1
   obtain ⟨z,hz1,hz2,_⟩ := DataW.trod_int he h1
   have h2 : (xs.map (·.1))[i]? = some (.lit (.int k z)) := by rw [List.getElem?_map,List.getElem?_eq_getElem (by omega),hz2]; rfl
   rw [← hx,List.getElem?_map,List.getElem?_eq_getElem hi] at h2
   simp only [Option.map_some,Option.some.injEq,DataW.lit.injEq,Lit.int.injEq,true_and] at h2
   have h3 : ((cs.drop i).take 1)[0]? = cs[i]? := by rw [List.getElem?_take_of_lt (by omega),List.getElem?_drop]; rfl
   rw [← h3,hz1,List.getElem?_map,List.getElem?_eq_getElem hi,h2]
   rfl
  ·rw [List.getElem?_eq_none (by omega),List.getElem?_eq_none (by simp; omega)]
 subst hcs
 refine rep_glob hcell (fun u hu=>?_) ⟨by simp,fun j u c hu hc'=>?_⟩
 ·obtain ⟨z,_,rfl⟩ := List.mem_map.1 hu
  rfl
 ·rw [List.getElem?_map] at hu hc'
  obtain ⟨z,hz,rfl⟩ := Option.map_eq_some_iff.1 hu
  rw [hz] at hc'
  simp only [Option.map_some,Option.some.injEq] at hc'
  subst hc'
  exact .int _ _
theorem repL_one {g : G} {w : World} {u : Value} {v : AV} (h : Rep g w u v) : RepL g w [u] [v] := repL_cons h repL_nil
theorem glob_err {n nm : String} {text : List UInt8} {l : List (String × DataW Unit)} (h : laidMet P l W) (hm : (n,.iface nm (.ptr (.agg [.lit (.string text)]))) ∈ l) {g ti tp te ts : Nat} {ms : Array (String × TypeId)} {f : Field} (hg : P.globalNamed n = some g) (ht : (P.globals[g]?).map (·.type) = some ti)
  (hi : P.underlying ti = some (.interface ms)) (hrow : ∀ u,P.typeName? 3 u = some nm→u = tp)
  (hp : P.underlying tp = some (.pointer te)) (he : P.underlying te = some (.struct #[f])) (hft : f.type = ts) (hfo : f.offset = 0) (hs : P.underlying ts = some .string) (hc : P.cellsOf te = 1) (hcs : P.cellsOf ts = 1) :
  Rep (gStart W) W (.pointer (some ⟨g,0,none⟩)) (.cptr [.iface tp (.cptr [.str text])]):=by
 obtain ⟨cs,fuel,p,hcell,hd,hok⟩ := laid_get h hm hg ht
 obtain ⟨⟨B,o,spot⟩,s,rfl,h1,rfl,_,_⟩ := errorString_of_trod hi hrow hp he hft hfo hs hc hcs hd hok
 obtain rfl : spot = none := spot_none h1
 refine rep_glob hcell (fun u hu=>?_) (repL_one (.iface _ _ _ (.cptr B o _ [.string s] rfl (fun j u hu=>?_) (repL_one (.str s)).2)))
 ·simp only [List.mem_singleton] at hu
  subst hu
  rfl
 ·match j with
  | 0 =>
   simp only [List.getElem?_cons_zero,Option.some.injEq] at hu
   subst hu
   exact ⟨h1,pub_of_cell h1,rfl⟩
  | j + 1=>simp at hu
theorem flat_strs (l : List (List UInt8)) : (l.map AV.str).flatMap AV.cells = l.map AV.str:=by
 induction l with
 | nil=>rfl
 | cons x l ih=>rw [List.map_cons,List.flatMap_cons,ih]; rfl
theorem glob_strs {n : String} {ss : List (List UInt8)} {l : List (String × DataW Unit)} (h : laidMet P l W) (hm : (n,.slice (ss.map fun s=>.lit (.string s)) []) ∈ l) {g t e : Nat} (hg : P.globalNamed n = some g) (ht : (P.globals[g]?).map (·.type) = some t)
  (hu : P.underlying t = some (.slice e)) (he : P.underlying e = some .string) (hc : P.cellsOf e = 1) (h0 : 0 < ss.length) :
  Rep (gStart W) W (.pointer (some ⟨g,0,none⟩)) (.cptr [.vs 1 true (ss.map .str)]):=by
 obtain ⟨cs,fuel,p,hcell,hd,_⟩ := laid_get h hm hg ht
 rcases Go.Deep.open_strs hu he hc hd with ⟨_,hx⟩ | ⟨⟨B,o,spot⟩,len,cap,m,Sx,rfl,_,hle,_,hmm,hx,hS⟩
 ·cases hx
 simp only [if_true] at hmm
 subst hmm
 injection hx with hx _
 injection hx with hx1 hx2
 have hlen : ss.length = len := by have := congrArg List.length hx1; simpa using this
 have hcap : m = ss.length := by have := congrArg List.length hx2; simp at this; omega
 subst hcap
 obtain rfl := hlen
 have hS' : ∀ i,i < ss.length→W.cell? ⟨B,o + i,none⟩ = some (.string (Sx i))∧some (Sx i).data.toList = ss[i]? := fun i hi=>by
  obtain ⟨h1,_⟩ := hS i hi
  have hsp : spot = none:=by
   have := (hS 0 h0).1
   rw [show (⟨B,o,spot⟩ : Addr).add 0 = ⟨B,o,spot⟩ by unfold Addr.add; simp] at this
   exact spot_none this
  subst hsp
  rw [Addr.add_lit] at h1
  refine ⟨h1,?_⟩
  have h2 := congrArg (fun l=>l[i]?) hx1
  simp only [List.getElem?_map,List.getElem?_eq_getElem hi,List.getElem?_range hi,Option.map_some,Option.some.injEq,DataW.lit.injEq,Lit.string.injEq] at h2
  rw [List.getElem?_eq_getElem hi,h2]
 have hsp : spot = none:=by
  have := (hS 0 h0).1
  rw [show (⟨B,o,spot⟩ : Addr).add 0 = ⟨B,o,spot⟩ by unfold Addr.add; simp] at this
  exact spot_none this
 subst hsp
 refine rep_glob hcell (fun u hu=>?_) (repL_one ?_)
 ·simp only [List.mem_singleton] at hu
  subst hu
  rfl
 ·have := Rep.vs (g := gStart W) (w := W) B o ss.length 1 true (ss.map AV.str) ((List.range ss.length).map fun i=>.string (Sx i)) (by rw [flat_strs]; simp) (fun x hx=>by
   obtain ⟨y,_,rfl⟩ := List.mem_map.1 hx
   rfl) (by simp) (by simp) (fun j u hu=>?_) (fun j u c hu hcc=>?_)
  ·rw [List.length_map] at this
   exact this
  ·rw [List.getElem?_map] at hu
   obtain ⟨i,hi,rfl⟩ := Option.map_eq_some_iff.1 hu
   have hj := (List.getElem?_eq_some_iff.1 hi).1
   simp only [List.length_range] at hj
   rw [List.getElem?_range hj] at hi
   obtain rfl := Option.some.inj hi
   exact ⟨(hS' j hj).1,pub_of_cell (hS' j hj).1,rfl⟩
  ·rw [List.getElem?_map] at hu
   rw [flat_strs,List.getElem?_map] at hcc
   obtain ⟨i,hi,rfl⟩ := Option.map_eq_some_iff.1 hu
   have hj := (List.getElem?_eq_some_iff.1 hi).1
   simp only [List.length_range] at hj
   rw [List.getElem?_range hj] at hi
   obtain rfl := Option.some.inj hi
   rw [← (hS' j hj).2] at hcc
   simp only [Option.map_some,Option.some.injEq] at hcc
   subst hcc
   exact .str _
theorem getG_mem : ∀ (L : List (Nat × List AV)) (i : Nat) (cs : List AV),getG L i = some cs→∃ p ∈ L,p.1 = i∧p.2 = cs:=by
 intro L
 induction L with
 | nil=>intro i cs h; cases h
 | cons p L ih =>
  obtain ⟨a,b⟩ := p
  intro i cs h
  unfold getG at h
  split at h
  ·rename_i he
   injection h with h
   exact ⟨_,List.mem_cons_self ..,(Nat.eq_of_beq_eq_true he).symm,h⟩
  ·obtain ⟨q,hq,h1,h2⟩ := ih i cs h
   exact ⟨q,List.mem_cons_of_mem _ hq,h1,h2⟩
theorem globOk_of {A : List (Nat × Ann)} {g : G} {w : World} (h : ∀ p ∈ (getA A 1000000).gl,pureL p.2 = true∧Rep g w (.pointer (some ⟨p.1,0,none⟩)) (.cptr p.2)) : GlobOk A g w := fun i cs hc=>by
 obtain ⟨p,hp,rfl,rfl⟩ := getG_mem _ _ _ hc
 exact h p hp
end
end Go.Vai
end
