/- Types of expressions: the reference's functions. -/
import Derived.Test.YtfdklpkfpmkgeaaGreatDoorM5
import Derived.Test.YtfdklpkfpmkgeaaGreatDoorM6
import Derived.Test.YtfdklpkfpmkgeaaGreatDoorM10
import Derived.Test.YtfdklpkfpmkgeaaGreatDoorM11
set_option linter.unusedSimpArgs false
set_option linter.unusedVariables false
set_option linter.unusedSectionVars false
set_option linter.unnecessarySimpa false
section
namespace Go.Proofs.YtfdklpkfpmkgeaaGreatDoor
open Go Go.Vai
attribute [local irreducible] goTo zas mkS
variable {C : Nat→Oracle} (hC : Ext C)
theorem w55 (hC : Ext C) (e : Ex) (tg : Bool) (ds : List Dg) (c : Bool) (t : Int) (ht : t ≠ 0) : Was (calL C 55 [.agg e.cs,.vs 2 tg (ds.map Dg.av),.bool c,.int .i64 t] Hp.none 0) (RT (opT e ds (if c = true then t else 0))):=by
 refine exW (fun o=>p55_c hC) (exW (fun o=>p55_0) ?_)
 simp only [Tr.val,List.length_map]
 cases ds with
 | cons d l=>exact .bT (by simp only [List.length_cons]; omega) (.mk ⟨_,rfl⟩)
 | nil =>
  refine .bF (by simp) ?_
  unfold opT
  rw [if_pos rfl]
  cases c
  ·simp only [Bool.not_false,za1,Bool.false_eq_true,if_false,if_true]
   exact .mk ⟨_,rfl⟩
  ·simp only [Bool.not_true,zam,if_true,ht,if_false]
   exact .mk ⟨_,rfl⟩
include hC
theorem w103 (w : Sc) (hF : w.t.fields.length ≤ 1000000) (hP : w.ps.length ≤ 1000000) (hq : w.q = true) (x : Ex) : Was (calL C 103 [.agg w.t.cs,.vs 3 w.tg (w.ps.map Par.av),.agg x.cs] Hp.none 0) (fun o=>o.v = .bool (zhw w x)):=by
 refine exW (fun o=>p103_c hC) (exW (fun o=>p103_0) ?_)
 unfold zhw denF
 rw [if_pos hq]
 simp only [Tr.val]
 by_cases h4 : ¬ x.kind = 4
 ·rw [decide_eq_false h4]
  exact .mk rfl
 have h4 := Decidable.of_not_not h4
 rw [decide_eq_true h4]
 simp only [Bool.not_true,zam,Bool.true_and]
 simp only [AV.pure,za7,za5,za6,zab,za4,zac,zaa,za3,za2,za0,za1]
 refine .call (w102 hC w.tg w.ps hP x.s) ?_
 rintro o e
 simp only [AV.pure,za7,za5,za6,zab,za4,zac,zaa,za3,za2,za0,za1,e]
 clear e
 refine exW (fun o=>p103_1) ?_
 simp only [Tr.val,List.length_map,Int.toNat_natCast,zaj,zah,zaf,Option.map_some,Option.bind_some,Fld.av_cs,Par.av_cs,Dg.av_cs,Typ.av_cs,Qry.av_cs,Ex.av_cs,zad,AV.pure,za7,za5,za6,zab,za4,zac,zaa,za3,za2,za0,za1]
 rcases (ze5 (fun p : Par=>eqS p.name x.s) w.ps 0).symm with ⟨k,p,h1,h2,h3⟩ | ⟨h1,h2⟩
 ·rw [h1,show parN w.ps x.s = some p from h3]
  exact .bT (by omega) (.mk rfl)
 rw [h1,show parN w.ps x.s = none from h2]
 refine .bF (by omega) ?_
 refine .call (w54 hC w.t hF x.s) ?_
 rintro o e
 simp only [AV.pure,za7,za5,za6,zab,za4,zac,zaa,za3,za2,za0,za1,e]
 clear e
 refine exW (fun o=>p103_2) ?_
 simp only [Tr.val,List.length_map,Int.toNat_natCast,zaj,zah,zaf,Option.map_some,Option.bind_some,Fld.av_cs,Par.av_cs,Dg.av_cs,Typ.av_cs,Qry.av_cs,Ex.av_cs,zad,AV.pure,za7,za5,za6,zab,za4,zac,zaa,za3,za2,za0,za1]
 rcases ze5 (fun f : Fld=>eqS f.name x.s) w.t.fields 0 with ⟨g1,g2⟩ | ⟨k,f,g1,g2,g3⟩
 ·rw [g1,show fldF w.t.fields x.s = none from g2]
  exact .bF (by omega) (.mk rfl)
 ·rw [g1,show fldF w.t.fields x.s = some f from g3]
  have hk : k < w.t.fields.length := (List.getElem?_eq_some_iff.1 g2).1
  simp only [Nat.zero_add,Int.toNat_natCast,g2,Option.map_some,Option.bind_some,Fld.av_cs,zad]
  refine .bT (by omega) (.bT (by omega) (.bT (by omega) ?_))
  refine exW (fun o=>p103_3) ?_
  exact .mk rfl
theorem w53 (w : Sc) (hF : w.t.fields.length ≤ 1000000) (hk : ∀ f ∈ w.t.fields,1 ≤ f.kind∧f.kind ≤ 5) (hP : w.ps.length ≤ 1000000) (e : Ex) : Was (calL C 53 [.agg w.t.cs,.vs 3 w.tg (w.ps.map Par.av),.agg e.cs,.bool w.q] Hp.none 0) (RT (zqk w e)):=by
 refine exW (fun o=>p53_c hC) ?_
 refine exW (fun o=>p53_0) ?_
 simp only [Tr.val,List.length_map,Int.toNat_natCast,zaj,zah,zaf,Option.map_some,Option.bind_some,Fld.av_cs,Par.av_cs,Dg.av_cs,Typ.av_cs,Qry.av_cs,Ex.av_cs,zad,AV.pure,za7,za5,za6,zab,za4,zac,zaa,za3,za2,za0,za1]
 refine .call (w102 hC w.tg w.ps hP e.s) ?_
 rintro o e1
 simp only [AV.pure,za7,za5,za6,zab,za4,zac,zaa,za3,za2,za0,za1,e1]
 clear e1
 refine exW (fun o=>p53_1) ?_
 simp only [Tr.val,List.length_map,Int.toNat_natCast,zaj,zah,zaf,Option.map_some,Option.bind_some,Fld.av_cs,Par.av_cs,Dg.av_cs,Typ.av_cs,Qry.av_cs,Ex.av_cs,zad,AV.pure,za7,za5,za6,zab,za4,zac,zaa,za3,za2,za0,za1]
 unfold zqk denF
 rcases (ze5 (fun p : Par=>eqS p.name e.s) w.ps 0).symm with ⟨k,p,h1,h2,h3⟩ | ⟨h1,h2⟩
 ·rw [h1,show parN w.ps e.s = some p from h3]
  have hk : k < w.ps.length := (List.getElem?_eq_some_iff.1 h2).1
  simp only [Nat.zero_add,Int.toNat_natCast,h2,Option.map_some,Option.bind_some,Par.av_cs,zad]
  refine .bT (by omega) (.bT (by omega) (.bT (by omega) ?_))
  refine exW (fun o=>p53_2) ?_
  exact .mk ⟨_,rfl⟩
 rw [h1,show parN w.ps e.s = none from h2]
 refine .bF (by omega) ?_
 refine .call (w54 hC w.t hF e.s) ?_
 rintro o e1
 simp only [AV.pure,za7,za5,za6,zab,za4,zac,zaa,za3,za2,za0,za1,e1]
 clear e1
 refine exW (fun o=>p53_3) ?_
 simp only [Tr.val,List.length_map,Int.toNat_natCast,zaj,zah,zaf,Option.map_some,Option.bind_some,Fld.av_cs,Par.av_cs,Dg.av_cs,Typ.av_cs,Qry.av_cs,Ex.av_cs,zad,AV.pure,za7,za5,za6,zab,za4,zac,zaa,za3,za2,za0,za1]
 cases hq : w.q
 ·simp only [Bool.not_false,za1,Bool.false_eq_true,if_false]
  exact .mk ⟨_,rfl⟩
 simp only [Bool.not_true,zam,if_true]
 rcases ze5 (fun f : Fld=>eqS f.name e.s) w.t.fields 0 with ⟨g1,g2⟩ | ⟨k,f,g1,g2,g3⟩
 ·rw [g1,show fldF w.t.fields e.s = none from g2]
  exact .bT (by omega) (.mk ⟨_,rfl⟩)
 ·rw [g1,show fldF w.t.fields e.s = some f from g3]
  have hkl : k < w.t.fields.length := (List.getElem?_eq_some_iff.1 g2).1
  have hkf := hk f (List.mem_of_getElem? g2)
  simp only [Nat.zero_add,Int.toNat_natCast,g2,Option.map_some,Option.bind_some,Fld.av_cs,zad]
  refine .bF (by omega) (.bT (by omega) (.bT (by omega) ?_))
  refine exW (fun o=>p53_4) ?_
  simp only [Tr.val,Nat.zero_add,Int.toNat_natCast,List.length_map,zaj,g2,Option.map_some,Option.bind_some,Fld.av_cs,zad]
  by_cases k1 : f.kind = 1
  ·rw [if_pos k1]
   refine .bT k1 (.bT (by omega) (.bT (by omega) ?_))
   refine exW (fun o=>p53_5) ?_
   exact .mk ⟨_,rfl⟩
  rw [if_neg k1]
  refine .bF k1 ?_
  by_cases k4 : f.kind = 4
  ·rw [if_neg (by omega),if_neg (by omega),if_neg (by omega)]
   exact .bT k4 (.mk ⟨_,rfl⟩)
  refine .bF k4 ?_
  by_cases k5 : f.kind = 5
  ·rw [if_neg (by omega),if_neg (by omega),if_pos k5]
   exact .bT k5 (.mk ⟨_,rfl⟩)
  refine .bF k5 ?_
  by_cases k2 : f.kind = 2
  ·rw [if_pos k2]; exact .mk ⟨_,rfl⟩
  ·rw [if_neg k2,if_pos (by omega)]; exact .mk ⟨_,rfl⟩
set_option maxHeartbeats 4000000 in
theorem w56 (w : Sc) (hF : w.t.fields.length ≤ 1000000) (hP : w.ps.length ≤ 1000000) (k n : Int) (s : List UInt8) (tg : Bool) (x y : Ex) (at' : Int) (a b : Int × List Dg) (ha : a.2.length ≤ 1000000) (hb : b.2.length ≤ 1000000)
  (wx : Was (calL C 24 [.agg w.t.cs,.vs 3 w.tg (w.ps.map Par.av),.agg x.cs,.bool w.q] Hp.none 0) (RT a)) (wy : Was (calL C 24 [.agg w.t.cs,.vs 3 w.tg (w.ps.map Par.av),.agg y.cs,.bool w.q] Hp.none 0) (RT b)) :
  Was (calL C 56 [.agg w.t.cs,.vs 3 w.tg (w.ps.map Par.av),.agg (Ex.mk k n s tg [x,y] at').cs,.bool w.q] Hp.none 0) (RT (hasT w (.mk k n s tg [x,y] at') x a b)):=by
 generalize he : Ex.mk k n s tg [x,y] at' = e
 have hl : e.l = [x,y] := by rw [← he]; rfl
 have n0 : nth (exs e.l) 0 = some (.agg x.cs) := by rw [hl,zah]; simp [x.av_cs]
 have n1 : nth (exs e.l) 1 = some (.agg y.cs) := by rw [hl,zah]; simp [y.av_cs]
 have hll : e.l.length = 2 := by rw [hl]; rfl
 refine exW (fun o=>p56_c hC) ?_
 refine exW (fun o=>p56_0) ?_
 unfold hasT
 by_cases hq : w.q = false
 ·simp only [Tr.val,hq,Bool.not_false,za1,if_true]
  exact .mk ⟨_,rfl⟩
 have hq : w.q = true := by cases h : w.q; exact absurd h hq; rfl
 rw [hq] at wx wy ⊢
 simp only [Tr.val,Bool.not_true,zam,Bool.true_eq_false,if_false,zaf,n0,Option.bind_some,zad]
 refine .bT (by omega) ?_
 refine exW (fun o=>p56_1) ?_
 simp only [Tr.val,List.length_map,Int.toNat_natCast,zaj,zah,zaf,Option.map_some,Option.bind_some,Fld.av_cs,Par.av_cs,Dg.av_cs,Typ.av_cs,Qry.av_cs,Ex.av_cs,zad,AV.pure,za7,za5,za6,zab,za4,zac,zaa,za3,za2,za0,za1]
 refine .call (w103 hC w hF hP hq x) ?_
 rintro o e1
 simp only [AV.pure,za7,za5,za6,zab,za4,zac,zaa,za3,za2,za0,za1,e1]
 clear e1
 refine exW (fun o=>p56_2) ?_
 simp only [Tr.val,zaf,n0,n1,Option.bind_some,zad]
 obtain ⟨a1,a2⟩ := a
 obtain ⟨b1,b2⟩ := b
 simp only at ha hb ⊢
 cases hset : zhw w x
 ·simp only [Bool.not_false,za1,Bool.false_eq_true,if_false,Bool.true_and]
  refine .bT (by omega) ?_
  refine exW (fun o=>p56_3) ?_
  simp only [Tr.val,List.length_map,Int.toNat_natCast,zaj,zah,zaf,Option.map_some,Option.bind_some,Fld.av_cs,Par.av_cs,Dg.av_cs,Typ.av_cs,Qry.av_cs,Ex.av_cs,zad,AV.pure,za7,za5,za6,zab,za4,zac,zaa,za3,za2,za0,za1]
  refine .call wx ?_
  rintro o ⟨tga,e1⟩
  simp only [AV.pure,za7,za5,za6,zab,za4,zac,zaa,za3,za2,za0,za1,e1]
  clear e1
  refine exW (fun o=>p56_5) ?_
  simp only [Tr.val,zaf,n1,Option.bind_some,zad,List.length_map]
  simp only [AV.pure,za7,za5,za6,zab,za4,zac,zaa,za3,za2,za0,za1]
  cases a2 with
  | nil =>
   refine .bT (by simp) (.bT (by omega) ?_)
   refine exW (fun o=>p56_7) ?_
   simp only [Tr.val,List.length_map,Int.toNat_natCast,zaj,zah,zaf,Option.map_some,Option.bind_some,Fld.av_cs,Par.av_cs,Dg.av_cs,Typ.av_cs,Qry.av_cs,Ex.av_cs,zad,AV.pure,za7,za5,za6,zab,za4,zac,zaa,za3,za2,za0,za1]
   refine .call wy ?_
   rintro o ⟨tgb,e1⟩
   simp only [AV.pure,za7,za5,za6,zab,za4,zac,zaa,za3,za2,za0,za1,e1]
   clear e1
   refine exW (fun o=>p56_9) ?_
   simp only [Tr.val,List.length_map]
   simp only [AV.pure,za7,za5,za6,zab,za4,zac,zaa,za3,za2,za0,za1]
   refine .bL (by unfold za9; omega) (.bL (by unfold za9; omega) (.bL (by unfold za9; omega) (.bL (by unfold za9; omega) ?_)))
   simp only [if_true,decide_true,Bool.true_eq_false,false_and,if_false]
   refine .both (fun _=>?_) (fun _=>?_)
   ·refine .both (fun _=>?_) (fun _=>?_)
    all_goals exact zsp (l := ⟨e.at_,12⟩ :: b2) _ rfl _
   ·exact zsp (l := ⟨e.at_,12⟩ :: b2) _ rfl _
  | cons d a2 =>
   refine .bF (by simp only [List.length_cons]; omega) (.bT (by omega) ?_)
   refine exW (fun o=>p56_8) ?_
   simp only [Tr.val,List.length_map,Int.toNat_natCast,zaj,zah,zaf,Option.map_some,Option.bind_some,Fld.av_cs,Par.av_cs,Dg.av_cs,Typ.av_cs,Qry.av_cs,Ex.av_cs,zad,AV.pure,za7,za5,za6,zab,za4,zac,zaa,za3,za2,za0,za1]
   refine .call wy ?_
   rintro o ⟨tgb,e1⟩
   simp only [AV.pure,za7,za5,za6,zab,za4,zac,zaa,za3,za2,za0,za1,e1]
   clear e1
   refine exW (fun o=>p56_10) ?_
   simp only [Tr.val,List.length_map,List.length_append,List.length_singleton,List.nil_append]
   simp only [AV.pure,za7,za5,za6,zab,za4,zac,zaa,za3,za2,za0,za1]
   refine .bL (by unfold za9; omega) (.bL (by unfold za9; omega) (.bL (by unfold za9; omega) (.bL (by unfold za9; omega) ?_)))
   simp only [reduceCtorEq,if_false,decide_false,true_and]
   cases b2 with
   | nil =>
    refine .bT (by simp) ?_
    by_cases h2 : b1 = 2
    ·subst h2
     simp only [decide_true,Bool.not_true,zam,ne_eq,not_true,and_false,if_false]
     refine .bT (by simp only [List.length_cons]; omega) (.mk ⟨false,?_⟩)
     simp [Dg.av]
    ·rw [decide_eq_false h2]
     simp only [Bool.not_false,za1,ne_eq,h2,not_false_eq_true,and_self,if_true]
     refine .bL (by unfold za9; simp only [List.length_nil]; omega) (.bL (by unfold za9; simp only [List.length_nil]; omega) ?_)
     refine .bT (by simp only [List.length_cons]; omega) (.mk ⟨false,?_⟩)
     simp [Dg.av,Dg.cs]
   | cons d' b2 =>
    refine .bF (by simp only [List.length_cons]; omega) ?_
    simp only [reduceCtorEq,false_and,if_false]
    refine .bT (by simp only [List.length_cons]; omega) (.mk ⟨false,?_⟩)
    simp [Dg.av]
 simp only [Bool.not_true,zam,if_true,Bool.false_and,List.nil_append,true_and]
 refine .bT (by omega) ?_
 refine exW (fun o=>p56_4) ?_
 simp only [Tr.val,List.length_map,Int.toNat_natCast,zaj,zah,zaf,Option.map_some,Option.bind_some,Fld.av_cs,Par.av_cs,Dg.av_cs,Typ.av_cs,Qry.av_cs,Ex.av_cs,zad,AV.pure,za7,za5,za6,zab,za4,zac,zaa,za3,za2,za0,za1]
 refine .call wy ?_
 rintro o ⟨tgb,e1⟩
 simp only [AV.pure,za7,za5,za6,zab,za4,zac,zaa,za3,za2,za0,za1,e1]
 clear e1
 refine exW (fun o=>p56_6) ?_
 simp only [Tr.val,List.length_map,List.length_append,List.length_singleton,List.nil_append]
 simp only [AV.pure,za7,za5,za6,zab,za4,zac,zaa,za3,za2,za0,za1]
 refine .bL (by unfold za9; omega) (.bL (by unfold za9; omega) (.bL (by unfold za9; omega) (.bL (by unfold za9; omega) ?_)))
 cases b2 with
 | nil =>
  refine .bT (by simp) ?_
  by_cases h2 : b1 = 2
  ·subst h2
   simp only [decide_true,Bool.not_true,zam,ne_eq,not_true,and_false,if_false]
   refine .bF (by simp) (.mk ⟨true,?_⟩)
   simp
  ·rw [decide_eq_false h2]
   simp only [Bool.not_false,za1,ne_eq,h2,not_false_eq_true,and_self,if_true]
   refine .bL (by unfold za9; simp only [List.length_nil]; omega) (.bL (by unfold za9; simp only [List.length_nil]; omega) ?_)
   refine .bT (by simp) (.mk ⟨false,?_⟩)
   simp [Dg.av,Dg.cs]
 | cons d' b2 =>
  refine .bF (by simp only [List.length_cons]; omega) ?_
  simp only [reduceCtorEq,false_and,if_false]
  refine .bT (by simp only [List.length_cons]; omega) (.mk ⟨false,?_⟩)
  simp [Dg.av]
set_option maxHeartbeats 4000000 in
theorem w24 (w : Sc) (hF : w.t.fields.length ≤ 1000000) (hk : ∀ f ∈ w.t.fields,1 ≤ f.kind∧f.kind ≤ 5) (hP : w.ps.length ≤ 1000000) : ∀ e : Ex,WfE e→e.sz ≤ 1000000→Was (calL C 24 [.agg w.t.cs,.vs 3 w.tg (w.ps.map Par.av),.agg e.cs,.bool w.q] Hp.none 0) (RT (tyE w e)):=by
 intro e he
 induction he with
 | leaf k n s tg a h1 h5 =>
  intro _
  rw [tyE]
  generalize hx : Ex.mk k n s tg [] a = e
  have hkk : 1 ≤ e.kind∧e.kind ≤ 5 := by rw [← hx]; exact ⟨h1,h5⟩
  refine exW (fun o=>p24_c hC) (exW (fun o=>p24_0) ?_)
  simp only [Tr.val,zt0]
  refine .dec (fun h=>?_) (fun h=>?_)
  ·rw [if_pos h]; exact .mk ⟨_,rfl⟩
  rw [if_neg h]
  refine .dec (fun h=>?_) (fun h=>?_)
  ·rw [if_pos h]; exact .mk ⟨_,rfl⟩
  rw [if_neg h]
  refine .dec (fun h=>?_) (fun h=>?_)
  ·rw [if_pos h]; exact .mk ⟨_,rfl⟩
  rw [if_neg h]
  refine .dec (fun h=>?_) (fun h=>?_)
  ·rw [if_pos h]
   simp only [AV.pure,za7,za5,za6,zab,za4,zac,zaa,za3,za2,za0,za1]
   refine .call (w53 hC w hF hk hP e) ?_
   rintro o ⟨tg',e1⟩
   simp only [AV.pure,za7,za5,za6,zab,za4,zac,zaa,za3,za2,za0,za1,e1]
   clear e1
   refine exW (fun o=>p24_1) ?_
   exact .mk ⟨_,rfl⟩
  rw [if_neg h]
  refine .bT (by omega) ?_
  simp only [AV.pure,za7,za5,za6,zab,za4,zac,zaa,za3,za2,za0,za1]
  refine .call (w54 hC w.t hF e.s) ?_
  rintro o e1
  simp only [AV.pure,za7,za5,za6,zab,za4,zac,zaa,za3,za2,za0,za1,e1]
  clear e1
  refine exW (fun o=>p24_2) ?_
  simp only [Tr.val,zqf,List.length_map]
  cases hq : w.q
  ·simp only [Bool.not_false,za1,if_true]
   exact .mk ⟨_,rfl⟩
  simp only [Bool.not_true,zam,Bool.true_eq_false,if_false]
  rcases ze5 (fun f : Fld=>eqS f.name e.s) w.t.fields 0 with ⟨g1,g2⟩ | ⟨k',f,g1,g2,g3⟩
  ·rw [g1,show fldF w.t.fields e.s = none from g2]
   exact .bT (by omega) (.mk ⟨_,rfl⟩)
  rw [g1,show fldF w.t.fields e.s = some f from g3]
  have hkl : k' < w.t.fields.length := (List.getElem?_eq_some_iff.1 g2).1
  simp only [Nat.zero_add,Int.toNat_natCast,zaj,g2,Option.map_some,Option.bind_some,Fld.av_cs,zad]
  refine .bF (by omega) (.bT (by omega) (.bT (by omega) ?_))
  refine exW (fun o=>p24_6) ?_
  simp only [Tr.val]
  by_cases k4 : f.kind = 4
  ·rw [decide_eq_true k4,if_pos k4]; exact .mk ⟨_,rfl⟩
  ·rw [decide_eq_false k4,if_neg k4]; exact .mk ⟨_,rfl⟩
 | un n s tg a x hs hx ih =>
  intro hsz
  simp only [Ex.sz,szE] at hsz
  have wx := ih (by omega)
  rw [tyE]
  generalize tyE w x = r at wx ⊢
  obtain ⟨r1,r2⟩ := r
  have n0 : nth (exs [x]) 0 = some (.agg x.cs) := by rw [zah]; simp [x.av_cs]
  refine exW (fun o=>p24_c hC) (exW (fun o=>p24_0) ?_)
  simp only [Tr.val,show (Ex.mk 6 n s tg [x] a).kind = 6 from rfl,show (Ex.mk 6 n s tg [x] a).l = [x] from rfl,zaf,n0,Option.bind_some,zad]
  refine .bF (by decide) (.bF (by decide) (.bF (by decide) (.bF (by decide) (.bF (by decide) (.bT (by decide) (.bT (by simp) ?_))))))
  refine exW (fun o=>p24_3) ?_
  simp only [Tr.val,List.length_map,Int.toNat_natCast,zaj,zah,zaf,Option.map_some,Option.bind_some,Fld.av_cs,Par.av_cs,Dg.av_cs,Typ.av_cs,Qry.av_cs,Ex.av_cs,zad,AV.pure,za7,za5,za6,zab,za4,zac,zaa,za3,za2,za0,za1]
  refine .call wx ?_
  rintro o ⟨tga,e1⟩
  simp only [AV.pure,za7,za5,za6,zab,za4,zac,zaa,za3,za2,za0,za1,e1]
  clear e1
  refine exW (fun o=>p24_7) ?_
  simp only [Tr.val,show (Ex.mk 6 n s tg [x] a).s = s from rfl]
  simp only [AV.pure,za7,za5,za6,zab,za4,zac,zaa,za3,za2,za0,za1]
  rcases hs with rfl | rfl
  ·refine .brf (by decide) ?_
   refine .call (w55 hC _ _ _ _ 1 (by decide)) ?_
   rintro o ⟨tga,e1⟩
   simp only [AV.pure,za7,za5,za6,zab,za4,zac,zaa,za3,za2,za0,za1,e1]
   clear e1
   refine exW (fun o=>p24_10) ?_
   have hr : (if (decide (r1 = 1)) = true then 1 else 0) = resF [45] r1 r1:=by
    show _ = (if r1 = 1∧r1 = 1 then (1 : Int) else 0)
    by_cases h : r1 = 1 <;> simp [h]
   rw [hr]
   exact .mk ⟨_,rfl⟩
  ·refine .brn (by decide) ?_
   refine .call (w55 hC _ _ _ _ 3 (by decide)) ?_
   rintro o ⟨tga,e1⟩
   simp only [AV.pure,za7,za5,za6,zab,za4,zac,zaa,za3,za2,za0,za1,e1]
   clear e1
   refine exW (fun o=>p24_9) ?_
   have hr : (if (decide (r1 = 3)) = true then 3 else 0) = resF [33] r1 r1:=by
    show _ = (if r1 = 3∧r1 = 3 then (3 : Int) else 0)
    by_cases h : r1 = 3 <;> simp [h]
   rw [hr]
   exact .mk ⟨_,rfl⟩
 | bin n s tg a x y hs hx hy ihx ihy =>
  intro hsz
  simp only [Ex.sz,szE] at hsz
  have wx := ihx (by omega)
  have wy := ihy (by omega)
  have hlx := zei w x
  have hly := zei w y
  rw [tyE]
  generalize hE : Ex.mk 7 n s tg [x,y] a = e
  have hek : e.kind = 7 := by rw [← hE]; rfl
  have hes : e.s = s := by rw [← hE]; rfl
  have hel : e.l = [x,y] := by rw [← hE]; rfl
  have n0 : nth (exs e.l) 0 = some (.agg x.cs) := by rw [hel,zah]; simp [x.av_cs]
  have n1 : nth (exs e.l) 1 = some (.agg y.cs) := by rw [hel,zah]; simp [y.av_cs]
  have hll : e.l.length = 2 := by rw [hel]; rfl
  refine exW (fun o=>p24_c hC) (exW (fun o=>p24_0) ?_)
  simp only [Tr.val,zaf,n0,Option.bind_some,zad]
  refine .bF (by omega) (.bF (by omega) (.bF (by omega) (.bF (by omega) (.bF (by omega) (.bF (by omega) ?_)))))
  by_cases h : s = wHas
  ·rw [if_pos h]
   refine .brn (by rw [hes]; exact (zdz _ _).2 h) ?_
   simp only [AV.pure,za7,za5,za6,zab,za4,zac,zaa,za3,za2,za0,za1]
   subst hE
   refine .call (w56 hC w hF hP 7 n s tg x y a _ _ (by omega) (by omega) wx wy) ?_
   rintro o ⟨tg',e1⟩
   simp only [AV.pure,za7,za5,za6,zab,za4,zac,zaa,za3,za2,za0,za1,e1]
   clear e1
   refine exW (fun o=>p24_4) ?_
   exact .mk ⟨_,rfl⟩
  rw [if_neg h]
  refine .brf (by rw [Bool.eq_false_iff,hes]; exact fun he=>h ((zdz _ _).1 he)) ?_
  have hx2 : (tyE w x).2.length ≤ 1000000 := by omega
  have hy2 : (tyE w y).2.length ≤ 1000000 := by omega
  generalize tyE w x = r at wx hx2 ⊢
  generalize tyE w y = q at wy hy2 ⊢
  clear hlx hly hx hy ihx ihy
  obtain ⟨r1,r2⟩ := r
  obtain ⟨q1,q2⟩ := q
  simp only at hx2 hy2
  refine .bT (by omega) ?_
  refine exW (fun o=>p24_5) ?_
  simp only [Tr.val,List.length_map,Int.toNat_natCast,zaj,zah,zaf,Option.map_some,Option.bind_some,Fld.av_cs,Par.av_cs,Dg.av_cs,Typ.av_cs,Qry.av_cs,Ex.av_cs,zad,AV.pure,za7,za5,za6,zab,za4,zac,zaa,za3,za2,za0,za1]
  refine .call wx ?_
  rintro o ⟨tga,e1⟩
  simp only [AV.pure,za7,za5,za6,zab,za4,zac,zaa,za3,za2,za0,za1,e1]
  clear e1
  refine exW (fun o=>p24_8) ?_
  simp only [Tr.val,zaf,n1,Option.bind_some,zad]
  simp only [AV.pure,za7,za5,za6,zab,za4,zac,zaa,za3,za2,za0,za1]
  refine .bT (by omega) ?_
  refine exW (fun o=>p24_11) ?_
  simp only [Tr.val,List.length_map,Int.toNat_natCast,zaj,zah,zaf,Option.map_some,Option.bind_some,Fld.av_cs,Par.av_cs,Dg.av_cs,Typ.av_cs,Qry.av_cs,Ex.av_cs,zad,AV.pure,za7,za5,za6,zab,za4,zac,zaa,za3,za2,za0,za1]
  refine .call wy ?_
  rintro o ⟨tgb,e1⟩
  simp only [AV.pure,za7,za5,za6,zab,za4,zac,zaa,za3,za2,za0,za1,e1]
  clear e1
  refine exW (fun o=>p24_12) ?_
  simp only [Tr.val,List.nil_append,← List.map_append,List.length_map]
  simp only [AV.pure,za7,za5,za6,zab,za4,zac,zaa,za3,za2,za0,za1]
  refine .bL (by unfold za9; omega) (.bL (by unfold za9; omega) (.bL (by unfold za9; omega) (.bL (by unfold za9; omega) ?_)))
  simp only [binW,List.mem_cons,List.not_mem_nil,or_false] at hs
  rcases hs with rfl | rfl | rfl | rfl | rfl | rfl | rfl | rfl | rfl | rfl | rfl | rfl
  ·show Was _ (RT (opT _ _ (if r1 = 3∧q1 = 3 then 3 else 0)))
   repeat (first | refine .brn (by rw [hes]; decide) ?_ | refine .brf (by rw [hes]; decide) ?_)
   by_cases hd : r1 = 3
   ·refine .bT hd ?_
    refine .call (w55 hC _ _ _ _ 3 (by decide)) ?_
    rintro o ⟨tgc,e1⟩
    simp only [AV.pure,za7,za5,za6,zab,za4,zac,zaa,za3,za2,za0,za1,e1]
    clear e1
    first | refine exW (fun o=>zc5) ?_ | refine exW (fun o=>zce) ?_ | refine exW (fun o=>zc8) ?_ | refine exW (fun o=>zc9) ?_ | refine exW (fun o=>zc7) ?_ | refine exW (fun o=>zcd) ?_ | refine exW (fun o=>zc4) ?_ | refine exW (fun o=>zcg) ?_ | refine exW (fun o=>zc6) ?_ | refine exW (fun o=>zc2) ?_ | refine exW (fun o=>zcc) ?_ | refine exW (fun o=>zca) ?_ | refine exW (fun o=>zc3) ?_ | refine exW (fun o=>zcb) ?_
    rw [show (if (decide (q1 = 3)) = true then (3 : Int) else 0) = (if r1 = 3∧q1 = 3 then 3 else 0) by simp [hd]]
    exact .mk ⟨_,rfl⟩
   ·refine .bF hd ?_
    refine .call (w55 hC _ _ _ _ 3 (by decide)) ?_
    rintro o ⟨tgc,e1⟩
    simp only [AV.pure,za7,za5,za6,zab,za4,zac,zaa,za3,za2,za0,za1,e1]
    clear e1
    first | refine exW (fun o=>zc5) ?_ | refine exW (fun o=>zce) ?_ | refine exW (fun o=>zc8) ?_ | refine exW (fun o=>zc9) ?_ | refine exW (fun o=>zc7) ?_ | refine exW (fun o=>zcd) ?_ | refine exW (fun o=>zc4) ?_ | refine exW (fun o=>zcg) ?_ | refine exW (fun o=>zc6) ?_ | refine exW (fun o=>zc2) ?_ | refine exW (fun o=>zcc) ?_ | refine exW (fun o=>zca) ?_ | refine exW (fun o=>zc3) ?_ | refine exW (fun o=>zcb) ?_
    rw [show (if false = true then (3 : Int) else 0) = (if r1 = 3∧q1 = 3 then 3 else 0) by simp [hd]]
    exact .mk ⟨_,rfl⟩
  ·show Was _ (RT (opT _ _ (if r1 = 3∧q1 = 3 then 3 else 0)))
   repeat (first | refine .brn (by rw [hes]; decide) ?_ | refine .brf (by rw [hes]; decide) ?_)
   by_cases hd : r1 = 3
   ·refine .bT hd ?_
    refine .call (w55 hC _ _ _ _ 3 (by decide)) ?_
    rintro o ⟨tgc,e1⟩
    simp only [AV.pure,za7,za5,za6,zab,za4,zac,zaa,za3,za2,za0,za1,e1]
    clear e1
    first | refine exW (fun o=>zc5) ?_ | refine exW (fun o=>zce) ?_ | refine exW (fun o=>zc8) ?_ | refine exW (fun o=>zc9) ?_ | refine exW (fun o=>zc7) ?_ | refine exW (fun o=>zcd) ?_ | refine exW (fun o=>zc4) ?_ | refine exW (fun o=>zcg) ?_ | refine exW (fun o=>zc6) ?_ | refine exW (fun o=>zc2) ?_ | refine exW (fun o=>zcc) ?_ | refine exW (fun o=>zca) ?_ | refine exW (fun o=>zc3) ?_ | refine exW (fun o=>zcb) ?_
    rw [show (if (decide (q1 = 3)) = true then (3 : Int) else 0) = (if r1 = 3∧q1 = 3 then 3 else 0) by simp [hd]]
    exact .mk ⟨_,rfl⟩
   ·refine .bF hd ?_
    refine .call (w55 hC _ _ _ _ 3 (by decide)) ?_
    rintro o ⟨tgc,e1⟩
    simp only [AV.pure,za7,za5,za6,zab,za4,zac,zaa,za3,za2,za0,za1,e1]
    clear e1
    first | refine exW (fun o=>zc5) ?_ | refine exW (fun o=>zce) ?_ | refine exW (fun o=>zc8) ?_ | refine exW (fun o=>zc9) ?_ | refine exW (fun o=>zc7) ?_ | refine exW (fun o=>zcd) ?_ | refine exW (fun o=>zc4) ?_ | refine exW (fun o=>zcg) ?_ | refine exW (fun o=>zc6) ?_ | refine exW (fun o=>zc2) ?_ | refine exW (fun o=>zcc) ?_ | refine exW (fun o=>zca) ?_ | refine exW (fun o=>zc3) ?_ | refine exW (fun o=>zcb) ?_
    rw [show (if false = true then (3 : Int) else 0) = (if r1 = 3∧q1 = 3 then 3 else 0) by simp [hd]]
    exact .mk ⟨_,rfl⟩
  ·show Was _ (RT (opT _ _ (if r1 = q1 then 3 else 0)))
   repeat (first | refine .brn (by rw [hes]; decide) ?_ | refine .brf (by rw [hes]; decide) ?_)
   refine .call (w55 hC _ _ _ _ 3 (by decide)) ?_
   rintro o ⟨tgc,e1⟩
   simp only [AV.pure,za7,za5,za6,zab,za4,zac,zaa,za3,za2,za0,za1,e1]
   clear e1
   first | refine exW (fun o=>zc5) ?_ | refine exW (fun o=>zce) ?_ | refine exW (fun o=>zc8) ?_ | refine exW (fun o=>zc9) ?_ | refine exW (fun o=>zc7) ?_ | refine exW (fun o=>zcd) ?_ | refine exW (fun o=>zc4) ?_ | refine exW (fun o=>zcg) ?_ | refine exW (fun o=>zc6) ?_ | refine exW (fun o=>zc2) ?_ | refine exW (fun o=>zcc) ?_ | refine exW (fun o=>zca) ?_ | refine exW (fun o=>zc3) ?_ | refine exW (fun o=>zcb) ?_
   rw [show (if (decide (r1 = q1)) = true then (3 : Int) else 0) = (if r1 = q1 then 3 else 0) by simp]
   exact .mk ⟨_,rfl⟩
  ·show Was _ (RT (opT _ _ (if r1 = q1 then 3 else 0)))
   repeat (first | refine .brn (by rw [hes]; decide) ?_ | refine .brf (by rw [hes]; decide) ?_)
   refine .call (w55 hC _ _ _ _ 3 (by decide)) ?_
   rintro o ⟨tgc,e1⟩
   simp only [AV.pure,za7,za5,za6,zab,za4,zac,zaa,za3,za2,za0,za1,e1]
   clear e1
   first | refine exW (fun o=>zc5) ?_ | refine exW (fun o=>zce) ?_ | refine exW (fun o=>zc8) ?_ | refine exW (fun o=>zc9) ?_ | refine exW (fun o=>zc7) ?_ | refine exW (fun o=>zcd) ?_ | refine exW (fun o=>zc4) ?_ | refine exW (fun o=>zcg) ?_ | refine exW (fun o=>zc6) ?_ | refine exW (fun o=>zc2) ?_ | refine exW (fun o=>zcc) ?_ | refine exW (fun o=>zca) ?_ | refine exW (fun o=>zc3) ?_ | refine exW (fun o=>zcb) ?_
   rw [show (if (decide (r1 = q1)) = true then (3 : Int) else 0) = (if r1 = q1 then 3 else 0) by simp]
   exact .mk ⟨_,rfl⟩
  ·show Was _ (RT (opT _ _ (if r1 = q1∧¬ (r1 = 3∧q1 = 3) then 3 else 0)))
   repeat (first | refine .brn (by rw [hes]; decide) ?_ | refine .brf (by rw [hes]; decide) ?_)
   by_cases hd : r1 = q1
   ·refine .bT hd ?_
    refine .call (w55 hC _ _ _ _ 3 (by decide)) ?_
    rintro o ⟨tgc,e1⟩
    simp only [AV.pure,za7,za5,za6,zab,za4,zac,zaa,za3,za2,za0,za1,e1]
    clear e1
    first | refine exW (fun o=>zc5) ?_ | refine exW (fun o=>zce) ?_ | refine exW (fun o=>zc8) ?_ | refine exW (fun o=>zc9) ?_ | refine exW (fun o=>zc7) ?_ | refine exW (fun o=>zcd) ?_ | refine exW (fun o=>zc4) ?_ | refine exW (fun o=>zcg) ?_ | refine exW (fun o=>zc6) ?_ | refine exW (fun o=>zc2) ?_ | refine exW (fun o=>zcc) ?_ | refine exW (fun o=>zca) ?_ | refine exW (fun o=>zc3) ?_ | refine exW (fun o=>zcb) ?_
    rw [show (if (!decide (r1 = 3)) = true then (3 : Int) else 0) = (if r1 = q1∧¬ (r1 = 3∧q1 = 3) then 3 else 0) by by_cases h3 : r1 = 3 <;> simp [hd,h3] <;> omega]
    exact .mk ⟨_,rfl⟩
   ·refine .bF hd ?_
    refine .call (w55 hC _ _ _ _ 3 (by decide)) ?_
    rintro o ⟨tgc,e1⟩
    simp only [AV.pure,za7,za5,za6,zab,za4,zac,zaa,za3,za2,za0,za1,e1]
    clear e1
    first | refine exW (fun o=>zc5) ?_ | refine exW (fun o=>zce) ?_ | refine exW (fun o=>zc8) ?_ | refine exW (fun o=>zc9) ?_ | refine exW (fun o=>zc7) ?_ | refine exW (fun o=>zcd) ?_ | refine exW (fun o=>zc4) ?_ | refine exW (fun o=>zcg) ?_ | refine exW (fun o=>zc6) ?_ | refine exW (fun o=>zc2) ?_ | refine exW (fun o=>zcc) ?_ | refine exW (fun o=>zca) ?_ | refine exW (fun o=>zc3) ?_ | refine exW (fun o=>zcb) ?_
    rw [show (if false = true then (3 : Int) else 0) = (if r1 = q1∧¬ (r1 = 3∧q1 = 3) then 3 else 0) by simp [hd]]
    exact .mk ⟨_,rfl⟩
  ·show Was _ (RT (opT _ _ (if r1 = q1∧¬ (r1 = 3∧q1 = 3) then 3 else 0)))
   repeat (first | refine .brn (by rw [hes]; decide) ?_ | refine .brf (by rw [hes]; decide) ?_)
   by_cases hd : r1 = q1
   ·refine .bT hd ?_
    refine .call (w55 hC _ _ _ _ 3 (by decide)) ?_
    rintro o ⟨tgc,e1⟩
    simp only [AV.pure,za7,za5,za6,zab,za4,zac,zaa,za3,za2,za0,za1,e1]
    clear e1
    first | refine exW (fun o=>zc5) ?_ | refine exW (fun o=>zce) ?_ | refine exW (fun o=>zc8) ?_ | refine exW (fun o=>zc9) ?_ | refine exW (fun o=>zc7) ?_ | refine exW (fun o=>zcd) ?_ | refine exW (fun o=>zc4) ?_ | refine exW (fun o=>zcg) ?_ | refine exW (fun o=>zc6) ?_ | refine exW (fun o=>zc2) ?_ | refine exW (fun o=>zcc) ?_ | refine exW (fun o=>zca) ?_ | refine exW (fun o=>zc3) ?_ | refine exW (fun o=>zcb) ?_
    rw [show (if (!decide (r1 = 3)) = true then (3 : Int) else 0) = (if r1 = q1∧¬ (r1 = 3∧q1 = 3) then 3 else 0) by by_cases h3 : r1 = 3 <;> simp [hd,h3] <;> omega]
    exact .mk ⟨_,rfl⟩
   ·refine .bF hd ?_
    refine .call (w55 hC _ _ _ _ 3 (by decide)) ?_
    rintro o ⟨tgc,e1⟩
    simp only [AV.pure,za7,za5,za6,zab,za4,zac,zaa,za3,za2,za0,za1,e1]
    clear e1
    first | refine exW (fun o=>zc5) ?_ | refine exW (fun o=>zce) ?_ | refine exW (fun o=>zc8) ?_ | refine exW (fun o=>zc9) ?_ | refine exW (fun o=>zc7) ?_ | refine exW (fun o=>zcd) ?_ | refine exW (fun o=>zc4) ?_ | refine exW (fun o=>zcg) ?_ | refine exW (fun o=>zc6) ?_ | refine exW (fun o=>zc2) ?_ | refine exW (fun o=>zcc) ?_ | refine exW (fun o=>zca) ?_ | refine exW (fun o=>zc3) ?_ | refine exW (fun o=>zcb) ?_
    rw [show (if false = true then (3 : Int) else 0) = (if r1 = q1∧¬ (r1 = 3∧q1 = 3) then 3 else 0) by simp [hd]]
    exact .mk ⟨_,rfl⟩
  ·show Was _ (RT (opT _ _ (if r1 = q1∧¬ (r1 = 3∧q1 = 3) then 3 else 0)))
   repeat (first | refine .brn (by rw [hes]; decide) ?_ | refine .brf (by rw [hes]; decide) ?_)
   by_cases hd : r1 = q1
   ·refine .bT hd ?_
    refine .call (w55 hC _ _ _ _ 3 (by decide)) ?_
    rintro o ⟨tgc,e1⟩
    simp only [AV.pure,za7,za5,za6,zab,za4,zac,zaa,za3,za2,za0,za1,e1]
    clear e1
    first | refine exW (fun o=>zc5) ?_ | refine exW (fun o=>zce) ?_ | refine exW (fun o=>zc8) ?_ | refine exW (fun o=>zc9) ?_ | refine exW (fun o=>zc7) ?_ | refine exW (fun o=>zcd) ?_ | refine exW (fun o=>zc4) ?_ | refine exW (fun o=>zcg) ?_ | refine exW (fun o=>zc6) ?_ | refine exW (fun o=>zc2) ?_ | refine exW (fun o=>zcc) ?_ | refine exW (fun o=>zca) ?_ | refine exW (fun o=>zc3) ?_ | refine exW (fun o=>zcb) ?_
    rw [show (if (!decide (r1 = 3)) = true then (3 : Int) else 0) = (if r1 = q1∧¬ (r1 = 3∧q1 = 3) then 3 else 0) by by_cases h3 : r1 = 3 <;> simp [hd,h3] <;> omega]
    exact .mk ⟨_,rfl⟩
   ·refine .bF hd ?_
    refine .call (w55 hC _ _ _ _ 3 (by decide)) ?_
    rintro o ⟨tgc,e1⟩
    simp only [AV.pure,za7,za5,za6,zab,za4,zac,zaa,za3,za2,za0,za1,e1]
    clear e1
    first | refine exW (fun o=>zc5) ?_ | refine exW (fun o=>zce) ?_ | refine exW (fun o=>zc8) ?_ | refine exW (fun o=>zc9) ?_ | refine exW (fun o=>zc7) ?_ | refine exW (fun o=>zcd) ?_ | refine exW (fun o=>zc4) ?_ | refine exW (fun o=>zcg) ?_ | refine exW (fun o=>zc6) ?_ | refine exW (fun o=>zc2) ?_ | refine exW (fun o=>zcc) ?_ | refine exW (fun o=>zca) ?_ | refine exW (fun o=>zc3) ?_ | refine exW (fun o=>zcb) ?_
    rw [show (if false = true then (3 : Int) else 0) = (if r1 = q1∧¬ (r1 = 3∧q1 = 3) then 3 else 0) by simp [hd]]
    exact .mk ⟨_,rfl⟩
  ·show Was _ (RT (opT _ _ (if r1 = q1∧¬ (r1 = 3∧q1 = 3) then 3 else 0)))
   repeat (first | refine .brn (by rw [hes]; decide) ?_ | refine .brf (by rw [hes]; decide) ?_)
   by_cases hd : r1 = q1
   ·refine .bT hd ?_
    refine .call (w55 hC _ _ _ _ 3 (by decide)) ?_
    rintro o ⟨tgc,e1⟩
    simp only [AV.pure,za7,za5,za6,zab,za4,zac,zaa,za3,za2,za0,za1,e1]
    clear e1
    first | refine exW (fun o=>zc5) ?_ | refine exW (fun o=>zce) ?_ | refine exW (fun o=>zc8) ?_ | refine exW (fun o=>zc9) ?_ | refine exW (fun o=>zc7) ?_ | refine exW (fun o=>zcd) ?_ | refine exW (fun o=>zc4) ?_ | refine exW (fun o=>zcg) ?_ | refine exW (fun o=>zc6) ?_ | refine exW (fun o=>zc2) ?_ | refine exW (fun o=>zcc) ?_ | refine exW (fun o=>zca) ?_ | refine exW (fun o=>zc3) ?_ | refine exW (fun o=>zcb) ?_
    rw [show (if (!decide (r1 = 3)) = true then (3 : Int) else 0) = (if r1 = q1∧¬ (r1 = 3∧q1 = 3) then 3 else 0) by by_cases h3 : r1 = 3 <;> simp [hd,h3] <;> omega]
    exact .mk ⟨_,rfl⟩
   ·refine .bF hd ?_
    refine .call (w55 hC _ _ _ _ 3 (by decide)) ?_
    rintro o ⟨tgc,e1⟩
    simp only [AV.pure,za7,za5,za6,zab,za4,zac,zaa,za3,za2,za0,za1,e1]
    clear e1
    first | refine exW (fun o=>zc5) ?_ | refine exW (fun o=>zce) ?_ | refine exW (fun o=>zc8) ?_ | refine exW (fun o=>zc9) ?_ | refine exW (fun o=>zc7) ?_ | refine exW (fun o=>zcd) ?_ | refine exW (fun o=>zc4) ?_ | refine exW (fun o=>zcg) ?_ | refine exW (fun o=>zc6) ?_ | refine exW (fun o=>zc2) ?_ | refine exW (fun o=>zcc) ?_ | refine exW (fun o=>zca) ?_ | refine exW (fun o=>zc3) ?_ | refine exW (fun o=>zcb) ?_
    rw [show (if false = true then (3 : Int) else 0) = (if r1 = q1∧¬ (r1 = 3∧q1 = 3) then 3 else 0) by simp [hd]]
    exact .mk ⟨_,rfl⟩
  ·exact absurd rfl h
  ·show Was _ (RT (opT _ _ (if r1 = 1∧q1 = 1 then 1 else 0)))
   repeat (first | refine .brn (by rw [hes]; decide) ?_ | refine .brf (by rw [hes]; decide) ?_)
   by_cases hd : r1 = 1
   ·refine .bT hd ?_
    refine .call (w55 hC _ _ _ _ 1 (by decide)) ?_
    rintro o ⟨tgc,e1⟩
    simp only [AV.pure,za7,za5,za6,zab,za4,zac,zaa,za3,za2,za0,za1,e1]
    clear e1
    first | refine exW (fun o=>zc5) ?_ | refine exW (fun o=>zce) ?_ | refine exW (fun o=>zc8) ?_ | refine exW (fun o=>zc9) ?_ | refine exW (fun o=>zc7) ?_ | refine exW (fun o=>zcd) ?_ | refine exW (fun o=>zc4) ?_ | refine exW (fun o=>zcg) ?_ | refine exW (fun o=>zc6) ?_ | refine exW (fun o=>zc2) ?_ | refine exW (fun o=>zcc) ?_ | refine exW (fun o=>zca) ?_ | refine exW (fun o=>zc3) ?_ | refine exW (fun o=>zcb) ?_
    rw [show (if (decide (q1 = 1)) = true then (1 : Int) else 0) = (if r1 = 1∧q1 = 1 then 1 else 0) by simp [hd]]
    exact .mk ⟨_,rfl⟩
   ·refine .bF hd ?_
    refine .call (w55 hC _ _ _ _ 1 (by decide)) ?_
    rintro o ⟨tgc,e1⟩
    simp only [AV.pure,za7,za5,za6,zab,za4,zac,zaa,za3,za2,za0,za1,e1]
    clear e1
    first | refine exW (fun o=>zc5) ?_ | refine exW (fun o=>zce) ?_ | refine exW (fun o=>zc8) ?_ | refine exW (fun o=>zc9) ?_ | refine exW (fun o=>zc7) ?_ | refine exW (fun o=>zcd) ?_ | refine exW (fun o=>zc4) ?_ | refine exW (fun o=>zcg) ?_ | refine exW (fun o=>zc6) ?_ | refine exW (fun o=>zc2) ?_ | refine exW (fun o=>zcc) ?_ | refine exW (fun o=>zca) ?_ | refine exW (fun o=>zc3) ?_ | refine exW (fun o=>zcb) ?_
    rw [show (if false = true then (1 : Int) else 0) = (if r1 = 1∧q1 = 1 then 1 else 0) by simp [hd]]
    exact .mk ⟨_,rfl⟩
  ·show Was _ (RT (opT _ _ (if r1 = 1∧q1 = 1 then 1 else 0)))
   repeat (first | refine .brn (by rw [hes]; decide) ?_ | refine .brf (by rw [hes]; decide) ?_)
   by_cases hd : r1 = 1
   ·refine .bT hd ?_
    refine .call (w55 hC _ _ _ _ 1 (by decide)) ?_
    rintro o ⟨tgc,e1⟩
    simp only [AV.pure,za7,za5,za6,zab,za4,zac,zaa,za3,za2,za0,za1,e1]
    clear e1
    first | refine exW (fun o=>zc5) ?_ | refine exW (fun o=>zce) ?_ | refine exW (fun o=>zc8) ?_ | refine exW (fun o=>zc9) ?_ | refine exW (fun o=>zc7) ?_ | refine exW (fun o=>zcd) ?_ | refine exW (fun o=>zc4) ?_ | refine exW (fun o=>zcg) ?_ | refine exW (fun o=>zc6) ?_ | refine exW (fun o=>zc2) ?_ | refine exW (fun o=>zcc) ?_ | refine exW (fun o=>zca) ?_ | refine exW (fun o=>zc3) ?_ | refine exW (fun o=>zcb) ?_
    rw [show (if (decide (q1 = 1)) = true then (1 : Int) else 0) = (if r1 = 1∧q1 = 1 then 1 else 0) by simp [hd]]
    exact .mk ⟨_,rfl⟩
   ·refine .bF hd ?_
    refine .call (w55 hC _ _ _ _ 1 (by decide)) ?_
    rintro o ⟨tgc,e1⟩
    simp only [AV.pure,za7,za5,za6,zab,za4,zac,zaa,za3,za2,za0,za1,e1]
    clear e1
    first | refine exW (fun o=>zc5) ?_ | refine exW (fun o=>zce) ?_ | refine exW (fun o=>zc8) ?_ | refine exW (fun o=>zc9) ?_ | refine exW (fun o=>zc7) ?_ | refine exW (fun o=>zcd) ?_ | refine exW (fun o=>zc4) ?_ | refine exW (fun o=>zcg) ?_ | refine exW (fun o=>zc6) ?_ | refine exW (fun o=>zc2) ?_ | refine exW (fun o=>zcc) ?_ | refine exW (fun o=>zca) ?_ | refine exW (fun o=>zc3) ?_ | refine exW (fun o=>zcb) ?_
    rw [show (if false = true then (1 : Int) else 0) = (if r1 = 1∧q1 = 1 then 1 else 0) by simp [hd]]
    exact .mk ⟨_,rfl⟩
  ·show Was _ (RT (opT _ _ (if r1 = 1∧q1 = 1 then 1 else 0)))
   repeat (first | refine .brn (by rw [hes]; decide) ?_ | refine .brf (by rw [hes]; decide) ?_)
   by_cases hd : r1 = 1
   ·refine .bT hd ?_
    refine .call (w55 hC _ _ _ _ 1 (by decide)) ?_
    rintro o ⟨tgc,e1⟩
    simp only [AV.pure,za7,za5,za6,zab,za4,zac,zaa,za3,za2,za0,za1,e1]
    clear e1
    first | refine exW (fun o=>zc5) ?_ | refine exW (fun o=>zce) ?_ | refine exW (fun o=>zc8) ?_ | refine exW (fun o=>zc9) ?_ | refine exW (fun o=>zc7) ?_ | refine exW (fun o=>zcd) ?_ | refine exW (fun o=>zc4) ?_ | refine exW (fun o=>zcg) ?_ | refine exW (fun o=>zc6) ?_ | refine exW (fun o=>zc2) ?_ | refine exW (fun o=>zcc) ?_ | refine exW (fun o=>zca) ?_ | refine exW (fun o=>zc3) ?_ | refine exW (fun o=>zcb) ?_
    rw [show (if (decide (q1 = 1)) = true then (1 : Int) else 0) = (if r1 = 1∧q1 = 1 then 1 else 0) by simp [hd]]
    exact .mk ⟨_,rfl⟩
   ·refine .bF hd ?_
    refine .call (w55 hC _ _ _ _ 1 (by decide)) ?_
    rintro o ⟨tgc,e1⟩
    simp only [AV.pure,za7,za5,za6,zab,za4,zac,zaa,za3,za2,za0,za1,e1]
    clear e1
    first | refine exW (fun o=>zc5) ?_ | refine exW (fun o=>zce) ?_ | refine exW (fun o=>zc8) ?_ | refine exW (fun o=>zc9) ?_ | refine exW (fun o=>zc7) ?_ | refine exW (fun o=>zcd) ?_ | refine exW (fun o=>zc4) ?_ | refine exW (fun o=>zcg) ?_ | refine exW (fun o=>zc6) ?_ | refine exW (fun o=>zc2) ?_ | refine exW (fun o=>zcc) ?_ | refine exW (fun o=>zca) ?_ | refine exW (fun o=>zc3) ?_ | refine exW (fun o=>zcb) ?_
    rw [show (if false = true then (1 : Int) else 0) = (if r1 = 1∧q1 = 1 then 1 else 0) by simp [hd]]
    exact .mk ⟨_,rfl⟩
end Go.Proofs.YtfdklpkfpmkgeaaGreatDoor
end
section
namespace Go.Proofs.YtfdklpkfpmkgeaaGreatDoor
open Go Go.Vai
mutual
def Stm.sz : Stm→Nat
 | .mk _ _ _ _ th _ el _=>1 + szL th + szL el
def szL : List Stm→Nat
 | []=>0
 | e :: l=>e.sz + szL l
end
theorem zjv : ∀ a b : List Stm,szL (a ++ b) = szL a + szL b
 | [],b=>by rw [List.nil_append,szL,Nat.zero_add]
 | e :: a,b=>by rw [List.cons_append,szL,szL,zjv a b,Nat.add_assoc]
theorem zrs : ∀ f : Nat,(∀ tg l p r,Ok p→blkL f tg l p = some r→szL r.1.2 + mu r.2 ≤ szL l + mu p)∧(∀ p r,Ok p→p.err = 0→stF f p = some r→r.1.sz + mu r.2 ≤ mu p)
 | 0=>⟨fun _ _ _ _ _ h=>(by rw [blkL] at h; cases h),fun _ _ _ _ h=>(by rw [stF] at h; cases h)⟩
 | f + 1=>by
  obtain ⟨i1,i2⟩ := zrs f
  obtain ⟨j1,j2⟩ := zgd f
  refine ⟨fun tg l p r hO h=>?_,fun p r hO h0 h=>?_⟩
  ·rw [blkL] at h
   split at h
   ·rename_i hc
    obtain ⟨x,h1,h2⟩ := Option.bind_eq_some_iff.1 h
    have s1 := i2 _ _ hO hc.1 h1
    have s2 := i1 _ _ _ _ (j2 _ _ hO h1).1.ok h2
    rw [zjv,szL,szL] at s2
    omega
   ·injection h with h; subst h
    have := (Keep.sign hO [125]).mu
    simp only
    omega
  ·have lt := ((zgd (f + 1)).2 p r hO h).2 h0
   rw [stF] at h
   split at h
   ·rename_i hw
    obtain ⟨a1,a2,a3,a4⟩ := zdb hO (by rw [zds hw]; decide)
    obtain ⟨x,h1,h2⟩ := Option.bind_eq_some_iff.1 h
    have k1 := (zcy f).1 _ _ _ a1 h1
    obtain ⟨b,h3,h4⟩ := Option.bind_eq_some_iff.1 h2
    have k2 := k1.trans (Keep.sign k1.ok [123])
    have s1 := i1 _ _ _ _ k2.ok h3
    have k3 := k2.trans (j1 _ _ _ _ k2.ok h3)
    have m2 := k2.mu
    rw [szL] at s1
    split at h4
    ·obtain ⟨c,h5,h6⟩ := Option.bind_eq_some_iff.1 h4
     have k4 := Keep.adv k3.ok
     have k5 := k4.trans (Keep.sign k4.ok [123])
     have s2 := i1 _ _ _ _ k5.ok h5
     have m5 := k5.mu
     rw [szL] at s2
     injection h6 with h6
     subst h6
     show (Stm.mk _ _ _ _ _ _ _ _).sz + mu c.2 ≤ mu p
     rw [Stm.sz]
     omega
    ·injection h4 with h4
     subst h4
     show (Stm.mk _ _ _ _ _ _ _ _).sz + mu b.2 ≤ mu p
     rw [Stm.sz,szL]
     omega
   ·split at h
    ·injection h with h
     subst h
     show (Stm.mk _ _ _ _ _ _ _ _).sz + _ ≤ mu p
     rw [Stm.sz,szL]
     exact by have := lt; simp only at this ⊢; omega
    ·obtain ⟨x,h1,h2⟩ := Option.bind_eq_some_iff.1 h
     injection h2 with h2
     subst h2
     show (Stm.mk _ _ _ _ _ _ _ _).sz + _ ≤ mu p
     rw [Stm.sz,szL]
     exact by have := lt; simp only at this ⊢; omega
theorem blkF_sz {f : Nat} {p : PS} {r : (Bool × List Stm) × PS} (hO : Ok p) (h : blkF f p = some r) : szL r.1.2 ≤ 8002:=by
 have k0 := Keep.sign hO [123]
 have := (zrs f).1 _ _ _ _ k0.ok h
 have := zjm k0.ok
 rw [szL] at *
 omega
end Go.Proofs.YtfdklpkfpmkgeaaGreatDoor
end
section
namespace Go.Proofs.YtfdklpkfpmkgeaaGreatDoor
open Go Go.Vai
theorem zl5 : ∀ f : Nat,(∀ n p r,binF f n p = some r→binF (f + 1) n p = some r)∧(∀ n e p r,binL f n e p = some r→binL (f + 1) n e p = some r)∧(∀ p r,unF f p = some r→unF (f + 1) p = some r)∧(∀ p r,priF f p = some r→priF (f + 1) p = some r)
 | 0=>⟨fun _ _ _ h=>(by rw [binF] at h; cases h),fun _ _ _ _ h=>(by rw [binL] at h; cases h),fun _ _ h=>(by rw [unF] at h; cases h),fun _ _ h=>(by rw [priF] at h; cases h)⟩
 | f + 1=>by
  obtain ⟨i1,i2,i3,i4⟩ := zl5 f
  refine ⟨fun n p r h=>?_,fun n e p r h=>?_,fun p r h=>?_,fun p r h=>?_⟩
  ·rw [binF] at h
   rw [binF]
   split at h
   ·rename_i hn
    rw [if_pos hn]; exact i3 _ _ h
   ·rename_i hn
    rw [if_neg hn]
    obtain ⟨x,h1,h2⟩ := Option.bind_eq_some_iff.1 h
    exact Option.bind_eq_some_iff.2 ⟨x,i1 _ _ _ h1,i2 _ _ _ _ h2⟩
  ·rw [binL] at h
   rw [binL]
   split at h
   ·rename_i hn
    rw [if_pos hn]
    obtain ⟨x,h1,h2⟩ := Option.bind_eq_some_iff.1 h
    refine Option.bind_eq_some_iff.2 ⟨x,i1 _ _ _ h1,?_⟩
    split at h2
    ·rename_i h3; rw [if_pos h3]; exact h2
    ·rename_i h3; rw [if_neg h3]; exact i2 _ _ _ _ h2
   ·rename_i hn
    rw [if_neg hn]; exact h
  ·rw [unF] at h
   rw [unF]
   split at h
   ·rename_i hn
    rw [if_pos hn]
    obtain ⟨x,h1,h2⟩ := Option.bind_eq_some_iff.1 h
    exact Option.bind_eq_some_iff.2 ⟨x,i3 _ _ h1,h2⟩
   ·rename_i hn
    rw [if_neg hn]; exact i4 _ _ h
  ·rw [priF] at h
   rw [priF]
   split at h
   ·rename_i c; rw [if_pos c]; exact h
   rename_i c; rw [if_neg c]
   split at h
   ·rename_i c; rw [if_pos c]; exact h
   rename_i c; rw [if_neg c]
   split at h
   ·rename_i c; rw [if_pos c]; exact h
   rename_i c; rw [if_neg c]
   split at h
   ·rename_i c; rw [if_pos c]; exact h
   rename_i c; rw [if_neg c]
   split at h
   ·rename_i c; rw [if_pos c]; exact h
   rename_i c; rw [if_neg c]
   split at h
   ·rename_i c; rw [if_pos c]
    obtain ⟨x,h1,h2⟩ := Option.bind_eq_some_iff.1 h
    exact Option.bind_eq_some_iff.2 ⟨x,i1 _ _ _ h1,h2⟩
   ·rename_i c; rw [if_neg c]; exact h
theorem zg6 {α : Type} {F : Nat→Option α} (h : ∀ f r,F f = some r→F (f + 1) = some r) {f g : Nat} (hfg : f ≤ g) {r : α} (hr : F f = some r) : F g = some r:=by
 induction g with
 | zero =>
  have e0 : f = 0 := (by omega); subst e0; exact hr
 | succ g ih =>
  by_cases he : f = g + 1
  ·subst he; exact hr
  ·exact h g r (ih (by omega))
theorem zfs {n : Nat} {p : PS} {f g : Nat} (hfg : f ≤ g) {r : Ex × PS} (hr : binF f n p = some r) : binF g n p = some r := zg6 (F := fun f=>binF f n p) (fun f r h=>(zl5 f).1 n p r h) hfg hr
theorem znn {n : Nat} {e : Ex} {p : PS} {f g : Nat} (hfg : f ≤ g) {r : Ex × PS} (hr : binL f n e p = some r) : binL g n e p = some r := zg6 (F := fun f=>binL f n e p) (fun f r h=>(zl5 f).2.1 n e p r h) hfg hr
theorem zss : zgy [] = 0 := by decide
theorem zou {p : PS} (h : Ok p) {n : Nat} (hn : 1 ≤ n) (hl : zgy p.s = (n : Int)) : p.kind ≠ 0 := fun h0=>by
 rw [h.s0 h0,zss] at hl
 omega
theorem ex_tot : ∀ m : Nat,(∀ p,Ok p→mu p ≤ m→(∃ f r,priF f p = some r)∧(∃ f r,unF f p = some r)∧(∀ n e,1 ≤ n→n ≤ 5→∃ f r,binL f n e p = some r)∧(∀ n,1 ≤ n→n ≤ 6→∃ f r,binF f n p = some r)):=by
 intro m
 induction m using Nat.strongRecOn with
 | _ m ih =>
 have pri : ∀ p,Ok p→mu p ≤ m→∃ f r,priF f p = some r:=by
  intro p hO hm
  by_cases hg : p.isG [40] = true
  ·obtain ⟨a1,a2,a3,a4⟩ := zdb hO (by rw [zbv hg]; decide)
   obtain ⟨f,r,h⟩ := (ih (mu p.opn.adv) (by omega) _ a1 (Nat.le_refl _)).2.2.2 1 (by decide) (by decide)
   by_cases c1 : p.kind = 2
   ·exact ⟨1,_,by rw [priF,if_pos c1]⟩
   by_cases c2 : p.kind = 3
   ·exact ⟨1,_,by rw [priF,if_neg c1,if_pos c2]⟩
   by_cases c3 : p.isW zrv = true
   ·exact ⟨1,_,by rw [priF,if_neg c1,if_neg c2,if_pos c3]⟩
   by_cases c4 : p.isW zmu = true
   ·exact ⟨1,_,by rw [priF,if_neg c1,if_neg c2,if_neg c3,if_pos c4]⟩
   by_cases c5 : p.isW zsw = true
   ·exact ⟨1,_,by rw [priF,if_neg c1,if_neg c2,if_neg c3,if_neg c4,if_pos c5]⟩
   exact ⟨f + 1,_,by rw [priF,if_neg c1,if_neg c2,if_neg c3,if_neg c4,if_neg c5,if_pos hg,h]; rfl⟩
  ·by_cases c1 : p.kind = 2
   ·exact ⟨1,_,by rw [priF,if_pos c1]⟩
   by_cases c2 : p.kind = 3
   ·exact ⟨1,_,by rw [priF,if_neg c1,if_pos c2]⟩
   by_cases c3 : p.isW zrv = true
   ·exact ⟨1,_,by rw [priF,if_neg c1,if_neg c2,if_pos c3]⟩
   by_cases c4 : p.isW zmu = true
   ·exact ⟨1,_,by rw [priF,if_neg c1,if_neg c2,if_neg c3,if_pos c4]⟩
   by_cases c5 : p.isW zsw = true
   ·exact ⟨1,_,by rw [priF,if_neg c1,if_neg c2,if_neg c3,if_neg c4,if_pos c5]⟩
   exact ⟨1,_,by rw [priF,if_neg c1,if_neg c2,if_neg c3,if_neg c4,if_neg c5,if_neg hg]⟩
 have un : ∀ p,Ok p→mu p ≤ m→∃ f r,unF f p = some r:=by
  intro p hO hm
  by_cases hg : p.isG [45] = true ∨ p.isG [33] = true
  ·obtain ⟨a1,a2,a3,a4⟩ := zdb hO (by rcases hg with hg | hg <;> rw [zbv hg] <;> decide)
   obtain ⟨f,r,h⟩ := (ih (mu p.opn.adv) (by omega) _ a1 (Nat.le_refl _)).2.1
   exact ⟨f + 1,_,by rw [unF,if_pos hg,h]; rfl⟩
  ·obtain ⟨f,r,h⟩ := pri p hO hm
   exact ⟨f + 1,r,by rw [unF,if_neg hg]; exact h⟩
 have lp : ∀ p,Ok p→mu p ≤ m→∀ n e,1 ≤ n→n ≤ 5→∃ f r,binL f n e p = some r:=by
  intro p hO hm n e h1 h5
  by_cases hg : p.kind ≠ 3∧zgy p.s = (n : Int)
  ·have hlt := (PS.adv_mu hO).2 (zou hO h1 hg.2)
   have hA := PS.adv_ok hO
   obtain ⟨f,r,h⟩ := (ih (mu p.adv) (by omega) _ hA (Nat.le_refl _)).2.2.2 (n + 1) (by omega) (by omega)
   by_cases h3 : n = 3
   ·exact ⟨f + 1,_,by rw [binL,if_pos hg,h]; simp only [Option.bind_some,if_pos h3]; rfl⟩
   ·have kr := (zcy f).1 _ _ _ hA h
    have := kr.mu
    obtain ⟨f2,r2,h2⟩ := (ih (mu r.2) (by omega) _ kr.ok (Nat.le_refl _)).2.2.1 n (.mk 7 0 p.s false [e,r.1] p.tat) h1 h5
    refine ⟨f + f2 + 1,r2,?_⟩
    rw [binL,if_pos hg,zfs (by omega) h]
    simp only [Option.bind_some,if_neg h3]
    exact znn (by omega) h2
  ·exact ⟨1,_,by rw [binL,if_neg hg]⟩
 have bn : ∀ k,∀ p,Ok p→mu p ≤ m→∀ n,1 ≤ n→n + k = 6→∃ f r,binF f n p = some r:=by
  intro k
  induction k with
  | zero =>
   intro p hO hm n h1 h6
   obtain ⟨f,r,h⟩ := un p hO hm
   exact ⟨f + 1,r,by rw [binF,if_pos (by omega)]; exact h⟩
  | succ k ihk =>
   intro p hO hm n h1 h6
   obtain ⟨f,r,h⟩ := ihk p hO hm (n + 1) (by omega) (by omega)
   have kr := (zcy f).1 _ _ _ hO h
   have := kr.mu
   obtain ⟨f2,r2,h2⟩ := lp r.2 kr.ok (by omega) n r.1 h1 (by omega)
   exact ⟨f + f2 + 1,r2,by rw [binF,if_neg (by omega),zfs (by omega) h]; exact znn (by omega) h2⟩
 exact fun p hO hm=>⟨pri p hO hm,un p hO hm,lp p hO hm,fun n h1 h6=>bn (6 - n) p hO hm n h1 (by omega)⟩
theorem znx {p : PS} (hO : Ok p) : ∃ f r,binF f 1 p = some r := (ex_tot (mu p) p hO (Nat.le_refl _)).2.2.2 1 (by decide) (by decide)
theorem znq : ∀ f : Nat,(∀ tg l p r,blkL f tg l p = some r→blkL (f + 1) tg l p = some r)∧(∀ p r,stF f p = some r→stF (f + 1) p = some r)
 | 0=>⟨fun _ _ _ _ h=>(by rw [blkL] at h; cases h),fun _ _ h=>(by rw [stF] at h; cases h)⟩
 | f + 1=>by
  obtain ⟨i1,i2⟩ := znq f
  have ib := fun n p r=>(zl5 f).1 n p r
  refine ⟨fun tg l p r h=>?_,fun p r h=>?_⟩
  ·rw [blkL] at h
   rw [blkL]
   split at h
   ·rename_i c
    rw [if_pos c]
    obtain ⟨x,h1,h2⟩ := Option.bind_eq_some_iff.1 h
    exact Option.bind_eq_some_iff.2 ⟨x,i2 _ _ h1,i1 _ _ _ _ h2⟩
   ·rename_i c; rw [if_neg c]; exact h
  ·rw [stF] at h
   rw [stF]
   split at h
   ·rename_i c
    rw [if_pos c]
    obtain ⟨x,h1,h2⟩ := Option.bind_eq_some_iff.1 h
    obtain ⟨b,h3,h4⟩ := Option.bind_eq_some_iff.1 h2
    refine Option.bind_eq_some_iff.2 ⟨x,ib _ _ _ h1,Option.bind_eq_some_iff.2 ⟨b,i1 _ _ _ _ h3,?_⟩⟩
    split at h4
    ·rename_i c; rw [if_pos c]
     obtain ⟨y,h5,h6⟩ := Option.bind_eq_some_iff.1 h4
     exact Option.bind_eq_some_iff.2 ⟨y,i1 _ _ _ _ h5,h6⟩
    ·rename_i c; rw [if_neg c]; exact h4
   ·rename_i c; rw [if_neg c]
    split at h
    ·rename_i c; rw [if_pos c]; exact h
    ·rename_i c; rw [if_neg c]
     obtain ⟨x,h1,h2⟩ := Option.bind_eq_some_iff.1 h
     exact Option.bind_eq_some_iff.2 ⟨x,ib _ _ _ h1,h2⟩
theorem zgp {tg : Bool} {l : List Stm} {p : PS} {f g : Nat} (hfg : f ≤ g) {r : (Bool × List Stm) × PS} (hr : blkL f tg l p = some r) : blkL g tg l p = some r := zg6 (F := fun f=>blkL f tg l p) (fun f r h=>(znq f).1 tg l p r h) hfg hr
theorem st_mono {p : PS} {f g : Nat} (hfg : f ≤ g) {r : Stm × PS} (hr : stF f p = some r) : stF g p = some r := zg6 (F := fun f=>stF f p) (fun f r h=>(znq f).2 p r h) hfg hr
theorem st_tot : ∀ m : Nat,(∀ p,Ok p→mu p ≤ m→(∃ f r,stF f p = some r)∧(∀ tg l,∃ f r,blkL f tg l p = some r)):=by
 intro m
 induction m using Nat.strongRecOn with
 | _ m ih =>
 have st : ∀ p,Ok p→mu p ≤ m→∃ f r,stF f p = some r:=by
  intro p hO hm
  by_cases hw : p.isW wIf = true
  ·obtain ⟨a1,a2,a3,a4⟩ := zdb hO (by rw [zds hw]; decide)
   obtain ⟨f1,x,h1⟩ := znx a1
   have k1 := (zcy f1).1 _ _ _ a1 h1
   have k2 := k1.trans (Keep.sign k1.ok [123])
   have m2 := k2.mu
   obtain ⟨f2,b,h2⟩ := (ih (mu (x.2.sign [123])) (by omega) _ k2.ok (Nat.le_refl _)).2 true []
   have k3 := k2.trans ((zgd f2).1 _ _ _ _ k2.ok h2)
   by_cases he : b.2.isW wElse = true
   ·have k4 := k3.trans (Keep.adv k3.ok)
    have k5 := k4.trans (Keep.sign k4.ok [123])
    have m5 := k5.mu
    obtain ⟨f3,c,h3⟩ := (ih (mu (b.2.adv.sign [123])) (by omega) _ k5.ok (Nat.le_refl _)).2 true []
    refine ⟨f1 + f2 + f3 + 1,?_⟩
    rw [stF,if_pos hw,zfs (by omega) h1]
    simp only [Option.bind_some]
    rw [zgp (by omega) h2]
    simp only [Option.bind_some]
    rw [if_pos he,zgp (by omega) h3]
    exact ⟨_,rfl⟩
   ·refine ⟨f1 + f2 + 1,?_⟩
    rw [stF,if_pos hw,zfs (by omega) h1]
    simp only [Option.bind_some]
    rw [zgp (by omega) h2]
    simp only [Option.bind_some]
    rw [if_neg he]
    exact ⟨_,rfl⟩
  ·by_cases h5 : (p.oneF stL 0).1 = 5
   ·exact ⟨1,_,by rw [stF,if_neg hw,if_pos h5]⟩
   ·have k1 := Keep.oneF hO stL 0
    have k2 := k1.trans (Keep.name k1.ok)
    have k3 := Keep.sign k2.ok [61]
    obtain ⟨f1,x,h1⟩ := znx k3.ok
    exact ⟨f1 + 1,_,by rw [stF,if_neg hw,if_neg h5,h1]; rfl⟩
 refine fun p hO hm=>⟨st p hO hm,fun tg l=>?_⟩
 by_cases hc : p.err = 0∧p.isG [125] = false
 ·obtain ⟨f1,x,h1⟩ := st p hO hm
  obtain ⟨k1,lt⟩ := (zgd f1).2 _ _ hO h1
  have lt := lt hc.1
  obtain ⟨f2,y,h2⟩ := (ih (mu x.2) (by omega) _ k1.ok (Nat.le_refl _)).2 false (l ++ [x.1])
  exact ⟨f1 + f2 + 1,y,by rw [blkL,if_pos hc,st_mono (by omega) h1]; exact zgp (by omega) h2⟩
 ·exact ⟨1,_,by rw [blkL,if_neg hc]⟩
theorem blkF_tot {p : PS} (hO : Ok p) : ∃ f r,blkF f p = some r := (st_tot _ _ (Keep.sign hO [123]).ok (Nat.le_refl _)).2 true []
theorem zmt {p : PS} {f g : Nat} (hfg : f ≤ g) {r : (Bool × List Stm) × PS} (hr : blkF f p = some r) : blkF g p = some r := zgp hfg hr
theorem znc : ∀ f l p r,pasL f l p = some r→pasL (f + 1) l p = some r
 | 0,_,_,_,h=>by cases h
 | f + 1,l,p,r,h=>by
  rw [pasL] at h
  rw [pasL]
  split at h
  ·rename_i c; rw [if_pos c]; exact znc f _ _ _ h
  ·rename_i c; rw [if_neg c]; exact h
theorem pasL_tot : ∀ m : Nat,∀ p l,Ok p→mu p ≤ m→∃ f r,pasL f l p = some r:=by
 intro m
 induction m using Nat.strongRecOn with
 | _ m ih =>
 intro p l hO hm
 by_cases hg : p.isG [44] = true
 ·have k0 := Keep.adv hO
  have lt := (PS.adv_mu hO).2 (by rw [zbv hg]; decide)
  have k1 := zd6 k0.ok
  have := k1.mu
  obtain ⟨f,r,h⟩ := ih (mu (parF p.adv).2) (by omega) _ (l ++ [(parF p.adv).1]) k1.ok (Nat.le_refl _)
  exact ⟨f + 1,r,by rw [pasL,if_pos hg]; exact h⟩
 ·exact ⟨1,_,by rw [pasL,if_neg hg]⟩
theorem zpj {p : PS} (hO : Ok p) : ∃ f r,pasF f p = some r:=by
 have k0 := Keep.sign hO [40]
 by_cases hg : (p.sign [40]).isG [41] = true
 ·exact ⟨0,_,by rw [pasF,if_pos hg]⟩
 ·obtain ⟨f,r,h⟩ := pasL_tot _ _ [(parF (p.sign [40])).1] (zd6 k0.ok).ok (Nat.le_refl _)
  exact ⟨f,_,by rw [pasF,if_neg hg,h]; rfl⟩
theorem zgf {p : PS} {f g : Nat} (hfg : f ≤ g) {r : (Bool × List Par) × PS} (hr : pasF f p = some r) : pasF g p = some r :=
 zg6 (F := fun f=>pasF f p) (fun f r h=>by
  simp only [pasF] at h ⊢
  split at h
  ·rename_i c; rw [if_pos c]; exact h
  ·rename_i c; rw [if_neg c]
   obtain ⟨x,h1,h2⟩ := Option.map_eq_some_iff.1 h
   exact Option.map_eq_some_iff.2 ⟨x,znc _ _ _ _ h1,h2⟩) hfg hr
theorem memF_tot (t : Typ) {p : PS} (hO : Ok p) : ∃ f r,memF f t p = some r:=by
 have k1 := Keep.oneF hO memW 0
 have k2 := Keep.name k1.ok
 unfold memF
 by_cases e1 : (p.oneF memW 0).1 = 1
 ·exact ⟨0,_,by rw [if_pos e1]⟩
 by_cases e2 : (p.oneF memW 0).1 = 2 ∨ (p.oneF memW 0).1 = 3 ∨ (p.oneF memW 0).1 = 4 ∨ (p.oneF memW 0).1 = 5
 ·exact ⟨0,_,by rw [if_neg e1,if_pos e2]⟩
 by_cases e6 : (p.oneF memW 0).1 = 6
 ·obtain ⟨f1,a,h1⟩ := zpj k2.ok
  obtain ⟨f2,b,h2⟩ := blkF_tot (zda k2.ok h1).ok
  refine ⟨f1 + f2,?_⟩
  rw [if_neg e1,if_neg e2,if_pos e6,zgf (by omega) h1]
  simp only [Option.bind_some]
  rw [zmt (by omega) h2]
  exact ⟨_,rfl⟩
 by_cases e7 : (p.oneF memW 0).1 = 7
 ·obtain ⟨f1,a,h1⟩ := zpj k2.ok
  have k3 := zda k2.ok h1
  obtain ⟨f2,b,h2⟩ := znx (Keep.sign k3.ok [61]).ok
  refine ⟨f1 + f2,?_⟩
  rw [if_neg e1,if_neg e2,if_neg e6,if_pos e7,zgf (by omega) h1]
  simp only [Option.bind_some]
  rw [zfs (by omega) h2]
  exact ⟨_,rfl⟩
 by_cases e8 : (p.oneF memW 0).1 = 8
 ·exact ⟨0,_,by rw [if_neg e1,if_neg e2,if_neg e6,if_neg e7,if_pos e8]⟩
 ·exact ⟨0,_,by rw [if_neg e1,if_neg e2,if_neg e6,if_neg e7,if_neg e8]⟩
theorem zmv {t : Typ} {p : PS} {f g : Nat} (hfg : f ≤ g) {r : Typ × PS} (hr : memF f t p = some r) : memF g t p = some r:=by
 unfold memF at hr ⊢
 split at hr
 ·rename_i c; rw [if_pos c]; exact hr
 rename_i c; rw [if_neg c]
 split at hr
 ·rename_i c; rw [if_pos c]; exact hr
 rename_i c; rw [if_neg c]
 split at hr
 ·rename_i c; rw [if_pos c]
  obtain ⟨a,h1,h2⟩ := Option.bind_eq_some_iff.1 hr
  obtain ⟨b,h3,h4⟩ := Option.bind_eq_some_iff.1 h2
  exact Option.bind_eq_some_iff.2 ⟨a,zgf hfg h1,Option.bind_eq_some_iff.2 ⟨b,zmt hfg h3,h4⟩⟩
 rename_i c; rw [if_neg c]
 split at hr
 ·rename_i c; rw [if_pos c]
  obtain ⟨a,h1,h2⟩ := Option.bind_eq_some_iff.1 hr
  obtain ⟨b,h3,h4⟩ := Option.bind_eq_some_iff.1 h2
  exact Option.bind_eq_some_iff.2 ⟨a,zgf hfg h1,Option.bind_eq_some_iff.2 ⟨b,zfs hfg h3,h4⟩⟩
 rename_i c; rw [if_neg c]
 exact hr
theorem zpm : ∀ f t p r,tdL f t p = some r→tdL (f + 1) t p = some r
 | 0,_,_,_,h=>by cases h
 | f + 1,t,p,r,h=>by
  rw [tdL] at h
  rw [tdL]
  split at h
  ·rename_i c; rw [if_pos c]
   obtain ⟨a,h1,h2⟩ := Option.bind_eq_some_iff.1 h
   exact Option.bind_eq_some_iff.2 ⟨a,zmv (Nat.le_succ _) h1,zpm f _ _ _ h2⟩
  ·rename_i c; rw [if_neg c]; exact h
theorem zpi {t : Typ} {p : PS} {f g : Nat} (hfg : f ≤ g) {r : Typ × PS} (hr : tdL f t p = some r) : tdL g t p = some r := zg6 (F := fun f=>tdL f t p) (fun f r h=>zpm f t p r h) hfg hr
theorem tdL_tot : ∀ m : Nat,∀ p t,Ok p→mu p ≤ m→∃ f r,tdL f t p = some r:=by
 intro m
 induction m using Nat.strongRecOn with
 | _ m ih =>
 intro p t hO hm
 by_cases hc : p.err = 0∧p.isG [125] = false
 ·obtain ⟨f1,x,h1⟩ := memF_tot t hO
  obtain ⟨k1,lt⟩ := zff hO h1
  have lt := lt hc.1
  obtain ⟨f2,y,h2⟩ := ih (mu x.2) (by omega) _ x.1 k1.ok (Nat.le_refl _)
  exact ⟨f1 + f2 + 1,y,by rw [tdL,if_pos hc,zmv (by omega) h1]; exact zpi (by omega) h2⟩
 ·exact ⟨1,_,by rw [tdL,if_neg hc]⟩
theorem tdF_tot {p : PS} (hO : Ok p) : ∃ f r,tdF f p = some r:=by
 have k1 := Keep.adv hO
 have k2 := Keep.name k1.ok
 exact tdL_tot _ _ _ (Keep.sign k2.ok [123]).ok (Nat.le_refl _)
theorem zph {p : PS} {f g : Nat} (hfg : f ≤ g) {r : Typ × PS} (hr : tdF f p = some r) : tdF g p = some r := zpi hfg hr
theorem zoq : ∀ f tg l p r,paL f tg l p = some r→paL (f + 1) tg l p = some r
 | 0,_,_,_,_,h=>by cases h
 | f + 1,tg,l,p,r,h=>by
  rw [paL] at h
  rw [paL]
  split at h
  ·rename_i c; rw [if_pos c]
   obtain ⟨a,h1,h2⟩ := Option.bind_eq_some_iff.1 h
   exact Option.bind_eq_some_iff.2 ⟨a,zph (Nat.le_succ _) h1,zoq f _ _ _ _ h2⟩
  ·rename_i c; rw [if_neg c]; exact h
theorem paL_mono {tg : Bool} {l : List Typ} {p : PS} {f g : Nat} (hfg : f ≤ g) {r : (Bool × List Typ) × PS} (hr : paL f tg l p = some r) : paL g tg l p = some r := zg6 (F := fun f=>paL f tg l p) (fun f r h=>zoq f tg l p r h) hfg hr
theorem paL_tot : ∀ m : Nat,∀ tg l p,Ok p→mu p ≤ m→∃ f r,paL f tg l p = some r:=by
 intro m
 induction m using Nat.strongRecOn with
 | _ m ih =>
 intro tg l p hO hm
 by_cases hw : p.isW wType = true
 ·obtain ⟨f1,x,h1⟩ := tdF_tot hO
  have k1 := zih hO h1
  have lt := zrh hO (by rw [zds hw]; decide) h1
  obtain ⟨f2,y,h2⟩ := ih (mu x.2) (by omega) false (l ++ [x.1]) _ k1.ok (Nat.le_refl _)
  exact ⟨f1 + f2 + 1,y,by rw [paL,if_pos hw,zph (by omega) h1]; exact paL_mono (by omega) h2⟩
 ·exact ⟨1,_,by rw [paL,if_neg hw]⟩
theorem pa_tot {src : List UInt8} (h : src.length ≤ 4000) : ∃ f r,paL f true [] (ps0 src).adv = some r := paL_tot _ _ _ _ (PS.adv_ok (znl h)) (Nat.le_refl _)
end Go.Proofs.YtfdklpkfpmkgeaaGreatDoor
end
section
namespace Go.Proofs.YtfdklpkfpmkgeaaGreatDoor
open Go Go.Vai
def Typ.tot (t : Typ) : Nat := t.fields.length + t.ops.length + t.qrys.length + t.idxs.length
structure TOk (t : Typ) : Prop where
 tot : t.tot ≤ 9000
 ops : ∀ o ∈ t.ops,szL o.body ≤ 9000
def TsOk (l : List Typ) : Prop := l.length ≤ 20000∧∀ t ∈ l,TOk t
theorem memF_b {f : Nat} {t : Typ} {p : PS} {r : Typ × PS} (hO : Ok p) (h : memF f t p = some r) : r.1.tot ≤ t.tot + 1∧((∀ o ∈ t.ops,szL o.body ≤ 9000)→∀ o ∈ r.1.ops,szL o.body ≤ 9000):=by
 have k1 := Keep.oneF hO memW 0
 have k2 := Keep.name k1.ok
 unfold memF at h
 unfold Typ.tot
 split at h
 ·injection h with h; subst h; exact ⟨by simp; omega,fun hh=>hh⟩
 split at h
 ·injection h with h; subst h; exact ⟨by simp; omega,fun hh=>hh⟩
 split at h
 ·obtain ⟨a,h1,h2⟩ := Option.bind_eq_some_iff.1 h
  obtain ⟨b,h3,h4⟩ := Option.bind_eq_some_iff.1 h2
  injection h4 with h4; subst h4
  refine ⟨by simp; omega,fun hh o ho=>?_⟩
  rcases List.mem_append.1 ho with ho | ho
  ·exact hh o ho
  ·rw [List.mem_singleton.1 ho]
   have := blkF_sz (zda k2.ok h1).ok h3
   exact Nat.le_trans this (by decide)
 split at h
 ·obtain ⟨a,h1,h2⟩ := Option.bind_eq_some_iff.1 h
  obtain ⟨b,h3,h4⟩ := Option.bind_eq_some_iff.1 h2
  injection h4 with h4; subst h4; exact ⟨by simp; omega,fun hh=>hh⟩
 split at h
 ·injection h with h; subst h; exact ⟨by simp; omega,fun hh=>hh⟩
 ·injection h with h; subst h; exact ⟨by simp,fun hh=>hh⟩
theorem tdL_b : ∀ f t p r,Ok p→tdL f t p = some r→r.1.tot + mu r.2 ≤ t.tot + mu p∧((∀ o ∈ t.ops,szL o.body ≤ 9000)→∀ o ∈ r.1.ops,szL o.body ≤ 9000)
 | 0,_,_,_,_,h=>by cases h
 | f + 1,t,p,r,hO,h=>by
  unfold tdL at h
  split at h
  ·rename_i hc
   obtain ⟨a,h1,h2⟩ := Option.bind_eq_some_iff.1 h
   obtain ⟨k1,lt⟩ := zff hO h1
   have lt := lt hc.1
   obtain ⟨b1,b2⟩ := memF_b hO h1
   obtain ⟨c1,c2⟩ := tdL_b f _ _ _ k1.ok h2
   exact ⟨by omega,fun hh=>c2 (b2 hh)⟩
  ·injection h with h; subst h
   have := (Keep.sign hO [125]).mu
   exact ⟨by simp only; omega,fun hh=>hh⟩
theorem tdF_b {f : Nat} {p : PS} {r : Typ × PS} (hO : Ok p) (h : tdF f p = some r) : TOk r.1:=by
 have k1 := Keep.adv hO
 have k2 := Keep.name k1.ok
 have k3 := Keep.sign k2.ok [123]
 obtain ⟨c1,c2⟩ := tdL_b f _ _ _ k3.ok h
 have := zjm k3.ok
 have e : (⟨p.adv.s,true,[],true,[],true,[],true,[],p.adv.tat⟩ : Typ).tot = 0 := rfl
 exact ⟨by omega,c2 (fun o ho=>by cases ho)⟩
theorem paL_b : ∀ f tg l p r,Ok p→paL f tg l p = some r→r.1.2.length + mu r.2 ≤ l.length + mu p∧((∀ t ∈ l,TOk t)→∀ t ∈ r.1.2,TOk t)
 | 0,_,_,_,_,_,h=>by cases h
 | f + 1,tg,l,p,r,hO,h=>by
  unfold paL at h
  split at h
  ·rename_i hw
   obtain ⟨a,h1,h2⟩ := Option.bind_eq_some_iff.1 h
   have k1 := zih hO h1
   have lt := zrh hO (by rw [zds hw]; decide) h1
   obtain ⟨c1,c2⟩ := paL_b f _ _ _ _ k1.ok h2
   refine ⟨by rw [List.length_append,List.length_singleton] at c1; omega,fun hh=>c2 fun t ht=>?_⟩
   rcases List.mem_append.1 ht with ht | ht
   ·exact hh t ht
   ·rw [List.mem_singleton.1 ht]; exact tdF_b hO h1
  ·injection h with h; subst h; exact ⟨Nat.le_refl _,fun hh=>hh⟩
theorem pa_ok {src : List UInt8} (hl : src.length ≤ 4000) {f : Nat} {r : (Bool × List Typ) × PS} (h : paL f true [] (ps0 src).adv = some r) : TsOk r.1.2:=by
 have k0 := Keep.adv (znl hl)
 obtain ⟨c1,c2⟩ := paL_b f _ _ _ _ k0.ok h
 have := zjm k0.ok
 exact ⟨by simp only [List.length_nil] at c1; omega,c2 (fun t ht=>by cases ht)⟩
end Go.Proofs.YtfdklpkfpmkgeaaGreatDoor
end
section
namespace Go.Proofs.YtfdklpkfpmkgeaaGreatDoor
open Go Go.Vai
theorem isG_s {p : PS} {w : List UInt8} (h : p.isG w = true) : p.s = w:=by
 unfold PS.isG at h
 rw [Bool.and_eq_true] at h
 exact (zdz _ _).1 h.2
theorem zsy {s : List UInt8} {n : Nat} (h : zgy s = (n : Int)) (hn : 1 ≤ n) : s ∈ binW:=by
 unfold zgy at h
 unfold binW
 split at h
 ·rename_i e; subst e; simp
 split at h
 ·rename_i e; subst e; simp
 split at h
 ·rename_i e; rcases e with e | e | e | e | e | e | e <;> subst e <;> simp
 split at h
 ·rename_i e; rcases e with e | e <;> subst e <;> simp
 split at h
 ·rename_i e; subst e; simp
 ·omega
theorem zhg {k n : Int} {s : List UInt8} {tg : Bool} {a : Int} {p q : PS} (h1 : 1 ≤ k) (h5 : k ≤ 5) (hm : mu q ≤ mu p) : WfE (.mk k n s tg [] a)∧(Ex.mk k n s tg [] a).sz + 2 * mu q ≤ 2 * mu p + 1:=by
 refine ⟨.leaf _ _ _ _ _ h1 h5,?_⟩
 simp only [Ex.sz,szE]
 omega
theorem ex_wf : ∀ f : Nat,(∀ n p r,Ok p→1 ≤ n→binF f n p = some r→WfE r.1∧r.1.sz + 2 * mu r.2 ≤ 2 * mu p + 1)∧(∀ n e p r,Ok p→1 ≤ n→WfE e→binL f n e p = some r→WfE r.1∧r.1.sz + 2 * mu r.2 ≤ e.sz + 2 * mu p) ∧
  (∀ p r,Ok p→unF f p = some r→WfE r.1∧r.1.sz + 2 * mu r.2 ≤ 2 * mu p + 1)∧(∀ p r,Ok p→priF f p = some r→WfE r.1∧r.1.sz + 2 * mu r.2 ≤ 2 * mu p + 1)
 | 0=>⟨fun _ _ _ _ _ h=>(by rw [binF] at h; cases h),fun _ _ _ _ _ _ _ h=>(by rw [binL] at h; cases h),fun _ _ _ h=>(by rw [unF] at h; cases h),fun _ _ _ h=>(by rw [priF] at h; cases h)⟩
 | f + 1=>by
  obtain ⟨i1,i2,i3,i4⟩ := ex_wf f
  obtain ⟨j1,j2,j3,j4⟩ := zcy f
  refine ⟨fun n p r hp hn h=>?_,fun n e p r hp hn he h=>?_,fun p r hp h=>?_,fun p r hp h=>?_⟩
  ·rw [binF] at h
   split at h
   ·exact i3 p r hp h
   ·obtain ⟨x,h1,h2⟩ := Option.bind_eq_some_iff.1 h
    obtain ⟨a1,a2⟩ := i1 _ _ _ hp (by omega) h1
    obtain ⟨b1,b2⟩ := i2 _ _ _ _ (j1 _ _ _ hp h1).ok hn a1 h2
    exact ⟨b1,by omega⟩
  ·rw [binL] at h
   split at h
   ·rename_i hc
    obtain ⟨x,h1,h2⟩ := Option.bind_eq_some_iff.1 h
    have k0 := Keep.adv hp
    have lt := (PS.adv_mu hp).2 (zou hp hn hc.2)
    obtain ⟨a1,a2⟩ := i1 _ _ _ k0.ok (by omega) h1
    have hw : WfE (.mk 7 0 p.s false [e,x.1] p.tat) := .bin _ _ _ _ _ _ (zsy hc.2 hn) he a1
    have hsz : (Ex.mk 7 0 p.s false [e,x.1] p.tat).sz = 1 + (e.sz + (x.1.sz + 0)) := by simp only [Ex.sz,szE]
    split at h2
    ·injection h2 with h2
     subst h2
     refine ⟨hw,?_⟩
     rw [hsz]
     simp only
     omega
    ·obtain ⟨b1,b2⟩ := i2 _ _ _ _ (j1 _ _ _ k0.ok h1).ok hn hw h2
     rw [hsz] at b2
     exact ⟨b1,by omega⟩
   ·injection h with h
    subst h
    exact ⟨he,Nat.le_refl _⟩
  ·rw [unF] at h
   split at h
   ·rename_i hg
    have hk : p.kind ≠ 0 := by rcases hg with hg | hg <;> rw [zbv hg] <;> decide
    have hs : p.s = [45] ∨ p.s = [33] := by rcases hg with hg | hg; exact .inl (isG_s hg); exact .inr (isG_s hg)
    obtain ⟨x,h1,h2⟩ := Option.bind_eq_some_iff.1 h
    obtain ⟨a1,a2,a3,a4⟩ := zdb hp hk
    obtain ⟨b1,b2⟩ := i3 _ _ a1 h1
    injection h2 with h2
    subst h2
    refine ⟨.un _ _ _ _ _ hs b1,?_⟩
    have e2 : mu x.2.cls = mu x.2 := rfl
    simp only [Ex.sz,szE,e2]
    omega
   ·exact i4 p r hp h
  ·rw [priF] at h
   split at h
   ·injection h with h; subst h; exact zhg (by decide) (by decide) (Keep.adv hp).mu
   split at h
   ·injection h with h; subst h; exact zhg (by decide) (by decide) (Keep.adv hp).mu
   split at h
   ·injection h with h; subst h; exact zhg (by decide) (by decide) (Keep.adv hp).mu
   split at h
   ·injection h with h; subst h; exact zhg (by decide) (by decide) (Keep.adv hp).mu
   split at h
   ·injection h with h; subst h
    have k1 := Keep.adv hp
    have k2 := k1.trans (Keep.sign k1.ok [40])
    have k3 := k2.trans (Keep.name k2.ok)
    exact zhg (by decide) (by decide) (k3.trans (Keep.sign k3.ok [41])).mu
   split at h
   ·rename_i hg
    obtain ⟨x,h1,h2⟩ := Option.bind_eq_some_iff.1 h
    obtain ⟨a1,a2,a3,a4⟩ := zdb hp (by rw [zbv hg]; decide)
    obtain ⟨b1,b2⟩ := i1 _ _ _ a1 (by decide) h1
    have k1 := j1 _ _ _ a1 h1
    injection h2 with h2
    subst h2
    have k2 := zft hp k1.ok (k1.src.trans a2) (k1.dep.trans a3) (by have := k1.mu; omega)
    have k3 := (Keep.sign k2.ok [41]).mu
    have e2 : mu x.2.cls = mu x.2 := rfl
    refine ⟨b1,?_⟩
    simp only
    omega
   ·injection h with h; subst h; exact zhg (by decide) (by decide) (Keep.name hp).mu
theorem zpl : ∀ f l p r,Ok p→pasL f l p = some r→r.1.length + mu r.2 ≤ l.length + mu p
 | 0,_,_,_,_,h=>by cases h
 | f + 1,l,p,r,hO,h=>by
  rw [pasL] at h
  split at h
  ·rename_i hg
   have k0 := Keep.adv hO
   have lt := (PS.adv_mu hO).2 (by rw [zbv hg]; decide)
   have k1 := zd6 k0.ok
   have := k1.mu
   have := zpl f _ _ _ k1.ok h
   rw [List.length_append,List.length_singleton] at this
   omega
  ·injection h with h
   subst h
   have := (Keep.sign hO [41]).mu
   simp only
   omega
theorem pasF_len {f : Nat} {p : PS} {r : (Bool × List Par) × PS} (hO : Ok p) (h : pasF f p = some r) : r.1.2.length ≤ 8003:=by
 have k0 := Keep.sign hO [40]
 unfold pasF at h
 split at h
 ·injection h with h
  subst h
  exact Nat.zero_le _
 ·obtain ⟨x,h1,h2⟩ := Option.map_eq_some_iff.1 h
  subst h2
  have k1 := zd6 k0.ok
  have := zpl f _ _ _ k1.ok h1
  have := zjm k1.ok
  simp only [List.length_singleton] at *
  omega
structure TWf (t : Typ) : Prop where
 flds : ∀ f ∈ t.fields,1 ≤ f.kind∧f.kind ≤ 5
 qrys : ∀ q ∈ t.qrys,WfE q.res∧q.res.sz ≤ 100000∧q.params.length ≤ 100000
theorem memF_w {f : Nat} {t : Typ} {p : PS} {r : Typ × PS} (hO : Ok p) (h : memF f t p = some r) (ht : TWf t) : TWf r.1:=by
 have k1 := Keep.oneF hO memW 0
 have k2 := Keep.name k1.ok
 unfold memF at h
 split at h
 ·injection h with h; subst h
  refine ⟨fun g hg=>?_,ht.qrys⟩
  rcases List.mem_append.1 hg with hg | hg
  ·exact ht.flds g hg
  ·rw [List.mem_singleton.1 hg]; simp only; omega
 split at h
 ·rename_i hc
  injection h with h; subst h
  refine ⟨fun g hg=>?_,ht.qrys⟩
  rcases List.mem_append.1 hg with hg | hg
  ·exact ht.flds g hg
  ·rw [List.mem_singleton.1 hg]; simp only; omega
 split at h
 ·obtain ⟨a,h1,h2⟩ := Option.bind_eq_some_iff.1 h
  obtain ⟨b,h3,h4⟩ := Option.bind_eq_some_iff.1 h2
  injection h4 with h4; subst h4
  exact ⟨ht.flds,ht.qrys⟩
 split at h
 ·obtain ⟨a,h1,h2⟩ := Option.bind_eq_some_iff.1 h
  obtain ⟨b,h3,h4⟩ := Option.bind_eq_some_iff.1 h2
  injection h4 with h4; subst h4
  refine ⟨ht.flds,fun q hq=>?_⟩
  rcases List.mem_append.1 hq with hq | hq
  ·exact ht.qrys q hq
  ·rw [List.mem_singleton.1 hq]
   have k3 := zda k2.ok h1
   have k4 := Keep.sign k3.ok [61]
   obtain ⟨w1,w2⟩ := (ex_wf f).1 _ _ _ k4.ok (by decide) h3
   have := zjm k4.ok
   have := pasF_len k2.ok h1
   exact ⟨w1,by simp only; omega,by simp only; omega⟩
 split at h
 ·injection h with h; subst h; exact ⟨ht.flds,ht.qrys⟩
 ·injection h with h; subst h; exact ht
theorem tdL_w : ∀ f t p r,Ok p→tdL f t p = some r→TWf t→TWf r.1
 | 0,_,_,_,_,h,_=>by cases h
 | f + 1,t,p,r,hO,h,ht=>by
  unfold tdL at h
  split at h
  ·obtain ⟨a,h1,h2⟩ := Option.bind_eq_some_iff.1 h
   exact tdL_w f _ _ _ (zff hO h1).1.ok h2 (memF_w hO h1 ht)
  ·injection h with h; subst h; exact ht
theorem tdF_w {f : Nat} {p : PS} {r : Typ × PS} (hO : Ok p) (h : tdF f p = some r) : TWf r.1:=by
 have k1 := Keep.adv hO
 have k2 := Keep.name k1.ok
 exact tdL_w f _ _ _ (Keep.sign k2.ok [123]).ok h ⟨fun g hg=>(by cases hg),fun q hq=>(by cases hq)⟩
theorem paL_w : ∀ f tg l p r,Ok p→paL f tg l p = some r→(∀ t ∈ l,TWf t)→∀ t ∈ r.1.2,TWf t
 | 0,_,_,_,_,_,h,_=>by cases h
 | f + 1,tg,l,p,r,hO,h,hl=>by
  unfold paL at h
  split at h
  ·obtain ⟨a,h1,h2⟩ := Option.bind_eq_some_iff.1 h
   refine paL_w f _ _ _ _ (zih hO h1).ok h2 fun t ht=>?_
   rcases List.mem_append.1 ht with ht | ht
   ·exact hl t ht
   ·rw [List.mem_singleton.1 ht]; exact tdF_w hO h1
  ·injection h with h; subst h; exact hl
theorem pa_wf {src : List UInt8} (hl : src.length ≤ 4000) {f : Nat} {r : (Bool × List Typ) × PS} (h : paL f true [] (ps0 src).adv = some r) : ∀ t ∈ r.1.2,TWf t :=
 paL_w f _ _ _ _ (Keep.adv (znl hl)).ok h (fun t ht=>by cases ht)
end Go.Proofs.YtfdklpkfpmkgeaaGreatDoor
end
section
namespace Go.Proofs.YtfdklpkfpmkgeaaGreatDoor
open Go Go.Vai
attribute [local irreducible] goTo zas mkS
variable {C : Nat → Oracle} {o : Out}
abbrev qP0 : List Nat := [0,5,0,0,5,7,5,0,0,5,2,3,0,0,5,6,5,0,2,0]
abbrev qP1 : List Nat := [0,5,0,0,5,7,5,0,5,0,0,5,2,3,0,0,5,6,5,0,2,0,5,0,5,2,3,0,0,5,6,5,0,2,0,5,2,3,0,0,5,6,5,0,2,0]
abbrev qP2 : List Nat := [0,5,0,0,5,7,5,0,5,0,0,5,2,3,0,0,5,6,5,0,2,0,5,0,5,2,3,0,0,5,6,5,0,2,0,5,2,3,0,0,5,6,5,0,2,0,5,0]
abbrev qP3 : List Nat := [0,5,0,0,5,7,5,0,0,5,2,3]
abbrev qP4 : List Nat := [0,5,0,0,5,7,5,0,5,0,0,5,2,3]
abbrev qP5 : List Nat := [0,5,0,0,5,7,5,0,5,0,0,5,2,3,0,0,5,7,5,5,5,5,0]
abbrev qP6 : List Nat := [0,5,0,0,5,7,5,0,5,0,0,5,2,3,0,0,5,6,5,0,2,0,5,0,5,2,3]
abbrev qP7 : List Nat := [0,5,0,0,5,7,5,0,5,0,0,5,2,3,0,0,5,6,5,0,2,0,5,0,5,2,3,0,0,5,6,5,0,2,0,5,2,3]
abbrev qP8 : List Nat := [0,5,0,0,5,7,5,0,5,0,0,5,2,3,0,0,5,6,5,0,2,0]
abbrev qP9 : List Nat := [0,5,0,0,5,7,5,0,5,0,0,5,2,3,0,0,5,6,5,0,2,0,5,0,5,2,3,0,0,5,6,5,0,2,0,5,2,3,0,0,5,6,5,0,2,0,5,0,5,0]
theorem p25_c (hC : Ext C) {tg_1 tg_3 : Bool} {l_2 l_4 : List Dg} (ho : RL C 25 [] (mk0 41 [vv 0 (.vs 2 tg_1 (l_2.map Dg.av)),vv 1 (.vs 2 tg_3 (l_4.map Dg.av))]) = some o) : calL C 25 [(.vs 2 tg_1 (l_2.map Dg.av)),(.vs 2 tg_3 (l_4.map Dg.av))] Hp.none 0 = some o := hC.call rfl (fun _ _ => by kernel_rfl) ho
theorem p25_0 {tg_1 tg_3 : Bool} {l_2 l_4 : List Dg} (ho : Tr.val C 25
(.br (!(decide (((l_2.map Dg.av).length : Int) = ((l_4.map Dg.av).length : Int))))
(rt (.bool false))
(.run 0 qP3 (mk0 41 [vv 0 (.vs 2 tg_1 (l_2.map Dg.av)),vv 1 (.vs 2 tg_3 (l_4.map Dg.av)),vi 5 0]))) = some o) : RL C 25 [] (mk0 41 [vv 0 (.vs 2 tg_1 (l_2.map Dg.av)),vv 1 (.vs 2 tg_3 (l_4.map Dg.av))]) = some o := stR C 12 (fun _ _ => by kernel_rfl) ho
theorem p25_1 {tg_5 tg_7 : Bool} {l_6 l_8 : List Dg} {x_9 : Int} (ho : Tr.val C 25
(.br (decide (x_9 < ((l_6.map Dg.av).length : Int)))
(ix (l_6.map Dg.av) x_9 fun c1 =>
(.mid 0 qP0 3 (mk0 41 [vv 0 (.vs 2 tg_5 (l_6.map Dg.av)),vv 1 (.vs 2 tg_7 (l_8.map Dg.av)),vi 5 x_9,vb 14 true,vv 17 (.vs 2 tg_5 (l_6.map Dg.av)),vi 18 x_9,vv 19 (.cptr (AV.cells c1))])))
(rt (.bool true))) = some o) : RL C 25 qP3 (mk0 41 [vv 0 (.vs 2 tg_5 (l_6.map Dg.av)),vv 1 (.vs 2 tg_7 (l_8.map Dg.av)),vi 5 x_9]) = some o := stR C 9 (fun _ _ => by kernel_rfl) ho
theorem p25_2 {tg_5 tg_7 : Bool} {l_6 l_8 : List Dg} {x_9 : Int} {d_10 : Dg} (ho : Tr.val C 25
(ix (l_8.map Dg.av) x_9 fun c2 =>
(.mid 0 qP0 8 (mk0 41 [vv 0 (.vs 2 tg_5 (l_6.map Dg.av)),vv 1 (.vs 2 tg_7 (l_8.map Dg.av)),vi 5 x_9,vb 14 true,vv 17 (.vs 2 tg_5 (l_6.map Dg.av)),vi 18 x_9,vv 19 (.cptr (Dg.cs d_10)),vv 20 (.cptr (Dg.cs d_10)),vi 21 d_10.at_,vv 22 (.vs 2 tg_7 (l_8.map Dg.av)),vi 23 x_9,vv 24 (.cptr (AV.cells c2))]))) = some o) : ML C 25 qP0 3 (mk0 41 [vv 0 (.vs 2 tg_5 (l_6.map Dg.av)),vv 1 (.vs 2 tg_7 (l_8.map Dg.av)),vi 5 x_9,vb 14 true,vv 17 (.vs 2 tg_5 (l_6.map Dg.av)),vi 18 x_9,vv 19 (.cptr (Dg.cs d_10))]) = some o := stM C 0 (fun _ _ => by kernel_rfl) ho
theorem p25_3 {tg_5 tg_7 : Bool} {l_6 l_8 : List Dg} {x_9 : Int} {d_10 d_11 : Dg} (ho : Tr.val C 25
(.br (!(decide (d_10.at_ = d_11.at_)))
(rt (.bool false))
(ix (l_6.map Dg.av) x_9 fun c3 =>
(.mid 4 qP0 15 (mk0 41 [vv 0 (.vs 2 tg_5 (l_6.map Dg.av)),vv 1 (.vs 2 tg_7 (l_8.map Dg.av)),vi 5 x_9,vb 14 true,vv 17 (.vs 2 tg_5 (l_6.map Dg.av)),vi 18 x_9,vv 19 (.cptr (Dg.cs d_10)),vv 20 (.cptr (Dg.cs d_10)),vi 21 d_10.at_,vv 22 (.vs 2 tg_7 (l_8.map Dg.av)),vi 23 x_9,vv 24 (.cptr (Dg.cs d_11)),vv 25 (.cptr (Dg.cs d_11)),vi 26 d_11.at_,vb 27 (!(decide (d_10.at_ = d_11.at_))),vb 28 false,vv 29 (.vs 2 tg_5 (l_6.map Dg.av)),vi 30 x_9,vv 31 (.cptr (AV.cells c3))])))) = some o) : ML C 25 qP0 8 (mk0 41 [vv 0 (.vs 2 tg_5 (l_6.map Dg.av)),vv 1 (.vs 2 tg_7 (l_8.map Dg.av)),vi 5 x_9,vb 14 true,vv 17 (.vs 2 tg_5 (l_6.map Dg.av)),vi 18 x_9,vv 19 (.cptr (Dg.cs d_10)),vv 20 (.cptr (Dg.cs d_10)),vi 21 d_10.at_,vv 22 (.vs 2 tg_7 (l_8.map Dg.av)),vi 23 x_9,vv 24 (.cptr (Dg.cs d_11))]) = some o := stM C 4 (fun _ _ => by kernel_rfl) ho
theorem p25_4 {tg_5 tg_7 c_13 : Bool} {l_6 l_8 : List Dg} {x_9 : Int} {d_10 d_11 d_12 : Dg} (ho : Tr.val C 25
(ix (l_8.map Dg.av) x_9 fun c4 =>
(.mid 0 qP0 20 (mk0 41 [vv 0 (.vs 2 tg_5 (l_6.map Dg.av)),vv 1 (.vs 2 tg_7 (l_8.map Dg.av)),vi 5 x_9,vb 14 true,vv 17 (.vs 2 tg_5 (l_6.map Dg.av)),vi 18 x_9,vv 19 (.cptr (Dg.cs d_10)),vv 20 (.cptr (Dg.cs d_10)),vi 21 d_10.at_,vv 22 (.vs 2 tg_7 (l_8.map Dg.av)),vi 23 x_9,vv 24 (.cptr (Dg.cs d_11)),vv 25 (.cptr (Dg.cs d_11)),vi 26 d_11.at_,vb 27 c_13,vb 28 false,vv 29 (.vs 2 tg_5 (l_6.map Dg.av)),vi 30 x_9,vv 31 (.cptr (Dg.cs d_12)),vv 32 (.cptr [(i6 d_12.err)]),vi 33 d_12.err,vv 34 (.vs 2 tg_7 (l_8.map Dg.av)),vi 35 x_9,vv 36 (.cptr (AV.cells c4))]))) = some o) : ML C 25 qP0 15 (mk0 41 [vv 0 (.vs 2 tg_5 (l_6.map Dg.av)),vv 1 (.vs 2 tg_7 (l_8.map Dg.av)),vi 5 x_9,vb 14 true,vv 17 (.vs 2 tg_5 (l_6.map Dg.av)),vi 18 x_9,vv 19 (.cptr (Dg.cs d_10)),vv 20 (.cptr (Dg.cs d_10)),vi 21 d_10.at_,vv 22 (.vs 2 tg_7 (l_8.map Dg.av)),vi 23 x_9,vv 24 (.cptr (Dg.cs d_11)),vv 25 (.cptr (Dg.cs d_11)),vi 26 d_11.at_,vb 27 c_13,vb 28 false,vv 29 (.vs 2 tg_5 (l_6.map Dg.av)),vi 30 x_9,vv 31 (.cptr (Dg.cs d_12))]) = some o := stM C 0 (fun _ _ => by kernel_rfl) ho
theorem p25_5 {tg_5 tg_7 c_13 : Bool} {l_6 l_8 : List Dg} {x_9 : Int} {d_10 d_11 d_12 d_14 : Dg} (ho : Tr.val C 25
(.br (!(decide (d_12.err = d_14.err)))
(rt (.bool false))
(.run 0 qP3 (mk0 41 [vv 0 (.vs 2 tg_5 (l_6.map Dg.av)),vv 1 (.vs 2 tg_7 (l_8.map Dg.av)),vi 5 (w64 (x_9 + 1))]))) = some o) : ML C 25 qP0 20 (mk0 41 [vv 0 (.vs 2 tg_5 (l_6.map Dg.av)),vv 1 (.vs 2 tg_7 (l_8.map Dg.av)),vi 5 x_9,vb 14 true,vv 17 (.vs 2 tg_5 (l_6.map Dg.av)),vi 18 x_9,vv 19 (.cptr (Dg.cs d_10)),vv 20 (.cptr (Dg.cs d_10)),vi 21 d_10.at_,vv 22 (.vs 2 tg_7 (l_8.map Dg.av)),vi 23 x_9,vv 24 (.cptr (Dg.cs d_11)),vv 25 (.cptr (Dg.cs d_11)),vi 26 d_11.at_,vb 27 c_13,vb 28 false,vv 29 (.vs 2 tg_5 (l_6.map Dg.av)),vi 30 x_9,vv 31 (.cptr (Dg.cs d_12)),vv 32 (.cptr [(i6 d_12.err)]),vi 33 d_12.err,vv 34 (.vs 2 tg_7 (l_8.map Dg.av)),vi 35 x_9,vv 36 (.cptr (Dg.cs d_14))]) = some o := stM C 5 (fun _ _ => by kernel_rfl) ho
theorem p7_c (hC : Ext C) {tg_15 c_17 : Bool} {l_16 : List AV} (ho : RL C 7 [] (mk0 99 [vv 0 (.vs 1 tg_15 l_16),vb 1 c_17]) = some o) : calL C 7 [(.vs 1 tg_15 l_16),(.bool c_17)] Hp.none 0 = some o := hC.call rfl (fun _ _ => by kernel_rfl) ho
theorem p7_0 {tg_15 c_17 : Bool} {l_16 : List AV} (ho : Tr.val C 7
(.br (decide (80 < (l_16.length : Int)))
(cl0 14 [] fun r1 => .br (AV.pure r1.v)
(.mid 1 [0,5,0,0,5,6,0] 1 (mk0 99 [vv 0 (.vs 1 tg_15 l_16),vb 1 c_17,vb 17 true,vv 18 r1.v])) .none)
(cl0 15 [(.vs 1 tg_15 l_16),(.bool c_17)] fun r2 => .br (AV.pure r2.v)
(.mid 0 [0,5,0,0,5,7,5,0] 3 (mk0 99 [vv 0 (.vs 1 tg_15 l_16),vb 1 c_17,vb 17 false,vv 20 (.vs 1 tg_15 l_16),vb 21 c_17,vv 22 r2.v])) .none)) = some o) : RL C 7 [] (mk0 99 [vv 0 (.vs 1 tg_15 l_16),vb 1 c_17]) = some o := stR C 9 (fun _ _ => by kernel_rfl) ho
theorem p7_1 {tg_15 c_17 c_18 : Bool} {l_16 : List AV} (ho : Tr.val C 7
(rt (.bool c_18)) = some o) : ML C 7 [0,5,0,0,5,6,0] 1 (mk0 99 [vv 0 (.vs 1 tg_15 l_16),vb 1 c_17,vb 17 true,vb 18 c_18]) = some o := stM C 1 (fun _ _ => by kernel_rfl) ho
theorem p7_2 {tg_15 c_17 tg_19 c_21 : Bool} {l_16 : List AV} {l_20 : List Typ} (ho : Tr.val C 7
(.run 0 qP4 (mkS 99 [(5,.lp 5 0),vb 6 c_21,vi 7 0] [(5,⟨[(.vs 6 tg_19 (l_20.map Typ.av))],[]⟩)] Hp.none 0)) = some o) : ML C 7 [0,5,0,0,5,7,5,0] 3 (mkS 99 [vv 0 (.vs 1 tg_15 l_16),vb 1 c_17,vb 17 false,vv 20 (.vs 1 tg_15 l_16),vb 21 c_17,vv 22 (.tuple [(.agg [(.vs 6 tg_19 (l_20.map Typ.av))]),(.bool c_21)])] [] Hp.none 0) = some o := stM C 5 (fun _ _ => by kernel_rfl) ho
theorem p7_3 {c_22 tg_24 : Bool} {x_23 : Int} {l_25 : List Typ} (ho : Tr.val C 7
(.br c_22
(.br (decide (x_23 < ((l_25.map Typ.av).length : Int)))
(ix (l_25.map Typ.av) x_23 fun c3 =>
(.mid 0 qP8 4 (mkS 99 [(5,.lp 5 0),vb 6 c_22,vi 7 x_23,vb 32 true,(35,.lp 5 0),vv 36 (.vs 6 tg_24 (l_25.map Typ.av)),vi 37 x_23,vv 38 (.cptr (AV.cells c3))] [(5,⟨[(.vs 6 tg_24 (l_25.map Typ.av))],[]⟩)] Hp.none 0)))
(cl0 14 [] fun r4 => .br (AV.pure r4.v)
(.mid 2 qP5 1 (mkS 99 [(5,.lp 5 0),vb 6 c_22,vi 7 x_23,vb 32 false,vv 98 r4.v] [(5,⟨[(.vs 6 tg_24 (l_25.map Typ.av))],[]⟩)] Hp.none 0)) .none))
(cl0 14 [] fun r5 => .br (AV.pure r5.v)
(.mid 2 qP5 1 (mkS 99 [(5,.lp 5 0),vb 6 c_22,vi 7 x_23,vb 32 false,vv 98 r5.v] [(5,⟨[(.vs 6 tg_24 (l_25.map Typ.av))],[]⟩)] Hp.none 0)) .none)) = some o) : RL C 7 qP4 (mkS 99 [(5,.lp 5 0),vb 6 c_22,vi 7 x_23] [(5,⟨[(.vs 6 tg_24 (l_25.map Typ.av))],[]⟩)] Hp.none 0) = some o := stR C 9 (fun _ _ => by kernel_rfl) ho
theorem p7_4 {c_22 tg_24 : Bool} {x_23 : Int} {l_25 : List Typ} {t_26 : Typ} (ho : Tr.val C 7
(.run 0 qP6 (mkS 99 [(5,.lp 5 0),vb 6 c_22,vi 7 x_23,(8,.lp 8 0),vi 9 0] [(5,⟨[(.vs 6 tg_24 (l_25.map Typ.av))],[]⟩),(8,⟨(Typ.cs t_26),[]⟩)] Hp.none 0)) = some o) : ML C 7 qP8 4 (mkS 99 [(5,.lp 5 0),vb 6 c_22,vi 7 x_23,vb 32 true,(35,.lp 5 0),vv 36 (.vs 6 tg_24 (l_25.map Typ.av)),vi 37 x_23,vv 38 (.cptr (Typ.cs t_26))] [(5,⟨[(.vs 6 tg_24 (l_25.map Typ.av))],[]⟩)] Hp.none 0) = some o := stM C 4 (fun _ _ => by kernel_rfl) ho
theorem p7_5 {c_22 tg_24 c_27 : Bool} {x_23 : Int} {l_25 : List Typ} (ho : Tr.val C 7
(rt (.bool c_27)) = some o) : ML C 7 qP5 1 (mkS 99 [(5,.lp 5 0),vb 6 c_22,vi 7 x_23,vb 32 false,vb 98 c_27] [(5,⟨[(.vs 6 tg_24 (l_25.map Typ.av))],[]⟩)] Hp.none 0) = some o := stM C 1 (fun _ _ => by kernel_rfl) ho
theorem p7_6 {c_29 tg_32 : Bool} {x_30 x_31 : Int} {l_33 : List Typ} {t_34 : Typ} (ho : Tr.val C 7
(.br (decide (x_31 < ((t_34.qrys.map Qry.av).length : Int)))
(.run 0 qP7 (mkS 99 [(5,.lp 5 0),vb 6 c_29,vi 7 x_30,(8,.lp 8 0),vi 9 x_31,vi 10 0] [(5,⟨[(.vs 6 tg_32 (l_33.map Typ.av))],[]⟩),(8,⟨(Typ.cs t_34),[]⟩)] Hp.none 0))
(.run 3 qP4 (mkS 99 [(5,.lp 5 0),vb 6 c_29,vi 7 (w64 (x_30 + 1))] [(5,⟨[(.vs 6 tg_32 (l_33.map Typ.av))],[]⟩)] Hp.none 0))) = some o) : RL C 7 qP6 (mkS 99 [(5,.lp 5 0),vb 6 c_29,vi 7 x_30,(8,.lp 8 0),vi 9 x_31] [(5,⟨[(.vs 6 tg_32 (l_33.map Typ.av))],[]⟩),(8,⟨(Typ.cs t_34),[]⟩)] Hp.none 0) = some o := stR C 11 (fun _ _ => by kernel_rfl) ho
theorem p7_7 {c_35 tg_39 : Bool} {x_36 x_37 x_38 : Int} {l_40 : List Typ} {t_41 : Typ} (ho : Tr.val C 7
(.br (decide (x_38 < 2))
(ix (t_41.qrys.map Qry.av) x_37 fun c6 =>
(.mid 0 qP1 5 (mkS 99 [(5,.lp 5 0),vb 6 c_35,vi 7 x_36,(8,.lp 8 0),vi 9 x_37,vi 10 x_38,vb 48 true,vv 52 (.agg (Typ.cs t_41)),(53,.lp 8 3),vv 54 (.vs 8 t_41.tgQ (t_41.qrys.map Qry.av)),vi 55 x_37,vv 56 (.cptr (AV.cells c6))] [(5,⟨[(.vs 6 tg_39 (l_40.map Typ.av))],[]⟩),(8,⟨(Typ.cs t_41),[]⟩)] Hp.none 0)))
(.run 1 qP6 (mkS 99 [(5,.lp 5 0),vb 6 c_35,vi 7 x_36,(8,.lp 8 0),vi 9 (w64 (x_37 + 1))] [(5,⟨[(.vs 6 tg_39 (l_40.map Typ.av))],[]⟩),(8,⟨(Typ.cs t_41),[]⟩)] Hp.none 0))) = some o) : RL C 7 qP7 (mkS 99 [(5,.lp 5 0),vb 6 c_35,vi 7 x_36,(8,.lp 8 0),vi 9 x_37,vi 10 x_38] [(5,⟨[(.vs 6 tg_39 (l_40.map Typ.av))],[]⟩),(8,⟨(Typ.cs t_41),[]⟩)] Hp.none 0) = some o := stR C 9 (fun _ _ => by kernel_rfl) ho
theorem p7_8 {c_35 tg_39 : Bool} {x_36 x_37 x_38 : Int} {l_40 : List Typ} {t_41 : Typ} {y_42 : Qry} (ho : Tr.val C 7
(ix (t_41.qrys.map Qry.av) x_37 fun c7 =>
(.mid 0 qP1 11 (mkS 99 [(5,.lp 5 0),vb 6 c_35,vi 7 x_36,(8,.lp 8 0),vi 9 x_37,vi 10 x_38,vb 48 true,vv 52 (.agg (Typ.cs t_41)),(53,.lp 8 3),vv 54 (.vs 8 t_41.tgQ (t_41.qrys.map Qry.av)),vi 55 x_37,vv 56 (.cptr (Qry.cs y_42)),vv 57 (.cptr [(.vs 3 y_42.tgP (y_42.params.map Par.av)),(i6 y_42.res.kind),(i6 y_42.res.n),(.str y_42.res.s),(.vs 5 y_42.res.tg (exs y_42.res.l)),(i6 y_42.res.at_),(i6 y_42.at_)]),vv 58 (.vs 3 y_42.tgP (y_42.params.map Par.av)),(59,.lp 8 3),vv 60 (.vs 8 t_41.tgQ (t_41.qrys.map Qry.av)),vi 61 x_37,vv 62 (.cptr (AV.cells c7))] [(5,⟨[(.vs 6 tg_39 (l_40.map Typ.av))],[]⟩),(8,⟨(Typ.cs t_41),[]⟩)] Hp.none 0))) = some o) : ML C 7 qP1 5 (mkS 99 [(5,.lp 5 0),vb 6 c_35,vi 7 x_36,(8,.lp 8 0),vi 9 x_37,vi 10 x_38,vb 48 true,vv 52 (.agg (Typ.cs t_41)),(53,.lp 8 3),vv 54 (.vs 8 t_41.tgQ (t_41.qrys.map Qry.av)),vi 55 x_37,vv 56 (.cptr (Qry.cs y_42))] [(5,⟨[(.vs 6 tg_39 (l_40.map Typ.av))],[]⟩),(8,⟨(Typ.cs t_41),[]⟩)] Hp.none 0) = some o := stM C 0 (fun _ _ => by kernel_rfl) ho
theorem p7_9 {c_35 tg_39 : Bool} {x_36 x_37 x_38 : Int} {l_40 : List Typ} {t_41 : Typ} {y_42 y_43 : Qry} (ho : Tr.val C 7
(.br (za7 [(.agg (Typ.cs t_41)),(.vs 3 y_42.tgP (y_42.params.map Par.av)),(.agg (Ex.cs y_43.res)),(.bool (decide (x_38 = 0)))])
(cl0 23 [(.agg (Typ.cs t_41)),(.vs 3 y_42.tgP (y_42.params.map Par.av)),(.agg (Ex.cs y_43.res)),(.bool (decide (x_38 = 0)))] fun r8 => .br (AV.pure r8.v)
(.br (AV.pure r8.v)
(.mid 0 qP1 16 (mkS 99 [(5,.lp 5 0),vb 6 c_35,vi 7 x_36,(8,.lp 8 0),vi 9 x_37,vi 10 x_38,vb 48 true,vv 52 (.agg (Typ.cs t_41)),(53,.lp 8 3),vv 54 (.vs 8 t_41.tgQ (t_41.qrys.map Qry.av)),vi 55 x_37,vv 56 (.cptr (Qry.cs y_42)),vv 57 (.cptr [(.vs 3 y_42.tgP (y_42.params.map Par.av)),(i6 y_42.res.kind),(i6 y_42.res.n),(.str y_42.res.s),(.vs 5 y_42.res.tg (exs y_42.res.l)),(i6 y_42.res.at_),(i6 y_42.at_)]),vv 58 (.vs 3 y_42.tgP (y_42.params.map Par.av)),(59,.lp 8 3),vv 60 (.vs 8 t_41.tgQ (t_41.qrys.map Qry.av)),vi 61 x_37,vv 62 (.cptr (Qry.cs y_43)),vv 63 (.cptr [(i6 y_43.res.kind),(i6 y_43.res.n),(.str y_43.res.s),(.vs 5 y_43.res.tg (exs y_43.res.l)),(i6 y_43.res.at_),(i6 y_43.at_)]),vv 64 (.agg (Ex.cs y_43.res)),vi 65 x_38,vb 66 (decide (x_38 = 0)),vv 67 r8.v] [(5,⟨[(.vs 6 tg_39 (l_40.map Typ.av))],[]⟩),(8,⟨(Typ.cs t_41),[]⟩)] Hp.none 0)) .none) .none) .none) = some o) : ML C 7 qP1 11 (mkS 99 [(5,.lp 5 0),vb 6 c_35,vi 7 x_36,(8,.lp 8 0),vi 9 x_37,vi 10 x_38,vb 48 true,vv 52 (.agg (Typ.cs t_41)),(53,.lp 8 3),vv 54 (.vs 8 t_41.tgQ (t_41.qrys.map Qry.av)),vi 55 x_37,vv 56 (.cptr (Qry.cs y_42)),vv 57 (.cptr [(.vs 3 y_42.tgP (y_42.params.map Par.av)),(i6 y_42.res.kind),(i6 y_42.res.n),(.str y_42.res.s),(.vs 5 y_42.res.tg (exs y_42.res.l)),(i6 y_42.res.at_),(i6 y_42.at_)]),vv 58 (.vs 3 y_42.tgP (y_42.params.map Par.av)),(59,.lp 8 3),vv 60 (.vs 8 t_41.tgQ (t_41.qrys.map Qry.av)),vi 61 x_37,vv 62 (.cptr (Qry.cs y_43))] [(5,⟨[(.vs 6 tg_39 (l_40.map Typ.av))],[]⟩),(8,⟨(Typ.cs t_41),[]⟩)] Hp.none 0) = some o := stM C 0 (fun _ _ => by kernel_rfl) ho
theorem p7_10 {c_35 tg_39 tg_45 c_47 : Bool} {x_36 x_37 x_38 x_44 : Int} {l_40 : List Typ} {t_41 : Typ} {y_42 y_43 : Qry} {l_46 : List Dg} (ho : Tr.val C 7
(.br (za7 [(.tuple [(i6 x_44),(.vs 2 tg_45 (l_46.map Dg.av))])])
(.br (za7 [(.tuple [(i6 x_44),(.vs 2 tg_45 (l_46.map Dg.av))])])
(.br (AV.pure (.vs 2 tg_45 (l_46.map Dg.av)))
(ix (t_41.qrys.map Qry.av) x_37 fun c9 =>
(.mid 0 qP2 5 (mkS 99 [(5,.lp 5 0),vb 6 c_35,vi 7 x_36,(8,.lp 8 0),vi 9 x_37,vi 10 x_38,vi 11 x_44,vv 12 (.vs 2 tg_45 (l_46.map Dg.av)),vv 71 (.agg (Typ.cs t_41)),(72,.lp 8 3),vv 73 (.vs 8 t_41.tgQ (t_41.qrys.map Qry.av)),vi 74 x_37,vv 75 (.cptr (AV.cells c9))] [(5,⟨[(.vs 6 tg_39 (l_40.map Typ.av))],[]⟩),(8,⟨(Typ.cs t_41),[]⟩)] Hp.none 0))) .none) .none) .none) = some o) : ML C 7 qP1 16 (mkS 99 [(5,.lp 5 0),vb 6 c_35,vi 7 x_36,(8,.lp 8 0),vi 9 x_37,vi 10 x_38,vb 48 true,vv 52 (.agg (Typ.cs t_41)),(53,.lp 8 3),vv 54 (.vs 8 t_41.tgQ (t_41.qrys.map Qry.av)),vi 55 x_37,vv 56 (.cptr (Qry.cs y_42)),vv 57 (.cptr [(.vs 3 y_42.tgP (y_42.params.map Par.av)),(i6 y_42.res.kind),(i6 y_42.res.n),(.str y_42.res.s),(.vs 5 y_42.res.tg (exs y_42.res.l)),(i6 y_42.res.at_),(i6 y_42.at_)]),vv 58 (.vs 3 y_42.tgP (y_42.params.map Par.av)),(59,.lp 8 3),vv 60 (.vs 8 t_41.tgQ (t_41.qrys.map Qry.av)),vi 61 x_37,vv 62 (.cptr (Qry.cs y_43)),vv 63 (.cptr [(i6 y_43.res.kind),(i6 y_43.res.n),(.str y_43.res.s),(.vs 5 y_43.res.tg (exs y_43.res.l)),(i6 y_43.res.at_),(i6 y_43.at_)]),vv 64 (.agg (Ex.cs y_43.res)),vi 65 x_38,vb 66 c_47,vv 67 (.tuple [(i6 x_44),(.vs 2 tg_45 (l_46.map Dg.av))])] [(5,⟨[(.vs 6 tg_39 (l_40.map Typ.av))],[]⟩),(8,⟨(Typ.cs t_41),[]⟩)] Hp.none 0) = some o := stM C 2 (fun _ _ => by kernel_rfl) ho
theorem p7_11 {c_35 tg_39 tg_45 : Bool} {x_36 x_37 x_38 x_44 : Int} {l_40 : List Typ} {t_41 : Typ} {l_46 : List Dg} {y_48 : Qry} (ho : Tr.val C 7
(ix (t_41.qrys.map Qry.av) x_37 fun c10 =>
(.mid 0 qP2 11 (mkS 99 [(5,.lp 5 0),vb 6 c_35,vi 7 x_36,(8,.lp 8 0),vi 9 x_37,vi 10 x_38,vi 11 x_44,vv 12 (.vs 2 tg_45 (l_46.map Dg.av)),vv 71 (.agg (Typ.cs t_41)),(72,.lp 8 3),vv 73 (.vs 8 t_41.tgQ (t_41.qrys.map Qry.av)),vi 74 x_37,vv 75 (.cptr (Qry.cs y_48)),vv 76 (.cptr [(.vs 3 y_48.tgP (y_48.params.map Par.av)),(i6 y_48.res.kind),(i6 y_48.res.n),(.str y_48.res.s),(.vs 5 y_48.res.tg (exs y_48.res.l)),(i6 y_48.res.at_),(i6 y_48.at_)]),vv 77 (.vs 3 y_48.tgP (y_48.params.map Par.av)),(78,.lp 8 3),vv 79 (.vs 8 t_41.tgQ (t_41.qrys.map Qry.av)),vi 80 x_37,vv 81 (.cptr (AV.cells c10))] [(5,⟨[(.vs 6 tg_39 (l_40.map Typ.av))],[]⟩),(8,⟨(Typ.cs t_41),[]⟩)] Hp.none 0))) = some o) : ML C 7 qP2 5 (mkS 99 [(5,.lp 5 0),vb 6 c_35,vi 7 x_36,(8,.lp 8 0),vi 9 x_37,vi 10 x_38,vi 11 x_44,vv 12 (.vs 2 tg_45 (l_46.map Dg.av)),vv 71 (.agg (Typ.cs t_41)),(72,.lp 8 3),vv 73 (.vs 8 t_41.tgQ (t_41.qrys.map Qry.av)),vi 74 x_37,vv 75 (.cptr (Qry.cs y_48))] [(5,⟨[(.vs 6 tg_39 (l_40.map Typ.av))],[]⟩),(8,⟨(Typ.cs t_41),[]⟩)] Hp.none 0) = some o := stM C 0 (fun _ _ => by kernel_rfl) ho
theorem p7_12 {c_35 tg_39 tg_45 : Bool} {x_36 x_37 x_38 x_44 : Int} {l_40 : List Typ} {t_41 : Typ} {l_46 : List Dg} {y_48 y_49 : Qry} (ho : Tr.val C 7
(.br (za7 [(.agg (Typ.cs t_41)),(.vs 3 y_48.tgP (y_48.params.map Par.av)),(.agg (Ex.cs y_49.res)),(.bool (decide (x_38 = 0)))])
(cl0 24 [(.agg (Typ.cs t_41)),(.vs 3 y_48.tgP (y_48.params.map Par.av)),(.agg (Ex.cs y_49.res)),(.bool (decide (x_38 = 0)))] fun r11 => .br (AV.pure r11.v)
(.br (AV.pure r11.v)
(.mid 0 qP2 16 (mkS 99 [(5,.lp 5 0),vb 6 c_35,vi 7 x_36,(8,.lp 8 0),vi 9 x_37,vi 10 x_38,vi 11 x_44,vv 12 (.vs 2 tg_45 (l_46.map Dg.av)),vv 71 (.agg (Typ.cs t_41)),(72,.lp 8 3),vv 73 (.vs 8 t_41.tgQ (t_41.qrys.map Qry.av)),vi 74 x_37,vv 75 (.cptr (Qry.cs y_48)),vv 76 (.cptr [(.vs 3 y_48.tgP (y_48.params.map Par.av)),(i6 y_48.res.kind),(i6 y_48.res.n),(.str y_48.res.s),(.vs 5 y_48.res.tg (exs y_48.res.l)),(i6 y_48.res.at_),(i6 y_48.at_)]),vv 77 (.vs 3 y_48.tgP (y_48.params.map Par.av)),(78,.lp 8 3),vv 79 (.vs 8 t_41.tgQ (t_41.qrys.map Qry.av)),vi 80 x_37,vv 81 (.cptr (Qry.cs y_49)),vv 82 (.cptr [(i6 y_49.res.kind),(i6 y_49.res.n),(.str y_49.res.s),(.vs 5 y_49.res.tg (exs y_49.res.l)),(i6 y_49.res.at_),(i6 y_49.at_)]),vv 83 (.agg (Ex.cs y_49.res)),vi 84 x_38,vb 85 (decide (x_38 = 0)),vv 86 r11.v] [(5,⟨[(.vs 6 tg_39 (l_40.map Typ.av))],[]⟩),(8,⟨(Typ.cs t_41),[]⟩)] Hp.none 0)) .none) .none) .none) = some o) : ML C 7 qP2 11 (mkS 99 [(5,.lp 5 0),vb 6 c_35,vi 7 x_36,(8,.lp 8 0),vi 9 x_37,vi 10 x_38,vi 11 x_44,vv 12 (.vs 2 tg_45 (l_46.map Dg.av)),vv 71 (.agg (Typ.cs t_41)),(72,.lp 8 3),vv 73 (.vs 8 t_41.tgQ (t_41.qrys.map Qry.av)),vi 74 x_37,vv 75 (.cptr (Qry.cs y_48)),vv 76 (.cptr [(.vs 3 y_48.tgP (y_48.params.map Par.av)),(i6 y_48.res.kind),(i6 y_48.res.n),(.str y_48.res.s),(.vs 5 y_48.res.tg (exs y_48.res.l)),(i6 y_48.res.at_),(i6 y_48.at_)]),vv 77 (.vs 3 y_48.tgP (y_48.params.map Par.av)),(78,.lp 8 3),vv 79 (.vs 8 t_41.tgQ (t_41.qrys.map Qry.av)),vi 80 x_37,vv 81 (.cptr (Qry.cs y_49))] [(5,⟨[(.vs 6 tg_39 (l_40.map Typ.av))],[]⟩),(8,⟨(Typ.cs t_41),[]⟩)] Hp.none 0) = some o := stM C 0 (fun _ _ => by kernel_rfl) ho
theorem p7_13 {c_35 tg_39 tg_45 tg_51 c_53 : Bool} {x_36 x_37 x_38 x_44 x_50 : Int} {l_40 : List Typ} {t_41 : Typ} {l_46 l_52 : List Dg} {y_48 y_49 : Qry} (ho : Tr.val C 7
(.br (za7 [(.tuple [(i6 x_50),(.vs 2 tg_51 (l_52.map Dg.av))])])
(.br (za7 [(.tuple [(i6 x_50),(.vs 2 tg_51 (l_52.map Dg.av))])])
(.br (AV.pure (.vs 2 tg_51 (l_52.map Dg.av)))
(.br (!(decide (x_44 = x_50)))
(rt (.bool false))
(cl0 25 [(.vs 2 tg_45 (l_46.map Dg.av)),(.vs 2 tg_51 (l_52.map Dg.av))] fun r12 => .br (AV.pure r12.v)
(.mid 4 qP9 7 (mkS 99 [(5,.lp 5 0),vb 6 c_35,vi 7 x_36,(8,.lp 8 0),vi 9 x_37,vi 10 x_38,vi 11 x_44,vv 12 (.vs 2 tg_45 (l_46.map Dg.av)),vi 13 x_50,vv 14 (.vs 2 tg_51 (l_52.map Dg.av)),vi 89 x_44,vi 90 x_50,vb 91 (!(decide (x_44 = x_50))),vb 92 false,vv 93 (.vs 2 tg_45 (l_46.map Dg.av)),vv 94 (.vs 2 tg_51 (l_52.map Dg.av)),vv 95 r12.v] [(5,⟨[(.vs 6 tg_39 (l_40.map Typ.av))],[]⟩),(8,⟨(Typ.cs t_41),[]⟩)] Hp.none 0)) .none)) .none) .none) .none) = some o) : ML C 7 qP2 16 (mkS 99 [(5,.lp 5 0),vb 6 c_35,vi 7 x_36,(8,.lp 8 0),vi 9 x_37,vi 10 x_38,vi 11 x_44,vv 12 (.vs 2 tg_45 (l_46.map Dg.av)),vv 71 (.agg (Typ.cs t_41)),(72,.lp 8 3),vv 73 (.vs 8 t_41.tgQ (t_41.qrys.map Qry.av)),vi 74 x_37,vv 75 (.cptr (Qry.cs y_48)),vv 76 (.cptr [(.vs 3 y_48.tgP (y_48.params.map Par.av)),(i6 y_48.res.kind),(i6 y_48.res.n),(.str y_48.res.s),(.vs 5 y_48.res.tg (exs y_48.res.l)),(i6 y_48.res.at_),(i6 y_48.at_)]),vv 77 (.vs 3 y_48.tgP (y_48.params.map Par.av)),(78,.lp 8 3),vv 79 (.vs 8 t_41.tgQ (t_41.qrys.map Qry.av)),vi 80 x_37,vv 81 (.cptr (Qry.cs y_49)),vv 82 (.cptr [(i6 y_49.res.kind),(i6 y_49.res.n),(.str y_49.res.s),(.vs 5 y_49.res.tg (exs y_49.res.l)),(i6 y_49.res.at_),(i6 y_49.at_)]),vv 83 (.agg (Ex.cs y_49.res)),vi 84 x_38,vb 85 c_53,vv 86 (.tuple [(i6 x_50),(.vs 2 tg_51 (l_52.map Dg.av))])] [(5,⟨[(.vs 6 tg_39 (l_40.map Typ.av))],[]⟩),(8,⟨(Typ.cs t_41),[]⟩)] Hp.none 0) = some o := stM C 6 (fun _ _ => by kernel_rfl) ho
theorem p7_14 {c_35 tg_39 tg_45 tg_51 c_54 c_55 : Bool} {x_36 x_37 x_38 x_44 x_50 : Int} {l_40 : List Typ} {t_41 : Typ} {l_46 l_52 : List Dg} (ho : Tr.val C 7
(.br (!c_54)
(rt (.bool false))
(.run 0 qP7 (mkS 99 [(5,.lp 5 0),vb 6 c_35,vi 7 x_36,(8,.lp 8 0),vi 9 x_37,vi 10 (w64 (x_38 + 1))] [(5,⟨[(.vs 6 tg_39 (l_40.map Typ.av))],[]⟩),(8,⟨(Typ.cs t_41),[]⟩)] Hp.none 0))) = some o) : ML C 7 qP9 7 (mkS 99 [(5,.lp 5 0),vb 6 c_35,vi 7 x_36,(8,.lp 8 0),vi 9 x_37,vi 10 x_38,vi 11 x_44,vv 12 (.vs 2 tg_45 (l_46.map Dg.av)),vi 13 x_50,vv 14 (.vs 2 tg_51 (l_52.map Dg.av)),vi 89 x_44,vi 90 x_50,vb 91 c_55,vb 92 false,vv 93 (.vs 2 tg_45 (l_46.map Dg.av)),vv 94 (.vs 2 tg_51 (l_52.map Dg.av)),vb 95 c_54] [(5,⟨[(.vs 6 tg_39 (l_40.map Typ.av))],[]⟩),(8,⟨(Typ.cs t_41),[]⟩)] Hp.none 0) = some o := stM C 5 (fun _ _ => by kernel_rfl) ho
end Go.Proofs.YtfdklpkfpmkgeaaGreatDoor
end
section
namespace Go.Proofs.YtfdklpkfpmkgeaaGreatDoor
open Go Go.Vai
attribute [local irreducible] goTo zas mkS
variable {C : Nat → Oracle} {o : Out}
abbrev cJ0 : Nat × Blk := (4,⟨[(.vs 6 true [])],[0]⟩)
theorem p15_c (hC : Ext C) {tg_1 c_3 : Bool} {l_2 : List AV} (ho : RL C 15 [] (mk0 24 [vv 0 (.vs 1 tg_1 l_2),vb 1 c_3]) = some o) : calL C 15 [(.vs 1 tg_1 l_2),(.bool c_3)] Hp.none 0 = some o := hC.call rfl (fun _ _ => by kernel_rfl) ho
theorem p15_0 {tg_1 c_3 : Bool} {l_2 : List AV} (ho : Tr.val C 15
(cl0 18 [(.vs 1 tg_1 l_2)] fun r1 => .br (AV.pure r1.v)
(.mid 0 [0,5,0] 2 (mkS 24 [vv 0 (.vs 1 tg_1 l_2),vb 1 c_3,(4,.lp 4 0),vv 10 (.vs 1 tg_1 l_2),vv 11 r1.v] [cJ0] Hp.none 0)) .none) = some o) : RL C 15 [] (mk0 24 [vv 0 (.vs 1 tg_1 l_2),vb 1 c_3]) = some o := stR C 4 (fun _ _ => by kernel_rfl) ho
theorem p15_1 {tg_1 c_3 : Bool} {l_2 : List AV} {s_4 : List UInt8} (ho : Tr.val C 15
(.br c_3
(cl0 19 [(.vs 1 tg_1 l_2)] fun r2 => .br (AV.pure r2.v)
(.mid 2 [0,5,0,5,0,0,5,6] 2 (mkS 24 [vv 0 (.vs 1 tg_1 l_2),(4,.lp 4 0),vt 6 s_4,vb 12 true,vv 13 (.vs 1 tg_1 l_2),vv 14 r2.v] [cJ0] Hp.none 0)) .none)
(cl0 20 [(.str s_4)] fun r3 => .br (AV.pure r3.v)
(.mid 0 [0,5,0,5,0,0,5,7,5,0] 2 (mkS 24 [vv 0 (.vs 1 tg_1 l_2),(4,.lp 4 0),vt 6 s_4,vb 12 false,vt 16 s_4,vv 17 r3.v] [cJ0] Hp.none 0)) .none)) = some o) : ML C 15 [0,5,0] 2 (mkS 24 [vv 0 (.vs 1 tg_1 l_2),vb 1 c_3,(4,.lp 4 0),vv 10 (.vs 1 tg_1 l_2),vt 11 s_4] [cJ0] Hp.none 0) = some o := stM C 7 (fun _ _ => by kernel_rfl) ho
theorem p15_2 {tg_1 : Bool} {l_2 : List AV} {s_4 s_5 : List UInt8} (ho : Tr.val C 15
(cl0 20 [(.str s_5)] fun r4 => .br (AV.pure r4.v)
(.mid 0 [0,5,0,5,0,0,5,6,5,0] 2 (mkS 24 [(4,.lp 4 0),vt 6 s_5,vt 16 s_5,vv 17 r4.v] [cJ0] Hp.none 0)) .none) = some o) : ML C 15 [0,5,0,5,0,0,5,6] 2 (mkS 24 [vv 0 (.vs 1 tg_1 l_2),(4,.lp 4 0),vt 6 s_4,vb 12 true,vv 13 (.vs 1 tg_1 l_2),vt 14 s_5] [cJ0] Hp.none 0) = some o := stM C 2 (fun _ _ => by kernel_rfl) ho
theorem p15_3 {tg_1 tg_6 : Bool} {l_2 l_7 : List AV} {s_4 : List UInt8} {x_8 x_9 : Int} (ho : Tr.val C 15
(rt (.tuple [(.agg [(.vs 6 tg_6 l_7)]),(.bool (decide (x_9 = 0)))])) = some o) : ML C 15 [0,5,0,5,0,0,5,7,5,0] 2 (mkS 24 [vv 0 (.vs 1 tg_1 l_2),(4,.lp 4 0),vt 6 s_4,vb 12 false,vt 16 s_4,vv 17 (.tuple [(.agg [(.vs 6 tg_6 l_7)]),(i6 x_8),(i6 x_9)])] [cJ0] Hp.none 0) = some o := stM C 3 (fun _ _ => by kernel_rfl) ho
theorem p15_4 {s_5 : List UInt8} {tg_10 : Bool} {l_11 : List AV} {x_12 x_13 : Int} (ho : Tr.val C 15
(rt (.tuple [(.agg [(.vs 6 tg_10 l_11)]),(.bool (decide (x_13 = 0)))])) = some o) : ML C 15 [0,5,0,5,0,0,5,6,5,0] 2 (mkS 24 [(4,.lp 4 0),vt 6 s_5,vt 16 s_5,vv 17 (.tuple [(.agg [(.vs 6 tg_10 l_11)]),(i6 x_12),(i6 x_13)])] [cJ0] Hp.none 0) = some o := stM C 3 (fun _ _ => by kernel_rfl) ho












end Go.Proofs.YtfdklpkfpmkgeaaGreatDoor
end
section
namespace Go.Proofs.YtfdklpkfpmkgeaaGreatDoor
open Go Go.Vai
attribute [local irreducible] goTo zas mkS
theorem wrapu64 {x : Int} (h : 0 ≤ x) (h2 : x < 18446744073709551616) : IntKind.wrap .u64 x = x:=by
 simp [IntKind.wrap,IntKind.bits,IntKind.signed]
 omega
theorem zl7 (x : Int) : 0 ≤ IntKind.wrap .u64 x∧IntKind.wrap .u64 x < 18446744073709551616:=by
 simp [IntKind.wrap,IntKind.bits,IntKind.signed]
 omega
theorem zgb (y : Int) : zcm [.int .u8 y] = some [UInt8.ofNat y.toNat] := rfl
variable {C : Nat→Oracle} (hC : Ext C)
theorem zql (b i : Int) (hb : 1 ≤ b) (hb2 : b ≤ 1000) (hi : i ≤ 1000) : ∀ (m : Nat) (k x : Int),(i - k).toNat = m→0 ≤ k→0 ≤ x→x ≤ 1099511627776 →
  Was (RL C 77 [0,5,0,5,0,0,5,2,3] (mkS 22 [(1,.val (.int .i64 b) .no),(2,.val (.int .i64 i) .no),(7,.val (.int .i64 x) .no),(8,.val (.int .i64 k) .no)] [] Hp.none 0)) (QI b):=by
 intro m
 induction m with
 | zero =>
  intro k x hm hk hx hx2
  refine exW (fun o=>p77_2) ?_
  simp only [Tr.val]
  exact .bF (by omega) (.bF (by omega) (.mk ⟨_,rfl,Int.tmod_nonneg _ hx,Int.tmod_lt_of_pos _ (by omega)⟩))
 | succ m ih =>
  intro k x hm hk hx hx2
  refine exW (fun o=>p77_2) ?_
  simp only [Tr.val]
  have h1 : 0 ≤ Int.tdiv x b := Int.tdiv_nonneg hx (by omega)
  have h2 : Int.tdiv x b ≤ x := Int.tdiv_le_self _ hx
  refine .bT (by omega) (.bF (by omega) ?_)
  rw [zaz (x := k + 1) (by omega) (by omega),zaz (by omega) (by omega)]
  exact ih (k + 1) _ (by omega) (by omega) h1 (by omega)
include hC
theorem w77 (n b i : Int) (hb : 1 ≤ b) (hb2 : b ≤ 1000) (hi : i ≤ 1000) : Was (calL C 77 [.int .i64 n,.int .i64 b,.int .i64 i] Hp.none 0) (QI b):=by
 refine exW (fun o=>p77_c hC) (exW (fun o=>p77_0) ?_)
 simp only [Tr.val,za7,AV.pure,za1]
 refine .call (w22 hC n _ (by decide) (by decide)) ?_
 rintro o ⟨x,e,h1,h2⟩
 simp only [e,AV.pure,za1]
 refine exW (fun o=>p77_1) ?_
 exact zql b i hb hb2 hi _ 0 x rfl (by decide) h1 (by omega)
theorem w67 : ∀ (k : Nat) (x : Int),0 ≤ x→x < 18446744073709551616→x < 10 ^ (k + 1)→k ≤ 30→Was (calL C 67 [.int .u64 x] Hp.none 0) (QS (k + 1))
 | 0,x,h0,h1,h2,hk=>by
  have h2 : x < 10 := by simpa using h2
  refine exW (fun o=>p67_c hC) (exW (fun o=>p67_0) ?_)
  simp only [Tr.val,zgb,Option.bind_some]
  exact .bT (by omega) (.mk ⟨_,rfl,by simp⟩)
 | k + 1,x,h0,h1,h2,hk=>by
  refine exW (fun o=>p67_c hC) (exW (fun o=>p67_0) ?_)
  simp only [Tr.val,zgb,Option.bind_some,za7,AV.pure,za1]
  refine .dec (fun h=>.mk ⟨_,rfl,by simp⟩) fun h=>?_
  have h3 : 0 ≤ Int.tdiv x 10 := Int.tdiv_nonneg h0 (by omega)
  have h4 : Int.tdiv x 10 ≤ x := Int.tdiv_le_self _ h0
  have h5 : Int.tdiv x 10 < 10 ^ (k + 1):=by
   rw [Int.tdiv_eq_ediv_of_nonneg h0]
   have : (10 : Int) ^ (k + 1 + 1) = 10 ^ (k + 1) * 10 := Int.pow_succ _ _
   omega
  rw [wrapu64 h3 (by omega)]
  refine .call (w67 k _ h3 (by omega) h5 (by omega)) ?_
  rintro o ⟨s,e,hs⟩
  simp only [e,AV.pure,za1]
  refine exW (fun o=>p67_1) ?_
  simp only [Tr.val,zgb,Option.bind_some]
  exact .bL (by simp; omega) (.mk ⟨_,rfl,by simp; omega⟩)
theorem w29 (x : Int) : Was (calL C 29 [.int .i64 x] Hp.none 0) (QS 21):=by
 refine exW (fun o=>p29_c hC) (exW (fun o=>p29_0) ?_)
 simp only [Tr.val,za7,AV.pure,za1]
 have hr : ∀ y : Int,Was (calL C 67 [.int .u64 (IntKind.wrap .u64 y)] Hp.none 0) (QS 20) := fun y=>by
  obtain ⟨h1,h2⟩ := zl7 y
  have h3 : (10 : Int) ^ (19 + 1) = 100000000000000000000 := rfl
  exact w67 hC 19 _ h1 h2 (by rw [h3]; omega) (by decide)
 refine .dec (fun h=>?_) fun h=>?_
 ·refine .call (hr _) ?_
  rintro o ⟨s,e,hs⟩
  simp only [e,AV.pure,za1]
  refine exW (fun o=>p29_1) ?_
  exact .bL (by omega) (.mk ⟨_,rfl,by simp; omega⟩)
 ·refine .call (hr _) ?_
  rintro o ⟨s,e,hs⟩
  simp only [e,AV.pure,za1]
  refine exW (fun o=>p29_2) ?_
  exact .mk ⟨_,rfl,by omega⟩
omit hC
theorem zkk (s : List UInt8) (hs : s.length ≤ 100000) : ∀ (r : List UInt8) (i : Nat) (acc : List UInt8) (tg : Bool),s.drop i = r→i ≤ s.length→acc.length ≤ 1 + 2 * i →
  Was (RL C 78 [0,5,0,5,0,0,5,2,3] (mkS 35 [(0,.val (.str s) .no),(3,.val (.vs 1 tg (acc.map zbg)) .own),(4,.val (.int .i64 (i : Int)) .no)] [] Hp.none 0)) (QS (2 + 2 * s.length)):=by
 have one : ∀ x : UInt8,[AV.int .u8 ((x.toNat : Nat) : Int)] = [x].map zbg := fun _=>rfl
 have e34 : [AV.int .u8 34] = [(34 : UInt8)].map zbg := rfl
 have e92 : [AV.int .u8 92] = [(92 : UInt8)].map zbg := rfl
 intro r
 induction r with
 | nil =>
  intro i acc tg hi hil ha
  have := zan _ _ hil hi
  refine exW (fun o=>p78_2) ?_
  simp only [Tr.val,List.length_map,Int.toNat_natCast]
  refine .bF (by omega) (.brn (zae (by omega)) (.brn (zae (by omega)) ?_))
  rw [e34,← List.map_append,zjh]
  exact .mk ⟨_,rfl,by simp; omega⟩
 | cons c r ih =>
  intro i acc tg hi hil ha
  obtain ⟨h1,h2,h3⟩ := zay _ _ hi
  refine exW (fun o=>p78_2) ?_
  simp only [Tr.val,List.length_map,Int.toNat_natCast,h1,Option.bind_some]
  rw [zaz (by omega) (by omega),show ((i : Int) + 1) = ((i + 1 : Nat) : Int) by omega]
  simp only [e92,one,← List.map_append,List.length_map]
  have two : Was (RL C 78 [0,5,0,5,0,0,5,2,3] (mkS 35 [(0,.val (.str s) .no),(3,.val (.vs 1 false (((acc ++ [92]) ++ [c]).map zbg)) .own),(4,.val (.int .i64 ((i + 1 : Nat) : Int)) .no)] [] Hp.none 0)) (QS (2 + 2 * s.length)) := ih (i + 1) _ false h2 (by omega) (by simp; omega)
  have onee : Was (RL C 78 [0,5,0,5,0,0,5,2,3] (mkS 35 [(0,.val (.str s) .no),(3,.val (.vs 1 false ((acc ++ [c]).map zbg)) .own),(4,.val (.int .i64 ((i + 1 : Nat) : Int)) .no)] [] Hp.none 0)) (QS (2 + 2 * s.length)) := ih (i + 1) _ false h2 (by omega) (by simp; omega)
  refine .bT (by omega) (.bT (by omega) (.dec (fun h=>?_) fun h=>?_))
  ·refine .brn (zae (by omega)) (.brn (zae (by omega)) (.bT (by omega) (.brn (zae (by simp; omega)) (.brn (zae (by simp; omega)) ?_))))
   exact two
  ·refine .bT (by omega) (.dec (fun h=>?_) fun h=>?_)
   ·refine .brn (zae (by omega)) (.brn (zae (by omega)) (.bT (by omega) (.brn (zae (by simp; omega)) (.brn (zae (by simp; omega)) ?_))))
    exact two
   ·refine .bT (by omega) (.brn (zae (by omega)) (.brn (zae (by omega)) ?_))
    exact onee
include hC
theorem w78 (s : List UInt8) (hs : s.length ≤ 100000) : Was (calL C 78 [.str s] Hp.none 0) (QS (2 + 2 * s.length)):=by
 have one : ∀ x : UInt8,[AV.int .u8 ((x.toNat : Nat) : Int)] = [x].map zbg := fun _=>rfl
 have e34 : [AV.int .u8 34] = [(34 : UInt8)].map zbg := rfl
 have e92 : [AV.int .u8 92] = [(92 : UInt8)].map zbg := rfl
 refine exW (fun o=>p78_c hC) (exW (fun o=>p78_0) ?_)
 simp only [Tr.val]
 refine exW (fun o=>p78_1) ?_
 cases hr : s with
 | nil =>
  refine .bF (by simp) (.brn rfl (.brn rfl (.brn rfl ?_)))
  exact .mk ⟨_,rfl,by simp⟩
 | cons c r =>
  rw [← hr]
  have hd : s.drop 0 = c :: r := by rw [hr]; rfl
  obtain ⟨h1,h2,h3⟩ := zay _ _ hd
  simp only [Tr.val,List.length_cons,List.length_nil]
  rw [show s[Int.toNat 0]? = some c from h1]
  simp only [Option.bind_some]
  rw [show w64 (0 + 1) = ((0 + 1 : Nat) : Int) from rfl]
  have two : Was (RL C 78 [0,5,0,5,0,0,5,2,3] (mkS 35 [(0,.val (.str s) .no),(3,.val (.vs 1 false (([34,92,c] : List UInt8).map zbg)) .own),(4,.val (.int .i64 ((0 + 1 : Nat) : Int)) .no)] [] Hp.none 0)) (QS (2 + 2 * s.length)) := zkk s hs r (0 + 1) _ false h2 (by omega) (by simp)
  have onee : Was (RL C 78 [0,5,0,5,0,0,5,2,3] (mkS 35 [(0,.val (.str s) .no),(3,.val (.vs 1 false (([34,c] : List UInt8).map zbg)) .own),(4,.val (.int .i64 ((0 + 1 : Nat) : Int)) .no)] [] Hp.none 0)) (QS (2 + 2 * s.length)) := zkk s hs r (0 + 1) _ false h2 (by omega) (by simp)
  refine .bT (by omega) (.bT (by omega) (.dec (fun h=>?_) fun h=>?_))
  ·exact .brn rfl (.brn rfl (.brn rfl (.bT (by omega) (.brn rfl (.brn rfl two)))))
  ·refine .bT (by omega) (.dec (fun h=>?_) fun h=>?_)
   ·exact .brn rfl (.brn rfl (.brn rfl (.bT (by omega) (.brn rfl (.brn rfl two)))))
   ·exact .bT (by omega) (.brn rfl (.brn rfl (.brn rfl onee)))
end Go.Proofs.YtfdklpkfpmkgeaaGreatDoor
end
