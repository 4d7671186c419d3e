/- The walk of body (89). -/
import Derived.Test.YtfdklpkfpmkgeaaGreatDoorM6
import Derived.Test.YtfdklpkfpmkgeaaGreatDoorM10
import Derived.Test.YtfdklpkfpmkgeaaGreatDoorM11
set_option linter.unusedSimpArgs false
set_option linter.unusedVariables false
set_option linter.unusedSectionVars false
set_option linter.unnecessarySimpa false
namespace Go.Proofs.YtfdklpkfpmkgeaaGreatDoor
section
open Go Go.Vai
attribute [local irreducible] goTo zao mkS
set_option maxHeartbeats 40000000
abbrev s89 (w : Sc) (tL : Bool) (L : List Stm) (i : Int) (tg : Bool) (l : List Dg) (T : Hp) (nx : Nat) : St := mkS 135 [(0,.val (.ptr 0 0) .no),(4,.lp 4 0),(17,.val (.vs 6 tL (stms L)) .no),(18,.val (.int .i64 (L.length : Int)) .no),(19,.val (.int .i64 i) .no)] [(4,⟨(Sc.cs w),[]⟩)] (hD tg l T) nx
abbrev m89 (w : Sc) (tL : Bool) (L : List Stm) (i : Int) (z : Stm) (tg : Bool) (l : List Dg) (T : Hp) (nx : Nat) : St := mkS 135 [(0,.val (.ptr 0 0) .no),(4,.lp 4 0),(17,.val (.vs 6 tL (stms L)) .no),(18,.val (.int .i64 (L.length : Int)) .no),(19,.val (.int .i64 i) .no),(20,.val (.bool true) .no),(21,.val (.cptr (Stm.cs z)) .no)] [(4,⟨(Sc.cs w),[]⟩)] (hD tg l T) nx
theorem ziz (l r : List Dg) : l.map Dg.av ++ r.map Dg.av = (l ++ r).map Dg.av := mpA.symm
variable {C : Nat→Oracle} (hC : Ext C)
include hC
theorem b_if (w : Sc) (hF : w.t.fields.length ≤ 1000000) (hP : w.ps.length ≤ 1000000) (T : Hp) (nx : Nat) (z : Stm) (hk : z.kind = 6) (hv : WfE (valS z)) (hs : (valS z).sz ≤ 1000000) (tL : Bool) (L : List Stm) (hL : L.length ≤ 400000) (i : Nat) (hi : i < L.length) (tg : Bool) (l : List Dg)
  (nT nE : Nat) (hnT : (zdc w z.thn).length ≤ nT)
  (hT : ∀ t l',l'.length + nT ≤ 1000000→Was (calL C 89 [.ptr 0 0,.agg w.cs,.vs 6 z.tgT (stms z.thn)] (hD t l' T) nx) (QD (l' ++ zdc w z.thn) T nx))
  (hE : ∀ t l',l'.length + nE ≤ 1000000→Was (calL C 89 [.ptr 0 0,.agg w.cs,.vs 6 z.tgE (stms z.els)] (hD t l' T) nx) (QD (l' ++ zdc w z.els) T nx))
  (hb : l.length + ((tyE w (valS z)).2.length + 1) + nT + nE ≤ 1000000) {Q : Out→Prop}
  (K : ∀ t,Was (RL C 89 Q09 (s89 w tL L ((i + 1 : Nat) : Int) t (l ++ ifD w (valS z) ++ zdc w z.thn ++ zdc w z.els) T nx)) Q) :
  Was (ML C 89 Q1h 1 (m89 w tL L (i : Int) z tg l T nx)) Q:=by
 have hw := wi64 hi (by omega);unfold ifD at K;refine exW (fun o=>p89_2) ?_;simp only [Tr.val,lnM,itN,zan,zau,zap,omS,obS,Fld.av_cs,Par.av_cs,Dg.av_cs,Typ.av_cs,Qry.av_cs,Ex.av_cs,zak,AV.pure,za3,zaf,za6,zah,za9,zab,zag,za7,zac,zaa,zae,za8,za1,za0];refine .bT hk ?_;refine .call (w152 hC z) ?_;rintro o rfl;simp only [AV.pure,za3,zaf,za6,zah,za9,zab,zag,za7,zac,zaa,zae,za8,za1,za0,za6];refine exW (fun o=>p89_3) ?_;simp only [Tr.val,lnM,itN,zan,zau,zap,omS,obS,Fld.av_cs,Par.av_cs,Dg.av_cs,Typ.av_cs,Qry.av_cs,Ex.av_cs,zak,AV.pure,za3,zaf,za6,zah,za9,zab,zag,za7,zac,zaa,zae,za8,za1,za0];refine .call (w52 hC w hF hP _ hv hs) ?_;rintro o ⟨t1,e⟩;simp only [e,AV.pure,za3,zab,za0];refine exW (fun o=>p89_5) ?_;generalize hr : tyE w (valS z) = r at *;obtain ⟨x,d⟩ := r;simp only [Tr.val,AV.pure,za3,zab,za0,lnM] at *;refine .brn (zad (by omega)) (.brn (zad (by omega)) ?_);rw [ziz];have go : ¬ (d = []∧x ≠ 3)→Was ((calL C 89 [.ptr 0 0,.agg w.cs,.vs 6 z.tgT (stms z.thn)] (hD false (l ++ d) T) nx).bind fun r8=>ML C 89 Q4z 5 (mkS 135 [(0,.val (.ptr 0 0) .no),(4,.lp 4 0),(7,.lp 7 0),(17,.val (.vs 6 tL (stms L)) .no),(18,.val (.int .i64 (L.length : Int)) .no),(19,.val (.int .i64 (i : Int)) .no),(48,.val (.bool false) .no),(54,.val (.ptr 0 0) .no),(55,.val (.agg (Sc.cs w)) .no),(56,.lp 7 3),(57,.val (.vs 6 z.tgT (stms z.thn)) .no),(58,.val r8.v .no)] [(4,⟨(Sc.cs w),[]⟩),(7,⟨(Stm.cs z),[]⟩)] r8.H r8.nx)) Q:=by
  intro hn;rw [if_neg hn,List.append_nil] at K;refine .call (hT false (l ++ d) (by rw [lnA]; omega)) ?_;rintro o ⟨t2,rfl⟩;refine exW (fun o=>p89_8) ?_;refine .call (hE t2 _ (by simp only [lnA]; omega)) ?_;rintro o ⟨t3,rfl⟩;refine exW (fun o=>p89_14) ?_;show Was (RL C 89 _ _) Q;rw [hw];exact K t3
 by_cases hd : d = []
 ·refine .bT (by rw [hd]; rfl) (Was.ndec (fun hx=>?_) (fun hx=>go (fun h=>h.2 hx)));rw [if_pos ⟨hd,hx⟩] at K;refine .brn (by simp only [zaa,AV.pure,za3,za0]) ?_;refine .call (w152 hC z) ?_;rintro o rfl;refine .brn (by simp only [AV.pure,za6]) ?_;refine exW (fun o=>p89_7) ?_;refine .call (w84 hC T nx false (l ++ d) (by rw [lnA]; omega) _ _) ?_;rintro o ⟨t2,rfl⟩;refine exW (fun o=>p89_13) ?_;refine .call (hT t2 _ (by simp only [lnA,lnC,lnN]; omega)) ?_;rintro o ⟨t3,rfl⟩;refine exW (fun o=>p89_21) ?_;refine .call (hE t3 _ (by simp only [lnA,lnC,lnN]; omega)) ?_;rintro o ⟨t4,rfl⟩;refine exW (fun o=>p89_28) ?_;show Was (RL C 89 _ _) Q;rw [hw];rw [← List.append_assoc] at K;exact K t4
 ·exact .bF (by intro h; exact hd (List.length_eq_zero_iff.1 (by omega))) (go fun h=>hd h.1)
theorem b_st (w : Sc) (hF : w.t.fields.length ≤ 1000000) (hP : w.ps.length ≤ 1000000) (T : Hp) (nx : Nat) (z : Stm) (hk : z.kind ≠ 6) (hv : z.kind ≠ 5→WfE (valS z)) (hs : (valS z).sz ≤ 1000000) (tL : Bool) (L : List Stm) (hL : L.length ≤ 400000) (i : Nat) (hi : i < L.length) (tg : Bool) (l : List Dg)
  (hb : l.length + ((tyE w (valS z)).2.length + 2) ≤ 1000000) {Q : Out→Prop}
  (K : ∀ t D,D = l ++ stD w z→Was (RL C 89 Q09 (s89 w tL L ((i + 1 : Nat) : Int) t D T nx)) Q) :
  Was (ML C 89 Q1h 1 (m89 w tL L (i : Int) z tg l T nx)) Q:=by
 have hw := wi64 hi (by omega);refine exW (fun o=>p89_2) ?_;simp only [Tr.val,lnM,itN,zan,zau,zap,omS,obS,Fld.av_cs,Par.av_cs,Dg.av_cs,Typ.av_cs,Qry.av_cs,Ex.av_cs,zak,AV.pure,za3,zaf,za6,zah,za9,zab,zag,za7,zac,zaa,zae,za8,za1,za0];refine .bF hk ?_;refine .call (w153 hC z.kind) ?_;rintro o rfl;simp only [AV.pure,za3,zaf,za6,zah,za9,zab,zag,za7,zac,zaa,zae,za8,za1,za0];refine exW (fun o=>p89_4) ?_;simp only [Tr.val,lnM,itN,zan,zau,zap,omS,obS,Fld.av_cs,Par.av_cs,Dg.av_cs,Typ.av_cs,Qry.av_cs,Ex.av_cs,zak,AV.pure,za3,zaf,za6,zah,za9,zab,zag,za7,zac,zaa,zae,za8,za1,za0];refine .call (w94 hC w.t hF z.field) ?_;rintro o e;cases hf : fldF w.t.fields z.field with
 | none =>
  rw [hf] at e;simp only [e,fOut,AV.pure,za3,zhk,za0];refine exW (fun o=>p89_6) ?_;simp only [Tr.val,lnM,itN,zan,zau,zap,omS,obS,Fld.av_cs,Par.av_cs,Dg.av_cs,Typ.av_cs,Qry.av_cs,Ex.av_cs,zak,AV.pure,za3,zaf,za6,zah,za9,zab,zag,za7,zac,zaa,zae,za8,za1,za0];refine .brn rfl ?_;refine .call (w84 hC T nx tg l (by omega) _ _) ?_;rintro o ⟨t0,rfl⟩;refine exW (fun o=>p89_9) ?_;simp only [Tr.val,lnM,itN,zan,zau,zap,omS,obS,Fld.av_cs,Par.av_cs,Dg.av_cs,Typ.av_cs,Qry.av_cs,Ex.av_cs,zak,AV.pure,za3,zaf,za6,zah,za9,zab,zag,za7,zac,zaa,zae,za8,za1,za0];refine .dec (fun h5=>?_) (fun h5=>?_)
  ·rw [hw];exact K t0 _ (by unfold stD; simp only [hf]; rw [if_pos h5])
  have hst : l ++ stD w z = (l ++ [⟨z.at_,6⟩]) ++ (tyE w (valS z)).2 := by unfold stD; simp only [hf]; rw [if_neg h5,if_neg (by intro h; cases h.1),List.append_nil,List.append_assoc]
  have hv := hv h5;have hl : (l ++ [(⟨z.at_,6⟩ : Dg)]).length = l.length + 1 := by rw [lnA]; rfl
  refine .dec (fun h1=>?_) (fun h1=>?_)
  ·refine .call (w152 hC z) ?_;rintro o rfl;simp only [AV.pure,za3,zaf,za6,zah,za9,zab,zag,za7,zac,zaa,zae,za8,za1,za0,za6];refine exW (fun o=>p89_15) ?_;simp only [Tr.val,lnM,itN,zan,zau,zap,omS,obS,Fld.av_cs,Par.av_cs,Dg.av_cs,Typ.av_cs,Qry.av_cs,Ex.av_cs,zak,AV.pure,za3,zaf,za6,zah,za9,zab,zag,za7,zac,zaa,zae,za8,za1,za0];refine .call (w52 hC w hF hP _ hv hs) ?_;rintro o ⟨t1,e⟩;simp only [e,AV.pure,za3,zab,za0];refine exW (fun o=>p89_22) ?_;simp only [Tr.val,AV.pure,za3,zab,za0,lnM];refine .brn (zad (by omega)) (.brn (zad (by omega)) ?_);rw [ziz];rw [hw];exact K false _ hst.symm
  ·refine .call (w152 hC z) ?_;rintro o rfl;simp only [AV.pure,za3,zaf,za6,zah,za9,zab,zag,za7,zac,zaa,zae,za8,za1,za0,za6];refine exW (fun o=>p89_16) ?_;simp only [Tr.val,lnM,itN,zan,zau,zap,omS,obS,Fld.av_cs,Par.av_cs,Dg.av_cs,Typ.av_cs,Qry.av_cs,Ex.av_cs,zak,AV.pure,za3,zaf,za6,zah,za9,zab,zag,za7,zac,zaa,zae,za8,za1,za0];refine .call (w52 hC w hF hP _ hv hs) ?_;rintro o ⟨t1,e⟩;simp only [e,AV.pure,za3,zab,za0];refine exW (fun o=>p89_23) ?_;simp only [Tr.val,AV.pure,za3,zab,za0,lnM];refine .brn (zad (by omega)) (.brn (zad (by omega)) ?_);rw [ziz];rw [hw];exact K false _ hst.symm
 | some f =>
  rw [hf] at e;simp only [e,fOut,AV.pure,za3,zhk,za0];refine exW (fun o=>p89_6) ?_;simp only [Tr.val,lnM,itN,zan,zau,zap,omS,obS,Fld.av_cs,Par.av_cs,Dg.av_cs,Typ.av_cs,Qry.av_cs,Ex.av_cs,zak,AV.pure,za3,zaf,za6,zah,za9,zab,zag,za7,zac,zaa,zae,za8,za1,za0];refine .brf rfl ?_;refine Was.ndec (fun hk'=>?_) (fun hk'=>?_)
  ·refine .call (w84 hC T nx tg l (by omega) _ _) ?_;rintro o ⟨t0,rfl⟩;refine exW (fun o=>p89_10) ?_;simp only [Tr.val,lnM,itN,zan,zau,zap,omS,obS,Fld.av_cs,Par.av_cs,Dg.av_cs,Typ.av_cs,Qry.av_cs,Ex.av_cs,zak,AV.pure,za3,zaf,za6,zah,za9,zab,zag,za7,zac,zaa,zae,za8,za1,za0];refine .dec (fun h5=>?_) (fun h5=>?_)
   ·rw [hw];exact K t0 _ (by unfold stD; simp only [hf]; rw [if_pos h5,if_neg hk'])
   have hst : l ++ stD w z = (l ++ [⟨z.at_,10⟩]) ++ (tyE w (valS z)).2 := by unfold stD; simp only [hf]; rw [if_neg h5,if_neg hk',if_neg (by intro h; cases h.1),List.append_nil,List.append_assoc]
   have hv := hv h5;have hl : (l ++ [(⟨z.at_,10⟩ : Dg)]).length = l.length + 1 := by rw [lnA]; rfl
   refine .dec (fun h1=>?_) (fun h1=>?_)
   ·refine .call (w152 hC z) ?_;rintro o rfl;simp only [AV.pure,za3,zaf,za6,zah,za9,zab,zag,za7,zac,zaa,zae,za8,za1,za0,za6];refine exW (fun o=>p89_17) ?_;simp only [Tr.val,lnM,itN,zan,zau,zap,omS,obS,Fld.av_cs,Par.av_cs,Dg.av_cs,Typ.av_cs,Qry.av_cs,Ex.av_cs,zak,AV.pure,za3,zaf,za6,zah,za9,zab,zag,za7,zac,zaa,zae,za8,za1,za0];refine .call (w52 hC w hF hP _ hv hs) ?_;rintro o ⟨t1,e⟩;simp only [e,AV.pure,za3,zab,za0];refine exW (fun o=>p89_24) ?_;simp only [Tr.val,AV.pure,za3,zab,za0,lnM];refine .brn (zad (by omega)) (.brn (zad (by omega)) ?_);rw [ziz];rw [hw];exact K false _ hst.symm
   ·refine .call (w152 hC z) ?_;rintro o rfl;simp only [AV.pure,za3,zaf,za6,zah,za9,zab,zag,za7,zac,zaa,zae,za8,za1,za0,za6];refine exW (fun o=>p89_18) ?_;simp only [Tr.val,lnM,itN,zan,zau,zap,omS,obS,Fld.av_cs,Par.av_cs,Dg.av_cs,Typ.av_cs,Qry.av_cs,Ex.av_cs,zak,AV.pure,za3,zaf,za6,zah,za9,zab,zag,za7,zac,zaa,zae,za8,za1,za0];refine .call (w52 hC w hF hP _ hv hs) ?_;rintro o ⟨t1,e⟩;simp only [e,AV.pure,za3,zab,za0];refine exW (fun o=>p89_25) ?_;simp only [Tr.val,AV.pure,za3,zab,za0,lnM];refine .brn (zad (by omega)) (.brn (zad (by omega)) ?_);rw [ziz];rw [hw];exact K false _ hst.symm
  ·refine .dec (fun h5=>?_) (fun h5=>?_)
   ·rw [hw];exact K tg _ (by unfold stD; simp only [hf]; rw [if_pos h5,if_pos hk',List.append_nil])
   have hv := hv h5;refine .dec (fun h1=>?_) (fun h1=>?_)
   ·have hst : l ++ stD w z = (l ++ (tyE w (valS z)).2) ++ (if (tyE w (valS z)).2 = []∧(tyE w (valS z)).1 ≠ f.type then [⟨(valS z).at_,12⟩] else []) := by unfold stD; simp only [hf]; rw [if_neg h5,if_pos hk',if_pos h1,List.nil_append,List.append_assoc]; simp
    refine .call (w152 hC z) ?_;rintro o rfl;simp only [AV.pure,za3,zaf,za6,zah,za9,zab,zag,za7,zac,zaa,zae,za8,za1,za0,za6];refine exW (fun o=>p89_11) ?_;simp only [Tr.val,lnM,itN,zan,zau,zap,omS,obS,Fld.av_cs,Par.av_cs,Dg.av_cs,Typ.av_cs,Qry.av_cs,Ex.av_cs,zak,AV.pure,za3,zaf,za6,zah,za9,zab,zag,za7,zac,zaa,zae,za8,za1,za0];refine .call (w52 hC w hF hP _ hv hs) ?_;rintro o ⟨t1,e⟩;simp only [e,AV.pure,za3,zab,za0];refine exW (fun o=>p89_19) ?_;simp only [Tr.val,AV.pure,za3,zab,za0,lnM];refine .brn (zad (by omega)) (.brn (zad (by omega)) ?_);rw [ziz];by_cases hd : (tyE w (valS z)).2 = []
    ·refine .bT (by rw [hd]; rfl) (Was.ndec (fun hx=>?_) (fun hx=>?_))
     ·refine .brn (by simp only [zaa,AV.pure,za3,za0]) ?_;refine .call (w152 hC z) ?_;rintro o rfl;refine .brn (by simp only [AV.pure,za6]) ?_;refine exW (fun o=>p89_26) ?_;refine .call (w84 hC T nx false _ (by rw [lnA]; omega) _ _) ?_;rintro o ⟨t2,rfl⟩;refine exW (fun o=>p89_29) ?_;show Was (RL C 89 _ _) Q;rw [hw];exact K t2 _ (by rw [hst,if_pos ⟨hd,hx⟩])
     ·rw [hw];exact K false _ (by rw [hst,if_neg (fun h=>h.2 hx),List.append_nil])
    ·refine .bF (by intro h; exact hd (List.length_eq_zero_iff.1 (by omega))) ?_;rw [hw];exact K false _ (by rw [hst,if_neg (fun h=>hd h.1),List.append_nil])
   ·have hst : l ++ stD w z = (l ++ (tyE w (valS z)).2) ++ (if (tyE w (valS z)).2 = []∧(tyE w (valS z)).1 ≠ (kOf z.kind).2 then [⟨(valS z).at_,12⟩] else []) := by unfold stD; simp only [hf]; rw [if_neg h5,if_pos hk',if_neg h1,List.nil_append,List.append_assoc]; simp
    refine .call (w152 hC z) ?_;rintro o rfl;simp only [AV.pure,za3,zaf,za6,zah,za9,zab,zag,za7,zac,zaa,zae,za8,za1,za0,za6];refine exW (fun o=>p89_12) ?_;simp only [Tr.val,lnM,itN,zan,zau,zap,omS,obS,Fld.av_cs,Par.av_cs,Dg.av_cs,Typ.av_cs,Qry.av_cs,Ex.av_cs,zak,AV.pure,za3,zaf,za6,zah,za9,zab,zag,za7,zac,zaa,zae,za8,za1,za0];refine .call (w52 hC w hF hP _ hv hs) ?_;rintro o ⟨t1,e⟩;simp only [e,AV.pure,za3,zab,za0];refine exW (fun o=>p89_20) ?_;simp only [Tr.val,AV.pure,za3,zab,za0,lnM];refine .brn (zad (by omega)) (.brn (zad (by omega)) ?_);rw [ziz];by_cases hd : (tyE w (valS z)).2 = []
    ·refine .bT (by rw [hd]; rfl) (Was.ndec (fun hx=>?_) (fun hx=>?_))
     ·refine .brn (by simp only [zaa,AV.pure,za3,za0]) ?_;refine .call (w152 hC z) ?_;rintro o rfl;refine .brn (by simp only [AV.pure,za6]) ?_;refine exW (fun o=>p89_27) ?_;refine .call (w84 hC T nx false _ (by rw [lnA]; omega) _ _) ?_;rintro o ⟨t2,rfl⟩;refine exW (fun o=>p89_30) ?_;show Was (RL C 89 _ _) Q;rw [hw];exact K t2 _ (by rw [hst,if_pos ⟨hd,hx⟩])
     ·rw [hw];exact K false _ (by rw [hst,if_neg (fun h=>h.2 hx),List.append_nil])
    ·refine .bF (by intro h; exact hd (List.length_eq_zero_iff.1 (by omega))) ?_;rw [hw];exact K false _ (by rw [hst,if_neg (fun h=>hd h.1),List.append_nil])
end
section
open Go Go.Vai
attribute [local irreducible] goTo zao mkS
set_option maxHeartbeats 40000000
set_option linter.unusedSectionVars false
theorem zji (l : List Stm) : (stms l).length = l.length := by rw [zew,lnM]
theorem nth_stms (l : List Stm) (i : Nat) : nth (stms l) i = l[i]?.map Stm.av := by rw [zew,zan]
mutual
def wtS (w : Sc) : Stm→Nat
 | .mk k s v t1 th t2 el a=>(tyE w (valS (.mk k s v t1 th t2 el a))).2.length + 2 + wtL w th + wtL w el
def wtL (w : Sc) : List Stm→Nat
 | []=>0
 | z :: l=>wtS w z + wtL w l
end
mutual
def WfS : Stm→Prop
 | .mk k s v t1 th t2 el a=>(k ≠ 5→WfE (valS (.mk k s v t1 th t2 el a)))∧(valS (.mk k s v t1 th t2 el a)).sz ≤ 1000000∧th.length ≤ 400000∧el.length ≤ 400000∧WfSL th∧WfSL el
def WfSL : List Stm→Prop
 | []=>True
 | z :: l=>WfS z∧WfSL l
end
theorem zgw {p : Prop} [Decidable p] (x : Dg) : (if p then [x] else []).length ≤ 1 := by split <;> simp
theorem stD_len (w : Sc) (z : Stm) : (stD w z).length ≤ (tyE w (valS z)).2.length + 2:=by
 unfold stD;cases fldF w.t.fields z.field with
 | none =>
  simp only;split
  ·simp
  ·rw [lnA,lnA,if_neg (by intro h; cases h.1)];simp only [lnC,lnN];omega
 | some f =>
  simp only;by_cases h : f.kind = (kOf z.kind).1
  ·simp only [if_pos h];split
   ·simp
   ·rw [lnA,lnA];refine Nat.le_trans (Nat.add_le_add_left (zgw _) _) ?_;simp only [lnN];omega
  ·simp only [if_neg h];split
   ·simp
   ·rw [lnA,lnA,if_neg (by intro h; cases h.1)];simp only [lnC,lnN];omega
theorem ifD_len (w : Sc) (e : Ex) : (ifD w e).length ≤ (tyE w e).2.length + 1:=by
 unfold ifD;rw [lnA];split <;> simp only [lnC,lnN] <;> omega
mutual
theorem zo5 (w : Sc) : ∀ z : Stm,(zhz w z).length ≤ wtS w z
 | .mk k s v t1 th t2 el a=>by
  have h1 := zds w th;have h2 := zds w el;rw [zhz,wtS];split
  ·rw [lnA,lnA];have := ifD_len w (valS (.mk k s v t1 th t2 el a));omega
  ·have := stD_len w (.mk k s v t1 th t2 el a);omega
theorem zds (w : Sc) : ∀ l : List Stm,(zdc w l).length ≤ wtL w l
 | []=>by rw [zdc,wtL]; exact Nat.le_refl _
 | z :: l=>by
  have h1 := zo5 w z;have h2 := zds w l;rw [zdc,wtL,lnA];omega
end
variable {C : Nat→Oracle} (hC : Ext C) (w : Sc) (hF : w.t.fields.length ≤ 1000000) (hP : w.ps.length ≤ 1000000) (T : Hp) (nx : Nat)
include hC hF hP
mutual
theorem t_stm : ∀ z : Stm,WfS z→∀ (tL : Bool) (L : List Stm),L.length ≤ 400000→∀ i,i < L.length→∀ tg l,l.length + wtS w z ≤ 1000000→∀ Q : Out→Prop,
  (∀ t,Was (RL C 89 Q09 (s89 w tL L ((i + 1 : Nat) : Int) t (l ++ zhz w z) T nx)) Q)→Was (ML C 89 Q1h 1 (m89 w tL L (i : Int) z tg l T nx)) Q
 | .mk k s v t1 th t2 el a=>fun hz tL L hL i hi tg l hb Q K=>by
  rw [WfS] at hz;rw [wtS] at hb;rw [zhz] at K;by_cases hk : k = 6
  ·rw [if_pos hk] at K;have r1 := zrp th hz.2.2.2.2.1 t1 th hz.2.2.1;have r2 := zrp el hz.2.2.2.2.2 t2 el hz.2.2.2.1;refine b_if hC w hF hP T nx (.mk k s v t1 th t2 el a) hk (hz.1 (by omega)) hz.2.1 tL L hL i hi tg l (wtL w th) (wtL w el) (zds w th) ?_ ?_ (by omega) (fun t=>?_)
   ·intro t l' h';exact exW (fun o=>p89_c hC) (exW (fun o=>p89_0) (by rw [zji]; exact r1 0 rfl (Nat.zero_le _) t l' h'))
   ·intro t l' h';exact exW (fun o=>p89_c hC) (exW (fun o=>p89_0) (by rw [zji]; exact r2 0 rfl (Nat.zero_le _) t l' h'))
   ·have K := K t;rw [← List.append_assoc,← List.append_assoc] at K;exact K
  ·rw [if_neg hk] at K;exact b_st hC w hF hP T nx (.mk k s v t1 th t2 el a) hk hz.1 hz.2.1 tL L hL i hi tg l (by omega) (fun t D e=>by rw [e]; exact K t)
theorem zrp : ∀ r : List Stm,WfSL r→∀ (tL : Bool) (L : List Stm),L.length ≤ 400000→∀ i,L.drop i = r→i ≤ L.length→∀ tg l,l.length + wtL w r ≤ 1000000 →
  Was (RL C 89 Q09 (s89 w tL L (i : Int) tg l T nx)) (QD (l ++ zdc w r) T nx)
 | []=>fun _ tL L hL i hi hil tg l hb=>by
  have := zal _ _ hil hi;refine exW (fun o=>p89_1) ?_;exact .bF (by omega) (.mk ⟨tg,by rw [zdc,List.append_nil]⟩)
 | z :: r=>fun hz tL L hL i hi hil tg l hb=>by
  rw [WfSL] at hz;rw [wtL] at hb;obtain ⟨h1,h2,h3⟩ := zat _ _ hi;have hl := zo5 w z;refine exW (fun o=>p89_1) ?_;simp only [Tr.val,zji,itN,nth_stms,h1,omS,obS,Stm.av_cs,zak];refine .bT (by omega) (.bT (by omega) (.bT (by omega) ?_));refine t_stm z hz.1 tL L hL i h3 tg l (by omega) _ (fun t=>?_);have := zrp r hz.2 tL L hL (i + 1) h2 (by omega) t (l ++ zhz w z) (by rw [lnA]; omega);rw [zdc,← List.append_assoc];exact this
end
theorem w89 (tL : Bool) (L : List Stm) (hL : L.length ≤ 400000) (hz : WfSL L) (tg : Bool) (l : List Dg) (hb : l.length + wtL w L ≤ 1000000) : Was (calL C 89 [.ptr 0 0,.agg w.cs,.vs 6 tL (stms L)] (hD tg l T) nx) (QD (l ++ zdc w L) T nx) :=
 exW (fun o=>p89_c hC) (exW (fun o=>p89_0) (by rw [zji]; exact zrp hC w hF hP T nx L hz tL L hL 0 rfl (Nat.zero_le _) tg l hb))
end
section
open Go Go.Vai
attribute [local irreducible] goTo zao mkS
variable {C : Nat → Oracle} {o : Out}
abbrev qS0 : List Nat := Q0t
abbrev qS1 : List Nat := Q6q
abbrev qS2 : List Nat := Q3w
abbrev qS3 : List Nat := Q3m
abbrev qS4 : List Nat := Q5m
abbrev qS5 : List Nat := Q5q
abbrev qS6 : List Nat := Q40
abbrev qS7 : List Nat := Q67
abbrev qS8 : List Nat := Q60
abbrev qS9 : List Nat := Q4k
abbrev qS10 : List Nat := Q6f
abbrev qS11 : List Nat := Q52
abbrev qS12 : List Nat := Q5l
abbrev qS13 : List Nat := Q7y
abbrev qS14 : List Nat := Q5k
abbrev qS15 : List Nat := Q5w
abbrev qS16 : List Nat := Q88
abbrev qS17 : List Nat := Q5v
abbrev qS18 : List Nat := Q8s
abbrev qS19 : List Nat := Q8u
theorem p48_c (hC : Ext C) {T : Hp} {d : Nat} {a : Bool} {b : List Dg} {c : Typ} : LC C o 48 (mkS 144 [vv 0 (.ptr 0 0),vv 1 (.agg (Typ.cs c))] [] ((0,⟨[(.vs 2 a (b.map Dg.av))],[0]⟩) :: T) d) [(.ptr 0 0),(.agg (Typ.cs c))] ((0,⟨[(.vs 2 a (b.map Dg.av))],[0]⟩) :: T) d := lC hC
abbrev yS252 := fun (a : Typ) b c (d : Nat) => mkS 144 [vv 0 (.ptr 0 0),(3,.lp 3 0),vv 15 (.ptr 0 0),(16,.lp 3 1),vv 17 (.vs 4 a.tgF (a.fields.map Fld.av)),vv 18 b] [(3,⟨(Typ.cs a),[]⟩)] c d
theorem p48_0 {b a} {T : Hp} {e : Nat} {c : List Dg} : LR C o 48 [] (mkS 144 [vv 0 (.ptr 0 0),vv 1 (.agg (Typ.cs a))] [] ((0,⟨[(.vs 2 b (c.map Dg.av))],[0]⟩) :: T) e) (.call 85 [(.ptr 0 0),(.vs 4 a.tgF (a.fields.map Fld.av)),(.func 86 [])] ((0,⟨[(.vs 2 b (c.map Dg.av))],[0]⟩) :: T) e fun d =>
(.mid 0 [0,5,0] 4 (yS252 a d.v d.H d.nx))) := lR 4
theorem p48_1 {a b} {T : Hp} {d : Nat} {c : List Dg} : LM C o 48 [0,5,0] 4 (yS252 a (.tuple []) ((0,⟨[(.vs 2 b (c.map Dg.av))],[0]⟩) :: T) d) (.run 0 qS0 (mkS 144 [vv 0 (.ptr 0 0),(3,.lp 3 0),(4,.val (.vs 2 true []) .own),vv 20 (.vs 4 a.tgO (a.ops.map Opn.av)),vi 21 ((a.ops.map Opn.av).length : Int),vi 22 0] [(3,⟨(Typ.cs a),[]⟩)] ((0,⟨[(.vs 2 b (c.map Dg.av))],[0]⟩) :: T) d)) := lM 7
theorem p48_2 {d g b h e c a} {T : Hp} {j : Nat} {i : List Opn} {f : List Dg} : LR C o 48 qS0 (mkS 144 [vv 0 (.ptr 0 0),(3,.lp 3 0),(4,.val (.vs 2 d h) .own),vv 20 (.vs 4 g (i.map Opn.av)),vi 21 e,vi 22 c] [(3,⟨(Typ.cs a),[]⟩)] ((0,⟨[(.vs 2 b (f.map Dg.av))],[0]⟩) :: T) j) (.br (decide (c < e))
(ix (i.map Opn.av) c fun k =>
(.mid 1 Q2f 1 (mkS 144 [vv 0 (.ptr 0 0),(3,.lp 3 0),(4,.val (.vs 2 d h) .own),vv 20 (.vs 4 g (i.map Opn.av)),vi 21 e,vi 22 c,vb 23 true,vv 24 (.cptr (AV.cells k))] [(3,⟨(Typ.cs a),[]⟩)] ((0,⟨[(.vs 2 b (f.map Dg.av))],[0]⟩) :: T) j)))
(.run 0 qS2 (mkS 144 [vv 0 (.ptr 0 0),(3,.lp 3 0),(4,.val (.vs 2 d h) .own),vv 64 (.vs 8 a.tgQ (a.qrys.map Qry.av)),vi 65 ((a.qrys.map Qry.av).length : Int),vi 66 0] [(3,⟨(Typ.cs a),[]⟩)] ((0,⟨[(.vs 2 b (f.map Dg.av))],[0]⟩) :: T) j))) := lR 10
theorem p48_3 {i d b c e f g a} {T : Hp} {l : Nat} {j : List Opn} {h : List Dg} : LM C o 48 Q2f 1 (mkS 144 [vv 0 (.ptr 0 0),(3,.lp 3 0),(4,.val (.vs 2 i c) .own),vv 20 (.vs 4 d (j.map Opn.av)),vi 21 e,vi 22 f,vb 23 true,vv 24 (.cptr (Opn.cs a))] [(3,⟨(Typ.cs g),[]⟩)] ((0,⟨[(.vs 2 b (h.map Dg.av))],[0]⟩) :: T) l) (.br (Nat.ble ((c.length + 1) * 24) za5)
(.br (Nat.ble (c.length + 1) za5)
(.call 87 [(.ptr 0 0),(.vs 3 a.tgP (a.params.map Par.av)),(.func 88 [])] ((0,⟨[(.vs 2 b (h.map Dg.av))],[0]⟩) :: T) l fun k =>
(.mid 0 qS3 4 (mkS 144 [vv 0 (.ptr 0 0),(3,.lp 3 0),(4,.val (.vs 2 false (c ++ [(.agg [(.str a.name),(i6 a.at_)])])) .own),(6,.lp 6 0),vv 20 (.vs 4 d (j.map Opn.av)),vi 21 e,vi 22 f,vv 34 (.ptr 0 0),(35,.lp 6 1),vv 36 (.vs 3 a.tgP (a.params.map Par.av)),vv 37 k.v] [(3,⟨(Typ.cs g),[]⟩),(6,⟨(Opn.cs a),[]⟩)] k.H k.nx))) .none) .none) := lM 4
theorem p48_4 {a d e b g c h} {T : Hp} {j : Nat} {f : List Qry} {i : List Dg} : LR C o 48 qS2 (mkS 144 [vv 0 (.ptr 0 0),(3,.lp 3 0),(4,.val (.vs 2 a b) .own),vv 64 (.vs 8 d (f.map Qry.av)),vi 65 g,vi 66 c] [(3,⟨(Typ.cs h),[]⟩)] ((0,⟨[(.vs 2 e (i.map Dg.av))],[0]⟩) :: T) j) (.br (decide (c < g))
(ix (f.map Qry.av) c fun l =>
(.mid 0 qS4 1 (mkS 144 [vv 0 (.ptr 0 0),(3,.lp 3 0),(4,.val (.vs 2 a b) .own),vv 64 (.vs 8 d (f.map Qry.av)),vi 65 g,vi 66 c,vb 67 true,vv 68 (.cptr (AV.cells l))] [(3,⟨(Typ.cs h),[]⟩)] ((0,⟨[(.vs 2 e (i.map Dg.av))],[0]⟩) :: T) j)))
(.call 90 [(.ptr 0 0),(.vs 2 a b),(.func 91 [])] ((0,⟨[(.vs 2 e (i.map Dg.av))],[0]⟩) :: T) j fun k =>
(.mid 2 qS5 3 (mkS 144 [vv 0 (.ptr 0 0),(3,.lp 3 0),(4,.val (.vs 2 a b) .own),vv 64 (.vs 8 d (f.map Qry.av)),vi 65 g,vi 66 c,vb 67 false,vv 102 (.ptr 0 0),(103,.val (.vs 2 a b) (.lS 4)),vv 104 k.v] [(3,⟨(Typ.cs h),[]⟩)] k.H k.nx)))) := lR 9
theorem p48_5 {d c e f a h} {T : Hp} {k : Nat} {i : List Opn} {b : Opn} {g : List Dg} : LM C o 48 qS3 4 (mkS 144 [vv 0 (.ptr 0 0),(3,.lp 3 0),(4,.val (.vs 2 false h) .own),(6,.lp 6 0),vv 20 (.vs 4 d (i.map Opn.av)),vi 21 e,vi 22 f,vv 34 (.ptr 0 0),(35,.lp 6 1),vv 36 (.vs 3 b.tgP (b.params.map Par.av)),vv 37 (.tuple [])] [(3,⟨(Typ.cs a),[]⟩),(6,⟨(Opn.cs b),[]⟩)] ((0,⟨[(.vs 2 c (g.map Dg.av))],[0]⟩) :: T) k) (.call 89 [(.ptr 0 0),(.agg [(.str a.name),(.vs 4 a.tgF (a.fields.map Fld.av)),(.vs 4 a.tgO (a.ops.map Opn.av)),(.vs 8 a.tgQ (a.qrys.map Qry.av)),(.vs 2 a.tgI (a.idxs.map Idx.av)),(i6 a.at_),(.vs 3 b.tgP (b.params.map Par.av)),(.bool false)]),(.vs 6 b.tgB (stms b.body))] ((0,⟨[(.vs 2 c (g.map Dg.av))],[0]⟩) :: T) k fun j =>
(.mid 0 qS6 8 (mkS 144 [vv 0 (.ptr 0 0),(3,.lp 3 0),(4,.val (.vs 2 false h) .own),(6,.lp 6 0),vv 20 (.vs 4 d (i.map Opn.av)),vi 21 e,vi 22 f,vv 38 (.ptr 0 0),vv 39 (.agg (Typ.cs a)),(40,.lp 6 1),vv 41 (.vs 3 b.tgP (b.params.map Par.av)),vv 42 (.agg [(.str a.name),(.vs 4 a.tgF (a.fields.map Fld.av)),(.vs 4 a.tgO (a.ops.map Opn.av)),(.vs 8 a.tgQ (a.qrys.map Qry.av)),(.vs 2 a.tgI (a.idxs.map Idx.av)),(i6 a.at_),(.vs 3 b.tgP (b.params.map Par.av)),(.bool false)]),(43,.lp 6 2),vv 44 (.vs 6 b.tgB (stms b.body)),vv 45 j.v] [(3,⟨(Typ.cs a),[]⟩),(6,⟨(Opn.cs b),[]⟩)] j.H j.nx))) := lM 2
theorem p48_6 {j c d b f g h a} {T : Hp} {l : Nat} {e : List Qry} {i : List Dg} : LM C o 48 qS4 1 (mkS 144 [vv 0 (.ptr 0 0),(3,.lp 3 0),(4,.val (.vs 2 j b) .own),vv 64 (.vs 8 c (e.map Qry.av)),vi 65 f,vi 66 g,vb 67 true,vv 68 (.cptr (Qry.cs a))] [(3,⟨(Typ.cs h),[]⟩)] ((0,⟨[(.vs 2 d (i.map Dg.av))],[0]⟩) :: T) l) (.br (Nat.ble ((b.length + 1) * 24) za5)
(.br (Nat.ble (b.length + 1) za5)
(.call 87 [(.ptr 0 0),(.vs 3 a.tgP (a.params.map Par.av)),(.func 88 [])] ((0,⟨[(.vs 2 d (i.map Dg.av))],[0]⟩) :: T) l fun k =>
(.mid 0 qS7 4 (mkS 144 [vv 0 (.ptr 0 0),(3,.lp 3 0),(4,.val (.vs 2 false (b ++ [(.agg [(.str a.name),(i6 a.at_)])])) .own),(8,.lp 8 0),vv 64 (.vs 8 c (e.map Qry.av)),vi 65 f,vi 66 g,vv 78 (.ptr 0 0),(79,.lp 8 1),vv 80 (.vs 3 a.tgP (a.params.map Par.av)),vv 81 k.v] [(3,⟨(Typ.cs h),[]⟩),(8,⟨(Qry.cs a),[]⟩)] k.H k.nx))) .none) .none) := lM 4
abbrev yS253 := fun (a : Typ) b c (d : Nat) => mkS 144 [vv 0 (.ptr 0 0),(3,.lp 3 0),vv 105 (.ptr 0 0),(106,.lp 3 4),vv 107 (.vs 2 a.tgI (a.idxs.map Idx.av)),vv 108 b] [(3,⟨(Typ.cs a),[]⟩)] c d
theorem p48_7 {b f c d h i a} {T : Hp} {k : Nat} {g : List Qry} {e : List Dg} : LM C o 48 qS5 3 (mkS 144 [vv 0 (.ptr 0 0),(3,.lp 3 0),(4,.val (.vs 2 b d) .own),vv 64 (.vs 8 f (g.map Qry.av)),vi 65 h,vi 66 i,vb 67 false,vv 102 (.ptr 0 0),(103,.val (.vs 2 b d) (.lS 4)),vv 104 (.tuple [])] [(3,⟨(Typ.cs a),[]⟩)] ((0,⟨[(.vs 2 c (e.map Dg.av))],[0]⟩) :: T) k) (.call 92 [(.ptr 0 0),(.vs 2 a.tgI (a.idxs.map Idx.av)),(.func 93 [])] ((0,⟨[(.vs 2 c (e.map Dg.av))],[0]⟩) :: T) k fun j =>
(.mid 0 qS8 4 (yS253 a j.v j.H j.nx))) := lM 2
abbrev yS254 := fun (a : List AV) (b : Bool) (c : List Opn) d e (f : Opn) g (h : Typ) (i : Bool) (j : List Dg) (k : Hp) (l : Nat) => mkS 144 [vv 0 (.ptr 0 0),(3,.lp 3 0),(4,.val (.vs 2 false a) .own),(6,.lp 6 0),vv 20 (.vs 4 b (c.map Opn.av)),vi 21 d,vi 22 e,vv 46 (.agg (Opn.cs f)),g] [(3,⟨(Typ.cs h),[]⟩),(6,⟨(Opn.cs f),[]⟩)] ((0,⟨[(.vs 2 i (j.map Dg.av))],[0]⟩) :: k) l
theorem p48_8 {d c e f g} {T : Hp} {j : Nat} {i : List Opn} {a : Typ} {b : Opn} {h : List Dg} : LM C o 48 qS6 8 (mkS 144 [vv 0 (.ptr 0 0),(3,.lp 3 0),(4,.val (.vs 2 false g) .own),(6,.lp 6 0),vv 20 (.vs 4 d (i.map Opn.av)),vi 21 e,vi 22 f,vv 38 (.ptr 0 0),vv 39 (.agg (Typ.cs a)),(40,.lp 6 1),vv 41 (.vs 3 b.tgP (b.params.map Par.av)),vv 42 (.agg [(.str a.name),(.vs 4 a.tgF (a.fields.map Fld.av)),(.vs 4 a.tgO (a.ops.map Opn.av)),(.vs 8 a.tgQ (a.qrys.map Qry.av)),(.vs 2 a.tgI (a.idxs.map Idx.av)),(i6 a.at_),(.vs 3 b.tgP (b.params.map Par.av)),(.bool false)]),(43,.lp 6 2),vv 44 (.vs 6 b.tgB (stms b.body)),vv 45 (.tuple [])] [(3,⟨(Typ.cs a),[]⟩),(6,⟨(Opn.cs b),[]⟩)] ((0,⟨[(.vs 2 c (h.map Dg.av))],[0]⟩) :: T) j) (cl0 16 [(.agg (Opn.cs b))] fun k => .br (AV.pure k.v)
(.mid 0 qS9 2 (yS254 g d i e f b (vv 47 k.v) a c h T j)) .none) := lM 3
theorem p48_9 {c d f g a i} {T : Hp} {k : Nat} {e : List Qry} {b : Qry} {h : List Dg} : LM C o 48 qS7 4 (mkS 144 [vv 0 (.ptr 0 0),(3,.lp 3 0),(4,.val (.vs 2 false i) .own),(8,.lp 8 0),vv 64 (.vs 8 c (e.map Qry.av)),vi 65 f,vi 66 g,vv 78 (.ptr 0 0),(79,.lp 8 1),vv 80 (.vs 3 b.tgP (b.params.map Par.av)),vv 81 (.tuple [])] [(3,⟨(Typ.cs a),[]⟩),(8,⟨(Qry.cs b),[]⟩)] ((0,⟨[(.vs 2 d (h.map Dg.av))],[0]⟩) :: T) k) (cl0 52 [(.agg [(.str a.name),(.vs 4 a.tgF (a.fields.map Fld.av)),(.vs 4 a.tgO (a.ops.map Opn.av)),(.vs 8 a.tgQ (a.qrys.map Qry.av)),(.vs 2 a.tgI (a.idxs.map Idx.av)),(i6 a.at_),(.vs 3 b.tgP (b.params.map Par.av)),(.bool true)]),(.agg (Ex.cs b.res))] fun j => .br (AV.pure j.v)
(.mid 0 qS10 7 (mkS 144 [vv 0 (.ptr 0 0),(3,.lp 3 0),(4,.val (.vs 2 false i) .own),(8,.lp 8 0),vv 64 (.vs 8 c (e.map Qry.av)),vi 65 f,vi 66 g,vv 83 (.agg (Typ.cs a)),(84,.lp 8 1),vv 85 (.vs 3 b.tgP (b.params.map Par.av)),vv 86 (.agg [(.str a.name),(.vs 4 a.tgF (a.fields.map Fld.av)),(.vs 4 a.tgO (a.ops.map Opn.av)),(.vs 8 a.tgQ (a.qrys.map Qry.av)),(.vs 2 a.tgI (a.idxs.map Idx.av)),(i6 a.at_),(.vs 3 b.tgP (b.params.map Par.av)),(.bool true)]),(87,.lp 8 2),vv 88 (.agg (Ex.cs b.res)),(89,.val j.v (.comps [1]))] [(3,⟨(Typ.cs a),[]⟩),(8,⟨(Qry.cs b),[]⟩)] ((0,⟨[(.vs 2 d (h.map Dg.av))],[0]⟩) :: T) k)) .none) := lM 2
abbrev ztl := fun (a : Bool) b c d (e : Typ) (f : Bool) (g : List Dg) (h : Hp) (i : Nat) => mkS 144 [vv 0 (.ptr 0 0),(3,.lp 3 0),vv 110 (.vs 2 a b),vi 111 c,vi 112 d] [(3,⟨(Typ.cs e),[]⟩)] ((0,⟨[(.vs 2 f (g.map Dg.av))],[0]⟩) :: h) i
theorem p48_10 {a b} {T : Hp} {d : Nat} {c : List Dg} : LM C o 48 qS8 4 (yS253 a (.tuple []) ((0,⟨[(.vs 2 b (c.map Dg.av))],[0]⟩) :: T) d) (.run 0 qS1 (ztl a.tgI (a.idxs.map Idx.av) ((a.idxs.map Idx.av).length : Int) 0 a b c T d)) := lM 4
abbrev yS256 := fun (a : List AV) (b : Bool) (c : List Opn) d e (f : Opn) g (h : Typ) i (j : Nat) => mkS 144 [vv 0 (.ptr 0 0),(3,.lp 3 0),(4,.val (.vs 2 false a) .own),(6,.lp 6 0),vv 20 (.vs 4 b (c.map Opn.av)),vi 21 d,vi 22 e,vb 48 true,vv 49 (.ptr 0 0),(50,.lp 6 3),vi 51 f.at_,vv 52 g] [(3,⟨(Typ.cs h),[]⟩),(6,⟨(Opn.cs f),[]⟩)] i j
abbrev yS257 := fun (a : List AV) (b : Bool) (c : List Opn) d e (f : Opn) g (h : Typ) (i : Bool) (j : List Dg) (k : Hp) (l : Nat) => mkS 144 [vv 0 (.ptr 0 0),(3,.lp 3 0),(4,.val (.vs 2 false a) .own),(6,.lp 6 0),vv 20 (.vs 4 b (c.map Opn.av)),vi 21 d,vi 22 e,vb 48 false,(53,.lp 6 2),vv 54 (.vs 6 f.tgB (stms f.body)),vv 55 g] [(3,⟨(Typ.cs h),[]⟩),(6,⟨(Opn.cs f),[]⟩)] ((0,⟨[(.vs 2 i (j.map Dg.av))],[0]⟩) :: k) l
theorem p48_11 {c j d e i a g} {T : Hp} {m : Nat} {b : Bool} {f : Typ} {h : List Dg} : LM C o 48 qS9 2 (yS254 g c j d e a (vi 47 i) f b h T m) (.br (decide (i = 0))
(.call 84 [(.ptr 0 0),(i6 a.at_),(i6 2)] ((0,⟨[(.vs 2 b (h.map Dg.av))],[0]⟩) :: T) m fun k =>
(.mid 2 qS11 4 (yS256 g c j d e a k.v f k.H k.nx)))
(cl0 35 [(.vs 6 a.tgB (stms a.body))] fun l => .br (AV.pure l.v)
(.mid 0 qS12 3 (yS257 g c j d e a l.v f b h T m)) .none)) := lM 4
theorem p48_12 {e j k g h l i} {T : Hp} {m : Nat} {f : List Qry} {a : Typ} {b : Qry} {c d : List Dg} : LM C o 48 qS10 7 (mkS 144 [vv 0 (.ptr 0 0),(3,.lp 3 0),(4,.val (.vs 2 false i) .own),(8,.lp 8 0),vv 64 (.vs 8 e (f.map Qry.av)),vi 65 g,vi 66 h,vv 83 (.agg (Typ.cs a)),(84,.lp 8 1),vv 85 (.vs 3 b.tgP (b.params.map Par.av)),vv 86 (.agg [(.str a.name),(.vs 4 a.tgF (a.fields.map Fld.av)),(.vs 4 a.tgO (a.ops.map Opn.av)),(.vs 8 a.tgQ (a.qrys.map Qry.av)),(.vs 2 a.tgI (a.idxs.map Idx.av)),(i6 a.at_),(.vs 3 b.tgP (b.params.map Par.av)),(.bool true)]),(87,.lp 8 2),vv 88 (.agg (Ex.cs b.res)),(89,.val (.tuple [(i6 l),(.vs 2 k (d.map Dg.av))]) (.comps [1]))] [(3,⟨(Typ.cs a),[]⟩),(8,⟨(Qry.cs b),[]⟩)] ((0,⟨[(.vs 2 j (c.map Dg.av))],[0]⟩) :: T) m) (.br (Nat.ble (((c.map Dg.av).length + (d.map Dg.av).length) * 16) za5)
(.br (Nat.ble ((c.map Dg.av).length + (d.map Dg.av).length) za5)
(.run 0 qS2 (mkS 144 [vv 0 (.ptr 0 0),(3,.lp 3 0),(4,.val (.vs 2 false i) .own),vv 64 (.vs 8 e (f.map Qry.av)),vi 65 g,vi 66 (w64 (h + 1))] [(3,⟨(Typ.cs a),[]⟩)] ((0,⟨[(.vs 2 false ((c.map Dg.av) ++ (d.map Dg.av)))],[0]⟩) :: T) m)) .none) .none) := lM 4
abbrev yS258 := fun (a : Bool) (b : List Idx) c d e (f : Typ) (g : Bool) (h : List Dg) (i : Hp) (j : Nat) => mkS 144 [vv 0 (.ptr 0 0),(3,.lp 3 0),vv 110 (.vs 2 a (b.map Idx.av)),vi 111 c,vi 112 d,vb 113 true,vv 114 (.cptr e)] [(3,⟨(Typ.cs f),[]⟩)] ((0,⟨[(.vs 2 g (h.map Dg.av))],[0]⟩) :: i) j
theorem p48_13 {c} {T : Hp} {h : Nat} {a : Bool} {d : List Idx} {e b : Int} {g : Typ} {f : List Dg} : LR C o 48 qS1 (ztl c (d.map Idx.av) e b g a f T h) (.br (decide (b < e))
(ix (d.map Idx.av) b fun i =>
(.mid 0 qS13 1 (yS258 c d e b (AV.cells i) g a f T h)))
(.ret ⟨(.tuple []),((0,⟨[(.vs 2 a (f.map Dg.av))],[0]⟩) :: T),h⟩)) := lR 9
abbrev yS259 := fun (a : List AV) (b : Bool) (c : List Opn) d e (f : Opn) g (h : Typ) (i : Bool) (j : List Dg) (k : Hp) (l : Nat) => mkS 144 [vv 0 (.ptr 0 0),(3,.lp 3 0),(4,.val (.vs 2 false a) .own),(6,.lp 6 0),vv 20 (.vs 4 b (c.map Opn.av)),vi 21 d,vi 22 e,(53,.lp 6 2),vv 54 (.vs 6 f.tgB (stms f.body)),vv 55 g] [(3,⟨(Typ.cs h),[]⟩),(6,⟨(Opn.cs f),[]⟩)] ((0,⟨[(.vs 2 i (j.map Dg.av))],[0]⟩) :: k) l
theorem p48_14 {c b i d e a g} {T : Hp} {k : Nat} {f : Typ} {h : List Dg} : LM C o 48 qS11 4 (yS256 g c i d e a (.tuple []) f ((0,⟨[(.vs 2 b (h.map Dg.av))],[0]⟩) :: T) k) (cl0 35 [(.vs 6 a.tgB (stms a.body))] fun j => .br (AV.pure j.v)
(.mid 0 qS14 3 (yS259 g c i d e a j.v f b h T k)) .none) := lM 2
abbrev yS260 := fun (a : List AV) (b : Bool) (c : List Opn) d e (f : Opn) g (h : Typ) i (j : Nat) => mkS 144 [vv 0 (.ptr 0 0),(3,.lp 3 0),(4,.val (.vs 2 false a) .own),(6,.lp 6 0),vv 20 (.vs 4 b (c.map Opn.av)),vi 21 d,vi 22 e,vb 57 true,vv 58 (.ptr 0 0),(59,.lp 6 3),vi 60 f.at_,vv 61 g] [(3,⟨(Typ.cs h),[]⟩),(6,⟨(Opn.cs f),[]⟩)] i j
abbrev yS261 := fun (a : List AV) (b : Bool) (c : List Opn) d (e : Int) (f : Typ) (g : Bool) (h : List Dg) (i : Hp) (j : Nat) => mkS 144 [vv 0 (.ptr 0 0),(3,.lp 3 0),(4,.val (.vs 2 false a) .own),vv 20 (.vs 4 b (c.map Opn.av)),vi 21 d,vi 22 (w64 (e + 1))] [(3,⟨(Typ.cs f),[]⟩)] ((0,⟨[(.vs 2 g (h.map Dg.av))],[0]⟩) :: i) j
theorem p48_15 {c l m j d e n i a g} {T : Hp} {p : Nat} {b : Bool} {f : Typ} {h : List Dg} : LM C o 48 qS12 3 (yS257 g c j d e a (.agg [(i6 n),(i6 i),(.bool l),(.bool m)]) f b h T p) (.br (decide (4 < i))
(.call 84 [(.ptr 0 0),(i6 a.at_),(i6 3)] ((0,⟨[(.vs 2 b (h.map Dg.av))],[0]⟩) :: T) p fun k =>
(.mid 3 qS15 4 (yS260 g c j d e a k.v f k.H k.nx)))
(.run 0 qS0 (yS261 g c j d e f b h T p))) := lM 5
abbrev yS262 := fun (a : Bool) (b : List Idx) c d (e : Typ) (f : Idx) g (h : Bool) (i : List Dg) (j : Hp) (k : Nat) => mkS 144 [vv 0 (.ptr 0 0),(3,.lp 3 0),(12,.lp 12 0),vv 110 (.vs 2 a (b.map Idx.av)),vi 111 c,vi 112 d,vv 117 (.agg (Typ.cs e)),(118,.lp 12 0),vt 119 f.field,vv 120 g] [(3,⟨(Typ.cs e),[]⟩),(12,⟨(Idx.cs f),[]⟩)] ((0,⟨[(.vs 2 h (i.map Dg.av))],[0]⟩) :: j) k
theorem p48_16 {c e f g b} {T : Hp} {j : Nat} {d : Bool} {a : Typ} {h : List Dg} : LM C o 48 qS13 1 (yS258 c e f g (Idx.cs b) a d h T j) (cl0 94 [(.agg (Typ.cs a)),(.str b.field)] fun i => .br (AV.pure i.v)
(.mid 0 qS16 4 (yS262 c e f g a b i.v d h T j)) .none) := lM 2
abbrev yS263 := fun (a : List AV) (b : Bool) (c : List Opn) d e (f : Opn) g (h : Typ) i (j : Nat) => mkS 144 [vv 0 (.ptr 0 0),(3,.lp 3 0),(4,.val (.vs 2 false a) .own),(6,.lp 6 0),vv 20 (.vs 4 b (c.map Opn.av)),vi 21 d,vi 22 e,vb 57 true,vv 58 (.ptr 0 0),(59,.lp 6 3),vi 60 f.at_,vv 61 g] [(3,⟨(Typ.cs h),[]⟩),(6,⟨(Opn.cs f),[]⟩)] i j
theorem p48_17 {c l m j d e n i a g} {T : Hp} {p : Nat} {b : Bool} {f : Typ} {h : List Dg} : LM C o 48 qS14 3 (yS259 g c j d e a (.agg [(i6 n),(i6 i),(.bool l),(.bool m)]) f b h T p) (.br (decide (4 < i))
(.call 84 [(.ptr 0 0),(i6 a.at_),(i6 3)] ((0,⟨[(.vs 2 b (h.map Dg.av))],[0]⟩) :: T) p fun k =>
(.mid 3 qS17 4 (yS263 g c j d e a k.v f k.H k.nx)))
(.run 0 qS0 (yS261 g c j d e f b h T p))) := lM 5
theorem p48_18 {b a i c d f g} {T : Hp} {j : Nat} {e : Typ} {h : List Dg} : LM C o 48 qS15 4 (yS260 g b i c d f (.tuple []) e ((0,⟨[(.vs 2 a (h.map Dg.av))],[0]⟩) :: T) j) (.run 0 qS0 (yS261 g b i c d e a h T j)) := lM 3
abbrev yS264 := fun (a : Bool) (b : List Idx) c d (e : Idx) f (g : Typ) (h : Fld) i (j : Nat) => mkS 144 [vv 0 (.ptr 0 0),(3,.lp 3 0),(12,.lp 12 0),(13,.lp 13 0),vv 110 (.vs 2 a (b.map Idx.av)),vi 111 c,vi 112 d,vb 123 true,vv 126 (.ptr 0 0),(127,.lp 12 1),vi 128 e.at_,vv 129 f] [(3,⟨(Typ.cs g),[]⟩),(12,⟨(Idx.cs e),[]⟩),(13,⟨(Fld.cs h),[]⟩)] i j
abbrev yS265 := fun (a : Bool) (b : List Idx) c d (e : Idx) f (g : Typ) h (i : Nat) => mkS 144 [vv 0 (.ptr 0 0),(3,.lp 3 0),(12,.lp 12 0),vv 110 (.vs 2 a (b.map Idx.av)),vi 111 c,vi 112 d,vb 130 true,vv 139 (.ptr 0 0),(140,.lp 12 1),vi 141 e.at_,vv 142 f] [(3,⟨(Typ.cs g),[]⟩),(12,⟨(Idx.cs e),[]⟩)] h i
theorem p48_19 {b j e f g d a i} {T : Hp} {m : Nat} {c : Bool} {h : List Dg} : LM C o 48 qS16 4 (yS262 b e f g d a (.tuple [(.agg (Fld.cs i)),(.bool j)]) c h T m) (.br (!j)
(.call 84 [(.ptr 0 0),(i6 a.at_),(i6 6)] ((0,⟨[(.vs 2 c (h.map Dg.av))],[0]⟩) :: T) m fun k =>
(.mid 7 qS18 4 (yS264 b e f g a k.v d i k.H k.nx)))
(.br (!(decide (i.kind = 1)))
(.br (!(decide (i.kind = 4)))
(.call 84 [(.ptr 0 0),(i6 a.at_),(i6 10)] ((0,⟨[(.vs 2 c (h.map Dg.av))],[0]⟩) :: T) m fun l =>
(.mid 4 qS19 4 (yS265 b e f g a l.v d l.H l.nx)))
(.run 0 qS1 (ztl b (e.map Idx.av) f (w64 (g + 1)) d c h T m)))
(.run 0 qS1 (ztl b (e.map Idx.av) f (w64 (g + 1)) d c h T m)))) := lM 12
theorem p48_20 {b a i c d f g} {T : Hp} {j : Nat} {e : Typ} {h : List Dg} : LM C o 48 qS17 4 (yS263 g b i c d f (.tuple []) e ((0,⟨[(.vs 2 a (h.map Dg.av))],[0]⟩) :: T) j) (.run 0 qS0 (yS261 g b i c d e a h T j)) := lM 3
theorem p48_21 {a b c d e g} {T : Hp} {j : Nat} {f : Typ} {i : Fld} {h : List Dg} : LM C o 48 qS18 4 (yS264 a c d e g (.tuple []) f i ((0,⟨[(.vs 2 b (h.map Dg.av))],[0]⟩) :: T) j) (.run 0 qS1 (ztl a (c.map Idx.av) d (w64 (e + 1)) f b h T j)) := lM 4
theorem p48_22 {a b c d e g} {T : Hp} {i : Nat} {f : Typ} {h : List Dg} : LM C o 48 qS19 4 (yS265 a c d e g (.tuple []) f ((0,⟨[(.vs 2 b (h.map Dg.av))],[0]⟩) :: T) i) (.run 0 qS1 (ztl a (c.map Idx.av) d (w64 (e + 1)) f b h T i)) := lM 4
end
section
open Go Go.Vai
attribute [local irreducible] goTo zao mkS
set_option maxHeartbeats 40000000
def zl5 (t : Typ) (x : Idx) : List Dg := match fldF t.fields x.field with
 | none=>[⟨x.at_,6⟩]
 | some f=>if f.kind ≠ 1∧f.kind ≠ 4 then [⟨x.at_,10⟩] else []
def zgv (t : Typ) : List Idx→List Dg
 | []=>[]
 | x :: r=>zl5 t x ++ zgv t r
variable {C : Nat→Oracle} (hC : Ext C)
include hC
theorem w48_idx (t : Typ) (hF : t.fields.length ≤ 1000000) (T : Hp) (nx : Nat) (tL : Bool) (L : List Idx) (hL : L.length ≤ 400000) : ∀ (r : List Idx) (i : Nat) (tg : Bool) (l : List Dg),L.drop i = r→i ≤ L.length→l.length + r.length ≤ 1000000 →
  Was (RL C 48 Q6q (mkS 144 [(0,.val (.ptr 0 0) .no),(3,.lp 3 0),(110,.val (.vs 2 tL (List.map Idx.av L)) .no),(111,.val (.int .i64 (L.length : Int)) .no),(112,.val (.int .i64 (i : Int)) .no)] [(3,⟨(Typ.cs t),[]⟩)] (hD tg l T) nx))
   (QD (l ++ zgv t r) T nx):=by
 intro r
 induction r with
 | nil =>
  intro i tg l hi hil hb;have := zal _ _ hil hi;refine exW (fun o=>p48_13) ?_;exact .bF (by omega) (.mk ⟨tg,by rw [zgv,List.append_nil]⟩)
 | cons x r ih =>
  intro i tg l hi hil hb;obtain ⟨h1,h2,h3⟩ := zat _ _ hi;rw [lnC] at hb;have hw := wi64 h3 (by omega);have go : ∀ tg' (d : List Dg),d.length ≤ 1→d = zl5 t x→Was (RL C 48 Q6q (mkS 144 [(0,.val (.ptr 0 0) .no),(3,.lp 3 0),(110,.val (.vs 2 tL (List.map Idx.av L)) .no),(111,.val (.int .i64 (L.length : Int)) .no),(112,.val (.int .i64 ((i + 1 : Nat) : Int)) .no)] [(3,⟨(Typ.cs t),[]⟩)] (hD tg' (l ++ d) T) nx))
   (QD (l ++ zgv t (x :: r)) T nx):=by
   intro tg' d hd e;rw [zgv,← List.append_assoc,← e];exact ih (i + 1) tg' (l ++ d) h2 (by omega) (by rw [lnA]; omega)
  refine exW (fun o=>p48_13) ?_;simp only [Tr.val,lnM,itN,zan,h1,omS,obS];refine .bT (by omega) (.bT (by omega) (.bT (by omega) ?_));refine exW (fun o=>p48_16) ?_;simp only [Tr.val,AV.pure,za3,zaf,za6,zah,za9,zab,zag,za7,zac,zaa,zae,za8,za1,za0];refine .call (w94 hC t hF x.field) ?_;rintro o e;cases hf : fldF t.fields x.field with
  | none =>
   rw [hf] at e;simp only [e,fOut,AV.pure,za3,zhk,za0];refine exW (fun o=>p48_19) ?_;refine .brn rfl ?_;refine .call (w84 hC T nx tg l (by omega) _ _) ?_;rintro o ⟨t0,rfl⟩;refine exW (fun o=>p48_21) ?_;show Was (RL C 48 _ _) _;rw [hw];exact go t0 _ (Nat.le_refl 1) (by unfold zl5; rw [hf])
  | some f =>
   rw [hf] at e;simp only [e,fOut,AV.pure,za3,zhk,za0];refine exW (fun o=>p48_19) ?_;refine .brf rfl ?_;refine Was.ndec (fun k1=>Was.ndec (fun k4=>?_) (fun k4=>?_)) (fun k1=>?_)
   ·refine .call (w84 hC T nx tg l (by omega) _ _) ?_;rintro o ⟨t0,rfl⟩;refine exW (fun o=>p48_22) ?_;show Was (RL C 48 _ _) _;rw [hw];exact go t0 _ (Nat.le_refl 1) (by unfold zl5; rw [hf]; exact (if_pos ⟨k1,k4⟩).symm)
   ·have := go tg [] (Nat.zero_le _) (by unfold zl5; rw [hf]; exact (if_neg (fun h=>h.2 k4)).symm);rw [List.append_nil] at this;show Was (RL C 48 _ _) _;rw [hw];exact this
   ·have := go tg [] (Nat.zero_le _) (by unfold zl5; rw [hf]; exact (if_neg (fun h=>h.1 k1)).symm);rw [List.append_nil] at this;show Was (RL C 48 _ _) _;rw [hw];exact this
end
section
open Go Go.Vai
attribute [local irreducible] goTo zao mkS
set_option maxHeartbeats 40000000
theorem zc5 : ∀ (r : List Nm) (ks : List (List UInt8)),(dupD ks r).length ≤ r.length
 | [],_=>Nat.le_refl _
 | x :: r,ks=>by
  rw [dupD,lnA,lnC];have h1 := zc5 r (addK x.name ks);have h2 := zgw (p := x.name ∈ ks) ⟨x.at_,5⟩;omega
def nmP (p : Par) : Nm := ⟨p.name,p.at_⟩
def nmX (x : Idx) : Nm := ⟨x.field,x.at_⟩
def nmY (y : Qry) : Nm := ⟨y.name,y.at_⟩
def scY (t : Typ) (y : Qry) : Sc := { t := t,tg := y.tgP,ps := y.params,q := true }
def qryD (t : Typ) (y : Qry) : List Dg := dupD [] (y.params.map nmP) ++ (tyE (scY t y) y.res).2
def zhy (t : Typ) : List Qry→List Dg
 | []=>[]
 | y :: r=>qryD t y ++ zhy t r
def qryW (t : Typ) : List Qry→Nat
 | []=>0
 | y :: r=>y.params.length + (tyE (scY t y) y.res).2.length + qryW t r
structure WfY (y : Qry) : Prop where
 wf : WfE y.res
 sz : y.res.sz ≤ 1000000
 pl : y.params.length ≤ 400000
variable {C : Nat→Oracle} (hC : Ext C)
include hC
theorem w48_qry (t : Typ) (hF : t.fields.length ≤ 1000000) (hI : t.idxs.length ≤ 400000) (T : Hp) (nx : Nat) (tL : Bool) (L : List Qry) (hL : L.length ≤ 400000) : ∀ (r : List Qry) (i : Nat) (tg : Bool) (l : List Dg) (ct : Bool) (cs : List Nm),L.drop i = r→i ≤ L.length→(∀ y ∈ r,WfY y)→cs.length + r.length ≤ 400000→l.length + qryW t r + (cs.length + r.length) + 2 * t.idxs.length ≤ 1000000 →
  Was (RL C 48 Q3w (mkS 144 [(0,.val (.ptr 0 0) .no),(3,.lp 3 0),(4,.val (.vs 2 ct (cs.map Nm.av)) .own),(64,.val (.vs 8 tL (List.map Qry.av L)) .no),(65,.val (.int .i64 (L.length : Int)) .no),(66,.val (.int .i64 (i : Int)) .no)] [(3,⟨(Typ.cs t),[]⟩)] (hD tg l T) nx))
   (QD (l ++ zhy t r ++ dupD [] (cs ++ r.map nmY) ++ dupD [] (t.idxs.map nmX) ++ zgv t t.idxs) T nx):=by
 intro r
 induction r with
 | nil =>
  intro i tg l ct cs hi hil hr hc hb;have := zal _ _ hil hi;rw [lnN] at hb hc;refine exW (fun o=>p48_4) ?_;refine .bF (by omega) ?_;refine .call (w90 hC T nx ct cs (by omega) tg l (by omega)) ?_;rintro o ⟨t1,rfl⟩;have d1 := zc5 (cs.map fun x=>⟨x.name,x.at_⟩) [];rw [lnM] at d1;refine exW (fun o=>p48_7) ?_;refine .call (w92 hC T nx t.tgI t.idxs hI t1 _ (by rw [lnA]; omega)) ?_;rintro o ⟨t2,rfl⟩;have d2 := zc5 (t.idxs.map fun x=>⟨x.field,x.at_⟩) [];rw [lnM] at d2;refine exW (fun o=>p48_10) ?_;rw [lnM];have h := w48_idx hC t hF T nx t.tgI t.idxs hI t.idxs 0 t2 (l ++ dupD [] (cs.map fun x=>⟨x.name,x.at_⟩) ++ dupD [] (t.idxs.map fun x=>⟨x.field,x.at_⟩)) rfl (Nat.zero_le _) (by simp only [lnA]; omega);rw [zhy,List.append_nil,List.map_nil,List.append_nil];show Was (RL C 48 _ _) _;rw [show cs.map (fun x=>(⟨x.name,x.at_⟩ : Nm)) = cs from List.map_id cs] at h ⊢;exact h
 | cons y r ih =>
  intro i tg l ct cs hi hil hr hc hb;obtain ⟨h1,h2,h3⟩ := zat _ _ hi;obtain ⟨y1,y2,y3⟩ := hr y mcS;rw [lnC] at hb hc;rw [qryW] at hb;have hw := wi64 h3 (by omega);refine exW (fun o=>p48_4) ?_;simp only [Tr.val,lnM,itN,zan,h1,omS,obS,Qry.av_cs,zak];refine .bT (by omega) (.bT (by omega) (.bT (by omega) ?_));refine exW (fun o=>p48_6) ?_;simp only [Tr.val,lnM];refine .brn (zad (by omega)) (.brn (zad (by omega)) ?_);refine .call (w87 hC T nx y.tgP y.params y3 tg l (by omega)) ?_;rintro o ⟨t1,rfl⟩;have d1 := zc5 (y.params.map fun x=>⟨x.name,x.at_⟩) [];rw [lnM] at d1;refine exW (fun o=>p48_9) ?_;refine .brn (by simp only [AV.pure,za3,za9,za6,zac,zwx,zvf,zvo,za0]) ?_;refine .call (w52 hC (scY t y) hF (by show y.params.length ≤ 1000000; omega) y.res y1 y2) ?_;rintro o ⟨t2,e⟩;simp only [e,AV.pure,za3,zab,za0];refine exW (fun o=>p48_12) ?_;simp only [Tr.val,lnM];refine .brn (zad (by rw [lnA]; omega)) (.brn (zad (by rw [lnA]; omega)) ?_);rw [ziz,hw,show cs.map Nm.av ++ [.agg [.str y.name,.int .i64 y.at_]] = (cs ++ [nmY y]).map Nm.av from (mpA (f := Nm.av) (l₁ := cs) (l₂ := [nmY y])).symm];have h := ih (i + 1) false (l ++ dupD [] (y.params.map nmP) ++ (tyE (scY t y) y.res).2) false (cs ++ [nmY y]) h2 (by omega) (fun z hz=>hr z (mcM _ hz)) (by rw [lnA,lnC,lnN]; omega)
   (by
    have : (dupD [] (y.params.map nmP)).length ≤ y.params.length := d1;simp only [lnA,lnC,lnN]
    omega)
  rw [zhy,qryD,List.map_cons];rw [List.append_assoc cs,List.singleton_append] at h;rw [← List.append_assoc,← List.append_assoc];exact h
end
section
open Go Go.Vai
attribute [local irreducible] goTo zao mkS
theorem wrapu64 {x : Int} (h : 0 ≤ x) (h2 : x < 18446744073709551616) : IntKind.wrap .u64 x = x:=by
 simp [IntKind.wrap,IntKind.bits,IntKind.signed];omega
theorem zo1 (x : Int) : 0 ≤ IntKind.wrap .u64 x∧IntKind.wrap .u64 x < 18446744073709551616:=by
 simp [IntKind.wrap,IntKind.bits,IntKind.signed];omega
theorem zgx (y : Int) : zbz [.int .u8 y] = some [UInt8.ofNat y.toNat] := rfl
variable {C : Nat→Oracle} (hC : Ext C)
theorem ztf (b i : Int) (hb : 1 ≤ b) (hb2 : b ≤ 1000) (hi : i ≤ 1000) : ∀ (m : Nat) (k x : Int),(i - k).toNat = m→0 ≤ k→0 ≤ x→x ≤ 1099511627776 →
  Was (RL C 77 Q0i (mkS 22 [(1,.val (.int .i64 b) .no),(2,.val (.int .i64 i) .no),(7,.val (.int .i64 x) .no),(8,.val (.int .i64 k) .no)] [] Hp.none 0)) (QI b):=by
 intro m
 induction m with
 | zero =>
  intro k x hm hk hx hx2;refine exW (fun o=>p77_2) ?_;simp only [Tr.val];exact .bF (by omega) (.bF (by omega) (.mk ⟨_,rfl,Int.tmod_nonneg _ hx,Int.tmod_lt_of_pos _ (by omega)⟩))
 | succ m ih =>
  intro k x hm hk hx hx2;refine exW (fun o=>p77_2) ?_;simp only [Tr.val];have h1 : 0 ≤ Int.tdiv x b := Int.tdiv_nonneg hx (by omega);have h2 : Int.tdiv x b ≤ x := Int.tdiv_le_self _ hx;refine .bT (by omega) (.bF (by omega) ?_);rw [zb1 (x := k + 1) (by omega) (by omega),zb1 (by omega) (by omega)];exact ih (k + 1) _ (by omega) (by omega) h1 (by omega)
include hC
theorem w77 (n b i : Int) (hb : 1 ≤ b) (hb2 : b ≤ 1000) (hi : i ≤ 1000) : Was (calL C 77 [.int .i64 n,.int .i64 b,.int .i64 i] Hp.none 0) (QI b):=by
 refine exW (fun o=>p77_c hC) (exW (fun o=>p77_0) ?_);simp only [Tr.val,za3,AV.pure,za0];refine .call (w22 hC n _ (by decide) (by decide)) ?_;rintro o ⟨x,e,h1,h2⟩;simp only [e,AV.pure,za0];refine exW (fun o=>p77_1) ?_;exact ztf b i hb hb2 hi _ 0 x rfl (by decide) h1 (by omega)
theorem w67 : ∀ (k : Nat) (x : Int),0 ≤ x→x < 18446744073709551616→x < 10 ^ (k + 1)→k ≤ 30→Was (calL C 67 [.int .u64 x] Hp.none 0) (QS (k + 1))
 | 0,x,h0,h1,h2,hk=>by
  have h2 : x < 10 := by simpa using h2
  refine exW (fun o=>p67_c hC) (exW (fun o=>p67_0) ?_);simp only [Tr.val,zgx,obS];exact .bT (by omega) (.mk ⟨_,rfl,by simp⟩)
 | k + 1,x,h0,h1,h2,hk=>by
  refine exW (fun o=>p67_c hC) (exW (fun o=>p67_0) ?_);simp only [Tr.val,zgx,obS,za3,AV.pure,za0];refine .dec (fun h=>.mk ⟨_,rfl,by simp⟩) fun h=>?_;have h3 : 0 ≤ Int.tdiv x 10 := Int.tdiv_nonneg h0 (by omega);have h4 : Int.tdiv x 10 ≤ x := Int.tdiv_le_self _ h0;have h5 : Int.tdiv x 10 < 10 ^ (k + 1):=by
   rw [Int.tdiv_eq_ediv_of_nonneg h0];have : (10 : Int) ^ (k + 1 + 1) = 10 ^ (k + 1) * 10 := Int.pow_succ _ _;omega
  rw [wrapu64 h3 (by omega)];refine .call (w67 k _ h3 (by omega) h5 (by omega)) ?_;rintro o ⟨s,e,hs⟩;simp only [e,AV.pure,za0];refine exW (fun o=>p67_1) ?_;simp only [Tr.val,zgx,obS];exact .bL (by simp; omega) (.mk ⟨_,rfl,by simp; omega⟩)
theorem w29 (x : Int) : Was (calL C 29 [.int .i64 x] Hp.none 0) (QS 21):=by
 refine exW (fun o=>p29_c hC) (exW (fun o=>p29_0) ?_);simp only [Tr.val,za3,AV.pure,za0];have hr : ∀ y : Int,Was (calL C 67 [.int .u64 (IntKind.wrap .u64 y)] Hp.none 0) (QS 20) := fun y=>by
  obtain ⟨h1,h2⟩ := zo1 y;have h3 : (10 : Int) ^ (19 + 1) = 100000000000000000000 := rfl;exact w67 hC 19 _ h1 h2 (by rw [h3]; omega) (by decide)
 refine .dec (fun h=>?_) fun h=>?_
 ·refine .call (hr _) ?_;rintro o ⟨s,e,hs⟩;simp only [e,AV.pure,za0];refine exW (fun o=>p29_1) ?_;exact .bL (by omega) (.mk ⟨_,rfl,by simp; omega⟩)
 ·refine .call (hr _) ?_;rintro o ⟨s,e,hs⟩;simp only [e,AV.pure,za0];refine exW (fun o=>p29_2) ?_;exact .mk ⟨_,rfl,by omega⟩
omit hC
theorem zm1 (s : List UInt8) (hs : s.length ≤ 100000) : ∀ (r : List UInt8) (i : Nat) (acc : List UInt8) (tg : Bool),s.drop i = r→i ≤ s.length→acc.length ≤ 1 + 2 * i →
  Was (RL C 78 Q0i (mkS 35 [(0,.val (.str s) .no),(3,.val (.vs 1 tg (acc.map zbq)) .own),(4,.val (.int .i64 (i : Int)) .no)] [] Hp.none 0)) (QS (2 + 2 * s.length)):=by
 have one : ∀ x : UInt8,[AV.int .u8 ((x.toNat : Nat) : Int)] = [x].map zbq := fun _=>rfl;have e34 : [AV.int .u8 34] = [(34 : UInt8)].map zbq := rfl;have e92 : [AV.int .u8 92] = [(92 : UInt8)].map zbq := rfl;intro r
 induction r with
 | nil =>
  intro i acc tg hi hil ha;have := zal _ _ hil hi;refine exW (fun o=>p78_2) ?_;simp only [Tr.val,lnM,itN];refine .bF (by omega) (.brn (zad (by omega)) (.brn (zad (by omega)) ?_));rw [e34,← mpA,zk6];exact .mk ⟨_,rfl,by simp; omega⟩
 | cons c r ih =>
  intro i acc tg hi hil ha;obtain ⟨h1,h2,h3⟩ := zat _ _ hi;refine exW (fun o=>p78_2) ?_;simp only [Tr.val,lnM,itN,h1,obS];rw [zb1 (by omega) (by omega),show ((i : Int) + 1) = ((i + 1 : Nat) : Int) by omega];simp only [e92,one,← mpA,lnM];have two : Was (RL C 78 Q0i (mkS 35 [(0,.val (.str s) .no),(3,.val (.vs 1 false (((acc ++ [92]) ++ [c]).map zbq)) .own),(4,.val (.int .i64 ((i + 1 : Nat) : Int)) .no)] [] Hp.none 0)) (QS (2 + 2 * s.length)) := ih (i + 1) _ false h2 (by omega) (by simp; omega);have onee : Was (RL C 78 Q0i (mkS 35 [(0,.val (.str s) .no),(3,.val (.vs 1 false ((acc ++ [c]).map zbq)) .own),(4,.val (.int .i64 ((i + 1 : Nat) : Int)) .no)] [] Hp.none 0)) (QS (2 + 2 * s.length)) := ih (i + 1) _ false h2 (by omega) (by simp; omega);refine .bT (by omega) (.bT (by omega) (.dec (fun h=>?_) fun h=>?_))
  ·refine .brn (zad (by omega)) (.brn (zad (by omega)) (.bT (by omega) (.brn (zad (by simp; omega)) (.brn (zad (by simp; omega)) ?_))));exact two
  ·refine .bT (by omega) (.dec (fun h=>?_) fun h=>?_)
   ·refine .brn (zad (by omega)) (.brn (zad (by omega)) (.bT (by omega) (.brn (zad (by simp; omega)) (.brn (zad (by simp; omega)) ?_))));exact two
   ·refine .bT (by omega) (.brn (zad (by omega)) (.brn (zad (by omega)) ?_));exact onee
include hC
theorem w78 (s : List UInt8) (hs : s.length ≤ 100000) : Was (calL C 78 [.str s] Hp.none 0) (QS (2 + 2 * s.length)):=by
 have one : ∀ x : UInt8,[AV.int .u8 ((x.toNat : Nat) : Int)] = [x].map zbq := fun _=>rfl;have e34 : [AV.int .u8 34] = [(34 : UInt8)].map zbq := rfl;have e92 : [AV.int .u8 92] = [(92 : UInt8)].map zbq := rfl;refine exW (fun o=>p78_c hC) (exW (fun o=>p78_0) ?_);simp only [Tr.val];refine exW (fun o=>p78_1) ?_;cases hr : s with
 | nil =>
  refine .bF (by simp) (.brn rfl (.brn rfl (.brn rfl ?_)));exact .mk ⟨_,rfl,by simp⟩
 | cons c r =>
  rw [← hr];have hd : s.drop 0 = c :: r := by rw [hr]; rfl
  obtain ⟨h1,h2,h3⟩ := zat _ _ hd;simp only [Tr.val,lnC,lnN];rw [show s[Int.toNat 0]? = some c from h1];simp only [obS];rw [show w64 (0 + 1) = ((0 + 1 : Nat) : Int) from rfl];have two : Was (RL C 78 Q0i (mkS 35 [(0,.val (.str s) .no),(3,.val (.vs 1 false (([34,92,c] : List UInt8).map zbq)) .own),(4,.val (.int .i64 ((0 + 1 : Nat) : Int)) .no)] [] Hp.none 0)) (QS (2 + 2 * s.length)) := zm1 s hs r (0 + 1) _ false h2 (by omega) (by simp);have onee : Was (RL C 78 Q0i (mkS 35 [(0,.val (.str s) .no),(3,.val (.vs 1 false (([34,c] : List UInt8).map zbq)) .own),(4,.val (.int .i64 ((0 + 1 : Nat) : Int)) .no)] [] Hp.none 0)) (QS (2 + 2 * s.length)) := zm1 s hs r (0 + 1) _ false h2 (by omega) (by simp);refine .bT (by omega) (.bT (by omega) (.dec (fun h=>?_) fun h=>?_))
  ·exact .brn rfl (.brn rfl (.brn rfl (.bT (by omega) (.brn rfl (.brn rfl two)))))
  ·refine .bT (by omega) (.dec (fun h=>?_) fun h=>?_)
   ·exact .brn rfl (.brn rfl (.brn rfl (.bT (by omega) (.brn rfl (.brn rfl two)))))
   ·exact .bT (by omega) (.brn rfl (.brn rfl (.brn rfl onee)))
end
section
open Go Go.Vai
attribute [local irreducible] goTo zao mkS
variable {C : Nat → Oracle} {o : Out}
abbrev cG0 : AV := (.vs 1 true [(.str [32,43,32]),(.str [32,45,32]),(.str [42]),(.str [32,61,61,32]),(.str [32,60,32]),(.str [62,61]),(.str [32,38,38,32]),(.str [124,124]),(.str [32,104,97,115,32]),(.str [32,33,61,32]),(.str [45])])
abbrev cG1 : AV := (.vs 1 true [(.str [45]),(.str [33]),(.str [45,32]),(.str [33,32])])
abbrev cG2 : AV := (.vs 1 true [(.str []),(.str [97,110,110]),(.str [97,32,98]),(.str [113,34,92])])
abbrev cG3 : AV := (.vs 1 true [(.str [119,114,105,116,101,32]),(.str [97,100,100,32]),(.str [114,97,105,115,101,32]),(.str [105,110,115,101,114,116,32]),(.str [97,100,100,32]),(.str [119,114,105,116,101,32])])
abbrev cG4 : AV := (.vs 1 true [(.str [116,114,117,101]),(.str [102,97,108,115,101])])
abbrev qG0 : List Nat := Q0i
abbrev qG1 : List Nat := Q37
abbrev qG2 : List Nat := Q0r
abbrev qG3 : List Nat := Q47
abbrev qG4 : List Nat := Q3z
abbrev qG5 : List Nat := Q65
abbrev qG6 : List Nat := Q66
abbrev qG7 : List Nat := Q7k
abbrev qG8 : List Nat := Q84
abbrev qG9 : List Nat := Q8k
abbrev qG10 : List Nat := Q8l
abbrev qG11 : List Nat := Q51
abbrev qG12 : List Nat := Q36
abbrev qG13 : List Nat := Q57
abbrev qG14 : List Nat := Q6p
abbrev qG15 : List Nat := Q4i
abbrev qG16 : List Nat := Q5t
abbrev qG17 : List Nat := Q5u
abbrev qG18 : List Nat := Q6d
abbrev qG19 : List Nat := Q74
abbrev qG20 : List Nat := Q7i
abbrev qG21 : List Nat := Q7z
abbrev qG22 : List Nat := Q80
abbrev qG23 : List Nat := Q8b
abbrev qG24 : List Nat := Q7c
abbrev qG25 : List Nat := Q7u
abbrev qG26 : List Nat := Q89
abbrev qG27 : List Nat := Q8a
theorem p38_c (hC : Ext C) {a : Bool} {b : List AV} {c d : Int} : LC C o 38 (mk0 107 [vv 0 (.vs 1 a b),vi 1 c,vi 2 d]) [(.vs 1 a b),(i6 c),(i6 d)] Hp.none 0 := lC hC
abbrev zt8 := fun (a : Bool) (b : List AV) c d e f => mk0 107 [vv 0 (.vs 1 a b),vi 1 c,vi 2 d,vt 8 e,vi 9 f]
theorem p38_0 {a b c d} : LR C o 38 [] (mk0 107 [vv 0 (.vs 1 a b),vi 1 c,vi 2 d]) (.run 0 qG0 (zt8 a b c d [] 0)) := lR 9
theorem p38_1 {a c d e b f} : LR C o 38 qG0 (zt8 a c d e f b) (cl0 34 [(.vs 1 a c),(i6 d)] fun g => .br (AV.pure g.v)
(.mid 0 qG2 4 (mk0 107 [vv 0 (.vs 1 a c),vi 1 d,vi 2 e,vt 8 f,vi 9 b,vi 18 b,vv 19 (.vs 1 a c),vi 20 d,vv 21 g.v])) .none) := lR 3
theorem p38_2 {a d e f b c g} : LM C o 38 qG2 4 (mk0 107 [vv 0 (.vs 1 a d),vi 1 e,vi 2 f,vt 8 g,vi 9 b,vi 18 b,vv 19 (.vs 1 a d),vi 20 e,vi 21 c]) (cl0 22 [(i6 (w64 (Int.tdiv c 32))),(i6 3)] fun h => .br (AV.pure h.v)
(.mid 0 qG2 6 (mk0 107 [vv 0 (.vs 1 a d),vi 1 e,vi 2 f,vt 8 g,vi 9 b,vi 18 b,vv 19 (.vs 1 a d),vi 20 e,vi 21 c,vi 22 (w64 (Int.tdiv c 32)),vv 23 h.v])) .none) := lM 0
theorem p38_3 {a d b g c h e i f} : LM C o 38 qG2 6 (mk0 107 [vv 0 (.vs 1 a d),vi 1 b,vi 2 g,vt 8 f,vi 9 c,vi 18 c,vv 19 (.vs 1 a d),vi 20 b,vi 21 h,vi 22 i,vi 23 e]) (.br (decide (c ≤ e))
(cl0 34 [(.vs 1 a d),(i6 (w64 (b + 1)))] fun j => .br (AV.pure j.v)
(.mid 0 Q1z 4 (mk0 107 [vv 0 (.vs 1 a d),vi 1 b,vi 2 g,vt 8 f,vi 9 c,vb 24 true,vv 27 (.vs 1 a d),vi 28 b,vi 29 (w64 (b + 1)),vv 30 j.v])) .none)
(rt (.tuple [(.str f),(i6 b)]))) := lM 6
theorem p38_4 {a c b f d e g h} : LM C o 38 Q1z 4 (mk0 107 [vv 0 (.vs 1 a c),vi 1 b,vi 2 f,vt 8 h,vi 9 d,vb 24 true,vv 27 (.vs 1 a c),vi 28 b,vi 29 g,vi 30 e]) (cl0 40 [(.vs 1 a c),(i6 (w64 (b + 2))),(i6 3)] fun i => .br (AV.pure i.v)
(.mid 0 Q2a 4 (mk0 107 [vv 0 (.vs 1 a c),vi 1 b,vi 2 f,vt 8 h,vi 9 d,vi 10 e,vv 32 (.vs 1 a c),vi 33 b,vi 34 (w64 (b + 2)),vv 35 i.v])) .none) := lM 2
theorem p38_5 {b f g h c a d i j e} : LM C o 38 Q2a 4 (mk0 107 [vv 0 (.vs 1 b f),vi 1 g,vi 2 h,vt 8 j,vi 9 c,vi 10 a,vv 32 (.vs 1 b f),vi 33 g,vi 34 i,vv 35 (.tuple [(.str e),(i6 d)])]) (cl0 22 [(i6 a),(i6 9)] fun k => .br (AV.pure k.v)
(.mid 0 qG12 2 (mk0 107 [vv 0 (.vs 1 b f),vi 2 h,vt 8 j,vi 9 c,vi 10 a,vt 11 e,vi 12 d,vi 38 a,vv 39 k.v])) .none) := lM 3
abbrev yS273 := fun (a : Bool) (b : List AV) c d e f g h i j => mkS 107 [vv 0 (.vs 1 a b),vi 2 c,vt 8 d,vi 9 e,vi 10 f,vt 11 g,vi 12 h,vi 13 i,vb 73 true,vt 76 d,vv 77 cG3,vi 78 i,vv 79 (.cptr j)] [] Hp.none 0
abbrev yS274 := fun (a : Bool) (b : List AV) c d e f g h i j k l => mk0 107 [vv 0 (.vs 1 a b),vi 2 c,vt 8 d,vi 9 e,vi 10 f,vt 11 g,vi 12 h,vi 13 i,vb 90 true,vt 97 d,vt 98 j,vi 99 f,vi 100 k,l]
theorem p38_6 {d i f g a e b c h} : LM C o 38 qG12 2 (mk0 107 [vv 0 (.vs 1 d i),vi 2 f,vt 8 c,vi 9 g,vi 10 a,vt 11 h,vi 12 e,vi 38 a,vi 39 b]) (.br (decide (b < 6))
(ixl 6 [(.str [119,114,105,116,101,32]),(.str [97,100,100,32]),(.str [114,97,105,115,101,32]),(.str [105,110,115,101,114,116,32]),(.str [97,100,100,32]),(.str [119,114,105,116,101,32])] b fun m =>
(.mid 4 qG3 4 (yS273 d i f c g a h e b (AV.cells m))))
(.br (decide (b = 6))
(.br (Nat.ble (c.length + 5) 4611686018427387904)
(cl0 37 [(i6 (w64 (Int.tdiv a 9)))] fun j => .br (AV.pure j.v)
(.mid 1 qG11 5 (yS274 d i f c g a h e b (c ++ [109,97,114,107,32]) (w64 (Int.tdiv a 9)) (vv 101 j.v))) .none) .none)
(.br (decide (2 < f))
(.br (Nat.ble (c.length + 5) 4611686018427387904)
(cl0 37 [(i6 (w64 (Int.tdiv a 9)))] fun k => .br (AV.pure k.v)
(.mid 1 qG11 5 (yS274 d i f c g a h e b (c ++ [109,97,114,107,32]) (w64 (Int.tdiv a 9)) (vv 101 k.v))) .none) .none)
(cl0 38 [(.vs 1 d i),(i6 e),(i6 (w64 (f + 1)))] fun l => .br (AV.pure l.v)
(.mid 0 qG13 5 (mk0 107 [vv 0 (.vs 1 d i),vi 2 f,vt 8 c,vi 9 g,vi 10 a,vt 11 h,vi 12 e,vi 13 b,vv 41 (.vs 1 d i),vi 42 e,vi 43 f,vi 44 (w64 (f + 1)),vv 45 l.v,vb 90 false])) .none)))) := lM 9
abbrev yS276 := fun (a : Bool) (b : List AV) c d e f g h i j k l m => mkS 107 [vv 0 (.vs 1 a b),vi 2 c,vt 8 d,vi 9 e,vi 10 f,vt 11 g,vi 12 h,vi 13 i,vb 73 true,vt 76 d,vv 77 cG3,vi 78 i,vv 79 (.cptr [(.str j)]),vt 80 j,vt 81 k,vi 82 f,vi 83 l,m] [] Hp.none 0
theorem p38_7 {e j k f a g c d h b} : LM C o 38 qG3 4 (yS273 e j k d f a h g c [(.str b)]) (.br (Nat.ble (d.length + b.length) 4611686018427387904)
(cl0 37 [(i6 (w64 (Int.tdiv a 9)))] fun i => .br (AV.pure i.v)
(.br (AV.pure i.v)
(.mid 0 qG3 9 (yS276 e j k d f a h g c b (d ++ b) (w64 (Int.tdiv a 9)) (vv 84 i.v))) .none) .none) .none) := lM 0
theorem p38_8 {c g h d e f i j k l a b} : LM C o 38 qG11 5 (yS274 c g h k d e l f i b j (vt 101 a)) (.br (Nat.ble (b.length + a.length) 4611686018427387904)
(.br (Nat.ble ((b ++ a).length + 1) 4611686018427387904)
(.run 0 qG0 (zt8 c g f h ((b ++ a) ++ [59]) (w64 (d + 1)))) .none) .none) := lM 5
theorem p38_9 {b g f h k i j c l d a e} : LM C o 38 qG13 5 (mk0 107 [vv 0 (.vs 1 b g),vi 2 f,vt 8 d,vi 9 h,vi 10 k,vt 11 a,vi 12 i,vi 13 j,vv 41 (.vs 1 b g),vi 42 i,vi 43 f,vi 44 l,vv 45 (.tuple [(.str e),(i6 c)]),vb 90 false]) (.br (Nat.ble (d.length + 3) 4611686018427387904)
(.br (Nat.ble ((d ++ [105,102,32]).length + a.length) 4611686018427387904)
(.br (Nat.ble (((d ++ [105,102,32]) ++ a).length + 2) 4611686018427387904)
(.br (Nat.ble ((((d ++ [105,102,32]) ++ a) ++ [32,123]).length + e.length) 4611686018427387904)
(.br (Nat.ble (((((d ++ [105,102,32]) ++ a) ++ [32,123]) ++ e).length + 1) 4611686018427387904)
(.br (decide (j = 8))
(cl0 38 [(.vs 1 b g),(i6 c),(i6 (w64 (f + 1)))] fun m => .br (AV.pure m.v)
(.mid 4 qG14 5 (mk0 107 [vv 0 (.vs 1 b g),vi 2 f,vt 8 (((((d ++ [105,102,32]) ++ a) ++ [32,123]) ++ e) ++ [125]),vi 9 h,vi 12 c,vb 58 true,vv 60 (.vs 1 b g),vi 61 c,vi 62 f,vi 63 (w64 (f + 1)),vv 64 m.v])) .none)
(.run 0 qG0 (zt8 b g c f (((((d ++ [105,102,32]) ++ a) ++ [32,123]) ++ e) ++ [125]) (w64 (h + 1))))) .none) .none) .none) .none) .none) := lM 13
theorem p38_10 {d j k e f g h l m c i a b} : LM C o 38 qG3 9 (yS276 d j k m e f c g h i b l (vt 84 a)) (.br (Nat.ble (b.length + a.length) 4611686018427387904)
(.br (Nat.ble ((b ++ a).length + 3) 4611686018427387904)
(.br (Nat.ble (((b ++ a) ++ [32,61,32]).length + c.length) 4611686018427387904)
(.br (Nat.ble ((((b ++ a) ++ [32,61,32]) ++ c).length + 2) 4611686018427387904)
(.run 0 qG0 (zt8 d j g k ((((b ++ a) ++ [32,61,32]) ++ c) ++ [59,32]) (w64 (e + 1)))) .none) .none) .none) .none) := lM 5
theorem p38_11 {c g h d e f i b a} : LM C o 38 qG14 5 (mk0 107 [vv 0 (.vs 1 c g),vi 2 h,vt 8 a,vi 9 d,vi 12 e,vb 58 true,vv 60 (.vs 1 c g),vi 61 e,vi 62 h,vi 63 i,vv 64 (.tuple [(.str b),(i6 f)])]) (.br (Nat.ble (a.length + 8) 4611686018427387904)
(.br (Nat.ble ((a ++ [32,101,108,115,101,32,123,32]).length + b.length) 4611686018427387904)
(.br (Nat.ble (((a ++ [32,101,108,115,101,32,123,32]) ++ b).length + 3) 4611686018427387904)
(.run 0 qG0 (zt8 c g f h (((a ++ [32,101,108,115,101,32,123,32]) ++ b) ++ [32,125,10]) (w64 (d + 1)))) .none) .none) .none) := lM 8
theorem p40_c (hC : Ext C) {a : Bool} {b : List AV} {c d : Int} : LC C o 40 (mk0 145 [vv 0 (.vs 1 a b),vi 1 c,vi 2 d]) [(.vs 1 a b),(i6 c),(i6 d)] Hp.none 0 := lC hC
theorem p40_0 {a b c d} : LR C o 40 [] (mk0 145 [vv 0 (.vs 1 a b),vi 1 c,vi 2 d]) (cl0 34 [(.vs 1 a b),(i6 c)] fun e => .br (AV.pure e.v)
(.mid 0 [0,5,0] 3 (mk0 145 [vv 0 (.vs 1 a b),vi 1 c,vi 2 d,vv 19 (.vs 1 a b),vi 20 c,vv 21 e.v])) .none) := lR 4
abbrev yS280 := fun (a : Bool) (b : List AV) c d e f => mk0 145 [vv 0 (.vs 1 a b),vi 1 c,vi 2 d,vi 8 e,vb 30 true,vi 31 e,f]
theorem p40_1 {b c d e a} : LM C o 40 [0,5,0] 3 (mk0 145 [vv 0 (.vs 1 b c),vi 1 d,vi 2 e,vv 19 (.vs 1 b c),vi 20 d,vi 21 a]) (.br (decide (5 < e))
(cl0 37 [(i6 a)] fun f => .br (AV.pure f.v)
(.mid 1 Q0j 2 (yS280 b c d e a (vv 32 f.v))) .none)
(.br (decide ((w64 ((c.length : Int) + 6)) ≤ d))
(cl0 37 [(i6 a)] fun g => .br (AV.pure g.v)
(.mid 1 Q0j 2 (yS280 b c d e a (vv 32 g.v))) .none)
(cl0 22 [(i6 a),(i6 1099511627776)] fun h => .br (AV.pure h.v)
(.mid 0 Q0p 2 (mk0 145 [vv 0 (.vs 1 b c),vi 1 d,vi 2 e,vi 8 a,vb 30 false,vi 35 a,vv 36 h.v])) .none))) := lM 7
theorem p40_2 {d e a f b c} : LM C o 40 Q0j 2 (yS280 d e a f b (vt 32 c)) (rt (.tuple [(.str c),(i6 (w64 (a + 1)))])) := lM 1
theorem p40_3 {b c d e a f} : LM C o 40 Q0p 2 (mk0 145 [vv 0 (.vs 1 b c),vi 1 d,vi 2 e,vi 8 a,vb 30 false,vi 35 a,vi 36 f]) (cl0 22 [(i6 a),(i6 16)] fun g => .br (AV.pure g.v)
(.mid 0 Q18 2 (mk0 145 [vv 0 (.vs 1 b c),vi 1 d,vi 2 e,vi 8 a,vi 9 (w64 (Int.tdiv f 16)),vi 38 a,vv 39 g.v])) .none) := lM 3
abbrev yS290 := fun (a : Bool) (b : List AV) c d e f g h i => mk0 145 [vv 0 (.vs 1 a b),vi 1 c,vi 2 d,vi 9 e,vi 39 f,vb 108 true,vv 114 (.vs 1 a b),vi 115 c,vi 116 g,vi 117 d,vi 118 h,vv 119 i]
abbrev yS291 := fun (a : Bool) (b : List AV) c d e f g h i => mk0 145 [vv 0 (.vs 1 a b),vi 1 c,vi 2 d,vi 9 e,vi 39 f,vb 108 true,vv 114 (.vs 1 a b),vi 115 c,vi 116 g,vi 117 d,vi 118 h,vv 119 i]
abbrev yS292 := fun (a : Bool) (b : List AV) c d e f g h i => mk0 145 [vv 0 (.vs 1 a b),vi 1 c,vi 2 d,vi 9 e,vi 39 f,vb 108 true,vv 114 (.vs 1 a b),vi 115 c,vi 116 g,vi 117 d,vi 118 h,vv 119 i]
theorem p40_4 {a d b c g f e} : LM C o 40 Q18 2 (mk0 145 [vv 0 (.vs 1 a d),vi 1 b,vi 2 c,vi 8 g,vi 9 e,vi 38 g,vi 39 f]) (.br (decide (f = 0))
(cl0 29 [(i6 e)] fun q => .br (AV.pure q.v)
(.mid 32 Q2b 2 (mk0 145 [vv 0 (.vs 1 a d),vi 1 b,vi 2 c,vi 9 e,vi 39 f,vb 40 true,vi 42 e,vv 43 q.v])) .none)
(.br (decide (f = 1))
(cl0 22 [(i6 e),(i6 4)] fun r => .br (AV.pure r.v)
(.mid 29 qG1 3 (mkS 145 [vv 0 (.vs 1 a d),vi 1 b,vi 2 c,vi 9 e,vi 39 f,vb 46 true,vv 48 cG2,vi 49 e,vv 50 r.v] [] Hp.none 0)) .none)
(.br (decide (f = 2))
(cl0 22 [(i6 e),(i6 2)] fun s => .br (AV.pure s.v)
(.mid 26 qG4 3 (mkS 145 [vv 0 (.vs 1 a d),vi 1 b,vi 2 c,vi 9 e,vi 39 f,vb 56 true,vv 58 cG4,vi 59 e,vv 60 s.v] [] Hp.none 0)) .none)
(.br (decide (f = 3))
(cl0 37 [(i6 e)] fun t => .br (AV.pure t.v)
(.mid 23 qG15 2 (mk0 145 [vv 0 (.vs 1 a d),vi 1 b,vi 2 c,vi 9 e,vi 39 f,vb 65 true,vi 67 e,vv 68 t.v])) .none)
(.br (decide (f = 4))
(cl0 40 [(.vs 1 a d),(i6 (w64 (b + 1))),(i6 (w64 (c + 1)))] fun h => .br (AV.pure h.v)
(.mid 17 qG16 6 (mk0 145 [vv 0 (.vs 1 a d),vi 1 b,vi 2 c,vi 9 e,vi 39 f,vb 73 true,vv 77 (.vs 1 a d),vi 78 b,vi 79 (w64 (b + 1)),vi 80 c,vi 81 (w64 (c + 1)),vv 82 h.v])) .none)
(.br (decide (f = 5))
(cl0 40 [(.vs 1 a d),(i6 (w64 (b + 1))),(i6 (w64 (c + 1)))] fun i => .br (AV.pure i.v)
(.mid 17 qG17 6 (mk0 145 [vv 0 (.vs 1 a d),vi 1 b,vi 2 c,vi 9 e,vi 39 f,vb 73 true,vv 77 (.vs 1 a d),vi 78 b,vi 79 (w64 (b + 1)),vi 80 c,vi 81 (w64 (c + 1)),vv 82 i.v])) .none)
(.br (decide (f = 6))
(cl0 40 [(.vs 1 a d),(i6 (w64 (b + 1))),(i6 (w64 (c + 1)))] fun j => .br (AV.pure j.v)
(.mid 14 qG18 6 (mk0 145 [vv 0 (.vs 1 a d),vi 1 b,vi 2 c,vi 9 e,vi 39 f,vb 93 true,vv 96 (.vs 1 a d),vi 97 b,vi 98 (w64 (b + 1)),vi 99 c,vi 100 (w64 (c + 1)),vv 101 j.v])) .none)
(.br (decide (f = 7))
(cl0 40 [(.vs 1 a d),(i6 (w64 (b + 1))),(i6 (w64 (c + 1)))] fun k => .br (AV.pure k.v)
(.mid 8 qG19 6 (yS290 a d b c e f (w64 (b + 1)) (w64 (c + 1)) k.v)) .none)
(.br (decide (f = 8))
(cl0 40 [(.vs 1 a d),(i6 (w64 (b + 1))),(i6 (w64 (c + 1)))] fun l => .br (AV.pure l.v)
(.mid 5 qG20 6 (yS291 a d b c e f (w64 (b + 1)) (w64 (c + 1)) l.v)) .none)
(.br (decide (f = 9))
(cl0 40 [(.vs 1 a d),(i6 (w64 (b + 1))),(i6 (w64 (c + 1)))] fun m => .br (AV.pure m.v)
(.mid 2 qG21 6 (yS292 a d b c e f (w64 (b + 1)) (w64 (c + 1)) m.v)) .none)
(.br (decide (f = 10))
(cl0 40 [(.vs 1 a d),(i6 (w64 (b + 1))),(i6 (w64 (c + 1)))] fun n => .br (AV.pure n.v)
(.mid 2 qG22 6 (mk0 145 [vv 0 (.vs 1 a d),vi 1 b,vi 2 c,vi 9 e,vb 108 true,vv 114 (.vs 1 a d),vi 115 b,vi 116 (w64 (b + 1)),vi 117 c,vi 118 (w64 (c + 1)),vv 119 n.v])) .none)
(cl0 37 [(i6 e)] fun p => .br (AV.pure p.v)
(.mid 0 qG23 2 (mk0 145 [vv 0 (.vs 1 a d),vi 1 b,vi 2 c,vi 9 e,vb 108 false,vi 141 e,vv 142 p.v])) .none)))))))))))) := lM 38
theorem p40_5 {d e a f g b c} : LM C o 40 Q2b 2 (mk0 145 [vv 0 (.vs 1 d e),vi 1 a,vi 2 f,vi 9 b,vi 39 g,vb 40 true,vi 42 b,vt 43 c]) (rt (.tuple [(.str c),(i6 (w64 (a + 1)))])) := lM 1
theorem p40_6 {b d e f g a c} : LM C o 40 qG1 3 (mkS 145 [vv 0 (.vs 1 b d),vi 1 e,vi 2 f,vi 9 a,vi 39 g,vb 46 true,vv 48 cG2,vi 49 a,vi 50 c] [] Hp.none 0) (ixl 4 [(.str []),(.str [97,110,110]),(.str [97,32,98]),(.str [113,34,92])] c fun h =>
(.mid 0 qG1 4 (mkS 145 [vv 0 (.vs 1 b d),vi 1 e,vi 2 f,vi 9 a,vi 39 g,vb 46 true,vv 48 cG2,vi 49 a,vi 50 c,vv 51 (.cptr (AV.cells h))] [] Hp.none 0))) := lM 0
theorem p40_7 {b d e f g a c} : LM C o 40 qG4 3 (mkS 145 [vv 0 (.vs 1 b d),vi 1 e,vi 2 f,vi 9 a,vi 39 g,vb 56 true,vv 58 cG4,vi 59 a,vi 60 c] [] Hp.none 0) (ixl 2 [(.str [116,114,117,101]),(.str [102,97,108,115,101])] c fun h =>
(.mid 0 qG4 4 (mkS 145 [vv 0 (.vs 1 b d),vi 1 e,vi 2 f,vi 9 a,vi 39 g,vb 56 true,vv 58 cG4,vi 59 a,vi 60 c,vv 61 (.cptr (AV.cells h))] [] Hp.none 0))) := lM 0
theorem p40_8 {d e b f g c a} : LM C o 40 qG15 2 (mk0 145 [vv 0 (.vs 1 d e),vi 1 b,vi 2 f,vi 9 c,vi 39 g,vb 65 true,vi 67 c,vt 68 a]) (.br (Nat.ble (5 + a.length) 4611686018427387904)
(.br (Nat.ble (([115,105,122,101,40] ++ a).length + 1) 4611686018427387904)
(rt (.tuple [(.str (([115,105,122,101,40] ++ a) ++ [41])),(i6 (w64 (b + 1)))])) .none) .none) := lM 1
theorem p40_9 {b c d e h a f i j g} : LM C o 40 qG16 6 (mk0 145 [vv 0 (.vs 1 b c),vi 1 d,vi 2 e,vi 9 a,vi 39 h,vb 73 true,vv 77 (.vs 1 b c),vi 78 d,vi 79 i,vi 80 e,vi 81 j,vv 82 (.tuple [(.str g),(i6 f)])]) (cl0 22 [(i6 a),(i6 4)] fun k => .br (AV.pure k.v)
(.mid 0 qG5 3 (mkS 145 [vi 9 a,vt 10 g,vi 11 f,vv 85 cG1,vi 86 a,vv 87 k.v] [] Hp.none 0)) .none) := lM 2
theorem p40_10 {b c d e h a f i j g} : LM C o 40 qG17 6 (mk0 145 [vv 0 (.vs 1 b c),vi 1 d,vi 2 e,vi 9 a,vi 39 h,vb 73 true,vv 77 (.vs 1 b c),vi 78 d,vi 79 i,vi 80 e,vi 81 j,vv 82 (.tuple [(.str g),(i6 f)])]) (cl0 22 [(i6 a),(i6 4)] fun k => .br (AV.pure k.v)
(.mid 0 qG6 3 (mkS 145 [vi 9 a,vt 10 g,vi 11 f,vv 85 cG1,vi 86 a,vv 87 k.v] [] Hp.none 0)) .none) := lM 2
theorem p40_11 {b c d e g h f i j a} : LM C o 40 qG18 6 (mk0 145 [vv 0 (.vs 1 b c),vi 1 d,vi 2 e,vi 9 h,vi 39 g,vb 93 true,vv 96 (.vs 1 b c),vi 97 d,vi 98 i,vi 99 e,vi 100 j,vv 101 (.tuple [(.str a),(i6 f)])]) (.br (Nat.ble (1 + a.length) 4611686018427387904)
(.br (Nat.ble (([40] ++ a).length + 1) 4611686018427387904)
(rt (.tuple [(.str (([40] ++ a) ++ [41])),(i6 f)])) .none) .none) := lM 3
theorem p40_12 {a c e b h f d i j g} : LM C o 40 qG19 6 (yS290 a c e b f h i j (.tuple [(.str g),(i6 d)])) (cl0 40 [(.vs 1 a c),(i6 d),(i6 (w64 (b + 1)))] fun k => .br (AV.pure k.v)
(.mid 0 qG24 5 (mk0 145 [vv 0 (.vs 1 a c),vi 2 b,vi 9 f,vt 14 g,vi 15 d,vv 123 (.vs 1 a c),vi 124 d,vi 125 b,vi 126 (w64 (b + 1)),vv 127 k.v])) .none) := lM 2
theorem p40_13 {a c e b h f d i j g} : LM C o 40 qG20 6 (yS291 a c e b f h i j (.tuple [(.str g),(i6 d)])) (cl0 40 [(.vs 1 a c),(i6 d),(i6 (w64 (b + 1)))] fun k => .br (AV.pure k.v)
(.mid 0 qG25 5 (mk0 145 [vv 0 (.vs 1 a c),vi 2 b,vi 9 f,vt 14 g,vi 15 d,vv 123 (.vs 1 a c),vi 124 d,vi 125 b,vi 126 (w64 (b + 1)),vv 127 k.v])) .none) := lM 2
theorem p40_14 {a c e b h f d i j g} : LM C o 40 qG21 6 (yS292 a c e b f h i j (.tuple [(.str g),(i6 d)])) (cl0 40 [(.vs 1 a c),(i6 d),(i6 (w64 (b + 1)))] fun k => .br (AV.pure k.v)
(.mid 0 qG26 5 (mk0 145 [vv 0 (.vs 1 a c),vi 2 b,vi 9 f,vt 14 g,vi 15 d,vv 123 (.vs 1 a c),vi 124 d,vi 125 b,vi 126 (w64 (b + 1)),vv 127 k.v])) .none) := lM 2
theorem p40_15 {a c e b f d h i g} : LM C o 40 qG22 6 (mk0 145 [vv 0 (.vs 1 a c),vi 1 e,vi 2 b,vi 9 f,vb 108 true,vv 114 (.vs 1 a c),vi 115 e,vi 116 h,vi 117 b,vi 118 i,vv 119 (.tuple [(.str g),(i6 d)])]) (cl0 40 [(.vs 1 a c),(i6 d),(i6 (w64 (b + 1)))] fun j => .br (AV.pure j.v)
(.mid 0 qG27 5 (mk0 145 [vv 0 (.vs 1 a c),vi 2 b,vi 9 f,vt 14 g,vi 15 d,vv 123 (.vs 1 a c),vi 124 d,vi 125 b,vi 126 (w64 (b + 1)),vv 127 j.v])) .none) := lM 2
theorem p40_16 {d e a f b c} : LM C o 40 qG23 2 (mk0 145 [vv 0 (.vs 1 d e),vi 1 a,vi 2 f,vi 9 b,vb 108 false,vi 141 b,vt 142 c]) (rt (.tuple [(.str c),(i6 (w64 (a + 1)))])) := lM 1
abbrev yS303 := fun (a : Bool) (b : List AV) c d e f g h i => mkS 145 [vv 0 (.vs 1 a b),vi 1 c,vi 2 d,vi 9 e,vi 39 f,vb 46 true,vv 48 cG2,vi 49 e,vi 50 g,vv 51 (.cptr [(.str h)]),vt 52 h,i] [] Hp.none 0
theorem p40_17 {c d e f g a h b} : LM C o 40 qG1 4 (mkS 145 [vv 0 (.vs 1 c d),vi 1 e,vi 2 f,vi 9 a,vi 39 g,vb 46 true,vv 48 cG2,vi 49 a,vi 50 h,vv 51 (.cptr [(.str b)])] [] Hp.none 0) (cl0 78 [(.str b)] fun i => .br (AV.pure i.v)
(.mid 0 qG1 6 (yS303 c d e f a g h b (vv 53 i.v))) .none) := lM 0
theorem p40_18 {d e a f g b h c} : LM C o 40 qG4 4 (mkS 145 [vv 0 (.vs 1 d e),vi 1 a,vi 2 f,vi 9 b,vi 39 g,vb 56 true,vv 58 cG4,vi 59 b,vi 60 h,vv 61 (.cptr [(.str c)])] [] Hp.none 0) (rt (.tuple [(.str c),(i6 (w64 (a + 1)))])) := lM 1
abbrev yS304 := fun a b c d e => mkS 145 [vi 9 a,vt 10 b,vi 11 c,vv 85 cG1,vi 86 a,vi 87 d,vv 88 (.cptr e)] [] Hp.none 0
theorem p40_19 {a c b d} : LM C o 40 qG5 3 (mkS 145 [vi 9 a,vt 10 d,vi 11 c,vv 85 cG1,vi 86 a,vi 87 b] [] Hp.none 0) (ixl 4 [(.str [45]),(.str [33]),(.str [45,32]),(.str [33,32])] b fun e =>
(.mid 0 qG5 4 (yS304 a d c b (AV.cells e)))) := lM 0
abbrev yS305 := fun a b c d e => mkS 145 [vi 9 a,vt 10 b,vi 11 c,vv 85 cG1,vi 86 a,vi 87 d,vv 88 (.cptr e)] [] Hp.none 0
theorem p40_20 {a c b d} : LM C o 40 qG6 3 (mkS 145 [vi 9 a,vt 10 d,vi 11 c,vv 85 cG1,vi 86 a,vi 87 b] [] Hp.none 0) (ixl 4 [(.str [45]),(.str [33]),(.str [45,32]),(.str [33,32])] b fun e =>
(.mid 0 qG6 4 (yS305 a d c b (AV.cells e)))) := lM 0
theorem p40_21 {b c d a e f i g h} : LM C o 40 qG24 5 (mk0 145 [vv 0 (.vs 1 b c),vi 2 d,vi 9 a,vt 14 g,vi 15 e,vv 123 (.vs 1 b c),vi 124 e,vi 125 d,vi 126 i,vv 127 (.tuple [(.str h),(i6 f)])]) (cl0 22 [(i6 a),(i6 11)] fun j => .br (AV.pure j.v)
(.mid 0 qG7 3 (mkS 145 [vi 9 a,vt 14 g,vt 16 h,vi 17 f,vv 130 cG0,vi 131 a,vv 132 j.v] [] Hp.none 0)) .none) := lM 2
theorem p40_22 {b c d a e f i g h} : LM C o 40 qG25 5 (mk0 145 [vv 0 (.vs 1 b c),vi 2 d,vi 9 a,vt 14 g,vi 15 e,vv 123 (.vs 1 b c),vi 124 e,vi 125 d,vi 126 i,vv 127 (.tuple [(.str h),(i6 f)])]) (cl0 22 [(i6 a),(i6 11)] fun j => .br (AV.pure j.v)
(.mid 0 qG8 3 (mkS 145 [vi 9 a,vt 14 g,vt 16 h,vi 17 f,vv 130 cG0,vi 131 a,vv 132 j.v] [] Hp.none 0)) .none) := lM 2
theorem p40_23 {b c d a e f i g h} : LM C o 40 qG26 5 (mk0 145 [vv 0 (.vs 1 b c),vi 2 d,vi 9 a,vt 14 g,vi 15 e,vv 123 (.vs 1 b c),vi 124 e,vi 125 d,vi 126 i,vv 127 (.tuple [(.str h),(i6 f)])]) (cl0 22 [(i6 a),(i6 11)] fun j => .br (AV.pure j.v)
(.mid 0 qG9 3 (mkS 145 [vi 9 a,vt 14 g,vt 16 h,vi 17 f,vv 130 cG0,vi 131 a,vv 132 j.v] [] Hp.none 0)) .none) := lM 2
theorem p40_24 {b c d a e f i g h} : LM C o 40 qG27 5 (mk0 145 [vv 0 (.vs 1 b c),vi 2 d,vi 9 a,vt 14 g,vi 15 e,vv 123 (.vs 1 b c),vi 124 e,vi 125 d,vi 126 i,vv 127 (.tuple [(.str h),(i6 f)])]) (cl0 22 [(i6 a),(i6 11)] fun j => .br (AV.pure j.v)
(.mid 0 qG10 3 (mkS 145 [vi 9 a,vt 14 g,vt 16 h,vi 17 f,vv 130 cG0,vi 131 a,vv 132 j.v] [] Hp.none 0)) .none) := lM 2
theorem p40_25 {e f a g h b i c d} : LM C o 40 qG1 6 (yS303 e f a g b h i c (vt 53 d)) (rt (.tuple [(.str d),(i6 (w64 (a + 1)))])) := lM 1
theorem p40_26 {c d e a b} : LM C o 40 qG5 4 (yS304 c a d e [(.str b)]) (.br (Nat.ble (b.length + a.length) 4611686018427387904)
(rt (.tuple [(.str (b ++ a)),(i6 d)])) .none) := lM 1
theorem p40_27 {c d e a b} : LM C o 40 qG6 4 (yS305 c a d e [(.str b)]) (.br (Nat.ble (b.length + a.length) 4611686018427387904)
(rt (.tuple [(.str (b ++ a)),(i6 d)])) .none) := lM 1
abbrev yS310 := fun a b c d e f => mkS 145 [vi 9 a,vt 14 b,vt 16 c,vi 17 d,vv 130 cG0,vi 131 a,vi 132 e,vv 133 (.cptr f)] [] Hp.none 0
theorem p40_28 {a c b d e} : LM C o 40 qG7 3 (mkS 145 [vi 9 a,vt 14 d,vt 16 e,vi 17 c,vv 130 cG0,vi 131 a,vi 132 b] [] Hp.none 0) (ixl 11 [(.str [32,43,32]),(.str [32,45,32]),(.str [42]),(.str [32,61,61,32]),(.str [32,60,32]),(.str [62,61]),(.str [32,38,38,32]),(.str [124,124]),(.str [32,104,97,115,32]),(.str [32,33,61,32]),(.str [45])] b fun f =>
(.mid 0 qG7 4 (yS310 a d e c b (AV.cells f)))) := lM 0
abbrev yS311 := fun a b c d e f => mkS 145 [vi 9 a,vt 14 b,vt 16 c,vi 17 d,vv 130 cG0,vi 131 a,vi 132 e,vv 133 (.cptr f)] [] Hp.none 0
theorem p40_29 {b c a d e} : LM C o 40 qG8 3 (mkS 145 [vi 9 b,vt 14 d,vt 16 e,vi 17 c,vv 130 cG0,vi 131 b,vi 132 a] [] Hp.none 0) (ixl 11 [(.str [32,43,32]),(.str [32,45,32]),(.str [42]),(.str [32,61,61,32]),(.str [32,60,32]),(.str [62,61]),(.str [32,38,38,32]),(.str [124,124]),(.str [32,104,97,115,32]),(.str [32,33,61,32]),(.str [45])] a fun f =>
(.mid 0 qG8 4 (yS311 b d e c a (AV.cells f)))) := lM 0
abbrev yS312 := fun a b c d e f => mkS 145 [vi 9 a,vt 14 b,vt 16 c,vi 17 d,vv 130 cG0,vi 131 a,vi 132 e,vv 133 (.cptr f)] [] Hp.none 0
theorem p40_30 {b c a d e} : LM C o 40 qG9 3 (mkS 145 [vi 9 b,vt 14 d,vt 16 e,vi 17 c,vv 130 cG0,vi 131 b,vi 132 a] [] Hp.none 0) (ixl 11 [(.str [32,43,32]),(.str [32,45,32]),(.str [42]),(.str [32,61,61,32]),(.str [32,60,32]),(.str [62,61]),(.str [32,38,38,32]),(.str [124,124]),(.str [32,104,97,115,32]),(.str [32,33,61,32]),(.str [45])] a fun f =>
(.mid 0 qG9 4 (yS312 b d e c a (AV.cells f)))) := lM 0
abbrev yS313 := fun a b c d e f => mkS 145 [vi 9 a,vt 14 b,vt 16 c,vi 17 d,vv 130 cG0,vi 131 a,vi 132 e,vv 133 (.cptr f)] [] Hp.none 0
theorem p40_31 {b c a d e} : LM C o 40 qG10 3 (mkS 145 [vi 9 b,vt 14 d,vt 16 e,vi 17 c,vv 130 cG0,vi 131 b,vi 132 a] [] Hp.none 0) (ixl 11 [(.str [32,43,32]),(.str [32,45,32]),(.str [42]),(.str [32,61,61,32]),(.str [32,60,32]),(.str [62,61]),(.str [32,38,38,32]),(.str [124,124]),(.str [32,104,97,115,32]),(.str [32,33,61,32]),(.str [45])] a fun f =>
(.mid 0 qG10 4 (yS313 b d e c a (AV.cells f)))) := lM 0
theorem p40_32 {d e f b c a} : LM C o 40 qG7 4 (yS310 d b c e f [(.str a)]) (.br (Nat.ble (b.length + a.length) 4611686018427387904)
(.br (Nat.ble ((b ++ a).length + c.length) 4611686018427387904)
(rt (.tuple [(.str ((b ++ a) ++ c)),(i6 e)])) .none) .none) := lM 3
theorem p40_33 {d e f b c a} : LM C o 40 qG8 4 (yS311 d b c e f [(.str a)]) (.br (Nat.ble (b.length + a.length) 4611686018427387904)
(.br (Nat.ble ((b ++ a).length + c.length) 4611686018427387904)
(rt (.tuple [(.str ((b ++ a) ++ c)),(i6 e)])) .none) .none) := lM 3
theorem p40_34 {d e f b c a} : LM C o 40 qG9 4 (yS312 d b c e f [(.str a)]) (.br (Nat.ble (b.length + a.length) 4611686018427387904)
(.br (Nat.ble ((b ++ a).length + c.length) 4611686018427387904)
(rt (.tuple [(.str ((b ++ a) ++ c)),(i6 e)])) .none) .none) := lM 3
theorem p40_35 {d e f b c a} : LM C o 40 qG10 4 (yS313 d b c e f [(.str a)]) (.br (Nat.ble (b.length + a.length) 4611686018427387904)
(.br (Nat.ble ((b ++ a).length + c.length) 4611686018427387904)
(rt (.tuple [(.str ((b ++ a) ++ c)),(i6 e)])) .none) .none) := lM 3
end
section
open Go Go.Vai
attribute [local irreducible] goTo zao mkS
theorem za4 (l : List Int) : (ints l).length = l.length := lnM _
variable {C : Nat→Oracle} (hC : Ext C)
include hC
theorem zue (n : Int) : ∀ (m : Nat) (i : Int) (s : List UInt8),(5 - i).toNat = m→0 ≤ i→i ≤ 4→s.length ≤ 1 + 30 * i.toNat →
  Was (RL C 39 Q0i (mkS 33 [(0,.val (.int .i64 n) .no),(3,.val (.str s) .no),(4,.val (.int .i64 i) .no)] [] Hp.none 0)) (QS 200):=by
 intro m
 induction m with
 | zero=>intro i s hm h0 h4; omega
 | succ m ih =>
  intro i s hm h0 h4 hs;have w1 : w64 (2 + i) = 2 + i := zb1 (by omega) (by omega);have w2 : w64 (6 + i) = 6 + i := zb1 (by omega) (by omega);have w3 : w64 (i + 1) = i + 1 := zb1 (by omega) (by omega);refine exW (fun o=>p39_1) ?_;simp only [Tr.val,za3,AV.pure,za0]
  repeat' (first
   | refine .bL (by first | omega | (simp only [lnA,lnC,lnN,List.length_drop,List.length_take]; omega)) ?_
   | refine .bT (by omega) ?_
   | refine .bF (by omega) ?_
   | (refine .call (w77 hC _ _ _ (by omega) (by omega) (by omega)) ?_; rintro o ⟨x,e,h1,h2⟩; simp only [e,AV.pure,za0]; clear e)
   | (refine .call (w37 hC _) ?_; rintro o ⟨s,e,h1⟩; simp only [e,AV.pure,za0]; clear e)
   | (refine exW (fun o=>p39_2) ?_; simp only [Tr.val,za3,AV.pure,za0,AV.cells,za1,za4,bnT,bnF,w1,w2,w3])
   | (refine exW (fun o=>p39_3) ?_; simp only [Tr.val,za3,AV.pure,za0,AV.cells,za1,za4,bnT,bnF,w1,w2,w3])
   | (refine exW (fun o=>p39_4) ?_; simp only [Tr.val,za3,AV.pure,za0,AV.cells,za1,za4,bnT,bnF,w1,w2,w3])
   | (refine exW (fun o=>p39_5) ?_; simp only [Tr.val,za3,AV.pure,za0,AV.cells,za1,za4,bnT,bnF,w1,w2,w3])
   | (refine exW (fun o=>p39_6) ?_; simp only [Tr.val,za3,AV.pure,za0,AV.cells,za1,za4,bnT,bnF,w1,w2,w3])
   | (refine exW (fun o=>p39_7) ?_; simp only [Tr.val,za3,AV.pure,za0,AV.cells,za1,za4,bnT,bnF,w1,w2,w3])
   | (refine exW (fun o=>p39_8) ?_; simp only [Tr.val,za3,AV.pure,za0,AV.cells,za1,za4,bnT,bnF,w1,w2,w3])
   | (refine exW (fun o=>p39_9) ?_; simp only [Tr.val,za3,AV.pure,za0,AV.cells,za1,za4,bnT,bnF,w1,w2,w3])
   | (refine exW (fun o=>p39_10) ?_; simp only [Tr.val,za3,AV.pure,za0,AV.cells,za1,za4,bnT,bnF,w1,w2,w3])
   | (refine .nth (B := 20) rfl (by simp only [lnC,lnN]; omega) fun s hs=>?_; simp only [AV.cells])
   | exact .mk ⟨_,rfl,by first | omega | (simp only [lnA,lnC,lnN,List.length_drop,List.length_take]; omega)⟩
   | refine .dec (fun h=>?_) (fun h=>?_)
   | refine .both (fun h=>?_) (fun h=>?_))
  all_goals exact ih _ _ (by omega) (by omega) (by omega) (by simp only [lnA,lnC,lnN]; omega)
theorem w39 (n : Int) : Was (calL C 39 [.int .i64 n] Hp.none 0) (QS 200):=by
 refine exW (fun o=>p39_c hC) (exW (fun o=>p39_0) ?_);exact zue hC n _ 0 [40] rfl (by decide) (by decide) (by decide)
set_option maxHeartbeats 4000000 in
theorem zme (tg : Bool) (l : List Int) (hl : l.length ≤ 1000000) (B : Nat) (hB : B ≤ 100000) (d : Int) (hd : -100 ≤ d∧d ≤ 5) (ih : ∀ i : Int,Was (calL C 40 [.vs 1 tg (ints l),.int .i64 i,.int .i64 (d + 1)] Hp.none 0) (QP B)) (i : Int) :
  Was (calL C 40 [.vs 1 tg (ints l),.int .i64 i,.int .i64 d] Hp.none 0) (QP (2 * B + 50)):=by
 have w1 : w64 (d + 1) = d + 1 := zb1 (by omega) (by omega);refine exW (fun o=>p40_c hC) (exW (fun o=>p40_0) ?_);simp only [Tr.val,za3,AV.pure,za0,za1]
 repeat' (first
  | refine .bL (by first | omega | (simp only [lnA,lnC,lnN,List.length_drop,List.length_take]; omega)) ?_
  | refine .bT (by omega) ?_
  | refine .bF (by omega) ?_
  | (refine .call (w34 hC _ _ (by omega) _) ?_; rintro o ⟨x,e⟩; simp only [e,AV.pure,za0]; clear e)
  | (refine .call (w37 hC _) ?_; rintro o ⟨s,e,h1⟩; simp only [e,AV.pure,za0]; clear e)
  | (refine .call (w22 hC _ _ (by omega) (by omega)) ?_; rintro o ⟨x,e,h1,h2⟩; simp only [e,AV.pure,za0]; clear e)
  | (refine .call (w29 hC _) ?_; rintro o ⟨s,e,h1⟩; simp only [e,AV.pure,za0]; clear e)
  | (refine .call (w78 hC _ (by omega)) ?_; rintro o ⟨s,e,h1⟩; simp only [e,AV.pure,za0]; clear e)
  | (refine .call (ih _) ?_; rintro o ⟨s,x,e,h1⟩; simp only [e,AV.pure,za3,za0]; clear e)
  | (refine exW (fun o=>p40_1) ?_; simp only [Tr.val,za3,AV.pure,za0,AV.cells,za1,za4,bnT,bnF,w1])
  | (refine exW (fun o=>p40_2) ?_; simp only [Tr.val,za3,AV.pure,za0,AV.cells,za1,za4,bnT,bnF,w1])
  | (refine exW (fun o=>p40_3) ?_; simp only [Tr.val,za3,AV.pure,za0,AV.cells,za1,za4,bnT,bnF,w1])
  | (refine exW (fun o=>p40_4) ?_; simp only [Tr.val,za3,AV.pure,za0,AV.cells,za1,za4,bnT,bnF,w1])
  | (refine exW (fun o=>p40_5) ?_; simp only [Tr.val,za3,AV.pure,za0,AV.cells,za1,za4,bnT,bnF,w1])
  | (refine exW (fun o=>p40_6) ?_; simp only [Tr.val,za3,AV.pure,za0,AV.cells,za1,za4,bnT,bnF,w1])
  | (refine exW (fun o=>p40_7) ?_; simp only [Tr.val,za3,AV.pure,za0,AV.cells,za1,za4,bnT,bnF,w1])
  | (refine exW (fun o=>p40_8) ?_; simp only [Tr.val,za3,AV.pure,za0,AV.cells,za1,za4,bnT,bnF,w1])
  | (refine exW (fun o=>p40_9) ?_; simp only [Tr.val,za3,AV.pure,za0,AV.cells,za1,za4,bnT,bnF,w1])
  | (refine exW (fun o=>p40_10) ?_; simp only [Tr.val,za3,AV.pure,za0,AV.cells,za1,za4,bnT,bnF,w1])
  | (refine exW (fun o=>p40_11) ?_; simp only [Tr.val,za3,AV.pure,za0,AV.cells,za1,za4,bnT,bnF,w1])
  | (refine exW (fun o=>p40_12) ?_; simp only [Tr.val,za3,AV.pure,za0,AV.cells,za1,za4,bnT,bnF,w1])
  | (refine exW (fun o=>p40_13) ?_; simp only [Tr.val,za3,AV.pure,za0,AV.cells,za1,za4,bnT,bnF,w1])
  | (refine exW (fun o=>p40_14) ?_; simp only [Tr.val,za3,AV.pure,za0,AV.cells,za1,za4,bnT,bnF,w1])
  | (refine exW (fun o=>p40_15) ?_; simp only [Tr.val,za3,AV.pure,za0,AV.cells,za1,za4,bnT,bnF,w1])
  | (refine exW (fun o=>p40_16) ?_; simp only [Tr.val,za3,AV.pure,za0,AV.cells,za1,za4,bnT,bnF,w1])
  | (refine exW (fun o=>p40_17) ?_; simp only [Tr.val,za3,AV.pure,za0,AV.cells,za1,za4,bnT,bnF,w1])
  | (refine exW (fun o=>p40_18) ?_; simp only [Tr.val,za3,AV.pure,za0,AV.cells,za1,za4,bnT,bnF,w1])
  | (refine exW (fun o=>p40_19) ?_; simp only [Tr.val,za3,AV.pure,za0,AV.cells,za1,za4,bnT,bnF,w1])
  | (refine exW (fun o=>p40_20) ?_; simp only [Tr.val,za3,AV.pure,za0,AV.cells,za1,za4,bnT,bnF,w1])
  | (refine exW (fun o=>p40_21) ?_; simp only [Tr.val,za3,AV.pure,za0,AV.cells,za1,za4,bnT,bnF,w1])
  | (refine exW (fun o=>p40_22) ?_; simp only [Tr.val,za3,AV.pure,za0,AV.cells,za1,za4,bnT,bnF,w1])
  | (refine exW (fun o=>p40_23) ?_; simp only [Tr.val,za3,AV.pure,za0,AV.cells,za1,za4,bnT,bnF,w1])
  | (refine exW (fun o=>p40_24) ?_; simp only [Tr.val,za3,AV.pure,za0,AV.cells,za1,za4,bnT,bnF,w1])
  | (refine exW (fun o=>p40_25) ?_; simp only [Tr.val,za3,AV.pure,za0,AV.cells,za1,za4,bnT,bnF,w1])
  | (refine exW (fun o=>p40_26) ?_; simp only [Tr.val,za3,AV.pure,za0,AV.cells,za1,za4,bnT,bnF,w1])
  | (refine exW (fun o=>p40_27) ?_; simp only [Tr.val,za3,AV.pure,za0,AV.cells,za1,za4,bnT,bnF,w1])
  | (refine exW (fun o=>p40_28) ?_; simp only [Tr.val,za3,AV.pure,za0,AV.cells,za1,za4,bnT,bnF,w1])
  | (refine exW (fun o=>p40_29) ?_; simp only [Tr.val,za3,AV.pure,za0,AV.cells,za1,za4,bnT,bnF,w1])
  | (refine exW (fun o=>p40_30) ?_; simp only [Tr.val,za3,AV.pure,za0,AV.cells,za1,za4,bnT,bnF,w1])
  | (refine exW (fun o=>p40_31) ?_; simp only [Tr.val,za3,AV.pure,za0,AV.cells,za1,za4,bnT,bnF,w1])
  | (refine exW (fun o=>p40_32) ?_; simp only [Tr.val,za3,AV.pure,za0,AV.cells,za1,za4,bnT,bnF,w1])
  | (refine exW (fun o=>p40_33) ?_; simp only [Tr.val,za3,AV.pure,za0,AV.cells,za1,za4,bnT,bnF,w1])
  | (refine exW (fun o=>p40_34) ?_; simp only [Tr.val,za3,AV.pure,za0,AV.cells,za1,za4,bnT,bnF,w1])
  | (refine exW (fun o=>p40_35) ?_; simp only [Tr.val,za3,AV.pure,za0,AV.cells,za1,za4,bnT,bnF,w1])
  | (refine exW (fun o=>p40_36) ?_; simp only [Tr.val,za3,AV.pure,za0,AV.cells,za1,za4,bnT,bnF,w1])
  | (refine .nth (B := 20) rfl (by simp only [lnC,lnN]; omega) fun s hs=>?_; simp only [AV.cells])
  | exact .mk ⟨_,_,rfl,by first | omega | (simp only [lnA,lnC,lnN,List.length_drop,List.length_take]; omega)⟩
  | refine .dec (fun h=>?_) (fun h=>?_)
  | refine .both (fun h=>?_) (fun h=>?_))
theorem leaf40 (tg : Bool) (l : List Int) (hl : l.length ≤ 1000000) (d : Int) (hd : 5 < d) (i : Int) : Was (calL C 40 [.vs 1 tg (ints l),.int .i64 i,.int .i64 d] Hp.none 0) (QP 5):=by
 refine exW (fun o=>p40_c hC) (exW (fun o=>p40_0) ?_);simp only [Tr.val,za3,AV.pure,za0,za1]
 repeat' (first
  | refine .bL (by first | omega | (simp only [lnA,lnC,lnN,List.length_drop,List.length_take]; omega)) ?_
  | refine .bT (by omega) ?_
  | refine .bF (by omega) ?_
  | (refine .call (w34 hC _ _ (by omega) _) ?_; rintro o ⟨x,e⟩; simp only [e,AV.pure,za0]; clear e)
  | (refine .call (w37 hC _) ?_; rintro o ⟨s,e,h1⟩; simp only [e,AV.pure,za0]; clear e)
  | (refine exW (fun o=>p40_1) ?_; simp only [Tr.val,za3,AV.pure,za0,AV.cells,za1,za4,bnT,bnF])
  | (refine exW (fun o=>p40_2) ?_; simp only [Tr.val,za3,AV.pure,za0,AV.cells,za1,za4,bnT,bnF])
  | (refine .nth (B := 20) rfl (by simp only [lnC,lnN]; omega) fun s hs=>?_; simp only [AV.cells])
  | exact .mk ⟨_,_,rfl,by first | omega | (simp only [lnA,lnC,lnN,List.length_drop,List.length_take]; omega)⟩
  | refine .dec (fun h=>?_) (fun h=>?_)
  | refine .both (fun h=>?_) (fun h=>?_))
theorem w40 (tg : Bool) (l : List Int) (hl : l.length ≤ 1000000) (i d : Int) (h0 : 0 ≤ d) (h6 : d ≤ 6) : Was (calL C 40 [.vs 1 tg (ints l),.int .i64 i,.int .i64 d] Hp.none 0) (QP 4000):=by
 have s6 := leaf40 hC tg l hl 6 (by decide);have s5 := zme hC tg l hl 5 (by decide) 5 (by decide) s6;have s4 := zme hC tg l hl _ (by decide) 4 (by decide) s5;have s3 := zme hC tg l hl _ (by decide) 3 (by decide) s4;have s2 := zme hC tg l hl _ (by decide) 2 (by decide) s3;have s1 := zme hC tg l hl _ (by decide) 1 (by decide) s2;have s0 := zme hC tg l hl _ (by decide) 0 (by decide) s1;have up : ∀ {B : Nat} (_ : B ≤ 4000) (e : Int) (_ : ∀ i : Int,Was (calL C 40 [.vs 1 tg (ints l),.int .i64 i,.int .i64 e] Hp.none 0) (QP B)),Was (calL C 40 [.vs 1 tg (ints l),.int .i64 i,.int .i64 e] Hp.none 0) (QP 4000) := fun hB e h=>(h i).imp fun o ⟨s,x,e1,e2⟩=>⟨s,x,e1,Nat.le_trans e2 hB⟩;rcases (by omega : d = 0 ∨ d = 1 ∨ d = 2 ∨ d = 3 ∨ d = 4 ∨ d = 5 ∨ d = 6) with rfl | rfl | rfl | rfl | rfl | rfl | rfl
 ·exact up (by decide) _ s0
 ·exact up (by decide) _ s1
 ·exact up (by decide) _ s2
 ·exact up (by decide) _ s3
 ·exact up (by decide) _ s4
 ·exact up (by decide) _ s5
 ·exact up (by decide) _ s6
end
section
open Go Go.Vai
attribute [local irreducible] goTo zao mkS
variable {C : Nat → Oracle} {o : Out}
abbrev qK0 : List Nat := Q0i
abbrev qK1 : List Nat := Q3t
abbrev qK2 : List Nat := Q20
theorem p35_c (hC : Ext C) {a : Bool} {b : List AV} : LC C o 35 (mk0 89 [vv 0 (.vs 6 a b)]) [(.vs 6 a b)] Hp.none 0 := lC hC
theorem p35_0 {a b} : LR C o 35 [] (mk0 89 [vv 0 (.vs 6 a b)]) (.run 0 qK0 (mkS 89 [(2,.lp 2 0),(3,.lp 3 0),vv 8 (.vs 6 a b),vi 9 (b.length : Int),vi 10 0] [(2,⟨[(i6 0),(i6 0),(.bool false),(.bool false)],[]⟩),(3,⟨[(i6 0),(i6 0),(.bool false),(.bool false)],[]⟩)] Hp.none 0)) := lR 9
abbrev yS316 := fun (a : Bool) (b : List AV) c d e (f g : Int) (h i : Bool) (j k : Int) (l m : Bool) => mkS 89 [(2,.lp 2 0),(3,.lp 3 0),vv 8 (.vs 6 a b),vi 9 c,vi 10 d,vb 11 true,vv 12 (.cptr e)] [(2,⟨[(i6 f),(i6 g),(.bool h),(.bool i)],[]⟩),(3,⟨[(i6 j),(i6 k),(.bool l),(.bool m)],[]⟩)] Hp.none 0
theorem p35_1 {f j g a b h i e k l c d} : LR C o 35 qK0 (mkS 89 [(2,.lp 2 0),(3,.lp 3 0),vv 8 (.vs 6 f h),vi 9 i,vi 10 e] [(2,⟨[(i6 k),(i6 l),(.bool j),(.bool g)],[]⟩),(3,⟨[(i6 c),(i6 d),(.bool a),(.bool b)],[]⟩)] Hp.none 0) (.br (decide (e < i))
(ix h e fun m =>
(.mid 0 qK2 1 (yS316 f h i e (AV.cells m) k l j g c d a b)))
(rt (.agg [(i6 c),(i6 d),(.bool a),(.bool b)]))) := lR 9
abbrev zmh := fun (a : Bool) (b : List AV) c d (e f : Int) (g h : Bool) (i j : Int) (k l : Bool) (m : Int) (n : List UInt8) (o : Bool) (p : List AV) (q : Bool) (r : List AV) (s : Bool) (t : List AV) (u : Int) => mkS 89 [(2,.lp 2 0),(3,.lp 3 0),vv 8 (.vs 6 a b),vi 9 c,vi 10 d] [(2,⟨[(i6 e),(i6 f),(.bool g),(.bool h)],[]⟩),(3,⟨[(i6 i),(i6 j),(.bool k),(.bool l)],[]⟩),(5,⟨[(i6 m),(.str n),(.vs 5 o p),(.vs 6 q r),(.vs 6 s t),(i6 u)],[]⟩)] Hp.none 0
abbrev yS318 := fun (a : Bool) (b : List AV) c d (e : Bool) (f : List AV) g (h i : Int) (j k : Bool) (l m : Int) (n o : Bool) (p : Int) (q : List UInt8) (r : Bool) (s : List AV) (t : Bool) (u : List AV) (v : Int) => mkS 89 [(2,.lp 2 0),(3,.lp 3 0),(5,.lp 5 0),vv 8 (.vs 6 a b),vi 9 c,vi 10 d,vb 16 false,(41,.lp 5 3),vv 42 (.vs 6 e f),vv 43 g] [(2,⟨[(i6 h),(i6 i),(.bool j),(.bool k)],[]⟩),(3,⟨[(i6 l),(i6 m),(.bool n),(.bool o)],[]⟩),(5,⟨[(i6 p),(.str q),(.vs 5 r s),(.vs 6 e f),(.vs 6 t u),(i6 v)],[]⟩)] Hp.none 0
theorem p35_2 {f d a e q h c i r s b l m} {p g w n : Bool} {t u j k : Int} : LM C o 35 qK2 1 (yS316 f q r s [(i6 b),(.str m),(.vs 5 d h),(.vs 6 a c),(.vs 6 e i),(i6 l)] t u p g j k w n) (.br (!(decide (b = 6)))
(.br w
(.br n
(.run 0 qK0 (zmh f q r (w64 (s + 1)) t u p g (w64 (j + 1)) (w64 (k + 1)) true true b m d h a c e i l))
(.run 0 qK0 (zmh f q r (w64 (s + 1)) t u p g (w64 (j + 1)) (w64 (k + 1)) true (! (decide (b = 1))) b m d h a c e i l)))
(.br n
(.run 0 qK0 (zmh f q r (w64 (s + 1)) t u p g (w64 (j + 1)) (w64 (k + 1)) (decide (b = 1)) true b m d h a c e i l))
(.run 0 qK0 (zmh f q r (w64 (s + 1)) t u p g (w64 (j + 1)) (w64 (k + 1)) (decide (b = 1)) (! (decide (b = 1))) b m d h a c e i l))))
(.br (za3 [(.vs 6 a c)])
(cl0 35 [(.vs 6 a c)] fun x => .br (AV.pure x.v)
(.br (AV.pure x.v)
(.mid 8 qK1 3 (yS318 f q r s a c x.v t u p g j k w n b m d h e i l)) .none) .none) .none)) := lM 15
theorem p35_3 {b l m c d e f g h n p q i a r s j k t u v} : LR C o 35 qK0 (zmh b h i a r s l m j k c d t v e n f p g q u) (.br (decide (a < i))
(ix h a fun w =>
(.mid 0 qK2 1 (mkS 89 [(2,.lp 2 0),(3,.lp 3 0),vv 8 (.vs 6 b h),vi 9 i,vi 10 a,vb 11 true,vv 12 (.cptr (AV.cells w))] [(2,⟨[(i6 r),(i6 s),(.bool l),(.bool m)],[]⟩),(3,⟨[(i6 j),(i6 k),(.bool c),(.bool d)],[]⟩),(5,⟨[(i6 t),(.str v),(.vs 5 e n),(.vs 6 f p),(.vs 6 g q),(i6 u)],[]⟩)] Hp.none 0)))
(rt (.agg [(i6 j),(i6 k),(.bool c),(.bool d)]))) := lR 9
abbrev yS320 := fun (a : Bool) (b : List AV) c d (e : Bool) (f : List AV) (g h : Int) (i j k : Bool) (l : List AV) m (n o : Int) (p q : Bool) (r s : Int) (t u : Bool) (v : Int) (w : List UInt8) (x : Bool) (y : List AV) (z : Int) => mkS 89 [(2,.lp 2 0),(3,.lp 3 0),(5,.lp 5 0),vv 8 (.vs 6 a b),vi 9 c,vi 10 d,vb 16 false,(41,.lp 5 3),vv 42 (.vs 6 e f),vv 43 (.agg [(i6 g),(i6 h),(.bool i),(.bool j)]),(44,.lp 5 4),vv 45 (.vs 6 k l),vv 46 m] [(2,⟨[(i6 n),(i6 o),(.bool p),(.bool q)],[]⟩),(3,⟨[(i6 r),(i6 s),(.bool t),(.bool u)],[]⟩),(5,⟨[(i6 v),(.str w),(.vs 5 x y),(.vs 6 e f),(.vs 6 k l),(i6 z)],[]⟩)] Hp.none 0
theorem p35_4 {f b j k w d x y r s} {u g h i e a : Bool} {l c : List AV} {z A m n p q : Int} {t : List UInt8} : LM C o 35 qK1 3 (yS318 f w x y b d (.agg [(i6 r),(i6 s),(.bool j),(.bool k)]) z A u g m n h i p t e l a c q) (.br (za3 [(.vs 6 a c)])
(cl0 35 [(.vs 6 a c)] fun B => .br (AV.pure B.v)
(.br (AV.pure B.v)
(.mid 0 qK1 6 (yS320 f w x y b d r s j k a c B.v z A u g m n h i p t e l q)) .none) .none) .none) := lM 0
theorem p35_5 {d g h w u x y z e a f i A B D j c k l m n p q r E F b s G t} : LM C o 35 qK2 1 (mkS 89 [(2,.lp 2 0),(3,.lp 3 0),vv 8 (.vs 6 d i),vi 9 l,vi 10 m,vb 11 true,vv 12 (.cptr [(i6 b),(.str t),(.vs 5 e j),(.vs 6 a c),(.vs 6 f k),(i6 s)])] [(2,⟨[(i6 n),(i6 p),(.bool g),(.bool h)],[]⟩),(3,⟨[(i6 q),(i6 r),(.bool w),(.bool u)],[]⟩),(5,⟨[(i6 E),(.str G),(.vs 5 x A),(.vs 6 y B),(.vs 6 z D),(i6 F)],[]⟩)] Hp.none 0) (.br (!(decide (b = 6)))
(.br w
(.br u
(.run 0 qK0 (zmh d i l (w64 (m + 1)) n p g h (w64 (q + 1)) (w64 (r + 1)) true true b t e j a c f k s))
(.run 0 qK0 (zmh d i l (w64 (m + 1)) n p g h (w64 (q + 1)) (w64 (r + 1)) true (! (decide (b = 1))) b t e j a c f k s)))
(.br u
(.run 0 qK0 (zmh d i l (w64 (m + 1)) n p g h (w64 (q + 1)) (w64 (r + 1)) (decide (b = 1)) true b t e j a c f k s))
(.run 0 qK0 (zmh d i l (w64 (m + 1)) n p g h (w64 (q + 1)) (w64 (r + 1)) (decide (b = 1)) (! (decide (b = 1))) b t e j a c f k s))))
(.br (za3 [(.vs 6 a c)])
(cl0 35 [(.vs 6 a c)] fun H => .br (AV.pure H.v)
(.br (AV.pure H.v)
(.mid 8 qK1 3 (yS318 d i l m a c H.v n p g h q r w u b t e j f k s)) .none) .none) .none)) := lM 15
abbrev zdy := fun (a : Bool) (b : List AV) c d (e f : Int) (g h : Bool) (i j : Int) (k l : Bool) (m : Int) (n : List UInt8) (o : Bool) (p : List AV) (q : Bool) (r : List AV) (s : Bool) (t : List AV) (u v w : Int) (x y : Bool) (z A : Int) (B D : Bool) => mkS 89 [(2,.lp 2 0),(3,.lp 3 0),vv 8 (.vs 6 a b),vi 9 c,vi 10 d] [(2,⟨[(i6 e),(i6 f),(.bool g),(.bool h)],[]⟩),(3,⟨[(i6 i),(i6 j),(.bool k),(.bool l)],[]⟩),(5,⟨[(i6 m),(.str n),(.vs 5 o p),(.vs 6 q r),(.vs 6 s t),(i6 u)],[]⟩),(6,⟨[(i6 v),(i6 w),(.bool x),(.bool y)],[]⟩),(7,⟨[(i6 z),(i6 A),(.bool B),(.bool D)],[]⟩)] Hp.none 0
theorem p35_6 {n e f k h i j x l m y z a b c d} {w p E D g : Bool} {q : List AV} {A B r s t u : Int} {v : List UInt8} : LM C o 35 qK1 6 (yS320 n x y z e l a b k h f m (.agg [(i6 c),(i6 d),(.bool i),(.bool j)]) A B w p r s E D t v g q u) (.br E
(.br D
(.run 0 qK0 (zdy n x y (w64 (z + 1)) A B w p (w64 (r + (if c < a then c else a))) (w64 (s + (if b < d then d else b))) true true t v g q e l f m u a b k h c d i j))
(.br h
(.run 0 qK0 (zdy n x y (w64 (z + 1)) A B w p (w64 (r + (if c < a then c else a))) (w64 (s + (if b < d then d else b))) true true t v g q e l f m u a b k h c d i j))
(.run 0 qK0 (zdy n x y (w64 (z + 1)) A B w p (w64 (r + (if c < a then c else a))) (w64 (s + (if b < d then d else b))) true j t v g q e l f m u a b k h c d i j))))
(.br k
(.br D
(.run 0 qK0 (zdy n x y (w64 (z + 1)) A B w p (w64 (r + (if c < a then c else a))) (w64 (s + (if b < d then d else b))) true true t v g q e l f m u a b k h c d i j))
(.br h
(.run 0 qK0 (zdy n x y (w64 (z + 1)) A B w p (w64 (r + (if c < a then c else a))) (w64 (s + (if b < d then d else b))) true true t v g q e l f m u a b k h c d i j))
(.run 0 qK0 (zdy n x y (w64 (z + 1)) A B w p (w64 (r + (if c < a then c else a))) (w64 (s + (if b < d then d else b))) true j t v g q e l f m u a b k h c d i j))))
(.br D
(.run 0 qK0 (zdy n x y (w64 (z + 1)) A B w p (w64 (r + (if c < a then c else a))) (w64 (s + (if b < d then d else b))) i true t v g q e l f m u a b k h c d i j))
(.br h
(.run 0 qK0 (zdy n x y (w64 (z + 1)) A B w p (w64 (r + (if c < a then c else a))) (w64 (s + (if b < d then d else b))) i true t v g q e l f m u a b k h c d i j))
(.run 0 qK0 (zdy n x y (w64 (z + 1)) A B w p (w64 (r + (if c < a then c else a))) (w64 (s + (if b < d then d else b))) i j t v g q e l f m u a b k h c d i j)))))) := lM 10
theorem p35_7 {b l m c d e f g n p q r h s t u i a v w j k x y z A B D E} : LR C o 35 qK0 (zdy b h i a v w l m j k c d x E e s f t g u y z A n p B D q r) (.br (decide (a < i))
(ix h a fun F =>
(.mid 0 qK2 1 (mkS 89 [(2,.lp 2 0),(3,.lp 3 0),vv 8 (.vs 6 b h),vi 9 i,vi 10 a,vb 11 true,vv 12 (.cptr (AV.cells F))] [(2,⟨[(i6 v),(i6 w),(.bool l),(.bool m)],[]⟩),(3,⟨[(i6 j),(i6 k),(.bool c),(.bool d)],[]⟩),(5,⟨[(i6 x),(.str E),(.vs 5 e s),(.vs 6 f t),(.vs 6 g u),(i6 y)],[]⟩),(6,⟨[(i6 z),(i6 A),(.bool n),(.bool p)],[]⟩),(7,⟨[(i6 B),(i6 D),(.bool q),(.bool r)],[]⟩)] Hp.none 0)))
(rt (.agg [(i6 j),(i6 k),(.bool c),(.bool d)]))) := lR 9
theorem p35_8 {e i j F E G H I k l m n f a d p J L M q b g r s t u w x N O y z A B c h P D} : LM C o 35 qK2 1 (mkS 89 [(2,.lp 2 0),(3,.lp 3 0),vv 8 (.vs 6 e p),vi 9 r,vi 10 s,vb 11 true,vv 12 (.cptr [(i6 c),(.str D),(.vs 5 f q),(.vs 6 a b),(.vs 6 d g),(i6 h)])] [(2,⟨[(i6 t),(i6 u),(.bool i),(.bool j)],[]⟩),(3,⟨[(i6 w),(i6 x),(.bool F),(.bool E)],[]⟩),(5,⟨[(i6 N),(.str P),(.vs 5 G J),(.vs 6 H L),(.vs 6 I M),(i6 O)],[]⟩),(6,⟨[(i6 y),(i6 z),(.bool k),(.bool l)],[]⟩),(7,⟨[(i6 A),(i6 B),(.bool m),(.bool n)],[]⟩)] Hp.none 0) (.br (!(decide (c = 6)))
(.br F
(.br E
(.run 0 qK0 (zdy e p r (w64 (s + 1)) t u i j (w64 (w + 1)) (w64 (x + 1)) true true c D f q a b d g h y z k l A B m n))
(.run 0 qK0 (zdy e p r (w64 (s + 1)) t u i j (w64 (w + 1)) (w64 (x + 1)) true (! (decide (c = 1))) c D f q a b d g h y z k l A B m n)))
(.br E
(.run 0 qK0 (zdy e p r (w64 (s + 1)) t u i j (w64 (w + 1)) (w64 (x + 1)) (decide (c = 1)) true c D f q a b d g h y z k l A B m n))
(.run 0 qK0 (zdy e p r (w64 (s + 1)) t u i j (w64 (w + 1)) (w64 (x + 1)) (decide (c = 1)) (! (decide (c = 1))) c D f q a b d g h y z k l A B m n))))
(.br (za3 [(.vs 6 a b)])
(cl0 35 [(.vs 6 a b)] fun Q => .br (AV.pure Q.v)
(.br (AV.pure Q.v)
(.mid 8 qK1 3 (mkS 89 [(2,.lp 2 0),(3,.lp 3 0),(5,.lp 5 0),vv 8 (.vs 6 e p),vi 9 r,vi 10 s,vb 16 false,(41,.lp 5 3),vv 42 (.vs 6 a b),vv 43 Q.v] [(2,⟨[(i6 t),(i6 u),(.bool i),(.bool j)],[]⟩),(3,⟨[(i6 w),(i6 x),(.bool F),(.bool E)],[]⟩),(5,⟨[(i6 c),(.str D),(.vs 5 f q),(.vs 6 a b),(.vs 6 d g),(i6 h)],[]⟩),(6,⟨[(i6 y),(i6 z),(.bool k),(.bool l)],[]⟩),(7,⟨[(i6 A),(i6 B),(.bool m),(.bool n)],[]⟩)] Hp.none 0)) .none) .none) .none)) := lM 15
abbrev yS324 := fun (a : Bool) (b : List AV) c d (e : Bool) (f : List AV) (g h : Int) (i j k : Bool) (l : List AV) m (n o : Int) (p q : Bool) (r s : Int) (t u : Bool) (v : Int) (w : List UInt8) (x : Bool) (y : List AV) (z A B : Int) (D E : Bool) (F G : Int) (H I : Bool) => mkS 89 [(2,.lp 2 0),(3,.lp 3 0),(5,.lp 5 0),vv 8 (.vs 6 a b),vi 9 c,vi 10 d,vb 16 false,(41,.lp 5 3),vv 42 (.vs 6 e f),vv 43 (.agg [(i6 g),(i6 h),(.bool i),(.bool j)]),(44,.lp 5 4),vv 45 (.vs 6 k l),vv 46 m] [(2,⟨[(i6 n),(i6 o),(.bool p),(.bool q)],[]⟩),(3,⟨[(i6 r),(i6 s),(.bool t),(.bool u)],[]⟩),(5,⟨[(i6 v),(.str w),(.vs 5 x y),(.vs 6 e f),(.vs 6 k l),(i6 z)],[]⟩),(6,⟨[(i6 A),(i6 B),(.bool D),(.bool E)],[]⟩),(7,⟨[(i6 F),(i6 G),(.bool H),(.bool I)],[]⟩)] Hp.none 0
theorem p35_9 {e l m n p q r s t f c a g h u w d b x y z A B D E F G H I i j k J} : LM C o 35 qK1 3 (mkS 89 [(2,.lp 2 0),(3,.lp 3 0),(5,.lp 5 0),vv 8 (.vs 6 e u),vi 9 x,vi 10 y,vb 16 false,(41,.lp 5 3),vv 42 (.vs 6 c d),vv 43 (.agg [(i6 j),(i6 k),(.bool g),(.bool h)])] [(2,⟨[(i6 z),(i6 A),(.bool l),(.bool m)],[]⟩),(3,⟨[(i6 B),(i6 D),(.bool n),(.bool p)],[]⟩),(5,⟨[(i6 I),(.str J),(.vs 5 f w),(.vs 6 c d),(.vs 6 a b),(i6 i)],[]⟩),(6,⟨[(i6 E),(i6 F),(.bool q),(.bool r)],[]⟩),(7,⟨[(i6 G),(i6 H),(.bool s),(.bool t)],[]⟩)] Hp.none 0) (.br (za3 [(.vs 6 a b)])
(cl0 35 [(.vs 6 a b)] fun L => .br (AV.pure L.v)
(.br (AV.pure L.v)
(.mid 0 qK1 6 (yS324 e u x y c d j k g h a b L.v z A l m B D n p I J f w i E F q r G H s t)) .none) .none) .none) := lM 0
theorem p35_10 {m i e j f g h s k l u v a b c d} {q r E D F G H I n : Bool} {t : List AV} {w x y z J L M N A p : Int} {B : List UInt8} : LM C o 35 qK1 6 (yS324 m s u v i k a b j f e l (.agg [(i6 c),(i6 d),(.bool g),(.bool h)]) w x q r y z E D A B n t p J L F G M N H I) (.br E
(.br D
(.run 0 qK0 (zdy m s u (w64 (v + 1)) w x q r (w64 (y + (if c < a then c else a))) (w64 (z + (if b < d then d else b))) true true A B n t i k e l p a b j f c d g h))
(.br f
(.run 0 qK0 (zdy m s u (w64 (v + 1)) w x q r (w64 (y + (if c < a then c else a))) (w64 (z + (if b < d then d else b))) true true A B n t i k e l p a b j f c d g h))
(.run 0 qK0 (zdy m s u (w64 (v + 1)) w x q r (w64 (y + (if c < a then c else a))) (w64 (z + (if b < d then d else b))) true h A B n t i k e l p a b j f c d g h))))
(.br j
(.br D
(.run 0 qK0 (zdy m s u (w64 (v + 1)) w x q r (w64 (y + (if c < a then c else a))) (w64 (z + (if b < d then d else b))) true true A B n t i k e l p a b j f c d g h))
(.br f
(.run 0 qK0 (zdy m s u (w64 (v + 1)) w x q r (w64 (y + (if c < a then c else a))) (w64 (z + (if b < d then d else b))) true true A B n t i k e l p a b j f c d g h))
(.run 0 qK0 (zdy m s u (w64 (v + 1)) w x q r (w64 (y + (if c < a then c else a))) (w64 (z + (if b < d then d else b))) true h A B n t i k e l p a b j f c d g h))))
(.br D
(.run 0 qK0 (zdy m s u (w64 (v + 1)) w x q r (w64 (y + (if c < a then c else a))) (w64 (z + (if b < d then d else b))) g true A B n t i k e l p a b j f c d g h))
(.br f
(.run 0 qK0 (zdy m s u (w64 (v + 1)) w x q r (w64 (y + (if c < a then c else a))) (w64 (z + (if b < d then d else b))) g true A B n t i k e l p a b j f c d g h))
(.run 0 qK0 (zdy m s u (w64 (v + 1)) w x q r (w64 (y + (if c < a then c else a))) (w64 (z + (if b < d then d else b))) g h A B n t i k e l p a b j f c d g h)))))) := lM 10
end
section
open Go Go.Vai
attribute [local irreducible] goTo zao mkS
variable {C : Nat → Oracle} {o : Out}



abbrev zoo := fun (a : List UInt8) b (c : List AV) d (e : List AV) (f : Int) => mk0 30 [vv 0 (.agg [(.str a),(.vs 3 b c),(.vs 6 d e),(i6 f)])]
theorem p16v0_c (hC : Ext C) {a : List UInt8} {b c : List AV} {d : Int} : LC C o 16 (zoo a false b false c d) [(.agg [(.str a),(.vs 3 false b),(.vs 6 false c),(i6 d)])] Hp.none 0 := lC hC
abbrev yS326 := fun (a : List AV) b (c : List UInt8) d (e : List AV) (f : Int) g => mkS 30 [(1,.lp 1 0),(4,.lp 1 2),vv 5 (.vs 6 false a),vv 6 b] [(1,⟨[(.str c),(.vs 3 d e),(.vs 6 false a),(i6 f)],g⟩)] Hp.none 0
theorem p16v0_0 {b c a d} : LR C o 16 [] (zoo b false c false a d) (cl0 35 [(.vs 6 false a)] fun e => .br (AV.pure e.v)
(.mid 0 Q01 3 (yS326 a e.v b false c d [])) .none) := lR 5
theorem p16v0_1 {c a d b e} {f : List UInt8} {g : List AV} {h : Int} : LM C o 16 Q01 3 (yS326 c (.agg [(i6 a),(i6 d),(.bool b),(.bool e)]) f false g h []) (.br (decide (a = 1))
(.br (decide (d = 1))
(.br (!e)
(rt (i6 1))
(.br (decide (1 ≤ a))
(.br (!b)
(rt (i6 2))
(rt (i6 0)))
(rt (i6 0))))
(.br (decide (1 ≤ a))
(.br (!b)
(rt (i6 2))
(rt (i6 0)))
(rt (i6 0))))
(.br (decide (1 ≤ a))
(.br (!b)
(rt (i6 2))
(rt (i6 0)))
(rt (i6 0)))) := lM 12
theorem p16v1_c (hC : Ext C) {a : List UInt8} {b c : List AV} {d : Int} : LC C o 16 (zoo a false b true c d) [(.agg [(.str a),(.vs 3 false b),(.vs 6 true c),(i6 d)])] Hp.none 0 := lC hC
theorem p16v1_0 {b c a d} : LR C o 16 [] (zoo b false c true a d) (cl0 35 [(.vs 6 true a)] fun e => .br (AV.pure e.v)
(.mid 0 Q01 3 (mkS 30 [(1,.lp 1 0),(4,.lp 1 2),(5,.val (.vs 6 true a) (.lL 1 2)),vv 6 e.v] [(1,⟨[(.str b),(.vs 3 false c),(.vs 6 true a),(i6 d)],[2]⟩)] Hp.none 0)) .none) := lR 5
abbrev yS328 := fun (a : List AV) (b c : Int) (d e : Bool) (f : List UInt8) g (h : List AV) (i : Int) j => mkS 30 [(1,.lp 1 0),(4,.lp 1 2),(5,.val (.vs 6 true a) (.lL 1 2)),vv 6 (.agg [(i6 b),(i6 c),(.bool d),(.bool e)])] [(1,⟨[(.str f),(.vs 3 g h),(.vs 6 true a),(i6 i)],j⟩)] Hp.none 0
theorem p16v1_1 {f g c h a d b e} : LM C o 16 Q01 3 (yS328 c a d b e f false g h [2]) (.br (decide (a = 1))
(.br (decide (d = 1))
(.br (!e)
(rt (i6 1))
(.br (decide (1 ≤ a))
(.br (!b)
(rt (i6 2))
(rt (i6 0)))
(rt (i6 0))))
(.br (decide (1 ≤ a))
(.br (!b)
(rt (i6 2))
(rt (i6 0)))
(rt (i6 0))))
(.br (decide (1 ≤ a))
(.br (!b)
(rt (i6 2))
(rt (i6 0)))
(rt (i6 0)))) := lM 12
theorem p16v2_c (hC : Ext C) {a : List UInt8} {b c : List AV} {d : Int} : LC C o 16 (zoo a true b false c d) [(.agg [(.str a),(.vs 3 true b),(.vs 6 false c),(i6 d)])] Hp.none 0 := lC hC
theorem p16v2_0 {b c a d} : LR C o 16 [] (zoo b true c false a d) (cl0 35 [(.vs 6 false a)] fun e => .br (AV.pure e.v)
(.mid 0 Q01 3 (yS326 a e.v b true c d [1])) .none) := lR 5
theorem p16v2_1 {c a d b e} {f : List UInt8} {g : List AV} {h : Int} : LM C o 16 Q01 3 (yS326 c (.agg [(i6 a),(i6 d),(.bool b),(.bool e)]) f true g h [1]) (.br (decide (a = 1))
(.br (decide (d = 1))
(.br (!e)
(rt (i6 1))
(.br (decide (1 ≤ a))
(.br (!b)
(rt (i6 2))
(rt (i6 0)))
(rt (i6 0))))
(.br (decide (1 ≤ a))
(.br (!b)
(rt (i6 2))
(rt (i6 0)))
(rt (i6 0))))
(.br (decide (1 ≤ a))
(.br (!b)
(rt (i6 2))
(rt (i6 0)))
(rt (i6 0)))) := lM 12
theorem p16v3_c (hC : Ext C) {a : List UInt8} {b c : List AV} {d : Int} : LC C o 16 (zoo a true b true c d) [(.agg [(.str a),(.vs 3 true b),(.vs 6 true c),(i6 d)])] Hp.none 0 := lC hC
theorem p16v3_0 {b c a d} : LR C o 16 [] (zoo b true c true a d) (cl0 35 [(.vs 6 true a)] fun e => .br (AV.pure e.v)
(.mid 0 Q01 3 (mkS 30 [(1,.lp 1 0),(4,.lp 1 2),(5,.val (.vs 6 true a) (.lL 1 2)),vv 6 e.v] [(1,⟨[(.str b),(.vs 3 true c),(.vs 6 true a),(i6 d)],[1,2]⟩)] Hp.none 0)) .none) := lR 5
theorem p16v3_1 {f g c h a d b e} : LM C o 16 Q01 3 (yS328 c a d b e f true g h [1,2]) (.br (decide (a = 1))
(.br (decide (d = 1))
(.br (!e)
(rt (i6 1))
(.br (decide (1 ≤ a))
(.br (!b)
(rt (i6 2))
(rt (i6 0)))
(rt (i6 0))))
(.br (decide (1 ≤ a))
(.br (!b)
(rt (i6 2))
(rt (i6 0)))
(rt (i6 0))))
(.br (decide (1 ≤ a))
(.br (!b)
(rt (i6 2))
(rt (i6 0)))
(rt (i6 0)))) := lM 12
end
end Go.Proofs.YtfdklpkfpmkgeaaGreatDoor
