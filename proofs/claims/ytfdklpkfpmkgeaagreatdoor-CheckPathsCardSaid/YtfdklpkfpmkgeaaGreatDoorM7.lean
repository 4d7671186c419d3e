/- Types and whole sources: the parser as a function with fuel; what it keeps. -/
import Derived.Test.YtfdklpkfpmkgeaaGreatDoorM5
import Derived.Test.YtfdklpkfpmkgeaaGreatDoorM6
set_option linter.unusedSimpArgs false
set_option linter.unusedVariables false
set_option linter.unusedSectionVars false
set_option linter.unnecessarySimpa false
section
namespace Go.Proofs.YtfdklpkfpmkgeaaGreatDoor
open Go Go.Vai
structure Fld where
 name : List UInt8
 kind : Int
 type : Int
 at_ : Int
def Fld.av (x : Fld) : AV := .agg [.str x.name,.int .i64 x.kind,.int .i64 x.type,.int .i64 x.at_]
structure Opn where
 name : List UInt8
 tgP : Bool
 params : List Par
 tgB : Bool
 body : List Stm
 at_ : Int
def Opn.av (x : Opn) : AV := .agg [.str x.name,.vs 3 x.tgP (x.params.map Par.av),.vs 6 x.tgB (stms x.body),.int .i64 x.at_]
structure Qry where
 name : List UInt8
 tgP : Bool
 params : List Par
 res : Ex
 at_ : Int
def Qry.av (x : Qry) : AV := .agg ([.str x.name,.vs 3 x.tgP (x.params.map Par.av)] ++ x.res.av.cells ++ [.int .i64 x.at_])
structure Idx where
 field : List UInt8
 at_ : Int
def Idx.av (x : Idx) : AV := .agg [.str x.field,.int .i64 x.at_]
structure Typ where
 name : List UInt8
 tgF : Bool
 fields : List Fld
 tgO : Bool
 ops : List Opn
 tgQ : Bool
 qrys : List Qry
 tgI : Bool
 idxs : List Idx
 at_ : Int
def Typ.cs (t : Typ) : List AV := [.str t.name,.vs 4 t.tgF (t.fields.map Fld.av),.vs 4 t.tgO (t.ops.map Opn.av),.vs 8 t.tgQ (t.qrys.map Qry.av),.vs 2 t.tgI (t.idxs.map Idx.av),.int .i64 t.at_]
def Typ.av (t : Typ) : AV := .agg t.cs
def memW : List (List UInt8) := [[114,101,103,105,115,116,101,114],[99,111,117,110,116,101,114],[109,97,120],[115,101,116],[102,108,97,103],[111,112],[113,117,101,114,121],[105,110,100,101,120]]
def regW : List (List UInt8) := [[105,110,116],[116,101,120,116]]
def wType : List UInt8 := [116,121,112,101]
def memF (f : Nat) (t : Typ) (p : PS) : Option (Typ × PS) :=
 if (p.oneF memW 0).1 = 1 then
  some ({ t with tgF := false,fields := t.fields ++ [⟨(p.oneF memW 0).2.s,1,((p.oneF memW 0).2.name.oneF regW 0).1,(p.oneF memW 0).2.tat⟩] },((p.oneF memW 0).2.name.oneF regW 0).2.sign [59])
 else if (p.oneF memW 0).1 = 2 ∨ (p.oneF memW 0).1 = 3 ∨ (p.oneF memW 0).1 = 4 ∨ (p.oneF memW 0).1 = 5 then
  some ({ t with tgF := false,fields := t.fields ++ [⟨(p.oneF memW 0).2.s,(p.oneF memW 0).1,0,(p.oneF memW 0).2.tat⟩] },(p.oneF memW 0).2.name.sign [59])
 else if (p.oneF memW 0).1 = 6 then
  (pasF f (p.oneF memW 0).2.name).bind fun a=>(blkF f a.2).bind fun b =>
   some ({ t with tgO := false,ops := t.ops ++ [⟨(p.oneF memW 0).2.s,a.1.1,a.1.2,b.1.1,b.1.2,(p.oneF memW 0).2.tat⟩] },b.2)
 else if (p.oneF memW 0).1 = 7 then
  (pasF f (p.oneF memW 0).2.name).bind fun a=>(binF f 1 (a.2.sign [61])).bind fun r =>
   some ({ t with tgQ := false,qrys := t.qrys ++ [⟨(p.oneF memW 0).2.s,a.1.1,a.1.2,r.1,(p.oneF memW 0).2.tat⟩] },r.2.sign [59])
 else if (p.oneF memW 0).1 = 8 then
  some ({ t with tgI := false,idxs := t.idxs ++ [⟨(p.oneF memW 0).2.s,(p.oneF memW 0).2.tat⟩] },(p.oneF memW 0).2.name.sign [59])
 else some (t,(p.oneF memW 0).2)
def tdL : Nat→Typ→PS→Option (Typ × PS)
 | 0,_,_=>none
 | f + 1,t,p=>if p.err = 0∧p.isG [125] = false then (memF f t p).bind fun r=>tdL f r.1 r.2 else some (t,p.sign [125])
def tdF (f : Nat) (p : PS) : Option (Typ × PS) := tdL f ⟨p.adv.s,true,[],true,[],true,[],true,[],p.adv.tat⟩ (p.adv.name.sign [123])
def paL : Nat→Bool→List Typ→PS→Option ((Bool × List Typ) × PS)
 | 0,_,_,_=>none
 | f + 1,tg,l,p=>if p.isW wType = true then (tdF f p).bind fun r=>paL f false (l ++ [r.1]) r.2 else some ((tg,l),p)
def ps0 (src : List UInt8) : PS := ⟨src,0,0,[],0,0,0,0,0⟩
def PS.fin (p : PS) : PS := if p.kind = 0 then p else p.fail 11 p.tat
theorem zm4 {f : Nat} {t : Typ} {p : PS} {r : Typ × PS} (hO : Ok p) (h : memF f t p = some r) : Keep p r.2∧(p.err = 0→mu r.2 < mu p):=by
 have k1 := Keep.oneF hO memW 0
 have k2 := Keep.name k1.ok
 have lt := fun h0=>zo1 hO h0 memW 0
 have fin : ∀ q : PS,Keep (p.oneF memW 0).2 q→Keep p q∧(p.err = 0→mu q < mu p) := fun q kq=>⟨k1.trans kq,fun h0=>Nat.lt_of_le_of_lt kq.mu (lt h0)⟩
 unfold memF at h
 split at h
 ·injection h with h; subst h
  have k3 := k2.trans (Keep.oneF k2.ok regW 0)
  exact fin _ (k3.trans (Keep.sign k3.ok _))
 split at h
 ·injection h with h; subst h
  exact fin _ (k2.trans (Keep.sign k2.ok _))
 split at h
 ·obtain ⟨a,h1,h2⟩ := Option.bind_eq_some_iff.1 h
  obtain ⟨b,h3,h4⟩ := Option.bind_eq_some_iff.1 h2
  injection h4 with h4; subst h4
  have k3 := k2.trans (zgv k2.ok h1)
  have k4 := k3.trans (Keep.sign k3.ok [123])
  exact fin _ (k4.trans ((zo3 f).1 _ _ _ _ k4.ok h3))
 split at h
 ·obtain ⟨a,h1,h2⟩ := Option.bind_eq_some_iff.1 h
  obtain ⟨b,h3,h4⟩ := Option.bind_eq_some_iff.1 h2
  injection h4 with h4; subst h4
  have k3 := k2.trans (zgv k2.ok h1)
  have k4 := k3.trans (Keep.sign k3.ok [61])
  have k5 := k4.trans ((zev f).1 _ _ _ k4.ok h3)
  exact fin _ (k5.trans (Keep.sign k5.ok _))
 split at h
 ·injection h with h; subst h
  exact fin _ (k2.trans (Keep.sign k2.ok _))
 ·injection h with h; subst h
  exact fin _ (Keep.refl k1.ok)
theorem zl1 : ∀ f t p r,Ok p→tdL f t p = some r→Keep p r.2
 | 0,_,_,_,_,h=>by cases h
 | f + 1,t,p,r,hO,h=>by
  unfold tdL at h
  split at h
  ·obtain ⟨a,h1,h2⟩ := Option.bind_eq_some_iff.1 h
   have k1 := (zm4 hO h1).1
   exact k1.trans (zl1 f _ _ _ k1.ok h2)
  ·injection h with h; subst h; exact Keep.sign hO _
theorem tdF_keep {f : Nat} {p : PS} {r : Typ × PS} (hO : Ok p) (h : tdF f p = some r) : Keep p r.2:=by
 have k1 := Keep.adv hO
 have k2 := k1.trans (Keep.name k1.ok)
 have k3 := k2.trans (Keep.sign k2.ok [123])
 exact k3.trans (zl1 f _ _ _ k3.ok h)
theorem tdF_lt {f : Nat} {p : PS} {r : Typ × PS} (hO : Ok p) (hk : p.kind ≠ 0) (h : tdF f p = some r) : mu r.2 < mu p:=by
 have k1 := Keep.adv hO
 have k2 := Keep.name k1.ok
 have k3 := Keep.sign k2.ok [123]
 have k4 := zl1 f _ _ _ k3.ok h
 have := (PS.adv_mu hO).2 hk
 have := k2.mu
 have := k3.mu
 have := k4.mu
 omega
theorem ps0_ok {src : List UInt8} (h : src.length ≤ 4000) : Ok (ps0 src) := ⟨h,⟨0,rfl,Nat.zero_le _⟩,fun _=>rfl,fun _=>rfl,by show (0 : Int) ≤ 0; decide,by show (0 : Int) ≤ 21; decide,fun _=>by show (0 : Int) ≤ 20; decide⟩
end Go.Proofs.YtfdklpkfpmkgeaaGreatDoor
end
section
namespace Go.Proofs.YtfdklpkfpmkgeaaGreatDoor
open Go Go.Vai
attribute [local irreducible] goTo zaq mkS
variable {C : Nat→Oracle} (hC : Ext C) {T : Hp} {nx : Nat}
include hC
theorem l45 (p : PS) (e a : Int) : calL C 45 [.ptr 0 0,.int .i64 e,.int .i64 a] (hp p T) nx = some ⟨.tuple [],hp (p.fail e a) T,nx⟩:=by
 refine p45_c hC (p45_0 ?_)
 simp only [Tr.val,PS.fail]
 by_cases h : p.err = 0
 ·rw [if_pos h,if_pos h]; exact bT h rfl
 ·rw [if_neg h,if_neg h]; exact bF h rfl
theorem l42 (p : PS) (h : Ok p) : calL C 42 [.ptr 0 0] (hp p T) nx = some ⟨.tuple [],hp p.adv T,nx⟩:=by
 obtain ⟨k,hk,hk2,hkl⟩ := h.at
 refine p42_c hC (p42_0 ?_)
 simp only [Tr.val,PS.adv]
 by_cases h0 : p.err = 0
 ·refine nF h0 ?_
  rw [if_pos h0,hk2]
  have := l79 (T := T) (nx := nx) hC p h.len k (ztg _ _ hkl) hkl
  rw [← hk] at this
  refine bnd this ?_
  simp only [ntO,zq6]
  refine p42_1 ?_
  simp only [Tr.val,PS.at]
  by_cases he : (zcf p.src k).err = 0
  ·refine nF he ?_
   rw [if_pos he]
  ·refine nT he ?_
   rw [if_neg he]
   refine bnd (l45 hC _ _ _) ?_
   exact p42_2 rfl
 ·refine nT h0 ?_
  rw [if_neg h0]
theorem l43 (p : PS) (w : List UInt8) : calL C 43 [.ptr 0 0,.str w] (hp p T) nx = some ⟨.bool (p.isW w),hp p T,nx⟩:=by
 refine p43_c hC (p43_0 ?_)
 simp only [Tr.val,PS.isW]
 by_cases h : p.kind = 1
 ·refine bT h ?_
  rw [decide_eq_true h]; rfl
 ·refine bF h ?_
  rw [decide_eq_false h]; rfl
theorem l82 (p : PS) (w : List UInt8) : calL C 82 [.ptr 0 0,.str w] (hp p T) nx = some ⟨.bool (p.isG w),hp p T,nx⟩:=by
 refine p82_c hC (p82_0 ?_)
 simp only [Tr.val,PS.isG]
 by_cases h : p.kind = 4
 ·refine bT h ?_
  rw [decide_eq_true h]; rfl
 ·refine bF h ?_
  rw [decide_eq_false h]; rfl
theorem l81 (p : PS) (h : Ok p) (w : List UInt8) : calL C 81 [.ptr 0 0,.str w] (hp p T) nx = some ⟨.tuple [],hp (p.sign w) T,nx⟩:=by
 refine p81_c hC (p81_0 ?_)
 refine bnd (l82 hC p w) ?_
 refine p81_1 ?_
 simp only [Tr.val,PS.sign]
 cases hg : p.isG w
 ·simp only [Bool.not_false,za0,Bool.false_eq_true,if_false]
  refine bnd (l45 hC _ _ _) ?_
  exact p81_2 rfl
 ·simp only [Bool.not_true,zam,if_true]
  refine bnd (l42 hC p h) ?_
  exact p81_3 rfl
theorem l80 (p : PS) (h : Ok p) : calL C 80 [.ptr 0 0] (hp p T) nx = some ⟨.tuple [.str p.s,.int .i64 p.tat],hp p.name T,nx⟩:=by
 refine p80_c hC (p80_0 ?_)
 simp only [Tr.val,PS.name]
 by_cases h1 : p.kind = 1
 ·refine nF h1 ?_
  simp only [zab,AV.pure,za0]
  refine bnd (l147 hC p.s) ?_
  simp only [AV.pure,za0]
  refine p80_2 ?_
  simp only [Tr.val]
  by_cases hk : p.s ∈ kwL
  ·rw [decide_eq_true hk,za0,if_neg (fun hh=>hh.2 hk)]
   refine bnd (l45 hC _ _ _) ?_
   exact p80_1 rfl
  ·rw [decide_eq_false hk,zam,if_pos ⟨h1,hk⟩]
   by_cases h16 : 16 < p.s.length
   ·refine bT (by omega) ?_
    rw [if_pos h16]
    refine bnd (l45 hC _ _ _) ?_
    exact p80_3 rfl
   ·refine bF (by omega) ?_
    rw [if_neg h16]
    refine bnd (l42 hC p h) ?_
    exact p80_4 rfl
 ·refine nT h1 ?_
  rw [if_neg (fun hh=>h1 hh.1)]
  refine bnd (l45 hC _ _ _) ?_
  exact p80_1 rfl
theorem one_loop (p : PS) (h : Ok p) (tg : Bool) (l : List (List UInt8)) (hl : l.length ≤ 4000) : ∀ (r : List (List UInt8)) (i : Nat),l.drop i = r→i ≤ l.length →
  RL C 148 [0,5,0,0,5,2,3] (mkS 29 [(0,.val (.ptr 0 0) .no),(7,.val (.vs 1 tg (l.map AV.str)) .no),(8,.val (.int .i64 (l.length : Int)) .no),(9,.val (.int .i64 (i : Int)) .no)] [] (hp p T) nx) =
   some ⟨.int .i64 (p.oneF r i).1,hp (p.oneF r i).2 T,nx⟩:=by
 intro r
 induction r with
 | nil =>
  intro i hi hil
  have := zaj _ _ hil hi
  refine p148_1 ?_
  simp only [Tr.val,PS.oneF]
  refine bF (by omega) (bnd (l45 hC _ _ _) ?_)
  exact p148_3 rfl
 | cons w r ih =>
  intro i hi hil
  obtain ⟨h1,h2,h3⟩ := zau _ _ hi
  refine p148_1 ?_
  simp only [Tr.val,PS.oneF,List.length_map,Int.toNat_natCast]
  refine bT (by omega) (bT (by omega) (bT (by omega) (bnd (x := .str w) (by rw [zcc,List.getElem?_map,h1]; rfl) ?_)))
  refine p148_2 ?_
  refine bnd (l43 hC p w) ?_
  refine p148_4 ?_
  simp only [Tr.val]
  rw [zb9 (by omega) (by omega),show ((i : Int) + 1) = ((i + 1 : Nat) : Int) by omega]
  cases hw : p.isW w
  ·simp only [zam,Bool.false_eq_true,if_false]
   exact ih (i + 1) h2 (by omega)
  ·simp only [za0,if_true]
   refine bnd (l42 hC p h) ?_
   refine p148_5 ?_
   simp only [Tr.val]
   rw [zb9 (by omega) (by omega)]
   rfl
theorem l148 (p : PS) (h : Ok p) (tg : Bool) (l : List (List UInt8)) (hl : l.length ≤ 4000) : calL C 148 [.ptr 0 0,.vs 1 tg (l.map AV.str)] (hp p T) nx = some ⟨.int .i64 (p.oneF l 0).1,hp (p.oneF l 0).2 T,nx⟩:=by
 refine p148_c hC (p148_0 ?_)
 have := one_loop (T := T) (nx := nx) hC p h tg l hl l 0 rfl (Nat.zero_le _)
 simp only [Tr.val,List.length_map]
 exact this
theorem l213 (p : PS) (h : Ok p) : calL C 213 [.ptr 0 0] (hp p T) nx = some ⟨.tuple [],hp p.opn T,nx⟩:=by
 have i1 := h.d0
 have i2 := h.d1
 refine p213_c hC (p213_0 ?_)
 simp only [Tr.val,PS.opn]
 by_cases h1 : p.depth = 20
 ·refine bT h1 ?_
  rw [if_pos h1]
  refine bnd (l45 hC _ _ _) ?_
  refine p213_1 ?_
  simp only [Tr.val,PS.fail,PS.dep]
  rw [zb9 (by omega) (by omega)]
 ·refine bF h1 ?_
  rw [if_neg h1]
  simp only [PS.dep]
  rw [zb9 (by omega) (by omega)]
theorem l214 (p : PS) (h0 : 0 ≤ p.depth) (h1 : p.depth ≤ 100) : calL C 214 [.ptr 0 0] (hp p T) nx = some ⟨.tuple [],hp p.cls T,nx⟩:=by
 refine p214_c hC (p214_0 ?_)
 simp only [Tr.val,PS.cls,PS.dep]
 rw [zb9 (by omega) (by omega)]
 rfl
end Go.Proofs.YtfdklpkfpmkgeaaGreatDoor
end
section
namespace Go.Proofs.YtfdklpkfpmkgeaaGreatDoor
open Go Go.Vai
attribute [local irreducible] goTo zaq mkS
variable {C : Nat → Oracle} {o : Out}
abbrev cD0 : Nat × Blk := (2,⟨[(i6 0),(i6 0),(.str []),(.vs 5 true []),(i6 0)],[3]⟩)
abbrev cD1 : Nat × Blk := (2,⟨[(i6 0),(.str []),(.vs 5 true []),(.vs 6 true []),(.vs 6 true []),(i6 0)],[2,3,4]⟩)
abbrev cD2 : Nat × Blk := (4,⟨[(i6 0),(i6 0),(.str []),(.vs 5 true []),(i6 0)],[3]⟩)
abbrev cD3 : Nat × Blk := (2,⟨[(.str []),(i6 0),(i6 0)],[]⟩)
abbrev cD5 : AV := (.vs 1 true [(.str [105,110,116]),(.str [116,101,120,116]),(.str [98,111,111,108])])
abbrev cD6 : AV := (.vs 1 true [(.str [119,114,105,116,101]),(.str [114,97,105,115,101]),(.str [97,100,100]),(.str [105,110,115,101,114,116]),(.str [109,97,114,107])])
abbrev qD0 : List Nat := [0,5,0,0,5,7,5,0,5,0,2,3]
abbrev qD1 : List Nat := [0,5,0,0,5,7,5,0,5,0,2,3,0,0]
abbrev qD2 : List Nat := [0,5,0,0,5,7,5,0,5,0,2,3,0,0,5,6,5,2,0,5,0]
abbrev qD3 : List Nat := [0,5,0,5,0,5,0,0,5,6,0,5,2,3]
abbrev qD4 : List Nat := [0,5,0,5,0,5,0,2,3,0,0,5,7,5,5,5,5,0]
abbrev qD5 : List Nat := [0,5,0,0,5,7,5,0,5,0,2,3,0,0,5,6,5,2,0,5,0,5,0]
abbrev qD6 : List Nat := [0,5,0,5,0,5,0,2,0,5,7,0,5,7,0,5,7,0,5,6,0,5]
abbrev qD7 : List Nat := [0,5,0,5,0,5,0,2,0,5,7,0,5,7,0,5,7,0,5,7,0,5,6,0,5,0]
abbrev qD8 : List Nat := [0,5,0,5,0,5,0,2,0,5,7,0,5,7,0,5,7,0,5,7,0,5,7,0]
abbrev qD9 : List Nat := [0,5,0,5,0,5,0,2,0,5,7,0,5,7,0,5,7,0,5,7,0,5,6,0,5,0,5,0]
abbrev qD10 : List Nat := [0,5,0,5,0,5,0,2,0,5,7,0,5,7,0,5,7,0,5,7,0,5,7,0,5,6,0]
abbrev qD11 : List Nat := [0,5,0,5,0,5,0,2,0,5,7,0,5,7,0,5,7,0,5,7,0,5,7,0,5,7,0,5]
abbrev qD12 : List Nat := [0,5,0,5,0,5,0,2,0,5,7,0,5,7,0,5,7,0,5,7,0,5,6,0,5,0,5,0,5,0]
abbrev qD13 : List Nat := [0,5,0,5,0,5,0,2,0,5,7,0,5,7,0,5,7,0,5,7,0,5,7,0,5,6,0,5,0]
abbrev qD14 : List Nat := [0,5,0,5,0,5,0,2,0,5,7,0,5,7,0,5,7,0,5,7,0,5,6,0,5,0,5,0,5,0,5]
abbrev qD15 : List Nat := [0,5,0,5,0,5,0,2,0,5,7,0,5,7,0,5,7,0,5,7,0,5,7,0,5,6,0,5,0,5,0]
abbrev qD16 : List Nat := [0,5,0,5,0,5,0,2,0,5,7,0,5,7,0,5,7,0,5,7,0,5,7,0,5,6,0,5,0,5,0,5,0]
abbrev qD17 : List Nat := [0,5,0,5,0,5,0,2,0,5,7,0,5,7,0,5,7,0,5,7,0,5,7,0,5,6,0,5,0,5,0,5,0,5]
abbrev qD18 : List Nat := [0,5,0,5,0,5,0,0,5,6,0,5,2,3,0,0,5,7,5,5,5,5,0]
abbrev qD19 : List Nat := [0,5,0,5,0,5,0,0,5,6,0,5,2,3,0,0,5,6,5,2,0,5]
abbrev qD20 : List Nat := [0,5,0,5,0,0,5,6,0,5,0,5,0,5,0,5,0,5,0,0,5,6,0]
abbrev qD21 : List Nat := [0,5,0,5,0,0,5,6,0,5,0,5,0,5,0,5,0,5,0,0,5,7,5,0]
abbrev qD22 : List Nat := [0,5,0,5,0,0,5,6,0,5,0,5,0,5,0,5,0,5,0,0,5,6,0,5]
abbrev qD23 : List Nat := [0,5,0,5,0,0,5,6,0,5,0,5,0,5,0,5,0,5,0,0,5,6,0,5,5,0]
theorem p151_c (hC : Ext C) {T : Hp} {nx : Nat} {q_1 : PS} (ho : RL C 151 [] (mkS 5 [vv 0 (.ptr 0 0)] [] (hp q_1 T) nx) = some o) : calL C 151 [(.ptr 0 0)] (hp q_1 T) nx = some o := hC.call rfl (fun _ _ => by kernel_rfl) ho
theorem p151_0 {T : Hp} {nx : Nat} {q_1 : PS} (ho : Tr.val C 151
(.call 188 [(.ptr 0 0),(i6 1)] (hp q_1 T) nx fun r1 =>
(.mid 0 [0,5,0] 2 (mkS 5 [vv 0 (.ptr 0 0),(2,.lp 2 0),vv 3 (.ptr 0 0),vv 4 r1.v] [cD0] r1.H r1.nx))) = some o) : RL C 151 [] (mkS 5 [vv 0 (.ptr 0 0)] [] (hp q_1 T) nx) = some o := stR C 4 (fun _ _ => by kernel_rfl) ho
theorem p151_1 {T : Hp} {nx : Nat} {x_2 x_3 x_7 : Int} {s_4 : List UInt8} {tg_5 : Bool} {l_6 : List AV} {q_9 : PS} (ho : Tr.val C 151
(.ret ⟨(.agg [(i6 x_2),(i6 x_3),(.str s_4),(.vs 5 tg_5 l_6),(i6 x_7)]),(hp q_9 T),nx⟩) = some o) : ML C 151 [0,5,0] 2 (mkS 5 [vv 0 (.ptr 0 0),(2,.lp 2 0),vv 3 (.ptr 0 0),vv 4 (.agg [(i6 x_2),(i6 x_3),(.str s_4),(.vs 5 tg_5 l_6),(i6 x_7)])] [cD0] (hp q_9 T) nx) = some o := stM C 1 (fun _ _ => by kernel_rfl) ho
theorem p188_c (hC : Ext C) {T : Hp} {nx : Nat} {x_10 : Int} {q_11 : PS} (ho : RL C 188 [] (mkS 57 [vv 0 (.ptr 0 0),vi 1 x_10] [] (hp q_11 T) nx) = some o) : calL C 188 [(.ptr 0 0),(i6 x_10)] (hp q_11 T) nx = some o := hC.call rfl (fun _ _ => by kernel_rfl) ho
theorem p188_0 {T : Hp} {nx : Nat} {x_10 : Int} {q_11 : PS} (ho : Tr.val C 188
(.br (decide (x_10 = 6))
(.call 215 [(.ptr 0 0)] (hp q_11 T) nx fun r1 =>
(.mid 1 [0,5,0,0,5,6,0] 2 (mkS 57 [vv 0 (.ptr 0 0),vi 1 x_10,(4,.lp 4 0),vb 7 true,vv 8 (.ptr 0 0),vv 9 r1.v] [cD2] r1.H r1.nx)))
(.call 188 [(.ptr 0 0),(i6 (w64 (x_10 + 1)))] (hp q_11 T) nx fun r2 =>
(.mid 0 [0,5,0,0,5,7,5,0] 4 (mkS 57 [vv 0 (.ptr 0 0),vi 1 x_10,(4,.lp 4 0),vb 7 false,vv 10 (.ptr 0 0),vi 11 x_10,vi 12 (w64 (x_10 + 1)),vv 13 r2.v] [cD2] r2.H r2.nx)))) = some o) : RL C 188 [] (mkS 57 [vv 0 (.ptr 0 0),vi 1 x_10] [] (hp q_11 T) nx) = some o := stR C 9 (fun _ _ => by kernel_rfl) ho
theorem p188_1 {T : Hp} {nx : Nat} {x_10 x_12 x_13 x_17 : Int} {s_14 : List UInt8} {tg_15 : Bool} {l_16 : List AV} {q_19 : PS} (ho : Tr.val C 188
(.ret ⟨(.agg [(i6 x_12),(i6 x_13),(.str s_14),(.vs 5 tg_15 l_16),(i6 x_17)]),(hp q_19 T),nx⟩) = some o) : ML C 188 [0,5,0,0,5,6,0] 2 (mkS 57 [vv 0 (.ptr 0 0),vi 1 x_10,(4,.lp 4 0),vb 7 true,vv 8 (.ptr 0 0),vv 9 (.agg [(i6 x_12),(i6 x_13),(.str s_14),(.vs 5 tg_15 l_16),(i6 x_17)])] [cD2] (hp q_19 T) nx) = some o := stM C 1 (fun _ _ => by kernel_rfl) ho
theorem p188_2 {T : Hp} {nx : Nat} {x_10 x_20 x_21 x_25 x_27 : Int} {s_22 : List UInt8} {tg_23 : Bool} {l_24 : List AV} {q_28 : PS} (ho : Tr.val C 188
(.run 0 qD0 (mkS 57 [vv 0 (.ptr 0 0),vi 1 x_10,(4,.lp 4 0),(5,.lp 5 0)] [cD2,(5,⟨[(i6 x_20),(i6 x_21),(.str s_22),(.vs 5 tg_23 l_24),(i6 x_25)],[]⟩)] (hp q_28 T) nx)) = some o) : ML C 188 [0,5,0,0,5,7,5,0] 4 (mkS 57 [vv 0 (.ptr 0 0),vi 1 x_10,(4,.lp 4 0),vb 7 false,vv 10 (.ptr 0 0),vi 11 x_10,vi 12 x_27,vv 13 (.agg [(i6 x_20),(i6 x_21),(.str s_22),(.vs 5 tg_23 l_24),(i6 x_25)])] [cD2] (hp q_28 T) nx) = some o := stM C 3 (fun _ _ => by kernel_rfl) ho
theorem p188_3 {T : Hp} {nx : Nat} {x_29 x_30 x_31 x_35 x_36 x_37 x_41 : Int} {s_32 s_38 : List UInt8} {tg_33 tg_39 : Bool} {l_34 l_40 : List AV} {q_42 : PS} (ho : Tr.val C 188
(.br (!(decide (q_42.kind = 3)))
(cl0 113 [(.str q_42.s)] fun r3 => .br (AV.pure r3.v)
(.mid 5 qD1 13 (mkS 57 [vv 0 (.ptr 0 0),vi 1 x_29,(4,.lp 4 0),(5,.lp 5 0),vv 14 (.ptr 0 0),vv 15 (.ptr 0 0),vv 16 (.ptr 0 2),vv 17 (.ptr 0 2),(18,.val (i6 q_42.kind) (.lH 0 2)),vb 19 (!(decide (q_42.kind = 3))),vb 20 true,vv 21 (.ptr 0 0),vv 22 (.ptr 0 0),vv 23 (.ptr 0 2),vv 24 (.ptr 0 3),(25,.val (.str q_42.s) (.lH 0 3)),vv 26 r3.v] [(4,⟨[(i6 x_30),(i6 x_31),(.str s_32),(.vs 5 tg_33 l_34),(i6 x_35)],[3]⟩),(5,⟨[(i6 x_36),(i6 x_37),(.str s_38),(.vs 5 tg_39 l_40),(i6 x_41)],[]⟩)] (hp q_42 T) nx)) .none)
(.ret ⟨(.agg [(i6 x_36),(i6 x_37),(.str s_38),(.vs 5 tg_39 l_40),(i6 x_41)]),(hp q_42 T),nx⟩)) = some o) : RL C 188 qD0 (mkS 57 [vv 0 (.ptr 0 0),vi 1 x_29,(4,.lp 4 0),(5,.lp 5 0)] [(4,⟨[(i6 x_30),(i6 x_31),(.str s_32),(.vs 5 tg_33 l_34),(i6 x_35)],[3]⟩),(5,⟨[(i6 x_36),(i6 x_37),(.str s_38),(.vs 5 tg_39 l_40),(i6 x_41)],[]⟩)] (hp q_42 T) nx) = some o := stR C 8 (fun _ _ => by kernel_rfl) ho
theorem p188_4 {T : Hp} {nx : Nat} {x_29 x_30 x_31 x_35 x_36 x_37 x_41 x_43 x_44 : Int} {s_32 s_38 s_46 : List UInt8} {tg_33 tg_39 c_45 : Bool} {l_34 l_40 : List AV} {q_47 : PS} (ho : Tr.val C 188
(.br (decide (x_43 = x_29))
(.call 42 [(.ptr 0 0)] (hp q_47 T) nx fun r4 =>
(.mid 0 qD2 2 (mkS 57 [vv 0 (.ptr 0 0),vi 1 x_29,(4,.lp 4 0),(5,.lp 5 0),vv 43 (.ptr 0 0),vv 44 r4.v] [(4,⟨[(i6 x_30),(i6 x_31),(.str s_32),(.vs 5 tg_33 l_34),(i6 x_35)],[3]⟩),(5,⟨[(i6 7),(i6 0),(.str q_47.s),(.vs 5 true [(.agg [(i6 x_36),(i6 x_37),(.str s_38),(.vs 5 tg_39 l_40),(i6 x_41)])]),(i6 q_47.tat)],[]⟩)] r4.H r4.nx)))
(.ret ⟨(.agg [(i6 x_36),(i6 x_37),(.str s_38),(.vs 5 tg_39 l_40),(i6 x_41)]),(hp q_47 T),nx⟩)) = some o) : ML C 188 qD1 13 (mkS 57 [vv 0 (.ptr 0 0),vi 1 x_29,(4,.lp 4 0),(5,.lp 5 0),vv 14 (.ptr 0 0),vv 15 (.ptr 0 0),vv 16 (.ptr 0 2),vv 17 (.ptr 0 2),(18,.val (i6 x_44) (.lH 0 2)),vb 19 c_45,vb 20 true,vv 21 (.ptr 0 0),vv 22 (.ptr 0 0),vv 23 (.ptr 0 2),vv 24 (.ptr 0 3),(25,.val (.str s_46) (.lH 0 3)),vi 26 x_43] [(4,⟨[(i6 x_30),(i6 x_31),(.str s_32),(.vs 5 tg_33 l_34),(i6 x_35)],[3]⟩),(5,⟨[(i6 x_36),(i6 x_37),(.str s_38),(.vs 5 tg_39 l_40),(i6 x_41)],[]⟩)] (hp q_47 T) nx) = some o := stM C 7 (fun _ _ => by kernel_rfl) ho
theorem p188_5 {T : Hp} {nx : Nat} {x_29 x_30 x_31 x_35 x_36 x_37 x_41 x_50 : Int} {s_32 s_38 s_49 : List UInt8} {tg_33 tg_39 : Bool} {l_34 l_40 : List AV} {q_51 : PS} (ho : Tr.val C 188
(.call 188 [(.ptr 0 0),(i6 (w64 (x_29 + 1)))] (hp q_51 T) nx fun r5 =>
(.mid 0 qD5 6 (mkS 57 [vv 0 (.ptr 0 0),vi 1 x_29,(4,.lp 4 0),(5,.lp 5 0),(45,.lp 5 3),vv 46 (.vs 5 true [(.agg [(i6 x_36),(i6 x_37),(.str s_38),(.vs 5 tg_39 l_40),(i6 x_41)])]),vv 47 (.ptr 0 0),vi 48 x_29,vi 49 (w64 (x_29 + 1)),vv 50 r5.v] [(4,⟨[(i6 x_30),(i6 x_31),(.str s_32),(.vs 5 tg_33 l_34),(i6 x_35)],[3]⟩),(5,⟨[(i6 7),(i6 0),(.str s_49),(.vs 5 true [(.agg [(i6 x_36),(i6 x_37),(.str s_38),(.vs 5 tg_39 l_40),(i6 x_41)])]),(i6 x_50)],[]⟩)] r5.H r5.nx))) = some o) : ML C 188 qD2 2 (mkS 57 [vv 0 (.ptr 0 0),vi 1 x_29,(4,.lp 4 0),(5,.lp 5 0),vv 43 (.ptr 0 0),vv 44 (.tuple [])] [(4,⟨[(i6 x_30),(i6 x_31),(.str s_32),(.vs 5 tg_33 l_34),(i6 x_35)],[3]⟩),(5,⟨[(i6 7),(i6 0),(.str s_49),(.vs 5 true [(.agg [(i6 x_36),(i6 x_37),(.str s_38),(.vs 5 tg_39 l_40),(i6 x_41)])]),(i6 x_50)],[]⟩)] (hp q_51 T) nx) = some o := stM C 2 (fun _ _ => by kernel_rfl) ho
theorem p188_6 {T : Hp} {nx : Nat} {x_29 x_30 x_31 x_35 x_36 x_37 x_41 x_50 x_52 x_53 x_57 x_59 : Int} {s_32 s_38 s_49 s_54 : List UInt8} {tg_33 tg_39 tg_55 : Bool} {l_34 l_40 l_56 : List AV} {q_60 : PS} (ho : Tr.val C 188
(.br (Nat.ble 128 za1)
(.br (Nat.ble 2 za1)
(.br (decide (x_29 = 3))
(.ret ⟨(.agg [(i6 7),(i6 0),(.str s_49),(.vs 5 false [(.agg [(i6 x_36),(i6 x_37),(.str s_38),(.vs 5 tg_39 l_40),(i6 x_41)]),(.agg [(i6 x_52),(i6 x_53),(.str s_54),(.vs 5 tg_55 l_56),(i6 x_57)])]),(i6 x_50)]),(hp q_60 T),nx⟩)
(.run 1 qD0 (mkS 57 [vv 0 (.ptr 0 0),vi 1 x_29,(4,.lp 4 0),(5,.lp 5 0),vb 55 false] [(4,⟨[(i6 x_30),(i6 x_31),(.str s_32),(.vs 5 tg_33 l_34),(i6 x_35)],[3]⟩),(5,⟨[(i6 7),(i6 0),(.str s_49),(.vs 5 false [(.agg [(i6 x_36),(i6 x_37),(.str s_38),(.vs 5 tg_39 l_40),(i6 x_41)]),(.agg [(i6 x_52),(i6 x_53),(.str s_54),(.vs 5 tg_55 l_56),(i6 x_57)])]),(i6 x_50)],[3]⟩)] (hp q_60 T) nx))) .none) .none) = some o) : ML C 188 qD5 6 (mkS 57 [vv 0 (.ptr 0 0),vi 1 x_29,(4,.lp 4 0),(5,.lp 5 0),(45,.lp 5 3),vv 46 (.vs 5 true [(.agg [(i6 x_36),(i6 x_37),(.str s_38),(.vs 5 tg_39 l_40),(i6 x_41)])]),vv 47 (.ptr 0 0),vi 48 x_29,vi 49 x_59,vv 50 (.agg [(i6 x_52),(i6 x_53),(.str s_54),(.vs 5 tg_55 l_56),(i6 x_57)])] [(4,⟨[(i6 x_30),(i6 x_31),(.str s_32),(.vs 5 tg_33 l_34),(i6 x_35)],[3]⟩),(5,⟨[(i6 7),(i6 0),(.str s_49),(.vs 5 true [(.agg [(i6 x_36),(i6 x_37),(.str s_38),(.vs 5 tg_39 l_40),(i6 x_41)])]),(i6 x_50)],[]⟩)] (hp q_60 T) nx) = some o := stM C 7 (fun _ _ => by kernel_rfl) ho
theorem p188_7 {T : Hp} {nx : Nat} {x_61 x_63 x_64 x_68 x_69 x_70 x_74 : Int} {c_62 tg_66 tg_72 : Bool} {s_65 s_71 : List UInt8} {l_67 l_73 : List AV} {q_75 : PS} (ho : Tr.val C 188
(.br (!(decide (q_75.kind = 3)))
(cl0 113 [(.str q_75.s)] fun r6 => .br (AV.pure r6.v)
(.mid 5 qD1 13 (mkS 57 [vv 0 (.ptr 0 0),vi 1 x_61,(4,.lp 4 0),(5,.lp 5 0),vv 14 (.ptr 0 0),vv 15 (.ptr 0 0),vv 16 (.ptr 0 2),vv 17 (.ptr 0 2),(18,.val (i6 q_75.kind) (.lH 0 2)),vb 19 (!(decide (q_75.kind = 3))),vb 20 true,vv 21 (.ptr 0 0),vv 22 (.ptr 0 0),vv 23 (.ptr 0 2),vv 24 (.ptr 0 3),(25,.val (.str q_75.s) (.lH 0 3)),vv 26 r6.v,vb 55 c_62] [(4,⟨[(i6 x_63),(i6 x_64),(.str s_65),(.vs 5 tg_66 l_67),(i6 x_68)],[3]⟩),(5,⟨[(i6 x_69),(i6 x_70),(.str s_71),(.vs 5 tg_72 l_73),(i6 x_74)],[3]⟩)] (hp q_75 T) nx)) .none)
(.ret ⟨(.agg [(i6 x_69),(i6 x_70),(.str s_71),(.vs 5 tg_72 l_73),(i6 x_74)]),(hp q_75 T),nx⟩)) = some o) : RL C 188 qD0 (mkS 57 [vv 0 (.ptr 0 0),vi 1 x_61,(4,.lp 4 0),(5,.lp 5 0),vb 55 c_62] [(4,⟨[(i6 x_63),(i6 x_64),(.str s_65),(.vs 5 tg_66 l_67),(i6 x_68)],[3]⟩),(5,⟨[(i6 x_69),(i6 x_70),(.str s_71),(.vs 5 tg_72 l_73),(i6 x_74)],[3]⟩)] (hp q_75 T) nx) = some o := stR C 8 (fun _ _ => by kernel_rfl) ho
theorem p188_8 {T : Hp} {nx : Nat} {x_61 x_63 x_64 x_68 x_69 x_70 x_74 x_76 x_77 : Int} {c_62 tg_66 tg_72 c_78 : Bool} {s_65 s_71 s_79 : List UInt8} {l_67 l_73 : List AV} {q_80 : PS} (ho : Tr.val C 188
(.br (decide (x_76 = x_61))
(.call 42 [(.ptr 0 0)] (hp q_80 T) nx fun r7 =>
(.mid 0 qD2 2 (mkS 57 [vv 0 (.ptr 0 0),vi 1 x_61,(4,.lp 4 0),(5,.lp 5 0),vv 43 (.ptr 0 0),vv 44 r7.v] [(4,⟨[(i6 x_63),(i6 x_64),(.str s_65),(.vs 5 tg_66 l_67),(i6 x_68)],[3]⟩),(5,⟨[(i6 7),(i6 0),(.str q_80.s),(.vs 5 true [(.agg [(i6 x_69),(i6 x_70),(.str s_71),(.vs 5 tg_72 l_73),(i6 x_74)])]),(i6 q_80.tat)],[]⟩)] r7.H r7.nx)))
(.ret ⟨(.agg [(i6 x_69),(i6 x_70),(.str s_71),(.vs 5 tg_72 l_73),(i6 x_74)]),(hp q_80 T),nx⟩)) = some o) : ML C 188 qD1 13 (mkS 57 [vv 0 (.ptr 0 0),vi 1 x_61,(4,.lp 4 0),(5,.lp 5 0),vv 14 (.ptr 0 0),vv 15 (.ptr 0 0),vv 16 (.ptr 0 2),vv 17 (.ptr 0 2),(18,.val (i6 x_77) (.lH 0 2)),vb 19 c_78,vb 20 true,vv 21 (.ptr 0 0),vv 22 (.ptr 0 0),vv 23 (.ptr 0 2),vv 24 (.ptr 0 3),(25,.val (.str s_79) (.lH 0 3)),vi 26 x_76,vb 55 c_62] [(4,⟨[(i6 x_63),(i6 x_64),(.str s_65),(.vs 5 tg_66 l_67),(i6 x_68)],[3]⟩),(5,⟨[(i6 x_69),(i6 x_70),(.str s_71),(.vs 5 tg_72 l_73),(i6 x_74)],[3]⟩)] (hp q_80 T) nx) = some o := stM C 7 (fun _ _ => by kernel_rfl) ho
theorem p215_c (hC : Ext C) {T : Hp} {nx : Nat} {q_85 : PS} (ho : RL C 215 [] (mkS 36 [vv 0 (.ptr 0 0)] [] (hp q_85 T) nx) = some o) : calL C 215 [(.ptr 0 0)] (hp q_85 T) nx = some o := hC.call rfl (fun _ _ => by kernel_rfl) ho
theorem p215_0 {T : Hp} {nx : Nat} {q_85 : PS} (ho : Tr.val C 215
(.call 82 [(.ptr 0 0),(.str [45])] (hp q_85 T) nx fun r1 =>
(.mid 0 [0,5,0,0] 2 (mkS 36 [vv 0 (.ptr 0 0),(2,.lp 2 0),vv 4 (.ptr 0 0),vv 5 r1.v] [cD0] r1.H r1.nx))) = some o) : RL C 215 [] (mkS 36 [vv 0 (.ptr 0 0)] [] (hp q_85 T) nx) = some o := stR C 5 (fun _ _ => by kernel_rfl) ho
theorem p215_1 {T : Hp} {nx : Nat} {c_86 : Bool} {q_88 : PS} (ho : Tr.val C 215
(.br (!c_86)
(.call 82 [(.ptr 0 0),(.str [33])] (hp q_88 T) nx fun r2 =>
(.mid 6 [0,5,0,0] 6 (mkS 36 [vv 0 (.ptr 0 0),(2,.lp 2 0),vv 4 (.ptr 0 0),vb 5 c_86,vb 6 (!c_86),vb 7 true,vv 8 (.ptr 0 0),vv 9 r2.v] [cD0] r2.H r2.nx)))
(.call 213 [(.ptr 0 0)] (hp q_88 T) nx fun r3 =>
(.mid 0 [0,5,0,0,5,7,5,0,5,0] 2 (mkS 36 [vv 0 (.ptr 0 0),(2,.lp 2 0),(3,.lp 3 0),vv 25 (.ptr 0 0),vv 26 r3.v] [cD0,(3,⟨[(i6 6),(i6 0),(.str q_88.s),(.vs 5 true []),(i6 q_88.tat)],[]⟩)] r3.H r3.nx)))) = some o) : ML C 215 [0,5,0,0] 2 (mkS 36 [vv 0 (.ptr 0 0),(2,.lp 2 0),vv 4 (.ptr 0 0),vb 5 c_86] [cD0] (hp q_88 T) nx) = some o := stM C 6 (fun _ _ => by kernel_rfl) ho
theorem p215_2 {T : Hp} {nx : Nat} {c_86 c_89 c_91 : Bool} {q_92 : PS} (ho : Tr.val C 215
(.br (!c_89)
(.call 231 [(.ptr 0 0)] (hp q_92 T) nx fun r4 =>
(.mid 3 [0,5,0,0,5,6,0] 2 (mkS 36 [vv 0 (.ptr 0 0),(2,.lp 2 0),vb 11 true,vv 12 (.ptr 0 0),vv 13 r4.v] [cD0] r4.H r4.nx)))
(.call 213 [(.ptr 0 0)] (hp q_92 T) nx fun r5 =>
(.mid 0 [0,5,0,0,5,7,5,0,5,0] 2 (mkS 36 [vv 0 (.ptr 0 0),(2,.lp 2 0),(3,.lp 3 0),vv 25 (.ptr 0 0),vv 26 r5.v] [cD0,(3,⟨[(i6 6),(i6 0),(.str q_92.s),(.vs 5 true []),(i6 q_92.tat)],[]⟩)] r5.H r5.nx)))) = some o) : ML C 215 [0,5,0,0] 6 (mkS 36 [vv 0 (.ptr 0 0),(2,.lp 2 0),vv 4 (.ptr 0 0),vb 5 c_86,vb 6 c_91,vb 7 true,vv 8 (.ptr 0 0),vb 9 c_89] [cD0] (hp q_92 T) nx) = some o := stM C 6 (fun _ _ => by kernel_rfl) ho
theorem p215_3 {T : Hp} {nx : Nat} {s_94 : List UInt8} {x_95 : Int} {q_96 : PS} (ho : Tr.val C 215
(.call 42 [(.ptr 0 0)] (hp q_96 T) nx fun r6 =>
(.mid 0 [0,5,0,0,5,7,5,0,5,0,5,0] 2 (mkS 36 [vv 0 (.ptr 0 0),(2,.lp 2 0),(3,.lp 3 0),vv 27 (.ptr 0 0),vv 28 r6.v] [cD0,(3,⟨[(i6 6),(i6 0),(.str s_94),(.vs 5 true []),(i6 x_95)],[]⟩)] r6.H r6.nx))) = some o) : ML C 215 [0,5,0,0,5,7,5,0,5,0] 2 (mkS 36 [vv 0 (.ptr 0 0),(2,.lp 2 0),(3,.lp 3 0),vv 25 (.ptr 0 0),vv 26 (.tuple [])] [cD0,(3,⟨[(i6 6),(i6 0),(.str s_94),(.vs 5 true []),(i6 x_95)],[]⟩)] (hp q_96 T) nx) = some o := stM C 2 (fun _ _ => by kernel_rfl) ho
theorem p215_4 {T : Hp} {nx : Nat} {x_97 x_98 x_102 : Int} {s_99 : List UInt8} {tg_100 : Bool} {l_101 : List AV} {q_104 : PS} (ho : Tr.val C 215
(.ret ⟨(.agg [(i6 x_97),(i6 x_98),(.str s_99),(.vs 5 tg_100 l_101),(i6 x_102)]),(hp q_104 T),nx⟩) = some o) : ML C 215 [0,5,0,0,5,6,0] 2 (mkS 36 [vv 0 (.ptr 0 0),(2,.lp 2 0),vb 11 true,vv 12 (.ptr 0 0),vv 13 (.agg [(i6 x_97),(i6 x_98),(.str s_99),(.vs 5 tg_100 l_101),(i6 x_102)])] [cD0] (hp q_104 T) nx) = some o := stM C 1 (fun _ _ => by kernel_rfl) ho
theorem p215_5 {T : Hp} {nx : Nat} {s_94 : List UInt8} {x_95 : Int} {q_110 : PS} (ho : Tr.val C 215
(.call 215 [(.ptr 0 0)] (hp q_110 T) nx fun r7 =>
(.mid 0 [0,5,0,0,5,7,5,0,5,0,5,0,5,0] 2 (mkS 36 [vv 0 (.ptr 0 0),(2,.lp 2 0),(3,.lp 3 0),vv 29 (.ptr 0 0),vv 30 r7.v] [cD0,(3,⟨[(i6 6),(i6 0),(.str s_94),(.vs 5 true []),(i6 x_95)],[]⟩)] r7.H r7.nx))) = some o) : ML C 215 [0,5,0,0,5,7,5,0,5,0,5,0] 2 (mkS 36 [vv 0 (.ptr 0 0),(2,.lp 2 0),(3,.lp 3 0),vv 27 (.ptr 0 0),vv 28 (.tuple [])] [cD0,(3,⟨[(i6 6),(i6 0),(.str s_94),(.vs 5 true []),(i6 x_95)],[]⟩)] (hp q_110 T) nx) = some o := stM C 2 (fun _ _ => by kernel_rfl) ho
theorem p215_6 {T : Hp} {nx : Nat} {s_94 s_113 : List UInt8} {x_95 x_111 x_112 x_116 : Int} {tg_114 : Bool} {l_115 : List AV} {q_118 : PS} (ho : Tr.val C 215
(.call 214 [(.ptr 0 0)] (hp q_118 T) nx fun r8 =>
(.mid 0 [0,5,0,0,5,7,5,0,5,0,5,0,5,0,5,0] 2 (mkS 36 [vv 0 (.ptr 0 0),(2,.lp 2 0),(3,.lp 3 0),vv 33 (.ptr 0 0),vv 34 r8.v] [cD0,(3,⟨[(i6 6),(i6 0),(.str s_94),(.vs 5 true [(.agg [(i6 x_111),(i6 x_112),(.str s_113),(.vs 5 tg_114 l_115),(i6 x_116)])]),(i6 x_95)],[]⟩)] r8.H r8.nx))) = some o) : ML C 215 [0,5,0,0,5,7,5,0,5,0,5,0,5,0] 2 (mkS 36 [vv 0 (.ptr 0 0),(2,.lp 2 0),(3,.lp 3 0),vv 29 (.ptr 0 0),vv 30 (.agg [(i6 x_111),(i6 x_112),(.str s_113),(.vs 5 tg_114 l_115),(i6 x_116)])] [cD0,(3,⟨[(i6 6),(i6 0),(.str s_94),(.vs 5 true []),(i6 x_95)],[]⟩)] (hp q_118 T) nx) = some o := stM C 2 (fun _ _ => by kernel_rfl) ho
theorem p215_7 {T : Hp} {nx : Nat} {s_94 s_113 : List UInt8} {x_95 x_111 x_112 x_116 : Int} {tg_114 : Bool} {l_115 : List AV} {q_120 : PS} (ho : Tr.val C 215
(.ret ⟨(.agg [(i6 6),(i6 0),(.str s_94),(.vs 5 true [(.agg [(i6 x_111),(i6 x_112),(.str s_113),(.vs 5 tg_114 l_115),(i6 x_116)])]),(i6 x_95)]),(hp q_120 T),nx⟩) = some o) : ML C 215 [0,5,0,0,5,7,5,0,5,0,5,0,5,0,5,0] 2 (mkS 36 [vv 0 (.ptr 0 0),(2,.lp 2 0),(3,.lp 3 0),vv 33 (.ptr 0 0),vv 34 (.tuple [])] [cD0,(3,⟨[(i6 6),(i6 0),(.str s_94),(.vs 5 true [(.agg [(i6 x_111),(i6 x_112),(.str s_113),(.vs 5 tg_114 l_115),(i6 x_116)])]),(i6 x_95)],[]⟩)] (hp q_120 T) nx) = some o := stM C 3 (fun _ _ => by kernel_rfl) ho
theorem p231_c (hC : Ext C) {T : Hp} {nx : Nat} {q_121 : PS} (ho : RL C 231 [] (mkS 82 [vv 0 (.ptr 0 0)] [] (hp q_121 T) nx) = some o) : calL C 231 [(.ptr 0 0)] (hp q_121 T) nx = some o := hC.call rfl (fun _ _ => by kernel_rfl) ho
theorem p231_0 {T : Hp} {nx : Nat} {q_121 : PS} (ho : Tr.val C 231
(.br (decide (q_121.kind = 2))
(.call 42 [(.ptr 0 0)] (hp q_121 T) nx fun r1 =>
(.mid 3 [0,5,0,5,0,5,0,2,0,5,6,0,5] 2 (mkS 82 [vv 0 (.ptr 0 0),(2,.lp 2 0),(4,.lp 4 0),vv 27 (.ptr 0 0),vv 28 r1.v] [cD0,(3,⟨[(i6 q_121.kind),(.str q_121.s),(i6 q_121.n),(i6 q_121.tat)],[]⟩),(4,⟨[(i6 1),(i6 q_121.n),(.str []),(.vs 5 true []),(i6 q_121.tat)],[]⟩)] r1.H r1.nx)))
(.br (decide (q_121.kind = 3))
(.call 42 [(.ptr 0 0)] (hp q_121 T) nx fun r2 =>
(.mid 0 [0,5,0,5,0,5,0,2,0,5,7,0,5,6,0,5] 2 (mkS 82 [vv 0 (.ptr 0 0),(2,.lp 2 0),(4,.lp 4 0),vv 37 (.ptr 0 0),vv 38 r2.v] [cD0,(3,⟨[(i6 q_121.kind),(.str q_121.s),(i6 q_121.n),(i6 q_121.tat)],[]⟩),(4,⟨[(i6 2),(i6 0),(.str q_121.s),(.vs 5 true []),(i6 q_121.tat)],[]⟩)] r2.H r2.nx)))
(.call 43 [(.ptr 0 0),(.str [116,114,117,101])] (hp q_121 T) nx fun r3 =>
(.mid 1 [0,5,0,5,0,5,0,2,0,5,7,0,5,7,0] 2 (mkS 82 [vv 0 (.ptr 0 0),(2,.lp 2 0),(3,.lp 3 0),(4,.lp 4 0),vb 29 false,vv 40 (.ptr 0 0),vv 41 r3.v] [cD0,(3,⟨[(i6 q_121.kind),(.str q_121.s),(i6 q_121.n),(i6 q_121.tat)],[]⟩),(4,⟨[(i6 0),(i6 0),(.str []),(.vs 5 true []),(i6 q_121.tat)],[]⟩)] r3.H r3.nx))))) = some o) : RL C 231 [] (mkS 82 [vv 0 (.ptr 0 0)] [] (hp q_121 T) nx) = some o := stR C 17 (fun _ _ => by kernel_rfl) ho
theorem p231_1 {T : Hp} {nx : Nat} {x_123 x_125 x_126 : Int} {s_124 : List UInt8} {q_127 : PS} (ho : Tr.val C 231
(.ret ⟨(.agg [(i6 1),(i6 x_125),(.str []),(.vs 5 true []),(i6 x_126)]),(hp q_127 T),nx⟩) = some o) : ML C 231 [0,5,0,5,0,5,0,2,0,5,6,0,5] 2 (mkS 82 [vv 0 (.ptr 0 0),(2,.lp 2 0),(4,.lp 4 0),vv 27 (.ptr 0 0),vv 28 (.tuple [])] [cD0,(3,⟨[(i6 x_123),(.str s_124),(i6 x_125),(i6 x_126)],[]⟩),(4,⟨[(i6 1),(i6 x_125),(.str []),(.vs 5 true []),(i6 x_126)],[]⟩)] (hp q_127 T) nx) = some o := stM C 4 (fun _ _ => by kernel_rfl) ho
theorem p231_2 {T : Hp} {nx : Nat} {x_129 x_131 x_132 : Int} {s_130 : List UInt8} {q_133 : PS} (ho : Tr.val C 231
(.ret ⟨(.agg [(i6 2),(i6 0),(.str s_130),(.vs 5 true []),(i6 x_132)]),(hp q_133 T),nx⟩) = some o) : ML C 231 [0,5,0,5,0,5,0,2,0,5,7,0,5,6,0,5] 2 (mkS 82 [vv 0 (.ptr 0 0),(2,.lp 2 0),(4,.lp 4 0),vv 37 (.ptr 0 0),vv 38 (.tuple [])] [cD0,(3,⟨[(i6 x_129),(.str s_130),(i6 x_131),(i6 x_132)],[]⟩),(4,⟨[(i6 2),(i6 0),(.str s_130),(.vs 5 true []),(i6 x_132)],[]⟩)] (hp q_133 T) nx) = some o := stM C 4 (fun _ _ => by kernel_rfl) ho
theorem p231_3 {T : Hp} {nx : Nat} {c_134 : Bool} {x_136 x_138 x_139 : Int} {s_137 : List UInt8} {q_140 : PS} (ho : Tr.val C 231
(.br c_134
(.call 42 [(.ptr 0 0)] (hp q_140 T) nx fun r4 =>
(.mid 0 [0,5,0,5,0,5,0,2,0,5,7,0,5,7,0,5,6,0,5] 2 (mkS 82 [vv 0 (.ptr 0 0),(2,.lp 2 0),(4,.lp 4 0),vv 44 (.ptr 0 0),vv 45 r4.v] [cD0,(3,⟨[(i6 x_136),(.str s_137),(i6 x_138),(i6 x_139)],[]⟩),(4,⟨[(i6 3),(i6 1),(.str []),(.vs 5 true []),(i6 x_139)],[]⟩)] r4.H r4.nx)))
(.call 43 [(.ptr 0 0),(.str [102,97,108,115,101])] (hp q_140 T) nx fun r5 =>
(.mid 1 [0,5,0,5,0,5,0,2,0,5,7,0,5,7,0,5,7,0] 2 (mkS 82 [vv 0 (.ptr 0 0),(2,.lp 2 0),(4,.lp 4 0),vb 39 false,vv 47 (.ptr 0 0),vv 48 r5.v] [cD0,(3,⟨[(i6 x_136),(.str s_137),(i6 x_138),(i6 x_139)],[]⟩),(4,⟨[(i6 0),(i6 0),(.str []),(.vs 5 true []),(i6 x_139)],[]⟩)] r5.H r5.nx)))) = some o) : ML C 231 [0,5,0,5,0,5,0,2,0,5,7,0,5,7,0] 2 (mkS 82 [vv 0 (.ptr 0 0),(2,.lp 2 0),(3,.lp 3 0),(4,.lp 4 0),vb 29 false,vv 40 (.ptr 0 0),vb 41 c_134] [cD0,(3,⟨[(i6 x_136),(.str s_137),(i6 x_138),(i6 x_139)],[]⟩),(4,⟨[(i6 0),(i6 0),(.str []),(.vs 5 true []),(i6 x_139)],[]⟩)] (hp q_140 T) nx) = some o := stM C 4 (fun _ _ => by kernel_rfl) ho
theorem p231_4 {T : Hp} {nx : Nat} {x_136 x_138 x_139 : Int} {s_137 : List UInt8} {q_142 : PS} (ho : Tr.val C 231
(.ret ⟨(.agg [(i6 3),(i6 1),(.str []),(.vs 5 true []),(i6 x_139)]),(hp q_142 T),nx⟩) = some o) : ML C 231 [0,5,0,5,0,5,0,2,0,5,7,0,5,7,0,5,6,0,5] 2 (mkS 82 [vv 0 (.ptr 0 0),(2,.lp 2 0),(4,.lp 4 0),vv 44 (.ptr 0 0),vv 45 (.tuple [])] [cD0,(3,⟨[(i6 x_136),(.str s_137),(i6 x_138),(i6 x_139)],[]⟩),(4,⟨[(i6 3),(i6 1),(.str []),(.vs 5 true []),(i6 x_139)],[]⟩)] (hp q_142 T) nx) = some o := stM C 4 (fun _ _ => by kernel_rfl) ho
theorem p231_5 {T : Hp} {nx : Nat} {x_136 x_138 x_139 : Int} {s_137 : List UInt8} {c_143 : Bool} {q_145 : PS} (ho : Tr.val C 231
(.br c_143
(.call 42 [(.ptr 0 0)] (hp q_145 T) nx fun r6 =>
(.mid 0 qD6 2 (mkS 82 [vv 0 (.ptr 0 0),(2,.lp 2 0),(4,.lp 4 0),vv 50 (.ptr 0 0),vv 51 r6.v] [cD0,(3,⟨[(i6 x_136),(.str s_137),(i6 x_138),(i6 x_139)],[]⟩),(4,⟨[(i6 3),(i6 0),(.str []),(.vs 5 true []),(i6 x_139)],[]⟩)] r6.H r6.nx)))
(.call 43 [(.ptr 0 0),(.str [115,105,122,101])] (hp q_145 T) nx fun r7 =>
(.mid 1 [0,5,0,5,0,5,0,2,0,5,7,0,5,7,0,5,7,0,5,7,0] 2 (mkS 82 [vv 0 (.ptr 0 0),(2,.lp 2 0),(4,.lp 4 0),vb 46 false,vv 53 (.ptr 0 0),vv 54 r7.v] [cD0,(3,⟨[(i6 x_136),(.str s_137),(i6 x_138),(i6 x_139)],[]⟩),(4,⟨[(i6 0),(i6 0),(.str []),(.vs 5 true []),(i6 x_139)],[]⟩)] r7.H r7.nx)))) = some o) : ML C 231 [0,5,0,5,0,5,0,2,0,5,7,0,5,7,0,5,7,0] 2 (mkS 82 [vv 0 (.ptr 0 0),(2,.lp 2 0),(4,.lp 4 0),vb 39 false,vv 47 (.ptr 0 0),vb 48 c_143] [cD0,(3,⟨[(i6 x_136),(.str s_137),(i6 x_138),(i6 x_139)],[]⟩),(4,⟨[(i6 0),(i6 0),(.str []),(.vs 5 true []),(i6 x_139)],[]⟩)] (hp q_145 T) nx) = some o := stM C 4 (fun _ _ => by kernel_rfl) ho
theorem p231_6 {T : Hp} {nx : Nat} {x_136 x_138 x_139 : Int} {s_137 : List UInt8} {q_147 : PS} (ho : Tr.val C 231
(.ret ⟨(.agg [(i6 3),(i6 0),(.str []),(.vs 5 true []),(i6 x_139)]),(hp q_147 T),nx⟩) = some o) : ML C 231 qD6 2 (mkS 82 [vv 0 (.ptr 0 0),(2,.lp 2 0),(4,.lp 4 0),vv 50 (.ptr 0 0),vv 51 (.tuple [])] [cD0,(3,⟨[(i6 x_136),(.str s_137),(i6 x_138),(i6 x_139)],[]⟩),(4,⟨[(i6 3),(i6 0),(.str []),(.vs 5 true []),(i6 x_139)],[]⟩)] (hp q_147 T) nx) = some o := stM C 4 (fun _ _ => by kernel_rfl) ho
theorem p231_7 {T : Hp} {nx : Nat} {x_136 x_138 x_139 : Int} {s_137 : List UInt8} {c_148 : Bool} {q_150 : PS} (ho : Tr.val C 231
(.br c_148
(.call 42 [(.ptr 0 0)] (hp q_150 T) nx fun r8 =>
(.mid 0 qD7 2 (mkS 82 [vv 0 (.ptr 0 0),(2,.lp 2 0),(4,.lp 4 0),vv 56 (.ptr 0 0),vv 57 r8.v] [cD0,(3,⟨[(i6 x_136),(.str s_137),(i6 x_138),(i6 x_139)],[]⟩),(4,⟨[(i6 5),(i6 0),(.str []),(.vs 5 true []),(i6 x_139)],[]⟩)] r8.H r8.nx)))
(.call 82 [(.ptr 0 0),(.str [40])] (hp q_150 T) nx fun r9 =>
(.mid 2 qD8 2 (mkS 82 [vv 0 (.ptr 0 0),(2,.lp 2 0),(4,.lp 4 0),vb 52 false,vv 69 (.ptr 0 0),vv 70 r9.v] [cD0,(3,⟨[(i6 x_136),(.str s_137),(i6 x_138),(i6 x_139)],[]⟩),(4,⟨[(i6 0),(i6 0),(.str []),(.vs 5 true []),(i6 x_139)],[]⟩)] r9.H r9.nx)))) = some o) : ML C 231 [0,5,0,5,0,5,0,2,0,5,7,0,5,7,0,5,7,0,5,7,0] 2 (mkS 82 [vv 0 (.ptr 0 0),(2,.lp 2 0),(4,.lp 4 0),vb 46 false,vv 53 (.ptr 0 0),vb 54 c_148] [cD0,(3,⟨[(i6 x_136),(.str s_137),(i6 x_138),(i6 x_139)],[]⟩),(4,⟨[(i6 0),(i6 0),(.str []),(.vs 5 true []),(i6 x_139)],[]⟩)] (hp q_150 T) nx) = some o := stM C 5 (fun _ _ => by kernel_rfl) ho
theorem p231_8 {T : Hp} {nx : Nat} {x_136 x_138 x_139 : Int} {s_137 : List UInt8} {q_152 : PS} (ho : Tr.val C 231
(.call 81 [(.ptr 0 0),(.str [40])] (hp q_152 T) nx fun r10 =>
(.mid 0 qD9 2 (mkS 82 [vv 0 (.ptr 0 0),(2,.lp 2 0),(4,.lp 4 0),vv 58 (.ptr 0 0),vv 59 r10.v] [cD0,(3,⟨[(i6 x_136),(.str s_137),(i6 x_138),(i6 x_139)],[]⟩),(4,⟨[(i6 5),(i6 0),(.str []),(.vs 5 true []),(i6 x_139)],[]⟩)] r10.H r10.nx))) = some o) : ML C 231 qD7 2 (mkS 82 [vv 0 (.ptr 0 0),(2,.lp 2 0),(4,.lp 4 0),vv 56 (.ptr 0 0),vv 57 (.tuple [])] [cD0,(3,⟨[(i6 x_136),(.str s_137),(i6 x_138),(i6 x_139)],[]⟩),(4,⟨[(i6 5),(i6 0),(.str []),(.vs 5 true []),(i6 x_139)],[]⟩)] (hp q_152 T) nx) = some o := stM C 2 (fun _ _ => by kernel_rfl) ho
theorem p231_9 {T : Hp} {nx : Nat} {x_136 x_138 x_139 : Int} {s_137 : List UInt8} {c_153 : Bool} {q_155 : PS} (ho : Tr.val C 231
(.br c_153
(.call 213 [(.ptr 0 0)] (hp q_155 T) nx fun r11 =>
(.mid 1 qD10 2 (mkS 82 [vv 0 (.ptr 0 0),(2,.lp 2 0),(4,.lp 4 0),vb 68 true,vv 71 (.ptr 0 0),vv 72 r11.v] [cD0,(3,⟨[(i6 x_136),(.str s_137),(i6 x_138),(i6 x_139)],[]⟩),(4,⟨[(i6 0),(i6 0),(.str []),(.vs 5 true []),(i6 x_139)],[]⟩)] r11.H r11.nx)))
(.call 80 [(.ptr 0 0)] (hp q_155 T) nx fun r12 =>
(.mid 0 qD11 2 (mkS 82 [vv 0 (.ptr 0 0),(2,.lp 2 0),(4,.lp 4 0),vv 14 (.ptr 0 0),vv 15 r12.v] [cD0,(3,⟨[(i6 x_136),(.str s_137),(i6 x_138),(i6 x_139)],[]⟩),(4,⟨[(i6 4),(i6 0),(.str []),(.vs 5 true []),(i6 x_139)],[]⟩)] r12.H r12.nx)))) = some o) : ML C 231 qD8 2 (mkS 82 [vv 0 (.ptr 0 0),(2,.lp 2 0),(4,.lp 4 0),vb 52 false,vv 69 (.ptr 0 0),vb 70 c_153] [cD0,(3,⟨[(i6 x_136),(.str s_137),(i6 x_138),(i6 x_139)],[]⟩),(4,⟨[(i6 0),(i6 0),(.str []),(.vs 5 true []),(i6 x_139)],[]⟩)] (hp q_155 T) nx) = some o := stM C 4 (fun _ _ => by kernel_rfl) ho
theorem p231_10 {T : Hp} {nx : Nat} {x_136 x_138 x_139 : Int} {s_137 : List UInt8} {q_157 : PS} (ho : Tr.val C 231
(.call 80 [(.ptr 0 0)] (hp q_157 T) nx fun r13 =>
(.mid 0 qD12 2 (mkS 82 [vv 0 (.ptr 0 0),(2,.lp 2 0),(4,.lp 4 0),vv 61 (.ptr 0 0),vv 62 r13.v] [cD0,(3,⟨[(i6 x_136),(.str s_137),(i6 x_138),(i6 x_139)],[]⟩),(4,⟨[(i6 5),(i6 0),(.str []),(.vs 5 true []),(i6 x_139)],[]⟩)] r13.H r13.nx))) = some o) : ML C 231 qD9 2 (mkS 82 [vv 0 (.ptr 0 0),(2,.lp 2 0),(4,.lp 4 0),vv 58 (.ptr 0 0),vv 59 (.tuple [])] [cD0,(3,⟨[(i6 x_136),(.str s_137),(i6 x_138),(i6 x_139)],[]⟩),(4,⟨[(i6 5),(i6 0),(.str []),(.vs 5 true []),(i6 x_139)],[]⟩)] (hp q_157 T) nx) = some o := stM C 2 (fun _ _ => by kernel_rfl) ho
theorem p231_11 {T : Hp} {nx : Nat} {x_136 x_138 x_139 : Int} {s_137 : List UInt8} {q_159 : PS} (ho : Tr.val C 231
(.call 42 [(.ptr 0 0)] (hp q_159 T) nx fun r14 =>
(.mid 0 qD13 2 (mkS 82 [vv 0 (.ptr 0 0),(2,.lp 2 0),(4,.lp 4 0),vv 73 (.ptr 0 0),vv 74 r14.v] [cD0,(3,⟨[(i6 x_136),(.str s_137),(i6 x_138),(i6 x_139)],[]⟩),(4,⟨[(i6 0),(i6 0),(.str []),(.vs 5 true []),(i6 x_139)],[]⟩)] r14.H r14.nx))) = some o) : ML C 231 qD10 2 (mkS 82 [vv 0 (.ptr 0 0),(2,.lp 2 0),(4,.lp 4 0),vb 68 true,vv 71 (.ptr 0 0),vv 72 (.tuple [])] [cD0,(3,⟨[(i6 x_136),(.str s_137),(i6 x_138),(i6 x_139)],[]⟩),(4,⟨[(i6 0),(i6 0),(.str []),(.vs 5 true []),(i6 x_139)],[]⟩)] (hp q_159 T) nx) = some o := stM C 2 (fun _ _ => by kernel_rfl) ho
theorem p231_12 {T : Hp} {nx : Nat} {x_136 x_138 x_139 x_161 : Int} {s_137 s_160 : List UInt8} {q_163 : PS} (ho : Tr.val C 231
(.ret ⟨(.agg [(i6 4),(i6 0),(.str s_160),(.vs 5 true []),(i6 x_139)]),(hp q_163 T),nx⟩) = some o) : ML C 231 qD11 2 (mkS 82 [vv 0 (.ptr 0 0),(2,.lp 2 0),(4,.lp 4 0),vv 14 (.ptr 0 0),vv 15 (.tuple [(.str s_160),(i6 x_161)])] [cD0,(3,⟨[(i6 x_136),(.str s_137),(i6 x_138),(i6 x_139)],[]⟩),(4,⟨[(i6 4),(i6 0),(.str []),(.vs 5 true []),(i6 x_139)],[]⟩)] (hp q_163 T) nx) = some o := stM C 4 (fun _ _ => by kernel_rfl) ho
theorem p231_13 {T : Hp} {nx : Nat} {x_136 x_138 x_139 x_165 : Int} {s_137 s_164 : List UInt8} {q_167 : PS} (ho : Tr.val C 231
(.call 81 [(.ptr 0 0),(.str [41])] (hp q_167 T) nx fun r15 =>
(.mid 0 qD14 2 (mkS 82 [vv 0 (.ptr 0 0),(2,.lp 2 0),(4,.lp 4 0),vv 66 (.ptr 0 0),vv 67 r15.v] [cD0,(3,⟨[(i6 x_136),(.str s_137),(i6 x_138),(i6 x_139)],[]⟩),(4,⟨[(i6 5),(i6 0),(.str s_164),(.vs 5 true []),(i6 x_139)],[]⟩)] r15.H r15.nx))) = some o) : ML C 231 qD12 2 (mkS 82 [vv 0 (.ptr 0 0),(2,.lp 2 0),(4,.lp 4 0),vv 61 (.ptr 0 0),vv 62 (.tuple [(.str s_164),(i6 x_165)])] [cD0,(3,⟨[(i6 x_136),(.str s_137),(i6 x_138),(i6 x_139)],[]⟩),(4,⟨[(i6 5),(i6 0),(.str []),(.vs 5 true []),(i6 x_139)],[]⟩)] (hp q_167 T) nx) = some o := stM C 1 (fun _ _ => by kernel_rfl) ho
theorem p231_14 {T : Hp} {nx : Nat} {x_136 x_138 x_139 : Int} {s_137 : List UInt8} {q_169 : PS} (ho : Tr.val C 231
(.call 151 [(.ptr 0 0)] (hp q_169 T) nx fun r16 =>
(.mid 0 qD15 2 (mkS 82 [vv 0 (.ptr 0 0),(2,.lp 2 0),(4,.lp 4 0),vv 75 (.ptr 0 0),vv 76 r16.v] [cD0,(3,⟨[(i6 x_136),(.str s_137),(i6 x_138),(i6 x_139)],[]⟩),(4,⟨[(i6 0),(i6 0),(.str []),(.vs 5 true []),(i6 x_139)],[]⟩)] r16.H r16.nx))) = some o) : ML C 231 qD13 2 (mkS 82 [vv 0 (.ptr 0 0),(2,.lp 2 0),(4,.lp 4 0),vv 73 (.ptr 0 0),vv 74 (.tuple [])] [cD0,(3,⟨[(i6 x_136),(.str s_137),(i6 x_138),(i6 x_139)],[]⟩),(4,⟨[(i6 0),(i6 0),(.str []),(.vs 5 true []),(i6 x_139)],[]⟩)] (hp q_169 T) nx) = some o := stM C 2 (fun _ _ => by kernel_rfl) ho
theorem p231_15 {T : Hp} {nx : Nat} {x_136 x_138 x_139 : Int} {s_137 s_164 : List UInt8} {q_171 : PS} (ho : Tr.val C 231
(.ret ⟨(.agg [(i6 5),(i6 0),(.str s_164),(.vs 5 true []),(i6 x_139)]),(hp q_171 T),nx⟩) = some o) : ML C 231 qD14 2 (mkS 82 [vv 0 (.ptr 0 0),(2,.lp 2 0),(4,.lp 4 0),vv 66 (.ptr 0 0),vv 67 (.tuple [])] [cD0,(3,⟨[(i6 x_136),(.str s_137),(i6 x_138),(i6 x_139)],[]⟩),(4,⟨[(i6 5),(i6 0),(.str s_164),(.vs 5 true []),(i6 x_139)],[]⟩)] (hp q_171 T) nx) = some o := stM C 4 (fun _ _ => by kernel_rfl) ho
theorem p231_16 {T : Hp} {nx : Nat} {x_136 x_138 x_139 x_172 x_173 x_177 : Int} {s_137 s_174 : List UInt8} {tg_175 : Bool} {l_176 : List AV} {q_179 : PS} (ho : Tr.val C 231
(.call 214 [(.ptr 0 0)] (hp q_179 T) nx fun r17 =>
(.mid 0 qD16 2 (mkS 82 [vv 0 (.ptr 0 0),(2,.lp 2 0),(4,.lp 4 0),vv 77 (.ptr 0 0),vv 78 r17.v] [cD0,(3,⟨[(i6 x_136),(.str s_137),(i6 x_138),(i6 x_139)],[]⟩),(4,⟨[(i6 x_172),(i6 x_173),(.str s_174),(.vs 5 tg_175 l_176),(i6 x_177)],[]⟩)] r17.H r17.nx))) = some o) : ML C 231 qD15 2 (mkS 82 [vv 0 (.ptr 0 0),(2,.lp 2 0),(4,.lp 4 0),vv 75 (.ptr 0 0),vv 76 (.agg [(i6 x_172),(i6 x_173),(.str s_174),(.vs 5 tg_175 l_176),(i6 x_177)])] [cD0,(3,⟨[(i6 x_136),(.str s_137),(i6 x_138),(i6 x_139)],[]⟩),(4,⟨[(i6 0),(i6 0),(.str []),(.vs 5 true []),(i6 x_139)],[]⟩)] (hp q_179 T) nx) = some o := stM C 2 (fun _ _ => by kernel_rfl) ho
theorem p231_17 {T : Hp} {nx : Nat} {x_136 x_138 x_139 x_172 x_173 x_177 : Int} {s_137 s_174 : List UInt8} {tg_175 : Bool} {l_176 : List AV} {q_181 : PS} (ho : Tr.val C 231
(.call 81 [(.ptr 0 0),(.str [41])] (hp q_181 T) nx fun r18 =>
(.mid 0 qD17 2 (mkS 82 [vv 0 (.ptr 0 0),(2,.lp 2 0),(4,.lp 4 0),vv 79 (.ptr 0 0),vv 80 r18.v] [cD0,(3,⟨[(i6 x_136),(.str s_137),(i6 x_138),(i6 x_139)],[]⟩),(4,⟨[(i6 x_172),(i6 x_173),(.str s_174),(.vs 5 tg_175 l_176),(i6 x_177)],[]⟩)] r18.H r18.nx))) = some o) : ML C 231 qD16 2 (mkS 82 [vv 0 (.ptr 0 0),(2,.lp 2 0),(4,.lp 4 0),vv 77 (.ptr 0 0),vv 78 (.tuple [])] [cD0,(3,⟨[(i6 x_136),(.str s_137),(i6 x_138),(i6 x_139)],[]⟩),(4,⟨[(i6 x_172),(i6 x_173),(.str s_174),(.vs 5 tg_175 l_176),(i6 x_177)],[]⟩)] (hp q_181 T) nx) = some o := stM C 1 (fun _ _ => by kernel_rfl) ho
theorem p231_18 {T : Hp} {nx : Nat} {x_136 x_138 x_139 x_172 x_173 x_177 : Int} {s_137 s_174 : List UInt8} {tg_175 : Bool} {l_176 : List AV} {q_183 : PS} (ho : Tr.val C 231
(.ret ⟨(.agg [(i6 x_172),(i6 x_173),(.str s_174),(.vs 5 tg_175 l_176),(i6 x_177)]),(hp q_183 T),nx⟩) = some o) : ML C 231 qD17 2 (mkS 82 [vv 0 (.ptr 0 0),(2,.lp 2 0),(4,.lp 4 0),vv 79 (.ptr 0 0),vv 80 (.tuple [])] [cD0,(3,⟨[(i6 x_136),(.str s_137),(i6 x_138),(i6 x_139)],[]⟩),(4,⟨[(i6 x_172),(i6 x_173),(.str s_174),(.vs 5 tg_175 l_176),(i6 x_177)],[]⟩)] (hp q_183 T) nx) = some o := stM C 4 (fun _ _ => by kernel_rfl) ho
theorem p149_c (hC : Ext C) {T : Hp} {nx : Nat} {q_184 : PS} (ho : RL C 149 [] (mkS 26 [vv 0 (.ptr 0 0)] [] (hp q_184 T) nx) = some o) : calL C 149 [(.ptr 0 0)] (hp q_184 T) nx = some o := hC.call rfl (fun _ _ => by kernel_rfl) ho
theorem p149_0 {T : Hp} {nx : Nat} {q_184 : PS} (ho : Tr.val C 149
(.call 81 [(.ptr 0 0),(.str [40])] (hp q_184 T) nx fun r1 =>
(.mid 0 [0,5,0,5,0] 2 (mkS 26 [vv 0 (.ptr 0 0),(3,.val (.vs 3 true []) .own),vv 4 (.ptr 0 0),vv 5 r1.v] [] r1.H r1.nx))) = some o) : RL C 149 [] (mkS 26 [vv 0 (.ptr 0 0)] [] (hp q_184 T) nx) = some o := stR C 6 (fun _ _ => by kernel_rfl) ho
theorem p149_1 {T : Hp} {nx : Nat} {q_186 : PS} (ho : Tr.val C 149
(.call 82 [(.ptr 0 0),(.str [41])] (hp q_186 T) nx fun r2 =>
(.mid 0 [0,5,0,5,0,5,0,0] 2 (mkS 26 [vv 0 (.ptr 0 0),(3,.val (.vs 3 true []) .own),vv 6 (.ptr 0 0),vv 7 r2.v] [] r2.H r2.nx))) = some o) : ML C 149 [0,5,0,5,0] 2 (mkS 26 [vv 0 (.ptr 0 0),(3,.val (.vs 3 true []) .own),vv 4 (.ptr 0 0),vv 5 (.tuple [])] [] (hp q_186 T) nx) = some o := stM C 3 (fun _ _ => by kernel_rfl) ho
theorem p149_2 {T : Hp} {nx : Nat} {c_187 : Bool} {q_189 : PS} (ho : Tr.val C 149
(.br (!c_187)
(.call 186 [(.ptr 0 0)] (hp q_189 T) nx fun r3 =>
(.mid 1 [0,5,0,5,0,5,0,0,5,6,0] 3 (mkS 26 [vv 0 (.ptr 0 0),(3,.val (.vs 3 true []) .own),vb 8 true,(9,.val (.vs 3 true []) (.lS 3)),vv 10 (.ptr 0 0),vv 11 r3.v] [] r3.H r3.nx)))
(.call 81 [(.ptr 0 0),(.str [41])] (hp q_189 T) nx fun r4 =>
(.mid 0 [0,5,0,5,0,5,0,0,5,7,5,0] 2 (mkS 26 [vv 0 (.ptr 0 0),(3,.val (.vs 3 true []) .own),vb 8 false,vv 23 (.ptr 0 0),vv 24 r4.v] [] r4.H r4.nx)))) = some o) : ML C 149 [0,5,0,5,0,5,0,0] 2 (mkS 26 [vv 0 (.ptr 0 0),(3,.val (.vs 3 true []) .own),vv 6 (.ptr 0 0),vb 7 c_187] [] (hp q_189 T) nx) = some o := stM C 4 (fun _ _ => by kernel_rfl) ho
theorem p149_3 {T : Hp} {nx : Nat} {s_190 : List UInt8} {x_191 x_192 : Int} {q_194 : PS} (ho : Tr.val C 149
(.br (Nat.ble 32 za1)
(.br (Nat.ble 1 za1)
(.run 0 qD3 (mkS 26 [vv 0 (.ptr 0 0),(3,.val (.vs 3 false [(.agg [(.str s_190),(i6 x_191),(i6 x_192)])]) .own)] [] (hp q_194 T) nx)) .none) .none) = some o) : ML C 149 [0,5,0,5,0,5,0,0,5,6,0] 3 (mkS 26 [vv 0 (.ptr 0 0),(3,.val (.vs 3 true []) .own),vb 8 true,(9,.val (.vs 3 true []) (.lS 3)),vv 10 (.ptr 0 0),vv 11 (.agg [(.str s_190),(i6 x_191),(i6 x_192)])] [] (hp q_194 T) nx) = some o := stM C 2 (fun _ _ => by kernel_rfl) ho
theorem p149_4 {T : Hp} {nx : Nat} {q_196 : PS} (ho : Tr.val C 149
(.ret ⟨(.vs 3 true []),(hp q_196 T),nx⟩) = some o) : ML C 149 [0,5,0,5,0,5,0,0,5,7,5,0] 2 (mkS 26 [vv 0 (.ptr 0 0),(3,.val (.vs 3 true []) .own),vb 8 false,vv 23 (.ptr 0 0),vv 24 (.tuple [])] [] (hp q_196 T) nx) = some o := stM C 3 (fun _ _ => by kernel_rfl) ho
theorem p149_5 {T : Hp} {nx : Nat} {tg_197 : Bool} {l_198 : List AV} {q_199 : PS} (ho : Tr.val C 149
(.call 82 [(.ptr 0 0),(.str [44])] (hp q_199 T) nx fun r5 =>
(.mid 0 [0,5,0,5,0,5,0,0,5,6,0,5,2,3,0,0] 2 (mkS 26 [vv 0 (.ptr 0 0),(3,.val (.vs 3 tg_197 l_198) .own),vv 14 (.ptr 0 0),vv 15 r5.v] [] r5.H r5.nx))) = some o) : RL C 149 qD3 (mkS 26 [vv 0 (.ptr 0 0),(3,.val (.vs 3 tg_197 l_198) .own)] [] (hp q_199 T) nx) = some o := stR C 3 (fun _ _ => by kernel_rfl) ho
theorem p149_6 {T : Hp} {nx : Nat} {tg_197 c_200 : Bool} {l_198 : List AV} {q_202 : PS} (ho : Tr.val C 149
(.br c_200
(.call 42 [(.ptr 0 0)] (hp q_202 T) nx fun r6 =>
(.mid 0 [0,5,0,5,0,5,0,0,5,6,0,5,2,3,0,0,5,6,5,2,0] 2 (mkS 26 [vv 0 (.ptr 0 0),(3,.val (.vs 3 tg_197 l_198) .own),vb 15 true,vv 16 (.ptr 0 0),vv 17 r6.v] [] r6.H r6.nx)))
(.call 81 [(.ptr 0 0),(.str [41])] (hp q_202 T) nx fun r7 =>
(.mid 1 qD18 2 (mkS 26 [vv 0 (.ptr 0 0),(3,.val (.vs 3 tg_197 l_198) .own),vb 15 false,vv 23 (.ptr 0 0),vv 24 r7.v] [] r7.H r7.nx)))) = some o) : ML C 149 [0,5,0,5,0,5,0,0,5,6,0,5,2,3,0,0] 2 (mkS 26 [vv 0 (.ptr 0 0),(3,.val (.vs 3 tg_197 l_198) .own),vv 14 (.ptr 0 0),vb 15 c_200] [] (hp q_202 T) nx) = some o := stM C 5 (fun _ _ => by kernel_rfl) ho
theorem p149_7 {T : Hp} {nx : Nat} {tg_197 : Bool} {l_198 : List AV} {q_204 : PS} (ho : Tr.val C 149
(.call 186 [(.ptr 0 0)] (hp q_204 T) nx fun r8 =>
(.mid 0 qD19 3 (mkS 26 [vv 0 (.ptr 0 0),(3,.val (.vs 3 tg_197 l_198) .own),(18,.val (.vs 3 tg_197 l_198) (.lS 3)),vv 19 (.ptr 0 0),vv 20 r8.v] [] r8.H r8.nx))) = some o) : ML C 149 [0,5,0,5,0,5,0,0,5,6,0,5,2,3,0,0,5,6,5,2,0] 2 (mkS 26 [vv 0 (.ptr 0 0),(3,.val (.vs 3 tg_197 l_198) .own),vb 15 true,vv 16 (.ptr 0 0),vv 17 (.tuple [])] [] (hp q_204 T) nx) = some o := stM C 1 (fun _ _ => by kernel_rfl) ho
theorem p149_8 {T : Hp} {nx : Nat} {tg_197 : Bool} {l_198 : List AV} {q_206 : PS} (ho : Tr.val C 149
(.ret ⟨(.vs 3 tg_197 l_198),(hp q_206 T),nx⟩) = some o) : ML C 149 qD18 2 (mkS 26 [vv 0 (.ptr 0 0),(3,.val (.vs 3 tg_197 l_198) .own),vb 15 false,vv 23 (.ptr 0 0),vv 24 (.tuple [])] [] (hp q_206 T) nx) = some o := stM C 3 (fun _ _ => by kernel_rfl) ho
theorem p149_9 {T : Hp} {nx : Nat} {tg_197 : Bool} {l_198 : List AV} {s_207 : List UInt8} {x_208 x_209 : Int} {q_211 : PS} (ho : Tr.val C 149
(.br (Nat.ble ((l_198.length + 1) * 32) za1)
(.br (Nat.ble (l_198.length + 1) za1)
(.run 0 qD3 (mkS 26 [vv 0 (.ptr 0 0),(3,.val (.vs 3 false (l_198 ++ [(.agg [(.str s_207),(i6 x_208),(i6 x_209)])])) .own)] [] (hp q_211 T) nx)) .none) .none) = some o) : ML C 149 qD19 3 (mkS 26 [vv 0 (.ptr 0 0),(3,.val (.vs 3 tg_197 l_198) .own),(18,.val (.vs 3 tg_197 l_198) (.lS 3)),vv 19 (.ptr 0 0),vv 20 (.agg [(.str s_207),(i6 x_208),(i6 x_209)])] [] (hp q_211 T) nx) = some o := stM C 2 (fun _ _ => by kernel_rfl) ho
theorem p186_c (hC : Ext C) {T : Hp} {nx : Nat} {q_212 : PS} (ho : RL C 186 [] (mkS 16 [vv 0 (.ptr 0 0)] [] (hp q_212 T) nx) = some o) : calL C 186 [(.ptr 0 0)] (hp q_212 T) nx = some o := hC.call rfl (fun _ _ => by kernel_rfl) ho
theorem p186_0 {T : Hp} {nx : Nat} {q_212 : PS} (ho : Tr.val C 186
(.call 80 [(.ptr 0 0)] (hp q_212 T) nx fun r1 =>
(.mid 0 [0,5,0,5,0] 2 (mkS 16 [vv 0 (.ptr 0 0),(2,.lp 2 0),(3,.lp 3 0),vv 5 (.ptr 0 0),vv 6 r1.v] [cD3,(3,⟨[(.str []),(i6 0),(i6 0)],[]⟩)] r1.H r1.nx))) = some o) : RL C 186 [] (mkS 16 [vv 0 (.ptr 0 0)] [] (hp q_212 T) nx) = some o := stR C 6 (fun _ _ => by kernel_rfl) ho
theorem p186_1 {T : Hp} {nx : Nat} {s_213 : List UInt8} {x_214 : Int} {q_216 : PS} (ho : Tr.val C 186
(.call 148 [(.ptr 0 0),(.vs 1 true [(.str [105,110,116]),(.str [116,101,120,116]),(.str [98,111,111,108])])] (hp q_216 T) nx fun r2 =>
(.mid 0 [0,5,0,5,0,5,0] 3 (mkS 16 [vv 0 (.ptr 0 0),(2,.lp 2 0),(3,.lp 3 0),vv 11 (.ptr 0 0),vv 12 cD5,vv 13 r2.v] [cD3,(3,⟨[(.str s_213),(i6 0),(i6 x_214)],[]⟩)] r2.H r2.nx))) = some o) : ML C 186 [0,5,0,5,0] 2 (mkS 16 [vv 0 (.ptr 0 0),(2,.lp 2 0),(3,.lp 3 0),vv 5 (.ptr 0 0),vv 6 (.tuple [(.str s_213),(i6 x_214)])] [cD3,(3,⟨[(.str []),(i6 0),(i6 0)],[]⟩)] (hp q_216 T) nx) = some o := stM C 2 (fun _ _ => by kernel_rfl) ho
theorem p186_2 {T : Hp} {nx : Nat} {s_213 : List UInt8} {x_214 x_217 : Int} {q_219 : PS} (ho : Tr.val C 186
(.ret ⟨(.agg [(.str s_213),(i6 x_217),(i6 x_214)]),(hp q_219 T),nx⟩) = some o) : ML C 186 [0,5,0,5,0,5,0] 3 (mkS 16 [vv 0 (.ptr 0 0),(2,.lp 2 0),(3,.lp 3 0),vv 11 (.ptr 0 0),vv 12 cD5,vi 13 x_217] [cD3,(3,⟨[(.str s_213),(i6 0),(i6 x_214)],[]⟩)] (hp q_219 T) nx) = some o := stM C 3 (fun _ _ => by kernel_rfl) ho
theorem p150_c (hC : Ext C) {T : Hp} {nx : Nat} {q_220 : PS} (ho : RL C 150 [] (mkS 24 [vv 0 (.ptr 0 0)] [] (hp q_220 T) nx) = some o) : calL C 150 [(.ptr 0 0)] (hp q_220 T) nx = some o := hC.call rfl (fun _ _ => by kernel_rfl) ho
theorem p150_0 {T : Hp} {nx : Nat} {q_220 : PS} (ho : Tr.val C 150
(.call 81 [(.ptr 0 0),(.str [123])] (hp q_220 T) nx fun r1 =>
(.mid 0 [0,5,0,5,0] 2 (mkS 24 [vv 0 (.ptr 0 0),(3,.val (.vs 6 true []) .own),vv 4 (.ptr 0 0),vv 5 r1.v] [] r1.H r1.nx))) = some o) : RL C 150 [] (mkS 24 [vv 0 (.ptr 0 0)] [] (hp q_220 T) nx) = some o := stR C 6 (fun _ _ => by kernel_rfl) ho
theorem p150_1 {T : Hp} {nx : Nat} {q_222 : PS} (ho : Tr.val C 150
(.run 0 [0,5,0,5,0,5,0,2,3] (mkS 24 [vv 0 (.ptr 0 0),(3,.val (.vs 6 true []) .own)] [] (hp q_222 T) nx)) = some o) : ML C 150 [0,5,0,5,0] 2 (mkS 24 [vv 0 (.ptr 0 0),(3,.val (.vs 6 true []) .own),vv 4 (.ptr 0 0),vv 5 (.tuple [])] [] (hp q_222 T) nx) = some o := stM C 3 (fun _ _ => by kernel_rfl) ho
theorem p150_2 {T : Hp} {nx : Nat} {tg_223 : Bool} {l_224 : List AV} {q_225 : PS} (ho : Tr.val C 150
(.br (decide (q_225.err = 0))
(.call 82 [(.ptr 0 0),(.str [125])] (hp q_225 T) nx fun r2 =>
(.mid 4 [0,5,0,5,0,5,0,2,3,0,0] 8 (mkS 24 [vv 0 (.ptr 0 0),(3,.val (.vs 6 tg_223 l_224) .own),vv 6 (.ptr 0 0),vv 7 (.ptr 0 0),vv 8 (.ptr 0 7),vi 9 q_225.err,vb 10 (decide (q_225.err = 0)),vb 11 true,vv 12 (.ptr 0 0),vv 13 r2.v] [] r2.H r2.nx)))
(.call 81 [(.ptr 0 0),(.str [125])] (hp q_225 T) nx fun r3 =>
(.mid 0 qD4 2 (mkS 24 [vv 0 (.ptr 0 0),(3,.val (.vs 6 tg_223 l_224) .own),vb 15 false,vv 21 (.ptr 0 0),vv 22 r3.v] [] r3.H r3.nx)))) = some o) : RL C 150 [0,5,0,5,0,5,0,2,3] (mkS 24 [vv 0 (.ptr 0 0),(3,.val (.vs 6 tg_223 l_224) .own)] [] (hp q_225 T) nx) = some o := stR C 7 (fun _ _ => by kernel_rfl) ho
theorem p150_3 {T : Hp} {nx : Nat} {tg_223 c_226 c_229 : Bool} {l_224 : List AV} {x_228 : Int} {q_230 : PS} (ho : Tr.val C 150
(.br (!c_226)
(.call 187 [(.ptr 0 0)] (hp q_230 T) nx fun r4 =>
(.mid 0 [0,5,0,5,0,5,0,2,3,0,0,5,6,5,2] 3 (mkS 24 [vv 0 (.ptr 0 0),(3,.val (.vs 6 tg_223 l_224) .own),vb 15 true,(16,.val (.vs 6 tg_223 l_224) (.lS 3)),vv 17 (.ptr 0 0),vv 18 r4.v] [] r4.H r4.nx)))
(.call 81 [(.ptr 0 0),(.str [125])] (hp q_230 T) nx fun r5 =>
(.mid 0 qD4 2 (mkS 24 [vv 0 (.ptr 0 0),(3,.val (.vs 6 tg_223 l_224) .own),vb 15 false,vv 21 (.ptr 0 0),vv 22 r5.v] [] r5.H r5.nx)))) = some o) : ML C 150 [0,5,0,5,0,5,0,2,3,0,0] 8 (mkS 24 [vv 0 (.ptr 0 0),(3,.val (.vs 6 tg_223 l_224) .own),vv 6 (.ptr 0 0),vv 7 (.ptr 0 0),vv 8 (.ptr 0 7),vi 9 x_228,vb 10 c_229,vb 11 true,vv 12 (.ptr 0 0),vb 13 c_226] [] (hp q_230 T) nx) = some o := stM C 4 (fun _ _ => by kernel_rfl) ho
theorem p150_4 {T : Hp} {nx : Nat} {tg_223 : Bool} {l_224 : List AV} {q_232 : PS} (ho : Tr.val C 150
(.ret ⟨(.vs 6 tg_223 l_224),(hp q_232 T),nx⟩) = some o) : ML C 150 qD4 2 (mkS 24 [vv 0 (.ptr 0 0),(3,.val (.vs 6 tg_223 l_224) .own),vb 15 false,vv 21 (.ptr 0 0),vv 22 (.tuple [])] [] (hp q_232 T) nx) = some o := stM C 3 (fun _ _ => by kernel_rfl) ho
theorem p150_5 {T : Hp} {nx : Nat} {tg_223 tg_235 tg_237 tg_239 : Bool} {l_224 l_236 l_238 l_240 : List AV} {x_233 x_241 : Int} {s_234 : List UInt8} {q_243 : PS} (ho : Tr.val C 150
(.br (Nat.ble ((l_224.length + 1) * 104) za1)
(.br (Nat.ble (l_224.length + 1) za1)
(.run 0 [0,5,0,5,0,5,0,2,3] (mkS 24 [vv 0 (.ptr 0 0),(3,.val (.vs 6 false (l_224 ++ [(.agg [(i6 x_233),(.str s_234),(.vs 5 tg_235 l_236),(.vs 6 tg_237 l_238),(.vs 6 tg_239 l_240),(i6 x_241)])])) .own)] [] (hp q_243 T) nx)) .none) .none) = some o) : ML C 150 [0,5,0,5,0,5,0,2,3,0,0,5,6,5,2] 3 (mkS 24 [vv 0 (.ptr 0 0),(3,.val (.vs 6 tg_223 l_224) .own),vb 15 true,(16,.val (.vs 6 tg_223 l_224) (.lS 3)),vv 17 (.ptr 0 0),vv 18 (.agg [(i6 x_233),(.str s_234),(.vs 5 tg_235 l_236),(.vs 6 tg_237 l_238),(.vs 6 tg_239 l_240),(i6 x_241)])] [] (hp q_243 T) nx) = some o := stM C 2 (fun _ _ => by kernel_rfl) ho
theorem p187_c (hC : Ext C) {T : Hp} {nx : Nat} {q_246 : PS} (ho : RL C 187 [] (mkS 56 [vv 0 (.ptr 0 0)] [] (hp q_246 T) nx) = some o) : calL C 187 [(.ptr 0 0)] (hp q_246 T) nx = some o := hC.call rfl (fun _ _ => by kernel_rfl) ho
theorem p187_0 {T : Hp} {nx : Nat} {q_246 : PS} (ho : Tr.val C 187
(.call 43 [(.ptr 0 0),(.str [105,102])] (hp q_246 T) nx fun r1 =>
(.mid 0 [0,5,0,5,0,0] 2 (mkS 56 [vv 0 (.ptr 0 0),(2,.lp 2 0),(3,.lp 3 0),vv 10 (.ptr 0 0),vv 11 r1.v] [cD1,(3,⟨[(i6 0),(.str []),(.vs 5 true []),(.vs 6 true []),(.vs 6 true []),(i6 q_246.tat)],[]⟩)] r1.H r1.nx))) = some o) : RL C 187 [] (mkS 56 [vv 0 (.ptr 0 0)] [] (hp q_246 T) nx) = some o := stR C 7 (fun _ _ => by kernel_rfl) ho
theorem p187_1 {T : Hp} {nx : Nat} {c_247 : Bool} {x_249 : Int} {q_250 : PS} (ho : Tr.val C 187
(.br c_247
(.call 213 [(.ptr 0 0)] (hp q_250 T) nx fun r2 =>
(.mid 0 [0,5,0,5,0,0,5,6,0,5,0] 2 (mkS 56 [vv 0 (.ptr 0 0),(2,.lp 2 0),(3,.lp 3 0),vv 13 (.ptr 0 0),vv 14 r2.v] [cD1,(3,⟨[(i6 6),(.str []),(.vs 5 true []),(.vs 6 true []),(.vs 6 true []),(i6 x_249)],[]⟩)] r2.H r2.nx)))
(.call 148 [(.ptr 0 0),(.vs 1 true [(.str [119,114,105,116,101]),(.str [114,97,105,115,101]),(.str [97,100,100]),(.str [105,110,115,101,114,116]),(.str [109,97,114,107])])] (hp q_250 T) nx fun r3 =>
(.mid 1 [0,5,0,5,0,0,5,7,5,0] 3 (mkS 56 [vv 0 (.ptr 0 0),(2,.lp 2 0),(3,.lp 3 0),vb 11 false,vv 34 (.ptr 0 0),vv 35 cD6,vv 36 r3.v] [cD1,(3,⟨[(i6 0),(.str []),(.vs 5 true []),(.vs 6 true []),(.vs 6 true []),(i6 x_249)],[]⟩)] r3.H r3.nx)))) = some o) : ML C 187 [0,5,0,5,0,0] 2 (mkS 56 [vv 0 (.ptr 0 0),(2,.lp 2 0),(3,.lp 3 0),vv 10 (.ptr 0 0),vb 11 c_247] [cD1,(3,⟨[(i6 0),(.str []),(.vs 5 true []),(.vs 6 true []),(.vs 6 true []),(i6 x_249)],[]⟩)] (hp q_250 T) nx) = some o := stM C 5 (fun _ _ => by kernel_rfl) ho
theorem p187_2 {T : Hp} {nx : Nat} {x_249 : Int} {q_252 : PS} (ho : Tr.val C 187
(.call 42 [(.ptr 0 0)] (hp q_252 T) nx fun r4 =>
(.mid 0 [0,5,0,5,0,0,5,6,0,5,0,5,0] 2 (mkS 56 [vv 0 (.ptr 0 0),(2,.lp 2 0),(3,.lp 3 0),vv 15 (.ptr 0 0),vv 16 r4.v] [cD1,(3,⟨[(i6 6),(.str []),(.vs 5 true []),(.vs 6 true []),(.vs 6 true []),(i6 x_249)],[]⟩)] r4.H r4.nx))) = some o) : ML C 187 [0,5,0,5,0,0,5,6,0,5,0] 2 (mkS 56 [vv 0 (.ptr 0 0),(2,.lp 2 0),(3,.lp 3 0),vv 13 (.ptr 0 0),vv 14 (.tuple [])] [cD1,(3,⟨[(i6 6),(.str []),(.vs 5 true []),(.vs 6 true []),(.vs 6 true []),(i6 x_249)],[]⟩)] (hp q_252 T) nx) = some o := stM C 2 (fun _ _ => by kernel_rfl) ho
theorem p187_3 {T : Hp} {nx : Nat} {x_249 x_253 : Int} {q_255 : PS} (ho : Tr.val C 187
(.call 80 [(.ptr 0 0)] (hp q_255 T) nx fun r5 =>
(.mid 0 [0,5,0,5,0,0,5,7,5,0,5,0] 2 (mkS 56 [vv 0 (.ptr 0 0),(2,.lp 2 0),(3,.lp 3 0),vv 39 (.ptr 0 0),vv 40 r5.v] [cD1,(3,⟨[(i6 x_253),(.str []),(.vs 5 true []),(.vs 6 true []),(.vs 6 true []),(i6 x_249)],[]⟩)] r5.H r5.nx))) = some o) : ML C 187 [0,5,0,5,0,0,5,7,5,0] 3 (mkS 56 [vv 0 (.ptr 0 0),(2,.lp 2 0),(3,.lp 3 0),vb 11 false,vv 34 (.ptr 0 0),vv 35 cD6,vi 36 x_253] [cD1,(3,⟨[(i6 0),(.str []),(.vs 5 true []),(.vs 6 true []),(.vs 6 true []),(i6 x_249)],[]⟩)] (hp q_255 T) nx) = some o := stM C 2 (fun _ _ => by kernel_rfl) ho
theorem p187_4 {T : Hp} {nx : Nat} {x_249 : Int} {q_257 : PS} (ho : Tr.val C 187
(.call 151 [(.ptr 0 0)] (hp q_257 T) nx fun r6 =>
(.mid 0 [0,5,0,5,0,0,5,6,0,5,0,5,0,5,0] 2 (mkS 56 [vv 0 (.ptr 0 0),(2,.lp 2 0),(3,.lp 3 0),vv 17 (.ptr 0 0),vv 18 r6.v] [cD1,(3,⟨[(i6 6),(.str []),(.vs 5 true []),(.vs 6 true []),(.vs 6 true []),(i6 x_249)],[]⟩)] r6.H r6.nx))) = some o) : ML C 187 [0,5,0,5,0,0,5,6,0,5,0,5,0] 2 (mkS 56 [vv 0 (.ptr 0 0),(2,.lp 2 0),(3,.lp 3 0),vv 15 (.ptr 0 0),vv 16 (.tuple [])] [cD1,(3,⟨[(i6 6),(.str []),(.vs 5 true []),(.vs 6 true []),(.vs 6 true []),(i6 x_249)],[]⟩)] (hp q_257 T) nx) = some o := stM C 2 (fun _ _ => by kernel_rfl) ho
theorem p187_5 {T : Hp} {nx : Nat} {x_249 x_253 x_259 : Int} {s_258 : List UInt8} {q_261 : PS} (ho : Tr.val C 187
(.br (!(decide (x_253 = 5)))
(.call 81 [(.ptr 0 0),(.str [61])] (hp q_261 T) nx fun r7 =>
(.mid 1 [0,5,0,5,0,0,5,7,5,0,5,0,5,0,0,5,6,0] 2 (mkS 56 [vv 0 (.ptr 0 0),(2,.lp 2 0),(3,.lp 3 0),vb 46 true,vv 47 (.ptr 0 0),vv 48 r7.v] [cD1,(3,⟨[(i6 x_253),(.str s_258),(.vs 5 true []),(.vs 6 true []),(.vs 6 true []),(i6 x_249)],[]⟩)] r7.H r7.nx)))
(.call 81 [(.ptr 0 0),(.str [59])] (hp q_261 T) nx fun r8 =>
(.mid 0 [0,5,0,5,0,0,5,7,5,0,5,0,5,0,0,5,7,5,0] 2 (mkS 56 [vv 0 (.ptr 0 0),(2,.lp 2 0),(3,.lp 3 0),vb 46 false,vv 53 (.ptr 0 0),vv 54 r8.v] [cD1,(3,⟨[(i6 x_253),(.str s_258),(.vs 5 true []),(.vs 6 true []),(.vs 6 true []),(i6 x_249)],[]⟩)] r8.H r8.nx)))) = some o) : ML C 187 [0,5,0,5,0,0,5,7,5,0,5,0] 2 (mkS 56 [vv 0 (.ptr 0 0),(2,.lp 2 0),(3,.lp 3 0),vv 39 (.ptr 0 0),vv 40 (.tuple [(.str s_258),(i6 x_259)])] [cD1,(3,⟨[(i6 x_253),(.str []),(.vs 5 true []),(.vs 6 true []),(.vs 6 true []),(i6 x_249)],[]⟩)] (hp q_261 T) nx) = some o := stM C 7 (fun _ _ => by kernel_rfl) ho
theorem p187_6 {T : Hp} {nx : Nat} {x_249 x_262 x_263 x_267 : Int} {s_264 : List UInt8} {tg_265 : Bool} {l_266 : List AV} {q_269 : PS} (ho : Tr.val C 187
(.call 150 [(.ptr 0 0)] (hp q_269 T) nx fun r9 =>
(.mid 0 [0,5,0,5,0,0,5,6,0,5,0,5,0,5,0,5,0] 2 (mkS 56 [vv 0 (.ptr 0 0),(2,.lp 2 0),(3,.lp 3 0),vv 21 (.ptr 0 0),vv 22 r9.v] [cD1,(3,⟨[(i6 6),(.str []),(.vs 5 true [(.agg [(i6 x_262),(i6 x_263),(.str s_264),(.vs 5 tg_265 l_266),(i6 x_267)])]),(.vs 6 true []),(.vs 6 true []),(i6 x_249)],[]⟩)] r9.H r9.nx))) = some o) : ML C 187 [0,5,0,5,0,0,5,6,0,5,0,5,0,5,0] 2 (mkS 56 [vv 0 (.ptr 0 0),(2,.lp 2 0),(3,.lp 3 0),vv 17 (.ptr 0 0),vv 18 (.agg [(i6 x_262),(i6 x_263),(.str s_264),(.vs 5 tg_265 l_266),(i6 x_267)])] [cD1,(3,⟨[(i6 6),(.str []),(.vs 5 true []),(.vs 6 true []),(.vs 6 true []),(i6 x_249)],[]⟩)] (hp q_269 T) nx) = some o := stM C 2 (fun _ _ => by kernel_rfl) ho
theorem p187_7 {T : Hp} {nx : Nat} {x_249 x_253 : Int} {s_258 : List UInt8} {q_271 : PS} (ho : Tr.val C 187
(.call 151 [(.ptr 0 0)] (hp q_271 T) nx fun r10 =>
(.mid 0 [0,5,0,5,0,0,5,7,5,0,5,0,5,0,0,5,6,0,5] 2 (mkS 56 [vv 0 (.ptr 0 0),(2,.lp 2 0),(3,.lp 3 0),vv 49 (.ptr 0 0),vv 50 r10.v] [cD1,(3,⟨[(i6 x_253),(.str s_258),(.vs 5 true []),(.vs 6 true []),(.vs 6 true []),(i6 x_249)],[]⟩)] r10.H r10.nx))) = some o) : ML C 187 [0,5,0,5,0,0,5,7,5,0,5,0,5,0,0,5,6,0] 2 (mkS 56 [vv 0 (.ptr 0 0),(2,.lp 2 0),(3,.lp 3 0),vb 46 true,vv 47 (.ptr 0 0),vv 48 (.tuple [])] [cD1,(3,⟨[(i6 x_253),(.str s_258),(.vs 5 true []),(.vs 6 true []),(.vs 6 true []),(i6 x_249)],[]⟩)] (hp q_271 T) nx) = some o := stM C 1 (fun _ _ => by kernel_rfl) ho
theorem p187_8 {T : Hp} {nx : Nat} {x_249 x_253 : Int} {s_258 : List UInt8} {q_273 : PS} (ho : Tr.val C 187
(.ret ⟨(.agg [(i6 x_253),(.str s_258),(.vs 5 true []),(.vs 6 true []),(.vs 6 true []),(i6 x_249)]),(hp q_273 T),nx⟩) = some o) : ML C 187 [0,5,0,5,0,0,5,7,5,0,5,0,5,0,0,5,7,5,0] 2 (mkS 56 [vv 0 (.ptr 0 0),(2,.lp 2 0),(3,.lp 3 0),vb 46 false,vv 53 (.ptr 0 0),vv 54 (.tuple [])] [cD1,(3,⟨[(i6 x_253),(.str s_258),(.vs 5 true []),(.vs 6 true []),(.vs 6 true []),(i6 x_249)],[]⟩)] (hp q_273 T) nx) = some o := stM C 3 (fun _ _ => by kernel_rfl) ho
theorem p187_9 {T : Hp} {nx : Nat} {x_249 x_262 x_263 x_267 : Int} {s_264 : List UInt8} {tg_265 tg_274 : Bool} {l_266 l_275 : List AV} {q_277 : PS} (ho : Tr.val C 187
(.call 43 [(.ptr 0 0),(.str [101,108,115,101])] (hp q_277 T) nx fun r11 =>
(.mid 0 [0,5,0,5,0,0,5,6,0,5,0,5,0,5,0,5,0,5,0,0] 2 (mkS 56 [vv 0 (.ptr 0 0),(2,.lp 2 0),(3,.lp 3 0),vv 24 (.ptr 0 0),vv 25 r11.v] [cD1,(3,⟨[(i6 6),(.str []),(.vs 5 true [(.agg [(i6 x_262),(i6 x_263),(.str s_264),(.vs 5 tg_265 l_266),(i6 x_267)])]),(.vs 6 tg_274 l_275),(.vs 6 true []),(i6 x_249)],[]⟩)] r11.H r11.nx))) = some o) : ML C 187 [0,5,0,5,0,0,5,6,0,5,0,5,0,5,0,5,0] 2 (mkS 56 [vv 0 (.ptr 0 0),(2,.lp 2 0),(3,.lp 3 0),vv 21 (.ptr 0 0),vv 22 (.vs 6 tg_274 l_275)] [cD1,(3,⟨[(i6 6),(.str []),(.vs 5 true [(.agg [(i6 x_262),(i6 x_263),(.str s_264),(.vs 5 tg_265 l_266),(i6 x_267)])]),(.vs 6 true []),(.vs 6 true []),(i6 x_249)],[]⟩)] (hp q_277 T) nx) = some o := stM C 3 (fun _ _ => by kernel_rfl) ho
theorem p187_10 {T : Hp} {nx : Nat} {x_249 x_253 x_278 x_279 x_283 : Int} {s_258 s_280 : List UInt8} {tg_281 : Bool} {l_282 : List AV} {q_285 : PS} (ho : Tr.val C 187
(.call 81 [(.ptr 0 0),(.str [59])] (hp q_285 T) nx fun r12 =>
(.mid 0 [0,5,0,5,0,0,5,7,5,0,5,0,5,0,0,5,6,0,5,5,0] 2 (mkS 56 [vv 0 (.ptr 0 0),(2,.lp 2 0),(3,.lp 3 0),vv 53 (.ptr 0 0),vv 54 r12.v] [cD1,(3,⟨[(i6 x_253),(.str s_258),(.vs 5 true [(.agg [(i6 x_278),(i6 x_279),(.str s_280),(.vs 5 tg_281 l_282),(i6 x_283)])]),(.vs 6 true []),(.vs 6 true []),(i6 x_249)],[]⟩)] r12.H r12.nx))) = some o) : ML C 187 [0,5,0,5,0,0,5,7,5,0,5,0,5,0,0,5,6,0,5] 2 (mkS 56 [vv 0 (.ptr 0 0),(2,.lp 2 0),(3,.lp 3 0),vv 49 (.ptr 0 0),vv 50 (.agg [(i6 x_278),(i6 x_279),(.str s_280),(.vs 5 tg_281 l_282),(i6 x_283)])] [cD1,(3,⟨[(i6 x_253),(.str s_258),(.vs 5 true []),(.vs 6 true []),(.vs 6 true []),(i6 x_249)],[]⟩)] (hp q_285 T) nx) = some o := stM C 2 (fun _ _ => by kernel_rfl) ho
theorem p187_11 {T : Hp} {nx : Nat} {x_249 x_262 x_263 x_267 : Int} {s_264 : List UInt8} {tg_265 tg_274 c_286 : Bool} {l_266 l_275 : List AV} {q_288 : PS} (ho : Tr.val C 187
(.br c_286
(.call 42 [(.ptr 0 0)] (hp q_288 T) nx fun r13 =>
(.mid 1 qD20 2 (mkS 56 [vv 0 (.ptr 0 0),(2,.lp 2 0),(3,.lp 3 0),vb 25 true,vv 26 (.ptr 0 0),vv 27 r13.v] [cD1,(3,⟨[(i6 6),(.str []),(.vs 5 true [(.agg [(i6 x_262),(i6 x_263),(.str s_264),(.vs 5 tg_265 l_266),(i6 x_267)])]),(.vs 6 tg_274 l_275),(.vs 6 true []),(i6 x_249)],[]⟩)] r13.H r13.nx)))
(.call 214 [(.ptr 0 0)] (hp q_288 T) nx fun r14 =>
(.mid 0 qD21 2 (mkS 56 [vv 0 (.ptr 0 0),(2,.lp 2 0),(3,.lp 3 0),vb 25 false,vv 31 (.ptr 0 0),vv 32 r14.v] [cD1,(3,⟨[(i6 6),(.str []),(.vs 5 true [(.agg [(i6 x_262),(i6 x_263),(.str s_264),(.vs 5 tg_265 l_266),(i6 x_267)])]),(.vs 6 tg_274 l_275),(.vs 6 true []),(i6 x_249)],[]⟩)] r14.H r14.nx)))) = some o) : ML C 187 [0,5,0,5,0,0,5,6,0,5,0,5,0,5,0,5,0,5,0,0] 2 (mkS 56 [vv 0 (.ptr 0 0),(2,.lp 2 0),(3,.lp 3 0),vv 24 (.ptr 0 0),vb 25 c_286] [cD1,(3,⟨[(i6 6),(.str []),(.vs 5 true [(.agg [(i6 x_262),(i6 x_263),(.str s_264),(.vs 5 tg_265 l_266),(i6 x_267)])]),(.vs 6 tg_274 l_275),(.vs 6 true []),(i6 x_249)],[]⟩)] (hp q_288 T) nx) = some o := stM C 4 (fun _ _ => by kernel_rfl) ho
theorem p187_12 {T : Hp} {nx : Nat} {x_249 x_253 x_278 x_279 x_283 : Int} {s_258 s_280 : List UInt8} {tg_281 : Bool} {l_282 : List AV} {q_290 : PS} (ho : Tr.val C 187
(.ret ⟨(.agg [(i6 x_253),(.str s_258),(.vs 5 true [(.agg [(i6 x_278),(i6 x_279),(.str s_280),(.vs 5 tg_281 l_282),(i6 x_283)])]),(.vs 6 true []),(.vs 6 true []),(i6 x_249)]),(hp q_290 T),nx⟩) = some o) : ML C 187 [0,5,0,5,0,0,5,7,5,0,5,0,5,0,0,5,6,0,5,5,0] 2 (mkS 56 [vv 0 (.ptr 0 0),(2,.lp 2 0),(3,.lp 3 0),vv 53 (.ptr 0 0),vv 54 (.tuple [])] [cD1,(3,⟨[(i6 x_253),(.str s_258),(.vs 5 true [(.agg [(i6 x_278),(i6 x_279),(.str s_280),(.vs 5 tg_281 l_282),(i6 x_283)])]),(.vs 6 true []),(.vs 6 true []),(i6 x_249)],[]⟩)] (hp q_290 T) nx) = some o := stM C 3 (fun _ _ => by kernel_rfl) ho
theorem p187_13 {T : Hp} {nx : Nat} {x_249 x_262 x_263 x_267 : Int} {s_264 : List UInt8} {tg_265 tg_274 : Bool} {l_266 l_275 : List AV} {q_292 : PS} (ho : Tr.val C 187
(.call 150 [(.ptr 0 0)] (hp q_292 T) nx fun r15 =>
(.mid 0 qD22 2 (mkS 56 [vv 0 (.ptr 0 0),(2,.lp 2 0),(3,.lp 3 0),vv 28 (.ptr 0 0),vv 29 r15.v] [cD1,(3,⟨[(i6 6),(.str []),(.vs 5 true [(.agg [(i6 x_262),(i6 x_263),(.str s_264),(.vs 5 tg_265 l_266),(i6 x_267)])]),(.vs 6 tg_274 l_275),(.vs 6 true []),(i6 x_249)],[]⟩)] r15.H r15.nx))) = some o) : ML C 187 qD20 2 (mkS 56 [vv 0 (.ptr 0 0),(2,.lp 2 0),(3,.lp 3 0),vb 25 true,vv 26 (.ptr 0 0),vv 27 (.tuple [])] [cD1,(3,⟨[(i6 6),(.str []),(.vs 5 true [(.agg [(i6 x_262),(i6 x_263),(.str s_264),(.vs 5 tg_265 l_266),(i6 x_267)])]),(.vs 6 tg_274 l_275),(.vs 6 true []),(i6 x_249)],[]⟩)] (hp q_292 T) nx) = some o := stM C 1 (fun _ _ => by kernel_rfl) ho
theorem p187_14 {T : Hp} {nx : Nat} {x_249 x_262 x_263 x_267 : Int} {s_264 : List UInt8} {tg_265 tg_274 : Bool} {l_266 l_275 : List AV} {q_294 : PS} (ho : Tr.val C 187
(.ret ⟨(.agg [(i6 6),(.str []),(.vs 5 true [(.agg [(i6 x_262),(i6 x_263),(.str s_264),(.vs 5 tg_265 l_266),(i6 x_267)])]),(.vs 6 tg_274 l_275),(.vs 6 true []),(i6 x_249)]),(hp q_294 T),nx⟩) = some o) : ML C 187 qD21 2 (mkS 56 [vv 0 (.ptr 0 0),(2,.lp 2 0),(3,.lp 3 0),vb 25 false,vv 31 (.ptr 0 0),vv 32 (.tuple [])] [cD1,(3,⟨[(i6 6),(.str []),(.vs 5 true [(.agg [(i6 x_262),(i6 x_263),(.str s_264),(.vs 5 tg_265 l_266),(i6 x_267)])]),(.vs 6 tg_274 l_275),(.vs 6 true []),(i6 x_249)],[]⟩)] (hp q_294 T) nx) = some o := stM C 3 (fun _ _ => by kernel_rfl) ho
theorem p187_15 {T : Hp} {nx : Nat} {x_249 x_262 x_263 x_267 : Int} {s_264 : List UInt8} {tg_265 tg_274 tg_295 : Bool} {l_266 l_275 l_296 : List AV} {q_298 : PS} (ho : Tr.val C 187
(.call 214 [(.ptr 0 0)] (hp q_298 T) nx fun r16 =>
(.mid 0 qD23 2 (mkS 56 [vv 0 (.ptr 0 0),(2,.lp 2 0),(3,.lp 3 0),vv 31 (.ptr 0 0),vv 32 r16.v] [cD1,(3,⟨[(i6 6),(.str []),(.vs 5 true [(.agg [(i6 x_262),(i6 x_263),(.str s_264),(.vs 5 tg_265 l_266),(i6 x_267)])]),(.vs 6 tg_274 l_275),(.vs 6 tg_295 l_296),(i6 x_249)],[]⟩)] r16.H r16.nx))) = some o) : ML C 187 qD22 2 (mkS 56 [vv 0 (.ptr 0 0),(2,.lp 2 0),(3,.lp 3 0),vv 28 (.ptr 0 0),vv 29 (.vs 6 tg_295 l_296)] [cD1,(3,⟨[(i6 6),(.str []),(.vs 5 true [(.agg [(i6 x_262),(i6 x_263),(.str s_264),(.vs 5 tg_265 l_266),(i6 x_267)])]),(.vs 6 tg_274 l_275),(.vs 6 true []),(i6 x_249)],[]⟩)] (hp q_298 T) nx) = some o := stM C 2 (fun _ _ => by kernel_rfl) ho
theorem p187_16 {T : Hp} {nx : Nat} {x_249 x_262 x_263 x_267 : Int} {s_264 : List UInt8} {tg_265 tg_274 tg_295 : Bool} {l_266 l_275 l_296 : List AV} {q_300 : PS} (ho : Tr.val C 187
(.ret ⟨(.agg [(i6 6),(.str []),(.vs 5 true [(.agg [(i6 x_262),(i6 x_263),(.str s_264),(.vs 5 tg_265 l_266),(i6 x_267)])]),(.vs 6 tg_274 l_275),(.vs 6 tg_295 l_296),(i6 x_249)]),(hp q_300 T),nx⟩) = some o) : ML C 187 qD23 2 (mkS 56 [vv 0 (.ptr 0 0),(2,.lp 2 0),(3,.lp 3 0),vv 31 (.ptr 0 0),vv 32 (.tuple [])] [cD1,(3,⟨[(i6 6),(.str []),(.vs 5 true [(.agg [(i6 x_262),(i6 x_263),(.str s_264),(.vs 5 tg_265 l_266),(i6 x_267)])]),(.vs 6 tg_274 l_275),(.vs 6 tg_295 l_296),(i6 x_249)],[]⟩)] (hp q_300 T) nx) = some o := stM C 3 (fun _ _ => by kernel_rfl) ho
end Go.Proofs.YtfdklpkfpmkgeaaGreatDoor
end
section
namespace Go.Proofs.YtfdklpkfpmkgeaaGreatDoor
open Go Go.Vai
attribute [local irreducible] goTo zaq mkS
variable {C : Nat→Oracle} (hC : Ext C) {T : Hp} {nx : Nat}
theorem zc5 (k n : Int) (s : List UInt8) (tg : Bool) (l : List Ex) (a : Int) : (Ex.mk k n s tg l a).av = .agg [.int .i64 k,.int .i64 n,.str s,.vs 5 tg (exs l),.int .i64 a] := by rw [Ex.av]
theorem zce : exs [] = [] := by rw [exs]
theorem ze0 (e : Ex) (l : List Ex) : exs (e :: l) = e.av :: exs l := by rw [exs]
def ExW (C : Nat→Oracle) (T : Hp) (nx g : Nat) (args : List AV) (p : PS) (r : Ex × PS) : Prop := calL C g (.ptr 0 0 :: args) (hp p T) nx = some ⟨r.1.av,hp r.2 T,nx⟩
include hC
theorem zs9 : ∀ f : Nat,
  (∀ n p r,Ok p→n ≤ 6→binF f n p = some r→ExW C T nx 188 [.int .i64 (n : Int)] p r) ∧
  (∀ n e p r,Ok p→n ≤ 5→binL f n e p = some r→∀ (x : List (Nat × Slot)) (fr : List Nat) (a b : Int) (c : List UInt8) (d : Bool) (g : List AV) (h : Int),(x = []∧fr = [] ∨ (∃ c,x = [(55,.val (.bool c) .no)])∧fr = [3]) →
   RL C 188 [0,5,0,0,5,7,5,0,5,0,2,3] (mkS 57 ([(0,.val (.ptr 0 0) .no),(1,.val (.int .i64 (n : Int)) .no),(4,.lp 4 0),(5,.lp 5 0)] ++ x) [(4,⟨[(.int .i64 a),(.int .i64 b),(.str c),(.vs 5 d g),(.int .i64 h)],[3]⟩),(5,⟨e.av.cells,fr⟩)] (hp p T) nx) = some ⟨r.1.av,hp r.2 T,nx⟩) ∧
  (∀ p r,Ok p→unF f p = some r→ExW C T nx 215 [] p r) ∧
  (∀ p r,Ok p→priF f p = some r→ExW C T nx 231 [] p r)
 | 0=>⟨fun _ _ _ _ _ h=>(by rw [binF] at h; cases h),fun _ _ _ _ _ _ h=>(by rw [binL] at h; cases h),fun _ _ _ h=>(by rw [unF] at h; cases h),fun _ _ _ h=>(by rw [priF] at h; cases h)⟩
 | f + 1=>by
  obtain ⟨i1,i2,i3,i4⟩ := zs9 f
  obtain ⟨j1,j2,j3,j4⟩ := zev f
  unfold ExW at *
  refine ⟨fun n p r hO hn h=>?_,fun n e p r hO hn h x fr a b c d g z hx=>?_,fun p r hO h=>?_,fun p r hO h=>?_⟩
  ·
   rw [binF] at h
   refine p188_c hC (p188_0 ?_)
   simp only [Tr.val]
   split at h
   ·rename_i h6
    refine bT (by omega) ?_
    refine bnd (i3 _ _ hO h) ?_
    obtain ⟨⟨k,m,s,tg,l,q⟩,p'⟩ := r
    simp only [zc5]
    exact p188_1 rfl
   ·rename_i h6
    obtain ⟨y,h1,h2⟩ := Option.bind_eq_some_iff.1 h
    refine bF (by omega) ?_
    rw [zb9 (by omega) (by omega),show ((n : Int) + 1) = ((n + 1 : Nat) : Int) by omega]
    refine bnd (i1 _ _ _ hO (by omega) h1) ?_
    obtain ⟨⟨k,m,s,tg,l,q⟩,p'⟩ := y
    simp only [zc5]
    refine p188_2 ?_
    have := i2 n _ _ r (j1 _ _ _ hO h1).ok (by omega) h2 [] [] 0 0 [] true [] 0 (.inl ⟨rfl,rfl⟩)
    simp only [zc5,AV.cells] at this
    exact this
  ·
   rw [binL] at h
   obtain ⟨k,m,s,tg,l,q⟩ := e
   simp only [zc5,AV.cells]
   rcases hx with ⟨rfl,rfl⟩ | ⟨⟨cc,rfl⟩,rfl⟩
   all_goals
    simp only [List.append_nil,List.cons_append,List.nil_append]
    first | refine p188_3 ?_ | refine p188_7 ?_
    simp only [Tr.val,zab,AV.pure,za0]
    by_cases h3 : p.kind = 3
    ·refine nF h3 ?_
     rw [if_neg (fun hh=>hh.1 h3)] at h
     injection h with h
     subst h
     simp only [zc5]
    ·refine nT h3 (bnd (l113 hC p.s) ?_)
     simp only [AV.pure,za0]
     first | refine p188_4 ?_ | refine p188_8 ?_
     simp only [Tr.val]
     by_cases hl : ziv p.s = (n : Int)
     ·refine bT hl ?_
      rw [if_pos ⟨h3,hl⟩] at h
      obtain ⟨y,h1,h2⟩ := Option.bind_eq_some_iff.1 h
      have hA := PS.adv_ok hO
      refine bnd (l42 hC p hO) ?_
      refine p188_5 ?_
      simp only [Tr.val]
      rw [zb9 (by omega) (by omega),show ((n : Int) + 1) = ((n + 1 : Nat) : Int) by omega]
      refine bnd (i1 _ _ _ hA (by omega) h1) ?_
      have hY := (j1 _ _ _ hA h1).ok
      obtain ⟨⟨k',m',s',tg',l',q'⟩,p'⟩ := y
      simp only [zc5]
      refine p188_6 ?_
      simp only [Tr.val]
      refine ct rfl (ct rfl ?_)
      by_cases hn3 : n = 3
      ·refine bT (by omega) ?_
       rw [if_pos hn3] at h2
       injection h2 with h2
       subst h2
       simp only [zc5,ze0,zce]
      ·refine bF (by omega) ?_
       rw [if_neg hn3] at h2
       have := i2 n _ _ r hY (by omega) h2 [(55,.val (.bool false) .no)] [3] a b c d g z (.inr ⟨⟨_,rfl⟩,rfl⟩)
       simp only [zc5,ze0,zce,AV.cells] at this
       exact this
     ·refine bF hl ?_
      rw [if_neg (fun hh=>hl hh.2)] at h
      injection h with h
      subst h
      simp only [zc5]
  ·
   rw [unF] at h
   refine p215_c hC (p215_0 ?_)
   refine bnd (l82 hC p [45]) ?_
   refine p215_1 ?_
   simp only [Tr.val]
   have go : p.kind ≠ 0→(unF f p.opn.adv).bind (fun r=>some (Ex.mk 6 0 p.s true [r.1] p.tat,r.2.cls)) = some r→ML C 215 [0,5,0,0,5,7,5,0,5,0] 2 (mkS 36 [(0,.val (.ptr 0 0) .no),(2,.lp 2 0),(3,.lp 3 0),(25,.val (.ptr 0 0) .no),(26,.val (.tuple []) .no)] [(2,⟨[(.int .i64 (0)),(.int .i64 (0)),(.str []),(.vs 5 true []),(.int .i64 (0))],[3]⟩),(3,⟨[(.int .i64 (6)),(.int .i64 (0)),(.str p.s),(.vs 5 true []),(.int .i64 p.tat)],[]⟩)] (hp p.opn T) nx) = some ⟨r.1.av,hp r.2 T,nx⟩:=by
    intro hk h
    obtain ⟨y,h1,h2⟩ := Option.bind_eq_some_iff.1 h
    obtain ⟨a1,a2,a3,a4⟩ := zh7 hO hk
    refine p215_3 ?_
    refine bnd (l42 hC _ (zq2 hO hk).1) ?_
    refine p215_5 ?_
    refine bnd (i3 _ _ a1 h1) ?_
    have kY := j3 _ _ a1 h1
    obtain ⟨⟨k',m',s',tg',l',q'⟩,p'⟩ := y
    simp only [zc5]
    refine p215_6 ?_
    refine bnd (l214 hC p' kY.ok.d0 (by have := kY.ok.d1; show p'.depth ≤ 100; simp only at this; omega)) ?_
    injection h2 with h2
    subst h2
    simp only [zc5,ze0,zce]
    exact p215_7 rfl
   cases h45 : p.isG [45]
   ·simp only [Bool.not_false,za0]
    refine bnd (l82 hC p [33]) ?_
    refine p215_2 ?_
    simp only [Tr.val]
    cases h33 : p.isG [33]
    ·simp only [Bool.not_false,za0]
     rw [h45,h33,if_neg (by simp)] at h
     refine bnd (i4 _ _ hO h) ?_
     obtain ⟨⟨k',m',s',tg',l',q'⟩,p'⟩ := r
     simp only [zc5]
     exact p215_4 rfl
    ·simp only [Bool.not_true,zam]
     rw [if_pos (.inr h33)] at h
     refine bnd (l213 hC p hO) ?_
     exact go (by rw [zfl h33]; decide) h
   ·simp only [Bool.not_true,zam]
    rw [if_pos (.inl h45)] at h
    refine bnd (l213 hC p hO) ?_
    exact go (by rw [zfl h45]; decide) h
  ·
   rw [priF] at h
   refine p231_c hC (p231_0 ?_)
   simp only [Tr.val]
   by_cases k2 : p.kind = 2
   ·rw [if_pos k2] at h
    injection h with h
    subst h
    refine bT k2 (bnd (l42 hC p hO) ?_)
    simp only [zc5,zce]
    exact p231_1 rfl
   rw [if_neg k2] at h
   refine bF k2 ?_
   by_cases k3 : p.kind = 3
   ·rw [if_pos k3] at h
    injection h with h
    subst h
    refine bT k3 (bnd (l42 hC p hO) ?_)
    simp only [zc5,zce]
    exact p231_2 rfl
   rw [if_neg k3] at h
   refine bF k3 (bnd (l43 hC p wTrue) ?_)
   refine p231_3 ?_
   simp only [Tr.val]
   by_cases kt : p.isW wTrue = true
   ·rw [if_pos kt] at h
    injection h with h
    subst h
    refine ct kt (bnd (l42 hC p hO) ?_)
    simp only [zc5,zce]
    exact p231_4 rfl
   rw [if_neg kt] at h
   refine cf (by simpa using kt) (bnd (l43 hC p zpu) ?_)
   refine p231_5 ?_
   simp only [Tr.val]
   by_cases kf : p.isW zpu = true
   ·rw [if_pos kf] at h
    injection h with h
    subst h
    refine ct kf (bnd (l42 hC p hO) ?_)
    simp only [zc5,zce]
    exact p231_6 rfl
   rw [if_neg kf] at h
   refine cf (by simpa using kf) (bnd (l43 hC p wSize) ?_)
   refine p231_7 ?_
   simp only [Tr.val]
   by_cases ks : p.isW wSize = true
   ·rw [if_pos ks] at h
    injection h with h
    subst h
    have o1 := PS.adv_ok hO
    have o2 := (Keep.sign o1 [40]).ok
    have o3 := (Keep.name o2).ok
    refine ct ks (bnd (l42 hC p hO) ?_)
    refine p231_8 (bnd (l81 hC _ o1 [40]) ?_)
    refine p231_10 (bnd (l80 hC _ o2) ?_)
    refine p231_13 (bnd (l81 hC _ o3 [41]) ?_)
    simp only [zc5,zce]
    exact p231_15 rfl
   rw [if_neg ks] at h
   refine cf (by simpa using ks) (bnd (l82 hC p [40]) ?_)
   refine p231_9 ?_
   simp only [Tr.val]
   by_cases kg : p.isG [40] = true
   ·rw [if_pos kg] at h
    obtain ⟨y,h1,h2⟩ := Option.bind_eq_some_iff.1 h
    have hk : p.kind ≠ 0 := by rw [zfl kg]; decide
    obtain ⟨a1,a2,a3,a4⟩ := zh7 hO hk
    have kY := j1 _ _ _ a1 h1
    have kC := zgo hO kY.ok (kY.src.trans a2) (kY.dep.trans a3) (by have := kY.mu; omega)
    refine ct kg (bnd (l213 hC p hO) ?_)
    refine p231_11 (bnd (l42 hC _ (zq2 hO hk).1) ?_)
    have h151 : calL C 151 [.ptr 0 0] (hp p.opn.adv T) nx = some ⟨y.1.av,hp y.2 T,nx⟩:=by
     refine p151_c hC (p151_0 (bnd (i1 _ _ _ a1 (by decide) h1) ?_))
     obtain ⟨⟨k',m',s',tg',l',q'⟩,p'⟩ := y
     simp only [zc5]
     exact p151_1 rfl
    refine p231_14 (bnd h151 ?_)
    injection h2 with h2
    subst h2
    obtain ⟨⟨k',m',s',tg',l',q'⟩,p'⟩ := y
    simp only [zc5]
    refine p231_16 (bnd (l214 hC p' kY.ok.d0 (by have := kY.ok.d1; show p'.depth ≤ 100; simp only at this; omega)) ?_)
    refine p231_17 (bnd (l81 hC _ kC.ok [41]) ?_)
    exact p231_18 rfl
   ·rw [if_neg kg] at h
    injection h with h
    subst h
    refine cf (by simpa using kg) (bnd (l80 hC p hO) ?_)
    simp only [zc5,zce]
    exact p231_12 rfl
end Go.Proofs.YtfdklpkfpmkgeaaGreatDoor
end
section
namespace Go.Proofs.YtfdklpkfpmkgeaaGreatDoor
open Go Go.Vai
attribute [local irreducible] goTo zaq mkS
theorem zhq (k : Int) (s : List UInt8) (v : List Ex) (tg1 : Bool) (th : List Stm) (tg2 : Bool) (el : List Stm) (a : Int) : (Stm.mk k s v tg1 th tg2 el a).av = .agg [.int .i64 k,.str s,.vs 5 true (exs v),.vs 6 tg1 (stms th),.vs 6 tg2 (stms el),.int .i64 a] := by rw [Stm.av]
theorem zfm : stms [] = [] := by rw [stms]
theorem ze1 : ∀ l : List Stm,stms l = l.map Stm.av
 | []=>by rw [stms]; rfl
 | e :: l=>by rw [stms,ze1 l]; rfl
theorem zoa : ∀ l : List Ex,exs l = l.map Ex.av
 | []=>by rw [exs]; rfl
 | e :: l=>by rw [exs,zoa l]; rfl
variable {C : Nat→Oracle} (hC : Ext C) {T : Hp} {nx : Nat}
include hC
theorem l151 {f : Nat} {p : PS} {r : Ex × PS} (hO : Ok p) (h : binF f 1 p = some r) : calL C 151 [.ptr 0 0] (hp p T) nx = some ⟨r.1.av,hp r.2 T,nx⟩:=by
 have := (zs9 (T := T) (nx := nx) hC f).1 1 p r hO (by decide) h
 refine p151_c hC (p151_0 (bnd this ?_))
 obtain ⟨⟨k',m',s',tg',l',q'⟩,p'⟩ := r
 simp only [zc5]
 exact p151_1 rfl
theorem l186 (p : PS) (hO : Ok p) : calL C 186 [.ptr 0 0] (hp p T) nx = some ⟨(parF p).1.av,hp (parF p).2 T,nx⟩:=by
 refine p186_c hC (p186_0 (bnd (l80 hC p hO) ?_))
 have h148 := l148 (T := T) (nx := nx) hC p.name (Keep.name hO).ok true tyL (by decide)
 refine p186_1 (bnd h148 ?_)
 exact p186_2 rfl
theorem zp8 : ∀ (f : Nat) (l : List Par) (p : PS) (r : List Par × PS) (tg : Bool),Ok p→l.length + mu p ≤ 20000→pasL f l p = some r→l ≠ [] →
  ∃ tg',RL C 149 [0,5,0,5,0,5,0,0,5,6,0,5,2,3] (mkS 26 [(0,.val (.ptr 0 0) .no),(3,.val (.vs 3 tg (l.map Par.av)) .own)] [] (hp p T) nx) = some ⟨.vs 3 tg' (r.1.map Par.av),hp r.2 T,nx⟩∧(tg = false→tg' = false)
 | 0,_,_,_,_,_,_,h,_=>by cases h
 | f + 1,l,p,r,tg,hO,hb,h,hl=>by
  unfold pasL at h
  split at h
  ·rename_i hg
   have k0 := Keep.adv hO
   have lt := (PS.adv_mu hO).2 (by rw [zfl hg]; decide)
   have k1 := zgd k0.ok
   have lt' := k1.mu
   obtain ⟨tg',h1,h2⟩ := zp8 f _ _ r false k1.ok (by rw [List.length_append,List.length_singleton]; omega) h (by simp)
   refine ⟨tg',?_,fun _=>h2 rfl⟩
   refine p149_5 (bnd (l82 hC p [44]) ?_)
   refine p149_6 ?_
   simp only [Tr.val]
   refine ct hg (bnd (l42 hC p hO) ?_)
   refine p149_7 (bnd (l186 hC _ k0.ok) ?_)
   simp only [Par.av]
   refine p149_9 ?_
   simp only [Tr.val,List.length_map]
   refine ct (zae (by omega)) (ct (zae (by omega)) ?_)
   simp only [List.map_append,List.map_cons,List.map_nil,Par.av] at h1
   exact h1
  ·rename_i hg
   injection h with h
   subst h
   refine ⟨tg,?_,fun h=>h⟩
   refine p149_5 (bnd (l82 hC p [44]) ?_)
   refine p149_6 ?_
   simp only [Tr.val]
   refine cf (by simpa using hg) (bnd (l81 hC p hO [41]) ?_)
   exact p149_8 rfl
theorem l149 {f : Nat} {p : PS} {r : (Bool × List Par) × PS} (hO : Ok p) (h : pasF f p = some r) : calL C 149 [.ptr 0 0] (hp p T) nx = some ⟨.vs 3 r.1.1 (r.1.2.map Par.av),hp r.2 T,nx⟩:=by
 have k0 := Keep.sign hO [40]
 refine p149_c hC (p149_0 (bnd (l81 hC p hO [40]) ?_))
 refine p149_1 (bnd (l82 hC _ [41]) ?_)
 refine p149_2 ?_
 simp only [Tr.val]
 unfold pasF at h
 split at h
 ·rename_i hg
  injection h with h
  subst h
  refine cf (by rw [hg]; rfl) (bnd (l81 hC _ k0.ok [41]) ?_)
  exact p149_4 rfl
 ·rename_i hg
  obtain ⟨x,h1,h2⟩ := Option.map_eq_some_iff.1 h
  subst h2
  have k1 := zgd k0.ok
  refine ct (by simpa using hg) (bnd (l186 hC _ k0.ok) ?_)
  simp only [Par.av]
  refine p149_3 ?_
  simp only [Tr.val]
  refine ct rfl (ct rfl ?_)
  obtain ⟨tg',h3,h4⟩ := zp8 (T := T) (nx := nx) hC f _ _ x false k1.ok (by have := zsh k1.ok; simp; omega) h1 (by simp)
  rw [h4 rfl] at h3
  exact h3
theorem zsl : ∀ f : Nat,
  (∀ tg l p r,Ok p→l.length + mu p ≤ 20000→blkL f tg l p = some r→RL C 150 [0,5,0,5,0,5,0,2,3] (mkS 24 [(0,.val (.ptr 0 0) .no),(3,.val (.vs 6 tg (stms l)) .own)] [] (hp p T) nx) = some ⟨.vs 6 r.1.1 (stms r.1.2),hp r.2 T,nx⟩) ∧
  (∀ p r,Ok p→stF f p = some r→calL C 187 [.ptr 0 0] (hp p T) nx = some ⟨r.1.av,hp r.2 T,nx⟩)
 | 0=>⟨fun _ _ _ _ _ _ h=>(by rw [blkL] at h; cases h),fun _ _ _ h=>(by rw [stF] at h; cases h)⟩
 | f + 1=>by
  obtain ⟨i1,i2⟩ := zsl f
  obtain ⟨j1,j2⟩ := zo3 f
  have h150 : ∀ p r,Ok p→blkL f true [] (p.sign [123]) = some r→calL C 150 [.ptr 0 0] (hp p T) nx = some ⟨.vs 6 r.1.1 (stms r.1.2),hp r.2 T,nx⟩:=by
   intro p r hO h
   have k0 := Keep.sign hO [123]
   refine p150_c hC (p150_0 (bnd (l81 hC p hO [123]) ?_))
   refine p150_1 ?_
   have := i1 true [] _ r k0.ok (by have := zsh k0.ok; simp; omega) h
   rw [zfm] at this
   exact this
  refine ⟨fun tg l p r hO hb h=>?_,fun p r hO h=>?_⟩
  ·rw [blkL] at h
   refine p150_2 ?_
   simp only [Tr.val]
   by_cases h0 : p.err = 0
   ·refine bT h0 (bnd (l82 hC p [125]) ?_)
    refine p150_3 ?_
    simp only [Tr.val]
    cases hg : p.isG [125]
    ·rw [if_pos ⟨h0,hg⟩] at h
     obtain ⟨x,h1,h2⟩ := Option.bind_eq_some_iff.1 h
     obtain ⟨k1,lt⟩ := j2 _ _ hO h1
     have lt := lt h0
     simp only [Bool.not_false,za0]
     refine bnd (i2 _ _ hO h1) ?_
     have := i1 false (l ++ [x.1]) x.2 r k1.ok (by rw [List.length_append,List.length_singleton]; omega) h2
     obtain ⟨⟨k',s',v',t1,th,t2,el,a'⟩,p'⟩ := x
     simp only [ze1,List.map_append,List.map_cons,List.map_nil,zhq] at this ⊢
     refine p150_5 ?_
     simp only [Tr.val,List.length_map]
     refine ct (zae (by omega)) (ct (zae (by omega)) ?_)
     exact this
    ·rw [if_neg (fun hh=>by rw [hg] at hh; cases hh.2)] at h
     injection h with h
     subst h
     simp only [Bool.not_true,zam]
     refine bnd (l81 hC p hO [125]) ?_
     exact p150_4 rfl
   ·rw [if_neg (fun hh=>h0 hh.1)] at h
    injection h with h
    subst h
    refine bF h0 (bnd (l81 hC p hO [125]) ?_)
    exact p150_4 rfl
  ·rw [stF] at h
   refine p187_c hC (p187_0 (bnd (l43 hC p wIf) ?_))
   refine p187_1 ?_
   simp only [Tr.val]
   by_cases hw : p.isW wIf = true
   ·rw [if_pos hw] at h
    have hk : p.kind ≠ 0 := by rw [zia hw]; decide
    obtain ⟨a1,a2,a3,a4⟩ := zh7 hO hk
    obtain ⟨x,h1,h2⟩ := Option.bind_eq_some_iff.1 h
    have k1 := (zev f).1 _ _ _ a1 h1
    obtain ⟨b,h3,h4⟩ := Option.bind_eq_some_iff.1 h2
    have k2 := k1.trans (Keep.sign k1.ok [123])
    have k3 := k2.trans (j1 _ _ _ _ k2.ok h3)
    refine ct hw (bnd (l213 hC p hO) ?_)
    refine p187_2 (bnd (l42 hC _ (zq2 hO hk).1) ?_)
    refine p187_4 (bnd (l151 hC a1 h1) ?_)
    obtain ⟨⟨k',m',s',tg',l',q'⟩,p'⟩ := x
    simp only [zc5]
    refine p187_6 (bnd (h150 _ _ k1.ok h3) ?_)
    refine p187_9 (bnd (l43 hC _ wElse) ?_)
    refine p187_11 ?_
    simp only [Tr.val]
    by_cases he : b.2.isW wElse = true
    ·rw [if_pos he] at h4
     obtain ⟨c,h5,h6⟩ := Option.bind_eq_some_iff.1 h4
     have k4 := k3.trans (Keep.adv k3.ok)
     have k5 := k4.trans (Keep.sign k4.ok [123])
     have k6 := k5.trans (j1 _ _ _ _ k5.ok h5)
     refine ct he (bnd (l42 hC _ k3.ok) ?_)
     refine p187_13 (bnd (h150 _ _ k4.ok h5) ?_)
     refine p187_15 (bnd (l214 hC _ k6.ok.d0 (by have := k6.ok.d1; omega)) ?_)
     injection h6 with h6
     subst h6
     simp only [zhq,ze0,zce,zc5]
     exact p187_16 rfl
    ·rw [if_neg he] at h4
     injection h4 with h4
     subst h4
     refine cf (by simpa using he) (bnd (l214 hC _ k3.ok.d0 (by have := k3.ok.d1; omega)) ?_)
     simp only [zhq,ze0,zce,zc5,zfm]
     exact p187_14 rfl
   ·rw [if_neg hw] at h
    have k1 := Keep.oneF hO stL 0
    have k2 := k1.trans (Keep.name k1.ok)
    have h148 := l148 (T := T) (nx := nx) hC p hO true stL (by decide)
    refine cf (by simpa using hw) (bnd h148 ?_)
    refine p187_3 (bnd (l80 hC _ k1.ok) ?_)
    refine p187_5 ?_
    simp only [Tr.val]
    by_cases h5 : (p.oneF stL 0).1 = 5
    ·rw [if_pos h5] at h
     injection h with h
     subst h
     refine nF h5 (bnd (l81 hC _ k2.ok [59]) ?_)
     rw [h5]
     simp only [zhq,zce,zfm]
     exact p187_8 rfl
    ·rw [if_neg h5] at h
     obtain ⟨x,h1,h2⟩ := Option.bind_eq_some_iff.1 h
     have k3 := Keep.sign k2.ok [61]
     have k4 := (zev f).1 _ _ _ k3.ok h1
     refine nT h5 (bnd (l81 hC _ k2.ok [61]) ?_)
     refine p187_7 (bnd (l151 hC k3.ok h1) ?_)
     injection h2 with h2
     subst h2
     obtain ⟨⟨k',m',s',tg',l',q'⟩,p'⟩ := x
     simp only [zc5]
     refine p187_10 (bnd (l81 hC _ k4.ok [59]) ?_)
     simp only [zhq,ze0,zce,zfm,zc5]
     exact p187_12 rfl
theorem l150 {f : Nat} {p : PS} {r : (Bool × List Stm) × PS} (hO : Ok p) (h : blkF f p = some r) : calL C 150 [.ptr 0 0] (hp p T) nx = some ⟨.vs 6 r.1.1 (stms r.1.2),hp r.2 T,nx⟩:=by
 have k0 := Keep.sign hO [123]
 refine p150_c hC (p150_0 (bnd (l81 hC p hO [123]) ?_))
 refine p150_1 ?_
 have := (zsl (T := T) (nx := nx) hC f).1 true [] _ r k0.ok (by have := zsh k0.ok; simp; omega) h
 rw [zfm] at this
 exact this
end Go.Proofs.YtfdklpkfpmkgeaaGreatDoor
end
