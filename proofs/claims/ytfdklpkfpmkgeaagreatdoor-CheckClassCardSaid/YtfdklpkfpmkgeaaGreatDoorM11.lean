/- Members, types, whole sources: the methods of the parser. -/
import Derived.Test.YtfdklpkfpmkgeaaGreatDoorM9
import Derived.Test.YtfdklpkfpmkgeaaGreatDoorM10
set_option linter.unusedSimpArgs false
set_option linter.unusedVariables false
set_option linter.unusedSectionVars false
set_option linter.unnecessarySimpa false
namespace Go.Proofs.YtfdklpkfpmkgeaaGreatDoor
open Go Go.Vai
attribute [local irreducible] goTo bodyOf mkS
def ht (t : Typ) : Hp := ((1,⟨t.cs,[1,2,3,4]⟩) :: Hp.none)
section
variable {C : Nat→Oracle} (hC : Ext C)
include hC
theorem l83 {f : Nat} {t : Typ} {p : PS} {r : Typ × PS} (hO : Ok p) (hb : t.fields.length + t.ops.length + t.qrys.length + t.idxs.length ≤ 20000) (h : memF f t p = some r) :
  calL C 83 [.ptr 0 0,.ptr 1 0] (hp p (ht t)) 2 = some ⟨.tuple [],hp r.2 (ht r.1),2⟩:=by
 have k1 := Keep.oneF hO memW 0
 have k2 := Keep.name k1.ok
 have h148 := l148 (T := ht t) (nx := 2) hC p hO true memW (by decide)
 have h80 := l80 (T := ht t) (nx := 2) hC (p.oneF memW 0).2 k1.ok
 unfold memF at h
 refine p83_c hC (p83_0 (bnd h148 ?_))
 refine p83_1 ?_
 simp only [Tr.val]
 by_cases e1 : (p.oneF memW 0).1 = 1
 ·rw [if_pos e1] at h
  injection h with h; subst h
  have k3 := k2.trans (Keep.oneF k2.ok regW 0)
  refine bT e1 (bnd h80 ?_)
  refine p83_2 ?_
  simp only [Tr.val]
  refine bT e1 (bnd (l148 (T := ht t) (nx := 2) hC _ k2.ok true regW (by decide)) ?_)
  refine p83_10 ?_
  simp only [Tr.val,List.length_map]
  refine ct (maxBytes_le (by omega)) (ct (maxBytes_le (by omega)) ?_)
  refine bnd (l81 hC _ k3.ok [59]) ?_
  refine p83_23 ?_
  simp only [Tr.val,ht,Typ.cs,List.map_append,List.map_cons,List.map_nil,Fld.av,e1]
 rw [if_neg e1] at h
 refine bF e1 ?_
 by_cases e2 : (p.oneF memW 0).1 = 2
 ·rw [if_pos (.inl e2)] at h
  injection h with h; subst h
  refine bT e2 (bnd h80 ?_)
  refine p83_3 ?_
  simp only [Tr.val,List.length_map]
  refine bF e1 (ct (maxBytes_le (by omega)) (ct (maxBytes_le (by omega)) (bnd (l81 hC _ k2.ok [59]) ?_)))
  refine p83_13 ?_
  simp only [Tr.val,ht,Typ.cs,List.map_append,List.map_cons,List.map_nil,Fld.av]
 refine bF e2 ?_
 by_cases e3 : (p.oneF memW 0).1 = 3
 ·rw [if_pos (.inr (.inl e3))] at h
  injection h with h; subst h
  refine bT e3 (bnd h80 ?_)
  refine p83_4 ?_
  simp only [Tr.val,List.length_map]
  refine bF e1 (ct (maxBytes_le (by omega)) (ct (maxBytes_le (by omega)) (bnd (l81 hC _ k2.ok [59]) ?_)))
  refine p83_15 ?_
  simp only [Tr.val,ht,Typ.cs,List.map_append,List.map_cons,List.map_nil,Fld.av]
 refine bF e3 ?_
 by_cases e4 : (p.oneF memW 0).1 = 4
 ·rw [if_pos (.inr (.inr (.inl e4)))] at h
  injection h with h; subst h
  refine bT e4 (bnd h80 ?_)
  refine p83_5 ?_
  simp only [Tr.val,List.length_map]
  refine bF e1 (ct (maxBytes_le (by omega)) (ct (maxBytes_le (by omega)) (bnd (l81 hC _ k2.ok [59]) ?_)))
  refine p83_17 ?_
  simp only [Tr.val,ht,Typ.cs,List.map_append,List.map_cons,List.map_nil,Fld.av]
 refine bF e4 ?_
 by_cases e5 : (p.oneF memW 0).1 = 5
 ·rw [if_pos (.inr (.inr (.inr e5)))] at h
  injection h with h; subst h
  refine bT e5 (bnd h80 ?_)
  refine p83_6 ?_
  simp only [Tr.val,List.length_map]
  refine bF e1 (ct (maxBytes_le (by omega)) (ct (maxBytes_le (by omega)) (bnd (l81 hC _ k2.ok [59]) ?_)))
  refine p83_19 ?_
  simp only [Tr.val,ht,Typ.cs,List.map_append,List.map_cons,List.map_nil,Fld.av]
 rw [if_neg (fun hh=>by omega)] at h
 refine bF e5 ?_
 by_cases e6 : (p.oneF memW 0).1 = 6
 ·rw [if_pos e6] at h
  obtain ⟨a,h1,h2⟩ := Option.bind_eq_some_iff.1 h
  obtain ⟨b,h3,h4⟩ := Option.bind_eq_some_iff.1 h2
  injection h4 with h4; subst h4
  have k3 := pasF_keep k2.ok h1
  refine bT e6 (bnd h80 ?_)
  refine p83_7 (bnd (l149 hC k2.ok h1) ?_)
  refine p83_20 (bnd (l150 hC k3.ok h3) ?_)
  refine p83_28 ?_
  simp only [Tr.val,List.length_map]
  refine ct (maxBytes_le (by omega)) (ct (maxBytes_le (by omega)) ?_)
  simp only [ht,Typ.cs,List.map_append,List.map_cons,List.map_nil,Opn.av]
 rw [if_neg e6] at h
 refine bF e6 ?_
 by_cases e7 : (p.oneF memW 0).1 = 7
 ·rw [if_pos e7] at h
  obtain ⟨a,h1,h2⟩ := Option.bind_eq_some_iff.1 h
  obtain ⟨b,h3,h4⟩ := Option.bind_eq_some_iff.1 h2
  injection h4 with h4; subst h4
  have k3 := pasF_keep k2.ok h1
  have k4 := Keep.sign k3.ok [61]
  have k5 := (ex_keep f).1 _ _ _ k4.ok h3
  refine bT e7 (bnd h80 ?_)
  refine p83_8 (bnd (l149 hC k2.ok h1) ?_)
  refine p83_21 (bnd (l81 hC _ k3.ok [61]) ?_)
  refine p83_29 (bnd (l151 hC k4.ok h3) ?_)
  obtain ⟨⟨k',m',s',tg',l',q'⟩,p'⟩ := b
  simp only [av_mk]
  refine p83_30 ?_
  simp only [Tr.val,List.length_map]
  refine ct (maxBytes_le (by omega)) (ct (maxBytes_le (by omega)) ?_)
  refine bnd (l81 hC _ k5.ok [59]) ?_
  refine p83_31 ?_
  simp only [Tr.val,ht,Typ.cs,List.map_append,List.map_cons,List.map_nil,Qry.av,av_mk,AV.cells,List.cons_append,List.nil_append]
 rw [if_neg e7] at h
 refine bF e7 ?_
 by_cases e8 : (p.oneF memW 0).1 = 8
 ·rw [if_pos e8] at h
  injection h with h; subst h
  refine bT e8 (bnd h80 ?_)
  refine p83_9 ?_
  simp only [Tr.val,List.length_map]
  refine ct (maxBytes_le (by omega)) (ct (maxBytes_le (by omega)) ?_)
  refine bnd (l81 hC _ k2.ok [59]) ?_
  refine p83_22 ?_
  simp only [Tr.val,ht,Typ.cs,List.map_append,List.map_cons,List.map_nil,Idx.av]
 ·rw [if_neg e8] at h
  injection h with h; subst h
  exact bF e8 rfl
omit hC in
theorem memF_len {f : Nat} {t : Typ} {p : PS} {r : Typ × PS} (h : memF f t p = some r) : r.1.fields.length + r.1.ops.length + r.1.qrys.length + r.1.idxs.length ≤ t.fields.length + t.ops.length + t.qrys.length + t.idxs.length + 1:=by
 unfold memF at h
 split at h
 ·injection h with h; subst h; simp; omega
 split at h
 ·injection h with h; subst h; simp; omega
 split at h
 ·obtain ⟨a,h1,h2⟩ := Option.bind_eq_some_iff.1 h
  obtain ⟨b,h3,h4⟩ := Option.bind_eq_some_iff.1 h2
  injection h4 with h4; subst h4; simp; omega
 split at h
 ·obtain ⟨a,h1,h2⟩ := Option.bind_eq_some_iff.1 h
  obtain ⟨b,h3,h4⟩ := Option.bind_eq_some_iff.1 h2
  injection h4 with h4; subst h4; simp; omega
 split at h
 ·injection h with h; subst h; simp; omega
 ·injection h with h; subst h; simp
theorem td_loop : ∀ (f : Nat) (t : Typ) (p : PS) (r : Typ × PS) (s : List UInt8) (b1 b2 b3 b4 : Bool) (g1 g2 g3 g4 : List AV) (x : Int),Ok p→t.fields.length + t.ops.length + t.qrys.length + t.idxs.length + mu p ≤ 20000→tdL f t p = some r →
  RL C 44 [0,5,0,5,0,5,0,5,0,5,0,2,3] (mkS 30 [(0,.val (.ptr 0 0) .no),(2,.lp 2 0),(3,.val (.ptr 1 0) .no)] [(2,⟨[(.str s),(.vs 4 b1 g1),(.vs 4 b2 g2),(.vs 8 b3 g3),(.vs 2 b4 g4),(.int .i64 x)],[1,2,3,4]⟩)] (hp p (ht t)) 2) = some ⟨r.1.av,hp r.2 (ht r.1),2⟩
 | 0,_,_,_,_,_,_,_,_,_,_,_,_,_,_,_,h=>by cases h
 | f + 1,t,p,r,s,b1,b2,b3,b4,g1,g2,g3,g4,x,hO,hb,h=>by
  unfold tdL at h
  have h81 := l81 (T := ht t) (nx := 2) hC p hO [125]
  have h82 := l82 (T := ht t) (nx := 2) hC p [125]
  refine p44_4 ?_
  simp only [Tr.val]
  by_cases h0 : p.err = 0
  ·refine bT h0 (bnd h82 ?_)
   refine p44_5 ?_
   simp only [Tr.val]
   cases hg : p.isG [125]
   ·rw [if_pos ⟨h0,hg⟩] at h
    obtain ⟨a,h1,h2⟩ := Option.bind_eq_some_iff.1 h
    obtain ⟨k1,lt⟩ := memF_keep hO h1
    have lt := lt h0
    have ln : a.1.fields.length + a.1.ops.length + a.1.qrys.length + a.1.idxs.length ≤ t.fields.length + t.ops.length + t.qrys.length + t.idxs.length + 1 := memF_len h1
    simp only [Bool.not_false,br_true]
    refine bnd (l83 hC hO (by omega) h1) ?_
    refine p44_7 ?_
    have := td_loop f a.1 a.2 r s b1 b2 b3 b4 g1 g2 g3 g4 x k1.ok (by omega) h2
    exact this
   ·rw [if_neg (fun hh=>by rw [hg] at hh; cases hh.2)] at h
    injection h with h
    subst h
    simp only [Bool.not_true,br_false]
    refine bnd h81 ?_
    exact p44_6 rfl
  ·rw [if_neg (fun hh=>h0 hh.1)] at h
   injection h with h
   subst h
   refine bF h0 (bnd h81 ?_)
   exact p44_6 rfl
theorem l44 {f : Nat} {p : PS} {r : Typ × PS} (hO : Ok p) (h : tdF f p = some r) : calL C 44 [.ptr 0 0] (hp p Hp.none) 1 = some ⟨r.1.av,hp r.2 (ht r.1),2⟩:=by
 have k1 := Keep.adv hO
 have k2 := Keep.name k1.ok
 have k3 := Keep.sign k2.ok [123]
 refine p44_c hC (p44_0 (bnd (l42 hC p hO) ?_))
 refine p44_1 (bnd (l80 hC _ k1.ok) ?_)
 refine p44_2 (bnd (l81 hC _ k2.ok [123]) ?_)
 refine p44_3 ?_
 exact td_loop hC f _ _ r [] true true true true [] [] [] [] 0 k3.ok (by have := mu_le k3.ok; simp; omega) h
end
mutual
theorem pure_ex : ∀ e : Ex,e.av.pure = true
 | .mk k m s tg l a=>by
  rw [av_mk]
  simp only [AV.pure,pureL]
  rw [pure_exs l]
theorem pure_exs : ∀ l : List Ex,pureL (exs l) = true
 | []=>by rw [exs_nil]; rfl
 | e :: l=>by rw [exs_cons,pureL_cons,pure_ex e,pure_exs l]; rfl
end
mutual
theorem pure_stm : ∀ e : Stm,e.av.pure = true
 | .mk k s v t1 th t2 el a=>by
  rw [stm_mk]
  simp only [AV.pure,pureL]
  rw [pure_exs v,pure_stms th,pure_stms el]
theorem pure_stms : ∀ l : List Stm,pureL (stms l) = true
 | []=>by rw [stms_nil]; rfl
 | e :: l=>by rw [stms,pureL_cons,pure_stm e,pure_stms l]; rfl
end
theorem pure_map {α : Type} (f : α→AV) (h : ∀ x,(f x).pure = true) (l : List α) : pureL (l.map f) = true:=by
 induction l with
 | nil=>rfl
 | cons e l ih=>rw [List.map_cons,pureL_cons,h,ih]; rfl
theorem pure_par (x : Par) : x.av.pure = true := rfl
theorem pure_pars (l : List Par) : pureL (l.map Par.av) = true := pure_map _ pure_par l
theorem pure_opn (x : Opn) : x.av.pure = true:=by
 simp only [Opn.av,AV.pure,pureL,pure_pars,pure_stms]
theorem pure_qry (x : Qry) : x.av.pure = true:=by
 obtain ⟨n,tg,ps,⟨k,m,s,tg',l,q⟩,a⟩ := x
 simp only [Qry.av,av_mk,AV.cells,List.cons_append,List.nil_append,AV.pure,pureL,pure_pars,pure_exs]
theorem pure_typ (t : Typ) : pureL t.cs = true:=by
 simp only [Typ.cs,pureL,AV.pure,pure_map _ (fun x : Fld=>(rfl : x.av.pure = true)),pure_map _ pure_opn,pure_map _ pure_qry,pure_map _ (fun x : Idx=>(rfl : x.av.pure = true))]
theorem pure_typs (l : List Typ) : pureL (l.map Typ.av) = true := pure_map Typ.av (fun t=>pure_typ t) l
def slotOk (m : Nat) (s : Slot) : Bool := match s with
 | .val v _=>v.okD m
 | _=>true
theorem slotsD_mkL {m : Nat} : ∀ (n i : Nat) (l : List (Nat × Slot)),(∀ p ∈ l,slotOk m p.2 = true)→slotsD m (mkL l n i) = true
 | 0,_,_,_=>rfl
 | n + 1,i,[],h=>by
  unfold mkL slotsD
  exact slotsD_mkL n (i + 1) [] h
 | n + 1,i,(t,s) :: r,h=>by
  show slotsD m (match Nat.beq t i with
   | true=>s :: mkL r n (i + 1)
   | false=>.und :: mkL ((t,s) :: r) n (i + 1)) = true
  cases Nat.beq t i with
  | true =>
   have hs := h (t,s) List.mem_cons_self
   unfold slotsD
   show (match slotOk m s with
    | true=>slotsD m (mkL r n (i + 1))
    | false=>false) = true
   rw [show slotOk m s = true from hs]
   exact slotsD_mkL n (i + 1) r fun p hp=>h p (List.mem_cons_of_mem _ hp)
  | false =>
   unfold slotsD
   exact slotsD_mkL n (i + 1) _ h
theorem drop_ok {m n nx : Nat} {l : List (Nat × Slot)} {L : List (Nat × Blk)} {H : Hp} (h1 : ∀ p ∈ l,slotOk m p.2 = true) (h2 : boxesP L = true) (h3 : boxesP (keepH m H) = true) : dropOk m (mkS n l L H nx) = true:=by
 unfold dropOk mkS
 simp only [slotsD_mkL n 0 l h1,h2,h3]
 rfl
def paO (p : PS) (tg : Bool) (l : List Typ) : AV := if p.fin.err = 0 then .tuple [.agg [.vs 6 tg (l.map Typ.av)],.int .i64 0,.int .i64 0] else .tuple [.agg [.vs 6 true []],.int .i64 p.fin.eat,.int .i64 p.fin.err]
variable {C : Nat→Oracle} (hC : Ext C)
include hC
theorem pa_loop : ∀ (f : Nat) (tg : Bool) (l : List Typ) (p : PS) (r : (Bool × List Typ) × PS),Ok p→l.length + mu p ≤ 20000→paL f tg l p = some r →
  RL C 20 [0,5,0,0,5,7,5,0,5,0,5,0,5,0,2,3] (mkS 54 [(2,.lp 2 0),(5,.val (.ptr 0 0) .no),(6,.lp 6 0)] [(2,⟨[(.vs 6 true [])],[0]⟩),(6,⟨[(.vs 6 tg (l.map Typ.av))],[0]⟩)] (hp p Hp.none) 1) = some ⟨paO r.2 r.1.1 r.1.2,hp r.2.fin Hp.none,1⟩
 | 0,_,_,_,_,_,_,h=>by cases h
 | f + 1,tg,l,p,r,hO,hb,h=>by
  unfold paL at h
  refine p20_2 (bnd (l43 hC p wType) ?_)
  refine p20_3 ?_
  simp only [Tr.val]
  by_cases hw : p.isW wType = true
  ·rw [if_pos hw] at h
   obtain ⟨a,h1,h2⟩ := Option.bind_eq_some_iff.1 h
   have k1 := tdF_keep hO h1
   have lt := tdF_lt hO (by rw [isW_kind hw]; decide) h1
   refine ct hw (bnd (l44 hC hO h1) ?_)
   simp only [Typ.av,Typ.cs,ht]
   refine p20_4 ?_
   simp only [Tr.val,List.length_map]
   refine ct (maxBytes_le (by omega)) (ct (maxBytes_le (by omega)) (ct ?_ ?_))
   ·have hp1 := pure_typs l
    have hp2 := pure_typs (l ++ [a.1])
    simp only [List.map_append,List.map_cons,List.map_nil,Typ.av,Typ.cs] at hp2
    refine drop_ok ?_ ?_ ?_
    ·simp only [List.mem_cons,List.not_mem_nil,or_false,forall_eq_or_imp,forall_eq]
     exact ⟨rfl,rfl,rfl⟩
    ·simp only [boxesP,pureL,AV.pure,hp2]
    ·rfl
   ·have := pa_loop f false (l ++ [a.1]) a.2 r k1.ok (by rw [List.length_append,List.length_singleton]; omega) h2
    simp only [List.map_append,List.map_cons,List.map_nil,Typ.av,Typ.cs] at this
    exact this
  ·rw [if_neg hw] at h
   injection h with h
   subst h
   refine cf (by simpa using hw) ?_
   by_cases hk : p.kind = 0
   ·refine nF hk ?_
    simp only [paO,PS.fin,if_pos hk]
    by_cases he : p.err = 0
    ·rw [if_pos he]; exact nF he rfl
    ·rw [if_neg he]; exact nT he rfl
   ·refine nT hk (bnd (l45 hC _ _ _) ?_)
    refine p20_5 ?_
    simp only [Tr.val,paO,PS.fin,if_neg hk]
    have he := p.fail_err (e := 11) p.tat (by decide)
    rw [if_neg he]
    exact nT he rfl
theorem l20 {src : List UInt8} (hl : src.length ≤ 4000) {f : Nat} {r : (Bool × List Typ) × PS} (h : paL f true [] (ps0 src).adv = some r) : calL C 20 [.str src] Hp.none 0 = some ⟨paO r.2 r.1.1 r.1.2,hp r.2.fin Hp.none,1⟩:=by
 refine p20_c hC (p20_0 ?_)
 simp only [Tr.val]
 have k0 := Keep.adv (ps0_ok hl)
 refine bF (by omega) (bnd (l42 (T := Hp.none) (nx := 1) hC (ps0 src) (ps0_ok hl)) ?_)
 refine p20_1 ?_
 have := pa_loop hC f true [] _ r k0.ok (by have := mu_le k0.ok; simp; omega) h
 exact this
theorem l20_long {src : List UInt8} (hl : ¬ src.length ≤ 4000) : calL C 20 [.str src] Hp.none 0 = some ⟨.tuple [.agg [.vs 6 true []],.int .i64 0,.int .i64 3],Hp.none,0⟩:=by
 refine p20_c hC (p20_0 ?_)
 simp only [Tr.val]
 exact bT (by omega) rfl
end Go.Proofs.YtfdklpkfpmkgeaaGreatDoor
