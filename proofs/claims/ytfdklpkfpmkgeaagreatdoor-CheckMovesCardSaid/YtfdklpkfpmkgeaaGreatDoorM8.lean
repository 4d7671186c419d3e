/- Parameters and statements: the methods of the parser. -/
import Derived.Test.YtfdklpkfpmkgeaaGreatDoorM6
import Derived.Test.YtfdklpkfpmkgeaaGreatDoorM7
set_option linter.unusedSimpArgs false
set_option linter.unusedVariables false
set_option linter.unusedSectionVars false
set_option linter.unnecessarySimpa false
namespace Go.Proofs.YtfdklpkfpmkgeaaGreatDoor
section
open Go Go.Vai
attribute [local irreducible] goTo zao mkS
theorem zim (k : Int) (s : List UInt8) (v : List Ex) (tg1 : Bool) (th : List Stm) (tg2 : Bool) (el : List Stm) (a : Int) : (Stm.mk k s v tg1 th tg2 el a).av = .agg [.int .i64 k,.str s,.vs 5 true (exs v),.vs 6 tg1 (stms th),.vs 6 tg2 (stms el),.int .i64 a] := by rw [Stm.av]
theorem zgb : stms [] = [] := by rw [stms]
theorem zew : ∀ l : List Stm,stms l = l.map Stm.av
 | []=>by rw [stms]; rfl
 | e :: l=>by rw [stms,zew l]; rfl
theorem zr4 : ∀ l : List Ex,exs l = l.map Ex.av
 | []=>by rw [exs]; rfl
 | e :: l=>by rw [exs,zr4 l]; rfl
variable {C : Nat→Oracle} (hC : Ext C) {T : Hp} {nx : Nat}
include hC
theorem l151 {f : Nat} {p : PS} {r : Ex × PS} (hO : Ok p) (h : binF f 1 p = some r) : calL C 151 [.ptr 0 0] (hp p T) nx = some ⟨r.1.av,hp r.2 T,nx⟩:=by
 have := (zu9 (T := T) (nx := nx) hC f).1 1 p r hO (by decide) h;refine p151_c hC (p151_0 (bnd this ?_));obtain ⟨⟨k',m',s',tg',l',q'⟩,p'⟩ := r;simp only [zcm];exact p151_1 rfl
theorem l186 (p : PS) (hO : Ok p) : calL C 186 [.ptr 0 0] (hp p T) nx = some ⟨(parF p).1.av,hp (parF p).2 T,nx⟩:=by
 refine p186_c hC (p186_0 (bnd (l80 hC p hO) ?_));have h148 := l148 (T := T) (nx := nx) hC p.name (Keep.name hO).ok true tyL (by decide);refine p186_1 (bnd h148 ?_);exact p186_2 rfl
theorem zrs : ∀ (f : Nat) (l : List Par) (p : PS) (r : List Par × PS) (tg : Bool),Ok p→l.length + mu p ≤ 20000→pasL f l p = some r→l ≠ [] →
  ∃ tg',RL C 149 Q1f (mkS 26 [(0,.val (.ptr 0 0) .no),(3,.val (.vs 3 tg (l.map Par.av)) .own)] [] (hp p T) nx) = some ⟨.vs 3 tg' (r.1.map Par.av),hp r.2 T,nx⟩∧(tg = false→tg' = false)
 | 0,_,_,_,_,_,_,h,_=>by cases h
 | f + 1,l,p,r,tg,hO,hb,h,hl=>by
  unfold pasL at h;split at h
  ·rename_i hg;have k0 := Keep.adv hO;have lt := (PS.adv_mu hO).2 (by rw [zc0 hg]; decide);have k1 := zcd k0.ok;have lt' := k1.mu;obtain ⟨tg',h1,h2⟩ := zrs f _ _ r false k1.ok (by rw [lnA,List.length_singleton]; omega) h (by simp);refine ⟨tg',?_,fun _=>h2 rfl⟩;refine p149_5 (bnd (l82 hC p [44]) ?_);refine p149_6 ?_;simp only [Tr.val];refine ct hg (bnd (l42 hC p hO) ?_);refine p149_7 (bnd (l186 hC _ k0.ok) ?_);simp only [Par.av];refine p149_9 ?_;simp only [Tr.val,lnM];refine ct (zad (by omega)) (ct (zad (by omega)) ?_);simp only [mpA,List.map_cons,List.map_nil,Par.av] at h1;exact h1
  ·rename_i hg;injection h with h;subst h;refine ⟨tg,?_,fun h=>h⟩;refine p149_5 (bnd (l82 hC p [44]) ?_);refine p149_6 ?_;simp only [Tr.val];refine cf (by simpa using hg) (bnd (l81 hC p hO [41]) ?_);exact p149_8 rfl
theorem l149 {f : Nat} {p : PS} {r : (Bool × List Par) × PS} (hO : Ok p) (h : pasF f p = some r) : calL C 149 [.ptr 0 0] (hp p T) nx = some ⟨.vs 3 r.1.1 (r.1.2.map Par.av),hp r.2 T,nx⟩:=by
 have k0 := Keep.sign hO [40];refine p149_c hC (p149_0 (bnd (l81 hC p hO [40]) ?_));refine p149_1 (bnd (l82 hC _ [41]) ?_);refine p149_2 ?_;simp only [Tr.val];unfold pasF at h;split at h
 ·rename_i hg;injection h with h;subst h;refine cf (by rw [hg]; rfl) (bnd (l81 hC _ k0.ok [41]) ?_);exact p149_4 rfl
 ·rename_i hg;obtain ⟨x,h1,h2⟩ := Option.map_eq_some_iff.1 h;subst h2;have k1 := zcd k0.ok;refine ct (by simpa using hg) (bnd (l186 hC _ k0.ok) ?_);simp only [Par.av];refine p149_3 ?_;simp only [Tr.val];refine ct rfl (ct rfl ?_);obtain ⟨tg',h3,h4⟩ := zrs (T := T) (nx := nx) hC f _ _ x false k1.ok (by have := zj5 k1.ok; simp; omega) h1 (by simp);rw [h4 rfl] at h3;exact h3
theorem zwq : ∀ f : Nat,
  (∀ tg l p r,Ok p→l.length + mu p ≤ 20000→blkL f tg l p = some r→RL C 150 Q0m (mkS 24 [(0,.val (.ptr 0 0) .no),(3,.val (.vs 6 tg (stms l)) .own)] [] (hp p T) nx) = some ⟨.vs 6 r.1.1 (stms r.1.2),hp r.2 T,nx⟩) ∧
  (∀ p r,Ok p→stF f p = some r→calL C 187 [.ptr 0 0] (hp p T) nx = some ⟨r.1.av,hp r.2 T,nx⟩)
 | 0=>⟨fun _ _ _ _ _ _ h=>(by rw [blkL] at h; cases h),fun _ _ _ h=>(by rw [stF] at h; cases h)⟩
 | f + 1=>by
  obtain ⟨i1,i2⟩ := zwq f;obtain ⟨j1,j2⟩ := zdf f;have h150 : ∀ p r,Ok p→blkL f true [] (p.sign [123]) = some r→calL C 150 [.ptr 0 0] (hp p T) nx = some ⟨.vs 6 r.1.1 (stms r.1.2),hp r.2 T,nx⟩:=by
   intro p r hO h;have k0 := Keep.sign hO [123];refine p150_c hC (p150_0 (bnd (l81 hC p hO [123]) ?_));refine p150_1 ?_;have := i1 true [] _ r k0.ok (by have := zj5 k0.ok; simp; omega) h;rw [zgb] at this;exact this
  refine ⟨fun tg l p r hO hb h=>?_,fun p r hO h=>?_⟩
  ·rw [blkL] at h;refine p150_2 ?_;simp only [Tr.val];by_cases h0 : p.err = 0
   ·refine bT h0 (bnd (l82 hC p [125]) ?_);refine p150_3 ?_;simp only [Tr.val];cases hg : p.isG [125]
    ·rw [if_pos ⟨h0,hg⟩] at h;obtain ⟨x,h1,h2⟩ := za2 h;obtain ⟨k1,lt⟩ := j2 _ _ hO h1;have lt := lt h0;simp only [bnF,za0];refine bnd (i2 _ _ hO h1) ?_;have := i1 false (l ++ [x.1]) x.2 r k1.ok (by rw [lnA,List.length_singleton]; omega) h2;obtain ⟨⟨k',s',v',t1,th,t2,el,a'⟩,p'⟩ := x;simp only [zew,mpA,List.map_cons,List.map_nil,zim] at this ⊢;refine p150_5 ?_;simp only [Tr.val,lnM];refine ct (zad (by omega)) (ct (zad (by omega)) ?_);exact this
    ·rw [if_neg (fun hh=>by rw [hg] at hh; cases hh.2)] at h;injection h with h;subst h;simp only [bnT,zaw];refine bnd (l81 hC p hO [125]) ?_;exact p150_4 rfl
   ·rw [if_neg (fun hh=>h0 hh.1)] at h;injection h with h;subst h;refine bF h0 (bnd (l81 hC p hO [125]) ?_);exact p150_4 rfl
  ·rw [stF] at h;refine p187_c hC (p187_0 (bnd (l43 hC p wIf) ?_));refine p187_1 ?_;simp only [Tr.val];by_cases hw : p.isW wIf = true
   ·rw [if_pos hw] at h;have hk : p.kind ≠ 0 := by rw [zbs hw]; decide
    obtain ⟨a1,a2,a3,a4⟩ := zc9 hO hk;obtain ⟨x,h1,h2⟩ := za2 h;have k1 := (zbp f).1 _ _ _ a1 h1;obtain ⟨b,h3,h4⟩ := za2 h2;have k2 := k1.trans (Keep.sign k1.ok [123]);have k3 := k2.trans (j1 _ _ _ _ k2.ok h3);refine ct hw (bnd (l213 hC p hO) ?_);refine p187_2 (bnd (l42 hC _ (zpd hO hk).1) ?_);refine p187_4 (bnd (l151 hC a1 h1) ?_);obtain ⟨⟨k',m',s',tg',l',q'⟩,p'⟩ := x;simp only [zcm];refine p187_6 (bnd (h150 _ _ k1.ok h3) ?_);refine p187_9 (bnd (l43 hC _ wElse) ?_);refine p187_11 ?_;simp only [Tr.val];by_cases he : b.2.isW wElse = true
    ·rw [if_pos he] at h4;obtain ⟨c,h5,h6⟩ := za2 h4;have k4 := k3.trans (Keep.adv k3.ok);have k5 := k4.trans (Keep.sign k4.ok [123]);have k6 := k5.trans (j1 _ _ _ _ k5.ok h5);refine ct he (bnd (l42 hC _ k3.ok) ?_);refine p187_13 (bnd (h150 _ _ k4.ok h5) ?_);refine p187_15 (bnd (l214 hC _ k6.ok.d0 (by have := k6.ok.d1; omega)) ?_);injection h6 with h6;subst h6;simp only [zim,zf1,zcp,zcm];exact p187_16 rfl
    ·rw [if_neg he] at h4;injection h4 with h4;subst h4;refine cf (by simpa using he) (bnd (l214 hC _ k3.ok.d0 (by have := k3.ok.d1; omega)) ?_);simp only [zim,zf1,zcp,zcm,zgb];exact p187_14 rfl
   ·rw [if_neg hw] at h;have k1 := Keep.oneF hO stL 0;have k2 := k1.trans (Keep.name k1.ok);have h148 := l148 (T := T) (nx := nx) hC p hO true stL (by decide);refine cf (by simpa using hw) (bnd h148 ?_);refine p187_3 (bnd (l80 hC _ k1.ok) ?_);refine p187_5 ?_;simp only [Tr.val];by_cases h5 : (p.oneF stL 0).1 = 5
    ·rw [if_pos h5] at h;injection h with h;subst h;refine nF h5 (bnd (l81 hC _ k2.ok [59]) ?_);rw [h5];simp only [zim,zcp,zgb];exact p187_8 rfl
    ·rw [if_neg h5] at h;obtain ⟨x,h1,h2⟩ := za2 h;have k3 := Keep.sign k2.ok [61];have k4 := (zbp f).1 _ _ _ k3.ok h1;refine nT h5 (bnd (l81 hC _ k2.ok [61]) ?_);refine p187_7 (bnd (l151 hC k3.ok h1) ?_);injection h2 with h2;subst h2;obtain ⟨⟨k',m',s',tg',l',q'⟩,p'⟩ := x;simp only [zcm];refine p187_10 (bnd (l81 hC _ k4.ok [59]) ?_);simp only [zim,zf1,zcp,zgb,zcm];exact p187_12 rfl
theorem l150 {f : Nat} {p : PS} {r : (Bool × List Stm) × PS} (hO : Ok p) (h : blkF f p = some r) : calL C 150 [.ptr 0 0] (hp p T) nx = some ⟨.vs 6 r.1.1 (stms r.1.2),hp r.2 T,nx⟩:=by
 have k0 := Keep.sign hO [123];refine p150_c hC (p150_0 (bnd (l81 hC p hO [123]) ?_));refine p150_1 ?_;have := (zwq (T := T) (nx := nx) hC f).1 true [] _ r k0.ok (by have := zj5 k0.ok; simp; omega) h;rw [zgb] at this;exact this
end
section
open Go Go.Vai
attribute [local irreducible] goTo zao mkS
variable {C : Nat → Oracle} {o : Out}
abbrev cE0 : Nat × Blk := (2,⟨[(.str []),(.vs 4 true []),(.vs 4 true []),(.vs 8 true []),(.vs 2 true []),(i6 0)],Q02⟩)
abbrev cE1 : AV := (.vs 1 true [(.str [105,110,116]),(.str [116,101,120,116])])
abbrev cE2 : Nat × Blk := (2,⟨[(.vs 6 true [])],[0]⟩)
abbrev cE3 : AV := (.vs 1 true [(.str [114,101,103,105,115,116,101,114]),(.str [99,111,117,110,116,101,114]),(.str [109,97,120]),(.str [115,101,116]),(.str [102,108,97,103]),(.str [111,112]),(.str [113,117,101,114,121]),(.str [105,110,100,101,120])])
abbrev cE4 : Nat × Blk := (6,⟨[(.str []),(.vs 3 true []),(.vs 6 true []),(i6 0)],[1,2]⟩)
abbrev cE5 : Nat × Blk := (7,⟨[(.str []),(.vs 3 true []),(i6 0),(i6 0),(.str []),(.vs 5 true []),(i6 0),(i6 0)],[1,5]⟩)
abbrev cE7 : Nat × Blk := (1,⟨[(.str []),(.vs 4 true []),(.vs 4 true []),(.vs 8 true []),(.vs 2 true []),(i6 0)],Q02⟩)
abbrev qE0 : List Nat := Q1c
abbrev qE1 : List Nat := Q3d
abbrev qE2 : List Nat := Q1q
abbrev qE3 : List Nat := Q3o
abbrev qE4 : List Nat := Q3p
abbrev qE5 : List Nat := Q46
abbrev qE6 : List Nat := Q4x
abbrev qE7 : List Nat := Q5n
abbrev qE8 : List Nat := Q41
abbrev qE9 : List Nat := Q4n
abbrev qE10 : List Nat := Q5d
abbrev qE11 : List Nat := Q5e
abbrev qE12 : List Nat := Q4q
abbrev qE13 : List Nat := Q5f
abbrev qE14 : List Nat := Q64
abbrev qE15 : List Nat := Q3e
abbrev qE16 : List Nat := Q56
abbrev qE17 : List Nat := Q5s
abbrev qE18 : List Nat := Q63
abbrev qE19 : List Nat := Q6i
abbrev qE20 : List Nat := Q35
abbrev qE21 : List Nat := Q4h
theorem p83_c (hC : Ext C) {g : PS} {h : List UInt8} {a b c d : Bool} {i j k e : List AV} {f : Int} : LC C o 83 (mkS 121 [vv 0 (.ptr 0 0),vv 1 (.ptr 1 0)] [] (hp g ((1,⟨[(.str h),(.vs 4 a i),(.vs 4 b j),(.vs 8 c k),(.vs 2 d e),(i6 f)],Q02⟩) :: Hp.none)) 2) [(.ptr 0 0),(.ptr 1 0)] (hp g ((1,⟨[(.str h),(.vs 4 a i),(.vs 4 b j),(.vs 8 c k),(.vs 2 d e),(i6 f)],Q02⟩) :: Hp.none)) 2 := lC hC
theorem p83_0 {h a b c d i j k e f} {g : PS} : LR C o 83 [] (mkS 121 [vv 0 (.ptr 0 0),vv 1 (.ptr 1 0)] [] (hp g ((1,⟨[(.str h),(.vs 4 a i),(.vs 4 b j),(.vs 8 c k),(.vs 2 d e),(i6 f)],Q02⟩) :: Hp.none)) 2) (.call 148 [(.ptr 0 0),(.vs 1 true [(.str [114,101,103,105,115,116,101,114]),(.str [99,111,117,110,116,101,114]),(.str [109,97,120]),(.str [115,101,116]),(.str [102,108,97,103]),(.str [111,112]),(.str [113,117,101,114,121]),(.str [105,110,100,101,120])])] (hp g ((1,⟨[(.str h),(.vs 4 a i),(.vs 4 b j),(.vs 8 c k),(.vs 2 d e),(i6 f)],Q02⟩) :: Hp.none)) 2 fun l =>
(.mid 0 [0] 3 (mkS 121 [vv 0 (.ptr 0 0),vv 1 (.ptr 1 0),vv 9 (.ptr 0 0),vv 10 cE3,vv 11 l.v] [] l.H l.nx))) := lR 2
abbrev yS126 := fun a b c d => mkS 121 [vv 0 (.ptr 0 0),vv 1 (.ptr 1 0),vi 4 a,(5,.lp 5 0),vv 22 (.ptr 0 0),vv 23 b] [(5,⟨[(.str []),(i6 a),(i6 0),(i6 0)],[]⟩)] c d
abbrev yS127 := fun a b c d => mkS 121 [vv 0 (.ptr 0 0),vv 1 (.ptr 1 0),vi 4 a,(5,.lp 5 0),vv 22 (.ptr 0 0),vv 23 b] [(5,⟨[(.str []),(i6 a),(i6 0),(i6 0)],[]⟩)] c d
abbrev yS128 := fun a b c d => mkS 121 [vv 0 (.ptr 0 0),vv 1 (.ptr 1 0),vi 4 a,(5,.lp 5 0),vv 22 (.ptr 0 0),vv 23 b] [(5,⟨[(.str []),(i6 a),(i6 0),(i6 0)],[]⟩)] c d
abbrev yS129 := fun a b c d => mkS 121 [vv 0 (.ptr 0 0),vv 1 (.ptr 1 0),vi 4 a,(5,.lp 5 0),vv 22 (.ptr 0 0),vv 23 b] [(5,⟨[(.str []),(i6 a),(i6 0),(i6 0)],[]⟩)] c d
abbrev yS130 := fun a b c d => mkS 121 [vv 0 (.ptr 0 0),vv 1 (.ptr 1 0),vi 4 a,(5,.lp 5 0),vv 22 (.ptr 0 0),vv 23 b] [(5,⟨[(.str []),(i6 a),(i6 0),(i6 0)],[]⟩)] c d
abbrev yS131 := fun a b c => mkS 121 [vv 0 (.ptr 0 0),vv 1 (.ptr 1 0),(6,.lp 6 0),vv 49 (.ptr 0 0),vv 50 a] [cE4] b c
abbrev yS132 := fun a b c => mkS 121 [vv 0 (.ptr 0 0),vv 1 (.ptr 1 0),(7,.lp 7 0),vv 74 (.ptr 0 0),vv 75 a] [cE5] b c
abbrev yS133 := fun a b c => mkS 121 [vv 0 (.ptr 0 0),vv 1 (.ptr 1 0),(8,.lp 8 0),vv 103 (.ptr 0 0),vv 104 a] [(8,⟨[(.str []),(i6 0)],[]⟩)] b c
theorem p83_1 {i b c d e j k l f g a} {h : PS} : LM C o 83 [0] 3 (mkS 121 [vv 0 (.ptr 0 0),vv 1 (.ptr 1 0),vv 9 (.ptr 0 0),vv 10 cE3,vi 11 a] [] (hp h ((1,⟨[(.str i),(.vs 4 b j),(.vs 4 c k),(.vs 8 d l),(.vs 2 e f),(i6 g)],Q02⟩) :: Hp.none)) 2) (.br (decide (a = 1))
(.call 80 [(.ptr 0 0)] (hp h ((1,⟨[(.str i),(.vs 4 b j),(.vs 4 c k),(.vs 8 d l),(.vs 2 e f),(i6 g)],Q02⟩) :: Hp.none)) 2 fun m =>
(.mid 18 Q1g 2 (yS126 a m.v m.H m.nx)))
(.br (decide (a = 2))
(.call 80 [(.ptr 0 0)] (hp h ((1,⟨[(.str i),(.vs 4 b j),(.vs 4 c k),(.vs 8 d l),(.vs 2 e f),(i6 g)],Q02⟩) :: Hp.none)) 2 fun n =>
(.mid 15 Q22 2 (yS127 a n.v n.H n.nx)))
(.br (decide (a = 3))
(.call 80 [(.ptr 0 0)] (hp h ((1,⟨[(.str i),(.vs 4 b j),(.vs 4 c k),(.vs 8 d l),(.vs 2 e f),(i6 g)],Q02⟩) :: Hp.none)) 2 fun p =>
(.mid 12 Q2q 2 (yS128 a p.v p.H p.nx)))
(.br (decide (a = 4))
(.call 80 [(.ptr 0 0)] (hp h ((1,⟨[(.str i),(.vs 4 b j),(.vs 4 c k),(.vs 8 d l),(.vs 2 e f),(i6 g)],Q02⟩) :: Hp.none)) 2 fun q =>
(.mid 9 qE3 2 (yS129 a q.v q.H q.nx)))
(.br (decide (a = 5))
(.call 80 [(.ptr 0 0)] (hp h ((1,⟨[(.str i),(.vs 4 b j),(.vs 4 c k),(.vs 8 d l),(.vs 2 e f),(i6 g)],Q02⟩) :: Hp.none)) 2 fun r =>
(.mid 9 qE4 2 (yS130 a r.v r.H r.nx)))
(.br (decide (a = 6))
(.call 80 [(.ptr 0 0)] (hp h ((1,⟨[(.str i),(.vs 4 b j),(.vs 4 c k),(.vs 8 d l),(.vs 2 e f),(i6 g)],Q02⟩) :: Hp.none)) 2 fun s =>
(.mid 6 qE5 2 (yS131 s.v s.H s.nx)))
(.br (decide (a = 7))
(.call 80 [(.ptr 0 0)] (hp h ((1,⟨[(.str i),(.vs 4 b j),(.vs 4 c k),(.vs 8 d l),(.vs 2 e f),(i6 g)],Q02⟩) :: Hp.none)) 2 fun t =>
(.mid 3 qE6 2 (yS132 t.v t.H t.nx)))
(.br (decide (a = 8))
(.call 80 [(.ptr 0 0)] (hp h ((1,⟨[(.str i),(.vs 4 b j),(.vs 4 c k),(.vs 8 d l),(.vs 2 e f),(i6 g)],Q02⟩) :: Hp.none)) 2 fun u =>
(.mid 0 qE7 2 (yS133 u.v u.H u.nx)))
(.ret ⟨(.tuple []),(hp h ((1,⟨[(.str i),(.vs 4 b j),(.vs 4 c k),(.vs 8 d l),(.vs 2 e f),(i6 g)],Q02⟩) :: Hp.none)),2⟩))))))))) := lM 31
abbrev yS134 := fun a (b : List UInt8) (c d : Int) e f => mkS 121 [vv 0 (.ptr 0 0),vv 1 (.ptr 1 0),(5,.lp 5 0),vb 29 true,vv 30 (.ptr 0 0),vv 31 cE1,a] [(5,⟨[(.str b),(i6 c),(i6 0),(i6 d)],[]⟩)] e f
theorem p83_2 {l b k d e f g m n h i a c} {j : PS} : LM C o 83 Q1g 2 (yS126 a (.tuple [(.str b),(i6 c)]) (hp j ((1,⟨[(.str l),(.vs 4 k g),(.vs 4 d m),(.vs 8 e n),(.vs 2 f h),(i6 i)],Q02⟩) :: Hp.none)) 2) (.br (decide (a = 1))
(.call 148 [(.ptr 0 0),(.vs 1 true [(.str [105,110,116]),(.str [116,101,120,116])])] (hp j ((1,⟨[(.str l),(.vs 4 k g),(.vs 4 d m),(.vs 8 e n),(.vs 2 f h),(i6 i)],Q02⟩) :: Hp.none)) 2 fun p =>
(.mid 3 Q2k 3 (yS134 (vv 32 p.v) b a c p.H p.nx)))
(.br (Nat.ble ((g.length + 1) * 40) za5)
(.br (Nat.ble (g.length + 1) za5)
(.call 81 [(.ptr 0 0),(.str [59])] (hp j ((1,⟨[(.str l),(.vs 4 false (g ++ [(.agg [(.str b),(i6 a),(i6 0),(i6 c)])])),(.vs 4 d m),(.vs 8 e n),(.vs 2 f h),(i6 i)],Q02⟩) :: Hp.none)) 2 fun q =>
(.mid 0 Q3f 2 (mkS 121 [vv 0 (.ptr 0 0),vv 44 (.ptr 0 0),vv 45 q.v] [(5,⟨[(.str b),(i6 a),(i6 0),(i6 c)],[]⟩)] q.H q.nx))) .none) .none)) := lM 8
theorem p83_3 {l b k d e f g m n h i a c} {j : PS} : LM C o 83 Q22 2 (yS127 a (.tuple [(.str b),(i6 c)]) (hp j ((1,⟨[(.str l),(.vs 4 k g),(.vs 4 d m),(.vs 8 e n),(.vs 2 f h),(i6 i)],Q02⟩) :: Hp.none)) 2) (.br (decide (a = 1))
(.call 148 [(.ptr 0 0),(.vs 1 true [(.str [105,110,116]),(.str [116,101,120,116])])] (hp j ((1,⟨[(.str l),(.vs 4 k g),(.vs 4 d m),(.vs 8 e n),(.vs 2 f h),(i6 i)],Q02⟩) :: Hp.none)) 2 fun p =>
(.mid 3 Q3g 3 (mkS 121 [vv 0 (.ptr 0 0),vv 1 (.ptr 1 0),(5,.lp 5 0),vb 29 true,vv 30 (.ptr 0 0),vv 31 cE1,vv 32 p.v] [(5,⟨[(.str b),(i6 a),(i6 0),(i6 c)],[]⟩)] p.H p.nx)))
(.br (Nat.ble ((g.length + 1) * 40) za5)
(.br (Nat.ble (g.length + 1) za5)
(.call 81 [(.ptr 0 0),(.str [59])] (hp j ((1,⟨[(.str l),(.vs 4 false (g ++ [(.agg [(.str b),(i6 a),(i6 0),(i6 c)])])),(.vs 4 d m),(.vs 8 e n),(.vs 2 f h),(i6 i)],Q02⟩) :: Hp.none)) 2 fun q =>
(.mid 0 qE8 2 (mkS 121 [vv 0 (.ptr 0 0),vv 44 (.ptr 0 0),vv 45 q.v] [(5,⟨[(.str b),(i6 a),(i6 0),(i6 c)],[]⟩)] q.H q.nx))) .none) .none)) := lM 8
theorem p83_4 {l b k d e f g m n h i a c} {j : PS} : LM C o 83 Q2q 2 (yS128 a (.tuple [(.str b),(i6 c)]) (hp j ((1,⟨[(.str l),(.vs 4 k g),(.vs 4 d m),(.vs 8 e n),(.vs 2 f h),(i6 i)],Q02⟩) :: Hp.none)) 2) (.br (decide (a = 1))
(.call 148 [(.ptr 0 0),(.vs 1 true [(.str [105,110,116]),(.str [116,101,120,116])])] (hp j ((1,⟨[(.str l),(.vs 4 k g),(.vs 4 d m),(.vs 8 e n),(.vs 2 f h),(i6 i)],Q02⟩) :: Hp.none)) 2 fun p =>
(.mid 3 Q42 3 (mkS 121 [vv 0 (.ptr 0 0),vv 1 (.ptr 1 0),(5,.lp 5 0),vb 29 true,vv 30 (.ptr 0 0),vv 31 cE1,vv 32 p.v] [(5,⟨[(.str b),(i6 a),(i6 0),(i6 c)],[]⟩)] p.H p.nx)))
(.br (Nat.ble ((g.length + 1) * 40) za5)
(.br (Nat.ble (g.length + 1) za5)
(.call 81 [(.ptr 0 0),(.str [59])] (hp j ((1,⟨[(.str l),(.vs 4 false (g ++ [(.agg [(.str b),(i6 a),(i6 0),(i6 c)])])),(.vs 4 d m),(.vs 8 e n),(.vs 2 f h),(i6 i)],Q02⟩) :: Hp.none)) 2 fun q =>
(.mid 0 qE9 2 (mkS 121 [vv 0 (.ptr 0 0),vv 44 (.ptr 0 0),vv 45 q.v] [(5,⟨[(.str b),(i6 a),(i6 0),(i6 c)],[]⟩)] q.H q.nx))) .none) .none)) := lM 8
theorem p83_5 {l b k d e f g m n h i a c} {j : PS} : LM C o 83 qE3 2 (yS129 a (.tuple [(.str b),(i6 c)]) (hp j ((1,⟨[(.str l),(.vs 4 k g),(.vs 4 d m),(.vs 8 e n),(.vs 2 f h),(i6 i)],Q02⟩) :: Hp.none)) 2) (.br (decide (a = 1))
(.call 148 [(.ptr 0 0),(.vs 1 true [(.str [105,110,116]),(.str [116,101,120,116])])] (hp j ((1,⟨[(.str l),(.vs 4 k g),(.vs 4 d m),(.vs 8 e n),(.vs 2 f h),(i6 i)],Q02⟩) :: Hp.none)) 2 fun p =>
(.mid 3 Q4o 3 (mkS 121 [vv 0 (.ptr 0 0),vv 1 (.ptr 1 0),(5,.lp 5 0),vb 29 true,vv 30 (.ptr 0 0),vv 31 cE1,vv 32 p.v] [(5,⟨[(.str b),(i6 a),(i6 0),(i6 c)],[]⟩)] p.H p.nx)))
(.br (Nat.ble ((g.length + 1) * 40) za5)
(.br (Nat.ble (g.length + 1) za5)
(.call 81 [(.ptr 0 0),(.str [59])] (hp j ((1,⟨[(.str l),(.vs 4 false (g ++ [(.agg [(.str b),(i6 a),(i6 0),(i6 c)])])),(.vs 4 d m),(.vs 8 e n),(.vs 2 f h),(i6 i)],Q02⟩) :: Hp.none)) 2 fun q =>
(.mid 0 qE10 2 (mkS 121 [vv 0 (.ptr 0 0),vv 44 (.ptr 0 0),vv 45 q.v] [(5,⟨[(.str b),(i6 a),(i6 0),(i6 c)],[]⟩)] q.H q.nx))) .none) .none)) := lM 8
theorem p83_6 {l b k d e f g m n h i a c} {j : PS} : LM C o 83 qE4 2 (yS130 a (.tuple [(.str b),(i6 c)]) (hp j ((1,⟨[(.str l),(.vs 4 k g),(.vs 4 d m),(.vs 8 e n),(.vs 2 f h),(i6 i)],Q02⟩) :: Hp.none)) 2) (.br (decide (a = 1))
(.call 148 [(.ptr 0 0),(.vs 1 true [(.str [105,110,116]),(.str [116,101,120,116])])] (hp j ((1,⟨[(.str l),(.vs 4 k g),(.vs 4 d m),(.vs 8 e n),(.vs 2 f h),(i6 i)],Q02⟩) :: Hp.none)) 2 fun p =>
(.mid 3 Q4p 3 (mkS 121 [vv 0 (.ptr 0 0),vv 1 (.ptr 1 0),(5,.lp 5 0),vb 29 true,vv 30 (.ptr 0 0),vv 31 cE1,vv 32 p.v] [(5,⟨[(.str b),(i6 a),(i6 0),(i6 c)],[]⟩)] p.H p.nx)))
(.br (Nat.ble ((g.length + 1) * 40) za5)
(.br (Nat.ble (g.length + 1) za5)
(.call 81 [(.ptr 0 0),(.str [59])] (hp j ((1,⟨[(.str l),(.vs 4 false (g ++ [(.agg [(.str b),(i6 a),(i6 0),(i6 c)])])),(.vs 4 d m),(.vs 8 e n),(.vs 2 f h),(i6 i)],Q02⟩) :: Hp.none)) 2 fun q =>
(.mid 0 qE11 2 (mkS 121 [vv 0 (.ptr 0 0),vv 44 (.ptr 0 0),vv 45 q.v] [(5,⟨[(.str b),(i6 a),(i6 0),(i6 c)],[]⟩)] q.H q.nx))) .none) .none)) := lM 8
abbrev yS139 := fun a (b : List UInt8) (c : Int) d e => mkS 121 [vv 0 (.ptr 0 0),vv 1 (.ptr 1 0),(6,.lp 6 0),vv 55 (.ptr 0 0),vv 56 a] [(6,⟨[(.str b),(.vs 3 true []),(.vs 6 true []),(i6 c)],[1,2]⟩)] d e
theorem p83_7 {k a b c d e l m n f g h} {i : PS} : LM C o 83 qE5 2 (yS131 (.tuple [(.str a),(i6 h)]) (hp i ((1,⟨[(.str k),(.vs 4 b l),(.vs 4 c m),(.vs 8 d n),(.vs 2 e f),(i6 g)],Q02⟩) :: Hp.none)) 2) (.call 149 [(.ptr 0 0)] (hp i ((1,⟨[(.str k),(.vs 4 b l),(.vs 4 c m),(.vs 8 d n),(.vs 2 e f),(i6 g)],Q02⟩) :: Hp.none)) 2 fun j =>
(.mid 0 qE12 2 (yS139 j.v a h j.H j.nx))) := lM 2
abbrev yS140 := fun a (b : List UInt8) (c : Int) d e => mkS 121 [vv 0 (.ptr 0 0),vv 1 (.ptr 1 0),(7,.lp 7 0),vv 80 (.ptr 0 0),vv 81 a] [(7,⟨[(.str b),(.vs 3 true []),(i6 0),(i6 0),(.str []),(.vs 5 true []),(i6 0),(i6 c)],[1,5]⟩)] d e
theorem p83_8 {k a b c d e l m n f g h} {i : PS} : LM C o 83 qE6 2 (yS132 (.tuple [(.str a),(i6 h)]) (hp i ((1,⟨[(.str k),(.vs 4 b l),(.vs 4 c m),(.vs 8 d n),(.vs 2 e f),(i6 g)],Q02⟩) :: Hp.none)) 2) (.call 149 [(.ptr 0 0)] (hp i ((1,⟨[(.str k),(.vs 4 b l),(.vs 4 c m),(.vs 8 d n),(.vs 2 e f),(i6 g)],Q02⟩) :: Hp.none)) 2 fun j =>
(.mid 0 qE13 2 (yS140 j.v a h j.H j.nx))) := lM 2
theorem p83_9 {j b d e f k l m n a g c} {h : PS} : LM C o 83 qE7 2 (yS133 (.tuple [(.str b),(i6 c)]) (hp h ((1,⟨[(.str j),(.vs 4 d l),(.vs 4 e m),(.vs 8 f n),(.vs 2 k a),(i6 g)],Q02⟩) :: Hp.none)) 2) (.br (Nat.ble ((a.length + 1) * 24) za5)
(.br (Nat.ble (a.length + 1) za5)
(.call 81 [(.ptr 0 0),(.str [59])] (hp h ((1,⟨[(.str j),(.vs 4 d l),(.vs 4 e m),(.vs 8 f n),(.vs 2 false (a ++ [(.agg [(.str b),(i6 c)])])),(i6 g)],Q02⟩) :: Hp.none)) 2 fun i =>
(.mid 0 qE14 2 (mkS 121 [vv 0 (.ptr 0 0),vv 119 (.ptr 0 0),vv 120 i.v] [(8,⟨[(.str b),(i6 c)],[]⟩)] i.H i.nx))) .none) .none) := lM 3
theorem p83_10 {m n f g h e p q i j d} {a : List UInt8} {b c : Int} {k : PS} : LM C o 83 Q2k 3 (yS134 (vi 32 d) a b c (hp k ((1,⟨[(.str m),(.vs 4 n e),(.vs 4 f p),(.vs 8 g q),(.vs 2 h i),(i6 j)],Q02⟩) :: Hp.none)) 2) (.br (Nat.ble ((e.length + 1) * 40) za5)
(.br (Nat.ble (e.length + 1) za5)
(.call 81 [(.ptr 0 0),(.str [59])] (hp k ((1,⟨[(.str m),(.vs 4 false (e ++ [(.agg [(.str a),(i6 b),(i6 d),(i6 c)])])),(.vs 4 f p),(.vs 8 g q),(.vs 2 h i),(i6 j)],Q02⟩) :: Hp.none)) 2 fun l =>
(.mid 0 qE15 2 (mkS 121 [vv 0 (.ptr 0 0),vv 44 (.ptr 0 0),vv 45 l.v] [(5,⟨[(.str a),(i6 b),(i6 d),(i6 c)],[]⟩)] l.H l.nx))) .none) .none) := lM 3
theorem p83_13 {h i a b c j k d e f l m} {g : PS} : LM C o 83 qE8 2 (mkS 121 [vv 0 (.ptr 0 0),vv 44 (.ptr 0 0),vv 45 (.tuple [])] [(5,⟨[(.str i),(i6 l),(i6 0),(i6 m)],[]⟩)] (hp g ((1,⟨[(.str h),(.vs 4 false e),(.vs 4 a j),(.vs 8 b k),(.vs 2 c d),(i6 f)],Q02⟩) :: Hp.none)) 2) (.ret ⟨(.tuple []),(hp g ((1,⟨[(.str h),(.vs 4 false e),(.vs 4 a j),(.vs 8 b k),(.vs 2 c d),(i6 f)],Q02⟩) :: Hp.none)),2⟩) := lM 2
theorem p83_15 {h i a b c j k d e f l m} {g : PS} : LM C o 83 qE9 2 (mkS 121 [vv 0 (.ptr 0 0),vv 44 (.ptr 0 0),vv 45 (.tuple [])] [(5,⟨[(.str i),(i6 l),(i6 0),(i6 m)],[]⟩)] (hp g ((1,⟨[(.str h),(.vs 4 false e),(.vs 4 a j),(.vs 8 b k),(.vs 2 c d),(i6 f)],Q02⟩) :: Hp.none)) 2) (.ret ⟨(.tuple []),(hp g ((1,⟨[(.str h),(.vs 4 false e),(.vs 4 a j),(.vs 8 b k),(.vs 2 c d),(i6 f)],Q02⟩) :: Hp.none)),2⟩) := lM 2
theorem p83_17 {h i a b c j k d e f l m} {g : PS} : LM C o 83 qE10 2 (mkS 121 [vv 0 (.ptr 0 0),vv 44 (.ptr 0 0),vv 45 (.tuple [])] [(5,⟨[(.str i),(i6 l),(i6 0),(i6 m)],[]⟩)] (hp g ((1,⟨[(.str h),(.vs 4 false e),(.vs 4 a j),(.vs 8 b k),(.vs 2 c d),(i6 f)],Q02⟩) :: Hp.none)) 2) (.ret ⟨(.tuple []),(hp g ((1,⟨[(.str h),(.vs 4 false e),(.vs 4 a j),(.vs 8 b k),(.vs 2 c d),(i6 f)],Q02⟩) :: Hp.none)),2⟩) := lM 2
theorem p83_19 {h i a b c j k d e f l m} {g : PS} : LM C o 83 qE11 2 (mkS 121 [vv 0 (.ptr 0 0),vv 44 (.ptr 0 0),vv 45 (.tuple [])] [(5,⟨[(.str i),(i6 l),(i6 0),(i6 m)],[]⟩)] (hp g ((1,⟨[(.str h),(.vs 4 false e),(.vs 4 a j),(.vs 8 b k),(.vs 2 c d),(i6 f)],Q02⟩) :: Hp.none)) 2) (.ret ⟨(.tuple []),(hp g ((1,⟨[(.str h),(.vs 4 false e),(.vs 4 a j),(.vs 8 b k),(.vs 2 c d),(i6 f)],Q02⟩) :: Hp.none)),2⟩) := lM 2
abbrev yS143 := fun a (b : List UInt8) (c : Bool) (d : List AV) (e : Int) f g => mkS 121 [vv 0 (.ptr 0 0),vv 1 (.ptr 1 0),(6,.lp 6 0),vv 58 (.ptr 0 0),vv 59 a] [(6,⟨[(.str b),(.vs 3 c d),(.vs 6 true []),(i6 e)],[2]⟩)] f g
theorem p83_20 {m c d e f a n p q g h i} {b : List UInt8} {j : Int} {k : PS} : LM C o 83 qE12 2 (yS139 (.vs 3 a h) b j (hp k ((1,⟨[(.str m),(.vs 4 c n),(.vs 4 d p),(.vs 8 e q),(.vs 2 f g),(i6 i)],Q02⟩) :: Hp.none)) 2) (.call 150 [(.ptr 0 0)] (hp k ((1,⟨[(.str m),(.vs 4 c n),(.vs 4 d p),(.vs 8 e q),(.vs 2 f g),(i6 i)],Q02⟩) :: Hp.none)) 2 fun l =>
(.mid 0 qE16 2 (yS143 l.v b a h j l.H l.nx))) := lM 2
abbrev yS144 := fun a (b : List UInt8) (c : Bool) (d : List AV) (e : Int) f g => mkS 121 [vv 0 (.ptr 0 0),vv 1 (.ptr 1 0),(7,.lp 7 0),vv 83 (.ptr 0 0),vv 84 a] [(7,⟨[(.str b),(.vs 3 c d),(i6 0),(i6 0),(.str []),(.vs 5 true []),(i6 0),(i6 e)],[5]⟩)] f g
theorem p83_21 {m c d e f a n p q g h i} {b : List UInt8} {j : Int} {k : PS} : LM C o 83 qE13 2 (yS140 (.vs 3 a h) b j (hp k ((1,⟨[(.str m),(.vs 4 c n),(.vs 4 d p),(.vs 8 e q),(.vs 2 f g),(i6 i)],Q02⟩) :: Hp.none)) 2) (.call 81 [(.ptr 0 0),(.str [61])] (hp k ((1,⟨[(.str m),(.vs 4 c n),(.vs 4 d p),(.vs 8 e q),(.vs 2 f g),(i6 i)],Q02⟩) :: Hp.none)) 2 fun l =>
(.mid 0 qE17 2 (yS144 l.v b a h j l.H l.nx))) := lM 2
theorem p83_22 {g h a b c i j k d e l} {f : PS} : LM C o 83 qE14 2 (mkS 121 [vv 0 (.ptr 0 0),vv 119 (.ptr 0 0),vv 120 (.tuple [])] [(8,⟨[(.str h),(i6 l)],[]⟩)] (hp f ((1,⟨[(.str g),(.vs 4 a i),(.vs 4 b j),(.vs 8 c k),(.vs 2 false d),(i6 e)],Q02⟩) :: Hp.none)) 2) (.ret ⟨(.tuple []),(hp f ((1,⟨[(.str g),(.vs 4 a i),(.vs 4 b j),(.vs 8 c k),(.vs 2 false d),(i6 e)],Q02⟩) :: Hp.none)),2⟩) := lM 2
theorem p83_23 {h i a b c j k d e f l m n} {g : PS} : LM C o 83 qE15 2 (mkS 121 [vv 0 (.ptr 0 0),vv 44 (.ptr 0 0),vv 45 (.tuple [])] [(5,⟨[(.str i),(i6 l),(i6 n),(i6 m)],[]⟩)] (hp g ((1,⟨[(.str h),(.vs 4 false e),(.vs 4 a j),(.vs 8 b k),(.vs 2 c d),(i6 f)],Q02⟩) :: Hp.none)) 2) (.ret ⟨(.tuple []),(hp g ((1,⟨[(.str h),(.vs 4 false e),(.vs 4 a j),(.vs 8 b k),(.vs 2 c d),(i6 f)],Q02⟩) :: Hp.none)),2⟩) := lM 2
theorem p83_28 {n g p h i a q e r j c l} {f : List UInt8} {b : Bool} {k : List AV} {m : Int} {d : PS} : LM C o 83 qE16 2 (yS143 (.vs 6 a c) f b k m (hp d ((1,⟨[(.str n),(.vs 4 g q),(.vs 4 p e),(.vs 8 h r),(.vs 2 i j),(i6 l)],Q02⟩) :: Hp.none)) 2) (.br (Nat.ble ((e.length + 1) * 72) za5)
(.br (Nat.ble (e.length + 1) za5)
(.ret ⟨(.tuple []),(hp d ((1,⟨[(.str n),(.vs 4 g q),(.vs 4 false (e ++ [(.agg [(.str f),(.vs 3 b k),(.vs 6 a c),(i6 m)])])),(.vs 8 h r),(.vs 2 i j),(i6 l)],Q02⟩) :: Hp.none)),2⟩) .none) .none) := lM 3
abbrev yS145 := fun a (b : List UInt8) (c : Bool) (d : List AV) (e : Int) f g => mkS 121 [vv 0 (.ptr 0 0),vv 1 (.ptr 1 0),(7,.lp 7 0),vv 85 (.ptr 0 0),vv 86 a] [(7,⟨[(.str b),(.vs 3 c d),(i6 0),(i6 0),(.str []),(.vs 5 true []),(i6 0),(i6 e)],[5]⟩)] f g
theorem p83_29 {m d e f g n p q h j} {c : List UInt8} {a : Bool} {i : List AV} {k : Int} {b : PS} : LM C o 83 qE17 2 (yS144 (.tuple []) c a i k (hp b ((1,⟨[(.str m),(.vs 4 d n),(.vs 4 e p),(.vs 8 f q),(.vs 2 g h),(i6 j)],Q02⟩) :: Hp.none)) 2) (.call 151 [(.ptr 0 0)] (hp b ((1,⟨[(.str m),(.vs 4 d n),(.vs 4 e p),(.vs 8 f q),(.vs 2 g h),(i6 j)],Q02⟩) :: Hp.none)) 2 fun l =>
(.mid 0 qE18 2 (yS145 l.v c a i k l.H l.nx))) := lM 2
theorem p83_30 {t b m n u p a w x l q d r e f g} {h : List UInt8} {c : Bool} {i : List AV} {j : Int} {k : PS} : LM C o 83 qE18 2 (yS145 (.agg [(i6 e),(i6 f),(.str b),(.vs 5 a d),(i6 g)]) h c i j (hp k ((1,⟨[(.str t),(.vs 4 m w),(.vs 4 n x),(.vs 8 u l),(.vs 2 p q),(i6 r)],Q02⟩) :: Hp.none)) 2) (.br (Nat.ble ((l.length + 1) * 112) za5)
(.br (Nat.ble (l.length + 1) za5)
(.call 81 [(.ptr 0 0),(.str [59])] (hp k ((1,⟨[(.str t),(.vs 4 m w),(.vs 4 n x),(.vs 8 false (l ++ [(.agg [(.str h),(.vs 3 c i),(i6 e),(i6 f),(.str b),(.vs 5 a d),(i6 g),(i6 j)])])),(.vs 2 p q),(i6 r)],Q02⟩) :: Hp.none)) 2 fun s =>
(.mid 0 qE19 2 (mkS 121 [vv 0 (.ptr 0 0),vv 98 (.ptr 0 0),vv 99 s.v] [(7,⟨[(.str h),(.vs 3 c i),(i6 e),(i6 f),(.str b),(.vs 5 a d),(i6 g),(i6 j)],[]⟩)] s.H s.nx))) .none) .none) := lM 3
theorem p83_31 {p q i d e f j c r s g t k a h u l m n} {b : PS} : LM C o 83 qE19 2 (mkS 121 [vv 0 (.ptr 0 0),vv 98 (.ptr 0 0),vv 99 (.tuple [])] [(7,⟨[(.str q),(.vs 3 j t),(i6 l),(i6 m),(.str i),(.vs 5 c k),(i6 n),(i6 u)],[]⟩)] (hp b ((1,⟨[(.str p),(.vs 4 d r),(.vs 4 e s),(.vs 8 false a),(.vs 2 f g),(i6 h)],Q02⟩) :: Hp.none)) 2) (.ret ⟨(.tuple []),(hp b ((1,⟨[(.str p),(.vs 4 d r),(.vs 4 e s),(.vs 8 false a),(.vs 2 f g),(i6 h)],Q02⟩) :: Hp.none)),2⟩) := lM 2
theorem p44_c (hC : Ext C) {a : PS} : LC C o 44 (mkS 30 [vv 0 (.ptr 0 0)] [] (hp a Hp.none) 1) [(.ptr 0 0)] (hp a Hp.none) 1 := lC hC
abbrev yS148 := fun a b c => mkS 30 [vv 0 (.ptr 0 0),(2,.lp 2 0),vv 3 (.ptr 1 0),vv 4 (.ptr 0 0),vv 5 a] [cE0] b c
theorem p44_0 {a : PS} : LR C o 44 [] (mkS 30 [vv 0 (.ptr 0 0)] [] (hp a Hp.none) 1) (.call 42 [(.ptr 0 0)] (hp a ((1,⟨[(.str []),(.vs 4 true []),(.vs 4 true []),(.vs 8 true []),(.vs 2 true []),(i6 0)],Q02⟩) :: Hp.none)) 2 fun b =>
(.mid 0 Q05 2 (yS148 b.v b.H b.nx))) := lR 6
abbrev yS149 := fun a b c => mkS 30 [vv 0 (.ptr 0 0),(2,.lp 2 0),vv 3 (.ptr 1 0),vv 7 (.ptr 0 0),vv 8 a] [cE0] b c
theorem p44_1 {a : PS} : LM C o 44 Q05 2 (yS148 (.tuple []) (hp a (cE7 :: Hp.none)) 2) (.call 80 [(.ptr 0 0)] (hp a ((1,⟨[(.str []),(.vs 4 true []),(.vs 4 true []),(.vs 8 true []),(.vs 2 true []),(i6 0)],Q02⟩) :: Hp.none)) 2 fun b =>
(.mid 0 Q0f 2 (yS149 b.v b.H b.nx))) := lM 2
abbrev yS150 := fun a b c => mkS 30 [vv 0 (.ptr 0 0),(2,.lp 2 0),vv 3 (.ptr 1 0),vv 13 (.ptr 0 0),vv 14 a] [cE0] b c
theorem p44_2 {a b} {c : PS} : LM C o 44 Q0f 2 (yS149 (.tuple [(.str a),(i6 b)]) (hp c (cE7 :: Hp.none)) 2) (.call 81 [(.ptr 0 0),(.str [123])] (hp c ((1,⟨[(.str a),(.vs 4 true []),(.vs 4 true []),(.vs 8 true []),(.vs 2 true []),(i6 b)],Q02⟩) :: Hp.none)) 2 fun d =>
(.mid 0 Q0n 2 (yS150 d.v d.H d.nx))) := lM 2
theorem p44_3 {a b} {c : PS} : LM C o 44 Q0n 2 (yS150 (.tuple []) (hp c ((1,⟨[(.str a),(.vs 4 true []),(.vs 4 true []),(.vs 8 true []),(.vs 2 true []),(i6 b)],Q02⟩) :: Hp.none)) 2) (.run 0 qE0 (mkS 30 [vv 0 (.ptr 0 0),(2,.lp 2 0),vv 3 (.ptr 1 0)] [cE0] (hp c ((1,⟨[(.str a),(.vs 4 true []),(.vs 4 true []),(.vs 8 true []),(.vs 2 true []),(i6 b)],Q02⟩) :: Hp.none)) 2)) := lM 3
abbrev yS152 := fun a (b : List UInt8) (c : Bool) (d : List AV) (e : Bool) (f : List AV) (g : Bool) (h : List AV) (i : Bool) (j : List AV) (k : Int) l m => mkS 30 [vv 0 (.ptr 0 0),(2,.lp 2 0),vv 3 (.ptr 1 0),vb 24 false,vv 27 (.ptr 0 0),vv 28 a] [(2,⟨[(.str b),(.vs 4 c d),(.vs 4 e f),(.vs 8 g h),(.vs 2 i j),(i6 k)],Q02⟩)] l m
theorem p44_4 {j k b c d e f g h i l m n p q r s t u w} {a : PS} : LR C o 44 qE0 (mkS 30 [vv 0 (.ptr 0 0),(2,.lp 2 0),vv 3 (.ptr 1 0)] [(2,⟨[(.str j),(.vs 4 b l),(.vs 4 c m),(.vs 8 d n),(.vs 2 e p),(i6 u)],Q02⟩)] (hp a ((1,⟨[(.str k),(.vs 4 f q),(.vs 4 g r),(.vs 8 h s),(.vs 2 i t),(i6 w)],Q02⟩) :: Hp.none)) 2) (.br (decide (a.err = 0))
(.call 82 [(.ptr 0 0),(.str [125])] (hp a ((1,⟨[(.str k),(.vs 4 f q),(.vs 4 g r),(.vs 8 h s),(.vs 2 i t),(i6 w)],Q02⟩) :: Hp.none)) 2 fun x =>
(.mid 4 Q1o 8 (mkS 30 [vv 0 (.ptr 0 0),(2,.lp 2 0),vv 3 (.ptr 1 0),vv 15 (.ptr 0 0),vv 16 (.ptr 0 0),vv 17 (.ptr 0 7),vi 18 a.err,vb 19 (decide (a.err = 0)),vb 20 true,vv 21 (.ptr 0 0),vv 22 x.v] [(2,⟨[(.str j),(.vs 4 b l),(.vs 4 c m),(.vs 8 d n),(.vs 2 e p),(i6 u)],Q02⟩)] x.H x.nx)))
(.call 81 [(.ptr 0 0),(.str [125])] (hp a ((1,⟨[(.str k),(.vs 4 f q),(.vs 4 g r),(.vs 8 h s),(.vs 2 i t),(i6 w)],Q02⟩) :: Hp.none)) 2 fun y =>
(.mid 0 qE1 2 (yS152 y.v j b l c m d n e p u y.H y.nx)))) := lR 7
theorem p44_5 {i j a b c d e f g h x y k l m n p q r s t u z} {w : PS} : LM C o 44 Q1o 8 (mkS 30 [vv 0 (.ptr 0 0),(2,.lp 2 0),vv 3 (.ptr 1 0),vv 15 (.ptr 0 0),vv 16 (.ptr 0 0),vv 17 (.ptr 0 7),vi 18 z,vb 19 y,vb 20 true,vv 21 (.ptr 0 0),vb 22 x] [(2,⟨[(.str i),(.vs 4 a k),(.vs 4 b l),(.vs 8 c m),(.vs 2 d n),(i6 t)],Q02⟩)] (hp w ((1,⟨[(.str j),(.vs 4 e p),(.vs 4 f q),(.vs 8 g r),(.vs 2 h s),(i6 u)],Q02⟩) :: Hp.none)) 2) (.br (!x)
(.call 83 [(.ptr 0 0),(.ptr 1 0)] (hp w ((1,⟨[(.str j),(.vs 4 e p),(.vs 4 f q),(.vs 8 g r),(.vs 2 h s),(i6 u)],Q02⟩) :: Hp.none)) 2 fun A =>
(.mid 0 Q2j 2 (mkS 30 [vv 0 (.ptr 0 0),(2,.lp 2 0),vv 3 (.ptr 1 0),vb 24 true,vv 25 (.ptr 0 0),vv 26 A.v] [(2,⟨[(.str i),(.vs 4 a k),(.vs 4 b l),(.vs 8 c m),(.vs 2 d n),(i6 t)],Q02⟩)] A.H A.nx)))
(.call 81 [(.ptr 0 0),(.str [125])] (hp w ((1,⟨[(.str j),(.vs 4 e p),(.vs 4 f q),(.vs 8 g r),(.vs 2 h s),(i6 u)],Q02⟩) :: Hp.none)) 2 fun B =>
(.mid 0 qE1 2 (yS152 B.v i a k b l c m d n t B.H B.nx)))) := lM 4
theorem p44_6 {e a b c d f g h i j} {q : List UInt8} {l m n p : Bool} {r s t u : List AV} {v : Int} {k : PS} : LM C o 44 qE1 2 (yS152 (.tuple []) q l r m s n t p u v (hp k ((1,⟨[(.str e),(.vs 4 a f),(.vs 4 b g),(.vs 8 c h),(.vs 2 d i),(i6 j)],Q02⟩) :: Hp.none)) 2) (.ret ⟨(.agg [(.str e),(.vs 4 a f),(.vs 4 b g),(.vs 8 c h),(.vs 2 d i),(i6 j)]),(hp k ((1,⟨[(.str e),(.vs 4 a f),(.vs 4 b g),(.vs 8 c h),(.vs 2 d i),(i6 j)],Q02⟩) :: Hp.none)),2⟩) := lM 3
theorem p44_7 {i j a b c d e f g h k l m n p q r s t u} {v : PS} : LM C o 44 Q2j 2 (mkS 30 [vv 0 (.ptr 0 0),(2,.lp 2 0),vv 3 (.ptr 1 0),vb 24 true,vv 25 (.ptr 0 0),vv 26 (.tuple [])] [(2,⟨[(.str i),(.vs 4 a k),(.vs 4 b l),(.vs 8 c m),(.vs 2 d n),(i6 t)],Q02⟩)] (hp v ((1,⟨[(.str j),(.vs 4 e p),(.vs 4 f q),(.vs 8 g r),(.vs 2 h s),(i6 u)],Q02⟩) :: Hp.none)) 2) (.run 0 qE0 (mkS 30 [vv 0 (.ptr 0 0),(2,.lp 2 0),vv 3 (.ptr 1 0)] [(2,⟨[(.str i),(.vs 4 a k),(.vs 4 b l),(.vs 8 c m),(.vs 2 d n),(i6 t)],Q02⟩)] (hp v ((1,⟨[(.str j),(.vs 4 e p),(.vs 4 f q),(.vs 8 g r),(.vs 2 h s),(i6 u)],Q02⟩) :: Hp.none)) 2)) := lM 2
theorem p20_c (hC : Ext C) {a : List UInt8} : LC C o 20 (mk0 54 [vt 0 a]) [(.str a)] Hp.none 0 := lC hC
theorem p20_0 {a} : LR C o 20 [] (mk0 54 [vt 0 a]) (.br (decide (4000 < (a.length : Int)))
(rt (.tuple [(.agg [(.vs 6 true [])]),(i6 0),(i6 3)]))
(.call 42 [(.ptr 0 0)] (hp ⟨a,0,0,[],0,0,0,0,0⟩ Hp.none) 1 fun b =>
(.mid 0 Q0o 2 (mkS 54 [(2,.lp 2 0),vv 5 (.ptr 0 0),vv 15 (.ptr 0 0),vv 16 b.v] [cE2] b.H b.nx)))) := lR 11
theorem p20_1 {a : PS} : LM C o 20 Q0o 2 (mkS 54 [(2,.lp 2 0),vv 5 (.ptr 0 0),vv 15 (.ptr 0 0),vv 16 (.tuple [])] [cE2] (hp a Hp.none) 1) (.run 0 qE2 (mkS 54 [(2,.lp 2 0),vv 5 (.ptr 0 0),(6,.lp 6 0)] [cE2,(6,⟨[(.vs 6 true [])],[0]⟩)] (hp a Hp.none) 1)) := lM 5
theorem p20_2 {a b c d} {e : PS} : LR C o 20 qE2 (mkS 54 [(2,.lp 2 0),vv 5 (.ptr 0 0),(6,.lp 6 0)] [(2,⟨[(.vs 6 a c)],[0]⟩),(6,⟨[(.vs 6 b d)],[0]⟩)] (hp e Hp.none) 1) (.call 43 [(.ptr 0 0),(.str [116,121,112,101])] (hp e Hp.none) 1 fun f =>
(.mid 0 Q24 2 (mkS 54 [(2,.lp 2 0),vv 5 (.ptr 0 0),(6,.lp 6 0),vv 17 (.ptr 0 0),vv 18 f.v] [(2,⟨[(.vs 6 a c)],[0]⟩),(6,⟨[(.vs 6 b d)],[0]⟩)] f.H f.nx))) := lR 3
abbrev yS159 := fun a b (c : Bool) (d : List AV) (e : Bool) (f : List AV) g h => mkS 54 [(2,.lp 2 0),vv 5 (.ptr 0 0),(6,.lp 6 0),vb 31 true,vv 32 (.ptr 0 0),vv 33 (.ptr 0 0),vv 34 (.ptr 0 0),vv 35 (.ptr 0 2),vv 36 (.ptr 0 5),vi 37 a,vv 38 b] [(2,⟨[(.vs 6 c d)],[0]⟩),(6,⟨[(.vs 6 e f)],[0]⟩)] g h
theorem p20_3 {d b f e c} {a : PS} : LM C o 20 Q24 2 (mkS 54 [(2,.lp 2 0),vv 5 (.ptr 0 0),(6,.lp 6 0),vv 17 (.ptr 0 0),vb 18 f] [(2,⟨[(.vs 6 d e)],[0]⟩),(6,⟨[(.vs 6 b c)],[0]⟩)] (hp a Hp.none) 1) (.br f
(.call 44 [(.ptr 0 0)] (hp a Hp.none) 1 fun g =>
(.mid 11 qE20 4 (mkS 54 [(2,.lp 2 0),vv 5 (.ptr 0 0),(6,.lp 6 0),vb 18 true,(19,.lp 6 0),(20,.val (.vs 6 b c) (.lL 6 0)),vv 21 (.ptr 0 0),vv 22 g.v] [(2,⟨[(.vs 6 d e)],[0]⟩),(6,⟨[(.vs 6 b c)],[0]⟩)] g.H g.nx)))
(.br (!(decide (a.kind = 0)))
(.call 45 [(.ptr 0 0),(i6 11),(i6 a.tat)] (hp a Hp.none) 1 fun h =>
(.mid 8 qE21 7 (yS159 a.tat h.v d e b c h.H h.nx)))
(.br (!(decide (a.err = 0)))
(.ret ⟨(.tuple [(.agg [(.vs 6 true [])]),(i6 a.eat),(i6 a.err)]),(hp a Hp.none),1⟩)
(.ret ⟨(.tuple [(.agg [(.vs 6 b c)]),(i6 0),(i6 0)]),(hp a Hp.none),1⟩)))) := lM 15
theorem p20_4 {b p c d e f q r s t g a h i j k u v w x l y m z} {n : PS} : LM C o 20 qE20 4 (mkS 54 [(2,.lp 2 0),vv 5 (.ptr 0 0),(6,.lp 6 0),vb 18 true,(19,.lp 6 0),(20,.val (.vs 6 p a) (.lL 6 0)),vv 21 (.ptr 0 0),vv 22 (.agg [(.str l),(.vs 4 c h),(.vs 4 d i),(.vs 8 e j),(.vs 2 f k),(i6 m)])] [(2,⟨[(.vs 6 b g)],[0]⟩),(6,⟨[(.vs 6 p a)],[0]⟩)] (hp n ((1,⟨[(.str y),(.vs 4 q u),(.vs 4 r v),(.vs 8 s w),(.vs 2 t x),(i6 z)],Q02⟩) :: Hp.none)) 2) (.br (Nat.ble ((a.length + 1) * 120) za5)
(.br (Nat.ble (a.length + 1) za5)
(.br (zlt 1 (mkS 54 [(2,.lp 2 0),vv 5 (.ptr 0 0),(6,.lp 6 0)] [(2,⟨[(.vs 6 b g)],[0]⟩),(6,⟨[(.vs 6 false (a ++ [(.agg [(.str l),(.vs 4 c h),(.vs 4 d i),(.vs 8 e j),(.vs 2 f k),(i6 m)])]))],[0]⟩)] (hp n ((1,⟨[(.str y),(.vs 4 q u),(.vs 4 r v),(.vs 8 s w),(.vs 2 t x),(i6 z)],Q02⟩) :: Hp.none)) 2))
(.run 0 qE2 (mkS 54 [(2,.lp 2 0),vv 5 (.ptr 0 0),(6,.lp 6 0)] [(2,⟨[(.vs 6 b g)],[0]⟩),(6,⟨[(.vs 6 false (a ++ [(.agg [(.str l),(.vs 4 c h),(.vs 4 d i),(.vs 8 e j),(.vs 2 f k),(i6 m)])]))],[0]⟩)] (hp n Hp.none) 1)) .none) .none) .none) := lM 2
theorem p20_5 {f} {d b : Bool} {e c : List AV} {a : PS} : LM C o 20 qE21 7 (yS159 f (.tuple []) d e b c (hp a Hp.none) 1) (.br (!(decide (a.err = 0)))
(.ret ⟨(.tuple [(.agg [(.vs 6 true [])]),(i6 a.eat),(i6 a.err)]),(hp a Hp.none),1⟩)
(.ret ⟨(.tuple [(.agg [(.vs 6 b c)]),(i6 0),(i6 0)]),(hp a Hp.none),1⟩)) := lM 8
end
section
open Go Go.Vai
attribute [local irreducible] goTo zao mkS
def ht (t : Typ) : Hp := ((1,⟨t.cs,Q02⟩) :: Hp.none)
section
variable {C : Nat→Oracle} (hC : Ext C)
include hC
theorem l83 {f : Nat} {t : Typ} {p : PS} {r : Typ × PS} (hO : Ok p) (hb : t.fields.length + t.ops.length + t.qrys.length + t.idxs.length ≤ 20000) (h : memF f t p = some r) :
  calL C 83 [.ptr 0 0,.ptr 1 0] (hp p (ht t)) 2 = some ⟨.tuple [],hp r.2 (ht r.1),2⟩:=by
 have k1 := Keep.oneF hO memW 0;have k2 := Keep.name k1.ok;have h148 := l148 (T := ht t) (nx := 2) hC p hO true memW (by decide);have h80 := l80 (T := ht t) (nx := 2) hC (p.oneF memW 0).2 k1.ok;unfold memF at h;refine p83_c hC (p83_0 (bnd h148 ?_));refine p83_1 ?_;simp only [Tr.val];by_cases e1 : (p.oneF memW 0).1 = 1
 ·rw [if_pos e1] at h;injection h with h; subst h;have k3 := k2.trans (Keep.oneF k2.ok regW 0);refine bT e1 (bnd h80 ?_);refine p83_2 ?_;simp only [Tr.val];refine bT e1 (bnd (l148 (T := ht t) (nx := 2) hC _ k2.ok true regW (by decide)) ?_);refine p83_10 ?_;simp only [Tr.val,lnM];refine ct (zad (by omega)) (ct (zad (by omega)) ?_);refine bnd (l81 hC _ k3.ok [59]) ?_;refine p83_23 ?_;simp only [Tr.val,ht,Typ.cs,mpA,List.map_cons,List.map_nil,Fld.av,e1]
 rw [if_neg e1] at h;refine bF e1 ?_;by_cases e2 : (p.oneF memW 0).1 = 2
 ·rw [if_pos (.inl e2)] at h;injection h with h; subst h;refine bT e2 (bnd h80 ?_);refine p83_3 ?_;simp only [Tr.val,lnM];refine bF e1 (ct (zad (by omega)) (ct (zad (by omega)) (bnd (l81 hC _ k2.ok [59]) ?_)));refine p83_13 ?_;simp only [Tr.val,ht,Typ.cs,mpA,List.map_cons,List.map_nil,Fld.av]
 refine bF e2 ?_;by_cases e3 : (p.oneF memW 0).1 = 3
 ·rw [if_pos (.inr (.inl e3))] at h;injection h with h; subst h;refine bT e3 (bnd h80 ?_);refine p83_4 ?_;simp only [Tr.val,lnM];refine bF e1 (ct (zad (by omega)) (ct (zad (by omega)) (bnd (l81 hC _ k2.ok [59]) ?_)));refine p83_15 ?_;simp only [Tr.val,ht,Typ.cs,mpA,List.map_cons,List.map_nil,Fld.av]
 refine bF e3 ?_;by_cases e4 : (p.oneF memW 0).1 = 4
 ·rw [if_pos (.inr (.inr (.inl e4)))] at h;injection h with h; subst h;refine bT e4 (bnd h80 ?_);refine p83_5 ?_;simp only [Tr.val,lnM];refine bF e1 (ct (zad (by omega)) (ct (zad (by omega)) (bnd (l81 hC _ k2.ok [59]) ?_)));refine p83_17 ?_;simp only [Tr.val,ht,Typ.cs,mpA,List.map_cons,List.map_nil,Fld.av]
 refine bF e4 ?_;by_cases e5 : (p.oneF memW 0).1 = 5
 ·rw [if_pos (.inr (.inr (.inr e5)))] at h;injection h with h; subst h;refine bT e5 (bnd h80 ?_);refine p83_6 ?_;simp only [Tr.val,lnM];refine bF e1 (ct (zad (by omega)) (ct (zad (by omega)) (bnd (l81 hC _ k2.ok [59]) ?_)));refine p83_19 ?_;simp only [Tr.val,ht,Typ.cs,mpA,List.map_cons,List.map_nil,Fld.av]
 rw [if_neg (fun hh=>by omega)] at h;refine bF e5 ?_;by_cases e6 : (p.oneF memW 0).1 = 6
 ·rw [if_pos e6] at h;obtain ⟨a,h1,h2⟩ := za2 h;obtain ⟨b,h3,h4⟩ := za2 h2;injection h4 with h4; subst h4;have k3 := zbw k2.ok h1;refine bT e6 (bnd h80 ?_);refine p83_7 (bnd (l149 hC k2.ok h1) ?_);refine p83_20 (bnd (l150 hC k3.ok h3) ?_);refine p83_28 ?_;simp only [Tr.val,lnM];refine ct (zad (by omega)) (ct (zad (by omega)) ?_);simp only [ht,Typ.cs,mpA,List.map_cons,List.map_nil,Opn.av]
 rw [if_neg e6] at h;refine bF e6 ?_;by_cases e7 : (p.oneF memW 0).1 = 7
 ·rw [if_pos e7] at h;obtain ⟨a,h1,h2⟩ := za2 h;obtain ⟨b,h3,h4⟩ := za2 h2;injection h4 with h4; subst h4;have k3 := zbw k2.ok h1;have k4 := Keep.sign k3.ok [61];have k5 := (zbp f).1 _ _ _ k4.ok h3;refine bT e7 (bnd h80 ?_);refine p83_8 (bnd (l149 hC k2.ok h1) ?_);refine p83_21 (bnd (l81 hC _ k3.ok [61]) ?_);refine p83_29 (bnd (l151 hC k4.ok h3) ?_);obtain ⟨⟨k',m',s',tg',l',q'⟩,p'⟩ := b;simp only [zcm];refine p83_30 ?_;simp only [Tr.val,lnM];refine ct (zad (by omega)) (ct (zad (by omega)) ?_);refine bnd (l81 hC _ k5.ok [59]) ?_;refine p83_31 ?_;simp only [Tr.val,ht,Typ.cs,mpA,List.map_cons,List.map_nil,Qry.av,zcm,AV.cells,List.cons_append,List.nil_append]
 rw [if_neg e7] at h;refine bF e7 ?_;by_cases e8 : (p.oneF memW 0).1 = 8
 ·rw [if_pos e8] at h;injection h with h; subst h;refine bT e8 (bnd h80 ?_);refine p83_9 ?_;simp only [Tr.val,lnM];refine ct (zad (by omega)) (ct (zad (by omega)) ?_);refine bnd (l81 hC _ k2.ok [59]) ?_;refine p83_22 ?_;simp only [Tr.val,ht,Typ.cs,mpA,List.map_cons,List.map_nil,Idx.av]
 ·rw [if_neg e8] at h;injection h with h; subst h;exact bF e8 rfl
omit hC in
theorem memF_len {f : Nat} {t : Typ} {p : PS} {r : Typ × PS} (h : memF f t p = some r) : r.1.fields.length + r.1.ops.length + r.1.qrys.length + r.1.idxs.length ≤ t.fields.length + t.ops.length + t.qrys.length + t.idxs.length + 1:=by
 unfold memF at h;split at h
 ·injection h with h; subst h; simp; omega
 split at h
 ·injection h with h; subst h; simp; omega
 split at h
 ·obtain ⟨a,h1,h2⟩ := za2 h;obtain ⟨b,h3,h4⟩ := za2 h2;injection h4 with h4; subst h4; simp; omega
 split at h
 ·obtain ⟨a,h1,h2⟩ := za2 h;obtain ⟨b,h3,h4⟩ := za2 h2;injection h4 with h4; subst h4; simp; omega
 split at h
 ·injection h with h; subst h; simp; omega
 ·injection h with h; subst h; simp
theorem zw2 : ∀ (f : Nat) (t : Typ) (p : PS) (r : Typ × PS) (s : List UInt8) (b1 b2 b3 b4 : Bool) (g1 g2 g3 g4 : List AV) (x : Int),Ok p→t.fields.length + t.ops.length + t.qrys.length + t.idxs.length + mu p ≤ 20000→tdL f t p = some r →
  RL C 44 Q1c (mkS 30 [(0,.val (.ptr 0 0) .no),(2,.lp 2 0),(3,.val (.ptr 1 0) .no)] [(2,⟨[(.str s),(.vs 4 b1 g1),(.vs 4 b2 g2),(.vs 8 b3 g3),(.vs 2 b4 g4),(.int .i64 x)],Q02⟩)] (hp p (ht t)) 2) = some ⟨r.1.av,hp r.2 (ht r.1),2⟩
 | 0,_,_,_,_,_,_,_,_,_,_,_,_,_,_,_,h=>by cases h
 | f + 1,t,p,r,s,b1,b2,b3,b4,g1,g2,g3,g4,x,hO,hb,h=>by
  unfold tdL at h;have h81 := l81 (T := ht t) (nx := 2) hC p hO [125];have h82 := l82 (T := ht t) (nx := 2) hC p [125];refine p44_4 ?_;simp only [Tr.val];by_cases h0 : p.err = 0
  ·refine bT h0 (bnd h82 ?_);refine p44_5 ?_;simp only [Tr.val];cases hg : p.isG [125]
   ·rw [if_pos ⟨h0,hg⟩] at h;obtain ⟨a,h1,h2⟩ := za2 h;obtain ⟨k1,lt⟩ := zdx hO h1;have lt := lt h0;have ln : a.1.fields.length + a.1.ops.length + a.1.qrys.length + a.1.idxs.length ≤ t.fields.length + t.ops.length + t.qrys.length + t.idxs.length + 1 := memF_len h1;simp only [bnF,za0];refine bnd (l83 hC hO (by omega) h1) ?_;refine p44_7 ?_;have := zw2 f a.1 a.2 r s b1 b2 b3 b4 g1 g2 g3 g4 x k1.ok (by omega) h2;exact this
   ·rw [if_neg (fun hh=>by rw [hg] at hh; cases hh.2)] at h;injection h with h;subst h;simp only [bnT,zaw];refine bnd h81 ?_;exact p44_6 rfl
  ·rw [if_neg (fun hh=>h0 hh.1)] at h;injection h with h;subst h;refine bF h0 (bnd h81 ?_);exact p44_6 rfl
theorem l44 {f : Nat} {p : PS} {r : Typ × PS} (hO : Ok p) (h : tdF f p = some r) : calL C 44 [.ptr 0 0] (hp p Hp.none) 1 = some ⟨r.1.av,hp r.2 (ht r.1),2⟩:=by
 have k1 := Keep.adv hO;have k2 := Keep.name k1.ok;have k3 := Keep.sign k2.ok [123];refine p44_c hC (p44_0 (bnd (l42 hC p hO) ?_));refine p44_1 (bnd (l80 hC _ k1.ok) ?_);refine p44_2 (bnd (l81 hC _ k2.ok [123]) ?_);refine p44_3 ?_;exact zw2 hC f _ _ r [] true true true true [] [] [] [] 0 k3.ok (by have := zj5 k3.ok; simp; omega) h
end
mutual
theorem ztx : ∀ e : Ex,e.av.pure = true
 | .mk k m s tg l a=>by
  rw [zcm];simp only [AV.pure,za3];rw [zag l]
theorem zag : ∀ l : List Ex,za3 (exs l) = true
 | []=>by rw [zcp]; rfl
 | e :: l=>by rw [zf1,zc8,ztx e,zag l]; rfl
end
mutual
theorem zrk : ∀ e : Stm,e.av.pure = true
 | .mk k s v t1 th t2 el a=>by
  rw [zim];simp only [AV.pure,za3];rw [zag v,za7 th,za7 el]
theorem za7 : ∀ l : List Stm,za3 (stms l) = true
 | []=>by rw [zgb]; rfl
 | e :: l=>by rw [stms,zc8,zrk e,za7 l]; rfl
end
theorem zbr {α : Type} (f : α→AV) (h : ∀ x,(f x).pure = true) (l : List α) : za3 (l.map f) = true:=by
 induction l with
 | nil=>rfl
 | cons e l ih=>rw [List.map_cons,zc8,h,ih]; rfl
theorem pure_par (x : Par) : x.av.pure = true := rfl
theorem za9 (l : List Par) : za3 (l.map Par.av) = true := zbr _ pure_par l
theorem zjh (x : Opn) : x.av.pure = true:=by
 simp only [Opn.av,AV.pure,za3,za9,za7]
theorem zmz (x : Qry) : x.av.pure = true:=by
 obtain ⟨n,tg,ps,⟨k,m,s,tg',l,q⟩,a⟩ := x;simp only [Qry.av,zcm,AV.cells,List.cons_append,List.nil_append,AV.pure,za3,za9,zag]
theorem zah (t : Typ) : za3 t.cs = true:=by
 simp only [Typ.cs,za3,AV.pure,zbr _ (fun x : Fld=>(rfl : x.av.pure = true)),zbr _ zjh,zbr _ zmz,zbr _ (fun x : Idx=>(rfl : x.av.pure = true))]
theorem za8 (l : List Typ) : za3 (l.map Typ.av) = true := zbr Typ.av (fun t=>zah t) l
def zrg (m : Nat) (s : Slot) : Bool := match s with
 | .val v _=>v.okD m
 | _=>true
theorem zg1 {m : Nat} : ∀ (n i : Nat) (l : List (Nat × Slot)),(∀ p ∈ l,zrg m p.2 = true)→zgj m (mkL l n i) = true
 | 0,_,_,_=>rfl
 | n + 1,i,[],h=>by
  unfold mkL zgj;exact zg1 n (i + 1) [] h
 | n + 1,i,(t,s) :: r,h=>by
  show zgj m (match Nat.beq t i with
   | true=>s :: mkL r n (i + 1)
   | false=>.und :: mkL ((t,s) :: r) n (i + 1)) = true
  cases Nat.beq t i with
  | true =>
   have hs := h (t,s) mcS;unfold zgj;show (match zrg m s with
    | true=>zgj m (mkL r n (i + 1))
    | false=>false) = true
   rw [show zrg m s = true from hs];exact zg1 n (i + 1) r fun p hp=>h p (mcM _ hp)
  | false =>
   unfold zgj;exact zg1 n (i + 1) _ h
theorem drop_ok {m n nx : Nat} {l : List (Nat × Slot)} {L : List (Nat × Blk)} {H : Hp} (h1 : ∀ p ∈ l,zrg m p.2 = true) (h2 : zio L = true) (h3 : zio (zlc m H) = true) : zlt m (mkS n l L H nx) = true:=by
 unfold zlt mkS;simp only [zg1 n 0 l h1,h2,h3];rfl
def paO (p : PS) (tg : Bool) (l : List Typ) : AV := if p.fin.err = 0 then .tuple [.agg [.vs 6 tg (l.map Typ.av)],.int .i64 0,.int .i64 0] else .tuple [.agg [.vs 6 true []],.int .i64 p.fin.eat,.int .i64 p.fin.err]
variable {C : Nat→Oracle} (hC : Ext C)
include hC
theorem zvd : ∀ (f : Nat) (tg : Bool) (l : List Typ) (p : PS) (r : (Bool × List Typ) × PS),Ok p→l.length + mu p ≤ 20000→paL f tg l p = some r →
  RL C 20 Q1q (mkS 54 [(2,.lp 2 0),(5,.val (.ptr 0 0) .no),(6,.lp 6 0)] [(2,⟨[(.vs 6 true [])],[0]⟩),(6,⟨[(.vs 6 tg (l.map Typ.av))],[0]⟩)] (hp p Hp.none) 1) = some ⟨paO r.2 r.1.1 r.1.2,hp r.2.fin Hp.none,1⟩
 | 0,_,_,_,_,_,_,h=>by cases h
 | f + 1,tg,l,p,r,hO,hb,h=>by
  unfold paL at h;refine p20_2 (bnd (l43 hC p wType) ?_);refine p20_3 ?_;simp only [Tr.val];by_cases hw : p.isW wType = true
  ·rw [if_pos hw] at h;obtain ⟨a,h1,h2⟩ := za2 h;have k1 := zg8 hO h1;have lt := zvl hO (by rw [zbs hw]; decide) h1;refine ct hw (bnd (l44 hC hO h1) ?_);simp only [Typ.av,Typ.cs,ht];refine p20_4 ?_;simp only [Tr.val,lnM];refine ct (zad (by omega)) (ct (zad (by omega)) (ct ?_ ?_))
   ·have hp1 := za8 l;have hp2 := za8 (l ++ [a.1]);simp only [mpA,List.map_cons,List.map_nil,Typ.av,Typ.cs] at hp2;refine drop_ok ?_ ?_ ?_
    ·simp only [List.mem_cons,List.not_mem_nil,or_false,forall_eq_or_imp,forall_eq];exact ⟨rfl,rfl,rfl⟩
    ·simp only [zio,za3,AV.pure,hp2]
    ·rfl
   ·have := zvd f false (l ++ [a.1]) a.2 r k1.ok (by rw [lnA,List.length_singleton]; omega) h2;simp only [mpA,List.map_cons,List.map_nil,Typ.av,Typ.cs] at this;exact this
  ·rw [if_neg hw] at h;injection h with h;subst h;refine cf (by simpa using hw) ?_;by_cases hk : p.kind = 0
   ·refine nF hk ?_;simp only [paO,PS.fin,if_pos hk];by_cases he : p.err = 0
    ·rw [if_pos he]; exact nF he rfl
    ·rw [if_neg he]; exact nT he rfl
   ·refine nT hk (bnd (l45 hC _ _ _) ?_);refine p20_5 ?_;simp only [Tr.val,paO,PS.fin,if_neg hk];have he := p.fail_err (e := 11) p.tat (by decide);rw [if_neg he];exact nT he rfl
theorem l20 {src : List UInt8} (hl : src.length ≤ 4000) {f : Nat} {r : (Bool × List Typ) × PS} (h : paL f true [] (ps0 src).adv = some r) : calL C 20 [.str src] Hp.none 0 = some ⟨paO r.2 r.1.1 r.1.2,hp r.2.fin Hp.none,1⟩:=by
 refine p20_c hC (p20_0 ?_);simp only [Tr.val];have k0 := Keep.adv (zk4 hl);refine bF (by omega) (bnd (l42 (T := Hp.none) (nx := 1) hC (ps0 src) (zk4 hl)) ?_);refine p20_1 ?_;have := zvd hC f true [] _ r k0.ok (by have := zj5 k0.ok; simp; omega) h;exact this
theorem l20_long {src : List UInt8} (hl : ¬ src.length ≤ 4000) : calL C 20 [.str src] Hp.none 0 = some ⟨.tuple [.agg [.vs 6 true []],.int .i64 0,.int .i64 3],Hp.none,0⟩:=by
 refine p20_c hC (p20_0 ?_);simp only [Tr.val];exact bT (by omega) rfl
end
section
open Go Go.Vai
theorem zv7 (g : Nat) (args : List AV) (H : Hp) (nx : Nat) (h : ext g = false) : xCal g args H nx = none:=by
 unfold xCal;split
 ·rename_i hf;obtain rfl := beqN hf;cases h
 ·split
  ·rename_i hf;obtain rfl := beqN hf;cases h
  ·rfl
theorem mkExt (b : Oracle) (h1 : ∀ g args H nx,xCal g args H nx ≠ none→b g args H nx = xCal g args H nx) (h2 : ∀ g args H nx,ext g = false→b g args H nx = none) : Ext (calW Tryz.prog ann b):=by
 refine ⟨⟨b,rfl,h2⟩,fun s c hs=>?_,fun s hs=>?_⟩
 ·refine calB b ((h1 _ _ _ _ ?_).trans rfl);exact fun h=>by cases h
 ·have e : xCal 144 [.str s,.int .i64 10,.int .i64 64] Hp.none 0 = match Lib.parseIntB 64 s with
     | .ok u=>some ⟨.tuple [.int .i64 u,.nilI],Hp.none,0⟩
     | .range=>some ⟨.tuple [.int .i64 (Lib.intSat 64 s),.iface 286 .undef],Hp.none,0⟩
     | _=>some ⟨.tuple [.int .i64 0,.iface 286 .undef],Hp.none,0⟩:=by
   show br (decide ((10 : Int) = 10)) (br (decide ((64 : Int) = 64)) (br (Nat.ble s.length 1099511627776) _ none) none) none = _;rw [ble_t hs];rfl
  cases hp : Lib.parseIntB 64 s with
  | ok u =>
   rw [hp] at e;exact ⟨u,.nilI,calB b ((h1 _ _ _ _ (by rw [e]; simp)).trans e),rfl,rfl,rfl⟩
  | range =>
   rw [hp] at e;exact ⟨Lib.intSat 64 s,.iface 286 .undef,calB b ((h1 _ _ _ _ (by rw [e]; simp)).trans e),rfl,286,.undef,rfl⟩
  | _ =>
   rw [hp] at e;exact ⟨0,.iface 286 .undef,calB b ((h1 _ _ _ _ (by rw [e]; simp)).trans e),rfl,286,.undef,rfl⟩
theorem xExt : Ext (calW Tryz.prog ann xCal) := mkExt xCal (fun _ _ _ _ _=>rfl) zv7
def zu5 : List UInt8 := [116,121,112,101,32,97,32,123,32,99,111,117,110,116,101,114,32,99,59,32,111,112,32,102,40,110,32,105,110,116,41,32,123,32,119,114,105,116,101,32,99,32,61,32,110,59,32,125,32,111,112,32,103,40,41,32,123,32,125,32,125]
def awTyp : Typ := ⟨[97],false,[⟨[99],2,0,17⟩],false,[⟨[102],false,[⟨[110],1,25⟩],false,[.mk 1 [99] [.mk 4 0 [110] true [] 44] true [] true [] 34],23⟩,⟨[103],true,[],true,[],52⟩],true,[],true,[],5⟩
theorem aw_parse : paL 60 true [] (ps0 zu5).adv = some ((false,[awTyp]),⟨zu5,61,0,[],0,61,0,0,0⟩) := by kernel_rfl
def awVal : AV := .tuple [.agg [.vs 6 false [awTyp.av]],.int .i64 0,.int .i64 0]
theorem aw_20 : ∃ d H nx,calW Tryz.prog ann xCal d 20 [.str zu5] Hp.none 0 = some ⟨awVal,H,nx⟩:=by
 obtain ⟨d,h⟩ := zv0 (l20 xExt (src := zu5) (by decide) aw_parse);exact ⟨d,_,_,h⟩
noncomputable def pCal : Oracle := fun g args H nx=>match Nat.beq g 20 with
 | true=>match args with
  | [.str s]=>match eqS s zu5 with
   | true=>match H,nx with
    | [],0=>some ⟨awVal,aw_20.choose_spec.choose,aw_20.choose_spec.choose_spec.choose⟩
    | _,_=>none
   | false=>none
  | _=>none
 | false=>none
theorem pCal_ok : zcn Tryz.prog ann pCal:=by
 intro f args H nx out hc;unfold pCal at hc;split at hc
 ·rename_i hf;obtain rfl := beqN hf;split at hc
  ·rename_i s;split at hc
   ·rename_i hs;obtain rfl := (zdg _ _).1 hs;split at hc
    ·have h := aw_20.choose_spec.choose_spec.choose_spec;rw [← h] at hc;exact zqu mixed numOk zu0 _ _ _ _ _ _ hc
    ·cases hc
   ·cases hc
  ·cases hc
 ·cases hc
end
end Go.Proofs.YtfdklpkfpmkgeaaGreatDoor
