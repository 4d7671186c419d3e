/- Counts of effects: both ways of counting give the same class. -/
import Derived.Test.YtfdklpkfpmkgeaaGreatDoorM7
import Derived.Test.YtfdklpkfpmkgeaaGreatDoorM9
set_option linter.unusedSimpArgs false
set_option linter.unusedVariables false
set_option linter.unusedSectionVars false
set_option linter.unnecessarySimpa false
section
namespace Go.Proofs.YtfdklpkfpmkgeaaGreatDoor
open Go Go.Vai
mutual
def Stm.sz : Stm→Nat
 | .mk _ _ _ _ th _ el _=>1 + szL th + szL el
def szL : List Stm→Nat
 | []=>0
 | e :: l=>e.sz + szL l
end
structure Cn where
 least : Int
 most : Int
 w : Bool
 o : Bool
mutual
def Stm.cn : Stm→Cn
 | .mk k _ _ _ th _ el _=>if k = 6 then ⟨if (cnL el).least < (cnL th).least then (cnL el).least else (cnL th).least,if (cnL th).most < (cnL el).most then (cnL el).most else (cnL th).most,(cnL th).w || (cnL el).w,(cnL th).o || (cnL el).o⟩ else ⟨1,1,decide (k = 1),!decide (k = 1)⟩
def cnL : List Stm→Cn
 | []=>⟨0,0,false,false⟩
 | e :: l=>⟨e.cn.least + (cnL l).least,e.cn.most + (cnL l).most,e.cn.w || (cnL l).w,e.cn.o || (cnL l).o⟩
end
structure Pa where
 a : Int
 b : Int
 c : Int
 d : Int
mutual
def Stm.pa : Stm→Pa
 | .mk k _ _ _ th _ el _=>if k = 1 then ⟨1,1,1,1⟩ else if k = 6 then ⟨if (paS el).a < (paS th).a then (paS el).a else (paS th).a,if (paS th).b < (paS el).b then (paS el).b else (paS th).b,if (paS el).c < (paS th).c then (paS el).c else (paS th).c,if (paS th).d < (paS el).d then (paS el).d else (paS th).d⟩ else ⟨1,1,0,0⟩
def paS : List Stm→Pa
 | []=>⟨0,0,0,0⟩
 | e :: l=>⟨e.pa.a + (paS l).a,e.pa.b + (paS l).b,e.pa.c + (paS l).c,e.pa.d + (paS l).d⟩
end
structure Both (n : Nat) (c : Cn) (p : Pa) : Prop where
 a : p.a = c.least
 b : p.b = c.most
 l0 : 0 ≤ c.least
 lm : c.least ≤ c.most
 mn : c.most ≤ n
 c0 : 0 ≤ p.c
 cd : p.c ≤ p.d
 db : p.d ≤ p.b
 w : c.w = false ↔ p.d = 0
 o1 : c.o = false→p.c = p.a∧p.d = p.b
 o2 : c.o = true→p.c + 1 ≤ p.b
mutual
theorem both_stm : ∀ e : Stm,Both e.sz e.cn e.pa
 | .mk k s v t1 th t2 el a=>by
  have h1 := both_stms th
  have h2 := both_stms el
  rw [Stm.sz,Stm.cn,Stm.pa]
  by_cases k1 : k = 1
  ·subst k1
   rw [if_neg (by decide),if_pos rfl]
   exact ⟨rfl,rfl,by simp,by simp,by simp; omega,by simp,by simp,by simp,by simp,by simp,by simp⟩
  rw [if_neg k1]
  by_cases k6 : k = 6
  ·rw [if_pos k6,if_pos k6]
   obtain ⟨a1,b1,l1,m1,n1,c1,d1,e1,w1,o1,p1⟩ := h1
   obtain ⟨a2,b2,l2,m2,n2,c2,d2,e2,w2,o2,p2⟩ := h2
   refine ⟨?_,?_,?_,?_,?_,?_,?_,?_,?_,?_,?_⟩
   ·simp only [a1,a2]
   ·simp only [b1,b2]
   ·simp only; split <;> omega
   ·simp only; split <;> split <;> omega
   ·simp only; split <;> omega
   ·simp only; split <;> omega
   ·simp only; split <;> split <;> omega
   ·simp only; split <;> split <;> omega
   ·simp only [Bool.or_eq_false_iff,w1,w2]
    constructor
    ·rintro ⟨x,y⟩; split <;> omega
    ·intro h; split at h <;> omega
   ·simp only [Bool.or_eq_false_iff]
    rintro ⟨x,y⟩
    have q1 := o1 x
    have q2 := o2 y
    rw [q1.1,q1.2,q2.1,q2.2]
    exact ⟨rfl,rfl⟩
   ·simp only [Bool.or_eq_true]
    rintro (x | x)
    ·have q1 := p1 x; split <;> split <;> omega
    ·have q1 := p2 x; split <;> split <;> omega
  ·rw [if_neg k6,if_neg k6]
   simp only [k1,decide_false,Bool.not_false]
   exact ⟨rfl,rfl,by simp,by simp,by simp; omega,by simp,by simp,by simp,by simp,by simp,by simp⟩
theorem both_stms : ∀ l : List Stm,Both (szL l) (cnL l) (paS l)
 | []=>by
  rw [szL,cnL,paS]
  exact ⟨rfl,rfl,by simp,by simp,by simp,by simp,by simp,by simp,by simp,by simp,by simp⟩
 | e :: l=>by
  obtain ⟨a1,b1,l1,m1,n1,c1,d1,e1,w1,o1,p1⟩ := both_stm e
  obtain ⟨a2,b2,l2,m2,n2,c2,d2,e2,w2,o2,p2⟩ := both_stms l
  rw [szL,cnL,paS]
  refine ⟨?_,?_,?_,?_,?_,?_,?_,?_,?_,?_,?_⟩
  ·simp only [a1,a2]
  ·simp only [b1,b2]
  ·simp only; omega
  ·simp only; omega
  ·simp only; omega
  ·simp only; omega
  ·simp only; omega
  ·simp only; omega
  ·simp only [Bool.or_eq_false_iff,w1,w2]; omega
  ·simp only [Bool.or_eq_false_iff]
   rintro ⟨x,y⟩
   have q1 := o1 x
   have q2 := o2 y
   omega
  ·simp only [Bool.or_eq_true]
   rintro (x | x)
   ·have q1 := p1 x; omega
   ·have q1 := p2 x; omega
end
def clsC (c : Cn) : Int := if c.least = 1∧c.most = 1∧c.o = false then 1 else if 1 ≤ c.least∧c.w = false then 2 else 0
def clsR (p : Pa) : Int := if p.a = 1∧p.b = 1∧p.c = 1∧p.d = 1 then 1 else if 1 ≤ p.a∧p.d = 0 then 2 else 0
theorem cls_same (l : List Stm) : clsC (cnL l) = clsR (paS l):=by
 obtain ⟨a1,b1,l1,m1,n1,c1,d1,e1,w1,o1,p1⟩ := both_stms l
 unfold clsC clsR
 have h1 : ((cnL l).least = 1∧(cnL l).most = 1∧(cnL l).o = false) ↔ ((paS l).a = 1∧(paS l).b = 1∧(paS l).c = 1∧(paS l).d = 1):=by
  constructor
  ·rintro ⟨x,y,z⟩
   have := o1 z
   omega
  ·rintro ⟨x,y,z,u⟩
   refine ⟨by omega,by omega,?_⟩
   cases h : (cnL l).o with
   | false=>rfl
   | true=>have := p1 h; omega
 have h2 : (1 ≤ (cnL l).least∧(cnL l).w = false) ↔ (1 ≤ (paS l).a∧(paS l).d = 0):=by
  rw [w1,a1]
 simp only [h1,h2]
theorem szL_append : ∀ a b : List Stm,szL (a ++ b) = szL a + szL b
 | [],b=>by rw [List.nil_append,szL,Nat.zero_add]
 | e :: a,b=>by rw [List.cons_append,szL,szL,szL_append a b,Nat.add_assoc]
theorem sz_keep : ∀ f : Nat,(∀ tg l p r,Ok p→blkL f tg l p = some r→szL r.1.2 + mu r.2 ≤ szL l + mu p)∧(∀ p r,Ok p→p.err = 0→stF f p = some r→r.1.sz + mu r.2 ≤ mu p)
 | 0=>⟨fun _ _ _ _ _ h=>(by rw [blkL] at h; cases h),fun _ _ _ _ h=>(by rw [stF] at h; cases h)⟩
 | f + 1=>by
  obtain ⟨i1,i2⟩ := sz_keep f
  obtain ⟨j1,j2⟩ := st_keep f
  refine ⟨fun tg l p r hO h=>?_,fun p r hO h0 h=>?_⟩
  ·rw [blkL] at h
   split at h
   ·rename_i hc
    obtain ⟨x,h1,h2⟩ := Option.bind_eq_some_iff.1 h
    have s1 := i2 _ _ hO hc.1 h1
    have s2 := i1 _ _ _ _ (j2 _ _ hO h1).1.ok h2
    rw [szL_append,szL,szL] at s2
    omega
   ·injection h with h; subst h
    have := (Keep.sign hO [125]).mu
    simp only
    omega
  ·have lt := ((st_keep (f + 1)).2 p r hO h).2 h0
   rw [stF] at h
   split at h
   ·rename_i hw
    obtain ⟨a1,a2,a3,a4⟩ := opn_adv hO (by rw [isW_kind hw]; decide)
    obtain ⟨x,h1,h2⟩ := Option.bind_eq_some_iff.1 h
    have k1 := (ex_keep f).1 _ _ _ a1 h1
    obtain ⟨b,h3,h4⟩ := Option.bind_eq_some_iff.1 h2
    have k2 := k1.trans (Keep.sign k1.ok [123])
    have s1 := i1 _ _ _ _ k2.ok h3
    have k3 := k2.trans (j1 _ _ _ _ k2.ok h3)
    have m2 := k2.mu
    rw [szL] at s1
    split at h4
    ·obtain ⟨c,h5,h6⟩ := Option.bind_eq_some_iff.1 h4
     have k4 := Keep.adv k3.ok
     have k5 := k4.trans (Keep.sign k4.ok [123])
     have s2 := i1 _ _ _ _ k5.ok h5
     have m5 := k5.mu
     rw [szL] at s2
     injection h6 with h6
     subst h6
     show (Stm.mk _ _ _ _ _ _ _ _).sz + mu c.2 ≤ mu p
     rw [Stm.sz]
     omega
    ·injection h4 with h4
     subst h4
     show (Stm.mk _ _ _ _ _ _ _ _).sz + mu b.2 ≤ mu p
     rw [Stm.sz,szL]
     omega
   ·split at h
    ·injection h with h
     subst h
     show (Stm.mk _ _ _ _ _ _ _ _).sz + _ ≤ mu p
     rw [Stm.sz,szL]
     exact by have := lt; simp only at this ⊢; omega
    ·obtain ⟨x,h1,h2⟩ := Option.bind_eq_some_iff.1 h
     injection h2 with h2
     subst h2
     show (Stm.mk _ _ _ _ _ _ _ _).sz + _ ≤ mu p
     rw [Stm.sz,szL]
     exact by have := lt; simp only at this ⊢; omega
theorem blkF_sz {f : Nat} {p : PS} {r : (Bool × List Stm) × PS} (hO : Ok p) (h : blkF f p = some r) : szL r.1.2 ≤ 8002:=by
 have k0 := Keep.sign hO [123]
 have := (sz_keep f).1 _ _ _ _ k0.ok h
 have := mu_le k0.ok
 rw [szL] at *
 omega
end Go.Proofs.YtfdklpkfpmkgeaaGreatDoor
end
section
namespace Go.Proofs.YtfdklpkfpmkgeaaGreatDoor
open Go Go.Vai
theorem ex_step : ∀ f : Nat,(∀ n p r,binF f n p = some r→binF (f + 1) n p = some r)∧(∀ n e p r,binL f n e p = some r→binL (f + 1) n e p = some r)∧(∀ p r,unF f p = some r→unF (f + 1) p = some r)∧(∀ p r,priF f p = some r→priF (f + 1) p = some r)
 | 0=>⟨fun _ _ _ h=>(by rw [binF] at h; cases h),fun _ _ _ _ h=>(by rw [binL] at h; cases h),fun _ _ h=>(by rw [unF] at h; cases h),fun _ _ h=>(by rw [priF] at h; cases h)⟩
 | f + 1=>by
  obtain ⟨i1,i2,i3,i4⟩ := ex_step f
  refine ⟨fun n p r h=>?_,fun n e p r h=>?_,fun p r h=>?_,fun p r h=>?_⟩
  ·rw [binF] at h
   rw [binF]
   split at h
   ·rename_i hn
    rw [if_pos hn]; exact i3 _ _ h
   ·rename_i hn
    rw [if_neg hn]
    obtain ⟨x,h1,h2⟩ := Option.bind_eq_some_iff.1 h
    exact Option.bind_eq_some_iff.2 ⟨x,i1 _ _ _ h1,i2 _ _ _ _ h2⟩
  ·rw [binL] at h
   rw [binL]
   split at h
   ·rename_i hn
    rw [if_pos hn]
    obtain ⟨x,h1,h2⟩ := Option.bind_eq_some_iff.1 h
    refine Option.bind_eq_some_iff.2 ⟨x,i1 _ _ _ h1,?_⟩
    split at h2
    ·rename_i h3; rw [if_pos h3]; exact h2
    ·rename_i h3; rw [if_neg h3]; exact i2 _ _ _ _ h2
   ·rename_i hn
    rw [if_neg hn]; exact h
  ·rw [unF] at h
   rw [unF]
   split at h
   ·rename_i hn
    rw [if_pos hn]
    obtain ⟨x,h1,h2⟩ := Option.bind_eq_some_iff.1 h
    exact Option.bind_eq_some_iff.2 ⟨x,i3 _ _ h1,h2⟩
   ·rename_i hn
    rw [if_neg hn]; exact i4 _ _ h
  ·rw [priF] at h
   rw [priF]
   split at h
   ·rename_i c; rw [if_pos c]; exact h
   rename_i c; rw [if_neg c]
   split at h
   ·rename_i c; rw [if_pos c]; exact h
   rename_i c; rw [if_neg c]
   split at h
   ·rename_i c; rw [if_pos c]; exact h
   rename_i c; rw [if_neg c]
   split at h
   ·rename_i c; rw [if_pos c]; exact h
   rename_i c; rw [if_neg c]
   split at h
   ·rename_i c; rw [if_pos c]; exact h
   rename_i c; rw [if_neg c]
   split at h
   ·rename_i c; rw [if_pos c]
    obtain ⟨x,h1,h2⟩ := Option.bind_eq_some_iff.1 h
    exact Option.bind_eq_some_iff.2 ⟨x,i1 _ _ _ h1,h2⟩
   ·rename_i c; rw [if_neg c]; exact h
theorem mono_of {α : Type} {F : Nat→Option α} (h : ∀ f r,F f = some r→F (f + 1) = some r) {f g : Nat} (hfg : f ≤ g) {r : α} (hr : F f = some r) : F g = some r:=by
 induction g with
 | zero =>
  have e0 : f = 0 := (by omega); subst e0; exact hr
 | succ g ih =>
  by_cases he : f = g + 1
  ·subst he; exact hr
  ·exact h g r (ih (by omega))
theorem bin_mono {n : Nat} {p : PS} {f g : Nat} (hfg : f ≤ g) {r : Ex × PS} (hr : binF f n p = some r) : binF g n p = some r := mono_of (F := fun f=>binF f n p) (fun f r h=>(ex_step f).1 n p r h) hfg hr
theorem binL_mono {n : Nat} {e : Ex} {p : PS} {f g : Nat} (hfg : f ≤ g) {r : Ex × PS} (hr : binL f n e p = some r) : binL g n e p = some r := mono_of (F := fun f=>binL f n e p) (fun f r h=>(ex_step f).2.1 n e p r h) hfg hr
theorem level_nil : levelS [] = 0 := by decide
theorem lev_kind {p : PS} (h : Ok p) {n : Nat} (hn : 1 ≤ n) (hl : levelS p.s = (n : Int)) : p.kind ≠ 0 := fun h0=>by
 rw [h.s0 h0,level_nil] at hl
 omega
theorem ex_tot : ∀ m : Nat,(∀ p,Ok p→mu p ≤ m→(∃ f r,priF f p = some r)∧(∃ f r,unF f p = some r)∧(∀ n e,1 ≤ n→n ≤ 5→∃ f r,binL f n e p = some r)∧(∀ n,1 ≤ n→n ≤ 6→∃ f r,binF f n p = some r)):=by
 intro m
 induction m using Nat.strongRecOn with
 | _ m ih =>
 have pri : ∀ p,Ok p→mu p ≤ m→∃ f r,priF f p = some r:=by
  intro p hO hm
  by_cases hg : p.isG [40] = true
  ·obtain ⟨a1,a2,a3,a4⟩ := opn_adv hO (by rw [isG_kind hg]; decide)
   obtain ⟨f,r,h⟩ := (ih (mu p.opn.adv) (by omega) _ a1 (Nat.le_refl _)).2.2.2 1 (by decide) (by decide)
   by_cases c1 : p.kind = 2
   ·exact ⟨1,_,by rw [priF,if_pos c1]⟩
   by_cases c2 : p.kind = 3
   ·exact ⟨1,_,by rw [priF,if_neg c1,if_pos c2]⟩
   by_cases c3 : p.isW wTrue = true
   ·exact ⟨1,_,by rw [priF,if_neg c1,if_neg c2,if_pos c3]⟩
   by_cases c4 : p.isW wFalse = true
   ·exact ⟨1,_,by rw [priF,if_neg c1,if_neg c2,if_neg c3,if_pos c4]⟩
   by_cases c5 : p.isW wSize = true
   ·exact ⟨1,_,by rw [priF,if_neg c1,if_neg c2,if_neg c3,if_neg c4,if_pos c5]⟩
   exact ⟨f + 1,_,by rw [priF,if_neg c1,if_neg c2,if_neg c3,if_neg c4,if_neg c5,if_pos hg,h]; rfl⟩
  ·by_cases c1 : p.kind = 2
   ·exact ⟨1,_,by rw [priF,if_pos c1]⟩
   by_cases c2 : p.kind = 3
   ·exact ⟨1,_,by rw [priF,if_neg c1,if_pos c2]⟩
   by_cases c3 : p.isW wTrue = true
   ·exact ⟨1,_,by rw [priF,if_neg c1,if_neg c2,if_pos c3]⟩
   by_cases c4 : p.isW wFalse = true
   ·exact ⟨1,_,by rw [priF,if_neg c1,if_neg c2,if_neg c3,if_pos c4]⟩
   by_cases c5 : p.isW wSize = true
   ·exact ⟨1,_,by rw [priF,if_neg c1,if_neg c2,if_neg c3,if_neg c4,if_pos c5]⟩
   exact ⟨1,_,by rw [priF,if_neg c1,if_neg c2,if_neg c3,if_neg c4,if_neg c5,if_neg hg]⟩
 have un : ∀ p,Ok p→mu p ≤ m→∃ f r,unF f p = some r:=by
  intro p hO hm
  by_cases hg : p.isG [45] = true ∨ p.isG [33] = true
  ·obtain ⟨a1,a2,a3,a4⟩ := opn_adv hO (by rcases hg with hg | hg <;> rw [isG_kind hg] <;> decide)
   obtain ⟨f,r,h⟩ := (ih (mu p.opn.adv) (by omega) _ a1 (Nat.le_refl _)).2.1
   exact ⟨f + 1,_,by rw [unF,if_pos hg,h]; rfl⟩
  ·obtain ⟨f,r,h⟩ := pri p hO hm
   exact ⟨f + 1,r,by rw [unF,if_neg hg]; exact h⟩
 have lp : ∀ p,Ok p→mu p ≤ m→∀ n e,1 ≤ n→n ≤ 5→∃ f r,binL f n e p = some r:=by
  intro p hO hm n e h1 h5
  by_cases hg : p.kind ≠ 3∧levelS p.s = (n : Int)
  ·have hlt := (PS.adv_mu hO).2 (lev_kind hO h1 hg.2)
   have hA := PS.adv_ok hO
   obtain ⟨f,r,h⟩ := (ih (mu p.adv) (by omega) _ hA (Nat.le_refl _)).2.2.2 (n + 1) (by omega) (by omega)
   by_cases h3 : n = 3
   ·exact ⟨f + 1,_,by rw [binL,if_pos hg,h]; simp only [Option.bind_some,if_pos h3]; rfl⟩
   ·have kr := (ex_keep f).1 _ _ _ hA h
    have := kr.mu
    obtain ⟨f2,r2,h2⟩ := (ih (mu r.2) (by omega) _ kr.ok (Nat.le_refl _)).2.2.1 n (.mk 7 0 p.s false [e,r.1] p.tat) h1 h5
    refine ⟨f + f2 + 1,r2,?_⟩
    rw [binL,if_pos hg,bin_mono (by omega) h]
    simp only [Option.bind_some,if_neg h3]
    exact binL_mono (by omega) h2
  ·exact ⟨1,_,by rw [binL,if_neg hg]⟩
 have bn : ∀ k,∀ p,Ok p→mu p ≤ m→∀ n,1 ≤ n→n + k = 6→∃ f r,binF f n p = some r:=by
  intro k
  induction k with
  | zero =>
   intro p hO hm n h1 h6
   obtain ⟨f,r,h⟩ := un p hO hm
   exact ⟨f + 1,r,by rw [binF,if_pos (by omega)]; exact h⟩
  | succ k ihk =>
   intro p hO hm n h1 h6
   obtain ⟨f,r,h⟩ := ihk p hO hm (n + 1) (by omega) (by omega)
   have kr := (ex_keep f).1 _ _ _ hO h
   have := kr.mu
   obtain ⟨f2,r2,h2⟩ := lp r.2 kr.ok (by omega) n r.1 h1 (by omega)
   exact ⟨f + f2 + 1,r2,by rw [binF,if_neg (by omega),bin_mono (by omega) h]; exact binL_mono (by omega) h2⟩
 exact fun p hO hm=>⟨pri p hO hm,un p hO hm,lp p hO hm,fun n h1 h6=>bn (6 - n) p hO hm n h1 (by omega)⟩
theorem bin_tot {p : PS} (hO : Ok p) : ∃ f r,binF f 1 p = some r := (ex_tot (mu p) p hO (Nat.le_refl _)).2.2.2 1 (by decide) (by decide)
theorem st_step : ∀ f : Nat,(∀ tg l p r,blkL f tg l p = some r→blkL (f + 1) tg l p = some r)∧(∀ p r,stF f p = some r→stF (f + 1) p = some r)
 | 0=>⟨fun _ _ _ _ h=>(by rw [blkL] at h; cases h),fun _ _ h=>(by rw [stF] at h; cases h)⟩
 | f + 1=>by
  obtain ⟨i1,i2⟩ := st_step f
  have ib := fun n p r=>(ex_step f).1 n p r
  refine ⟨fun tg l p r h=>?_,fun p r h=>?_⟩
  ·rw [blkL] at h
   rw [blkL]
   split at h
   ·rename_i c
    rw [if_pos c]
    obtain ⟨x,h1,h2⟩ := Option.bind_eq_some_iff.1 h
    exact Option.bind_eq_some_iff.2 ⟨x,i2 _ _ h1,i1 _ _ _ _ h2⟩
   ·rename_i c; rw [if_neg c]; exact h
  ·rw [stF] at h
   rw [stF]
   split at h
   ·rename_i c
    rw [if_pos c]
    obtain ⟨x,h1,h2⟩ := Option.bind_eq_some_iff.1 h
    obtain ⟨b,h3,h4⟩ := Option.bind_eq_some_iff.1 h2
    refine Option.bind_eq_some_iff.2 ⟨x,ib _ _ _ h1,Option.bind_eq_some_iff.2 ⟨b,i1 _ _ _ _ h3,?_⟩⟩
    split at h4
    ·rename_i c; rw [if_pos c]
     obtain ⟨y,h5,h6⟩ := Option.bind_eq_some_iff.1 h4
     exact Option.bind_eq_some_iff.2 ⟨y,i1 _ _ _ _ h5,h6⟩
    ·rename_i c; rw [if_neg c]; exact h4
   ·rename_i c; rw [if_neg c]
    split at h
    ·rename_i c; rw [if_pos c]; exact h
    ·rename_i c; rw [if_neg c]
     obtain ⟨x,h1,h2⟩ := Option.bind_eq_some_iff.1 h
     exact Option.bind_eq_some_iff.2 ⟨x,ib _ _ _ h1,h2⟩
theorem blk_mono {tg : Bool} {l : List Stm} {p : PS} {f g : Nat} (hfg : f ≤ g) {r : (Bool × List Stm) × PS} (hr : blkL f tg l p = some r) : blkL g tg l p = some r := mono_of (F := fun f=>blkL f tg l p) (fun f r h=>(st_step f).1 tg l p r h) hfg hr
theorem st_mono {p : PS} {f g : Nat} (hfg : f ≤ g) {r : Stm × PS} (hr : stF f p = some r) : stF g p = some r := mono_of (F := fun f=>stF f p) (fun f r h=>(st_step f).2 p r h) hfg hr
theorem st_tot : ∀ m : Nat,(∀ p,Ok p→mu p ≤ m→(∃ f r,stF f p = some r)∧(∀ tg l,∃ f r,blkL f tg l p = some r)):=by
 intro m
 induction m using Nat.strongRecOn with
 | _ m ih =>
 have st : ∀ p,Ok p→mu p ≤ m→∃ f r,stF f p = some r:=by
  intro p hO hm
  by_cases hw : p.isW wIf = true
  ·obtain ⟨a1,a2,a3,a4⟩ := opn_adv hO (by rw [isW_kind hw]; decide)
   obtain ⟨f1,x,h1⟩ := bin_tot a1
   have k1 := (ex_keep f1).1 _ _ _ a1 h1
   have k2 := k1.trans (Keep.sign k1.ok [123])
   have m2 := k2.mu
   obtain ⟨f2,b,h2⟩ := (ih (mu (x.2.sign [123])) (by omega) _ k2.ok (Nat.le_refl _)).2 true []
   have k3 := k2.trans ((st_keep f2).1 _ _ _ _ k2.ok h2)
   by_cases he : b.2.isW wElse = true
   ·have k4 := k3.trans (Keep.adv k3.ok)
    have k5 := k4.trans (Keep.sign k4.ok [123])
    have m5 := k5.mu
    obtain ⟨f3,c,h3⟩ := (ih (mu (b.2.adv.sign [123])) (by omega) _ k5.ok (Nat.le_refl _)).2 true []
    refine ⟨f1 + f2 + f3 + 1,?_⟩
    rw [stF,if_pos hw,bin_mono (by omega) h1]
    simp only [Option.bind_some]
    rw [blk_mono (by omega) h2]
    simp only [Option.bind_some]
    rw [if_pos he,blk_mono (by omega) h3]
    exact ⟨_,rfl⟩
   ·refine ⟨f1 + f2 + 1,?_⟩
    rw [stF,if_pos hw,bin_mono (by omega) h1]
    simp only [Option.bind_some]
    rw [blk_mono (by omega) h2]
    simp only [Option.bind_some]
    rw [if_neg he]
    exact ⟨_,rfl⟩
  ·by_cases h5 : (p.oneF stL 0).1 = 5
   ·exact ⟨1,_,by rw [stF,if_neg hw,if_pos h5]⟩
   ·have k1 := Keep.oneF hO stL 0
    have k2 := k1.trans (Keep.name k1.ok)
    have k3 := Keep.sign k2.ok [61]
    obtain ⟨f1,x,h1⟩ := bin_tot k3.ok
    exact ⟨f1 + 1,_,by rw [stF,if_neg hw,if_neg h5,h1]; rfl⟩
 refine fun p hO hm=>⟨st p hO hm,fun tg l=>?_⟩
 by_cases hc : p.err = 0∧p.isG [125] = false
 ·obtain ⟨f1,x,h1⟩ := st p hO hm
  obtain ⟨k1,lt⟩ := (st_keep f1).2 _ _ hO h1
  have lt := lt hc.1
  obtain ⟨f2,y,h2⟩ := (ih (mu x.2) (by omega) _ k1.ok (Nat.le_refl _)).2 false (l ++ [x.1])
  exact ⟨f1 + f2 + 1,y,by rw [blkL,if_pos hc,st_mono (by omega) h1]; exact blk_mono (by omega) h2⟩
 ·exact ⟨1,_,by rw [blkL,if_neg hc]⟩
theorem blkF_tot {p : PS} (hO : Ok p) : ∃ f r,blkF f p = some r := (st_tot _ _ (Keep.sign hO [123]).ok (Nat.le_refl _)).2 true []
theorem blkF_mono {p : PS} {f g : Nat} (hfg : f ≤ g) {r : (Bool × List Stm) × PS} (hr : blkF f p = some r) : blkF g p = some r := blk_mono hfg hr
theorem pasL_step : ∀ f l p r,pasL f l p = some r→pasL (f + 1) l p = some r
 | 0,_,_,_,h=>by cases h
 | f + 1,l,p,r,h=>by
  rw [pasL] at h
  rw [pasL]
  split at h
  ·rename_i c; rw [if_pos c]; exact pasL_step f _ _ _ h
  ·rename_i c; rw [if_neg c]; exact h
theorem pasL_tot : ∀ m : Nat,∀ p l,Ok p→mu p ≤ m→∃ f r,pasL f l p = some r:=by
 intro m
 induction m using Nat.strongRecOn with
 | _ m ih =>
 intro p l hO hm
 by_cases hg : p.isG [44] = true
 ·have k0 := Keep.adv hO
  have lt := (PS.adv_mu hO).2 (by rw [isG_kind hg]; decide)
  have k1 := parF_keep k0.ok
  have := k1.mu
  obtain ⟨f,r,h⟩ := ih (mu (parF p.adv).2) (by omega) _ (l ++ [(parF p.adv).1]) k1.ok (Nat.le_refl _)
  exact ⟨f + 1,r,by rw [pasL,if_pos hg]; exact h⟩
 ·exact ⟨1,_,by rw [pasL,if_neg hg]⟩
theorem pasF_tot {p : PS} (hO : Ok p) : ∃ f r,pasF f p = some r:=by
 have k0 := Keep.sign hO [40]
 by_cases hg : (p.sign [40]).isG [41] = true
 ·exact ⟨0,_,by rw [pasF,if_pos hg]⟩
 ·obtain ⟨f,r,h⟩ := pasL_tot _ _ [(parF (p.sign [40])).1] (parF_keep k0.ok).ok (Nat.le_refl _)
  exact ⟨f,_,by rw [pasF,if_neg hg,h]; rfl⟩
theorem pasF_mono {p : PS} {f g : Nat} (hfg : f ≤ g) {r : (Bool × List Par) × PS} (hr : pasF f p = some r) : pasF g p = some r :=
 mono_of (F := fun f=>pasF f p) (fun f r h=>by
  simp only [pasF] at h ⊢
  split at h
  ·rename_i c; rw [if_pos c]; exact h
  ·rename_i c; rw [if_neg c]
   obtain ⟨x,h1,h2⟩ := Option.map_eq_some_iff.1 h
   exact Option.map_eq_some_iff.2 ⟨x,pasL_step _ _ _ _ h1,h2⟩) hfg hr
theorem memF_tot (t : Typ) {p : PS} (hO : Ok p) : ∃ f r,memF f t p = some r:=by
 have k1 := Keep.oneF hO memW 0
 have k2 := Keep.name k1.ok
 unfold memF
 by_cases e1 : (p.oneF memW 0).1 = 1
 ·exact ⟨0,_,by rw [if_pos e1]⟩
 by_cases e2 : (p.oneF memW 0).1 = 2 ∨ (p.oneF memW 0).1 = 3 ∨ (p.oneF memW 0).1 = 4 ∨ (p.oneF memW 0).1 = 5
 ·exact ⟨0,_,by rw [if_neg e1,if_pos e2]⟩
 by_cases e6 : (p.oneF memW 0).1 = 6
 ·obtain ⟨f1,a,h1⟩ := pasF_tot k2.ok
  obtain ⟨f2,b,h2⟩ := blkF_tot (pasF_keep k2.ok h1).ok
  refine ⟨f1 + f2,?_⟩
  rw [if_neg e1,if_neg e2,if_pos e6,pasF_mono (by omega) h1]
  simp only [Option.bind_some]
  rw [blkF_mono (by omega) h2]
  exact ⟨_,rfl⟩
 by_cases e7 : (p.oneF memW 0).1 = 7
 ·obtain ⟨f1,a,h1⟩ := pasF_tot k2.ok
  have k3 := pasF_keep k2.ok h1
  obtain ⟨f2,b,h2⟩ := bin_tot (Keep.sign k3.ok [61]).ok
  refine ⟨f1 + f2,?_⟩
  rw [if_neg e1,if_neg e2,if_neg e6,if_pos e7,pasF_mono (by omega) h1]
  simp only [Option.bind_some]
  rw [bin_mono (by omega) h2]
  exact ⟨_,rfl⟩
 by_cases e8 : (p.oneF memW 0).1 = 8
 ·exact ⟨0,_,by rw [if_neg e1,if_neg e2,if_neg e6,if_neg e7,if_pos e8]⟩
 ·exact ⟨0,_,by rw [if_neg e1,if_neg e2,if_neg e6,if_neg e7,if_neg e8]⟩
theorem memF_mono {t : Typ} {p : PS} {f g : Nat} (hfg : f ≤ g) {r : Typ × PS} (hr : memF f t p = some r) : memF g t p = some r:=by
 unfold memF at hr ⊢
 split at hr
 ·rename_i c; rw [if_pos c]; exact hr
 rename_i c; rw [if_neg c]
 split at hr
 ·rename_i c; rw [if_pos c]; exact hr
 rename_i c; rw [if_neg c]
 split at hr
 ·rename_i c; rw [if_pos c]
  obtain ⟨a,h1,h2⟩ := Option.bind_eq_some_iff.1 hr
  obtain ⟨b,h3,h4⟩ := Option.bind_eq_some_iff.1 h2
  exact Option.bind_eq_some_iff.2 ⟨a,pasF_mono hfg h1,Option.bind_eq_some_iff.2 ⟨b,blkF_mono hfg h3,h4⟩⟩
 rename_i c; rw [if_neg c]
 split at hr
 ·rename_i c; rw [if_pos c]
  obtain ⟨a,h1,h2⟩ := Option.bind_eq_some_iff.1 hr
  obtain ⟨b,h3,h4⟩ := Option.bind_eq_some_iff.1 h2
  exact Option.bind_eq_some_iff.2 ⟨a,pasF_mono hfg h1,Option.bind_eq_some_iff.2 ⟨b,bin_mono hfg h3,h4⟩⟩
 rename_i c; rw [if_neg c]
 exact hr
theorem tdL_step : ∀ f t p r,tdL f t p = some r→tdL (f + 1) t p = some r
 | 0,_,_,_,h=>by cases h
 | f + 1,t,p,r,h=>by
  rw [tdL] at h
  rw [tdL]
  split at h
  ·rename_i c; rw [if_pos c]
   obtain ⟨a,h1,h2⟩ := Option.bind_eq_some_iff.1 h
   exact Option.bind_eq_some_iff.2 ⟨a,memF_mono (Nat.le_succ _) h1,tdL_step f _ _ _ h2⟩
  ·rename_i c; rw [if_neg c]; exact h
theorem tdL_mono {t : Typ} {p : PS} {f g : Nat} (hfg : f ≤ g) {r : Typ × PS} (hr : tdL f t p = some r) : tdL g t p = some r := mono_of (F := fun f=>tdL f t p) (fun f r h=>tdL_step f t p r h) hfg hr
theorem tdL_tot : ∀ m : Nat,∀ p t,Ok p→mu p ≤ m→∃ f r,tdL f t p = some r:=by
 intro m
 induction m using Nat.strongRecOn with
 | _ m ih =>
 intro p t hO hm
 by_cases hc : p.err = 0∧p.isG [125] = false
 ·obtain ⟨f1,x,h1⟩ := memF_tot t hO
  obtain ⟨k1,lt⟩ := memF_keep hO h1
  have lt := lt hc.1
  obtain ⟨f2,y,h2⟩ := ih (mu x.2) (by omega) _ x.1 k1.ok (Nat.le_refl _)
  exact ⟨f1 + f2 + 1,y,by rw [tdL,if_pos hc,memF_mono (by omega) h1]; exact tdL_mono (by omega) h2⟩
 ·exact ⟨1,_,by rw [tdL,if_neg hc]⟩
theorem tdF_tot {p : PS} (hO : Ok p) : ∃ f r,tdF f p = some r:=by
 have k1 := Keep.adv hO
 have k2 := Keep.name k1.ok
 exact tdL_tot _ _ _ (Keep.sign k2.ok [123]).ok (Nat.le_refl _)
theorem tdF_mono {p : PS} {f g : Nat} (hfg : f ≤ g) {r : Typ × PS} (hr : tdF f p = some r) : tdF g p = some r := tdL_mono hfg hr
theorem paL_step : ∀ f tg l p r,paL f tg l p = some r→paL (f + 1) tg l p = some r
 | 0,_,_,_,_,h=>by cases h
 | f + 1,tg,l,p,r,h=>by
  rw [paL] at h
  rw [paL]
  split at h
  ·rename_i c; rw [if_pos c]
   obtain ⟨a,h1,h2⟩ := Option.bind_eq_some_iff.1 h
   exact Option.bind_eq_some_iff.2 ⟨a,tdF_mono (Nat.le_succ _) h1,paL_step f _ _ _ _ h2⟩
  ·rename_i c; rw [if_neg c]; exact h
theorem paL_mono {tg : Bool} {l : List Typ} {p : PS} {f g : Nat} (hfg : f ≤ g) {r : (Bool × List Typ) × PS} (hr : paL f tg l p = some r) : paL g tg l p = some r := mono_of (F := fun f=>paL f tg l p) (fun f r h=>paL_step f tg l p r h) hfg hr
theorem paL_tot : ∀ m : Nat,∀ tg l p,Ok p→mu p ≤ m→∃ f r,paL f tg l p = some r:=by
 intro m
 induction m using Nat.strongRecOn with
 | _ m ih =>
 intro tg l p hO hm
 by_cases hw : p.isW wType = true
 ·obtain ⟨f1,x,h1⟩ := tdF_tot hO
  have k1 := tdF_keep hO h1
  have lt := tdF_lt hO (by rw [isW_kind hw]; decide) h1
  obtain ⟨f2,y,h2⟩ := ih (mu x.2) (by omega) false (l ++ [x.1]) _ k1.ok (Nat.le_refl _)
  exact ⟨f1 + f2 + 1,y,by rw [paL,if_pos hw,tdF_mono (by omega) h1]; exact paL_mono (by omega) h2⟩
 ·exact ⟨1,_,by rw [paL,if_neg hw]⟩
theorem pa_tot {src : List UInt8} (h : src.length ≤ 4000) : ∃ f r,paL f true [] (ps0 src).adv = some r := paL_tot _ _ _ _ (PS.adv_ok (ps0_ok h)) (Nat.le_refl _)
end Go.Proofs.YtfdklpkfpmkgeaaGreatDoor
end
section
namespace Go.Proofs.YtfdklpkfpmkgeaaGreatDoor
open Go Go.Vai
def Typ.tot (t : Typ) : Nat := t.fields.length + t.ops.length + t.qrys.length + t.idxs.length
structure TOk (t : Typ) : Prop where
 tot : t.tot ≤ 9000
 ops : ∀ o ∈ t.ops,szL o.body ≤ 9000
def TsOk (l : List Typ) : Prop := l.length ≤ 20000∧∀ t ∈ l,TOk t
theorem memF_b {f : Nat} {t : Typ} {p : PS} {r : Typ × PS} (hO : Ok p) (h : memF f t p = some r) : r.1.tot ≤ t.tot + 1∧((∀ o ∈ t.ops,szL o.body ≤ 9000)→∀ o ∈ r.1.ops,szL o.body ≤ 9000):=by
 have k1 := Keep.oneF hO memW 0
 have k2 := Keep.name k1.ok
 unfold memF at h
 unfold Typ.tot
 split at h
 ·injection h with h; subst h; exact ⟨by simp; omega,fun hh=>hh⟩
 split at h
 ·injection h with h; subst h; exact ⟨by simp; omega,fun hh=>hh⟩
 split at h
 ·obtain ⟨a,h1,h2⟩ := Option.bind_eq_some_iff.1 h
  obtain ⟨b,h3,h4⟩ := Option.bind_eq_some_iff.1 h2
  injection h4 with h4; subst h4
  refine ⟨by simp; omega,fun hh o ho=>?_⟩
  rcases List.mem_append.1 ho with ho | ho
  ·exact hh o ho
  ·rw [List.mem_singleton.1 ho]
   have := blkF_sz (pasF_keep k2.ok h1).ok h3
   exact Nat.le_trans this (by decide)
 split at h
 ·obtain ⟨a,h1,h2⟩ := Option.bind_eq_some_iff.1 h
  obtain ⟨b,h3,h4⟩ := Option.bind_eq_some_iff.1 h2
  injection h4 with h4; subst h4; exact ⟨by simp; omega,fun hh=>hh⟩
 split at h
 ·injection h with h; subst h; exact ⟨by simp; omega,fun hh=>hh⟩
 ·injection h with h; subst h; exact ⟨by simp,fun hh=>hh⟩
theorem tdL_b : ∀ f t p r,Ok p→tdL f t p = some r→r.1.tot + mu r.2 ≤ t.tot + mu p∧((∀ o ∈ t.ops,szL o.body ≤ 9000)→∀ o ∈ r.1.ops,szL o.body ≤ 9000)
 | 0,_,_,_,_,h=>by cases h
 | f + 1,t,p,r,hO,h=>by
  unfold tdL at h
  split at h
  ·rename_i hc
   obtain ⟨a,h1,h2⟩ := Option.bind_eq_some_iff.1 h
   obtain ⟨k1,lt⟩ := memF_keep hO h1
   have lt := lt hc.1
   obtain ⟨b1,b2⟩ := memF_b hO h1
   obtain ⟨c1,c2⟩ := tdL_b f _ _ _ k1.ok h2
   exact ⟨by omega,fun hh=>c2 (b2 hh)⟩
  ·injection h with h; subst h
   have := (Keep.sign hO [125]).mu
   exact ⟨by simp only; omega,fun hh=>hh⟩
theorem tdF_b {f : Nat} {p : PS} {r : Typ × PS} (hO : Ok p) (h : tdF f p = some r) : TOk r.1:=by
 have k1 := Keep.adv hO
 have k2 := Keep.name k1.ok
 have k3 := Keep.sign k2.ok [123]
 obtain ⟨c1,c2⟩ := tdL_b f _ _ _ k3.ok h
 have := mu_le k3.ok
 have e : (⟨p.adv.s,true,[],true,[],true,[],true,[],p.adv.tat⟩ : Typ).tot = 0 := rfl
 exact ⟨by omega,c2 (fun o ho=>by cases ho)⟩
theorem paL_b : ∀ f tg l p r,Ok p→paL f tg l p = some r→r.1.2.length + mu r.2 ≤ l.length + mu p∧((∀ t ∈ l,TOk t)→∀ t ∈ r.1.2,TOk t)
 | 0,_,_,_,_,_,h=>by cases h
 | f + 1,tg,l,p,r,hO,h=>by
  unfold paL at h
  split at h
  ·rename_i hw
   obtain ⟨a,h1,h2⟩ := Option.bind_eq_some_iff.1 h
   have k1 := tdF_keep hO h1
   have lt := tdF_lt hO (by rw [isW_kind hw]; decide) h1
   obtain ⟨c1,c2⟩ := paL_b f _ _ _ _ k1.ok h2
   refine ⟨by rw [List.length_append,List.length_singleton] at c1; omega,fun hh=>c2 fun t ht=>?_⟩
   rcases List.mem_append.1 ht with ht | ht
   ·exact hh t ht
   ·rw [List.mem_singleton.1 ht]; exact tdF_b hO h1
  ·injection h with h; subst h; exact ⟨Nat.le_refl _,fun hh=>hh⟩
theorem pa_ok {src : List UInt8} (hl : src.length ≤ 4000) {f : Nat} {r : (Bool × List Typ) × PS} (h : paL f true [] (ps0 src).adv = some r) : TsOk r.1.2:=by
 have k0 := Keep.adv (ps0_ok hl)
 obtain ⟨c1,c2⟩ := paL_b f _ _ _ _ k0.ok h
 have := mu_le k0.ok
 exact ⟨by simp only [List.length_nil] at c1; omega,c2 (fun t ht=>by cases ht)⟩
end Go.Proofs.YtfdklpkfpmkgeaaGreatDoor
end
section
namespace Go.Proofs.YtfdklpkfpmkgeaaGreatDoor
open Go Go.Vai
attribute [local irreducible] goTo bodyOf mkS
variable {C : Nat → Oracle} {o : Out}
abbrev cF0 : AV := (.vs 1 true [(.str [105,110,116]),(.str [116,101,120,116]),(.str [98,111,111,108])])
abbrev cF1 : AV := (.vs 1 true [(.str [97]),(.str [98]),(.str [99]),(.str [111,119,110,101,114]),(.str [116,97,103,115]),(.str [110]),(.str [116,111,116,97,108]),(.str [120,49])])
abbrev qF0 : List Nat := [0,5,0,5,0,0,5,2,3]
abbrev qF1 : List Nat := [0,5,0,0,5,7,5,0]
abbrev qF2 : List Nat := [0,5,0,5,0,0,5,2,3,0,0,5,6,5,0,2,0,0,5,6,5]
abbrev qF3 : List Nat := [0,5,0,5,0,0,5,2,3,0,0,5,6,5,0,2,0,0,5,7,5]
theorem p22_c (hC : Ext C) {x_1 x_2 : Int} (ho : RL C 22 [] (mk0 14 [vi 0 x_1,vi 1 x_2]) = some o) : calL C 22 [(.int .i64 x_1),(.int .i64 x_2)] Hp.none 0 = some o := hC.call rfl (fun _ _ => by kernel_rfl) ho
theorem p22_0 {x_1 x_2 : Int} (ho : Tr.val C 22
 (.br (decide (x_2 < 1))
 (.ret ⟨(.int .i64 0),Hp.none,0⟩)
 (.br (decide (x_2 = 0))
 .none
 (.br (decide (x_2 = 0))
 .none
 (.ret ⟨(.int .i64 (Int.tmod (IntKind.wrap .i64 ((Int.tmod x_1 x_2) + x_2)) x_2)),Hp.none,0⟩)))) = some o) : RL C 22 [] (mk0 14 [vi 0 x_1,vi 1 x_2]) = some o := stR C 10 (fun _ _ => by kernel_rfl) ho
theorem p34_c (hC : Ext C) {tg_3 : Bool} {l_4 : List AV} {x_5 : Int} (ho : RL C 34 [] (mk0 15 [vv 0 (.vs 1 tg_3 l_4),vi 1 x_5]) = some o) : calL C 34 [(.vs 1 tg_3 l_4),(.int .i64 x_5)] Hp.none 0 = some o := hC.call rfl (fun _ _ => by kernel_rfl) ho
theorem p34_0 {tg_3 : Bool} {l_4 : List AV} {x_5 : Int} (ho : Tr.val C 34
 (.br (decide ((((List.length l_4) : Nat) : Int) = 0))
 (.ret ⟨(.int .i64 0),Hp.none,0⟩)
 (cl0 22 [(.int .i64 x_5),(.int .i64 (((List.length l_4) : Nat) : Int))] fun r1 => .br (AV.pure r1.v)
 (.mid 0 qF1 5 (mk0 15 [vv 0 (.vs 1 tg_3 l_4),vi 1 x_5,vb 7 false,vv 8 (.vs 1 tg_3 l_4),vi 9 x_5,vv 10 (.vs 1 tg_3 l_4),vi 11 (((List.length l_4) : Nat) : Int),vv 12 r1.v])) .none)) = some o) : RL C 34 [] (mk0 15 [vv 0 (.vs 1 tg_3 l_4),vi 1 x_5]) = some o := stR C 9 (fun _ _ => by kernel_rfl) ho
theorem p34_1 {tg_3 : Bool} {l_4 : List AV} {x_5 x_6 x_7 : Int} (ho : Tr.val C 34
 (.br (decide ((0 : Int) ≤ x_6))
 (.br (decide (x_6 < (((List.length l_4) : Nat) : Int)))
 (.bind (nth l_4 (Int.toNat x_6)) fun c2 =>
 (.mid 0 qF1 6 (mk0 15 [vv 0 (.vs 1 tg_3 l_4),vi 1 x_5,vb 7 false,vv 8 (.vs 1 tg_3 l_4),vi 9 x_5,vv 10 (.vs 1 tg_3 l_4),vi 11 x_7,vi 12 x_6,vv 13 (.cptr (AV.cells c2))])))
 .none)
 .none) = some o) : ML C 34 qF1 5 (mk0 15 [vv 0 (.vs 1 tg_3 l_4),vi 1 x_5,vb 7 false,vv 8 (.vs 1 tg_3 l_4),vi 9 x_5,vv 10 (.vs 1 tg_3 l_4),vi 11 x_7,vi 12 x_6]) = some o := stM C 0 (fun _ _ => by kernel_rfl) ho
theorem p34_2 {tg_3 : Bool} {l_4 : List AV} {x_5 x_6 x_7 x_8 : Int} (ho : Tr.val C 34
 (.ret ⟨(.int .i64 x_8),Hp.none,0⟩) = some o) : ML C 34 qF1 6 (mk0 15 [vv 0 (.vs 1 tg_3 l_4),vi 1 x_5,vb 7 false,vv 8 (.vs 1 tg_3 l_4),vi 9 x_5,vv 10 (.vs 1 tg_3 l_4),vi 11 x_7,vi 12 x_6,vv 13 (.cptr [(i6 x_8)])]) = some o := stM C 1 (fun _ _ => by kernel_rfl) ho
theorem p77_c (hC : Ext C) {x_9 x_10 x_11 : Int} (ho : RL C 77 [] (mk0 22 [vi 0 x_9,vi 1 x_10,vi 2 x_11]) = some o) : calL C 77 [(.int .i64 x_9),(.int .i64 x_10),(.int .i64 x_11)] Hp.none 0 = some o := hC.call rfl (fun _ _ => by kernel_rfl) ho
theorem p77_0 {x_9 x_10 x_11 : Int} (ho : Tr.val C 77
 (cl0 22 [(.int .i64 x_9),(.int .i64 1099511627776)] fun r1 => .br (AV.pure r1.v)
 (.mid 0 [0,5,0] 2 (mk0 22 [vi 0 x_9,vi 1 x_10,vi 2 x_11,vi 9 x_9,vv 10 r1.v])) .none) = some o) : RL C 77 [] (mk0 22 [vi 0 x_9,vi 1 x_10,vi 2 x_11]) = some o := stR C 4 (fun _ _ => by kernel_rfl) ho
theorem p77_1 {x_9 x_10 x_11 x_12 : Int} (ho : Tr.val C 77
 (.run 0 qF0 (mk0 22 [vi 1 x_10,vi 2 x_11,vi 7 x_12,vi 8 0])) = some o) : ML C 77 [0,5,0] 2 (mk0 22 [vi 0 x_9,vi 1 x_10,vi 2 x_11,vi 9 x_9,vi 10 x_12]) = some o := stM C 5 (fun _ _ => by kernel_rfl) ho
theorem p77_2 {x_13 x_14 x_15 x_16 : Int} (ho : Tr.val C 77
 (.br (decide (x_16 < x_14))
 (.br (decide (x_13 = 0))
 .none
 (.run 0 qF0 (mk0 22 [vi 1 x_13,vi 2 x_14,vi 7 (IntKind.wrap .i64 (Int.tdiv x_15 x_13)),vi 8 (IntKind.wrap .i64 (x_16 + 1))])))
 (.br (decide (x_13 = 0))
 .none
 (.ret ⟨(.int .i64 (Int.tmod x_15 x_13)),Hp.none,0⟩))) = some o) : RL C 77 qF0 (mk0 22 [vi 1 x_13,vi 2 x_14,vi 7 x_15,vi 8 x_16]) = some o := stR C 11 (fun _ _ => by kernel_rfl) ho
theorem p29_c (hC : Ext C) {x_17 : Int} (ho : RL C 29 [] (mk0 15 [vi 0 x_17]) = some o) : calL C 29 [(.int .i64 x_17)] Hp.none 0 = some o := hC.call rfl (fun _ _ => by kernel_rfl) ho
theorem p29_0 {x_17 : Int} (ho : Tr.val C 29
 (.br (decide (x_17 < 0))
 (cl0 67 [(.int .u64 (IntKind.wrap IntKind.u64 ((IntKind.wrap IntKind.u64 (IntKind.wrap .i64 (0 - (IntKind.wrap .i64 (x_17 + 1))))) + 1)))] fun r1 => .br (AV.pure r1.v)
 (.mid 1 [0,5,0,0,5,6,0] 6 (mk0 15 [vi 0 x_17,vb 4 true,vi 5 x_17,vi 6 (IntKind.wrap .i64 (x_17 + 1)),vi 7 (IntKind.wrap .i64 (0 - (IntKind.wrap .i64 (x_17 + 1)))),vv 8 (.int .u64 (IntKind.wrap IntKind.u64 (IntKind.wrap .i64 (0 - (IntKind.wrap .i64 (x_17 + 1)))))),vv 9 (.int .u64 (IntKind.wrap IntKind.u64 ((IntKind.wrap IntKind.u64 (IntKind.wrap .i64 (0 - (IntKind.wrap .i64 (x_17 + 1))))) + 1))),vv 10 r1.v])) .none)
 (cl0 67 [(.int .u64 (IntKind.wrap IntKind.u64 x_17))] fun r2 => .br (AV.pure r2.v)
 (.mid 0 qF1 3 (mk0 15 [vi 0 x_17,vb 4 false,vi 12 x_17,vv 13 (.int .u64 (IntKind.wrap IntKind.u64 x_17)),vv 14 r2.v])) .none)) = some o) : RL C 29 [] (mk0 15 [vi 0 x_17]) = some o := stR C 9 (fun _ _ => by kernel_rfl) ho
theorem p29_1 {x_17 x_19 x_20 x_21 x_22 : Int} {s_18 : List UInt8} (ho : Tr.val C 29
 (.br (Nat.ble (1 + (List.length s_18)) 4611686018427387904)
 (.ret ⟨(.str ([45] ++ s_18)),Hp.none,0⟩)
 .none) = some o) : ML C 29 [0,5,0,0,5,6,0] 6 (mk0 15 [vi 0 x_17,vb 4 true,vi 5 x_17,vi 6 x_19,vi 7 x_20,vv 8 (.int .u64 x_21),vv 9 (.int .u64 x_22),vt 10 s_18]) = some o := stM C 1 (fun _ _ => by kernel_rfl) ho
theorem p29_2 {x_17 x_24 : Int} {s_23 : List UInt8} (ho : Tr.val C 29
 (.ret ⟨(.str s_23),Hp.none,0⟩) = some o) : ML C 29 qF1 3 (mk0 15 [vi 0 x_17,vb 4 false,vi 12 x_17,vv 13 (.int .u64 x_24),vt 14 s_23]) = some o := stM C 1 (fun _ _ => by kernel_rfl) ho
theorem p67_c (hC : Ext C) {x_25 : Int} (ho : RL C 67 [] (mk0 20 [vv 0 (.int .u64 x_25)]) = some o) : calL C 67 [(.int .u64 x_25)] Hp.none 0 = some o := hC.call rfl (fun _ _ => by kernel_rfl) ho
theorem p67_0 {x_25 : Int} (ho : Tr.val C 67
 (.br (decide (x_25 < 10))
 (.bind (bytesOf [(.int .u8 (IntKind.wrap IntKind.u8 (IntKind.wrap IntKind.u64 (48 + x_25))))]) fun s1 =>
 (.ret ⟨(.str s1),Hp.none,0⟩))
 (cl0 67 [(.int .u64 (IntKind.wrap IntKind.u64 (Int.tdiv x_25 10)))] fun r2 => .br (AV.pure r2.v)
 (.br (AV.pure r2.v)
 (.mid 0 qF1 3 (mk0 20 [vv 0 (.int .u64 x_25),vb 4 false,vv 10 (.int .u64 x_25),vv 11 (.int .u64 (IntKind.wrap IntKind.u64 (Int.tdiv x_25 10))),vv 12 r2.v]))
 .none) .none)) = some o) : RL C 67 [] (mk0 20 [vv 0 (.int .u64 x_25)]) = some o := stR C 9 (fun _ _ => by kernel_rfl) ho
theorem p67_1 {x_25 x_27 : Int} {s_26 : List UInt8} (ho : Tr.val C 67
 (.bind (bytesOf [(.int .u8 (IntKind.wrap IntKind.u8 (IntKind.wrap IntKind.u64 (48 + (Int.tmod x_25 10)))))]) fun s3 =>
 (.br (Nat.ble ((List.length s_26) + (List.length s3)) 4611686018427387904)
 (.ret ⟨(.str (s_26 ++ s3)),Hp.none,0⟩)
 .none)) = some o) : ML C 67 qF1 3 (mk0 20 [vv 0 (.int .u64 x_25),vb 4 false,vv 10 (.int .u64 x_25),vv 11 (.int .u64 x_27),vt 12 s_26]) = some o := stM C 1 (fun _ _ => by kernel_rfl) ho
theorem p78_c (hC : Ext C) {s_28 : List UInt8} (ho : RL C 78 [] (mk0 35 [vt 0 s_28]) = some o) : calL C 78 [(.str s_28)] Hp.none 0 = some o := hC.call rfl (fun _ _ => by kernel_rfl) ho
theorem p78_0 {s_28 : List UInt8} (ho : Tr.val C 78
 (.run 0 qF0 (mk0 35 [vt 0 s_28,vv 3 (.vs 1 true [(.int .u8 34)]),vi 4 0])) = some o) : RL C 78 [] (mk0 35 [vt 0 s_28]) = some o := stR C 9 (fun _ _ => by kernel_rfl) ho
theorem p78_1 {s_29 : List UInt8} {tg_30 : Bool} {l_31 : List AV} {x_32 : Int} (ho : Tr.val C 78
 (.br (decide (x_32 < (((List.length s_29) : Nat) : Int)))
 (.br (decide ((0 : Int) ≤ x_32))
 (.bind (s_29[(Int.toNat x_32)]?) fun b1 =>
 (.br (decide (((b1.toNat : Nat) : Int) = 34))
 (.br tg_30
 (.br (Nat.ble (((List.length l_31) + 1) * 1) maxBytes)
 (.br (Nat.ble ((List.length l_31) + 1) maxBytes)
 (.br (decide ((0 : Int) ≤ x_32))
 (.bind (s_29[(Int.toNat x_32)]?) fun b2 =>
 (.br (Nat.ble (((List.length (l_31 ++ [(.int .u8 92)])) + 1) * 1) maxBytes)
 (.br (Nat.ble ((List.length (l_31 ++ [(.int .u8 92)])) + 1) maxBytes)
 (.run 0 qF0 (mk0 35 [vt 0 s_29,(3,.val (.vs 1 false ((l_31 ++ [(.int .u8 92)]) ++ [(.int .u8 ((b2.toNat : Nat) : Int))])) .own),vi 4 (IntKind.wrap .i64 (x_32 + 1))]))
 .none)
 .none))
 .none)
 .none)
 .none)
 .none)
 (.br (decide ((0 : Int) ≤ x_32))
 (.bind (s_29[(Int.toNat x_32)]?) fun b3 =>
 (.br (decide (((b3.toNat : Nat) : Int) = 92))
 (.br tg_30
 (.br (Nat.ble (((List.length l_31) + 1) * 1) maxBytes)
 (.br (Nat.ble ((List.length l_31) + 1) maxBytes)
 (.br (decide ((0 : Int) ≤ x_32))
 (.bind (s_29[(Int.toNat x_32)]?) fun b4 =>
 (.br (Nat.ble (((List.length (l_31 ++ [(.int .u8 92)])) + 1) * 1) maxBytes)
 (.br (Nat.ble ((List.length (l_31 ++ [(.int .u8 92)])) + 1) maxBytes)
 (.run 0 qF0 (mk0 35 [vt 0 s_29,(3,.val (.vs 1 false ((l_31 ++ [(.int .u8 92)]) ++ [(.int .u8 ((b4.toNat : Nat) : Int))])) .own),vi 4 (IntKind.wrap .i64 (x_32 + 1))]))
 .none)
 .none))
 .none)
 .none)
 .none)
 .none)
 (.br (decide ((0 : Int) ≤ x_32))
 (.bind (s_29[(Int.toNat x_32)]?) fun b5 =>
 (.br tg_30
 (.br (Nat.ble (((List.length l_31) + 1) * 1) maxBytes)
 (.br (Nat.ble ((List.length l_31) + 1) maxBytes)
 (.run 0 qF0 (mk0 35 [vt 0 s_29,(3,.val (.vs 1 false (l_31 ++ [(.int .u8 ((b5.toNat : Nat) : Int))])) .own),vi 4 (IntKind.wrap .i64 (x_32 + 1))]))
 .none)
 .none)
 .none))
 .none)))
 .none)))
 .none)
 (.br tg_30
 (.br (Nat.ble (((List.length l_31) + 1) * 1) maxBytes)
 (.br (Nat.ble ((List.length l_31) + 1) maxBytes)
 (.bind (bytesOf (l_31 ++ [(.int .u8 34)])) fun s6 =>
 (.ret ⟨(.str s6),Hp.none,0⟩))
 .none)
 .none)
 .none)) = some o) : RL C 78 qF0 (mk0 35 [vt 0 s_29,vv 3 (.vs 1 tg_30 l_31),vi 4 x_32]) = some o := stR C 16 (fun _ _ => by kernel_rfl) ho
theorem p78_2 {s_33 : List UInt8} {tg_34 : Bool} {l_35 : List AV} {x_36 : Int} (ho : Tr.val C 78
 (.br (decide (x_36 < (((List.length s_33) : Nat) : Int)))
 (.br (decide ((0 : Int) ≤ x_36))
 (.bind (s_33[(Int.toNat x_36)]?) fun b7 =>
 (.br (decide (((b7.toNat : Nat) : Int) = 34))
 (.br (Nat.ble (((List.length l_35) + 1) * 1) maxBytes)
 (.br (Nat.ble ((List.length l_35) + 1) maxBytes)
 (.br (decide ((0 : Int) ≤ x_36))
 (.bind (s_33[(Int.toNat x_36)]?) fun b8 =>
 (.br (Nat.ble (((List.length (l_35 ++ [(.int .u8 92)])) + 1) * 1) maxBytes)
 (.br (Nat.ble ((List.length (l_35 ++ [(.int .u8 92)])) + 1) maxBytes)
 (.run 0 qF0 (mk0 35 [vt 0 s_33,(3,.val (.vs 1 false ((l_35 ++ [(.int .u8 92)]) ++ [(.int .u8 ((b8.toNat : Nat) : Int))])) .own),vi 4 (IntKind.wrap .i64 (x_36 + 1))]))
 .none)
 .none))
 .none)
 .none)
 .none)
 (.br (decide ((0 : Int) ≤ x_36))
 (.bind (s_33[(Int.toNat x_36)]?) fun b9 =>
 (.br (decide (((b9.toNat : Nat) : Int) = 92))
 (.br (Nat.ble (((List.length l_35) + 1) * 1) maxBytes)
 (.br (Nat.ble ((List.length l_35) + 1) maxBytes)
 (.br (decide ((0 : Int) ≤ x_36))
 (.bind (s_33[(Int.toNat x_36)]?) fun b10 =>
 (.br (Nat.ble (((List.length (l_35 ++ [(.int .u8 92)])) + 1) * 1) maxBytes)
 (.br (Nat.ble ((List.length (l_35 ++ [(.int .u8 92)])) + 1) maxBytes)
 (.run 0 qF0 (mk0 35 [vt 0 s_33,(3,.val (.vs 1 false ((l_35 ++ [(.int .u8 92)]) ++ [(.int .u8 ((b10.toNat : Nat) : Int))])) .own),vi 4 (IntKind.wrap .i64 (x_36 + 1))]))
 .none)
 .none))
 .none)
 .none)
 .none)
 (.br (decide ((0 : Int) ≤ x_36))
 (.bind (s_33[(Int.toNat x_36)]?) fun b11 =>
 (.br (Nat.ble (((List.length l_35) + 1) * 1) maxBytes)
 (.br (Nat.ble ((List.length l_35) + 1) maxBytes)
 (.run 0 qF0 (mk0 35 [vt 0 s_33,(3,.val (.vs 1 false (l_35 ++ [(.int .u8 ((b11.toNat : Nat) : Int))])) .own),vi 4 (IntKind.wrap .i64 (x_36 + 1))]))
 .none)
 .none))
 .none)))
 .none)))
 .none)
 (.br (Nat.ble (((List.length l_35) + 1) * 1) maxBytes)
 (.br (Nat.ble ((List.length l_35) + 1) maxBytes)
 (.bind (bytesOf (l_35 ++ [(.int .u8 34)])) fun s12 =>
 (.ret ⟨(.str s12),Hp.none,0⟩))
 .none)
 .none)) = some o) : RL C 78 qF0 (mk0 35 [vt 0 s_33,(3,.val (.vs 1 tg_34 l_35) .own),vi 4 x_36]) = some o := stR C 16 (fun _ _ => by kernel_rfl) ho
theorem p37_c (hC : Ext C) {x_37 : Int} (ho : RL C 37 [] (mk0 8 [vi 0 x_37]) = some o) : calL C 37 [(.int .i64 x_37)] Hp.none 0 = some o := hC.call rfl (fun _ _ => by kernel_rfl) ho
theorem p37_0 {x_37 : Int} (ho : Tr.val C 37
 (cl0 22 [(.int .i64 x_37),(.int .i64 8)] fun r1 => .br (AV.pure r1.v)
 (.mid 0 [0,5,0] 3 (mkS 8 [vi 0 x_37,vv 3 cF1,vi 4 x_37,vv 5 r1.v] [] Hp.none 0)) .none) = some o) : RL C 37 [] (mk0 8 [vi 0 x_37]) = some o := stR C 4 (fun _ _ => by kernel_rfl) ho
theorem p37_1 {x_37 x_38 : Int} (ho : Tr.val C 37
 (.br (decide ((0 : Int) ≤ x_38))
 (.br (decide (x_38 < 8))
 (.bind (nth [(.str [97]),(.str [98]),(.str [99]),(.str [111,119,110,101,114]),(.str [116,97,103,115]),(.str [110]),(.str [116,111,116,97,108]),(.str [120,49])] (Int.toNat x_38)) fun c2 =>
 (.mid 0 [0,5,0] 4 (mkS 8 [vi 0 x_37,vv 3 cF1,vi 4 x_37,vi 5 x_38,vv 6 (.cptr (AV.cells c2))] [] Hp.none 0)))
 .none)
 .none) = some o) : ML C 37 [0,5,0] 3 (mkS 8 [vi 0 x_37,vv 3 cF1,vi 4 x_37,vi 5 x_38] [] Hp.none 0) = some o := stM C 0 (fun _ _ => by kernel_rfl) ho
theorem p37_2 {x_37 x_38 : Int} {s_39 : List UInt8} (ho : Tr.val C 37
 (.ret ⟨(.str s_39),Hp.none,0⟩) = some o) : ML C 37 [0,5,0] 4 (mkS 8 [vi 0 x_37,vv 3 cF1,vi 4 x_37,vi 5 x_38,vv 6 (.cptr [(.str s_39)])] [] Hp.none 0) = some o := stM C 1 (fun _ _ => by kernel_rfl) ho
theorem p39_c (hC : Ext C) {x_40 : Int} (ho : RL C 39 [] (mk0 33 [vi 0 x_40]) = some o) : calL C 39 [(.int .i64 x_40)] Hp.none 0 = some o := hC.call rfl (fun _ _ => by kernel_rfl) ho
theorem p39_0 {x_40 : Int} (ho : Tr.val C 39
 (.run 0 qF0 (mk0 33 [vi 0 x_40,vt 3 [40],vi 4 0])) = some o) : RL C 39 [] (mk0 33 [vi 0 x_40]) = some o := stR C 9 (fun _ _ => by kernel_rfl) ho
theorem p39_1 {x_41 x_43 : Int} {s_42 : List UInt8} (ho : Tr.val C 39
 (cl0 77 [(.int .i64 x_41),(.int .i64 4),(.int .i64 0)] fun r1 => .br (AV.pure r1.v)
 (.mid 0 [0,5,0,5,0,0,5,2,3,0,0] 3 (mk0 33 [vi 0 x_41,vt 3 s_42,vi 4 x_43,vi 5 x_43,vi 6 x_41,vv 7 r1.v])) .none) = some o) : RL C 39 qF0 (mk0 33 [vi 0 x_41,vt 3 s_42,vi 4 x_43]) = some o := stR C 3 (fun _ _ => by kernel_rfl) ho
theorem p39_2 {x_41 x_43 x_44 : Int} {s_42 : List UInt8} (ho : Tr.val C 39
 (.br (decide (x_43 < x_44))
 (.br (decide (0 < x_43))
 (.br (Nat.ble ((List.length s_42) + 2) 4611686018427387904)
 (cl0 77 [(.int .i64 x_41),(.int .i64 8),(.int .i64 (IntKind.wrap .i64 (2 + x_43)))] fun r2 => .br (AV.pure r2.v)
 (.mid 0 qF2 5 (mk0 33 [vi 0 x_41,vt 3 (s_42 ++ [44,32]),vi 4 x_43,vt 15 (s_42 ++ [44,32]),vi 16 x_41,vi 17 x_43,vi 18 (IntKind.wrap .i64 (2 + x_43)),vv 19 r2.v])) .none)
 .none)
 (cl0 77 [(.int .i64 x_41),(.int .i64 8),(.int .i64 (IntKind.wrap .i64 (2 + x_43)))] fun r3 => .br (AV.pure r3.v)
 (.mid 0 qF3 5 (mk0 33 [vi 0 x_41,vt 3 s_42,vi 4 x_43,vb 12 false,vt 15 s_42,vi 16 x_41,vi 17 x_43,vi 18 (IntKind.wrap .i64 (2 + x_43)),vv 19 r3.v])) .none))
 (.br (Nat.ble ((List.length s_42) + 1) 4611686018427387904)
 (.ret ⟨(.str (s_42 ++ [41])),Hp.none,0⟩)
 .none)) = some o) : ML C 39 [0,5,0,5,0,0,5,2,3,0,0] 3 (mk0 33 [vi 0 x_41,vt 3 s_42,vi 4 x_43,vi 5 x_43,vi 6 x_41,vi 7 x_44]) = some o := stM C 10 (fun _ _ => by kernel_rfl) ho
theorem p39_3 {x_41 x_43 x_45 x_47 : Int} {s_46 : List UInt8} (ho : Tr.val C 39
 (cl0 37 [(.int .i64 x_45)] fun r4 => .br (AV.pure r4.v)
 (.mid 0 qF2 6 (mk0 33 [vi 0 x_41,vt 3 s_46,vi 4 x_43,vt 15 s_46,vi 16 x_41,vi 17 x_43,vi 18 x_47,vi 19 x_45,vv 20 r4.v])) .none) = some o) : ML C 39 qF2 5 (mk0 33 [vi 0 x_41,vt 3 s_46,vi 4 x_43,vt 15 s_46,vi 16 x_41,vi 17 x_43,vi 18 x_47,vi 19 x_45]) = some o := stM C 0 (fun _ _ => by kernel_rfl) ho
theorem p39_4 {x_41 x_43 x_48 x_49 : Int} {s_42 : List UInt8} (ho : Tr.val C 39
 (cl0 37 [(.int .i64 x_48)] fun r5 => .br (AV.pure r5.v)
 (.mid 0 qF3 6 (mk0 33 [vi 0 x_41,vt 3 s_42,vi 4 x_43,vb 12 false,vt 15 s_42,vi 16 x_41,vi 17 x_43,vi 18 x_49,vi 19 x_48,vv 20 r5.v])) .none) = some o) : ML C 39 qF3 5 (mk0 33 [vi 0 x_41,vt 3 s_42,vi 4 x_43,vb 12 false,vt 15 s_42,vi 16 x_41,vi 17 x_43,vi 18 x_49,vi 19 x_48]) = some o := stM C 0 (fun _ _ => by kernel_rfl) ho
theorem p39_5 {x_41 x_43 x_45 x_47 : Int} {s_46 s_50 : List UInt8} (ho : Tr.val C 39
 (.br (Nat.ble ((List.length s_46) + (List.length s_50)) 4611686018427387904)
 (.br (Nat.ble ((List.length (s_46 ++ s_50)) + 1) 4611686018427387904)
 (cl0 77 [(.int .i64 x_41),(.int .i64 3),(.int .i64 (IntKind.wrap .i64 (6 + x_43)))] fun r6 => .br (AV.pure r6.v)
 (.mid 0 qF2 13 (mkS 33 [vi 0 x_41,vt 3 s_46,vi 4 x_43,vt 15 s_46,vi 16 x_41,vi 17 x_43,vi 18 x_47,vi 19 x_45,vt 20 s_50,vt 21 (s_46 ++ s_50),vt 22 ((s_46 ++ s_50) ++ [32]),vv 23 cF0,vi 24 x_41,vi 25 x_43,vi 26 (IntKind.wrap .i64 (6 + x_43)),vv 27 r6.v] [] Hp.none 0)) .none)
 .none)
 .none) = some o) : ML C 39 qF2 6 (mk0 33 [vi 0 x_41,vt 3 s_46,vi 4 x_43,vt 15 s_46,vi 16 x_41,vi 17 x_43,vi 18 x_47,vi 19 x_45,vt 20 s_50]) = some o := stM C 0 (fun _ _ => by kernel_rfl) ho
theorem p39_6 {x_41 x_43 x_48 x_49 : Int} {s_42 s_51 : List UInt8} (ho : Tr.val C 39
 (.br (Nat.ble ((List.length s_42) + (List.length s_51)) 4611686018427387904)
 (.br (Nat.ble ((List.length (s_42 ++ s_51)) + 1) 4611686018427387904)
 (cl0 77 [(.int .i64 x_41),(.int .i64 3),(.int .i64 (IntKind.wrap .i64 (6 + x_43)))] fun r7 => .br (AV.pure r7.v)
 (.mid 0 qF3 13 (mkS 33 [vi 0 x_41,vt 3 s_42,vi 4 x_43,vb 12 false,vt 15 s_42,vi 16 x_41,vi 17 x_43,vi 18 x_49,vi 19 x_48,vt 20 s_51,vt 21 (s_42 ++ s_51),vt 22 ((s_42 ++ s_51) ++ [32]),vv 23 cF0,vi 24 x_41,vi 25 x_43,vi 26 (IntKind.wrap .i64 (6 + x_43)),vv 27 r7.v] [] Hp.none 0)) .none)
 .none)
 .none) = some o) : ML C 39 qF3 6 (mk0 33 [vi 0 x_41,vt 3 s_42,vi 4 x_43,vb 12 false,vt 15 s_42,vi 16 x_41,vi 17 x_43,vi 18 x_49,vi 19 x_48,vt 20 s_51]) = some o := stM C 0 (fun _ _ => by kernel_rfl) ho
theorem p39_7 {x_41 x_43 x_45 x_47 x_52 x_55 : Int} {s_46 s_50 s_53 s_54 : List UInt8} (ho : Tr.val C 39
 (.br (decide ((0 : Int) ≤ x_52))
 (.br (decide (x_52 < 3))
 (.bind (nth [(.str [105,110,116]),(.str [116,101,120,116]),(.str [98,111,111,108])] (Int.toNat x_52)) fun c8 =>
 (.mid 0 qF2 14 (mkS 33 [vi 0 x_41,vt 3 s_46,vi 4 x_43,vt 15 s_46,vi 16 x_41,vi 17 x_43,vi 18 x_47,vi 19 x_45,vt 20 s_50,vt 21 s_53,vt 22 s_54,vv 23 cF0,vi 24 x_41,vi 25 x_43,vi 26 x_55,vi 27 x_52,vv 28 (.cptr (AV.cells c8))] [] Hp.none 0)))
 .none)
 .none) = some o) : ML C 39 qF2 13 (mkS 33 [vi 0 x_41,vt 3 s_46,vi 4 x_43,vt 15 s_46,vi 16 x_41,vi 17 x_43,vi 18 x_47,vi 19 x_45,vt 20 s_50,vt 21 s_53,vt 22 s_54,vv 23 cF0,vi 24 x_41,vi 25 x_43,vi 26 x_55,vi 27 x_52] [] Hp.none 0) = some o := stM C 0 (fun _ _ => by kernel_rfl) ho
theorem p39_8 {x_41 x_43 x_48 x_49 x_56 x_59 : Int} {s_42 s_51 s_57 s_58 : List UInt8} (ho : Tr.val C 39
 (.br (decide ((0 : Int) ≤ x_56))
 (.br (decide (x_56 < 3))
 (.bind (nth [(.str [105,110,116]),(.str [116,101,120,116]),(.str [98,111,111,108])] (Int.toNat x_56)) fun c9 =>
 (.mid 0 qF3 14 (mkS 33 [vi 0 x_41,vt 3 s_42,vi 4 x_43,vb 12 false,vt 15 s_42,vi 16 x_41,vi 17 x_43,vi 18 x_49,vi 19 x_48,vt 20 s_51,vt 21 s_57,vt 22 s_58,vv 23 cF0,vi 24 x_41,vi 25 x_43,vi 26 x_59,vi 27 x_56,vv 28 (.cptr (AV.cells c9))] [] Hp.none 0)))
 .none)
 .none) = some o) : ML C 39 qF3 13 (mkS 33 [vi 0 x_41,vt 3 s_42,vi 4 x_43,vb 12 false,vt 15 s_42,vi 16 x_41,vi 17 x_43,vi 18 x_49,vi 19 x_48,vt 20 s_51,vt 21 s_57,vt 22 s_58,vv 23 cF0,vi 24 x_41,vi 25 x_43,vi 26 x_59,vi 27 x_56] [] Hp.none 0) = some o := stM C 0 (fun _ _ => by kernel_rfl) ho
theorem p39_9 {x_41 x_43 x_45 x_47 x_52 x_55 : Int} {s_46 s_50 s_53 s_54 s_60 : List UInt8} (ho : Tr.val C 39
 (.br (Nat.ble ((List.length s_54) + (List.length s_60)) 4611686018427387904)
 (.run 0 qF0 (mk0 33 [vi 0 x_41,vt 3 (s_54 ++ s_60),vi 4 (IntKind.wrap .i64 (x_43 + 1))]))
 .none) = some o) : ML C 39 qF2 14 (mkS 33 [vi 0 x_41,vt 3 s_46,vi 4 x_43,vt 15 s_46,vi 16 x_41,vi 17 x_43,vi 18 x_47,vi 19 x_45,vt 20 s_50,vt 21 s_53,vt 22 s_54,vv 23 cF0,vi 24 x_41,vi 25 x_43,vi 26 x_55,vi 27 x_52,vv 28 (.cptr [(.str s_60)])] [] Hp.none 0) = some o := stM C 3 (fun _ _ => by kernel_rfl) ho
theorem p39_10 {x_41 x_43 x_48 x_49 x_56 x_59 : Int} {s_42 s_51 s_57 s_58 s_61 : List UInt8} (ho : Tr.val C 39
 (.br (Nat.ble ((List.length s_58) + (List.length s_61)) 4611686018427387904)
 (.run 0 qF0 (mk0 33 [vi 0 x_41,vt 3 (s_58 ++ s_61),vi 4 (IntKind.wrap .i64 (x_43 + 1))]))
 .none) = some o) : ML C 39 qF3 14 (mkS 33 [vi 0 x_41,vt 3 s_42,vi 4 x_43,vb 12 false,vt 15 s_42,vi 16 x_41,vi 17 x_43,vi 18 x_49,vi 19 x_48,vt 20 s_51,vt 21 s_57,vt 22 s_58,vv 23 cF0,vi 24 x_41,vi 25 x_43,vi 26 x_59,vi 27 x_56,vv 28 (.cptr [(.str s_61)])] [] Hp.none 0) = some o := stM C 3 (fun _ _ => by kernel_rfl) ho
end Go.Proofs.YtfdklpkfpmkgeaaGreatDoor
end
section
namespace Go.Proofs.YtfdklpkfpmkgeaaGreatDoor
open Go Go.Vai
attribute [local irreducible] goTo bodyOf mkS
def Was (x : Option Out) (Q : Out→Prop) : Prop := ∃ o,x = some o∧Q o
theorem exW {x y : Option Out} {Q : Out→Prop} (h : ∀ o,y = some o→x = some o) (e : Was y Q) : Was x Q:=by
 obtain ⟨o,h1,h2⟩ := e
 exact ⟨o,h o h1,h2⟩
theorem Was.mk {o : Out} {Q : Out→Prop} (h : Q o) : Was (some o) Q := ⟨o,rfl,h⟩
theorem Was.brn {c : Bool} {x y : Option Out} {Q : Out→Prop} (h : c = true) (e : Was x Q) : Was (Vai.br c x y) Q := by rw [br_t h]; exact e
theorem Was.brf {c : Bool} {x y : Option Out} {Q : Out→Prop} (h : c = false) (e : Was y Q) : Was (Vai.br c x y) Q := by rw [br_f h]; exact e
theorem Was.bT {p : Prop} [Decidable p] {x y : Option Out} {Q : Out→Prop} (h : p) (e : Was x Q) : Was (Vai.br (decide p) x y) Q := .brn (decide_eq_true h) e
theorem Was.bF {p : Prop} [Decidable p] {x y : Option Out} {Q : Out→Prop} (h : ¬ p) (e : Was y Q) : Was (Vai.br (decide p) x y) Q := .brf (decide_eq_false h) e
theorem Was.bL {a b : Nat} {x y : Option Out} {Q : Out→Prop} (h : a ≤ b) (e : Was x Q) : Was (Vai.br (Nat.ble a b) x y) Q := .brn (ble_t h) e
theorem Was.dec {p : Prop} [Decidable p] {x y : Option Out} {Q : Out→Prop} (h1 : p→Was x Q) (h2 : ¬ p→Was y Q) : Was (Vai.br (decide p) x y) Q:=by
 by_cases h : p
 ·exact .bT h (h1 h)
 ·exact .bF h (h2 h)
theorem Was.both {c : Bool} {x y : Option Out} {Q : Out→Prop} (h1 : c = true→Was x Q) (h2 : c = false→Was y Q) : Was (Vai.br c x y) Q:=by
 cases h : c
 ·exact h2 h
 ·exact h1 h
theorem Was.call {x : Option Out} {K : Out→Option Out} {Q1 Q : Out→Prop} (h : Was x Q1) (hK : ∀ o,Q1 o→Was (K o) Q) : Was (x.bind K) Q:=by
 obtain ⟨o,h1,h2⟩ := h
 rw [h1]
 exact hK o h2
theorem Was.imp {x : Option Out} {Q1 Q : Out→Prop} (h : Was x Q1) (hK : ∀ o,Q1 o→Q o) : Was x Q:=by
 obtain ⟨o,h1,h2⟩ := h
 exact ⟨o,h1,hK o h2⟩
def allStr (B : Nat) : List AV→Bool
 | []=>true
 | .str s :: l=>Nat.ble s.length B && allStr B l
 | _=>false
theorem allStr_nth {B : Nat} : ∀ {l : List AV} {i : Nat},allStr B l = true→i < l.length→∃ s,nth l i = some (.str s)∧s.length ≤ B
 | [],i,_,h=>by simp at h
 | a :: l,i,hl,h=>by
  cases a with
  | str s =>
   unfold allStr at hl
   rw [Bool.and_eq_true] at hl
   cases i with
   | zero=>exact ⟨s,rfl,by have := hl.1; rw [Nat.ble_eq] at this; exact this⟩
   | succ i =>
    have := allStr_nth (l := l) (i := i) hl.2 (by simpa using h)
    exact this
  | _=>cases hl
theorem Was.nth {B : Nat} {l : List AV} {i : Int} {K : AV→Option Out} {Q : Out→Prop} (hl : allStr B l = true) (h1 : i.toNat < l.length) (hK : ∀ s,s.length ≤ B→Was (K (.str s)) Q) : Was ((Vai.nth l i.toNat).bind K) Q:=by
 obtain ⟨s,h2,h3⟩ := allStr_nth hl h1
 rw [h2]
 exact hK s h3
def ints (l : List Int) : List AV := l.map (AV.int .i64)
theorem pure_ints (l : List Int) : pureL (ints l) = true:=by
 induction l with
 | nil=>rfl
 | cons x l ih=>show pureL (AV.int .i64 x :: ints l) = true; rw [pureL_cons,ih]; rfl
def QS (B : Nat) (o : Out) : Prop := ∃ s,o.v = .str s∧s.length ≤ B
def QI (k : Int) (o : Out) : Prop := ∃ x,o.v = .int .i64 x∧0 ≤ x∧x < k
def QA (o : Out) : Prop := ∃ x,o.v = .int .i64 x
def QP (B : Nat) (o : Out) : Prop := ∃ s x,o.v = .tuple [.str s,.int .i64 x]∧s.length ≤ B
variable {C : Nat→Oracle} (hC : Ext C)
include hC
theorem w22 (n k : Int) (h : 1 ≤ k) (h2 : k ≤ 1152921504606846976) : Was (calL C 22 [.int .i64 n,.int .i64 k] Hp.none 0) (QI k):=by
 refine exW (fun o=>p22_c hC) (exW (fun o=>p22_0) ?_)
 simp only [Tr.val]
 refine .bF (by omega) (.bF (by omega) (.bF (by omega) (.mk ⟨_,rfl,?_⟩)))
 have h3 := Int.tmod_lt_of_pos n (show 0 < k by omega)
 have h4 : -k < Int.tmod n k := by have := Int.lt_tmod_of_pos n (show 0 < k by omega); omega
 rw [wrap64 (by omega) (by omega)]
 exact ⟨Int.tmod_nonneg _ (by omega),Int.tmod_lt_of_pos _ (by omega)⟩
theorem w34 (tg : Bool) (l : List Int) (hl : l.length ≤ 1000000) (i : Int) : Was (calL C 34 [.vs 1 tg (ints l),.int .i64 i] Hp.none 0) QA:=by
 refine exW (fun o=>p34_c hC) (exW (fun o=>p34_0) ?_)
 have hlen : (ints l).length = l.length := List.length_map _
 simp only [Tr.val,pureL,AV.pure,br_true,hlen]
 refine .dec (fun h=>.mk ⟨_,rfl⟩) fun h=>?_
 refine .call (w22 hC _ _ (by omega) (by omega)) ?_
 rintro o ⟨x,e,h1,h2⟩
 simp only [e,AV.pure,br_true]
 refine exW (fun o=>p34_1) ?_
 simp only [Tr.val,hlen]
 refine .bT h1 (.bT h2 ?_)
 have : nth (ints l) x.toNat = some (.int .i64 (l[x.toNat]'(by omega))):=by
  rw [nth_get]
  unfold ints
  rw [List.getElem?_map,List.getElem?_eq_getElem (by omega)]
  rfl
 rw [this]
 simp only [Option.bind_some,AV.cells]
 refine exW (fun o=>p34_2) ?_
 exact .mk ⟨_,rfl⟩
theorem w37 (n : Int) : Was (calL C 37 [.int .i64 n] Hp.none 0) (QS 5):=by
 refine exW (fun o=>p37_c hC) (exW (fun o=>p37_0) ?_)
 simp only [Tr.val,pureL,AV.pure,br_true]
 refine .call (w22 hC _ _ (by omega) (by omega)) ?_
 rintro o ⟨x,e,h1,h2⟩
 simp only [e,AV.pure,br_true]
 refine exW (fun o=>p37_1) ?_
 simp only [Tr.val]
 refine .bT h1 (.bT h2 (.nth (B := 5) rfl (by simp only [List.length_cons,List.length_nil]; omega) fun s hs=>?_))
 simp only [AV.cells]
 refine exW (fun o=>p37_2) ?_
 exact .mk ⟨_,rfl,hs⟩
end Go.Proofs.YtfdklpkfpmkgeaaGreatDoor
end
section
namespace Go.Proofs.YtfdklpkfpmkgeaaGreatDoor
open Go Go.Vai
attribute [local irreducible] goTo bodyOf mkS
theorem wrapu64 {x : Int} (h : 0 ≤ x) (h2 : x < 18446744073709551616) : IntKind.wrap .u64 x = x:=by
 simp [IntKind.wrap,IntKind.bits,IntKind.signed]
 omega
theorem wrapu64_range (x : Int) : 0 ≤ IntKind.wrap .u64 x∧IntKind.wrap .u64 x < 18446744073709551616:=by
 simp [IntKind.wrap,IntKind.bits,IntKind.signed]
 omega
theorem bytesOf_one (y : Int) : bytesOf [.int .u8 y] = some [UInt8.ofNat y.toNat] := rfl
variable {C : Nat→Oracle} (hC : Ext C)
theorem digit_loop (b i : Int) (hb : 1 ≤ b) (hb2 : b ≤ 1000) (hi : i ≤ 1000) : ∀ (m : Nat) (k x : Int),(i - k).toNat = m→0 ≤ k→0 ≤ x→x ≤ 1099511627776 →
  Was (RL C 77 [0,5,0,5,0,0,5,2,3] (mkS 22 [(1,.val (.int .i64 b) .no),(2,.val (.int .i64 i) .no),(7,.val (.int .i64 x) .no),(8,.val (.int .i64 k) .no)] [] Hp.none 0)) (QI b):=by
 intro m
 induction m with
 | zero =>
  intro k x hm hk hx hx2
  refine exW (fun o=>p77_2) ?_
  simp only [Tr.val]
  exact .bF (by omega) (.bF (by omega) (.mk ⟨_,rfl,Int.tmod_nonneg _ hx,Int.tmod_lt_of_pos _ (by omega)⟩))
 | succ m ih =>
  intro k x hm hk hx hx2
  refine exW (fun o=>p77_2) ?_
  simp only [Tr.val]
  have h1 : 0 ≤ Int.tdiv x b := Int.tdiv_nonneg hx (by omega)
  have h2 : Int.tdiv x b ≤ x := Int.tdiv_le_self _ hx
  refine .bT (by omega) (.bF (by omega) ?_)
  rw [wrap64 (x := k + 1) (by omega) (by omega),wrap64 (by omega) (by omega)]
  exact ih (k + 1) _ (by omega) (by omega) h1 (by omega)
include hC
theorem w77 (n b i : Int) (hb : 1 ≤ b) (hb2 : b ≤ 1000) (hi : i ≤ 1000) : Was (calL C 77 [.int .i64 n,.int .i64 b,.int .i64 i] Hp.none 0) (QI b):=by
 refine exW (fun o=>p77_c hC) (exW (fun o=>p77_0) ?_)
 simp only [Tr.val,pureL,AV.pure,br_true]
 refine .call (w22 hC n _ (by decide) (by decide)) ?_
 rintro o ⟨x,e,h1,h2⟩
 simp only [e,AV.pure,br_true]
 refine exW (fun o=>p77_1) ?_
 exact digit_loop b i hb hb2 hi _ 0 x rfl (by decide) h1 (by omega)
theorem w67 : ∀ (k : Nat) (x : Int),0 ≤ x→x < 18446744073709551616→x < 10 ^ (k + 1)→k ≤ 30→Was (calL C 67 [.int .u64 x] Hp.none 0) (QS (k + 1))
 | 0,x,h0,h1,h2,hk=>by
  have h2 : x < 10 := by simpa using h2
  refine exW (fun o=>p67_c hC) (exW (fun o=>p67_0) ?_)
  simp only [Tr.val,bytesOf_one,Option.bind_some]
  exact .bT (by omega) (.mk ⟨_,rfl,by simp⟩)
 | k + 1,x,h0,h1,h2,hk=>by
  refine exW (fun o=>p67_c hC) (exW (fun o=>p67_0) ?_)
  simp only [Tr.val,bytesOf_one,Option.bind_some,pureL,AV.pure,br_true]
  refine .dec (fun h=>.mk ⟨_,rfl,by simp⟩) fun h=>?_
  have h3 : 0 ≤ Int.tdiv x 10 := Int.tdiv_nonneg h0 (by omega)
  have h4 : Int.tdiv x 10 ≤ x := Int.tdiv_le_self _ h0
  have h5 : Int.tdiv x 10 < 10 ^ (k + 1):=by
   rw [Int.tdiv_eq_ediv_of_nonneg h0]
   have : (10 : Int) ^ (k + 1 + 1) = 10 ^ (k + 1) * 10 := Int.pow_succ _ _
   omega
  rw [wrapu64 h3 (by omega)]
  refine .call (w67 k _ h3 (by omega) h5 (by omega)) ?_
  rintro o ⟨s,e,hs⟩
  simp only [e,AV.pure,br_true]
  refine exW (fun o=>p67_1) ?_
  simp only [Tr.val,bytesOf_one,Option.bind_some]
  exact .bL (by simp; omega) (.mk ⟨_,rfl,by simp; omega⟩)
theorem w29 (x : Int) : Was (calL C 29 [.int .i64 x] Hp.none 0) (QS 21):=by
 refine exW (fun o=>p29_c hC) (exW (fun o=>p29_0) ?_)
 simp only [Tr.val,pureL,AV.pure,br_true]
 have hr : ∀ y : Int,Was (calL C 67 [.int .u64 (IntKind.wrap .u64 y)] Hp.none 0) (QS 20) := fun y=>by
  obtain ⟨h1,h2⟩ := wrapu64_range y
  have h3 : (10 : Int) ^ (19 + 1) = 100000000000000000000 := rfl
  exact w67 hC 19 _ h1 h2 (by rw [h3]; omega) (by decide)
 refine .dec (fun h=>?_) fun h=>?_
 ·refine .call (hr _) ?_
  rintro o ⟨s,e,hs⟩
  simp only [e,AV.pure,br_true]
  refine exW (fun o=>p29_1) ?_
  exact .bL (by omega) (.mk ⟨_,rfl,by simp; omega⟩)
 ·refine .call (hr _) ?_
  rintro o ⟨s,e,hs⟩
  simp only [e,AV.pure,br_true]
  refine exW (fun o=>p29_2) ?_
  exact .mk ⟨_,rfl,by omega⟩
omit hC
theorem quote_loop (s : List UInt8) (hs : s.length ≤ 100000) : ∀ (r : List UInt8) (i : Nat) (acc : List UInt8) (tg : Bool),s.drop i = r→i ≤ s.length→acc.length ≤ 1 + 2 * i →
  Was (RL C 78 [0,5,0,5,0,0,5,2,3] (mkS 35 [(0,.val (.str s) .no),(3,.val (.vs 1 tg (acc.map byteAV)) .own),(4,.val (.int .i64 (i : Int)) .no)] [] Hp.none 0)) (QS (2 + 2 * s.length)):=by
 have one : ∀ x : UInt8,[AV.int .u8 ((x.toNat : Nat) : Int)] = [x].map byteAV := fun _=>rfl
 have e34 : [AV.int .u8 34] = [(34 : UInt8)].map byteAV := rfl
 have e92 : [AV.int .u8 92] = [(92 : UInt8)].map byteAV := rfl
 intro r
 induction r with
 | nil =>
  intro i acc tg hi hil ha
  have := drop_nil_len _ _ hil hi
  refine exW (fun o=>p78_2) ?_
  simp only [Tr.val,List.length_map,Int.toNat_natCast]
  refine .bF (by omega) (.brn (maxBytes_le (by omega)) (.brn (maxBytes_le (by omega)) ?_))
  rw [e34,← List.map_append,bytesOf_map]
  exact .mk ⟨_,rfl,by simp; omega⟩
 | cons c r ih =>
  intro i acc tg hi hil ha
  obtain ⟨h1,h2,h3⟩ := getq_drop _ _ hi
  refine exW (fun o=>p78_2) ?_
  simp only [Tr.val,List.length_map,Int.toNat_natCast,h1,Option.bind_some]
  rw [wrap64 (by omega) (by omega),show ((i : Int) + 1) = ((i + 1 : Nat) : Int) by omega]
  simp only [e92,one,← List.map_append,List.length_map]
  have two : Was (RL C 78 [0,5,0,5,0,0,5,2,3] (mkS 35 [(0,.val (.str s) .no),(3,.val (.vs 1 false (((acc ++ [92]) ++ [c]).map byteAV)) .own),(4,.val (.int .i64 ((i + 1 : Nat) : Int)) .no)] [] Hp.none 0)) (QS (2 + 2 * s.length)) := ih (i + 1) _ false h2 (by omega) (by simp; omega)
  have onee : Was (RL C 78 [0,5,0,5,0,0,5,2,3] (mkS 35 [(0,.val (.str s) .no),(3,.val (.vs 1 false ((acc ++ [c]).map byteAV)) .own),(4,.val (.int .i64 ((i + 1 : Nat) : Int)) .no)] [] Hp.none 0)) (QS (2 + 2 * s.length)) := ih (i + 1) _ false h2 (by omega) (by simp; omega)
  refine .bT (by omega) (.bT (by omega) (.dec (fun h=>?_) fun h=>?_))
  ·refine .brn (maxBytes_le (by omega)) (.brn (maxBytes_le (by omega)) (.bT (by omega) (.brn (maxBytes_le (by simp; omega)) (.brn (maxBytes_le (by simp; omega)) ?_))))
   exact two
  ·refine .bT (by omega) (.dec (fun h=>?_) fun h=>?_)
   ·refine .brn (maxBytes_le (by omega)) (.brn (maxBytes_le (by omega)) (.bT (by omega) (.brn (maxBytes_le (by simp; omega)) (.brn (maxBytes_le (by simp; omega)) ?_))))
    exact two
   ·refine .bT (by omega) (.brn (maxBytes_le (by omega)) (.brn (maxBytes_le (by omega)) ?_))
    exact onee
include hC
theorem w78 (s : List UInt8) (hs : s.length ≤ 100000) : Was (calL C 78 [.str s] Hp.none 0) (QS (2 + 2 * s.length)):=by
 have one : ∀ x : UInt8,[AV.int .u8 ((x.toNat : Nat) : Int)] = [x].map byteAV := fun _=>rfl
 have e34 : [AV.int .u8 34] = [(34 : UInt8)].map byteAV := rfl
 have e92 : [AV.int .u8 92] = [(92 : UInt8)].map byteAV := rfl
 refine exW (fun o=>p78_c hC) (exW (fun o=>p78_0) ?_)
 simp only [Tr.val]
 refine exW (fun o=>p78_1) ?_
 cases hr : s with
 | nil =>
  refine .bF (by simp) (.brn rfl (.brn rfl (.brn rfl ?_)))
  exact .mk ⟨_,rfl,by simp⟩
 | cons c r =>
  rw [← hr]
  have hd : s.drop 0 = c :: r := by rw [hr]; rfl
  obtain ⟨h1,h2,h3⟩ := getq_drop _ _ hd
  simp only [Tr.val,List.length_cons,List.length_nil]
  rw [show s[Int.toNat 0]? = some c from h1]
  simp only [Option.bind_some]
  rw [show IntKind.wrap IntKind.i64 (0 + 1) = ((0 + 1 : Nat) : Int) from rfl]
  have two : Was (RL C 78 [0,5,0,5,0,0,5,2,3] (mkS 35 [(0,.val (.str s) .no),(3,.val (.vs 1 false (([34,92,c] : List UInt8).map byteAV)) .own),(4,.val (.int .i64 ((0 + 1 : Nat) : Int)) .no)] [] Hp.none 0)) (QS (2 + 2 * s.length)) := quote_loop s hs r (0 + 1) _ false h2 (by omega) (by simp)
  have onee : Was (RL C 78 [0,5,0,5,0,0,5,2,3] (mkS 35 [(0,.val (.str s) .no),(3,.val (.vs 1 false (([34,c] : List UInt8).map byteAV)) .own),(4,.val (.int .i64 ((0 + 1 : Nat) : Int)) .no)] [] Hp.none 0)) (QS (2 + 2 * s.length)) := quote_loop s hs r (0 + 1) _ false h2 (by omega) (by simp)
  refine .bT (by omega) (.bT (by omega) (.dec (fun h=>?_) fun h=>?_))
  ·exact .brn rfl (.brn rfl (.brn rfl (.bT (by omega) (.brn rfl (.brn rfl two)))))
  ·refine .bT (by omega) (.dec (fun h=>?_) fun h=>?_)
   ·exact .brn rfl (.brn rfl (.brn rfl (.bT (by omega) (.brn rfl (.brn rfl two)))))
   ·exact .bT (by omega) (.brn rfl (.brn rfl (.brn rfl onee)))
end Go.Proofs.YtfdklpkfpmkgeaaGreatDoor
end
section
namespace Go.Proofs.YtfdklpkfpmkgeaaGreatDoor
open Go Go.Vai
attribute [local irreducible] goTo bodyOf mkS
variable {C : Nat → Oracle} {o : Out}
abbrev cG0 : AV := (.vs 1 true [(.str [32,43,32]),(.str [32,45,32]),(.str [42]),(.str [32,61,61,32]),(.str [32,60,32]),(.str [62,61]),(.str [32,38,38,32]),(.str [124,124]),(.str [32,104,97,115,32]),(.str [32,33,61,32]),(.str [45])])
abbrev cG1 : AV := (.vs 1 true [(.str [45]),(.str [33]),(.str [45,32]),(.str [33,32])])
abbrev cG2 : AV := (.vs 1 true [(.str []),(.str [97,110,110]),(.str [97,32,98]),(.str [113,34,92])])
abbrev cG3 : AV := (.vs 1 true [(.str [119,114,105,116,101,32]),(.str [97,100,100,32]),(.str [114,97,105,115,101,32]),(.str [105,110,115,101,114,116,32]),(.str [97,100,100,32]),(.str [119,114,105,116,101,32])])
abbrev cG4 : AV := (.vs 1 true [(.str [116,114,117,101]),(.str [102,97,108,115,101])])
abbrev qG0 : List Nat := [0,5,0,5,0,0,5,2,3]
abbrev qG1 : List Nat := [0,5,0,5,0,0,5,7,5,0,5,0,0,5,2,0,5,7,0,5,6,0]
abbrev qG2 : List Nat := [0,5,0,5,0,0,5,2,3,0,0]
abbrev qG3 : List Nat := [0,5,0,5,0,0,5,2,3,0,0,5,6,5,0,2,0,5,0,5,0,0,5,2,0,5,6]
abbrev qG4 : List Nat := [0,5,0,5,0,0,5,7,5,0,5,0,0,5,2,0,5,7,0,5,7,0,5,6,0]
abbrev qG5 : List Nat := [0,5,0,5,0,0,5,7,5,0,5,0,0,5,2,0,5,7,0,5,7,0,5,7,0,5,7,0,0,5,6,5,6,0,5,0]
abbrev qG6 : List Nat := [0,5,0,5,0,0,5,7,5,0,5,0,0,5,2,0,5,7,0,5,7,0,5,7,0,5,7,0,0,5,7,5,6,0,5,0]
abbrev qG7 : List Nat := [0,5,0,5,0,0,5,7,5,0,5,0,0,5,2,0,5,7,0,5,7,0,5,7,0,5,7,0,0,5,7,5,7,0,5,7,0,0,5,6,5,6,0,5,0,5,0]
abbrev qG8 : List Nat := [0,5,0,5,0,0,5,7,5,0,5,0,0,5,2,0,5,7,0,5,7,0,5,7,0,5,7,0,0,5,7,5,7,0,5,7,0,0,5,7,0,5,6,5,6,0,5,0,5,0]
abbrev qG9 : List Nat := [0,5,0,5,0,0,5,7,5,0,5,0,0,5,2,0,5,7,0,5,7,0,5,7,0,5,7,0,0,5,7,5,7,0,5,7,0,0,5,7,0,5,7,0,5,6,5,6,0,5,0,5,0]
abbrev qG10 : List Nat := [0,5,0,5,0,0,5,7,5,0,5,0,0,5,2,0,5,7,0,5,7,0,5,7,0,5,7,0,0,5,7,5,7,0,5,7,0,0,5,7,0,5,7,0,5,7,5,6,0,5,0,5,0]
abbrev qG11 : List Nat := [0,5,0,5,0,0,5,2,3,0,0,5,6,5,0,2,0,5,0,5,0,0,5,2,0,5,7,0,5,6]
abbrev qG12 : List Nat := [0,5,0,5,0,0,5,2,3,0,0,5,6,5,0,2,0,5,0,5,0,0]
abbrev qG13 : List Nat := [0,5,0,5,0,0,5,2,3,0,0,5,6,5,0,2,0,5,0,5,0,0,5,2,0,5,7,0,5,7,0]
abbrev qG14 : List Nat := [0,5,0,5,0,0,5,2,3,0,0,5,6,5,0,2,0,5,0,5,0,0,5,2,0,5,7,0,5,7,0,5,0,5,0,5,0,5,6,0]
abbrev qG15 : List Nat := [0,5,0,5,0,0,5,7,5,0,5,0,0,5,2,0,5,7,0,5,7,0,5,7,0,5,6,0]
abbrev qG16 : List Nat := [0,5,0,5,0,0,5,7,5,0,5,0,0,5,2,0,5,7,0,5,7,0,5,7,0,5,7,0,0,5,6,5,6,0]
abbrev qG17 : List Nat := [0,5,0,5,0,0,5,7,5,0,5,0,0,5,2,0,5,7,0,5,7,0,5,7,0,5,7,0,0,5,7,5,6,0]
abbrev qG18 : List Nat := [0,5,0,5,0,0,5,7,5,0,5,0,0,5,2,0,5,7,0,5,7,0,5,7,0,5,7,0,0,5,7,5,7,0,5,6,0]
abbrev qG19 : List Nat := [0,5,0,5,0,0,5,7,5,0,5,0,0,5,2,0,5,7,0,5,7,0,5,7,0,5,7,0,0,5,7,5,7,0,5,7,0,0,5,6,5,6,0]
abbrev qG20 : List Nat := [0,5,0,5,0,0,5,7,5,0,5,0,0,5,2,0,5,7,0,5,7,0,5,7,0,5,7,0,0,5,7,5,7,0,5,7,0,0,5,7,0,5,6,5,6,0]
abbrev qG21 : List Nat := [0,5,0,5,0,0,5,7,5,0,5,0,0,5,2,0,5,7,0,5,7,0,5,7,0,5,7,0,0,5,7,5,7,0,5,7,0,0,5,7,0,5,7,0,5,6,5,6,0]
abbrev qG22 : List Nat := [0,5,0,5,0,0,5,7,5,0,5,0,0,5,2,0,5,7,0,5,7,0,5,7,0,5,7,0,0,5,7,5,7,0,5,7,0,0,5,7,0,5,7,0,5,7,5,6,0]
abbrev qG23 : List Nat := [0,5,0,5,0,0,5,7,5,0,5,0,0,5,2,0,5,7,0,5,7,0,5,7,0,5,7,0,0,5,7,5,7,0,5,7,0,0,5,7,0,5,7,0,5,7,5,7,5,5,0]
abbrev qG24 : List Nat := [0,5,0,5,0,0,5,7,5,0,5,0,0,5,2,0,5,7,0,5,7,0,5,7,0,5,7,0,0,5,7,5,7,0,5,7,0,0,5,6,5,6,0,5,0]
abbrev qG25 : List Nat := [0,5,0,5,0,0,5,7,5,0,5,0,0,5,2,0,5,7,0,5,7,0,5,7,0,5,7,0,0,5,7,5,7,0,5,7,0,0,5,7,0,5,6,5,6,0,5,0]
abbrev qG26 : List Nat := [0,5,0,5,0,0,5,7,5,0,5,0,0,5,2,0,5,7,0,5,7,0,5,7,0,5,7,0,0,5,7,5,7,0,5,7,0,0,5,7,0,5,7,0,5,6,5,6,0,5,0]
abbrev qG27 : List Nat := [0,5,0,5,0,0,5,7,5,0,5,0,0,5,2,0,5,7,0,5,7,0,5,7,0,5,7,0,0,5,7,5,7,0,5,7,0,0,5,7,0,5,7,0,5,7,5,6,0,5,0]
theorem p38_c (hC : Ext C) {tg_1 : Bool} {l_2 : List AV} {x_3 x_4 : Int} (ho : RL C 38 [] (mk0 107 [vv 0 (.vs 1 tg_1 l_2),vi 1 x_3,vi 2 x_4]) = some o) : calL C 38 [(.vs 1 tg_1 l_2),(.int .i64 x_3),(.int .i64 x_4)] Hp.none 0 = some o := hC.call rfl (fun _ _ => by kernel_rfl) ho
theorem p38_0 {tg_1 : Bool} {l_2 : List AV} {x_3 x_4 : Int} (ho : Tr.val C 38
 (.run 0 qG0 (mk0 107 [vv 0 (.vs 1 tg_1 l_2),vi 1 x_3,vi 2 x_4,vt 8 [],vi 9 0])) = some o) : RL C 38 [] (mk0 107 [vv 0 (.vs 1 tg_1 l_2),vi 1 x_3,vi 2 x_4]) = some o := stR C 9 (fun _ _ => by kernel_rfl) ho
theorem p38_1 {tg_5 : Bool} {l_6 : List AV} {x_7 x_8 x_10 : Int} {s_9 : List UInt8} (ho : Tr.val C 38
 (cl0 34 [(.vs 1 tg_5 l_6),(.int .i64 x_7)] fun r1 => .br (AV.pure r1.v)
 (.mid 0 qG2 4 (mk0 107 [vv 0 (.vs 1 tg_5 l_6),vi 1 x_7,vi 2 x_8,vt 8 s_9,vi 9 x_10,vi 18 x_10,vv 19 (.vs 1 tg_5 l_6),vi 20 x_7,vv 21 r1.v])) .none) = some o) : RL C 38 qG0 (mk0 107 [vv 0 (.vs 1 tg_5 l_6),vi 1 x_7,vi 2 x_8,vt 8 s_9,vi 9 x_10]) = some o := stR C 3 (fun _ _ => by kernel_rfl) ho
theorem p38_2 {tg_5 : Bool} {l_6 : List AV} {x_7 x_8 x_10 x_11 : Int} {s_9 : List UInt8} (ho : Tr.val C 38
 (cl0 22 [(.int .i64 (IntKind.wrap .i64 (Int.tdiv x_11 32))),(.int .i64 3)] fun r2 => .br (AV.pure r2.v)
 (.mid 0 qG2 6 (mk0 107 [vv 0 (.vs 1 tg_5 l_6),vi 1 x_7,vi 2 x_8,vt 8 s_9,vi 9 x_10,vi 18 x_10,vv 19 (.vs 1 tg_5 l_6),vi 20 x_7,vi 21 x_11,vi 22 (IntKind.wrap .i64 (Int.tdiv x_11 32)),vv 23 r2.v])) .none) = some o) : ML C 38 qG2 4 (mk0 107 [vv 0 (.vs 1 tg_5 l_6),vi 1 x_7,vi 2 x_8,vt 8 s_9,vi 9 x_10,vi 18 x_10,vv 19 (.vs 1 tg_5 l_6),vi 20 x_7,vi 21 x_11]) = some o := stM C 0 (fun _ _ => by kernel_rfl) ho
theorem p38_3 {tg_5 : Bool} {l_6 : List AV} {x_7 x_8 x_10 x_11 x_12 x_13 : Int} {s_9 : List UInt8} (ho : Tr.val C 38
 (.br (decide (x_10 ≤ x_12))
 (cl0 34 [(.vs 1 tg_5 l_6),(.int .i64 (IntKind.wrap .i64 (x_7 + 1)))] fun r3 => .br (AV.pure r3.v)
 (.mid 0 [0,5,0,5,0,0,5,2,3,0,0,5,6,5,0,2,0] 4 (mk0 107 [vv 0 (.vs 1 tg_5 l_6),vi 1 x_7,vi 2 x_8,vt 8 s_9,vi 9 x_10,vb 24 true,vv 27 (.vs 1 tg_5 l_6),vi 28 x_7,vi 29 (IntKind.wrap .i64 (x_7 + 1)),vv 30 r3.v])) .none)
 (.ret ⟨(.tuple [(.str s_9),(.int .i64 x_7)]),Hp.none,0⟩)) = some o) : ML C 38 qG2 6 (mk0 107 [vv 0 (.vs 1 tg_5 l_6),vi 1 x_7,vi 2 x_8,vt 8 s_9,vi 9 x_10,vi 18 x_10,vv 19 (.vs 1 tg_5 l_6),vi 20 x_7,vi 21 x_11,vi 22 x_13,vi 23 x_12]) = some o := stM C 6 (fun _ _ => by kernel_rfl) ho
theorem p38_4 {tg_5 : Bool} {l_6 : List AV} {x_7 x_8 x_10 x_14 x_15 : Int} {s_9 : List UInt8} (ho : Tr.val C 38
 (cl0 40 [(.vs 1 tg_5 l_6),(.int .i64 (IntKind.wrap .i64 (x_7 + 2))),(.int .i64 3)] fun r4 => .br (AV.pure r4.v)
 (.mid 0 [0,5,0,5,0,0,5,2,3,0,0,5,6,5,0,2,0,5,0] 4 (mk0 107 [vv 0 (.vs 1 tg_5 l_6),vi 1 x_7,vi 2 x_8,vt 8 s_9,vi 9 x_10,vi 10 x_14,vv 32 (.vs 1 tg_5 l_6),vi 33 x_7,vi 34 (IntKind.wrap .i64 (x_7 + 2)),vv 35 r4.v])) .none) = some o) : ML C 38 [0,5,0,5,0,0,5,2,3,0,0,5,6,5,0,2,0] 4 (mk0 107 [vv 0 (.vs 1 tg_5 l_6),vi 1 x_7,vi 2 x_8,vt 8 s_9,vi 9 x_10,vb 24 true,vv 27 (.vs 1 tg_5 l_6),vi 28 x_7,vi 29 x_15,vi 30 x_14]) = some o := stM C 2 (fun _ _ => by kernel_rfl) ho
theorem p38_5 {tg_5 : Bool} {l_6 : List AV} {x_7 x_8 x_10 x_14 x_17 x_18 : Int} {s_9 s_16 : List UInt8} (ho : Tr.val C 38
 (cl0 22 [(.int .i64 x_14),(.int .i64 9)] fun r5 => .br (AV.pure r5.v)
 (.mid 0 qG12 2 (mk0 107 [vv 0 (.vs 1 tg_5 l_6),vi 2 x_8,vt 8 s_9,vi 9 x_10,vi 10 x_14,vt 11 s_16,vi 12 x_17,vi 38 x_14,vv 39 r5.v])) .none) = some o) : ML C 38 [0,5,0,5,0,0,5,2,3,0,0,5,6,5,0,2,0,5,0] 4 (mk0 107 [vv 0 (.vs 1 tg_5 l_6),vi 1 x_7,vi 2 x_8,vt 8 s_9,vi 9 x_10,vi 10 x_14,vv 32 (.vs 1 tg_5 l_6),vi 33 x_7,vi 34 x_18,vv 35 (.tuple [(.str s_16),(i6 x_17)])]) = some o := stM C 3 (fun _ _ => by kernel_rfl) ho
theorem p38_6 {tg_5 : Bool} {l_6 : List AV} {x_8 x_10 x_14 x_17 x_19 : Int} {s_9 s_16 : List UInt8} (ho : Tr.val C 38
 (.br (decide (x_19 < 6))
 (.br (decide ((0 : Int) ≤ x_19))
 (.br (decide (x_19 < 6))
 (.bind (nth [(.str [119,114,105,116,101,32]),(.str [97,100,100,32]),(.str [114,97,105,115,101,32]),(.str [105,110,115,101,114,116,32]),(.str [97,100,100,32]),(.str [119,114,105,116,101,32])] (Int.toNat x_19)) fun c6 =>
 (.mid 4 qG3 4 (mkS 107 [vv 0 (.vs 1 tg_5 l_6),vi 2 x_8,vt 8 s_9,vi 9 x_10,vi 10 x_14,vt 11 s_16,vi 12 x_17,vi 13 x_19,vb 73 true,vt 76 s_9,vv 77 cG3,vi 78 x_19,vv 79 (.cptr (AV.cells c6))] [] Hp.none 0)))
 .none)
 .none)
 (.br (decide (x_19 = 6))
 (.br (Nat.ble ((List.length s_9) + 5) 4611686018427387904)
 (cl0 37 [(.int .i64 (IntKind.wrap .i64 (Int.tdiv x_14 9)))] fun r7 => .br (AV.pure r7.v)
 (.mid 1 qG11 5 (mk0 107 [vv 0 (.vs 1 tg_5 l_6),vi 2 x_8,vt 8 s_9,vi 9 x_10,vi 10 x_14,vt 11 s_16,vi 12 x_17,vi 13 x_19,vb 90 true,vt 97 s_9,vt 98 (s_9 ++ [109,97,114,107,32]),vi 99 x_14,vi 100 (IntKind.wrap .i64 (Int.tdiv x_14 9)),vv 101 r7.v])) .none)
 .none)
 (.br (decide (2 < x_8))
 (.br (Nat.ble ((List.length s_9) + 5) 4611686018427387904)
 (cl0 37 [(.int .i64 (IntKind.wrap .i64 (Int.tdiv x_14 9)))] fun r8 => .br (AV.pure r8.v)
 (.mid 1 qG11 5 (mk0 107 [vv 0 (.vs 1 tg_5 l_6),vi 2 x_8,vt 8 s_9,vi 9 x_10,vi 10 x_14,vt 11 s_16,vi 12 x_17,vi 13 x_19,vb 90 true,vt 97 s_9,vt 98 (s_9 ++ [109,97,114,107,32]),vi 99 x_14,vi 100 (IntKind.wrap .i64 (Int.tdiv x_14 9)),vv 101 r8.v])) .none)
 .none)
 (cl0 38 [(.vs 1 tg_5 l_6),(.int .i64 x_17),(.int .i64 (IntKind.wrap .i64 (x_8 + 1)))] fun r9 => .br (AV.pure r9.v)
 (.mid 0 qG13 5 (mk0 107 [vv 0 (.vs 1 tg_5 l_6),vi 2 x_8,vt 8 s_9,vi 9 x_10,vi 10 x_14,vt 11 s_16,vi 12 x_17,vi 13 x_19,vv 41 (.vs 1 tg_5 l_6),vi 42 x_17,vi 43 x_8,vi 44 (IntKind.wrap .i64 (x_8 + 1)),vv 45 r9.v,vb 90 false])) .none)))) = some o) : ML C 38 qG12 2 (mk0 107 [vv 0 (.vs 1 tg_5 l_6),vi 2 x_8,vt 8 s_9,vi 9 x_10,vi 10 x_14,vt 11 s_16,vi 12 x_17,vi 38 x_14,vi 39 x_19]) = some o := stM C 9 (fun _ _ => by kernel_rfl) ho
theorem p38_7 {tg_5 : Bool} {l_6 : List AV} {x_8 x_10 x_14 x_17 x_19 : Int} {s_9 s_16 s_20 : List UInt8} (ho : Tr.val C 38
 (.br (Nat.ble ((List.length s_9) + (List.length s_20)) 4611686018427387904)
 (cl0 37 [(.int .i64 (IntKind.wrap .i64 (Int.tdiv x_14 9)))] fun r10 => .br (AV.pure r10.v)
 (.br (AV.pure r10.v)
 (.mid 0 qG3 9 (mkS 107 [vv 0 (.vs 1 tg_5 l_6),vi 2 x_8,vt 8 s_9,vi 9 x_10,vi 10 x_14,vt 11 s_16,vi 12 x_17,vi 13 x_19,vb 73 true,vt 76 s_9,vv 77 cG3,vi 78 x_19,vv 79 (.cptr [(.str s_20)]),vt 80 s_20,vt 81 (s_9 ++ s_20),vi 82 x_14,vi 83 (IntKind.wrap .i64 (Int.tdiv x_14 9)),vv 84 r10.v] [] Hp.none 0))
 .none) .none)
 .none) = some o) : ML C 38 qG3 4 (mkS 107 [vv 0 (.vs 1 tg_5 l_6),vi 2 x_8,vt 8 s_9,vi 9 x_10,vi 10 x_14,vt 11 s_16,vi 12 x_17,vi 13 x_19,vb 73 true,vt 76 s_9,vv 77 cG3,vi 78 x_19,vv 79 (.cptr [(.str s_20)])] [] Hp.none 0) = some o := stM C 0 (fun _ _ => by kernel_rfl) ho
theorem p38_8 {tg_5 : Bool} {l_6 : List AV} {x_8 x_10 x_14 x_17 x_19 x_23 : Int} {s_9 s_16 s_21 s_22 : List UInt8} (ho : Tr.val C 38
 (.br (Nat.ble ((List.length s_22) + (List.length s_21)) 4611686018427387904)
 (.br (Nat.ble ((List.length (s_22 ++ s_21)) + 1) 4611686018427387904)
 (.run 0 qG0 (mk0 107 [vv 0 (.vs 1 tg_5 l_6),vi 1 x_17,vi 2 x_8,vt 8 ((s_22 ++ s_21) ++ [59]),vi 9 (IntKind.wrap .i64 (x_10 + 1))]))
 .none)
 .none) = some o) : ML C 38 qG11 5 (mk0 107 [vv 0 (.vs 1 tg_5 l_6),vi 2 x_8,vt 8 s_9,vi 9 x_10,vi 10 x_14,vt 11 s_16,vi 12 x_17,vi 13 x_19,vb 90 true,vt 97 s_9,vt 98 s_22,vi 99 x_14,vi 100 x_23,vt 101 s_21]) = some o := stM C 5 (fun _ _ => by kernel_rfl) ho
theorem p38_9 {tg_5 : Bool} {l_6 : List AV} {x_8 x_10 x_14 x_17 x_19 x_28 x_29 : Int} {s_9 s_16 s_27 : List UInt8} (ho : Tr.val C 38
 (.br (Nat.ble ((List.length s_9) + 3) 4611686018427387904)
 (.br (Nat.ble ((List.length (s_9 ++ [105,102,32])) + (List.length s_16)) 4611686018427387904)
 (.br (Nat.ble ((List.length ((s_9 ++ [105,102,32]) ++ s_16)) + 2) 4611686018427387904)
 (.br (Nat.ble ((List.length (((s_9 ++ [105,102,32]) ++ s_16) ++ [32,123])) + (List.length s_27)) 4611686018427387904)
 (.br (Nat.ble ((List.length ((((s_9 ++ [105,102,32]) ++ s_16) ++ [32,123]) ++ s_27)) + 1) 4611686018427387904)
 (.br (decide (x_19 = 8))
 (cl0 38 [(.vs 1 tg_5 l_6),(.int .i64 x_28),(.int .i64 (IntKind.wrap .i64 (x_8 + 1)))] fun r11 => .br (AV.pure r11.v)
 (.mid 4 qG14 5 (mk0 107 [vv 0 (.vs 1 tg_5 l_6),vi 2 x_8,vt 8 (((((s_9 ++ [105,102,32]) ++ s_16) ++ [32,123]) ++ s_27) ++ [125]),vi 9 x_10,vi 12 x_28,vb 58 true,vv 60 (.vs 1 tg_5 l_6),vi 61 x_28,vi 62 x_8,vi 63 (IntKind.wrap .i64 (x_8 + 1)),vv 64 r11.v])) .none)
 (.run 0 qG0 (mk0 107 [vv 0 (.vs 1 tg_5 l_6),vi 1 x_28,vi 2 x_8,vt 8 (((((s_9 ++ [105,102,32]) ++ s_16) ++ [32,123]) ++ s_27) ++ [125]),vi 9 (IntKind.wrap .i64 (x_10 + 1))])))
 .none)
 .none)
 .none)
 .none)
 .none) = some o) : ML C 38 qG13 5 (mk0 107 [vv 0 (.vs 1 tg_5 l_6),vi 2 x_8,vt 8 s_9,vi 9 x_10,vi 10 x_14,vt 11 s_16,vi 12 x_17,vi 13 x_19,vv 41 (.vs 1 tg_5 l_6),vi 42 x_17,vi 43 x_8,vi 44 x_29,vv 45 (.tuple [(.str s_27),(i6 x_28)]),vb 90 false]) = some o := stM C 13 (fun _ _ => by kernel_rfl) ho
theorem p38_10 {tg_5 : Bool} {l_6 : List AV} {x_8 x_10 x_14 x_17 x_19 x_32 : Int} {s_9 s_16 s_20 s_30 s_31 : List UInt8} (ho : Tr.val C 38
 (.br (Nat.ble ((List.length s_31) + (List.length s_30)) 4611686018427387904)
 (.br (Nat.ble ((List.length (s_31 ++ s_30)) + 3) 4611686018427387904)
 (.br (Nat.ble ((List.length ((s_31 ++ s_30) ++ [32,61,32])) + (List.length s_16)) 4611686018427387904)
 (.br (Nat.ble ((List.length (((s_31 ++ s_30) ++ [32,61,32]) ++ s_16)) + 2) 4611686018427387904)
 (.run 0 qG0 (mk0 107 [vv 0 (.vs 1 tg_5 l_6),vi 1 x_17,vi 2 x_8,vt 8 ((((s_31 ++ s_30) ++ [32,61,32]) ++ s_16) ++ [59,32]),vi 9 (IntKind.wrap .i64 (x_10 + 1))]))
 .none)
 .none)
 .none)
 .none) = some o) : ML C 38 qG3 9 (mkS 107 [vv 0 (.vs 1 tg_5 l_6),vi 2 x_8,vt 8 s_9,vi 9 x_10,vi 10 x_14,vt 11 s_16,vi 12 x_17,vi 13 x_19,vb 73 true,vt 76 s_9,vv 77 cG3,vi 78 x_19,vv 79 (.cptr [(.str s_20)]),vt 80 s_20,vt 81 s_31,vi 82 x_14,vi 83 x_32,vt 84 s_30] [] Hp.none 0) = some o := stM C 5 (fun _ _ => by kernel_rfl) ho
theorem p38_11 {tg_5 : Bool} {l_6 : List AV} {x_8 x_10 x_28 x_34 x_36 : Int} {s_33 s_35 : List UInt8} (ho : Tr.val C 38
 (.br (Nat.ble ((List.length s_35) + 8) 4611686018427387904)
 (.br (Nat.ble ((List.length (s_35 ++ [32,101,108,115,101,32,123,32])) + (List.length s_33)) 4611686018427387904)
 (.br (Nat.ble ((List.length ((s_35 ++ [32,101,108,115,101,32,123,32]) ++ s_33)) + 3) 4611686018427387904)
 (.run 0 qG0 (mk0 107 [vv 0 (.vs 1 tg_5 l_6),vi 1 x_34,vi 2 x_8,vt 8 (((s_35 ++ [32,101,108,115,101,32,123,32]) ++ s_33) ++ [32,125,10]),vi 9 (IntKind.wrap .i64 (x_10 + 1))]))
 .none)
 .none)
 .none) = some o) : ML C 38 qG14 5 (mk0 107 [vv 0 (.vs 1 tg_5 l_6),vi 2 x_8,vt 8 s_35,vi 9 x_10,vi 12 x_28,vb 58 true,vv 60 (.vs 1 tg_5 l_6),vi 61 x_28,vi 62 x_8,vi 63 x_36,vv 64 (.tuple [(.str s_33),(i6 x_34)])]) = some o := stM C 8 (fun _ _ => by kernel_rfl) ho
theorem p40_c (hC : Ext C) {tg_37 : Bool} {l_38 : List AV} {x_39 x_40 : Int} (ho : RL C 40 [] (mk0 145 [vv 0 (.vs 1 tg_37 l_38),vi 1 x_39,vi 2 x_40]) = some o) : calL C 40 [(.vs 1 tg_37 l_38),(.int .i64 x_39),(.int .i64 x_40)] Hp.none 0 = some o := hC.call rfl (fun _ _ => by kernel_rfl) ho
theorem p40_0 {tg_37 : Bool} {l_38 : List AV} {x_39 x_40 : Int} (ho : Tr.val C 40
 (cl0 34 [(.vs 1 tg_37 l_38),(.int .i64 x_39)] fun r1 => .br (AV.pure r1.v)
 (.mid 0 [0,5,0] 3 (mk0 145 [vv 0 (.vs 1 tg_37 l_38),vi 1 x_39,vi 2 x_40,vv 19 (.vs 1 tg_37 l_38),vi 20 x_39,vv 21 r1.v])) .none) = some o) : RL C 40 [] (mk0 145 [vv 0 (.vs 1 tg_37 l_38),vi 1 x_39,vi 2 x_40]) = some o := stR C 4 (fun _ _ => by kernel_rfl) ho
theorem p40_1 {tg_37 : Bool} {l_38 : List AV} {x_39 x_40 x_41 : Int} (ho : Tr.val C 40
 (.br (decide (5 < x_40))
 (cl0 37 [(.int .i64 x_41)] fun r2 => .br (AV.pure r2.v)
 (.mid 1 [0,5,0,5,0,0,5,6,0] 2 (mk0 145 [vv 0 (.vs 1 tg_37 l_38),vi 1 x_39,vi 2 x_40,vi 8 x_41,vb 30 true,vi 31 x_41,vv 32 r2.v])) .none)
 (.br (decide ((IntKind.wrap .i64 ((((List.length l_38) : Nat) : Int) + 6)) ≤ x_39))
 (cl0 37 [(.int .i64 x_41)] fun r3 => .br (AV.pure r3.v)
 (.mid 1 [0,5,0,5,0,0,5,6,0] 2 (mk0 145 [vv 0 (.vs 1 tg_37 l_38),vi 1 x_39,vi 2 x_40,vi 8 x_41,vb 30 true,vi 31 x_41,vv 32 r3.v])) .none)
 (cl0 22 [(.int .i64 x_41),(.int .i64 1099511627776)] fun r4 => .br (AV.pure r4.v)
 (.mid 0 [0,5,0,5,0,0,5,7,5,0] 2 (mk0 145 [vv 0 (.vs 1 tg_37 l_38),vi 1 x_39,vi 2 x_40,vi 8 x_41,vb 30 false,vi 35 x_41,vv 36 r4.v])) .none))) = some o) : ML C 40 [0,5,0] 3 (mk0 145 [vv 0 (.vs 1 tg_37 l_38),vi 1 x_39,vi 2 x_40,vv 19 (.vs 1 tg_37 l_38),vi 20 x_39,vi 21 x_41]) = some o := stM C 7 (fun _ _ => by kernel_rfl) ho
theorem p40_2 {tg_37 : Bool} {l_38 : List AV} {x_39 x_40 x_41 : Int} {s_42 : List UInt8} (ho : Tr.val C 40
 (.ret ⟨(.tuple [(.str s_42),(.int .i64 (IntKind.wrap .i64 (x_39 + 1)))]),Hp.none,0⟩) = some o) : ML C 40 [0,5,0,5,0,0,5,6,0] 2 (mk0 145 [vv 0 (.vs 1 tg_37 l_38),vi 1 x_39,vi 2 x_40,vi 8 x_41,vb 30 true,vi 31 x_41,vt 32 s_42]) = some o := stM C 1 (fun _ _ => by kernel_rfl) ho
theorem p40_3 {tg_37 : Bool} {l_38 : List AV} {x_39 x_40 x_41 x_44 : Int} (ho : Tr.val C 40
 (cl0 22 [(.int .i64 x_41),(.int .i64 16)] fun r5 => .br (AV.pure r5.v)
 (.mid 0 [0,5,0,5,0,0,5,7,5,0,5,0,0] 2 (mk0 145 [vv 0 (.vs 1 tg_37 l_38),vi 1 x_39,vi 2 x_40,vi 8 x_41,vi 9 (IntKind.wrap .i64 (Int.tdiv x_44 16)),vi 38 x_41,vv 39 r5.v])) .none) = some o) : ML C 40 [0,5,0,5,0,0,5,7,5,0] 2 (mk0 145 [vv 0 (.vs 1 tg_37 l_38),vi 1 x_39,vi 2 x_40,vi 8 x_41,vb 30 false,vi 35 x_41,vi 36 x_44]) = some o := stM C 3 (fun _ _ => by kernel_rfl) ho
theorem p40_4 {tg_37 : Bool} {l_38 : List AV} {x_39 x_40 x_41 x_45 x_46 : Int} (ho : Tr.val C 40
 (.br (decide (x_45 = 0))
 (cl0 29 [(.int .i64 x_46)] fun r6 => .br (AV.pure r6.v)
 (.mid 32 [0,5,0,5,0,0,5,7,5,0,5,0,0,5,2,0,5,6,0] 2 (mk0 145 [vv 0 (.vs 1 tg_37 l_38),vi 1 x_39,vi 2 x_40,vi 9 x_46,vi 39 x_45,vb 40 true,vi 42 x_46,vv 43 r6.v])) .none)
 (.br (decide (x_45 = 1))
 (cl0 22 [(.int .i64 x_46),(.int .i64 4)] fun r7 => .br (AV.pure r7.v)
 (.mid 29 qG1 3 (mkS 145 [vv 0 (.vs 1 tg_37 l_38),vi 1 x_39,vi 2 x_40,vi 9 x_46,vi 39 x_45,vb 46 true,vv 48 cG2,vi 49 x_46,vv 50 r7.v] [] Hp.none 0)) .none)
 (.br (decide (x_45 = 2))
 (cl0 22 [(.int .i64 x_46),(.int .i64 2)] fun r8 => .br (AV.pure r8.v)
 (.mid 26 qG4 3 (mkS 145 [vv 0 (.vs 1 tg_37 l_38),vi 1 x_39,vi 2 x_40,vi 9 x_46,vi 39 x_45,vb 56 true,vv 58 cG4,vi 59 x_46,vv 60 r8.v] [] Hp.none 0)) .none)
 (.br (decide (x_45 = 3))
 (cl0 37 [(.int .i64 x_46)] fun r9 => .br (AV.pure r9.v)
 (.mid 23 qG15 2 (mk0 145 [vv 0 (.vs 1 tg_37 l_38),vi 1 x_39,vi 2 x_40,vi 9 x_46,vi 39 x_45,vb 65 true,vi 67 x_46,vv 68 r9.v])) .none)
 (.br (decide (x_45 = 4))
 (cl0 40 [(.vs 1 tg_37 l_38),(.int .i64 (IntKind.wrap .i64 (x_39 + 1))),(.int .i64 (IntKind.wrap .i64 (x_40 + 1)))] fun r10 => .br (AV.pure r10.v)
 (.mid 17 qG16 6 (mk0 145 [vv 0 (.vs 1 tg_37 l_38),vi 1 x_39,vi 2 x_40,vi 9 x_46,vi 39 x_45,vb 73 true,vv 77 (.vs 1 tg_37 l_38),vi 78 x_39,vi 79 (IntKind.wrap .i64 (x_39 + 1)),vi 80 x_40,vi 81 (IntKind.wrap .i64 (x_40 + 1)),vv 82 r10.v])) .none)
 (.br (decide (x_45 = 5))
 (cl0 40 [(.vs 1 tg_37 l_38),(.int .i64 (IntKind.wrap .i64 (x_39 + 1))),(.int .i64 (IntKind.wrap .i64 (x_40 + 1)))] fun r11 => .br (AV.pure r11.v)
 (.mid 17 qG17 6 (mk0 145 [vv 0 (.vs 1 tg_37 l_38),vi 1 x_39,vi 2 x_40,vi 9 x_46,vi 39 x_45,vb 73 true,vv 77 (.vs 1 tg_37 l_38),vi 78 x_39,vi 79 (IntKind.wrap .i64 (x_39 + 1)),vi 80 x_40,vi 81 (IntKind.wrap .i64 (x_40 + 1)),vv 82 r11.v])) .none)
 (.br (decide (x_45 = 6))
 (cl0 40 [(.vs 1 tg_37 l_38),(.int .i64 (IntKind.wrap .i64 (x_39 + 1))),(.int .i64 (IntKind.wrap .i64 (x_40 + 1)))] fun r12 => .br (AV.pure r12.v)
 (.mid 14 qG18 6 (mk0 145 [vv 0 (.vs 1 tg_37 l_38),vi 1 x_39,vi 2 x_40,vi 9 x_46,vi 39 x_45,vb 93 true,vv 96 (.vs 1 tg_37 l_38),vi 97 x_39,vi 98 (IntKind.wrap .i64 (x_39 + 1)),vi 99 x_40,vi 100 (IntKind.wrap .i64 (x_40 + 1)),vv 101 r12.v])) .none)
 (.br (decide (x_45 = 7))
 (cl0 40 [(.vs 1 tg_37 l_38),(.int .i64 (IntKind.wrap .i64 (x_39 + 1))),(.int .i64 (IntKind.wrap .i64 (x_40 + 1)))] fun r13 => .br (AV.pure r13.v)
 (.mid 8 qG19 6 (mk0 145 [vv 0 (.vs 1 tg_37 l_38),vi 1 x_39,vi 2 x_40,vi 9 x_46,vi 39 x_45,vb 108 true,vv 114 (.vs 1 tg_37 l_38),vi 115 x_39,vi 116 (IntKind.wrap .i64 (x_39 + 1)),vi 117 x_40,vi 118 (IntKind.wrap .i64 (x_40 + 1)),vv 119 r13.v])) .none)
 (.br (decide (x_45 = 8))
 (cl0 40 [(.vs 1 tg_37 l_38),(.int .i64 (IntKind.wrap .i64 (x_39 + 1))),(.int .i64 (IntKind.wrap .i64 (x_40 + 1)))] fun r14 => .br (AV.pure r14.v)
 (.mid 5 qG20 6 (mk0 145 [vv 0 (.vs 1 tg_37 l_38),vi 1 x_39,vi 2 x_40,vi 9 x_46,vi 39 x_45,vb 108 true,vv 114 (.vs 1 tg_37 l_38),vi 115 x_39,vi 116 (IntKind.wrap .i64 (x_39 + 1)),vi 117 x_40,vi 118 (IntKind.wrap .i64 (x_40 + 1)),vv 119 r14.v])) .none)
 (.br (decide (x_45 = 9))
 (cl0 40 [(.vs 1 tg_37 l_38),(.int .i64 (IntKind.wrap .i64 (x_39 + 1))),(.int .i64 (IntKind.wrap .i64 (x_40 + 1)))] fun r15 => .br (AV.pure r15.v)
 (.mid 2 qG21 6 (mk0 145 [vv 0 (.vs 1 tg_37 l_38),vi 1 x_39,vi 2 x_40,vi 9 x_46,vi 39 x_45,vb 108 true,vv 114 (.vs 1 tg_37 l_38),vi 115 x_39,vi 116 (IntKind.wrap .i64 (x_39 + 1)),vi 117 x_40,vi 118 (IntKind.wrap .i64 (x_40 + 1)),vv 119 r15.v])) .none)
 (.br (decide (x_45 = 10))
 (cl0 40 [(.vs 1 tg_37 l_38),(.int .i64 (IntKind.wrap .i64 (x_39 + 1))),(.int .i64 (IntKind.wrap .i64 (x_40 + 1)))] fun r16 => .br (AV.pure r16.v)
 (.mid 2 qG22 6 (mk0 145 [vv 0 (.vs 1 tg_37 l_38),vi 1 x_39,vi 2 x_40,vi 9 x_46,vb 108 true,vv 114 (.vs 1 tg_37 l_38),vi 115 x_39,vi 116 (IntKind.wrap .i64 (x_39 + 1)),vi 117 x_40,vi 118 (IntKind.wrap .i64 (x_40 + 1)),vv 119 r16.v])) .none)
 (cl0 37 [(.int .i64 x_46)] fun r17 => .br (AV.pure r17.v)
 (.mid 0 qG23 2 (mk0 145 [vv 0 (.vs 1 tg_37 l_38),vi 1 x_39,vi 2 x_40,vi 9 x_46,vb 108 false,vi 141 x_46,vv 142 r17.v])) .none)))))))))))) = some o) : ML C 40 [0,5,0,5,0,0,5,7,5,0,5,0,0] 2 (mk0 145 [vv 0 (.vs 1 tg_37 l_38),vi 1 x_39,vi 2 x_40,vi 8 x_41,vi 9 x_46,vi 38 x_41,vi 39 x_45]) = some o := stM C 38 (fun _ _ => by kernel_rfl) ho
theorem p40_5 {tg_37 : Bool} {l_38 : List AV} {x_39 x_40 x_45 x_46 : Int} {s_47 : List UInt8} (ho : Tr.val C 40
 (.ret ⟨(.tuple [(.str s_47),(.int .i64 (IntKind.wrap .i64 (x_39 + 1)))]),Hp.none,0⟩) = some o) : ML C 40 [0,5,0,5,0,0,5,7,5,0,5,0,0,5,2,0,5,6,0] 2 (mk0 145 [vv 0 (.vs 1 tg_37 l_38),vi 1 x_39,vi 2 x_40,vi 9 x_46,vi 39 x_45,vb 40 true,vi 42 x_46,vt 43 s_47]) = some o := stM C 1 (fun _ _ => by kernel_rfl) ho
theorem p40_6 {tg_37 : Bool} {l_38 : List AV} {x_39 x_40 x_45 x_46 x_48 : Int} (ho : Tr.val C 40
 (.br (decide ((0 : Int) ≤ x_48))
 (.br (decide (x_48 < 4))
 (.bind (nth [(.str []),(.str [97,110,110]),(.str [97,32,98]),(.str [113,34,92])] (Int.toNat x_48)) fun c18 =>
 (.mid 0 qG1 4 (mkS 145 [vv 0 (.vs 1 tg_37 l_38),vi 1 x_39,vi 2 x_40,vi 9 x_46,vi 39 x_45,vb 46 true,vv 48 cG2,vi 49 x_46,vi 50 x_48,vv 51 (.cptr (AV.cells c18))] [] Hp.none 0)))
 .none)
 .none) = some o) : ML C 40 qG1 3 (mkS 145 [vv 0 (.vs 1 tg_37 l_38),vi 1 x_39,vi 2 x_40,vi 9 x_46,vi 39 x_45,vb 46 true,vv 48 cG2,vi 49 x_46,vi 50 x_48] [] Hp.none 0) = some o := stM C 0 (fun _ _ => by kernel_rfl) ho
theorem p40_7 {tg_37 : Bool} {l_38 : List AV} {x_39 x_40 x_45 x_46 x_49 : Int} (ho : Tr.val C 40
 (.br (decide ((0 : Int) ≤ x_49))
 (.br (decide (x_49 < 2))
 (.bind (nth [(.str [116,114,117,101]),(.str [102,97,108,115,101])] (Int.toNat x_49)) fun c19 =>
 (.mid 0 qG4 4 (mkS 145 [vv 0 (.vs 1 tg_37 l_38),vi 1 x_39,vi 2 x_40,vi 9 x_46,vi 39 x_45,vb 56 true,vv 58 cG4,vi 59 x_46,vi 60 x_49,vv 61 (.cptr (AV.cells c19))] [] Hp.none 0)))
 .none)
 .none) = some o) : ML C 40 qG4 3 (mkS 145 [vv 0 (.vs 1 tg_37 l_38),vi 1 x_39,vi 2 x_40,vi 9 x_46,vi 39 x_45,vb 56 true,vv 58 cG4,vi 59 x_46,vi 60 x_49] [] Hp.none 0) = some o := stM C 0 (fun _ _ => by kernel_rfl) ho
theorem p40_8 {tg_37 : Bool} {l_38 : List AV} {x_39 x_40 x_45 x_46 : Int} {s_50 : List UInt8} (ho : Tr.val C 40
 (.br (Nat.ble (5 + (List.length s_50)) 4611686018427387904)
 (.br (Nat.ble ((List.length ([115,105,122,101,40] ++ s_50)) + 1) 4611686018427387904)
 (.ret ⟨(.tuple [(.str (([115,105,122,101,40] ++ s_50) ++ [41])),(.int .i64 (IntKind.wrap .i64 (x_39 + 1)))]),Hp.none,0⟩)
 .none)
 .none) = some o) : ML C 40 qG15 2 (mk0 145 [vv 0 (.vs 1 tg_37 l_38),vi 1 x_39,vi 2 x_40,vi 9 x_46,vi 39 x_45,vb 65 true,vi 67 x_46,vt 68 s_50]) = some o := stM C 1 (fun _ _ => by kernel_rfl) ho
theorem p40_9 {tg_37 : Bool} {l_38 : List AV} {x_39 x_40 x_45 x_46 x_52 x_53 x_54 : Int} {s_51 : List UInt8} (ho : Tr.val C 40
 (cl0 22 [(.int .i64 x_46),(.int .i64 4)] fun r20 => .br (AV.pure r20.v)
 (.mid 0 qG5 3 (mkS 145 [vi 9 x_46,vt 10 s_51,vi 11 x_52,vv 85 cG1,vi 86 x_46,vv 87 r20.v] [] Hp.none 0)) .none) = some o) : ML C 40 qG16 6 (mk0 145 [vv 0 (.vs 1 tg_37 l_38),vi 1 x_39,vi 2 x_40,vi 9 x_46,vi 39 x_45,vb 73 true,vv 77 (.vs 1 tg_37 l_38),vi 78 x_39,vi 79 x_53,vi 80 x_40,vi 81 x_54,vv 82 (.tuple [(.str s_51),(i6 x_52)])]) = some o := stM C 2 (fun _ _ => by kernel_rfl) ho
theorem p40_10 {tg_37 : Bool} {l_38 : List AV} {x_39 x_40 x_45 x_46 x_56 x_57 x_58 : Int} {s_55 : List UInt8} (ho : Tr.val C 40
 (cl0 22 [(.int .i64 x_46),(.int .i64 4)] fun r21 => .br (AV.pure r21.v)
 (.mid 0 qG6 3 (mkS 145 [vi 9 x_46,vt 10 s_55,vi 11 x_56,vv 85 cG1,vi 86 x_46,vv 87 r21.v] [] Hp.none 0)) .none) = some o) : ML C 40 qG17 6 (mk0 145 [vv 0 (.vs 1 tg_37 l_38),vi 1 x_39,vi 2 x_40,vi 9 x_46,vi 39 x_45,vb 73 true,vv 77 (.vs 1 tg_37 l_38),vi 78 x_39,vi 79 x_57,vi 80 x_40,vi 81 x_58,vv 82 (.tuple [(.str s_55),(i6 x_56)])]) = some o := stM C 2 (fun _ _ => by kernel_rfl) ho
theorem p40_11 {tg_37 : Bool} {l_38 : List AV} {x_39 x_40 x_45 x_46 x_60 x_61 x_62 : Int} {s_59 : List UInt8} (ho : Tr.val C 40
 (.br (Nat.ble (1 + (List.length s_59)) 4611686018427387904)
 (.br (Nat.ble ((List.length ([40] ++ s_59)) + 1) 4611686018427387904)
 (.ret ⟨(.tuple [(.str (([40] ++ s_59) ++ [41])),(.int .i64 x_60)]),Hp.none,0⟩)
 .none)
 .none) = some o) : ML C 40 qG18 6 (mk0 145 [vv 0 (.vs 1 tg_37 l_38),vi 1 x_39,vi 2 x_40,vi 9 x_46,vi 39 x_45,vb 93 true,vv 96 (.vs 1 tg_37 l_38),vi 97 x_39,vi 98 x_61,vi 99 x_40,vi 100 x_62,vv 101 (.tuple [(.str s_59),(i6 x_60)])]) = some o := stM C 3 (fun _ _ => by kernel_rfl) ho
theorem p40_12 {tg_37 : Bool} {l_38 : List AV} {x_39 x_40 x_45 x_46 x_64 x_65 x_66 : Int} {s_63 : List UInt8} (ho : Tr.val C 40
 (cl0 40 [(.vs 1 tg_37 l_38),(.int .i64 x_64),(.int .i64 (IntKind.wrap .i64 (x_40 + 1)))] fun r22 => .br (AV.pure r22.v)
 (.mid 0 qG24 5 (mk0 145 [vv 0 (.vs 1 tg_37 l_38),vi 2 x_40,vi 9 x_46,vt 14 s_63,vi 15 x_64,vv 123 (.vs 1 tg_37 l_38),vi 124 x_64,vi 125 x_40,vi 126 (IntKind.wrap .i64 (x_40 + 1)),vv 127 r22.v])) .none) = some o) : ML C 40 qG19 6 (mk0 145 [vv 0 (.vs 1 tg_37 l_38),vi 1 x_39,vi 2 x_40,vi 9 x_46,vi 39 x_45,vb 108 true,vv 114 (.vs 1 tg_37 l_38),vi 115 x_39,vi 116 x_65,vi 117 x_40,vi 118 x_66,vv 119 (.tuple [(.str s_63),(i6 x_64)])]) = some o := stM C 2 (fun _ _ => by kernel_rfl) ho
theorem p40_13 {tg_37 : Bool} {l_38 : List AV} {x_39 x_40 x_45 x_46 x_68 x_69 x_70 : Int} {s_67 : List UInt8} (ho : Tr.val C 40
 (cl0 40 [(.vs 1 tg_37 l_38),(.int .i64 x_68),(.int .i64 (IntKind.wrap .i64 (x_40 + 1)))] fun r23 => .br (AV.pure r23.v)
 (.mid 0 qG25 5 (mk0 145 [vv 0 (.vs 1 tg_37 l_38),vi 2 x_40,vi 9 x_46,vt 14 s_67,vi 15 x_68,vv 123 (.vs 1 tg_37 l_38),vi 124 x_68,vi 125 x_40,vi 126 (IntKind.wrap .i64 (x_40 + 1)),vv 127 r23.v])) .none) = some o) : ML C 40 qG20 6 (mk0 145 [vv 0 (.vs 1 tg_37 l_38),vi 1 x_39,vi 2 x_40,vi 9 x_46,vi 39 x_45,vb 108 true,vv 114 (.vs 1 tg_37 l_38),vi 115 x_39,vi 116 x_69,vi 117 x_40,vi 118 x_70,vv 119 (.tuple [(.str s_67),(i6 x_68)])]) = some o := stM C 2 (fun _ _ => by kernel_rfl) ho
theorem p40_14 {tg_37 : Bool} {l_38 : List AV} {x_39 x_40 x_45 x_46 x_72 x_73 x_74 : Int} {s_71 : List UInt8} (ho : Tr.val C 40
 (cl0 40 [(.vs 1 tg_37 l_38),(.int .i64 x_72),(.int .i64 (IntKind.wrap .i64 (x_40 + 1)))] fun r24 => .br (AV.pure r24.v)
 (.mid 0 qG26 5 (mk0 145 [vv 0 (.vs 1 tg_37 l_38),vi 2 x_40,vi 9 x_46,vt 14 s_71,vi 15 x_72,vv 123 (.vs 1 tg_37 l_38),vi 124 x_72,vi 125 x_40,vi 126 (IntKind.wrap .i64 (x_40 + 1)),vv 127 r24.v])) .none) = some o) : ML C 40 qG21 6 (mk0 145 [vv 0 (.vs 1 tg_37 l_38),vi 1 x_39,vi 2 x_40,vi 9 x_46,vi 39 x_45,vb 108 true,vv 114 (.vs 1 tg_37 l_38),vi 115 x_39,vi 116 x_73,vi 117 x_40,vi 118 x_74,vv 119 (.tuple [(.str s_71),(i6 x_72)])]) = some o := stM C 2 (fun _ _ => by kernel_rfl) ho
theorem p40_15 {tg_37 : Bool} {l_38 : List AV} {x_39 x_40 x_46 x_76 x_77 x_78 : Int} {s_75 : List UInt8} (ho : Tr.val C 40
 (cl0 40 [(.vs 1 tg_37 l_38),(.int .i64 x_76),(.int .i64 (IntKind.wrap .i64 (x_40 + 1)))] fun r25 => .br (AV.pure r25.v)
 (.mid 0 qG27 5 (mk0 145 [vv 0 (.vs 1 tg_37 l_38),vi 2 x_40,vi 9 x_46,vt 14 s_75,vi 15 x_76,vv 123 (.vs 1 tg_37 l_38),vi 124 x_76,vi 125 x_40,vi 126 (IntKind.wrap .i64 (x_40 + 1)),vv 127 r25.v])) .none) = some o) : ML C 40 qG22 6 (mk0 145 [vv 0 (.vs 1 tg_37 l_38),vi 1 x_39,vi 2 x_40,vi 9 x_46,vb 108 true,vv 114 (.vs 1 tg_37 l_38),vi 115 x_39,vi 116 x_77,vi 117 x_40,vi 118 x_78,vv 119 (.tuple [(.str s_75),(i6 x_76)])]) = some o := stM C 2 (fun _ _ => by kernel_rfl) ho
theorem p40_16 {tg_37 : Bool} {l_38 : List AV} {x_39 x_40 x_46 : Int} {s_79 : List UInt8} (ho : Tr.val C 40
 (.ret ⟨(.tuple [(.str s_79),(.int .i64 (IntKind.wrap .i64 (x_39 + 1)))]),Hp.none,0⟩) = some o) : ML C 40 qG23 2 (mk0 145 [vv 0 (.vs 1 tg_37 l_38),vi 1 x_39,vi 2 x_40,vi 9 x_46,vb 108 false,vi 141 x_46,vt 142 s_79]) = some o := stM C 1 (fun _ _ => by kernel_rfl) ho
theorem p40_17 {tg_37 : Bool} {l_38 : List AV} {x_39 x_40 x_45 x_46 x_48 : Int} {s_80 : List UInt8} (ho : Tr.val C 40
 (cl0 78 [(.str s_80)] fun r26 => .br (AV.pure r26.v)
 (.mid 0 qG1 6 (mkS 145 [vv 0 (.vs 1 tg_37 l_38),vi 1 x_39,vi 2 x_40,vi 9 x_46,vi 39 x_45,vb 46 true,vv 48 cG2,vi 49 x_46,vi 50 x_48,vv 51 (.cptr [(.str s_80)]),vt 52 s_80,vv 53 r26.v] [] Hp.none 0)) .none) = some o) : ML C 40 qG1 4 (mkS 145 [vv 0 (.vs 1 tg_37 l_38),vi 1 x_39,vi 2 x_40,vi 9 x_46,vi 39 x_45,vb 46 true,vv 48 cG2,vi 49 x_46,vi 50 x_48,vv 51 (.cptr [(.str s_80)])] [] Hp.none 0) = some o := stM C 0 (fun _ _ => by kernel_rfl) ho
theorem p40_18 {tg_37 : Bool} {l_38 : List AV} {x_39 x_40 x_45 x_46 x_49 : Int} {s_81 : List UInt8} (ho : Tr.val C 40
 (.ret ⟨(.tuple [(.str s_81),(.int .i64 (IntKind.wrap .i64 (x_39 + 1)))]),Hp.none,0⟩) = some o) : ML C 40 qG4 4 (mkS 145 [vv 0 (.vs 1 tg_37 l_38),vi 1 x_39,vi 2 x_40,vi 9 x_46,vi 39 x_45,vb 56 true,vv 58 cG4,vi 59 x_46,vi 60 x_49,vv 61 (.cptr [(.str s_81)])] [] Hp.none 0) = some o := stM C 1 (fun _ _ => by kernel_rfl) ho
theorem p40_19 {x_46 x_52 x_82 : Int} {s_51 : List UInt8} (ho : Tr.val C 40
 (.br (decide ((0 : Int) ≤ x_82))
 (.br (decide (x_82 < 4))
 (.bind (nth [(.str [45]),(.str [33]),(.str [45,32]),(.str [33,32])] (Int.toNat x_82)) fun c27 =>
 (.mid 0 qG5 4 (mkS 145 [vi 9 x_46,vt 10 s_51,vi 11 x_52,vv 85 cG1,vi 86 x_46,vi 87 x_82,vv 88 (.cptr (AV.cells c27))] [] Hp.none 0)))
 .none)
 .none) = some o) : ML C 40 qG5 3 (mkS 145 [vi 9 x_46,vt 10 s_51,vi 11 x_52,vv 85 cG1,vi 86 x_46,vi 87 x_82] [] Hp.none 0) = some o := stM C 0 (fun _ _ => by kernel_rfl) ho
theorem p40_20 {x_46 x_56 x_83 : Int} {s_55 : List UInt8} (ho : Tr.val C 40
 (.br (decide ((0 : Int) ≤ x_83))
 (.br (decide (x_83 < 4))
 (.bind (nth [(.str [45]),(.str [33]),(.str [45,32]),(.str [33,32])] (Int.toNat x_83)) fun c28 =>
 (.mid 0 qG6 4 (mkS 145 [vi 9 x_46,vt 10 s_55,vi 11 x_56,vv 85 cG1,vi 86 x_46,vi 87 x_83,vv 88 (.cptr (AV.cells c28))] [] Hp.none 0)))
 .none)
 .none) = some o) : ML C 40 qG6 3 (mkS 145 [vi 9 x_46,vt 10 s_55,vi 11 x_56,vv 85 cG1,vi 86 x_46,vi 87 x_83] [] Hp.none 0) = some o := stM C 0 (fun _ _ => by kernel_rfl) ho
theorem p40_21 {tg_37 : Bool} {l_38 : List AV} {x_40 x_46 x_64 x_85 x_86 : Int} {s_63 s_84 : List UInt8} (ho : Tr.val C 40
 (cl0 22 [(.int .i64 x_46),(.int .i64 11)] fun r29 => .br (AV.pure r29.v)
 (.mid 0 qG7 3 (mkS 145 [vi 9 x_46,vt 14 s_63,vt 16 s_84,vi 17 x_85,vv 130 cG0,vi 131 x_46,vv 132 r29.v] [] Hp.none 0)) .none) = some o) : ML C 40 qG24 5 (mk0 145 [vv 0 (.vs 1 tg_37 l_38),vi 2 x_40,vi 9 x_46,vt 14 s_63,vi 15 x_64,vv 123 (.vs 1 tg_37 l_38),vi 124 x_64,vi 125 x_40,vi 126 x_86,vv 127 (.tuple [(.str s_84),(i6 x_85)])]) = some o := stM C 2 (fun _ _ => by kernel_rfl) ho
theorem p40_22 {tg_37 : Bool} {l_38 : List AV} {x_40 x_46 x_68 x_88 x_89 : Int} {s_67 s_87 : List UInt8} (ho : Tr.val C 40
 (cl0 22 [(.int .i64 x_46),(.int .i64 11)] fun r30 => .br (AV.pure r30.v)
 (.mid 0 qG8 3 (mkS 145 [vi 9 x_46,vt 14 s_67,vt 16 s_87,vi 17 x_88,vv 130 cG0,vi 131 x_46,vv 132 r30.v] [] Hp.none 0)) .none) = some o) : ML C 40 qG25 5 (mk0 145 [vv 0 (.vs 1 tg_37 l_38),vi 2 x_40,vi 9 x_46,vt 14 s_67,vi 15 x_68,vv 123 (.vs 1 tg_37 l_38),vi 124 x_68,vi 125 x_40,vi 126 x_89,vv 127 (.tuple [(.str s_87),(i6 x_88)])]) = some o := stM C 2 (fun _ _ => by kernel_rfl) ho
theorem p40_23 {tg_37 : Bool} {l_38 : List AV} {x_40 x_46 x_72 x_91 x_92 : Int} {s_71 s_90 : List UInt8} (ho : Tr.val C 40
 (cl0 22 [(.int .i64 x_46),(.int .i64 11)] fun r31 => .br (AV.pure r31.v)
 (.mid 0 qG9 3 (mkS 145 [vi 9 x_46,vt 14 s_71,vt 16 s_90,vi 17 x_91,vv 130 cG0,vi 131 x_46,vv 132 r31.v] [] Hp.none 0)) .none) = some o) : ML C 40 qG26 5 (mk0 145 [vv 0 (.vs 1 tg_37 l_38),vi 2 x_40,vi 9 x_46,vt 14 s_71,vi 15 x_72,vv 123 (.vs 1 tg_37 l_38),vi 124 x_72,vi 125 x_40,vi 126 x_92,vv 127 (.tuple [(.str s_90),(i6 x_91)])]) = some o := stM C 2 (fun _ _ => by kernel_rfl) ho
theorem p40_24 {tg_37 : Bool} {l_38 : List AV} {x_40 x_46 x_76 x_94 x_95 : Int} {s_75 s_93 : List UInt8} (ho : Tr.val C 40
 (cl0 22 [(.int .i64 x_46),(.int .i64 11)] fun r32 => .br (AV.pure r32.v)
 (.mid 0 qG10 3 (mkS 145 [vi 9 x_46,vt 14 s_75,vt 16 s_93,vi 17 x_94,vv 130 cG0,vi 131 x_46,vv 132 r32.v] [] Hp.none 0)) .none) = some o) : ML C 40 qG27 5 (mk0 145 [vv 0 (.vs 1 tg_37 l_38),vi 2 x_40,vi 9 x_46,vt 14 s_75,vi 15 x_76,vv 123 (.vs 1 tg_37 l_38),vi 124 x_76,vi 125 x_40,vi 126 x_95,vv 127 (.tuple [(.str s_93),(i6 x_94)])]) = some o := stM C 2 (fun _ _ => by kernel_rfl) ho
theorem p40_25 {tg_37 : Bool} {l_38 : List AV} {x_39 x_40 x_45 x_46 x_48 : Int} {s_80 s_96 : List UInt8} (ho : Tr.val C 40
 (.ret ⟨(.tuple [(.str s_96),(.int .i64 (IntKind.wrap .i64 (x_39 + 1)))]),Hp.none,0⟩) = some o) : ML C 40 qG1 6 (mkS 145 [vv 0 (.vs 1 tg_37 l_38),vi 1 x_39,vi 2 x_40,vi 9 x_46,vi 39 x_45,vb 46 true,vv 48 cG2,vi 49 x_46,vi 50 x_48,vv 51 (.cptr [(.str s_80)]),vt 52 s_80,vt 53 s_96] [] Hp.none 0) = some o := stM C 1 (fun _ _ => by kernel_rfl) ho
theorem p40_26 {x_46 x_52 x_82 : Int} {s_51 s_97 : List UInt8} (ho : Tr.val C 40
 (.br (Nat.ble ((List.length s_97) + (List.length s_51)) 4611686018427387904)
 (.ret ⟨(.tuple [(.str (s_97 ++ s_51)),(.int .i64 x_52)]),Hp.none,0⟩)
 .none) = some o) : ML C 40 qG5 4 (mkS 145 [vi 9 x_46,vt 10 s_51,vi 11 x_52,vv 85 cG1,vi 86 x_46,vi 87 x_82,vv 88 (.cptr [(.str s_97)])] [] Hp.none 0) = some o := stM C 1 (fun _ _ => by kernel_rfl) ho
theorem p40_27 {x_46 x_56 x_83 : Int} {s_55 s_98 : List UInt8} (ho : Tr.val C 40
 (.br (Nat.ble ((List.length s_98) + (List.length s_55)) 4611686018427387904)
 (.ret ⟨(.tuple [(.str (s_98 ++ s_55)),(.int .i64 x_56)]),Hp.none,0⟩)
 .none) = some o) : ML C 40 qG6 4 (mkS 145 [vi 9 x_46,vt 10 s_55,vi 11 x_56,vv 85 cG1,vi 86 x_46,vi 87 x_83,vv 88 (.cptr [(.str s_98)])] [] Hp.none 0) = some o := stM C 1 (fun _ _ => by kernel_rfl) ho
theorem p40_28 {x_46 x_85 x_99 : Int} {s_63 s_84 : List UInt8} (ho : Tr.val C 40
 (.br (decide ((0 : Int) ≤ x_99))
 (.br (decide (x_99 < 11))
 (.bind (nth [(.str [32,43,32]),(.str [32,45,32]),(.str [42]),(.str [32,61,61,32]),(.str [32,60,32]),(.str [62,61]),(.str [32,38,38,32]),(.str [124,124]),(.str [32,104,97,115,32]),(.str [32,33,61,32]),(.str [45])] (Int.toNat x_99)) fun c33 =>
 (.mid 0 qG7 4 (mkS 145 [vi 9 x_46,vt 14 s_63,vt 16 s_84,vi 17 x_85,vv 130 cG0,vi 131 x_46,vi 132 x_99,vv 133 (.cptr (AV.cells c33))] [] Hp.none 0)))
 .none)
 .none) = some o) : ML C 40 qG7 3 (mkS 145 [vi 9 x_46,vt 14 s_63,vt 16 s_84,vi 17 x_85,vv 130 cG0,vi 131 x_46,vi 132 x_99] [] Hp.none 0) = some o := stM C 0 (fun _ _ => by kernel_rfl) ho
theorem p40_29 {x_46 x_88 x_100 : Int} {s_67 s_87 : List UInt8} (ho : Tr.val C 40
 (.br (decide ((0 : Int) ≤ x_100))
 (.br (decide (x_100 < 11))
 (.bind (nth [(.str [32,43,32]),(.str [32,45,32]),(.str [42]),(.str [32,61,61,32]),(.str [32,60,32]),(.str [62,61]),(.str [32,38,38,32]),(.str [124,124]),(.str [32,104,97,115,32]),(.str [32,33,61,32]),(.str [45])] (Int.toNat x_100)) fun c34 =>
 (.mid 0 qG8 4 (mkS 145 [vi 9 x_46,vt 14 s_67,vt 16 s_87,vi 17 x_88,vv 130 cG0,vi 131 x_46,vi 132 x_100,vv 133 (.cptr (AV.cells c34))] [] Hp.none 0)))
 .none)
 .none) = some o) : ML C 40 qG8 3 (mkS 145 [vi 9 x_46,vt 14 s_67,vt 16 s_87,vi 17 x_88,vv 130 cG0,vi 131 x_46,vi 132 x_100] [] Hp.none 0) = some o := stM C 0 (fun _ _ => by kernel_rfl) ho
theorem p40_30 {x_46 x_91 x_101 : Int} {s_71 s_90 : List UInt8} (ho : Tr.val C 40
 (.br (decide ((0 : Int) ≤ x_101))
 (.br (decide (x_101 < 11))
 (.bind (nth [(.str [32,43,32]),(.str [32,45,32]),(.str [42]),(.str [32,61,61,32]),(.str [32,60,32]),(.str [62,61]),(.str [32,38,38,32]),(.str [124,124]),(.str [32,104,97,115,32]),(.str [32,33,61,32]),(.str [45])] (Int.toNat x_101)) fun c35 =>
 (.mid 0 qG9 4 (mkS 145 [vi 9 x_46,vt 14 s_71,vt 16 s_90,vi 17 x_91,vv 130 cG0,vi 131 x_46,vi 132 x_101,vv 133 (.cptr (AV.cells c35))] [] Hp.none 0)))
 .none)
 .none) = some o) : ML C 40 qG9 3 (mkS 145 [vi 9 x_46,vt 14 s_71,vt 16 s_90,vi 17 x_91,vv 130 cG0,vi 131 x_46,vi 132 x_101] [] Hp.none 0) = some o := stM C 0 (fun _ _ => by kernel_rfl) ho
theorem p40_31 {x_46 x_94 x_102 : Int} {s_75 s_93 : List UInt8} (ho : Tr.val C 40
 (.br (decide ((0 : Int) ≤ x_102))
 (.br (decide (x_102 < 11))
 (.bind (nth [(.str [32,43,32]),(.str [32,45,32]),(.str [42]),(.str [32,61,61,32]),(.str [32,60,32]),(.str [62,61]),(.str [32,38,38,32]),(.str [124,124]),(.str [32,104,97,115,32]),(.str [32,33,61,32]),(.str [45])] (Int.toNat x_102)) fun c36 =>
 (.mid 0 qG10 4 (mkS 145 [vi 9 x_46,vt 14 s_75,vt 16 s_93,vi 17 x_94,vv 130 cG0,vi 131 x_46,vi 132 x_102,vv 133 (.cptr (AV.cells c36))] [] Hp.none 0)))
 .none)
 .none) = some o) : ML C 40 qG10 3 (mkS 145 [vi 9 x_46,vt 14 s_75,vt 16 s_93,vi 17 x_94,vv 130 cG0,vi 131 x_46,vi 132 x_102] [] Hp.none 0) = some o := stM C 0 (fun _ _ => by kernel_rfl) ho
theorem p40_32 {x_46 x_85 x_99 : Int} {s_63 s_84 s_103 : List UInt8} (ho : Tr.val C 40
 (.br (Nat.ble ((List.length s_63) + (List.length s_103)) 4611686018427387904)
 (.br (Nat.ble ((List.length (s_63 ++ s_103)) + (List.length s_84)) 4611686018427387904)
 (.ret ⟨(.tuple [(.str ((s_63 ++ s_103) ++ s_84)),(.int .i64 x_85)]),Hp.none,0⟩)
 .none)
 .none) = some o) : ML C 40 qG7 4 (mkS 145 [vi 9 x_46,vt 14 s_63,vt 16 s_84,vi 17 x_85,vv 130 cG0,vi 131 x_46,vi 132 x_99,vv 133 (.cptr [(.str s_103)])] [] Hp.none 0) = some o := stM C 3 (fun _ _ => by kernel_rfl) ho
theorem p40_33 {x_46 x_88 x_100 : Int} {s_67 s_87 s_104 : List UInt8} (ho : Tr.val C 40
 (.br (Nat.ble ((List.length s_67) + (List.length s_104)) 4611686018427387904)
 (.br (Nat.ble ((List.length (s_67 ++ s_104)) + (List.length s_87)) 4611686018427387904)
 (.ret ⟨(.tuple [(.str ((s_67 ++ s_104) ++ s_87)),(.int .i64 x_88)]),Hp.none,0⟩)
 .none)
 .none) = some o) : ML C 40 qG8 4 (mkS 145 [vi 9 x_46,vt 14 s_67,vt 16 s_87,vi 17 x_88,vv 130 cG0,vi 131 x_46,vi 132 x_100,vv 133 (.cptr [(.str s_104)])] [] Hp.none 0) = some o := stM C 3 (fun _ _ => by kernel_rfl) ho
theorem p40_34 {x_46 x_91 x_101 : Int} {s_71 s_90 s_105 : List UInt8} (ho : Tr.val C 40
 (.br (Nat.ble ((List.length s_71) + (List.length s_105)) 4611686018427387904)
 (.br (Nat.ble ((List.length (s_71 ++ s_105)) + (List.length s_90)) 4611686018427387904)
 (.ret ⟨(.tuple [(.str ((s_71 ++ s_105) ++ s_90)),(.int .i64 x_91)]),Hp.none,0⟩)
 .none)
 .none) = some o) : ML C 40 qG9 4 (mkS 145 [vi 9 x_46,vt 14 s_71,vt 16 s_90,vi 17 x_91,vv 130 cG0,vi 131 x_46,vi 132 x_101,vv 133 (.cptr [(.str s_105)])] [] Hp.none 0) = some o := stM C 3 (fun _ _ => by kernel_rfl) ho
theorem p40_35 {x_46 x_94 x_102 : Int} {s_75 s_93 s_106 : List UInt8} (ho : Tr.val C 40
 (.br (Nat.ble ((List.length s_75) + (List.length s_106)) 4611686018427387904)
 (.br (Nat.ble ((List.length (s_75 ++ s_106)) + (List.length s_93)) 4611686018427387904)
 (.ret ⟨(.tuple [(.str ((s_75 ++ s_106) ++ s_93)),(.int .i64 x_94)]),Hp.none,0⟩)
 .none)
 .none) = some o) : ML C 40 qG10 4 (mkS 145 [vi 9 x_46,vt 14 s_75,vt 16 s_93,vi 17 x_94,vv 130 cG0,vi 131 x_46,vi 132 x_102,vv 133 (.cptr [(.str s_106)])] [] Hp.none 0) = some o := stM C 3 (fun _ _ => by kernel_rfl) ho
end Go.Proofs.YtfdklpkfpmkgeaaGreatDoor
end
section
namespace Go.Proofs.YtfdklpkfpmkgeaaGreatDoor
open Go Go.Vai
attribute [local irreducible] goTo bodyOf mkS
theorem len_ints (l : List Int) : (ints l).length = l.length := List.length_map _
variable {C : Nat→Oracle} (hC : Ext C)
include hC
theorem pars_loop (n : Int) : ∀ (m : Nat) (i : Int) (s : List UInt8),(5 - i).toNat = m→0 ≤ i→i ≤ 4→s.length ≤ 1 + 30 * i.toNat →
  Was (RL C 39 [0,5,0,5,0,0,5,2,3] (mkS 33 [(0,.val (.int .i64 n) .no),(3,.val (.str s) .no),(4,.val (.int .i64 i) .no)] [] Hp.none 0)) (QS 200):=by
 intro m
 induction m with
 | zero=>intro i s hm h0 h4; omega
 | succ m ih =>
  intro i s hm h0 h4 hs
  have w1 : IntKind.wrap .i64 (2 + i) = 2 + i := wrap64 (by omega) (by omega)
  have w2 : IntKind.wrap .i64 (6 + i) = 6 + i := wrap64 (by omega) (by omega)
  have w3 : IntKind.wrap .i64 (i + 1) = i + 1 := wrap64 (by omega) (by omega)
  refine exW (fun o=>p39_1) ?_
  simp only [Tr.val,pureL,AV.pure,br_true]
  repeat' (first
   | refine .bL (by first | omega | (simp only [List.length_append,List.length_cons,List.length_nil,List.length_drop,List.length_take]; omega)) ?_
   | refine .bT (by omega) ?_
   | refine .bF (by omega) ?_
   | (refine .call (w77 hC _ _ _ (by omega) (by omega) (by omega)) ?_; rintro o ⟨x,e,h1,h2⟩; simp only [e,AV.pure,br_true]; clear e)
   | (refine .call (w37 hC _) ?_; rintro o ⟨s,e,h1⟩; simp only [e,AV.pure,br_true]; clear e)
   | (refine exW (fun o=>p39_2) ?_; simp only [Tr.val,pureL,AV.pure,br_true,AV.cells,pure_ints,len_ints,Bool.not_true,Bool.not_false,w1,w2,w3])
   | (refine exW (fun o=>p39_3) ?_; simp only [Tr.val,pureL,AV.pure,br_true,AV.cells,pure_ints,len_ints,Bool.not_true,Bool.not_false,w1,w2,w3])
   | (refine exW (fun o=>p39_4) ?_; simp only [Tr.val,pureL,AV.pure,br_true,AV.cells,pure_ints,len_ints,Bool.not_true,Bool.not_false,w1,w2,w3])
   | (refine exW (fun o=>p39_5) ?_; simp only [Tr.val,pureL,AV.pure,br_true,AV.cells,pure_ints,len_ints,Bool.not_true,Bool.not_false,w1,w2,w3])
   | (refine exW (fun o=>p39_6) ?_; simp only [Tr.val,pureL,AV.pure,br_true,AV.cells,pure_ints,len_ints,Bool.not_true,Bool.not_false,w1,w2,w3])
   | (refine exW (fun o=>p39_7) ?_; simp only [Tr.val,pureL,AV.pure,br_true,AV.cells,pure_ints,len_ints,Bool.not_true,Bool.not_false,w1,w2,w3])
   | (refine exW (fun o=>p39_8) ?_; simp only [Tr.val,pureL,AV.pure,br_true,AV.cells,pure_ints,len_ints,Bool.not_true,Bool.not_false,w1,w2,w3])
   | (refine exW (fun o=>p39_9) ?_; simp only [Tr.val,pureL,AV.pure,br_true,AV.cells,pure_ints,len_ints,Bool.not_true,Bool.not_false,w1,w2,w3])
   | (refine exW (fun o=>p39_10) ?_; simp only [Tr.val,pureL,AV.pure,br_true,AV.cells,pure_ints,len_ints,Bool.not_true,Bool.not_false,w1,w2,w3])
   | (refine .nth (B := 20) rfl (by simp only [List.length_cons,List.length_nil]; omega) fun s hs=>?_; simp only [AV.cells])
   | exact .mk ⟨_,rfl,by first | omega | (simp only [List.length_append,List.length_cons,List.length_nil,List.length_drop,List.length_take]; omega)⟩
   | refine .dec (fun h=>?_) (fun h=>?_)
   | refine .both (fun h=>?_) (fun h=>?_))
  all_goals exact ih _ _ (by omega) (by omega) (by omega) (by simp only [List.length_append,List.length_cons,List.length_nil]; omega)
theorem w39 (n : Int) : Was (calL C 39 [.int .i64 n] Hp.none 0) (QS 200):=by
 refine exW (fun o=>p39_c hC) (exW (fun o=>p39_0) ?_)
 exact pars_loop hC n _ 0 [40] rfl (by decide) (by decide) (by decide)
set_option maxHeartbeats 4000000 in
theorem step40 (tg : Bool) (l : List Int) (hl : l.length ≤ 1000000) (B : Nat) (hB : B ≤ 100000) (d : Int) (hd : -100 ≤ d∧d ≤ 5) (ih : ∀ i : Int,Was (calL C 40 [.vs 1 tg (ints l),.int .i64 i,.int .i64 (d + 1)] Hp.none 0) (QP B)) (i : Int) :
  Was (calL C 40 [.vs 1 tg (ints l),.int .i64 i,.int .i64 d] Hp.none 0) (QP (2 * B + 50)):=by
 have w1 : IntKind.wrap .i64 (d + 1) = d + 1 := wrap64 (by omega) (by omega)
 refine exW (fun o=>p40_c hC) (exW (fun o=>p40_0) ?_)
 simp only [Tr.val,pureL,AV.pure,br_true,pure_ints]
 repeat' (first
  | refine .bL (by first | omega | (simp only [List.length_append,List.length_cons,List.length_nil,List.length_drop,List.length_take]; omega)) ?_
  | refine .bT (by omega) ?_
  | refine .bF (by omega) ?_
  | (refine .call (w34 hC _ _ (by omega) _) ?_; rintro o ⟨x,e⟩; simp only [e,AV.pure,br_true]; clear e)
  | (refine .call (w37 hC _) ?_; rintro o ⟨s,e,h1⟩; simp only [e,AV.pure,br_true]; clear e)
  | (refine .call (w22 hC _ _ (by omega) (by omega)) ?_; rintro o ⟨x,e,h1,h2⟩; simp only [e,AV.pure,br_true]; clear e)
  | (refine .call (w29 hC _) ?_; rintro o ⟨s,e,h1⟩; simp only [e,AV.pure,br_true]; clear e)
  | (refine .call (w78 hC _ (by omega)) ?_; rintro o ⟨s,e,h1⟩; simp only [e,AV.pure,br_true]; clear e)
  | (refine .call (ih _) ?_; rintro o ⟨s,x,e,h1⟩; simp only [e,AV.pure,pureL,br_true]; clear e)
  | (refine exW (fun o=>p40_1) ?_; simp only [Tr.val,pureL,AV.pure,br_true,AV.cells,pure_ints,len_ints,Bool.not_true,Bool.not_false,w1])
  | (refine exW (fun o=>p40_2) ?_; simp only [Tr.val,pureL,AV.pure,br_true,AV.cells,pure_ints,len_ints,Bool.not_true,Bool.not_false,w1])
  | (refine exW (fun o=>p40_3) ?_; simp only [Tr.val,pureL,AV.pure,br_true,AV.cells,pure_ints,len_ints,Bool.not_true,Bool.not_false,w1])
  | (refine exW (fun o=>p40_4) ?_; simp only [Tr.val,pureL,AV.pure,br_true,AV.cells,pure_ints,len_ints,Bool.not_true,Bool.not_false,w1])
  | (refine exW (fun o=>p40_5) ?_; simp only [Tr.val,pureL,AV.pure,br_true,AV.cells,pure_ints,len_ints,Bool.not_true,Bool.not_false,w1])
  | (refine exW (fun o=>p40_6) ?_; simp only [Tr.val,pureL,AV.pure,br_true,AV.cells,pure_ints,len_ints,Bool.not_true,Bool.not_false,w1])
  | (refine exW (fun o=>p40_7) ?_; simp only [Tr.val,pureL,AV.pure,br_true,AV.cells,pure_ints,len_ints,Bool.not_true,Bool.not_false,w1])
  | (refine exW (fun o=>p40_8) ?_; simp only [Tr.val,pureL,AV.pure,br_true,AV.cells,pure_ints,len_ints,Bool.not_true,Bool.not_false,w1])
  | (refine exW (fun o=>p40_9) ?_; simp only [Tr.val,pureL,AV.pure,br_true,AV.cells,pure_ints,len_ints,Bool.not_true,Bool.not_false,w1])
  | (refine exW (fun o=>p40_10) ?_; simp only [Tr.val,pureL,AV.pure,br_true,AV.cells,pure_ints,len_ints,Bool.not_true,Bool.not_false,w1])
  | (refine exW (fun o=>p40_11) ?_; simp only [Tr.val,pureL,AV.pure,br_true,AV.cells,pure_ints,len_ints,Bool.not_true,Bool.not_false,w1])
  | (refine exW (fun o=>p40_12) ?_; simp only [Tr.val,pureL,AV.pure,br_true,AV.cells,pure_ints,len_ints,Bool.not_true,Bool.not_false,w1])
  | (refine exW (fun o=>p40_13) ?_; simp only [Tr.val,pureL,AV.pure,br_true,AV.cells,pure_ints,len_ints,Bool.not_true,Bool.not_false,w1])
  | (refine exW (fun o=>p40_14) ?_; simp only [Tr.val,pureL,AV.pure,br_true,AV.cells,pure_ints,len_ints,Bool.not_true,Bool.not_false,w1])
  | (refine exW (fun o=>p40_15) ?_; simp only [Tr.val,pureL,AV.pure,br_true,AV.cells,pure_ints,len_ints,Bool.not_true,Bool.not_false,w1])
  | (refine exW (fun o=>p40_16) ?_; simp only [Tr.val,pureL,AV.pure,br_true,AV.cells,pure_ints,len_ints,Bool.not_true,Bool.not_false,w1])
  | (refine exW (fun o=>p40_17) ?_; simp only [Tr.val,pureL,AV.pure,br_true,AV.cells,pure_ints,len_ints,Bool.not_true,Bool.not_false,w1])
  | (refine exW (fun o=>p40_18) ?_; simp only [Tr.val,pureL,AV.pure,br_true,AV.cells,pure_ints,len_ints,Bool.not_true,Bool.not_false,w1])
  | (refine exW (fun o=>p40_19) ?_; simp only [Tr.val,pureL,AV.pure,br_true,AV.cells,pure_ints,len_ints,Bool.not_true,Bool.not_false,w1])
  | (refine exW (fun o=>p40_20) ?_; simp only [Tr.val,pureL,AV.pure,br_true,AV.cells,pure_ints,len_ints,Bool.not_true,Bool.not_false,w1])
  | (refine exW (fun o=>p40_21) ?_; simp only [Tr.val,pureL,AV.pure,br_true,AV.cells,pure_ints,len_ints,Bool.not_true,Bool.not_false,w1])
  | (refine exW (fun o=>p40_22) ?_; simp only [Tr.val,pureL,AV.pure,br_true,AV.cells,pure_ints,len_ints,Bool.not_true,Bool.not_false,w1])
  | (refine exW (fun o=>p40_23) ?_; simp only [Tr.val,pureL,AV.pure,br_true,AV.cells,pure_ints,len_ints,Bool.not_true,Bool.not_false,w1])
  | (refine exW (fun o=>p40_24) ?_; simp only [Tr.val,pureL,AV.pure,br_true,AV.cells,pure_ints,len_ints,Bool.not_true,Bool.not_false,w1])
  | (refine exW (fun o=>p40_25) ?_; simp only [Tr.val,pureL,AV.pure,br_true,AV.cells,pure_ints,len_ints,Bool.not_true,Bool.not_false,w1])
  | (refine exW (fun o=>p40_26) ?_; simp only [Tr.val,pureL,AV.pure,br_true,AV.cells,pure_ints,len_ints,Bool.not_true,Bool.not_false,w1])
  | (refine exW (fun o=>p40_27) ?_; simp only [Tr.val,pureL,AV.pure,br_true,AV.cells,pure_ints,len_ints,Bool.not_true,Bool.not_false,w1])
  | (refine exW (fun o=>p40_28) ?_; simp only [Tr.val,pureL,AV.pure,br_true,AV.cells,pure_ints,len_ints,Bool.not_true,Bool.not_false,w1])
  | (refine exW (fun o=>p40_29) ?_; simp only [Tr.val,pureL,AV.pure,br_true,AV.cells,pure_ints,len_ints,Bool.not_true,Bool.not_false,w1])
  | (refine exW (fun o=>p40_30) ?_; simp only [Tr.val,pureL,AV.pure,br_true,AV.cells,pure_ints,len_ints,Bool.not_true,Bool.not_false,w1])
  | (refine exW (fun o=>p40_31) ?_; simp only [Tr.val,pureL,AV.pure,br_true,AV.cells,pure_ints,len_ints,Bool.not_true,Bool.not_false,w1])
  | (refine exW (fun o=>p40_32) ?_; simp only [Tr.val,pureL,AV.pure,br_true,AV.cells,pure_ints,len_ints,Bool.not_true,Bool.not_false,w1])
  | (refine exW (fun o=>p40_33) ?_; simp only [Tr.val,pureL,AV.pure,br_true,AV.cells,pure_ints,len_ints,Bool.not_true,Bool.not_false,w1])
  | (refine exW (fun o=>p40_34) ?_; simp only [Tr.val,pureL,AV.pure,br_true,AV.cells,pure_ints,len_ints,Bool.not_true,Bool.not_false,w1])
  | (refine exW (fun o=>p40_35) ?_; simp only [Tr.val,pureL,AV.pure,br_true,AV.cells,pure_ints,len_ints,Bool.not_true,Bool.not_false,w1])
  | (refine exW (fun o=>p40_36) ?_; simp only [Tr.val,pureL,AV.pure,br_true,AV.cells,pure_ints,len_ints,Bool.not_true,Bool.not_false,w1])
  | (refine .nth (B := 20) rfl (by simp only [List.length_cons,List.length_nil]; omega) fun s hs=>?_; simp only [AV.cells])
  | exact .mk ⟨_,_,rfl,by first | omega | (simp only [List.length_append,List.length_cons,List.length_nil,List.length_drop,List.length_take]; omega)⟩
  | refine .dec (fun h=>?_) (fun h=>?_)
  | refine .both (fun h=>?_) (fun h=>?_))
theorem leaf40 (tg : Bool) (l : List Int) (hl : l.length ≤ 1000000) (d : Int) (hd : 5 < d) (i : Int) : Was (calL C 40 [.vs 1 tg (ints l),.int .i64 i,.int .i64 d] Hp.none 0) (QP 5):=by
 refine exW (fun o=>p40_c hC) (exW (fun o=>p40_0) ?_)
 simp only [Tr.val,pureL,AV.pure,br_true,pure_ints]
 repeat' (first
  | refine .bL (by first | omega | (simp only [List.length_append,List.length_cons,List.length_nil,List.length_drop,List.length_take]; omega)) ?_
  | refine .bT (by omega) ?_
  | refine .bF (by omega) ?_
  | (refine .call (w34 hC _ _ (by omega) _) ?_; rintro o ⟨x,e⟩; simp only [e,AV.pure,br_true]; clear e)
  | (refine .call (w37 hC _) ?_; rintro o ⟨s,e,h1⟩; simp only [e,AV.pure,br_true]; clear e)
  | (refine exW (fun o=>p40_1) ?_; simp only [Tr.val,pureL,AV.pure,br_true,AV.cells,pure_ints,len_ints,Bool.not_true,Bool.not_false])
  | (refine exW (fun o=>p40_2) ?_; simp only [Tr.val,pureL,AV.pure,br_true,AV.cells,pure_ints,len_ints,Bool.not_true,Bool.not_false])
  | (refine .nth (B := 20) rfl (by simp only [List.length_cons,List.length_nil]; omega) fun s hs=>?_; simp only [AV.cells])
  | exact .mk ⟨_,_,rfl,by first | omega | (simp only [List.length_append,List.length_cons,List.length_nil,List.length_drop,List.length_take]; omega)⟩
  | refine .dec (fun h=>?_) (fun h=>?_)
  | refine .both (fun h=>?_) (fun h=>?_))
theorem w40 (tg : Bool) (l : List Int) (hl : l.length ≤ 1000000) (i d : Int) (h0 : 0 ≤ d) (h6 : d ≤ 6) : Was (calL C 40 [.vs 1 tg (ints l),.int .i64 i,.int .i64 d] Hp.none 0) (QP 4000):=by
 have s6 := leaf40 hC tg l hl 6 (by decide)
 have s5 := step40 hC tg l hl 5 (by decide) 5 (by decide) s6
 have s4 := step40 hC tg l hl _ (by decide) 4 (by decide) s5
 have s3 := step40 hC tg l hl _ (by decide) 3 (by decide) s4
 have s2 := step40 hC tg l hl _ (by decide) 2 (by decide) s3
 have s1 := step40 hC tg l hl _ (by decide) 1 (by decide) s2
 have s0 := step40 hC tg l hl _ (by decide) 0 (by decide) s1
 have up : ∀ {B : Nat} (_ : B ≤ 4000) (e : Int) (_ : ∀ i : Int,Was (calL C 40 [.vs 1 tg (ints l),.int .i64 i,.int .i64 e] Hp.none 0) (QP B)),Was (calL C 40 [.vs 1 tg (ints l),.int .i64 i,.int .i64 e] Hp.none 0) (QP 4000) := fun hB e h=>(h i).imp fun o ⟨s,x,e1,e2⟩=>⟨s,x,e1,Nat.le_trans e2 hB⟩
 rcases (by omega : d = 0 ∨ d = 1 ∨ d = 2 ∨ d = 3 ∨ d = 4 ∨ d = 5 ∨ d = 6) with rfl | rfl | rfl | rfl | rfl | rfl | rfl
 ·exact up (by decide) _ s0
 ·exact up (by decide) _ s1
 ·exact up (by decide) _ s2
 ·exact up (by decide) _ s3
 ·exact up (by decide) _ s4
 ·exact up (by decide) _ s5
 ·exact up (by decide) _ s6
end Go.Proofs.YtfdklpkfpmkgeaaGreatDoor
end
