/- Stage laws,printed by gen_p.py. -/
import Derived.Test.YtfdklpkfpmkgeaaGreatDoorM6
import Derived.Test.YtfdklpkfpmkgeaaGreatDoorM8
import Derived.Test.YtfdklpkfpmkgeaaGreatDoorM10
import Derived.Test.YtfdklpkfpmkgeaaGreatDoorM11
import Derived.Test.YtfdklpkfpmkgeaaGreatDoorM12
set_option linter.unusedSimpArgs false
set_option linter.unusedVariables false
set_option linter.unusedSectionVars false
set_option linter.unnecessarySimpa false
section
namespace Go.Proofs.YtfdklpkfpmkgeaaGreatDoor
open Go Go.Vai
attribute [local irreducible] goTo zao mkS
variable {C : Nat → Oracle} {o : Out}



abbrev zph := fun (a : List UInt8) b (c : List AV) d (e : List AV) (f : Int) => mk0 30 [vv 0 (.agg [(.str a),(.vs 3 b c),(.vs 6 d e),(i6 f)])]
theorem p16v0_c (hC : Ext C) {a : List UInt8} {b c : List AV} {d : Int} : LC C o 16 (zph a false b false c d) [(.agg [(.str a),(.vs 3 false b),(.vs 6 false c),(i6 d)])] Hp.none 0 := lC hC
abbrev yS326 := fun (a : List AV) b (c : List UInt8) d (e : List AV) (f : Int) g => mkS 30 [(1,.lp 1 0),(4,.lp 1 2),vv 5 (.vs 6 false a),vv 6 b] [(1,⟨[(.str c),(.vs 3 d e),(.vs 6 false a),(i6 f)],g⟩)] Hp.none 0
theorem p16v0_0 {b c a d} : LR C o 16 [] (zph b false c false a d) (cl0 35 [(.vs 6 false a)] fun e => .br (AV.pure e.v)
(.mid 0 [0,5,0,0] 3 (yS326 a e.v b false c d [])) .none) := lR 5
theorem p16v0_1 {c a d b e} {f : List UInt8} {g : List AV} {h : Int} : LM C o 16 [0,5,0,0] 3 (yS326 c (.agg [(i6 a),(i6 d),(.bool b),(.bool e)]) f false g h []) (.br (decide (a = 1))
(.br (decide (d = 1))
(.br (!e)
(rt (i6 1))
(.br (decide (1 ≤ a))
(.br (!b)
(rt (i6 2))
(rt (i6 0)))
(rt (i6 0))))
(.br (decide (1 ≤ a))
(.br (!b)
(rt (i6 2))
(rt (i6 0)))
(rt (i6 0))))
(.br (decide (1 ≤ a))
(.br (!b)
(rt (i6 2))
(rt (i6 0)))
(rt (i6 0)))) := lM 12
theorem p16v1_c (hC : Ext C) {a : List UInt8} {b c : List AV} {d : Int} : LC C o 16 (zph a false b true c d) [(.agg [(.str a),(.vs 3 false b),(.vs 6 true c),(i6 d)])] Hp.none 0 := lC hC
theorem p16v1_0 {b c a d} : LR C o 16 [] (zph b false c true a d) (cl0 35 [(.vs 6 true a)] fun e => .br (AV.pure e.v)
(.mid 0 [0,5,0,0] 3 (mkS 30 [(1,.lp 1 0),(4,.lp 1 2),(5,.val (.vs 6 true a) (.lL 1 2)),vv 6 e.v] [(1,⟨[(.str b),(.vs 3 false c),(.vs 6 true a),(i6 d)],[2]⟩)] Hp.none 0)) .none) := lR 5
abbrev yS328 := fun (a : List AV) (b c : Int) (d e : Bool) (f : List UInt8) g (h : List AV) (i : Int) j => mkS 30 [(1,.lp 1 0),(4,.lp 1 2),(5,.val (.vs 6 true a) (.lL 1 2)),vv 6 (.agg [(i6 b),(i6 c),(.bool d),(.bool e)])] [(1,⟨[(.str f),(.vs 3 g h),(.vs 6 true a),(i6 i)],j⟩)] Hp.none 0
theorem p16v1_1 {f g c h a d b e} : LM C o 16 [0,5,0,0] 3 (yS328 c a d b e f false g h [2]) (.br (decide (a = 1))
(.br (decide (d = 1))
(.br (!e)
(rt (i6 1))
(.br (decide (1 ≤ a))
(.br (!b)
(rt (i6 2))
(rt (i6 0)))
(rt (i6 0))))
(.br (decide (1 ≤ a))
(.br (!b)
(rt (i6 2))
(rt (i6 0)))
(rt (i6 0))))
(.br (decide (1 ≤ a))
(.br (!b)
(rt (i6 2))
(rt (i6 0)))
(rt (i6 0)))) := lM 12
theorem p16v2_c (hC : Ext C) {a : List UInt8} {b c : List AV} {d : Int} : LC C o 16 (zph a true b false c d) [(.agg [(.str a),(.vs 3 true b),(.vs 6 false c),(i6 d)])] Hp.none 0 := lC hC
theorem p16v2_0 {b c a d} : LR C o 16 [] (zph b true c false a d) (cl0 35 [(.vs 6 false a)] fun e => .br (AV.pure e.v)
(.mid 0 [0,5,0,0] 3 (yS326 a e.v b true c d [1])) .none) := lR 5
theorem p16v2_1 {c a d b e} {f : List UInt8} {g : List AV} {h : Int} : LM C o 16 [0,5,0,0] 3 (yS326 c (.agg [(i6 a),(i6 d),(.bool b),(.bool e)]) f true g h [1]) (.br (decide (a = 1))
(.br (decide (d = 1))
(.br (!e)
(rt (i6 1))
(.br (decide (1 ≤ a))
(.br (!b)
(rt (i6 2))
(rt (i6 0)))
(rt (i6 0))))
(.br (decide (1 ≤ a))
(.br (!b)
(rt (i6 2))
(rt (i6 0)))
(rt (i6 0))))
(.br (decide (1 ≤ a))
(.br (!b)
(rt (i6 2))
(rt (i6 0)))
(rt (i6 0)))) := lM 12
theorem p16v3_c (hC : Ext C) {a : List UInt8} {b c : List AV} {d : Int} : LC C o 16 (zph a true b true c d) [(.agg [(.str a),(.vs 3 true b),(.vs 6 true c),(i6 d)])] Hp.none 0 := lC hC
theorem p16v3_0 {b c a d} : LR C o 16 [] (zph b true c true a d) (cl0 35 [(.vs 6 true a)] fun e => .br (AV.pure e.v)
(.mid 0 [0,5,0,0] 3 (mkS 30 [(1,.lp 1 0),(4,.lp 1 2),(5,.val (.vs 6 true a) (.lL 1 2)),vv 6 e.v] [(1,⟨[(.str b),(.vs 3 true c),(.vs 6 true a),(i6 d)],[1,2]⟩)] Hp.none 0)) .none) := lR 5
theorem p16v3_1 {f g c h a d b e} : LM C o 16 [0,5,0,0] 3 (yS328 c a d b e f true g h [1,2]) (.br (decide (a = 1))
(.br (decide (d = 1))
(.br (!e)
(rt (i6 1))
(.br (decide (1 ≤ a))
(.br (!b)
(rt (i6 2))
(rt (i6 0)))
(rt (i6 0))))
(.br (decide (1 ≤ a))
(.br (!b)
(rt (i6 2))
(rt (i6 0)))
(rt (i6 0))))
(.br (decide (1 ≤ a))
(.br (!b)
(rt (i6 2))
(rt (i6 0)))
(rt (i6 0)))) := lM 12
end Go.Proofs.YtfdklpkfpmkgeaaGreatDoor
end
section
namespace Go.Proofs.YtfdklpkfpmkgeaaGreatDoor
open Go Go.Vai
attribute [local irreducible] goTo zao mkS
def Cn.av (c : Cn) : AV := .agg [.int .i64 c.least,.int .i64 c.most,.bool c.w,.bool c.o]
theorem Was.to {x : Option Out} {A B : AV} (h : Was x (fun o=>o.v = A)) (e : A = B) : Was x (fun o=>o.v = B) := e ▸ h
theorem agg4 {a a' b b' : Int} {c c' d d' : Bool} (h1 : a = a') (h2 : b = b') (h3 : c = c') (h4 : d = d') : AV.agg [.int .i64 a,.int .i64 b,.bool c,.bool d] = .agg [.int .i64 a',.int .i64 b',.bool c',.bool d'] := by subst h1 h2 h3 h4; rfl
def XB (X : List (Nat × Blk)) : Prop := X = [] ∨ (∃ a b c d e f g h i,X = [(5,⟨[.int .i64 a,.str b,.vs 5 c d,.vs 6 e f,.vs 6 g h,.int .i64 i],[]⟩)]) ∨
 ∃ a b c d e f g h i j k l m n o p q,X = [(5,⟨[.int .i64 a,.str b,.vs 5 c d,.vs 6 e f,.vs 6 g h,.int .i64 i],[]⟩),(6,⟨[.int .i64 j,.int .i64 k,.bool l,.bool m],[]⟩),(7,⟨[.int .i64 n,.int .i64 o,.bool p,.bool q],[]⟩)]
theorem XB.one (a : Int) (b : List UInt8) (c : Bool) (d : List AV) (e : Bool) (f : List AV) (g : Bool) (h : List AV) (i : Int) : XB [(5,⟨[.int .i64 a,.str b,.vs 5 c d,.vs 6 e f,.vs 6 g h,.int .i64 i],[]⟩)] := .inr (.inl ⟨a,b,c,d,e,f,g,h,i,rfl⟩)
theorem XB.three (a : Int) (b : List UInt8) (c : Bool) (d : List AV) (e : Bool) (f : List AV) (g : Bool) (h : List AV) (i j k : Int) (l m : Bool) (n o : Int) (p q : Bool) : XB [(5,⟨[.int .i64 a,.str b,.vs 5 c d,.vs 6 e f,.vs 6 g h,.int .i64 i],[]⟩),(6,⟨[.int .i64 j,.int .i64 k,.bool l,.bool m],[]⟩),(7,⟨[.int .i64 n,.int .i64 o,.bool p,.bool q],[]⟩)] := .inr (.inr ⟨a,b,c,d,e,f,g,h,i,j,k,l,m,n,o,p,q,rfl⟩)
variable {C : Nat→Oracle} (hC : Ext C)
set_option maxHeartbeats 4000000 in
theorem cnt_loop (tg : Bool) (L : List Stm) (hL : L.length ≤ 10000) (ih : ∀ l tg,szL l < szL L→Was (calL C 35 [.vs 6 tg (stms l)] Hp.none 0) (fun o=>o.v = (cnL l).av)) (a1 a2 : Int) (a3 a4 : Bool) :
  ∀ (r : List Stm) (i : Nat) (x y : Int) (w u : Bool) (X : List (Nat × Blk)),L.drop i = r→i ≤ L.length→0 ≤ x→x ≤ y→y + szL r ≤ 10000→XB X →
  Was (RL C 35 [0,5,0,5,0,0,5,2,3] (mkS 89 [(2,.lp 2 0),(3,.lp 3 0),(8,.val (.vs 6 tg (stms L)) .no),(9,.val (.int .i64 (L.length : Int)) .no),(10,.val (.int .i64 (i : Int)) .no)] ([(2,⟨[(.int .i64 a1),(.int .i64 a2),(.bool a3),(.bool a4)],[]⟩),(3,⟨[(.int .i64 x),(.int .i64 y),(.bool w),(.bool u)],[]⟩)] ++ X) Hp.none 0))
   (fun o=>o.v = .agg [.int .i64 (x + (cnL r).least),.int .i64 (y + (cnL r).most),.bool (w || (cnL r).w),.bool (u || (cnL r).o)]):=by
 intro r;have hlen : (stms L).length = L.length := by rw [zes,List.length_map]
 induction r with
 | nil =>
  intro i x y w u X hi hil h0 h1 h2 hX;have := zak _ _ hil hi;rw [cnL];simp only [Int.add_zero,Bool.or_false];rcases hX with rfl | ⟨a,b,c,d,e,f,g,h,i',rfl⟩ | ⟨a,b,c,d,e,f,g,h,i',j,k,l,m,n,o,p,q,rfl⟩
  all_goals
   simp only [List.append_nil,List.cons_append,List.nil_append]
   first | refine exW (fun o=>p35_1) ?_ | refine exW (fun o=>p35_3) ?_ | refine exW (fun o=>p35_7) ?_
   exact .bF (by omega) (.mk rfl)
 | cons s r IH =>
  intro i x y w u X hi hil h0 h1 h2 hX;obtain ⟨g1,g2,g3⟩ := zav _ _ hi;obtain ⟨k,nm,v,t1,th,t2,el,at'⟩ := s;have hsz : szL (Stm.mk k nm v t1 th t2 el at' :: r) = 1 + szL th + szL el + szL r := by rw [szL,Stm.sz]
  have hszL : szL L = szL (L.take i) + szL (Stm.mk k nm v t1 th t2 el at' :: r) := by rw [← hi,← zhp,List.take_append_drop]
  have ihT : ∀ tg,szL th < szL L→Was (calL C 35 [.vs 6 tg (stms th)] Hp.none 0) (fun o=>o.v = .agg [.int .i64 (cnL th).least,.int .i64 (cnL th).most,.bool (cnL th).w,.bool (cnL th).o]) := fun tg h=>ih th tg h;have ihE : ∀ tg,szL el < szL L→Was (calL C 35 [.vs 6 tg (stms el)] Hp.none 0) (fun o=>o.v = .agg [.int .i64 (cnL el).least,.int .i64 (cnL el).most,.bool (cnL el).w,.bool (cnL el).o]) := fun tg h=>ih el tg h;have hn : nth (stms L) (Int.toNat (i : Int)) = some (Stm.mk k nm v t1 th t2 el at').av := by rw [Int.toNat_natCast,zcf,zes,List.getElem?_map,g1]; rfl
  obtain ⟨bl,bm,bn⟩ := And.intro (zcq th).l0 (And.intro (zcq th).lm (zcq th).mn);obtain ⟨bl',bm',bn'⟩ := And.intro (zcq el).l0 (And.intro (zcq el).lm (zcq el).mn);have hc : cnL (Stm.mk k nm v t1 th t2 el at' :: r) = ⟨(Stm.mk k nm v t1 th t2 el at').cn.least + (cnL r).least,(Stm.mk k nm v t1 th t2 el at').cn.most + (cnL r).most,(Stm.mk k nm v t1 th t2 el at').cn.w || (cnL r).w,(Stm.mk k nm v t1 th t2 el at').cn.o || (cnL r).o⟩ := by rw [cnL]
  have wi : w64 ((i : Int) + 1) = ((i + 1 : Nat) : Int) := by rw [zb0 (by omega) (by omega)]; omega
  rw [hc];by_cases k6 : k = 6
  ·have hcn : (Stm.mk k nm v t1 th t2 el at').cn = ⟨if (cnL el).least < (cnL th).least then (cnL el).least else (cnL th).least,if (cnL th).most < (cnL el).most then (cnL el).most else (cnL th).most,(cnL th).w || (cnL el).w,(cnL th).o || (cnL el).o⟩ := by rw [Stm.cn,if_pos k6]
   rw [hcn];generalize hm1 : (if (cnL el).least < (cnL th).least then (cnL el).least else (cnL th).least) = m1;generalize hm2 : (if (cnL th).most < (cnL el).most then (cnL el).most else (cnL th).most) = m2;have b1 : 0 ≤ m1∧m1 ≤ m2∧m2 ≤ szL th + szL el := by rw [← hm1,← hm2]; split <;> split <;> omega
   have wx : w64 (x + m1) = x + m1 := zb0 (by omega) (by omega);have wy : w64 (y + m2) = y + m2 := zb0 (by omega) (by omega);have go := fun w' u' X' hX'=>IH (i + 1) (x + m1) (y + m2) w' u' X' g2 (by omega) (by omega) (by omega) (by omega) hX';rcases hX with rfl | ⟨a,b,c,d,e,f,g,h,i',rfl⟩ | ⟨a,b,c,d,e,f,g,h,i',j,k',l,m,n,o,p,q,rfl⟩
   all_goals
    simp only [List.append_nil,List.cons_append,List.nil_append] at go ⊢
    first | refine exW (fun o=>p35_1) ?_ | refine exW (fun o=>p35_3) ?_ | refine exW (fun o=>p35_7) ?_
    simp only [Tr.val,hlen,hn,Option.bind_some,zik,AV.cells];refine .bT (by omega) (.bT (by omega) (.bT (by omega) ?_))
    first | refine exW (fun o=>p35_2) ?_ | refine exW (fun o=>p35_5) ?_ | refine exW (fun o=>p35_8) ?_ | refine exW (fun o=>p35_9) ?_
    simp only [Tr.val,k6,decide_true,Bool.not_true,zaw,za2,AV.pure,za6,za0];refine .call (ihT _ (by omega)) ?_;rintro o e;simp only [e,AV.pure,za2,za0];clear e
    first | refine exW (fun o=>p35_4) ?_ | refine exW (fun o=>p35_8) ?_ | refine exW (fun o=>p35_9) ?_ | refine exW (fun o=>p35_10) ?_
    simp only [Tr.val,za2,AV.pure,za6,za0];refine .call (ihE _ (by omega)) ?_;rintro o e;simp only [e,AV.pure,za2,za0];clear e
    first | refine exW (fun o=>p35_6) ?_ | refine exW (fun o=>p35_8) ?_ | refine exW (fun o=>p35_9) ?_ | refine exW (fun o=>p35_10) ?_
    simp only [Tr.val,hm1,hm2,wx,wy,wi]
    repeat' (refine .both (fun h=>?_) (fun h=>?_))
    all_goals exact Was.to (go _ _ _ (XB.three _ _ _ _ _ _ _ _ _ _ _ _ _ _ _ _ _)) (agg4 (by omega) (by omega) (by simp [*]) (by simp [*]))
  ·have hcn : (Stm.mk k nm v t1 th t2 el at').cn = ⟨1,1,decide (k = 1),!decide (k = 1)⟩ := by rw [Stm.cn,if_neg k6]
   rw [hcn];have wx : w64 (x + 1) = x + 1 := zb0 (by omega) (by omega);have wy : w64 (y + 1) = y + 1 := zb0 (by omega) (by omega);have go := fun w' u' X' hX'=>IH (i + 1) (x + 1) (y + 1) w' u' X' g2 (by omega) (by omega) (by omega) (by omega) hX';rcases hX with rfl | ⟨a,b,c,d,e,f,g,h,i',rfl⟩ | ⟨a,b,c,d,e,f,g,h,i',j,k',l,m,n,o,p,q,rfl⟩
   all_goals
    simp only [List.append_nil,List.cons_append,List.nil_append] at go ⊢
    first | refine exW (fun o=>p35_1) ?_ | refine exW (fun o=>p35_3) ?_ | refine exW (fun o=>p35_7) ?_
    simp only [Tr.val,hlen,hn,Option.bind_some,zik,AV.cells];refine .bT (by omega) (.bT (by omega) (.bT (by omega) ?_))
    first | refine exW (fun o=>p35_2) ?_ | refine exW (fun o=>p35_5) ?_ | refine exW (fun o=>p35_8) ?_ | refine exW (fun o=>p35_9) ?_
    simp only [Tr.val,k6,decide_false,Bool.not_false,za0,wx,wy,wi]
    repeat' (refine .both (fun h=>?_) (fun h=>?_))
    all_goals first
     | exact Was.to (go _ _ _ (XB.one _ _ _ _ _ _ _ _ _)) (agg4 (by omega) (by omega) (by simp [*]) (by simp [*]))
     | exact Was.to (go _ _ _ (XB.three _ _ _ _ _ _ _ _ _ _ _ _ _ _ _ _ _)) (agg4 (by omega) (by omega) (by simp [*]) (by simp [*]))
end Go.Proofs.YtfdklpkfpmkgeaaGreatDoor
end
section
namespace Go.Proofs.YtfdklpkfpmkgeaaGreatDoor
open Go Go.Vai
attribute [local irreducible] goTo zao mkS
theorem len_sz : ∀ l : List Stm,l.length ≤ szL l
 | []=>Nat.zero_le _
 | .mk k s v t1 th t2 el a :: l=>by
  have := len_sz l;rw [szL,Stm.sz,List.length_cons];omega
variable {C : Nat→Oracle} (hC : Ext C)
include hC
theorem w35 : ∀ (N : Nat) (l : List Stm) (tg : Bool),szL l = N→N ≤ 9000→Was (calL C 35 [.vs 6 tg (stms l)] Hp.none 0) (fun o=>o.v = (cnL l).av):=by
 intro N
 induction N using Nat.strongRecOn with
 | _ N ih =>
 intro l tg hl hN;have hlen : (stms l).length = l.length := by rw [zes,List.length_map]
 have := len_sz l;refine exW (fun o=>p35_c hC) (exW (fun o=>p35_0) ?_);have := cnt_loop tg l (by omega) (fun l' tg' h=>ih (szL l') (by omega) l' tg' rfl (by omega)) 0 0 false false l 0 0 0 false false [] rfl (Nat.zero_le _) (by decide) (by decide) (by omega) (.inl rfl);simp only [List.append_nil] at this;simp only [Tr.val,hlen];refine this.to ?_;exact agg4 (by omega) (by omega) (by simp) (by simp)
theorem w16 (o : Opn) (h : szL o.body ≤ 9000) : Was (calL C 16 [o.av] Hp.none 0) (fun q=>q.v = .int .i64 (clsC (cnL o.body))):=by
 obtain ⟨nm,t1,ps,t2,b,a⟩ := o;simp only [Opn.av] at h ⊢;have hc := w35 hC _ b t2 rfl h;unfold Cn.av at hc;generalize cnL b = c at hc ⊢;obtain ⟨l,m,w,u⟩ := c;cases t1 <;> cases t2
 all_goals
  first | refine exW (fun o=>p16v0_c hC) (exW (fun o=>p16v0_0) ?_) | refine exW (fun o=>p16v1_c hC) (exW (fun o=>p16v1_0) ?_) | refine exW (fun o=>p16v2_c hC) (exW (fun o=>p16v2_0) ?_) | refine exW (fun o=>p16v3_c hC) (exW (fun o=>p16v3_0) ?_)
  simp only [Tr.val,za2,AV.pure,za6,za0];refine .call hc ?_;rintro q e;simp only [e,AV.pure,za2,za0]
  first | refine exW (fun o=>p16v0_1) ?_ | refine exW (fun o=>p16v1_1) ?_ | refine exW (fun o=>p16v2_1) ?_ | refine exW (fun o=>p16v3_1) ?_
  simp only [Tr.val,clsC];by_cases h1 : l = 1 <;> by_cases h2 : m = 1 <;> by_cases h3 : 1 ≤ l <;> cases w <;> cases u <;> simp only [h1,h2,h3,decide_true,decide_false,za0,zaw,Bool.not_true,Bool.not_false,and_true,true_and,if_true,if_false,and_false,false_and,Bool.true_eq_false,Bool.false_eq_true] <;> first | exact .mk rfl | (exact absurd (by omega) h3) | skip
  all_goals exact .mk (by simp)
end Go.Proofs.YtfdklpkfpmkgeaaGreatDoor
end
section
namespace Go.Proofs.YtfdklpkfpmkgeaaGreatDoor
open Go Go.Vai
attribute [local irreducible] goTo zao mkS
set_option maxHeartbeats 40000000
def nmO (o : Opn) : Nm := ⟨o.name,o.at_⟩
def scO (t : Typ) (o : Opn) : Sc := { t := t,tg := o.tgP,ps := o.params,q := false }
def opnD (t : Typ) (o : Opn) : List Dg := dupD [] (o.params.map nmP) ++ zew (scO t o) o.body ++ (if clsC (cnL o.body) = 0 then [⟨o.at_,2⟩] else []) ++ (if 4 < (cnL o.body).most then [⟨o.at_,3⟩] else [])
def zku (t : Typ) : List Opn→List Dg
 | []=>[]
 | o :: r=>opnD t o ++ zku t r
def opnW (t : Typ) : List Opn→Nat
 | []=>0
 | o :: r=>o.params.length + wtL (scO t o) o.body + 3 + opnW t r
structure WfO (o : Opn) : Prop where
 wf : WfSL o.body
 bl : o.body.length ≤ 400000
 sz : szL o.body ≤ 9000
 pl : o.params.length ≤ 400000
variable {C : Nat→Oracle} (hC : Ext C)
include hC
theorem w48_opn (t : Typ) (hF : t.fields.length ≤ 1000000) (hI : t.idxs.length ≤ 400000) (T : Hp) (nx : Nat) (tL : Bool) (L : List Opn) (hL : L.length ≤ 400000) {Q : Out→Prop} : ∀ (r : List Opn) (i : Nat) (tg : Bool) (l : List Dg) (ct : Bool) (cs : List Nm),L.drop i = r→i ≤ L.length→(∀ y ∈ r,WfO y)→cs.length + r.length ≤ 400000→l.length + opnW t r + cs.length ≤ 1000000 →
  (∀ tg' ct',Was (RL C 48 [0,5,0,5,0,5,0,0,5,2,3] (mkS 144 [(0,.val (.ptr 0 0) .no),(3,.lp 3 0),(4,.val (.vs 2 ct' ((cs ++ r.map nmO).map Nm.av)) .own),(20,.val (.vs 4 tL (List.map Opn.av L)) .no),(21,.val (.int .i64 (L.length : Int)) .no),(22,.val (.int .i64 (L.length : Int)) .no)] [(3,⟨(Typ.cs t),[]⟩)] (hD tg' (l ++ zku t r) T) nx)) Q) →
  Was (RL C 48 [0,5,0,5,0,5,0,0,5,2,3] (mkS 144 [(0,.val (.ptr 0 0) .no),(3,.lp 3 0),(4,.val (.vs 2 ct (cs.map Nm.av)) .own),(20,.val (.vs 4 tL (List.map Opn.av L)) .no),(21,.val (.int .i64 (L.length : Int)) .no),(22,.val (.int .i64 (i : Int)) .no)] [(3,⟨(Typ.cs t),[]⟩)] (hD tg l T) nx)) Q:=by
 intro r
 induction r with
 | nil =>
  intro i tg l ct cs hi hil hr hc hb K;have := zak _ _ hil hi;have h := K tg ct;rw [List.map_nil,List.append_nil,zku,List.append_nil] at h;rw [show i = L.length by omega];exact h
 | cons y r ih =>
  intro i tg l ct cs hi hil hr hc hb K;obtain ⟨h1,h2,h3⟩ := zav _ _ hi;obtain ⟨y1,y2,y3,y4⟩ := hr y List.mem_cons_self;rw [List.length_cons] at hc;rw [opnW] at hb;have hw := wi64 h3 (by omega);have hcs : cs.map Nm.av ++ [.agg [.str y.name,.int .i64 y.at_]] = (cs ++ [nmO y]).map Nm.av := (List.map_append (f := Nm.av) (l₁ := cs) (l₂ := [nmO y])).symm;have go : ∀ tg' D,D = l ++ opnD t y→Was (RL C 48 [0,5,0,5,0,5,0,0,5,2,3] (mkS 144 [(0,.val (.ptr 0 0) .no),(3,.lp 3 0),(4,.val (.vs 2 false (cs.map Nm.av ++ [.agg [.str y.name,.int .i64 y.at_]])) .own),(20,.val (.vs 4 tL (List.map Opn.av L)) .no),(21,.val (.int .i64 (L.length : Int)) .no),(22,.val (.int .i64 (w64 ((i : Int) + 1))) .no)] [(3,⟨(Typ.cs t),[]⟩)] (hD tg' D T) nx)) Q:=by
   intro tg' D e;rw [hw,hcs,e];have d1 : (dupD [] (y.params.map nmP)).length ≤ y.params.length:=by
    have := zbx (y.params.map nmP) []
    rwa [List.length_map] at this
   have d2 := zdu (scO t y) y.body;have d3 := zgn (p := clsC (cnL y.body) = 0) ⟨y.at_,2⟩;have d4 := zgn (p := 4 < (cnL y.body).most) ⟨y.at_,3⟩;refine ih (i + 1) tg' _ false (cs ++ [nmO y]) h2 (by omega) (fun z hz=>hr z (List.mem_cons_of_mem _ hz)) (by rw [List.length_append,List.length_cons,List.length_nil]; omega) ?_ (fun a b=>?_)
   ·unfold opnD;simp only [List.length_append,List.length_cons,List.length_nil];omega
   ·have h := K a b;rw [zku,List.map_cons,← List.append_assoc] at h;rw [List.append_assoc cs,List.singleton_append];exact h
  refine exW (fun o=>p48_2) ?_;simp only [Tr.val,List.length_map,Int.toNat_natCast,zam,h1,Option.map_some,Option.bind_some,Opn.av_cs,zah];refine .bT (by omega) (.bT (by omega) (.bT (by omega) ?_));refine exW (fun o=>p48_3) ?_;simp only [Tr.val,List.length_map];refine .brn (zaa (by omega)) (.brn (zaa (by omega)) ?_);refine .call (w87 hC T nx y.tgP y.params y4 tg l (by omega)) ?_;rintro o ⟨t1,rfl⟩;have d1 := zbx (y.params.map fun x=>⟨x.name,x.at_⟩) [];rw [List.length_map] at d1;have d2 := zdu (scO t y) y.body;refine exW (fun o=>p48_5) ?_;refine .call (w89 hC (scO t y) hF (by show y.params.length ≤ 1000000; omega) T nx y.tgB y.body y2 y1 t1 _ (by rw [List.length_append]; omega)) ?_;rintro o ⟨t2,rfl⟩;refine exW (fun o=>p48_8) ?_;refine .brn (by simp only [AV.pure,za2,zab,za0]) ?_;refine .call (by have h := w16 hC y y3; rw [Opn.av_cs] at h; exact h) ?_;rintro o e;simp only [e,AV.pure,za0];refine exW (fun o=>p48_11) ?_;refine .dec (fun hc0=>?_) (fun hc0=>?_)
  ·refine .call (w84 hC T nx t2 _ (by simp only [List.length_append]; omega) _ _) ?_;rintro o ⟨t3,rfl⟩;refine exW (fun o=>p48_14) ?_;refine .brn (by simp only [AV.pure,za2,za6,za0]) ?_;refine .call (w35 hC _ y.body y.tgB rfl y3) ?_;rintro o e;simp only [e,Cn.av,AV.pure,za2,za0];refine exW (fun o=>p48_17) ?_;refine .dec (fun h4=>?_) (fun h4=>?_)
   ·refine .call (w84 hC T nx t3 _ (by simp only [List.length_append,List.length_cons,List.length_nil]; omega) _ _) ?_;rintro o ⟨t4,rfl⟩;refine exW (fun o=>p48_20) ?_;exact go t4 _ (by unfold opnD; rw [if_pos hc0,if_pos h4]; simp only [← List.append_assoc]; rfl)
   ·exact go t3 _ (by unfold opnD; rw [if_pos hc0,if_neg h4,List.append_nil]; simp only [← List.append_assoc]; rfl)
  ·refine .brn (by simp only [AV.pure,za2,za6,za0]) ?_;refine .call (w35 hC _ y.body y.tgB rfl y3) ?_;rintro o e;simp only [e,Cn.av,AV.pure,za2,za0];refine exW (fun o=>p48_15) ?_;refine .dec (fun h4=>?_) (fun h4=>?_)
   ·refine .call (w84 hC T nx t2 _ (by simp only [List.length_append]; omega) _ _) ?_;rintro o ⟨t4,rfl⟩;refine exW (fun o=>p48_18) ?_;exact go t4 _ (by unfold opnD; rw [if_neg hc0,if_pos h4,List.append_nil]; simp only [← List.append_assoc]; rfl)
   ·exact go t2 _ (by unfold opnD; rw [if_neg hc0,if_neg h4,List.append_nil,List.append_nil]; simp only [← List.append_assoc]; rfl)
end Go.Proofs.YtfdklpkfpmkgeaaGreatDoor
end
section
namespace Go.Proofs.YtfdklpkfpmkgeaaGreatDoor
open Go Go.Vai
attribute [local irreducible] goTo zao mkS
set_option maxHeartbeats 40000000
def nmF (f : Fld) : Nm := ⟨f.name,f.at_⟩
def typD (t : Typ) : List Dg := dupD [] (t.fields.map nmF) ++ zku t t.ops ++ zmr t t.qrys ++ dupD [] (t.ops.map nmO ++ t.qrys.map nmY) ++ dupD [] (t.idxs.map nmX) ++ zjm t t.idxs
def typW (t : Typ) : Nat := t.fields.length + opnW t t.ops + qryW t t.qrys + t.ops.length + t.qrys.length + 2 * t.idxs.length
structure WfT (t : Typ) : Prop where
 fl : t.fields.length ≤ 400000
 il : t.idxs.length ≤ 400000
 ol : t.ops.length + t.qrys.length ≤ 400000
 ops : ∀ o ∈ t.ops,WfO o
 qrys : ∀ y ∈ t.qrys,WfY y
theorem zki (t : Typ) : ∀ r : List Opn,(zku t r).length ≤ opnW t r
 | []=>Nat.le_refl _
 | y :: r=>by
  have h := zki t r;have d1 : (dupD [] (y.params.map nmP)).length ≤ y.params.length:=by
   have := zbx (y.params.map nmP) []
   rwa [List.length_map] at this
  have d2 := zdu (scO t y) y.body;have d3 := zgn (p := clsC (cnL y.body) = 0) ⟨y.at_,2⟩;have d4 := zgn (p := 4 < (cnL y.body).most) ⟨y.at_,3⟩;rw [zku,opnW];unfold opnD;simp only [List.length_append];omega
variable {C : Nat→Oracle} (hC : Ext C)
include hC
theorem w48 (t : Typ) (ht : WfT t) (T : Hp) (nx : Nat) (tg : Bool) (l : List Dg) (hb : l.length + typW t ≤ 1000000) : Was (calL C 48 [.ptr 0 0,.agg t.cs] (hD tg l T) nx) (QD (l ++ typD t) T nx):=by
 obtain ⟨fl,il,ol,hO,hQ⟩ := ht;unfold typW at hb;refine exW (fun o=>p48_c hC) (exW (fun o=>p48_0) ?_);refine .call (w85 hC T nx t.tgF t.fields fl tg l (by omega)) ?_;rintro o ⟨t1,rfl⟩;have d1 := zbx (t.fields.map fun x=>⟨x.name,x.at_⟩) [];rw [List.length_map] at d1;have d2 := zki t t.ops;refine exW (fun o=>p48_1) ?_;simp only [Tr.val,List.length_map];refine w48_opn hC t (by omega) il T nx t.tgO t.ops (by omega) t.ops 0 t1 _ true [] rfl (Nat.zero_le _) hO (by simp only [List.length_nil]; omega) (by rw [List.length_append]; simp only [List.length_nil]; omega) ?_;intro t2 ct;refine exW (fun o=>p48_2) ?_;refine .bF (by omega) ?_;simp only [Tr.val,List.length_map];have h := w48_qry hC t (by omega) il T nx t.tgQ t.qrys (by omega) t.qrys 0 t2 (l ++ dupD [] (t.fields.map fun x=>⟨x.name,x.at_⟩) ++ zku t t.ops) ct (t.ops.map nmO) rfl (Nat.zero_le _) hQ (by rw [List.length_map]; omega) (by simp only [List.length_append,List.length_map]; omega);unfold typD;simp only [← List.append_assoc];exact h
end Go.Proofs.YtfdklpkfpmkgeaaGreatDoor
end
section
namespace Go.Proofs.YtfdklpkfpmkgeaaGreatDoor
open Go Go.Vai
attribute [local irreducible] goTo zao mkS
variable {C : Nat → Oracle} {o : Out}
abbrev qT0 : List Nat := [0,5,0,5,0,5,0,0,5,2,3,0,5,0,7,5,5,5,5,0,5,0]
theorem p21_c (hC : Ext C) {a : Bool} {b : List Typ} : LC C o 21 (mk0 33 [vv 0 (.agg [(.vs 6 a (b.map Typ.av))])]) [(.agg [(.vs 6 a (b.map Typ.av))])] Hp.none 0 := lC hC
abbrev yS330 := fun (a : Bool) (b : List Typ) c d e => mkS 33 [(1,.lp 1 0),vv 3 (.ptr 0 0),vv 8 (.ptr 0 0),(9,.lp 1 0),vv 10 (.vs 6 a (b.map Typ.av)),vv 11 c] [(1,⟨[(.vs 6 a (b.map Typ.av))],[]⟩)] d e
theorem p21_0 {a} {b : List Typ} : LR C o 21 [] (mk0 33 [vv 0 (.agg [(.vs 6 a (b.map Typ.av))])]) (.call 46 [(.ptr 0 0),(.vs 6 a (b.map Typ.av)),(.func 47 [])] ((0,⟨[(.vs 2 true [])],[0]⟩) :: Hp.none) 1 fun c =>
(.mid 0 [0,5,0,5,0] 4 (yS330 a b c.v c.H c.nx))) := lR 6
abbrev yS331 := fun (a : Bool) (b : List Typ) c d (e : Bool) (f : List AV) => mkS 33 [vv 3 (.ptr 0 0),vv 13 (.vs 6 a (b.map Typ.av)),vi 14 c,vi 15 d] [] ((0,⟨[(.vs 2 e f)],[0]⟩) :: Hp.none) 1
theorem p21_1 {a c b d} : LM C o 21 [0,5,0,5,0] 4 (yS330 a b (.tuple []) ((0,⟨[(.vs 2 c d)],[0]⟩) :: Hp.none) 1) (.run 0 [0,5,0,5,0,5,0,0,5,2,3] (yS331 a b ((b.map Typ.av).length : Int) 0 c d)) := lM 5
abbrev yS332 := fun (a : Bool) (b : List Typ) c d e (f : Bool) (g : List AV) => mkS 33 [vv 3 (.ptr 0 0),vv 13 (.vs 6 a (b.map Typ.av)),vi 14 c,vi 15 d,vb 16 true,vv 17 (.cptr e)] [] ((0,⟨[(.vs 2 f g)],[0]⟩) :: Hp.none) 1
abbrev yS333 := fun a b (c : List AV) => mkS 33 [vv 3 (.ptr 0 0),vi 14 a,vi 15 b,vb 16 false,vv 23 (.ptr 0 0),vv 24 (.ptr 0 0),vv 25 (.ptr 0 0),vv 27 (.tuple [])] [] ((0,⟨[(.vs 2 false c)],[0]⟩) :: Hp.none) 1
theorem p21_2 {d e f c b a} : LR C o 21 [0,5,0,5,0,5,0,0,5,2,3] (yS331 d f c b e a) (.br (decide (b < c))
(ix (f.map Typ.av) b fun h =>
(.mid 0 [0,5,0,5,0,5,0,0,5,2,3,0,5,0,6,5,0,2,0] 1 (yS332 d f c b (AV.cells h) e a)))
(.br (zbz 2 a)
(.bind (zl2 [50] a) fun g =>
(.br (zbz 2 g.2 && (Nat.beq g.2.length a.length && Nat.ble g.1 a.length))
(.mid 2 [0,5,0,5,0,5,0,0,5,2,3,0,5,0,7,5,5,5,5,0] 5 (yS333 c b g.2)) .none)) .none)) := lR 9
abbrev yS334 := fun (a : Bool) (b : List Typ) c d (e : Typ) f g h => mkS 33 [vv 3 (.ptr 0 0),(5,.lp 5 0),vv 13 (.vs 6 a (b.map Typ.av)),vi 14 c,vi 15 d,vv 19 (.ptr 0 0),vv 20 (.agg (Typ.cs e)),vv 21 f] [(5,⟨(Typ.cs e),[]⟩)] g h
theorem p21_3 {b e f g a} {c : Bool} {d : List AV} : LM C o 21 [0,5,0,5,0,5,0,0,5,2,3,0,5,0,6,5,0,2,0] 1 (yS332 b e f g (Typ.cs a) c d) (.call 48 [(.ptr 0 0),(.agg (Typ.cs a))] ((0,⟨[(.vs 2 c d)],[0]⟩) :: Hp.none) 1 fun h =>
(.mid 0 [0,5,0,5,0,5,0,0,5,2,3,0,5,0,6,5,0,2,0,5] 3 (yS334 b e f g a h.v h.H h.nx))) := lM 1
abbrev yS335 := fun (a b : List AV) => mkS 33 [vv 3 (.ptr 0 0),vv 28 (.ptr 0 0),vv 29 (.ptr 0 0),vv 30 (.ptr 0 0),vv 32 (.vs 2 false a)] [] ((0,⟨[(.vs 2 false b)],[0]⟩) :: Hp.none) 1
theorem p21_4 {c d a} : LM C o 21 [0,5,0,5,0,5,0,0,5,2,3,0,5,0,7,5,5,5,5,0] 5 (yS333 c d a) (.br (zbz 2 a)
(.bind (zec [] a) fun b =>
(.br (zbz 2 b.2 && (Nat.beq b.2.length a.length && Nat.ble b.1 a.length))
(.mid 0 qT0 5 (yS335 (List.take b.1 b.2) b.2)) .none)) .none) := lM 2
theorem p21_5 {b a e f g c d} : LM C o 21 [0,5,0,5,0,5,0,0,5,2,3,0,5,0,6,5,0,2,0,5] 3 (yS334 b e f g c (.tuple []) ((0,⟨[(.vs 2 a d)],[0]⟩) :: Hp.none) 1) (.run 0 [0,5,0,5,0,5,0,0,5,2,3] (yS331 b e f (w64 (g + 1)) a d)) := lM 3
theorem p21_6 {a b} : LM C o 21 qT0 5 (yS335 a b) (.ret ⟨(.vs 2 false a),((0,⟨[(.vs 2 false b)],[0]⟩) :: Hp.none),1⟩) := lM 1
end Go.Proofs.YtfdklpkfpmkgeaaGreatDoor
end
section
namespace Go.Proofs.YtfdklpkfpmkgeaaGreatDoor
open Go Go.Vai
attribute [local irreducible] goTo zao mkS
set_option maxHeartbeats 40000000
def nmT (t : Typ) : Nm := ⟨t.name,t.at_⟩
def zit : List Typ→List Dg
 | []=>[]
 | t :: r=>typD t ++ zit r
def zhv : List Typ→Nat
 | []=>0
 | t :: r=>typW t + zhv r
def chkD (ts : List Typ) : List Dg := dupD [] (ts.map nmT) ++ zit ts
theorem znx (t : Typ) : ∀ r : List Qry,(zmr t r).length ≤ qryW t r
 | []=>Nat.le_refl _
 | y :: r=>by
  have h := znx t r;have d1 : (dupD [] (y.params.map nmP)).length ≤ y.params.length:=by
   have := zbx (y.params.map nmP) []
   rwa [List.length_map] at this
  rw [zmr,qryW];unfold qryD;simp only [List.length_append];omega
theorem zo4 (t : Typ) : ∀ r : List Idx,(zjm t r).length ≤ r.length
 | []=>Nat.le_refl _
 | x :: r=>by
  have h := zo4 t r;have h1 : (znh t x).length ≤ 1:=by
   unfold znh;split
   ·exact Nat.le_refl _
   ·exact zgn _
  rw [zjm,List.length_append,List.length_cons];omega
theorem zm1 (t : Typ) : (typD t).length ≤ typW t:=by
 have d1 := zbx (t.fields.map nmF) [];have d2 := zki t t.ops;have d3 := znx t t.qrys;have d4 := zbx (t.ops.map nmO ++ t.qrys.map nmY) [];have d5 := zbx (t.idxs.map nmX) [];have d6 := zo4 t t.idxs;unfold typD typW;simp only [List.length_append,List.length_map] at *;omega
def dgp (d : Dg) : Int × Int := (d.at_,d.err)
def dgq (p : Int × Int) : Dg := ⟨p.1,p.2⟩
def srtP (D : List Dg) : List (Int × Int) := ddP (zfo (D.map dgp))
def DgOk (D : List Dg) : Prop := ∀ d ∈ D,bdOk d.at_ = true∧bdOk d.err = true
theorem zqg : ∀ {D : List Dg},DgOk D→dgPs (D.map Dg.av) = some (D.map dgp)
 | [],_=>rfl
 | d :: D,h=>by
  have h1 := h d List.mem_cons_self;have h2 := zqg (D := D) (fun x hx=>h x (List.mem_cons_of_mem _ hx));rw [List.map_cons,dgPs,h2];have : dgP d.av = some (dgp d):=by
   show (match bdOk d.at_ && bdOk d.err with | true=>some (d.at_,d.err) | false=>none) = _;rw [h1.1,h1.2];rfl
  rw [this];rfl
theorem zg8 : ∀ l : List (Int × Int),zbz 2 (l.map pAV) = true
 | []=>rfl
 | p :: l=>by
  show (match Nat.beq 2 2 && true with | true=>zbz 2 (l.map pAV) | false=>false) = true;exact zg8 l
theorem dgq_dgp (D : List Dg) : (D.map dgp).map pAV = D.map Dg.av:=by
 rw [List.map_map];rfl
theorem zvx (D : List Dg) : zbz 2 (D.map Dg.av) = true := by rw [← dgq_dgp]; exact zg8 _
theorem zpq : ∀ l : List (Int × Int),(ddP l).length ≤ l.length
 | []=>Nat.le_refl _
 | [p]=>Nat.le_refl _
 | p :: q :: l=>by
  have ih := zpq (q :: l);show (match decide (p = q) with | true=>ddP (q :: l) | false=>p :: ddP (q :: l)).length ≤ _;split
  ·exact Nat.le_succ_of_le ih
  ·exact Nat.succ_le_succ ih
theorem zqx (p : Int × Int) : ∀ l,(insP p l).length = l.length + 1
 | []=>rfl
 | q :: l=>by
  rw [insP];split
  ·rfl
  ·rw [List.length_cons,zqx p l,List.length_cons]
theorem zgs : ∀ l,(zfo l).length = l.length
 | []=>rfl
 | p :: l=>by rw [zfo,zqx,zgs l,List.length_cons]
theorem zrw {p x : Int × Int} : ∀ {l},x ∈ insP p l→x = p ∨ x ∈ l
 | [],h=>.inl (List.mem_singleton.1 h)
 | q :: l,h=>by
  rw [insP] at h;split at h
  ·exact List.mem_cons.1 h
  ·rcases List.mem_cons.1 h with rfl | h
   ·exact .inr List.mem_cons_self
   ·rcases zrw h with h | h
    ·exact .inl h
    ·exact .inr (List.mem_cons_of_mem _ h)
theorem zkm {x : Int × Int} : ∀ {l},x ∈ zfo l→x ∈ l
 | [],h=>h
 | p :: l,h=>by
  rcases zrw h with rfl | h
  ·exact List.mem_cons_self
  ·exact List.mem_cons_of_mem _ (zkm h)
theorem zna {x : Int × Int} : ∀ {l},x ∈ ddP l→x ∈ l
 | [],h=>h
 | [p],h=>h
 | p :: q :: l,h=>by
  have h' : x ∈ (match decide (p = q) with | true=>ddP (q :: l) | false=>p :: ddP (q :: l)) := h;split at h'
  ·exact List.mem_cons_of_mem _ (zna h')
  ·rcases List.mem_cons.1 h' with rfl | h'
   ·exact List.mem_cons_self
   ·exact List.mem_cons_of_mem _ (zna h')
theorem srtP_mem {x : Int × Int} {D : List Dg} (h : x ∈ srtP D) : ∃ d ∈ D,x = dgp d:=by
 obtain ⟨d,h1,h2⟩ := List.mem_map.1 (zkm (zna h));exact ⟨d,h1,h2.symm⟩
theorem oc_sort {D : List Dg} (h : DgOk D) (hl : D.length ≤ 1000000) : zl2 [50] (D.map Dg.av) = some (0,(zfo (D.map dgp)).map pAV):=by
 show (match dgL (D.map Dg.av) with | some ds=>some (0,(zfo ds).map pAV) | none=>none) = _;have : dgL (D.map Dg.av) = some (D.map dgp):=by
  unfold dgL;rw [Nat.ble_eq.mpr (by rw [List.length_map]; omega)];exact zqg h
 rw [this]
theorem oc_comp {l : List (Int × Int)} (h : ∀ p ∈ l,bdOk p.1 = true∧bdOk p.2 = true) (hl : l.length ≤ 1000000) : zec [] (l.map pAV) = some ((ddP l).length,(ddP l).map pAV ++ List.replicate (l.length - (ddP l).length) (pAV (0,0))):=by
 show (match dgL (l.map pAV) with | some ds=>_ | none=>none) = _;have : dgL (l.map pAV) = some l:=by
  unfold dgL;rw [Nat.ble_eq.mpr (by rw [List.length_map]; omega)];have h' : DgOk (l.map dgq) := fun d hd=>by
   obtain ⟨p,hp,rfl⟩ := List.mem_map.1 hd;exact h p hp
  have e := zqg h';rw [show (l.map dgq).map Dg.av = l.map pAV by rw [List.map_map]; rfl,show (l.map dgq).map dgp = l by rw [List.map_map]; exact List.map_id _] at e;exact e
 rw [this]
theorem zlu : ∀ (a b : List AV),zbz 2 a = true→zbz 2 b = true→zbz 2 (a ++ b) = true
 | [],_,_,h=>h
 | x :: a,b,h,h'=>by
  rw [zbz] at h;rw [List.cons_append,zbz];split at h
  ·exact zlu a b h h'
  ·cases h
variable {C : Nat→Oracle} (hC : Ext C)
include hC
theorem w21_loop (tL : Bool) (L : List Typ) (hL : L.length ≤ 400000) (D : List Dg) (hK : DgOk D) (hDl : D.length ≤ 1000000) : ∀ (r : List Typ) (i : Nat) (tg : Bool) (l : List Dg),L.drop i = r→i ≤ L.length→(∀ t ∈ r,WfT t)→l.length + zhv r ≤ 1000000→D = l ++ zit r →
  Was (RL C 21 [0,5,0,5,0,5,0,0,5,2,3] (mkS 33 [(3,.val (.ptr 0 0) .no),(13,.val (.vs 6 tL (L.map Typ.av)) .no),(14,.val (.int .i64 (L.length : Int)) .no),(15,.val (.int .i64 (i : Int)) .no)] [] (hD tg l Hp.none) 1)) (fun o=>o.v = .vs 2 false ((srtP D).map pAV)):=by
 intro r
 induction r with
 | nil =>
  intro i tg l hi hil hr hb e;have := zak _ _ hil hi;rw [zit,List.append_nil] at e;subst e;refine exW (fun o=>p21_2) ?_;simp only [Tr.val,List.length_map];refine .bF (by omega) (.brn (zvx _) ?_);rw [oc_sort hK hDl];simp only [Option.bind_some,List.length_map,zgs,zg8];refine .brn (by simp) ?_;refine exW (fun o=>p21_4) ?_;have hs : ∀ p ∈ zfo (D.map dgp),bdOk p.1 = true∧bdOk p.2 = true := fun p hp=>by
   obtain ⟨d,h1,rfl⟩ := List.mem_map.1 (zkm hp);exact hK d h1
  simp only [Tr.val];refine .brn (zg8 _) ?_;rw [oc_comp hs (by rw [zgs,List.length_map]; exact hDl)];simp only [Option.bind_some];have hdl := zpq (zfo (D.map dgp));refine .brn ?_ ?_
  ·rw [Bool.and_eq_true,Bool.and_eq_true];refine ⟨zlu _ _ (zg8 _) (by rw [← List.map_replicate (f := pAV)]; exact zg8 _),Nat.beq_eq.mpr ?_,Nat.ble_eq.mpr ?_⟩
   ·simp only [List.length_append,List.length_map,List.length_replicate];omega
   ·rw [List.length_map];exact hdl
  ·refine exW (fun o=>p21_6) (.mk ?_);show AV.vs 2 false (List.take (ddP (zfo (D.map dgp))).length _) = _;rw [List.take_append_of_le_length (by rw [List.length_map]; exact Nat.le_refl _),← List.length_map (f := pAV),List.take_length];rfl
 | cons t r ih =>
  intro i tg l hi hil hr hb e;obtain ⟨h1,h2,h3⟩ := zav _ _ hi;rw [zhv] at hb;refine exW (fun o=>p21_2) ?_;simp only [Tr.val,List.length_map,Int.toNat_natCast,zam,h1,Option.map_some,Option.bind_some,Typ.av_cs,zah];refine .bT (by omega) (.bT (by omega) (.bT (by omega) ?_));refine exW (fun o=>p21_3) ?_;simp only [Tr.val,AV.pure,za2,zag,zad,za0];refine .call (w48 hC t (hr t List.mem_cons_self) Hp.none 1 tg l (by omega)) ?_;rintro o ⟨t1,rfl⟩;simp only [AV.pure,za2,za0];refine exW (fun o=>p21_5) ?_;simp only [Tr.val];rw [wi64 h3 (by omega)];have := zm1 t;exact ih (i + 1) t1 _ h2 (by omega) (fun x hx=>hr x (List.mem_cons_of_mem _ hx)) (by rw [List.length_append]; omega) (by rw [e,zit,List.append_assoc])
theorem w21 (tL : Bool) (L : List Typ) (hL : L.length ≤ 400000) (hw : ∀ t ∈ L,WfT t) (hb : L.length + zhv L ≤ 1000000) (hK : DgOk (chkD L)) : Was (calL C 21 [.agg [.vs 6 tL (L.map Typ.av)]] Hp.none 0) (fun o=>o.v = .vs 2 false ((srtP (chkD L)).map pAV)):=by
 refine exW (fun o=>p21_c hC) (exW (fun o=>p21_0) ?_);simp only [Tr.val,AV.pure,za2,za7,za0];refine .call (w46 hC Hp.none 1 tL L hL true [] (by simp only [List.length_nil]; omega)) ?_;rintro o ⟨t1,rfl⟩;simp only [AV.pure,za2,za0,List.nil_append];refine exW (fun o=>p21_1) ?_;simp only [Tr.val,List.length_map];have d1 := zbx (L.map fun x=>(⟨x.name,x.at_⟩ : Nm)) [];rw [List.length_map] at d1;have d2 : ∀ r : List Typ,(zit r).length ≤ zhv r := fun r=>by
  induction r with
  | nil=>exact Nat.le_refl _
  | cons t r ih =>
   have := zm1 t;rw [zit,zhv,List.length_append];omega
 have := d2 L;exact w21_loop hC tL L hL _ hK (by unfold chkD; rw [List.length_append]; exact Nat.le_trans (Nat.add_le_add (show (dupD [] (L.map nmT)).length ≤ L.length from d1) this) hb) L 0 t1 _ rfl (Nat.zero_le _) hw (by omega) rfl
end Go.Proofs.YtfdklpkfpmkgeaaGreatDoor
end
section
namespace Go.Proofs.YtfdklpkfpmkgeaaGreatDoor
open Go Go.Vai
mutual
def Stm.ws : Stm→Nat
 | .mk _ _ v _ th _ el _=>szE v + 3 + stW th + stW el
def stW : List Stm→Nat
 | []=>0
 | z :: l=>z.ws + stW l
end
theorem zld : ∀ a b : List Stm,stW (a ++ b) = stW a + stW b
 | [],b=>by rw [List.nil_append,stW,Nat.zero_add]
 | e :: a,b=>by rw [List.cons_append,stW,stW,zld a b,Nat.add_assoc]
theorem ws3 : ∀ z : Stm,3 ≤ z.ws
 | .mk _ _ v _ th _ el _=>by rw [Stm.ws]; omega
theorem zn4 : ∀ l : List Stm,l.length ≤ stW l
 | []=>Nat.le_refl _
 | z :: l=>by
  have := zn4 l;have := ws3 z;rw [stW,List.length_cons];omega
theorem WfSL.app : ∀ {l : List Stm} {z : Stm},WfSL l→WfS z→WfSL (l ++ [z])
 | [],_,_,hz=>⟨hz,trivial⟩
 | _ :: _,_,hl,hz=>⟨hl.1,WfSL.app hl.2 hz⟩
theorem zvf (k : Int) (s : List UInt8) (v : List Ex) (t1 : Bool) (th : List Stm) (t2 : Bool) (el : List Stm) (a : Int) : (valS (.mk k s v t1 th t2 el a)).sz ≤ szE v + 1:=by
 cases v with
 | nil=>exact Nat.le_add_left 1 _
 | cons e v =>
  show e.sz ≤ szE (e :: v) + 1;rw [szE];omega
mutual
theorem wtS_ws (w : Sc) : ∀ z : Stm,wtS w z ≤ z.ws
 | .mk k s v t1 th t2 el a=>by
  have h1 := zrj w th;have h2 := zrj w el;have h3 := zfh w (valS (.mk k s v t1 th t2 el a));have h4 := zvf k s v t1 th t2 el a;rw [wtS,Stm.ws];omega
theorem zrj (w : Sc) : ∀ l : List Stm,wtL w l ≤ stW l
 | []=>Nat.le_refl _
 | z :: l=>by
  have h1 := wtS_ws w z;have h2 := zrj w l;rw [wtL,stW];omega
end
theorem zs0 {k : Int} {s : List UInt8} {v : List Ex} {t1 : Bool} {th : List Stm} {t2 : Bool} {el : List Stm} {a : Int} (h1 : k ≠ 5→WfE (valS (.mk k s v t1 th t2 el a))) (hw : (Stm.mk k s v t1 th t2 el a).ws ≤ 400000) (h2 : WfSL th) (h3 : WfSL el) : WfS (.mk k s v t1 th t2 el a):=by
 have e1 := zvf k s v t1 th t2 el a;have e2 := zn4 th;have e3 := zn4 el;rw [Stm.ws] at hw;exact ⟨h1,by omega,by omega,by omega,h2,h3⟩
theorem st_wf : ∀ f : Nat,(∀ tg l p r,Ok p→blkL f tg l p = some r→(WfSL l→WfSL r.1.2)∧stW r.1.2 + 4 * mu r.2 ≤ stW l + 4 * mu p)∧(∀ p r,Ok p→p.err = 0→stF f p = some r→WfS r.1∧r.1.ws + 4 * mu r.2 ≤ 4 * mu p)
 | 0=>⟨fun _ _ _ _ _ h=>(by rw [blkL] at h; cases h),fun _ _ _ _ h=>(by rw [stF] at h; cases h)⟩
 | f + 1=>by
  obtain ⟨i1,i2⟩ := st_wf f;obtain ⟨j1,j2⟩ := zdb f;refine ⟨fun tg l p r hO h=>?_,fun p r hO h0 h=>?_⟩
  ·rw [blkL] at h;split at h
   ·rename_i hc;obtain ⟨x,h1,h2⟩ := Option.bind_eq_some_iff.1 h;obtain ⟨s1,s2⟩ := i2 _ _ hO hc.1 h1;obtain ⟨s3,s4⟩ := i1 _ _ _ _ (j2 _ _ hO h1).1.ok h2;rw [zld,stW,stW] at s4;exact ⟨fun hl=>s3 (hl.app s1),by omega⟩
   ·injection h with h; subst h;have := (Keep.sign hO [125]).mu;exact ⟨fun hl=>hl,by simp only; omega⟩
  ·have lt := ((zdb (f + 1)).2 p r hO h).2 h0;have ml := zix hO;rw [stF] at h;split at h
   ·rename_i hw;obtain ⟨a1,a2,a3,a4⟩ := zc6 hO (by rw [zbq hw]; decide);obtain ⟨x,h1,h2⟩ := Option.bind_eq_some_iff.1 h;have k1 := (zbm f).1 _ _ _ a1 h1;obtain ⟨w1,w2⟩ := (ztk f).1 _ _ _ a1 (by decide) h1;obtain ⟨b,h3,h4⟩ := Option.bind_eq_some_iff.1 h2;have k2 := Keep.sign k1.ok [123];obtain ⟨s1,s2⟩ := i1 _ _ _ _ k2.ok h3;have k3 := j1 _ _ _ _ k2.ok h3;have m1 := k1.mu;have m2 := k2.mu;rw [stW] at s2;split at h4
    ·obtain ⟨c,h5,h6⟩ := Option.bind_eq_some_iff.1 h4;have k4 := Keep.adv k3.ok;have k5 := k4.trans (Keep.sign k4.ok [123]);obtain ⟨s3,s4⟩ := i1 _ _ _ _ k5.ok h5;have m5 := k5.mu;rw [stW] at s4;injection h6 with h6;subst h6;have e : mu c.2.cls = mu c.2 := rfl;have hw : (Stm.mk 6 [] [x.1] b.1.1 b.1.2 c.1.1 c.1.2 p.tat).ws + 4 * mu c.2 ≤ 4 * mu p:=by
      rw [Stm.ws,szE,szE];omega
     exact ⟨zs0 (fun _=>w1) (by omega) (s1 trivial) (s3 trivial),hw⟩
    ·injection h4 with h4;subst h4;have hw : (Stm.mk 6 [] [x.1] b.1.1 b.1.2 true [] p.tat).ws + 4 * mu b.2 ≤ 4 * mu p:=by
      rw [Stm.ws,szE,szE,stW];omega
     exact ⟨zs0 (fun _=>w1) (by omega) (s1 trivial) trivial,hw⟩
   ·have k1 := Keep.oneF hO stL 0;have k2 := Keep.name k1.ok;have l1 := zk6 hO h0 stL 0;split at h
    ·injection h with h;subst h;have hw : (Stm.mk 5 (p.oneF stL 0).2.s [] true [] true [] p.tat).ws + 4 * mu ((p.oneF stL 0).2.name.sign [59]) ≤ 4 * mu p:=by
      rw [Stm.ws,szE,stW];have : mu ((p.oneF stL 0).2.name.sign [59]) < mu p := lt;omega
     exact ⟨zs0 (fun h=>absurd rfl h) (by omega) trivial trivial,hw⟩
    ·rename_i h5;obtain ⟨x,h1,h2⟩ := Option.bind_eq_some_iff.1 h;have k3 := Keep.sign k2.ok [61];obtain ⟨w1,w2⟩ := (ztk f).1 _ _ _ k3.ok (by decide) h1;have k4 := (zbm f).1 _ _ _ k3.ok h1;have m2 := k2.mu;have m3 := k3.mu;have m4 := k4.mu;have m5 := (Keep.sign k4.ok [59]).mu;injection h2 with h2;subst h2;have hw : (Stm.mk (p.oneF stL 0).1 (p.oneF stL 0).2.s [x.1] true [] true [] p.tat).ws + 4 * mu (x.2.sign [59]) ≤ 4 * mu p:=by
      rw [Stm.ws,szE,szE,stW];omega
     exact ⟨zs0 (fun _=>w1) (by omega) trivial trivial,hw⟩
theorem pasF_w {f : Nat} {p : PS} {r : (Bool × List Par) × PS} (hO : Ok p) (h : pasF f p = some r) : r.1.2.length + mu r.2 ≤ 1 + mu p:=by
 have k0 := Keep.sign hO [40];have m0 := k0.mu;unfold pasF at h;split at h
 ·injection h with h;subst h;have := (Keep.sign k0.ok [41]).mu;simp only [List.length_nil];omega
 ·obtain ⟨x,h1,h2⟩ := Option.map_eq_some_iff.1 h;subst h2;have k1 := zcb k0.ok;have := k1.mu;have := znc f _ _ _ k1.ok h1;simp only [List.length_singleton] at *;omega
def opS : List Opn→Nat
 | []=>0
 | o :: r=>o.params.length + stW o.body + 4 + opS r
def qrS : List Qry→Nat
 | []=>0
 | y :: r=>y.params.length + y.res.sz + 2 + qrS r
theorem zlk : ∀ (a : List Opn) (o : Opn),opS (a ++ [o]) = opS a + (o.params.length + stW o.body + 4)
 | [],o=>by rw [List.nil_append,opS,opS,opS]; omega
 | e :: a,o=>by rw [List.cons_append,opS,opS,zlk a o]; omega
theorem zlj : ∀ (a : List Qry) (o : Qry),qrS (a ++ [o]) = qrS a + (o.params.length + o.res.sz + 2)
 | [],o=>by rw [List.nil_append,qrS,qrS,qrS]; omega
 | e :: a,o=>by rw [List.cons_append,qrS,qrS,zlj a o]; omega
def Typ.wt (t : Typ) : Nat := t.fields.length + opS t.ops + qrS t.qrys + 2 * t.idxs.length
theorem memF_wt {f : Nat} {t : Typ} {p : PS} {r : Typ × PS} (hO : Ok p) (h0 : p.err = 0) (h : memF f t p = some r) : r.1.wt + 8 * mu r.2 ≤ t.wt + 8 * mu p∧((∀ o ∈ t.ops,WfSL o.body)→∀ o ∈ r.1.ops,WfSL o.body):=by
 have lt := (zdp hO h).2 h0;have k1 := Keep.oneF hO memW 0;have k2 := Keep.name k1.ok;have l1 := zk6 hO h0 memW 0;have m2 := k2.mu;unfold memF at h;unfold Typ.wt;split at h
 ·injection h with h; subst h;simp only [List.length_append,List.length_singleton] at lt ⊢;exact ⟨by omega,fun hh=>hh⟩
 split at h
 ·injection h with h; subst h;simp only [List.length_append,List.length_singleton] at lt ⊢;exact ⟨by omega,fun hh=>hh⟩
 split at h
 ·obtain ⟨a,h1,h2⟩ := Option.bind_eq_some_iff.1 h;obtain ⟨b,h3,h4⟩ := Option.bind_eq_some_iff.1 h2;injection h4 with h4; subst h4;have k3 := zbt k2.ok h1;have w3 := pasF_w k2.ok h1;have k4 := Keep.sign k3.ok [123];have m3 := k3.mu;have m4 := k4.mu;obtain ⟨s1,s2⟩ := (st_wf f).1 _ _ _ _ k4.ok h3;have m5 := ((zdb f).1 _ _ _ _ k4.ok h3).mu;rw [stW] at s2;simp only [zlk] at lt ⊢;refine ⟨by omega,fun hh o ho=>?_⟩;rcases List.mem_append.1 ho with ho | ho
  ·exact hh o ho
  ·rw [List.mem_singleton.1 ho]; exact s1 trivial
 split at h
 ·obtain ⟨a,h1,h2⟩ := Option.bind_eq_some_iff.1 h;obtain ⟨b,h3,h4⟩ := Option.bind_eq_some_iff.1 h2;injection h4 with h4; subst h4;have k3 := zbt k2.ok h1;have w3 := pasF_w k2.ok h1;have k4 := Keep.sign k3.ok [61];have m3 := k3.mu;have m4 := k4.mu;obtain ⟨w1,w2⟩ := (ztk f).1 _ _ _ k4.ok (by decide) h3;have k5 := (zbm f).1 _ _ _ k4.ok h3;have m5 := k5.mu;have m6 := (Keep.sign k5.ok [59]).mu;simp only [zlj] at lt ⊢;exact ⟨by omega,fun hh=>hh⟩
 split at h
 ·injection h with h; subst h;simp only [List.length_append,List.length_singleton] at lt ⊢;exact ⟨by omega,fun hh=>hh⟩
 ·injection h with h; subst h;simp only at lt ⊢;exact ⟨by omega,fun hh=>hh⟩
theorem tdL_wt : ∀ f t p r,Ok p→tdL f t p = some r→r.1.wt + 8 * mu r.2 ≤ t.wt + 8 * mu p∧((∀ o ∈ t.ops,WfSL o.body)→∀ o ∈ r.1.ops,WfSL o.body)
 | 0,_,_,_,_,h=>by cases h
 | f + 1,t,p,r,hO,h=>by
  unfold tdL at h;split at h
  ·rename_i hc;obtain ⟨a,h1,h2⟩ := Option.bind_eq_some_iff.1 h;obtain ⟨a1,a2⟩ := memF_wt hO hc.1 h1;obtain ⟨b1,b2⟩ := tdL_wt f _ _ _ (zdp hO h1).1.ok h2;exact ⟨by omega,fun hh=>b2 (a2 hh)⟩
  ·injection h with h; subst h;have := (Keep.sign hO [125]).mu;exact ⟨by simp only; omega,fun hh=>hh⟩
theorem tdF_wt {f : Nat} {p : PS} {r : Typ × PS} (hO : Ok p) (hk : p.kind ≠ 0) (h : tdF f p = some r) : r.1.wt + 1 + 8 * mu r.2 ≤ 8 * mu p∧∀ o ∈ r.1.ops,WfSL o.body:=by
 have k1 := Keep.adv hO;have k2 := Keep.name k1.ok;have k3 := Keep.sign k2.ok [123];have l1 := (PS.adv_mu hO).2 hk;have m2 := k2.mu;have m3 := k3.mu;obtain ⟨a1,a2⟩ := tdL_wt f _ _ _ k3.ok h;have e : (⟨p.adv.s,true,[],true,[],true,[],true,[],p.adv.tat⟩ : Typ).wt = 0 := rfl;rw [e] at a1;exact ⟨by omega,a2 fun o ho=>by cases ho⟩
def tsW : List Typ→Nat
 | []=>0
 | t :: l=>t.wt + 1 + tsW l
theorem zl4 : ∀ (a : List Typ) (t : Typ),tsW (a ++ [t]) = tsW a + (t.wt + 1)
 | [],t=>by rw [List.nil_append,tsW,tsW,tsW]; omega
 | e :: a,t=>by rw [List.cons_append,tsW,tsW,zl4 a t]; omega
theorem paL_wt : ∀ f tg l p r,Ok p→paL f tg l p = some r→tsW r.1.2 + 8 * mu r.2 ≤ tsW l + 8 * mu p∧((∀ t ∈ l,∀ o ∈ t.ops,WfSL o.body)→∀ t ∈ r.1.2,∀ o ∈ t.ops,WfSL o.body)
 | 0,_,_,_,_,_,h=>by cases h
 | f + 1,tg,l,p,r,hO,h=>by
  unfold paL at h;split at h
  ·rename_i hc;obtain ⟨a,h1,h2⟩ := Option.bind_eq_some_iff.1 h;obtain ⟨a1,a2⟩ := tdF_wt hO (by rw [zbq hc]; decide) h1;obtain ⟨b1,b2⟩ := paL_wt f _ _ _ _ (zg9 hO h1).ok h2;rw [zl4] at b1;refine ⟨by omega,fun hh=>b2 fun t ht=>?_⟩;rcases List.mem_append.1 ht with ht | ht
   ·exact hh t ht
   ·rw [List.mem_singleton.1 ht]; exact a2
  ·injection h with h; subst h; exact ⟨Nat.le_refl _,fun hh=>hh⟩
theorem zqa (t : Typ) : ∀ r : List Opn,opnW t r + r.length ≤ opS r
 | []=>Nat.le_refl _
 | o :: r=>by
  have := zqa t r;have := zrj (scO t o) o.body;rw [opnW,opS,List.length_cons];omega
theorem zqj (t : Typ) : ∀ r : List Qry,qryW t r + r.length ≤ qrS r
 | []=>Nat.le_refl _
 | y :: r=>by
  have := zqj t r;have := zfh (scY t y) y.res;rw [qryW,qrS,List.length_cons];omega
theorem typW_le (t : Typ) : typW t ≤ t.wt:=by
 have := zqa t t.ops;have := zqj t t.qrys;unfold typW Typ.wt;omega
theorem zr3 : ∀ l : List Typ,l.length + zhv l ≤ tsW l
 | []=>Nat.le_refl _
 | t :: l=>by
  have := zr3 l;have := typW_le t;rw [zhv,tsW,List.length_cons];omega
theorem zuv : ∀ {l : List Typ} {t : Typ},t ∈ l→t.wt ≤ tsW l
 | s :: l,t,h=>by
  rw [tsW];rcases List.mem_cons.1 h with rfl | h
  ·omega
  ·have := zuv h; omega
theorem zvr : ∀ {l : List Opn} {o : Opn},o ∈ l→o.params.length + stW o.body ≤ opS l
 | s :: l,o,h=>by
  rw [opS];rcases List.mem_cons.1 h with rfl | h
  ·omega
  ·have := zvr h; omega
theorem pa_chk {src : List UInt8} (hl : src.length ≤ 4000) {f : Nat} {r : (Bool × List Typ) × PS} (h : paL f true [] (ps0 src).adv = some r) : (∀ t ∈ r.1.2,WfT t)∧r.1.2.length + zhv r.1.2 ≤ 100000:=by
 have k0 := Keep.adv (zjc hl);obtain ⟨a1,a2⟩ := paL_wt f _ _ _ _ k0.ok h;have m0 := zix k0.ok;have a3 := a2 fun t ht=>by cases ht
 have a4 := pa_wf hl h;have a5 := (pa_ok hl h).2;rw [tsW] at a1;refine ⟨fun t ht=>?_,by have := zr3 r.1.2; omega⟩;have b1 := zuv ht;have b2 := zqa t t.ops;have b3 := zqj t t.qrys;have b4 : t.wt = t.fields.length + opS t.ops + qrS t.qrys + 2 * t.idxs.length := rfl;refine ⟨by omega,by omega,by omega,fun o ho=>?_,fun y hy=>?_⟩
 ·have c1 := zvr ho;have c2 := zn4 o.body;exact ⟨a3 t ht o ho,by omega,(a5 t ht).ops o ho,by omega⟩
 ·obtain ⟨d1,d2,d3⟩ := (a4 t ht).qrys y hy;exact ⟨d1,by omega,by omega⟩
end Go.Proofs.YtfdklpkfpmkgeaaGreatDoor
end
section
namespace Go.Proofs.YtfdklpkfpmkgeaaGreatDoor
open Go Go.Vai
variable {N : Nat}
def DgR (N : Nat) (d : Dg) : Prop := InR N d.at_∧1 ≤ d.err∧d.err ≤ 100
def DgsR (N : Nat) (l : List Dg) : Prop := ∀ d ∈ l,DgR N d
theorem DgsR.nil : DgsR N [] := fun _ h=>by cases h
theorem DgsR.one {a e : Int} (h : InR N a) (h1 : 1 ≤ e∧e ≤ 100) : DgsR N [⟨a,e⟩] := fun d hd=>by
 rw [List.mem_singleton.1 hd];exact ⟨h,h1.1,h1.2⟩
theorem DgsR.app {a b : List Dg} (h1 : DgsR N a) (h2 : DgsR N b) : DgsR N (a ++ b) := fun d hd=>by
 rcases List.mem_append.1 hd with h | h
 ·exact h1 d h
 ·exact h2 d h
theorem DgsR.ite {p : Prop} [Decidable p] {a b : List Dg} (h1 : DgsR N a) (h2 : DgsR N b) : DgsR N (if p then a else b):=by
 split
 ·exact h1
 ·exact h2
theorem AtE.at : ∀ {e : Ex},AtE N e→InR N e.at_
 | .mk _ _ _ _ _ _,h=>h.1
theorem nameT_R {w : Sc} {e : Ex} (h : InR N e.at_) : DgsR N (zs4 w e).2:=by
 unfold zs4
 repeat' split
 all_goals first | exact .nil | exact .one h ⟨by decide,by decide⟩
theorem sizeT_R {w : Sc} {e : Ex} (h : InR N e.at_) : DgsR N (zpn w e).2:=by
 unfold zpn
 repeat' split
 all_goals first | exact .nil | exact .one h ⟨by decide,by decide⟩
theorem leafT_R {w : Sc} {e : Ex} (h : InR N e.at_) : DgsR N (zsd w e).2:=by
 unfold zsd
 repeat' split
 all_goals first | exact .nil | exact nameT_R h | exact sizeT_R h
theorem opT_R {e : Ex} {ds : List Dg} {n : Int} (h : InR N e.at_) (hd : DgsR N ds) : DgsR N (opT e ds n).2:=by
 unfold opT
 repeat' split
 all_goals first | exact .nil | exact hd | exact .one h ⟨by decide,by decide⟩
theorem hasT_R {w : Sc} {e x : Ex} {a b : Int × List Dg} (h : InR N e.at_) (ha : DgsR N a.2) (hb : DgsR N b.2) : DgsR N (hasT w e x a b).2:=by
 unfold hasT;have h12 : DgsR N [⟨e.at_,12⟩] := .one h ⟨by decide,by decide⟩;have hl : DgsR N ((if zh7 w x = true then [] else if a.2 = [] then [⟨e.at_,12⟩] else a.2) ++ b.2) := .app (.ite .nil (.ite h12 ha)) hb;split
 ·exact .one h ⟨by decide,by decide⟩
 ·simp only;generalize hg : (if zh7 w x = true then [] else if a.2 = [] then [⟨e.at_,12⟩] else a.2) ++ b.2 = l at hl ⊢;have h2 : DgsR N (if (!zh7 w x && decide (a.2 = [])) = false∧b.2 = []∧b.1 ≠ 2 then l ++ [⟨e.at_,12⟩] else l) := .ite (.app hl h12) hl;generalize (if (!zh7 w x && decide (a.2 = [])) = false∧b.2 = []∧b.1 ≠ 2 then l ++ [⟨e.at_,12⟩] else l) = l2 at h2 ⊢;split
  ·exact .nil
  ·exact h2
theorem zs6 (w : Sc) : ∀ e : Ex,AtE N e→DgsR N (tyE w e).2
 | .mk k n s tg [] a,h=>by rw [tyE]; exact leafT_R (AtE.at h)
 | .mk k n s tg [x] a,h=>by
  rw [tyE];exact opT_R (AtE.at h) (zs6 w x h.2.1)
 | .mk k n s tg [x,y] a,h=>by
  have h1 := zs6 w x h.2.1;have h2 := zs6 w y h.2.2.1;rw [tyE];split
  ·exact hasT_R (AtE.at h) h1 h2
  ·exact opT_R (AtE.at h) (.app h1 h2)
 | .mk _ _ _ _ (_ :: _ :: _ :: _) _,_=>by rw [tyE]; exact .nil
theorem valS_R {k : Int} {s : List UInt8} {v : List Ex} {t1 : Bool} {th : List Stm} {t2 : Bool} {el : List Stm} {a : Int} (ha : InR N a) (hv : AtEs N v) : AtE N (valS (.mk k s v t1 th t2 el a)):=by
 cases v with
 | nil=>exact ⟨⟨Int.le_refl _,Int.lt_of_le_of_lt ha.1 ha.2⟩,trivial⟩
 | cons e v=>exact hv.1
theorem stD_R (w : Sc) {z : Stm} (ha : InR N z.at_) (hv : AtE N (valS z)) : DgsR N (stD w z):=by
 have h1 : DgsR N (match fldF w.t.fields z.field with
  | none=>[(⟨z.at_,6⟩ : Dg)]
  | some f=>if f.kind = (kOf z.kind).1 then [] else [⟨z.at_,10⟩]):=by
  split
  ·exact .one ha ⟨by decide,by decide⟩
  ·exact .ite .nil (.one ha ⟨by decide,by decide⟩)
 unfold stD;simp only;split
 ·exact h1
 ·exact .app (.app h1 (zs6 w _ hv)) (.ite (.one hv.at ⟨by decide,by decide⟩) .nil)
mutual
theorem bodyS_R (w : Sc) : ∀ z : Stm,AtS N z→DgsR N (zpe w z)
 | .mk k s v t1 th t2 el a,h=>by
  have hv := valS_R (k := k) (s := s) (t1 := t1) (th := th) (t2 := t2) (el := el) h.1 h.2.1;have h2 := zmx w th h.2.2.1;have h3 := zmx w el h.2.2.2;rw [zpe];split
  ·refine .app (.app ?_ h2) h3;exact .app (zs6 w _ hv) (.ite (.one hv.at ⟨by decide,by decide⟩) .nil)
  ·exact stD_R w h.1 hv
theorem zmx (w : Sc) : ∀ l : List Stm,AtSs N l→DgsR N (zew w l)
 | [],_=>by rw [zew]; exact .nil
 | z :: l,h=>by
  rw [zew];exact .app (bodyS_R w z h.1) (zmx w l h.2)
end
theorem zjl : ∀ (l : List Nm) (ks : List (List UInt8)),(∀ x ∈ l,InR N x.at_)→DgsR N (dupD ks l)
 | [],_,_=>.nil
 | x :: l,ks,h=>by
  rw [dupD];exact .app (.ite (.one (h x List.mem_cons_self) ⟨by decide,by decide⟩) .nil) (zjl l _ fun y hy=>h y (List.mem_cons_of_mem _ hy))
theorem zq1 {α : Type} {l : List α} {f : α→Nm} {g : α→Int} (hg : ∀ x,(f x).at_ = g x) (h : ∀ x ∈ l,InR N (g x)) : ∀ x ∈ l.map f,InR N x.at_ := fun x hx=>by
 obtain ⟨y,hy,rfl⟩ := List.mem_map.1 hx;rw [hg];exact h y hy
theorem zw1 (t : Typ) : ∀ l : List Opn,(∀ o ∈ l,InR N o.at_∧AtP N o.params∧AtSs N o.body)→DgsR N (zku t l)
 | [],_=>.nil
 | o :: l,h=>by
  obtain ⟨h1,h2,h3⟩ := h o List.mem_cons_self;rw [zku];refine .app ?_ (zw1 t l fun y hy=>h y (List.mem_cons_of_mem _ hy));exact .app (.app (.app (zjl _ _ (zq1 (fun _=>rfl) h2)) (zmx _ _ h3)) (.ite (.one h1 ⟨by decide,by decide⟩) .nil)) (.ite (.one h1 ⟨by decide,by decide⟩) .nil)
theorem ztv (t : Typ) : ∀ l : List Qry,(∀ q ∈ l,InR N q.at_∧AtP N q.params∧AtE N q.res)→DgsR N (zmr t l)
 | [],_=>.nil
 | o :: l,h=>by
  obtain ⟨h1,h2,h3⟩ := h o List.mem_cons_self;rw [zmr];refine .app ?_ (ztv t l fun y hy=>h y (List.mem_cons_of_mem _ hy));exact .app (zjl _ _ (zq1 (fun _=>rfl) h2)) (zs6 _ _ h3)
theorem zvy (t : Typ) : ∀ l : List Idx,(∀ x ∈ l,InR N x.at_)→DgsR N (zjm t l)
 | [],_=>.nil
 | x :: l,h=>by
  rw [zjm];refine .app ?_ (zvy t l fun y hy=>h y (List.mem_cons_of_mem _ hy));unfold znh;split
  ·exact .one (h x List.mem_cons_self) ⟨by decide,by decide⟩
  ·exact .ite (.one (h x List.mem_cons_self) ⟨by decide,by decide⟩) .nil
theorem typD_R {t : Typ} (h : AtT N t) : DgsR N (typD t):=by
 have h4 : ∀ x ∈ t.ops.map nmO ++ t.qrys.map nmY,InR N x.at_ := fun x hx=>by
  rcases List.mem_append.1 hx with hx | hx
  ·exact zq1 (f := nmO) (g := Opn.at_) (fun _=>rfl) (fun o ho=>(h.ops o ho).1) x hx
  ·exact zq1 (f := nmY) (g := Qry.at_) (fun _=>rfl) (fun o ho=>(h.qrys o ho).1) x hx
 exact .app (.app (.app (.app (.app (zjl _ _ (zq1 (fun _=>rfl) h.fields)) (zw1 t _ h.ops)) (ztv t _ h.qrys)) (zjl _ _ h4)) (zjl _ _ (zq1 (fun _=>rfl) h.idxs))) (zvy t _ h.idxs)
theorem zv0 : ∀ l : List Typ,(∀ t ∈ l,AtT N t)→DgsR N (zit l)
 | [],_=>.nil
 | t :: l,h=>by
  rw [zit];exact .app (typD_R (h t List.mem_cons_self)) (zv0 l fun y hy=>h y (List.mem_cons_of_mem _ hy))
theorem chkD_R {l : List Typ} (h : ∀ t ∈ l,AtT N t) : DgsR N (chkD l) :=
 .app (zjl _ _ (zq1 (f := nmT) (g := Typ.at_) (fun _=>rfl) fun t ht=>(h t ht).at_)) (zv0 l h)
theorem DgsR.ok {l : List Dg} (h : DgsR N l) (hN : N ≤ 1099511627776) : DgOk l := fun d hd=>by
 obtain ⟨⟨h1,h2⟩,h3,h4⟩ := h d hd;unfold bdOk;exact ⟨by rw [decide_eq_true (by omega),decide_eq_true (by omega)]; rfl,by rw [decide_eq_true (by omega),decide_eq_true (by omega)]; rfl⟩
def ltP (p q : Int × Int) : Prop := p.1 < q.1 ∨ (p.1 = q.1∧p.2 < q.2)
theorem ddP_lt : ∀ l : List (Int × Int),l.Pairwise (fun x y=>leP x y = true)→(ddP l).Pairwise ltP
 | [],_=>List.Pairwise.nil
 | [p],_=>List.pairwise_singleton _ _
 | p :: q :: l,h=>by
  obtain ⟨h1,h2⟩ := List.pairwise_cons.1 h;have ih := ddP_lt (q :: l) h2;show (match decide (p = q) with | true=>ddP (q :: l) | false=>p :: ddP (q :: l)).Pairwise ltP;by_cases hpq : p = q
  ·rw [decide_eq_true hpq];exact ih
  ·rw [decide_eq_false hpq];refine List.pairwise_cons.2 ⟨fun x hx=>?_,ih⟩;have e1 := (ze6 _ _).1 (h1 q List.mem_cons_self);have e2 : ltP p q:=by
    unfold ltP;rcases e1 with e1 | ⟨e1,e2⟩
    ·exact .inl e1
    ·refine .inr ⟨e1,?_⟩;rcases Int.lt_or_eq_of_le e2 with e2 | e2
     ·exact e2
     ·exact absurd (Prod.ext e1 e2) hpq
   rcases List.mem_cons.1 (zna hx) with rfl | hx
   ·exact e2
   ·have e3 := (ze6 _ _).1 ((List.pairwise_cons.1 h2).1 x hx);unfold ltP at e2 ⊢;omega
theorem srtP_lt (D : List Dg) : (srtP D).Pairwise ltP := ddP_lt _ (zfa _)
theorem srtP_at {N : Nat} {D : List Dg} (h : DgsR N D) : ∀ x ∈ srtP D,InR N x.1∧1 ≤ x.2∧x.2 ≤ 100 := fun x hx=>by
 obtain ⟨d,h1,rfl⟩ := srtP_mem hx;exact h d h1
end Go.Proofs.YtfdklpkfpmkgeaaGreatDoor
end
section
namespace Go.Proofs.YtfdklpkfpmkgeaaGreatDoor
open Go Go.Vai
attribute [local irreducible] goTo zao mkS
variable {C : Nat → Oracle} {o : Out}
abbrev qX0 : List Nat := [0,5,0,0,5,5,0,5,0,0,5,5,0,5,0,0,5,5,0,5,0,0,5,2,3,0,0,5,5,0,2,0]
abbrev qX1 : List Nat := [0,5,0,0,5,5,0,5,0,0,5,5]
abbrev qX2 : List Nat := [0,5,0,0,5,5,0,5,0,0,5,5,0]
abbrev qX3 : List Nat := [0,5,0,0,5,5,0,5,0,0,5,5,0,5,0,0,5,5,0,5,0,0,5,2,3,0,0,5,5,0,2,0,5,5]
abbrev qX4 : List Nat := [0,5,0,0,5,5,0,5,0,0,5,5,0,5,0,0,5,6,0]
abbrev qX5 : List Nat := [0,5,0,0,5,5,0,5,0,0,5,5,0,5,0,0,5,5]
abbrev qX6 : List Nat := [0,5,0,0,5,5,0,5,0,0,5,5,0,5,0,0,5,5,0,5,0,0,5,2,3]
abbrev qX7 : List Nat := [0,5,0,0,5,5,0,5,0,0,5,5,0,5,0,0,5,5,0,5,0,0,5,2,3,0,0,5,5]
abbrev qX8 : List Nat := [0,5,0,0,5,5,0,5,0,0,5,5,0,5,0,0,5,5,0,5,0,0,5,5]
abbrev qX9 : List Nat := [0,5,0,0,5,5,0,5,0,0,5,5,0,5,0,0,5,5,0,5,0,0,5,5,0]
theorem p4_c (hC : Ext C) {a b : Bool} {c : List AV} : LC C o 4 (mk0 108 [vv 0 (.vs 1 a c),vb 1 b]) [(.vs 1 a c),(.bool b)] Hp.none 0 := lC hC
theorem p4_0 {a c b} : LR C o 4 [] (mk0 108 [vv 0 (.vs 1 a b),vb 1 c]) (.br (decide (80 < (b.length : Int)))
(cl0 14 [] fun d => .br (AV.pure d.v)
(.mid 0 [0,5,0,0,5,6,0] 1 (mk0 108 [vv 0 (.vs 1 a b),vb 1 c,vb 13 true,vv 14 d.v])) .none)
(.run 1 [0,5,0,0,5,5] (mk0 108 [vv 0 (.vs 1 a b),vb 1 c,vb 13 false]))) := lR 8
theorem p4_1 {a c b d} : LM C o 4 [0,5,0,0,5,6,0] 1 (mk0 108 [vv 0 (.vs 1 a d),vb 1 c,vb 13 true,vb 14 b]) (rt (.bool b)) := lM 1
theorem p4_2 {a c d b} : LR C o 4 [0,5,0,0,5,5] (mk0 108 [vv 0 (.vs 1 a b),vb 1 c,vb 13 d]) (cl0 18 [(.vs 1 a b)] fun e => .br (AV.pure e.v)
(.mid 0 [0,5,0,0,5,5,0] 2 (mk0 108 [vv 0 (.vs 1 a b),vb 1 c,vb 13 d,vv 15 (.vs 1 a b),vv 16 e.v])) .none) := lR 2
theorem p4_3 {a d e b c} : LM C o 4 [0,5,0,0,5,5,0] 2 (mk0 108 [vv 0 (.vs 1 a b),vb 1 d,vb 13 e,vv 15 (.vs 1 a b),vt 16 c]) (.br d
(cl0 19 [(.vs 1 a b)] fun f => .br (AV.pure f.v)
(.mid 0 [0,5,0,0,5,5,0,5,0,0,5,6] 2 (mk0 108 [vv 0 (.vs 1 a b),vt 5 c,vb 17 true,vv 18 (.vs 1 a b),vv 19 f.v])) .none)
(.run 0 qX1 (mk0 108 [vv 0 (.vs 1 a b),vt 5 c,vb 17 false]))) := lM 5
theorem p4_4 {a c d b} : LM C o 4 [0,5,0,0,5,5,0,5,0,0,5,6] 2 (mk0 108 [vv 0 (.vs 1 a c),vt 5 d,vb 17 true,vv 18 (.vs 1 a c),vt 19 b]) (.run 0 qX1 (mk0 108 [vt 5 b])) := lM 0
theorem p4_5 {b c d a} : LR C o 4 qX1 (mk0 108 [vv 0 (.vs 1 b d),vt 5 a,vb 17 c]) (cl0 20 [(.str a)] fun e => .br (AV.pure e.v)
(.mid 0 qX2 2 (mk0 108 [vv 0 (.vs 1 b d),vt 5 a,vb 17 c,vt 21 a,vv 22 e.v])) .none) := lR 2
theorem p4_6 {a} : LR C o 4 qX1 (mk0 108 [vt 5 a]) (cl0 20 [(.str a)] fun b => .br (AV.pure b.v)
(.mid 0 qX2 2 (mk0 108 [vt 5 a,vt 21 a,vv 22 b.v])) .none) := lR 2
abbrev yS343 := fun a b (c : Bool) (d : List Typ) => mkS 108 [vt 5 a,(6,.lp 6 0),vb 27 true,b] [(6,⟨[(.vs 6 c (d.map Typ.av))],[]⟩)] Hp.none 0
abbrev yS344 := fun a b (c : Bool) (d : List Typ) => mkS 108 [vt 5 a,(6,.lp 6 0),vb 27 b] [(6,⟨[(.vs 6 c (d.map Typ.av))],[]⟩)] Hp.none 0
theorem p4_7 {e f a g b h d} {c : List Typ} : LM C o 4 qX2 2 (mkS 108 [vv 0 (.vs 1 e g),vt 5 b,vb 17 f,vt 21 b,vv 22 (.tuple [(.agg [(.vs 6 a (c.map Typ.av))]),(i6 h),(i6 d)])] [] Hp.none 0) (.br (!(decide (d = 0)))
(cl0 14 [] fun i => .br (AV.pure i.v)
(.mid 0 qX4 1 (yS343 b (vv 28 i.v) a c)) .none)
(.run 1 qX5 (yS344 b false a c))) := lM 6
theorem p4_8 {b a e d} {c : List Typ} : LM C o 4 qX2 2 (mkS 108 [vt 5 b,vt 21 b,vv 22 (.tuple [(.agg [(.vs 6 a (c.map Typ.av))]),(i6 e),(i6 d)])] [] Hp.none 0) (.br (!(decide (d = 0)))
(cl0 14 [] fun f => .br (AV.pure f.v)
(.mid 0 qX4 1 (yS343 b (vv 28 f.v) a c)) .none)
(.run 1 qX5 (yS344 b false a c))) := lM 6
theorem p4_9 {c a} {b : Bool} {d : List Typ} : LM C o 4 qX4 1 (yS343 c (vb 28 a) b d) (rt (.bool a)) := lM 1
abbrev yS345 := fun a b (c : Bool) (d : List Typ) e => mkS 108 [vt 5 a,(6,.lp 6 0),vb 27 b,vv 29 (.agg [(.vs 6 c (d.map Typ.av))]),vv 30 e] [(6,⟨[(.vs 6 c (d.map Typ.av))],[]⟩)] Hp.none 0
theorem p4_10 {c d a b} : LR C o 4 qX5 (yS344 c d a b) (cl0 21 [(.agg [(.vs 6 a (b.map Typ.av))])] fun e => .br (AV.pure e.v)
(.mid 0 [0,5,0,0,5,5,0,5,0,0,5,5,0,5,0,0,5,5,0] 2 (yS345 c d a b e.v)) .none) := lR 2
abbrev yS346 := fun a (b : Bool) (c : List Dg) d (e : Bool) (f : List Typ) => mkS 108 [vt 5 a,vv 9 (.vs 2 b (c.map Dg.av)),vi 10 d] [(6,⟨[(.vs 6 e (f.map Typ.av))],[]⟩)] Hp.none 0
theorem p4_11 {d f a b c} {e : List Dg} : LM C o 4 [0,5,0,0,5,5,0,5,0,0,5,5,0,5,0,0,5,5,0] 2 (yS345 d f a c (.vs 2 b (e.map Dg.av))) (.run 0 qX6 (yS346 d b e 0 a c)) := lM 5
theorem p4_12 {e a b c d f} : LR C o 4 qX6 (yS346 e a c d b f) (.br (decide (d < ((c.map Dg.av).length : Int)))
(.run 0 qX7 (mkS 108 [vt 5 e,vv 9 (.vs 2 a (c.map Dg.av)),vi 10 d,vb 34 true] [(6,⟨[(.vs 6 b (f.map Typ.av))],[]⟩)] Hp.none 0))
(.run 0 qX8 (mkS 108 [vt 5 e,vv 9 (.vs 2 a (c.map Dg.av)),vi 10 d,vb 34 false] [(6,⟨[(.vs 6 b (f.map Typ.av))],[]⟩)] Hp.none 0))) := lR 5
abbrev yS349 := fun a (b : Bool) (c : List Dg) d e f (g : Bool) (h : List Typ) => mkS 108 [vt 5 a,vv 9 (.vs 2 b (c.map Dg.av)),vi 10 d,vb 34 e,vv 37 (.vs 2 b (c.map Dg.av)),vi 38 d,vv 39 (.cptr f)] [(6,⟨[(.vs 6 g (h.map Typ.av))],[]⟩)] Hp.none 0
theorem p4_13 {e a f d c} {b : List Dg} {g : List Typ} : LR C o 4 qX7 (mkS 108 [vt 5 e,vv 9 (.vs 2 a (b.map Dg.av)),vi 10 c,vb 34 f] [(6,⟨[(.vs 6 d (g.map Typ.av))],[]⟩)] Hp.none 0) (ix (b.map Dg.av) c fun h =>
(.mid 0 qX0 3 (yS349 e a b c f (AV.cells h) d g))) := lR 4
theorem p4_14 {c a d b f} {e : List Dg} {g : List Typ} : LR C o 4 qX8 (mkS 108 [vt 5 c,vv 9 (.vs 2 a (e.map Dg.av)),vi 10 f,vb 34 d] [(6,⟨[(.vs 6 b (g.map Typ.av))],[]⟩)] Hp.none 0) (cl0 14 [] fun h => .br (AV.pure h.v)
(.mid 0 qX9 1 (mkS 108 [vt 5 c,vv 9 (.vs 2 a (e.map Dg.av)),vi 10 f,vb 34 d,vv 107 h.v] [(6,⟨[(.vs 6 b (g.map Typ.av))],[]⟩)] Hp.none 0)) .none) := lR 2
abbrev yS351 := fun a (b : Bool) (c : List Dg) d e (f : Dg) g h (i : Bool) (j : List Typ) => mkS 108 [vt 5 a,vv 9 (.vs 2 b (c.map Dg.av)),vi 10 d,vb 34 e,vv 37 (.vs 2 b (c.map Dg.av)),vi 38 d,vv 39 (.cptr (Dg.cs f)),vv 40 (.cptr (Dg.cs f)),vi 41 f.at_,vb 42 g,vb 43 false,vv 44 (.vs 2 b (c.map Dg.av)),vi 45 d,vv 46 (.cptr h)] [(6,⟨[(.vs 6 i (j.map Typ.av))],[]⟩)] Hp.none 0
theorem p4_15 {f a g b c d} {e : Bool} {h : List Typ} : LM C o 4 qX0 3 (yS349 f a b c g (Dg.cs d) e h) (.br (decide (d.at_ < 0))
(rt (.bool false))
(ix (b.map Dg.av) c fun i =>
(.mid 4 qX0 10 (yS351 f a b c g d (decide (d.at_ < 0)) (AV.cells i) e h)))) := lM 4
theorem p4_16 {d b e c a g} {f : List Dg} {h : List Typ} : LM C o 4 qX9 1 (mkS 108 [vt 5 d,vv 9 (.vs 2 b (f.map Dg.av)),vi 10 g,vb 34 e,vb 107 a] [(6,⟨[(.vs 6 c (h.map Typ.av))],[]⟩)] Hp.none 0) (rt (.bool a)) := lM 1
abbrev yS352 := fun a (b : Bool) (c : List Dg) d e (f : Dg) g (h : Dg) i j k (l : Bool) (m : List Typ) => mkS 108 [vt 5 a,vv 9 (.vs 2 b (c.map Dg.av)),vi 10 d,vb 34 e,vv 37 (.vs 2 b (c.map Dg.av)),vi 38 d,vv 39 (.cptr (Dg.cs f)),vv 40 (.cptr (Dg.cs f)),vi 41 f.at_,vb 42 g,vb 43 false,vv 44 (.vs 2 b (c.map Dg.av)),vi 45 d,vv 46 (.cptr (Dg.cs h)),vv 47 (.cptr (Dg.cs h)),vi 48 h.at_,vt 49 a,vi 50 i,vb 51 j,vb 52 j,vb 53 false,vv 54 (.vs 2 b (c.map Dg.av)),vi 55 d,vv 56 (.cptr k)] [(6,⟨[(.vs 6 l (m.map Typ.av))],[]⟩)] Hp.none 0
theorem p4_17 {d a h i b c f e} {g : Bool} {j : List Typ} : LM C o 4 qX0 10 (yS351 d a b c h f i (Dg.cs e) g j) (.br (decide ((d.length : Int) ≤ e.at_))
(rt (.bool false))
(ix (b.map Dg.av) c fun k =>
(.mid 4 qX0 20 (yS352 d a b c h f i e (d.length : Int) (decide ((d.length : Int) ≤ e.at_)) (AV.cells k) g j)))) := lM 4
abbrev yS353 := fun a (b : Bool) (c : List Dg) d e (f : Dg) g (h : Dg) i j (k : Dg) l m n (o : Bool) (p : List Typ) => mkS 108 [vt 5 a,vv 9 (.vs 2 b (c.map Dg.av)),vi 10 d,vb 34 e,vv 37 (.vs 2 b (c.map Dg.av)),vi 38 d,vv 39 (.cptr (Dg.cs f)),vv 40 (.cptr (Dg.cs f)),vi 41 f.at_,vb 42 g,vb 43 false,vv 44 (.vs 2 b (c.map Dg.av)),vi 45 d,vv 46 (.cptr (Dg.cs h)),vv 47 (.cptr (Dg.cs h)),vi 48 h.at_,vt 49 a,vi 50 i,vb 51 j,vb 52 j,vb 53 false,vv 54 (.vs 2 b (c.map Dg.av)),vi 55 d,vv 56 (.cptr (Dg.cs k)),vv 57 (.cptr [(i6 k.err)]),vi 58 k.err,vb 59 l,vb 60 l,vb 61 false,vi 62 d,vb 63 m,vb 64 true,vv 65 (.vs 2 b (c.map Dg.av)),vi 66 d,vv 67 (.cptr n)] [(6,⟨[(.vs 6 o (p.map Typ.av))],[]⟩)] Hp.none 0
abbrev yS354 := fun a (b : Bool) (c : List Dg) d e (f : Bool) (g : List Typ) => mkS 108 [vt 5 a,vv 9 (.vs 2 b (c.map Dg.av)),vi 10 d,vb 106 e] [(6,⟨[(.vs 6 f (g.map Typ.av))],[]⟩)] Hp.none 0
theorem p4_18 {g b k l i c a m e f d} {h : Bool} {j : List Typ} : LM C o 4 qX0 20 (yS352 g b c a k e l f m i (Dg.cs d) h j) (.br (decide (d.err = 0))
(rt (.bool false))
(.br (decide (0 < a))
(ix (c.map Dg.av) a fun n =>
(.mid 4 qX0 31 (yS353 g b c a k e l f m i d (decide (d.err = 0)) (decide (0 < a)) (AV.cells n) h j)))
(.run 2 qX3 (yS354 g b c a false h j)))) := lM 4
abbrev yS355 := fun a (b : Bool) (c : List Dg) d e (f : Dg) g (h : Dg) i j (k : Dg) l m (n : Dg) o p (q : Bool) (r : List Typ) => mkS 108 [vt 5 a,vv 9 (.vs 2 b (c.map Dg.av)),vi 10 d,vb 34 e,vv 37 (.vs 2 b (c.map Dg.av)),vi 38 d,vv 39 (.cptr (Dg.cs f)),vv 40 (.cptr (Dg.cs f)),vi 41 f.at_,vb 42 g,vb 43 false,vv 44 (.vs 2 b (c.map Dg.av)),vi 45 d,vv 46 (.cptr (Dg.cs h)),vv 47 (.cptr (Dg.cs h)),vi 48 h.at_,vt 49 a,vi 50 i,vb 51 j,vb 52 j,vb 53 false,vv 54 (.vs 2 b (c.map Dg.av)),vi 55 d,vv 56 (.cptr (Dg.cs k)),vv 57 (.cptr [(i6 k.err)]),vi 58 k.err,vb 59 l,vb 60 l,vb 61 false,vi 62 d,vb 63 m,vb 64 true,vv 65 (.vs 2 b (c.map Dg.av)),vi 66 d,vv 67 (.cptr (Dg.cs n)),vv 68 (.cptr (Dg.cs n)),vi 69 n.at_,vv 70 (.vs 2 b (c.map Dg.av)),vi 71 d,vi 72 o,vv 73 (.cptr p)] [(6,⟨[(.vs 6 q (r.map Typ.av))],[]⟩)] Hp.none 0
theorem p4_19 {g a l m h i n c b p d e f j} {k : Bool} {q : List Typ} : LM C o 4 qX0 31 (yS353 g a c b l d m e p h f i n (Dg.cs j) k q) (ix (c.map Dg.av) (w64 (b - 1)) fun r =>
(.mid 0 qX0 37 (yS355 g a c b l d m e p h f i n j (w64 (b - 1)) (AV.cells r) k q))) := lM 0
theorem p4_20 {c a g b d e f} : LR C o 4 qX3 (yS354 c a d e g b f) (.run 0 qX6 (yS346 c a d (w64 (e + 1)) b f)) := lR 3
abbrev yS356 := fun a (b : Bool) (c : List Dg) d e (f : Dg) g (h : Dg) i j (k : Dg) l m (n : Dg) o (p : Dg) q r (s : Bool) (t : List Typ) => mkS 108 [vt 5 a,vv 9 (.vs 2 b (c.map Dg.av)),vi 10 d,vb 34 e,vv 37 (.vs 2 b (c.map Dg.av)),vi 38 d,vv 39 (.cptr (Dg.cs f)),vv 40 (.cptr (Dg.cs f)),vi 41 f.at_,vb 42 g,vb 43 false,vv 44 (.vs 2 b (c.map Dg.av)),vi 45 d,vv 46 (.cptr (Dg.cs h)),vv 47 (.cptr (Dg.cs h)),vi 48 h.at_,vt 49 a,vi 50 i,vb 51 j,vb 52 j,vb 53 false,vv 54 (.vs 2 b (c.map Dg.av)),vi 55 d,vv 56 (.cptr (Dg.cs k)),vv 57 (.cptr [(i6 k.err)]),vi 58 k.err,vb 59 l,vb 60 l,vb 61 false,vi 62 d,vb 63 m,vb 64 true,vv 65 (.vs 2 b (c.map Dg.av)),vi 66 d,vv 67 (.cptr (Dg.cs n)),vv 68 (.cptr (Dg.cs n)),vi 69 n.at_,vv 70 (.vs 2 b (c.map Dg.av)),vi 71 d,vi 72 o,vv 73 (.cptr (Dg.cs p)),vv 74 (.cptr (Dg.cs p)),vi 75 p.at_,vb 76 q,vb 77 false,vv 78 (.vs 2 b (c.map Dg.av)),vi 79 d,vv 80 (.cptr r)] [(6,⟨[(.vs 6 s (t.map Typ.av))],[]⟩)] Hp.none 0
theorem p4_21 {i a m n j k p c b q r e f g d h} {l : Bool} {s : List Typ} : LM C o 4 qX0 37 (yS355 i a c b m e n f q j g k p d r (Dg.cs h) l s) (.br (decide (d.at_ < h.at_))
(rt (.bool false))
(ix (c.map Dg.av) b fun t =>
(.mid 4 qX0 44 (yS356 i a c b m e n f q j g k p d r h (decide (d.at_ < h.at_)) (AV.cells t) l s)))) := lM 4
abbrev yS357 := fun a (b : Bool) (c : List Dg) d e (f : Dg) g (h : Dg) i j (k : Dg) l m (n : Dg) o (p : Dg) q (r : Dg) s t (u : Bool) (v : List Typ) => mkS 108 [vt 5 a,vv 9 (.vs 2 b (c.map Dg.av)),vi 10 d,vb 34 e,vv 37 (.vs 2 b (c.map Dg.av)),vi 38 d,vv 39 (.cptr (Dg.cs f)),vv 40 (.cptr (Dg.cs f)),vi 41 f.at_,vb 42 g,vb 43 false,vv 44 (.vs 2 b (c.map Dg.av)),vi 45 d,vv 46 (.cptr (Dg.cs h)),vv 47 (.cptr (Dg.cs h)),vi 48 h.at_,vt 49 a,vi 50 i,vb 51 j,vb 52 j,vb 53 false,vv 54 (.vs 2 b (c.map Dg.av)),vi 55 d,vv 56 (.cptr (Dg.cs k)),vv 57 (.cptr [(i6 k.err)]),vi 58 k.err,vb 59 l,vb 60 l,vb 61 false,vi 62 d,vb 63 m,vb 64 true,vv 65 (.vs 2 b (c.map Dg.av)),vi 66 d,vv 67 (.cptr (Dg.cs n)),vv 68 (.cptr (Dg.cs n)),vi 69 n.at_,vv 70 (.vs 2 b (c.map Dg.av)),vi 71 d,vi 72 o,vv 73 (.cptr (Dg.cs p)),vv 74 (.cptr (Dg.cs p)),vi 75 p.at_,vb 76 q,vb 77 false,vv 78 (.vs 2 b (c.map Dg.av)),vi 79 d,vv 80 (.cptr (Dg.cs r)),vv 81 (.cptr (Dg.cs r)),vi 82 r.at_,vv 83 (.vs 2 b (c.map Dg.av)),vi 84 d,vi 85 s,vv 86 (.cptr t)] [(6,⟨[(.vs 6 u (v.map Typ.av))],[]⟩)] Hp.none 0
theorem p4_22 {i a n p j k q r c b s t d e f g h l} {m : Bool} {u : List Typ} : LM C o 4 qX0 44 (yS356 i a c b n d p e s j f k q g t h r (Dg.cs l) m u) (ix (c.map Dg.av) (w64 (b - 1)) fun v =>
(.mid 0 qX0 50 (yS357 i a c b n d p e s j f k q g t h r l (w64 (b - 1)) (AV.cells v) m u))) := lM 0
abbrev yS358 := fun a (b : Bool) (c : List Dg) d e (f : Dg) g (h : Dg) i j (k : Dg) l m (n : Dg) o (p : Dg) q (r : Dg) s (t : Dg) u v (w : Bool) (x : List Typ) => mkS 108 [vt 5 a,vv 9 (.vs 2 b (c.map Dg.av)),vi 10 d,vb 34 e,vv 37 (.vs 2 b (c.map Dg.av)),vi 38 d,vv 39 (.cptr (Dg.cs f)),vv 40 (.cptr (Dg.cs f)),vi 41 f.at_,vb 42 g,vb 43 false,vv 44 (.vs 2 b (c.map Dg.av)),vi 45 d,vv 46 (.cptr (Dg.cs h)),vv 47 (.cptr (Dg.cs h)),vi 48 h.at_,vt 49 a,vi 50 i,vb 51 j,vb 52 j,vb 53 false,vv 54 (.vs 2 b (c.map Dg.av)),vi 55 d,vv 56 (.cptr (Dg.cs k)),vv 57 (.cptr [(i6 k.err)]),vi 58 k.err,vb 59 l,vb 60 l,vb 61 false,vi 62 d,vb 63 m,vb 64 true,vv 65 (.vs 2 b (c.map Dg.av)),vi 66 d,vv 67 (.cptr (Dg.cs n)),vv 68 (.cptr (Dg.cs n)),vi 69 n.at_,vv 70 (.vs 2 b (c.map Dg.av)),vi 71 d,vi 72 o,vv 73 (.cptr (Dg.cs p)),vv 74 (.cptr (Dg.cs p)),vi 75 p.at_,vb 76 q,vb 77 false,vv 78 (.vs 2 b (c.map Dg.av)),vi 79 d,vv 80 (.cptr (Dg.cs r)),vv 81 (.cptr (Dg.cs r)),vi 82 r.at_,vv 83 (.vs 2 b (c.map Dg.av)),vi 84 d,vi 85 s,vv 86 (.cptr (Dg.cs t)),vv 87 (.cptr (Dg.cs t)),vi 88 t.at_,vb 89 u,vb 90 true,vv 91 (.vs 2 b (c.map Dg.av)),vi 92 d,vv 93 (.cptr v)] [(6,⟨[(.vs 6 w (x.map Typ.av))],[]⟩)] Hp.none 0
theorem p4_23 {k a q r m n s t c b u v w e f g h i d j} {l : Bool} {p : List Typ} : LM C o 4 qX0 50 (yS357 k a c b q e r f u m g n s h v i t d w (Dg.cs j) l p) (.br (decide (d.at_ = j.at_))
(ix (c.map Dg.av) b fun x =>
(.mid 2 qX0 57 (yS358 k a c b q e r f u m g n s h v i t d w j (decide (d.at_ = j.at_)) (AV.cells x) l p)))
(.run 0 qX3 (yS354 k a c b false l p))) := lM 2
abbrev yS359 := fun a (b : Bool) (c : List Dg) d e (f : Dg) g (h : Dg) i j (k : Dg) l m (n : Dg) o (p : Dg) q (r : Dg) s (t : Dg) u (v : Dg) w x (y : Bool) (z : List Typ) => mkS 108 [vt 5 a,vv 9 (.vs 2 b (c.map Dg.av)),vi 10 d,vb 34 e,vv 37 (.vs 2 b (c.map Dg.av)),vi 38 d,vv 39 (.cptr (Dg.cs f)),vv 40 (.cptr (Dg.cs f)),vi 41 f.at_,vb 42 g,vb 43 false,vv 44 (.vs 2 b (c.map Dg.av)),vi 45 d,vv 46 (.cptr (Dg.cs h)),vv 47 (.cptr (Dg.cs h)),vi 48 h.at_,vt 49 a,vi 50 i,vb 51 j,vb 52 j,vb 53 false,vv 54 (.vs 2 b (c.map Dg.av)),vi 55 d,vv 56 (.cptr (Dg.cs k)),vv 57 (.cptr [(i6 k.err)]),vi 58 k.err,vb 59 l,vb 60 l,vb 61 false,vi 62 d,vb 63 m,vb 64 true,vv 65 (.vs 2 b (c.map Dg.av)),vi 66 d,vv 67 (.cptr (Dg.cs n)),vv 68 (.cptr (Dg.cs n)),vi 69 n.at_,vv 70 (.vs 2 b (c.map Dg.av)),vi 71 d,vi 72 o,vv 73 (.cptr (Dg.cs p)),vv 74 (.cptr (Dg.cs p)),vi 75 p.at_,vb 76 q,vb 77 false,vv 78 (.vs 2 b (c.map Dg.av)),vi 79 d,vv 80 (.cptr (Dg.cs r)),vv 81 (.cptr (Dg.cs r)),vi 82 r.at_,vv 83 (.vs 2 b (c.map Dg.av)),vi 84 d,vi 85 s,vv 86 (.cptr (Dg.cs t)),vv 87 (.cptr (Dg.cs t)),vi 88 t.at_,vb 89 u,vb 90 true,vv 91 (.vs 2 b (c.map Dg.av)),vi 92 d,vv 93 (.cptr (Dg.cs v)),vv 94 (.cptr [(i6 v.err)]),vi 95 v.err,vv 96 (.vs 2 b (c.map Dg.av)),vi 97 d,vi 98 w,vv 99 (.cptr x)] [(6,⟨[(.vs 6 y (z.map Typ.av))],[]⟩)] Hp.none 0
theorem p4_24 {k a q r l m s t u c b v w x d e f g h i j n} {p : Bool} {y : List Typ} : LM C o 4 qX0 57 (yS358 k a c b q d r e v l f m s g w h t i x j u (Dg.cs n) p y) (ix (c.map Dg.av) (w64 (b - 1)) fun z =>
(.mid 0 qX0 63 (yS359 k a c b q d r e v l f m s g w h t i x j u n (w64 (b - 1)) (AV.cells z) p y))) := lM 0
theorem p4_25 {e a s t n p u v w c b x y z A g h i j k l m d r} {f : Bool} {q : List Typ} : LM C o 4 qX0 63 (yS359 e a c b s g t h x n i p u j y k v l z m w d A (Dg.cs r) f q) (.br (decide (d.err ≤ r.err))
(rt (.bool false))
(.run 2 qX3 (yS354 e a c b false f q))) := lM 4
end Go.Proofs.YtfdklpkfpmkgeaaGreatDoor
end
section
namespace Go.Proofs.YtfdklpkfpmkgeaaGreatDoor
open Go Go.Vai
def QT (o : Out) : Prop := o.v = .bool true
end Go.Proofs.YtfdklpkfpmkgeaaGreatDoor
end
section
namespace Go.Proofs.YtfdklpkfpmkgeaaGreatDoor
open Go Go.Vai
attribute [local irreducible] goTo zao mkS
variable {C : Nat→Oracle} (hC : Ext C)
include hC
set_option maxHeartbeats 4000000 in
theorem stm_loop (tg : Bool) (l : List Int) (hl : l.length ≤ 1000000) (B M : Nat) (hM : 2 * B + 4200 ≤ M) (hM2 : M ≤ 1000000000000) (d : Int) (hd : 0 ≤ d∧d ≤ 100) (ih : d ≤ 2→∀ a : Int,Was (calL C 38 [.vs 1 tg (ints l),.int .i64 a,.int .i64 (d + 1)] Hp.none 0) (QP B)) :
  ∀ (m : Nat) (i a : Int) (s : List UInt8),(4 - i).toNat = m→0 ≤ i→i ≤ 3→s.length ≤ i.toNat * M →
  Was (RL C 38 [0,5,0,5,0,0,5,2,3] (mkS 107 [(0,.val (.vs 1 tg (ints l)) .no),(1,.val (.int .i64 a) .no),(2,.val (.int .i64 d) .no),(8,.val (.str s) .no),(9,.val (.int .i64 i) .no)] [] Hp.none 0)) (QP (3 * M)):=by
 intro m
 induction m with
 | zero=>intro i a s hm h0 h4; omega
 | succ m IH =>
  intro i a s hm h0 h4 hs;have w1 : w64 (d + 1) = d + 1 := zb0 (by omega) (by omega);have w3 : w64 (i + 1) = i + 1 := zb0 (by omega) (by omega);have k1 : (i + 1).toNat * M = i.toNat * M + M := by rw [show (i + 1).toNat = i.toNat + 1 by omega,Nat.succ_mul]
  have k3 : i.toNat * M ≤ 3 * M := Nat.mul_le_mul_right M (by omega);refine exW (fun o=>p38_1) ?_;simp only [Tr.val,za2,AV.pure,za0,za1]
  repeat' (first
   | refine .bL (by first | omega | (simp only [List.length_append,List.length_cons,List.length_nil,List.length_drop,List.length_take]; omega)) ?_
   | refine .bT (by omega) ?_
   | refine .bF (by omega) ?_
   | (refine .call (w34 hC _ _ (by omega) _) ?_; rintro o ⟨x,e⟩; simp only [e,AV.pure,za0]; clear e)
   | (refine .call (w37 hC _) ?_; rintro o ⟨s,e,h1⟩; simp only [e,AV.pure,za0]; clear e)
   | (refine .call (w22 hC _ _ (by omega) (by omega)) ?_; rintro o ⟨x,e,h1,h2⟩; simp only [e,AV.pure,za0]; clear e)
   | (refine .call (ih (by omega) _) ?_; rintro o ⟨s,x,e,h1⟩; simp only [e,AV.pure,za2,za0]; clear e)
   | (refine .call (w40 hC _ _ (by omega) _ _ (by omega) (by omega)) ?_; rintro o ⟨s,x,e,h1⟩; simp only [e,AV.pure,za2,za0]; clear e)
   | (refine exW (fun o=>p38_2) ?_; simp only [Tr.val,za2,AV.pure,za0,AV.cells,za1,za3,Bool.not_true,Bool.not_false,w1,w3])
   | (refine exW (fun o=>p38_3) ?_; simp only [Tr.val,za2,AV.pure,za0,AV.cells,za1,za3,Bool.not_true,Bool.not_false,w1,w3])
   | (refine exW (fun o=>p38_4) ?_; simp only [Tr.val,za2,AV.pure,za0,AV.cells,za1,za3,Bool.not_true,Bool.not_false,w1,w3])
   | (refine exW (fun o=>p38_5) ?_; simp only [Tr.val,za2,AV.pure,za0,AV.cells,za1,za3,Bool.not_true,Bool.not_false,w1,w3])
   | (refine exW (fun o=>p38_6) ?_; simp only [Tr.val,za2,AV.pure,za0,AV.cells,za1,za3,Bool.not_true,Bool.not_false,w1,w3])
   | (refine exW (fun o=>p38_7) ?_; simp only [Tr.val,za2,AV.pure,za0,AV.cells,za1,za3,Bool.not_true,Bool.not_false,w1,w3])
   | (refine exW (fun o=>p38_8) ?_; simp only [Tr.val,za2,AV.pure,za0,AV.cells,za1,za3,Bool.not_true,Bool.not_false,w1,w3])
   | (refine exW (fun o=>p38_9) ?_; simp only [Tr.val,za2,AV.pure,za0,AV.cells,za1,za3,Bool.not_true,Bool.not_false,w1,w3])
   | (refine exW (fun o=>p38_10) ?_; simp only [Tr.val,za2,AV.pure,za0,AV.cells,za1,za3,Bool.not_true,Bool.not_false,w1,w3])
   | (refine exW (fun o=>p38_11) ?_; simp only [Tr.val,za2,AV.pure,za0,AV.cells,za1,za3,Bool.not_true,Bool.not_false,w1,w3])
   | (refine .nth (B := 20) rfl (by simp only [List.length_cons,List.length_nil]; omega) fun s hs=>?_; simp only [AV.cells])
   | exact .mk ⟨_,_,rfl,by first | omega | (simp only [List.length_append,List.length_cons,List.length_nil,List.length_drop,List.length_take]; omega)⟩
   | refine .dec (fun h=>?_) (fun h=>?_)
   | refine .both (fun h=>?_) (fun h=>?_))
  all_goals exact IH _ _ _ (by omega) (by omega) (by omega) (by first | omega | (simp only [List.length_append,List.length_cons,List.length_nil]; omega))
theorem w38s (tg : Bool) (l : List Int) (hl : l.length ≤ 1000000) (B M : Nat) (hM : 2 * B + 4200 ≤ M) (hM2 : M ≤ 1000000000000) (d : Int) (hd : 0 ≤ d∧d ≤ 100) (ih : d ≤ 2→∀ a : Int,Was (calL C 38 [.vs 1 tg (ints l),.int .i64 a,.int .i64 (d + 1)] Hp.none 0) (QP B)) (a : Int) :
  Was (calL C 38 [.vs 1 tg (ints l),.int .i64 a,.int .i64 d] Hp.none 0) (QP (3 * M)):=by
 refine exW (fun o=>p38_c hC) (exW (fun o=>p38_0) ?_);exact stm_loop hC tg l hl B M hM hM2 d hd ih _ 0 a [] rfl (by decide) (by decide) (by simp)
theorem w38 (tg : Bool) (l : List Int) (hl : l.length ≤ 1000000) (a : Int) : Was (calL C 38 [.vs 1 tg (ints l),.int .i64 a,.int .i64 0] Hp.none 0) (QP 4000000):=by
 have s3 := w38s hC tg l hl 0 4200 (by decide) (by decide) 3 (by decide) (fun h=>absurd h (by decide));have s2 := w38s hC tg l hl _ 29400 (by decide) (by decide) 2 (by decide) (fun _=>s3);have s1 := w38s hC tg l hl _ 180600 (by decide) (by decide) 1 (by decide) (fun _=>s2);have s0 := w38s hC tg l hl _ 1087800 (by decide) (by decide) 0 (by decide) (fun _=>s1);exact (s0 a).imp fun o ⟨s,x,e1,e2⟩=>⟨s,x,e1,Nat.le_trans e2 (by decide)⟩
end Go.Proofs.YtfdklpkfpmkgeaaGreatDoor
end
section
namespace Go.Proofs.YtfdklpkfpmkgeaaGreatDoor
open Go Go.Vai
attribute [local irreducible] goTo zao mkS
variable {C : Nat → Oracle} {o : Out}
abbrev cH0 : AV := (.vs 1 true [(.str [116]),(.str [97,99,99,111,117,110,116]),(.str [117])])
abbrev qH0 : List Nat := [0,5,0,5,0,5,0,0,5,2,3,0,0,5,6,5,0,2,0,5,0,5,0,5,0,0,5,2,3]
abbrev qH1 : List Nat := [0,5,0,5,0,5,0,0,5,2,3,0,0,5,6,5,0,2,0]
abbrev qH2 : List Nat := [0,5,0,5,0,5,0,0,5,2,3,0,0]
abbrev qH3 : List Nat := [0,5,0,5,0,5,0,0,5,2,3,0,0,5,6,5,0,2,0,5,0]
abbrev qH4 : List Nat := [0,5,0,5,0,5,0,0,5,2,3,0,0,5,6,5,0,2,0,5,0,5,0,5,0,0,5,2,3,0,0,5,6,5,0,2,0,5,0,5,0,5,0,5,0,5,2,0,5,7,0,5,7,0,5,7,0,5,7,0,5,7,0,5,7,0,5,6,0,5]
abbrev qH5 : List Nat := [0,5,0,5,0,5,0,0,5,2,3,0,0,5,6,5,0,2,0,5,0,5,0,5,0,0,5,2,3,0,0,5,6,5,0,2,0,5,0,5,0,5,0,5,0,5,2,0,5,7,0,5,7,0,5,7,0,5,7,0,5,7,0,5,7,0,5,7,0,5,6,0,5]
abbrev qH6 : List Nat := [0,5,0,5,0,5,0,0,5,2,3,0,0,5,6,5,0,2,0,5,0,5,0,5,0,0,5,2,3,0,0,5,6,5,0,2,0]
abbrev qH7 : List Nat := [0,5,0,5,0,5,0,0,5,2,3,0,0,5,6,5,0,2,0,5,0,5,0,5,0,0,5,2,3,0,0,5,6,5,0,2,0,5,0]
abbrev qH8 : List Nat := [0,5,0,5,0,5,0,0,5,2,3,0,0,5,6,5,0,2,0,5,0,5,0,5,0,0,5,2,3,0,0,5,6,5,0,2,0,5,0,5,0,5,0,5,0]
abbrev qH9 : List Nat := [0,5,0,5,0,5,0,0,5,2,3,0,0,5,6,5,0,2,0,5,0,5,0,5,0,0,5,2,3,0,0,5,6,5,0,2,0,5,0,5,0,5,0,5,0,5,2,0,5,6]
abbrev qH10 : List Nat := [0,5,0,5,0,5,0,0,5,2,3,0,0,5,6,5,0,2,0,5,0,5,0,5,0,0,5,2,3,0,0,5,6,5,0,2,0,5,0,5,0,5,0,5,0,5,2,0,5,7,0,5,6]
abbrev qH11 : List Nat := [0,5,0,5,0,5,0,0,5,2,3,0,0,5,6,5,0,2,0,5,0,5,0,5,0,0,5,2,3,0,0,5,6,5,0,2,0,5,0,5,0,5,0,5,0,5,2,0,5,7,0,5,7,0,5,6]
abbrev qH12 : List Nat := [0,5,0,5,0,5,0,0,5,2,3,0,0,5,6,5,0,2,0,5,0,5,0,5,0,0,5,2,3,0,0,5,6,5,0,2,0,5,0,5,0,5,0,5,0,5,2,0,5,7,0,5,7,0,5,7,0,5,6]
abbrev qH13 : List Nat := [0,5,0,5,0,5,0,0,5,2,3,0,0,5,6,5,0,2,0,5,0,5,0,5,0,0,5,2,3,0,0,5,6,5,0,2,0,5,0,5,0,5,0,5,0,5,2,0,5,7,0,5,7,0,5,7,0,5,7,0,5,6]
abbrev qH14 : List Nat := [0,5,0,5,0,5,0,0,5,2,3,0,0,5,6,5,0,2,0,5,0,5,0,5,0,0,5,2,3,0,0,5,6,5,0,2,0,5,0,5,0,5,0,5,0,5,2,0,5,7,0,5,7,0,5,7,0,5,7,0,5,7,0,5,6]
abbrev qH15 : List Nat := [0,5,0,5,0,5,0,0,5,2,3,0,0,5,6,5,0,2,0,5,0,5,0,5,0,0,5,2,3,0,0,5,6,5,0,2,0,5,0,5,0,5,0,5,0,5,2,0,5,7,0,5,7,0,5,7,0,5,7,0,5,7,0,5,7,0,5,6,0]
abbrev qH16 : List Nat := [0,5,0,5,0,5,0,0,5,2,3,0,0,5,6,5,0,2,0,5,0,5,0,5,0,0,5,2,3,0,0,5,6,5,0,2,0,5,0,5,0,5,0,5,0,5,2,0,5,7,0,5,7,0,5,7,0,5,7,0,5,7,0,5,7,0,5,7,0,5,6,0]
abbrev qH17 : List Nat := [0,5,0,5,0,5,0,0,5,2,3,0,0,5,6,5,0,2,0,5,0,5,0,5,0,0,5,2,3,0,0,5,6,5,0,2,0,5,0,5,0,5,0,5,0,5,2,0,5,7,0,5,7,0,5,7,0,5,7,0,5,7,0,5,7,0,5,7,0,5,7]
theorem p18_c (hC : Ext C) {a : Bool} {b : List AV} : LC C o 18 (mk0 151 [vv 0 (.vs 1 a b)]) [(.vs 1 a b)] Hp.none 0 := lC hC
theorem p18_0 {a b} : LR C o 18 [] (mk0 151 [vv 0 (.vs 1 a b)]) (.run 0 [0,5,0,5,0,5,0,0,5,2,3] (mk0 151 [vv 0 (.vs 1 a b),vt 3 [],vi 4 0,vi 5 0])) := lR 11
theorem p18_1 {a b d e c} : LR C o 18 [0,5,0,5,0,5,0,0,5,2,3] (mk0 151 [vv 0 (.vs 1 a b),vt 3 d,vi 4 e,vi 5 c]) (cl0 34 [(.vs 1 a b),(i6 0)] fun f => .br (AV.pure f.v)
(.mid 0 qH2 3 (mk0 151 [vv 0 (.vs 1 a b),vt 3 d,vi 4 e,vi 5 c,vi 11 c,vv 12 (.vs 1 a b),vv 13 f.v])) .none) := lR 3
theorem p18_2 {a b e f c d} : LM C o 18 qH2 3 (mk0 151 [vv 0 (.vs 1 a b),vt 3 e,vi 4 f,vi 5 c,vi 11 c,vv 12 (.vs 1 a b),vi 13 d]) (cl0 22 [(i6 d),(i6 2)] fun g => .br (AV.pure g.v)
(.mid 0 qH2 4 (mk0 151 [vv 0 (.vs 1 a b),vt 3 e,vi 4 f,vi 5 c,vi 11 c,vv 12 (.vs 1 a b),vi 13 d,vv 14 g.v])) .none) := lM 0
abbrev yS364 := fun (a : Bool) (b : List AV) c d e f g => mkS 151 [vv 0 (.vs 1 a b),vt 3 c,vi 4 d,vi 5 e,vb 15 true,vt 18 c,vt 19 f,vv 20 cH0,vv 21 (.vs 1 a b),vi 22 d,g] [] Hp.none 0
theorem p18_3 {a c b d e g f} : LM C o 18 qH2 4 (mk0 151 [vv 0 (.vs 1 a c),vt 3 b,vi 4 d,vi 5 e,vi 11 e,vv 12 (.vs 1 a c),vi 13 g,vi 14 f]) (.br (decide (e ≤ f))
(.br (Nat.ble (b.length + 5) 4611686018427387904)
(cl0 34 [(.vs 1 a c),(i6 d)] fun h => .br (AV.pure h.v)
(.mid 0 qH1 6 (yS364 a c b d e (b ++ [116,121,112,101,32]) (vv 23 h.v))) .none) .none)
(rt (.str b))) := lM 6
abbrev yS365 := fun (a : Bool) (b : List AV) c d e f g h => mkS 151 [vv 0 (.vs 1 a b),vt 3 c,vi 4 d,vi 5 e,vb 15 true,vt 18 c,vt 19 f,vv 20 cH0,vv 21 (.vs 1 a b),vi 22 d,vi 23 g,h] [] Hp.none 0
theorem p18_4 {a c d f e g b} : LM C o 18 qH1 6 (yS364 a c d e g f (vi 23 b)) (cl0 22 [(i6 b),(i6 3)] fun h => .br (AV.pure h.v)
(.mid 0 qH1 7 (yS365 a c d e g f b (vv 24 h.v))) .none) := lM 0
abbrev yS366 := fun (a : Bool) (b : List AV) c d e f g h i => mkS 151 [vv 0 (.vs 1 a b),vt 3 c,vi 4 d,vi 5 e,vb 15 true,vt 18 c,vt 19 f,vv 20 cH0,vv 21 (.vs 1 a b),vi 22 d,vi 23 g,vi 24 h,vv 25 (.cptr i)] [] Hp.none 0
theorem p18_5 {a c d f e h g b} : LM C o 18 qH1 7 (yS365 a c d e h f g (vi 24 b)) (ixl 3 [(.str [116]),(.str [97,99,99,111,117,110,116]),(.str [117])] b fun i =>
(.mid 0 qH1 8 (yS366 a c d e h f g b (AV.cells i)))) := lM 0
theorem p18_6 {a e f b c d g h i} : LM C o 18 qH1 8 (yS366 a e f d g b h i [(.str c)]) (.br (Nat.ble (b.length + c.length) 4611686018427387904)
(.br (Nat.ble ((b ++ c).length + 12) 4611686018427387904)
(cl0 34 [(.vs 1 a e),(i6 (w64 (d + 1)))] fun j => .br (AV.pure j.v)
(.mid 0 qH3 4 (mk0 151 [vv 0 (.vs 1 a e),vt 3 ((b ++ c) ++ [32,123,32,35,32,102,105,101,108,100,115,10]),vi 4 d,vi 5 g,vv 29 (.vs 1 a e),vi 30 d,vi 31 (w64 (d + 1)),vv 32 j.v])) .none) .none) .none) := lM 2
theorem p18_7 {a c d g b e f} : LM C o 18 qH3 4 (mk0 151 [vv 0 (.vs 1 a c),vt 3 f,vi 4 d,vi 5 g,vv 29 (.vs 1 a c),vi 30 d,vi 31 e,vi 32 b]) (cl0 22 [(i6 b),(i6 6)] fun h => .br (AV.pure h.v)
(.mid 0 qH3 5 (mk0 151 [vv 0 (.vs 1 a c),vt 3 f,vi 4 d,vi 5 g,vv 29 (.vs 1 a c),vi 30 d,vi 31 e,vi 32 b,vv 33 h.v])) .none) := lM 0
abbrev zk8 := fun (a : Bool) (b : List AV) c d e f g => mk0 151 [vv 0 (.vs 1 a b),vt 3 c,vi 4 d,vi 5 e,vi 6 f,vi 7 g]
theorem p18_8 {a d e f g h b c} : LM C o 18 qH3 5 (mk0 151 [vv 0 (.vs 1 a d),vt 3 c,vi 4 e,vi 5 f,vv 29 (.vs 1 a d),vi 30 e,vi 31 h,vi 32 g,vi 33 b]) (.run 0 qH0 (zk8 a d c (w64 (e + 2)) f (w64 (2 + b)) 0)) := lM 7
theorem p18_9 {a b d c e f g} : LR C o 18 qH0 (zk8 a b d c e f g) (.br (decide (g < f))
(cl0 34 [(.vs 1 a b),(i6 c)] fun h => .br (AV.pure h.v)
(.mid 0 qH6 3 (mk0 151 [vv 0 (.vs 1 a b),vt 3 d,vi 4 c,vi 5 e,vi 6 f,vi 7 g,vb 39 true,vv 42 (.vs 1 a b),vi 43 c,vv 44 h.v])) .none)
(.br (Nat.ble (d.length + 2) 4611686018427387904)
(.run 0 [0,5,0,5,0,5,0,0,5,2,3] (mk0 151 [vv 0 (.vs 1 a b),vt 3 (d ++ [125,10]),vi 4 c,vi 5 (w64 (e + 1))])) .none)) := lR 9
theorem p18_10 {a c d b e f g h} : LM C o 18 qH6 3 (mk0 151 [vv 0 (.vs 1 a c),vt 3 d,vi 4 b,vi 5 e,vi 6 f,vi 7 g,vb 39 true,vv 42 (.vs 1 a c),vi 43 b,vi 44 h]) (cl0 34 [(.vs 1 a c),(i6 (w64 (b + 1)))] fun i => .br (AV.pure i.v)
(.mid 0 qH7 4 (mk0 151 [vv 0 (.vs 1 a c),vt 3 d,vi 4 b,vi 5 e,vi 6 f,vi 7 g,vi 8 h,vv 45 (.vs 1 a c),vi 46 b,vi 47 (w64 (b + 1)),vv 48 i.v])) .none) := lM 2
theorem p18_11 {a c e d f g h b i j} : LM C o 18 qH7 4 (mk0 151 [vv 0 (.vs 1 a c),vt 3 e,vi 4 d,vi 5 f,vi 6 g,vi 7 h,vi 8 b,vv 45 (.vs 1 a c),vi 46 d,vi 47 j,vi 48 i]) (cl0 22 [(i6 b),(i6 9)] fun k => .br (AV.pure k.v)
(.mid 0 qH8 2 (mk0 151 [vv 0 (.vs 1 a c),vt 3 e,vi 4 (w64 (d + 2)),vi 5 f,vi 6 g,vi 7 h,vi 8 b,vi 9 i,vi 51 b,vv 52 k.v])) .none) := lM 6
theorem p18_12 {c e a h i j g b d f} : LM C o 18 qH8 2 (mk0 151 [vv 0 (.vs 1 c e),vt 3 a,vi 4 f,vi 5 h,vi 6 i,vi 7 j,vi 8 g,vi 9 b,vi 51 g,vi 52 d]) (.br (decide (d = 0))
(.br (Nat.ble (a.length + 9) 4611686018427387904)
(cl0 37 [(i6 b)] fun k => .br (AV.pure k.v)
(.mid 22 qH9 4 (mk0 151 [vv 0 (.vs 1 c e),vt 3 a,vi 4 f,vi 5 h,vi 6 i,vi 7 j,vi 8 g,vi 9 b,vi 52 d,vb 59 true,vt 61 a,vt 62 (a ++ [114,101,103,105,115,116,101,114,32]),vi 63 b,vv 64 k.v])) .none) .none)
(.br (decide (d = 1))
(.br (Nat.ble (a.length + 9) 4611686018427387904)
(cl0 37 [(i6 b)] fun l => .br (AV.pure l.v)
(.mid 19 qH10 4 (mk0 151 [vv 0 (.vs 1 c e),vt 3 a,vi 4 f,vi 5 h,vi 6 i,vi 7 j,vi 8 g,vi 9 b,vi 52 d,vb 67 true,vt 69 a,vt 70 (a ++ [114,101,103,105,115,116,101,114,32]),vi 71 b,vv 72 l.v])) .none) .none)
(.br (decide (d = 2))
(.br (Nat.ble (a.length + 8) 4611686018427387904)
(cl0 37 [(i6 b)] fun m => .br (AV.pure m.v)
(.mid 16 qH11 4 (mk0 151 [vv 0 (.vs 1 c e),vt 3 a,vi 4 f,vi 5 h,vi 6 i,vi 7 j,vi 8 g,vi 9 b,vi 52 d,vb 75 true,vt 77 a,vt 78 (a ++ [99,111,117,110,116,101,114,32]),vi 79 b,vv 80 m.v])) .none) .none)
(.br (decide (d = 3))
(.br (Nat.ble (a.length + 4) 4611686018427387904)
(cl0 37 [(i6 b)] fun n => .br (AV.pure n.v)
(.mid 13 qH12 4 (mk0 151 [vv 0 (.vs 1 c e),vt 3 a,vi 4 f,vi 5 h,vi 6 i,vi 7 j,vi 8 g,vi 9 b,vi 52 d,vb 83 true,vt 85 a,vt 86 (a ++ [109,97,120,32]),vi 87 b,vv 88 n.v])) .none) .none)
(.br (decide (d = 4))
(.br (Nat.ble (a.length + 4) 4611686018427387904)
(cl0 37 [(i6 b)] fun p => .br (AV.pure p.v)
(.mid 10 qH13 4 (mk0 151 [vv 0 (.vs 1 c e),vt 3 a,vi 4 f,vi 5 h,vi 6 i,vi 7 j,vi 8 g,vi 9 b,vi 52 d,vb 91 true,vt 93 a,vt 94 (a ++ [115,101,116,32]),vi 95 b,vv 96 p.v])) .none) .none)
(.br (decide (d = 5))
(.br (Nat.ble (a.length + 5) 4611686018427387904)
(cl0 37 [(i6 b)] fun q => .br (AV.pure q.v)
(.mid 7 qH14 4 (mk0 151 [vv 0 (.vs 1 c e),vt 3 a,vi 4 f,vi 5 h,vi 6 i,vi 7 j,vi 8 g,vi 9 b,vi 52 d,vb 99 true,vt 101 a,vt 102 (a ++ [102,108,97,103,32]),vi 103 b,vv 104 q.v])) .none) .none)
(.br (decide (d = 6))
(cl0 38 [(.vs 1 c e),(i6 f),(i6 0)] fun r => .br (AV.pure r.v)
(.mid 3 qH15 3 (mk0 151 [vv 0 (.vs 1 c e),vt 3 a,vi 4 f,vi 5 h,vi 6 i,vi 7 j,vi 8 g,vi 9 b,vi 52 d,vb 107 true,vv 110 (.vs 1 c e),vi 111 f,vv 112 r.v])) .none)
(.br (decide (d = 7))
(cl0 40 [(.vs 1 c e),(i6 f),(i6 0)] fun s => .br (AV.pure s.v)
(.mid 0 qH16 3 (mk0 151 [vv 0 (.vs 1 c e),vt 3 a,vi 4 f,vi 5 h,vi 6 i,vi 7 j,vi 8 g,vi 9 b,vb 127 true,vv 130 (.vs 1 c e),vi 131 f,vv 132 s.v])) .none)
(.br (Nat.ble (a.length + 6) 4611686018427387904)
(cl0 37 [(i6 b)] fun t => .br (AV.pure t.v)
(.mid 1 qH17 4 (mk0 151 [vv 0 (.vs 1 c e),vt 3 a,vi 4 f,vi 5 h,vi 6 i,vi 7 j,vi 8 g,vi 9 b,vt 53 a,vt 54 (a ++ [105,110,100,101,120,32]),vi 55 b,vv 56 t.v,vb 127 false])) .none) .none))))))))) := lM 27
theorem p18_13 {c d e a b f g h k i l j} : LM C o 18 qH9 4 (mk0 151 [vv 0 (.vs 1 c d),vt 3 e,vi 4 j,vi 5 f,vi 6 g,vi 7 h,vi 8 k,vi 9 i,vi 52 l,vb 59 true,vt 61 e,vt 62 b,vi 63 i,vt 64 a]) (.br (Nat.ble (b.length + a.length) 4611686018427387904)
(.br (Nat.ble ((b ++ a).length + 5) 4611686018427387904)
(.run 0 qH0 (zk8 c d ((b ++ a) ++ [32,105,110,116,59]) j f g (w64 (h + 1)))) .none) .none) := lM 4
theorem p18_14 {c d e a b f g h k i l j} : LM C o 18 qH10 4 (mk0 151 [vv 0 (.vs 1 c d),vt 3 e,vi 4 j,vi 5 f,vi 6 g,vi 7 h,vi 8 k,vi 9 i,vi 52 l,vb 67 true,vt 69 e,vt 70 b,vi 71 i,vt 72 a]) (.br (Nat.ble (b.length + a.length) 4611686018427387904)
(.br (Nat.ble ((b ++ a).length + 7) 4611686018427387904)
(.run 0 qH0 (zk8 c d ((b ++ a) ++ [32,116,101,120,116,59,10]) j f g (w64 (h + 1)))) .none) .none) := lM 4
theorem p18_15 {c d e a b f g h k i l j} : LM C o 18 qH11 4 (mk0 151 [vv 0 (.vs 1 c d),vt 3 e,vi 4 j,vi 5 f,vi 6 g,vi 7 h,vi 8 k,vi 9 i,vi 52 l,vb 75 true,vt 77 e,vt 78 b,vi 79 i,vt 80 a]) (.br (Nat.ble (b.length + a.length) 4611686018427387904)
(.br (Nat.ble ((b ++ a).length + 2) 4611686018427387904)
(.run 0 qH0 (zk8 c d ((b ++ a) ++ [59,32]) j f g (w64 (h + 1)))) .none) .none) := lM 4
theorem p18_16 {c d e a b f g h k i l j} : LM C o 18 qH12 4 (mk0 151 [vv 0 (.vs 1 c d),vt 3 e,vi 4 j,vi 5 f,vi 6 g,vi 7 h,vi 8 k,vi 9 i,vi 52 l,vb 83 true,vt 85 e,vt 86 b,vi 87 i,vt 88 a]) (.br (Nat.ble (b.length + a.length) 4611686018427387904)
(.br (Nat.ble ((b ++ a).length + 1) 4611686018427387904)
(.run 0 qH0 (zk8 c d ((b ++ a) ++ [59]) j f g (w64 (h + 1)))) .none) .none) := lM 4
theorem p18_17 {c d e a b f g h k i l j} : LM C o 18 qH13 4 (mk0 151 [vv 0 (.vs 1 c d),vt 3 e,vi 4 j,vi 5 f,vi 6 g,vi 7 h,vi 8 k,vi 9 i,vi 52 l,vb 91 true,vt 93 e,vt 94 b,vi 95 i,vt 96 a]) (.br (Nat.ble (b.length + a.length) 4611686018427387904)
(.br (Nat.ble ((b ++ a).length + 2) 4611686018427387904)
(.run 0 qH0 (zk8 c d ((b ++ a) ++ [59,9]) j f g (w64 (h + 1)))) .none) .none) := lM 4
theorem p18_18 {c d e a b f g h k i l j} : LM C o 18 qH14 4 (mk0 151 [vv 0 (.vs 1 c d),vt 3 e,vi 4 j,vi 5 f,vi 6 g,vi 7 h,vi 8 k,vi 9 i,vi 52 l,vb 99 true,vt 101 e,vt 102 b,vi 103 i,vt 104 a]) (.br (Nat.ble (b.length + a.length) 4611686018427387904)
(.br (Nat.ble ((b ++ a).length + 1) 4611686018427387904)
(.run 0 qH0 (zk8 c d ((b ++ a) ++ [59]) j f g (w64 (h + 1)))) .none) .none) := lM 4
theorem p18_19 {b d a e f g h i c l j k} : LM C o 18 qH15 3 (mk0 151 [vv 0 (.vs 1 b d),vt 3 a,vi 4 j,vi 5 f,vi 6 g,vi 7 h,vi 8 i,vi 9 c,vi 52 l,vb 107 true,vv 110 (.vs 1 b d),vi 111 j,vv 112 (.tuple [(.str e),(i6 k)])]) (.br (Nat.ble (a.length + 3) 4611686018427387904)
(cl0 37 [(i6 c)] fun m => .br (AV.pure m.v)
(.mid 0 qH4 4 (mk0 151 [vv 0 (.vs 1 b d),vt 3 a,vi 4 k,vi 5 f,vi 6 g,vi 7 h,vi 8 i,vi 9 c,vt 10 e,vt 115 a,vt 116 (a ++ [111,112,32]),vi 117 c,vv 118 m.v])) .none) .none) := lM 1
theorem p18_20 {b d a e f g h i c j k} : LM C o 18 qH16 3 (mk0 151 [vv 0 (.vs 1 b d),vt 3 a,vi 4 j,vi 5 f,vi 6 g,vi 7 h,vi 8 i,vi 9 c,vb 127 true,vv 130 (.vs 1 b d),vi 131 j,vv 132 (.tuple [(.str e),(i6 k)])]) (.br (Nat.ble (a.length + 6) 4611686018427387904)
(cl0 37 [(i6 c)] fun l => .br (AV.pure l.v)
(.mid 0 qH5 4 (mk0 151 [vv 0 (.vs 1 b d),vt 3 a,vi 4 k,vi 5 f,vi 6 g,vi 7 h,vi 8 i,vi 9 c,vt 10 e,vt 135 a,vt 136 (a ++ [113,117,101,114,121,32]),vi 137 c,vv 138 l.v])) .none) .none) := lM 1
theorem p18_21 {c d e a b f g h k i j} : LM C o 18 qH17 4 (mk0 151 [vv 0 (.vs 1 c d),vt 3 e,vi 4 j,vi 5 f,vi 6 g,vi 7 h,vi 8 k,vi 9 i,vt 53 e,vt 54 b,vi 55 i,vt 56 a,vb 127 false]) (.br (Nat.ble (b.length + a.length) 4611686018427387904)
(.br (Nat.ble ((b ++ a).length + 1) 4611686018427387904)
(.run 0 qH0 (zk8 c d ((b ++ a) ++ [59]) j f g (w64 (h + 1)))) .none) .none) := lM 4
theorem p18_22 {f g a h b c i j k d e l} : LM C o 18 qH4 4 (mk0 151 [vv 0 (.vs 1 f g),vt 3 a,vi 4 l,vi 5 i,vi 6 j,vi 7 k,vi 8 d,vi 9 e,vt 10 h,vt 115 a,vt 116 c,vi 117 e,vt 118 b]) (.br (Nat.ble (c.length + b.length) 4611686018427387904)
(cl0 39 [(i6 d)] fun m => .br (AV.pure m.v)
(.mid 0 qH4 7 (mk0 151 [vv 0 (.vs 1 f g),vt 3 a,vi 4 l,vi 5 i,vi 6 j,vi 7 k,vi 8 d,vi 9 e,vt 10 h,vt 115 a,vt 116 c,vi 117 e,vt 118 b,vt 119 (c ++ b),vi 120 d,vv 121 m.v])) .none) .none) := lM 0
theorem p18_23 {f g c h a b i j k d e l} : LM C o 18 qH5 4 (mk0 151 [vv 0 (.vs 1 f g),vt 3 c,vi 4 l,vi 5 i,vi 6 j,vi 7 k,vi 8 d,vi 9 e,vt 10 h,vt 135 c,vt 136 b,vi 137 e,vt 138 a]) (.br (Nat.ble (b.length + a.length) 4611686018427387904)
(.br (Nat.ble ((b ++ a).length + 1) 4611686018427387904)
(cl0 39 [(i6 d)] fun m => .br (AV.pure m.v)
(.mid 0 qH5 8 (mk0 151 [vv 0 (.vs 1 f g),vt 3 c,vi 4 l,vi 5 i,vi 6 j,vi 7 k,vi 8 d,vi 9 e,vt 10 h,vt 135 c,vt 136 b,vi 137 e,vt 138 a,vt 139 (b ++ a),vt 140 ((b ++ a) ++ [32]),vi 141 d,vv 142 m.v])) .none) .none) .none) := lM 0
theorem p18_24 {d e f c m n a b g h i j k l} : LM C o 18 qH4 7 (mk0 151 [vv 0 (.vs 1 d e),vt 3 f,vi 4 l,vi 5 g,vi 6 h,vi 7 i,vi 8 j,vi 9 k,vt 10 c,vt 115 f,vt 116 n,vi 117 k,vt 118 m,vt 119 b,vi 120 j,vt 121 a]) (.br (Nat.ble (b.length + a.length) 4611686018427387904)
(.br (Nat.ble ((b ++ a).length + 1) 4611686018427387904)
(.br (Nat.ble (((b ++ a) ++ [123]).length + c.length) 4611686018427387904)
(.br (Nat.ble ((((b ++ a) ++ [123]) ++ c).length + 1) 4611686018427387904)
(.run 0 qH0 (zk8 d e ((((b ++ a) ++ [123]) ++ c) ++ [125]) l g h (w64 (i + 1)))) .none) .none) .none) .none) := lM 4
theorem p18_25 {d e f c m n a p b g h i j k l} : LM C o 18 qH5 8 (mk0 151 [vv 0 (.vs 1 d e),vt 3 f,vi 4 l,vi 5 g,vi 6 h,vi 7 i,vi 8 j,vi 9 k,vt 10 c,vt 135 f,vt 136 n,vi 137 k,vt 138 m,vt 139 p,vt 140 b,vi 141 j,vt 142 a]) (.br (Nat.ble (b.length + a.length) 4611686018427387904)
(.br (Nat.ble ((b ++ a).length + 3) 4611686018427387904)
(.br (Nat.ble (((b ++ a) ++ [32,61,32]).length + c.length) 4611686018427387904)
(.br (Nat.ble ((((b ++ a) ++ [32,61,32]) ++ c).length + 2) 4611686018427387904)
(.run 0 qH0 (zk8 d e ((((b ++ a) ++ [32,61,32]) ++ c) ++ [32,59]) l g h (w64 (i + 1)))) .none) .none) .none) .none) := lM 4
end Go.Proofs.YtfdklpkfpmkgeaaGreatDoor
end
section
namespace Go.Proofs.YtfdklpkfpmkgeaaGreatDoor
open Go Go.Vai
attribute [local irreducible] goTo zao mkS
variable {C : Nat→Oracle} (hC : Ext C)
include hC
set_option maxHeartbeats 4000000 in
theorem zts (tg : Bool) (l : List Int) (hl : l.length ≤ 1000000) (t : Int) (ht : 0 ≤ t∧t ≤ 10) (A : Nat) (hA : A ≤ 1000000000) (Q : Out→Prop)
  (hout : ∀ (a : Int) (s : List UInt8),s.length ≤ A + 28070002→Was (RL C 18 [0,5,0,5,0,5,0,0,5,2,3] (mkS 151 [(0,.val (.vs 1 tg (ints l)) .no),(3,.val (.str s) .no),(4,.val (.int .i64 a) .no),(5,.val (.int .i64 (t + 1)) .no)] [] Hp.none 0)) Q)
  (mem : Int) (hm7 : mem ≤ 7) : ∀ (m : Nat) (i a : Int) (s : List UInt8),(8 - i).toNat = m→0 ≤ i→i ≤ 7→s.length ≤ A + i.toNat * 4010000 →
  Was (RL C 18 [0,5,0,5,0,5,0,0,5,2,3,0,0,5,6,5,0,2,0,5,0,5,0,5,0,0,5,2,3] (mkS 151 [(0,.val (.vs 1 tg (ints l)) .no),(3,.val (.str s) .no),(4,.val (.int .i64 a) .no),(5,.val (.int .i64 t) .no),(6,.val (.int .i64 mem) .no),(7,.val (.int .i64 i) .no)] [] Hp.none 0)) Q:=by
 intro m
 induction m with
 | zero=>intro i a s hm h0 h4; omega
 | succ m IH =>
  intro i a s hm h0 h4 hs;have w1 : w64 (t + 1) = t + 1 := zb0 (by omega) (by omega);have w3 : w64 (i + 1) = i + 1 := zb0 (by omega) (by omega);refine exW (fun o=>p18_9) ?_;simp only [Tr.val,za2,AV.pure,za0,za1,w1,w3]
  repeat' (first
   | refine .bL (by first | omega | (simp only [List.length_append,List.length_cons,List.length_nil,List.length_drop,List.length_take]; omega)) ?_
   | refine .bT (by omega) ?_
   | refine .bF (by omega) ?_
   | (refine .call (w34 hC _ _ (by omega) _) ?_; rintro o ⟨x,e⟩; simp only [e,AV.pure,za0]; clear e)
   | (refine .call (w37 hC _) ?_; rintro o ⟨s,e,h1⟩; simp only [e,AV.pure,za0]; clear e)
   | (refine .call (w22 hC _ _ (by omega) (by omega)) ?_; rintro o ⟨x,e,h1,h2⟩; simp only [e,AV.pure,za0]; clear e)
   | (refine .call (w39 hC _) ?_; rintro o ⟨s,e,h1⟩; simp only [e,AV.pure,za0]; clear e)
   | (refine .call (w38 hC _ _ (by omega) _) ?_; rintro o ⟨s,x,e,h1⟩; simp only [e,AV.pure,za2,za0]; clear e)
   | (refine .call (w40 hC _ _ (by omega) _ _ (by omega) (by omega)) ?_; rintro o ⟨s,x,e,h1⟩; simp only [e,AV.pure,za2,za0]; clear e)
   | (refine exW (fun o=>p18_10) ?_; simp only [Tr.val,za2,AV.pure,za0,AV.cells,za1,za3,Bool.not_true,Bool.not_false,w1,w3])
   | (refine exW (fun o=>p18_11) ?_; simp only [Tr.val,za2,AV.pure,za0,AV.cells,za1,za3,Bool.not_true,Bool.not_false,w1,w3])
   | (refine exW (fun o=>p18_12) ?_; simp only [Tr.val,za2,AV.pure,za0,AV.cells,za1,za3,Bool.not_true,Bool.not_false,w1,w3])
   | (refine exW (fun o=>p18_13) ?_; simp only [Tr.val,za2,AV.pure,za0,AV.cells,za1,za3,Bool.not_true,Bool.not_false,w1,w3])
   | (refine exW (fun o=>p18_14) ?_; simp only [Tr.val,za2,AV.pure,za0,AV.cells,za1,za3,Bool.not_true,Bool.not_false,w1,w3])
   | (refine exW (fun o=>p18_15) ?_; simp only [Tr.val,za2,AV.pure,za0,AV.cells,za1,za3,Bool.not_true,Bool.not_false,w1,w3])
   | (refine exW (fun o=>p18_16) ?_; simp only [Tr.val,za2,AV.pure,za0,AV.cells,za1,za3,Bool.not_true,Bool.not_false,w1,w3])
   | (refine exW (fun o=>p18_17) ?_; simp only [Tr.val,za2,AV.pure,za0,AV.cells,za1,za3,Bool.not_true,Bool.not_false,w1,w3])
   | (refine exW (fun o=>p18_18) ?_; simp only [Tr.val,za2,AV.pure,za0,AV.cells,za1,za3,Bool.not_true,Bool.not_false,w1,w3])
   | (refine exW (fun o=>p18_19) ?_; simp only [Tr.val,za2,AV.pure,za0,AV.cells,za1,za3,Bool.not_true,Bool.not_false,w1,w3])
   | (refine exW (fun o=>p18_20) ?_; simp only [Tr.val,za2,AV.pure,za0,AV.cells,za1,za3,Bool.not_true,Bool.not_false,w1,w3])
   | (refine exW (fun o=>p18_21) ?_; simp only [Tr.val,za2,AV.pure,za0,AV.cells,za1,za3,Bool.not_true,Bool.not_false,w1,w3])
   | (refine exW (fun o=>p18_22) ?_; simp only [Tr.val,za2,AV.pure,za0,AV.cells,za1,za3,Bool.not_true,Bool.not_false,w1,w3])
   | (refine exW (fun o=>p18_23) ?_; simp only [Tr.val,za2,AV.pure,za0,AV.cells,za1,za3,Bool.not_true,Bool.not_false,w1,w3])
   | (refine exW (fun o=>p18_24) ?_; simp only [Tr.val,za2,AV.pure,za0,AV.cells,za1,za3,Bool.not_true,Bool.not_false,w1,w3])
   | (refine exW (fun o=>p18_25) ?_; simp only [Tr.val,za2,AV.pure,za0,AV.cells,za1,za3,Bool.not_true,Bool.not_false,w1,w3])
   | (refine .nth (B := 20) rfl (by simp only [List.length_cons,List.length_nil]; omega) fun s hs=>?_; simp only [AV.cells])
   | exact .mk ⟨_,rfl,by first | omega | (simp only [List.length_append,List.length_cons,List.length_nil,List.length_drop,List.length_take]; omega)⟩
   | refine .dec (fun h=>?_) (fun h=>?_)
   | refine .both (fun h=>?_) (fun h=>?_))
  all_goals first
   | exact hout _ _ (by simp only [List.length_append,List.length_cons,List.length_nil]; omega)
   | exact IH _ _ _ (by omega) (by omega) (by omega) (by first | omega | (simp only [List.length_append,List.length_cons,List.length_nil]; omega))
set_option maxHeartbeats 4000000 in
theorem zuc (tg : Bool) (l : List Int) (hl : l.length ≤ 1000000) : ∀ (m : Nat) (t a : Int) (s : List UInt8),(3 - t).toNat = m→0 ≤ t→t ≤ 2→s.length ≤ t.toNat * 30000000 →
  Was (RL C 18 [0,5,0,5,0,5,0,0,5,2,3] (mkS 151 [(0,.val (.vs 1 tg (ints l)) .no),(3,.val (.str s) .no),(4,.val (.int .i64 a) .no),(5,.val (.int .i64 t) .no)] [] Hp.none 0)) (QS 100000000):=by
 intro m
 induction m with
 | zero=>intro i a s hm h0 h4; omega
 | succ m IH =>
  intro t a z hm h0 h4 hs;refine exW (fun o=>p18_1) ?_;simp only [Tr.val,za2,AV.pure,za0,za1]
  repeat' (first
   | refine .bL (by first | omega | (simp only [List.length_append,List.length_cons,List.length_nil,List.length_drop,List.length_take]; omega)) ?_
   | refine .bT (by omega) ?_
   | refine .bF (by omega) ?_
   | (refine .call (w34 hC _ _ (by omega) _) ?_; rintro o ⟨x,e⟩; simp only [e,AV.pure,za0]; clear e)
   | (refine .call (w22 hC _ _ (by omega) (by omega)) ?_; rintro o ⟨x,e,h1,h2⟩; simp only [e,AV.pure,za0]; clear e)
   | (refine exW (fun o=>p18_2) ?_; simp only [Tr.val,za2,AV.pure,za0,AV.cells,za1,za3,Bool.not_true,Bool.not_false])
   | (refine exW (fun o=>p18_3) ?_; simp only [Tr.val,za2,AV.pure,za0,AV.cells,za1,za3,Bool.not_true,Bool.not_false])
   | (refine exW (fun o=>p18_4) ?_; simp only [Tr.val,za2,AV.pure,za0,AV.cells,za1,za3,Bool.not_true,Bool.not_false])
   | (refine exW (fun o=>p18_5) ?_; simp only [Tr.val,za2,AV.pure,za0,AV.cells,za1,za3,Bool.not_true,Bool.not_false])
   | (refine exW (fun o=>p18_6) ?_; simp only [Tr.val,za2,AV.pure,za0,AV.cells,za1,za3,Bool.not_true,Bool.not_false])
   | (refine exW (fun o=>p18_7) ?_; simp only [Tr.val,za2,AV.pure,za0,AV.cells,za1,za3,Bool.not_true,Bool.not_false])
   | (refine exW (fun o=>p18_8) ?_; simp only [Tr.val,za2,AV.pure,za0,AV.cells,za1,za3,Bool.not_true,Bool.not_false])
   | (refine .nth (B := 20) rfl (by simp only [List.length_cons,List.length_nil]; omega) fun s hs=>?_; simp only [AV.cells])
   | exact .mk ⟨_,rfl,by first | omega | (simp only [List.length_append,List.length_cons,List.length_nil,List.length_drop,List.length_take]; omega)⟩
   | refine .dec (fun h=>?_) (fun h=>?_)
   | refine .both (fun h=>?_) (fun h=>?_))
  all_goals exact zts hC tg l hl t (by omega) (z.length + 60) (by omega) _ (fun a' s' hs'=>IH _ _ _ (by omega) (by omega) (by omega) (by omega)) _ (by rw [zb0 (by omega) (by omega)]; omega) _ 0 _ _ rfl (by decide) (by decide) (by simp only [List.length_append,List.length_cons,List.length_nil]; omega)
theorem w18 (tg : Bool) (l : List Int) (hl : l.length ≤ 1000000) : Was (calL C 18 [.vs 1 tg (ints l)] Hp.none 0) (QS 100000000):=by
 refine exW (fun o=>p18_c hC) (exW (fun o=>p18_0) ?_);exact zuc hC tg l hl _ 0 0 [] rfl (by decide) (by decide) (by simp)
end Go.Proofs.YtfdklpkfpmkgeaaGreatDoor
end
