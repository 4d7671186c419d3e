/- Counts of effects: the functions. -/
import Derived.Test.YtfdklpkfpmkgeaaGreatDoorM6
import Derived.Test.YtfdklpkfpmkgeaaGreatDoorM8
import Derived.Test.YtfdklpkfpmkgeaaGreatDoorM10
import Derived.Test.YtfdklpkfpmkgeaaGreatDoorM11
import Derived.Test.YtfdklpkfpmkgeaaGreatDoorM12
set_option linter.unusedSimpArgs false
set_option linter.unusedVariables false
set_option linter.unusedSectionVars false
set_option linter.unnecessarySimpa false
namespace Go.Proofs.YtfdklpkfpmkgeaaGreatDoor
section
open Go Go.Vai
attribute [local irreducible] goTo zao mkS
def Cn.av (c : Cn) : AV := .agg [.int .i64 c.least,.int .i64 c.most,.bool c.w,.bool c.o]
theorem Was.to {x : Option Out} {A B : AV} (h : Was x (fun o=>o.v = A)) (e : A = B) : Was x (fun o=>o.v = B) := e ▸ h
theorem agg4 {a a' b b' : Int} {c c' d d' : Bool} (h1 : a = a') (h2 : b = b') (h3 : c = c') (h4 : d = d') : AV.agg [.int .i64 a,.int .i64 b,.bool c,.bool d] = .agg [.int .i64 a',.int .i64 b',.bool c',.bool d'] := by subst h1 h2 h3 h4; rfl
def XB (X : List (Nat × Blk)) : Prop := X = [] ∨ (∃ a b c d e f g h i,X = [(5,⟨[.int .i64 a,.str b,.vs 5 c d,.vs 6 e f,.vs 6 g h,.int .i64 i],[]⟩)]) ∨
 ∃ a b c d e f g h i j k l m n o p q,X = [(5,⟨[.int .i64 a,.str b,.vs 5 c d,.vs 6 e f,.vs 6 g h,.int .i64 i],[]⟩),(6,⟨[.int .i64 j,.int .i64 k,.bool l,.bool m],[]⟩),(7,⟨[.int .i64 n,.int .i64 o,.bool p,.bool q],[]⟩)]
theorem XB.one (a : Int) (b : List UInt8) (c : Bool) (d : List AV) (e : Bool) (f : List AV) (g : Bool) (h : List AV) (i : Int) : XB [(5,⟨[.int .i64 a,.str b,.vs 5 c d,.vs 6 e f,.vs 6 g h,.int .i64 i],[]⟩)] := .inr (.inl ⟨a,b,c,d,e,f,g,h,i,rfl⟩)
theorem XB.three (a : Int) (b : List UInt8) (c : Bool) (d : List AV) (e : Bool) (f : List AV) (g : Bool) (h : List AV) (i j k : Int) (l m : Bool) (n o : Int) (p q : Bool) : XB [(5,⟨[.int .i64 a,.str b,.vs 5 c d,.vs 6 e f,.vs 6 g h,.int .i64 i],[]⟩),(6,⟨[.int .i64 j,.int .i64 k,.bool l,.bool m],[]⟩),(7,⟨[.int .i64 n,.int .i64 o,.bool p,.bool q],[]⟩)] := .inr (.inr ⟨a,b,c,d,e,f,g,h,i,j,k,l,m,n,o,p,q,rfl⟩)
variable {C : Nat→Oracle} (hC : Ext C)
set_option maxHeartbeats 4000000 in
theorem cnt_loop (tg : Bool) (L : List Stm) (hL : L.length ≤ 10000) (ih : ∀ l tg,szL l < szL L→Was (calL C 35 [.vs 6 tg (stms l)] Hp.none 0) (fun o=>o.v = (cnL l).av)) (a1 a2 : Int) (a3 a4 : Bool) :
  ∀ (r : List Stm) (i : Nat) (x y : Int) (w u : Bool) (X : List (Nat × Blk)),L.drop i = r→i ≤ L.length→0 ≤ x→x ≤ y→y + szL r ≤ 10000→XB X →
  Was (RL C 35 Q0i (mkS 89 [(2,.lp 2 0),(3,.lp 3 0),(8,.val (.vs 6 tg (stms L)) .no),(9,.val (.int .i64 (L.length : Int)) .no),(10,.val (.int .i64 (i : Int)) .no)] ([(2,⟨[(.int .i64 a1),(.int .i64 a2),(.bool a3),(.bool a4)],[]⟩),(3,⟨[(.int .i64 x),(.int .i64 y),(.bool w),(.bool u)],[]⟩)] ++ X) Hp.none 0))
   (fun o=>o.v = .agg [.int .i64 (x + (cnL r).least),.int .i64 (y + (cnL r).most),.bool (w || (cnL r).w),.bool (u || (cnL r).o)]):=by
 intro r;have hlen : (stms L).length = L.length := by rw [zew,lnM]
 induction r with
 | nil =>
  intro i x y w u X hi hil h0 h1 h2 hX;have := zal _ _ hil hi;rw [cnL];simp only [Int.add_zero,Bool.or_false];rcases hX with rfl | ⟨a,b,c,d,e,f,g,h,i',rfl⟩ | ⟨a,b,c,d,e,f,g,h,i',j,k,l,m,n,o,p,q,rfl⟩
  all_goals
   simp only [List.append_nil,List.cons_append,List.nil_append]
   first | refine exW (fun o=>p35_1) ?_ | refine exW (fun o=>p35_3) ?_ | refine exW (fun o=>p35_7) ?_
   exact .bF (by omega) (.mk rfl)
 | cons s r IH =>
  intro i x y w u X hi hil h0 h1 h2 hX;obtain ⟨g1,g2,g3⟩ := zat _ _ hi;obtain ⟨k,nm,v,t1,th,t2,el,at'⟩ := s;have hsz : szL (Stm.mk k nm v t1 th t2 el at' :: r) = 1 + szL th + szL el + szL r := by rw [szL,Stm.sz]
  have hszL : szL L = szL (L.take i) + szL (Stm.mk k nm v t1 th t2 el at' :: r) := by rw [← hi,← zic,List.take_append_drop]
  have ihT : ∀ tg,szL th < szL L→Was (calL C 35 [.vs 6 tg (stms th)] Hp.none 0) (fun o=>o.v = .agg [.int .i64 (cnL th).least,.int .i64 (cnL th).most,.bool (cnL th).w,.bool (cnL th).o]) := fun tg h=>ih th tg h;have ihE : ∀ tg,szL el < szL L→Was (calL C 35 [.vs 6 tg (stms el)] Hp.none 0) (fun o=>o.v = .agg [.int .i64 (cnL el).least,.int .i64 (cnL el).most,.bool (cnL el).w,.bool (cnL el).o]) := fun tg h=>ih el tg h;have hn : nth (stms L) (Int.toNat (i : Int)) = some (Stm.mk k nm v t1 th t2 el at').av := by rw [itN,zci,zew,List.getElem?_map,g1]; rfl
  obtain ⟨bl,bm,bn⟩ := And.intro (zcs th).l0 (And.intro (zcs th).lm (zcs th).mn);obtain ⟨bl',bm',bn'⟩ := And.intro (zcs el).l0 (And.intro (zcs el).lm (zcs el).mn);have hc : cnL (Stm.mk k nm v t1 th t2 el at' :: r) = ⟨(Stm.mk k nm v t1 th t2 el at').cn.least + (cnL r).least,(Stm.mk k nm v t1 th t2 el at').cn.most + (cnL r).most,(Stm.mk k nm v t1 th t2 el at').cn.w || (cnL r).w,(Stm.mk k nm v t1 th t2 el at').cn.o || (cnL r).o⟩ := by rw [cnL]
  have wi : w64 ((i : Int) + 1) = ((i + 1 : Nat) : Int) := by rw [zb1 (by omega) (by omega)]; omega
  rw [hc];by_cases k6 : k = 6
  ·have hcn : (Stm.mk k nm v t1 th t2 el at').cn = ⟨if (cnL el).least < (cnL th).least then (cnL el).least else (cnL th).least,if (cnL th).most < (cnL el).most then (cnL el).most else (cnL th).most,(cnL th).w || (cnL el).w,(cnL th).o || (cnL el).o⟩ := by rw [Stm.cn,if_pos k6]
   rw [hcn];generalize hm1 : (if (cnL el).least < (cnL th).least then (cnL el).least else (cnL th).least) = m1;generalize hm2 : (if (cnL th).most < (cnL el).most then (cnL el).most else (cnL th).most) = m2;have b1 : 0 ≤ m1∧m1 ≤ m2∧m2 ≤ szL th + szL el := by rw [← hm1,← hm2]; split <;> split <;> omega
   have wx : w64 (x + m1) = x + m1 := zb1 (by omega) (by omega);have wy : w64 (y + m2) = y + m2 := zb1 (by omega) (by omega);have go := fun w' u' X' hX'=>IH (i + 1) (x + m1) (y + m2) w' u' X' g2 (by omega) (by omega) (by omega) (by omega) hX';rcases hX with rfl | ⟨a,b,c,d,e,f,g,h,i',rfl⟩ | ⟨a,b,c,d,e,f,g,h,i',j,k',l,m,n,o,p,q,rfl⟩
   all_goals
    simp only [List.append_nil,List.cons_append,List.nil_append] at go ⊢
    first | refine exW (fun o=>p35_1) ?_ | refine exW (fun o=>p35_3) ?_ | refine exW (fun o=>p35_7) ?_
    simp only [Tr.val,hlen,hn,obS,zim,AV.cells];refine .bT (by omega) (.bT (by omega) (.bT (by omega) ?_))
    first | refine exW (fun o=>p35_2) ?_ | refine exW (fun o=>p35_5) ?_ | refine exW (fun o=>p35_8) ?_ | refine exW (fun o=>p35_9) ?_
    simp only [Tr.val,k6,decide_true,bnT,zaw,za3,AV.pure,za7,za0];refine .call (ihT _ (by omega)) ?_;rintro o e;simp only [e,AV.pure,za3,za0];clear e
    first | refine exW (fun o=>p35_4) ?_ | refine exW (fun o=>p35_8) ?_ | refine exW (fun o=>p35_9) ?_ | refine exW (fun o=>p35_10) ?_
    simp only [Tr.val,za3,AV.pure,za7,za0];refine .call (ihE _ (by omega)) ?_;rintro o e;simp only [e,AV.pure,za3,za0];clear e
    first | refine exW (fun o=>p35_6) ?_ | refine exW (fun o=>p35_8) ?_ | refine exW (fun o=>p35_9) ?_ | refine exW (fun o=>p35_10) ?_
    simp only [Tr.val,hm1,hm2,wx,wy,wi]
    repeat' (refine .both (fun h=>?_) (fun h=>?_))
    all_goals exact Was.to (go _ _ _ (XB.three _ _ _ _ _ _ _ _ _ _ _ _ _ _ _ _ _)) (agg4 (by omega) (by omega) (by simp [*]) (by simp [*]))
  ·have hcn : (Stm.mk k nm v t1 th t2 el at').cn = ⟨1,1,decide (k = 1),!decide (k = 1)⟩ := by rw [Stm.cn,if_neg k6]
   rw [hcn];have wx : w64 (x + 1) = x + 1 := zb1 (by omega) (by omega);have wy : w64 (y + 1) = y + 1 := zb1 (by omega) (by omega);have go := fun w' u' X' hX'=>IH (i + 1) (x + 1) (y + 1) w' u' X' g2 (by omega) (by omega) (by omega) (by omega) hX';rcases hX with rfl | ⟨a,b,c,d,e,f,g,h,i',rfl⟩ | ⟨a,b,c,d,e,f,g,h,i',j,k',l,m,n,o,p,q,rfl⟩
   all_goals
    simp only [List.append_nil,List.cons_append,List.nil_append] at go ⊢
    first | refine exW (fun o=>p35_1) ?_ | refine exW (fun o=>p35_3) ?_ | refine exW (fun o=>p35_7) ?_
    simp only [Tr.val,hlen,hn,obS,zim,AV.cells];refine .bT (by omega) (.bT (by omega) (.bT (by omega) ?_))
    first | refine exW (fun o=>p35_2) ?_ | refine exW (fun o=>p35_5) ?_ | refine exW (fun o=>p35_8) ?_ | refine exW (fun o=>p35_9) ?_
    simp only [Tr.val,k6,decide_false,bnF,za0,wx,wy,wi]
    repeat' (refine .both (fun h=>?_) (fun h=>?_))
    all_goals first
     | exact Was.to (go _ _ _ (XB.one _ _ _ _ _ _ _ _ _)) (agg4 (by omega) (by omega) (by simp [*]) (by simp [*]))
     | exact Was.to (go _ _ _ (XB.three _ _ _ _ _ _ _ _ _ _ _ _ _ _ _ _ _)) (agg4 (by omega) (by omega) (by simp [*]) (by simp [*]))
end
section
open Go Go.Vai
attribute [local irreducible] goTo zao mkS
theorem len_sz : ∀ l : List Stm,l.length ≤ szL l
 | []=>Nat.zero_le _
 | .mk k s v t1 th t2 el a :: l=>by
  have := len_sz l;rw [szL,Stm.sz,lnC];omega
variable {C : Nat→Oracle} (hC : Ext C)
include hC
theorem w35 : ∀ (N : Nat) (l : List Stm) (tg : Bool),szL l = N→N ≤ 9000→Was (calL C 35 [.vs 6 tg (stms l)] Hp.none 0) (fun o=>o.v = (cnL l).av):=by
 intro N
 induction N using Nat.strongRecOn with
 | _ N ih =>
 intro l tg hl hN;have hlen : (stms l).length = l.length := by rw [zew,lnM]
 have := len_sz l;refine exW (fun o=>p35_c hC) (exW (fun o=>p35_0) ?_);have := cnt_loop tg l (by omega) (fun l' tg' h=>ih (szL l') (by omega) l' tg' rfl (by omega)) 0 0 false false l 0 0 0 false false [] rfl (Nat.zero_le _) (by decide) (by decide) (by omega) (.inl rfl);simp only [List.append_nil] at this;simp only [Tr.val,hlen];refine this.to ?_;exact agg4 (by omega) (by omega) (by simp) (by simp)
theorem w16 (o : Opn) (h : szL o.body ≤ 9000) : Was (calL C 16 [o.av] Hp.none 0) (fun q=>q.v = .int .i64 (clsC (cnL o.body))):=by
 obtain ⟨nm,t1,ps,t2,b,a⟩ := o;simp only [Opn.av] at h ⊢;have hc := w35 hC _ b t2 rfl h;unfold Cn.av at hc;generalize cnL b = c at hc ⊢;obtain ⟨l,m,w,u⟩ := c;cases t1 <;> cases t2
 all_goals
  first | refine exW (fun o=>p16v0_c hC) (exW (fun o=>p16v0_0) ?_) | refine exW (fun o=>p16v1_c hC) (exW (fun o=>p16v1_0) ?_) | refine exW (fun o=>p16v2_c hC) (exW (fun o=>p16v2_0) ?_) | refine exW (fun o=>p16v3_c hC) (exW (fun o=>p16v3_0) ?_)
  simp only [Tr.val,za3,AV.pure,za7,za0];refine .call hc ?_;rintro q e;simp only [e,AV.pure,za3,za0]
  first | refine exW (fun o=>p16v0_1) ?_ | refine exW (fun o=>p16v1_1) ?_ | refine exW (fun o=>p16v2_1) ?_ | refine exW (fun o=>p16v3_1) ?_
  simp only [Tr.val,clsC];by_cases h1 : l = 1 <;> by_cases h2 : m = 1 <;> by_cases h3 : 1 ≤ l <;> cases w <;> cases u <;> simp only [h1,h2,h3,decide_true,decide_false,za0,zaw,bnT,bnF,and_true,true_and,if_true,if_false,and_false,false_and,Bool.true_eq_false,Bool.false_eq_true] <;> first | exact .mk rfl | (exact absurd (by omega) h3) | skip
  all_goals exact .mk (by simp)
end
section
open Go Go.Vai
attribute [local irreducible] goTo zao mkS
set_option maxHeartbeats 40000000
def nmO (o : Opn) : Nm := ⟨o.name,o.at_⟩
def scO (t : Typ) (o : Opn) : Sc := { t := t,tg := o.tgP,ps := o.params,q := false }
def opnD (t : Typ) (o : Opn) : List Dg := dupD [] (o.params.map nmP) ++ zdc (scO t o) o.body ++ (if clsC (cnL o.body) = 0 then [⟨o.at_,2⟩] else []) ++ (if 4 < (cnL o.body).most then [⟨o.at_,3⟩] else [])
def zhr (t : Typ) : List Opn→List Dg
 | []=>[]
 | o :: r=>opnD t o ++ zhr t r
def opnW (t : Typ) : List Opn→Nat
 | []=>0
 | o :: r=>o.params.length + wtL (scO t o) o.body + 3 + opnW t r
structure WfO (o : Opn) : Prop where
 wf : WfSL o.body
 bl : o.body.length ≤ 400000
 sz : szL o.body ≤ 9000
 pl : o.params.length ≤ 400000
variable {C : Nat→Oracle} (hC : Ext C)
include hC
theorem w48_opn (t : Typ) (hF : t.fields.length ≤ 1000000) (hI : t.idxs.length ≤ 400000) (T : Hp) (nx : Nat) (tL : Bool) (L : List Opn) (hL : L.length ≤ 400000) {Q : Out→Prop} : ∀ (r : List Opn) (i : Nat) (tg : Bool) (l : List Dg) (ct : Bool) (cs : List Nm),L.drop i = r→i ≤ L.length→(∀ y ∈ r,WfO y)→cs.length + r.length ≤ 400000→l.length + opnW t r + cs.length ≤ 1000000 →
  (∀ tg' ct',Was (RL C 48 Q0t (mkS 144 [(0,.val (.ptr 0 0) .no),(3,.lp 3 0),(4,.val (.vs 2 ct' ((cs ++ r.map nmO).map Nm.av)) .own),(20,.val (.vs 4 tL (List.map Opn.av L)) .no),(21,.val (.int .i64 (L.length : Int)) .no),(22,.val (.int .i64 (L.length : Int)) .no)] [(3,⟨(Typ.cs t),[]⟩)] (hD tg' (l ++ zhr t r) T) nx)) Q) →
  Was (RL C 48 Q0t (mkS 144 [(0,.val (.ptr 0 0) .no),(3,.lp 3 0),(4,.val (.vs 2 ct (cs.map Nm.av)) .own),(20,.val (.vs 4 tL (List.map Opn.av L)) .no),(21,.val (.int .i64 (L.length : Int)) .no),(22,.val (.int .i64 (i : Int)) .no)] [(3,⟨(Typ.cs t),[]⟩)] (hD tg l T) nx)) Q:=by
 intro r
 induction r with
 | nil =>
  intro i tg l ct cs hi hil hr hc hb K;have := zal _ _ hil hi;have h := K tg ct;rw [List.map_nil,List.append_nil,zhr,List.append_nil] at h;rw [show i = L.length by omega];exact h
 | cons y r ih =>
  intro i tg l ct cs hi hil hr hc hb K;obtain ⟨h1,h2,h3⟩ := zat _ _ hi;obtain ⟨y1,y2,y3,y4⟩ := hr y mcS;rw [lnC] at hc;rw [opnW] at hb;have hw := wi64 h3 (by omega);have hcs : cs.map Nm.av ++ [.agg [.str y.name,.int .i64 y.at_]] = (cs ++ [nmO y]).map Nm.av := (mpA (f := Nm.av) (l₁ := cs) (l₂ := [nmO y])).symm;have go : ∀ tg' D,D = l ++ opnD t y→Was (RL C 48 Q0t (mkS 144 [(0,.val (.ptr 0 0) .no),(3,.lp 3 0),(4,.val (.vs 2 false (cs.map Nm.av ++ [.agg [.str y.name,.int .i64 y.at_]])) .own),(20,.val (.vs 4 tL (List.map Opn.av L)) .no),(21,.val (.int .i64 (L.length : Int)) .no),(22,.val (.int .i64 (w64 ((i : Int) + 1))) .no)] [(3,⟨(Typ.cs t),[]⟩)] (hD tg' D T) nx)) Q:=by
   intro tg' D e;rw [hw,hcs,e];have d1 : (dupD [] (y.params.map nmP)).length ≤ y.params.length:=by
    have := zc5 (y.params.map nmP) []
    rwa [lnM] at this
   have d2 := zds (scO t y) y.body;have d3 := zgw (p := clsC (cnL y.body) = 0) ⟨y.at_,2⟩;have d4 := zgw (p := 4 < (cnL y.body).most) ⟨y.at_,3⟩;refine ih (i + 1) tg' _ false (cs ++ [nmO y]) h2 (by omega) (fun z hz=>hr z (mcM _ hz)) (by rw [lnA,lnC,lnN]; omega) ?_ (fun a b=>?_)
   ·unfold opnD;simp only [lnA,lnC,lnN];omega
   ·have h := K a b;rw [zhr,List.map_cons,← List.append_assoc] at h;rw [List.append_assoc cs,List.singleton_append];exact h
  refine exW (fun o=>p48_2) ?_;simp only [Tr.val,lnM,itN,zan,h1,omS,obS,Opn.av_cs,zak];refine .bT (by omega) (.bT (by omega) (.bT (by omega) ?_));refine exW (fun o=>p48_3) ?_;simp only [Tr.val,lnM];refine .brn (zad (by omega)) (.brn (zad (by omega)) ?_);refine .call (w87 hC T nx y.tgP y.params y4 tg l (by omega)) ?_;rintro o ⟨t1,rfl⟩;have d1 := zc5 (y.params.map fun x=>⟨x.name,x.at_⟩) [];rw [lnM] at d1;have d2 := zds (scO t y) y.body;refine exW (fun o=>p48_5) ?_;refine .call (w89 hC (scO t y) hF (by show y.params.length ≤ 1000000; omega) T nx y.tgB y.body y2 y1 t1 _ (by rw [lnA]; omega)) ?_;rintro o ⟨t2,rfl⟩;refine exW (fun o=>p48_8) ?_;refine .brn (by simp only [AV.pure,za3,zae,za0]) ?_;refine .call (by have h := w16 hC y y3; rw [Opn.av_cs] at h; exact h) ?_;rintro o e;simp only [e,AV.pure,za0];refine exW (fun o=>p48_11) ?_;refine .dec (fun hc0=>?_) (fun hc0=>?_)
  ·refine .call (w84 hC T nx t2 _ (by simp only [lnA]; omega) _ _) ?_;rintro o ⟨t3,rfl⟩;refine exW (fun o=>p48_14) ?_;refine .brn (by simp only [AV.pure,za3,za7,za0]) ?_;refine .call (w35 hC _ y.body y.tgB rfl y3) ?_;rintro o e;simp only [e,Cn.av,AV.pure,za3,za0];refine exW (fun o=>p48_17) ?_;refine .dec (fun h4=>?_) (fun h4=>?_)
   ·refine .call (w84 hC T nx t3 _ (by simp only [lnA,lnC,lnN]; omega) _ _) ?_;rintro o ⟨t4,rfl⟩;refine exW (fun o=>p48_20) ?_;exact go t4 _ (by unfold opnD; rw [if_pos hc0,if_pos h4]; simp only [← List.append_assoc]; rfl)
   ·exact go t3 _ (by unfold opnD; rw [if_pos hc0,if_neg h4,List.append_nil]; simp only [← List.append_assoc]; rfl)
  ·refine .brn (by simp only [AV.pure,za3,za7,za0]) ?_;refine .call (w35 hC _ y.body y.tgB rfl y3) ?_;rintro o e;simp only [e,Cn.av,AV.pure,za3,za0];refine exW (fun o=>p48_15) ?_;refine .dec (fun h4=>?_) (fun h4=>?_)
   ·refine .call (w84 hC T nx t2 _ (by simp only [lnA]; omega) _ _) ?_;rintro o ⟨t4,rfl⟩;refine exW (fun o=>p48_18) ?_;exact go t4 _ (by unfold opnD; rw [if_neg hc0,if_pos h4,List.append_nil]; simp only [← List.append_assoc]; rfl)
   ·exact go t2 _ (by unfold opnD; rw [if_neg hc0,if_neg h4,List.append_nil,List.append_nil]; simp only [← List.append_assoc]; rfl)
end
section
open Go Go.Vai
attribute [local irreducible] goTo zao mkS
set_option maxHeartbeats 40000000
def nmF (f : Fld) : Nm := ⟨f.name,f.at_⟩
def typD (t : Typ) : List Dg := dupD [] (t.fields.map nmF) ++ zhr t t.ops ++ zhy t t.qrys ++ dupD [] (t.ops.map nmO ++ t.qrys.map nmY) ++ dupD [] (t.idxs.map nmX) ++ zgv t t.idxs
def typW (t : Typ) : Nat := t.fields.length + opnW t t.ops + qryW t t.qrys + t.ops.length + t.qrys.length + 2 * t.idxs.length
structure WfT (t : Typ) : Prop where
 fl : t.fields.length ≤ 400000
 il : t.idxs.length ≤ 400000
 ol : t.ops.length + t.qrys.length ≤ 400000
 ops : ∀ o ∈ t.ops,WfO o
 qrys : ∀ y ∈ t.qrys,WfY y
theorem zkk (t : Typ) : ∀ r : List Opn,(zhr t r).length ≤ opnW t r
 | []=>Nat.le_refl _
 | y :: r=>by
  have h := zkk t r;have d1 : (dupD [] (y.params.map nmP)).length ≤ y.params.length:=by
   have := zc5 (y.params.map nmP) []
   rwa [lnM] at this
  have d2 := zds (scO t y) y.body;have d3 := zgw (p := clsC (cnL y.body) = 0) ⟨y.at_,2⟩;have d4 := zgw (p := 4 < (cnL y.body).most) ⟨y.at_,3⟩;rw [zhr,opnW];unfold opnD;simp only [lnA];omega
variable {C : Nat→Oracle} (hC : Ext C)
include hC
theorem w48 (t : Typ) (ht : WfT t) (T : Hp) (nx : Nat) (tg : Bool) (l : List Dg) (hb : l.length + typW t ≤ 1000000) : Was (calL C 48 [.ptr 0 0,.agg t.cs] (hD tg l T) nx) (QD (l ++ typD t) T nx):=by
 obtain ⟨fl,il,ol,hO,hQ⟩ := ht;unfold typW at hb;refine exW (fun o=>p48_c hC) (exW (fun o=>p48_0) ?_);refine .call (w85 hC T nx t.tgF t.fields fl tg l (by omega)) ?_;rintro o ⟨t1,rfl⟩;have d1 := zc5 (t.fields.map fun x=>⟨x.name,x.at_⟩) [];rw [lnM] at d1;have d2 := zkk t t.ops;refine exW (fun o=>p48_1) ?_;simp only [Tr.val,lnM];refine w48_opn hC t (by omega) il T nx t.tgO t.ops (by omega) t.ops 0 t1 _ true [] rfl (Nat.zero_le _) hO (by simp only [lnN]; omega) (by rw [lnA]; simp only [lnN]; omega) ?_;intro t2 ct;refine exW (fun o=>p48_2) ?_;refine .bF (by omega) ?_;simp only [Tr.val,lnM];have h := w48_qry hC t (by omega) il T nx t.tgQ t.qrys (by omega) t.qrys 0 t2 (l ++ dupD [] (t.fields.map fun x=>⟨x.name,x.at_⟩) ++ zhr t t.ops) ct (t.ops.map nmO) rfl (Nat.zero_le _) hQ (by rw [lnM]; omega) (by simp only [lnA,lnM]; omega);unfold typD;simp only [← List.append_assoc];exact h
end
section
open Go Go.Vai
attribute [local irreducible] goTo zao mkS
variable {C : Nat → Oracle} {o : Out}
abbrev qT0 : List Nat := Q38
theorem p21_c (hC : Ext C) {a : Bool} {b : List Typ} : LC C o 21 (mk0 33 [vv 0 (.agg [(.vs 6 a (b.map Typ.av))])]) [(.agg [(.vs 6 a (b.map Typ.av))])] Hp.none 0 := lC hC
abbrev yS330 := fun (a : Bool) (b : List Typ) c d e => mkS 33 [(1,.lp 1 0),vv 3 (.ptr 0 0),vv 8 (.ptr 0 0),(9,.lp 1 0),vv 10 (.vs 6 a (b.map Typ.av)),vv 11 c] [(1,⟨[(.vs 6 a (b.map Typ.av))],[]⟩)] d e
theorem p21_0 {a} {b : List Typ} : LR C o 21 [] (mk0 33 [vv 0 (.agg [(.vs 6 a (b.map Typ.av))])]) (.call 46 [(.ptr 0 0),(.vs 6 a (b.map Typ.av)),(.func 47 [])] ((0,⟨[(.vs 2 true [])],[0]⟩) :: Hp.none) 1 fun c =>
(.mid 0 Q05 4 (yS330 a b c.v c.H c.nx))) := lR 6
abbrev yS331 := fun (a : Bool) (b : List Typ) c d (e : Bool) (f : List AV) => mkS 33 [vv 3 (.ptr 0 0),vv 13 (.vs 6 a (b.map Typ.av)),vi 14 c,vi 15 d] [] ((0,⟨[(.vs 2 e f)],[0]⟩) :: Hp.none) 1
theorem p21_1 {a c b d} : LM C o 21 Q05 4 (yS330 a b (.tuple []) ((0,⟨[(.vs 2 c d)],[0]⟩) :: Hp.none) 1) (.run 0 Q0t (yS331 a b ((b.map Typ.av).length : Int) 0 c d)) := lM 5
abbrev yS332 := fun (a : Bool) (b : List Typ) c d e (f : Bool) (g : List AV) => mkS 33 [vv 3 (.ptr 0 0),vv 13 (.vs 6 a (b.map Typ.av)),vi 14 c,vi 15 d,vb 16 true,vv 17 (.cptr e)] [] ((0,⟨[(.vs 2 f g)],[0]⟩) :: Hp.none) 1
abbrev yS333 := fun a b (c : List AV) => mkS 33 [vv 3 (.ptr 0 0),vi 14 a,vi 15 b,vb 16 false,vv 23 (.ptr 0 0),vv 24 (.ptr 0 0),vv 25 (.ptr 0 0),vv 27 (.tuple [])] [] ((0,⟨[(.vs 2 false c)],[0]⟩) :: Hp.none) 1
theorem p21_2 {d e f c b a} : LR C o 21 Q0t (yS331 d f c b e a) (.br (decide (b < c))
(ix (f.map Typ.av) b fun h =>
(.mid 0 Q2f 1 (yS332 d f c b (AV.cells h) e a)))
(.br (zc1 2 a)
(.bind (zlz [50] a) fun g =>
(.br (zc1 2 g.2 && (Nat.beq g.2.length a.length && Nat.ble g.1 a.length))
(.mid 2 Q2p 5 (yS333 c b g.2)) .none)) .none)) := lR 9
abbrev yS334 := fun (a : Bool) (b : List Typ) c d (e : Typ) f g h => mkS 33 [vv 3 (.ptr 0 0),(5,.lp 5 0),vv 13 (.vs 6 a (b.map Typ.av)),vi 14 c,vi 15 d,vv 19 (.ptr 0 0),vv 20 (.agg (Typ.cs e)),vv 21 f] [(5,⟨(Typ.cs e),[]⟩)] g h
theorem p21_3 {b e f g a} {c : Bool} {d : List AV} : LM C o 21 Q2f 1 (yS332 b e f g (Typ.cs a) c d) (.call 48 [(.ptr 0 0),(.agg (Typ.cs a))] ((0,⟨[(.vs 2 c d)],[0]⟩) :: Hp.none) 1 fun h =>
(.mid 0 Q2o 3 (yS334 b e f g a h.v h.H h.nx))) := lM 1
abbrev yS335 := fun (a b : List AV) => mkS 33 [vv 3 (.ptr 0 0),vv 28 (.ptr 0 0),vv 29 (.ptr 0 0),vv 30 (.ptr 0 0),vv 32 (.vs 2 false a)] [] ((0,⟨[(.vs 2 false b)],[0]⟩) :: Hp.none) 1
theorem p21_4 {c d a} : LM C o 21 Q2p 5 (yS333 c d a) (.br (zc1 2 a)
(.bind (zef [] a) fun b =>
(.br (zc1 2 b.2 && (Nat.beq b.2.length a.length && Nat.ble b.1 a.length))
(.mid 0 qT0 5 (yS335 (List.take b.1 b.2) b.2)) .none)) .none) := lM 2
theorem p21_5 {b a e f g c d} : LM C o 21 Q2o 3 (yS334 b e f g c (.tuple []) ((0,⟨[(.vs 2 a d)],[0]⟩) :: Hp.none) 1) (.run 0 Q0t (yS331 b e f (w64 (g + 1)) a d)) := lM 3
theorem p21_6 {a b} : LM C o 21 qT0 5 (yS335 a b) (.ret ⟨(.vs 2 false a),((0,⟨[(.vs 2 false b)],[0]⟩) :: Hp.none),1⟩) := lM 1
end
section
open Go Go.Vai
attribute [local irreducible] goTo zao mkS
set_option maxHeartbeats 40000000
def nmT (t : Typ) : Nm := ⟨t.name,t.at_⟩
def zgi : List Typ→List Dg
 | []=>[]
 | t :: r=>typD t ++ zgi r
def zgp : List Typ→Nat
 | []=>0
 | t :: r=>typW t + zgp r
def chkD (ts : List Typ) : List Dg := dupD [] (ts.map nmT) ++ zgi ts
theorem zp4 (t : Typ) : ∀ r : List Qry,(zhy t r).length ≤ qryW t r
 | []=>Nat.le_refl _
 | y :: r=>by
  have h := zp4 t r;have d1 : (dupD [] (y.params.map nmP)).length ≤ y.params.length:=by
   have := zc5 (y.params.map nmP) []
   rwa [lnM] at this
  rw [zhy,qryW];unfold qryD;simp only [lnA];omega
theorem zom (t : Typ) : ∀ r : List Idx,(zgv t r).length ≤ r.length
 | []=>Nat.le_refl _
 | x :: r=>by
  have h := zom t r;have h1 : (zl5 t x).length ≤ 1:=by
   unfold zl5;split
   ·exact Nat.le_refl _
   ·exact zgw _
  rw [zgv,lnA,lnC];omega
theorem znk (t : Typ) : (typD t).length ≤ typW t:=by
 have d1 := zc5 (t.fields.map nmF) [];have d2 := zkk t t.ops;have d3 := zp4 t t.qrys;have d4 := zc5 (t.ops.map nmO ++ t.qrys.map nmY) [];have d5 := zc5 (t.idxs.map nmX) [];have d6 := zom t t.idxs;unfold typD typW;simp only [lnA,lnM] at *;omega
def dgp (d : Dg) : Int × Int := (d.at_,d.err)
def dgq (p : Int × Int) : Dg := ⟨p.1,p.2⟩
def srtP (D : List Dg) : List (Int × Int) := ddP (zec (D.map dgp))
def DgOk (D : List Dg) : Prop := ∀ d ∈ D,bdOk d.at_ = true∧bdOk d.err = true
theorem zqn : ∀ {D : List Dg},DgOk D→dgPs (D.map Dg.av) = some (D.map dgp)
 | [],_=>rfl
 | d :: D,h=>by
  have h1 := h d mcS;have h2 := zqn (D := D) (fun x hx=>h x (mcM _ hx));rw [List.map_cons,dgPs,h2];have : dgP d.av = some (dgp d):=by
   show (match bdOk d.at_ && bdOk d.err with | true=>some (d.at_,d.err) | false=>none) = _;rw [h1.1,h1.2];rfl
  rw [this];rfl
theorem zga : ∀ l : List (Int × Int),zc1 2 (l.map pAV) = true
 | []=>rfl
 | p :: l=>by
  show (match Nat.beq 2 2 && true with | true=>zc1 2 (l.map pAV) | false=>false) = true;exact zga l
theorem dgq_dgp (D : List Dg) : (D.map dgp).map pAV = D.map Dg.av:=by
 rw [List.map_map];rfl
theorem zw5 (D : List Dg) : zc1 2 (D.map Dg.av) = true := by rw [← dgq_dgp]; exact zga _
theorem zqb : ∀ l : List (Int × Int),(ddP l).length ≤ l.length
 | []=>Nat.le_refl _
 | [p]=>Nat.le_refl _
 | p :: q :: l=>by
  have ih := zqb (q :: l);show (match decide (p = q) with | true=>ddP (q :: l) | false=>p :: ddP (q :: l)).length ≤ _;split
  ·exact Nat.le_succ_of_le ih
  ·exact Nat.succ_le_succ ih
theorem zsm (p : Int × Int) : ∀ l,(insP p l).length = l.length + 1
 | []=>rfl
 | q :: l=>by
  rw [insP];split
  ·rfl
  ·rw [lnC,zsm p l,lnC]
theorem zhh : ∀ l,(zec l).length = l.length
 | []=>rfl
 | p :: l=>by rw [zec,zsm,zhh l,lnC]
theorem zrw {p x : Int × Int} : ∀ {l},x ∈ insP p l→x = p ∨ x ∈ l
 | [],h=>.inl (List.mem_singleton.1 h)
 | q :: l,h=>by
  rw [insP] at h;split at h
  ·exact List.mem_cons.1 h
  ·rcases List.mem_cons.1 h with rfl | h
   ·exact .inr mcS
   ·rcases zrw h with h | h
    ·exact .inl h
    ·exact .inr (mcM _ h)
theorem zkj {x : Int × Int} : ∀ {l},x ∈ zec l→x ∈ l
 | [],h=>h
 | p :: l,h=>by
  rcases zrw h with rfl | h
  ·exact mcS
  ·exact mcM _ (zkj h)
theorem zqo {x : Int × Int} : ∀ {l},x ∈ ddP l→x ∈ l
 | [],h=>h
 | [p],h=>h
 | p :: q :: l,h=>by
  have h' : x ∈ (match decide (p = q) with | true=>ddP (q :: l) | false=>p :: ddP (q :: l)) := h;split at h'
  ·exact mcM _ (zqo h')
  ·rcases List.mem_cons.1 h' with rfl | h'
   ·exact mcS
   ·exact mcM _ (zqo h')
theorem srtP_mem {x : Int × Int} {D : List Dg} (h : x ∈ srtP D) : ∃ d ∈ D,x = dgp d:=by
 obtain ⟨d,h1,h2⟩ := List.mem_map.1 (zkj (zqo h));exact ⟨d,h1,h2.symm⟩
theorem oc_sort {D : List Dg} (h : DgOk D) (hl : D.length ≤ 1000000) : zlz [50] (D.map Dg.av) = some (0,(zec (D.map dgp)).map pAV):=by
 show (match dgL (D.map Dg.av) with | some ds=>some (0,(zec ds).map pAV) | none=>none) = _;have : dgL (D.map Dg.av) = some (D.map dgp):=by
  unfold dgL;rw [Nat.ble_eq.mpr (by rw [lnM]; omega)];exact zqn h
 rw [this]
theorem oc_comp {l : List (Int × Int)} (h : ∀ p ∈ l,bdOk p.1 = true∧bdOk p.2 = true) (hl : l.length ≤ 1000000) : zef [] (l.map pAV) = some ((ddP l).length,(ddP l).map pAV ++ List.replicate (l.length - (ddP l).length) (pAV (0,0))):=by
 show (match dgL (l.map pAV) with | some ds=>_ | none=>none) = _;have : dgL (l.map pAV) = some l:=by
  unfold dgL;rw [Nat.ble_eq.mpr (by rw [lnM]; omega)];have h' : DgOk (l.map dgq) := fun d hd=>by
   obtain ⟨p,hp,rfl⟩ := List.mem_map.1 hd;exact h p hp
  have e := zqn h';rw [show (l.map dgq).map Dg.av = l.map pAV by rw [List.map_map]; rfl,show (l.map dgq).map dgp = l by rw [List.map_map]; exact List.map_id _] at e;exact e
 rw [this]
theorem zlv : ∀ (a b : List AV),zc1 2 a = true→zc1 2 b = true→zc1 2 (a ++ b) = true
 | [],_,_,h=>h
 | x :: a,b,h,h'=>by
  rw [zc1] at h;rw [List.cons_append,zc1];split at h
  ·exact zlv a b h h'
  ·cases h
variable {C : Nat→Oracle} (hC : Ext C)
include hC
theorem w21_loop (tL : Bool) (L : List Typ) (hL : L.length ≤ 400000) (D : List Dg) (hK : DgOk D) (hDl : D.length ≤ 1000000) : ∀ (r : List Typ) (i : Nat) (tg : Bool) (l : List Dg),L.drop i = r→i ≤ L.length→(∀ t ∈ r,WfT t)→l.length + zgp r ≤ 1000000→D = l ++ zgi r →
  Was (RL C 21 Q0t (mkS 33 [(3,.val (.ptr 0 0) .no),(13,.val (.vs 6 tL (L.map Typ.av)) .no),(14,.val (.int .i64 (L.length : Int)) .no),(15,.val (.int .i64 (i : Int)) .no)] [] (hD tg l Hp.none) 1)) (fun o=>o.v = .vs 2 false ((srtP D).map pAV)):=by
 intro r
 induction r with
 | nil =>
  intro i tg l hi hil hr hb e;have := zal _ _ hil hi;rw [zgi,List.append_nil] at e;subst e;refine exW (fun o=>p21_2) ?_;simp only [Tr.val,lnM];refine .bF (by omega) (.brn (zw5 _) ?_);rw [oc_sort hK hDl];simp only [obS,lnM,zhh,zga];refine .brn (by simp) ?_;refine exW (fun o=>p21_4) ?_;have hs : ∀ p ∈ zec (D.map dgp),bdOk p.1 = true∧bdOk p.2 = true := fun p hp=>by
   obtain ⟨d,h1,rfl⟩ := List.mem_map.1 (zkj hp);exact hK d h1
  simp only [Tr.val];refine .brn (zga _) ?_;rw [oc_comp hs (by rw [zhh,lnM]; exact hDl)];simp only [obS];have hdl := zqb (zec (D.map dgp));refine .brn ?_ ?_
  ·rw [Bool.and_eq_true,Bool.and_eq_true];refine ⟨zlv _ _ (zga _) (by rw [← List.map_replicate (f := pAV)]; exact zga _),Nat.beq_eq.mpr ?_,Nat.ble_eq.mpr ?_⟩
   ·simp only [lnA,lnM,List.length_replicate];omega
   ·rw [lnM];exact hdl
  ·refine exW (fun o=>p21_6) (.mk ?_);show AV.vs 2 false (List.take (ddP (zec (D.map dgp))).length _) = _;rw [List.take_append_of_le_length (by rw [lnM]; exact Nat.le_refl _),← lnM (f := pAV),List.take_length];rfl
 | cons t r ih =>
  intro i tg l hi hil hr hb e;obtain ⟨h1,h2,h3⟩ := zat _ _ hi;rw [zgp] at hb;refine exW (fun o=>p21_2) ?_;simp only [Tr.val,lnM,itN,zan,h1,omS,obS,Typ.av_cs,zak];refine .bT (by omega) (.bT (by omega) (.bT (by omega) ?_));refine exW (fun o=>p21_3) ?_;simp only [Tr.val,AV.pure,za3,zah,zab,za0];refine .call (w48 hC t (hr t mcS) Hp.none 1 tg l (by omega)) ?_;rintro o ⟨t1,rfl⟩;simp only [AV.pure,za3,za0];refine exW (fun o=>p21_5) ?_;simp only [Tr.val];rw [wi64 h3 (by omega)];have := znk t;exact ih (i + 1) t1 _ h2 (by omega) (fun x hx=>hr x (mcM _ hx)) (by rw [lnA]; omega) (by rw [e,zgi,List.append_assoc])
theorem w21 (tL : Bool) (L : List Typ) (hL : L.length ≤ 400000) (hw : ∀ t ∈ L,WfT t) (hb : L.length + zgp L ≤ 1000000) (hK : DgOk (chkD L)) : Was (calL C 21 [.agg [.vs 6 tL (L.map Typ.av)]] Hp.none 0) (fun o=>o.v = .vs 2 false ((srtP (chkD L)).map pAV)):=by
 refine exW (fun o=>p21_c hC) (exW (fun o=>p21_0) ?_);simp only [Tr.val,AV.pure,za3,za8,za0];refine .call (w46 hC Hp.none 1 tL L hL true [] (by simp only [lnN]; omega)) ?_;rintro o ⟨t1,rfl⟩;simp only [AV.pure,za3,za0,List.nil_append];refine exW (fun o=>p21_1) ?_;simp only [Tr.val,lnM];have d1 := zc5 (L.map fun x=>(⟨x.name,x.at_⟩ : Nm)) [];rw [lnM] at d1;have d2 : ∀ r : List Typ,(zgi r).length ≤ zgp r := fun r=>by
  induction r with
  | nil=>exact Nat.le_refl _
  | cons t r ih =>
   have := znk t;rw [zgi,zgp,lnA];omega
 have := d2 L;exact w21_loop hC tL L hL _ hK (by unfold chkD; rw [lnA]; exact Nat.le_trans (Nat.add_le_add (show (dupD [] (L.map nmT)).length ≤ L.length from d1) this) hb) L 0 t1 _ rfl (Nat.zero_le _) hw (by omega) rfl
end
section
open Go Go.Vai
mutual
def Stm.ws : Stm→Nat
 | .mk _ _ v _ th _ el _=>szE v + 3 + stW th + stW el
def stW : List Stm→Nat
 | []=>0
 | z :: l=>z.ws + stW l
end
theorem zm8 : ∀ a b : List Stm,stW (a ++ b) = stW a + stW b
 | [],b=>by rw [List.nil_append,stW,Nat.zero_add]
 | e :: a,b=>by rw [List.cons_append,stW,stW,zm8 a b,Nat.add_assoc]
theorem ws3 : ∀ z : Stm,3 ≤ z.ws
 | .mk _ _ v _ th _ el _=>by rw [Stm.ws]; omega
theorem zmm : ∀ l : List Stm,l.length ≤ stW l
 | []=>Nat.le_refl _
 | z :: l=>by
  have := zmm l;have := ws3 z;rw [stW,lnC];omega
theorem WfSL.app : ∀ {l : List Stm} {z : Stm},WfSL l→WfS z→WfSL (l ++ [z])
 | [],_,_,hz=>⟨hz,trivial⟩
 | _ :: _,_,hl,hz=>⟨hl.1,WfSL.app hl.2 hz⟩
theorem zug (k : Int) (s : List UInt8) (v : List Ex) (t1 : Bool) (th : List Stm) (t2 : Bool) (el : List Stm) (a : Int) : (valS (.mk k s v t1 th t2 el a)).sz ≤ szE v + 1:=by
 cases v with
 | nil=>exact Nat.le_add_left 1 _
 | cons e v =>
  show e.sz ≤ szE (e :: v) + 1;rw [szE];omega
mutual
theorem wtS_ws (w : Sc) : ∀ z : Stm,wtS w z ≤ z.ws
 | .mk k s v t1 th t2 el a=>by
  have h1 := zsd w th;have h2 := zsd w el;have h3 := zff w (valS (.mk k s v t1 th t2 el a));have h4 := zug k s v t1 th t2 el a;rw [wtS,Stm.ws];omega
theorem zsd (w : Sc) : ∀ l : List Stm,wtL w l ≤ stW l
 | []=>Nat.le_refl _
 | z :: l=>by
  have h1 := wtS_ws w z;have h2 := zsd w l;rw [wtL,stW];omega
end
theorem zsl {k : Int} {s : List UInt8} {v : List Ex} {t1 : Bool} {th : List Stm} {t2 : Bool} {el : List Stm} {a : Int} (h1 : k ≠ 5→WfE (valS (.mk k s v t1 th t2 el a))) (hw : (Stm.mk k s v t1 th t2 el a).ws ≤ 400000) (h2 : WfSL th) (h3 : WfSL el) : WfS (.mk k s v t1 th t2 el a):=by
 have e1 := zug k s v t1 th t2 el a;have e2 := zmm th;have e3 := zmm el;rw [Stm.ws] at hw;exact ⟨h1,by omega,by omega,by omega,h2,h3⟩
theorem st_wf : ∀ f : Nat,(∀ tg l p r,Ok p→blkL f tg l p = some r→(WfSL l→WfSL r.1.2)∧stW r.1.2 + 4 * mu r.2 ≤ stW l + 4 * mu p)∧(∀ p r,Ok p→p.err = 0→stF f p = some r→WfS r.1∧r.1.ws + 4 * mu r.2 ≤ 4 * mu p)
 | 0=>⟨fun _ _ _ _ _ h=>(by rw [blkL] at h; cases h),fun _ _ _ _ h=>(by rw [stF] at h; cases h)⟩
 | f + 1=>by
  obtain ⟨i1,i2⟩ := st_wf f;obtain ⟨j1,j2⟩ := zdf f;refine ⟨fun tg l p r hO h=>?_,fun p r hO h0 h=>?_⟩
  ·rw [blkL] at h;split at h
   ·rename_i hc;obtain ⟨x,h1,h2⟩ := za2 h;obtain ⟨s1,s2⟩ := i2 _ _ hO hc.1 h1;obtain ⟨s3,s4⟩ := i1 _ _ _ _ (j2 _ _ hO h1).1.ok h2;rw [zm8,stW,stW] at s4;exact ⟨fun hl=>s3 (hl.app s1),by omega⟩
   ·injection h with h; subst h;have := (Keep.sign hO [125]).mu;exact ⟨fun hl=>hl,by simp only; omega⟩
  ·have lt := ((zdf (f + 1)).2 p r hO h).2 h0;have ml := zj5 hO;rw [stF] at h;split at h
   ·rename_i hw;obtain ⟨a1,a2,a3,a4⟩ := zc9 hO (by rw [zbs hw]; decide);obtain ⟨x,h1,h2⟩ := za2 h;have k1 := (zbp f).1 _ _ _ a1 h1;obtain ⟨w1,w2⟩ := (zvs f).1 _ _ _ a1 (by decide) h1;obtain ⟨b,h3,h4⟩ := za2 h2;have k2 := Keep.sign k1.ok [123];obtain ⟨s1,s2⟩ := i1 _ _ _ _ k2.ok h3;have k3 := j1 _ _ _ _ k2.ok h3;have m1 := k1.mu;have m2 := k2.mu;rw [stW] at s2;split at h4
    ·obtain ⟨c,h5,h6⟩ := za2 h4;have k4 := Keep.adv k3.ok;have k5 := k4.trans (Keep.sign k4.ok [123]);obtain ⟨s3,s4⟩ := i1 _ _ _ _ k5.ok h5;have m5 := k5.mu;rw [stW] at s4;injection h6 with h6;subst h6;have e : mu c.2.cls = mu c.2 := rfl;have hw : (Stm.mk 6 [] [x.1] b.1.1 b.1.2 c.1.1 c.1.2 p.tat).ws + 4 * mu c.2 ≤ 4 * mu p:=by
      rw [Stm.ws,szE,szE];omega
     exact ⟨zsl (fun _=>w1) (by omega) (s1 trivial) (s3 trivial),hw⟩
    ·injection h4 with h4;subst h4;have hw : (Stm.mk 6 [] [x.1] b.1.1 b.1.2 true [] p.tat).ws + 4 * mu b.2 ≤ 4 * mu p:=by
      rw [Stm.ws,szE,szE,stW];omega
     exact ⟨zsl (fun _=>w1) (by omega) (s1 trivial) trivial,hw⟩
   ·have k1 := Keep.oneF hO stL 0;have k2 := Keep.name k1.ok;have l1 := zjy hO h0 stL 0;split at h
    ·injection h with h;subst h;have hw : (Stm.mk 5 (p.oneF stL 0).2.s [] true [] true [] p.tat).ws + 4 * mu ((p.oneF stL 0).2.name.sign [59]) ≤ 4 * mu p:=by
      rw [Stm.ws,szE,stW];have : mu ((p.oneF stL 0).2.name.sign [59]) < mu p := lt;omega
     exact ⟨zsl (fun h=>absurd rfl h) (by omega) trivial trivial,hw⟩
    ·rename_i h5;obtain ⟨x,h1,h2⟩ := za2 h;have k3 := Keep.sign k2.ok [61];obtain ⟨w1,w2⟩ := (zvs f).1 _ _ _ k3.ok (by decide) h1;have k4 := (zbp f).1 _ _ _ k3.ok h1;have m2 := k2.mu;have m3 := k3.mu;have m4 := k4.mu;have m5 := (Keep.sign k4.ok [59]).mu;injection h2 with h2;subst h2;have hw : (Stm.mk (p.oneF stL 0).1 (p.oneF stL 0).2.s [x.1] true [] true [] p.tat).ws + 4 * mu (x.2.sign [59]) ≤ 4 * mu p:=by
      rw [Stm.ws,szE,szE,stW];omega
     exact ⟨zsl (fun _=>w1) (by omega) trivial trivial,hw⟩
theorem pasF_w {f : Nat} {p : PS} {r : (Bool × List Par) × PS} (hO : Ok p) (h : pasF f p = some r) : r.1.2.length + mu r.2 ≤ 1 + mu p:=by
 have k0 := Keep.sign hO [40];have m0 := k0.mu;unfold pasF at h;split at h
 ·injection h with h;subst h;have := (Keep.sign k0.ok [41]).mu;simp only [lnN];omega
 ·obtain ⟨x,h1,h2⟩ := Option.map_eq_some_iff.1 h;subst h2;have k1 := zcd k0.ok;have := k1.mu;have := zml f _ _ _ k1.ok h1;simp only [List.length_singleton] at *;omega
def opS : List Opn→Nat
 | []=>0
 | o :: r=>o.params.length + stW o.body + 4 + opS r
def qrS : List Qry→Nat
 | []=>0
 | y :: r=>y.params.length + y.res.sz + 2 + qrS r
theorem zm0 : ∀ (a : List Opn) (o : Opn),opS (a ++ [o]) = opS a + (o.params.length + stW o.body + 4)
 | [],o=>by rw [List.nil_append,opS,opS,opS]; omega
 | e :: a,o=>by rw [List.cons_append,opS,opS,zm0 a o]; omega
theorem zlp : ∀ (a : List Qry) (o : Qry),qrS (a ++ [o]) = qrS a + (o.params.length + o.res.sz + 2)
 | [],o=>by rw [List.nil_append,qrS,qrS,qrS]; omega
 | e :: a,o=>by rw [List.cons_append,qrS,qrS,zlp a o]; omega
def Typ.wt (t : Typ) : Nat := t.fields.length + opS t.ops + qrS t.qrys + 2 * t.idxs.length
theorem memF_wt {f : Nat} {t : Typ} {p : PS} {r : Typ × PS} (hO : Ok p) (h0 : p.err = 0) (h : memF f t p = some r) : r.1.wt + 8 * mu r.2 ≤ t.wt + 8 * mu p∧((∀ o ∈ t.ops,WfSL o.body)→∀ o ∈ r.1.ops,WfSL o.body):=by
 have lt := (zdx hO h).2 h0;have k1 := Keep.oneF hO memW 0;have k2 := Keep.name k1.ok;have l1 := zjy hO h0 memW 0;have m2 := k2.mu;unfold memF at h;unfold Typ.wt;split at h
 ·injection h with h; subst h;simp only [lnA,List.length_singleton] at lt ⊢;exact ⟨by omega,fun hh=>hh⟩
 split at h
 ·injection h with h; subst h;simp only [lnA,List.length_singleton] at lt ⊢;exact ⟨by omega,fun hh=>hh⟩
 split at h
 ·obtain ⟨a,h1,h2⟩ := za2 h;obtain ⟨b,h3,h4⟩ := za2 h2;injection h4 with h4; subst h4;have k3 := zbw k2.ok h1;have w3 := pasF_w k2.ok h1;have k4 := Keep.sign k3.ok [123];have m3 := k3.mu;have m4 := k4.mu;obtain ⟨s1,s2⟩ := (st_wf f).1 _ _ _ _ k4.ok h3;have m5 := ((zdf f).1 _ _ _ _ k4.ok h3).mu;rw [stW] at s2;simp only [zm0] at lt ⊢;refine ⟨by omega,fun hh o ho=>?_⟩;rcases List.mem_append.1 ho with ho | ho
  ·exact hh o ho
  ·rw [List.mem_singleton.1 ho]; exact s1 trivial
 split at h
 ·obtain ⟨a,h1,h2⟩ := za2 h;obtain ⟨b,h3,h4⟩ := za2 h2;injection h4 with h4; subst h4;have k3 := zbw k2.ok h1;have w3 := pasF_w k2.ok h1;have k4 := Keep.sign k3.ok [61];have m3 := k3.mu;have m4 := k4.mu;obtain ⟨w1,w2⟩ := (zvs f).1 _ _ _ k4.ok (by decide) h3;have k5 := (zbp f).1 _ _ _ k4.ok h3;have m5 := k5.mu;have m6 := (Keep.sign k5.ok [59]).mu;simp only [zlp] at lt ⊢;exact ⟨by omega,fun hh=>hh⟩
 split at h
 ·injection h with h; subst h;simp only [lnA,List.length_singleton] at lt ⊢;exact ⟨by omega,fun hh=>hh⟩
 ·injection h with h; subst h;simp only at lt ⊢;exact ⟨by omega,fun hh=>hh⟩
theorem tdL_wt : ∀ f t p r,Ok p→tdL f t p = some r→r.1.wt + 8 * mu r.2 ≤ t.wt + 8 * mu p∧((∀ o ∈ t.ops,WfSL o.body)→∀ o ∈ r.1.ops,WfSL o.body)
 | 0,_,_,_,_,h=>by cases h
 | f + 1,t,p,r,hO,h=>by
  unfold tdL at h;split at h
  ·rename_i hc;obtain ⟨a,h1,h2⟩ := za2 h;obtain ⟨a1,a2⟩ := memF_wt hO hc.1 h1;obtain ⟨b1,b2⟩ := tdL_wt f _ _ _ (zdx hO h1).1.ok h2;exact ⟨by omega,fun hh=>b2 (a2 hh)⟩
  ·injection h with h; subst h;have := (Keep.sign hO [125]).mu;exact ⟨by simp only; omega,fun hh=>hh⟩
theorem tdF_wt {f : Nat} {p : PS} {r : Typ × PS} (hO : Ok p) (hk : p.kind ≠ 0) (h : tdF f p = some r) : r.1.wt + 1 + 8 * mu r.2 ≤ 8 * mu p∧∀ o ∈ r.1.ops,WfSL o.body:=by
 have k1 := Keep.adv hO;have k2 := Keep.name k1.ok;have k3 := Keep.sign k2.ok [123];have l1 := (PS.adv_mu hO).2 hk;have m2 := k2.mu;have m3 := k3.mu;obtain ⟨a1,a2⟩ := tdL_wt f _ _ _ k3.ok h;have e : (⟨p.adv.s,true,[],true,[],true,[],true,[],p.adv.tat⟩ : Typ).wt = 0 := rfl;rw [e] at a1;exact ⟨by omega,a2 fun o ho=>by cases ho⟩
def tsW : List Typ→Nat
 | []=>0
 | t :: l=>t.wt + 1 + tsW l
theorem zm5 : ∀ (a : List Typ) (t : Typ),tsW (a ++ [t]) = tsW a + (t.wt + 1)
 | [],t=>by rw [List.nil_append,tsW,tsW,tsW]; omega
 | e :: a,t=>by rw [List.cons_append,tsW,tsW,zm5 a t]; omega
theorem paL_wt : ∀ f tg l p r,Ok p→paL f tg l p = some r→tsW r.1.2 + 8 * mu r.2 ≤ tsW l + 8 * mu p∧((∀ t ∈ l,∀ o ∈ t.ops,WfSL o.body)→∀ t ∈ r.1.2,∀ o ∈ t.ops,WfSL o.body)
 | 0,_,_,_,_,_,h=>by cases h
 | f + 1,tg,l,p,r,hO,h=>by
  unfold paL at h;split at h
  ·rename_i hc;obtain ⟨a,h1,h2⟩ := za2 h;obtain ⟨a1,a2⟩ := tdF_wt hO (by rw [zbs hc]; decide) h1;obtain ⟨b1,b2⟩ := paL_wt f _ _ _ _ (zg8 hO h1).ok h2;rw [zm5] at b1;refine ⟨by omega,fun hh=>b2 fun t ht=>?_⟩;rcases List.mem_append.1 ht with ht | ht
   ·exact hh t ht
   ·rw [List.mem_singleton.1 ht]; exact a2
  ·injection h with h; subst h; exact ⟨Nat.le_refl _,fun hh=>hh⟩
theorem zqa (t : Typ) : ∀ r : List Opn,opnW t r + r.length ≤ opS r
 | []=>Nat.le_refl _
 | o :: r=>by
  have := zqa t r;have := zsd (scO t o) o.body;rw [opnW,opS,lnC];omega
theorem zqv (t : Typ) : ∀ r : List Qry,qryW t r + r.length ≤ qrS r
 | []=>Nat.le_refl _
 | y :: r=>by
  have := zqv t r;have := zff (scY t y) y.res;rw [qryW,qrS,lnC];omega
theorem typW_le (t : Typ) : typW t ≤ t.wt:=by
 have := zqa t t.ops;have := zqv t t.qrys;unfold typW Typ.wt;omega
theorem zs1 : ∀ l : List Typ,l.length + zgp l ≤ tsW l
 | []=>Nat.le_refl _
 | t :: l=>by
  have := zs1 l;have := typW_le t;rw [zgp,tsW,lnC];omega
theorem zv2 : ∀ {l : List Typ} {t : Typ},t ∈ l→t.wt ≤ tsW l
 | s :: l,t,h=>by
  rw [tsW];rcases List.mem_cons.1 h with rfl | h
  ·omega
  ·have := zv2 h; omega
theorem zuq : ∀ {l : List Opn} {o : Opn},o ∈ l→o.params.length + stW o.body ≤ opS l
 | s :: l,o,h=>by
  rw [opS];rcases List.mem_cons.1 h with rfl | h
  ·omega
  ·have := zuq h; omega
theorem pa_chk {src : List UInt8} (hl : src.length ≤ 4000) {f : Nat} {r : (Bool × List Typ) × PS} (h : paL f true [] (ps0 src).adv = some r) : (∀ t ∈ r.1.2,WfT t)∧r.1.2.length + zgp r.1.2 ≤ 100000:=by
 have k0 := Keep.adv (zk4 hl);obtain ⟨a1,a2⟩ := paL_wt f _ _ _ _ k0.ok h;have m0 := zj5 k0.ok;have a3 := a2 fun t ht=>by cases ht
 have a4 := pa_wf hl h;have a5 := (pa_ok hl h).2;rw [tsW] at a1;refine ⟨fun t ht=>?_,by have := zs1 r.1.2; omega⟩;have b1 := zv2 ht;have b2 := zqa t t.ops;have b3 := zqv t t.qrys;have b4 : t.wt = t.fields.length + opS t.ops + qrS t.qrys + 2 * t.idxs.length := rfl;refine ⟨by omega,by omega,by omega,fun o ho=>?_,fun y hy=>?_⟩
 ·have c1 := zuq ho;have c2 := zmm o.body;exact ⟨a3 t ht o ho,by omega,(a5 t ht).ops o ho,by omega⟩
 ·obtain ⟨d1,d2,d3⟩ := (a4 t ht).qrys y hy;exact ⟨d1,by omega,by omega⟩
end
section
open Go Go.Vai
variable (K : Int)
def shD (d : Dg) : Dg := ⟨d.at_ + K,d.err⟩
def shN (x : Nm) : Nm := ⟨x.name,x.at_ + K⟩
def shW (w : Sc) : Sc := { w with t := shT K w.t,ps := w.ps.map (shP K) }
theorem zfx {p : Prop} [Decidable p] {α β : Type} (f : α→β) (a b : List α) : (if p then a else b).map f = if p then a.map f else b.map f := by split <;> rfl
theorem zgz : ∀ (l : List Nm) (ks : List (List UInt8)),dupD ks (l.map (shN K)) = (dupD ks l).map (shD K)
 | [],_=>rfl
 | x :: l,ks=>by
  rw [List.map_cons,dupD,dupD,mpA,zfx,zgz l];rfl
theorem zn8 (l : List Fld) (s : List UInt8) : fldF (l.map (shF K)) s = (fldF l s).map (shF K):=by
 unfold fldF;rw [List.find?_map];rfl
theorem zv3 (l : List Par) (s : List UInt8) : parN (l.map (shP K)) s = (parN l s).map (shP K):=by
 unfold parN;rw [List.find?_map];rfl
theorem zws (w : Sc) (s : List UInt8) : denF (shW K w) s = (denF w s).map (shF K):=by
 show (match parN (w.ps.map (shP K)) s with | some _=>none | none=>if w.q = true then fldF (w.t.fields.map (shF K)) s else none) = _;rw [zv3,zn8];unfold denF;cases parN w.ps s with
 | some p=>rfl
 | none =>
  simp only [Option.map_none];split <;> rfl
theorem zrf : ∀ e : Ex,(shE K e).at_ = e.at_ + K
 | .mk _ _ _ _ _ _=>rfl
theorem shE_s : ∀ e : Ex,(shE K e).s = e.s
 | .mk _ _ _ _ _ _=>rfl
theorem zsa : ∀ e : Ex,(shE K e).kind = e.kind
 | .mk _ _ _ _ _ _=>rfl
def shR (r : Int × List Dg) : Int × List Dg := (r.1,r.2.map (shD K))
theorem zgt (e : Ex) (n : Int) : oneD (shE K e) n = shR K (oneD e n):=by
 unfold oneD;rw [zrf];rfl
theorem nameT_sh (w : Sc) (e : Ex) : zny (shW K w) (shE K e) = shR K (zny w e):=by
 unfold zny;rw [shE_s,zws,show (shW K w).ps = w.ps.map (shP K) from rfl,zv3];cases parN w.ps e.s with
 | some p=>rfl
 | none =>
  cases denF w e.s with
  | none=>exact zgt K e 6
  | some f =>
   simp only [Option.map_none,omS];show (if f.kind = 1 then (f.type,[]) else if f.kind = 2 then (1,[]) else if f.kind = 3 then (1,[]) else if f.kind = 5 then (3,[]) else oneD (shE K e) 12) = _;rw [zgt]
   repeat' split
   all_goals rfl
theorem sizeT_sh (w : Sc) (e : Ex) : zlb (shW K w) (shE K e) = shR K (zlb w e):=by
 unfold zlb;show (if w.q = false then oneD (shE K e) 10 else match fldF (w.t.fields.map (shF K)) (shE K e).s with | none=>oneD (shE K e) 6 | some f=>if f.kind = 4 then (1,[]) else oneD (shE K e) 12) = _;rw [shE_s,zn8,zgt,zgt,zgt];split
 ·rfl
 ·cases fldF w.t.fields e.s with
  | none=>rfl
  | some f =>
   simp only [omS];show (if f.kind = 4 then (1,[]) else shR K (oneD e 12)) = _;split <;> rfl
theorem leafT_sh (w : Sc) (e : Ex) : zn4 (shW K w) (shE K e) = shR K (zn4 w e):=by
 unfold zn4;rw [zsa,nameT_sh,sizeT_sh]
 repeat' split
 all_goals rfl
theorem map_nil {α β : Type} (f : α→β) (l : List α) : (l.map f = []) = (l = []) := propext List.map_eq_nil_iff
theorem opT_sh (e : Ex) (ds : List Dg) (n : Int) : opT (shE K e) (ds.map (shD K)) n = shR K (opT e ds n):=by
 unfold opT;simp only [map_nil,zgt]
 repeat' split
 all_goals rfl
theorem zwa (w : Sc) (x : Ex) : zda (shW K w) (shE K x) = zda w x:=by
 unfold zda;rw [zsa,shE_s,zws];cases denF w x.s <;> rfl
theorem hasT_sh (w : Sc) (e x : Ex) (a b : Int × List Dg) : hasT (shW K w) (shE K e) (shE K x) (shR K a) (shR K b) = shR K (hasT w e x a b):=by
 unfold hasT;simp only [zwa,zgt,zrf,shR,map_nil,show (shW K w).q = w.q from rfl];split
 ·rfl
 ·have e1 : (if zda w x = true then [] else if a.2 = [] then [(⟨e.at_ + K,12⟩ : Dg)] else a.2.map (shD K)) ++ b.2.map (shD K) = ((if zda w x = true then [] else if a.2 = [] then [(⟨e.at_,12⟩ : Dg)] else a.2) ++ b.2).map (shD K):=by
   rw [mpA,zfx,zfx];rfl
  rw [e1];generalize (if zda w x = true then [] else if a.2 = [] then [(⟨e.at_,12⟩ : Dg)] else a.2) ++ b.2 = l;have e2 : (if (!zda w x && decide (a.2 = [])) = false∧b.2 = []∧b.1 ≠ 2 then l.map (shD K) ++ [(⟨e.at_ + K,12⟩ : Dg)] else l.map (shD K)) = (if (!zda w x && decide (a.2 = [])) = false∧b.2 = []∧b.1 ≠ 2 then l ++ [(⟨e.at_,12⟩ : Dg)] else l).map (shD K):=by
   rw [zfx,mpA];rfl
  rw [e2];simp only [map_nil];split <;> (split <;> rfl)
theorem zll (w : Sc) : ∀ e : Ex,tyE (shW K w) (shE K e) = shR K (tyE w e)
 | .mk k n s tg [] a=>by
  have := leafT_sh K w (.mk k n s tg [] a);rw [tyE,← this];show tyE (shW K w) (.mk k n s tg [] (a + K)) = _;rw [tyE];rfl
 | .mk k n s tg [x] a=>by
  have h := zll w x;have := opT_sh K (.mk k n s tg [x] a) (tyE w x).2 (resF s (tyE w x).1 (tyE w x).1);rw [tyE,← this];show tyE (shW K w) (.mk k n s tg [shE K x] (a + K)) = _;rw [tyE,h];rfl
 | .mk k n s tg [x,y] a=>by
  have h := zll w x;have h' := zll w y;show tyE (shW K w) (.mk k n s tg [shE K x,shE K y] (a + K)) = _;rw [tyE,tyE,h,h'];split
  ·exact hasT_sh K w (.mk k n s tg [x,y] a) x _ _
  ·have := opT_sh K (.mk k n s tg [x,y] a) ((tyE w x).2 ++ (tyE w y).2) (resF s (tyE w x).1 (tyE w y).1);rw [mpA] at this;exact this
 | .mk _ _ _ _ (_ :: _ :: _ :: _) _=>by
  show tyE (shW K w) (.mk _ _ _ _ (_ :: _ :: _ :: _) _) = _;rw [tyE,tyE];rfl
theorem zvk {k : Int} {s : List UInt8} {v : List Ex} {t1 : Bool} {th : List Stm} {t2 : Bool} {el : List Stm} {a : Int} (hk : k ≠ 5) (hw : k ≠ 5→WfE (valS (.mk k s v t1 th t2 el a))) : valS (shS K (.mk k s v t1 th t2 el a)) = shE K (valS (.mk k s v t1 th t2 el a)):=by
 cases v with
 | nil =>
  have h : WfE ex0 := hw hk;unfold ex0 at h;cases h with
  | leaf _ _ _ _ _ h1 _=>exact absurd h1 (by decide)
 | cons e v=>rfl
theorem stD_sh (w : Sc) {k : Int} {s : List UInt8} {v : List Ex} {t1 : Bool} {th : List Stm} {t2 : Bool} {el : List Stm} {a : Int} (hw : k ≠ 5→WfE (valS (.mk k s v t1 th t2 el a))) : stD (shW K w) (shS K (.mk k s v t1 th t2 el a)) = (stD w (.mk k s v t1 th t2 el a)).map (shD K):=by
 have hd : (match (fldF w.t.fields s).map (shF K) with
  | none=>[(⟨a + K,6⟩ : Dg)]
  | some f=>if f.kind = (kOf k).1 then [] else [⟨a + K,10⟩]) = (match fldF w.t.fields s with
  | none=>[(⟨a,6⟩ : Dg)]
  | some f=>if f.kind = (kOf k).1 then [] else [⟨a,10⟩]).map (shD K):=by
  cases fldF w.t.fields s with
  | none=>rfl
  | some f =>
   rw [zfx];rfl
 have hg : (((fldF w.t.fields s).map (shF K)).getD fld0).type = ((fldF w.t.fields s).getD fld0).type:=by
  cases fldF w.t.fields s <;> rfl
 unfold stD;show (if k = 5 then (match fldF (w.t.fields.map (shF K)) s with
  | none=>[(⟨a + K,6⟩ : Dg)]
  | some f=>if f.kind = (kOf k).1 then [] else [⟨a + K,10⟩]) else
   (match fldF (w.t.fields.map (shF K)) s with
  | none=>[(⟨a + K,6⟩ : Dg)]
  | some f=>if f.kind = (kOf k).1 then [] else [⟨a + K,10⟩]) ++ (tyE (shW K w) (valS (shS K (.mk k s v t1 th t2 el a)))).2 ++ (if (match fldF (w.t.fields.map (shF K)) s with
  | none=>[(⟨a + K,6⟩ : Dg)]
  | some f=>if f.kind = (kOf k).1 then [] else [⟨a + K,10⟩]) = []∧(tyE (shW K w) (valS (shS K (.mk k s v t1 th t2 el a)))).2 = []∧(tyE (shW K w) (valS (shS K (.mk k s v t1 th t2 el a)))).1 ≠ (if (kOf k).1 = 1 then ((fldF (w.t.fields.map (shF K)) s).getD fld0).type else (kOf k).2) then [⟨(valS (shS K (.mk k s v t1 th t2 el a))).at_,12⟩] else [])) = _
 rw [zn8,hd,hg];by_cases hk : k = 5
 ·rw [if_pos hk];show _ = List.map (shD K) (ite (k = 5) _ _);rw [if_pos hk];rfl
 ·rw [if_neg hk,zvk K hk hw,zll,zrf];show _ = List.map (shD K) (ite (k = 5) _ _);rw [if_neg hk,mpA,mpA,zfx];simp only [shR,map_nil];rfl
theorem ifD_sh (w : Sc) (e : Ex) : ifD (shW K w) (shE K e) = (ifD w e).map (shD K):=by
 unfold ifD;rw [zll,zrf,mpA,zfx];simp only [shR,map_nil];rfl
mutual
theorem bodyS_sh (w : Sc) : ∀ z : Stm,WfS z→zhz (shW K w) (shS K z) = (zhz w z).map (shD K)
 | .mk k s v t1 th t2 el a,h=>by
  have h2 := zjd w th h.2.2.2.2.1;have h3 := zjd w el h.2.2.2.2.2;have h4 := stD_sh K w (t1 := t1) (th := th) (t2 := t2) (el := el) (a := a) (s := s) h.1;rw [zhz,zfx,← h4];show zhz (shW K w) (.mk k s (shEs K v) t1 (shSs K th) t2 (shSs K el) (a + K)) = _;rw [zhz];by_cases hk : k = 6
  ·have hv := zvk K (t1 := t1) (th := th) (t2 := t2) (el := el) (a := a) (s := s) (v := v) (by rw [hk]; decide) h.1;rw [if_pos hk,if_pos hk,mpA,mpA,← h2,← h3,← ifD_sh,← hv];rfl
  ·rw [if_neg hk,if_neg hk];rfl
theorem zjd (w : Sc) : ∀ l : List Stm,WfSL l→zdc (shW K w) (shSs K l) = (zdc w l).map (shD K)
 | [],_=>by rw [shSs,zdc,zdc]; rfl
 | z :: l,h=>by
  have h1 := bodyS_sh w z h.1;have h2 := zjd w l h.2;rw [shSs,zdc,zdc,mpA,h1,h2]
end
mutual
theorem cn_sh : ∀ z : Stm,(shS K z).cn = z.cn
 | .mk k s v t1 th t2 el a=>by
  have h1 := zrx th;have h2 := zrx el;show (Stm.mk k s (shEs K v) t1 (shSs K th) t2 (shSs K el) (a + K)).cn = _;rw [Stm.cn,Stm.cn,h1,h2]
theorem zrx : ∀ l : List Stm,cnL (shSs K l) = cnL l
 | []=>rfl
 | z :: l=>by
  have h1 := cn_sh z;have h2 := zrx l;rw [shSs,cnL,cnL,h1,h2]
end
theorem zk9 {α : Type} (f : α→Nm) (g : α→α) (hg : ∀ x,f (g x) = shN K (f x)) (l : List α) : (l.map g).map f = (l.map f).map (shN K):=by
 rw [List.map_map,List.map_map];exact List.map_congr_left fun x _=>hg x
theorem opnD_sh (t : Typ) (o : Opn) (h : WfSL o.body) : opnD (shT K t) (shO K o) = (opnD t o).map (shD K):=by
 have h1 := zjd K (scO t o) o.body h;unfold opnD;rw [mpA,mpA,mpA,zfx,zfx,← zgz,← zk9 K nmP (shP K) (fun _=>rfl),← h1];show dupD [] ((o.params.map (shP K)).map nmP) ++ zdc (scO (shT K t) (shO K o)) (shSs K o.body) ++ (if clsC (cnL (shSs K o.body)) = 0 then [⟨o.at_ + K,2⟩] else []) ++ (if 4 < (cnL (shSs K o.body)).most then [⟨o.at_ + K,3⟩] else []) = _;rw [zrx];rfl
theorem zrz (t : Typ) : ∀ l : List Opn,(∀ o ∈ l,WfSL o.body)→zhr (shT K t) (l.map (shO K)) = (zhr t l).map (shD K)
 | [],_=>rfl
 | o :: l,h=>by
  rw [List.map_cons,zhr,zhr,mpA,opnD_sh K t o (h o mcS),zrz t l fun y hy=>h y (mcM _ hy)]
theorem zsk (t : Typ) : ∀ l : List Qry,zhy (shT K t) (l.map (shQ K)) = (zhy t l).map (shD K)
 | []=>rfl
 | y :: l=>by
  have h1 := zll K (scY t y) y.res;rw [List.map_cons,zhy,zhy,mpA,zsk t l]
  congr 1
  unfold qryD;rw [mpA,← zgz,← zk9 K nmP (shP K) (fun _=>rfl)];show dupD [] ((y.params.map (shP K)).map nmP) ++ (tyE (shW K (scY t y)) (shE K y.res)).2 = _;rw [h1];rfl
theorem zru (t : Typ) : ∀ l : List Idx,zgv (shT K t) (l.map (shI K)) = (zgv t l).map (shD K)
 | []=>rfl
 | x :: l=>by
  rw [List.map_cons,zgv,zgv,mpA,zru t l]
  congr 1
  unfold zl5;show (match fldF (t.fields.map (shF K)) x.field with | none=>[(⟨x.at_ + K,6⟩ : Dg)] | some f=>if f.kind ≠ 1∧f.kind ≠ 4 then [⟨x.at_ + K,10⟩] else []) = _;rw [zn8];cases fldF t.fields x.field with
  | none=>rfl
  | some f =>
   simp only [omS];rw [zfx];rfl
theorem typD_sh (t : Typ) (h : ∀ o ∈ t.ops,WfSL o.body) : typD (shT K t) = (typD t).map (shD K):=by
 unfold typD;simp only [mpA];rw [← zrz K t _ h,← zsk,← zru,← zgz,← zgz,← zgz,mpA,← zk9 K nmF (shF K) (fun _=>rfl),← zk9 K nmO (shO K) (fun _=>rfl),← zk9 K nmY (shQ K) (fun _=>rfl),← zk9 K nmX (shI K) (fun _=>rfl)];rfl
theorem zra : ∀ l : List Typ,(∀ t ∈ l,∀ o ∈ t.ops,WfSL o.body)→zgi (l.map (shT K)) = (zgi l).map (shD K)
 | [],_=>rfl
 | t :: l,h=>by
  rw [List.map_cons,zgi,zgi,mpA,typD_sh K t (h t mcS),zra l fun y hy=>h y (mcM _ hy)]
theorem chkD_sh (l : List Typ) (h : ∀ t ∈ l,∀ o ∈ t.ops,WfSL o.body) : chkD (l.map (shT K)) = (chkD l).map (shD K):=by
 unfold chkD;rw [mpA,← zgz,← zk9 K nmT (shT K) (fun _=>rfl),zra K l h]
end
section
open Go Go.Vai
variable (K : Int)
def shX (p : Int × Int) : Int × Int := (p.1 + K,p.2)
theorem leP_sh (p q : Int × Int) : leP (shX K p) (shX K q) = leP p q:=by
 unfold leP shX;have e1 : decide (p.1 + K < q.1 + K) = decide (p.1 < q.1) := decide_eq_decide.2 (by omega);have e2 : decide (p.1 + K = q.1 + K) = decide (p.1 = q.1) := decide_eq_decide.2 (by omega);simp only [e1,e2]
theorem shX_inj {p q : Int × Int} : shX K p = shX K q ↔ p = q:=by
 obtain ⟨a,b⟩ := p;obtain ⟨c,d⟩ := q;unfold shX;simp only [Prod.mk.injEq];omega
theorem zvt (p : Int × Int) : ∀ l,insP (shX K p) (l.map (shX K)) = (insP p l).map (shX K)
 | []=>rfl
 | q :: l=>by
  rw [List.map_cons,insP,insP,leP_sh];cases leP p q with
  | true=>rfl
  | false =>
   show shX K q :: insP (shX K p) (l.map (shX K)) = _;rw [zvt p l];rfl
theorem zs0 : ∀ l,zec (l.map (shX K)) = (zec l).map (shX K)
 | []=>rfl
 | p :: l=>by rw [List.map_cons,zec,zec,zs0 l,zvt]
theorem ddP_sh : ∀ l,ddP (l.map (shX K)) = (ddP l).map (shX K)
 | []=>rfl
 | [p]=>rfl
 | p :: q :: l=>by
  have ih := ddP_sh (q :: l);show (match decide (shX K p = shX K q) with | true=>ddP ((q :: l).map (shX K)) | false=>shX K p :: ddP ((q :: l).map (shX K))) = (match decide (p = q) with | true=>ddP (q :: l) | false=>p :: ddP (q :: l)).map (shX K);rw [ih,decide_eq_decide.2 (shX_inj K)];cases decide (p = q) <;> rfl
theorem srtP_sh (D : List Dg) : srtP (D.map (shD K)) = (srtP D).map (shX K):=by
 unfold srtP;rw [show (D.map (shD K)).map dgp = (D.map dgp).map (shX K) by rw [List.map_map,List.map_map]; rfl,zs0,ddP_sh]
def hdrN (n : Nat) : List UInt8 := [35,32] ++ (List.replicate n 0 ++ [10])
theorem skip_z (src : List UInt8) : ∀ n : Nat,zbk true (List.replicate n 0 ++ ([10] ++ src)) = n + 1 + zbk false src
 | 0=>by
  show zbk true (10 :: src) = _;rw [zbk,if_pos (by decide)];omega
 | n + 1=>by
  rw [List.replicate_succ,List.cons_append,zbk,if_neg (by decide),skip_z src n];omega
theorem skip_hdr (n : Nat) (src : List UInt8) : zbk false (hdrN n ++ src) = (hdrN n).length + zbk false src:=by
 have e : hdrN n ++ src = 35 :: 32 :: (List.replicate n 0 ++ ([10] ++ src)):=by
  unfold hdrN;simp
 have el : (hdrN n).length = n + 3:=by
  unfold hdrN;simp
 rw [e,el,zbk,if_neg (by decide),if_pos (by decide),zbk,if_neg (by decide),skip_z];omega
theorem ps0_sh (n : Nat) (src : List UInt8) : ShP (hdrN n) (Go.Proofs.YtfdklpkfpmkgeaaGreatDoor.ps0 src).adv (Go.Proofs.YtfdklpkfpmkgeaaGreatDoor.ps0 (hdrN n ++ src)).adv:=by
 have e : zb4 (hdrN n ++ src) 0 = (zb4 src 0).up (hdrN n).length:=by
  unfold zb4;rw [List.drop_zero,List.drop_zero,skip_hdr,Nat.zero_add,Nat.zero_add,zvm,List.drop_left]
 unfold PS.adv;show ShP _ (if (0 : Int) = 0 then (if (zb4 src 0).err = 0 then _ else _) else _) (if (0 : Int) = 0 then (if (zb4 (hdrN n ++ src) 0).err = 0 then _ else _) else _);rw [if_pos rfl,if_pos rfl];by_cases he : (zb4 src 0).err = 0
 ·rw [if_pos he,if_pos (show (zb4 (hdrN n ++ src) 0).err = 0 by rw [e]; exact he)];show ShP _ (⟨src,((zb4 src 0).pos : Int),(zb4 src 0).kind,(zb4 src 0).s,(zb4 src 0).n,((zb4 src 0).at_ : Int),0,0,0⟩ : PS) (⟨hdrN n ++ src,((zb4 (hdrN n ++ src) 0).pos : Int),(zb4 (hdrN n ++ src) 0).kind,(zb4 (hdrN n ++ src) 0).s,(zb4 (hdrN n ++ src) 0).n,((zb4 (hdrN n ++ src) 0).at_ : Int),0,0,0⟩ : PS);rw [e];refine ⟨rfl,Int.natCast_nonneg _,?_,rfl,rfl,rfl,?_,rfl,rfl⟩
  ·show (((hdrN n).length + (zb4 src 0).pos : Nat) : Int) = ((zb4 src 0).pos : Int) + (hdrN n).length;omega
  ·show (((hdrN n).length + (zb4 src 0).at_ : Nat) : Int) = ((zb4 src 0).at_ : Int) + (hdrN n).length;omega
 ·rw [if_neg he,if_neg (show ¬ (zb4 (hdrN n ++ src) 0).err = 0 by rw [e]; exact he)];show ShP _ (PS.fail ((Go.Proofs.YtfdklpkfpmkgeaaGreatDoor.ps0 src).at (zb4 src 0).pos) (zb4 src 0).err (zb4 src 0).at_) (PS.fail ((Go.Proofs.YtfdklpkfpmkgeaaGreatDoor.ps0 (hdrN n ++ src)).at (zb4 (hdrN n ++ src) 0).pos) (zb4 (hdrN n ++ src) 0).err (zb4 (hdrN n ++ src) 0).at_);rw [e];refine ⟨rfl,Int.natCast_nonneg _,?_,rfl,rfl,rfl,?_,rfl,rfl⟩
  ·show (((hdrN n).length + (zb4 src 0).pos : Nat) : Int) = ((zb4 src 0).pos : Int) + (hdrN n).length;omega
  ·show (((hdrN n ++ src).length : Nat) : Int) = (src.length : Int) + (hdrN n).length;rw [lnA];omega
theorem pa_sh (n : Nat) {src : List UInt8} {f : Nat} {r : (Bool × List Typ) × PS} (h : paL f true [] (Go.Proofs.YtfdklpkfpmkgeaaGreatDoor.ps0 src).adv = some r) : ∃ r',paL f true [] (Go.Proofs.YtfdklpkfpmkgeaaGreatDoor.ps0 (hdrN n ++ src)).adv = some r'∧r'.1.2 = r.1.2.map (shT (hdrN n).length):=by
 obtain ⟨r',e1,e2,_⟩ := paL_sh f true [] _ _ r (ps0_sh n src) h;exact ⟨r',e1,by rw [e2]⟩
end
section
open Go Go.Vai
def InR (N : Nat) (a : Int) : Prop := 0 ≤ a∧a < N
mutual
def AtE (N : Nat) : Ex→Prop
 | .mk _ _ _ _ l a=>InR N a∧AtEs N l
def AtEs (N : Nat) : List Ex→Prop
 | []=>True
 | e :: l=>AtE N e∧AtEs N l
end
mutual
def AtS (N : Nat) : Stm→Prop
 | .mk _ _ v _ th _ el a=>InR N a∧AtEs N v∧AtSs N th∧AtSs N el
def AtSs (N : Nat) : List Stm→Prop
 | []=>True
 | z :: l=>AtS N z∧AtSs N l
end
def AtP (N : Nat) (l : List Par) : Prop := ∀ p ∈ l,InR N p.at_
structure AtT (N : Nat) (t : Typ) : Prop where
 at_ : InR N t.at_
 fields : ∀ f ∈ t.fields,InR N f.at_
 ops : ∀ o ∈ t.ops,InR N o.at_∧AtP N o.params∧AtSs N o.body
 qrys : ∀ q ∈ t.qrys,InR N q.at_∧AtP N q.params∧AtE N q.res
 idxs : ∀ x ∈ t.idxs,InR N x.at_
structure HS (N : Nat) (p : PS) : Prop where
 ok : Ok p
 len : p.src.length = N
 po : p.kind ≠ 0→InR N p.tat
variable {N : Nat} {p q : PS}
theorem HS.fail (h : HS N p) {e a : Int} (he : e ≠ 0) : HS N (p.fail e a) := ⟨PS.fail_ok h.ok he,h.len,fun hk=>absurd rfl hk⟩
theorem HS.adv (h : HS N p) : HS N p.adv:=by
 refine ⟨PS.adv_ok h.ok,by rw [PS.adv_src]; exact h.len,?_⟩;obtain ⟨k,hk,hk2,hkl⟩ := h.ok.at;have ht := zmx p.src k hkl;unfold PS.adv;split
 ·rw [hk2];split
  ·rename_i he;intro hn;show InR N ((zb4 p.src k).at_ : Int);rw [ht.at_];rcases ht.lt with h1 | ⟨_,h1⟩
   ·rw [h.len] at h1;exact ⟨by omega,by omega⟩
   ·exact absurd h1 hn
  ·exact fun hn=>absurd rfl hn
 ·exact h.po
theorem HS.sign (h : HS N p) (w : List UInt8) : HS N (p.sign w):=by
 unfold PS.sign;split
 ·exact h.adv
 ·exact h.fail (by decide)
theorem HS.name (h : HS N p) : HS N p.name:=by
 unfold PS.name;split
 ·split
  ·exact h.fail (by decide)
  ·exact h.adv
 ·exact h.fail (by decide)
theorem HS.oneF (h : HS N p) : ∀ (l : List (List UInt8)) (i : Nat),HS N (p.oneF l i).2
 | [],_=>h.fail (by decide)
 | w :: r,i=>by
  unfold PS.oneF;split
  ·exact h.adv
  ·exact HS.oneF h r (i + 1)
theorem HS.opn (h : HS N p) (hk : p.kind ≠ 0) : HS N p.opn.adv:=by
 have h1 : HS N p.opn:=by
  obtain ⟨a1,a2,_⟩ := zpd h.ok hk;refine ⟨a1,by rw [a2]; exact h.len,?_⟩;unfold PS.opn;split
  ·exact fun hn=>absurd rfl hn
  ·exact h.po
 exact h1.adv
theorem HS.cls (h : HS N q) (ho : Ok q.cls) : HS N q.cls := ⟨ho,h.len,h.po⟩
theorem Keep.err0 {p q : PS} (h : Keep p q) (hq : q.err = 0) : p.err = 0:=by
 refine Classical.byContradiction fun hp=>?_;have h1 := zsg hp;have h2 := zs8 hq;have := h.mu;omega
theorem zis (h : p.name.err = 0) : p.kind ≠ 0:=by
 unfold PS.name at h;split at h
 ·rename_i hc;rw [hc.1]
  decide
 ·exact absurd h (PS.fail_err _ _ (by decide))
theorem zuv : ∀ (l : List (List UInt8)) (i : Nat),(p.oneF l i).2.err = 0→p.kind ≠ 0
 | [],_,h=>absurd h (PS.fail_err _ _ (by decide))
 | w :: r,i,h=>by
  unfold PS.oneF at h;split at h
  ·rename_i hc;rw [zbs hc]
   decide
  ·exact zuv r (i + 1) h
theorem ex_at : ∀ f : Nat,(∀ n p r,HS N p→1 ≤ n→binF f n p = some r→HS N r.2∧(r.2.err = 0→AtE N r.1))∧(∀ n e p r,HS N p→1 ≤ n→(p.err = 0→AtE N e)→binL f n e p = some r→HS N r.2∧(r.2.err = 0→AtE N r.1)) ∧
  (∀ p r,HS N p→unF f p = some r→HS N r.2∧(r.2.err = 0→AtE N r.1))∧(∀ p r,HS N p→priF f p = some r→HS N r.2∧(r.2.err = 0→AtE N r.1))
 | 0=>⟨fun _ _ _ _ _ h=>(by rw [binF] at h; cases h),fun _ _ _ _ _ _ _ h=>(by rw [binL] at h; cases h),fun _ _ _ h=>(by rw [unF] at h; cases h),fun _ _ _ h=>(by rw [priF] at h; cases h)⟩
 | f + 1=>by
  obtain ⟨i1,i2,i3,i4⟩ := ex_at f;obtain ⟨j1,j2,j3,j4⟩ := zbp f;refine ⟨fun n p r hp hn h=>?_,fun n e p r hp hn he h=>?_,fun p r hp h=>?_,fun p r hp h=>?_⟩
  ·rw [binF] at h;split at h
   ·exact i3 p r hp h
   ·obtain ⟨x,h1,h2⟩ := za2 h;obtain ⟨a1,a2⟩ := i1 _ _ _ hp (by omega) h1;exact i2 _ _ _ _ a1 hn a2 h2
  ·rw [binL] at h;split at h
   ·rename_i hc;obtain ⟨x,h1,h2⟩ := za2 h;have k0 := Keep.adv hp.ok;have k1 := j1 _ _ _ k0.ok h1;obtain ⟨a1,a2⟩ := i1 _ _ _ hp.adv (by omega) h1;have hw : x.2.err = 0→AtE N (.mk 7 0 p.s false [e,x.1] p.tat) := fun h0=>⟨hp.po (zn1 hp.ok hn hc.2),he ((k0.trans k1).err0 h0),a2 h0,trivial⟩;split at h2
    ·injection h2 with h2;subst h2;exact ⟨a1,hw⟩
    ·exact i2 _ _ _ _ a1 hn hw h2
   ·injection h with h;subst h;exact ⟨hp,he⟩
  ·rw [unF] at h;split at h
   ·rename_i hg;have hk : p.kind ≠ 0 := by rcases hg with hg | hg <;> rw [zc0 hg] <;> decide
    obtain ⟨x,h1,h2⟩ := za2 h;obtain ⟨a1,a2,a3,a4⟩ := zc9 hp.ok hk;obtain ⟨b1,b2⟩ := i3 _ _ (hp.opn hk) h1;have k1 := j3 _ _ a1 h1;have k2 := zd5 hp.ok k1.ok (k1.src.trans a2) (k1.dep.trans a3) (by have := k1.mu; omega);injection h2 with h2;subst h2;exact ⟨b1.cls k2.ok,fun h0=>⟨hp.po hk,b2 h0,trivial⟩⟩
   ·exact i4 p r hp h
  ·rw [priF] at h;split at h
   ·rename_i hc;injection h with h; subst h; exact ⟨hp.adv,fun _=>⟨hp.po (by rw [hc]; decide),trivial⟩⟩
   split at h
   ·rename_i hc;injection h with h; subst h; exact ⟨hp.adv,fun _=>⟨hp.po (by rw [hc]; decide),trivial⟩⟩
   split at h
   ·rename_i hc;injection h with h; subst h; exact ⟨hp.adv,fun _=>⟨hp.po (by rw [zbs hc]; decide),trivial⟩⟩
   split at h
   ·rename_i hc;injection h with h; subst h; exact ⟨hp.adv,fun _=>⟨hp.po (by rw [zbs hc]; decide),trivial⟩⟩
   split at h
   ·rename_i hc;injection h with h; subst h; exact ⟨((hp.adv.sign [40]).name).sign [41],fun _=>⟨hp.po (by rw [zbs hc]; decide),trivial⟩⟩
   split at h
   ·rename_i hg;have hk : p.kind ≠ 0 := by rw [zc0 hg]; decide
    obtain ⟨x,h1,h2⟩ := za2 h;obtain ⟨a1,a2,a3,a4⟩ := zc9 hp.ok hk;obtain ⟨b1,b2⟩ := i1 _ _ _ (hp.opn hk) (by decide) h1;have k1 := j1 _ _ _ a1 h1;have k2 := zd5 hp.ok k1.ok (k1.src.trans a2) (k1.dep.trans a3) (by have := k1.mu; omega);injection h2 with h2;subst h2;exact ⟨(b1.cls k2.ok).sign [41],fun h0=>b2 (by have := (Keep.sign k2.ok [41]).err0 h0; exact this)⟩
   ·injection h with h; subst h; exact ⟨hp.name,fun h0=>⟨hp.po (zis h0),trivial⟩⟩
end
section
open Go Go.Vai
variable {N : Nat} {p q : PS}
theorem zuu (h : HS N p) : HS N (parF p).2∧((parF p).2.err = 0→InR N (parF p).1.at_):=by
 have h1 := h.name;refine ⟨h1.oneF _ _,fun h0=>h.po (zis ((Keep.oneF h1.ok tyL 0).err0 h0))⟩
theorem zuf : ∀ f l p r,HS N p→(p.err = 0→AtP N l)→pasL f l p = some r→HS N r.2∧(r.2.err = 0→AtP N r.1)
 | 0,_,_,_,_,_,h=>by cases h
 | f + 1,l,p,r,hp,hl,h=>by
  rw [pasL] at h;split at h
  ·have k0 := Keep.adv hp.ok;have k1 := zcd k0.ok;obtain ⟨a1,a2⟩ := zuu hp.adv;refine zuf f _ _ _ a1 (fun h0 x hx=>?_) h;rcases List.mem_append.1 hx with hx | hx
   ·exact hl ((k0.trans k1).err0 h0) x hx
   ·rw [List.mem_singleton.1 hx]; exact a2 h0
  ·injection h with h;subst h;exact ⟨hp.sign [41],fun h0=>hl ((Keep.sign hp.ok [41]).err0 h0)⟩
theorem zww {f : Nat} {r : (Bool × List Par) × PS} (hp : HS N p) (h : pasF f p = some r) : HS N r.2∧(r.2.err = 0→AtP N r.1.2):=by
 have k0 := hp.sign [40];unfold pasF at h;split at h
 ·injection h with h;subst h;exact ⟨k0.sign [41],fun _ x hx=>by cases hx⟩
 ·obtain ⟨x,h1,h2⟩ := Option.map_eq_some_iff.1 h;subst h2;obtain ⟨a1,a2⟩ := zuu k0;exact zuf f _ _ _ a1 (fun h0 x hx=>by rw [List.mem_singleton.1 hx]; exact a2 h0) h1
theorem AtSs.app : ∀ {l : List Stm} {z : Stm},AtSs N l→AtS N z→AtSs N (l ++ [z])
 | [],_,_,hz=>⟨hz,trivial⟩
 | _ :: _,_,hl,hz=>⟨hl.1,AtSs.app hl.2 hz⟩
theorem st_at : ∀ f : Nat,(∀ tg l p r,HS N p→(p.err = 0→AtSs N l)→blkL f tg l p = some r→HS N r.2∧(r.2.err = 0→AtSs N r.1.2))∧(∀ p r,HS N p→stF f p = some r→HS N r.2∧(r.2.err = 0→AtS N r.1))
 | 0=>⟨fun _ _ _ _ _ _ h=>(by rw [blkL] at h; cases h),fun _ _ _ h=>(by rw [stF] at h; cases h)⟩
 | f + 1=>by
  obtain ⟨i1,i2⟩ := st_at f;obtain ⟨j1,j2⟩ := zdf f;refine ⟨fun tg l p r hp hl h=>?_,fun p r hp h=>?_⟩
  ·rw [blkL] at h;split at h
   ·obtain ⟨x,h1,h2⟩ := za2 h;obtain ⟨a1,a2⟩ := i2 _ _ hp h1;have k1 := (j2 _ _ hp.ok h1).1;exact i1 _ _ _ _ a1 (fun h0=>(hl (k1.err0 h0)).app (a2 h0)) h2
   ·injection h with h;subst h;exact ⟨hp.sign [125],fun h0=>hl ((Keep.sign hp.ok [125]).err0 h0)⟩
  ·rw [stF] at h;split at h
   ·rename_i hc;have hk : p.kind ≠ 0 := by rw [zbs hc]; decide
    obtain ⟨a1,a2,a3,a4⟩ := zc9 hp.ok hk;obtain ⟨x,h1,h2⟩ := za2 h;obtain ⟨b1,b2⟩ := (ex_at f).1 _ _ _ (hp.opn hk) (by decide) h1;have k1 := (zbp f).1 _ _ _ a1 h1;have k2 := Keep.sign k1.ok [123];obtain ⟨b,h3,h4⟩ := za2 h2;obtain ⟨c1,c2⟩ := i1 _ _ _ _ (b1.sign [123]) (fun _=>(show AtSs N [] from trivial)) h3;have k3 := j1 _ _ _ _ k2.ok h3;have kk := (k1.trans k2).trans k3;split at h4
    ·obtain ⟨c,h5,h6⟩ := za2 h4;obtain ⟨d1,d2⟩ := i1 _ _ _ _ (c1.adv.sign [123]) (fun _=>(show AtSs N [] from trivial)) h5;have k4 := Keep.adv k3.ok;have k5 := k4.trans (Keep.sign k4.ok [123]);have k6 := k5.trans (j1 _ _ _ _ k5.ok h5);have k7 := kk.trans k6;have k8 := zd5 hp.ok k7.ok (k7.src.trans a2) (k7.dep.trans a3) (by have := k7.mu; omega);injection h6 with h6;subst h6;exact ⟨d1.cls k8.ok,fun h0=>⟨hp.po hk,⟨b2 ((k2.trans (k3.trans k6)).err0 h0),trivial⟩,c2 (k6.err0 h0),d2 h0⟩⟩
    ·have k8 := zd5 hp.ok kk.ok (kk.src.trans a2) (kk.dep.trans a3) (by have := kk.mu; omega);injection h4 with h4;subst h4;exact ⟨c1.cls k8.ok,fun h0=>⟨hp.po hk,⟨b2 ((k2.trans k3).err0 h0),trivial⟩,c2 h0,trivial⟩⟩
   ·have o1 := hp.oneF stL 0;have k1 := Keep.oneF hp.ok stL 0;split at h
    ·injection h with h;subst h;have k2 := Keep.name k1.ok;exact ⟨(o1.name).sign [59],fun h0=>⟨hp.po (zuv stL 0 ((k2.trans (Keep.sign k2.ok [59])).err0 h0)),trivial,trivial,trivial⟩⟩
    ·obtain ⟨x,h1,h2⟩ := za2 h;have k2 := Keep.name k1.ok;have k3 := k2.trans (Keep.sign k2.ok [61]);have k4 := k3.trans ((zbp f).1 _ _ _ k3.ok h1);obtain ⟨b1,b2⟩ := (ex_at f).1 _ _ _ (o1.name.sign [61]) (by decide) h1;have k5 := Keep.sign k4.ok [59];injection h2 with h2;subst h2;exact ⟨b1.sign [59],fun h0=>⟨hp.po (zuv stL 0 ((k4.trans k5).err0 h0)),⟨b2 (k5.err0 h0),trivial⟩,trivial,trivial⟩⟩
theorem memF_at {f : Nat} {t : Typ} {r : Typ × PS} (hp : HS N p) (ht : p.err = 0→AtT N t) (h : memF f t p = some r) : HS N r.2∧(r.2.err = 0→AtT N r.1):=by
 have k1 := Keep.oneF hp.ok memW 0;have k2 := Keep.name k1.ok;have o1 := hp.oneF memW 0;have o2 := o1.name;unfold memF at h;split at h
 ·injection h with h; subst h;have k3 := Keep.oneF k2.ok regW 0;have k4 := k3.trans (Keep.sign k3.ok [59]);refine ⟨(o2.oneF _ _).sign [59],fun h0=>?_⟩;have t0 := ht ((k1.trans (k2.trans k4)).err0 h0);refine ⟨t0.at_,fun g hg=>?_,t0.ops,t0.qrys,t0.idxs⟩;rcases List.mem_append.1 hg with hg | hg
  ·exact t0.fields g hg
  ·rw [List.mem_singleton.1 hg]; exact o1.po (zis (k4.err0 h0))
 split at h
 ·injection h with h; subst h;have k4 := Keep.sign k2.ok [59];refine ⟨o2.sign [59],fun h0=>?_⟩;have t0 := ht ((k1.trans (k2.trans k4)).err0 h0);refine ⟨t0.at_,fun g hg=>?_,t0.ops,t0.qrys,t0.idxs⟩;rcases List.mem_append.1 hg with hg | hg
  ·exact t0.fields g hg
  ·rw [List.mem_singleton.1 hg]; exact o1.po (zis (k4.err0 h0))
 split at h
 ·obtain ⟨a,h1,h2⟩ := za2 h;obtain ⟨b,h3,h4⟩ := za2 h2;injection h4 with h4; subst h4;obtain ⟨a1,a2⟩ := zww o2 h1;have k3 := zbw k2.ok h1;have k4 := Keep.sign k3.ok [123];have k5 := k4.trans ((zdf f).1 _ _ _ _ k4.ok h3);obtain ⟨b1,b2⟩ := (st_at f).1 _ _ _ _ (a1.sign [123]) (fun _=>(show AtSs N [] from trivial)) h3;refine ⟨b1,fun h0=>?_⟩;have t0 := ht ((k1.trans (k2.trans (k3.trans k5))).err0 h0);refine ⟨t0.at_,t0.fields,fun g hg=>?_,t0.qrys,t0.idxs⟩;rcases List.mem_append.1 hg with hg | hg
  ·exact t0.ops g hg
  ·rw [List.mem_singleton.1 hg]; exact ⟨o1.po (zis ((k3.trans k5).err0 h0)),a2 (k5.err0 h0),b2 h0⟩
 split at h
 ·obtain ⟨a,h1,h2⟩ := za2 h;obtain ⟨b,h3,h4⟩ := za2 h2;injection h4 with h4; subst h4;obtain ⟨a1,a2⟩ := zww o2 h1;have k3 := zbw k2.ok h1;have k4 := Keep.sign k3.ok [61];have k5 := (zbp f).1 _ _ _ k4.ok h3;have k6 := Keep.sign k5.ok [59];obtain ⟨b1,b2⟩ := (ex_at f).1 _ _ _ (a1.sign [61]) (by decide) h3;refine ⟨b1.sign [59],fun h0=>?_⟩;have t0 := ht ((k1.trans (k2.trans (k3.trans (k4.trans (k5.trans k6))))).err0 h0);refine ⟨t0.at_,t0.fields,t0.ops,fun g hg=>?_,t0.idxs⟩;rcases List.mem_append.1 hg with hg | hg
  ·exact t0.qrys g hg
  ·rw [List.mem_singleton.1 hg]; exact ⟨o1.po (zis ((k3.trans (k4.trans (k5.trans k6))).err0 h0)),a2 ((k4.trans (k5.trans k6)).err0 h0),b2 (k6.err0 h0)⟩
 split at h
 ·injection h with h; subst h;have k4 := Keep.sign k2.ok [59];refine ⟨o2.sign [59],fun h0=>?_⟩;have t0 := ht ((k1.trans (k2.trans k4)).err0 h0);refine ⟨t0.at_,t0.fields,t0.ops,t0.qrys,fun g hg=>?_⟩;rcases List.mem_append.1 hg with hg | hg
  ·exact t0.idxs g hg
  ·rw [List.mem_singleton.1 hg]; exact o1.po (zis (k4.err0 h0))
 ·injection h with h; subst h; exact ⟨o1,fun h0=>ht (k1.err0 h0)⟩
theorem tdL_at : ∀ f t p r,HS N p→(p.err = 0→AtT N t)→tdL f t p = some r→HS N r.2∧(r.2.err = 0→AtT N r.1)
 | 0,_,_,_,_,_,h=>by cases h
 | f + 1,t,p,r,hp,ht,h=>by
  unfold tdL at h;split at h
  ·obtain ⟨a,h1,h2⟩ := za2 h;obtain ⟨a1,a2⟩ := memF_at hp ht h1;exact tdL_at f _ _ _ a1 a2 h2
  ·injection h with h; subst h; exact ⟨hp.sign [125],fun h0=>ht ((Keep.sign hp.ok [125]).err0 h0)⟩
theorem tdF_at {f : Nat} {r : Typ × PS} (hp : HS N p) (h : tdF f p = some r) : HS N r.2∧(r.2.err = 0→AtT N r.1):=by
 have k1 := Keep.adv hp.ok;have k2 := Keep.name k1.ok;exact tdL_at f _ _ _ (hp.adv.name.sign [123]) (fun h0=>⟨hp.adv.po (zis ((Keep.sign k2.ok [123]).err0 h0)),fun g hg=>(by cases hg),fun g hg=>(by cases hg),fun g hg=>(by cases hg),fun g hg=>(by cases hg)⟩) h
theorem paL_at : ∀ f tg l p r,HS N p→(p.err = 0→∀ t ∈ l,AtT N t)→paL f tg l p = some r→HS N r.2∧(r.2.err = 0→∀ t ∈ r.1.2,AtT N t)
 | 0,_,_,_,_,_,_,h=>by cases h
 | f + 1,tg,l,p,r,hp,hl,h=>by
  unfold paL at h;split at h
  ·obtain ⟨a,h1,h2⟩ := za2 h;obtain ⟨a1,a2⟩ := tdF_at hp h1;have k1 := zg8 hp.ok h1;refine paL_at f _ _ _ _ a1 (fun h0 t ht=>?_) h2;rcases List.mem_append.1 ht with ht | ht
   ·exact hl (k1.err0 h0) t ht
   ·rw [List.mem_singleton.1 ht]; exact a2 h0
  ·injection h with h; subst h; exact ⟨hp,hl⟩
theorem pa_at {src : List UInt8} (hl : src.length ≤ 4000) {f : Nat} {r : (Bool × List Typ) × PS} (h : paL f true [] (ps0 src).adv = some r) : HS src.length r.2∧(r.2.err = 0→∀ t ∈ r.1.2,AtT src.length t) :=
 paL_at f _ _ _ _ (HS.adv ⟨zk4 hl,rfl,fun h=>absurd rfl h⟩) (fun _ t ht=>by cases ht) h
end
section
open Go Go.Vai
variable {N : Nat}
def DgR (N : Nat) (d : Dg) : Prop := InR N d.at_∧1 ≤ d.err∧d.err ≤ 100
def DgsR (N : Nat) (l : List Dg) : Prop := ∀ d ∈ l,DgR N d
theorem DgsR.nil : DgsR N [] := fun _ h=>by cases h
theorem DgsR.one {a e : Int} (h : InR N a) (h1 : 1 ≤ e∧e ≤ 100) : DgsR N [⟨a,e⟩] := fun d hd=>by
 rw [List.mem_singleton.1 hd];exact ⟨h,h1.1,h1.2⟩
theorem DgsR.app {a b : List Dg} (h1 : DgsR N a) (h2 : DgsR N b) : DgsR N (a ++ b) := fun d hd=>by
 rcases List.mem_append.1 hd with h | h
 ·exact h1 d h
 ·exact h2 d h
theorem DgsR.ite {p : Prop} [Decidable p] {a b : List Dg} (h1 : DgsR N a) (h2 : DgsR N b) : DgsR N (if p then a else b):=by
 split
 ·exact h1
 ·exact h2
theorem AtE.at : ∀ {e : Ex},AtE N e→InR N e.at_
 | .mk _ _ _ _ _ _,h=>h.1
theorem nameT_R {w : Sc} {e : Ex} (h : InR N e.at_) : DgsR N (zny w e).2:=by
 unfold zny
 repeat' split
 all_goals first | exact .nil | exact .one h ⟨by decide,by decide⟩
theorem sizeT_R {w : Sc} {e : Ex} (h : InR N e.at_) : DgsR N (zlb w e).2:=by
 unfold zlb
 repeat' split
 all_goals first | exact .nil | exact .one h ⟨by decide,by decide⟩
theorem leafT_R {w : Sc} {e : Ex} (h : InR N e.at_) : DgsR N (zn4 w e).2:=by
 unfold zn4
 repeat' split
 all_goals first | exact .nil | exact nameT_R h | exact sizeT_R h
theorem opT_R {e : Ex} {ds : List Dg} {n : Int} (h : InR N e.at_) (hd : DgsR N ds) : DgsR N (opT e ds n).2:=by
 unfold opT
 repeat' split
 all_goals first | exact .nil | exact hd | exact .one h ⟨by decide,by decide⟩
theorem hasT_R {w : Sc} {e x : Ex} {a b : Int × List Dg} (h : InR N e.at_) (ha : DgsR N a.2) (hb : DgsR N b.2) : DgsR N (hasT w e x a b).2:=by
 unfold hasT;have h12 : DgsR N [⟨e.at_,12⟩] := .one h ⟨by decide,by decide⟩;have hl : DgsR N ((if zda w x = true then [] else if a.2 = [] then [⟨e.at_,12⟩] else a.2) ++ b.2) := .app (.ite .nil (.ite h12 ha)) hb;split
 ·exact .one h ⟨by decide,by decide⟩
 ·simp only;generalize hg : (if zda w x = true then [] else if a.2 = [] then [⟨e.at_,12⟩] else a.2) ++ b.2 = l at hl ⊢;have h2 : DgsR N (if (!zda w x && decide (a.2 = [])) = false∧b.2 = []∧b.1 ≠ 2 then l ++ [⟨e.at_,12⟩] else l) := .ite (.app hl h12) hl;generalize (if (!zda w x && decide (a.2 = [])) = false∧b.2 = []∧b.1 ≠ 2 then l ++ [⟨e.at_,12⟩] else l) = l2 at h2 ⊢;split
  ·exact .nil
  ·exact h2
theorem ztk (w : Sc) : ∀ e : Ex,AtE N e→DgsR N (tyE w e).2
 | .mk k n s tg [] a,h=>by rw [tyE]; exact leafT_R (AtE.at h)
 | .mk k n s tg [x] a,h=>by
  rw [tyE];exact opT_R (AtE.at h) (ztk w x h.2.1)
 | .mk k n s tg [x,y] a,h=>by
  have h1 := ztk w x h.2.1;have h2 := ztk w y h.2.2.1;rw [tyE];split
  ·exact hasT_R (AtE.at h) h1 h2
  ·exact opT_R (AtE.at h) (.app h1 h2)
 | .mk _ _ _ _ (_ :: _ :: _ :: _) _,_=>by rw [tyE]; exact .nil
theorem valS_R {k : Int} {s : List UInt8} {v : List Ex} {t1 : Bool} {th : List Stm} {t2 : Bool} {el : List Stm} {a : Int} (ha : InR N a) (hv : AtEs N v) : AtE N (valS (.mk k s v t1 th t2 el a)):=by
 cases v with
 | nil=>exact ⟨⟨Int.le_refl _,Int.lt_of_le_of_lt ha.1 ha.2⟩,trivial⟩
 | cons e v=>exact hv.1
theorem stD_R (w : Sc) {z : Stm} (ha : InR N z.at_) (hv : AtE N (valS z)) : DgsR N (stD w z):=by
 have h1 : DgsR N (match fldF w.t.fields z.field with
  | none=>[(⟨z.at_,6⟩ : Dg)]
  | some f=>if f.kind = (kOf z.kind).1 then [] else [⟨z.at_,10⟩]):=by
  split
  ·exact .one ha ⟨by decide,by decide⟩
  ·exact .ite .nil (.one ha ⟨by decide,by decide⟩)
 unfold stD;simp only;split
 ·exact h1
 ·exact .app (.app h1 (ztk w _ hv)) (.ite (.one hv.at ⟨by decide,by decide⟩) .nil)
mutual
theorem bodyS_R (w : Sc) : ∀ z : Stm,AtS N z→DgsR N (zhz w z)
 | .mk k s v t1 th t2 el a,h=>by
  have hv := valS_R (k := k) (s := s) (t1 := t1) (th := th) (t2 := t2) (el := el) h.1 h.2.1;have h2 := zmy w th h.2.2.1;have h3 := zmy w el h.2.2.2;rw [zhz];split
  ·refine .app (.app ?_ h2) h3;exact .app (ztk w _ hv) (.ite (.one hv.at ⟨by decide,by decide⟩) .nil)
  ·exact stD_R w h.1 hv
theorem zmy (w : Sc) : ∀ l : List Stm,AtSs N l→DgsR N (zdc w l)
 | [],_=>by rw [zdc]; exact .nil
 | z :: l,h=>by
  rw [zdc];exact .app (bodyS_R w z h.1) (zmy w l h.2)
end
theorem zko : ∀ (l : List Nm) (ks : List (List UInt8)),(∀ x ∈ l,InR N x.at_)→DgsR N (dupD ks l)
 | [],_,_=>.nil
 | x :: l,ks,h=>by
  rw [dupD];exact .app (.ite (.one (h x mcS) ⟨by decide,by decide⟩) .nil) (zko l _ fun y hy=>h y (mcM _ hy))
theorem zqm {α : Type} {l : List α} {f : α→Nm} {g : α→Int} (hg : ∀ x,(f x).at_ = g x) (h : ∀ x ∈ l,InR N (g x)) : ∀ x ∈ l.map f,InR N x.at_ := fun x hx=>by
 obtain ⟨y,hy,rfl⟩ := List.mem_map.1 hx;rw [hg];exact h y hy
theorem zwm (t : Typ) : ∀ l : List Opn,(∀ o ∈ l,InR N o.at_∧AtP N o.params∧AtSs N o.body)→DgsR N (zhr t l)
 | [],_=>.nil
 | o :: l,h=>by
  obtain ⟨h1,h2,h3⟩ := h o mcS;rw [zhr];refine .app ?_ (zwm t l fun y hy=>h y (mcM _ hy));exact .app (.app (.app (zko _ _ (zqm (fun _=>rfl) h2)) (zmy _ _ h3)) (.ite (.one h1 ⟨by decide,by decide⟩) .nil)) (.ite (.one h1 ⟨by decide,by decide⟩) .nil)
theorem zvg (t : Typ) : ∀ l : List Qry,(∀ q ∈ l,InR N q.at_∧AtP N q.params∧AtE N q.res)→DgsR N (zhy t l)
 | [],_=>.nil
 | o :: l,h=>by
  obtain ⟨h1,h2,h3⟩ := h o mcS;rw [zhy];refine .app ?_ (zvg t l fun y hy=>h y (mcM _ hy));exact .app (zko _ _ (zqm (fun _=>rfl) h2)) (ztk _ _ h3)
theorem zw7 (t : Typ) : ∀ l : List Idx,(∀ x ∈ l,InR N x.at_)→DgsR N (zgv t l)
 | [],_=>.nil
 | x :: l,h=>by
  rw [zgv];refine .app ?_ (zw7 t l fun y hy=>h y (mcM _ hy));unfold zl5;split
  ·exact .one (h x mcS) ⟨by decide,by decide⟩
  ·exact .ite (.one (h x mcS) ⟨by decide,by decide⟩) .nil
theorem typD_R {t : Typ} (h : AtT N t) : DgsR N (typD t):=by
 have h4 : ∀ x ∈ t.ops.map nmO ++ t.qrys.map nmY,InR N x.at_ := fun x hx=>by
  rcases List.mem_append.1 hx with hx | hx
  ·exact zqm (f := nmO) (g := Opn.at_) (fun _=>rfl) (fun o ho=>(h.ops o ho).1) x hx
  ·exact zqm (f := nmY) (g := Qry.at_) (fun _=>rfl) (fun o ho=>(h.qrys o ho).1) x hx
 exact .app (.app (.app (.app (.app (zko _ _ (zqm (fun _=>rfl) h.fields)) (zwm t _ h.ops)) (zvg t _ h.qrys)) (zko _ _ h4)) (zko _ _ (zqm (fun _=>rfl) h.idxs))) (zw7 t _ h.idxs)
theorem zuh : ∀ l : List Typ,(∀ t ∈ l,AtT N t)→DgsR N (zgi l)
 | [],_=>.nil
 | t :: l,h=>by
  rw [zgi];exact .app (typD_R (h t mcS)) (zuh l fun y hy=>h y (mcM _ hy))
theorem chkD_R {l : List Typ} (h : ∀ t ∈ l,AtT N t) : DgsR N (chkD l) :=
 .app (zko _ _ (zqm (f := nmT) (g := Typ.at_) (fun _=>rfl) fun t ht=>(h t ht).at_)) (zuh l h)
theorem DgsR.ok {l : List Dg} (h : DgsR N l) (hN : N ≤ 1099511627776) : DgOk l := fun d hd=>by
 obtain ⟨⟨h1,h2⟩,h3,h4⟩ := h d hd;unfold bdOk;exact ⟨by rw [decide_eq_true (by omega),decide_eq_true (by omega)]; rfl,by rw [decide_eq_true (by omega),decide_eq_true (by omega)]; rfl⟩
theorem srtP_at {N : Nat} {D : List Dg} (h : DgsR N D) : ∀ x ∈ srtP D,InR N x.1∧1 ≤ x.2∧x.2 ≤ 100 := fun x hx=>by
 obtain ⟨d,h1,rfl⟩ := srtP_mem hx;exact h d h1
end
section
open Go Go.Vai
attribute [local irreducible] goTo zao mkS
variable {C : Nat → Oracle} {o : Out}














end
section
open Go Go.Vai
def QT (o : Out) : Prop := o.v = .bool true
end
section
open Go Go.Vai
attribute [local irreducible] goTo zao mkS
variable {C : Nat→Oracle} (hC : Ext C)
include hC
set_option maxHeartbeats 4000000 in
theorem stm_loop (tg : Bool) (l : List Int) (hl : l.length ≤ 1000000) (B M : Nat) (hM : 2 * B + 4200 ≤ M) (hM2 : M ≤ 1000000000000) (d : Int) (hd : 0 ≤ d∧d ≤ 100) (ih : d ≤ 2→∀ a : Int,Was (calL C 38 [.vs 1 tg (ints l),.int .i64 a,.int .i64 (d + 1)] Hp.none 0) (QP B)) :
  ∀ (m : Nat) (i a : Int) (s : List UInt8),(4 - i).toNat = m→0 ≤ i→i ≤ 3→s.length ≤ i.toNat * M →
  Was (RL C 38 Q0i (mkS 107 [(0,.val (.vs 1 tg (ints l)) .no),(1,.val (.int .i64 a) .no),(2,.val (.int .i64 d) .no),(8,.val (.str s) .no),(9,.val (.int .i64 i) .no)] [] Hp.none 0)) (QP (3 * M)):=by
 intro m
 induction m with
 | zero=>intro i a s hm h0 h4; omega
 | succ m IH =>
  intro i a s hm h0 h4 hs;have w1 : w64 (d + 1) = d + 1 := zb1 (by omega) (by omega);have w3 : w64 (i + 1) = i + 1 := zb1 (by omega) (by omega);have k1 : (i + 1).toNat * M = i.toNat * M + M := by rw [show (i + 1).toNat = i.toNat + 1 by omega,Nat.succ_mul]
  have k3 : i.toNat * M ≤ 3 * M := Nat.mul_le_mul_right M (by omega);refine exW (fun o=>p38_1) ?_;simp only [Tr.val,za3,AV.pure,za0,za1]
  repeat' (first
   | refine .bL (by first | omega | (simp only [lnA,lnC,lnN,List.length_drop,List.length_take]; omega)) ?_
   | refine .bT (by omega) ?_
   | refine .bF (by omega) ?_
   | (refine .call (w34 hC _ _ (by omega) _) ?_; rintro o ⟨x,e⟩; simp only [e,AV.pure,za0]; clear e)
   | (refine .call (w37 hC _) ?_; rintro o ⟨s,e,h1⟩; simp only [e,AV.pure,za0]; clear e)
   | (refine .call (w22 hC _ _ (by omega) (by omega)) ?_; rintro o ⟨x,e,h1,h2⟩; simp only [e,AV.pure,za0]; clear e)
   | (refine .call (ih (by omega) _) ?_; rintro o ⟨s,x,e,h1⟩; simp only [e,AV.pure,za3,za0]; clear e)
   | (refine .call (w40 hC _ _ (by omega) _ _ (by omega) (by omega)) ?_; rintro o ⟨s,x,e,h1⟩; simp only [e,AV.pure,za3,za0]; clear e)
   | (refine exW (fun o=>p38_2) ?_; simp only [Tr.val,za3,AV.pure,za0,AV.cells,za1,za4,bnT,bnF,w1,w3])
   | (refine exW (fun o=>p38_3) ?_; simp only [Tr.val,za3,AV.pure,za0,AV.cells,za1,za4,bnT,bnF,w1,w3])
   | (refine exW (fun o=>p38_4) ?_; simp only [Tr.val,za3,AV.pure,za0,AV.cells,za1,za4,bnT,bnF,w1,w3])
   | (refine exW (fun o=>p38_5) ?_; simp only [Tr.val,za3,AV.pure,za0,AV.cells,za1,za4,bnT,bnF,w1,w3])
   | (refine exW (fun o=>p38_6) ?_; simp only [Tr.val,za3,AV.pure,za0,AV.cells,za1,za4,bnT,bnF,w1,w3])
   | (refine exW (fun o=>p38_7) ?_; simp only [Tr.val,za3,AV.pure,za0,AV.cells,za1,za4,bnT,bnF,w1,w3])
   | (refine exW (fun o=>p38_8) ?_; simp only [Tr.val,za3,AV.pure,za0,AV.cells,za1,za4,bnT,bnF,w1,w3])
   | (refine exW (fun o=>p38_9) ?_; simp only [Tr.val,za3,AV.pure,za0,AV.cells,za1,za4,bnT,bnF,w1,w3])
   | (refine exW (fun o=>p38_10) ?_; simp only [Tr.val,za3,AV.pure,za0,AV.cells,za1,za4,bnT,bnF,w1,w3])
   | (refine exW (fun o=>p38_11) ?_; simp only [Tr.val,za3,AV.pure,za0,AV.cells,za1,za4,bnT,bnF,w1,w3])
   | (refine .nth (B := 20) rfl (by simp only [lnC,lnN]; omega) fun s hs=>?_; simp only [AV.cells])
   | exact .mk ⟨_,_,rfl,by first | omega | (simp only [lnA,lnC,lnN,List.length_drop,List.length_take]; omega)⟩
   | refine .dec (fun h=>?_) (fun h=>?_)
   | refine .both (fun h=>?_) (fun h=>?_))
  all_goals exact IH _ _ _ (by omega) (by omega) (by omega) (by first | omega | (simp only [lnA,lnC,lnN]; omega))
theorem w38s (tg : Bool) (l : List Int) (hl : l.length ≤ 1000000) (B M : Nat) (hM : 2 * B + 4200 ≤ M) (hM2 : M ≤ 1000000000000) (d : Int) (hd : 0 ≤ d∧d ≤ 100) (ih : d ≤ 2→∀ a : Int,Was (calL C 38 [.vs 1 tg (ints l),.int .i64 a,.int .i64 (d + 1)] Hp.none 0) (QP B)) (a : Int) :
  Was (calL C 38 [.vs 1 tg (ints l),.int .i64 a,.int .i64 d] Hp.none 0) (QP (3 * M)):=by
 refine exW (fun o=>p38_c hC) (exW (fun o=>p38_0) ?_);exact stm_loop hC tg l hl B M hM hM2 d hd ih _ 0 a [] rfl (by decide) (by decide) (by simp)
theorem w38 (tg : Bool) (l : List Int) (hl : l.length ≤ 1000000) (a : Int) : Was (calL C 38 [.vs 1 tg (ints l),.int .i64 a,.int .i64 0] Hp.none 0) (QP 4000000):=by
 have s3 := w38s hC tg l hl 0 4200 (by decide) (by decide) 3 (by decide) (fun h=>absurd h (by decide));have s2 := w38s hC tg l hl _ 29400 (by decide) (by decide) 2 (by decide) (fun _=>s3);have s1 := w38s hC tg l hl _ 180600 (by decide) (by decide) 1 (by decide) (fun _=>s2);have s0 := w38s hC tg l hl _ 1087800 (by decide) (by decide) 0 (by decide) (fun _=>s1);exact (s0 a).imp fun o ⟨s,x,e1,e2⟩=>⟨s,x,e1,Nat.le_trans e2 (by decide)⟩
end
section
open Go Go.Vai
attribute [local irreducible] goTo zao mkS
variable {C : Nat → Oracle} {o : Out}
abbrev cH0 : AV := (.vs 1 true [(.str [116]),(.str [97,99,99,111,117,110,116]),(.str [117])])
abbrev qH0 : List Nat := Q4r
abbrev qH1 : List Nat := Q2e
abbrev qH2 : List Nat := Q1a
abbrev qH3 : List Nat := Q2x
abbrev qH4 : List Nat := Q91
abbrev qH5 : List Nat := Q94
abbrev qH6 : List Nat := Q6e
abbrev qH7 : List Nat := Q6j
abbrev qH8 : List Nat := Q7d
abbrev qH9 : List Nat := Q85
abbrev qH10 : List Nat := Q8m
abbrev qH11 : List Nat := Q8t
abbrev qH12 : List Nat := Q8w
abbrev qH13 : List Nat := Q8x
abbrev qH14 : List Nat := Q8z
abbrev qH15 : List Nat := Q90
abbrev qH16 : List Nat := Q93
abbrev qH17 : List Nat := Q92
theorem p18_c (hC : Ext C) {a : Bool} {b : List AV} : LC C o 18 (mk0 151 [vv 0 (.vs 1 a b)]) [(.vs 1 a b)] Hp.none 0 := lC hC
theorem p18_0 {a b} : LR C o 18 [] (mk0 151 [vv 0 (.vs 1 a b)]) (.run 0 Q0t (mk0 151 [vv 0 (.vs 1 a b),vt 3 [],vi 4 0,vi 5 0])) := lR 11
theorem p18_1 {a b d e c} : LR C o 18 Q0t (mk0 151 [vv 0 (.vs 1 a b),vt 3 d,vi 4 e,vi 5 c]) (cl0 34 [(.vs 1 a b),(i6 0)] fun f => .br (AV.pure f.v)
(.mid 0 qH2 3 (mk0 151 [vv 0 (.vs 1 a b),vt 3 d,vi 4 e,vi 5 c,vi 11 c,vv 12 (.vs 1 a b),vv 13 f.v])) .none) := lR 3
theorem p18_2 {a b e f c d} : LM C o 18 qH2 3 (mk0 151 [vv 0 (.vs 1 a b),vt 3 e,vi 4 f,vi 5 c,vi 11 c,vv 12 (.vs 1 a b),vi 13 d]) (cl0 22 [(i6 d),(i6 2)] fun g => .br (AV.pure g.v)
(.mid 0 qH2 4 (mk0 151 [vv 0 (.vs 1 a b),vt 3 e,vi 4 f,vi 5 c,vi 11 c,vv 12 (.vs 1 a b),vi 13 d,vv 14 g.v])) .none) := lM 0
abbrev yS340 := fun (a : Bool) (b : List AV) c d e f g => mkS 151 [vv 0 (.vs 1 a b),vt 3 c,vi 4 d,vi 5 e,vb 15 true,vt 18 c,vt 19 f,vv 20 cH0,vv 21 (.vs 1 a b),vi 22 d,g] [] Hp.none 0
theorem p18_3 {a c b d e g f} : LM C o 18 qH2 4 (mk0 151 [vv 0 (.vs 1 a c),vt 3 b,vi 4 d,vi 5 e,vi 11 e,vv 12 (.vs 1 a c),vi 13 g,vi 14 f]) (.br (decide (e ≤ f))
(.br (Nat.ble (b.length + 5) 4611686018427387904)
(cl0 34 [(.vs 1 a c),(i6 d)] fun h => .br (AV.pure h.v)
(.mid 0 qH1 6 (yS340 a c b d e (b ++ [116,121,112,101,32]) (vv 23 h.v))) .none) .none)
(rt (.str b))) := lM 6
abbrev yS341 := fun (a : Bool) (b : List AV) c d e f g h => mkS 151 [vv 0 (.vs 1 a b),vt 3 c,vi 4 d,vi 5 e,vb 15 true,vt 18 c,vt 19 f,vv 20 cH0,vv 21 (.vs 1 a b),vi 22 d,vi 23 g,h] [] Hp.none 0
theorem p18_4 {a c d f e g b} : LM C o 18 qH1 6 (yS340 a c d e g f (vi 23 b)) (cl0 22 [(i6 b),(i6 3)] fun h => .br (AV.pure h.v)
(.mid 0 qH1 7 (yS341 a c d e g f b (vv 24 h.v))) .none) := lM 0
abbrev yS342 := fun (a : Bool) (b : List AV) c d e f g h i => mkS 151 [vv 0 (.vs 1 a b),vt 3 c,vi 4 d,vi 5 e,vb 15 true,vt 18 c,vt 19 f,vv 20 cH0,vv 21 (.vs 1 a b),vi 22 d,vi 23 g,vi 24 h,vv 25 (.cptr i)] [] Hp.none 0
theorem p18_5 {a c d f e h g b} : LM C o 18 qH1 7 (yS341 a c d e h f g (vi 24 b)) (ixl 3 [(.str [116]),(.str [97,99,99,111,117,110,116]),(.str [117])] b fun i =>
(.mid 0 qH1 8 (yS342 a c d e h f g b (AV.cells i)))) := lM 0
theorem p18_6 {a e f b c d g h i} : LM C o 18 qH1 8 (yS342 a e f d g b h i [(.str c)]) (.br (Nat.ble (b.length + c.length) 4611686018427387904)
(.br (Nat.ble ((b ++ c).length + 12) 4611686018427387904)
(cl0 34 [(.vs 1 a e),(i6 (w64 (d + 1)))] fun j => .br (AV.pure j.v)
(.mid 0 qH3 4 (mk0 151 [vv 0 (.vs 1 a e),vt 3 ((b ++ c) ++ [32,123,32,35,32,102,105,101,108,100,115,10]),vi 4 d,vi 5 g,vv 29 (.vs 1 a e),vi 30 d,vi 31 (w64 (d + 1)),vv 32 j.v])) .none) .none) .none) := lM 2
theorem p18_7 {a c d g b e f} : LM C o 18 qH3 4 (mk0 151 [vv 0 (.vs 1 a c),vt 3 f,vi 4 d,vi 5 g,vv 29 (.vs 1 a c),vi 30 d,vi 31 e,vi 32 b]) (cl0 22 [(i6 b),(i6 6)] fun h => .br (AV.pure h.v)
(.mid 0 qH3 5 (mk0 151 [vv 0 (.vs 1 a c),vt 3 f,vi 4 d,vi 5 g,vv 29 (.vs 1 a c),vi 30 d,vi 31 e,vi 32 b,vv 33 h.v])) .none) := lM 0
abbrev zk8 := fun (a : Bool) (b : List AV) c d e f g => mk0 151 [vv 0 (.vs 1 a b),vt 3 c,vi 4 d,vi 5 e,vi 6 f,vi 7 g]
theorem p18_8 {a d e f g h b c} : LM C o 18 qH3 5 (mk0 151 [vv 0 (.vs 1 a d),vt 3 c,vi 4 e,vi 5 f,vv 29 (.vs 1 a d),vi 30 e,vi 31 h,vi 32 g,vi 33 b]) (.run 0 qH0 (zk8 a d c (w64 (e + 2)) f (w64 (2 + b)) 0)) := lM 7
theorem p18_9 {a b d c e f g} : LR C o 18 qH0 (zk8 a b d c e f g) (.br (decide (g < f))
(cl0 34 [(.vs 1 a b),(i6 c)] fun h => .br (AV.pure h.v)
(.mid 0 qH6 3 (mk0 151 [vv 0 (.vs 1 a b),vt 3 d,vi 4 c,vi 5 e,vi 6 f,vi 7 g,vb 39 true,vv 42 (.vs 1 a b),vi 43 c,vv 44 h.v])) .none)
(.br (Nat.ble (d.length + 2) 4611686018427387904)
(.run 0 Q0t (mk0 151 [vv 0 (.vs 1 a b),vt 3 (d ++ [125,10]),vi 4 c,vi 5 (w64 (e + 1))])) .none)) := lR 9
theorem p18_10 {a c d b e f g h} : LM C o 18 qH6 3 (mk0 151 [vv 0 (.vs 1 a c),vt 3 d,vi 4 b,vi 5 e,vi 6 f,vi 7 g,vb 39 true,vv 42 (.vs 1 a c),vi 43 b,vi 44 h]) (cl0 34 [(.vs 1 a c),(i6 (w64 (b + 1)))] fun i => .br (AV.pure i.v)
(.mid 0 qH7 4 (mk0 151 [vv 0 (.vs 1 a c),vt 3 d,vi 4 b,vi 5 e,vi 6 f,vi 7 g,vi 8 h,vv 45 (.vs 1 a c),vi 46 b,vi 47 (w64 (b + 1)),vv 48 i.v])) .none) := lM 2
theorem p18_11 {a c e d f g h b i j} : LM C o 18 qH7 4 (mk0 151 [vv 0 (.vs 1 a c),vt 3 e,vi 4 d,vi 5 f,vi 6 g,vi 7 h,vi 8 b,vv 45 (.vs 1 a c),vi 46 d,vi 47 j,vi 48 i]) (cl0 22 [(i6 b),(i6 9)] fun k => .br (AV.pure k.v)
(.mid 0 qH8 2 (mk0 151 [vv 0 (.vs 1 a c),vt 3 e,vi 4 (w64 (d + 2)),vi 5 f,vi 6 g,vi 7 h,vi 8 b,vi 9 i,vi 51 b,vv 52 k.v])) .none) := lM 6
theorem p18_12 {c e a h i j g b d f} : LM C o 18 qH8 2 (mk0 151 [vv 0 (.vs 1 c e),vt 3 a,vi 4 f,vi 5 h,vi 6 i,vi 7 j,vi 8 g,vi 9 b,vi 51 g,vi 52 d]) (.br (decide (d = 0))
(.br (Nat.ble (a.length + 9) 4611686018427387904)
(cl0 37 [(i6 b)] fun k => .br (AV.pure k.v)
(.mid 22 qH9 4 (mk0 151 [vv 0 (.vs 1 c e),vt 3 a,vi 4 f,vi 5 h,vi 6 i,vi 7 j,vi 8 g,vi 9 b,vi 52 d,vb 59 true,vt 61 a,vt 62 (a ++ [114,101,103,105,115,116,101,114,32]),vi 63 b,vv 64 k.v])) .none) .none)
(.br (decide (d = 1))
(.br (Nat.ble (a.length + 9) 4611686018427387904)
(cl0 37 [(i6 b)] fun l => .br (AV.pure l.v)
(.mid 19 qH10 4 (mk0 151 [vv 0 (.vs 1 c e),vt 3 a,vi 4 f,vi 5 h,vi 6 i,vi 7 j,vi 8 g,vi 9 b,vi 52 d,vb 67 true,vt 69 a,vt 70 (a ++ [114,101,103,105,115,116,101,114,32]),vi 71 b,vv 72 l.v])) .none) .none)
(.br (decide (d = 2))
(.br (Nat.ble (a.length + 8) 4611686018427387904)
(cl0 37 [(i6 b)] fun m => .br (AV.pure m.v)
(.mid 16 qH11 4 (mk0 151 [vv 0 (.vs 1 c e),vt 3 a,vi 4 f,vi 5 h,vi 6 i,vi 7 j,vi 8 g,vi 9 b,vi 52 d,vb 75 true,vt 77 a,vt 78 (a ++ [99,111,117,110,116,101,114,32]),vi 79 b,vv 80 m.v])) .none) .none)
(.br (decide (d = 3))
(.br (Nat.ble (a.length + 4) 4611686018427387904)
(cl0 37 [(i6 b)] fun n => .br (AV.pure n.v)
(.mid 13 qH12 4 (mk0 151 [vv 0 (.vs 1 c e),vt 3 a,vi 4 f,vi 5 h,vi 6 i,vi 7 j,vi 8 g,vi 9 b,vi 52 d,vb 83 true,vt 85 a,vt 86 (a ++ [109,97,120,32]),vi 87 b,vv 88 n.v])) .none) .none)
(.br (decide (d = 4))
(.br (Nat.ble (a.length + 4) 4611686018427387904)
(cl0 37 [(i6 b)] fun p => .br (AV.pure p.v)
(.mid 10 qH13 4 (mk0 151 [vv 0 (.vs 1 c e),vt 3 a,vi 4 f,vi 5 h,vi 6 i,vi 7 j,vi 8 g,vi 9 b,vi 52 d,vb 91 true,vt 93 a,vt 94 (a ++ [115,101,116,32]),vi 95 b,vv 96 p.v])) .none) .none)
(.br (decide (d = 5))
(.br (Nat.ble (a.length + 5) 4611686018427387904)
(cl0 37 [(i6 b)] fun q => .br (AV.pure q.v)
(.mid 7 qH14 4 (mk0 151 [vv 0 (.vs 1 c e),vt 3 a,vi 4 f,vi 5 h,vi 6 i,vi 7 j,vi 8 g,vi 9 b,vi 52 d,vb 99 true,vt 101 a,vt 102 (a ++ [102,108,97,103,32]),vi 103 b,vv 104 q.v])) .none) .none)
(.br (decide (d = 6))
(cl0 38 [(.vs 1 c e),(i6 f),(i6 0)] fun r => .br (AV.pure r.v)
(.mid 3 qH15 3 (mk0 151 [vv 0 (.vs 1 c e),vt 3 a,vi 4 f,vi 5 h,vi 6 i,vi 7 j,vi 8 g,vi 9 b,vi 52 d,vb 107 true,vv 110 (.vs 1 c e),vi 111 f,vv 112 r.v])) .none)
(.br (decide (d = 7))
(cl0 40 [(.vs 1 c e),(i6 f),(i6 0)] fun s => .br (AV.pure s.v)
(.mid 0 qH16 3 (mk0 151 [vv 0 (.vs 1 c e),vt 3 a,vi 4 f,vi 5 h,vi 6 i,vi 7 j,vi 8 g,vi 9 b,vb 127 true,vv 130 (.vs 1 c e),vi 131 f,vv 132 s.v])) .none)
(.br (Nat.ble (a.length + 6) 4611686018427387904)
(cl0 37 [(i6 b)] fun t => .br (AV.pure t.v)
(.mid 1 qH17 4 (mk0 151 [vv 0 (.vs 1 c e),vt 3 a,vi 4 f,vi 5 h,vi 6 i,vi 7 j,vi 8 g,vi 9 b,vt 53 a,vt 54 (a ++ [105,110,100,101,120,32]),vi 55 b,vv 56 t.v,vb 127 false])) .none) .none))))))))) := lM 27
theorem p18_13 {c d e a b f g h k i l j} : LM C o 18 qH9 4 (mk0 151 [vv 0 (.vs 1 c d),vt 3 e,vi 4 j,vi 5 f,vi 6 g,vi 7 h,vi 8 k,vi 9 i,vi 52 l,vb 59 true,vt 61 e,vt 62 b,vi 63 i,vt 64 a]) (.br (Nat.ble (b.length + a.length) 4611686018427387904)
(.br (Nat.ble ((b ++ a).length + 5) 4611686018427387904)
(.run 0 qH0 (zk8 c d ((b ++ a) ++ [32,105,110,116,59]) j f g (w64 (h + 1)))) .none) .none) := lM 4
theorem p18_14 {c d e a b f g h k i l j} : LM C o 18 qH10 4 (mk0 151 [vv 0 (.vs 1 c d),vt 3 e,vi 4 j,vi 5 f,vi 6 g,vi 7 h,vi 8 k,vi 9 i,vi 52 l,vb 67 true,vt 69 e,vt 70 b,vi 71 i,vt 72 a]) (.br (Nat.ble (b.length + a.length) 4611686018427387904)
(.br (Nat.ble ((b ++ a).length + 7) 4611686018427387904)
(.run 0 qH0 (zk8 c d ((b ++ a) ++ [32,116,101,120,116,59,10]) j f g (w64 (h + 1)))) .none) .none) := lM 4
theorem p18_15 {c d e a b f g h k i l j} : LM C o 18 qH11 4 (mk0 151 [vv 0 (.vs 1 c d),vt 3 e,vi 4 j,vi 5 f,vi 6 g,vi 7 h,vi 8 k,vi 9 i,vi 52 l,vb 75 true,vt 77 e,vt 78 b,vi 79 i,vt 80 a]) (.br (Nat.ble (b.length + a.length) 4611686018427387904)
(.br (Nat.ble ((b ++ a).length + 2) 4611686018427387904)
(.run 0 qH0 (zk8 c d ((b ++ a) ++ [59,32]) j f g (w64 (h + 1)))) .none) .none) := lM 4
theorem p18_16 {c d e a b f g h k i l j} : LM C o 18 qH12 4 (mk0 151 [vv 0 (.vs 1 c d),vt 3 e,vi 4 j,vi 5 f,vi 6 g,vi 7 h,vi 8 k,vi 9 i,vi 52 l,vb 83 true,vt 85 e,vt 86 b,vi 87 i,vt 88 a]) (.br (Nat.ble (b.length + a.length) 4611686018427387904)
(.br (Nat.ble ((b ++ a).length + 1) 4611686018427387904)
(.run 0 qH0 (zk8 c d ((b ++ a) ++ [59]) j f g (w64 (h + 1)))) .none) .none) := lM 4
theorem p18_17 {c d e a b f g h k i l j} : LM C o 18 qH13 4 (mk0 151 [vv 0 (.vs 1 c d),vt 3 e,vi 4 j,vi 5 f,vi 6 g,vi 7 h,vi 8 k,vi 9 i,vi 52 l,vb 91 true,vt 93 e,vt 94 b,vi 95 i,vt 96 a]) (.br (Nat.ble (b.length + a.length) 4611686018427387904)
(.br (Nat.ble ((b ++ a).length + 2) 4611686018427387904)
(.run 0 qH0 (zk8 c d ((b ++ a) ++ [59,9]) j f g (w64 (h + 1)))) .none) .none) := lM 4
theorem p18_18 {c d e a b f g h k i l j} : LM C o 18 qH14 4 (mk0 151 [vv 0 (.vs 1 c d),vt 3 e,vi 4 j,vi 5 f,vi 6 g,vi 7 h,vi 8 k,vi 9 i,vi 52 l,vb 99 true,vt 101 e,vt 102 b,vi 103 i,vt 104 a]) (.br (Nat.ble (b.length + a.length) 4611686018427387904)
(.br (Nat.ble ((b ++ a).length + 1) 4611686018427387904)
(.run 0 qH0 (zk8 c d ((b ++ a) ++ [59]) j f g (w64 (h + 1)))) .none) .none) := lM 4
theorem p18_19 {b d a e f g h i c l j k} : LM C o 18 qH15 3 (mk0 151 [vv 0 (.vs 1 b d),vt 3 a,vi 4 j,vi 5 f,vi 6 g,vi 7 h,vi 8 i,vi 9 c,vi 52 l,vb 107 true,vv 110 (.vs 1 b d),vi 111 j,vv 112 (.tuple [(.str e),(i6 k)])]) (.br (Nat.ble (a.length + 3) 4611686018427387904)
(cl0 37 [(i6 c)] fun m => .br (AV.pure m.v)
(.mid 0 qH4 4 (mk0 151 [vv 0 (.vs 1 b d),vt 3 a,vi 4 k,vi 5 f,vi 6 g,vi 7 h,vi 8 i,vi 9 c,vt 10 e,vt 115 a,vt 116 (a ++ [111,112,32]),vi 117 c,vv 118 m.v])) .none) .none) := lM 1
theorem p18_20 {b d a e f g h i c j k} : LM C o 18 qH16 3 (mk0 151 [vv 0 (.vs 1 b d),vt 3 a,vi 4 j,vi 5 f,vi 6 g,vi 7 h,vi 8 i,vi 9 c,vb 127 true,vv 130 (.vs 1 b d),vi 131 j,vv 132 (.tuple [(.str e),(i6 k)])]) (.br (Nat.ble (a.length + 6) 4611686018427387904)
(cl0 37 [(i6 c)] fun l => .br (AV.pure l.v)
(.mid 0 qH5 4 (mk0 151 [vv 0 (.vs 1 b d),vt 3 a,vi 4 k,vi 5 f,vi 6 g,vi 7 h,vi 8 i,vi 9 c,vt 10 e,vt 135 a,vt 136 (a ++ [113,117,101,114,121,32]),vi 137 c,vv 138 l.v])) .none) .none) := lM 1
theorem p18_21 {c d e a b f g h k i j} : LM C o 18 qH17 4 (mk0 151 [vv 0 (.vs 1 c d),vt 3 e,vi 4 j,vi 5 f,vi 6 g,vi 7 h,vi 8 k,vi 9 i,vt 53 e,vt 54 b,vi 55 i,vt 56 a,vb 127 false]) (.br (Nat.ble (b.length + a.length) 4611686018427387904)
(.br (Nat.ble ((b ++ a).length + 1) 4611686018427387904)
(.run 0 qH0 (zk8 c d ((b ++ a) ++ [59]) j f g (w64 (h + 1)))) .none) .none) := lM 4
theorem p18_22 {f g a h b c i j k d e l} : LM C o 18 qH4 4 (mk0 151 [vv 0 (.vs 1 f g),vt 3 a,vi 4 l,vi 5 i,vi 6 j,vi 7 k,vi 8 d,vi 9 e,vt 10 h,vt 115 a,vt 116 c,vi 117 e,vt 118 b]) (.br (Nat.ble (c.length + b.length) 4611686018427387904)
(cl0 39 [(i6 d)] fun m => .br (AV.pure m.v)
(.mid 0 qH4 7 (mk0 151 [vv 0 (.vs 1 f g),vt 3 a,vi 4 l,vi 5 i,vi 6 j,vi 7 k,vi 8 d,vi 9 e,vt 10 h,vt 115 a,vt 116 c,vi 117 e,vt 118 b,vt 119 (c ++ b),vi 120 d,vv 121 m.v])) .none) .none) := lM 0
theorem p18_23 {f g c h a b i j k d e l} : LM C o 18 qH5 4 (mk0 151 [vv 0 (.vs 1 f g),vt 3 c,vi 4 l,vi 5 i,vi 6 j,vi 7 k,vi 8 d,vi 9 e,vt 10 h,vt 135 c,vt 136 b,vi 137 e,vt 138 a]) (.br (Nat.ble (b.length + a.length) 4611686018427387904)
(.br (Nat.ble ((b ++ a).length + 1) 4611686018427387904)
(cl0 39 [(i6 d)] fun m => .br (AV.pure m.v)
(.mid 0 qH5 8 (mk0 151 [vv 0 (.vs 1 f g),vt 3 c,vi 4 l,vi 5 i,vi 6 j,vi 7 k,vi 8 d,vi 9 e,vt 10 h,vt 135 c,vt 136 b,vi 137 e,vt 138 a,vt 139 (b ++ a),vt 140 ((b ++ a) ++ [32]),vi 141 d,vv 142 m.v])) .none) .none) .none) := lM 0
theorem p18_24 {d e f c m n a b g h i j k l} : LM C o 18 qH4 7 (mk0 151 [vv 0 (.vs 1 d e),vt 3 f,vi 4 l,vi 5 g,vi 6 h,vi 7 i,vi 8 j,vi 9 k,vt 10 c,vt 115 f,vt 116 n,vi 117 k,vt 118 m,vt 119 b,vi 120 j,vt 121 a]) (.br (Nat.ble (b.length + a.length) 4611686018427387904)
(.br (Nat.ble ((b ++ a).length + 1) 4611686018427387904)
(.br (Nat.ble (((b ++ a) ++ [123]).length + c.length) 4611686018427387904)
(.br (Nat.ble ((((b ++ a) ++ [123]) ++ c).length + 1) 4611686018427387904)
(.run 0 qH0 (zk8 d e ((((b ++ a) ++ [123]) ++ c) ++ [125]) l g h (w64 (i + 1)))) .none) .none) .none) .none) := lM 4
theorem p18_25 {d e f c m n a p b g h i j k l} : LM C o 18 qH5 8 (mk0 151 [vv 0 (.vs 1 d e),vt 3 f,vi 4 l,vi 5 g,vi 6 h,vi 7 i,vi 8 j,vi 9 k,vt 10 c,vt 135 f,vt 136 n,vi 137 k,vt 138 m,vt 139 p,vt 140 b,vi 141 j,vt 142 a]) (.br (Nat.ble (b.length + a.length) 4611686018427387904)
(.br (Nat.ble ((b ++ a).length + 3) 4611686018427387904)
(.br (Nat.ble (((b ++ a) ++ [32,61,32]).length + c.length) 4611686018427387904)
(.br (Nat.ble ((((b ++ a) ++ [32,61,32]) ++ c).length + 2) 4611686018427387904)
(.run 0 qH0 (zk8 d e ((((b ++ a) ++ [32,61,32]) ++ c) ++ [32,59]) l g h (w64 (i + 1)))) .none) .none) .none) .none) := lM 4
end
section
open Go Go.Vai
attribute [local irreducible] goTo zao mkS
variable {C : Nat→Oracle} (hC : Ext C)
include hC
set_option maxHeartbeats 4000000 in
theorem zw6 (tg : Bool) (l : List Int) (hl : l.length ≤ 1000000) (t : Int) (ht : 0 ≤ t∧t ≤ 10) (A : Nat) (hA : A ≤ 1000000000) (Q : Out→Prop)
  (hout : ∀ (a : Int) (s : List UInt8),s.length ≤ A + 28070002→Was (RL C 18 Q0t (mkS 151 [(0,.val (.vs 1 tg (ints l)) .no),(3,.val (.str s) .no),(4,.val (.int .i64 a) .no),(5,.val (.int .i64 (t + 1)) .no)] [] Hp.none 0)) Q)
  (mem : Int) (hm7 : mem ≤ 7) : ∀ (m : Nat) (i a : Int) (s : List UInt8),(8 - i).toNat = m→0 ≤ i→i ≤ 7→s.length ≤ A + i.toNat * 4010000 →
  Was (RL C 18 Q4r (mkS 151 [(0,.val (.vs 1 tg (ints l)) .no),(3,.val (.str s) .no),(4,.val (.int .i64 a) .no),(5,.val (.int .i64 t) .no),(6,.val (.int .i64 mem) .no),(7,.val (.int .i64 i) .no)] [] Hp.none 0)) Q:=by
 intro m
 induction m with
 | zero=>intro i a s hm h0 h4; omega
 | succ m IH =>
  intro i a s hm h0 h4 hs;have w1 : w64 (t + 1) = t + 1 := zb1 (by omega) (by omega);have w3 : w64 (i + 1) = i + 1 := zb1 (by omega) (by omega);refine exW (fun o=>p18_9) ?_;simp only [Tr.val,za3,AV.pure,za0,za1,w1,w3]
  repeat' (first
   | refine .bL (by first | omega | (simp only [lnA,lnC,lnN,List.length_drop,List.length_take]; omega)) ?_
   | refine .bT (by omega) ?_
   | refine .bF (by omega) ?_
   | (refine .call (w34 hC _ _ (by omega) _) ?_; rintro o ⟨x,e⟩; simp only [e,AV.pure,za0]; clear e)
   | (refine .call (w37 hC _) ?_; rintro o ⟨s,e,h1⟩; simp only [e,AV.pure,za0]; clear e)
   | (refine .call (w22 hC _ _ (by omega) (by omega)) ?_; rintro o ⟨x,e,h1,h2⟩; simp only [e,AV.pure,za0]; clear e)
   | (refine .call (w39 hC _) ?_; rintro o ⟨s,e,h1⟩; simp only [e,AV.pure,za0]; clear e)
   | (refine .call (w38 hC _ _ (by omega) _) ?_; rintro o ⟨s,x,e,h1⟩; simp only [e,AV.pure,za3,za0]; clear e)
   | (refine .call (w40 hC _ _ (by omega) _ _ (by omega) (by omega)) ?_; rintro o ⟨s,x,e,h1⟩; simp only [e,AV.pure,za3,za0]; clear e)
   | (refine exW (fun o=>p18_10) ?_; simp only [Tr.val,za3,AV.pure,za0,AV.cells,za1,za4,bnT,bnF,w1,w3])
   | (refine exW (fun o=>p18_11) ?_; simp only [Tr.val,za3,AV.pure,za0,AV.cells,za1,za4,bnT,bnF,w1,w3])
   | (refine exW (fun o=>p18_12) ?_; simp only [Tr.val,za3,AV.pure,za0,AV.cells,za1,za4,bnT,bnF,w1,w3])
   | (refine exW (fun o=>p18_13) ?_; simp only [Tr.val,za3,AV.pure,za0,AV.cells,za1,za4,bnT,bnF,w1,w3])
   | (refine exW (fun o=>p18_14) ?_; simp only [Tr.val,za3,AV.pure,za0,AV.cells,za1,za4,bnT,bnF,w1,w3])
   | (refine exW (fun o=>p18_15) ?_; simp only [Tr.val,za3,AV.pure,za0,AV.cells,za1,za4,bnT,bnF,w1,w3])
   | (refine exW (fun o=>p18_16) ?_; simp only [Tr.val,za3,AV.pure,za0,AV.cells,za1,za4,bnT,bnF,w1,w3])
   | (refine exW (fun o=>p18_17) ?_; simp only [Tr.val,za3,AV.pure,za0,AV.cells,za1,za4,bnT,bnF,w1,w3])
   | (refine exW (fun o=>p18_18) ?_; simp only [Tr.val,za3,AV.pure,za0,AV.cells,za1,za4,bnT,bnF,w1,w3])
   | (refine exW (fun o=>p18_19) ?_; simp only [Tr.val,za3,AV.pure,za0,AV.cells,za1,za4,bnT,bnF,w1,w3])
   | (refine exW (fun o=>p18_20) ?_; simp only [Tr.val,za3,AV.pure,za0,AV.cells,za1,za4,bnT,bnF,w1,w3])
   | (refine exW (fun o=>p18_21) ?_; simp only [Tr.val,za3,AV.pure,za0,AV.cells,za1,za4,bnT,bnF,w1,w3])
   | (refine exW (fun o=>p18_22) ?_; simp only [Tr.val,za3,AV.pure,za0,AV.cells,za1,za4,bnT,bnF,w1,w3])
   | (refine exW (fun o=>p18_23) ?_; simp only [Tr.val,za3,AV.pure,za0,AV.cells,za1,za4,bnT,bnF,w1,w3])
   | (refine exW (fun o=>p18_24) ?_; simp only [Tr.val,za3,AV.pure,za0,AV.cells,za1,za4,bnT,bnF,w1,w3])
   | (refine exW (fun o=>p18_25) ?_; simp only [Tr.val,za3,AV.pure,za0,AV.cells,za1,za4,bnT,bnF,w1,w3])
   | (refine .nth (B := 20) rfl (by simp only [lnC,lnN]; omega) fun s hs=>?_; simp only [AV.cells])
   | exact .mk ⟨_,rfl,by first | omega | (simp only [lnA,lnC,lnN,List.length_drop,List.length_take]; omega)⟩
   | refine .dec (fun h=>?_) (fun h=>?_)
   | refine .both (fun h=>?_) (fun h=>?_))
  all_goals first
   | exact hout _ _ (by simp only [lnA,lnC,lnN]; omega)
   | exact IH _ _ _ (by omega) (by omega) (by omega) (by first | omega | (simp only [lnA,lnC,lnN]; omega))
set_option maxHeartbeats 4000000 in
theorem zvh (tg : Bool) (l : List Int) (hl : l.length ≤ 1000000) : ∀ (m : Nat) (t a : Int) (s : List UInt8),(3 - t).toNat = m→0 ≤ t→t ≤ 2→s.length ≤ t.toNat * 30000000 →
  Was (RL C 18 Q0t (mkS 151 [(0,.val (.vs 1 tg (ints l)) .no),(3,.val (.str s) .no),(4,.val (.int .i64 a) .no),(5,.val (.int .i64 t) .no)] [] Hp.none 0)) (QS 100000000):=by
 intro m
 induction m with
 | zero=>intro i a s hm h0 h4; omega
 | succ m IH =>
  intro t a z hm h0 h4 hs;refine exW (fun o=>p18_1) ?_;simp only [Tr.val,za3,AV.pure,za0,za1]
  repeat' (first
   | refine .bL (by first | omega | (simp only [lnA,lnC,lnN,List.length_drop,List.length_take]; omega)) ?_
   | refine .bT (by omega) ?_
   | refine .bF (by omega) ?_
   | (refine .call (w34 hC _ _ (by omega) _) ?_; rintro o ⟨x,e⟩; simp only [e,AV.pure,za0]; clear e)
   | (refine .call (w22 hC _ _ (by omega) (by omega)) ?_; rintro o ⟨x,e,h1,h2⟩; simp only [e,AV.pure,za0]; clear e)
   | (refine exW (fun o=>p18_2) ?_; simp only [Tr.val,za3,AV.pure,za0,AV.cells,za1,za4,bnT,bnF])
   | (refine exW (fun o=>p18_3) ?_; simp only [Tr.val,za3,AV.pure,za0,AV.cells,za1,za4,bnT,bnF])
   | (refine exW (fun o=>p18_4) ?_; simp only [Tr.val,za3,AV.pure,za0,AV.cells,za1,za4,bnT,bnF])
   | (refine exW (fun o=>p18_5) ?_; simp only [Tr.val,za3,AV.pure,za0,AV.cells,za1,za4,bnT,bnF])
   | (refine exW (fun o=>p18_6) ?_; simp only [Tr.val,za3,AV.pure,za0,AV.cells,za1,za4,bnT,bnF])
   | (refine exW (fun o=>p18_7) ?_; simp only [Tr.val,za3,AV.pure,za0,AV.cells,za1,za4,bnT,bnF])
   | (refine exW (fun o=>p18_8) ?_; simp only [Tr.val,za3,AV.pure,za0,AV.cells,za1,za4,bnT,bnF])
   | (refine .nth (B := 20) rfl (by simp only [lnC,lnN]; omega) fun s hs=>?_; simp only [AV.cells])
   | exact .mk ⟨_,rfl,by first | omega | (simp only [lnA,lnC,lnN,List.length_drop,List.length_take]; omega)⟩
   | refine .dec (fun h=>?_) (fun h=>?_)
   | refine .both (fun h=>?_) (fun h=>?_))
  all_goals exact zw6 hC tg l hl t (by omega) (z.length + 60) (by omega) _ (fun a' s' hs'=>IH _ _ _ (by omega) (by omega) (by omega) (by omega)) _ (by rw [zb1 (by omega) (by omega)]; omega) _ 0 _ _ rfl (by decide) (by decide) (by simp only [lnA,lnC,lnN]; omega)
theorem w18 (tg : Bool) (l : List Int) (hl : l.length ≤ 1000000) : Was (calL C 18 [.vs 1 tg (ints l)] Hp.none 0) (QS 100000000):=by
 refine exW (fun o=>p18_c hC) (exW (fun o=>p18_0) ?_);exact zvh hC tg l hl _ 0 0 [] rfl (by decide) (by decide) (by simp)
end
end Go.Proofs.YtfdklpkfpmkgeaaGreatDoor
