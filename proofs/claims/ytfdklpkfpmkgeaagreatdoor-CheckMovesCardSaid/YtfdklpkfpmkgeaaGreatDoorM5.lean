/- The whole region. -/
import Derived.Scope
import Derived.Test.YtfdklpkfpmkgeaaGreatDoorProg
import Derived.KernelRfl
import Derived.Below
import Derived.Test.YtfdklpkfpmkgeaaGreatDoorM0
import Derived.Test.YtfdklpkfpmkgeaaGreatDoorM4
set_option linter.unusedSimpArgs false
set_option linter.unusedVariables false
set_option linter.unusedSectionVars false
set_option linter.unnecessarySimpa false
namespace Go.Vai
section
section
variable {g0 : G} {w0 : World} {Ex : Nat→Prop} {g g' : G} {a : Act} {w w' : World}
variable {eb ebj ebi : Bool} {P : Program} {A : List (Nat × Ann)} {an : Ann} {isRes : Nat→Bool} {cal : Oracle} {S S' T : St} {R : Type} {r : R} {all : Array Oper} {D : List Nat}
theorem zf0 : ∀ {l m : List Nat},zly l m = true→∀ a ∈ l,a ∉ m
 | [],_,_,a,ha=>by cases ha
 | b :: l,m,h,a,ha=>by
  unfold zly at h;split at h
  ·cases h
  ·rename_i hb;rcases List.mem_cons.1 ha with e | ha
   ·subst e;intro hm;rw [zbj.2 hm] at hb;cases hb
   ·exact zf0 h a ha
theorem zjf : ∀ (T : List Nat) (m i : Nat),nthN (T ++ [m]) i = if i = T.length then m else nthN T i
 | [],m,0=>rfl
 | [],m,i + 1=>by simp [nthN]
 | x :: T,m,0=>by simp [nthN]
 | x :: T,m,i + 1=>by
  simp only [List.cons_append,nthN,lnC,Nat.add_right_cancel_iff];exact zjf T m i
theorem zfg : ∀ (os : List Oper) (T : List Nat),(zb9 os T).length = T.length + os.length
 | [],T=>by simp [zb9]
 | o :: os,T=>by rw [zb9,zfg os]; simp; omega
theorem zjn : ∀ (os : List Oper) (T : List Nat) (i : Nat),i < T.length→nthN (zb9 os T) i = nthN T i
 | [],T,i,_=>rfl
 | o :: os,T,i,h=>by
  rw [zb9,zjn os _ i (by simp; omega),zjf,if_neg (by omega)]
theorem zgf (T : List Nat) {j : Nat} : ∀ {l : List Edge},(zmt T l).testBit j = true→∃ e ∈ l,Region.binds .any e = true∧(e.on = j ∨ (nthN T e.on).testBit j = true)
 | [],h=>by simp [zmt] at h
 | e :: l,h=>by
  unfold zmt at h;split at h
  ·rename_i hb;have h' : ((2 ^ e.on ||| nthN T e.on) ||| zmt T l).testBit j = true := h;rw [Nat.testBit_or,Nat.testBit_or,Bool.or_eq_true,Bool.or_eq_true] at h';rcases h' with (h1 | h1) | h1
   ·rw [Nat.testBit_two_pow] at h1;exact ⟨e,mcS,hb,.inl (by simpa using h1)⟩
   ·exact ⟨e,mcS,hb,.inr h1⟩
   ·obtain ⟨e',h2,h3⟩ := zgf T h1;exact ⟨e',mcM _ h2,h3⟩
  ·obtain ⟨e',h2,h3⟩ := zgf T h;exact ⟨e',mcM _ h2,h3⟩
theorem znz : ∀ (os : List Oper) (T : List Nat) (i : Nat) (o : Oper),os[i]? = some o→∃ U : List Nat,(∀ q,q < T.length + i→nthN U q = nthN (zb9 os T) q)∧nthN (zb9 os T) (T.length + i) = zmt U o.after.toList
 | [],_,_,_,h=>by simp at h
 | o' :: os,T,0,o,h=>by
  simp only [List.getElem?_cons_zero,Option.some.injEq] at h;subst h;refine ⟨T,fun q hq=>?_,?_⟩
  ·rw [zb9,zjn _ _ _ (by simp; omega),zjf,if_neg (by omega)]
  ·rw [zb9,zjn _ _ _ (by simp),zjf,if_pos (by omega)]
 | o' :: os,T,i + 1,o,h=>by
  simp only [List.getElem?_cons_succ] at h;obtain ⟨U,h1,h2⟩ := znz os (T ++ [zmt T o'.after.toList]) i o h;rw [lnA,List.length_singleton] at h1 h2;exact ⟨U,fun q hq=>by rw [zb9]; exact h1 q (by omega),by rw [zb9,show T.length + (i + 1) = T.length + 1 + i by omega]; exact h2⟩
theorem ze7 : ∀ (os : List Oper) (n : Nat),zen n os = true→∀ i o,os[i]? = some o→∀ e ∈ o.after,Region.binds .any e = true→e.on < n + i
 | [],_,_,i,o,h,_,_,_=>by simp at h
 | o' :: os,n,hk,i,o,h,e,he,hbd=>by
  unfold zen at hk;rw [Bool.and_eq_true,List.all_eq_true] at hk;cases i with
  | zero =>
   simp only [List.getElem?_cons_zero,Option.some.injEq] at h;subst h;have := hk.1 e (Array.mem_toList_iff.2 he);rw [hbd] at this
   simpa [Nat.blt_eq] using this
  | succ i =>
   simp only [List.getElem?_cons_succ] at h;have := ze7 os (n + 1) hk.2 i o h e he hbd;omega
theorem bits_lt (he : zen 0 all.toList = true) : ∀ (i : Nat) (j : Nat),i < all.size→(nthN (zb9 all.toList []) i).testBit j = true→j < i:=by
 intro i
 induction i using Nat.strongRecOn with
 | _ i ih =>
  intro j hi hb;have ho : all.toList[i]? = some all[i] := by rw [Array.getElem?_toList,Array.getElem?_eq_getElem hi]
  obtain ⟨U,h1,h2⟩ := znz all.toList [] i _ ho;simp only [lnN,Nat.zero_add] at h1 h2;rw [h2] at hb;obtain ⟨e,hm,hbind,h3⟩ := zgf U hb;have hlt : e.on < i:=by
   have := ze7 all.toList 0 he i _ ho e (Array.mem_toList_iff.1 hm) hbind;omega
  rcases h3 with h3 | h3
  ·omega
  ·rw [h1 _ hlt] at h3;have := ih e.on hlt j (by omega) h3;omega
def Closed (all : Array Oper) (listed : Array Bool) : Prop := ∀ i (o : Oper),all[i]? = some o→listed.getD i false = true→∀ e ∈ o.after,Region.binds .any e = true→listed.getD e.on false = true
theorem zq0 (he : zen 0 all.toList = true) {listed : Array Bool} (hc : Closed all listed) : ∀ (i : Nat),i < all.size→(∀ (o : Oper),all[i]? = some o→∀ e ∈ o.after,Region.binds .any e = true→listed.getD e.on false = true) →
  ∀ j,(nthN (zb9 all.toList []) i).testBit j = true→listed.getD j false = true:=by
 intro i
 induction i using Nat.strongRecOn with
 | _ i ih =>
  intro hi hall j hb;have ho' : all[i]? = some all[i] := Array.getElem?_eq_getElem hi;have ho : all.toList[i]? = some all[i] := by rw [Array.getElem?_toList]; exact ho'
  obtain ⟨U,h1,h2⟩ := znz all.toList [] i _ ho;simp only [lnN,Nat.zero_add] at h1 h2;rw [h2] at hb;obtain ⟨e,hm,hbind,h3⟩ := zgf U hb;have hlt : e.on < i:=by
   have := ze7 all.toList 0 he i _ ho e (Array.mem_toList_iff.1 hm) hbind;omega
  have hl := hall _ ho' e (Array.mem_toList_iff.1 hm) hbind;rcases h3 with h3 | h3
  ·rw [← h3]; exact hl
  ·rw [h1 _ hlt] at h3;exact ih e.on hlt (by omega) (fun o ho2 e2 he2 hb2=>hc e.on o ho2 hl e2 he2 hb2) j h3
theorem zsh : ∀ (T : List Nat) (os : List Oper),T.length = os.length→∀ i o,os[i]? = some o→(zif A all T os)[i]? = some (oiOf A all (nthN T i) o)
 | [],[],_,i,o,h=>by simp at h
 | [],_ :: _,hl,_,_,_=>by simp at hl
 | _ :: _,[],hl,_,_,_=>by simp at hl
 | m :: T,o' :: os,hl,i,o,h=>by
  cases i with
  | zero =>
   simp only [List.getElem?_cons_zero,Option.some.injEq] at h;subst h;rfl
  | succ i =>
   simp only [List.getElem?_cons_succ] at h;simp only [zif,List.getElem?_cons_succ,nthN];exact zsh T os (by simpa using hl) i o h
theorem ziq : ∀ (T : List Nat) (os : List Oper),T.length = os.length→(zif A all T os).length = os.length
 | [],[],_=>rfl
 | [],_ :: _,hl=>by simp at hl
 | _ :: _,[],hl=>by simp at hl
 | m :: T,o' :: os,hl=>by simp only [zif,lnC,ziq T os (by simpa using hl)]
theorem zlx {y : OI} : ∀ (l : List OI) (n : Nat),exAll y n l = true→∀ j x,l[j]? = some x→y.pre.testBit (n + j) = true ∨ zsx x y = true
 | [],_,_,j,x,h=>by simp at h
 | z :: l,n,hk,j,x,h=>by
  unfold exAll at hk;rw [Bool.and_eq_true,Bool.or_eq_true] at hk;cases j with
  | zero =>
   simp only [List.getElem?_cons_zero,Option.some.injEq] at h;subst h;exact hk.1
  | succ j =>
   simp only [List.getElem?_cons_succ] at h;have := zlx l (n + 1) hk.2 j x h
   rwa [show n + 1 + j = n + (j + 1) by omega] at this
theorem zg4 : ∀ (l bef : List OI),zr1 bef l = true→∀ i y,l[i]? = some y→(zbb y.cl = true→y.ds ≠ [])∧∀ j x,j < bef.length + i→(bef ++ l)[j]? = some x→y.pre.testBit j = true ∨ zsx x y = true
 | [],_,_,i,y,h=>by simp at h
 | z :: l,bef,hk,i,y,h=>by
  unfold zr1 at hk;rw [Bool.and_eq_true,Bool.and_eq_true] at hk;obtain ⟨⟨h1,h2⟩,h3⟩ := hk;cases i with
  | zero =>
   simp only [List.getElem?_cons_zero,Option.some.injEq] at h;subst h;refine ⟨fun hv he=>(by rw [he] at h2; rw [hv] at h2; cases h2),fun j x hj hx=>?_⟩;rw [List.getElem?_append_left (by omega)] at hx;have := zlx bef 0 h1 j x hx
   rwa [Nat.zero_add] at this
  | succ i =>
   simp only [List.getElem?_cons_succ] at h;obtain ⟨h4,h5⟩ := zg4 l (bef ++ [z]) h3 i y h;refine ⟨h4,fun j x hj hx=>h5 j x (by simp; omega) ?_⟩;rw [List.append_assoc];exact hx
theorem zf7 {ois : List OI} {i : Nat} {x : OI} : ∀ (l : List OI) (n : Nat),zfh ois i x n l = true→∀ j y,l[j]? = some y→zbb y.cl = true ∨ n + j = i ∨ x.pre.testBit (n + j) = true ∨ y.pre.testBit i = true
 | [],_,_,j,y,h=>by simp at h
 | z :: l,n,hk,j,y,h=>by
  unfold zfh at hk;rw [Bool.and_eq_true,Bool.or_eq_true,Bool.or_eq_true,Bool.or_eq_true] at hk;cases j with
  | zero =>
   simp only [List.getElem?_cons_zero,Option.some.injEq] at h;subst h;rcases hk.1 with h1 | h1 | h1 | h1
   ·exact .inl h1
   ·exact .inr (.inl (beqN h1))
   ·exact .inr (.inr (.inl h1))
   ·exact .inr (.inr (.inr h1))
  | succ j =>
   simp only [List.getElem?_cons_succ] at h;have := zf7 l (n + 1) hk.2 j y h
   rwa [show n + 1 + j = n + (j + 1) by omega] at this
theorem zfz {i : Nat} {x : OI} : ∀ (l : List OI) (n : Nat),fhOf i x n l = true→∀ j y,l[j]? = some y→zbb y.cl = true ∨ y.nh = true ∨ n + j = i ∨ x.pre.testBit (n + j) = true ∨ y.pre.testBit i = true
 | [],_,_,j,y,h=>by simp at h
 | z :: l,n,hk,j,y,h=>by
  unfold fhOf at hk;rw [Bool.and_eq_true,Bool.or_eq_true,Bool.or_eq_true,Bool.or_eq_true,Bool.or_eq_true] at hk;cases j with
  | zero =>
   simp only [List.getElem?_cons_zero,Option.some.injEq] at h;subst h;rcases hk.1 with h1 | h1 | h1 | h1 | h1
   ·exact .inl h1
   ·exact .inr (.inl h1)
   ·exact .inr (.inr (.inl (beqN h1)))
   ·exact .inr (.inr (.inr (.inl h1)))
   ·exact .inr (.inr (.inr (.inr h1)))
  | succ j =>
   simp only [List.getElem?_cons_succ] at h;have := zfz l (n + 1) hk.2 j y h
   rwa [show n + 1 + j = n + (j + 1) by omega] at this
theorem zkv {i : Nat} {x : OI} : ∀ (l : List OI) (n : Nat),flOf i x n l = true→∀ j y,l[j]? = some y→zbb y.cl = true ∨ y.kc = true ∨ n + j = i ∨ x.pre.testBit (n + j) = true ∨ y.pre.testBit i = true
 | [],_,_,j,y,h=>by simp at h
 | z :: l,n,hk,j,y,h=>by
  unfold flOf at hk;rw [Bool.and_eq_true,Bool.or_eq_true,Bool.or_eq_true,Bool.or_eq_true,Bool.or_eq_true] at hk;cases j with
  | zero =>
   simp only [List.getElem?_cons_zero,Option.some.injEq] at h;subst h;rcases hk.1 with h1 | h1 | h1 | h1 | h1
   ·exact .inl h1
   ·exact .inr (.inl h1)
   ·exact .inr (.inr (.inl (beqN h1)))
   ·exact .inr (.inr (.inr (.inl h1)))
   ·exact .inr (.inr (.inr (.inr h1)))
  | succ j =>
   simp only [List.getElem?_cons_succ] at h;have := zkv l (n + 1) hk.2 j y h
   rwa [show n + 1 + j = n + (j + 1) by omega] at this
theorem kc_cl {A : List (Nat × Ann)} {eb : Bool} {o : Oper} (h : kcOf A o = true) : clOf A eb o = 3:=by
 unfold kcOf at h;split at h
 ·rename_i c hop;obtain ⟨callee,args,tys⟩ := c;simp only at h;split at h
  ·rename_i f;split at h
   ·simp only [clOf,hop,h]
   ·cases h
  ·cases h
 ·cases h
theorem zp6 {i : Nat} {x : OI} : ∀ (l : List OI) (n : Nat),hzOf i x n l = true→∀ j y,l[j]? = some y→zbb y.cl = false ∨ y.hr = false ∨ n + j = i ∨ x.pre.testBit (n + j) = true ∨ y.pre.testBit i = true
 | [],_,_,j,y,h=>by simp at h
 | z :: l,n,hk,j,y,h=>by
  unfold hzOf at hk;rw [Bool.and_eq_true,Bool.or_eq_true,Bool.or_eq_true,Bool.or_eq_true,Bool.or_eq_true] at hk;cases j with
  | zero =>
   simp only [List.getElem?_cons_zero,Option.some.injEq] at h;subst h;rcases hk.1 with h1 | h1 | h1 | h1 | h1
   ·exact .inl (by simpa using h1)
   ·exact .inr (.inl (by simpa using h1))
   ·exact .inr (.inr (.inl (beqN h1)))
   ·exact .inr (.inr (.inr (.inl h1)))
   ·exact .inr (.inr (.inr (.inr h1)))
  | succ j =>
   simp only [List.getElem?_cons_succ] at h;have := zp6 l (n + 1) hk.2 j y h
   rwa [show n + 1 + j = n + (j + 1) by omega] at this
theorem zpq {i : Nat} {x : OI} : ∀ (l : List OI) (n : Nat) (j : Nat) (y : OI),l[j]? = some y→n + j ≠ i→x.pre.testBit (n + j) = false→y.pre.testBit i = false→∀ b ∈ y.wb,b ∈ wsOf i x n l
 | [],_,j,y,h=>by simp at h
 | z :: l,n,j,y,h=>by
  intro h1 h2 h3 b hb;cases j with
  | zero =>
   simp only [List.getElem?_cons_zero,Option.some.injEq] at h;subst h;unfold wsOf;split
   ·rename_i hz; rw [hz] at hb; cases hb
   ·rename_i c cs hz;have hne : Nat.beq n i = false:=by
     cases hb : Nat.beq n i with
     | false=>rfl
     | true=>exact absurd (beqN hb) h1
    rw [Nat.add_zero] at h2;rw [hne,h2,h3];show b ∈ (c :: cs) ++ wsOf i x (n + 1) l;rw [hz] at hb;exact List.mem_append_left _ hb
  | succ j =>
   simp only [List.getElem?_cons_succ] at h;have hm := zpq l (n + 1) j y h (by omega) (by rwa [show n + 1 + j = n + (j + 1) by omega]) h3 b hb;unfold wsOf;split
   ·exact hm
   ·split
    ·exact hm
    ·exact List.mem_append_right _ hm
theorem zej {x : OI} : ∀ {l : List OI},x ∈ l→zbb x.cl = true→∀ d ∈ x.ds,d ∈ zav l
 | [],h,_,_,_=>by cases h
 | z :: l,h,hv,d,hd=>by
  unfold zav;rcases List.mem_cons.1 h with e | h
  ·subst e;rw [hv];exact List.mem_append_left _ hd
  ·split
   ·exact List.mem_append_right _ (zej h hv d hd)
   ·exact zej h hv d hd
noncomputable def runL (P : Program) (A : List (Nat × Ann)) (an : Ann) (isRes : Nat→Bool) (cal : Oracle) (all : Array Oper) (D : List Nat) (ois : List OI) : List Nat→St→(St→Option R)→Option R
 | [],S,k=>k S
 | i :: is,S,k=>match ois[i]?,all[i]? with
  | some x,some o=>zbd P A an isRes cal all.toList D i (fxOf ois i x) x o S fun S'=>runL P A an isRes cal all D ois is S' k
  | _,_=>none
theorem zkc {ois : List OI} {k : St→Option R} : ∀ (n i : Nat) (S : St),ois.length = all.size→n + i = all.size →
  zpk P A an isRes cal all.toList D ois i (ois.drop i) (all.toList.drop i) S k = runL P A an isRes cal all D ois (List.range' i n) S k
 | 0,i,S,hl,hi=>by
  rw [List.drop_eq_nil_of_le (by omega),List.drop_eq_nil_of_le (by rw [Array.length_toList]; omega)];rfl
 | n + 1,i,S,hl,hi=>by
  have h1 : i < ois.length := by omega
  have h2 : i < all.toList.length := by rw [Array.length_toList]; omega
  rw [List.drop_eq_getElem_cons h1,List.drop_eq_getElem_cons h2,List.range'_succ];have h3 : ois[i]? = some ois[i] := List.getElem?_eq_getElem h1;have h4 : all[i]? = some all.toList[i] := by rw [← Array.getElem?_toList]; exact List.getElem?_eq_getElem h2
  simp only [zpk,runL,h3,h4]
  congr 1
  funext S'
  exact zkc n (i + 1) S' hl (by omega)
theorem zt6 {o : Oper} {i : Nat} {fz : Fx} {x : OI} (hds : ∀ q,q ∈ x.ds→o.dst = some q) (hx : x.cl = clOf A eb o) (hlt : x.cl < 5 ∨ x.cl = 6) (hl : ∀ t,Operand.tmp t ∈ o.op.operands→t ∈ x.lk) (hg : ∀ j want d,o.guard = some (j,want)→zdd all.toList j = some d→d ∈ x.lk)
  {F F' : St→Option R} (hF : ∀ T,F T = some r→F' T = some r) (h : zbd P A an isRes cal all.toList D i fz x o S F = some r) : zbd P A an isRes cal all.toList D i fz x o S F' = some r:=by
 have one : (∀ (R : Type) (k : St→Option R),zbd P A an isRes cal all.toList D i fz x o S k = none) ∨ ∃ T,∀ (R : Type) (k : St→Option R),zbd P A an isRes cal all.toList D i fz x o S k = k T:=by
  by_cases hv : zbb x.cl = true
  ·rcases zpu (P := P) (an := an) (isRes := isRes) (cal := cal) (all := all.toList) (D := D) (i := i) (fz := fz) st_or hds hx hl hg hv (.refl _ _ S x.lk) with h | ⟨s,h,_,_⟩
   ·exact .inl h
   ·exact .inr ⟨_,h⟩
  ·have hvf : zbb x.cl = false := by simpa using hv
   by_cases h6 : x.cl = 6
   ·simp only [ze6 hvf,zcf];cases gres all.toList o S with
    | none=>exact .inl fun R k=>rfl
    | some b =>
     cases b with
     | false=>exact .inr ⟨_,fun R k=>rfl⟩
     | true =>
      simp only;rcases zer (P := P) (an := an) (isRes := isRes) (cal := cal) (D := D) (i := i) (fz := fz) h6 (hx ▸ h6) with hn | ⟨q,z,fr,_,hs⟩
      ·exact .inl fun R k=>hn S R k
      ·simp only [hs];cases getM S.M q with
       | some _=>exact .inl fun R k=>rfl
       | none =>
        cases Nat.blt q S.sl.length with
        | false=>exact .inl fun R k=>rfl
        | true=>exact .inr ⟨_,fun R k=>rfl⟩
   have hc : x.cl = 3 ∨ x.cl = 4:=by
    have : ¬ x.cl < 3 := fun h=>hv (by simpa [zbb,Nat.blt_eq] using h);omega
   have hfresh : ∃ d,d ∉ x.lk∧o.dst ≠ some d∧∀ t ∈ x.lk,∀ v q,S.slot t = .val v (.lS q)→q ≠ d:=by
    have ub : ∀ l : List Nat,∃ m,∀ t ∈ l,t < m:=by
     intro l
     induction l with
     | nil=>exact ⟨0,fun t ht=>by cases ht⟩
     | cons y l ih =>
      obtain ⟨m,hm⟩ := ih;refine ⟨max m (y + 1),fun t ht=>?_⟩;rcases List.mem_cons.1 ht with e | ht
      ·subst e; omega
      ·have := hm t ht; omega
    obtain ⟨m,hm⟩ := ub (x.lk ++ (match o.dst with
     | some q=>[q]
     | none=>[]) ++ x.lk.map fun t=>match S.slot t with
      | .val _ (.lS q)=>q
      | _=>0)
    refine ⟨m,fun h=>?_,fun h=>?_,fun t ht v q hs e=>?_⟩
    ·have := hm m (by simp [h]); omega
    ·have := hm m (by simp [h]); omega
    ·have := hm q (List.mem_append_right _ (List.mem_map.2 ⟨t,ht,by rw [hs]⟩));omega
   obtain ⟨d,hd,hdst,hq⟩ := hfresh;have hdo : Operand.tmp d ∉ o.op.operands := fun hh=>hd (hl d hh);simp only [ze6 hvf,zcf];cases gres all.toList o S with
   | none=>exact .inl fun R k=>rfl
   | some b =>
    cases b with
    | false=>exact .inr ⟨_,fun R k=>rfl⟩
    | true =>
     simp only;unfold dop;rcases hc with hc | hc
     ·rw [hc];simp only;cases ze9 S D x.lk with
      | false=>exact .inl fun R k=>rfl
      | true =>
       rcases frameC (P := P) (an := an) (isRes := isRes) (cal := cal) (.inl (hx ▸ hc)) (⟨rfl,rfl,rfl,rfl,rfl,fun _ _=>rfl⟩ : Off d S S) hdo hdst (fun _ t v q ht hs=>hq t (hl t ht) v q hs) with h | ⟨T,_,h,_,_⟩
       ·exact .inl fun R k=>h R _
       ·exact .inr ⟨T,fun R k=>h R k⟩
     ·exact absurd (hx ▸ hc) cl_ne4
 rcases one with hn | ⟨T,hT⟩
 ·rw [hn] at h; cases h
 ·rw [hT] at h ⊢;exact hF T h
end
end
section
section
variable {g0 : G} {w0 : World} {Ex : Nat→Prop} {g g' : G} {a : Act} {w w' : World}
variable {eb ebj ebi : Bool} {P : Program} {A : List (Nat × Ann)} {an : Ann} {isRes : Nat→Bool} {cal : Oracle} {S S' T : St} {R : Type} {r : R} {all : Array Oper}
abbrev oisA (A : List (Nat × Ann)) (all : Array Oper) : List OI := zif A all (zb9 all.toList []) all.toList
theorem zoj {i : Nat} {o : Oper} (h : all[i]? = some o) : (oisA A all)[i]? = some (oiOf A all (nthN (zb9 all.toList []) i) o) :=
 zsh _ _ (by rw [zfg]; simp) i o (by rw [Array.getElem?_toList]; exact h)
theorem ois_len : (oisA A all).length = all.size:=by
 rw [oisA,ziq _ _ (by rw [zfg]; simp),Array.length_toList]
theorem zr2 {o : Oper} {m : Nat} : ∀ t,Operand.tmp t ∈ o.op.operands→t ∈ (oiOf A all m o).lk := fun _ h=>look_mem h
theorem zmg {o : Oper} {m : Nat} : ∀ j want d,o.guard = some (j,want)→zdd all.toList j = some d→d ∈ (oiOf A all m o).lk := fun j want d hg hd=>by
 rw [zku] at hd;show d ∈ o.looksAt all;unfold Oper.looksAt;rw [hg];simp only [hd];exact List.mem_append_right _ (by simp)
theorem oi_ds {o : Oper} {m d : Nat} (h : o.dst = some d) : d ∈ (oiOf A all m o).ds:=by
 show d ∈ (match o.dst with
  | some d=>[d]
  | none=>[])
 rw [h]; simp
theorem zu4 {o : Oper} {m : Nat} : ∀ q,q ∈ (oiOf A all m o).ds→o.dst = some q := fun q h=>by
 have h' : q ∈ (match o.dst with
  | some d=>[d]
  | none=>[]) := h
 cases hd : o.dst with
 | none=>rw [hd] at h'; cases h'
 | some d=>rw [hd] at h'; rw [List.mem_singleton.1 h']
theorem exch (he : zen 0 all.toList = true) (hd : zr1 [] (oisA A all) = true) {j i : Nat} {oj oi : Oper} (hj : all[j]? = some oj) (hi : all[i]? = some oi) (hji : j < i) (hun : (nthN (zb9 all.toList []) i).testBit j = false) {K : St→Option R}
    (h : zbd P A an isRes cal all.toList (zav (oisA A all)) j (fxOf (oisA A all) j (oiOf A all (nthN (zb9 all.toList []) j) oj)) (oiOf A all (nthN (zb9 all.toList []) j) oj) oj T
      (fun X=>zbd P A an isRes cal all.toList (zav (oisA A all)) i (fxOf (oisA A all) i (oiOf A all (nthN (zb9 all.toList []) i) oi)) (oiOf A all (nthN (zb9 all.toList []) i) oi) oi X K) = some r) :
    zbd P A an isRes cal all.toList (zav (oisA A all)) i (fxOf (oisA A all) i (oiOf A all (nthN (zb9 all.toList []) i) oi)) (oiOf A all (nthN (zb9 all.toList []) i) oi) oi T
      (fun X=>zbd P A an isRes cal all.toList (zav (oisA A all)) j (fxOf (oisA A all) j (oiOf A all (nthN (zb9 all.toList []) j) oj)) (oiOf A all (nthN (zb9 all.toList []) j) oj) oj X K) = some r:=by
  have xj := zoj (A := A) hj;have xi := zoj (A := A) hi;have his : i < all.size := (Array.getElem?_eq_some_iff.1 hi).1;have hjs : j < all.size := (Array.getElem?_eq_some_iff.1 hj).1;have hun' : (nthN (zb9 all.toList []) j).testBit i = false:=by
    cases hb : (nthN (zb9 all.toList []) j).testBit i with
    | false=>rfl
    | true=>have := bits_lt he j i hjs hb; omega
  obtain ⟨hvi,hex⟩ := zg4 _ [] hd i _ xi;obtain ⟨hvj,_⟩ := zg4 _ [] hd j _ xj;have hm : zsx (oiOf A all (nthN (zb9 all.toList []) j) oj) (oiOf A all (nthN (zb9 all.toList []) i) oi) = true:=by
    rcases hex j _ (by simpa using hji) (by simpa using xj) with h | h
    · have : (nthN (zb9 all.toList []) i).testBit j = true := h;rw [hun] at this; cases this
    · exact h
  generalize hxj : oiOf A all (nthN (zb9 all.toList []) j) oj = yj at *;generalize hxi : oiOf A all (nthN (zb9 all.toList []) i) oi = yi at *;have cj : yj.cl = clOf A (eArg A all.toList oj) oj := by rw [← hxj]; rfl
  have ci : yi.cl = clOf A (eArg A all.toList oi) oi := by rw [← hxi]; rfl
  have lj : ∀ t,Operand.tmp t ∈ oj.op.operands→t ∈ yj.lk := by rw [← hxj]; exact zr2
  have li : ∀ t,Operand.tmp t ∈ oi.op.operands→t ∈ yi.lk := by rw [← hxi]; exact zr2
  have gj : ∀ q want d,oj.guard = some (q,want)→zdd all.toList q = some d→d ∈ yj.lk := by rw [← hxj]; exact zmg
  have gi : ∀ q want d,oi.guard = some (q,want)→zdd all.toList q = some d→d ∈ yi.lk := by rw [← hxi]; exact zmg
  have hdsj : ∀ q,q ∈ yj.ds→oj.dst = some q := by rw [← hxj]; exact zu4
  have hdsi : ∀ q,q ∈ yi.ds→oi.dst = some q := by rw [← hxi]; exact zu4
  have nhj : yj.nh = nhOf A oj := by rw [← hxj]; rfl
  have nhi : yi.nh = nhOf A oi := by rw [← hxi]; rfl
  have dj : ∀ q,oj.dst = some q→q ∈ yj.ds := fun q hq=>by rw [← hxj]; exact oi_ds hq
  have di : ∀ q,oi.dst = some q→q ∈ yi.ds := fun q hq=>by rw [← hxi]; exact oi_ds hq
  have pj : yj.pre = nthN (zb9 all.toList []) j := by rw [← hxj]; rfl
  have pi : yi.pre = nthN (zb9 all.toList []) i := by rw [← hxi]; rfl
  unfold zsx at hm;rw [Bool.and_eq_true,Bool.and_eq_true,Bool.and_eq_true] at hm;obtain ⟨⟨m1,m2,m3⟩,m4⟩ := hm;have a1 : ∀ q,oj.dst = some q→q ∉ yi.lk := fun q hq=>zf0 m1 q (dj q hq);have a2 : ∀ q,oj.dst = some q→oi.dst ≠ some q := fun q hq hq2=>zf0 m2 q (dj q hq) (di q hq2);have a3 : ∀ q,oi.dst = some q→q ∉ yj.lk := fun q hq=>zf0 m3 q (di q hq);have sj : zbb yj.cl = true→∃ d,oj.dst = some d := fun hv=>by
    have := hvj hv;rw [← hxj] at this;cases hdd : oj.dst with
    | some d=>exact ⟨d,rfl⟩
    | none=>exact absurd (show (match oj.dst with
        | some d=>[d]
        | none=>[]) = ([] : List Nat) by rw [hdd]) this
  have si : zbb yi.cl = true→∃ d,oi.dst = some d := fun hv=>by
    have := hvi hv;rw [← hxi] at this;cases hdd : oi.dst with
    | some d=>exact ⟨d,rfl⟩
    | none=>exact absurd (show (match oi.dst with
        | some d=>[d]
        | none=>[]) = ([] : List Nat) by rw [hdd]) this
  have fj : zbb yi.cl = false→zfh (oisA A all) j yj 0 (oisA A all) = false := fun hv=>by
    cases hf : zfh (oisA A all) j yj 0 (oisA A all) with
    | false=>rfl
    | true =>
      rcases zf7 _ 0 hf i _ xi with h | h | h | h
      · rw [hv] at h; cases h
      · omega
      · rw [Nat.zero_add,pj,hun'] at h; cases h
      · rw [pi,hun] at h; cases h
  have fi : zbb yj.cl = false→zfh (oisA A all) i yi 0 (oisA A all) = false := fun hv=>by
    cases hf : zfh (oisA A all) i yi 0 (oisA A all) with
    | false=>rfl
    | true =>
      rcases zf7 _ 0 hf j _ xj with h | h | h | h
      · rw [hv] at h; cases h
      · omega
      · rw [Nat.zero_add,pi,hun] at h; cases h
      · rw [pj,hun'] at h; cases h
  have Dj : ∀ d,zbb yj.cl = true→oj.dst = some d→d ∈ zav (oisA A all) := fun d hv hq=>zej (List.mem_of_getElem? xj) hv d (dj d hq);have Di : ∀ d,zbb yi.cl = true→oi.dst = some d→d ∈ zav (oisA A all) := fun d hv hq=>zej (List.mem_of_getElem? xi) hv d (di d hq);cases hvj2 : zbb yj.cl with
  | true =>
    cases hvi2 : zbb yi.cl with
    | true =>
      exact exVV (F := fun S _ k=>zbd P A an isRes cal all.toList _ j _ yj oj S k) (G := fun S _ k=>zbd P A an isRes cal all.toList _ i _ yi oi S k) (zh5 st_or hdsj cj lj gj hvj2) (zh5 st_or hdsi ci li gi hvi2) a1 a2 a3 h
    | false =>
      rw [hvj2,hvi2] at m4;have hc : (yi.cl = 3 ∨ yi.cl = 4) ∨ (yi.cl = 6 ∨ yi.cl = 7):=by
        have h1 : yi.cl < 5 ∨ yi.cl = 6 ∨ yi.cl = 7:=by
          have := m4;simp only [Bool.or_eq_true,Nat.blt_eq] at this;exact this.imp id (Or.imp beqN beqN)
        have h2 : ¬ yi.cl < 3 := fun hh=>by
          have : zbb yi.cl = true := by simpa [zbb,Nat.blt_eq] using hh
          rw [hvi2] at this; cases this
        omega
      obtain ⟨d,hdd⟩ := sj hvj2;cases hfl : (fxOf (oisA A all) j yj).fl with
      | true =>
        have hf' : (yj.hr && flOf j yj 0 (oisA A all)) = true := hfl;rw [Bool.and_eq_true] at hf';have hkc : kcOf A oi = true:=by
          rcases zkv _ 0 hf'.2 i _ xi with h | h | h | h | h
          · rw [hvi2] at h; cases h
          · rw [← hxi] at h; exact h
          · omega
          · rw [Nat.zero_add,pj,hun'] at h; cases h
          · rw [pi,hun] at h; cases h
        have c3 : yi.cl = 3 := by rw [ci]; exact kc_cl hkc
        have hS : IsS (fun S _ k=>zbd P A an isRes cal all.toList (zav (oisA A all)) j (fxOf (oisA A all) j yj) yj oj S k) (fxOf (oisA A all) j yj).fh (some d) yj.lk:=by
          have := zoq (P := P) (an := an) (isRes := isRes) (cal := cal) (all := all) (D := zav (oisA A all)) (i := j) (fz := fxOf (oisA A all) j yj) (fj hvi2) hdsj cj lj gj hvj2;rw [hdd] at this;exact this
        have hK : IsK (fun S _ k=>zbd P A an isRes cal all.toList (zav (oisA A all)) i (fxOf (oisA A all) i yi) yi oi S k) d oi.dst := zph ci c3 hkc li gi (a1 d hdd) (a2 d hdd) (Dj d hvj2 hdd);have hm : (fxOf (oisA A all) j yj).fh = true→∀ S T,(∀ (R : Type) (k : St→Option R),zbd P A an isRes cal all.toList (zav (oisA A all)) i (fxOf (oisA A all) i yi) yi oi S k = k T)→zco S T:=by
          intro hf;have hf' : (yj.hr && fhOf j yj 0 (oisA A all)) = true := hf;rw [Bool.and_eq_true] at hf';have hnh : nhOf A oi = true:=by
            rcases zfz _ 0 hf'.2 i _ xi with h | h | h | h | h
            · rw [hvi2] at h; cases h
            · rw [← nhi]; exact h
            · omega
            · rw [Nat.zero_add,pj,hun'] at h; cases h
            · rw [pi,hun] at h; cases h
          exact zh6 ci (.inl c3) hnh
        exact exVS hS hK hm a3 h
      | false =>
      have hV : IsV (fun S _ k=>zbd P A an isRes cal all.toList (zav (oisA A all)) j (fxOf (oisA A all) j yj) yj oj S k) false (fxOf (oisA A all) j yj).fh (some d) yj.lk:=by
        have := zh5 (P := P) (an := an) (isRes := isRes) (cal := cal) (all := all) (D := zav (oisA A all)) (i := j) (fz := fxOf (oisA A all) j yj) (st := false) (fun _=>⟨fj hvi2,hfl⟩) hdsj cj lj gj hvj2;rw [hdd] at this;exact this
      rcases hc with hc | hc
      · have hC : IsC (fun S _ k=>zbd P A an isRes cal all.toList (zav (oisA A all)) i (fxOf (oisA A all) i yi) yi oi S k) d oi.dst := zo7 ci hc li gi (a1 d hdd) (a2 d hdd) (Dj d hvj2 hdd);have hm : (fxOf (oisA A all) j yj).fh = true→∀ S T,(∀ (R : Type) (k : St→Option R),zbd P A an isRes cal all.toList (zav (oisA A all)) i (fxOf (oisA A all) i yi) yi oi S k = k T)→zco S T:=by
          intro hf;have hf' : (yj.hr && fhOf j yj 0 (oisA A all)) = true := hf;rw [Bool.and_eq_true] at hf';have hnh : nhOf A oi = true:=by
            rcases zfz _ 0 hf'.2 i _ xi with h | h | h | h | h
            · rw [hvi2] at h; cases h
            · rw [← nhi]; exact h
            · omega
            · rw [Nat.zero_add,pj,hun'] at h; cases h
            · rw [pi,hun] at h; cases h
          exact zh6 ci hc hnh
        exact exVC hV hC hm a3 h
      · have hB : NoW (fun S _ k=>zbd P A an isRes cal all.toList (zav (oisA A all)) j (fxOf (oisA A all) j yj) yj oj S k) yi.wb d yj.lk :=
          zva hvj2 (fj hvi2) (fun e he=>zpq _ 0 i _ xi (by omega) (by rw [Nat.zero_add,pj]; exact hun') (by rw [pi]; exact hun) e he) (dj d hdd)
        have hW : IsW (fun S _ k=>zbd P A an isRes cal all.toList (zav (oisA A all)) i (fxOf (oisA A all) i yi) yi oi S k) (fxOf (oisA A all) i yi).hz yi.wb d oi.dst :=
          zua ci hc (fun h6 q hq=>by
            rw [← hxi] at h6 ⊢;have h6' : clOf A (eArg A all.toList oi) oi = 6 := h6;cases ho : oi.op with
            | alloc e=>show q ∈ wbOf all.toList oi; simp only [wbOf,ho,dsL,hq,List.mem_singleton]
            | move x=>simp only [clOf,ho] at h6'; split at h6' <;> cases h6'
            | extract _ _=>simp only [clOf,ho] at h6'; split at h6' <;> cases h6'
            | call c =>
              simp only [clOf,ho] at h6'
              repeat' split at h6'
              all_goals cases h6'
            | _=>simp [clOf,ho] at h6') li gi (a1 d hdd) (a2 d hdd)
        have hm : (fxOf (oisA A all) j yj).fh = true→(fxOf (oisA A all) i yi).hz = false:=by
          intro hf;have hf' : (yj.hr && fhOf j yj 0 (oisA A all)) = true := hf;rw [Bool.and_eq_true] at hf';cases hz : (fxOf (oisA A all) i yi).hz with
          | false=>rfl
          | true =>
            rcases zp6 _ 0 hz j _ xj with h | h | h | h | h
            · rw [hvj2] at h; cases h
            · rw [hf'.1] at h; cases h
            · omega
            · rw [Nat.zero_add,pi,hun] at h; cases h
            · rw [pj,hun'] at h; cases h
        exact exVW hV hB hW hm a3 h
  | false =>
    cases hvi2 : zbb yi.cl with
    | true =>
      rw [hvj2,hvi2] at m4;have hc : yj.cl = 3 ∨ yj.cl = 4:=by
        have h1 : yj.cl < 5 := by simpa [Nat.blt_eq] using m4
        have h2 : ¬ yj.cl < 3 := fun hh=>by
          have : zbb yj.cl = true := by simpa [zbb,Nat.blt_eq] using hh
          rw [hvj2] at this; cases this
        omega
      obtain ⟨d,hdd⟩ := si hvi2;cases hfl : (fxOf (oisA A all) i yi).fl with
      | true =>
        have hf' : (yi.hr && flOf i yi 0 (oisA A all)) = true := hfl;rw [Bool.and_eq_true] at hf';have hkc : kcOf A oj = true:=by
          rcases zkv _ 0 hf'.2 j _ xj with h | h | h | h | h
          · rw [hvj2] at h; cases h
          · rw [← hxj] at h; exact h
          · omega
          · rw [Nat.zero_add,pi,hun] at h; cases h
          · rw [pj,hun'] at h; cases h
        have c3 : yj.cl = 3 := by rw [cj]; exact kc_cl hkc
        have hS : IsS (fun S _ k=>zbd P A an isRes cal all.toList (zav (oisA A all)) i (fxOf (oisA A all) i yi) yi oi S k) (fxOf (oisA A all) i yi).fh (some d) yi.lk:=by
          have := zoq (P := P) (an := an) (isRes := isRes) (cal := cal) (all := all) (D := zav (oisA A all)) (i := i) (fz := fxOf (oisA A all) i yi) (fi hvj2) hdsi ci li gi hvi2;rw [hdd] at this;exact this
        have hK : IsK (fun S _ k=>zbd P A an isRes cal all.toList (zav (oisA A all)) j (fxOf (oisA A all) j yj) yj oj S k) d oj.dst := zph cj c3 hkc lj gj (a3 d hdd) (fun hq=>a2 d hq hdd) (Di d hvi2 hdd);have hm : (fxOf (oisA A all) i yi).fh = true→∀ S T,(∀ (R : Type) (k : St→Option R),zbd P A an isRes cal all.toList (zav (oisA A all)) j (fxOf (oisA A all) j yj) yj oj S k = k T)→zco S T:=by
          intro hf;have hf' : (yi.hr && fhOf i yi 0 (oisA A all)) = true := hf;rw [Bool.and_eq_true] at hf';have hnh : nhOf A oj = true:=by
            rcases zfz _ 0 hf'.2 j _ xj with h | h | h | h | h
            · rw [hvj2] at h; cases h
            · rw [← nhj]; exact h
            · omega
            · rw [Nat.zero_add,pi,hun] at h; cases h
            · rw [pj,hun'] at h; cases h
          exact zh6 cj (.inl c3) hnh
        exact exSV hS hK hm a1 h
      | false =>
      have hV : IsV (fun S _ k=>zbd P A an isRes cal all.toList (zav (oisA A all)) i (fxOf (oisA A all) i yi) yi oi S k) false (fxOf (oisA A all) i yi).fh (some d) yi.lk:=by
        have := zh5 (P := P) (an := an) (isRes := isRes) (cal := cal) (all := all) (D := zav (oisA A all)) (i := i) (fz := fxOf (oisA A all) i yi) (st := false) (fun _=>⟨fi hvj2,hfl⟩) hdsi ci li gi hvi2;rw [hdd] at this;exact this
      have hC : IsC (fun S _ k=>zbd P A an isRes cal all.toList (zav (oisA A all)) j (fxOf (oisA A all) j yj) yj oj S k) d oj.dst := zo7 cj hc lj gj (a3 d hdd) (fun hq=>a2 d hq hdd) (Di d hvi2 hdd);have hm : (fxOf (oisA A all) i yi).fh = true→∀ S T,(∀ (R : Type) (k : St→Option R),zbd P A an isRes cal all.toList (zav (oisA A all)) j (fxOf (oisA A all) j yj) yj oj S k = k T)→zco S T:=by
        intro hf;have hf' : (yi.hr && fhOf i yi 0 (oisA A all)) = true := hf;rw [Bool.and_eq_true] at hf';have hnh : nhOf A oj = true:=by
          rcases zfz _ 0 hf'.2 j _ xj with h | h | h | h | h
          · rw [hvj2] at h; cases h
          · rw [← nhj]; exact h
          · omega
          · rw [Nat.zero_add,pi,hun] at h; cases h
          · rw [pj,hun'] at h; cases h
        exact zh6 cj hc hnh
      exact exCV hV hC hm a1 h
    | false =>
      rw [hvj2,hvi2] at m4;simp only [Bool.and_eq_true] at m4;have nog : ∀ (eb : Bool) (o : Oper),clOf A eb o = 6→o.guard = none:=by
        intro eb o ho;cases hop : o.op with
        | alloc _ =>
          simp only [clOf,hop] at ho;split at ho
          · assumption
          · simp at ho
        | move x=>simp only [clOf,hop] at ho; split at ho <;> simp at ho
        | extract _ _=>simp only [clOf,hop] at ho; split at ho <;> simp at ho
        | call c =>
          exfalso;simp only [clOf,hop] at ho
          repeat' split at ho
          all_goals simp at ho
        | _=>simp [clOf,hop] at ho
      have gg : ∀ (o : Oper),o.guard = none→∀ (S : St),gres all.toList o S = some true := fun o ho S=>by unfold gres; rw [ho]
      obtain ⟨c6j,c6i⟩ := m4
      · have c6j := beqN c6j;have c6i := beqN c6i;have gj0 := gg oj (nog _ oj (cj ▸ c6j));have gi0 := gg oi (nog _ oi (ci ▸ c6i));simp only [ze6 hvj2,ze6 hvi2,zcf,gj0,gi0] at h ⊢;exact exAA c6j c6i (cj ▸ c6j) (ci ▸ c6i) a2 h
theorem pull (he : zen 0 all.toList = true) (hd : zr1 [] (oisA A all) = true) {i : Nat} {oi : Oper} (hi : all[i]? = some oi) {post : List Nat} {k : St→Option R} : ∀ (pre : List Nat) (S : St),(∀ j ∈ pre,j < i∧(nthN (zb9 all.toList []) i).testBit j = false) →
  runL P A an isRes cal all (zav (oisA A all)) (oisA A all) (pre ++ i :: post) S k = some r→runL P A an isRes cal all (zav (oisA A all)) (oisA A all) (i :: (pre ++ post)) S k = some r
 | [],S,_,h=>h
 | j :: pre,S,hp,h=>by
  obtain ⟨hji,hun⟩ := hp j mcS;have hjs : j < all.size := by have := (Array.getElem?_eq_some_iff.1 hi).1; omega
  have hj : all[j]? = some all[j] := Array.getElem?_eq_getElem hjs;have xj := zoj (A := A) hj;have xi := zoj (A := A) hi;have hm : (oiOf A all (nthN (zb9 all.toList []) j) all[j]).cl < 5 ∨ (oiOf A all (nthN (zb9 all.toList []) j) all[j]).cl = 6:=by
   obtain ⟨_,hex⟩ := zg4 _ [] hd i _ xi;rcases hex j _ (by simpa using hji) (by simpa using xj) with h | h
   ·have : (nthN (zb9 all.toList []) i).testBit j = true := h;rw [hun] at this; cases this
   ·unfold zsx at h;rw [Bool.and_eq_true] at h;have h2 := h.2
    revert h2
    generalize (oiOf A all (nthN (zb9 all.toList []) j) all[j]) = yj;generalize (oiOf A all (nthN (zb9 all.toList []) i) oi) = yi;intro h2;cases hv : zbb yj.cl with
    | true =>
     have : yj.cl < 3 := by simpa [zbb,Nat.blt_eq] using hv
     omega
    | false =>
     rw [hv] at h2;cases hv2 : zbb yi.cl with
     | true=>rw [hv2] at h2; exact .inl (by simpa [Nat.blt_eq] using h2)
     | false =>
      rw [hv2] at h2;simp only [Bool.and_eq_true] at h2;exact .inr (beqN h2.1)
  rw [List.cons_append] at h;unfold runL at h;simp only [xj,hj] at h;have h2 := zt6 (F' := fun S'=>runL P A an isRes cal all (zav (oisA A all)) (oisA A all) (i :: (pre ++ post)) S' k) zu4 rfl hm zr2 zmg (fun T hT=>pull he hd hi pre T (fun q hq=>hp q (mcM _ hq)) hT) h;have e1 : ∀ S',runL P A an isRes cal all (zav (oisA A all)) (oisA A all) (i :: (pre ++ post)) S' k = zbd P A an isRes cal all.toList (zav (oisA A all)) i (fxOf (oisA A all) i (oiOf A all (nthN (zb9 all.toList []) i) oi)) (oiOf A all (nthN (zb9 all.toList []) i) oi) oi S' (fun S''=>runL P A an isRes cal all (zav (oisA A all)) (oisA A all) (pre ++ post) S'' k):=by
   intro S'
   conv=>lhs; unfold runL
   simp only [xi,hi]
  simp only [e1] at h2;have h3 := exch he hd hj hi hji hun h2
  conv=>lhs; unfold runL
  simp only [xi,hi];have e2 : ∀ S',runL P A an isRes cal all (zav (oisA A all)) (oisA A all) (j :: pre ++ post) S' k = zbd P A an isRes cal all.toList (zav (oisA A all)) j (fxOf (oisA A all) j (oiOf A all (nthN (zb9 all.toList []) j) all[j])) (oiOf A all (nthN (zb9 all.toList []) j) all[j]) all[j] S' (fun S''=>runL P A an isRes cal all (zav (oisA A all)) (oisA A all) (pre ++ post) S'' k):=by
   intro S';rw [List.cons_append]
   conv=>lhs; unfold runL
   simp only [xj,hj]
  simp only [e2];exact h3
def unl (n : Nat) (listed : Array Bool) : List Nat := (List.range n).filter fun i=>!listed.getD i true
theorem zhu (n : Nat) (listed : Array Bool) : (unl n listed).Pairwise (· < ·) := List.Pairwise.filter _ List.pairwise_lt_range
theorem zuj {n i : Nat} {listed : Array Bool} (hn : listed.size = n) {pre post : List Nat} (h : unl n listed = pre ++ i :: post) : unl n (listed.setIfInBounds i true) = pre ++ post:=by
 have hs := zhu n listed;rw [h,List.pairwise_append] at hs;obtain ⟨_,h2,h3⟩ := hs;have hpre : ∀ a ∈ pre,a ≠ i := fun a ha e=>by have := h3 a ha i mcS; omega
 have hpost : ∀ a ∈ post,a ≠ i := fun a ha e=>by
  have := (List.pairwise_cons.1 h2).1 a ha;omega
 have e : unl n (listed.setIfInBounds i true) = (unl n listed).filter fun q=>decide (q ≠ i):=by
  unfold unl;rw [List.filter_filter];refine List.filter_congr fun q hq=>?_;by_cases hqi : q = i
  ·subst hqi;have hlt : q < listed.size := by rw [hn]; exact List.mem_range.1 hq
   simp [hlt]
  ·rw [getD_set_ne true (Ne.symm hqi)];simp [hqi]
 rw [e,h,List.filter_append,List.filter_cons];simp only [ne_eq,not_true_eq_false,decide_false,Bool.false_eq_true,if_false];rw [List.filter_eq_self.2 fun a ha=>by simpa using hpre a ha,List.filter_eq_self.2 fun a ha=>by simpa using hpost a ha]
theorem any_ok (hN : zgg P A) (hcal : zcn P A cal) (hgl : zbn A g0 w0) (he : zen 0 all.toList = true) (hd : zr1 [] (oisA A all) = true) {k : St→Option R} (Q : Exit→Act→World→Prop)
  (hQ : ∀ S' a' w',Good g0 w0 Ex S' a' w'→k S' = some r→Q .normal a' w') :
  ∀ (fuel : Nat) (listed : Array Bool) (a : Act) (w : World) (T : St),listed.size = all.size→(unl all.size listed).length ≤ fuel→Closed all listed→runL P A an isRes cal all (zav (oisA A all)) (oisA A all) (unl all.size listed) T k = some r→Good g0 w0 Ex T a w →
   wpAny P .any all Q fuel listed a w:=by
 have none_ready : ∀ (listed : Array Bool),listed.size = all.size→unl all.size listed = []→Region.ready .any all listed = []:=by
  intro listed hls h;cases hr : Region.ready .any all listed with
  | nil=>rfl
  | cons x l =>
   have hm : x ∈ Region.ready .any all listed := by rw [hr]; exact mcS
   obtain ⟨h1,o,ho,_⟩ := mem_ready.1 hm;have : x ∈ unl all.size listed := List.mem_filter.2 ⟨List.mem_range.2 (Array.getElem?_eq_some_iff.1 ho).1,by rw [h1]; rfl⟩;rw [h] at this; cases this
 intro fuel
 induction fuel with
 | zero =>
  intro listed a w T hls hf hc h hg;have h0 : unl all.size listed = [] := List.eq_nil_of_length_eq_zero (by omega);rw [h0] at h;exact ⟨none_ready listed hls h0,hQ T a w hg h⟩
 | succ fuel ih =>
  intro listed a w T hls hf hc h hg;refine ⟨fun h0=>?_,fun x hx=>?_⟩
  ·
   cases hu : unl all.size listed with
   | nil=>rw [hu] at h; exact hQ T a w hg h
   | cons i l =>
    exfalso;have hm : i ∈ unl all.size listed := by rw [hu]; exact mcS
    obtain ⟨h1,h2⟩ := List.mem_filter.1 hm;have his := List.mem_range.1 h1;have ho : all[i]? = some all[i] := Array.getElem?_eq_getElem his;have hi : listed.getD i true = false := by simpa using h2
    have : i ∈ Region.ready .any all listed:=by
     refine mem_ready.2 ⟨hi,_,ho,fun e he2 hbd=>?_⟩;have hlt := ze7 all.toList 0 he i _ (by rw [Array.getElem?_toList]; exact ho) e he2 hbd;have hs := zhu all.size listed;rw [hu] at hs;cases hb : listed.getD e.on true with
     | true =>
      have : e.on < listed.size := by omega
      simp only [Array.getD_eq_getD_getElem?,Array.getElem?_eq_getElem this,Option.getD_some] at hb ⊢;exact hb
     | false =>
      have hmem : e.on ∈ unl all.size listed := List.mem_filter.2 ⟨List.mem_range.2 (by omega),by rw [hb]; rfl⟩;rw [hu] at hmem;rcases List.mem_cons.1 hmem with e1 | e1
      ·omega
      ·have := (List.pairwise_cons.1 hs).1 _ e1; omega
    rw [h0] at this; cases this
  ·obtain ⟨hun,o,ho,hall⟩ := mem_ready.1 hx;have hxs : x < all.size := (Array.getElem?_eq_some_iff.1 ho).1;have hmem : x ∈ unl all.size listed := List.mem_filter.2 ⟨List.mem_range.2 hxs,by rw [hun]; rfl⟩;obtain ⟨pre,post,hsplit⟩ := List.append_of_mem hmem;have hsort := zhu all.size listed;rw [hsplit] at h;have hbits : ∀ j,(nthN (zb9 all.toList []) x).testBit j = true→listed.getD j false = true := zq0 he hc x hxs fun o' ho' e he2 hb=>by
    rw [ho] at ho';injection ho' with ho';subst ho';exact hall e he2 hb
   have hpre : ∀ j ∈ pre,j < x∧(nthN (zb9 all.toList []) x).testBit j = false:=by
    intro j hj;rw [hsplit,List.pairwise_append] at hsort;refine ⟨hsort.2.2 j hj x mcS,?_⟩;cases hb : (nthN (zb9 all.toList []) x).testBit j with
    | false=>rfl
    | true =>
     have h1 := hbits j hb;have h2 : j ∈ unl all.size listed := by rw [hsplit]; exact List.mem_append_left _ hj
     obtain ⟨h3,h4⟩ := List.mem_filter.1 h2;have hjs := List.mem_range.1 h3;have : j < listed.size := by omega
     simp only [Array.getD_eq_getD_getElem?,Array.getElem?_eq_getElem this,Option.getD_some] at h1 h4;rw [h1] at h4;cases h4
   have h2 := pull he hd ho pre T hpre h;have xi := zoj (A := A) ho;unfold runL at h2;simp only [xi,ho] at h2;obtain ⟨g,hg⟩ := hg;refine dstep_ok hN hcal hgl rfl ho h2 hg Q _ fun S' a' w' hgd hk=>ih _ a' w' S' (by simpa using hls) ?_ ?_ ?_ hgd
   ·rw [zuj hls hsplit];rw [hsplit] at hf;simp only [lnA,lnC] at hf ⊢;omega
   ·intro i oi hoi hli e he2 hb;by_cases hix : i = x
    ·subst hix;rw [ho] at hoi;injection hoi with hoi;subst hoi;exact getD_set_true (hall e he2 hb)
    ·have : listed.getD i false = true := by rw [getD_set_ne false (Ne.symm hix)] at hli; exact hli
     exact getD_set_true (hc i oi hoi this e he2 hb)
   ·rw [zuj hls hsplit];exact hk
theorem draw_ok {k : St→Option R} (hN : zgg P A) (hcal : zcn P A cal) (hgl : zbn A g0 w0) (Q : Exit→Act→World→Prop)
  (hQ : ∀ S' a' w',Good g0 w0 Ex S' a' w'→k S' = some r→Q .normal a' w')
  (h : zw0 P A an isRes cal all S k = some r) (hg : Good g0 w0 Ex S a w) : wpAny P .any all Q all.size (Array.replicate all.size false) a w:=by
 unfold zw0 at h;obtain ⟨h1,h2⟩ := zai h;rw [Bool.and_eq_true] at h1;have hall : unl all.size (Array.replicate all.size false) = List.range all.size:=by
  unfold unl;refine List.filter_eq_self.2 fun i hi=>?_;have := List.mem_range.1 hi;simp [this]
 have h3 := zkc (P := P) (A := A) (an := an) (isRes := isRes) (cal := cal) (all := all) (D := zav (oisA A all)) (ois := oisA A all) (k := k) all.size 0 S ois_len (by omega);rw [List.drop_zero,List.drop_zero] at h3;have h4 := h3.symm.trans h2;rw [← List.range_eq_range'] at h4;refine any_ok hN hcal hgl h1.1 h1.2 (k := k) Q (fun S' a' w' hgd hk=>?_) all.size _ a w S (by simp) (by rw [hall]; simp) ?_ (by rw [hall]; exact h4) hg
 ·exact hQ _ a' w' hgd hk
 ·intro i o ho hl;have : i < all.size := (Array.getElem?_eq_some_iff.1 ho).1;simp [this] at hl
end
end
section
section
variable {g0 : G} {w0 : World} {Ex : Nat→Prop} {g g' : G} {S : St} {a : Act} {w w' : World} {R : Type} {r : R}
def zcr (m : Nat) : Role→Role
 | .h id=>match Nat.blt id m with
  | true=>.h id
  | false=>.ext
 | .c (.h id off)=>match Nat.blt id m with
  | true=>.c (.h id off)
  | false=>.ext
 | x=>x
theorem zge {m : Nat} {x : Role} {n : Nat} (h : zcr m x = .h n) : x = .h n∧Nat.blt n m = true:=by
 unfold zcr at h;split at h
 ·rename_i id;cases hb : Nat.blt id m with
  | true=>rw [hb] at h; injection h with h; subst h; exact ⟨rfl,hb⟩
  | false=>rw [hb] at h; cases h
 ·rename_i id off;cases hb : Nat.blt id m <;> (rw [hb] at h; cases h)
 ·rename_i h1 _;exact absurd h (h1 n)
theorem zia {m : Nat} {x : Role} {n : Nat} (h : zcr m x = .l n) : x = .l n:=by
 unfold zcr at h;split at h
 ·rename_i id;cases hb : Nat.blt id m <;> (rw [hb] at h; cases h)
 ·rename_i id off;cases hb : Nat.blt id m <;> (rw [hb] at h; cases h)
 ·exact h
theorem zmd {m : Nat} : ∀ {l : List Slot},zgj m l = true→∀ {t : Nat} {v : AV} {f : Fl},nthS l t = .val v f→v.okD m = true
 | [],_,t,v,f,h=>by cases t <;> cases h
 | s :: l,hs,t,v,f,h=>by
  unfold zgj at hs;split at hs
  ·rename_i h1;cases t with
   | zero =>
    have h : s = .val v f := h;subst h;exact h1
   | succ t=>exact zmd hs h
  ·cases hs
theorem zi4 : ∀ {l : List (Nat × Blk)},zio l = true→∀ {d : Nat} {b : Blk},getL l d = some b→za3 b.cells = true
 | [],_,d,b,h=>by cases h
 | (e,c) :: l,hs,d,b,h=>by
  unfold zio at hs;unfold getL at h;split at hs
  ·rename_i h1;split at h
   ·injection h with h; subst h; exact h1
   ·exact zi4 hs h
  ·cases hs
theorem zh9 {m : Nat} : ∀ {l : List (Nat × Blk)} {d : Nat} {b : Blk},getL (zlc m l) d = some b→getL l d = some b∧Nat.blt d m = true ∨ False
 | [],d,b,h=>by cases h
 | (e,c) :: l,d,b,h=>by
  unfold zlc at h;unfold getL;cases hb : Nat.blt e m with
  | true =>
   rw [hb] at h;simp only [getL] at h;cases he : Nat.beq d e with
   | true =>
    rw [he] at h;have := beqN he;subst this;exact .inl ⟨h,hb⟩
   | false=>rw [he] at h; exact zh9 h
  | false =>
   rw [hb] at h;cases he : Nat.beq d e with
   | true =>
    have := beqN he;subst this;rcases zh9 h with ⟨_,h2⟩ | h2
    ·rw [hb] at h2; cases h2
    ·exact h2.elim
   | false=>exact zh9 h
theorem zi7 {m : Nat} : ∀ {l : List (Nat × Blk)} {d : Nat},Nat.blt d m = true→getL l d ≠ none→getL (zlc m l) d ≠ none
 | [],d,_,h=>absurd rfl h
 | (e,c) :: l,d,hd,h=>by
  unfold getL at h;unfold zlc;cases he : Nat.beq d e with
  | true =>
   have := beqN he;subst this;rw [hd];simp only [getL,he];simp
  | false =>
   rw [he] at h;cases hb : Nat.blt e m with
   | true=>simp only [getL,he]; exact zi7 hd h
   | false=>exact zi7 hd h
theorem rep_drop {m : Nat} {u : Value} {v : AV} (h : Rep g w u v) (hv : v.okD m = true) (hr : ∀ B,g'.role B = zcr m (g.role B)) (hp : ∀ B,g.pub B ≤ g'.pub B) : Rep g' w u v:=by
 cases v with
 | ptr i off =>
  obtain ⟨B,hB,rfl⟩ := zfo h;have hv : Nat.blt i m = true := hv;exact .ptr B i off (by rw [hr,hB]; simp only [zcr,hv])
 | arr i off len z =>
  obtain ⟨B,cap,hB,rfl,hcap⟩ := zjr h;have hv : Nat.blt i m = true := hv;exact .arr B i off len cap z (by rw [hr,hB]; simp only [zcr,hv]) hcap
 | _=>exact h.pure hv g' hp
theorem zee {p p' : Pl} {u : Value} {v : AV} (h : zas g w p u v) (hr : ∀ B,g.role B = .c p→g'.role B = .c p') (hp : g'.pub = g.pub) (hs : p'.str = true→p.str = true := by simp [Pl.str]) : zas g' w p' u v:=by
  cases v with
  | vs sz tg l =>
    rcases h with k | k | ⟨D,n,cp,ud,ed,k5,k6,k7,k8,k9,k10⟩
    · exact .inl k
    · exact .inr (.inl (by obtain ⟨a,n,k1,k2⟩ := k; exact ⟨a,n,k1.imp (fun h=>by cases hb : p'.str with | false=>rfl | true=>rw [hs hb] at h; cases h) id,k2⟩))
    · exact .inr (.inr ⟨D,n,cp,ud,ed,k5,hr D k6,k7,k8,k9,by rw [hp]; exact k10⟩)
  | _=>trivial
theorem Rel.drop (h : Rel g0 w0 Ex g S a w) (hf : ziy g0 w0 Ex) {m : Nat} (hd : zlt m S = true) : Good g0 w0 Ex (S.drop m) a w:=by
 unfold zlt at hd;split at hd
 ·rename_i d1;split at hd
  ·rename_i d2;split at hd
   ·rename_i d3
    let g1 : G := ⟨fun c=>zcr m (g.role c),g.pub⟩
    have r1 : ∀ c,g1.role c = zcr m (g.role c) := fun _=>rfl;have noh : ∀ c,c < w0.heap.size→g.role c ≠ .ext→False := fun c hc hne=>by
     rcases h.fr.role c hne with h4 | h4
     ·omega
     ·exact hf.2 c h4
    refine ⟨g1,⟨fun c hc=>?_,fun c i hc=>?_,fun c d hc=>?_,fun c c' i k1 k2=>?_,fun c c' d k1 k2=>?_⟩,⟨fun i b hb=>?_,fun c i hc=>?_⟩,fun d b hb=>?_,fun d c hc=>(by cases hc),?_,fun t=>?_,?_,h.nodef⟩
    ·exact ⟨by rw [r1,(h.inv.new c hc).1]; rfl,(h.inv.new c hc).2⟩
    ·exact h.inv.ph c i (zge ((r1 c).symm.trans hc)).1
    ·exact h.inv.pl c d (zia ((r1 c).symm.trans hc))
    ·exact h.inv.injh c c' i (zge ((r1 c).symm.trans k1)).1 (zge ((r1 c').symm.trans k2)).1
    ·exact h.inv.injl c c' d (zia ((r1 c).symm.trans k1)) (zia ((r1 c').symm.trans k2))
    ·have hb' : getL (zlc m S.H) i = some b := hb;rcases zh9 hb' with ⟨hb1,hlt⟩ | hx
     ·obtain ⟨B,hB,⟨us,e,k1,k2,k3⟩,k4⟩ := h.h.blk i b hb1;refine ⟨B,by rw [r1,hB]; simp only [zcr,hlt],⟨us,e,k1,k2,k3.1,fun j u c hu hc=>(k3.2 j u c hu hc).pure (zct (zi4 d3 hb') j c hc) g1 fun _=>Nat.le_refl _⟩,fun off hoff u v hu hv=>?_⟩;exact zee (k4 off hoff u v hu hv) (fun D hD=>by rw [r1,hD]; simp only [zcr,hlt]) rfl
     ·exact hx.elim
    ·obtain ⟨h4,h5⟩ := zge ((r1 c).symm.trans hc);exact zi7 h5 (h.h.lt c i h4)
    ·obtain ⟨B,hB,⟨us,e,k1,k2,k3⟩,k4⟩ := h.l d b hb;refine ⟨B,by rw [r1,hB]; rfl,⟨us,e,k1,k2,k3.1,fun j u c hu hc=>(k3.2 j u c hu hc).pure (zct (zi4 d2 hb) j c hc) g1 fun _=>Nat.le_refl _⟩,fun off hoff u v hu hv=>?_⟩;exact zee (k4 off hoff u v hu hv) (fun D hD=>by rw [r1,hD]; rfl) rfl
    ·show (S.sl.map _).length = _;rw [lnM]; exact h.len
    ·show zbl g1 _ a w t (nthS (S.sl.map Slot.unlentH) t);rw [zd7 _ rfl];have e0 : nthS S.sl t = S.slot t := rfl;have hst' := h.sl t;rw [e0];cases hst : S.slot t with
     | und=>trivial
     | lp d o =>
      rw [hst] at hst';obtain ⟨B,hB,hx⟩ := hst';exact ⟨B,by rw [r1,hB]; rfl,hx⟩
     | mp d =>
      rw [hst] at hst';obtain ⟨B,hB,hx⟩ := hst';exact ⟨B,by rw [r1,hB]; rfl,hx⟩
     | val v f =>
      rw [hst] at hst';have hrep := rep_drop hst'.1 (zmd d1 (e0.trans hst)) r1 fun B=>Nat.le_refl _;cases f with
      | no=>exact ⟨hrep,trivial⟩
      | own=>exact ⟨hrep,zee hst'.2 (fun D hD=>by rw [r1,hD]; rfl) rfl⟩
      | ownS=>exact ⟨hrep,zee hst'.2 (fun D hD=>by rw [r1,hD]; rfl) rfl⟩
      | lS q =>
       exact ⟨hrep,fun v' fq hcq hv'=>hst'.2 v' fq hcq (zf3 (S := S) hcq hv')⟩
      | lL d off =>
       refine ⟨hrep,fun b hb hoff=>?_⟩;obtain ⟨B,hB,hx⟩ := hst'.2 b hb hoff;exact ⟨B,by rw [r1,hB]; rfl,hx⟩
      | lH id off=>exact ⟨hrep,trivial⟩
      | comps cs=>exact ⟨hrep,fun i hi us vs ui vi h1 h2 h3 h4=>zee (hst'.2 i hi us vs ui vi h1 h2 h3 h4) (fun D hD=>by rw [r1,hD]; rfl) rfl⟩
    ·refine ⟨⟨fun c i hc=>?_,h.fr.ext.2,h.fr.ext.3⟩,h.fr.os,h.fr.tape,h.fr.output,h.fr.size,h.fr.same,fun c hc=>?_⟩
     ·exfalso;have hlt : c < w0.heap.size:=by
       rcases Nat.lt_or_ge c w0.heap.size with h4 | h4
       ·exact h4
       ·rw [(hf.1.new c h4).1] at hc; cases hc
      exact noh c hlt (by rw [h.fr.ext.1 c i hc]; simp)
     ·refine h.fr.role c fun he=>hc ?_;rw [r1,he]; rfl
   ·cases hd
  ·cases hd
 ·cases hd
theorem zkq {imp : Bool} (hf : imp = false→ziy g0 w0 Ex) {id : Nat} : ∀ {l : List (Nat × Nat)} {S : St} {k : St→Option R},zoi imp l id S k = some r→Good g0 w0 Ex S a w→∃ S',Good g0 w0 Ex S' a w∧k S' = some r
 | [],S,k,h,hg=>⟨S,hg,h⟩
 | (q,m) :: l,S,k,h,hg=>by
  simp only [zoi] at h;split at h
  ·split at h
   ·cases h
   ·obtain ⟨hd,h⟩ := zai h;obtain ⟨g,hg⟩ := hg;exact zkq hf h (hg.drop (hf rfl) hd)
  ·exact zkq hf h hg
theorem zqs {sl : List Slot} {d : Nat} (hd : lvB sl d = false) : ∀ l : List (Nat × Blk),getL (zr6 sl l) d = Option.none
 | []=>rfl
 | (e,c) :: l=>by
  unfold zr6;cases he : lvB sl e
  ·exact zqs hd l
  ·simp only [getL];split
   ·rename_i hb;obtain rfl := beqN hb;rw [hd] at he; cases he
   ·exact zqs hd l
theorem zhg {sl : List Slot} {d : Nat} {b : Blk} : ∀ {l : List (Nat × Blk)},getL (zr6 sl l) d = some b→getL l d = some b
 | [],h=>by cases h
 | (e,c) :: l,h=>by
  unfold zr6 at h;cases he : lvB sl e
  ·rw [he] at h;simp only [getL];split
   ·rename_i hb;obtain rfl := beqN hb;rw [zqs he] at h; cases h
   ·exact zhg h
  ·rw [he] at h;simp only [getL] at h ⊢;split at h
   ·exact h
   ·exact zhg h
theorem zum {dbx : Bool} {S : St} {k : St→Option R} (h : zvi dbx S k = some r) (hg : Good g0 w0 Ex S a w) : ∃ S',Good g0 w0 Ex S' a w∧k S' = some r:=by
 unfold zvi at h;split at h
 ·refine ⟨_,?_,h⟩;obtain ⟨g,hg⟩ := hg;refine ⟨g,hg.inv,hg.h,fun d b hb=>hg.l d b (zhg hb),hg.m,hg.len,fun t=>?_,hg.fr,hg.nodef⟩;have := hg.sl t;show zbl g _ a w t (S.slot t);unfold zbl at this ⊢;split at this
  ·trivial
  ·exact this
  ·exact this
  ·refine ⟨this.1,?_⟩;have h2 := this.2;unfold zt4 at h2 ⊢;split at h2
   ·trivial
   ·exact h2
   ·exact h2
   ·exact h2
   ·exact fun b hb=>h2 b (zhg hb)
   ·exact h2
   ·exact h2
 ·exact ⟨S,hg,h⟩
theorem zo8 {an : Ann} (hf : an.imp = false→ziy g0 w0 Ex) {id : Nat} {S : St} {k : St→Option R} (h : zfv an id S k = some r) (hg : Good g0 w0 Ex S a w) : ∃ S',Good g0 w0 Ex S' a w∧k S' = some r:=by
 unfold zfv at h;obtain ⟨S3,h5,h6⟩ := zkq hf h hg;exact zum h6 h5
end
end
section
section
variable {g0 : G} {w0 : World} {Ex : Nat→Prop} {g g' : G} {S : St} {a : Act} {w w' : World} {P : Program} {A : List (Nat × Ann)}
def packV : List Value→Value
 | [v]=>v
 | l=>.tuple l.toArray
def zmb (tmps : Array Value) : ResultVar→Sem Value
 | .tmp t=>pure (tmps.getD t undef)
 | .cell a t=>do loadVar t (← asAddr (tmps.getD a undef))
theorem zt7 (fn : Func) (tmps : Array Value) : results fn tmps = (do
  let vs ← fn.results.mapM (zmb tmps)
  pure (if h : vs.size = 1 then vs[0] else .tuple vs)) := rfl
theorem zr7 (fn : Func) (tmps : Array Value) {us : List Value} (h : (fn.results.toList.mapM (zmb tmps)).run P w = .ok us w) :
  (results fn tmps).run P w = .ok (packV us) w:=by
 rw [zt7,Array.mapM_eq_mapM_toList];simp only [Sem.run_bind,Sem.run_map,h,Result.andThen_ok,Sem.run_pure]
 match us with
 | []=>rfl
 | [t]=>rfl
 | t :: t2 :: l=>simp [packV]
theorem zi8 (hg : Rel g0 w0 Ex g S a w) : ∀ {rs : List ResultVar} {vs : List AV},zf9 P S rs = some vs→∃ us : List Value,RepL g w us vs ∧
  (rs.mapM (zmb a.tmps)).run P w = .ok us w ∧
  (∀ (j t : Nat),rs[j]? = some (.tmp t)→us[j]? = some (a.tmps.getD t undef)∧vs[j]? = some (S.slot t).av)∧rs.length = us.length
 | [],vs,h=>by
  simp only [zf9,Option.some.injEq] at h;subst h;exact ⟨[],⟨rfl,by simp⟩,by simp,by simp,rfl⟩
 | .tmp t :: rs,vs,h=>by
  unfold zf9 at h;split at h
  ·rename_i v f hs;obtain ⟨r,h1,h2⟩ := za2 h;obtain ⟨us,hr,hrun,hget,hlen⟩ := zi8 hg h1;injection h2 with h2;subst h2;have hv := (hg.slotv hs).1;refine ⟨a.tmps.getD t undef :: us,⟨by simp [hr.1],fun j u c hu hc=>?_⟩,?_,fun j t' hj=>?_,by simp [hlen]⟩
   ·cases j with
    | zero=>simp only [List.getElem?_cons_zero,Option.some.injEq] at hu hc; subst hu hc; exact hv
    | succ j=>exact hr.2 j u c (by simpa using hu) (by simpa using hc)
   ·rw [List.mapM_cons];simp only [zmb,Sem.run_bind,Sem.run_pure,Result.andThen_ok,hrun]
   ·cases j with
    | zero =>
     simp only [List.getElem?_cons_zero,Option.some.injEq,ResultVar.tmp.injEq] at hj;subst hj;exact ⟨rfl,by rw [hs]; rfl⟩
    | succ j=>exact hget j t' (by simpa using hj)
  ·cases h
 | .cell c ty :: rs,vs,h=>by
  unfold zf9 at h;split at h
  ·rename_i d off hs;obtain ⟨b,hb,h1⟩ := za2 h;obtain ⟨ag,dd,hd,hk,hag⟩ := zeg h1;clear h h1;have h1 := hg.sl c;rw [hs] at h1;obtain ⟨B,hB,hev⟩ := h1;obtain ⟨B',hB',⟨us0,e,hheap,hone,hrl⟩,_⟩ := hg.l d b hb;obtain rfl := hg.inv.injl B B' d hB hB';have hl := zel (n := off) hd hag (zh8 hheap hone) hrl.full.part;have fin : ∀ (u : Value) (v : AV),(loadVar ty ⟨B,0 + off,none⟩).run P w = .ok u w→Rep g w u v→((zf9 P S rs).bind fun r=>some (v :: r)) = some vs→∃ us : List Value,RepL g w us vs ∧
     ((ResultVar.cell c ty :: rs).mapM (zmb a.tmps)).run P w = .ok us w ∧
     (∀ (j t : Nat),(ResultVar.cell c ty :: rs)[j]? = some (.tmp t)→us[j]? = some (a.tmps.getD t undef)∧vs[j]? = some (S.slot t).av)∧(ResultVar.cell c ty :: rs).length = us.length:=by
    intro u v hu hv hk;rw [Nat.zero_add] at hu;obtain ⟨r,h1,h2⟩ := za2 hk;obtain ⟨us,hr,hrun,hget,hlen⟩ := zi8 hg h1;injection h2 with h2;subst h2;refine ⟨u :: us,⟨by simp [hr.1],fun j u' c' hu' hc=>?_⟩,?_,fun j t' hj=>?_,by simp [hlen]⟩
    ·cases j with
     | zero=>simp only [List.getElem?_cons_zero,Option.some.injEq] at hu' hc; subst hu' hc; exact hv
     | succ j=>exact hr.2 j u' c' (by simpa using hu') (by simpa using hc)
    ·rw [List.mapM_cons];simp only [zmb,Sem.run_bind,hev,asAddr,Sem.run_pure,Result.andThen_ok,hu,hrun]
    ·cases j with
     | zero=>simp at hj
     | succ j=>exact hget j t' (by simpa using hj)
   cases ag with
   | true =>
    obtain ⟨h0,hk⟩ := zai hk;obtain ⟨u,hu,hrep⟩ := hl (zc3 h0);exact fin u _ hu hrep hk
   | false =>
    obtain ⟨c',hcc,hk⟩ := za2 hk;rw [zci] at hcc;obtain ⟨u,hu,hrep,_⟩ := hl c' hcc;exact fin u _ hu hrep hk
  ·cases h
theorem zsv {g : G} {w : World} {u : Value} {v : AV} (h : Rep g w u v) (ht : zlh v = true) (g' : G) (w' : World) (p : Pl) (hp : p.str = false := by rfl) : zas g' w' p u v:=by
  unfold zlh at ht;split at ht
  · exact zl3 h _ _ _ (.inl hp)
  · cases ht
theorem zm7 {S : St} {g : G} {t : Nat} {v : AV} (hs : S.slot t = .val v .own) (h : Rel g0 w0 Ex g S a w) (j : Nat) : ∃ g1,Rel g0 w0 Ex g1 (S.put t (.val v .no)) a w ∧
  (∀ q x y,(∃ j,q = .r j)→zas g w q x y→zas g1 w q x y)∧(∀ B id,g1.role B = .h id ↔ g.role B = .h id)∧g1.pub = g.pub∧zas g1 w (.r j) (a.tmps.getD t undef) v:=by
 have hlt : t < S.sl.length := zcb (by show S.slot t ≠ _; rw [hs]; simp);have hown := (h.slotv hs).2;have h1 := h.reflag hs (f' := .no) trivial (by simp) (by simp);have hnc : zfi (S.put t (.val v .no)) (.s t):=by
  intro v' hv';rw [zam,if_pos ⟨rfl,hlt⟩] at hv';injection hv' with _ e;cases e
 obtain ⟨g1,h2,h3,h4,h5,h6,h7,_⟩ := h1.retag hnc hown (.r j);exact ⟨g1,h2,fun q x y hq hxy=>h7 q x y (by obtain ⟨j',rfl⟩ := hq; simp) hxy,h4,h6,h3⟩
theorem zkx {S : St} {q t' : Nat} {u : AV} {f f' : Fl} (hs : S.slot q = .val u f) : ((S.put q (.val u f')).slot t').av = (S.slot t').av:=by
 rw [zam];split
 ·rename_i he; rw [he.1,hs]; rfl
 ·rfl
theorem zdm {rs : List ResultVar} : ∀ {rf : List Nat} {S : St} {g : G},zhf S rs rf = true→Rel g0 w0 Ex g S a w→∃ g' S',Rel g0 w0 Ex g' S' a w∧S'.H = S.H∧S'.nx = S.nx ∧
  (∀ q x y,(∃ j,q = .r j)→zas g w q x y→zas g' w q x y)∧(∀ B id,g'.role B = .h id ↔ g.role B = .h id)∧g'.pub = g.pub ∧
  ∀ j ∈ rf,∃ t,rs[j]? = some (.tmp t)∧zas g' w (.r j) (a.tmps.getD t undef) (S.slot t).av
 | [],S,g,_,h=>⟨g,S,h,rfl,rfl,fun _ _ _ _ h=>h,fun _ _=>Iff.rfl,rfl,by simp⟩
 | j :: l,S,g,hr,h=>by
  have tight : ∀ {t : Nat} {v : AV} {f : Fl},rs[j]? = some (.tmp t)→S.slot t = .val v f→(zlh v && zhf S rs l) = true→∃ g' S',Rel g0 w0 Ex g' S' a w∧S'.H = S.H∧S'.nx = S.nx ∧
    (∀ q x y,(∃ j,q = .r j)→zas g w q x y→zas g' w q x y)∧(∀ B id,g'.role B = .h id ↔ g.role B = .h id)∧g'.pub = g.pub ∧
    ∀ j' ∈ j :: l,∃ t,rs[j']? = some (.tmp t)∧zas g' w (.r j') (a.tmps.getD t undef) (S.slot t).av:=by
   intro t v f ht hs hrr;rw [Bool.and_eq_true] at hrr;obtain ⟨g2,S2,h8,h9,h10,h11,h12,h13,h14⟩ := zdm hrr.2 h;refine ⟨g2,S2,h8,h9,h10,h11,h12,h13,fun j' hj'=>?_⟩;rcases List.mem_cons.1 hj' with rfl | hj'
   ·refine ⟨t,ht,?_⟩;rw [hs];exact zsv (h.slotv hs).1 hrr.1 _ _ _
   ·exact h14 j' hj'
  unfold zhf at hr;split at hr
  ·rename_i t ht;have ht' : rs[j]? = some (.tmp t) := ht;split at hr
   ·rename_i v f hs;split at hr
    ·obtain ⟨g1,h2,h7,h4,h6,h3⟩ := zm7 hs h j;obtain ⟨g2,S2,h8,h9,h10,h11,h12,h13,h14⟩ := zdm hr h2;refine ⟨g2,S2,h8,h9,h10,fun q x y hq hxy=>h11 q x y hq (h7 q x y hq hxy),fun B id=>(h12 B id).trans (h4 B id),h13.trans h6,fun j' hj'=>?_⟩;rcases List.mem_cons.1 hj' with rfl | hj'
     ·refine ⟨t,ht',?_⟩;rw [hs];exact h11 _ _ _ ⟨j',rfl⟩ h3
     ·obtain ⟨t',ht2,h15⟩ := h14 j' hj';exact ⟨t',ht2,by rw [zkx hs] at h15; exact h15⟩
    ·rename_i q;split at hr
     ·rename_i u fu hq;split at hr
      ·obtain ⟨e1,e2⟩ := (h.slotv hs).2 u _ rfl hq;obtain ⟨g1,h2,h7,h4,h6,h3⟩ := zm7 hq h j;obtain ⟨g2,S2,h8,h9,h10,h11,h12,h13,h14⟩ := zdm hr h2;refine ⟨g2,S2,h8,h9,h10,fun q x y hq hxy=>h11 q x y hq (h7 q x y hq hxy),fun B id=>(h12 B id).trans (h4 B id),h13.trans h6,fun j' hj'=>?_⟩;rcases List.mem_cons.1 hj' with rfl | hj'
       ·refine ⟨t,ht',?_⟩;rw [hs];have := h11 _ _ _ ⟨j',rfl⟩ h3;rw [e1,e2] at this;exact this
       ·obtain ⟨t',ht2,h15⟩ := h14 j' hj';exact ⟨t',ht2,by rw [zkx hq] at h15; exact h15⟩
      ·exact tight ht' hs hr
     ·exact tight ht' hs hr
    ·exact tight ht' hs hr
   ·cases hr
  ·cases hr
theorem zuw {f : Nat} {fn : Func} {out : Out} (hfn : P.funcs[f]? = some fn) (h : zpp P (getA A f) fn.results.toList S = some out) (hg : Rel g0 w0 Ex g S a w) :
  ∃ v,(results fn a.tmps).run P w = .ok v w∧∃ g',Ret (getA A f).rf (zf4 P f) g0 w0 Ex out v g' w:=by
 unfold zpp at h;split at h
 ·cases h
 ·rename_i hro;obtain ⟨vs,hvs,h2⟩ := za2 h;obtain ⟨us,hrl,hrun0,hget,hlen⟩ := zi8 hg hvs;obtain ⟨g1,S1,h3,hH,hnx,_,hh,hp,hcl⟩ := zdm hro hg;have hrun := zr7 (P := P) (w := w) fn a.tmps hrun0
  let g2 : G := ⟨fun B=>match g1.role B with
   | .h id=>.h id
   | .c (.h id off)=>.c (.h id off)
   | .c (.r i)=>.c (.r i)
   | _=>.ext,g1.pub⟩
  have r2 : ∀ B,g2.role B = match g1.role B with
   | .h id=>.h id
   | .c (.h id off)=>.c (.h id off)
   | .c (.r i)=>.c (.r i)
   | _=>.ext := fun _=>rfl
  have h2h : ∀ B id,g2.role B = .h id ↔ g1.role B = .h id:=by
   intro B id;rw [r2];cases hr : g1.role B with
   | c p=>cases p <;> simp
   | _=>simp
  have h2ne : ∀ B,g2.role B ≠ .ext→g1.role B ≠ .ext:=by
   intro B hB he;apply hB;rw [r2,he]
  have hE : Ext g1 w g2 w := ⟨fun B id hB=>(h2h B id).2 hB,fun _=>Nat.le_refl _,fun _ _ _=>rfl⟩;have own2 : ∀ p u c,((∃ id off,p = .h id off) ∨ ∃ i,p = .r i)→zas g1 w p u c→zas g2 w p u c:=by
   intro p u c hp hc;cases c with
   | vs sz tg l =>
    rcases hc with h | h | ⟨B,n,cap,us,e,h1,h2,h3⟩
    ·exact .inl h
    ·exact .inr (.inl h)
    ·refine .inr (.inr ⟨B,n,cap,us,e,h1,?_,h3⟩);rw [r2,h2];rcases hp with ⟨id,off,rfl⟩ | ⟨i,rfl⟩ <;> rfl
   | _=>trivial
  have hE0 : Ext g w g1 w := ⟨fun B id hB=>(hh B id).2 hB,fun B=>by rw [hp]; exact Nat.le_refl _,fun _ _ _=>rfl⟩;have hrepl : RepL g2 w us vs := (hrl.ext hE0).ext hE;have hcl' : ∀ i ∈ (getA A f).rf,∃ u v,us[i]? = some u∧vs[i]? = some v∧zas g2 w (.r i) u v := fun i hi=>by
   obtain ⟨t,ht,ho⟩ := hcl i hi;obtain ⟨k1,k2⟩ := hget i t ht;exact ⟨_,_,k1,k2,own2 _ _ _ (.inr ⟨i,rfl⟩) ho⟩
  have base : ∀ (v : Value) (o : Out),o.H = S.H→o.nx = S.nx→Rep g2 w v o.v→(zf4 P f = true→0 ∈ (getA A f).rf→zas g2 w (.r 0) v o.v) →
    (zf4 P f = false→∀ i ∈ (getA A f).rf,∀ us vs ui vi,v = .tuple us→o.v = .tuple vs→us[i]? = some ui→vs[i]? = some vi→zas g2 w (.r i) ui vi)→Ret (getA A f).rf (zf4 P f) g0 w0 Ex o v g2 w:=by
   intro v o e1 e2 hrep ho1 ho;refine ⟨⟨fun B hB=>?_,fun B id hB=>h3.inv.ph B id ((h2h B id).1 hB),fun B d hB=>?_,fun B B' id h1 h2=>h3.inv.injh B B' id ((h2h _ _).1 h1) ((h2h _ _).1 h2),fun B B' d h1 _=>?_⟩,?_,hrep,?_,fun B hB=>?_,ho1,ho⟩
   ·obtain ⟨h1,h2⟩ := h3.inv.new B hB;exact ⟨by rw [r2,h1],h2⟩
   ·rw [r2] at hB; cases hr : g1.role B with
    | c p=>rw [hr] at hB; cases p <;> cases hB
    | _=>rw [hr] at hB; cases hB
   ·rw [r2] at h1; cases hr : g1.role B with
    | c p=>rw [hr] at h1; cases p <;> cases h1
    | _=>rw [hr] at h1; cases h1
   ·rw [e1,e2,← hH,← hnx];refine ⟨fun id b hb=>?_,fun B id hB=>h3.h.lt B id ((h2h B id).1 hB)⟩;obtain ⟨B,hB,⟨us,e,k1,k2,k3⟩,hf⟩ := h3.h.blk id b hb;exact ⟨B,(h2h B id).2 hB,⟨us,e,k1,k2,k3.ext hE⟩,fun off hoff u v hu hv=>own2 _ _ _ (.inl ⟨id,off,rfl⟩) (hf off hoff u v hu hv)⟩
   ·exact ⟨h3.fr.ext.trans hE,h3.fr.os,h3.fr.tape,h3.fr.output,h3.fr.size,fun B hB hx=>h3.fr.same B hB hx,fun B hB=>h3.fr.role B (h2ne B hB)⟩
   ·rw [r2] at hB;cases hr : g1.role B with
    | c p=>rw [hr] at hB; cases p <;> simp at hB
    | _=>rw [hr] at hB; simp at hB
  have hone : zf4 P f = Nat.beq us.length 1:=by
   unfold zf4;rw [hfn];simp only;rw [← Array.length_toList,hlen]
  refine ⟨_,hrun,g2,?_⟩
  match us,vs,hone,hrepl,hcl',h2 with
  | [],[],hone,hrepl,hcl',h2 =>
   injection h2 with h2;subst h2;refine base _ _ rfl rfl (.tuple [] [] rfl (by simp)) (fun h=>by rw [hone] at h; cases h) (fun _ i _ us vs ui vi e1 _ e3 _=>?_);have e1' : (#[] : Array Value) = us := by injection e1
   subst e1';simp at e3
  | [],_ :: _,_,hrepl,_,_=>have := hrepl.1; simp at this
  | [u],[v],hone,hrepl,hcl',h2 =>
   injection h2 with h2;subst h2;refine base _ _ rfl rfl (hrepl.2 0 _ _ rfl rfl) (fun _ h0=>?_) (fun h=>by rw [hone] at h; cases h);obtain ⟨u',v',hu',hv',ho⟩ := hcl' 0 h0;simp at hu' hv';subst hu' hv';exact ho
  | [_],[],_,hrepl,_,_=>have := hrepl.1; simp at this
  | [_],_ :: _ :: _,_,hrepl,_,_=>have := hrepl.1; simp at this
  | u :: u2 :: l,[],_,hrepl,_,_=>have := hrepl.1; simp at this
  | u :: u2 :: l,[_],_,hrepl,_,_=>have := hrepl.1; simp at this
  | u :: u2 :: l,v :: v2 :: m,hone,hrepl,hcl',h2 =>
   injection h2 with h2;subst h2;refine base _ _ rfl rfl (.tuple _ _ hrepl.1 hrepl.2) (fun h=>by rw [hone] at h; cases h) (fun _ i hi us vs ui vi e1 e2 e3 e4=>?_);obtain ⟨u',v',hu',hv',ho⟩ := hcl' i hi;have e1' : (u :: u2 :: l).toArray = us := by injection e1
   have e2' : (v :: v2 :: m) = vs := by injection e2
   subst e1' e2';rw [List.getElem?_toArray,hu'] at e3;rw [hv'] at e4;injection e3 with e3;injection e4 with e4;subst e3 e4;exact ho
theorem zpi : ∀ (l : List Slot) (m i t : Nat),nthS (zj3 m i l) t = .und ∨ nthS (zj3 m i l) t = znw (i + t) (nthS l t)
 | [],m,i,t=>.inl (by simp [zj3,nthS])
 | s :: l,m,i,t=>by
  cases t with
  | zero =>
   simp only [zj3];split
   ·exact .inr rfl
   ·exact .inl rfl
  | succ t =>
   have ih := zpi l (m / 2) (i + 1) t;rw [show i + 1 + t = i + (t + 1) by omega] at ih;simp only [zj3];split <;> exact ih
theorem zih : ∀ (l : List Slot) (m i : Nat),(zj3 m i l).length = l.length
 | [],_,_=>rfl
 | s :: l,m,i=>by
  simp only [zj3];split <;> simp [zih l]
theorem Rel.keepm (h : Rel g0 w0 Ex g S a w) (m : Nat) : Rel g0 w0 Ex g (S.keep m) a w:=by
 refine ⟨h.inv,h.h,h.l,h.m,by show (zj3 m 0 S.sl).length = _; rw [zih]; exact h.len,fun t=>?_,h.fr,h.nodef⟩;have h1 := (h.sl t).c;have e : (S.keep m).slot t = nthS (zj3 m 0 S.sl) t := rfl;rcases zpi S.sl m 0 t with h2 | h2
 ·rw [e,h2]; trivial
 ·rw [e,h2,Nat.zero_add];have e2 : nthS S.sl t = S.slot t := rfl;rw [e2];cases hs : S.slot t with
  | und=>trivial
  | lp d off =>
   rw [hs] at h1;simp only [znw];cases h3 : Nat.beq d t with
   | false=>trivial
   | true =>
    cases h4 : Nat.beq off 0 with
    | false=>trivial
    | true =>
     obtain rfl := zay h4;exact h1
  | mp d =>
   rw [hs] at h1;exact h1
  | val v f =>
   rw [hs] at h1;exact zmi.rel h1 _
def Goes (P : Program) (A : List (Nat × Ann)) (f : Nat) (g0 : G) (w0 : World) (Ex : Nat→Prop) (out : Out) (todo : List Item) (a : Act) (w : World) : Prop :=
 ∀ (b : Frame) (cs : List Frame),b.fn = f→b.kind = .normal→∃ v w' fr,(∃ g',Ret (getA A f).rf (zf4 P f) g0 w0 Ex out v g' w')∧Steps P (lone (b.at a todo) cs w) (lone fr cs w')∧fr.fn = f∧fr.leaving P w' (.returned v)
theorem Goes.step {f : Nat} {out : Out} {todo todo' : List Item} {a' : Act} (h : Goes P A f g0 w0 Ex out todo' a' w') (hs : ∀ (b : Frame) (cs : List Frame),step P (lone (b.at a todo) cs w) = .next (lone (b.at a' todo') cs w')) : Goes P A f g0 w0 Ex out todo a w:=by
 intro b cs hb hk;obtain ⟨v,w2,fr,h1,h2,h3⟩ := h b cs hb hk;exact ⟨v,w2,fr,h1,.head (hs b cs) h2,h3⟩
theorem zjv : ∀ (n : Nat) (l : List AV) (t : Nat),nthS (start n l) t = .und ∨ ∃ v,l[t]? = some v∧nthS (start n l) t = .val v .no
 | 0,_,t=>.inl (by simp [start,nthS])
 | n + 1,[],t=>by
  cases t with
  | zero=>exact .inl rfl
  | succ t =>
   rcases zjv n [] t with h | ⟨v,h,_⟩
   ·exact .inl h
   ·simp at h
 | n + 1,a :: l,t=>by
  cases t with
  | zero=>exact .inr ⟨a,rfl,rfl⟩
  | succ t=>exact zjv n l t
theorem zf8 : ∀ (n : Nat) (l : List AV),(start n l).length = n
 | 0,_=>rfl
 | n + 1,[]=>by simp [start,zf8 n]
 | n + 1,a :: l=>by simp [start,zf8 n]
end
section main
variable {P : Program} {A : List (Nat × Ann)} {cal : Oracle}
def RunOk (P : Program) (A : List (Nat × Ann)) (cal : Oracle) (n : Nat) : Prop :=
 ∀ f todo S out,run P A cal n f todo S = some out→∀ g0 w0 Ex a w,((getA A f).imp = false→ziy g0 w0 Ex)→zbn A g0 w0→Good g0 w0 Ex S a w→Goes P A f g0 w0 Ex out todo a w
theorem zp9 {n : Nat} (h : RunOk P A cal n) : zcn P A (calN P A cal n):=by
 intro f args H nx out hc;unfold calN at hc;split at hc
 ·rename_i fn hfn;split at hc
  ·rename_i c hb;split at hc
   ·rename_i hle;have hle' := zc3 hle;refine ⟨⟨fn,c,hfn,hb⟩,fun g w cargs hi hH hsh himp hgl hargs=>?_⟩;have hal := hargs.1;have hgood : Good g w (fun B=>g.role B ≠ .ext) ⟨start fn.ntmps args,[],H,nx,[]⟩ { tmps := cargs.toArray ++ Array.replicate (fn.ntmps - cargs.toArray.size) undef,defers := [] } w:=by
     refine ⟨g,hi,hH,fun d b hb=>(by cases hb),fun d b hb=>(by cases hb),?_,fun t=>?_,⟨Ext.refl _ _,rfl,rfl,rfl,Nat.le_refl _,fun _ _ _=>⟨rfl,rfl⟩,fun B hB=>.inr hB⟩,rfl⟩
     ·show (start fn.ntmps args).length = _;rw [zf8];simp only [Array.size_append,List.size_toArray,Array.size_replicate];omega
     ·show zbl g _ _ w t (nthS (start fn.ntmps args) t);rcases zjv fn.ntmps args t with h1 | ⟨v,h1,h2⟩
      ·rw [h1]; trivial
      ·rw [h2];refine ⟨?_,trivial⟩;obtain ⟨u,hu,hr⟩ := hargs.get h1;have hlt : t < cargs.length := (List.getElem?_eq_some_iff.1 hu).1;have : (cargs.toArray ++ Array.replicate (fn.ntmps - cargs.toArray.size) undef).getD t undef = u:=by
        rw [Array.getD_eq_getD_getElem?,Array.getElem?_append_left (by simpa using hlt)];simp [hu]
       show Rep g w ((cargs.toArray ++ Array.replicate (fn.ntmps - cargs.toArray.size) undef).getD t undef) v;rw [this];exact hr
    intro cs
    let b : Frame := { (default : Frame) with fn := f,kind := .normal }
    have henter : Frame.enter P f cargs.toArray .normal = b.at { tmps := cargs.toArray ++ Array.replicate (fn.ntmps - cargs.toArray.size) undef,defers := [] } [.code c]:=by
     simp [Frame.enter,Frame.at,hfn,hb,b]
    obtain ⟨v,w',fr,⟨g',hret⟩,hs,hf,hl⟩ := h f [.code c] _ out hc g w (fun B=>g.role B ≠ .ext) _ w (fun h0=>⟨hi,fun B hB=>hB (himp h0 B)⟩) hgl hgood b cs rfl rfl;rw [henter];exact ⟨.returned v,w',fr,⟨v,g',rfl,hret⟩,hs,hf,hl⟩
   ·cases hc
  ·cases hc
 ·cases hc
theorem run_ok (hM : P.follows .mixedOrders = true) (hN : zgg P A) (hcal : zcn P A cal) : ∀ n,RunOk P A cal n
 | 0=>by
  intro f todo S out h;cases h
 | n + 1=>by
  have ih := run_ok hM hN hcal n;intro f todo S out h g0 w0 Ex a w hfr hgl hgood;simp only [run] at h;split at h
  ·cases h
  ·rename_i fn hfn;have ret : zpp P (getA A f) fn.results.toList S = some out→∀ todo,(∀ (b : Frame) (cs : List Frame),step P (lone (b.at a todo) cs w) = .next (lone { b.at a todo with mode := .returning } cs w))→Goes P A f g0 w0 Ex out todo a w:=by
    intro hr todo hs b cs hb hk;obtain ⟨g,hg⟩ := hgood;obtain ⟨v,hrun,hret⟩ := zuw hfn hr hg;refine ⟨v,w,_,hret,.one (hs b cs),hb,rfl,hg.nodef,hk,fn,by show P.funcs[b.fn]? = _; rw [hb]; exact hfn,hrun⟩
   split at h
   ·exact ret h _ (fun b cs=>step_end)
   ·exact (ih _ _ _ _ h _ _ _ _ _ hfr hgl hgood).step fun b cs=>step_inBlock
   ·exact (ih _ _ _ _ h _ _ _ _ _ hfr hgl hgood).step fun b cs=>step_inScope
   ·exact (ih _ _ _ _ h _ _ _ _ _ hfr hgl hgood).step fun b cs=>step_inLoop
   ·rename_i c k;split at h
    ·exact ret h _ (fun b cs=>step_ret)
    ·exact (ih _ _ _ _ h _ _ _ _ _ hfr hgl hgood).step fun b cs=>step_skip
    ·exact (ih _ _ _ _ h _ _ _ _ _ hfr hgl hgood).step fun b cs=>step_label
    ·exact (ih _ _ _ _ h _ _ _ _ _ hfr hgl hgood).step fun b cs=>step_seq
    ·rename_i x t e;obtain ⟨bv,hb,h2⟩ := bool?_some h;obtain ⟨g,hg⟩ := hgood;have hx := hg.ev x;rw [hb] at hx;have hx' := zc2 hx;have hlit : Rel g0 w0 Ex g (S.lit x bv) a w:=by
      cases x with
      | tmp d=>exact hg.lit hb
      | _=>exact hg
     rcases zgs h2 with ⟨rfl,h3⟩ | ⟨rfl,h3⟩
     ·exact (ih _ _ _ _ h3 _ _ _ _ _ hfr hgl ⟨g,hlit⟩).step fun b cs=>step_cond hx'
     ·exact (ih _ _ _ _ h3 _ _ _ _ _ hfr hgl ⟨g,hlit⟩).step fun b cs=>step_cond hx'
    ·exact (ih _ _ _ _ h _ _ _ _ _ hfr hgl hgood).step fun b cs=>step_block
    ·exact (ih _ _ _ _ h _ _ _ _ _ hfr hgl hgood).step fun b cs=>step_loop
    ·exact (ih _ _ _ _ h _ _ _ _ _ hfr hgl hgood).step fun b cs=>step_scope
    ·split at h
     ·rename_i k' hk';exact (ih _ _ _ _ h _ _ _ _ _ hfr hgl hgood).step fun b cs=>step_exit hk'
     ·cases h
    ·split at h
     ·rename_i k' hk';exact (ih _ _ _ _ h _ _ _ _ _ hfr hgl hgood).step fun b cs=>step_goto hk'
     ·cases h
    ·rename_i id ops draw;split at h
     ·
      have hw := ops_ok (g0 := g0) (w0 := w0) (Ex := Ex) (k := fun S'=>zfv (getA A f) id (S'.keep (nthN (getA A f).K id)) fun S''=>run P A cal n f k S'') (r := out) hN hcal hgl hfr (fun e a' w'=>e = .normal∧∃ S',Good g0 w0 Ex S' a' w'∧(zfv (getA A f) id (S'.keep (nthN (getA A f).K id)) fun S''=>run P A cal n f k S'') = some out)
       (fun S' a' w' hgd hk=>⟨rfl,S',hgd,hk⟩) ops.size 0 S a w (Nat.add_zero _) (by rw [List.drop_zero]; exact h) hgood
      rw [List.drop_zero] at hw;intro b cs hb hk;obtain ⟨e,a',w',⟨rfl,S',hgd,hrun⟩,harr⟩ := wp_ops _ a w hw b k cs;obtain ⟨g',hg'⟩ := hgd;obtain ⟨S2,hgd2,hrun2⟩ := zo8 hfr hrun ⟨g',hg'.keepm _⟩;obtain ⟨v,w2,fr,h1,h2,h3⟩ := ih _ _ _ _ hrun2 _ _ _ _ _ hfr hgl hgd2 b cs hb hk;exact ⟨v,w2,fr,h1,.head step_region (harr.trans h2),h3⟩
     ·
      obtain ⟨g,hg⟩ := hgood;have hg2 : Good g0 w0 Ex S a { w with drawn := w.drawn + 1 } := ⟨g,hg.world rfl rfl rfl rfl⟩;have hw := draw_ok (k := fun S'=>zfv (getA A f) id (S'.keep (nthN (getA A f).K id)) fun S''=>run P A cal n f k S'') (r := out) hN hcal hgl (fun e a' w'=>e = .normal∧∃ S',Good g0 w0 Ex S' a' w'∧(zfv (getA A f) id (S'.keep (nthN (getA A f).K id)) fun S''=>run P A cal n f k S'') = some out)
       (fun S' a' w' hgd hk=>⟨rfl,S',hgd,hk⟩) h hg2
      intro b cs hb hk;obtain ⟨e,a',w',⟨rfl,S',hgd,hrun⟩,harr⟩ := wp_region_any (id := id) hM hw b k cs;obtain ⟨g',hg'⟩ := hgd;obtain ⟨S2,hgd2,hrun2⟩ := zo8 hfr hrun ⟨g',hg'.keepm _⟩;obtain ⟨v,w2,fr,h1,h2,h3⟩ := ih _ _ _ _ hrun2 _ _ _ _ _ hfr hgl hgd2 b cs hb hk;exact ⟨v,w2,fr,h1,harr.trans h2,h3⟩
    ·cases h
   ·cases h
theorem zqr (hM : P.follows .mixedOrders = true) (hN : zgg P A) (hcal : zcn P A cal) (n : Nat) : zcn P A (calN P A cal n) := zp9 (run_ok hM hN hcal n)
theorem ztc : zcn P A fun _ _ _ _=>Option.none := fun _ _ _ _ _ h=>by cases h
end main
end
end Go.Vai
namespace Go.Proofs.YtfdklpkfpmkgeaaGreatDoor
section
open Go Go.Vai
def bdOk (x : Int) : Bool := decide (-1099511627776 ≤ x) && decide (x ≤ 1099511627776)
def dgP : AV→Option (Int × Int)
 | .agg [.int .i64 a,.int .i64 e]=>match bdOk a && bdOk e with
  | true=>some (a,e)
  | false=>none
 | _=>none
def dgPs : List AV→Option (List (Int × Int))
 | []=>some []
 | x :: l=>match dgP x with
  | some p=>match dgPs l with
   | some r=>some (p :: r)
   | none=>none
  | none=>none
def pAV (p : Int × Int) : AV := .agg [.int .i64 p.1,.int .i64 p.2]
def leP (p q : Int × Int) : Bool := decide (p.1 < q.1) || (decide (p.1 = q.1) && decide (p.2 ≤ q.2))
def insP (p : Int × Int) : List (Int × Int)→List (Int × Int)
 | []=>[p]
 | q :: l=>match leP p q with
  | true=>p :: q :: l
  | false=>q :: insP p l
def zec : List (Int × Int)→List (Int × Int)
 | []=>[]
 | p :: l=>insP p (zec l)
def ddP : List (Int × Int)→List (Int × Int)
 | []=>[]
 | p :: l=>match l with
  | []=>[p]
  | q :: _=>match decide (p = q) with
   | true=>ddP l
   | false=>p :: ddP l
def dgL (l : List AV) : Option (List (Int × Int)) := match Nat.ble l.length 1099511627776 with
 | true=>dgPs l
 | false=>none
def zlz (gs : List Nat) (l : List AV) : Option (Nat × List AV) := match gs with
 | [g]=>match Nat.beq g 50 with
  | true=>match dgL l with
   | some ds=>some (0,(zec ds).map pAV)
   | none=>none
  | false=>none
 | _=>none
def zef (gs : List Nat) (l : List AV) : Option (Nat × List AV) := match gs with
 | []=>match dgL l with
  | some ds=>some ((ddP ds).length,(ddP ds).map pAV ++ List.replicate (ds.length - (ddP ds).length) (pAV (0,0)))
  | none=>none
 | _=>none
end
section
open Go Go.Vai
def ann : List (Nat × Ann) := [(5,⟨[7,1048583,64,135,16777349,132,384,2944,23296,4503599627375360,64,98560,4611686018427486464,64,229632,73786976294838436096,229632,39614081257132168796772204800,64,64],false,[],[],[],[],false,none⟩),
 (14,⟨[0,10,134217730,1,18,48,1],false,[],[],[],[],false,none⟩),
 (16,⟨[2,8,136,4,2097152,4,4],false,[],[],[],[],false,none⟩),
 (18,⟨[1,9,25,57,32825,57,57,121,121,249,549755814137,249,505,1017,1017,1017,4503599627371513,249,580964351930795001,249,147578456189303784441,249,37778936366556789081081,249,9671406561420633025020921,249,2475880078575264149425619961,249,633825300114119204347978974201,249,162259276829213367895177637659641,2041,249,170141183460469231731687303715884106745,2041,249,57,4],false,[],[],[],[],false,none⟩),
 (19,⟨[1,9,25,57,32825,57,121,489,1001,1001,68719477673,1321,1168231105449,1961,70368744179113,1321,1125968626319785,1321,36028865738441129,1321,1152921573326324137,1321,36893488147419103657,1321,297,2345,12329,8233,57,4],false,[],[],[],[],false,none⟩),
 (20,⟨[5,517,28,36,36,100,262244,100,2147483748,100,8796093022308,28,28],false,[],[14],[],[(7,1)],false,none⟩),
 (21,⟨[2,10,10,57352,122888,57384,57352,57352,8,4],false,[],[7],[],[],true,none⟩),
 (22,⟨[3,67,16,16],false,[],[],[],[],false,none⟩),
 (29,⟨[1,17,4,4],false,[],[],[],[],false,none⟩),
 (34,⟨[3,131,16,16],false,[],[],[],[],false,none⟩),
 (35,⟨[5,13,1804,3852,1836,67372,1836,1836,1836,1804,1996,1996,1996,1996,1804,1804,4],false,[],[],[],[],false,none⟩),
 (37,⟨[1,4],false,[],[],[],[],false,none⟩),
 (38,⟨[7,263,775,16777991,775,1799,7941,16133,60165,41733,13061,288230376151716613,197381,131845,4869,9444732965739290443525,4869,1237940039285380274899140357,4869,775,192],false,[],[],[],[],false,none⟩),
 (39,⟨[1,9,25,281,25,4121,25,25,4],false,[],[],[],[],false,none⟩),
 (40,⟨[7,263,1073742087,192,775,549755814407,1649267442183,192,70918499992071,192,72058143793742343,192,36893488697174917639,192,9444732966289046241799,9444732966289046241799,3584,192,9903520314283042748948808199,12288,192,324518553658426726783705776390663,324518553658426726783705776390663,324518553658426726783705776390663,324518553658426726783156020576775,49669,213504,475136,192,192],false,[],[],[],[],false,none⟩),
 (41,⟨[31,4127,12319,17592186056735,12319,28703,144115188075884575,432345564227596319,57375,147573952589676470303,229405,884736,3072,40564819207303340847894502580255,3145728,3072,42535295865117307932921825928971034626,3072,3072,5575186299632655785383929568162090376523807,713623846352979940529142984724747568191381506,3072,3072,4218911,5846006549323611672814739330865132078623734374431,23384026197294446691258957323460528314494924890143,29360157,113246208,3072,803469022129495137770981046170581301261101496891396421853215,402653184,3072,105312291668557186697918027683670432318895095400549111254315180059,1610612736,3072,110427941548649020598956093796432407239217743554726184882600387580796955,2147491867,15032393753,55834583040,3072,3885337784451458141838923813647037813284813678104279042503624819477808570410417004546,3072,3072],false,[],[],[],[],false,none⟩),
 (42,⟨[257,13,131085,0,0],true,[],[],[],[],false,none⟩),
 (43,⟨[3,16],true,[],[],[],[],false,none⟩),
 (44,⟨[5,13,13,13,13,16777229,13,12,4],true,[],[3],[],[],false,none⟩),
 (45,⟨[1031,1,0],true,[],[],[],[],false,none⟩),
 (46,⟨[71,28741,61509,28997,30277,67139141,29253,28741,28741],true,[],[],[],[],true,none⟩),
 (47,⟨[2,12],false,[],[],[],[],true,none⟩),
 (48,⟨[9,9,25,7340057,15728665,7340121,7340121,7340121,7340121,281474984050777,7340121,144115188083195993,7340057,7340057,129127208515966861337,276701161105643274265,129127208515966861593,129127208515966861593,129127208515966861593,129127208515966862361,129127208515966861337,129127208515966861337,9,9,9086519502435948349928368576135177,19471113219505603606989361234575369,9086519502435948349928368576139273,9086519502435948349928368576163849,10642910485781762931580384850818904073,9086519502435948349928368576135177,1361138554203256289801848358095648985097,9086519502435948349928368576135177,9086519502435948349928368576135177],true,[],[],[],[],true,none⟩),
 (49,⟨[19,0],true,[],[],[],[],false,some (false,zlz)⟩),
 (50,⟨[12,524,16,16],false,[],[],[],[],false,none⟩),
 (51,⟨[1,257,4,9,8201,9,33554441,25,57,4294967353,57,17592186044473,57,57,9,4,4],true,[],[],[],[],false,some (true,zef)⟩),
 (52,⟨[12,32780,98316,48,294924,48,1081356,48,4227084,48,536870924,48,76,562949953421324,48,2305843009213693964,48,140,396,2066035336255469781388,4427218577690292388236,2066035336255469782412,2066035336255469787532,2066035336255469781388,2066035336255469781388,1237940039285380274899124616,48,8200,158456325028528675187087908872,48,48],false,[1],[],[],[],true,none⟩),
 (67,⟨[1,17,4,4],false,[],[],[],[],false,none⟩),
 (77,⟨[7,134,390,8582,390,390,64],false,[],[],[],[],false,none⟩),
 (78,⟨[1,9,25,537,25,2097177,25,25,4],false,[],[],[],[],false,none⟩),
 (79,⟨[5,5,21,134217749,12,53,274877906997,20,12,70368744177717,21,84,468,295147905179352826004,12,20,12,9444732965739290427413,21,12,33849922949209616891772949,72535549176877750482370581,33849922949209616891773973,316946499980006559991067575317,1045,20,12,33849922949209616891772949,12],true,[],[],[],[],false,none⟩),
 (80,⟨[1,17,16,2065,16,16777233,16,12],true,[],[],[],[],false,none⟩),
 (81,⟨[129,0,0],true,[],[],[],[],false,none⟩),
 (82,⟨[3,16],true,[],[],[],[],false,none⟩),
 (83,⟨[19,4115,12307,12307,12307,12307,12307,51,51,536870947,35,1,0,70368744181763,67,67,67,66,0,2361183241434822610947,131,131,131,131,131,1,0,1267650600228229401496703205379,259,259,1,0],true,[],[],[],[],false,none⟩),
 (84,⟨[0],true,[],[],[],[],false,none⟩),
 (85,⟨[71,28741,61509,28997,30277,67139141,29253,28741,28741],true,[],[],[],[],true,none⟩),
 (86,⟨[2,12],false,[],[],[],[],false,none⟩),
 (87,⟨[71,28741,61509,28997,30277,67139141,29253,28741,28741],true,[],[],[],[],true,none⟩),
 (88,⟨[2,12],false,[],[],[],[],false,none⟩),
 (89,⟨[21,917521,1966097,917649,34472081,918417,918417,281474977628305,917649,917649,917521,920721,933009,949393,941201,302231454903657294617745,941201,38685626227668133591538833,941201,79228162514264337593544891537,316912650057057350374176741521,936081,1034385,1034385,340282366920938463463374607431769129105,917521,917521],true,[],[],[],[],true,none⟩),
 (90,⟨[71,28741,61509,28997,30277,67139141,29253,28741,28741],true,[],[],[],[],true,none⟩),
 (91,⟨[2,12],false,[],[],[],[],false,none⟩),
 (92,⟨[71,28741,61509,28997,30277,67139141,29253,28741,28741],true,[],[],[],[],true,none⟩),
 (93,⟨[2,12],false,[],[],[],[],false,none⟩),
 (94,⟨[22,3602,7698,3730,265874,48,3602,48],false,[],[],[],[],true,none⟩),
 (97,⟨[12,14348,30732,14476,2111628,48,14348,776,8589934856,48,549755814152,1649267441928,48,18141941858312,18141941858312,48,140737488355336,48,48],false,[1],[],[],[],true,none⟩),
 (98,⟨[12,204,65736,48,16777288,48,2147483656,48,48],false,[1],[],[],[],true,none⟩),
 (99,⟨[6,48],false,[1],[],[],[],true,none⟩),
 (100,⟨[12,16396,48,76,204,972,8796093022412,204,36028797018964172,204,3272,3272,4835703278458516698824776,64,2475880078570760549798248512,48,48],false,[1],[],[],[],true,none⟩),
 (101,⟨[3,97,481,1073742304,3221225952,3221225952,3221225952,34359738368,16,69793218912,69793218912,69793218912,1099511627776,16,2200096997728,2200096997728,70368744177664,16,140738562097504,140738562097504,140738562097504,140737488355680,288230376151711744,16,16],false,[],[],[],[],true,none⟩),
 (113,⟨[1,8,24,4,72,4,264,264,264,264,264,264,264,4,65544,65544,4,524288,4,4],false,[],[],[],[],false,none⟩),
 (139,⟨[4097,2097153,6291457,6291457,6291457,6291457,1,17179869185,5,140737488355333,5,1],true,[],[],[],[],false,none⟩),
 (140,⟨[1,4],false,[],[],[],[],false,none⟩),
 (141,⟨[3,35,4294967331,35,16],true,[],[],[],[],false,none⟩),
 (142,⟨[1,4],false,[],[],[],[],false,none⟩),
 (143,⟨[1,4],false,[],[],[],[],false,none⟩),
 (145,⟨[25,89,217,1048793,217,473,536871385,88,549755813976,48,24,48,35184372089305,217,18889465931478580855001,48,473,4835703278458516698825177,48,217,48],true,[],[],[],[],false,none⟩),
 (146,⟨[3,16],false,[],[],[],[],false,none⟩),
 (147,⟨[1,4],false,[],[],[],[],false,none⟩),
 (148,⟨[3,897,1921,993,66465,32,16,897,0,16],true,[],[],[],[],false,none⟩),
 (149,⟨[1,9,9,265,9,32777,9,9,8,4],true,[],[],[],[],false,none⟩),
 (150,⟨[1,9,9,32777,9,8,4],true,[],[],[],[],false,none⟩),
 (151,⟨[5,4],true,[],[],[],[],false,none⟩),
 (152,⟨[6,70,4,4],false,[],[],[],[],true,none⟩),
 (153,⟨[1,16,48,12,144,12,528,12,2048,12,12],false,[],[],[],[],false,none⟩),
 (164,⟨[22,3606,7702,3734,265750,48,3606,8388630,48,48],false,[],[],[],[],true,none⟩),
 (184,⟨[3,16],false,[],[],[],[],false,none⟩),
 (185,⟨[3,16],false,[],[],[],[],false,none⟩),
 (186,⟨[5,13,13,12,4],true,[],[],[],[],false,none⟩),
 (187,⟨[5,13,2061,13,13,13,13,13,33554445,13,13,12,4,13,13,70368744177677,13,13,12,4],true,[],[],[],[],false,none⟩),
 (188,⟨[19,147,16,51,536870963,51,51,51,36028797018964019,16],true,[],[],[],[],false,none⟩),
 (212,⟨[3,387,899,419,65955,16,387,16],false,[],[],[],[],false,none⟩),
 (213,⟨[65,1,0],true,[],[],[],[],false,none⟩),
 (214,⟨[0],true,[],[],[],[],false,none⟩),
 (215,⟨[5,2053,4,13,13,13,13,12,4],true,[],[],[],[],false,none⟩),
 (231,⟨[5,13,29,21,20,524317,21,20,536870941,21,20,549755813909,21,20,70368744177685,21,20,4503599627370517,21,21,21,21,20,295147905179352825877,21,21,21,21,20,4],true,[],[],[],[],false,none⟩),
 (1000000,⟨[],false,[],[],[(3,[(.vs 1 true [(.str [123]),(.str [125]),(.str [40]),(.str [41]),(.str [59]),(.str [44]),(.str [61,61]),(.str [61]),(.str [33,61]),(.str [33]),(.str [60,61]),(.str [60]),(.str [62,61]),(.str [62]),(.str [43]),(.str [45]),(.str [42]),(.str [38,38]),(.str [124,124])])]),(4,[(.vs 1 true [(.str [116,121,112,101]),(.str [114,101,103,105,115,116,101,114]),(.str [99,111,117,110,116,101,114]),(.str [109,97,120]),(.str [115,101,116]),(.str [102,108,97,103]),(.str [111,112]),(.str [113,117,101,114,121]),(.str [105,110,100,101,120]),(.str [119,114,105,116,101]),(.str [97,100,100]),(.str [114,97,105,115,101]),(.str [105,110,115,101,114,116]),(.str [109,97,114,107]),(.str [105,102]),(.str [101,108,115,101]),(.str [105,110,116]),(.str [116,101,120,116]),(.str [98,111,111,108]),(.str [116,114,117,101]),(.str [102,97,108,115,101]),(.str [104,97,115]),(.str [115,105,122,101])])]),(5,[(.int .u64 1),(.int .u64 10),(.int .u64 100),(.int .u64 1000),(.int .u64 10000),(.int .u64 100000),(.int .u64 1000000),(.int .u64 10000000),(.int .u64 100000000),(.int .u64 1000000000),(.int .u64 10000000000),(.int .u64 100000000000),(.int .u64 1000000000000),(.int .u64 10000000000000),(.int .u64 100000000000000),(.int .u64 1000000000000000),(.int .u64 10000000000000000),(.int .u64 100000000000000000),(.int .u64 1000000000000000000),(.int .u64 10000000000000000000)]),(6,[(.iface 319 (.cptr [(.str [105,110,118,97,108,105,100,32,115,121,110,116,97,120])]))]),(7,[(.iface 319 (.cptr [(.str [118,97,108,117,101,32,111,117,116,32,111,102,32,114,97,110,103,101])]))]),(9,[(.int .u8 0),(.int .u8 1),(.int .u8 28),(.int .u8 2),(.int .u8 29),(.int .u8 14),(.int .u8 24),(.int .u8 3),(.int .u8 30),(.int .u8 22),(.int .u8 20),(.int .u8 15),(.int .u8 25),(.int .u8 17),(.int .u8 4),(.int .u8 8),(.int .u8 31),(.int .u8 27),(.int .u8 13),(.int .u8 23),(.int .u8 21),(.int .u8 19),(.int .u8 16),(.int .u8 7),(.int .u8 26),(.int .u8 12),(.int .u8 18),(.int .u8 6),(.int .u8 11),(.int .u8 5),(.int .u8 10),(.int .u8 9)]),(10,[(.int .u8 0),(.int .u8 1),(.int .u8 56),(.int .u8 2),(.int .u8 57),(.int .u8 49),(.int .u8 28),(.int .u8 3),(.int .u8 61),(.int .u8 58),(.int .u8 42),(.int .u8 50),(.int .u8 38),(.int .u8 29),(.int .u8 17),(.int .u8 4),(.int .u8 62),(.int .u8 47),(.int .u8 59),(.int .u8 36),(.int .u8 45),(.int .u8 43),(.int .u8 51),(.int .u8 22),(.int .u8 53),(.int .u8 39),(.int .u8 33),(.int .u8 30),(.int .u8 24),(.int .u8 18),(.int .u8 12),(.int .u8 5),(.int .u8 63),(.int .u8 55),(.int .u8 48),(.int .u8 27),(.int .u8 60),(.int .u8 41),(.int .u8 37),(.int .u8 16),(.int .u8 46),(.int .u8 35),(.int .u8 44),(.int .u8 21),(.int .u8 52),(.int .u8 32),(.int .u8 23),(.int .u8 11),(.int .u8 54),(.int .u8 26),(.int .u8 40),(.int .u8 15),(.int .u8 34),(.int .u8 20),(.int .u8 31),(.int .u8 10),(.int .u8 25),(.int .u8 14),(.int .u8 19),(.int .u8 9),(.int .u8 13),(.int .u8 8),(.int .u8 7),(.int .u8 6)])],[],false,none⟩)]
def goTo : List Nat→List Item→List Item
 | [],k=>k
 | 0 :: p,.code (.seq a b) :: k=>goTo p (.code a :: .code b :: k)
 | 2 :: p,.code (.block id b) :: k=>goTo p (.code b :: .inBlock id :: k)
 | 3 :: p,.code (.loop b) :: k=>goTo p (.code b :: .inLoop b :: k)
 | 4 :: p,.code (.scope b) :: k=>goTo p (.code b :: .inScope b :: k)
 | 5 :: p,_ :: k=>goTo p k
 | 6 :: p,.code (.cond _ t _) :: k=>goTo p (.code t :: k)
 | 7 :: p,.code (.cond _ _ e) :: k=>goTo p (.code e :: k)
 | 9 :: l :: p,k=>match gotoIn l k with
  | some k'=>goTo p k'
  | none=>[]
 | _,_=>[]
noncomputable def zao (f : Nat) : List Item := match Tryz.prog.funcs[f]? with
 | some fn=>match fn.body with
  | some c=>[.code c]
  | none=>[]
 | none=>[]
noncomputable def zu6 (f : Nat) (d : Nat) : Bool := match Tryz.prog.funcs[f]? with
 | some fn=>memN d (zh7 fn.results.toList)
 | none=>false
def mkL (l : List (Nat × Slot)) : Nat→Nat→List Slot
 | 0,_=>[]
 | n + 1,i=>(match l with
  | (t,s) :: r=>match Nat.beq t i with
   | true=>s :: mkL r n (i + 1)
   | false=>.und :: mkL ((t,s) :: r) n (i + 1)
  | []=>.und :: mkL [] n (i + 1))
def mkS (n : Nat) (l : List (Nat × Slot)) (L : List (Nat × Blk)) (H : Hp) (nx : Nat) : St := ⟨mkL l n 0,L,H,nx,[]⟩
noncomputable def zlu (cal : Oracle) (n : Nat) (f : Nat) (todo : List Item) (i : Nat) (S : St) : Option Out := match todo with
 | .code (.region id ops draw) :: k=>match draw with
  | false=>zcy Tryz.prog ann (getA ann f) (zu6 f) cal ops.toList (ops.toList.drop i) S fun S'=>zfv (getA ann f) id (S'.keep (nthN (getA ann f).K id)) fun S''=>run Tryz.prog ann cal n f k S''
  | true=>zpk Tryz.prog ann (getA ann f) (zu6 f) cal ops.toList (zav (zif ann ops (zb9 ops.toList []) ops.toList)) (zif ann ops (zb9 ops.toList []) ops.toList) i ((zif ann ops (zb9 ops.toList []) ops.toList).drop i) (ops.toList.drop i) S fun S' =>
   zfv (getA ann f) id (S'.keep (nthN (getA ann f).K id)) fun S''=>run Tryz.prog ann cal n f k S''
 | _=>none
def EvF (F : Nat→Option Out) (out : Out) : Prop := ∃ m,∀ n,m ≤ n→F n = some out
end
end Go.Proofs.YtfdklpkfpmkgeaaGreatDoor
namespace Go.Vai
section
open Go.RowKit
def zkr (W : World) (B : Nat) : Nat := match W.heap[B]? with
 | some (.cells c _ _)=>c.size
 | _=>0
def zcz (W : World) : G := ⟨fun _=>.ext,zkr W⟩
theorem zt5 (W : World) : Inv (zcz W) W:=by
 refine ⟨fun B hB=>⟨rfl,?_⟩,fun _ _ h=>(by cases h),fun _ _ h=>(by cases h),fun _ _ _ h=>(by cases h),fun _ _ _ h=>(by cases h)⟩;show zkr W B = 0;unfold zkr;rw [Array.getElem?_eq_none hB]
theorem zex {W : World} {B o : Nat} {u : Value} (h : W.cell? ⟨B,o,none⟩ = some u) : o < (zcz W).pub B:=by
 show o < zkr W B;unfold zkr;unfold World.cell? at h;simp only at h;cases hb : W.heap[B]? with
 | none=>rw [hb] at h; cases h
 | some x =>
  rw [hb] at h;cases x <;> simp_all;exact (Array.getElem?_eq_some_iff.1 h).1
theorem zw8 {P : Program} {A : List (Nat × Ann)} {cal : Oracle} (hcal : zcn P A cal) {f : Nat} {args : List AV} {out : Out} (h : cal f args Hp.none 0 = some out) {W : World} {cargs : List Value} (hrep : RepL (zcz W) W cargs args) (hgl : zbn A (zcz W) W) :
  Calls P f cargs.toArray W fun e w'=>∃ u g',e = .returned u∧Rep g' w' u out.v∧Below W.heap.size W w':=by
 obtain ⟨_,h2⟩ := hcal _ _ _ _ _ h;refine (h2 (zcz W) W cargs (zt5 W) ⟨fun _ _ hb=>(by cases hb),fun _ _ hB=>(by cases hB)⟩ (fun _=>.inl rfl) (fun _ _=>rfl) hgl hrep).mono ?_;rintro e w' ⟨v,g',rfl,hret⟩;exact ⟨v,g',rfl,hret.rep,⟨hret.fr.os,hret.fr.tape,hret.fr.output,hret.fr.size,fun B hB=>(hret.fr.same B hB (fun hx=>hx rfl)).1⟩⟩
theorem law_true {P : Program} {A : List (Nat × Ann)} {cal : Oracle} (hcal : zcn P A cal) {f : Nat} {args : List AV} {H : Hp} {nx : Nat} (h : cal f args Hp.none 0 = some ⟨.bool true,H,nx⟩) {W : World} {cargs : List Value} (hrep : RepL (zcz W) W cargs args) (hgl : zbn A (zcz W) W) :
  Calls P f cargs.toArray W fun e w'=>e = .returned (.bool true)∧Below W.heap.size W w':=by
 refine (zw8 hcal h hrep hgl).mono ?_;rintro e w' ⟨u,g',rfl,hr,hb⟩;rw [zc2 hr];exact ⟨rfl,hb⟩
theorem zrn {g : G} {w : World} : RepL g w [] [] := ⟨rfl,by simp⟩
theorem zhn {g : G} {w : World} {u : Value} {v : AV} {us : List Value} {vs : List AV} (h : Rep g w u v) (t : RepL g w us vs) : RepL g w (u :: us) (v :: vs):=by
 refine ⟨by simp [t.1],fun j u' c hu hc=>?_⟩;cases j with
 | zero=>simp at hu hc; subst hu hc; exact h
 | succ j=>exact t.2 j u' c (by simpa using hu) (by simpa using hc)
theorem zod {P : Program} {A : List (Nat × Ann)} (hM : P.follows .mixedOrders = true) (hN : zgg P A) (n : Nat) : ∀ d,zcn P A (lvl P A n d)
 | 0=>ztc
 | d + 1=>zqr hM hN (zod hM hN n d) n
end
section
def EvC (P : Program) (A : List (Nat × Ann)) (cal : Oracle) (g : Nat) (args : List AV) (H : Hp) (nx : Nat) (out : Out) : Prop := ∃ m,∀ n,m ≤ n→calN P A cal n g args H nx = some out
theorem EvC.uniq {P : Program} {A : List (Nat × Ann)} {cal : Oracle} {g : Nat} {args : List AV} {H : Hp} {nx : Nat} {o o' : Out} (h : EvC P A cal g args H nx o) (h' : EvC P A cal g args H nx o') : o = o':=by
 obtain ⟨m,hm⟩ := h;obtain ⟨m',hm'⟩ := h';have h1 := hm (m + m') (by omega);have h2 := hm' (m + m') (by omega);rw [h1] at h2;injection h2
open Classical in
noncomputable def calW (P : Program) (A : List (Nat × Ann)) (base : Oracle) : Nat→Oracle
 | 0=>base
 | d + 1=>fun g args H nx=>match base g args H nx with
  | some o=>some o
  | none=>if h : ∃ out,EvC P A (calW P A base d) g args H nx out then some h.choose else none
theorem zqu {P : Program} {A : List (Nat × Ann)} {base : Oracle} (hM : P.follows .mixedOrders = true) (hN : zgg P A) (hb : zcn P A base) : ∀ d,zcn P A (calW P A base d)
 | 0=>hb
 | d + 1=>by
  intro f args H nx out hc;unfold calW at hc;split at hc
  ·rename_i o ho;injection hc with hc;subst hc;exact hb _ _ _ _ _ ho
  ·split at hc
   ·rename_i h;injection hc with hc;obtain ⟨m,hm⟩ := h.choose_spec;rw [hc] at hm;exact zqr hM hN (zqu hM hN hb d) m _ _ _ _ _ (hm m (Nat.le_refl _))
   ·cases hc
theorem calW_of {P : Program} {A : List (Nat × Ann)} {base : Oracle} {d g : Nat} {args : List AV} {H : Hp} {nx : Nat} {out : Out} (h0 : base g args H nx = none) (h : EvC P A (calW P A base d) g args H nx out) : calW P A base (d + 1) g args H nx = some out:=by
 show (match base g args H nx with
  | some o=>some o
  | none=>_) = _
 rw [h0];simp only;have he : ∃ out,EvC P A (calW P A base d) g args H nx out := ⟨out,h⟩;rw [dif_pos he,he.choose_spec.uniq h]
theorem zvz {P : Program} {A : List (Nat × Ann)} {base : Oracle} {g : Nat} {args : List AV} {H : Hp} {nx : Nat} {out : Out} (h0 : base g args H nx = some out) : ∀ d,calW P A base d g args H nx = some out
 | 0=>h0
 | d + 1=>by
  show (match base g args H nx with
   | some o=>some o
   | none=>_) = _
  rw [h0]
def znt (g : Nat) (cal : Oracle) : Oracle := fun f args H nx=>match Nat.beq f g with
 | true=>match args with
  | []=>match H with
   | []=>match nx with
    | 0=>cal g [] Hp.none 0
    | _=>none
   | _=>none
  | _=>none
 | false=>none
theorem zst {P : Program} {A : List (Nat × Ann)} {cal : Oracle} (h : zcn P A cal) (g : Nat) : zcn P A (znt g cal):=by
 intro f args H nx out hc;unfold znt at hc;split at hc
 ·rename_i hf;obtain rfl := beqN hf;split at hc
  ·split at hc
   ·split at hc
    ·exact h _ _ _ _ _ hc
    ·cases hc
   ·cases hc
  ·cases hc
 ·cases hc
end
end Go.Vai
namespace Go.Proofs.YtfdklpkfpmkgeaaGreatDoor
section
open Go Go.Vai
open Classical in
noncomputable def lim (F : Nat→Option Out) : Option Out := if h : ∃ out,EvF F out then some h.choose else none
theorem EvF.uniq {F : Nat→Option Out} {o o' : Out} (h : EvF F o) (h' : EvF F o') : o = o':=by
 obtain ⟨m,hm⟩ := h;obtain ⟨m',hm'⟩ := h';have h1 := hm (m + m') (by omega);have h2 := hm' (m + m') (by omega);rw [h1] at h2;injection h2
theorem zkn {F : Nat→Option Out} {o : Out} (h : EvF F o) : lim F = some o:=by
 unfold lim;have he : ∃ out,EvF F out := ⟨o,h⟩;rw [dif_pos he,he.choose_spec.uniq h]
theorem zhd {F : Nat→Option Out} {o : Out} (h : lim F = some o) : EvF F o:=by
 unfold lim at h;split at h
 ·rename_i he;injection h with h;rw [← h];exact he.choose_spec
 ·cases h
theorem lim_ext {F G : Nat→Option Out} (h : ∀ o,EvF F o ↔ EvF G o) : lim F = lim G:=by
 cases hf : lim F with
 | some o=>exact (zkn ((h o).1 (zhd hf))).symm
 | none =>
  cases hg : lim G with
  | none=>rfl
  | some o =>
   rw [zkn ((h o).2 (zhd hg))] at hf;cases hf
theorem zhl (F : Nat→Option Out) (k : Nat) : lim (fun n=>F (n + k)) = lim F:=by
 refine lim_ext fun o=>⟨?_,?_⟩
 ·rintro ⟨m,hm⟩;refine ⟨m + k,fun n hn=>?_⟩;have := hm (n - k) (by omega);simp only at this
  rwa [show n - k + k = n by omega] at this
 ·rintro ⟨m,hm⟩;exact ⟨m,fun n hn=>hm _ (by omega)⟩
theorem lim_some (o : Out) : lim (fun _=>some o) = some o := zkn ⟨0,fun _ _=>rfl⟩
theorem zg5 : lim (fun _=>none) = none:=by
 cases h : lim (fun _=>none) with
 | none=>rfl
 | some o =>
  obtain ⟨m,hm⟩ := zhd h;cases hm m (Nat.le_refl _)
inductive Tr : Type 1
 | none
 | ret (o : Out)
 | br (c : Bool) (a b : Tr)
 | bind {α : Type} (o : Option α) (K : α→Tr)
 | call (g : Nat) (args : List AV) (H : Hp) (nx : Nat) (K : Out→Tr)
 | run (k : Nat) (p : List Nat) (S : St)
 | mid (k : Nat) (p : List Nat) (i : Nat) (S : St)
 | fnd (key : AV) (l : List (AV × AV)) (K : Option AV→Tr)
 | look (key : AV) (l : List (AV × AV)) (z : AV) (K : AV→Tr)
 | isb (v : AV) (K : Bool→Tr)
theorem eq1_ans (a b : AV) : (∀ (R : Type) (k : Bool→Option R),eq1 a b k = none) ∨ ∃ e,∀ (R : Type) (k : Bool→Option R),eq1 a b k = k e:=by
 cases a <;> cases b <;> first | exact Or.inl fun _ _=>rfl | exact Or.inr ⟨_,fun _ _=>rfl⟩ | skip
 rename_i i x j y;cases h : zdn i j with
 | true=>exact Or.inr ⟨decide (x = y),fun R k=>by show Vai.br (zdn i j) _ _ = _; rw [h]; rfl⟩
 | false=>exact Or.inl fun R k=>by show Vai.br (zdn i j) _ _ = _; rw [h]; rfl
def optE {R : Type} (r : Option AV) (n : R) (s : AV→R) : R := match r with
 | some v=>s v
 | none=>n
theorem zfb (key : AV) : ∀ l : List (AV × AV),(∀ (R : Type) (k : Option AV→Option R),zdl key l k = none) ∨ ∃ r,∀ (R : Type) (k : Option AV→Option R),zdl key l k = k r
 | []=>Or.inr ⟨none,fun _ _=>rfl⟩
 | (a,v) :: l=>by
  rcases eq1_ans key a with h | ⟨e,h⟩
  ·exact Or.inl fun R k=>h R _
  ·cases e with
   | true=>exact Or.inr ⟨some v,fun R k=>h R _⟩
   | false =>
    rcases zfb key l with h' | ⟨r,h'⟩
    ·exact Or.inl fun R k=>(h R _).trans (h' R k)
    ·exact Or.inr ⟨r,fun R k=>(h R _).trans (h' R k)⟩
noncomputable def Tr.at (cal : Oracle) (f : Nat) (n : Nat) : Tr→Option Out
 | .none=>Option.none
 | .ret o=>some o
 | .br c a b=>Vai.br c (a.at cal f n) (b.at cal f n)
 | .bind o K=>o.bind fun x=>(K x).at cal f n
 | .call g args H nx K=>(cal g args H nx).bind fun x=>(K x).at cal f n
 | .run k p S=>Vai.run Tryz.prog ann cal (n + k) f (goTo p (zao f)) S
 | .mid k p i S=>zlu cal (n + k) f (goTo p (zao f)) i S
 | .fnd key l K=>zdl key l fun r=>(K r).at cal f n
 | .look key l z K=>zdl key l fun r=>optE r ((K z).at cal f n) fun v=>(K v).at cal f n
 | .isb v K=>v.bool? fun b=>(K b).at cal f n
noncomputable def Rn (cal : Oracle) (f : Nat) (p : List Nat) (S : St) : Option Out := lim fun n=>Vai.run Tryz.prog ann cal n f (goTo p (zao f)) S
noncomputable def Mn (cal : Oracle) (f : Nat) (p : List Nat) (i : Nat) (S : St) : Option Out := lim fun n=>zlu cal n f (goTo p (zao f)) i S
noncomputable def Tr.lim (cal : Oracle) (f : Nat) : Tr→Option Out
 | .none=>Option.none
 | .ret o=>some o
 | .br c a b=>Vai.br c (a.lim cal f) (b.lim cal f)
 | .bind o K=>o.bind fun x=>(K x).lim cal f
 | .call g args H nx K=>(cal g args H nx).bind fun x=>(K x).lim cal f
 | .run _ p S=>Rn cal f p S
 | .mid _ p i S=>Mn cal f p i S
 | .fnd key l K=>zdl key l fun r=>(K r).lim cal f
 | .look key l z K=>zdl key l fun r=>optE r ((K z).lim cal f) fun v=>(K v).lim cal f
 | .isb v K=>v.bool? fun b=>(K b).lim cal f
theorem lim_tr (cal : Oracle) (f : Nat) (t : Tr) : Go.Proofs.YtfdklpkfpmkgeaaGreatDoor.lim (fun n=>t.at cal f n) = t.lim cal f:=by
 induction t with
 | none=>exact zg5
 | ret o=>exact lim_some o
 | br c a b iha ihb=>cases c <;> assumption
 | bind o K ih =>
  cases o with
  | none=>exact zg5
  | some x=>exact ih x
 | call g args H nx K ih =>
  show Go.Proofs.YtfdklpkfpmkgeaaGreatDoor.lim (fun n=>(cal g args H nx).bind fun x=>(K x).at cal f n) = (cal g args H nx).bind fun x=>(K x).lim cal f;cases cal g args H nx with
  | none=>exact zg5
  | some x=>exact ih x
 | run k p S=>exact zhl (fun n=>Vai.run Tryz.prog ann cal n f (goTo p (zao f)) S) k
 | mid k p i S=>exact zhl (fun n=>zlu cal n f (goTo p (zao f)) i S) k
 | fnd key l K ih =>
  rcases zfb key l with h | ⟨r,h⟩
  ·show Go.Proofs.YtfdklpkfpmkgeaaGreatDoor.lim (fun n=>zdl key l fun r=>(K r).at cal f n) = zdl key l fun r=>(K r).lim cal f;simp only [h];exact zg5
  ·show Go.Proofs.YtfdklpkfpmkgeaaGreatDoor.lim (fun n=>zdl key l fun r=>(K r).at cal f n) = zdl key l fun r=>(K r).lim cal f;simp only [h];exact ih r
 | look key l z K ih =>
  show Go.Proofs.YtfdklpkfpmkgeaaGreatDoor.lim (fun n=>zdl key l fun r=>optE r ((K z).at cal f n) fun v=>(K v).at cal f n) = zdl key l fun r=>optE r ((K z).lim cal f) fun v=>(K v).lim cal f;rcases zfb key l with h | ⟨r,h⟩
  ·simp only [h];exact zg5
  ·simp only [h];cases r with
   | none=>exact ih z
   | some v=>exact ih v
 | isb v K ih =>
  cases v <;> first | exact zg5 | exact ih _
theorem stRn {cal : Oracle} {f : Nat} {p : List Nat} {S : St} (K : Nat) {t : Tr} (h : ∀ n,Vai.run Tryz.prog ann cal (n + K) f (goTo p (zao f)) S = t.at cal f n) : Rn cal f p S = t.lim cal f:=by
 rw [← lim_tr];exact (zhl _ K).symm.trans (congrArg Go.Proofs.YtfdklpkfpmkgeaaGreatDoor.lim (funext h))
theorem stMn {cal : Oracle} {f : Nat} {p : List Nat} {i : Nat} {S : St} (K : Nat) {t : Tr} (h : ∀ n,zlu cal (n + K) f (goTo p (zao f)) i S = t.at cal f n) : Mn cal f p i S = t.lim cal f:=by
 rw [← lim_tr];exact (zhl _ K).symm.trans (congrArg Go.Proofs.YtfdklpkfpmkgeaaGreatDoor.lim (funext h))
section
variable (C : Nat→Oracle)
noncomputable def calL : Oracle := fun g args H nx=>lim fun d=>C d g args H nx
noncomputable def RL (f : Nat) (p : List Nat) (S : St) : Option Out := lim fun d=>Rn (C d) f p S
noncomputable def ML (f : Nat) (p : List Nat) (i : Nat) (S : St) : Option Out := lim fun d=>Mn (C d) f p i S
noncomputable def Tr.val (f : Nat) : Tr→Option Out
 | .none=>Option.none
 | .ret o=>some o
 | .br c a b=>Vai.br c (a.val f) (b.val f)
 | .bind o K=>o.bind fun x=>(K x).val f
 | .call g args H nx K=>(calL C g args H nx).bind fun x=>(K x).val f
 | .run _ p S=>RL C f p S
 | .mid _ p i S=>ML C f p i S
 | .fnd key l K=>zdl key l fun r=>(K r).val f
 | .look key l z K=>zdl key l fun r=>optE r ((K z).val f) fun v=>(K v).val f
 | .isb v K=>v.bool? fun b=>(K b).val f
theorem val_ev (f : Nat) (t : Tr) (o : Out) (h : t.val C f = some o) : EvF (fun d=>t.lim (C d) f) o:=by
 induction t with
 | none=>cases h
 | ret x=>injection h with h; subst h; exact ⟨0,fun _ _=>rfl⟩
 | br c a b iha ihb =>
  cases c with
  | true=>exact iha h
  | false=>exact ihb h
 | bind x K ih =>
  cases x with
  | none=>cases h
  | some y=>exact ih y h
 | call g args H nx K ih =>
  have h : (calL C g args H nx).bind (fun x=>(K x).val C f) = some o := h;cases hx : calL C g args H nx with
  | none=>rw [hx] at h; cases h
  | some x =>
   rw [hx] at h;obtain ⟨m,hm⟩ := ih x h;obtain ⟨k,hk⟩ := zhd hx;refine ⟨m + k,fun d hd=>?_⟩;show (C d g args H nx).bind (fun x=>(K x).lim (C d) f) = some o;have hk := hk d (by omega);simp only at hk;rw [hk];exact hm d (by omega)
 | run k p S=>exact zhd h
 | mid k p i S=>exact zhd h
 | fnd key l K ih =>
  rcases zfb key l with hf | ⟨r,hf⟩
  ·cases (hf _ _).symm.trans h
  ·have h := (hf _ _).symm.trans h;obtain ⟨m,hm⟩ := ih r h;exact ⟨m,fun d hd=>(hf _ _).trans (hm d hd)⟩
 | look key l z K ih =>
  rcases zfb key l with hf | ⟨r,hf⟩
  ·cases (hf _ _).symm.trans h
  ·have h := (hf _ _).symm.trans h;cases r with
   | none=>obtain ⟨m,hm⟩ := ih z h; exact ⟨m,fun d hd=>(hf _ _).trans (hm d hd)⟩
   | some v=>obtain ⟨m,hm⟩ := ih v h; exact ⟨m,fun d hd=>(hf _ _).trans (hm d hd)⟩
 | isb v K ih =>
  cases v <;> first | cases h | (obtain ⟨m,hm⟩ := ih _ h; exact ⟨m,fun d hd=>hm d hd⟩)
theorem stR {f : Nat} {p : List Nat} {S : St} (K : Nat) {t : Tr} (h : ∀ cal n,Vai.run Tryz.prog ann cal (n + K) f (goTo p (zao f)) S = t.at cal f n) {o : Out} (ho : t.val C f = some o) : RL C f p S = some o:=by
 refine zkn ?_;obtain ⟨m,hm⟩ := val_ev C f t o ho;exact ⟨m,fun d hd=>(stRn K (h (C d))).trans (hm d hd)⟩
theorem stM {f : Nat} {p : List Nat} {i : Nat} {S : St} (K : Nat) {t : Tr} (h : ∀ cal n,zlu cal (n + K) f (goTo p (zao f)) i S = t.at cal f n) {o : Out} (ho : t.val C f = some o) : ML C f p i S = some o:=by
 refine zkn ?_;obtain ⟨m,hm⟩ := val_ev C f t o ho;exact ⟨m,fun d hd=>(stMn K (h (C d))).trans (hm d hd)⟩
end
theorem goTo_nil (k : List Item) : goTo [] k = k := by unfold goTo; rfl
theorem calR (base : Oracle) {g : Nat} {args : List AV} {H : Hp} {nx : Nat} {S : St} (hg : base g args H nx = none) (hc : ∀ cal n,calN Tryz.prog ann cal n g args H nx = Vai.run Tryz.prog ann cal n g (zao g) S) {o : Out} (ho : RL (calW Tryz.prog ann base) g [] S = some o) : calL (calW Tryz.prog ann base) g args H nx = some o:=by
 obtain ⟨m,hm⟩ := zhd ho;refine zkn ⟨m + 1,fun d hd=>?_⟩;obtain ⟨d,rfl⟩ : ∃ e,d = e + 1 := ⟨d - 1,by omega⟩;have hm := hm d (by omega);obtain ⟨k,hk⟩ := zhd hm;refine calW_of hg ⟨k,fun n hn=>?_⟩;have hk := hk n hn;simp only [goTo_nil] at hk;rw [hc];exact hk
theorem calB (base : Oracle) {g : Nat} {args : List AV} {H : Hp} {nx : Nat} {o : Out} (hg : base g args H nx = some o) : calL (calW Tryz.prog ann base) g args H nx = some o :=
 zkn ⟨0,fun d _=>zvz hg d⟩
theorem zv0 {C : Nat→Oracle} {g : Nat} {args : List AV} {H : Hp} {nx : Nat} {o : Out} (h : calL C g args H nx = some o) : ∃ d,C d g args H nx = some o:=by
 obtain ⟨m,hm⟩ := zhd h;exact ⟨m,hm m (Nat.le_refl _)⟩
theorem ble_t {a b : Nat} (h : a ≤ b) : Nat.ble a b = true := by rw [Nat.ble_eq]; exact h
theorem br_t {R : Type} {c : Bool} {x y : Option R} (h : c = true) : Vai.br c x y = x := by rw [h]; rfl
theorem br_f {R : Type} {c : Bool} {x y : Option R} (h : c = false) : Vai.br c x y = y := by rw [h]; rfl
theorem za0 {R : Type} (x y : Option R) : Vai.br true x y = x := rfl
theorem zaw {R : Type} (x y : Option R) : Vai.br false x y = y := rfl
theorem zk6 (l : List UInt8) : zbz (l.map zbq) = some l:=by
 induction l with
 | nil=>rfl
 | cons x l ih =>
  show (zbz (l.map zbq)).bind _ = _;rw [ih];simp
theorem eqS_refl (l : List UInt8) : eqS l l = true:=by
 induction l with
 | nil=>rfl
 | cons x l ih=>simp [eqS,ih]
theorem zdg (a b : List UInt8) : eqS a b = true ↔ a = b:=by
 constructor
 ·induction a generalizing b with
  | nil=>cases b <;> simp [eqS]
  | cons x a ih =>
   cases b with
   | nil=>simp [eqS]
   | cons y b =>
    intro h;unfold eqS at h;split at h
    ·rename_i hx;have hx := beqN hx;rw [ih b h,UInt8.toNat_inj.1 hx]
    ·cases h
 ·rintro rfl; exact eqS_refl a
theorem mixed : Tryz.prog.follows .mixedOrders = true := by kernel_rfl
theorem names : (Tryz.prog.funcs.toList.all fun fn=>!(fn.name == "runtime.NumGoroutine")) = true := by kernel_rfl
theorem noNum (f : Nat) (fn : Func) (h : Tryz.prog.funcs[f]? = some fn) : fn.name ≠ "runtime.NumGoroutine":=by
 intro he;have h1 := List.all_eq_true.1 names fn (Array.mem_toList_iff.2 (Array.mem_of_getElem? h));rw [he] at h1;simp at h1
def zt3 (a b : Oracle) : Oracle := fun g args H nx=>match a g args H nx with
 | some o=>some o
 | Option.none=>b g args H nx
theorem zso {a b : Oracle} (ha : zcn Tryz.prog ann a) (hb : zcn Tryz.prog ann b) : zcn Tryz.prog ann (zt3 a b):=by
 intro f args H nx out hc;unfold zt3 at hc;split at hc
 ·rename_i o ho;injection hc with hc;subst hc;exact ha _ _ _ _ _ ho
 ·exact hb _ _ _ _ _ hc
end
end Go.Proofs.YtfdklpkfpmkgeaaGreatDoor
