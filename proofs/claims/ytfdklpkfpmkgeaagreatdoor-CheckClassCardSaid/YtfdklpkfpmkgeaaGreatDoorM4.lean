/- Every operation; a region's list of operations. -/
import Derived.Test.YtfdklpkfpmkgeaaGreatDoorM3
set_option linter.unusedSimpArgs false
set_option linter.unusedVariables false
set_option linter.unusedSectionVars false
set_option linter.unnecessarySimpa false
section
namespace Go.Vai
section
variable {X : Nat→Prop} {g0 : G} {w0 : World} {Ex : Nat→Prop} {g g' : G} {S : St} {a : Act} {w w' : World} {P : Program} {R : Type} {r : R} {o : Oper} {A : List (Nat × Ann)} {cal : Oracle}
theorem one_arg {α : Type} {xs : Array α} {x : α} (h : xs.toList = [x]) : xs = #[x]:=by
 apply Array.toList_inj.1; simpa using h
theorem two_args {α : Type} {xs : Array α} {x y : α} (h : xs.toList = [x,y]) : xs = #[x,y]:=by
 apply Array.toList_inj.1; simpa using h
theorem opBuiltin_step {c : Call} {b : Builtin} {k : St→Option R} (ho : o.op = .call c) (hb : c.callee = .builtin b) (h : opBuiltin P b o c.argTypes.toList c.args.toList S k = some r) (hg : Rel g0 w0 Ex g S a w) :
  StepTo P o a w g0 w0 Ex k r:=by
 obtain ⟨callee,args,tys⟩ := c
 simp only at hb h
 subst hb
 unfold opBuiltin at h
 split at h
 ·split at h
  ·rename_i t x ht hx
   obtain rfl := one_arg ht
   obtain rfl := one_arg hx
   obtain ⟨n,hrun,hk⟩ := lenOf_sound (ty := o.type) h (hg.evT (P := P) t x)
   exact .val hg (by simp only [execOp,ho,resolve,invoke,builtin,Sem.run_bind,Sem.run_pure,Result.andThen_ok,List.map_toArray,List.map_cons,List.map_nil,hrun]) (.int _ _) hk
  ·cases h
 ·split at h
  ·rename_i t t2 x y ht hx
   obtain rfl := two_args ht
   obtain rfl := two_args hx
   exact opAppend_step ho h hg
  ·cases h
 ·split at h
  ·rename_i t t2 x y ht hx
   obtain rfl := two_args ht
   obtain rfl := two_args hx
   exact opCopy_step ho h hg
  ·cases h
 ·split at h
  ·rename_i x l hx
   obtain ⟨u',v,hrun,hrep,hk⟩ := minMax_sound (P := P) false hg l _ _ (hg.ev x) h
   refine .val hg (u := u') ?_ hrep hk
   have e : (args.map a.eval).toList = a.eval x :: l.map a.eval := by rw [Array.toList_map,hx]; rfl
   simp only [execOp,ho,resolve,invoke,builtin,Sem.run_bind,Sem.run_pure,Result.andThen_ok,Builtin.min_,e]
   rw [hrun]
   rfl
  ·cases h
 ·split at h
  ·rename_i x l hx
   obtain ⟨u',v,hrun,hrep,hk⟩ := minMax_sound (P := P) true hg l _ _ (hg.ev x) h
   refine .val hg (u := u') ?_ hrep hk
   have e : (args.map a.eval).toList = a.eval x :: l.map a.eval := by rw [Array.toList_map,hx]; rfl
   simp only [execOp,ho,resolve,invoke,builtin,Sem.run_bind,Sem.run_pure,Result.andThen_ok,Builtin.max_,e]
   rw [hrun]
   rfl
  ·cases h
 ·cases h
theorem absOp_ok {an : Ann} {isRes : Nat→Bool} {k : St→Option R} (hN : ∀ (f : Nat) (fn : Func),P.funcs[f]? = some fn→fn.name ≠ "runtime.NumGoroutine") (hcal : CalOk P A cal) (hgl : GlobOk A g0 w0)
  (h : absOp P A an isRes cal o S k = some r) (hg : Rel g0 w0 Ex g S a w) : OpOk P o a w g0 w0 Ex k r:=by
 unfold absOp at h
 cases ho : o.op <;> rw [ho] at h <;> simp only at h <;> try (cases h; done)
 case move x=>exact (opMove_step ho h hg).ok
 case assign x=>exact (opAssign_step ho h hg).ok
 case pick c x y=>exact (pick_step ho h hg).ok
 case alloc e =>
  split at h
  ·rename_i z hz; exact (alloc_step ho hz h hg).ok
  ·cases h
 case box e x =>
  split at h
  ·exact (cbox_step ho h hg).ok
  ·exact (box_step ho h hg).ok
 case makeInterface t x=>exact (opIface_step ho h hg).ok
 case makeMap t r =>
  split at h
  ·exact (opMakeMap_step ho h hg).ok
  ·cases h
 case insert t m key v =>
  split at h
  ·rename_i hd; exact (opMapUpdate_step (.inl ho) hd h hg).ok
  ·cases h
 case mapUpdate t m key v =>
  split at h
  ·rename_i hd; exact (opMapUpdate_step (.inr ho) hd h hg).ok
  ·cases h
 case lookup t x i ok=>exact (opLookup_step ho h hg).ok
 case build t parts=>exact (opBuild_step ho h hg).ok
 case buildSlice t len parts=>exact (opBuildSlice_step ho h hg).ok
 case load t x=>exact (opLoadA_step ho (hgl.ext hg.fr.ext) h hg).ok
 case store t x y =>
  split at h
  ·rename_i hd; exact (opStore_step ho hd h hg).ok
  ·cases h
 case nilCheck x=>exact (opNilCheck_step ho h hg).ok
 case binOp op t x y t2 =>
  obtain ⟨u,v,hrun,hrep,hk⟩ := opBinT_sound (xo := x) (yo := y) h (hg.ev x) (hg.ev y)
  exact (StepTo.val hg (by simp only [execOp,ho]; rw [Sem.run_bind,hrun]; rfl) hrep hk).ok
 case unOp op t x =>
  obtain ⟨u,v,hrun,hrep,hk⟩ := opUn_sound (P := P) h (hg.ev x)
  exact (StepTo.val hg (by simp only [execOp,ho]; rw [Sem.run_bind,hrun]; rfl) hrep hk).ok
 case convert s d x=>exact (opConvert_step ho h hg).ok
 case makeSlice t n c=>exact (opMake_step ho h hg).ok
 case slice t x lo hi mx=>exact (opSlice_step ho h hg).ok
 case fieldAddr t x f=>exact (opFieldAddr_step ho h hg).ok
 case field t x f =>
  obtain ⟨u,v,hrun,hrep,hk⟩ := opField_sound h (hg.ev x)
  exact (StepTo.val hg (by simp only [execOp,ho]; rw [Sem.run_bind,hrun]; rfl) hrep hk).ok
 case indexAddr t x i=>exact (opIndexAddrA_step ho (hgl.ext hg.fr.ext) h hg).ok
 case index t x i =>
  obtain ⟨u,v,hrun,hrep,hk⟩ := opIndex_sound h (hg.ev x) (hg.ev i)
  exact (StepTo.val hg (by simp only [execOp,ho]; rw [Sem.run_bind,hrun]; rfl) hrep hk).ok
 case extract x i=>exact (opExtract_step ho h hg).ok
 case call c =>
  split at h
  ·rename_i b hb; exact (opBuiltin_step ho hb h hg).ok
  ·rename_i fo hf; exact opCall_ok hN hcal hgl ho hf h hg
  ·cases h
theorem absOpM_ok {an : Ann} {isRes : Nat→Bool} {k : St→Option R} (hN : ∀ (f : Nat) (fn : Func),P.funcs[f]? = some fn→fn.name ≠ "runtime.NumGoroutine") (hcal : CalOk P A cal) (hgl : GlobOk A g0 w0) (hf : an.imp = false→Fresh0 g0 w0 Ex)
  (h : absOpM P A an isRes cal o S k = some r) (hg : Rel g0 w0 Ex g S a w) : OpOk P o a w g0 w0 Ex k r:=by
 unfold absOpM at h
 split at h
 ·exact absOp_ok hN hcal hgl h hg
 ·split at h
  ·rename_i c hop
   split at h
   ·rename_i bi hbi
    split at h
    ·split at h
     ·rename_i st st2 x y hty har
      have ho : o.op = .call { callee := .builtin .append,args := #[x,y],argTypes := #[st,st2] }:=by
       rw [hop]
       congr 1
       obtain ⟨cal,args,tys⟩ := c
       simp only at hbi hty har
       rw [hbi,two_args har,two_args hty]
      split at h
      ·exact (opAppendM_step ho h hg).ok
      ·exact (opAppendT_step ho hf h hg).ok
     ·cases h
    ·cases h
   ·cases h
  ·cases h
theorem guard?_some {v : AV} {kb : Bool→Option R} {ks : Option R} (h : v.guard? kb ks = some r) : (∃ b,v = .bool b∧kb b = some r) ∨ (v = .tuple []∧ks = some r):=by
 unfold AV.guard? at h
 split at h
 ·exact .inl ⟨_,rfl,h⟩
 ·exact .inr ⟨rfl,h⟩
 ·cases h
theorem dstOf_get (all : Array Oper) (j : Nat) : dstOf all.toList j = (all[j]?).bind (·.dst):=by
 have : ∀ (l : List Oper) (j : Nat),dstOf l j = (l[j]?).bind (·.dst):=by
  intro l
  induction l with
  | nil=>intro j; simp [dstOf]
  | cons x l ih=>intro j; cases j <;> simp [dstOf,ih]
 rw [this]; simp
theorem Rel.lit (hg : Rel g0 w0 Ex g S a w) {d : Nat} {b : Bool} (hd : (S.slot d).av = .bool b) : Rel g0 w0 Ex g (S.put d (.val (.bool b) .no)) a w:=by
 cases hs : S.slot d with
 | und=>rw [hs] at hd; cases hd
 | lp e off=>rw [hs] at hd; cases hd
 | mp e=>rw [hs] at hd; cases hd
 | val v f =>
  rw [hs] at hd
  have hv : v = .bool b := hd
  subst hv
  exact hg.reflag hs (f' := .no) trivial (by simp) (by simp)
theorem Rel.skip (hg : Rel g0 w0 Ex g S a w) (dst : Option Nat) : Rel g0 w0 Ex g (S.putd dst (.val (.tuple []) .no)) (a.put dst undef) w :=
 hg.putv (f := .no) dst (.tuple [] [] rfl (by simp)) (fun _ _=>trivial) (by simp) (by simp)
theorem guarded_ok {an : Ann} {isRes : Nat→Bool} {all : Array Oper} {k : St→Option R} (hN : ∀ (f : Nat) (fn : Func),P.funcs[f]? = some fn→fn.name ≠ "runtime.NumGoroutine") (hcal : CalOk P A cal) (hgl : GlobOk A g0 w0) (hf : an.imp = false→Fresh0 g0 w0 Ex) {i : Nat} (hi : all[i]? = some o)
  (h : absOps P A an isRes cal all.toList [o] S k = some r) (hg : Rel g0 w0 Ex g S a w) (Q : Exit→Act→World→Prop) (K : Act→World→Prop)
  (hK : ∀ S' a' w',Good g0 w0 Ex S' a' w'→k S' = some r→K a' w') : wpOp P all Q i K a w:=by
 unfold wpOp
 rw [hi]
 simp only
 have run : ∀ {S1 : St},Rel g0 w0 Ex g S1 a w→(absOpM P A an isRes cal o S1 fun S'=>absOps P A an isRes cal all.toList [] S' k) = some r→o.wp P a w K Q:=by
  intro S1 h1 h2
  have := absOpM_ok hN hcal hgl hf h2 h1 Q
  exact Oper.wp_mono (fun a' w' ⟨S',hgd,hk⟩=>hK S' a' w' hgd hk) this
 unfold absOps at h
 cases hgd : o.guard with
 | none =>
  rw [hgd] at h
  simp only at h
  rw [if_pos (by simp [Region.wanted,hgd])]
  exact .inl (run hg h)
 | some jw =>
  obtain ⟨j,want⟩ := jw
  rw [hgd] at h
  simp only at h
  cases hd : dstOf all.toList j with
  | none=>rw [hd] at h; cases h
  | some d =>
   rw [hd] at h
   simp only at h
   have hd' := hd
   rw [dstOf_get] at hd'
   have hev := hg.ev (.tmp d)
   have hy : ∀ v : Value,a.eval (.tmp d) = v→(∀ b,v = .bool b→yielded all a.tmps j = some b)∧((∀ b,v ≠ .bool b)→yielded all a.tmps j = none):=by
    intro v hv
    have hv' : a.tmps.getD d undef = v := hv
    rw [Array.getD_eq_getD_getElem?] at hv'
    unfold yielded
    rw [hd']
    simp only [Option.bind_some]
    cases ht : a.tmps[d]? with
    | none =>
     rw [ht] at hv'
     refine ⟨fun b hb=>?_,fun _=>rfl⟩
     subst hb
     cases hv'
    | some u =>
     rw [ht] at hv'
     simp only [Option.getD_some] at hv'
     subst hv'
     refine ⟨fun b hb=>by subst hb; rfl,fun hn=>?_⟩
     cases u <;> first | rfl | exact absurd rfl (hn _)
   rcases guard?_some h with ⟨b,hb,h2⟩ | ⟨hb,h2⟩
   ·have hrb : Rep g w (a.eval (.tmp d)) (.bool b):=by
     have : S.ev (.tmp d) = .bool b := hb
     rw [← this]; exact hev
    have hvb := rep_bool hrb
    have hyb := (hy _ hvb).1 b rfl
    have hlit := hg.lit hb
    rcases br_some h2 with ⟨rfl,h3⟩ | ⟨rfl,h3⟩
    ·cases want with
     | true =>
      rw [if_pos (by simp [Region.wanted,hgd,hyb])]
      exact .inl (run hlit h3)
     | false =>
      rw [if_neg (by simp [Region.wanted,hgd,hyb])]
      exact hK _ _ _ ⟨g,hlit.skip o.dst⟩ h3
    ·cases want with
     | false =>
      rw [if_pos (by simp [Region.wanted,hgd,hyb])]
      exact .inl (run hlit h3)
     | true =>
      rw [if_neg (by simp [Region.wanted,hgd,hyb])]
      exact hK _ _ _ ⟨g,hlit.skip o.dst⟩ h3
   ·have hrb : Rep g w (a.eval (.tmp d)) (.tuple []):=by
     have : S.ev (.tmp d) = .tuple [] := hb
     rw [← this]; exact hev
    obtain ⟨us,hvt,_⟩ := rep_tuple hrb
    have hyn := (hy _ hvt).2 (by simp)
    rw [if_neg (by simp [Region.wanted,hgd,hyn])]
    exact hK _ _ _ ⟨g,hg.skip o.dst⟩ h2
theorem absOps_cons {an : Ann} {isRes : Nat→Bool} {all : List Oper} {os : List Oper} {k : St→Option R} :
  absOps P A an isRes cal all (o :: os) S k = absOps P A an isRes cal all [o] S fun S'=>absOps P A an isRes cal all os S' k:=by
 conv=>lhs; unfold absOps
 conv=>rhs; unfold absOps
 rfl
theorem ops_ok {an : Ann} {isRes : Nat→Bool} {all : Array Oper} {k : St→Option R} (hN : ∀ (f : Nat) (fn : Func),P.funcs[f]? = some fn→fn.name ≠ "runtime.NumGoroutine") (hcal : CalOk P A cal) (hgl : GlobOk A g0 w0) (hf : an.imp = false→Fresh0 g0 w0 Ex) (Q : Exit→Act→World→Prop)
  (hQ : ∀ S' a' w',Good g0 w0 Ex S' a' w'→k S' = some r→Q .normal a' w') :
  ∀ (n i : Nat) (S : St) (a : Act) (w : World),n + i = all.size→absOps P A an isRes cal all.toList (all.toList.drop i) S k = some r→Good g0 w0 Ex S a w→wpOps P all Q ((List.range all.size).drop i) a w
 | 0,i,S,a,w,hi,h,hg=>by
  have e1 : all.toList.drop i = [] := List.drop_eq_nil_of_le (by rw [Array.length_toList]; omega)
  have e2 : (List.range all.size).drop i = [] := List.drop_eq_nil_of_le (by rw [List.length_range]; omega)
  rw [e1] at h
  rw [e2]
  exact hQ S a w hg h
 | n + 1,i,S,a,w,hi,h,hg=>by
  have hlt : i < all.size := by omega
  have e1 : all.toList.drop i = all[i] :: all.toList.drop (i + 1):=by
   rw [List.drop_eq_getElem_cons (by rw [Array.length_toList]; exact hlt)]; simp
  have e2 : (List.range all.size).drop i = i :: (List.range all.size).drop (i + 1):=by
   rw [List.drop_eq_getElem_cons (by rw [List.length_range]; exact hlt)]; simp
  rw [e1,absOps_cons] at h
  rw [e2,wpOps_cons]
  obtain ⟨g,hg⟩ := hg
  exact guarded_ok hN hcal hgl hf (by rw [Array.getElem?_eq_getElem hlt]) h hg Q _ fun S' a' w' hgd hk=>ops_ok hN hcal hgl hf Q hQ n (i + 1) S' a' w' (by omega) hk hgd
end
end Go.Vai
end
section
namespace Go.Vai
def Par {T : Type} (F : ∀ R : Type,(T→Option R)→Option R) : Prop := (∀ R k,F R k = none) ∨ ∃ v,∀ R k,F R k = k v
namespace Par
variable {T U : Type}
theorem none' : Par (T := T) fun _ _=>none := .inl fun _ _=>rfl
theorem ret (v : T) : Par fun _ k=>k v := .inr ⟨v,fun _ _=>rfl⟩
theorem br {b : Bool} {F G : ∀ R : Type,(T→Option R)→Option R} (h : b = true→Par F) (h2 : b = false→Par G) : Par fun R k=>Vai.br b (F R k) (G R k):=by
 cases b
 ·exact h2 rfl
 ·exact h rfl
theorem brn {b : Bool} {F : ∀ R : Type,(T→Option R)→Option R} (h : Par F) : Par fun R k=>Vai.br b (F R k) none := br (fun _=>h) fun _=>none'
theorem bind {A : Type} {o : Option A} {F : A→∀ R : Type,(T→Option R)→Option R} (h : ∀ a,Par (F a)) : Par fun R k=>o.bind fun a=>F a R k:=by
 cases o with
 | none=>exact none'
 | some a=>exact h a
theorem int? {v : AV} {F : IntKind→Int→∀ R : Type,(T→Option R)→Option R} (h : ∀ i n,Par (F i n)) : Par fun R k=>v.int? fun i n=>F i n R k:=by
 cases v <;> first | exact h _ _ | exact none'
theorem bool? {v : AV} {F : Bool→∀ R : Type,(T→Option R)→Option R} (h : ∀ b,Par (F b)) : Par fun R k=>v.bool? fun b=>F b R k:=by
 cases v <;> first | exact h _ | exact none'
theorem str? {v : AV} {F : List UInt8→∀ R : Type,(T→Option R)→Option R} (h : ∀ b,Par (F b)) : Par fun R k=>v.str? fun b=>F b R k:=by
 cases v <;> first | exact h _ | exact none'
theorem agg? {v : AV} {F : List AV→∀ R : Type,(T→Option R)→Option R} (h : ∀ b,Par (F b)) : Par fun R k=>v.agg? fun b=>F b R k:=by
 cases v <;> first | exact h _ | exact none'
theorem cells? {v : AV} {F : List AV→∀ R : Type,(T→Option R)→Option R} (h : ∀ b,Par (F b)) : Par fun R k=>v.cells? fun b=>F b R k:=by
 cases v <;> first | exact h _ | exact none'
theorem comp {F : ∀ R : Type,(T→Option R)→Option R} {G : T→∀ R : Type,(U→Option R)→Option R} (h : Par F) (h2 : ∀ v,Par (G v)) : Par fun R k=>F R fun v=>G v R k:=by
 rcases h with h | ⟨v,h⟩
 ·exact .inl fun R k=>h R _
 ·rcases h2 v with h2 | ⟨u,h2⟩
  ·exact .inl fun R k=>(h R _).trans (h2 R k)
  ·exact .inr ⟨u,fun R k=>(h R _).trans (h2 R k)⟩
end Par
section
variable {P : Program}
theorem par_tAggK (t : TypeId) : Par fun _ k=>tAggK P t k:=by
 unfold tAggK
 cases P.underlying t with
 | none=>exact Par.none'
 | some d=>cases d <;> exact Par.ret _
theorem par_opInt (op : BinOp) (i : IntKind) (a b : Int) : Par fun _ k=>opInt op i a b k:=by
 cases op <;> first | exact Par.ret _ | exact Par.none' | exact Par.br (fun _=>Par.none') fun _=>Par.ret _
theorem par_opStr (op : BinOp) (a b : List UInt8) : Par fun _ k=>opStr op a b k:=by
 cases op <;> first | exact Par.ret _ | exact Par.none' | exact Par.brn (Par.ret _)
theorem par_opBin (op : BinOp) (x y : AV) : Par fun _ k=>opBin op x y k:=by
 cases x <;> first | exact Par.none' | skip
 ·rename_i i a
  refine Par.int? fun j b=>?_
  have d : Par fun _ k=>Vai.br (sameKind i j) (opInt op i a b k) none := Par.brn (par_opInt op i a b)
  cases op <;> first | exact d | exact Par.br (fun _=>Par.none') fun _=>Par.ret _
 ·exact Par.str? fun b=>par_opStr op _ b
theorem par_eq1 (x y : AV) : Par fun _ k=>eq1 x y k:=by
 cases x <;> first | exact Par.none' | skip
 ·exact Par.bool? fun b=>Par.ret _
 ·exact Par.int? fun j b=>Par.brn (Par.ret _)
 ·exact Par.str? fun b=>Par.ret _
theorem par_eqIface (x y : AV) : Par fun _ k=>eqIface P x y k:=by
 cases x <;> first | exact Par.none' | skip
 ·rename_i t v
  cases y <;> first | exact Par.none' | exact Par.ret _ | skip
  exact Par.br (fun _=>Par.brn (par_eq1 _ _)) fun _=>Par.ret _
 ·cases y <;> first | exact Par.none' | exact Par.ret _
theorem par_eqFs (xs ys : List AV) : ∀ fs : List Field,Par fun _ k=>eqFs P xs ys fs k
 | []=>Par.ret _
 | f :: fs=>by
  refine Par.bind fun a=>Par.bind fun b=>Par.brn ?_
  refine Par.comp (par_eq1 a b) fun e=>?_
  cases e
  ·exact Par.ret _
  ·exact par_eqFs xs ys fs
theorem par_eqlK (op : BinOp) (b : Bool) : Par fun _ k=>eqlK op b k:=by
 cases op <;> first | exact Par.none' | exact Par.ret _
theorem par_opBinT (op : BinOp) (t : TypeId) (xc yc : Bool) (x y : AV) : Par fun _ k=>opBinT P op t xc yc x y k:=by
 have d := par_opBin op x y
 cases x <;> first | exact d | skip
 ·refine Par.bool? fun b=>?_
  cases P.underlying t with
  | none=>exact Par.none'
  | some dd=>cases dd <;> first | exact Par.none' | (cases op <;> first | exact Par.ret _ | exact Par.none')
 ·cases y <;> first | exact Par.none' | skip
  unfold opBinT
  simp only
  cases P.underlying t with
  | none=>exact Par.none'
  | some dd=>cases dd <;> first | exact Par.none' | (cases op <;> first | exact Par.ret _ | exact Par.none')
 ·cases y <;> first | exact Par.none' | skip
  unfold opBinT
  simp only
  cases P.underlying t with
  | none=>exact Par.none'
  | some dd=>cases dd <;> first | exact Par.none' | (cases op <;> first | exact Par.ret _ | exact Par.none')
 ·rename_i xs
  refine Par.agg? fun ys=>?_
  cases tFields P t with
  | none=>exact Par.none'
  | some fs=>exact Par.brn (Par.comp (par_eqFs xs ys fs) fun b=>par_eqlK op b)
 ·unfold opBinT
  simp only
  cases P.underlying t with
  | none=>exact Par.none'
  | some dd=>cases dd <;> first | exact Par.none' | exact Par.comp (par_eqIface _ _) fun b=>par_eqlK op b
 ·unfold opBinT
  simp only
  cases P.underlying t with
  | none=>exact Par.none'
  | some dd =>
   cases dd <;> first | exact Par.none' | skip
   cases y <;> first | exact Par.brn (par_eqlK op true) | exact Par.comp (par_eqIface _ _) fun b=>par_eqlK op b
theorem par_opIface (t : TypeId) (v : AV) : Par fun _ k=>opIface P t v k:=by
 unfold opIface
 cases P.underlying t with
 | none=>exact Par.none'
 | some dd=>cases dd <;> first | exact Par.none' | exact Par.ret _
theorem par_opUn (op : UnOp) (x : AV) : Par fun _ k=>opUn op x k:=by
 cases op <;> first | exact Par.none' | exact Par.int? fun _ _=>Par.ret _ | exact Par.bool? fun _=>Par.ret _
theorem par_partOf (ag : Bool) (sz : Nat) (cs : List AV) (off : Nat) : Par fun _ k=>partOf ag sz cs off k:=by
 cases ag
 ·exact Par.bind (o := nth cs off) (F := fun a _ k=>k a) fun a=>Par.ret a
 ·exact Par.brn (Par.ret _)
theorem par_opField (t : TypeId) (x : AV) (fi : Nat) : Par fun _ k=>opField P t x fi k:=by
 unfold opField
 cases tFields P t with
 | none=>exact Par.none'
 | some fs =>
  simp only
  cases fs[fi]? with
  | none=>exact Par.none'
  | some f=>exact Par.agg? fun cs=>Par.comp (par_tAggK _) fun ag=>par_partOf _ _ _ _
theorem par_opIndex (t : TypeId) (x ix : AV) : Par fun _ k=>opIndex P t x ix k:=by
 refine Par.int? fun _ i=>?_
 cases P.underlying t with
 | none=>exact Par.none'
 | some d =>
  cases d <;> first | exact Par.none' | skip
  ·exact Par.str? fun s=>Par.brn (Par.bind fun b=>Par.ret _)
  ·exact Par.agg? fun cs=>Par.brn (Par.brn (Par.comp (par_tAggK _) fun ag=>par_partOf _ _ _ _))
theorem par_fillC (place : Nat→Option (Nat × Nat)) : ∀ (l : List (Nat × AV)) (cells : List AV),Par fun _ k=>fillC place cells l k
 | [],cells=>Par.ret _
 | (i,v) :: rest,cells=>by
  simp only [fillC]
  cases place i with
  | none=>exact Par.none'
  | some x =>
   obtain ⟨off,size⟩ := x
   exact Par.cells? fun cs=>Par.brn (Par.brn (par_fillC place rest _))
theorem par_bound (v : AV) (y : Nat) : Par fun _ k=>v.bound? y k := Par.int? fun _ _=>Par.brn (Par.brn (Par.ret _))
theorem par_minMax (mx : Bool) (S : St) : ∀ (l : List Operand) (x : AV),Par fun _ k=>minMax mx P S x l k
 | [],_=>Par.ret _
 | _ :: l,_=>Par.int? fun _ _=>Par.int? fun _ _=>par_minMax mx S l _
theorem par_lenOf (t : TypeId) (v : AV) : Par fun _ k=>lenOf P t v k:=by
 unfold lenOf
 cases P.underlying t with
 | none=>exact Par.none'
 | some d =>
  cases d <;> first | exact Par.none' | exact Par.ret _ | exact Par.str? fun _=>Par.ret _ | (cases v <;> first | exact Par.ret _ | exact Par.none')
structure Same (S S' : St) (l : List Nat) : Prop where
 slot : ∀ t ∈ l,(S'.slot t).bare = (S.slot t).bare
 L : ∀ t ∈ l,∀ d off,S.slot t = .lp d off→(getL S'.L d).map (·.cells) = (getL S.L d).map (·.cells)
 len : S'.sl.length = S.sl.length
def SameH (S S' : St) : Prop := ∀ i,(S'.H i).map (·.cells) = (S.H i).map (·.cells)
theorem SameH.of {S S' : St} (h : S'.H = S.H) : SameH S S' := fun i=>by rw [h]
theorem SameH.symm {S S' : St} (h : SameH S S') : SameH S' S := fun i=>(h i).symm
theorem SameH.bind {S S' : St} {R : Type} (h : SameH S S') (id : Nat) (F : List AV→Option R) : ((S'.H id).bind fun b=>F b.cells) = (S.H id).bind fun b=>F b.cells:=by
 have := h id
 cases h1 : S.H id with
 | none =>
  rw [h1] at this
  cases h2 : S'.H id with
  | none=>rfl
  | some b=>rw [h2] at this; cases this
 | some b =>
  rw [h1] at this
  cases h2 : S'.H id with
  | none=>rw [h2] at this; cases this
  | some b' =>
   rw [h2] at this
   have hc : b'.cells = b.cells := by simpa using this
   simp only [Option.bind_some,hc]
theorem bare_av (s : Slot) : s.bare.av = s.av := by cases s <;> rfl
theorem Same.ev {S S' : St} {l : List Nat} (h : Same S S' l) {x : Operand} (hx : ∀ t,x = .tmp t→t ∈ l) : S'.ev x = S.ev x:=by
 cases x with
 | tmp t =>
  show (S'.slot t).av = (S.slot t).av
  rw [← bare_av,h.slot t (hx t rfl),bare_av]
 | _=>rfl
theorem Same.evT {S S' : St} {l : List Nat} (h : Same S S' l) {x : Operand} (hx : ∀ t,x = .tmp t→t ∈ l) (ty : TypeId) : evT P S' ty x = evT P S ty x:=by
 cases x with
 | tmp t=>exact h.ev hx
 | _=>rfl
theorem par_opBounds {S S' : St} (len : Nat) (lo hi : Option Operand) (hlo : ∀ x,lo = some x→S'.ev x = S.ev x) (hhi : ∀ x,hi = some x→S'.ev x = S.ev x) :
  (Par fun _ (k : Nat × Nat→Option _)=>opBounds S len lo hi fun l h=>k (l,h))∧∀ (R : Type) (k : Nat→Nat→Option R),opBounds S' len lo hi k = opBounds S len lo hi k:=by
 constructor
 ·have low : ∀ h,Par fun R (k : Nat × Nat→Option R)=>match lo with
    | some x=>(S.ev x).bound? h fun l=>k (l,h)
    | none=>k (0,h):=by
   intro h
   cases lo with
   | none=>exact Par.ret _
   | some x=>exact Par.comp (par_bound _ _) fun l=>Par.ret (l,h)
  cases hi with
  | none=>exact low len
  | some x=>exact Par.comp (par_bound _ _) fun h=>low h
 ·intro R k
  unfold opBounds
  cases lo with
  | none =>
   cases hi with
   | none=>rfl
   | some y=>simp only; rw [hhi y rfl]
  | some x =>
   cases hi with
   | none=>simp only; rw [hlo x rfl]
   | some y=>simp only; rw [hhi y rfl,hlo x rfl]
end
end Go.Vai
end
section
namespace Go.Vai
section
variable {P : Program} {A : List (Nat × Ann)} {an : Ann} {isRes : Nat→Bool} {cal : Oracle} {o : Oper} {S S' : St} {l : List Nat}
def Uni (P : Program) (A : List (Nat × Ann)) (an : Ann) (isRes : Nat→Bool) (cal : Oracle) (o : Oper) (S S' : St) : Prop :=
 (∀ (R : Type) (k : St→Option R),absOp P A an isRes cal o S k = none) ∨
 ∃ s,(∀ (R : Type) (k : St→Option R),absOp P A an isRes cal o S k = k (S.putd o.dst s))∧∀ (R : Type) (k : St→Option R),absOp P A an isRes cal o S' k = k (S'.putd o.dst s)
theorem Uni.of {T : Type} {F : ∀ R : Type,(T→Option R)→Option R} (hp : Par F) (mk : T→Slot) (h1 : ∀ (R : Type) (k : St→Option R),absOp P A an isRes cal o S k = F R fun v=>k (S.putd o.dst (mk v)))
  (h2 : ∀ (R : Type) (k : St→Option R),absOp P A an isRes cal o S' k = F R fun v=>k (S'.putd o.dst (mk v))) : Uni P A an isRes cal o S S':=by
 rcases hp with hp | ⟨v,hp⟩
 ·exact .inl fun R k=>(h1 R k).trans (hp R _)
 ·exact .inr ⟨mk v,fun R k=>(h1 R k).trans (hp R _),fun R k=>(h2 R k).trans (hp R _)⟩
theorem bare_lp {s s' : Slot} (h : s'.bare = s.bare) {d off : Nat} (hs : s = .lp d off) : s' = .lp d off:=by
 subst hs; cases s' <;> simp [Slot.bare] at h ⊢ <;> exact h
theorem bare_val {s s' : Slot} (h : s'.bare = s.bare) {v : AV} {f : Fl} (hs : s = .val v f) : ∃ f',s' = .val v f':=by
 subst hs; cases s' <;> simp [Slot.bare] at h ⊢ <;> exact h
theorem bare_und {s s' : Slot} (h : s'.bare = s.bare) (hs : s = .und) : s' = .und:=by
 subst hs; cases s' <;> simp [Slot.bare] at h ⊢
theorem par_elemsOf (ag : Bool) (sz : Nat) (v : AV) : Par fun _ k=>elemsOf ag sz v S k:=by
 cases v <;> first | exact Par.none' | skip
 ·rename_i s
  unfold elemsOf
  simp only
  cases Nat.beq sz 1 with
  | true=>exact Par.ret _
  | false=>exact Par.none'
 ·rename_i z tg l
  unfold elemsOf
  simp only
  cases Nat.beq z sz with
  | true=>exact Par.ret _
  | false=>cases l with
   | nil=>exact Par.ret _
   | cons _ _=>exact Par.none'
 ·rename_i id off len z
  unfold elemsOf
  simp only
  cases ag with
  | true=>exact Par.none'
  | false =>
   cases Nat.beq z sz with
   | false=>exact Par.none'
   | true=>cases Nat.beq sz 1 with
    | false=>exact Par.none'
    | true=>exact Par.bind fun b=>Par.brn (Par.ret _)
theorem elemsOf_congr {R : Type} (ag : Bool) (sz : Nat) (v : AV) (k : List AV→Option R) (h : SameH S S' ∨ ∀ id off len z,v ≠ .arr id off len z) : elemsOf ag sz v S' k = elemsOf ag sz v S k:=by
 cases v <;> first | rfl | skip
 rename_i id off len z
 rcases h with h | h
 ·unfold elemsOf
  simp only
  cases ag <;> cases Nat.beq z sz <;> cases Nat.beq sz 1 <;> first | rfl | exact h.bind id fun cs=>br (Nat.ble (off + len) cs.length) (k ((cs.drop off).take len)) none
 ·exact absurd rfl (h _ _ _ _)
theorem partsOf_congr (ty : Nat→TypeId) : ∀ (ps : List (Nat × Operand)),(∀ i x,(i,x) ∈ ps→∀ t,evT P S' t x = evT P S t x)→partsOf P S' ty ps = partsOf P S ty ps
 | [],_=>rfl
 | (i,x) :: l,h=>by
  simp only [partsOf]
  rw [h i x List.mem_cons_self,partsOf_congr ty l fun i x hx=>h i x (List.mem_cons_of_mem _ hx)]
theorem minMax_congr {R : Type} (mx : Bool) : ∀ (l : List Operand) (x : AV) (k : AV→Option R),(∀ y ∈ l,S'.ev y = S.ev y)→minMax mx P S' x l k = minMax mx P S x l k
 | [],x,k,_=>rfl
 | y :: l,x,k,h=>by
  simp only [minMax]
  rw [h y List.mem_cons_self]
  congr 1; funext i a; congr 1; funext _ b
  exact minMax_congr mx l _ _ fun y hy=>h y (List.mem_cons_of_mem _ hy)
theorem uni_binOp {op : BinOp} {t ty : TypeId} {x y : Operand} (ho : o.op = .binOp op t x y ty) (hx : S'.ev x = S.ev x) (hy : S'.ev y = S.ev y) : Uni P A an isRes cal o S S' :=
 .of (par_opBinT (P := P) op t (isConst x) (isConst y) (S.ev x) (S.ev y)) (fun v=>.val v .no) (fun R k=>by simp only [absOp,ho]) (fun R k=>by simp only [absOp,ho,hx,hy])
theorem uni_unOp {op : UnOp} {t : TypeId} {x : Operand} (ho : o.op = .unOp op t x) (hx : S'.ev x = S.ev x) : Uni P A an isRes cal o S S' :=
 .of (par_opUn op (S.ev x)) (fun v=>.val v .no) (fun R k=>by simp only [absOp,ho]) (fun R k=>by simp only [absOp,ho,hx])
theorem uni_iface {t : TypeId} {x : Operand} (ho : o.op = .makeInterface t x) (hx : evT P S' t x = evT P S t x) : Uni P A an isRes cal o S S' :=
 .of (par_opIface (P := P) t (evT P S t x)) (fun v=>.val v .no) (fun R k=>by simp only [absOp,ho]) (fun R k=>by simp only [absOp,ho,hx])
theorem bare_mp {s s' : Slot} (h : s'.bare = s.bare) {d : Nat} (hs : s = .mp d) : s' = .mp d:=by
 subst hs; cases s' <;> simp [Slot.bare] at h ⊢ <;> exact h
theorem uni_pick {c x y : Operand} (ho : o.op = .pick c x y) (hc : S'.ev c = S.ev c) (hx : S'.ev x = S.ev x) (hy : S'.ev y = S.ev y) : Uni P A an isRes cal o S S' :=
 .of (F := fun R k=>(S.ev c).bool? fun b=>br b (k (S.ev x)) (k (S.ev y))) (Par.bool? fun b=>Par.br (fun _=>Par.ret _) fun _=>Par.ret _) (fun v=>.val v .no) (fun R k=>by simp only [absOp,ho,opPick]) (fun R k=>by simp only [absOp,ho,opPick,hc,hx,hy])
theorem uni_field {t : TypeId} {x : Operand} {fi : Nat} (ho : o.op = .field t x fi) (hx : S'.ev x = S.ev x) : Uni P A an isRes cal o S S' :=
 .of (par_opField (P := P) t (S.ev x) fi) (fun v=>.val v .no) (fun R k=>by simp only [absOp,ho]) (fun R k=>by simp only [absOp,ho,hx])
theorem uni_index {t : TypeId} {x y : Operand} (ho : o.op = .index t x y) (hx : S'.ev x = S.ev x) (hy : S'.ev y = S.ev y) : Uni P A an isRes cal o S S' :=
 .of (par_opIndex (P := P) t (S.ev x) (S.ev y)) (fun v=>.val v .no) (fun R k=>by simp only [absOp,ho]) (fun R k=>by simp only [absOp,ho,hx,hy])
theorem uni_move {x : Operand} (ho : o.op = .move x) (hx : ∀ t,x ≠ .tmp t) : Uni P A an isRes cal o S S':=by
 cases x with
 | tmp t=>exact absurd rfl (hx t)
 | const c=>exact .inr ⟨.val (ofConst P o.type c) .no,fun R k=>by simp only [absOp,ho,opMove],fun R k=>by simp only [absOp,ho,opMove]⟩
 | func f=>exact .inr ⟨.val (.func f []) .no,fun R k=>by simp only [absOp,ho,opMove],fun R k=>by simp only [absOp,ho,opMove]⟩
 | global _=>exact .inl fun R k=>by simp only [absOp,ho,opMove]
theorem uni_nilCheck {x : Operand} (ho : o.op = .nilCheck x) (hx : ∀ t,x = .tmp t→(S'.slot t).bare = (S.slot t).bare) : Uni P A an isRes cal o S S':=by
 have e : ∀ (T : St) (R : Type) (k : St→Option R),absOp P A an isRes cal o T k = opNilCheck o x T k := fun T R k=>by simp only [absOp,ho]
 unfold Uni
 simp only [e]
 cases x with
 | const c=>exact .inl fun R k=>rfl
 | global g=>exact .inl fun R k=>rfl
 | func f=>exact .inr ⟨.val (.func f []) .no,fun R k=>rfl,fun R k=>rfl⟩
 | tmp t =>
  have hb := hx t rfl
  cases hs : S.slot t with
  | und=>exact .inl fun R k=>by simp only [opNilCheck,hs]
  | lp d off =>
   have hs' := bare_lp hb hs
   exact .inr ⟨.lp d off,fun R k=>by simp only [opNilCheck,hs],fun R k=>by simp only [opNilCheck,hs']⟩
  | mp d=>exact .inl fun R k=>by simp only [opNilCheck,hs]
  | val v f =>
   obtain ⟨f',hs'⟩ := bare_val hb hs
   cases v with
   | ptr id off=>exact .inr ⟨.val (.ptr id off) .no,fun R k=>by simp only [opNilCheck,hs],fun R k=>by simp only [opNilCheck,hs']⟩
   | cptr cs=>exact .inr ⟨.val (.cptr cs) .no,fun R k=>by simp only [opNilCheck,hs],fun R k=>by simp only [opNilCheck,hs']⟩
   | func fn caps =>
    cases caps with
    | nil=>exact .inr ⟨.val (.func fn []) .no,fun R k=>by simp only [opNilCheck,hs],fun R k=>by simp only [opNilCheck,hs']⟩
    | cons _ _=>exact .inl fun R k=>by simp only [opNilCheck,hs]
   | _=>exact .inl fun R k=>by simp only [opNilCheck,hs]
theorem uni_fieldAddr {ty : TypeId} {x : Operand} {fi : Nat} (ho : o.op = .fieldAddr ty x fi) (hx : ∀ t,x = .tmp t→(S'.slot t).bare = (S.slot t).bare) : Uni P A an isRes cal o S S':=by
 have e : ∀ (T : St) (R : Type) (k : St→Option R),absOp P A an isRes cal o T k = opFieldAddr P o ty x fi T k := fun T R k=>by simp only [absOp,ho]
 unfold Uni
 simp only [e]
 unfold opFieldAddr
 cases tFields P ty with
 | none=>exact .inl fun R k=>rfl
 | some fs =>
  simp only
  cases fs[fi]? with
  | none=>exact .inl fun R k=>rfl
  | some f =>
   simp only
   cases Nat.beq (tSize P f.type) 0 with
   | true=>exact .inl fun R k=>rfl
   | false =>
    simp only
    cases x with
    | const c=>exact .inl fun R k=>rfl
    | global g=>exact .inl fun R k=>rfl
    | func f=>exact .inl fun R k=>rfl
    | tmp t =>
     have hb := hx t rfl
     simp only
     cases hs : S.slot t with
     | und=>exact .inl fun R k=>rfl
     | lp d off =>
      rw [bare_lp hb hs]
      exact .inr ⟨_,fun R k=>rfl,fun R k=>rfl⟩
     | mp d=>exact .inl fun R k=>rfl
     | val v fl =>
      obtain ⟨f',hs'⟩ := bare_val hb hs
      rw [hs']
      cases v with
      | ptr id off=>exact .inr ⟨_,fun R k=>rfl,fun R k=>rfl⟩
      | cptr cs=>exact .inr ⟨_,fun R k=>rfl,fun R k=>rfl⟩
      | _=>exact .inl fun R k=>rfl
def SameL (S S' : St) : Prop := ∀ d,(getL S'.L d).map (·.cells) = (getL S.L d).map (·.cells)
def Uni2 (P : Program) (A : List (Nat × Ann)) (an : Ann) (isRes : Nat→Bool) (cal : Oracle) (o : Oper) (S S' : St) : Prop :=
 (∀ (R : Type) (k : St→Option R),absOp P A an isRes cal o S k = none) ∨
 ∃ s s',(∀ (R : Type) (k : St→Option R),absOp P A an isRes cal o S k = k (S.putd o.dst s))∧(∀ (R : Type) (k : St→Option R),absOp P A an isRes cal o S' k = k (S'.putd o.dst s')) ∧
  s'.bare = s.bare∧(S'.L = S.L→S'.H = S.H→s' = s)
theorem Uni.two (h : Uni P A an isRes cal o S S') : Uni2 P A an isRes cal o S S':=by
 rcases h with h | ⟨s,h1,h2⟩
 ·exact .inl h
 ·exact .inr ⟨s,s,h1,h2,rfl,fun _ _=>rfl⟩
theorem uni_load {ty : TypeId} {x : Operand} (ho : o.op = .load ty x) (hx : ∀ t,x = .tmp t→(S'.slot t).bare = (S.slot t).bare) (hL : ∀ t,x = .tmp t→∀ d off,S.slot t = .lp d off→(getL S'.L d).map (·.cells) = (getL S.L d).map (·.cells)) (hH : SameH S S' ∨ floatOk o S = true) : Uni2 P A an isRes cal o S S':=by
 by_cases hgx : ∃ gi,x = .global gi
 ·obtain ⟨gi,rfl⟩ := hgx
  exact (Uni.of (F := fun R k=>(globOf A gi).bind fun cs=>tAggK P ty fun ag=>partOf ag (tSize P ty) cs 0 k) (Par.bind fun cs=>Par.comp (par_tAggK ty) fun ag=>par_partOf _ _ _ _) (fun v=>.val v .no) (fun R k=>by simp only [absOp,ho,opLoadA]) (fun R k=>by simp only [absOp,ho,opLoadA])).two
 have e : ∀ (T : St) (R : Type) (k : St→Option R),absOp P A an isRes cal o T k = opLoad P o ty x T k := fun T R k=>by
  simp only [absOp,ho]
  cases x with
  | global gi=>exact absurd ⟨gi,rfl⟩ hgx
  | _=>rfl
 unfold Uni2
 simp only [e]
 have get : ∀ (cells : List AV) (off : Nat),(∀ (f : Fl) (R : Type) (k : Slot→Option R),(tAggK P ty fun ag=>match ag with
   | true=>br (Nat.ble (off + tSize P ty) cells.length) (k (.val (.agg ((cells.drop off).take (tSize P ty))) .no)) none
   | false=>(nth cells off).bind fun c=>k (.val c f)) = none) ∨ ∃ c : AV,∃ ag : Bool,∀ (f : Fl) (R : Type) (k : Slot→Option R),(tAggK P ty fun ag=>match ag with
   | true=>br (Nat.ble (off + tSize P ty) cells.length) (k (.val (.agg ((cells.drop off).take (tSize P ty))) .no)) none
   | false=>(nth cells off).bind fun c=>k (.val c f)) = k (.val c (match ag with
    | true=>.no
    | false=>f)):=by
  intro cells off
  rcases par_tAggK (P := P) ty with h | ⟨ag,h⟩
  ·exact .inl fun f R k=>h R _
  ·cases ag with
   | false =>
    cases hn : nth cells off with
    | none=>exact .inl fun f R k=>(h R _).trans rfl
    | some c=>exact .inr ⟨c,false,fun f R k=>(h R _).trans rfl⟩
   | true =>
    cases hb : Nat.ble (off + tSize P ty) cells.length with
    | false=>exact .inl fun f R k=>(h R _).trans rfl
    | true=>exact .inr ⟨.agg ((cells.drop off).take (tSize P ty)),true,fun f R k=>(h R _).trans rfl⟩
 cases x with
 | const c=>exact .inl fun R k=>rfl
 | global g=>exact .inl fun R k=>rfl
 | func f=>exact .inl fun R k=>rfl
 | tmp t =>
  have hb := hx t rfl
  unfold opLoad
  simp only
  cases hs : S.slot t with
  | und=>exact .inl fun R k=>rfl
  | lp d off =>
   rw [bare_lp hb hs]
   simp only
   have hLd := hL t rfl d off hs
   cases hL2 : getL S.L d with
   | none=>exact .inl fun R k=>rfl
   | some b =>
    rw [hL2] at hLd
    cases hL3 : getL S'.L d with
    | none=>rw [hL3] at hLd; cases hLd
    | some b' =>
     rw [hL3] at hLd
     have hcell : b'.cells = b.cells := by simpa using hLd
     rcases get b.cells off with hp | ⟨c,ag,hp⟩
     ·exact .inl fun R k=>hp _ R fun s=>k (S.putd o.dst s)
     ·refine .inr ⟨_,.val c (match (generalizing := false) ag with
       | true=>.no
       | false=>match memN off b'.free with
        | true=>.lL d off
        | false=>.no),fun R k=>hp _ R fun s=>k (S.putd o.dst s),fun R k=>?_,rfl,fun h1 h2=>?_⟩
      ·simp only [Option.bind_some,hcell]
       exact hp _ R fun s=>k (S'.putd o.dst s)
      ·rw [h1,hL2] at hL3
       injection hL3 with hL3
       subst hL3
       rfl
  | mp d=>exact .inl fun R k=>rfl
  | val v fl =>
   obtain ⟨f',hs'⟩ := bare_val hb hs
   rw [hs']
   have hH' : SameH S S':=by
    rcases hH with h | h
    ·exact h
    ·simp only [floatOk,ho,hs] at h; cases h
   cases v with
   | ptr id off =>
    have hb' := hH' id
    simp only
    cases hL2 : S.H id with
    | none=>exact .inl fun R k=>rfl
    | some b =>
     rw [hL2] at hb'
     cases hL3 : S'.H id with
     | none=>rw [hL3] at hb'; cases hb'
     | some b' =>
     rw [hL3] at hb'
     have hcell : b'.cells = b.cells := by simpa using hb'
     simp only [hL3,Option.bind_some,hcell]
     rcases get b.cells off with hp | ⟨c,ag,hp⟩
     ·exact .inl fun R k=>hp _ R fun s=>k (S.putd o.dst s)
     ·exact .inr ⟨_,_,fun R k=>hp _ R fun s=>k (S.putd o.dst s),fun R k=>hp _ R fun s=>k (S'.putd o.dst s),rfl,fun _ _=>rfl⟩
   | cptr cs =>
    rcases get cs 0 with hp | ⟨c,ag,hp⟩
    ·exact .inl fun R k=>hp _ R fun s=>k (S.putd o.dst s)
    ·exact .inr ⟨_,_,fun R k=>hp _ R fun s=>k (S.putd o.dst s),fun R k=>hp _ R fun s=>k (S'.putd o.dst s),rfl,fun _ _=>rfl⟩
   | _=>exact .inl fun R k=>rfl
theorem uni_convert {st dt : TypeId} {x : Operand} (ho : o.op = .convert st dt x) (hx : ∀ t,evT P S' t x = evT P S t x) (hH : SameH S S' ∨ ∀ id off len z,evT P S st x ≠ .arr id off len z) : Uni P A an isRes cal o S S':=by
 have e : ∀ (T : St) (R : Type) (k : St→Option R),absOp P A an isRes cal o T k = opConvert P o st dt (evT P T st x) T k := fun T R k=>by simp only [absOp,ho]
 unfold Uni
 simp only [e,hx]
 have fin : ∀ (F : ∀ R : Type,(AV→Option R)→Option R),Par F→(∀ (T : St),(T = S ∨ T = S')→∀ (R : Type) (k : St→Option R),opConvert P o st dt (evT P S st x) T k = F R fun v=>k (T.putd o.dst (.val v .no))) →
   (∀ (R : Type) (k : St→Option R),opConvert P o st dt (evT P S st x) S k = none) ∨ ∃ s,(∀ (R : Type) (k : St→Option R),opConvert P o st dt (evT P S st x) S k = k (S.putd o.dst s))∧∀ (R : Type) (k : St→Option R),opConvert P o st dt (evT P S st x) S' k = k (S'.putd o.dst s):=by
  intro F hp hF
  rcases hp with hp | ⟨v,hp⟩
  ·exact .inl fun R k=>(hF S (.inl rfl) R k).trans (hp R _)
  ·exact .inr ⟨.val v .no,fun R k=>(hF S (.inl rfl) R k).trans (hp R _),fun R k=>(hF S' (.inr rfl) R k).trans (hp R _)⟩
 have dead : (∀ (T : St) (R : Type) (k : St→Option R),opConvert P o st dt (evT P S st x) T k = none)→(∀ (R : Type) (k : St→Option R),opConvert P o st dt (evT P S st x) S k = none) ∨ ∃ s,(∀ (R : Type) (k : St→Option R),opConvert P o st dt (evT P S st x) S k = k (S.putd o.dst s))∧∀ (R : Type) (k : St→Option R),opConvert P o st dt (evT P S st x) S' k = k (S'.putd o.dst s) := fun h=>.inl fun R k=>h S R k
 cases h1 : P.underlying st with
 | none=>exact dead fun T R k=>by simp only [opConvert,h1]
 | some a =>
  cases h2 : P.underlying dt with
  | none=>exact dead fun T R k=>by unfold opConvert; rw [h1,h2]; cases a <;> rfl
  | some b =>
   cases a <;> first | (refine dead fun T R k=>?_; simp only [opConvert,h1,h2]; done) | skip
   ·cases b <;> first | (refine dead fun T R k=>?_; simp only [opConvert,h1,h2]; done) | skip
    rename_i i j
    exact fin (fun R k=>(evT P S st x).int? fun _ n=>k (.int j (j.wrap n))) (Par.int? fun _ _=>Par.ret _) fun T _ R k=>by simp only [opConvert,h1,h2]
   ·cases b <;> first | (refine dead fun T R k=>?_; simp only [opConvert,h1,h2]; done) | skip
    ·exact fin (fun R k=>(evT P S st x).str? fun s=>k (.str s)) (Par.str? fun _=>Par.ret _) fun T _ R k=>by simp only [opConvert,h1,h2]
    ·rename_i e
     cases h3 : P.underlying e with
     | none=>exact fin (fun R k=>(evT P S st x).str? fun s=>none) (Par.str? fun _=>Par.none') fun T _ R k=>by simp only [opConvert,h1,h2,h3]
     | some c =>
      cases c <;> first | (refine fin (fun R k=>(evT P S st x).str? fun s=>none) (Par.str? fun _=>Par.none') fun T _ R k=>?_; simp only [opConvert,h1,h2,h3]; done) | skip
      rename_i kk
      cases kk <;> first | (refine fin (fun R k=>(evT P S st x).str? fun s=>none) (Par.str? fun _=>Par.none') fun T _ R k=>?_; simp only [opConvert,h1,h2,h3]; done) | skip
      cases h4 : Nat.beq (tSize P e) 1 with
      | false=>exact fin (fun R k=>(evT P S st x).str? fun s=>none) (Par.str? fun _=>Par.none') fun T _ R k=>by simp only [opConvert,h1,h2,h3,h4]
      | true=>exact fin (fun R k=>(evT P S st x).str? fun s=>k (.vs 1 false (s.map byteAV))) (Par.str? fun _=>Par.ret _) fun T _ R k=>by simp only [opConvert,h1,h2,h3,h4]
   ·rename_i e
    cases b <;> first | (refine dead fun T R k=>?_; simp only [opConvert,h1,h2]; done) | skip
    cases h3 : P.underlying e with
    | none=>exact dead fun T R k=>by simp only [opConvert,h1,h2,h3]
    | some c =>
     cases c <;> first | (refine dead fun T R k=>?_; simp only [opConvert,h1,h2,h3]; done) | skip
     rename_i kk
     cases kk <;> first | (refine dead fun T R k=>?_; simp only [opConvert,h1,h2,h3]; done) | skip
     have hh : ∀ (T : St),(T = S ∨ T = S')→∀ (R : Type) (k : List AV→Option R),elemsOf false 1 (evT P S st x) T k = elemsOf false 1 (evT P S st x) S k:=by
      rintro T (rfl | rfl) R k
      ·rfl
      ·exact elemsOf_congr _ _ _ _ hH
     by_cases hstr : ∃ s,evT P S st x = .str s
     ·obtain ⟨s,hs⟩ := hstr
      exact dead fun T R k=>by simp only [opConvert,h1,h2,h3,hs]
     ·refine fin (fun R k=>elemsOf false 1 (evT P S st x) S fun l=>(bytesOf l).bind fun s=>k (.str s)) (Par.comp (par_elemsOf _ _ _) fun l=>Par.bind fun s=>Par.ret _) fun T hT R k=>?_
      rw [← hh T hT]
      simp only [opConvert,h1,h2,h3]
      cases hv : evT P S st x with
      | str s=>exact absurd ⟨s,hv⟩ hstr
      | _=>rfl
theorem par_bd {T : Type} {len : Nat} {lo hi : Option Operand} {G : Nat→Nat→∀ R : Type,(T→Option R)→Option R} (h : ∀ l hh,Par (G l hh)) : Par fun R k=>opBounds S len lo hi fun l hh=>G l hh R k :=
 Par.comp (F := fun R (k : Nat × Nat→Option R)=>opBounds S len lo hi fun l h=>k (l,h)) (G := fun p R k=>G p.1 p.2 R k) (par_opBounds (S := S) (S' := S) len lo hi (fun _ _=>rfl) (fun _ _=>rfl)).1 fun p=>h p.1 p.2
theorem par_opSliceV (t : TypeId) (x : Operand) (lo hi mx : Option Operand) : Par fun _ k=>opSliceV P t x lo hi mx S k:=by
 unfold opSliceV
 cases P.underlying t with
 | none=>exact Par.none'
 | some a =>
  cases a with
  | string =>
   cases mx with
   | some m=>exact Par.none'
   | none=>exact Par.str? fun s=>par_bd fun l h=>Par.ret _
  | slice el =>
   simp only
   cases Nat.beq (tSize P el) 0 with
   | true=>exact Par.none'
   | false =>
    simp only
    cases S.ev x with
    | vs z tg v =>
     simp only
     cases Nat.beq z (tSize P el) with
     | false=>exact Par.none'
     | true =>
      cases mx with
      | none=>exact par_bd fun l h=>Par.ret _
      | some m =>
       cases hi with
       | none=>exact Par.none'
       | some hh=>exact par_bd fun l h=>Par.int? fun _ j=>Par.brn (Par.ret _)
    | arr id off len z =>
     simp only
     cases Nat.beq z (tSize P el) with
     | false=>exact Par.none'
     | true =>
      cases mx with
      | none=>exact par_bd fun l h=>Par.br (fun _=>Par.ret _) fun _=>Par.ret _
      | some m =>
       cases hi with
       | none=>exact Par.none'
       | some hh=>exact par_bd fun l h=>Par.int? fun _ j=>Par.brn (Par.br (fun _=>Par.ret _) fun _=>Par.ret _)
    | _=>exact Par.none'
  | _=>exact Par.none'
theorem uni_slice {ty : TypeId} {x : Operand} {lo hi mx : Option Operand} (ho : o.op = .slice ty x lo hi mx) (hx : S'.ev x = S.ev x) (hlo : ∀ y,lo = some y→S'.ev y = S.ev y) (hhi : ∀ y,hi = some y→S'.ev y = S.ev y) (hmx : ∀ y,mx = some y→S'.ev y = S.ev y) : Uni P A an isRes cal o S S':=by
 refine .of (par_opSliceV (P := P) (S := S) ty x lo hi mx) (fun v=>.val v .no) (fun R k=>by simp only [absOp,ho,opSlice]) (fun R k=>?_)
 have hb : ∀ (len : Nat) (R : Type) (k : Nat→Nat→Option R),opBounds S' len lo hi k = opBounds S len lo hi k := fun len R k=>(par_opBounds len lo hi hlo hhi).2 R k
 simp only [absOp,ho,opSlice]
 unfold opSliceV
 cases mx with
 | none=>simp only [hx,hb]
 | some m=>simp only [hx,hb,hmx m rfl]
theorem uni_indexAddr {ty : TypeId} {x ix : Operand} (ho : o.op = .indexAddr ty x ix) (hx : ∀ t,x = .tmp t→(S'.slot t).bare = (S.slot t).bare) (hev : S'.ev x = S.ev x) (hix : S'.ev ix = S.ev ix) : Uni P A an isRes cal o S S':=by
 by_cases hgx : ∃ gi,x = .global gi
 ·obtain ⟨gi,rfl⟩ := hgx
  refine Uni.of (F := fun R k=>(globOf A gi).bind fun cs=>(S.ev ix).int? fun _ i=>idxG P ty cs i k) (Par.bind fun cs=>Par.int? fun _ i=>?_) (fun v=>.val v .no) (fun R k=>by simp only [absOp,ho,opIndexAddrA]) (fun R k=>by simp only [absOp,ho,opIndexAddrA,hix])
  unfold idxG
  cases P.underlying ty with
  | none=>exact Par.none'
  | some dd =>
   cases dd <;> first | exact Par.none' | skip
   rename_i len el
   simp only
   cases Nat.beq (tSize P el) 0 with
   | true=>exact Par.none'
   | false=>exact Par.brn (Par.brn (Par.brn (Par.ret _)))
 have e : ∀ (T : St) (R : Type) (k : St→Option R),absOp P A an isRes cal o T k = opIndexAddr P o ty x ix T k := fun T R k=>by
  simp only [absOp,ho]
  cases x with
  | global gi=>exact absurd ⟨gi,rfl⟩ hgx
  | _=>rfl
 unfold Uni
 simp only [e]
 unfold opIndexAddr
 rw [hix,hev]
 have fin : ∀ (F : ∀ R : Type,(Slot→Option R)→Option R),Par F→(∀ R (k : St→Option R),(F R fun s=>k (S.putd o.dst s)) = none) ∨ ∃ s,(∀ R (k : St→Option R),(F R fun s=>k (S.putd o.dst s)) = k (S.putd o.dst s))∧∀ R (k : St→Option R),(F R fun s=>k (S'.putd o.dst s)) = k (S'.putd o.dst s):=by
  intro F hp
  rcases hp with hp | ⟨v,hp⟩
  ·exact .inl fun R k=>hp R _
  ·exact .inr ⟨v,fun R k=>hp R _,fun R k=>hp R _⟩
 cases hi : S.ev ix with
 | int kk i =>
  simp only [AV.int?]
  cases P.underlying ty with
  | none=>exact .inl fun R k=>rfl
  | some a =>
   cases a with
   | slice el =>
    simp only
    cases Nat.beq (tSize P el) 0 with
    | true=>exact .inl fun R k=>rfl
    | false =>
     simp only
     cases S.ev x with
     | vs z tg l =>
      simp only
      cases Nat.beq z (tSize P el) with
      | false=>exact .inl fun R k=>rfl
      | true=>exact fin (fun R k=>br (decide (0 ≤ i)) (br (decide (i < (l.length : Int))) ((nth l i.toNat).bind fun c=>k (.val (.cptr c.cells) .no)) none) none) (Par.brn (Par.brn (Par.bind fun c=>Par.ret (Slot.val (.cptr c.cells) .no))))
     | arr id off len z =>
      simp only
      cases Nat.beq z (tSize P el) with
      | false=>exact .inl fun R k=>rfl
      | true=>exact fin (fun R k=>br (decide (0 ≤ i)) (br (decide (i < (len : Int))) (k (.val (.ptr id (off + i.toNat * z)) .no)) none) none) (Par.brn (Par.brn (Par.ret _)))
     | _=>exact .inl fun R k=>rfl
   | array len el =>
    simp only
    cases x with
    | tmp tx =>
     have hb := hx tx rfl
     simp only
     cases Nat.beq (tSize P el) 0 with
     | true=>exact .inl fun R k=>rfl
     | false =>
      simp only
      cases hs : S.slot tx with
      | und=>exact .inl fun R k=>rfl
      | lp d off =>
       rw [bare_lp hb hs]
       exact fin (fun R k=>br (decide (0 ≤ i)) (br (decide (i < (len : Int))) (k (.lp d (off + i.toNat * tSize P el))) none) none) (Par.brn (Par.brn (Par.ret _)))
      | mp d=>exact .inl fun R k=>rfl
      | val v f =>
       obtain ⟨f',hs'⟩ := bare_val hb hs
       rw [hs']
       cases v with
       | ptr id off=>exact fin (fun R k=>br (decide (0 ≤ i)) (br (decide (i < (len : Int))) (k (.val (.ptr id (off + i.toNat * tSize P el)) .no)) none) none) (Par.brn (Par.brn (Par.ret _)))
       | _=>exact .inl fun R k=>rfl
    | _=>exact .inl fun R k=>rfl
   | _=>exact .inl fun R k=>rfl
 | _=>exact .inl fun R k=>rfl
theorem par_opBuild (t : TypeId) (parts : List (Nat × Operand)) : Par fun _ k=>opBuild P t parts S k:=by
 unfold opBuild
 cases zeroCells P t with
 | none=>exact Par.none'
 | some z =>
  simp only
  cases P.underlying t with
  | none=>exact Par.none'
  | some d =>
   cases d with
   | struct fs =>
    simp only
    cases placesOf P fs.toList with
    | none=>exact Par.none'
    | some pl=>exact Par.comp (par_fillC _ _ _) fun cs=>Par.ret _
   | array n e =>
    simp only
    cases P.info? e with
    | none=>exact Par.none'
    | some ie=>exact Par.comp (par_fillC _ _ _) fun cs=>Par.ret _
   | _=>exact Par.none'
theorem par_opBuildSlice (t : TypeId) (len : Nat) (parts : List (Nat × Operand)) : Par fun _ k=>opBuildSlice P t len parts S k:=by
 unfold opBuildSlice
 cases tElem P t with
 | none=>exact Par.none'
 | some e =>
  simp only
  cases zeroCells P e with
  | none=>exact Par.none'
  | some z =>
   simp only
   cases Nat.beq (tSize P e) 0 with
   | true=>exact Par.none'
   | false =>
    cases Nat.ble (len * tSize P e) 16777216 with
    | false=>exact Par.none'
    | true =>
     cases Nat.beq z.length (tSize P e) with
     | false=>exact Par.none'
     | true =>
      cases (tAgg P e || Nat.beq (tSize P e) 1) with
      | false=>exact Par.none'
      | true=>exact Par.comp (par_fillC _ _ _) fun cs=>Par.ret _
theorem uni_build {t : TypeId} {parts : Array (Nat × Operand)} (ho : o.op = .build t parts) (hx : ∀ i x,(i,x) ∈ parts.toList→∀ t,evT P S' t x = evT P S t x) : Uni P A an isRes cal o S S':=by
 refine .of (par_opBuild (P := P) (S := S) t parts.toList) (fun v=>.val v .no) (fun R k=>by simp only [absOp,ho]) (fun R k=>?_)
 simp only [absOp,ho,opBuild]
 simp only [partsOf_congr (P := P) (S := S) (S' := S') _ parts.toList hx]
theorem uni_buildSlice {t : TypeId} {n : Nat} {parts : Array (Nat × Operand)} (ho : o.op = .buildSlice t n parts) (hx : ∀ i x,(i,x) ∈ parts.toList→∀ t,evT P S' t x = evT P S t x) : Uni P A an isRes cal o S S':=by
 refine .of (par_opBuildSlice (P := P) (S := S) t n parts.toList) (fun v=>.val v .no) (fun R k=>by simp only [absOp,ho]) (fun R k=>?_)
 simp only [absOp,ho,opBuildSlice]
 simp only [partsOf_congr (P := P) (S := S) (S' := S') _ parts.toList hx]
end
end Go.Vai
end
section
namespace Go.Vai
section
variable {eb ebj ebi : Bool} {P : Program} {A : List (Nat × Ann)} {an : Ann} {isRes : Nat→Bool} {cal : Oracle} {o : Oper} {S S' : St} {l : List Nat}
theorem look_mem {ops : Array Oper} {t : Nat} (h : Operand.tmp t ∈ o.op.operands) : t ∈ o.looksAt ops :=
 List.mem_append_left _ (List.mem_filterMap.2 ⟨.tmp t,by simpa using h,rfl⟩)
theorem ofConst1_arr {sz : Nat} {c : Value} {id off len z : Nat} (h : ofConst1 sz c = .arr id off len z) : False:=by
 unfold ofConst1 at h
 split at h <;> first | cases h | (split at h <;> cases h)
theorem ofConst_arr {t : TypeId} {c : Value} {id off len z : Nat} (h : ofConst P t c = .arr id off len z) : False:=by
 unfold ofConst at h
 split at h
 ·split at h <;> cases h
 ·exact ofConst1_arr h
theorem uni1 (hcl : clOf A eb o = 1) (hl : ∀ t,Operand.tmp t ∈ o.op.operands→t ∈ l) (hs : Same S S' l) (hH : SameH S S' ∨ floatOk o S = true) : Uni2 P A an isRes cal o S S':=by
 have ev : ∀ x,x ∈ o.op.operands→S'.ev x = S.ev x := fun x hx=>hs.ev fun t ht=>hl t (ht ▸ hx)
 have evT' : ∀ x,x ∈ o.op.operands→∀ ty,evT P S' ty x = evT P S ty x := fun x hx ty=>hs.evT (fun t ht=>hl t (ht ▸ hx)) ty
 have sl : ∀ x,x ∈ o.op.operands→∀ t,x = .tmp t→(S'.slot t).bare = (S.slot t).bare := fun x hx t ht=>hs.slot t (hl t (ht ▸ hx))
 cases hop : o.op with
 | move x =>
  refine (uni_move hop fun t ht=>?_).two
  subst ht
  simp [clOf,hop] at hcl
 | pick c x y =>
  rw [hop] at ev
  exact (uni_pick hop (ev c (by simp [Op.operands])) (ev x (by simp [Op.operands])) (ev y (by simp [Op.operands]))).two
 | binOp op t x y ty =>
  rw [hop] at ev
  exact (uni_binOp hop (ev x (by simp [Op.operands])) (ev y (by simp [Op.operands]))).two
 | makeInterface t x =>
  rw [hop] at evT'
  exact (uni_iface hop (evT' x (by simp [Op.operands]) t)).two
 | unOp op t x =>
  rw [hop] at ev
  exact (uni_unOp hop (ev x (by simp [Op.operands]))).two
 | convert st dt x =>
  rw [hop] at evT' sl
  refine (uni_convert hop (evT' x (by simp [Op.operands])) ?_).two
  rcases hH with h | h
  ·exact .inl h
  ·refine .inr fun id off len z he=>?_
   cases x with
   | tmp t =>
    have he' : (S.slot t).av = .arr id off len z := he
    cases hst : S.slot t with
    | val v f =>
     rw [hst] at he'
     have : v = .arr id off len z := he'
     subst this
     simp [floatOk,hop,hst] at h
    | _=>rw [hst] at he'; cases he'
   | const c =>
    exact ofConst_arr (P := P) he
   | func f=>cases he
   | global g=>cases he
 | slice t x lo hi mx =>
  rw [hop] at ev
  exact (uni_slice hop (ev x (by simp [Op.operands])) (fun y hy=>ev y (by subst hy; simp [Op.operands])) (fun y hy=>ev y (by subst hy; simp [Op.operands])) (fun y hy=>ev y (by subst hy; simp [Op.operands]))).two
 | field t x fi =>
  rw [hop] at ev
  exact (uni_field hop (ev x (by simp [Op.operands]))).two
 | fieldAddr t x fi =>
  rw [hop] at sl
  exact (uni_fieldAddr hop (sl x (by simp [Op.operands]))).two
 | nilCheck x =>
  rw [hop] at sl
  exact (uni_nilCheck hop (sl x (by simp [Op.operands]))).two
 | index t x y =>
  rw [hop] at ev
  exact (uni_index hop (ev x (by simp [Op.operands])) (ev y (by simp [Op.operands]))).two
 | indexAddr t x y =>
  rw [hop] at ev sl
  exact (uni_indexAddr hop (sl x (by simp [Op.operands])) (ev x (by simp [Op.operands])) (ev y (by simp [Op.operands]))).two
 | load t x =>
  rw [hop] at sl
  exact uni_load hop (sl x (by simp [Op.operands])) (fun t ht=>hs.L t (hl t (by rw [hop,← ht]; simp [Op.operands]))) hH
 | build t ps =>
  rw [hop] at evT'
  exact (uni_build hop fun i x hx=>evT' x (by simp [Op.operands]; exact ⟨i,by simpa using hx⟩)).two
 | buildSlice t n ps =>
  rw [hop] at evT'
  exact (uni_buildSlice hop fun i x hx=>evT' x (by simp [Op.operands]; exact ⟨i,by simpa using hx⟩)).two
 | call c =>
  rw [hop] at ev evT'
  obtain ⟨callee,args,tys⟩ := c
  cases callee with
  | builtin b =>
   cases b with
   | len =>
    have e : ∀ (T : St) (R : Type) (k : St→Option R),absOp P A an isRes cal o T k = opBuiltin P .len o tys.toList args.toList T k := fun T R k=>by simp only [absOp,hop]
    unfold Uni2
    simp only [e,opBuiltin]
    match hty : tys.toList,har : args.toList with
    | [t],[x] =>
     have hx : x ∈ (Op.call { callee := .builtin .len,args := args,argTypes := tys }).operands:=by
      have : x ∈ args := by rw [← Array.mem_toList_iff,har]; simp
      simp [Op.operands,Call.operands,this]
     simp only [evT' x hx t]
     rcases par_lenOf (P := P) t (evT P S t x) with h | ⟨n,h⟩
     ·exact .inl fun R k=>h R _
     ·exact .inr ⟨_,_,fun R k=>h R fun n=>k (S.putd o.dst (.val (.int .i64 (n : Int)) .no)),fun R k=>h R fun n=>k (S'.putd o.dst (.val (.int .i64 (n : Int)) .no)),rfl,fun _ _=>rfl⟩
    | [],_=>exact .inl fun R k=>rfl
    | [_],[]=>exact .inl fun R k=>rfl
    | [_],_ :: _ :: _=>exact .inl fun R k=>rfl
    | _ :: _ :: _,_=>exact .inl fun R k=>rfl
   | min =>
    have e : ∀ (T : St) (R : Type) (k : St→Option R),absOp P A an isRes cal o T k = opBuiltin P .min o tys.toList args.toList T k := fun T R k=>by simp only [absOp,hop]
    unfold Uni2
    simp only [e,opBuiltin]
    match har : args.toList with
    | []=>exact .inl fun R k=>rfl
    | x :: l =>
     have hm : ∀ y,y ∈ x :: l→S'.ev y = S.ev y := fun y hy=>ev y (by
      have : y ∈ args := by rw [← Array.mem_toList_iff,har]; exact hy
      simp [Op.operands,Call.operands,this])
     simp only [hm x List.mem_cons_self,minMax_congr (P := P) false l _ _ fun y hy=>hm y (List.mem_cons_of_mem _ hy)]
     rcases par_minMax (P := P) false S l (S.ev x) with h | ⟨n,h⟩
     ·exact .inl fun R k=>h R _
     ·exact .inr ⟨_,_,fun R k=>h R fun n=>k (S.putd o.dst (.val n .no)),fun R k=>h R fun n=>k (S'.putd o.dst (.val n .no)),rfl,fun _ _=>rfl⟩
   | max =>
    have e : ∀ (T : St) (R : Type) (k : St→Option R),absOp P A an isRes cal o T k = opBuiltin P .max o tys.toList args.toList T k := fun T R k=>by simp only [absOp,hop]
    unfold Uni2
    simp only [e,opBuiltin]
    match har : args.toList with
    | []=>exact .inl fun R k=>rfl
    | x :: l =>
     have hm : ∀ y,y ∈ x :: l→S'.ev y = S.ev y := fun y hy=>ev y (by
      have : y ∈ args := by rw [← Array.mem_toList_iff,har]; exact hy
      simp [Op.operands,Call.operands,this])
     simp only [hm x List.mem_cons_self,minMax_congr (P := P) true l _ _ fun y hy=>hm y (List.mem_cons_of_mem _ hy)]
     rcases par_minMax (P := P) true S l (S.ev x) with h | ⟨n,h⟩
     ·exact .inl fun R k=>h R _
     ·exact .inr ⟨_,_,fun R k=>h R fun n=>k (S.putd o.dst (.val n .no)),fun R k=>h R fun n=>k (S'.putd o.dst (.val n .no)),rfl,fun _ _=>rfl⟩
   | append =>
    exfalso
    simp only [clOf,hop] at hcl
    repeat' split at hcl
    all_goals cases hcl
   | _=>simp [clOf,hop] at hcl
  | value f =>
   exfalso
   cases f with
   | func g =>
    simp only [clOf,hop] at hcl
    split at hcl <;> cases hcl
   | _=>simp [clOf,hop] at hcl
  | invoke _ _=>simp [clOf,hop] at hcl
 | extract _ _=>simp [clOf,hop] at hcl
 | makeSlice _ _ _ =>
  simp only [clOf,hop] at hcl
  split at hcl <;> cases hcl
 | alloc _ =>
  simp only [clOf,hop] at hcl
  split at hcl <;> cases hcl
 | _=>simp [clOf,hop] at hcl
end
end Go.Vai
end
section
namespace Go.Vai
section
variable {g0 : G} {w0 : World} {Ex : Nat→Prop} {g g' : G} {S : St} {a : Act} {w w' : World} {P : Program} {R : Type} {r : R} {o : Oper} {A : List (Nat × Ann)} {cal : Oracle}
theorem Rel.reslot {S' : St} (h : Rel g0 w0 Ex g S a w) (hL : S'.L = S.L) (hM : S'.M = S.M) (hH : S'.H = S.H) (hnx : S'.nx = S.nx) (hlen : S'.sl.length = S.sl.length)
  (hs : ∀ t,S'.slot t = S.slot t ∨ S'.slot t = .und ∨ ∃ v,S'.slot t = .val v .no∧Rep g w (a.tmps.getD t undef) v) : Rel g0 w0 Ex g S' a w:=by
 refine ⟨h.inv,by rw [hH,hnx]; exact h.h,by rw [hL]; exact h.l,by rw [hM]; exact h.m,by rw [hlen]; exact h.len,fun t=>?_,h.fr,h.nodef⟩
 have key : ∀ q v',S'.slot q = .val v' .own→S.slot q = .val v' .own:=by
  intro q v' hq
  rcases hs q with h1 | h1 | ⟨v,h1,_⟩
  ·rw [← h1]; exact hq
  ·rw [h1] at hq; cases hq
  ·rw [h1] at hq; injection hq with _ e; cases e
 rcases hs t with h1 | h1 | ⟨v,h1,h2⟩
 ·rw [h1]
  have h3 := h.sl t
  cases hst : S.slot t with
  | und=>trivial
  | lp d off=>rw [hst] at h3; exact h3
  | mp d=>rw [hst] at h3; exact h3
  | val v f =>
   rw [hst] at h3
   refine ⟨h3.1,?_⟩
   cases f with
   | no=>trivial
   | own=>exact h3.2
   | lS q=>exact fun v' hq=>h3.2 v' (key q v' hq)
   | lL d off=>exact fun b hb hoff=>h3.2 b (by rw [← hL]; exact hb) hoff
   | lH id off=>exact fun b hb hoff=>h3.2 b (by rw [← hH]; exact hb) hoff
   | comps cs=>exact h3.2
 ·rw [h1]; trivial
 ·rw [h1]; exact ⟨h2,trivial⟩
theorem Rel.put_und (h : Rel g0 w0 Ex g S a w) {d : Nat} (hd : S.slot d = .und) (u : Value) : Rel g0 w0 Ex g S (a.put (some d) u) w:=by
 refine ⟨h.inv,h.h,h.l,h.m,by rw [put_size]; exact h.len,fun t=>?_,h.fr,by rw [put_defers']; exact h.nodef⟩
 have hs := h.sl t
 have key : ∀ q,S.slot q ≠ .und→(a.put (some d) u).tmps.getD q undef = a.tmps.getD q undef:=by
  intro q hq
  rw [getD_put,if_neg]
  rintro ⟨rfl,_⟩
  exact hq hd
 cases hst : S.slot t with
 | und=>trivial
 | lp e off =>
  rw [hst] at hs
  obtain ⟨B,h1,h2⟩ := hs
  exact ⟨B,h1,by rw [key t (by rw [hst]; simp)]; exact h2⟩
 | mp e =>
  rw [hst] at hs
  obtain ⟨B,h1,h2⟩ := hs
  exact ⟨B,h1,by rw [key t (by rw [hst]; simp)]; exact h2⟩
 | val v f =>
  rw [hst] at hs
  have e := key t (by rw [hst]; simp)
  refine ⟨by rw [e]; exact hs.1,?_⟩
  rw [e]
  cases f with
  | lS q =>
   intro v' hq
   rw [key q (by rw [hq]; simp)]
   exact hs.2 v' hq
  | _=>exact hs.2
theorem Rel.world (h : Rel g0 w0 Ex g S a w) (hh : w'.heap = w.heap) (h1 : w'.os = w.os) (h2 : w'.tape = w.tape) (h3 : w'.output = w.output) : Rel g0 w0 Ex g S a w':=by
 have hc : ∀ p,w'.cell? p = w.cell? p := fun p=>by simp only [World.cell?,hh]
 exact h.grow (g' := g) ⟨⟨fun _ _ h=>h,fun _=>Nat.le_refl _,fun B o _=>hc _⟩,h1,h2,h3,by rw [hh]; exact Nat.le_refl _,fun B _ _=>⟨by rw [hh],rfl,rfl⟩⟩
  ⟨fun B hB=>h.inv.new B (by rw [← hh]; exact hB),h.inv.ph,h.inv.pl,h.inv.injh,h.inv.injl⟩ h.h.lt
theorem nthS_maskS (l : List Nat) : ∀ (sl : List Slot) (i t : Nat),nthS (maskS l i sl) t = match memN (i + t) l with
  | true=>(match nthS sl t with
   | .val v _=>.val v .no
   | _=>.und)
  | false=>.und
 | [],i,t=>by cases h : memN (i + t) l <;> simp [maskS,nthS]
 | s :: r,i,0=>by simp [maskS,nthS]; rfl
 | s :: r,i,t + 1=>by
  have := nthS_maskS l r (i + 1) t
  rw [show i + 1 + t = i + (t + 1) by omega] at this
  simpa [maskS,nthS] using this
theorem maskS_length (l : List Nat) : ∀ (sl : List Slot) (i : Nat),(maskS l i sl).length = sl.length
 | [],_=>rfl
 | _ :: r,i=>by simp [maskS,maskS_length l r (i + 1)]
theorem slot_mask (S : St) (l : List Nat) (t : Nat) : (S.mask l).slot t = match memN t l with
  | true=>(match S.slot t with
   | .val v _=>.val v .no
   | _=>.und)
  | false=>.und:=by
 have := nthS_maskS l S.sl 0 t
 rw [Nat.zero_add] at this
 exact this
theorem nthS_ext : ∀ {l l' : List Slot},l.length = l'.length→(∀ t,nthS l t = nthS l' t)→l = l'
 | [],[],_,_=>rfl
 | x :: l,y :: l',hl,h=>by
  have h0 := h 0
  simp only [nthS] at h0
  rw [h0,nthS_ext (l := l) (l' := l') (by simpa using hl) (fun t=>h (t + 1))]
theorem mask_congr {S' : St} {l : List Nat} (hlen : S'.sl.length = S.sl.length) (h : ∀ t ∈ l,(S'.mask l).slot t = (S.mask l).slot t) : S'.mask l = S.mask l:=by
 have : maskS l 0 S'.sl = maskS l 0 S.sl:=by
  apply nthS_ext (by rw [maskS_length,maskS_length]; exact hlen)
  intro t
  have e1 := slot_mask S' l t
  have e2 := slot_mask S l t
  cases hm : memN t l with
  | false=>rw [hm] at e1 e2; exact e1.trans e2.symm
  | true=>exact h t (memN_iff.1 hm)
 simp only [St.mask,this]
theorem wp_put {K : Act→World→Prop} {Q : Exit→Act→World→Prop} (hK : ∀ a' w',K a' w'→a'.defers = []) (_hna : a.defers = []) (h : o.wp P a w K Q) : o.wp P a w (fun a' w'=>(∃ u,a' = a.put o.dst u)∧K a' w') Q:=by
 unfold Oper.wp at *
 generalize (execOp a.eval o).run P w = rr at *
 cases rr with
 | ok n w' =>
  cases n <;> simp only [Oper.upon] at h ⊢
  case value v=>exact ⟨⟨v,rfl⟩,h⟩
  case skip=>exact ⟨⟨undef,rfl⟩,h⟩
  case defer d =>
   have := hK _ _ h
   rw [put_defers'] at this
   cases this
  case enter f args =>
   refine Calls.mono h fun e w'' he=>?_
   cases e with
   | returned v=>exact ⟨⟨v,rfl⟩,he⟩
   | _=>exact he
  case row row args=>exact Rows.mono h fun v w'' he=>⟨⟨v,rfl⟩,he⟩
 | halt x w'=>cases x <;> simp only [Oper.upon] at h ⊢ <;> exact h
def vOp (P : Program) (A : List (Nat × Ann)) (an : Ann) (isRes : Nat→Bool) (cal : Oracle) (o : Oper) (l : List Nat) (S : St) : Option AV :=
 (absOp P A an isRes cal o (S.mask l) some).bind fun S'=>match o.dst with
  | Option.none=>Option.none
  | some d=>match S'.slot d with
   | .val v _=>some v
   | _=>Option.none
theorem vOp_ok {an : Ann} {isRes : Nat→Bool} {l : List Nat} {T : St} {v : AV} (hN : ∀ (f : Nat) (fn : Func),P.funcs[f]? = some fn→fn.name ≠ "runtime.NumGoroutine") (hcal : CalOk P A cal) (hgl : GlobOk A g0 w0)
  (h : vOp P A an isRes cal o l T = some v) (hp : v.pure = true) (hT : T.sl.length = S.sl.length) (hl : ∀ t ∈ l,(∃ x f,T.slot t = .val x f∧x.pure = true∧Rep g w (a.tmps.getD t undef) x) ∨ ∀ x f,T.slot t ≠ .val x f)
  {d : Nat} (hdst : o.dst = some d) (hd : S.slot d = .und) (hdlt : d < S.sl.length)
  (hg : Rel g0 w0 Ex g S a w) (Q : Exit→Act→World→Prop) (K : Act→World→Prop)
  (hK : ∀ g' u w',Rel g0 w0 Ex g' S (a.put o.dst u) w'→Ext g w g' w'→Rep g' w' u v→K (a.put o.dst u) w') : o.wp P a w K Q:=by
 unfold vOp at h
 obtain ⟨S1,h1,h2⟩ := bind_some' h
 rw [hdst] at h2
 simp only at h2
 have hS1 : ∃ f,S1.slot d = .val v f:=by
  split at h2
  ·rename_i x f hx
   injection h2 with e
   subst e
   exact ⟨f,hx⟩
  ·cases h2
 obtain ⟨f,hS1⟩ := hS1
 have hrel : Rel g.none w (fun B=>g.none.role B ≠ .ext) g.none (T.mask l) a w:=by
  refine ⟨none_inv hg.inv,none_relH,fun d b hb=>(by cases hb),fun d b hb=>(by cases hb),?_,fun t=>?_,⟨Ext.refl _ _,rfl,rfl,rfl,Nat.le_refl _,fun _ _ _=>⟨rfl,rfl⟩,fun B hB=>.inr hB⟩,hg.nodef⟩
  ·show (maskS l 0 T.sl).length = _
   rw [maskS_length,hT]; exact hg.len
  ·rw [slot_mask]
   cases hm : memN t l with
   | false=>trivial
   | true =>
    rcases hl t (memN_iff.1 hm) with ⟨x,f,h3,h4,h5⟩ | h3
    ·rw [h3]
     exact ⟨h5.pure h4 g.none (fun _=>Nat.le_refl _),trivial⟩
    ·cases hs : T.slot t with
     | val x f=>exact absurd hs (h3 x f)
     | _=>trivial
 have hw := wp_put (fun a' w' hk=>by obtain ⟨S',⟨g',hg'⟩,_⟩ := hk; exact hg'.nodef) hg.nodef (absOp_ok hN hcal (GlobOk.pure (g' := g.none) (hgl.ext hg.fr.ext) fun _=>Nat.le_refl _) h1 hrel Q)
 refine Oper.wp_mono ?_ hw
 rintro a' w' ⟨⟨u,rfl⟩,S',⟨g',hg'⟩,hS'⟩
 injection hS' with hS'
 subst hS'
 have hslot := hg'.sl d
 rw [hS1] at hslot
 have hrep : Rep g' w' u v:=by
  have := hslot.1
  rw [hdst,getD_put,if_pos ⟨rfl,by rw [← hg.len]; exact hdlt⟩] at this
  exact this
 have old : ∀ B,B < w.heap.size→w'.heap[B]? = w.heap[B]?∧g'.pub B = g.pub B := fun B hB=>hg'.fr.same B hB (fun h=>h rfl)
 let g2 : G := ⟨fun B=>if B < w.heap.size then g.role B else .ext,g'.pub⟩
 have r2 : ∀ B,g2.role B = if B < w.heap.size then g.role B else .ext := fun _=>rfl
 have rne : ∀ B,g2.role B ≠ .ext→B < w.heap.size∧g2.role B = g.role B:=by
  intro B hB
  rw [r2] at hB ⊢
  split
  ·rename_i h; exact ⟨h,rfl⟩
  ·rename_i h; rw [if_neg h] at hB; exact absurd rfl hB
 have hinv : Inv g2 w':=by
  refine ⟨fun B hB=>?_,fun B id hB=>?_,fun B d hB=>?_,fun B B' id k1 k2=>?_,fun B B' d k1 k2=>?_⟩
  ·have hs := hg'.fr.size
   exact ⟨by rw [r2,if_neg (by omega)],(hg'.inv.new B hB).2⟩
  ·obtain ⟨k1,k2⟩ := rne B (by rw [hB]; simp)
   show g'.pub B = 0
   rw [(old B k1).2]; exact hg.inv.ph B id (k2 ▸ hB)
  ·obtain ⟨k1,k2⟩ := rne B (by rw [hB]; simp)
   show g'.pub B = 0
   rw [(old B k1).2]; exact hg.inv.pl B d (k2 ▸ hB)
  ·obtain ⟨_,k3⟩ := rne B (by rw [k1]; simp)
   obtain ⟨_,k4⟩ := rne B' (by rw [k2]; simp)
   exact hg.inv.injh B B' id (k3 ▸ k1) (k4 ▸ k2)
  ·obtain ⟨_,k3⟩ := rne B (by rw [k1]; simp)
   obtain ⟨_,k4⟩ := rne B' (by rw [k2]; simp)
   exact hg.inv.injl B B' d (k3 ▸ k1) (k4 ▸ k2)
 have hE : Ext g w g2 w':=by
  refine ⟨fun B id hB=>?_,fun B=>hg'.fr.ext.pub B,fun B o ho=>hg'.fr.ext.cell B o ho⟩
  have : B < w.heap.size:=by
   rcases Nat.lt_or_ge B w.heap.size with h | h
   ·exact h
   ·rw [(hg.inv.new B h).1] at hB; cases hB
  rw [r2,if_pos this]; exact hB
 have hk : Keep (fun _=>False) g w g2 w' := ⟨hE,hg'.fr.os,hg'.fr.tape,hg'.fr.output,hg'.fr.size,fun B hB _=>⟨(old B hB).1,by rw [r2,if_pos hB],(old B hB).2⟩⟩
 have hgrow := hg.grow hk hinv (fun B id hB=>by
  obtain ⟨_,k2⟩ := rne B (by rw [hB]; simp)
  exact hg.h.lt B id (k2 ▸ hB))
 refine hK g2 u w' ?_ hE (hrep.pure hp g2 (fun _=>Nat.le_refl _))
 rw [hdst]
 exact hgrow.put_und hd u
end
end Go.Vai
end
section
namespace Go.Vai
section
variable {eb ebj ebi : Bool} {P : Program} {A : List (Nat × Ann)} {an : Ann} {isRes : Nat→Bool} {cal : Oracle} {o : Oper} {S S' : St} {l : List Nat}
theorem setS_setS : ∀ (l : List Slot) (n : Nat) (s s' : Slot),setS (setS l n s) n s' = setS l n s'
 | [],_,_,_=>rfl
 | _ :: _,0,_,_=>rfl
 | x :: l,n + 1,s,s'=>by simp only [setS,setS_setS l n s s']
theorem setS_self : ∀ (l : List Slot) (n : Nat),setS l n (nthS l n) = l
 | [],_=>rfl
 | _ :: _,0=>rfl
 | x :: l,n + 1=>by simp only [setS,nthS,setS_self l n]
theorem setS_comm : ∀ (l : List Slot) (n m : Nat) (s s' : Slot),n ≠ m→setS (setS l n s) m s' = setS (setS l m s') n s
 | [],_,_,_,_,_=>rfl
 | _ :: _,0,0,_,_,h=>absurd rfl h
 | _ :: _,0,m + 1,_,_,_=>rfl
 | _ :: _,n + 1,0,_,_,_=>rfl
 | x :: l,n + 1,m + 1,s,s',h=>by simp only [setS,setS_comm l n m s s' (fun e=>h (by rw [e]))]
theorem put_put (S : St) (d : Nat) (s s' : Slot) : (S.put d s).put d s' = S.put d s' := by unfold St.put; simp only [setS_setS]
theorem put_self (S : St) (d : Nat) : S.put d (S.slot d) = S := by unfold St.put St.slot; simp only [setS_self]
theorem put_comm (S : St) {d e : Nat} (s s' : Slot) (h : d ≠ e) : (S.put d s).put e s' = (S.put e s').put d s := by unfold St.put; simp only [setS_comm _ _ _ _ _ h]
theorem putd_comm (S : St) {x y : Option Nat} (s s' : Slot) (h : ∀ d,x = some d→y ≠ some d) : (S.putd x s).putd y s' = (S.putd y s').putd x s:=by
 cases x with
 | none=>rfl
 | some d=>cases y with
  | none=>rfl
  | some e=>exact put_comm S s s' fun h'=>h d rfl (by rw [h'])
theorem slot_put_ne (S : St) {d t : Nat} (s : Slot) (h : t ≠ d) : (S.put d s).slot t = S.slot t := by rw [slot_put,if_neg fun e=>h e.1]
theorem slot_putd_ne (S : St) {d : Option Nat} {t : Nat} (s : Slot) (h : d ≠ some t) : (S.putd d s).slot t = S.slot t:=by
 cases d with
 | none=>rfl
 | some d=>exact slot_put_ne S s fun e=>h (by rw [e])
theorem putd_bareAt (S : St) (d : Option Nat) (s : Slot) : (S.putd d s).bareAt d = S.putd d s.bare:=by
 cases d with
 | none=>rfl
 | some d =>
  show (S.put d s).put d ((S.put d s).slot d).bare = S.put d s.bare
  rw [put_put,slot_put]
  split
  ·rfl
  ·rename_i h
   have hlt : ¬ d < S.sl.length := fun hh=>h ⟨rfl,hh⟩
   have e : ∀ s1 s2 : Slot,setS S.sl d s1 = setS S.sl d s2:=by
    have key : ∀ (l : List Slot) (n : Nat),¬ n < l.length→∀ s1 : Slot,setS l n s1 = l:=by
     intro l
     induction l with
     | nil=>intro n _ s1; rfl
     | cons x l ih =>
      intro n hn s1
      cases n with
      | zero=>simp at hn
      | succ n=>simp only [setS]; rw [ih n (by simpa using hn)]
    intro s1 s2
    rw [key _ _ hlt,key _ _ hlt]
   unfold St.put
   rw [e]
theorem mask_same (h : Same S S' l) : S'.mask l = S.mask l:=by
 refine mask_congr h.len fun t ht=>?_
 rw [slot_mask,slot_mask]
 have hb := h.slot t ht
 cases memN t l with
 | false=>rfl
 | true =>
  simp only
  cases hs : S.slot t with
  | und=>rw [bare_und hb hs]
  | lp d off=>rw [bare_lp hb hs]
  | mp d=>rw [bare_mp hb hs]
  | val v f=>obtain ⟨f',hs'⟩ := bare_val hb hs; rw [hs']
theorem par2 (hcl : clOf A eb o = 2) (T : St) : Par fun _ k=>absOp P A an isRes cal o T k:=by
 cases hop : o.op with
 | extract x i =>
  simp only [absOp,hop]
  cases x with
  | tmp t =>
   unfold opExtract
   simp only
   cases T.slot t with
   | val v f =>
    simp only
    cases v with
    | tuple l =>
     simp only [AV.tup?]
     refine Par.bind fun c=>?_
     cases f with
     | comps cs=>simp only; cases memN i cs <;> exact Par.ret _
     | _=>exact Par.ret _
    | _=>exact Par.none'
   | _=>exact Par.none'
  | _=>exact Par.none'
 | call c =>
  obtain ⟨callee,args,tys⟩ := c
  cases callee with
  | builtin b =>
   cases b with
   | append =>
    simp only [absOp,hop,opBuiltin]
    match hty : tys.toList,har : args.toList with
    | [t,t2],[a,b] =>
     simp only
     unfold opAppend
     cases tElem P t with
     | none=>exact Par.none'
     | some e =>
      cases zeroOk P t with
      | false=>exact Par.none'
      | true =>
       simp only
       cases Nat.beq (tSize P e) 0 with
       | true=>exact Par.none'
       | false =>
        cases srcType P t2 with
        | false=>exact Par.none'
        | true =>
         simp only
         refine Par.comp (par_elemsOf _ _ _) fun l2=>?_
         have fin : ∀ (l : List AV) (X : St),Par fun R (k : St→Option R)=>br (Nat.ble ((l.length + l2.length) * tBytes P e) maxBytes) (br (Nat.ble (l.length + l2.length) maxBytes) (match o.dst with
           | some _=>k (X.unlent.putown o.dst (.vs (tSize P e) false (l ++ l2)) .own)
           | none=>none) none) none:=by
          intro l X
          refine Par.brn (Par.brn ?_)
          cases o.dst with
          | none=>exact Par.none'
          | some d=>exact Par.ret _
         cases evT P T t a with
         | vs z tg l =>
          simp only [AV.vs?]
          cases Nat.beq z (tSize P e) with
          | false=>exact Par.none'
          | true =>
           cases a with
           | const v=>exact fin _ _
           | tmp u =>
            simp only
            cases T.slot u with
            | val v f =>
             cases f with
             | own=>exact fin _ _
             | lS q =>
              simp only
              cases T.slot q with
              | val v2 f2 =>
               cases f2 with
               | own=>exact fin _ _
               | _=>exact Par.brn (fin _ _)
              | _=>exact Par.brn (fin _ _)
             | lL d off =>
              refine Par.bind fun bl=>?_
              cases memN off bl.free with
              | true=>exact fin _ _
              | false=>exact Par.brn (fin _ _)
             | lH id off =>
              refine Par.bind fun bl=>?_
              cases memN off bl.free with
              | true=>exact fin _ _
              | false=>exact Par.brn (fin _ _)
             | _=>exact Par.brn (fin _ _)
            | _=>exact Par.brn (fin _ _)
           | _=>exact Par.none'
         | _=>exact Par.none'
    | [],_=>exact Par.none'
    | [_],_=>exact Par.none'
    | _ :: _ :: _ :: _,_=>exact Par.none'
    | [_,_],[]=>exact Par.none'
    | [_,_],[_]=>exact Par.none'
    | [_,_],_ :: _ :: _ :: _=>exact Par.none'
   | _=>simp [clOf,hop] at hcl
  | value f =>
   cases f with
   | func g =>
    simp only [absOp,hop]
    unfold opCall
    simp only [St.ev,AV.func?]
    cases hi : (getA A g).imp with
    | true=>simp [clOf,hop,hi] at hcl
    | false=>exact Par.brn (Par.bind fun r=>Par.brn (Par.ret _))
   | _=>simp [clOf,hop] at hcl
  | invoke _ _=>simp [clOf,hop] at hcl
 | move x =>
  exfalso
  simp only [clOf,hop] at hcl
  split at hcl <;> cases hcl
 | makeSlice _ _ _ =>
  exfalso
  simp only [clOf,hop] at hcl
  split at hcl <;> cases hcl
 | alloc _ =>
  exfalso
  simp only [clOf,hop] at hcl
  split at hcl <;> cases hcl
 | _=>simp [clOf,hop] at hcl
structure Sim (fx fh : Bool) (S S' : St) (l : List Nat) : Prop where
 same : Same S S' l
 mem : fh = true→SameH S S'
 ex : fx = true→(∀ t ∈ l,S'.slot t = S.slot t)∧S'.L = S.L∧S'.H = S.H
theorem floatOk_same (hl : ∀ t,Operand.tmp t ∈ o.op.operands→t ∈ l) (h : Same S S' l) : floatOk o S' = floatOk o S:=by
 unfold floatOk
 cases hop : o.op with
 | load t x =>
  simp only
  cases x with
  | tmp t =>
   have hb := h.slot t (hl t (by simp [hop,Op.operands]))
   simp only
   cases hs : S.slot t with
   | und=>rw [bare_und hb hs]
   | lp d off=>rw [bare_lp hb hs]
   | mp d=>rw [bare_mp hb hs]
   | val v f=>obtain ⟨f',hs'⟩ := bare_val hb hs; rw [hs']
  | _=>rfl
 | convert a b x =>
  simp only
  cases x with
  | tmp t =>
   have hb := h.slot t (hl t (by simp [hop,Op.operands]))
   simp only
   cases hs : S.slot t with
   | und=>rw [bare_und hb hs]
   | lp d off=>rw [bare_lp hb hs]
   | mp d=>rw [bare_mp hb hs]
   | val v f=>obtain ⟨f',hs'⟩ := bare_val hb hs; rw [hs']
  | _=>rfl
 | _=>rfl
theorem noBoxL_congr {ws : List Nat} : ∀ {l : List Nat},(∀ t ∈ l,(S'.slot t).bare = (S.slot t).bare)→noBoxL S' ws l = noBoxL S ws l
 | [],_=>rfl
 | t :: l,h=>by
  have hb := h t List.mem_cons_self
  unfold noBoxL
  rw [noBoxL_congr (l := l) fun t ht=>h t (List.mem_cons_of_mem _ ht)]
  cases hs : S.slot t with
  | und=>rw [bare_und hb hs]
  | lp d off=>rw [bare_lp hb hs]
  | mp d=>rw [bare_mp hb hs]
  | val v f=>obtain ⟨f',hs'⟩ := bare_val hb hs; rw [hs']
theorem noBox_congr {ws : List Nat} {l : List Nat} (h : ∀ t ∈ l,(S'.slot t).bare = (S.slot t).bare) : noBox S' ws l = noBox S ws l:=by
 unfold noBox
 cases ws with
 | nil=>rfl
 | cons b bs=>exact noBoxL_congr h
theorem noBox_putd {ws l : List Nat} {s s' : Slot} (hds : ∀ q,q ∈ l→o.dst = some q) (hlen : S'.sl.length = S.sl.length) (h : s'.bare = s.bare) : noBox (S'.putd o.dst s') ws l = noBox (S.putd o.dst s) ws l:=by
 refine noBox_congr fun t ht=>?_
 rw [hds t ht]
 show ((S'.put t s').slot t).bare = ((S.put t s).slot t).bare
 rw [slot_put,slot_put,hlen]
 split
 ·exact h
 ·rename_i hh
  have hz : ∀ (Y : St),¬ t < Y.sl.length→Y.slot t = .und := fun Y hY=>by
   cases hy : Y.slot t with
   | und=>rfl
   | _=>exact absurd (nthS_lt (by show Y.slot t ≠ _; rw [hy]; simp)) hY
  have hlt : ¬ t < S.sl.length := fun hl=>hh ⟨rfl,hl⟩
  rw [hz S' (by rw [hlen]; exact hlt),hz S hlt]
theorem noBox_spec {ws l : List Nat} (h : noBox S ws l = true) {t e off : Nat} (ht : t ∈ l) (hs : S.slot t = .lp e off ∨ S.slot t = .mp e) : e ∉ ws:=by
 unfold noBox at h
 cases ws with
 | nil=>simp
 | cons b bs =>
  simp only at h
  induction l with
  | nil=>cases ht
  | cons u l ih =>
   unfold noBoxL at h
   split at h
   ·cases h
   ·rename_i hm
    rcases List.mem_cons.1 ht with e1 | ht
    ·subst e1
     intro hmem
     rcases hs with hs | hs
     ·rw [hs] at hm; simp only at hm; rw [memN_iff.2 hmem] at hm; cases hm
     ·rw [hs] at hm; simp only at hm; rw [memN_iff.2 hmem] at hm; cases hm
    ·exact ih ht h
theorem av_same (h : Same S S' l) : (l.map fun t=>(S'.slot t).av) = l.map fun t=>(S.slot t).av :=
 List.map_congr_left fun t ht=>by rw [← bare_av,h.slot t ht,bare_av]
def TwoF (fx : Bool) (F F' : ∀ R : Type,(St→Option R)→Option R) (dst : Option Nat) (S S' : St) : Prop :=
 (∀ R k,F R k = none) ∨ ∃ s,(∀ R k,F R k = k (S.putd dst s))∧(∀ R k,F' R k = k (S'.putd dst s))∧(fx = false→s.bare = s)
theorem bare_bare (s : Slot) : s.bare.bare = s.bare := by cases s <;> rfl
theorem catOk_same {l : List Nat} {fx : Bool} (hl : ∀ t,Operand.tmp t ∈ o.op.operands→t ∈ l) (h : Same S S' l) : catOk o fx S' = catOk o fx S:=by
 unfold catOk
 cases hop : o.op with
 | call c =>
  simp only
  split
  ·split
   ·split
    ·rename_i x y hty har
     split
     ·split
      ·rename_i t
       have ht : t ∈ l:=by
        refine hl t ?_
        rw [hop]
        have : Operand.tmp t ∈ c.args.toList := by rw [har]; simp
        simp only [Op.operands,Call.operands,Array.mem_append]
        exact .inr (Array.mem_toList_iff.1 this)
       rw [← bare_av (S'.slot t),h.slot t ht,bare_av]
      ·rfl
     ·rfl
    ·rfl
   ·rfl
  ·rfl
 | _=>rfl
theorem catOk_fx {fx : Bool} (h : catOk o fx S = true) : fx = true:=by
 unfold catOk at h
 repeat' split at h
 all_goals first | exact h | cases h
theorem opCat_same {l : List Nat} (hl : ∀ t,Operand.tmp t ∈ o.op.operands→t ∈ l) (h : Same S S' l) (hH : S'.H = S.H) {R : Type} (k : AV→Option R) : opCat P o S' k = opCat P o S k:=by
 unfold opCat
 cases hop : o.op with
 | call c =>
  simp only
  split
  ·split
   ·split
    ·rename_i st st2 x y hty har
     split
     ·have hy : evT P S' st y = evT P S st y := h.evT (fun t e=>hl t (by
       rw [hop]
       have : Operand.tmp t ∈ c.args.toList := by rw [har,e]; simp
       simp only [Op.operands,Call.operands,Array.mem_append]
       exact .inr (Array.mem_toList_iff.1 this))) st
      rw [hy]
      split
      ·split
       ·exact elemsOf_congr _ _ _ _ (.inl (.of hH))
       ·rfl
      ·rfl
     ·rfl
    ·rfl
   ·rfl
  ·rfl
 | _=>rfl
theorem par_opCat (T : St) : Par fun _ k=>opCat P o T k:=by
 unfold opCat
 split
 ·split
  ·split
   ·split
    ·split
     ·split
      ·split
       ·refine Par.comp (F := fun _ k=>elemsOf false 1 _ T k) (par_elemsOf _ _ _) fun l2=>?_
        cases evT P T _ (.const _) with
        | vs z tg l=>cases l with
         | nil=>exact Par.brn (Par.brn (Par.brn (Par.ret _)))
         | cons _ _=>exact Par.none'
        | _=>exact Par.none'
       ·exact Par.none'
      ·exact Par.none'
     ·exact Par.none'
    ·exact Par.none'
   ·exact Par.none'
  ·exact Par.none'
 ·exact Par.none'
theorem locLoad_same {l : List Nat} (hl : ∀ t,Operand.tmp t ∈ o.op.operands→t ∈ l) (h : Same S S' l) : locLoad o S' = locLoad o S:=by
 unfold locLoad
 cases hop : o.op with
 | load t x =>
  simp only
  cases x with
  | tmp t =>
   have hb := h.slot t (hl t (by simp [hop,Op.operands]))
   simp only
   cases hs : S.slot t with
   | und=>rw [bare_und hb hs]
   | lp d off=>rw [bare_lp hb hs]
   | mp d=>rw [bare_mp hb hs]
   | val v f=>obtain ⟨f',hs'⟩ := bare_val hb hs; rw [hs']
  | _=>rfl
 | _=>rfl
attribute [local irreducible] opCat catOk in
theorem dop_two {D : List Nat} {i : Nat} {fz : Fx} {x : OI} {st : Bool} (hst : st = false→fz.fx = false∧fz.fl = false) (hx : x.cl = clOf A eb o) (hl : ∀ t,Operand.tmp t ∈ o.op.operands→t ∈ x.lk) (hv : isVal x.cl = true) (h : Sim st fz.fh S S' x.lk) :
  TwoF st (fun _ k=>dop P A an isRes cal D i fz x o S k) (fun _ k=>dop P A an isRes cal D i fz x o S' k) o.dst S S':=by
 have hcl : x.cl = 0 ∨ x.cl = 1 ∨ x.cl = 2:=by
  have : x.cl < 3 := by simpa [isVal,Nat.blt_eq] using hv
  omega
 have hs1 : fz.fx = true→st = true := fun hf=>by
  cases hs : st with
  | true=>rfl
  | false=>have := (hst hs).1; rw [hf] at this; cases this
 have hs2 : fz.fl = true→st = true := fun hf=>by
  cases hs : st with
  | true=>rfl
  | false=>have := (hst hs).2; rw [hf] at this; cases this
 unfold dop
 rcases hcl with hc | hc | hc
 ·rw [hc]
  simp only
  rw [hx] at hc
  have hop : ∃ t,o.op = .move (.tmp t):=by
   cases hop : o.op with
   | move x =>
    cases x with
    | tmp t=>exact ⟨t,rfl⟩
    | _=>simp [clOf,hop] at hc
   | call c =>
    exfalso
    simp only [clOf,hop] at hc
    repeat' split at hc
    all_goals cases hc
   | makeSlice _ _ _ =>
    exfalso
    simp only [clOf,hop] at hc
    split at hc <;> cases hc
   | alloc _ =>
    exfalso
    simp only [clOf,hop] at hc
    split at hc <;> cases hc
   | _=>simp [clOf,hop] at hc
  obtain ⟨t,hop⟩ := hop
  have ht := hl t (by simp [hop,Op.operands])
  simp only [absOp,hop,opMove]
  cases hfx : fz.fx with
  | true =>
   obtain ⟨he,_,_⟩ := h.ex (hs1 hfx)
   refine .inr ⟨moveSlot S t,fun R k=>rfl,fun R k=>?_,fun h=>(by rw [hs1 hfx] at h; cases h)⟩
   have : moveSlot S' t = moveSlot S t := by unfold moveSlot; rw [he t ht]
   show k (S'.putd o.dst (moveSlot S' t)) = _
   rw [this]
  | false =>
   have hb := h.same.slot t ht
   have : (moveSlot S' t).bare = (moveSlot S t).bare:=by
    have mb : ∀ (T : St),(moveSlot T t).bare = (T.slot t).bare := fun T=>by
     unfold moveSlot
     cases T.slot t with
     | val v f=>cases f <;> rfl
     | _=>rfl
    rw [mb,mb,hb]
   refine .inr ⟨(moveSlot S t).bare,fun R k=>?_,fun R k=>?_,fun _=>bare_bare _⟩
   ·show k ((S.putd o.dst (moveSlot S t)).bareAt o.dst) = _
    rw [putd_bareAt]
   ·show k ((S'.putd o.dst (moveSlot S' t)).bareAt o.dst) = _
    rw [putd_bareAt,this]
 ·rw [hc]
  simp only
  rw [hx] at hc
  cases hfx : fz.fx with
  | true =>
   obtain ⟨_,h1,h2⟩ := h.ex (hs1 hfx)
   rcases uni1 (P := P) (an := an) (isRes := isRes) (cal := cal) hc hl h.same (.inl (.of h2)) with hn | ⟨s,s',h3,h4,_,h5⟩
   ·exact .inl fun R k=>hn R k
   ·rw [h5 h1 h2] at h4
    exact .inr ⟨s,fun R k=>h3 R k,fun R k=>h4 R k,fun h=>(by rw [hs1 hfx] at h; cases h)⟩
  | false =>
   simp only
   rw [floatOk_same hl h.same,locLoad_same hl h.same]
   cases hlo : (fz.fl && locLoad o S) with
   | true =>
    have hst1 := hs2 (Bool.and_eq_true _ _ ▸ hlo).1
    obtain ⟨_,h1,h2⟩ := h.ex hst1
    rcases uni1 (P := P) (an := an) (isRes := isRes) (cal := cal) hc hl h.same (.inl (.of h2)) with hn | ⟨s,s',h3,h4,_,h5⟩
    ·exact .inl fun R k=>hn R k
    ·rw [h5 h1 h2] at h4
     exact .inr ⟨s,fun R k=>h3 R k,fun R k=>h4 R k,fun h=>(by rw [hst1] at h; cases h)⟩
   | false =>
   simp only
   cases hf : (fz.fh || floatOk o S) with
   | false=>exact .inl fun R k=>rfl
   | true =>
    rw [Bool.or_eq_true] at hf
    have hH : SameH S S' ∨ floatOk o S = true := hf.imp h.mem id
    rcases uni1 (P := P) (an := an) (isRes := isRes) (cal := cal) hc hl h.same hH with hn | ⟨s,s',h3,h4,h5,_⟩
    ·exact .inl fun R k=>hn R _
    ·refine .inr ⟨s.bare,fun R k=>?_,fun R k=>?_,fun _=>bare_bare _⟩
     ·show absOp P A an isRes cal o S (fun S'=>k (S'.bareAt o.dst)) = _
      rw [h3,putd_bareAt]
     ·show absOp P A an isRes cal o S' (fun S'=>k (S'.bareAt o.dst)) = _
      rw [h4,putd_bareAt,h5]
 ·rw [hc]
  simp only
  rw [hx] at hc
  cases hd : o.dst with
  | none=>exact .inl fun R k=>rfl
  | some d =>
   simp only
   rw [av_same h.same,mask_same h.same,h.same.len,catOk_same hl h.same]
   cases hcat : catOk o fz.fx S with
   | true =>
    obtain ⟨_,_,h2⟩ := h.ex (hs1 (catOk_fx hcat))
    cases Nat.blt d S.sl.length with
    | false=>exact .inl fun R k=>rfl
    | true =>
     rcases par_opCat (P := P) (o := o) S with hn | ⟨v,hv⟩
     ·have hn' : ∀ (R : Type) (k : AV→Option R),opCat P o S k = none := hn
      exact .inl fun R k=>by show opCat P o S (fun v=>k (S.put d (.val v .no))) = none; rw [hn']
     ·have hv' : ∀ (R : Type) (k : AV→Option R),opCat P o S k = k v := hv
      refine .inr ⟨.val v .no,fun R k=>?_,fun R k=>?_,fun _=>rfl⟩
      ·show opCat P o S (fun v=>k (S.put d (.val v .no))) = k (S.put d (.val v .no))
       rw [hv']
      ·show opCat P o S' (fun v=>k (S'.put d (.val v .no))) = k (S'.put d (.val v .no))
       rw [opCat_same hl h.same h2,hv']
   | false =>
   simp only
   cases hp : (Nat.blt d S.sl.length && pureL (x.lk.map fun t=>(S.slot t).av)) with
   | false=>exact .inl fun R k=>rfl
   | true =>
    rcases par2 (P := P) (an := an) (isRes := isRes) (cal := cal) hc (S.mask x.lk) with hn | ⟨T,hT⟩
    ·exact .inl fun R k=>hn R _
    ·cases hs : T.slot d with
     | val v f =>
      cases hpv : v.pure with
      | true =>
       refine .inr ⟨.val v .no,fun R k=>?_,fun R k=>?_,fun _=>rfl⟩
       ·refine (hT R _).trans ?_; simp only [hs,hpv]; rfl
       ·refine (hT R _).trans ?_; simp only [hs,hpv]; rfl
      | false=>refine .inl fun R k=>(hT R _).trans ?_; simp only [hs,hpv]; rfl
     | _=>refine .inl fun R k=>(hT R _).trans ?_; simp only [hs]
theorem st_or {fz : Fx} (h : (fz.fx || fz.fl) = false) : fz.fx = false∧fz.fl = false := by rw [Bool.or_eq_false_iff] at h; exact h
def Stay (s : Slot) : Prop := s.unlentH = s∧∀ e,s.unS e = s
theorem Stay.bare {s : Slot} (h : s.bare = s) : Stay s:=by
 cases s with
 | val v f=>simp only [Slot.bare,Slot.val.injEq,true_and] at h; subst h; exact ⟨rfl,fun _=>rfl⟩
 | _=>exact ⟨rfl,fun _=>rfl⟩
def TwoS (F F' : ∀ R : Type,(St→Option R)→Option R) (dst : Option Nat) (S S' : St) : Prop :=
 (∀ R k,F R k = none) ∨ ∃ s,(∀ R k,F R k = k (S.putd dst s))∧(∀ R k,F' R k = k (S'.putd dst s))∧Stay s
theorem TwoF.stay {F F' : ∀ R : Type,(St→Option R)→Option R} {dst : Option Nat} {S S' : St} (h : TwoF false F F' dst S S') : TwoS F F' dst S S':=by
 rcases h with h | ⟨s,h1,h2,h3⟩
 ·exact .inl h
 ·exact .inr ⟨s,h1,h2,.bare (h3 rfl)⟩
attribute [local irreducible] opCat catOk in
theorem dop_twoS {D : List Nat} {i : Nat} {fz : Fx} {x : OI} (hfx : fz.fx = false) (hx : x.cl = clOf A eb o) (hl : ∀ t,Operand.tmp t ∈ o.op.operands→t ∈ x.lk) (hv : isVal x.cl = true) (h : Same S S' x.lk) (hL : S'.L = S.L) (hm : fz.fh = true→SameH S S') :
  TwoS (fun _ k=>dop P A an isRes cal D i fz x o S k) (fun _ k=>dop P A an isRes cal D i fz x o S' k) o.dst S S':=by
 cases hlo : (fz.fl && locLoad o S) with
 | false =>
  have e1 : ∀ (R : Type) (k : St→Option R),dop P A an isRes cal D i fz x o S k = dop P A an isRes cal D i { fz with fl := false } x o S k := fun R k=>by
   unfold dop
   simp only [hlo,Bool.false_and]
   rfl
  have e2 : ∀ (R : Type) (k : St→Option R),dop P A an isRes cal D i fz x o S' k = dop P A an isRes cal D i { fz with fl := false } x o S' k := fun R k=>by
   have hlo' : (fz.fl && locLoad o S') = false := by rw [locLoad_same hl h]; exact hlo
   unfold dop
   simp only [hlo',Bool.false_and]
   rfl
  simp only [e1,e2]
  exact (dop_two (fz := { fz with fl := false }) (st := false) (fun _=>⟨hfx,rfl⟩) hx hl hv ⟨h,hm,fun h=>(by cases h)⟩).stay
 | true =>
  have hll := (Bool.and_eq_true _ _ ▸ hlo).2
  have hlo' : (fz.fl && locLoad o S') = true := by rw [locLoad_same hl h]; exact hlo
  obtain ⟨ty,t,hop⟩ : ∃ ty t,o.op = .load ty (.tmp t):=by
   unfold locLoad at hll
   split at hll
   ·split at hll
    ·exact ⟨_,_,by assumption⟩
    ·cases hll
   ·cases hll
  have hc : x.cl = 1 := by rw [hx]; simp only [clOf,hop]
  obtain ⟨d,off,hs⟩ : ∃ d off,S.slot t = .lp d off:=by
   unfold locLoad at hll
   rw [hop] at hll
   simp only at hll
   split at hll
   ·exact ⟨_,_,by assumption⟩
   ·cases hll
  have hs' : S'.slot t = .lp d off := bare_lp (h.slot t (hl t (by simp [hop,Op.operands]))) hs
  have e : ∀ (T : St) (R : Type) (k : St→Option R),T.slot t = .lp d off→(fz.fl && locLoad o T) = true→dop P A an isRes cal D i fz x o T k = (getL T.L d).bind fun b=>tAggK P ty fun ag=>match ag with
    | true=>br (Nat.ble (off + tSize P ty) b.cells.length) (k (T.putd o.dst (.val (.agg ((b.cells.drop off).take (tSize P ty))) .no))) none
    | false=>(nth b.cells off).bind fun c=>k (T.putd o.dst (.val c (match memN off b.free with
     | true=>.lL d off
     | false=>.no))) := fun T R k ht hT=>by
   unfold dop
   rw [hc]
   simp only [hfx,hT,absOp,hop,opLoadA,opLoad,ht]
   rfl
  unfold TwoS
  simp only [e S _ _ hs hlo,e S' _ _ hs' hlo',hL]
  cases hb : getL S.L d with
  | none=>exact .inl fun R k=>rfl
  | some b =>
   simp only [Option.bind_some]
   rcases par_tAggK (P := P) ty with hp | ⟨ag,hp⟩
   ·exact .inl fun R k=>hp R _
   ·simp only [hp]
    cases ag with
    | true =>
     simp only
     cases Nat.ble (off + tSize P ty) b.cells.length with
     | false=>exact .inl fun R k=>rfl
     | true=>exact .inr ⟨_,fun R k=>rfl,fun R k=>rfl,.bare rfl⟩
    | false =>
     simp only
     cases nth b.cells off with
     | none=>exact .inl fun R k=>rfl
     | some c =>
      refine .inr ⟨_,fun R k=>rfl,fun R k=>rfl,?_⟩
      cases memN off b.free with
      | true=>exact ⟨rfl,fun _=>rfl⟩
      | false=>exact ⟨rfl,fun _=>rfl⟩
end
end Go.Vai
end
section
namespace Go.Vai
section
variable {g0 : G} {w0 : World} {Ex : Nat→Prop} {g g' : G} {a : Act} {w w' : World} {R : Type} {r : R}
variable {eb ebj ebi : Bool} {P : Program} {A : List (Nat × Ann)} {an : Ann} {isRes : Nat→Bool} {cal : Oracle} {o : Oper} {S S' : St} {l : List Nat}
def gres (all : List Oper) (o : Oper) (S : St) : Option Bool := match o.guard with
 | none=>some true
 | some (j,want)=>match dstOf all j with
  | none=>none
  | some d=>match S.slot d with
   | .val (.bool b) _=>some (b == want)
   | .val (.tuple []) _=>some false
   | _=>none
theorem dstep0_eq {all : List Oper} {D : List Nat} {i : Nat} {fz : Fx} {x : OI} {k : St→Option R} : dstep0 P A an isRes cal all D i fz x o S k = match gres all o S with
  | some true=>dop P A an isRes cal D i fz x o S k
  | some false=>k (S.putd o.dst (.val (.tuple []) .no))
  | none=>none:=by
 unfold dstep0 gres
 cases o.guard with
 | none=>rfl
 | some jw =>
  obtain ⟨j,want⟩ := jw
  simp only
  cases dstOf all j with
  | none=>rfl
  | some d =>
   simp only
   cases hs : S.slot d with
   | und=>rfl
   | lp e off=>rfl
   | mp e=>rfl
   | val v f =>
    cases v with
    | bool b =>
     have e : S.put d (.val (.bool b) f) = S := by rw [← hs]; exact put_self S d
     cases b <;> cases want <;> simp only [br,e] <;> rfl
    | tuple l=>cases l <;> rfl
    | _=>rfl
theorem gres_same {all : List Oper} (hg : ∀ j want d,o.guard = some (j,want)→dstOf all j = some d→d ∈ l) (h : ∀ t ∈ l,(S'.slot t).bare = (S.slot t).bare) : gres all o S' = gres all o S:=by
 unfold gres
 cases hgd : o.guard with
 | none=>rfl
 | some jw =>
  obtain ⟨j,want⟩ := jw
  simp only
  cases hd : dstOf all j with
  | none=>rfl
  | some d =>
   simp only
   have hb := h d (hg j want d hgd hd)
   cases hs : S.slot d with
   | und=>rw [bare_und hb hs]
   | lp e off=>rw [bare_lp hb hs]
   | mp e=>rw [bare_mp hb hs]
   | val v f =>
    obtain ⟨f',hs'⟩ := bare_val hb hs
    rw [hs']
    cases v with
    | tuple l=>cases l <;> rfl
    | _=>rfl
theorem dstep0_two {all : List Oper} {D : List Nat} {i : Nat} {fz : Fx} {x : OI} {st : Bool} (hst : st = false→fz.fx = false∧fz.fl = false) (hx : x.cl = clOf A eb o) (hl : ∀ t,Operand.tmp t ∈ o.op.operands→t ∈ x.lk) (hg : ∀ j want d,o.guard = some (j,want)→dstOf all j = some d→d ∈ x.lk)
  (hv : isVal x.cl = true) (h : Sim st fz.fh S S' x.lk) : TwoF st (fun _ k=>dstep0 P A an isRes cal all D i fz x o S k) (fun _ k=>dstep0 P A an isRes cal all D i fz x o S' k) o.dst S S':=by
 have e : gres all o S' = gres all o S := gres_same hg h.same.slot
 unfold TwoF
 simp only [dstep0_eq,e]
 cases gres all o S with
 | none=>exact .inl fun R k=>rfl
 | some b =>
  cases b with
  | true=>exact dop_two hst hx hl hv h
  | false=>exact .inr ⟨_,fun R k=>rfl,fun R k=>rfl,fun _=>rfl⟩
theorem dstep0_twoS {all : List Oper} {D : List Nat} {i : Nat} {fz : Fx} {x : OI} (hfx : fz.fx = false) (hx : x.cl = clOf A eb o) (hl : ∀ t,Operand.tmp t ∈ o.op.operands→t ∈ x.lk) (hg : ∀ j want d,o.guard = some (j,want)→dstOf all j = some d→d ∈ x.lk)
  (hv : isVal x.cl = true) (h : Same S S' x.lk) (hL : S'.L = S.L) (hm : fz.fh = true→SameH S S') : TwoS (fun _ k=>dstep0 P A an isRes cal all D i fz x o S k) (fun _ k=>dstep0 P A an isRes cal all D i fz x o S' k) o.dst S S':=by
 have e : gres all o S' = gres all o S := gres_same hg h.slot
 unfold TwoS
 simp only [dstep0_eq,e]
 cases gres all o S with
 | none=>exact .inl fun R k=>rfl
 | some b =>
  cases b with
  | true=>exact dop_twoS hfx hx hl hv h hL hm
  | false=>exact .inr ⟨_,fun R k=>rfl,fun R k=>rfl,.bare rfl⟩
theorem dstep_nv {all : List Oper} {D : List Nat} {i : Nat} {fz : Fx} {x : OI} {k : St→Option R} (hv : isVal x.cl = false) : dstep P A an isRes cal all D i fz x o S k = dstep0 P A an isRes cal all D i fz x o S k:=by
 unfold dstep needs
 rw [hv]
theorem chk_congr {fz : Fx} {x : OI} {l : List Nat} (h : ∀ t ∈ l,(S'.slot t).bare = (S.slot t).bare) : chk fz x S' l = chk fz x S l:=by
 unfold chk
 rw [noBox_congr h]
theorem dstep_two {all : List Oper} {D : List Nat} {i : Nat} {fz : Fx} {x : OI} {st : Bool} (hst : st = false→fz.fx = false∧fz.fl = false) (hds : ∀ q,q ∈ x.ds→o.dst = some q) (hx : x.cl = clOf A eb o) (hl : ∀ t,Operand.tmp t ∈ o.op.operands→t ∈ x.lk) (hg : ∀ j want d,o.guard = some (j,want)→dstOf all j = some d→d ∈ x.lk)
  (hv : isVal x.cl = true) (h : Sim st fz.fh S S' x.lk) : TwoF st (fun _ k=>dstep P A an isRes cal all D i fz x o S k) (fun _ k=>dstep P A an isRes cal all D i fz x o S' k) o.dst S S':=by
 unfold dstep
 cases needs fz x with
 | false=>exact dstep0_two hst hx hl hg hv h
 | true =>
 unfold TwoF
 simp only [chk_congr h.same.slot]
 cases hc : chk fz x S x.lk with
 | false=>exact .inl fun R k=>rfl
 | true =>
  rcases dstep0_two (P := P) (an := an) (isRes := isRes) (cal := cal) (all := all) (D := D) (i := i) (fz := fz) hst hx hl hg hv h with hn | ⟨s,h1,h2,h3⟩
  ·exact .inl fun R k=>hn R _
  ·have e : chk fz x (S'.putd o.dst s) x.ds = chk fz x (S.putd o.dst s) x.ds:=by
    unfold chk
    rw [noBox_putd hds h.same.len rfl]
   cases hc2 : chk fz x (S.putd o.dst s) x.ds with
   | false=>exact .inl fun R k=>(h1 R _).trans (by simp only [hc2,br])
   | true=>exact .inr ⟨s,fun R k=>(h1 R _).trans (by simp only [hc2,br]),fun R k=>(h2 R _).trans (by simp only [e,hc2,br]),h3⟩
theorem dstep_twoS {all : List Oper} {D : List Nat} {i : Nat} {fz : Fx} {x : OI} (hfx : fz.fx = false) (hds : ∀ q,q ∈ x.ds→o.dst = some q) (hx : x.cl = clOf A eb o) (hl : ∀ t,Operand.tmp t ∈ o.op.operands→t ∈ x.lk) (hg : ∀ j want d,o.guard = some (j,want)→dstOf all j = some d→d ∈ x.lk)
  (hv : isVal x.cl = true) (h : Same S S' x.lk) (hL : S'.L = S.L) (hm : fz.fh = true→SameH S S') : TwoS (fun _ k=>dstep P A an isRes cal all D i fz x o S k) (fun _ k=>dstep P A an isRes cal all D i fz x o S' k) o.dst S S':=by
 unfold dstep
 cases needs fz x with
 | false=>exact dstep0_twoS hfx hx hl hg hv h hL hm
 | true =>
 unfold TwoS
 simp only [chk_congr h.slot]
 cases hc : chk fz x S x.lk with
 | false=>exact .inl fun R k=>rfl
 | true =>
  rcases dstep0_twoS (P := P) (an := an) (isRes := isRes) (cal := cal) (all := all) (D := D) (i := i) (fz := fz) hfx hx hl hg hv h hL hm with hn | ⟨s,h1,h2,h3⟩
  ·exact .inl fun R k=>hn R _
  ·have e : chk fz x (S'.putd o.dst s) x.ds = chk fz x (S.putd o.dst s) x.ds:=by
    unfold chk
    rw [noBox_putd hds h.len rfl]
   cases hc2 : chk fz x (S.putd o.dst s) x.ds with
   | false=>exact .inl fun R k=>(h1 R _).trans (by simp only [hc2,br])
   | true=>exact .inr ⟨s,fun R k=>(h1 R _).trans (by simp only [hc2,br]),fun R k=>(h2 R _).trans (by simp only [e,hc2,br]),h3⟩
theorem dstep_box {all : List Oper} {D : List Nat} {i : Nat} {fz : Fx} {x : OI} {T : St} (hv : isVal x.cl = true) (hfx : fz.fx = false) (h : ∀ k : St→Option St,dstep P A an isRes cal all D i fz x o S k = k T) :
  (∀ t ∈ x.lk,∀ e off,(S.slot t = .lp e off ∨ S.slot t = .mp e)→e ∉ fz.ws)∧∀ t ∈ x.ds,∀ e off,(T.slot t = .lp e off ∨ T.slot t = .mp e)→e ∉ fz.ws:=by
 have hne : fz.ws = [] ∨ needs fz x = true:=by
  unfold needs
  rw [hv,hfx]
  cases fz.ws with
  | nil=>exact .inl rfl
  | cons _ _=>exact .inr rfl
 rcases hne with hnil | hneed
 ·rw [hnil]
  exact ⟨fun t _ e off _=>by simp,fun t _ e off _=>by simp⟩
 have h1 := h some
 unfold dstep at h1
 rw [hneed] at h1
 obtain ⟨hc,h1⟩ := br_left h1
 have c : ∀ T l,chk fz x T l = noBox T fz.ws l := fun T l=>by unfold chk; rw [hv,hfx]
 rw [c] at hc
 refine ⟨fun t ht e off hs=>noBox_spec hc ht hs,?_⟩
 have key : ∀ U : St,U = T→chk fz x U x.ds = true ∨ dstep0 P A an isRes cal all D i fz x o S (fun S'=>br (chk fz x S' x.ds) (some S') none) ≠ some U:=by
  intro U hU
  cases hcc : chk fz x U x.ds with
  | true=>exact .inl rfl
  | false =>
   right
   intro hh
   have h2 := h (fun S'=>br (chk fz x S' x.ds) (some S') none)
   have h3 : dstep P A an isRes cal all D i fz x o S (fun S'=>br (chk fz x S' x.ds) (some S') none) = some U:=by
    unfold dstep
    rw [hneed]
    simp only
    rw [c,hc]
    have e : (fun S'=>br (chk fz x S' x.ds) (br (chk fz x S' x.ds) (some S') none) none) = fun S'=>br (chk fz x S' x.ds) (some S') (none : Option St):=by
     funext S'
     cases chk fz x S' x.ds <;> rfl
    rw [e]
    exact hh
   rw [h3] at h2
   rw [← hU,hcc] at h2
   cases h2
 rcases key T rfl with hk | hk
 ·rw [c] at hk
  exact fun t ht e off hs=>noBox_spec hk ht hs
 ·exact absurd h1 hk
theorem Rel.nx (h : Rel g0 w0 Ex g S a w) (n : Nat) : Rel g0 w0 Ex g { S with nx := n } a w :=
 ⟨h.inv,⟨h.h.blk,h.h.lt⟩,h.l,h.m,h.len,fun t=>by
  have := h.sl t
  cases hst : S.slot t with
  | und=>show SlotRel g _ a w t (S.slot t); rw [hst]; trivial
  | lp d' off=>show SlotRel g _ a w t (S.slot t); rw [hst] at this ⊢; exact this
  | mp d'=>show SlotRel g _ a w t (S.slot t); rw [hst] at this ⊢; exact this
  | val v f=>show SlotRel g _ a w t (S.slot t); rw [hst] at this ⊢; exact ⟨this.1,by cases f <;> exact this.2⟩,h.fr,h.nodef⟩
theorem Rel.bareAt (h : Rel g0 w0 Ex g S a w) (d : Option Nat) : Rel g0 w0 Ex g (S.bareAt d) a w:=by
 cases d with
 | none=>exact h
 | some d =>
  show Rel g0 w0 Ex g (S.put d (S.slot d).bare) a w
  cases hs : S.slot d with
  | val v f=>exact h.reflag hs (f' := .no) trivial (by simp) (by simp)
  | und=>rw [show S.put d Slot.und.bare = S by show S.put d Slot.und = S; rw [← hs]; exact put_self S d]; exact h
  | lp e off=>rw [show S.put d (Slot.lp e off).bare = S by show S.put d (Slot.lp e off) = S; rw [← hs]; exact put_self S d]; exact h
  | mp e=>rw [show S.put d (Slot.mp e).bare = S by show S.put d (Slot.mp e) = S; rw [← hs]; exact put_self S d]; exact h
theorem dop_ok (hN : ∀ (f : Nat) (fn : Func),P.funcs[f]? = some fn→fn.name ≠ "runtime.NumGoroutine") (hcal : CalOk P A cal) (hgl : GlobOk A g0 w0) {D : List Nat} {i : Nat} {fz : Fx} {x : OI} (hx : x.cl = clOf A eb o) {k : St→Option R} (h : dop P A an isRes cal D i fz x o S k = some r)
  (hg : Rel g0 w0 Ex g S a w) (Q : Exit→Act→World→Prop) : o.wp P a w (fun a' w'=>∃ S',Good g0 w0 Ex S' a' w'∧k S' = some r) Q:=by
 unfold dop at h
 split at h
 ·split at h
  ·exact absOp_ok hN hcal hgl h hg Q
  ·refine Oper.wp_mono ?_ (absOp_ok hN hcal hgl h hg Q)
   rintro a' w' ⟨S1,⟨g1,h1⟩,h2⟩
   exact ⟨_,⟨g1,h1.bareAt o.dst⟩,h2⟩
 ·split at h
  ·exact absOp_ok hN hcal hgl h hg Q
  split at h
  ·exact absOp_ok hN hcal hgl h hg Q
  ·obtain ⟨_,h⟩ := br_left h
   refine Oper.wp_mono ?_ (absOp_ok hN hcal hgl h hg Q)
   rintro a' w' ⟨S1,⟨g1,h1⟩,h2⟩
   exact ⟨_,⟨g1,h1.bareAt o.dst⟩,h2⟩
 ·rename_i hc
  rw [hx] at hc
  split at h
  ·cases h
  ·rename_i d hd
   cases hcat : catOk o fz.fx S with
   | true =>
    rw [hcat] at h
    simp only at h
    obtain ⟨_,h⟩ := br_left h
    obtain ⟨u,w',g',v,hrun,hk,hrel⟩ := opCat_ok h hd hg
    exact (StepTo.mk hrun ⟨g',by rw [hd]; exact hrel⟩ hk).ok Q
   | false =>
   rw [hcat] at h
   simp only at h
   obtain ⟨hp0,h⟩ := br_left h
   rw [Bool.and_eq_true] at hp0
   obtain ⟨hlt0,hp⟩ := hp0
   rcases par2 (P := P) (an := an) (isRes := isRes) (cal := cal) hc (S.mask x.lk) with hn | ⟨T,hT⟩
   ·rw [show absOp P A an isRes cal o (S.mask x.lk) _ = none from hn _ _] at h; cases h
   ·have hT' : ∀ (R : Type) (k : St→Option R),absOp P A an isRes cal o (S.mask x.lk) k = k T := hT
    rw [hT'] at h
    split at h
    ·rename_i v f hs
     obtain ⟨hpv,hk⟩ := br_left h
     have hv : vOp P A an isRes cal o x.lk S = some v:=by
      unfold vOp
      rw [hT']
      simp only [Option.bind_some,hd,hs]
     have hlt : d < S.sl.length := by simpa [Nat.blt_eq] using hlt0
     have hund : (S.put d .und).slot d = .und := by rw [slot_put,if_pos ⟨rfl,hlt⟩]
     have hg0 : Rel g0 w0 Ex g (S.put d .und) a w := hg.reslot rfl rfl rfl rfl (by show (setS S.sl d _).length = _; rw [setS_length]) fun t=>by
      rw [slot_put]
      split
      ·exact .inr (.inl rfl)
      ·exact .inl rfl
     refine vOp_ok (S := S.put d .und) hN hcal hgl hv hpv (by show _ = (setS S.sl d _).length; rw [setS_length]) (fun t ht=>?_) hd hund (by show d < (setS S.sl d _).length; rw [setS_length]; exact hlt) hg0 Q _ ?_
     ·cases hst : S.slot t with
      | und=>exact .inr (by simp)
      | lp e off=>exact .inr (by simp)
      | mp e=>exact .inr (by simp)
      | val y fy =>
       refine .inl ⟨y,fy,rfl,?_,?_⟩
       ·have hm : y ∈ x.lk.map fun t=>(S.slot t).av := List.mem_map.2 ⟨t,ht,by rw [hst]; rfl⟩
        obtain ⟨n,hn⟩ := List.getElem?_of_mem hm
        exact pureL_get hp n _ hn
       ·have := hg.sl t
        rw [hst] at this
        exact this.1
     ·intro g' u w' h1 _ h3
      refine ⟨S.put d (.val v .no),⟨g',h1.reslot rfl rfl rfl rfl (by show (setS S.sl d _).length = (setS S.sl d _).length; rw [setS_length,setS_length]) fun t=>?_⟩,hk⟩
      rw [slot_put,slot_put]
      split
      ·rename_i ht
       refine .inr (.inr ⟨v,rfl,?_⟩)
       rw [ht.1,hd,getD_put,if_pos ⟨rfl,by rw [← hg.len]; exact hlt⟩]
       exact h3
      ·exact .inl rfl
    ·cases h
 ·split at h
  ·cases h
  ·refine Oper.wp_mono ?_ (absOp_ok hN hcal hgl h (hg.nx _) Q)
   rintro a' w' ⟨S1,⟨g1,h1⟩,h2⟩
   split at h2
   ·split at h2
    ·exact ⟨_,⟨g1,h1.nx _⟩,h2⟩
    ·cases h2
   ·cases h2
 ·split at h
  ·cases h
  ·refine Oper.wp_mono ?_ (absOp_ok hN hcal hgl h hg Q)
   rintro a' w' ⟨S1,⟨g1,h1⟩,h2⟩
   split at h2
   ·obtain ⟨_,h2⟩ := br_left h2
    exact ⟨_,⟨g1,h1⟩,h2⟩
   ·cases h2
 ·obtain ⟨_,h⟩ := br_left h
  exact absOp_ok hN hcal hgl h hg Q
 ·split at h
  ·obtain ⟨_,h⟩ := br_left h
   exact absOp_ok hN hcal hgl h hg Q
  ·obtain ⟨_,h⟩ := br_left h
   refine Oper.wp_mono ?_ (absOp_ok hN hcal hgl h hg Q)
   rintro a' w' ⟨S1,⟨g1,h1⟩,h2⟩
   obtain ⟨_,h2⟩ := br_left h2
   exact ⟨_,⟨g1,h1⟩,h2⟩
end
end Go.Vai
end
