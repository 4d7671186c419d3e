/- What is parsed is well formed: expressions, fields, queries. -/
import Derived.Test.YtfdklpkfpmkgeaaGreatDoorM10
set_option linter.unusedSimpArgs false
set_option linter.unusedVariables false
set_option linter.unusedSectionVars false
set_option linter.unnecessarySimpa false
namespace Go.Proofs.YtfdklpkfpmkgeaaGreatDoor
section
open Go Go.Vai
theorem isG_s {p : PS} {w : List UInt8} (h : p.isG w = true) : p.s = w:=by
 unfold PS.isG at h;rw [Bool.and_eq_true] at h;exact (zdg _ _).1 h.2
theorem zuy {s : List UInt8} {n : Nat} (h : zh2 s = (n : Int)) (hn : 1 ≤ n) : s ∈ binW:=by
 unfold zh2 at h;unfold binW;split at h
 ·rename_i e; subst e; simp
 split at h
 ·rename_i e; subst e; simp
 split at h
 ·rename_i e; rcases e with e | e | e | e | e | e | e <;> subst e <;> simp
 split at h
 ·rename_i e; rcases e with e | e <;> subst e <;> simp
 split at h
 ·rename_i e; subst e; simp
 ·omega
theorem zie {k n : Int} {s : List UInt8} {tg : Bool} {a : Int} {p q : PS} (h1 : 1 ≤ k) (h5 : k ≤ 5) (hm : mu q ≤ mu p) : WfE (.mk k n s tg [] a)∧(Ex.mk k n s tg [] a).sz + 2 * mu q ≤ 2 * mu p + 1:=by
 refine ⟨.leaf _ _ _ _ _ h1 h5,?_⟩;simp only [Ex.sz,szE];omega
theorem zvs : ∀ f : Nat,(∀ n p r,Ok p→1 ≤ n→binF f n p = some r→WfE r.1∧r.1.sz + 2 * mu r.2 ≤ 2 * mu p + 1)∧(∀ n e p r,Ok p→1 ≤ n→WfE e→binL f n e p = some r→WfE r.1∧r.1.sz + 2 * mu r.2 ≤ e.sz + 2 * mu p) ∧
  (∀ p r,Ok p→unF f p = some r→WfE r.1∧r.1.sz + 2 * mu r.2 ≤ 2 * mu p + 1)∧(∀ p r,Ok p→priF f p = some r→WfE r.1∧r.1.sz + 2 * mu r.2 ≤ 2 * mu p + 1)
 | 0=>⟨fun _ _ _ _ _ h=>(by rw [binF] at h; cases h),fun _ _ _ _ _ _ _ h=>(by rw [binL] at h; cases h),fun _ _ _ h=>(by rw [unF] at h; cases h),fun _ _ _ h=>(by rw [priF] at h; cases h)⟩
 | f + 1=>by
  obtain ⟨i1,i2,i3,i4⟩ := zvs f;obtain ⟨j1,j2,j3,j4⟩ := zbp f;refine ⟨fun n p r hp hn h=>?_,fun n e p r hp hn he h=>?_,fun p r hp h=>?_,fun p r hp h=>?_⟩
  ·rw [binF] at h;split at h
   ·exact i3 p r hp h
   ·obtain ⟨x,h1,h2⟩ := za2 h;obtain ⟨a1,a2⟩ := i1 _ _ _ hp (by omega) h1;obtain ⟨b1,b2⟩ := i2 _ _ _ _ (j1 _ _ _ hp h1).ok hn a1 h2;exact ⟨b1,by omega⟩
  ·rw [binL] at h;split at h
   ·rename_i hc;obtain ⟨x,h1,h2⟩ := za2 h;have k0 := Keep.adv hp;have lt := (PS.adv_mu hp).2 (zn1 hp hn hc.2);obtain ⟨a1,a2⟩ := i1 _ _ _ k0.ok (by omega) h1;have hw : WfE (.mk 7 0 p.s false [e,x.1] p.tat) := .bin _ _ _ _ _ _ (zuy hc.2 hn) he a1;have hsz : (Ex.mk 7 0 p.s false [e,x.1] p.tat).sz = 1 + (e.sz + (x.1.sz + 0)) := by simp only [Ex.sz,szE]
    split at h2
    ·injection h2 with h2;subst h2;refine ⟨hw,?_⟩;rw [hsz];simp only;omega
    ·obtain ⟨b1,b2⟩ := i2 _ _ _ _ (j1 _ _ _ k0.ok h1).ok hn hw h2;rw [hsz] at b2;exact ⟨b1,by omega⟩
   ·injection h with h;subst h;exact ⟨he,Nat.le_refl _⟩
  ·rw [unF] at h;split at h
   ·rename_i hg;have hk : p.kind ≠ 0 := by rcases hg with hg | hg <;> rw [zc0 hg] <;> decide
    have hs : p.s = [45] ∨ p.s = [33] := by rcases hg with hg | hg; exact .inl (isG_s hg); exact .inr (isG_s hg)
    obtain ⟨x,h1,h2⟩ := za2 h;obtain ⟨a1,a2,a3,a4⟩ := zc9 hp hk;obtain ⟨b1,b2⟩ := i3 _ _ a1 h1;injection h2 with h2;subst h2;refine ⟨.un _ _ _ _ _ hs b1,?_⟩;have e2 : mu x.2.cls = mu x.2 := rfl;simp only [Ex.sz,szE,e2];omega
   ·exact i4 p r hp h
  ·rw [priF] at h;split at h
   ·injection h with h; subst h; exact zie (by decide) (by decide) (Keep.adv hp).mu
   split at h
   ·injection h with h; subst h; exact zie (by decide) (by decide) (Keep.adv hp).mu
   split at h
   ·injection h with h; subst h; exact zie (by decide) (by decide) (Keep.adv hp).mu
   split at h
   ·injection h with h; subst h; exact zie (by decide) (by decide) (Keep.adv hp).mu
   split at h
   ·injection h with h; subst h;have k1 := Keep.adv hp;have k2 := k1.trans (Keep.sign k1.ok [40]);have k3 := k2.trans (Keep.name k2.ok);exact zie (by decide) (by decide) (k3.trans (Keep.sign k3.ok [41])).mu
   split at h
   ·rename_i hg;obtain ⟨x,h1,h2⟩ := za2 h;obtain ⟨a1,a2,a3,a4⟩ := zc9 hp (by rw [zc0 hg]; decide);obtain ⟨b1,b2⟩ := i1 _ _ _ a1 (by decide) h1;have k1 := j1 _ _ _ a1 h1;injection h2 with h2;subst h2;have k2 := zd5 hp k1.ok (k1.src.trans a2) (k1.dep.trans a3) (by have := k1.mu; omega);have k3 := (Keep.sign k2.ok [41]).mu;have e2 : mu x.2.cls = mu x.2 := rfl;refine ⟨b1,?_⟩;simp only;omega
   ·injection h with h; subst h; exact zie (by decide) (by decide) (Keep.name hp).mu
theorem zml : ∀ f l p r,Ok p→pasL f l p = some r→r.1.length + mu r.2 ≤ l.length + mu p
 | 0,_,_,_,_,h=>by cases h
 | f + 1,l,p,r,hO,h=>by
  rw [pasL] at h;split at h
  ·rename_i hg;have k0 := Keep.adv hO;have lt := (PS.adv_mu hO).2 (by rw [zc0 hg]; decide);have k1 := zcd k0.ok;have := k1.mu;have := zml f _ _ _ k1.ok h;rw [lnA,List.length_singleton] at this;omega
  ·injection h with h;subst h;have := (Keep.sign hO [41]).mu;simp only;omega
theorem pasF_len {f : Nat} {p : PS} {r : (Bool × List Par) × PS} (hO : Ok p) (h : pasF f p = some r) : r.1.2.length ≤ 8003:=by
 have k0 := Keep.sign hO [40];unfold pasF at h;split at h
 ·injection h with h;subst h;exact Nat.zero_le _
 ·obtain ⟨x,h1,h2⟩ := Option.map_eq_some_iff.1 h;subst h2;have k1 := zcd k0.ok;have := zml f _ _ _ k1.ok h1;have := zj5 k1.ok;simp only [List.length_singleton] at *;omega
structure TWf (t : Typ) : Prop where
 flds : ∀ f ∈ t.fields,1 ≤ f.kind∧f.kind ≤ 5
 qrys : ∀ q ∈ t.qrys,WfE q.res∧q.res.sz ≤ 100000∧q.params.length ≤ 100000
theorem memF_w {f : Nat} {t : Typ} {p : PS} {r : Typ × PS} (hO : Ok p) (h : memF f t p = some r) (ht : TWf t) : TWf r.1:=by
 have k1 := Keep.oneF hO memW 0;have k2 := Keep.name k1.ok;unfold memF at h;split at h
 ·injection h with h; subst h;refine ⟨fun g hg=>?_,ht.qrys⟩;rcases List.mem_append.1 hg with hg | hg
  ·exact ht.flds g hg
  ·rw [List.mem_singleton.1 hg]; simp only; omega
 split at h
 ·rename_i hc;injection h with h; subst h;refine ⟨fun g hg=>?_,ht.qrys⟩;rcases List.mem_append.1 hg with hg | hg
  ·exact ht.flds g hg
  ·rw [List.mem_singleton.1 hg]; simp only; omega
 split at h
 ·obtain ⟨a,h1,h2⟩ := za2 h;obtain ⟨b,h3,h4⟩ := za2 h2;injection h4 with h4; subst h4;exact ⟨ht.flds,ht.qrys⟩
 split at h
 ·obtain ⟨a,h1,h2⟩ := za2 h;obtain ⟨b,h3,h4⟩ := za2 h2;injection h4 with h4; subst h4;refine ⟨ht.flds,fun q hq=>?_⟩;rcases List.mem_append.1 hq with hq | hq
  ·exact ht.qrys q hq
  ·rw [List.mem_singleton.1 hq];have k3 := zbw k2.ok h1;have k4 := Keep.sign k3.ok [61];obtain ⟨w1,w2⟩ := (zvs f).1 _ _ _ k4.ok (by decide) h3;have := zj5 k4.ok;have := pasF_len k2.ok h1;exact ⟨w1,by simp only; omega,by simp only; omega⟩
 split at h
 ·injection h with h; subst h; exact ⟨ht.flds,ht.qrys⟩
 ·injection h with h; subst h; exact ht
theorem tdL_w : ∀ f t p r,Ok p→tdL f t p = some r→TWf t→TWf r.1
 | 0,_,_,_,_,h,_=>by cases h
 | f + 1,t,p,r,hO,h,ht=>by
  unfold tdL at h;split at h
  ·obtain ⟨a,h1,h2⟩ := za2 h;exact tdL_w f _ _ _ (zdx hO h1).1.ok h2 (memF_w hO h1 ht)
  ·injection h with h; subst h; exact ht
theorem tdF_w {f : Nat} {p : PS} {r : Typ × PS} (hO : Ok p) (h : tdF f p = some r) : TWf r.1:=by
 have k1 := Keep.adv hO;have k2 := Keep.name k1.ok;exact tdL_w f _ _ _ (Keep.sign k2.ok [123]).ok h ⟨fun g hg=>(by cases hg),fun q hq=>(by cases hq)⟩
theorem paL_w : ∀ f tg l p r,Ok p→paL f tg l p = some r→(∀ t ∈ l,TWf t)→∀ t ∈ r.1.2,TWf t
 | 0,_,_,_,_,_,h,_=>by cases h
 | f + 1,tg,l,p,r,hO,h,hl=>by
  unfold paL at h;split at h
  ·obtain ⟨a,h1,h2⟩ := za2 h;refine paL_w f _ _ _ _ (zg8 hO h1).ok h2 fun t ht=>?_;rcases List.mem_append.1 ht with ht | ht
   ·exact hl t ht
   ·rw [List.mem_singleton.1 ht]; exact tdF_w hO h1
  ·injection h with h; subst h; exact hl
theorem pa_wf {src : List UInt8} (hl : src.length ≤ 4000) {f : Nat} {r : (Bool × List Typ) × PS} (h : paL f true [] (ps0 src).adv = some r) : ∀ t ∈ r.1.2,TWf t :=
 paL_w f _ _ _ _ (Keep.adv (zk4 hl)).ok h (fun t ht=>by cases ht)
end
section
open Go Go.Vai
structure Nm where
 name : List UInt8
 at_ : Int
def Nm.cs (x : Nm) : List AV := [.str x.name,.int .i64 x.at_]
def Nm.av (x : Nm) : AV := .agg x.cs
abbrev hD (tg : Bool) (l : List Dg) (T : Hp) : Hp := (0,⟨[(.vs 2 tg (l.map Dg.av))],[0]⟩) :: T
def kv (s : List UInt8) : AV × AV := (.str s,.bool true)
theorem zts (s : List UInt8) (l : List (List UInt8)) : zdv Tryz.prog 9 ((s :: l).map kv) = zdv Tryz.prog 9 (l.map kv) := by kernel_rfl
theorem zbo : ∀ l : List (List UInt8),zdv Tryz.prog 9 (l.map kv) = true
 | []=>by kernel_rfl
 | s :: l=>(zts s l).trans (zbo l)
theorem zmf {R : Type} (s : List UInt8) (k : Option AV→Option R) : ∀ l : List (List UInt8),zdl (.str s) (l.map kv) k = k (if s ∈ l then some (.bool true) else none)
 | []=>rfl
 | a :: l=>by
  show (match eqS s a with | true=>k (some (.bool true)) | false=>zdl (.str s) (l.map kv) k) = _;by_cases h : s = a
  ·rw [(zdg s a).2 h,if_pos (by rw [h]; exact mcS)]
  ·rw [show eqS s a = false by rw [Bool.eq_false_iff]; exact fun e=>h ((zdg s a).1 e)];show zdl (.str s) (l.map kv) k = _;rw [zmf s k l];by_cases h' : s ∈ l
   ·rw [if_pos h',if_pos (mcM _ h')]
   ·rw [if_neg h',if_neg (fun e=>(List.mem_cons.1 e).elim h h')]
def addK (s : List UInt8) (l : List (List UInt8)) : List (List UInt8) := if s ∈ l then l else l ++ [s]
theorem ze0 (s : List UInt8) : ∀ l : List (List UInt8),mIns (.str s) (.bool true) (l.map kv) = (addK s l).map kv
 | []=>rfl
 | a :: l=>by
  have e : mIns (.str s) (.bool true) ((a :: l).map kv) = (match (match eqS s a with | true=>some () | false=>none) with
   | some _=>(AV.str s,AV.bool true) :: l.map kv
   | none=>kv a :: mIns (.str s) (.bool true) (l.map kv)) := rfl
  rw [e];unfold addK;by_cases h : s = a
  ·rw [(zdg s a).2 h,if_pos (by rw [h]; exact mcS)];subst h;rfl
  ·rw [show eqS s a = false by rw [Bool.eq_false_iff]; exact fun e=>h ((zdg s a).1 e)];show kv a :: mIns (.str s) (.bool true) (l.map kv) = _;rw [ze0 s l];unfold addK;by_cases h' : s ∈ l
   ·rw [if_pos h',if_pos (mcM _ h')]; rfl
   ·rw [if_neg h',if_neg (fun e=>(List.mem_cons.1 e).elim h h')]; rfl
end
section
open Go Go.Vai
attribute [local irreducible] goTo zao mkS
variable {C : Nat → Oracle} {o : Out}
abbrev qQ0 : List Nat := Q1h
abbrev qQ1 : List Nat := Q1w
abbrev qQ2 : List Nat := Q31
theorem p46_c (hC : Ext C) {T : Hp} {e : Nat} {a b : Bool} {c : List Dg} {d : List Typ} : LC C o 46 (mkS 33 [vv 0 (.ptr 0 0),vv 1 (.vs 6 b (d.map Typ.av)),vv 2 (.func 47 [])] [] ((0,⟨[(.vs 2 a (c.map Dg.av))],[0]⟩) :: T) e) [(.ptr 0 0),(.vs 6 b (d.map Typ.av)),(.func 47 [])] ((0,⟨[(.vs 2 a (c.map Dg.av))],[0]⟩) :: T) e := lC hC
theorem p46_0 {a b} {T : Hp} {e : Nat} {d : List Dg} {c : List Typ} : LR C o 46 [] (mkS 33 [vv 0 (.ptr 0 0),vv 1 (.vs 6 b (c.map Typ.av)),vv 2 (.func 47 [])] [] ((0,⟨[(.vs 2 a (d.map Dg.av))],[0]⟩) :: T) e) (.run 0 Q09 (mkSM 33 [vv 0 (.ptr 0 0),vv 2 (.func 47 []),(6,.mp 11),vv 12 (.vs 6 b (c.map Typ.av)),vi 13 ((c.map Typ.av).length : Int),vi 14 0] [] ((0,⟨[(.vs 2 a (d.map Dg.av))],[0]⟩) :: T) e [(11,[])])) := lR 6
theorem p46_1 {d a f c} {T : Hp} {h : Nat} {e : List Typ} {g : List (List UInt8)} {b : List Dg} : LR C o 46 Q09 (mkSM 33 [vv 0 (.ptr 0 0),vv 2 (.func 47 []),(6,.mp 11),vv 12 (.vs 6 d (e.map Typ.av)),vi 13 f,vi 14 c] [] ((0,⟨[(.vs 2 a (b.map Dg.av))],[0]⟩) :: T) h [(11,(List.map kv g))]) (.br (decide (c < f))
(ix (e.map Typ.av) c fun i =>
(.mid 0 qQ0 1 (mkSM 33 [vv 0 (.ptr 0 0),vv 2 (.func 47 []),(6,.mp 11),vv 12 (.vs 6 d (e.map Typ.av)),vi 13 f,vi 14 c,vb 15 true,vv 16 (.cptr (AV.cells i))] [] ((0,⟨[(.vs 2 a (b.map Dg.av))],[0]⟩) :: T) h [(11,(List.map kv g))])))
(.ret ⟨(.tuple []),((0,⟨[(.vs 2 a (b.map Dg.av))],[0]⟩) :: T),h⟩)) := lR 9
theorem p46_2 {c b g h a} {T : Hp} {i : Nat} {f : List Typ} {d : List Dg} {e : List (List UInt8)} : LM C o 46 qQ0 1 (mkSM 33 [vv 0 (.ptr 0 0),vv 2 (.func 47 []),(6,.mp 11),vv 12 (.vs 6 c (f.map Typ.av)),vi 13 g,vi 14 h,vb 15 true,vv 16 (.cptr (Typ.cs a))] [] ((0,⟨[(.vs 2 b (d.map Dg.av))],[0]⟩) :: T) i [(11,(List.map kv e))]) (cl0 47 [(.agg (Typ.cs a))] fun j => .br (AV.pure j.v)
(.mid 0 qQ1 3 (mkSM 33 [vv 0 (.ptr 0 0),vv 2 (.func 47 []),(6,.mp 11),(8,.lp 8 0),vv 12 (.vs 6 c (f.map Typ.av)),vi 13 g,vi 14 h,vv 19 (.func 47 []),vv 20 (.agg (Typ.cs a)),vv 21 j.v] [(8,⟨(Typ.cs a),[]⟩)] ((0,⟨[(.vs 2 b (d.map Dg.av))],[0]⟩) :: T) i [(11,(List.map kv e))])) .none) := lM 2
theorem p46_3 {e c i j d g b} {T : Hp} {k : Nat} {h : List Typ} {f : List Dg} {a : List (List UInt8)} : LM C o 46 qQ1 3 (mkSM 33 [vv 0 (.ptr 0 0),vv 2 (.func 47 []),(6,.mp 11),(8,.lp 8 0),vv 12 (.vs 6 e (h.map Typ.av)),vi 13 i,vi 14 j,vv 19 (.func 47 []),vv 20 (.agg (Typ.cs g)),vv 21 (.tuple [(.str b),(i6 d)])] [(8,⟨(Typ.cs g),[]⟩)] ((0,⟨[(.vs 2 c (f.map Dg.av))],[0]⟩) :: T) k [(11,(List.map kv a))]) (.br (zdv Tryz.prog 9 (List.map kv a))
(.look (.str b) (List.map kv a) (.bool false) fun m =>
(.isb m fun m3b =>
(.br m3b
(.call 84 [(.ptr 0 0),(i6 d),(i6 5)] ((0,⟨[(.vs 2 c (f.map Dg.av))],[0]⟩) :: T) k fun l =>
(.mid 4 qQ2 3 (mkSM 33 [vv 0 (.ptr 0 0),vv 2 (.func 47 []),(6,.mp 11),vt 9 b,vi 10 d,vv 12 (.vs 6 e (h.map Typ.av)),vi 13 i,vi 14 j,vb 26 true,vv 27 (.ptr 0 0),vi 28 d,vv 29 l.v] [] l.H l.nx [(11,(List.map kv a))])))
(.br (zdv Tryz.prog 9 (List.map kv a))
(.fnd (.str b) (List.map kv a) fun _ =>
(.run 0 Q09 (mkSM 33 [vv 0 (.ptr 0 0),vv 2 (.func 47 []),(6,.mp 11),vv 12 (.vs 6 e (h.map Typ.av)),vi 13 i,vi 14 (w64 (j + 1))] [] ((0,⟨[(.vs 2 c (f.map Dg.av))],[0]⟩) :: T) k [(11,(mIns (.str b) (.bool true) (List.map kv a)))]))) .none)))) .none) := lM 9
theorem p46_4 {d b h i e c} {T : Hp} {j : Nat} {g : List Typ} {f : List Dg} {a : List (List UInt8)} : LM C o 46 qQ2 3 (mkSM 33 [vv 0 (.ptr 0 0),vv 2 (.func 47 []),(6,.mp 11),vt 9 c,vi 10 e,vv 12 (.vs 6 d (g.map Typ.av)),vi 13 h,vi 14 i,vb 26 true,vv 27 (.ptr 0 0),vi 28 e,vv 29 (.tuple [])] [] ((0,⟨[(.vs 2 b (f.map Dg.av))],[0]⟩) :: T) j [(11,(List.map kv a))]) (.br (zdv Tryz.prog 9 (List.map kv a))
(.fnd (.str c) (List.map kv a) fun _ =>
(.run 0 Q09 (mkSM 33 [vv 0 (.ptr 0 0),vv 2 (.func 47 []),(6,.mp 11),vv 12 (.vs 6 d (g.map Typ.av)),vi 13 h,vi 14 (w64 (i + 1))] [] ((0,⟨[(.vs 2 b (f.map Dg.av))],[0]⟩) :: T) j [(11,(mIns (.str c) (.bool true) (List.map kv a)))]))) .none) := lM 4
theorem p85_c (hC : Ext C) {T : Hp} {e : Nat} {a b : Bool} {c : List Dg} {d : List Fld} : LC C o 85 (mkS 33 [vv 0 (.ptr 0 0),vv 1 (.vs 4 b (d.map Fld.av)),vv 2 (.func 86 [])] [] ((0,⟨[(.vs 2 a (c.map Dg.av))],[0]⟩) :: T) e) [(.ptr 0 0),(.vs 4 b (d.map Fld.av)),(.func 86 [])] ((0,⟨[(.vs 2 a (c.map Dg.av))],[0]⟩) :: T) e := lC hC
theorem p85_0 {a b} {T : Hp} {e : Nat} {d : List Dg} {c : List Fld} : LR C o 85 [] (mkS 33 [vv 0 (.ptr 0 0),vv 1 (.vs 4 b (c.map Fld.av)),vv 2 (.func 86 [])] [] ((0,⟨[(.vs 2 a (d.map Dg.av))],[0]⟩) :: T) e) (.run 0 Q09 (mkSM 33 [vv 0 (.ptr 0 0),vv 2 (.func 86 []),(6,.mp 11),vv 12 (.vs 4 b (c.map Fld.av)),vi 13 ((c.map Fld.av).length : Int),vi 14 0] [] ((0,⟨[(.vs 2 a (d.map Dg.av))],[0]⟩) :: T) e [(11,[])])) := lR 6
theorem p85_1 {c a e b} {T : Hp} {h : Nat} {d : List Fld} {g : List (List UInt8)} {f : List Dg} : LR C o 85 Q09 (mkSM 33 [vv 0 (.ptr 0 0),vv 2 (.func 86 []),(6,.mp 11),vv 12 (.vs 4 c (d.map Fld.av)),vi 13 e,vi 14 b] [] ((0,⟨[(.vs 2 a (f.map Dg.av))],[0]⟩) :: T) h [(11,(List.map kv g))]) (.br (decide (b < e))
(ix (d.map Fld.av) b fun i =>
(.mid 0 qQ0 1 (mkSM 33 [vv 0 (.ptr 0 0),vv 2 (.func 86 []),(6,.mp 11),vv 12 (.vs 4 c (d.map Fld.av)),vi 13 e,vi 14 b,vb 15 true,vv 16 (.cptr (AV.cells i))] [] ((0,⟨[(.vs 2 a (f.map Dg.av))],[0]⟩) :: T) h [(11,(List.map kv g))])))
(.ret ⟨(.tuple []),((0,⟨[(.vs 2 a (f.map Dg.av))],[0]⟩) :: T),h⟩)) := lR 9
theorem p85_2 {b c e f a} {T : Hp} {i : Nat} {d : List Fld} {g : List Dg} {h : List (List UInt8)} : LM C o 85 qQ0 1 (mkSM 33 [vv 0 (.ptr 0 0),vv 2 (.func 86 []),(6,.mp 11),vv 12 (.vs 4 b (d.map Fld.av)),vi 13 e,vi 14 f,vb 15 true,vv 16 (.cptr (Fld.cs a))] [] ((0,⟨[(.vs 2 c (g.map Dg.av))],[0]⟩) :: T) i [(11,(List.map kv h))]) (cl0 86 [(.agg (Fld.cs a))] fun j => .br (AV.pure j.v)
(.mid 0 qQ1 3 (mkSM 33 [vv 0 (.ptr 0 0),vv 2 (.func 86 []),(6,.mp 11),(8,.lp 8 0),vv 12 (.vs 4 b (d.map Fld.av)),vi 13 e,vi 14 f,vv 19 (.func 86 []),vv 20 (.agg (Fld.cs a)),vv 21 j.v] [(8,⟨(Fld.cs a),[]⟩)] ((0,⟨[(.vs 2 c (g.map Dg.av))],[0]⟩) :: T) i [(11,(List.map kv h))])) .none) := lM 2
theorem p85_3 {c d g h e j b} {T : Hp} {k : Nat} {f : List Fld} {i : List Dg} {a : List (List UInt8)} : LM C o 85 qQ1 3 (mkSM 33 [vv 0 (.ptr 0 0),vv 2 (.func 86 []),(6,.mp 11),(8,.lp 8 0),vv 12 (.vs 4 c (f.map Fld.av)),vi 13 g,vi 14 h,vv 19 (.func 86 []),vv 20 (.agg (Fld.cs j)),vv 21 (.tuple [(.str b),(i6 e)])] [(8,⟨(Fld.cs j),[]⟩)] ((0,⟨[(.vs 2 d (i.map Dg.av))],[0]⟩) :: T) k [(11,(List.map kv a))]) (.br (zdv Tryz.prog 9 (List.map kv a))
(.look (.str b) (List.map kv a) (.bool false) fun m =>
(.isb m fun m3b =>
(.br m3b
(.call 84 [(.ptr 0 0),(i6 e),(i6 5)] ((0,⟨[(.vs 2 d (i.map Dg.av))],[0]⟩) :: T) k fun l =>
(.mid 4 qQ2 3 (mkSM 33 [vv 0 (.ptr 0 0),vv 2 (.func 86 []),(6,.mp 11),vt 9 b,vi 10 e,vv 12 (.vs 4 c (f.map Fld.av)),vi 13 g,vi 14 h,vb 26 true,vv 27 (.ptr 0 0),vi 28 e,vv 29 l.v] [] l.H l.nx [(11,(List.map kv a))])))
(.br (zdv Tryz.prog 9 (List.map kv a))
(.fnd (.str b) (List.map kv a) fun _ =>
(.run 0 Q09 (mkSM 33 [vv 0 (.ptr 0 0),vv 2 (.func 86 []),(6,.mp 11),vv 12 (.vs 4 c (f.map Fld.av)),vi 13 g,vi 14 (w64 (h + 1))] [] ((0,⟨[(.vs 2 d (i.map Dg.av))],[0]⟩) :: T) k [(11,(mIns (.str b) (.bool true) (List.map kv a)))]))) .none)))) .none) := lM 9
theorem p85_4 {b c f g h d} {T : Hp} {j : Nat} {e : List Fld} {i : List Dg} {a : List (List UInt8)} : LM C o 85 qQ2 3 (mkSM 33 [vv 0 (.ptr 0 0),vv 2 (.func 86 []),(6,.mp 11),vt 9 d,vi 10 h,vv 12 (.vs 4 b (e.map Fld.av)),vi 13 f,vi 14 g,vb 26 true,vv 27 (.ptr 0 0),vi 28 h,vv 29 (.tuple [])] [] ((0,⟨[(.vs 2 c (i.map Dg.av))],[0]⟩) :: T) j [(11,(List.map kv a))]) (.br (zdv Tryz.prog 9 (List.map kv a))
(.fnd (.str d) (List.map kv a) fun _ =>
(.run 0 Q09 (mkSM 33 [vv 0 (.ptr 0 0),vv 2 (.func 86 []),(6,.mp 11),vv 12 (.vs 4 b (e.map Fld.av)),vi 13 f,vi 14 (w64 (g + 1))] [] ((0,⟨[(.vs 2 c (i.map Dg.av))],[0]⟩) :: T) j [(11,(mIns (.str d) (.bool true) (List.map kv a)))]))) .none) := lM 4
theorem p87_c (hC : Ext C) {T : Hp} {e : Nat} {a b : Bool} {c : List Dg} {d : List Par} : LC C o 87 (mkS 33 [vv 0 (.ptr 0 0),vv 1 (.vs 3 b (d.map Par.av)),vv 2 (.func 88 [])] [] ((0,⟨[(.vs 2 a (c.map Dg.av))],[0]⟩) :: T) e) [(.ptr 0 0),(.vs 3 b (d.map Par.av)),(.func 88 [])] ((0,⟨[(.vs 2 a (c.map Dg.av))],[0]⟩) :: T) e := lC hC
theorem p87_0 {a b} {T : Hp} {e : Nat} {d : List Dg} {c : List Par} : LR C o 87 [] (mkS 33 [vv 0 (.ptr 0 0),vv 1 (.vs 3 b (c.map Par.av)),vv 2 (.func 88 [])] [] ((0,⟨[(.vs 2 a (d.map Dg.av))],[0]⟩) :: T) e) (.run 0 Q09 (mkSM 33 [vv 0 (.ptr 0 0),vv 2 (.func 88 []),(6,.mp 11),vv 12 (.vs 3 b (c.map Par.av)),vi 13 ((c.map Par.av).length : Int),vi 14 0] [] ((0,⟨[(.vs 2 a (d.map Dg.av))],[0]⟩) :: T) e [(11,[])])) := lR 6
theorem p87_1 {c a e b} {T : Hp} {h : Nat} {d : List Par} {g : List (List UInt8)} {f : List Dg} : LR C o 87 Q09 (mkSM 33 [vv 0 (.ptr 0 0),vv 2 (.func 88 []),(6,.mp 11),vv 12 (.vs 3 c (d.map Par.av)),vi 13 e,vi 14 b] [] ((0,⟨[(.vs 2 a (f.map Dg.av))],[0]⟩) :: T) h [(11,(List.map kv g))]) (.br (decide (b < e))
(ix (d.map Par.av) b fun i =>
(.mid 0 qQ0 1 (mkSM 33 [vv 0 (.ptr 0 0),vv 2 (.func 88 []),(6,.mp 11),vv 12 (.vs 3 c (d.map Par.av)),vi 13 e,vi 14 b,vb 15 true,vv 16 (.cptr (AV.cells i))] [] ((0,⟨[(.vs 2 a (f.map Dg.av))],[0]⟩) :: T) h [(11,(List.map kv g))])))
(.ret ⟨(.tuple []),((0,⟨[(.vs 2 a (f.map Dg.av))],[0]⟩) :: T),h⟩)) := lR 9
theorem p87_2 {b c e f a} {T : Hp} {i : Nat} {d : List Par} {g : List Dg} {h : List (List UInt8)} : LM C o 87 qQ0 1 (mkSM 33 [vv 0 (.ptr 0 0),vv 2 (.func 88 []),(6,.mp 11),vv 12 (.vs 3 b (d.map Par.av)),vi 13 e,vi 14 f,vb 15 true,vv 16 (.cptr (Par.cs a))] [] ((0,⟨[(.vs 2 c (g.map Dg.av))],[0]⟩) :: T) i [(11,(List.map kv h))]) (cl0 88 [(.agg (Par.cs a))] fun j => .br (AV.pure j.v)
(.mid 0 qQ1 3 (mkSM 33 [vv 0 (.ptr 0 0),vv 2 (.func 88 []),(6,.mp 11),(8,.lp 8 0),vv 12 (.vs 3 b (d.map Par.av)),vi 13 e,vi 14 f,vv 19 (.func 88 []),vv 20 (.agg (Par.cs a)),vv 21 j.v] [(8,⟨(Par.cs a),[]⟩)] ((0,⟨[(.vs 2 c (g.map Dg.av))],[0]⟩) :: T) i [(11,(List.map kv h))])) .none) := lM 2
theorem p87_3 {c d g h e j b} {T : Hp} {k : Nat} {f : List Par} {i : List Dg} {a : List (List UInt8)} : LM C o 87 qQ1 3 (mkSM 33 [vv 0 (.ptr 0 0),vv 2 (.func 88 []),(6,.mp 11),(8,.lp 8 0),vv 12 (.vs 3 c (f.map Par.av)),vi 13 g,vi 14 h,vv 19 (.func 88 []),vv 20 (.agg (Par.cs j)),vv 21 (.tuple [(.str b),(i6 e)])] [(8,⟨(Par.cs j),[]⟩)] ((0,⟨[(.vs 2 d (i.map Dg.av))],[0]⟩) :: T) k [(11,(List.map kv a))]) (.br (zdv Tryz.prog 9 (List.map kv a))
(.look (.str b) (List.map kv a) (.bool false) fun m =>
(.isb m fun m3b =>
(.br m3b
(.call 84 [(.ptr 0 0),(i6 e),(i6 5)] ((0,⟨[(.vs 2 d (i.map Dg.av))],[0]⟩) :: T) k fun l =>
(.mid 4 qQ2 3 (mkSM 33 [vv 0 (.ptr 0 0),vv 2 (.func 88 []),(6,.mp 11),vt 9 b,vi 10 e,vv 12 (.vs 3 c (f.map Par.av)),vi 13 g,vi 14 h,vb 26 true,vv 27 (.ptr 0 0),vi 28 e,vv 29 l.v] [] l.H l.nx [(11,(List.map kv a))])))
(.br (zdv Tryz.prog 9 (List.map kv a))
(.fnd (.str b) (List.map kv a) fun _ =>
(.run 0 Q09 (mkSM 33 [vv 0 (.ptr 0 0),vv 2 (.func 88 []),(6,.mp 11),vv 12 (.vs 3 c (f.map Par.av)),vi 13 g,vi 14 (w64 (h + 1))] [] ((0,⟨[(.vs 2 d (i.map Dg.av))],[0]⟩) :: T) k [(11,(mIns (.str b) (.bool true) (List.map kv a)))]))) .none)))) .none) := lM 9
theorem p87_4 {b c f g h d} {T : Hp} {j : Nat} {e : List Par} {i : List Dg} {a : List (List UInt8)} : LM C o 87 qQ2 3 (mkSM 33 [vv 0 (.ptr 0 0),vv 2 (.func 88 []),(6,.mp 11),vt 9 d,vi 10 h,vv 12 (.vs 3 b (e.map Par.av)),vi 13 f,vi 14 g,vb 26 true,vv 27 (.ptr 0 0),vi 28 h,vv 29 (.tuple [])] [] ((0,⟨[(.vs 2 c (i.map Dg.av))],[0]⟩) :: T) j [(11,(List.map kv a))]) (.br (zdv Tryz.prog 9 (List.map kv a))
(.fnd (.str d) (List.map kv a) fun _ =>
(.run 0 Q09 (mkSM 33 [vv 0 (.ptr 0 0),vv 2 (.func 88 []),(6,.mp 11),vv 12 (.vs 3 b (e.map Par.av)),vi 13 f,vi 14 (w64 (g + 1))] [] ((0,⟨[(.vs 2 c (i.map Dg.av))],[0]⟩) :: T) j [(11,(mIns (.str d) (.bool true) (List.map kv a)))]))) .none) := lM 4
theorem p90_c (hC : Ext C) {T : Hp} {e : Nat} {a b : Bool} {c : List Dg} {d : List Nm} : LC C o 90 (mkS 33 [vv 0 (.ptr 0 0),vv 1 (.vs 2 b (d.map Nm.av)),vv 2 (.func 91 [])] [] ((0,⟨[(.vs 2 a (c.map Dg.av))],[0]⟩) :: T) e) [(.ptr 0 0),(.vs 2 b (d.map Nm.av)),(.func 91 [])] ((0,⟨[(.vs 2 a (c.map Dg.av))],[0]⟩) :: T) e := lC hC
theorem p90_0 {a b} {T : Hp} {e : Nat} {d : List Dg} {c : List Nm} : LR C o 90 [] (mkS 33 [vv 0 (.ptr 0 0),vv 1 (.vs 2 b (c.map Nm.av)),vv 2 (.func 91 [])] [] ((0,⟨[(.vs 2 a (d.map Dg.av))],[0]⟩) :: T) e) (.run 0 Q09 (mkSM 33 [vv 0 (.ptr 0 0),vv 2 (.func 91 []),(6,.mp 11),vv 12 (.vs 2 b (c.map Nm.av)),vi 13 ((c.map Nm.av).length : Int),vi 14 0] [] ((0,⟨[(.vs 2 a (d.map Dg.av))],[0]⟩) :: T) e [(11,[])])) := lR 6
theorem p90_1 {c a e b} {T : Hp} {h : Nat} {d : List Nm} {g : List (List UInt8)} {f : List Dg} : LR C o 90 Q09 (mkSM 33 [vv 0 (.ptr 0 0),vv 2 (.func 91 []),(6,.mp 11),vv 12 (.vs 2 c (d.map Nm.av)),vi 13 e,vi 14 b] [] ((0,⟨[(.vs 2 a (f.map Dg.av))],[0]⟩) :: T) h [(11,(List.map kv g))]) (.br (decide (b < e))
(ix (d.map Nm.av) b fun i =>
(.mid 0 qQ0 1 (mkSM 33 [vv 0 (.ptr 0 0),vv 2 (.func 91 []),(6,.mp 11),vv 12 (.vs 2 c (d.map Nm.av)),vi 13 e,vi 14 b,vb 15 true,vv 16 (.cptr (AV.cells i))] [] ((0,⟨[(.vs 2 a (f.map Dg.av))],[0]⟩) :: T) h [(11,(List.map kv g))])))
(.ret ⟨(.tuple []),((0,⟨[(.vs 2 a (f.map Dg.av))],[0]⟩) :: T),h⟩)) := lR 9
theorem p90_2 {b c e f a} {T : Hp} {i : Nat} {d : List Nm} {g : List Dg} {h : List (List UInt8)} : LM C o 90 qQ0 1 (mkSM 33 [vv 0 (.ptr 0 0),vv 2 (.func 91 []),(6,.mp 11),vv 12 (.vs 2 b (d.map Nm.av)),vi 13 e,vi 14 f,vb 15 true,vv 16 (.cptr (Nm.cs a))] [] ((0,⟨[(.vs 2 c (g.map Dg.av))],[0]⟩) :: T) i [(11,(List.map kv h))]) (cl0 91 [(.agg (Nm.cs a))] fun j => .br (AV.pure j.v)
(.mid 0 qQ1 3 (mkSM 33 [vv 0 (.ptr 0 0),vv 2 (.func 91 []),(6,.mp 11),(8,.lp 8 0),vv 12 (.vs 2 b (d.map Nm.av)),vi 13 e,vi 14 f,vv 19 (.func 91 []),vv 20 (.agg (Nm.cs a)),vv 21 j.v] [(8,⟨(Nm.cs a),[]⟩)] ((0,⟨[(.vs 2 c (g.map Dg.av))],[0]⟩) :: T) i [(11,(List.map kv h))])) .none) := lM 2
theorem p90_3 {c d g h e j b} {T : Hp} {k : Nat} {f : List Nm} {i : List Dg} {a : List (List UInt8)} : LM C o 90 qQ1 3 (mkSM 33 [vv 0 (.ptr 0 0),vv 2 (.func 91 []),(6,.mp 11),(8,.lp 8 0),vv 12 (.vs 2 c (f.map Nm.av)),vi 13 g,vi 14 h,vv 19 (.func 91 []),vv 20 (.agg (Nm.cs j)),vv 21 (.tuple [(.str b),(i6 e)])] [(8,⟨(Nm.cs j),[]⟩)] ((0,⟨[(.vs 2 d (i.map Dg.av))],[0]⟩) :: T) k [(11,(List.map kv a))]) (.br (zdv Tryz.prog 9 (List.map kv a))
(.look (.str b) (List.map kv a) (.bool false) fun m =>
(.isb m fun m3b =>
(.br m3b
(.call 84 [(.ptr 0 0),(i6 e),(i6 5)] ((0,⟨[(.vs 2 d (i.map Dg.av))],[0]⟩) :: T) k fun l =>
(.mid 4 qQ2 3 (mkSM 33 [vv 0 (.ptr 0 0),vv 2 (.func 91 []),(6,.mp 11),vt 9 b,vi 10 e,vv 12 (.vs 2 c (f.map Nm.av)),vi 13 g,vi 14 h,vb 26 true,vv 27 (.ptr 0 0),vi 28 e,vv 29 l.v] [] l.H l.nx [(11,(List.map kv a))])))
(.br (zdv Tryz.prog 9 (List.map kv a))
(.fnd (.str b) (List.map kv a) fun _ =>
(.run 0 Q09 (mkSM 33 [vv 0 (.ptr 0 0),vv 2 (.func 91 []),(6,.mp 11),vv 12 (.vs 2 c (f.map Nm.av)),vi 13 g,vi 14 (w64 (h + 1))] [] ((0,⟨[(.vs 2 d (i.map Dg.av))],[0]⟩) :: T) k [(11,(mIns (.str b) (.bool true) (List.map kv a)))]))) .none)))) .none) := lM 9
theorem p90_4 {b c f g h d} {T : Hp} {j : Nat} {e : List Nm} {i : List Dg} {a : List (List UInt8)} : LM C o 90 qQ2 3 (mkSM 33 [vv 0 (.ptr 0 0),vv 2 (.func 91 []),(6,.mp 11),vt 9 d,vi 10 h,vv 12 (.vs 2 b (e.map Nm.av)),vi 13 f,vi 14 g,vb 26 true,vv 27 (.ptr 0 0),vi 28 h,vv 29 (.tuple [])] [] ((0,⟨[(.vs 2 c (i.map Dg.av))],[0]⟩) :: T) j [(11,(List.map kv a))]) (.br (zdv Tryz.prog 9 (List.map kv a))
(.fnd (.str d) (List.map kv a) fun _ =>
(.run 0 Q09 (mkSM 33 [vv 0 (.ptr 0 0),vv 2 (.func 91 []),(6,.mp 11),vv 12 (.vs 2 b (e.map Nm.av)),vi 13 f,vi 14 (w64 (g + 1))] [] ((0,⟨[(.vs 2 c (i.map Dg.av))],[0]⟩) :: T) j [(11,(mIns (.str d) (.bool true) (List.map kv a)))]))) .none) := lM 4
theorem p92_c (hC : Ext C) {T : Hp} {e : Nat} {a b : Bool} {c : List Dg} {d : List Idx} : LC C o 92 (mkS 33 [vv 0 (.ptr 0 0),vv 1 (.vs 2 b (d.map Idx.av)),vv 2 (.func 93 [])] [] ((0,⟨[(.vs 2 a (c.map Dg.av))],[0]⟩) :: T) e) [(.ptr 0 0),(.vs 2 b (d.map Idx.av)),(.func 93 [])] ((0,⟨[(.vs 2 a (c.map Dg.av))],[0]⟩) :: T) e := lC hC
theorem p92_0 {a b} {T : Hp} {e : Nat} {d : List Dg} {c : List Idx} : LR C o 92 [] (mkS 33 [vv 0 (.ptr 0 0),vv 1 (.vs 2 b (c.map Idx.av)),vv 2 (.func 93 [])] [] ((0,⟨[(.vs 2 a (d.map Dg.av))],[0]⟩) :: T) e) (.run 0 Q09 (mkSM 33 [vv 0 (.ptr 0 0),vv 2 (.func 93 []),(6,.mp 11),vv 12 (.vs 2 b (c.map Idx.av)),vi 13 ((c.map Idx.av).length : Int),vi 14 0] [] ((0,⟨[(.vs 2 a (d.map Dg.av))],[0]⟩) :: T) e [(11,[])])) := lR 6
theorem p92_1 {c a e b} {T : Hp} {h : Nat} {d : List Idx} {g : List (List UInt8)} {f : List Dg} : LR C o 92 Q09 (mkSM 33 [vv 0 (.ptr 0 0),vv 2 (.func 93 []),(6,.mp 11),vv 12 (.vs 2 c (d.map Idx.av)),vi 13 e,vi 14 b] [] ((0,⟨[(.vs 2 a (f.map Dg.av))],[0]⟩) :: T) h [(11,(List.map kv g))]) (.br (decide (b < e))
(ix (d.map Idx.av) b fun i =>
(.mid 0 qQ0 1 (mkSM 33 [vv 0 (.ptr 0 0),vv 2 (.func 93 []),(6,.mp 11),vv 12 (.vs 2 c (d.map Idx.av)),vi 13 e,vi 14 b,vb 15 true,vv 16 (.cptr (AV.cells i))] [] ((0,⟨[(.vs 2 a (f.map Dg.av))],[0]⟩) :: T) h [(11,(List.map kv g))])))
(.ret ⟨(.tuple []),((0,⟨[(.vs 2 a (f.map Dg.av))],[0]⟩) :: T),h⟩)) := lR 9
theorem p92_2 {b c e f a} {T : Hp} {i : Nat} {d : List Idx} {g : List Dg} {h : List (List UInt8)} : LM C o 92 qQ0 1 (mkSM 33 [vv 0 (.ptr 0 0),vv 2 (.func 93 []),(6,.mp 11),vv 12 (.vs 2 b (d.map Idx.av)),vi 13 e,vi 14 f,vb 15 true,vv 16 (.cptr (Idx.cs a))] [] ((0,⟨[(.vs 2 c (g.map Dg.av))],[0]⟩) :: T) i [(11,(List.map kv h))]) (cl0 93 [(.agg (Idx.cs a))] fun j => .br (AV.pure j.v)
(.mid 0 qQ1 3 (mkSM 33 [vv 0 (.ptr 0 0),vv 2 (.func 93 []),(6,.mp 11),(8,.lp 8 0),vv 12 (.vs 2 b (d.map Idx.av)),vi 13 e,vi 14 f,vv 19 (.func 93 []),vv 20 (.agg (Idx.cs a)),vv 21 j.v] [(8,⟨(Idx.cs a),[]⟩)] ((0,⟨[(.vs 2 c (g.map Dg.av))],[0]⟩) :: T) i [(11,(List.map kv h))])) .none) := lM 2
theorem p92_3 {c d g h e j b} {T : Hp} {k : Nat} {f : List Idx} {i : List Dg} {a : List (List UInt8)} : LM C o 92 qQ1 3 (mkSM 33 [vv 0 (.ptr 0 0),vv 2 (.func 93 []),(6,.mp 11),(8,.lp 8 0),vv 12 (.vs 2 c (f.map Idx.av)),vi 13 g,vi 14 h,vv 19 (.func 93 []),vv 20 (.agg (Idx.cs j)),vv 21 (.tuple [(.str b),(i6 e)])] [(8,⟨(Idx.cs j),[]⟩)] ((0,⟨[(.vs 2 d (i.map Dg.av))],[0]⟩) :: T) k [(11,(List.map kv a))]) (.br (zdv Tryz.prog 9 (List.map kv a))
(.look (.str b) (List.map kv a) (.bool false) fun m =>
(.isb m fun m3b =>
(.br m3b
(.call 84 [(.ptr 0 0),(i6 e),(i6 5)] ((0,⟨[(.vs 2 d (i.map Dg.av))],[0]⟩) :: T) k fun l =>
(.mid 4 qQ2 3 (mkSM 33 [vv 0 (.ptr 0 0),vv 2 (.func 93 []),(6,.mp 11),vt 9 b,vi 10 e,vv 12 (.vs 2 c (f.map Idx.av)),vi 13 g,vi 14 h,vb 26 true,vv 27 (.ptr 0 0),vi 28 e,vv 29 l.v] [] l.H l.nx [(11,(List.map kv a))])))
(.br (zdv Tryz.prog 9 (List.map kv a))
(.fnd (.str b) (List.map kv a) fun _ =>
(.run 0 Q09 (mkSM 33 [vv 0 (.ptr 0 0),vv 2 (.func 93 []),(6,.mp 11),vv 12 (.vs 2 c (f.map Idx.av)),vi 13 g,vi 14 (w64 (h + 1))] [] ((0,⟨[(.vs 2 d (i.map Dg.av))],[0]⟩) :: T) k [(11,(mIns (.str b) (.bool true) (List.map kv a)))]))) .none)))) .none) := lM 9
theorem p92_4 {b c f g h d} {T : Hp} {j : Nat} {e : List Idx} {i : List Dg} {a : List (List UInt8)} : LM C o 92 qQ2 3 (mkSM 33 [vv 0 (.ptr 0 0),vv 2 (.func 93 []),(6,.mp 11),vt 9 d,vi 10 h,vv 12 (.vs 2 b (e.map Idx.av)),vi 13 f,vi 14 g,vb 26 true,vv 27 (.ptr 0 0),vi 28 h,vv 29 (.tuple [])] [] ((0,⟨[(.vs 2 c (i.map Dg.av))],[0]⟩) :: T) j [(11,(List.map kv a))]) (.br (zdv Tryz.prog 9 (List.map kv a))
(.fnd (.str d) (List.map kv a) fun _ =>
(.run 0 Q09 (mkSM 33 [vv 0 (.ptr 0 0),vv 2 (.func 93 []),(6,.mp 11),vv 12 (.vs 2 b (e.map Idx.av)),vi 13 f,vi 14 (w64 (g + 1))] [] ((0,⟨[(.vs 2 c (i.map Dg.av))],[0]⟩) :: T) j [(11,(mIns (.str d) (.bool true) (List.map kv a)))]))) .none) := lM 4
theorem p84_c (hC : Ext C) {T : Hp} {e : Nat} {a : Bool} {b : List Dg} {c d : Int} : LC C o 84 (mkS 18 [vv 0 (.ptr 0 0),vi 1 c,vi 2 d] [] ((0,⟨[(.vs 2 a (b.map Dg.av))],[0]⟩) :: T) e) [(.ptr 0 0),(i6 c),(i6 d)] ((0,⟨[(.vs 2 a (b.map Dg.av))],[0]⟩) :: T) e := lC hC
theorem p84_0 {d b c} {T : Hp} {e : Nat} {a : List Dg} : LR C o 84 [] (mkS 18 [vv 0 (.ptr 0 0),vi 1 b,vi 2 c] [] ((0,⟨[(.vs 2 d (a.map Dg.av))],[0]⟩) :: T) e) (.br (Nat.ble (((a.map Dg.av).length + 1) * 16) za5)
(.br (Nat.ble ((a.map Dg.av).length + 1) za5)
(.ret ⟨(.tuple []),((0,⟨[(.vs 2 false ((a.map Dg.av) ++ [(.agg [(i6 b),(i6 c)])]))],[0]⟩) :: T),e⟩) .none) .none) := lR 2
theorem p47_c (hC : Ext C) {a : Typ} : LC C o 47 (mk0 8 [vv 0 (.agg (Typ.cs a))]) [(.agg (Typ.cs a))] Hp.none 0 := lC hC
theorem p47_0 {a} : LR C o 47 [] (mk0 8 [vv 0 (.agg (Typ.cs a))]) (rt (.tuple [(.str a.name),(i6 a.at_)])) := lR 5
theorem p86_c (hC : Ext C) {a : Fld} : LC C o 86 (mk0 8 [vv 0 (.agg (Fld.cs a))]) [(.agg (Fld.cs a))] Hp.none 0 := lC hC
theorem p86_0 {a} : LR C o 86 [] (mk0 8 [vv 0 (.agg (Fld.cs a))]) (rt (.tuple [(.str a.name),(i6 a.at_)])) := lR 5
theorem p88_c (hC : Ext C) {a : Par} : LC C o 88 (mk0 8 [vv 0 (.agg (Par.cs a))]) [(.agg (Par.cs a))] Hp.none 0 := lC hC
theorem p88_0 {a} : LR C o 88 [] (mk0 8 [vv 0 (.agg (Par.cs a))]) (rt (.tuple [(.str a.name),(i6 a.at_)])) := lR 5
theorem p91_c (hC : Ext C) {a : Nm} : LC C o 91 (mk0 8 [vv 0 (.agg (Nm.cs a))]) [(.agg (Nm.cs a))] Hp.none 0 := lC hC
theorem p91_0 {a} : LR C o 91 [] (mk0 8 [vv 0 (.agg (Nm.cs a))]) (rt (.tuple [(.str a.name),(i6 a.at_)])) := lR 5
theorem p93_c (hC : Ext C) {a : Idx} : LC C o 93 (mk0 8 [vv 0 (.agg (Idx.cs a))]) [(.agg (Idx.cs a))] Hp.none 0 := lC hC
theorem p93_0 {a} : LR C o 93 [] (mk0 8 [vv 0 (.agg (Idx.cs a))]) (rt (.tuple [(.str a.field),(i6 a.at_)])) := lR 5
end
section
open Go Go.Vai
attribute [local irreducible] goTo zao mkS
set_option maxHeartbeats 40000000
def dupD : List (List UInt8)→List Nm→List Dg
 | _,[]=>[]
 | ks,x :: r=>(if x.name ∈ ks then [⟨x.at_,5⟩] else []) ++ dupD (addK x.name ks) r
def QD (l : List Dg) (T : Hp) (nx : Nat) (o : Out) : Prop := ∃ tg,o = ⟨.tuple [],hD tg l T,nx⟩
theorem zo4 {C : Nat→Oracle} {f : Nat} {s : List UInt8} {ks : List (List UInt8)} {K : AV→Tr} {Q : Out→Prop} (h : Was ((K (.bool (decide (s ∈ ks)))).val C f) Q) : Was ((Tr.look (.str s) (ks.map kv) (.bool false) K).val C f) Q:=by
 show Was (zdl (.str s) (ks.map kv) fun r=>optE r ((K (.bool false)).val C f) fun v=>(K v).val C f) Q;rw [zmf];by_cases e : s ∈ ks
 ·rw [if_pos e]; rw [decide_eq_true e] at h; exact h
 ·rw [if_neg e]; rw [decide_eq_false e] at h; exact h
theorem zl7 {C : Nat→Oracle} {f : Nat} {s : List UInt8} {ks : List (List UInt8)} {t : Tr} {Q : Out→Prop} (h : Was (t.val C f) Q) : Was ((Tr.fnd (.str s) (ks.map kv) fun _=>t).val C f) Q:=by
 show Was (zdl (.str s) (ks.map kv) fun r=>t.val C f) Q;rw [zmf];exact h
theorem zub {C : Nat→Oracle} {f : Nat} {b : Bool} {K : Bool→Tr} {Q : Out→Prop} (h : Was ((K b).val C f) Q) : Was ((Tr.isb (.bool b) K).val C f) Q := h
theorem w_br {C : Nat→Oracle} {f : Nat} {c : Bool} {x y : Tr} {Q : Out→Prop} (h1 : c = true→Was (x.val C f) Q) (h2 : c = false→Was (y.val C f) Q) : Was ((Tr.br c x y).val C f) Q := Was.both h1 h2
variable {C : Nat→Oracle} (hC : Ext C)
include hC
theorem w84 (T : Hp) (nx : Nat) (tg : Bool) (l : List Dg) (hl : l.length ≤ 1000000) (x e : Int) : Was (calL C 84 [.ptr 0 0,.int .i64 x,.int .i64 e] (hD tg l T) nx) (QD (l ++ [⟨x,e⟩]) T nx):=by
 refine exW (fun o=>p84_c hC) (exW (fun o=>p84_0) ?_);simp only [Tr.val,lnM];refine .brn (zad (by omega)) (.brn (zad (by omega)) (.mk ⟨false,?_⟩));exact congrArg (fun z=>(⟨.tuple [],(0,⟨[.vs 2 false z],[0]⟩) :: T,nx⟩ : Out)) (mpA (f := Dg.av) (l₁ := l) (l₂ := [⟨x,e⟩])).symm
theorem w47 (x : Typ) : Was (calL C 47 [.agg x.cs] Hp.none 0) (fun o=>o = ⟨.tuple [.str x.name,.int .i64 x.at_],Hp.none,0⟩) :=
 exW (fun o=>p47_c hC) (exW (fun o=>p47_0) (.mk rfl))
theorem w46_loop (T : Hp) (nx : Nat) (tL : Bool) (L : List Typ) (hL : L.length ≤ 400000) : ∀ (r : List Typ) (i : Nat) (tg : Bool) (l : List Dg) (ks : List (List UInt8)),L.drop i = r→i ≤ L.length→l.length + r.length ≤ 1000000 →
  Was (RL C 46 Q09 (mkSM 33 [(0,.val (.ptr 0 0) .no),(2,.val (.func 47 []) .no),(6,.mp 11),(12,.val (.vs 6 tL (List.map Typ.av L)) .no),(13,.val (.int .i64 (L.length : Int)) .no),(14,.val (.int .i64 (i : Int)) .no)] [] (hD tg l T) nx [(11,ks.map kv)]))
   (QD (l ++ dupD ks (r.map fun x=>⟨x.name,x.at_⟩)) T nx):=by
 intro r
 induction r with
 | nil =>
  intro i tg l ks hi hil hb;have := zal _ _ hil hi;refine exW (fun o=>p46_1) ?_;exact .bF (by omega) (.mk ⟨tg,by rw [List.map_nil,dupD,List.append_nil]⟩)
 | cons f r ih =>
  intro i tg l ks hi hil hb;obtain ⟨h1,h2,h3⟩ := zat _ _ hi;rw [lnC] at hb;refine exW (fun o=>p46_1) ?_;simp only [Tr.val,lnM,itN,zan,h1,omS,obS];refine .bT (by omega) (.bT (by omega) (.bT (by omega) ?_));refine exW (fun o=>p46_2) ?_;simp only [Tr.val,AV.pure,za3,zaf,za6,zah,za9,zab,zag,za7,zac,zaa,zae,za8,za1,za0];refine .call (w47 hC f) ?_;rintro o rfl;simp only [AV.pure,za3,zaf,za6,zah,za9,zab,zag,za7,zac,zaa,zae,za8,za1,za0];refine exW (fun o=>p46_3) ?_;refine .brn (zbo ks) (zo4 (zub (w_br (fun h=>?_) fun h=>?_)))
  ·have h := of_decide_eq_true h;refine .call (w84 hC T nx tg l (by omega) f.at_ 5) ?_;rintro o ⟨t1,rfl⟩;refine exW (fun o=>p46_4) ?_;refine .brn (zbo ks) (zl7 ?_);rw [ze0,wi64 h3 (by omega)];rw [List.map_cons,dupD,if_pos h,← List.append_assoc];exact ih (i + 1) t1 _ _ h2 (by omega) (by rw [lnA]; simp only [lnC,lnN]; omega)
  ·have h := of_decide_eq_false h;refine .brn (zbo ks) (zl7 ?_);rw [ze0,wi64 h3 (by omega)];rw [List.map_cons,dupD,if_neg h,List.nil_append];exact ih (i + 1) tg l _ h2 (by omega) (by omega)
theorem w46 (T : Hp) (nx : Nat) (tL : Bool) (L : List Typ) (hL : L.length ≤ 400000) (tg : Bool) (l : List Dg) (hb : l.length + L.length ≤ 1000000) :
  Was (calL C 46 [.ptr 0 0,.vs 6 tL (List.map Typ.av L),.func 47 []] (hD tg l T) nx) (QD (l ++ dupD [] (L.map fun x=>⟨x.name,x.at_⟩)) T nx):=by
 refine exW (fun o=>p46_c hC) (exW (fun o=>p46_0) ?_);rw [lnM];exact w46_loop hC T nx tL L hL L 0 tg l [] rfl (Nat.zero_le _) hb
theorem w86 (x : Fld) : Was (calL C 86 [.agg x.cs] Hp.none 0) (fun o=>o = ⟨.tuple [.str x.name,.int .i64 x.at_],Hp.none,0⟩) :=
 exW (fun o=>p86_c hC) (exW (fun o=>p86_0) (.mk rfl))
theorem w85_loop (T : Hp) (nx : Nat) (tL : Bool) (L : List Fld) (hL : L.length ≤ 400000) : ∀ (r : List Fld) (i : Nat) (tg : Bool) (l : List Dg) (ks : List (List UInt8)),L.drop i = r→i ≤ L.length→l.length + r.length ≤ 1000000 →
  Was (RL C 85 Q09 (mkSM 33 [(0,.val (.ptr 0 0) .no),(2,.val (.func 86 []) .no),(6,.mp 11),(12,.val (.vs 4 tL (List.map Fld.av L)) .no),(13,.val (.int .i64 (L.length : Int)) .no),(14,.val (.int .i64 (i : Int)) .no)] [] (hD tg l T) nx [(11,ks.map kv)]))
   (QD (l ++ dupD ks (r.map fun x=>⟨x.name,x.at_⟩)) T nx):=by
 intro r
 induction r with
 | nil =>
  intro i tg l ks hi hil hb;have := zal _ _ hil hi;refine exW (fun o=>p85_1) ?_;exact .bF (by omega) (.mk ⟨tg,by rw [List.map_nil,dupD,List.append_nil]⟩)
 | cons f r ih =>
  intro i tg l ks hi hil hb;obtain ⟨h1,h2,h3⟩ := zat _ _ hi;rw [lnC] at hb;refine exW (fun o=>p85_1) ?_;simp only [Tr.val,lnM,itN,zan,h1,omS,obS];refine .bT (by omega) (.bT (by omega) (.bT (by omega) ?_));refine exW (fun o=>p85_2) ?_;simp only [Tr.val,AV.pure,za3,zaf,za6,zah,za9,zab,zag,za7,zac,zaa,zae,za8,za1,za0];refine .call (w86 hC f) ?_;rintro o rfl;simp only [AV.pure,za3,zaf,za6,zah,za9,zab,zag,za7,zac,zaa,zae,za8,za1,za0];refine exW (fun o=>p85_3) ?_;refine .brn (zbo ks) (zo4 (zub (w_br (fun h=>?_) fun h=>?_)))
  ·have h := of_decide_eq_true h;refine .call (w84 hC T nx tg l (by omega) f.at_ 5) ?_;rintro o ⟨t1,rfl⟩;refine exW (fun o=>p85_4) ?_;refine .brn (zbo ks) (zl7 ?_);rw [ze0,wi64 h3 (by omega)];rw [List.map_cons,dupD,if_pos h,← List.append_assoc];exact ih (i + 1) t1 _ _ h2 (by omega) (by rw [lnA]; simp only [lnC,lnN]; omega)
  ·have h := of_decide_eq_false h;refine .brn (zbo ks) (zl7 ?_);rw [ze0,wi64 h3 (by omega)];rw [List.map_cons,dupD,if_neg h,List.nil_append];exact ih (i + 1) tg l _ h2 (by omega) (by omega)
theorem w85 (T : Hp) (nx : Nat) (tL : Bool) (L : List Fld) (hL : L.length ≤ 400000) (tg : Bool) (l : List Dg) (hb : l.length + L.length ≤ 1000000) :
  Was (calL C 85 [.ptr 0 0,.vs 4 tL (List.map Fld.av L),.func 86 []] (hD tg l T) nx) (QD (l ++ dupD [] (L.map fun x=>⟨x.name,x.at_⟩)) T nx):=by
 refine exW (fun o=>p85_c hC) (exW (fun o=>p85_0) ?_);rw [lnM];exact w85_loop hC T nx tL L hL L 0 tg l [] rfl (Nat.zero_le _) hb
theorem w88 (x : Par) : Was (calL C 88 [.agg x.cs] Hp.none 0) (fun o=>o = ⟨.tuple [.str x.name,.int .i64 x.at_],Hp.none,0⟩) :=
 exW (fun o=>p88_c hC) (exW (fun o=>p88_0) (.mk rfl))
theorem w87_loop (T : Hp) (nx : Nat) (tL : Bool) (L : List Par) (hL : L.length ≤ 400000) : ∀ (r : List Par) (i : Nat) (tg : Bool) (l : List Dg) (ks : List (List UInt8)),L.drop i = r→i ≤ L.length→l.length + r.length ≤ 1000000 →
  Was (RL C 87 Q09 (mkSM 33 [(0,.val (.ptr 0 0) .no),(2,.val (.func 88 []) .no),(6,.mp 11),(12,.val (.vs 3 tL (List.map Par.av L)) .no),(13,.val (.int .i64 (L.length : Int)) .no),(14,.val (.int .i64 (i : Int)) .no)] [] (hD tg l T) nx [(11,ks.map kv)]))
   (QD (l ++ dupD ks (r.map fun x=>⟨x.name,x.at_⟩)) T nx):=by
 intro r
 induction r with
 | nil =>
  intro i tg l ks hi hil hb;have := zal _ _ hil hi;refine exW (fun o=>p87_1) ?_;exact .bF (by omega) (.mk ⟨tg,by rw [List.map_nil,dupD,List.append_nil]⟩)
 | cons f r ih =>
  intro i tg l ks hi hil hb;obtain ⟨h1,h2,h3⟩ := zat _ _ hi;rw [lnC] at hb;refine exW (fun o=>p87_1) ?_;simp only [Tr.val,lnM,itN,zan,h1,omS,obS];refine .bT (by omega) (.bT (by omega) (.bT (by omega) ?_));refine exW (fun o=>p87_2) ?_;simp only [Tr.val,AV.pure,za3,zaf,za6,zah,za9,zab,zag,za7,zac,zaa,zae,za8,za1,za0];refine .call (w88 hC f) ?_;rintro o rfl;simp only [AV.pure,za3,zaf,za6,zah,za9,zab,zag,za7,zac,zaa,zae,za8,za1,za0];refine exW (fun o=>p87_3) ?_;refine .brn (zbo ks) (zo4 (zub (w_br (fun h=>?_) fun h=>?_)))
  ·have h := of_decide_eq_true h;refine .call (w84 hC T nx tg l (by omega) f.at_ 5) ?_;rintro o ⟨t1,rfl⟩;refine exW (fun o=>p87_4) ?_;refine .brn (zbo ks) (zl7 ?_);rw [ze0,wi64 h3 (by omega)];rw [List.map_cons,dupD,if_pos h,← List.append_assoc];exact ih (i + 1) t1 _ _ h2 (by omega) (by rw [lnA]; simp only [lnC,lnN]; omega)
  ·have h := of_decide_eq_false h;refine .brn (zbo ks) (zl7 ?_);rw [ze0,wi64 h3 (by omega)];rw [List.map_cons,dupD,if_neg h,List.nil_append];exact ih (i + 1) tg l _ h2 (by omega) (by omega)
theorem w87 (T : Hp) (nx : Nat) (tL : Bool) (L : List Par) (hL : L.length ≤ 400000) (tg : Bool) (l : List Dg) (hb : l.length + L.length ≤ 1000000) :
  Was (calL C 87 [.ptr 0 0,.vs 3 tL (List.map Par.av L),.func 88 []] (hD tg l T) nx) (QD (l ++ dupD [] (L.map fun x=>⟨x.name,x.at_⟩)) T nx):=by
 refine exW (fun o=>p87_c hC) (exW (fun o=>p87_0) ?_);rw [lnM];exact w87_loop hC T nx tL L hL L 0 tg l [] rfl (Nat.zero_le _) hb
theorem w91 (x : Nm) : Was (calL C 91 [.agg x.cs] Hp.none 0) (fun o=>o = ⟨.tuple [.str x.name,.int .i64 x.at_],Hp.none,0⟩) :=
 exW (fun o=>p91_c hC) (exW (fun o=>p91_0) (.mk rfl))
theorem w90_loop (T : Hp) (nx : Nat) (tL : Bool) (L : List Nm) (hL : L.length ≤ 400000) : ∀ (r : List Nm) (i : Nat) (tg : Bool) (l : List Dg) (ks : List (List UInt8)),L.drop i = r→i ≤ L.length→l.length + r.length ≤ 1000000 →
  Was (RL C 90 Q09 (mkSM 33 [(0,.val (.ptr 0 0) .no),(2,.val (.func 91 []) .no),(6,.mp 11),(12,.val (.vs 2 tL (List.map Nm.av L)) .no),(13,.val (.int .i64 (L.length : Int)) .no),(14,.val (.int .i64 (i : Int)) .no)] [] (hD tg l T) nx [(11,ks.map kv)]))
   (QD (l ++ dupD ks (r.map fun x=>⟨x.name,x.at_⟩)) T nx):=by
 intro r
 induction r with
 | nil =>
  intro i tg l ks hi hil hb;have := zal _ _ hil hi;refine exW (fun o=>p90_1) ?_;exact .bF (by omega) (.mk ⟨tg,by rw [List.map_nil,dupD,List.append_nil]⟩)
 | cons f r ih =>
  intro i tg l ks hi hil hb;obtain ⟨h1,h2,h3⟩ := zat _ _ hi;rw [lnC] at hb;refine exW (fun o=>p90_1) ?_;simp only [Tr.val,lnM,itN,zan,h1,omS,obS];refine .bT (by omega) (.bT (by omega) (.bT (by omega) ?_));refine exW (fun o=>p90_2) ?_;simp only [Tr.val,AV.pure,za3,zaf,za6,zah,za9,zab,zag,za7,zac,zaa,zae,za8,za1,za0];refine .call (w91 hC f) ?_;rintro o rfl;simp only [AV.pure,za3,zaf,za6,zah,za9,zab,zag,za7,zac,zaa,zae,za8,za1,za0];refine exW (fun o=>p90_3) ?_;refine .brn (zbo ks) (zo4 (zub (w_br (fun h=>?_) fun h=>?_)))
  ·have h := of_decide_eq_true h;refine .call (w84 hC T nx tg l (by omega) f.at_ 5) ?_;rintro o ⟨t1,rfl⟩;refine exW (fun o=>p90_4) ?_;refine .brn (zbo ks) (zl7 ?_);rw [ze0,wi64 h3 (by omega)];rw [List.map_cons,dupD,if_pos h,← List.append_assoc];exact ih (i + 1) t1 _ _ h2 (by omega) (by rw [lnA]; simp only [lnC,lnN]; omega)
  ·have h := of_decide_eq_false h;refine .brn (zbo ks) (zl7 ?_);rw [ze0,wi64 h3 (by omega)];rw [List.map_cons,dupD,if_neg h,List.nil_append];exact ih (i + 1) tg l _ h2 (by omega) (by omega)
theorem w90 (T : Hp) (nx : Nat) (tL : Bool) (L : List Nm) (hL : L.length ≤ 400000) (tg : Bool) (l : List Dg) (hb : l.length + L.length ≤ 1000000) :
  Was (calL C 90 [.ptr 0 0,.vs 2 tL (List.map Nm.av L),.func 91 []] (hD tg l T) nx) (QD (l ++ dupD [] (L.map fun x=>⟨x.name,x.at_⟩)) T nx):=by
 refine exW (fun o=>p90_c hC) (exW (fun o=>p90_0) ?_);rw [lnM];exact w90_loop hC T nx tL L hL L 0 tg l [] rfl (Nat.zero_le _) hb
theorem w93 (x : Idx) : Was (calL C 93 [.agg x.cs] Hp.none 0) (fun o=>o = ⟨.tuple [.str x.field,.int .i64 x.at_],Hp.none,0⟩) :=
 exW (fun o=>p93_c hC) (exW (fun o=>p93_0) (.mk rfl))
theorem w92_loop (T : Hp) (nx : Nat) (tL : Bool) (L : List Idx) (hL : L.length ≤ 400000) : ∀ (r : List Idx) (i : Nat) (tg : Bool) (l : List Dg) (ks : List (List UInt8)),L.drop i = r→i ≤ L.length→l.length + r.length ≤ 1000000 →
  Was (RL C 92 Q09 (mkSM 33 [(0,.val (.ptr 0 0) .no),(2,.val (.func 93 []) .no),(6,.mp 11),(12,.val (.vs 2 tL (List.map Idx.av L)) .no),(13,.val (.int .i64 (L.length : Int)) .no),(14,.val (.int .i64 (i : Int)) .no)] [] (hD tg l T) nx [(11,ks.map kv)]))
   (QD (l ++ dupD ks (r.map fun x=>⟨x.field,x.at_⟩)) T nx):=by
 intro r
 induction r with
 | nil =>
  intro i tg l ks hi hil hb;have := zal _ _ hil hi;refine exW (fun o=>p92_1) ?_;exact .bF (by omega) (.mk ⟨tg,by rw [List.map_nil,dupD,List.append_nil]⟩)
 | cons f r ih =>
  intro i tg l ks hi hil hb;obtain ⟨h1,h2,h3⟩ := zat _ _ hi;rw [lnC] at hb;refine exW (fun o=>p92_1) ?_;simp only [Tr.val,lnM,itN,zan,h1,omS,obS];refine .bT (by omega) (.bT (by omega) (.bT (by omega) ?_));refine exW (fun o=>p92_2) ?_;simp only [Tr.val,AV.pure,za3,zaf,za6,zah,za9,zab,zag,za7,zac,zaa,zae,za8,za1,za0];refine .call (w93 hC f) ?_;rintro o rfl;simp only [AV.pure,za3,zaf,za6,zah,za9,zab,zag,za7,zac,zaa,zae,za8,za1,za0];refine exW (fun o=>p92_3) ?_;refine .brn (zbo ks) (zo4 (zub (w_br (fun h=>?_) fun h=>?_)))
  ·have h := of_decide_eq_true h;refine .call (w84 hC T nx tg l (by omega) f.at_ 5) ?_;rintro o ⟨t1,rfl⟩;refine exW (fun o=>p92_4) ?_;refine .brn (zbo ks) (zl7 ?_);rw [ze0,wi64 h3 (by omega)];rw [List.map_cons,dupD,if_pos h,← List.append_assoc];exact ih (i + 1) t1 _ _ h2 (by omega) (by rw [lnA]; simp only [lnC,lnN]; omega)
  ·have h := of_decide_eq_false h;refine .brn (zbo ks) (zl7 ?_);rw [ze0,wi64 h3 (by omega)];rw [List.map_cons,dupD,if_neg h,List.nil_append];exact ih (i + 1) tg l _ h2 (by omega) (by omega)
theorem w92 (T : Hp) (nx : Nat) (tL : Bool) (L : List Idx) (hL : L.length ≤ 400000) (tg : Bool) (l : List Dg) (hb : l.length + L.length ≤ 1000000) :
  Was (calL C 92 [.ptr 0 0,.vs 2 tL (List.map Idx.av L),.func 93 []] (hD tg l T) nx) (QD (l ++ dupD [] (L.map fun x=>⟨x.field,x.at_⟩)) T nx):=by
 refine exW (fun o=>p92_c hC) (exW (fun o=>p92_0) ?_);rw [lnM];exact w92_loop hC T nx tL L hL L 0 tg l [] rfl (Nat.zero_le _) hb
end
section
open Go Go.Vai
attribute [local irreducible] goTo zao mkS
variable {C : Nat→Oracle} (hC : Ext C)
set_option maxHeartbeats 4000000 in
include hC in
theorem w101 (s : List UInt8) (tg : Bool) (l : List AV) (x y : Int) (hl : (l = [.int .i64 x]∧x = y) ∨ l = [.int .i64 x,.int .i64 y]) : Was (calL C 101 [.str s,.vs 1 tg l] Hp.none 0) (fun o=>o.v = .int .i64 (resF s x y)):=by
 have e0 : nth l 0 = some (.int .i64 x) := by rcases hl with ⟨rfl,_⟩ | rfl <;> rfl
 have hlen : 1 ≤ l.length∧l.length ≤ 2 := by rcases hl with ⟨rfl,_⟩ | rfl <;> simp
 have e1 : nth l (Int.toNat ((l.length : Int) - 1)) = some (.int .i64 y) := by rcases hl with ⟨rfl,h⟩ | rfl; (subst h; rfl); rfl
 refine exW (fun o=>p101_c hC) ?_;refine exW (fun o=>p101_0) ?_;simp only [Tr.val,lnM,itN,zan,zau,zap,omS,obS,Fld.av_cs,Par.av_cs,Dg.av_cs,Typ.av_cs,Qry.av_cs,Ex.av_cs,zak,AV.pure,za3,zaf,za6,zah,za9,zab,zag,za7,zac,zaa,zae,za8,za1,za0,e0];refine .bT (by omega) ?_;refine exW (fun o=>p101_1) ?_;simp only [Tr.val,lnM,itN,zan,zau,zap,omS,obS,Fld.av_cs,Par.av_cs,Dg.av_cs,Typ.av_cs,Qry.av_cs,Ex.av_cs,zak,AV.pure,za3,zaf,za6,zah,za9,zab,zag,za7,zac,zaa,zae,za8,za1,za0];rw [zb1 (by omega) (by omega),e1];simp only [obS];refine .bT (by omega) (.bT (by omega) ?_);refine exW (fun o=>p101_2) ?_;simp only [Tr.val,resF]
 repeat' (first | refine .dec (fun h=>?_) (fun h=>?_) | refine .ndec (fun h=>?_) (fun h=>?_) | (refine .both (fun h=>?_) (fun h=>?_) <;> simp only [h,if_true,Bool.false_eq_true,if_false]))
 all_goals
  refine .mk (congrArg (AV.int .i64) ?_)
  first | rfl | omega | (split <;> omega)
include hC
theorem w97_loop (w : Sc) (hF : w.t.fields.length ≤ 1000000) (hP : w.ps.length ≤ 1000000) (e : Ex) (tg : Bool) (L : List Par) (hL : L.length ≤ 1000000) : ∀ (r : List Par) (i : Nat),L.drop i = r→i ≤ L.length →
  Was (RL C 97 Q0a (mkS 53 [(2,.lp 2 0),(3,.lp 3 0),(11,.val (.vs 3 tg (List.map Par.av L)) .no),(12,.val (.int .i64 (L.length : Int)) .no),(13,.val (.int .i64 (i : Int)) .no)] [(2,⟨(Sc.cs w),[]⟩),(3,⟨(Ex.cs e),[]⟩)] Hp.none 0))
   (RT (match parN r e.s with
    | some p=>(p.type,[])
    | none=>match denF w e.s with
     | none=>oneD e 6
     | some f=>if f.kind = 1 then (f.type,[]) else if f.kind = 2 then (1,[]) else if f.kind = 3 then (1,[]) else if f.kind = 5 then (3,[]) else oneD e 12)):=by
 intro r
 induction r with
 | nil =>
  intro i hi hil;have := zal _ _ hil hi;refine exW (fun o=>p97_1) ?_;simp only [Tr.val,lnM,itN,zan,zau,zap,omS,obS,Fld.av_cs,Par.av_cs,Dg.av_cs,Typ.av_cs,Qry.av_cs,Ex.av_cs,zak,AV.pure,za3,zaf,za6,zah,za9,zab,zag,za7,zac,zaa,zae,za8,za1,za0];refine .bF (by omega) ?_;refine .call (w164 hC w hF hP e.s) ?_;rintro o e1;have hp : o.v.pure = true := by rw [e1]; cases denF w e.s <;> rfl
  rw [hp,za0,e1];clear e1 hp;have e2 : parN [] e.s = none := rfl;rw [e2];cases denF w e.s with
  | none =>
   refine exW (fun o=>p97_3 (f_46 := fld0)) ?_;simp only [Tr.val,lnM,itN,zan,zau,zap,omS,obS,Fld.av_cs,Par.av_cs,Dg.av_cs,Typ.av_cs,Qry.av_cs,Ex.av_cs,zak];simp only [AV.pure,za3,zaf,za6,zah,za9,zab,zag,za7,zac,zaa,zae,za8,za1,za0];simp only [bnF,za0];refine .call (w99 hC e 6) ?_;rintro o ⟨tg',e⟩;simp only [e,AV.pure,za3,zaf,za6,zah,za9,zab,zag,za7,zac,zaa,zae,za8,za1,za0];clear e;refine exW (fun o=>p97_4) ?_;exact .mk ⟨_,rfl⟩
  | some f =>
   refine exW (fun o=>p97_3) ?_;simp only [Tr.val,lnM,itN,zan,zau,zap,omS,obS,Fld.av_cs,Par.av_cs,Dg.av_cs,Typ.av_cs,Qry.av_cs,Ex.av_cs,zak,AV.pure,za3,zaf,za6,zah,za9,zab,zag,za7,zac,zaa,zae,za8,za1,za0];simp only [bnT,zaw];refine .dec (fun h=>?_) (fun h=>?_)
   ·rw [if_pos h]; exact .mk ⟨_,rfl⟩
   rw [if_neg h];refine .dec (fun h=>?_) (fun h=>?_)
   ·rw [if_pos h]; exact .mk ⟨_,rfl⟩
   rw [if_neg h];refine .dec (fun h=>?_) (fun h=>?_)
   ·rw [if_pos h]; exact .mk ⟨_,rfl⟩
   rw [if_neg h];refine .dec (fun h=>?_) (fun h=>?_)
   ·rw [if_pos h]; exact .mk ⟨_,rfl⟩
   rw [if_neg h];refine .call (w99 hC e 12) ?_;rintro o ⟨tg',e⟩;simp only [e,AV.pure,za3,zaf,za6,zah,za9,zab,zag,za7,zac,zaa,zae,za8,za1,za0];clear e;refine exW (fun o=>p97_5) ?_;exact .mk ⟨_,rfl⟩
 | cons f r ih =>
  intro i hi hil;obtain ⟨h1,h2,h3⟩ := zat _ _ hi;refine exW (fun o=>p97_1) ?_;simp only [Tr.val,lnM,itN,zan,zau,zap,omS,obS,Fld.av_cs,Par.av_cs,Dg.av_cs,Typ.av_cs,Qry.av_cs,Ex.av_cs,zak,AV.pure,za3,zaf,za6,zah,za9,zab,zag,za7,zac,zaa,zae,za8,za1,za0,h1];refine .bT (by omega) (.bT (by omega) (.bT (by omega) ?_));refine exW (fun o=>p97_2) ?_;simp only [Tr.val,lnM,itN,zan,zau,zap,omS,obS,Fld.av_cs,Par.av_cs,Dg.av_cs,Typ.av_cs,Qry.av_cs,Ex.av_cs,zak,AV.pure,za3,zaf,za6,zah,za9,zab,zag,za7,zac,zaa,zae,za8,za1,za0];unfold parN;rw [List.find?_cons];refine .both (fun h=>.mk (by rw [h]; exact ⟨_,rfl⟩)) (fun h=>?_);rw [wi64 h3 hL,h];exact ih (i + 1) h2 (by omega)
theorem w97 (w : Sc) (hF : w.t.fields.length ≤ 1000000) (hP : w.ps.length ≤ 1000000) (e : Ex) : Was (calL C 97 [.agg w.cs,.agg e.cs] Hp.none 0) (RT (zny w e)):=by
 refine exW (fun o=>p97_c hC) ?_;refine exW (fun o=>p97_0) ?_;simp only [Tr.val,lnM,itN,zan,zau,zap,omS,obS,Fld.av_cs,Par.av_cs,Dg.av_cs,Typ.av_cs,Qry.av_cs,Ex.av_cs,zak,AV.pure,za3,zaf,za6,zah,za9,zab,zag,za7,zac,zaa,zae,za8,za1,za0];exact w97_loop hC w hF hP e w.tg w.ps hP w.ps 0 rfl (Nat.zero_le _)
theorem w98 (w : Sc) (hF : w.t.fields.length ≤ 1000000) (e : Ex) : Was (calL C 98 [.agg w.cs,.agg e.cs] Hp.none 0) (RT (zlb w e)):=by
 refine exW (fun o=>p98_c hC) ?_;refine exW (fun o=>p98_0) ?_;simp only [Tr.val,lnM,itN,zan,zau,zap,omS,obS,Fld.av_cs,Par.av_cs,Dg.av_cs,Typ.av_cs,Qry.av_cs,Ex.av_cs,zak,AV.pure,za3,zaf,za6,zah,za9,zab,zag,za7,zac,zaa,zae,za8,za1,za0];refine .call (w94 hC w.t hF e.s) ?_;rintro o e1;have hp : o.v.pure = true := by rw [e1]; cases fldF w.t.fields e.s <;> rfl
 rw [hp,za0,e1];clear e1 hp;unfold zlb;have h0 : ∀ (f : Fld) (c : Bool),(c = false→fldF w.t.fields e.s = none)→(c = true→fldF w.t.fields e.s = some f)→Was (ML C 98 [0,5,0] 5 (mkS 39 [(2,.lp 2 0),(3,.lp 3 0),(9,.lp 2 0),(10,.val (.agg (Typ.cs w.t)) .no),(11,.lp 3 2),(12,.val (.str e.s) .no),(13,.val (.tuple [(.agg (Fld.cs f)),(.bool c)]) .no)] [(2,⟨(Sc.cs w),[]⟩),(3,⟨(Ex.cs e),[]⟩)] Hp.none 0)) (RT (if w.q = false then oneD e 10 else match fldF w.t.fields e.s with
  | none=>oneD e 6
  | some f=>if f.kind = 4 then (1,[]) else oneD e 12)):=by
  intro f c c0 c1;refine exW (fun o=>p98_1) ?_;simp only [Tr.val,lnM,itN,zan,zau,zap,omS,obS,Fld.av_cs,Par.av_cs,Dg.av_cs,Typ.av_cs,Qry.av_cs,Ex.av_cs,zak,AV.pure,za3,zaf,za6,zah,za9,zab,zag,za7,zac,zaa,zae,za8,za1,za0];cases hq : w.q
  ·simp only [bnF,za0,if_true];refine .call (w99 hC e 10) ?_;rintro o ⟨tg',e⟩;simp only [e,AV.pure,za3,zaf,za6,zah,za9,zab,zag,za7,zac,zaa,zae,za8,za1,za0];clear e;refine exW (fun o=>p98_2) ?_;exact .mk ⟨_,rfl⟩
  simp only [bnT,zaw,Bool.true_eq_false,if_false];cases c
  ·rw [c0 rfl];simp only [bnF,za0];refine .call (w99 hC e 6) ?_;rintro o ⟨tg',e⟩;simp only [e,AV.pure,za3,zaf,za6,zah,za9,zab,zag,za7,zac,zaa,zae,za8,za1,za0];clear e;refine exW (fun o=>p98_3) ?_;exact .mk ⟨_,rfl⟩
  rw [c1 rfl];simp only [bnT,zaw];by_cases h4 : f.kind = 4
  ·rw [decide_eq_true h4,if_pos h4];exact .mk ⟨_,rfl⟩
  rw [decide_eq_false h4,if_neg h4];simp only [bnF,za0];refine .call (w99 hC e 12) ?_;rintro o ⟨tg',e⟩;simp only [e,AV.pure,za3,zaf,za6,zah,za9,zab,zag,za7,zac,zaa,zae,za8,za1,za0];clear e;refine exW (fun o=>p98_4) ?_;exact .mk ⟨_,rfl⟩
 cases hf : fldF w.t.fields e.s with
 | none=>rw [hf] at h0; exact h0 fld0 false (fun _=>rfl) (fun h=>by cases h)
 | some f=>rw [hf] at h0; exact h0 f true (fun h=>by cases h) (fun _=>rfl)
end
section
open Go Go.Vai
attribute [local irreducible] goTo zao mkS
variable {C : Nat→Oracle} (hC : Ext C)
theorem rt_end {l : List Dg} (L : List AV) (hL : L = l.map Dg.av) (tg : Bool) : Was (Vai.br (decide (0 < ((L.length : Nat) : Int))) (some ⟨.tuple [.int .i64 0,.vs 2 tg L],Hp.none,0⟩) (some ⟨.tuple [.int .i64 3,.vs 2 true []],Hp.none,0⟩)) (RT (if l = [] then (3,[]) else (0,l))):=by
 subst hL;rw [lnM];cases l with
 | nil=>exact .bF (by simp) (.mk ⟨_,rfl⟩)
 | cons d l=>exact .bT (by simp only [lnC]; omega) (.mk ⟨_,rfl⟩)
set_option maxHeartbeats 4000000 in
include hC in
theorem w100 (w : Sc) (hF : w.t.fields.length ≤ 1000000) (hP : w.ps.length ≤ 1000000) (k n : Int) (s : List UInt8) (tg : Bool) (x y : Ex) (at' : Int) (a b : Int × List Dg) (ha : a.2.length ≤ 1000000) (hb : b.2.length ≤ 1000000)
  (wx : Was (calL C 52 [.agg w.cs,.agg x.cs] Hp.none 0) (RT a)) (wy : Was (calL C 52 [.agg w.cs,.agg y.cs] Hp.none 0) (RT b)) :
  Was (calL C 100 [.agg w.cs,.agg (Ex.mk k n s tg [x,y] at').cs] Hp.none 0) (RT (hasT w (.mk k n s tg [x,y] at') x a b)):=by
 generalize he : Ex.mk k n s tg [x,y] at' = e;have hl : e.l = [x,y] := by rw [← he]; rfl
 have n0 : nth (exs e.l) 0 = some (.agg x.cs) := by rw [hl,zau]; simp [x.av_cs]
 have n1 : nth (exs e.l) 1 = some (.agg y.cs) := by rw [hl,zau]; simp [y.av_cs]
 have hll : e.l.length = 2 := by rw [hl]; rfl
 refine exW (fun o=>p100_c hC) ?_;refine exW (fun o=>p100_0) ?_;unfold hasT;cases hq : w.q
 ·simp only [Tr.val,bnF,za0,if_true];simp only [AV.pure,za3,zaf,za6,zah,za9,zab,zag,za7,zac,zaa,zae,za8,za1,za0];refine .call (w99 hC e 10) ?_;rintro o ⟨tg',e⟩;simp only [e,AV.pure,za3,zaf,za6,zah,za9,zab,zag,za7,zac,zaa,zae,za8,za1,za0];clear e;refine exW (fun o=>p100_1) ?_;exact .mk ⟨_,rfl⟩
 simp only [Tr.val,bnT,zaw,Bool.true_eq_false,if_false,zap,n0,obS,zak];refine .bT (by omega) ?_;refine exW (fun o=>p100_2) ?_;simp only [Tr.val,lnM,itN,zan,zau,zap,omS,obS,Fld.av_cs,Par.av_cs,Dg.av_cs,Typ.av_cs,Qry.av_cs,Ex.av_cs,zak,AV.pure,za3,zaf,za6,zah,za9,zab,zag,za7,zac,zaa,zae,za8,za1,za0];refine .call (w164 hC w hF hP x.s) ?_;rintro o e1;have hp : o.v.pure = true := by rw [e1]; cases denF w x.s <;> rfl
 rw [hp,za0,za0,e1];clear e1 hp;obtain ⟨f,c,hfc,hc⟩ : ∃ f c,fOut (denF w x.s) = .tuple [.agg (Fld.cs f),.bool c]∧denF w x.s = (if c = true then some f else none):=by
  cases denF w x.s with
  | none=>exact ⟨fld0,false,rfl,rfl⟩
  | some f=>exact ⟨f,true,rfl,rfl⟩
 rw [hfc];have hset : zda w x = (decide (x.kind = 4) && (c && decide (f.kind = 4))):=by
  unfold zda;rw [hc];cases c <;> simp
 rw [hset];refine exW (fun o=>p100_3) ?_;simp only [Tr.val,zap,n0,obS,zak];refine .bT (by omega) ?_;refine exW (fun o=>p100_4) ?_;simp only [Tr.val,zap,n0,n1,obS,zak];have noset : Was (ML C 100 Q23 4 (mkS 93 [(2,.lp 2 0),(3,.lp 3 0),(6,.val (.vs 2 true []) .own),(7,.val (.bool false) .no),(43,.val (.bool true) .no),(45,.val (.agg (Sc.cs w)) .no),(46,.lp 3 3),(47,.val (.vs 5 e.tg (exs e.l)) .no),(48,.val (.cptr (Ex.cs x)) .no)] [(2,⟨(Sc.cs w),[]⟩),(3,⟨(Ex.cs e),[]⟩)] Hp.none 0))
   (RT (let l := (if a.2 = [] then [⟨e.at_,12⟩] else a.2) ++ b.2
    let l2 := if decide (a.2 = []) = false∧b.2 = []∧b.1 ≠ 2 then l ++ [⟨e.at_,12⟩] else l
    if l2 = [] then (3,[]) else (0,l2))):=by
  refine exW (fun o=>p100_5) ?_;simp only [Tr.val,lnM,itN,zan,zau,zap,omS,obS,Fld.av_cs,Par.av_cs,Dg.av_cs,Typ.av_cs,Qry.av_cs,Ex.av_cs,zak,AV.pure,za3,zaf,za6,zah,za9,zab,zag,za7,zac,zaa,zae,za8,za1,za0];refine .call wx ?_;rintro o ⟨tga,e1⟩;simp only [AV.pure,za3,zaf,za6,zah,za9,zab,zag,za7,zac,zaa,zae,za8,za1,za0,e1];clear e1;refine exW (fun o=>p100_7) ?_;simp only [Tr.val,zap,n1,obS,zak];simp only [AV.pure,za3,zaf,za6,zah,za9,zab,zag,za7,zac,zaa,zae,za8,za1,za0];obtain ⟨a1,a2⟩ := a;obtain ⟨b1,b2⟩ := b;simp only at ha hb ⊢;cases a2 with
  | nil =>
   refine .bT (by simp) (.bT (by omega) ?_);refine exW (fun o=>p100_9) ?_;simp only [Tr.val,lnM,itN,zan,zau,zap,omS,obS,Fld.av_cs,Par.av_cs,Dg.av_cs,Typ.av_cs,Qry.av_cs,Ex.av_cs,zak,AV.pure,za3,zaf,za6,zah,za9,zab,zag,za7,zac,zaa,zae,za8,za1,za0];refine .call wy ?_;rintro o ⟨tgb,e1⟩;simp only [AV.pure,za3,zaf,za6,zah,za9,zab,zag,za7,zac,zaa,zae,za8,za1,za0,e1];clear e1;refine exW (fun o=>p100_11) ?_;simp only [Tr.val,lnM,itN,zan,zau,zap,omS,obS,Fld.av_cs,Par.av_cs,Dg.av_cs,Typ.av_cs,Qry.av_cs,Ex.av_cs,zak,AV.pure,za3,zaf,za6,zah,za9,zab,zag,za7,zac,zaa,zae,za8,za1,za0];refine .bL (by unfold za5; omega) (.bL (by unfold za5; omega) ?_);simp only [if_true,decide_true,Bool.true_eq_false,false_and,if_false];exact rt_end (l := ⟨e.at_,12⟩ :: b2) _ rfl _
  | cons d a2 =>
   refine .bF (by simp only [lnM,lnC]; omega) (.bT (by omega) ?_);refine exW (fun o=>p100_10) ?_;simp only [Tr.val,lnM,itN,zan,zau,zap,omS,obS,Fld.av_cs,Par.av_cs,Dg.av_cs,Typ.av_cs,Qry.av_cs,Ex.av_cs,zak,AV.pure,za3,zaf,za6,zah,za9,zab,zag,za7,zac,zaa,zae,za8,za1,za0];refine .call wy ?_;rintro o ⟨tgb,e1⟩;simp only [AV.pure,za3,zaf,za6,zah,za9,zab,zag,za7,zac,zaa,zae,za8,za1,za0,e1];clear e1;refine exW (fun o=>p100_12) ?_;simp only [Tr.val,lnM,lnA,List.length_singleton];simp only [AV.pure,za3,zaf,za6,zah,za9,zab,zag,za7,zac,zaa,zae,za8,za1,za0];refine .bL (by unfold za5; omega) (.bL (by unfold za5; omega) ?_);simp only [reduceCtorEq,if_false,decide_false,true_and];cases b2 with
   | nil =>
    refine .bT (by simp) ?_;by_cases h2 : b1 = 2
    ·subst h2;simp only [decide_true,bnT,zaw,ne_eq,not_true,if_false];refine .bT (by simp only [lnC]; omega) (.mk ⟨false,?_⟩);simp [Dg.av]
    ·rw [decide_eq_false h2];simp only [bnF,za0,ne_eq,h2,not_false_eq_true,and_self,if_true];refine .bL (by unfold za5; simp only [lnN]; omega) (.bL (by unfold za5; simp only [lnN]; omega) ?_);refine .bT (by simp only [lnC]; omega) (.mk ⟨false,?_⟩);simp [Dg.av,Dg.cs]
   | cons d' b2 =>
    refine .bF (by simp only [lnC]; omega) ?_;simp only [reduceCtorEq,false_and,if_false];refine .bT (by simp only [lnC]; omega) (.mk ⟨false,?_⟩);simp [Dg.av]
 by_cases k4 : ¬ x.kind = 4
 ·rw [decide_eq_false k4];simp only [bnF,za0,Bool.false_and,Bool.false_eq_true,if_false,Bool.true_and];refine .bT (by omega) ?_;exact noset
 have k4 := Decidable.of_not_not k4;rw [decide_eq_true k4];cases c
 ·simp only [bnT,bnF,za0,zaw,Bool.true_and,Bool.false_and,Bool.false_eq_true,if_false];refine .bT (by omega) ?_;exact noset
 by_cases f4 : ¬ f.kind = 4
 ·rw [decide_eq_false f4];simp only [bnT,bnF,za0,zaw,Bool.true_and,Bool.and_false,Bool.false_eq_true,if_false];refine .bT (by omega) ?_;exact noset
 clear noset;have f4 := Decidable.of_not_not f4;rw [decide_eq_true f4];simp only [bnT,zaw,Bool.true_and,Bool.and_true,Bool.false_and,if_true,List.nil_append,true_and];refine .bT (by omega) ?_;refine exW (fun o=>p100_6) ?_;simp only [Tr.val,lnM,itN,zan,zau,zap,omS,obS,Fld.av_cs,Par.av_cs,Dg.av_cs,Typ.av_cs,Qry.av_cs,Ex.av_cs,zak,AV.pure,za3,zaf,za6,zah,za9,zab,zag,za7,zac,zaa,zae,za8,za1,za0];refine .call wy ?_;rintro o ⟨tgb,e1⟩;simp only [AV.pure,za3,zaf,za6,zah,za9,zab,zag,za7,zac,zaa,zae,za8,za1,za0,e1];clear e1;obtain ⟨b1,b2⟩ := b;simp only at hb ⊢;refine exW (fun o=>p100_8) ?_;simp only [Tr.val,lnM,lnA,List.length_singleton,List.nil_append];simp only [AV.pure,za3,zaf,za6,zah,za9,zab,zag,za7,zac,zaa,zae,za8,za1,za0];refine .bL (by unfold za5; omega) (.bL (by unfold za5; omega) ?_);cases b2 with
 | nil =>
  refine .bT (by simp) ?_;by_cases h2 : b1 = 2
  ·subst h2;simp only [decide_true,bnT,zaw,ne_eq,not_true,and_false,if_false];refine .bF (by simp) (.mk ⟨true,?_⟩);simp
  ·rw [decide_eq_false h2];simp only [bnF,za0,ne_eq,h2,not_false_eq_true,and_self,if_true];refine .bL (by unfold za5; simp only [lnN]; omega) (.bL (by unfold za5; simp only [lnN]; omega) ?_);refine .bT (by simp) (.mk ⟨false,?_⟩);simp [Dg.av,Dg.cs]
 | cons d' b2 =>
  refine .bF (by simp only [lnC]; omega) ?_;simp only [reduceCtorEq,false_and,if_false];refine .bT (by simp only [lnC]; omega) (.mk ⟨false,?_⟩);simp [Dg.av]
end
section
open Go Go.Vai
attribute [local irreducible] goTo zao mkS
abbrev p52L : List Nat := Q78
abbrev s52 (w : Sc) (e : Ex) (t1 : Bool) (T : List AV) (t2 : Bool) (D : List AV) (tg : Bool) (L : List Ex) (i : Int) : St := mkSM 103 [(2,.lp 2 0),(3,.lp 3 0),(7,.val (.vs 1 t1 T) .own),(8,.val (.vs 2 t2 D) .own),(68,.val (.vs 5 tg (exs L)) .no),(69,.val (.int .i64 (L.length : Int)) .no),(70,.val (.int .i64 i) .no)] [(2,⟨(Sc.cs w),[]⟩),(3,⟨(Ex.cs e),[]⟩)] Hp.none 0 [(36,[((.int .i64 (6)),(.int .i64 (1))),((.int .i64 (7)),(.int .i64 (2)))])]
variable {C : Nat→Oracle} (hC : Ext C)
theorem zo0 (w : Sc) (e : Ex) (t1 : Bool) (T : List AV) (t2 : Bool) (D : List AV) (tg : Bool) (L : List Ex) (i : Nat) (x : Ex) (r : Int × List Dg) (hi : L[i]? = some x) (hL : L.length ≤ 1000) (hT : T.length ≤ 1000) (hD : D.length + r.2.length ≤ 1000000000)
  (wx : Was (calL C 52 [.agg w.cs,.agg x.cs] Hp.none 0) (RT r)) {Q : Out→Prop}
  (go : Was (RL C 52 p52L (s52 w e false (T ++ [.int .i64 r.1]) false (D ++ r.2.map Dg.av) tg L ((i + 1 : Nat) : Int))) Q) : Was (RL C 52 p52L (s52 w e t1 T t2 D tg L (i : Int))) Q:=by
 have h3 : i < L.length := (List.getElem?_eq_some_iff.1 hi).1;refine exW (fun o=>p52_5) ?_;simp only [Tr.val,zap,itN,zau,hi,omS,obS,x.av_cs,zak];refine .bT (by omega) (.bT (by omega) (.bT (by omega) ?_));refine exW (fun o=>p52_6) ?_;simp only [Tr.val,lnM,itN,zan,zau,zap,omS,obS,Fld.av_cs,Par.av_cs,Dg.av_cs,Typ.av_cs,Qry.av_cs,Ex.av_cs,zak,AV.pure,za3,zaf,za6,zah,za9,zab,zag,za7,zac,zaa,zae,za8,za1,za0];refine .call wx ?_;rintro o ⟨tgr,e1⟩;simp only [AV.pure,za3,zaf,za6,zah,za9,zab,zag,za7,zac,zaa,zae,za8,za1,za0,e1];clear e1;refine exW (fun o=>p52_8) ?_;simp only [Tr.val,lnM];refine .bL (by unfold za5; omega) (.bL (by unfold za5; omega) (.bL (by unfold za5; omega) (.bL (by unfold za5; omega) ?_)));rw [wi64 h3 (by omega)];exact go
include hC
theorem zuo (w : Sc) (e : Ex) (t1 : Bool) (T : List AV) (t2 : Bool) (ds : List Dg) (D : List AV) (hD : D = ds.map Dg.av) (tg : Bool) (L : List Ex) (x y : Int) (hT : (T = [.int .i64 x]∧x = y) ∨ T = [.int .i64 x,.int .i64 y]) :
  Was (RL C 52 p52L (s52 w e t1 T t2 D tg L (L.length : Int))) (RT (opT e ds (resF e.s x y))):=by
 subst hD;have hpT : za3 T = true := by rcases hT with ⟨rfl,_⟩ | rfl <;> rfl
 refine exW (fun o=>p52_5) ?_;simp only [Tr.val,zap,lnM];refine .bF (by omega) ?_;cases ds with
 | cons d l =>
  exact .bT (by simp only [lnC]; omega) (.mk ⟨t2,rfl⟩)
 | nil =>
  refine .bF (by simp) ?_;simp only [AV.pure,za3,zaf,za6,zah,za9,zab,zag,za7,zac,zaa,zae,za8,za1,za0,hpT];refine .call (w101 hC e.s t1 T x y hT) ?_;rintro o e1;simp only [AV.pure,za3,zaf,za6,zah,za9,zab,zag,za7,zac,zaa,zae,za8,za1,za0,e1];clear e1;refine exW (fun o=>p52_7) ?_;simp only [Tr.val,opT,if_true];by_cases h0 : resF e.s x y = 0
  ·rw [decide_eq_true h0,if_pos h0];simp only [bnT,zaw];simp only [AV.pure,za3,zaf,za6,zah,za9,zab,zag,za7,zac,zaa,zae,za8,za1,za0];refine .call (w99 hC e 12) ?_;rintro o ⟨tg',e⟩;simp only [e,AV.pure,za3,zaf,za6,zah,za9,zab,zag,za7,zac,zaa,zae,za8,za1,za0];clear e;refine exW (fun o=>p52_9) ?_;exact .mk ⟨_,rfl⟩
  ·rw [decide_eq_false h0,if_neg h0];simp only [bnF,za0];exact .mk ⟨_,rfl⟩
theorem w52 (w : Sc) (hF : w.t.fields.length ≤ 1000000) (hP : w.ps.length ≤ 1000000) : ∀ e : Ex,WfE e→e.sz ≤ 1000000→Was (calL C 52 [.agg w.cs,.agg e.cs] Hp.none 0) (RT (tyE w e)):=by
 intro e he
 induction he with
 | leaf k n s tg a h1 h5 =>
  intro _;rw [tyE];generalize hx : Ex.mk k n s tg [] a = e;have hk : 1 ≤ e.kind∧e.kind ≤ 5 := by rw [← hx]; exact ⟨h1,h5⟩
  refine exW (fun o=>p52_c hC) (exW (fun o=>p52_0) ?_);simp only [Tr.val,zn4];refine .dec (fun h=>?_) (fun h=>?_)
  ·rw [if_pos h]; exact .mk ⟨_,rfl⟩
  rw [if_neg h];refine .dec (fun h=>?_) (fun h=>?_)
  ·rw [if_pos h]; exact .mk ⟨_,rfl⟩
  rw [if_neg h];refine .dec (fun h=>?_) (fun h=>?_)
  ·rw [if_pos h]; exact .mk ⟨_,rfl⟩
  rw [if_neg h];refine .dec (fun h=>?_) (fun h=>?_)
  ·rw [if_pos h];simp only [AV.pure,za3,zaf,za6,zah,za9,zab,zag,za7,zac,zaa,zae,za8,za1,za0];refine .call (w97 hC w hF hP e) ?_;rintro o ⟨tg',e1⟩;simp only [AV.pure,za3,zaf,za6,zah,za9,zab,zag,za7,zac,zaa,zae,za8,za1,za0,e1];clear e1;refine exW (fun o=>p52_1) ?_;exact .mk ⟨_,rfl⟩
  rw [if_neg h];refine .bT (by omega) ?_;simp only [AV.pure,za3,zaf,za6,zah,za9,zab,zag,za7,zac,zaa,zae,za8,za1,za0];refine .call (w98 hC w hF e) ?_;rintro o ⟨tg',e1⟩;simp only [AV.pure,za3,zaf,za6,zah,za9,zab,zag,za7,zac,zaa,zae,za8,za1,za0,e1];clear e1;refine exW (fun o=>p52_2) ?_;exact .mk ⟨_,rfl⟩
 | un n s tg a x hs hx ih =>
  intro hsz;simp only [Ex.sz,szE] at hsz;have wx := ih (by omega);have hlx := zff w x;have hnh : eqS s [104,97,115] = false := by rcases hs with rfl | rfl <;> rfl
  rw [tyE];refine exW (fun o=>p52_c hC) (exW (fun o=>p52_0) ?_);simp only [Tr.val,show (Ex.mk 6 n s tg [x] a).kind = 6 from rfl,show (Ex.mk 6 n s tg [x] a).l = [x] from rfl,show (Ex.mk 6 n s tg [x] a).s = s from rfl,zap,hnh,zaw];refine .bF (by decide) (.bF (by decide) (.bF (by decide) (.bF (by decide) (.bF (by decide) (.bT (by decide) ?_)))));simp only [List.length_singleton];refine .brf rfl ?_;refine zo0 w _ _ [] _ [] _ [x] 0 x (tyE w x) rfl (by simp) (by simp) (by simp only [lnN]; omega) wx ?_;exact zuo hC w _ _ _ _ (tyE w x).2 _ rfl _ [x] _ _ (.inl ⟨rfl,rfl⟩)
 | bin n s tg a x y hs hx hy ihx ihy =>
  intro hsz;simp only [Ex.sz,szE] at hsz;have wx := ihx (by omega);have wy := ihy (by omega);have hlx := zff w x;have hly := zff w y;rw [tyE];refine exW (fun o=>p52_c hC) (exW (fun o=>p52_0) ?_);simp only [Tr.val,show (Ex.mk 7 n s tg [x,y] a).kind = 7 from rfl,show (Ex.mk 7 n s tg [x,y] a).l = [x,y] from rfl,show (Ex.mk 7 n s tg [x,y] a).s = s from rfl,zap];refine .bF (by decide) (.bF (by decide) (.bF (by decide) (.bF (by decide) (.bF (by decide) (.bF (by decide) (.bT (by decide) ?_))))));simp only [lnC,lnN];refine .brf rfl ?_;by_cases h : s = wHas
  ·rw [if_pos h];refine .brn ((zdg _ _).2 h) (.bT (by decide) ?_);simp only [AV.pure,za3,zaf,za6,zah,za9,zab,zag,za7,zac,zaa,zae,za8,za1,za0];refine .call (w100 hC w hF hP 7 n s tg x y a _ _ (by omega) (by omega) wx wy) ?_;rintro o ⟨tg',e1⟩;simp only [AV.pure,za3,zaf,za6,zah,za9,zab,zag,za7,zac,zaa,zae,za8,za1,za0,e1];clear e1;refine exW (fun o=>p52_4) ?_;exact .mk ⟨_,rfl⟩
  ·rw [if_neg h];refine .brf (by rw [Bool.eq_false_iff]; exact fun he=>h ((zdg _ _).1 he)) ?_;refine zo0 w _ _ [] _ [] _ [x,y] 0 x (tyE w x) rfl (by simp) (by simp) (by simp only [lnN]; omega) wx ?_;refine zo0 w _ _ _ _ _ _ [x,y] 1 y (tyE w y) rfl (by simp) (by simp) (by simp only [lnA,lnM,lnN]; omega) wy ?_;exact zuo hC w _ _ _ _ ((tyE w x).2 ++ (tyE w y).2) _ (by simp) _ [x,y] _ _ (.inr rfl)
end
section
open Go Go.Vai
attribute [local irreducible] goTo zao mkS
variable {C : Nat → Oracle} {o : Out}
abbrev cU0 : Nat × Blk := (2,⟨[(i6 0),(i6 0),(.str []),(.vs 5 true []),(i6 0)],[3]⟩)
theorem p152_c (hC : Ext C) {a : Stm} : LC C o 152 (mk0 12 [vv 0 (.agg (Stm.cs a))]) [(.agg (Stm.cs a))] Hp.none 0 := lC hC
abbrev yS225 := fun (a : Stm) b => mkS 12 [(1,.lp 1 0),(2,.lp 2 0),vb 6 false,(8,.lp 1 2),vv 9 (.vs 5 true (exs a.value)),vv 10 (.cptr b)] [(1,⟨(Stm.cs a),[]⟩),cU0] Hp.none 0
theorem p152_0 {a} : LR C o 152 [] (mk0 12 [vv 0 (.agg (Stm.cs a))]) (.br (decide (((exs a.value).length : Int) = 0))
(rt (.agg [(i6 0),(i6 0),(.str []),(.vs 5 true []),(i6 0)]))
(.br (decide (0 < ((exs a.value).length : Int)))
(.bind (nth (exs a.value) 0) fun b =>
(.mid 0 Q0g 3 (yS225 a (AV.cells b)))) .none)) := lR 9
theorem p152_1 {a b} : LM C o 152 Q0g 3 (yS225 a (Ex.cs b)) (rt (.agg (Ex.cs b))) := lM 1
theorem p153_c (hC : Ext C) {a : Int} : LC C o 153 (mk0 13 [vi 0 a]) [(i6 a)] Hp.none 0 := lC hC
theorem p153_0 {a} : LR C o 153 [] (mk0 13 [vi 0 a]) (.br (decide (a = 1))
(rt (.tuple [(i6 1),(i6 0)]))
(.br (decide (a = 2))
(rt (.tuple [(i6 3),(i6 1)]))
(.br (decide (a = 3))
(rt (.tuple [(i6 2),(i6 1)]))
(.br (decide (a = 4))
(rt (.tuple [(i6 4),(i6 2)]))
(rt (.tuple [(i6 5),(i6 0)])))))) := lR 23
end
section
open Go Go.Vai
attribute [local irreducible] goTo zao mkS
set_option maxHeartbeats 40000000
def ex0 : Ex := .mk 0 0 [] true [] 0
def valS (z : Stm) : Ex := match z.value with
 | []=>ex0
 | e :: _=>e
def kOf (k : Int) : Int × Int := if k = 1 then (1,0) else if k = 2 then (3,1) else if k = 3 then (2,1) else if k = 4 then (4,2) else (5,0)
def stD (w : Sc) (z : Stm) : List Dg :=
 let f := fldF w.t.fields z.field
 let d1 : List Dg := match f with
  | none=>[⟨z.at_,6⟩]
  | some f=>if f.kind = (kOf z.kind).1 then [] else [⟨z.at_,10⟩]
 if z.kind = 5 then d1 else
 let want := if (kOf z.kind).1 = 1 then (f.getD fld0).type else (kOf z.kind).2
 let r := tyE w (valS z)
 d1 ++ r.2 ++ (if d1 = []∧r.2 = []∧r.1 ≠ want then [⟨(valS z).at_,12⟩] else [])
def ifD (w : Sc) (e : Ex) : List Dg := (tyE w e).2 ++ (if (tyE w e).2 = []∧(tyE w e).1 ≠ 3 then [⟨e.at_,12⟩] else [])
mutual
def zhz (w : Sc) : Stm→List Dg
 | .mk k s v t1 th t2 el a=>if k = 6 then ifD w (valS (.mk k s v t1 th t2 el a)) ++ zdc w th ++ zdc w el else stD w (.mk k s v t1 th t2 el a)
def zdc (w : Sc) : List Stm→List Dg
 | []=>[]
 | z :: l=>zhz w z ++ zdc w l
end
variable {C : Nat→Oracle} (hC : Ext C)
include hC
theorem w152 (z : Stm) : Was (calL C 152 [.agg z.cs] Hp.none 0) (fun o=>o = ⟨.agg (valS z).cs,Hp.none,0⟩):=by
 refine exW (fun o=>p152_c hC) (exW (fun o=>p152_0) ?_);simp only [Tr.val];obtain h | ⟨e,l,h⟩ : z.value = [] ∨ ∃ e l,z.value = e :: l:=by
  cases z.value with
  | nil=>exact Or.inl rfl
  | cons e l=>exact Or.inr ⟨e,l,rfl⟩
 ·refine .bT (by rw [h,exs]; rfl) (.mk ?_);unfold valS;rw [h];rfl
 ·have hv : valS z = e := by unfold valS; rw [h]
  rw [hv];refine .bF (by rw [h,exs,lnC]; omega) (.bT (by rw [h,exs,lnC]; omega) ?_);rw [show Vai.nth (exs z.value) 0 = some e.av by rw [h,exs]; rfl,obS,show e.av.cells = e.cs by rw [Ex.av_cs]; rfl];exact exW (fun o=>p152_1) (.mk rfl)
theorem w153 (k : Int) : Was (calL C 153 [.int .i64 k] Hp.none 0) (fun o=>o = ⟨.tuple [.int .i64 (kOf k).1,.int .i64 (kOf k).2],Hp.none,0⟩):=by
 refine exW (fun o=>p153_c hC) (exW (fun o=>p153_0) ?_);unfold kOf;refine .dec (fun h=>.mk (by rw [if_pos h])) fun h=>?_;rw [if_neg h];refine .dec (fun h=>.mk (by rw [if_pos h])) fun h=>?_;rw [if_neg h];refine .dec (fun h=>.mk (by rw [if_pos h])) fun h=>?_;rw [if_neg h];refine .dec (fun h=>.mk (by rw [if_pos h])) fun h=>?_;rw [if_neg h];exact .mk rfl
end
section
open Go Go.Vai
attribute [local irreducible] goTo zao mkS
variable {C : Nat → Oracle} {o : Out}
abbrev qR0 : List Nat := Q2r
abbrev qR1 : List Nat := Q4e
abbrev qR2 : List Nat := Q7s
abbrev qR3 : List Nat := Q7t
abbrev qR4 : List Nat := Q7a
abbrev qR5 : List Nat := Q7b
abbrev qR6 : List Nat := Q7q
abbrev qR7 : List Nat := Q7r
abbrev qR8 : List Nat := Q8n
abbrev qR9 : List Nat := Q8o
abbrev qR10 : List Nat := Q4z
abbrev qR11 : List Nat := Q3q
abbrev qR12 : List Nat := Q5i
abbrev qR13 : List Nat := Q5y
abbrev qR14 : List Nat := Q5h
abbrev qR15 : List Nat := Q4y
abbrev qR16 : List Nat := Q5g
theorem p89_c (hC : Ext C) {T : Hp} {f : Nat} {a b : Bool} {c : List Dg} {d : Sc} {e : List Stm} : LC C o 89 (mkS 135 [vv 0 (.ptr 0 0),vv 1 (.agg (Sc.cs d)),vv 2 (.vs 6 b (stms e))] [] ((0,⟨[(.vs 2 a (c.map Dg.av))],[0]⟩) :: T) f) [(.ptr 0 0),(.agg (Sc.cs d)),(.vs 6 b (stms e))] ((0,⟨[(.vs 2 a (c.map Dg.av))],[0]⟩) :: T) f := lC hC
abbrev zfw := fun (a : Bool) (b : List Stm) c d (e : Sc) (f : Bool) (g : List AV) (h : Hp) (i : Nat) => mkS 135 [vv 0 (.ptr 0 0),(4,.lp 4 0),vv 17 (.vs 6 a (stms b)),vi 18 c,vi 19 d] [(4,⟨(Sc.cs e),[]⟩)] ((0,⟨[(.vs 2 f g)],[0]⟩) :: h) i
theorem p89_0 {a b e c} {T : Hp} {f : Nat} {d : List Dg} : LR C o 89 [] (mkS 135 [vv 0 (.ptr 0 0),vv 1 (.agg (Sc.cs e)),vv 2 (.vs 6 b (stms c))] [] ((0,⟨[(.vs 2 a (d.map Dg.av))],[0]⟩) :: T) f) (.run 0 Q09 (zfw b c ((stms c).length : Int) 0 e a (d.map Dg.av) T f)) := lR 6
theorem p89_1 {d a f g c e} {T : Hp} {h : Nat} {b : List Dg} : LR C o 89 Q09 (zfw d f g c e a (b.map Dg.av) T h) (.br (decide (c < g))
(ix (stms f) c fun i =>
(.mid 0 Q1h 1 (mkS 135 [vv 0 (.ptr 0 0),(4,.lp 4 0),vv 17 (.vs 6 d (stms f)),vi 18 g,vi 19 c,vb 20 true,vv 21 (.cptr (AV.cells i))] [(4,⟨(Sc.cs e),[]⟩)] ((0,⟨[(.vs 2 a (b.map Dg.av))],[0]⟩) :: T) h)))
(.ret ⟨(.tuple []),((0,⟨[(.vs 2 a (b.map Dg.av))],[0]⟩) :: T),h⟩)) := lR 9
abbrev yS230 := fun (a : Bool) (b : List Stm) c d (e : Sc) (f : Stm) g (h : Bool) (i : List Dg) (j : Hp) (k : Nat) => mkS 135 [vv 0 (.ptr 0 0),(4,.lp 4 0),(7,.lp 7 0),vv 17 (.vs 6 a (stms b)),vi 18 c,vi 19 d,vb 25 true,vv 27 (.agg (Sc.cs e)),vv 28 (.agg (Stm.cs f)),vv 29 g] [(4,⟨(Sc.cs e),[]⟩),(7,⟨(Stm.cs f),[]⟩)] ((0,⟨[(.vs 2 h (i.map Dg.av))],[0]⟩) :: j) k
abbrev yS231 := fun (a : Bool) (b : List Stm) c d (e : Stm) f (g : Sc) (h : Bool) (i : List Dg) (j : Hp) (k : Nat) => mkS 135 [vv 0 (.ptr 0 0),(4,.lp 4 0),(7,.lp 7 0),vv 17 (.vs 6 a (stms b)),vi 18 c,vi 19 d,vb 25 false,(65,.lp 7 0),vi 66 e.kind,vv 67 f] [(4,⟨(Sc.cs g),[]⟩),(7,⟨(Stm.cs e),[]⟩)] ((0,⟨[(.vs 2 h (i.map Dg.av))],[0]⟩) :: j) k
theorem p89_2 {d b f g h c a} {T : Hp} {i : Nat} {e : List Dg} : LM C o 89 Q1h 1 (mkS 135 [vv 0 (.ptr 0 0),(4,.lp 4 0),vv 17 (.vs 6 d (stms f)),vi 18 g,vi 19 h,vb 20 true,vv 21 (.cptr (Stm.cs a))] [(4,⟨(Sc.cs c),[]⟩)] ((0,⟨[(.vs 2 b (e.map Dg.av))],[0]⟩) :: T) i) (.br (decide (a.kind = 6))
(.br (za3 [(.agg (Stm.cs a))])
(cl0 152 [(.agg (Stm.cs a))] fun j => .br (AV.pure j.v)
(.br (AV.pure j.v)
(.mid 1 qR0 3 (yS230 d f g h c a j.v b e T i)) .none) .none) .none)
(cl0 153 [(i6 a.kind)] fun k => .br (AV.pure k.v)
(.mid 0 Q30 3 (yS231 d f g h a k.v c b e T i)) .none)) := lM 7
theorem p89_3 {e g h i a b d} {T : Hp} {j : Nat} {c : Bool} {f : List Dg} : LM C o 89 qR0 3 (yS230 e g h i a b (.agg (Ex.cs d)) c f T j) (cl0 52 [(.agg (Sc.cs a)),(.agg (Ex.cs d))] fun k => .br (AV.pure k.v)
(.mid 0 qR0 4 (mkS 135 [vv 0 (.ptr 0 0),(4,.lp 4 0),(7,.lp 7 0),vv 17 (.vs 6 e (stms g)),vi 18 h,vi 19 i,vb 25 true,vv 27 (.agg (Sc.cs a)),vv 28 (.agg (Stm.cs b)),vv 29 (.agg (Ex.cs d)),(30,.val k.v (.comps [1]))] [(4,⟨(Sc.cs a),[]⟩),(7,⟨(Stm.cs b),[]⟩)] ((0,⟨[(.vs 2 c (f.map Dg.av))],[0]⟩) :: T) j)) .none) := lM 0
abbrev yS232 := fun a b (c : Bool) (d : List Stm) e f (g : Sc) (h : Stm) i (j : Bool) (k : List Dg) (l : Hp) (m : Nat) => mkS 135 [vv 0 (.ptr 0 0),(4,.lp 4 0),(7,.lp 7 0),vi 10 a,vi 11 b,vv 17 (.vs 6 c (stms d)),vi 18 e,vi 19 f,(71,.lp 4 0),vv 72 (.agg (Typ.cs g.t)),(73,.lp 7 1),vt 74 h.field,vv 75 i] [(4,⟨(Sc.cs g),[]⟩),(7,⟨(Stm.cs h),[]⟩)] ((0,⟨[(.vs 2 j (k.map Dg.av))],[0]⟩) :: l) m
theorem p89_4 {d h i j e f a} {T : Hp} {k : Nat} {c : Bool} {b : Sc} {g : List Dg} : LM C o 89 Q30 3 (yS231 d h i j a (.tuple [(i6 e),(i6 f)]) b c g T k) (cl0 94 [(.agg (Typ.cs b.t)),(.str a.field)] fun l => .br (AV.pure l.v)
(.mid 0 qR11 5 (yS232 e f d h i j b a l.v c g T k)) .none) := lM 2
abbrev yS233 := fun (a : Bool) (b : List Stm) c d (e : Stm) f (g : Sc) (h : List AV) (i : Hp) (j : Nat) => mkS 135 [vv 0 (.ptr 0 0),(4,.lp 4 0),(7,.lp 7 0),vv 17 (.vs 6 a (stms b)),vi 18 c,vi 19 d,vb 48 true,vv 49 (.ptr 0 0),vv 50 (.agg (Stm.cs e)),vv 51 f] [(4,⟨(Sc.cs g),[]⟩),(7,⟨(Stm.cs e),[]⟩)] ((0,⟨[(.vs 2 false h)],[0]⟩) :: i) j
abbrev yS234 := fun (a : Bool) (b : List Stm) c d (e : Sc) (f : Stm) g h (i : Nat) => mkS 135 [vv 0 (.ptr 0 0),(4,.lp 4 0),(7,.lp 7 0),vv 17 (.vs 6 a (stms b)),vi 18 c,vi 19 d,vb 48 false,vv 54 (.ptr 0 0),vv 55 (.agg (Sc.cs e)),(56,.lp 7 3),vv 57 (.vs 6 f.tgT (stms f.thn)),vv 58 g] [(4,⟨(Sc.cs e),[]⟩),(7,⟨(Stm.cs f),[]⟩)] h i
theorem p89_5 {f k e h i j g c a l} {T : Hp} {m : Nat} {d b : List Dg} : LM C o 89 qR0 4 (mkS 135 [vv 0 (.ptr 0 0),(4,.lp 4 0),(7,.lp 7 0),vv 17 (.vs 6 f (stms h)),vi 18 i,vi 19 j,vb 25 true,vv 27 (.agg (Sc.cs c)),vv 28 (.agg (Stm.cs a)),vv 29 (.agg (Ex.cs l)),(30,.val (.tuple [(i6 g),(.vs 2 e (b.map Dg.av))]) (.comps [1]))] [(4,⟨(Sc.cs c),[]⟩),(7,⟨(Stm.cs a),[]⟩)] ((0,⟨[(.vs 2 k (d.map Dg.av))],[0]⟩) :: T) m) (.br (za3 [(.tuple [(i6 g),(.vs 2 e (b.map Dg.av))])])
(.br (za3 [(.tuple [(i6 g),(.vs 2 e (b.map Dg.av))])])
(.br (AV.pure (.vs 2 e (b.map Dg.av)))
(.br (Nat.ble (((d.map Dg.av).length + (b.map Dg.av).length) * 16) za5)
(.br (Nat.ble ((d.map Dg.av).length + (b.map Dg.av).length) za5)
(.br (decide (((b.map Dg.av).length : Int) = 0))
(.br (!(decide (g = 3)))
(cl0 152 [(.agg (Stm.cs a))] fun q => .br (AV.pure q.v)
(.mid 2 qR1 3 (yS233 f h i j a q.v c ((d.map Dg.av) ++ (b.map Dg.av)) T m)) .none)
(.call 89 [(.ptr 0 0),(.agg (Sc.cs c)),(.vs 6 a.tgT (stms a.thn))] ((0,⟨[(.vs 2 false ((d.map Dg.av) ++ (b.map Dg.av)))],[0]⟩) :: T) m fun n =>
(.mid 0 qR10 5 (yS234 f h i j c a n.v n.H n.nx))))
(.call 89 [(.ptr 0 0),(.agg (Sc.cs c)),(.vs 6 a.tgT (stms a.thn))] ((0,⟨[(.vs 2 false ((d.map Dg.av) ++ (b.map Dg.av)))],[0]⟩) :: T) m fun p =>
(.mid 0 qR10 5 (yS234 f h i j c a p.v p.H p.nx)))) .none) .none) .none) .none) .none) := lM 9
abbrev yS235 := fun a b (c : Bool) (d : List Stm) e f (g : Stm) h (i : Sc) (j : Fld) k (l : Nat) => mkS 135 [vv 0 (.ptr 0 0),(4,.lp 4 0),(7,.lp 7 0),vi 10 a,vi 11 b,(12,.lp 12 0),vb 14 true,vv 17 (.vs 6 c (stms d)),vi 18 e,vi 19 f,vb 78 true,vv 81 (.ptr 0 0),(82,.lp 7 5),vi 83 g.at_,vv 84 h] [(4,⟨(Sc.cs i),[]⟩),(7,⟨(Stm.cs g),[]⟩),(12,⟨(Fld.cs j),[]⟩)] k l
abbrev yS236 := fun a b (c : Bool) (d : List Stm) e f (g : Stm) h (i : Sc) (j : Fld) k (l : Nat) => mkS 135 [vv 0 (.ptr 0 0),(4,.lp 4 0),(7,.lp 7 0),vi 10 a,vi 11 b,(12,.lp 12 0),vb 14 true,vv 17 (.vs 6 c (stms d)),vi 18 e,vi 19 f,vb 85 true,vv 90 (.ptr 0 0),(91,.lp 7 5),vi 92 g.at_,vv 93 h] [(4,⟨(Sc.cs i),[]⟩),(7,⟨(Stm.cs g),[]⟩),(12,⟨(Fld.cs j),[]⟩)] k l
abbrev yS237 := fun a (b : Bool) (c : List Stm) d e (f : Sc) (g : Stm) h (i : Bool) (j : List Dg) (k : Hp) (l : Nat) => mkS 135 [vv 0 (.ptr 0 0),(4,.lp 4 0),(7,.lp 7 0),vi 11 a,vb 14 false,vv 17 (.vs 6 b (stms c)),vi 18 d,vi 19 e,vv 102 (.agg (Sc.cs f)),vv 103 (.agg (Stm.cs g)),vv 104 h] [(4,⟨(Sc.cs f),[]⟩),(7,⟨(Stm.cs g),[]⟩)] ((0,⟨[(.vs 2 i (j.map Dg.av))],[0]⟩) :: k) l
abbrev yS238 := fun a (b : Bool) (c : List Stm) d e (f : Sc) (g : Stm) h (i : Fld) (j : Bool) (k : List Dg) (l : Hp) (m : Nat) => mkS 135 [vv 0 (.ptr 0 0),(4,.lp 4 0),(7,.lp 7 0),vi 11 a,(12,.lp 12 0),vb 14 false,vv 17 (.vs 6 b (stms c)),vi 18 d,vi 19 e,vb 98 false,vv 102 (.agg (Sc.cs f)),vv 103 (.agg (Stm.cs g)),vv 104 h] [(4,⟨(Sc.cs f),[]⟩),(7,⟨(Stm.cs g),[]⟩),(12,⟨(Fld.cs i),[]⟩)] ((0,⟨[(.vs 2 j (k.map Dg.av))],[0]⟩) :: l) m
theorem p89_6 {d l i j k g h b a f} {T : Hp} {q : Nat} {c : Bool} {e : List Dg} : LM C o 89 qR11 5 (yS232 g h d i j k b a (.tuple [(.agg (Fld.cs f)),(.bool l)]) c e T q) (.br (!l)
(.call 84 [(.ptr 0 0),(i6 a.at_),(i6 6)] ((0,⟨[(.vs 2 c (e.map Dg.av))],[0]⟩) :: T) q fun r =>
(.mid 16 qR12 4 (yS235 g h d i j k a r.v b f r.H r.nx)))
(.br (!(decide (f.kind = g)))
(.call 84 [(.ptr 0 0),(i6 a.at_),(i6 10)] ((0,⟨[(.vs 2 c (e.map Dg.av))],[0]⟩) :: T) q fun m =>
(.mid 13 qR13 4 (yS236 g h d i j k a m.v b f m.H m.nx)))
(.br (decide (a.kind = 5))
(.run 5 Q09 (zfw d i j (w64 (k + 1)) b c (e.map Dg.av) T q))
(.br (decide (g = 1))
(.br (za3 [(.agg (Stm.cs a))])
(cl0 152 [(.agg (Stm.cs a))] fun n => .br (AV.pure n.v)
(.br (AV.pure n.v)
(.mid 0 qR2 3 (yS237 f.type d i j k b a n.v c e T q)) .none) .none) .none)
(.br (za3 [(.agg (Stm.cs a))])
(cl0 152 [(.agg (Stm.cs a))] fun p => .br (AV.pure p.v)
(.br (AV.pure p.v)
(.mid 0 qR3 3 (yS238 h d i j k b a p.v f c e T q)) .none) .none) .none))))) := lM 24
abbrev yS239 := fun (a : Bool) (b : List Stm) c d (e : Stm) (f : Ex) g (h : Sc) i (j : Nat) => mkS 135 [vv 0 (.ptr 0 0),(4,.lp 4 0),(7,.lp 7 0),vv 17 (.vs 6 a (stms b)),vi 18 c,vi 19 d,vb 48 true,vv 49 (.ptr 0 0),vv 50 (.agg (Stm.cs e)),vv 51 (.agg (Ex.cs f)),vi 52 f.at_,vv 53 g] [(4,⟨(Sc.cs h),[]⟩),(7,⟨(Stm.cs e),[]⟩)] i j
theorem p89_7 {c g h i a b} {T : Hp} {j : Nat} {d : Sc} {e : List AV} : LM C o 89 qR1 3 (yS233 c g h i a (.agg (Ex.cs b)) d e T j) (.call 84 [(.ptr 0 0),(i6 b.at_),(i6 12)] ((0,⟨[(.vs 2 false e)],[0]⟩) :: T) j fun f =>
(.mid 0 qR1 5 (yS239 c g h i a b f.v d f.H f.nx))) := lM 0
abbrev yS240 := fun (a : Bool) (b : List Stm) c d (e : Sc) (f : Stm) g h (i : Nat) => mkS 135 [vv 0 (.ptr 0 0),(4,.lp 4 0),(7,.lp 7 0),vv 17 (.vs 6 a (stms b)),vi 18 c,vi 19 d,vv 59 (.ptr 0 0),vv 60 (.agg (Sc.cs e)),(61,.lp 7 4),vv 62 (.vs 6 f.tgE (stms f.els)),vv 63 g] [(4,⟨(Sc.cs e),[]⟩),(7,⟨(Stm.cs f),[]⟩)] h i
theorem p89_8 {d c g h i b a e} {T : Hp} {j : Nat} : LM C o 89 qR10 5 (yS234 d g h i b a (.tuple []) ((0,⟨[(.vs 2 c e)],[0]⟩) :: T) j) (.call 89 [(.ptr 0 0),(.agg (Sc.cs b)),(.vs 6 a.tgE (stms a.els))] ((0,⟨[(.vs 2 c e)],[0]⟩) :: T) j fun f =>
(.mid 0 qR14 5 (yS240 d g h i b a f.v f.H f.nx))) := lM 2
abbrev yS241 := fun a (b : Bool) (c : List Stm) d e (f : Sc) (g : Stm) h (i : Bool) (j : List Dg) (k : Hp) (l : Nat) => mkS 135 [vv 0 (.ptr 0 0),(4,.lp 4 0),(7,.lp 7 0),vi 11 a,vb 14 true,vv 17 (.vs 6 b (stms c)),vi 18 d,vi 19 e,vv 102 (.agg (Sc.cs f)),vv 103 (.agg (Stm.cs g)),vv 104 h] [(4,⟨(Sc.cs f),[]⟩),(7,⟨(Stm.cs g),[]⟩)] ((0,⟨[(.vs 2 i (j.map Dg.av))],[0]⟩) :: k) l
abbrev yS242 := fun a (b : Bool) (c : List Stm) d e (f : Sc) (g : Stm) h (i : Fld) (j : Bool) (k : List Dg) (l : Hp) (m : Nat) => mkS 135 [vv 0 (.ptr 0 0),(4,.lp 4 0),(7,.lp 7 0),vi 11 a,(12,.lp 12 0),vb 14 true,vv 17 (.vs 6 b (stms c)),vi 18 d,vi 19 e,vb 98 false,vv 102 (.agg (Sc.cs f)),vv 103 (.agg (Stm.cs g)),vv 104 h] [(4,⟨(Sc.cs f),[]⟩),(7,⟨(Stm.cs g),[]⟩),(12,⟨(Fld.cs i),[]⟩)] ((0,⟨[(.vs 2 j (k.map Dg.av))],[0]⟩) :: l) m
theorem p89_9 {d c g h i j k a} {T : Hp} {n : Nat} {b : Sc} {f : Fld} {e : List Dg} : LM C o 89 qR12 4 (yS235 j k d g h i a (.tuple []) b f ((0,⟨[(.vs 2 c (e.map Dg.av))],[0]⟩) :: T) n) (.br (decide (a.kind = 5))
(.run 5 Q09 (zfw d g h (w64 (i + 1)) b c (e.map Dg.av) T n))
(.br (decide (j = 1))
(.br (za3 [(.agg (Stm.cs a))])
(cl0 152 [(.agg (Stm.cs a))] fun l => .br (AV.pure l.v)
(.br (AV.pure l.v)
(.mid 0 qR4 3 (yS241 f.type d g h i b a l.v c e T n)) .none) .none) .none)
(.br (za3 [(.agg (Stm.cs a))])
(cl0 152 [(.agg (Stm.cs a))] fun m => .br (AV.pure m.v)
(.br (AV.pure m.v)
(.mid 0 qR5 3 (yS242 k d g h i b a m.v f c e T n)) .none) .none) .none))) := lM 13
abbrev yS243 := fun a (b : Bool) (c : List Stm) d e (f : Sc) (g : Stm) h (i : Bool) (j : List Dg) (k : Hp) (l : Nat) => mkS 135 [vv 0 (.ptr 0 0),(4,.lp 4 0),(7,.lp 7 0),vi 11 a,vb 14 true,vv 17 (.vs 6 b (stms c)),vi 18 d,vi 19 e,vv 102 (.agg (Sc.cs f)),vv 103 (.agg (Stm.cs g)),vv 104 h] [(4,⟨(Sc.cs f),[]⟩),(7,⟨(Stm.cs g),[]⟩)] ((0,⟨[(.vs 2 i (j.map Dg.av))],[0]⟩) :: k) l
abbrev yS244 := fun a (b : Bool) (c : List Stm) d e (f : Sc) (g : Stm) h (i : Fld) (j : Bool) (k : List Dg) (l : Hp) (m : Nat) => mkS 135 [vv 0 (.ptr 0 0),(4,.lp 4 0),(7,.lp 7 0),vi 11 a,(12,.lp 12 0),vb 14 true,vv 17 (.vs 6 b (stms c)),vi 18 d,vi 19 e,vb 98 false,vv 102 (.agg (Sc.cs f)),vv 103 (.agg (Stm.cs g)),vv 104 h] [(4,⟨(Sc.cs f),[]⟩),(7,⟨(Stm.cs g),[]⟩),(12,⟨(Fld.cs i),[]⟩)] ((0,⟨[(.vs 2 j (k.map Dg.av))],[0]⟩) :: l) m
theorem p89_10 {d c g h i j k a} {T : Hp} {n : Nat} {b : Sc} {f : Fld} {e : List Dg} : LM C o 89 qR13 4 (yS236 j k d g h i a (.tuple []) b f ((0,⟨[(.vs 2 c (e.map Dg.av))],[0]⟩) :: T) n) (.br (decide (a.kind = 5))
(.run 5 Q09 (zfw d g h (w64 (i + 1)) b c (e.map Dg.av) T n))
(.br (decide (j = 1))
(.br (za3 [(.agg (Stm.cs a))])
(cl0 152 [(.agg (Stm.cs a))] fun l => .br (AV.pure l.v)
(.br (AV.pure l.v)
(.mid 0 qR6 3 (yS243 f.type d g h i b a l.v c e T n)) .none) .none) .none)
(.br (za3 [(.agg (Stm.cs a))])
(cl0 152 [(.agg (Stm.cs a))] fun m => .br (AV.pure m.v)
(.br (AV.pure m.v)
(.mid 0 qR7 3 (yS244 k d g h i b a m.v f c e T n)) .none) .none) .none))) := lM 13
theorem p89_11 {e h i j f a b d} {T : Hp} {l : Nat} {c : Bool} {g : List Dg} : LM C o 89 qR2 3 (yS237 f e h i j a b (.agg (Ex.cs d)) c g T l) (cl0 52 [(.agg (Sc.cs a)),(.agg (Ex.cs d))] fun k => .br (AV.pure k.v)
(.mid 0 qR2 4 (mkS 135 [vv 0 (.ptr 0 0),(4,.lp 4 0),(7,.lp 7 0),vi 11 f,vb 14 false,vv 17 (.vs 6 e (stms h)),vi 18 i,vi 19 j,vv 102 (.agg (Sc.cs a)),vv 103 (.agg (Stm.cs b)),vv 104 (.agg (Ex.cs d)),(105,.val k.v (.comps [1]))] [(4,⟨(Sc.cs a),[]⟩),(7,⟨(Stm.cs b),[]⟩)] ((0,⟨[(.vs 2 c (g.map Dg.av))],[0]⟩) :: T) l)) .none) := lM 0
theorem p89_12 {e i j k f a b d} {T : Hp} {m : Nat} {c : Bool} {g : List Dg} {h : Fld} : LM C o 89 qR3 3 (yS238 f e i j k a b (.agg (Ex.cs d)) h c g T m) (cl0 52 [(.agg (Sc.cs a)),(.agg (Ex.cs d))] fun l => .br (AV.pure l.v)
(.mid 0 qR3 4 (mkS 135 [vv 0 (.ptr 0 0),(4,.lp 4 0),(7,.lp 7 0),vi 11 f,(12,.lp 12 0),vb 14 false,vv 17 (.vs 6 e (stms i)),vi 18 j,vi 19 k,vb 98 false,vv 102 (.agg (Sc.cs a)),vv 103 (.agg (Stm.cs b)),vv 104 (.agg (Ex.cs d)),(105,.val l.v (.comps [1]))] [(4,⟨(Sc.cs a),[]⟩),(7,⟨(Stm.cs b),[]⟩),(12,⟨(Fld.cs h),[]⟩)] ((0,⟨[(.vs 2 c (g.map Dg.av))],[0]⟩) :: T) m)) .none) := lM 0
abbrev yS245 := fun (a : Bool) (b : List Stm) c d (e : Sc) (f : Stm) g h (i : Nat) => mkS 135 [vv 0 (.ptr 0 0),(4,.lp 4 0),(7,.lp 7 0),vv 17 (.vs 6 a (stms b)),vi 18 c,vi 19 d,vv 54 (.ptr 0 0),vv 55 (.agg (Sc.cs e)),(56,.lp 7 3),vv 57 (.vs 6 f.tgT (stms f.thn)),vv 58 g] [(4,⟨(Sc.cs e),[]⟩),(7,⟨(Stm.cs f),[]⟩)] h i
theorem p89_13 {d c h i j a e f} {T : Hp} {k : Nat} {b : Sc} : LM C o 89 qR1 5 (yS239 d h i j a e (.tuple []) b ((0,⟨[(.vs 2 c f)],[0]⟩) :: T) k) (.call 89 [(.ptr 0 0),(.agg (Sc.cs b)),(.vs 6 a.tgT (stms a.thn))] ((0,⟨[(.vs 2 c f)],[0]⟩) :: T) k fun g =>
(.mid 0 qR15 5 (yS245 d h i j b a g.v g.H g.nx))) := lM 2
theorem p89_14 {d a f g h b c e} {T : Hp} {i : Nat} : LM C o 89 qR14 5 (yS240 d f g h b c (.tuple []) ((0,⟨[(.vs 2 a e)],[0]⟩) :: T) i) (.run 0 Q09 (zfw d f g (w64 (h + 1)) b a e T i)) := lM 3
theorem p89_15 {e h i j f a b d} {T : Hp} {l : Nat} {c : Bool} {g : List Dg} : LM C o 89 qR4 3 (yS241 f e h i j a b (.agg (Ex.cs d)) c g T l) (cl0 52 [(.agg (Sc.cs a)),(.agg (Ex.cs d))] fun k => .br (AV.pure k.v)
(.mid 0 qR4 4 (mkS 135 [vv 0 (.ptr 0 0),(4,.lp 4 0),(7,.lp 7 0),vi 11 f,vb 14 true,vv 17 (.vs 6 e (stms h)),vi 18 i,vi 19 j,vv 102 (.agg (Sc.cs a)),vv 103 (.agg (Stm.cs b)),vv 104 (.agg (Ex.cs d)),(105,.val k.v (.comps [1]))] [(4,⟨(Sc.cs a),[]⟩),(7,⟨(Stm.cs b),[]⟩)] ((0,⟨[(.vs 2 c (g.map Dg.av))],[0]⟩) :: T) l)) .none) := lM 0
theorem p89_16 {e i j k f a b d} {T : Hp} {m : Nat} {c : Bool} {g : Fld} {h : List Dg} : LM C o 89 qR5 3 (yS242 f e i j k a b (.agg (Ex.cs d)) g c h T m) (cl0 52 [(.agg (Sc.cs a)),(.agg (Ex.cs d))] fun l => .br (AV.pure l.v)
(.mid 0 qR5 4 (mkS 135 [vv 0 (.ptr 0 0),(4,.lp 4 0),(7,.lp 7 0),vi 11 f,(12,.lp 12 0),vb 14 true,vv 17 (.vs 6 e (stms i)),vi 18 j,vi 19 k,vb 98 false,vv 102 (.agg (Sc.cs a)),vv 103 (.agg (Stm.cs b)),vv 104 (.agg (Ex.cs d)),(105,.val l.v (.comps [1]))] [(4,⟨(Sc.cs a),[]⟩),(7,⟨(Stm.cs b),[]⟩),(12,⟨(Fld.cs g),[]⟩)] ((0,⟨[(.vs 2 c (h.map Dg.av))],[0]⟩) :: T) m)) .none) := lM 0
theorem p89_17 {e h i j f a b d} {T : Hp} {l : Nat} {c : Bool} {g : List Dg} : LM C o 89 qR6 3 (yS243 f e h i j a b (.agg (Ex.cs d)) c g T l) (cl0 52 [(.agg (Sc.cs a)),(.agg (Ex.cs d))] fun k => .br (AV.pure k.v)
(.mid 0 qR6 4 (mkS 135 [vv 0 (.ptr 0 0),(4,.lp 4 0),(7,.lp 7 0),vi 11 f,vb 14 true,vv 17 (.vs 6 e (stms h)),vi 18 i,vi 19 j,vv 102 (.agg (Sc.cs a)),vv 103 (.agg (Stm.cs b)),vv 104 (.agg (Ex.cs d)),(105,.val k.v (.comps [1]))] [(4,⟨(Sc.cs a),[]⟩),(7,⟨(Stm.cs b),[]⟩)] ((0,⟨[(.vs 2 c (g.map Dg.av))],[0]⟩) :: T) l)) .none) := lM 0
theorem p89_18 {e i j k f a b d} {T : Hp} {m : Nat} {c : Bool} {g : Fld} {h : List Dg} : LM C o 89 qR7 3 (yS244 f e i j k a b (.agg (Ex.cs d)) g c h T m) (cl0 52 [(.agg (Sc.cs a)),(.agg (Ex.cs d))] fun l => .br (AV.pure l.v)
(.mid 0 qR7 4 (mkS 135 [vv 0 (.ptr 0 0),(4,.lp 4 0),(7,.lp 7 0),vi 11 f,(12,.lp 12 0),vb 14 true,vv 17 (.vs 6 e (stms i)),vi 18 j,vi 19 k,vb 98 false,vv 102 (.agg (Sc.cs a)),vv 103 (.agg (Stm.cs b)),vv 104 (.agg (Ex.cs d)),(105,.val l.v (.comps [1]))] [(4,⟨(Sc.cs a),[]⟩),(7,⟨(Stm.cs b),[]⟩),(12,⟨(Fld.cs g),[]⟩)] ((0,⟨[(.vs 2 c (h.map Dg.av))],[0]⟩) :: T) m)) .none) := lM 0
abbrev yS246 := fun (a : Bool) (b : List Stm) c d (e : Stm) f (g : Sc) (h : List AV) (i : Hp) (j : Nat) => mkS 135 [vv 0 (.ptr 0 0),(4,.lp 4 0),(7,.lp 7 0),vv 17 (.vs 6 a (stms b)),vi 18 c,vi 19 d,vb 128 true,vv 129 (.ptr 0 0),vv 130 (.agg (Stm.cs e)),vv 131 f] [(4,⟨(Sc.cs g),[]⟩),(7,⟨(Stm.cs e),[]⟩)] ((0,⟨[(.vs 2 false h)],[0]⟩) :: i) j
theorem p89_19 {f l c h i j k g d e m} {T : Hp} {p : Nat} {b a : List Dg} : LM C o 89 qR2 4 (mkS 135 [vv 0 (.ptr 0 0),(4,.lp 4 0),(7,.lp 7 0),vi 11 k,vb 14 false,vv 17 (.vs 6 f (stms h)),vi 18 i,vi 19 j,vv 102 (.agg (Sc.cs d)),vv 103 (.agg (Stm.cs e)),vv 104 (.agg (Ex.cs m)),(105,.val (.tuple [(i6 g),(.vs 2 c (a.map Dg.av))]) (.comps [1]))] [(4,⟨(Sc.cs d),[]⟩),(7,⟨(Stm.cs e),[]⟩)] ((0,⟨[(.vs 2 l (b.map Dg.av))],[0]⟩) :: T) p) (.br (za3 [(.tuple [(i6 g),(.vs 2 c (a.map Dg.av))])])
(.br (za3 [(.tuple [(i6 g),(.vs 2 c (a.map Dg.av))])])
(.br (AV.pure (.vs 2 c (a.map Dg.av)))
(.br (Nat.ble (((b.map Dg.av).length + (a.map Dg.av).length) * 16) za5)
(.br (Nat.ble ((b.map Dg.av).length + (a.map Dg.av).length) za5)
(.br (decide (((a.map Dg.av).length : Int) = 0))
(.br (!(decide (g = k)))
(cl0 152 [(.agg (Stm.cs e))] fun n => .br (AV.pure n.v)
(.mid 3 qR8 3 (yS246 f h i j e n.v d ((b.map Dg.av) ++ (a.map Dg.av)) T p)) .none)
(.run 0 Q09 (zfw f h i (w64 (j + 1)) d false ((b.map Dg.av) ++ (a.map Dg.av)) T p)))
(.run 0 Q09 (zfw f h i (w64 (j + 1)) d false ((b.map Dg.av) ++ (a.map Dg.av)) T p))) .none) .none) .none) .none) .none) := lM 9
abbrev yS247 := fun (a : Bool) (b : List Stm) c d (e : Stm) f (g : Sc) (h : List AV) (i : Hp) (j : Nat) => mkS 135 [vv 0 (.ptr 0 0),(4,.lp 4 0),(7,.lp 7 0),vv 17 (.vs 6 a (stms b)),vi 18 c,vi 19 d,vb 128 true,vv 129 (.ptr 0 0),vv 130 (.agg (Stm.cs e)),vv 131 f] [(4,⟨(Sc.cs g),[]⟩),(7,⟨(Stm.cs e),[]⟩)] ((0,⟨[(.vs 2 false h)],[0]⟩) :: i) j
theorem p89_20 {f l c h i j k g d e m n} {T : Hp} {q : Nat} {b a : List Dg} : LM C o 89 qR3 4 (mkS 135 [vv 0 (.ptr 0 0),(4,.lp 4 0),(7,.lp 7 0),vi 11 k,(12,.lp 12 0),vb 14 false,vv 17 (.vs 6 f (stms h)),vi 18 i,vi 19 j,vb 98 false,vv 102 (.agg (Sc.cs d)),vv 103 (.agg (Stm.cs e)),vv 104 (.agg (Ex.cs n)),(105,.val (.tuple [(i6 g),(.vs 2 c (a.map Dg.av))]) (.comps [1]))] [(4,⟨(Sc.cs d),[]⟩),(7,⟨(Stm.cs e),[]⟩),(12,⟨(Fld.cs m),[]⟩)] ((0,⟨[(.vs 2 l (b.map Dg.av))],[0]⟩) :: T) q) (.br (za3 [(.tuple [(i6 g),(.vs 2 c (a.map Dg.av))])])
(.br (za3 [(.tuple [(i6 g),(.vs 2 c (a.map Dg.av))])])
(.br (AV.pure (.vs 2 c (a.map Dg.av)))
(.br (Nat.ble (((b.map Dg.av).length + (a.map Dg.av).length) * 16) za5)
(.br (Nat.ble ((b.map Dg.av).length + (a.map Dg.av).length) za5)
(.br (decide (((a.map Dg.av).length : Int) = 0))
(.br (!(decide (g = k)))
(cl0 152 [(.agg (Stm.cs e))] fun p => .br (AV.pure p.v)
(.mid 3 qR9 3 (yS247 f h i j e p.v d ((b.map Dg.av) ++ (a.map Dg.av)) T q)) .none)
(.run 0 Q09 (zfw f h i (w64 (j + 1)) d false ((b.map Dg.av) ++ (a.map Dg.av)) T q)))
(.run 0 Q09 (zfw f h i (w64 (j + 1)) d false ((b.map Dg.av) ++ (a.map Dg.av)) T q))) .none) .none) .none) .none) .none) := lM 9
abbrev yS248 := fun (a : Bool) (b : List Stm) c d (e : Sc) (f : Stm) g h (i : Nat) => mkS 135 [vv 0 (.ptr 0 0),(4,.lp 4 0),(7,.lp 7 0),vv 17 (.vs 6 a (stms b)),vi 18 c,vi 19 d,vv 59 (.ptr 0 0),vv 60 (.agg (Sc.cs e)),(61,.lp 7 4),vv 62 (.vs 6 f.tgE (stms f.els)),vv 63 g] [(4,⟨(Sc.cs e),[]⟩),(7,⟨(Stm.cs f),[]⟩)] h i
theorem p89_21 {d c g h i b a e} {T : Hp} {j : Nat} : LM C o 89 qR15 5 (yS245 d g h i b a (.tuple []) ((0,⟨[(.vs 2 c e)],[0]⟩) :: T) j) (.call 89 [(.ptr 0 0),(.agg (Sc.cs b)),(.vs 6 a.tgE (stms a.els))] ((0,⟨[(.vs 2 c e)],[0]⟩) :: T) j fun f =>
(.mid 0 qR16 5 (yS248 d g h i b a f.v f.H f.nx))) := lM 2
theorem p89_22 {f h b i j k l d e g m} {T : Hp} {n : Nat} {c a : List Dg} : LM C o 89 qR4 4 (mkS 135 [vv 0 (.ptr 0 0),(4,.lp 4 0),(7,.lp 7 0),vi 11 l,vb 14 true,vv 17 (.vs 6 f (stms i)),vi 18 j,vi 19 k,vv 102 (.agg (Sc.cs e)),vv 103 (.agg (Stm.cs g)),vv 104 (.agg (Ex.cs m)),(105,.val (.tuple [(i6 d),(.vs 2 b (a.map Dg.av))]) (.comps [1]))] [(4,⟨(Sc.cs e),[]⟩),(7,⟨(Stm.cs g),[]⟩)] ((0,⟨[(.vs 2 h (c.map Dg.av))],[0]⟩) :: T) n) (.br (za3 [(.tuple [(i6 d),(.vs 2 b (a.map Dg.av))])])
(.br (za3 [(.tuple [(i6 d),(.vs 2 b (a.map Dg.av))])])
(.br (AV.pure (.vs 2 b (a.map Dg.av)))
(.br (Nat.ble (((c.map Dg.av).length + (a.map Dg.av).length) * 16) za5)
(.br (Nat.ble ((c.map Dg.av).length + (a.map Dg.av).length) za5)
(.run 0 Q09 (zfw f i j (w64 (k + 1)) e false ((c.map Dg.av) ++ (a.map Dg.av)) T n)) .none) .none) .none) .none) .none) := lM 9
theorem p89_23 {f h b i j k l d e g m n} {T : Hp} {p : Nat} {c a : List Dg} : LM C o 89 qR5 4 (mkS 135 [vv 0 (.ptr 0 0),(4,.lp 4 0),(7,.lp 7 0),vi 11 l,(12,.lp 12 0),vb 14 true,vv 17 (.vs 6 f (stms i)),vi 18 j,vi 19 k,vb 98 false,vv 102 (.agg (Sc.cs e)),vv 103 (.agg (Stm.cs g)),vv 104 (.agg (Ex.cs n)),(105,.val (.tuple [(i6 d),(.vs 2 b (a.map Dg.av))]) (.comps [1]))] [(4,⟨(Sc.cs e),[]⟩),(7,⟨(Stm.cs g),[]⟩),(12,⟨(Fld.cs m),[]⟩)] ((0,⟨[(.vs 2 h (c.map Dg.av))],[0]⟩) :: T) p) (.br (za3 [(.tuple [(i6 d),(.vs 2 b (a.map Dg.av))])])
(.br (za3 [(.tuple [(i6 d),(.vs 2 b (a.map Dg.av))])])
(.br (AV.pure (.vs 2 b (a.map Dg.av)))
(.br (Nat.ble (((c.map Dg.av).length + (a.map Dg.av).length) * 16) za5)
(.br (Nat.ble ((c.map Dg.av).length + (a.map Dg.av).length) za5)
(.run 0 Q09 (zfw f i j (w64 (k + 1)) e false ((c.map Dg.av) ++ (a.map Dg.av)) T p)) .none) .none) .none) .none) .none) := lM 9
theorem p89_24 {f h b i j k l d e g m} {T : Hp} {n : Nat} {c a : List Dg} : LM C o 89 qR6 4 (mkS 135 [vv 0 (.ptr 0 0),(4,.lp 4 0),(7,.lp 7 0),vi 11 l,vb 14 true,vv 17 (.vs 6 f (stms i)),vi 18 j,vi 19 k,vv 102 (.agg (Sc.cs e)),vv 103 (.agg (Stm.cs g)),vv 104 (.agg (Ex.cs m)),(105,.val (.tuple [(i6 d),(.vs 2 b (a.map Dg.av))]) (.comps [1]))] [(4,⟨(Sc.cs e),[]⟩),(7,⟨(Stm.cs g),[]⟩)] ((0,⟨[(.vs 2 h (c.map Dg.av))],[0]⟩) :: T) n) (.br (za3 [(.tuple [(i6 d),(.vs 2 b (a.map Dg.av))])])
(.br (za3 [(.tuple [(i6 d),(.vs 2 b (a.map Dg.av))])])
(.br (AV.pure (.vs 2 b (a.map Dg.av)))
(.br (Nat.ble (((c.map Dg.av).length + (a.map Dg.av).length) * 16) za5)
(.br (Nat.ble ((c.map Dg.av).length + (a.map Dg.av).length) za5)
(.run 0 Q09 (zfw f i j (w64 (k + 1)) e false ((c.map Dg.av) ++ (a.map Dg.av)) T n)) .none) .none) .none) .none) .none) := lM 9
theorem p89_25 {f h b i j k l d e g m n} {T : Hp} {p : Nat} {c a : List Dg} : LM C o 89 qR7 4 (mkS 135 [vv 0 (.ptr 0 0),(4,.lp 4 0),(7,.lp 7 0),vi 11 l,(12,.lp 12 0),vb 14 true,vv 17 (.vs 6 f (stms i)),vi 18 j,vi 19 k,vb 98 false,vv 102 (.agg (Sc.cs e)),vv 103 (.agg (Stm.cs g)),vv 104 (.agg (Ex.cs n)),(105,.val (.tuple [(i6 d),(.vs 2 b (a.map Dg.av))]) (.comps [1]))] [(4,⟨(Sc.cs e),[]⟩),(7,⟨(Stm.cs g),[]⟩),(12,⟨(Fld.cs m),[]⟩)] ((0,⟨[(.vs 2 h (c.map Dg.av))],[0]⟩) :: T) p) (.br (za3 [(.tuple [(i6 d),(.vs 2 b (a.map Dg.av))])])
(.br (za3 [(.tuple [(i6 d),(.vs 2 b (a.map Dg.av))])])
(.br (AV.pure (.vs 2 b (a.map Dg.av)))
(.br (Nat.ble (((c.map Dg.av).length + (a.map Dg.av).length) * 16) za5)
(.br (Nat.ble ((c.map Dg.av).length + (a.map Dg.av).length) za5)
(.run 0 Q09 (zfw f i j (w64 (k + 1)) e false ((c.map Dg.av) ++ (a.map Dg.av)) T p)) .none) .none) .none) .none) .none) := lM 9
abbrev yS249 := fun (a : Bool) (b : List Stm) c d (e : Stm) (f : Ex) g (h : Sc) i (j : Nat) => mkS 135 [vv 0 (.ptr 0 0),(4,.lp 4 0),(7,.lp 7 0),vv 17 (.vs 6 a (stms b)),vi 18 c,vi 19 d,vb 128 true,vv 129 (.ptr 0 0),vv 130 (.agg (Stm.cs e)),vv 131 (.agg (Ex.cs f)),vi 132 f.at_,vv 133 g] [(4,⟨(Sc.cs h),[]⟩),(7,⟨(Stm.cs e),[]⟩)] i j
theorem p89_26 {c g h i a b} {T : Hp} {j : Nat} {d : Sc} {e : List AV} : LM C o 89 qR8 3 (yS246 c g h i a (.agg (Ex.cs b)) d e T j) (.call 84 [(.ptr 0 0),(i6 b.at_),(i6 12)] ((0,⟨[(.vs 2 false e)],[0]⟩) :: T) j fun f =>
(.mid 0 qR8 5 (yS249 c g h i a b f.v d f.H f.nx))) := lM 0
abbrev yS250 := fun (a : Bool) (b : List Stm) c d (e : Stm) (f : Ex) g (h : Sc) i (j : Nat) => mkS 135 [vv 0 (.ptr 0 0),(4,.lp 4 0),(7,.lp 7 0),vv 17 (.vs 6 a (stms b)),vi 18 c,vi 19 d,vb 128 true,vv 129 (.ptr 0 0),vv 130 (.agg (Stm.cs e)),vv 131 (.agg (Ex.cs f)),vi 132 f.at_,vv 133 g] [(4,⟨(Sc.cs h),[]⟩),(7,⟨(Stm.cs e),[]⟩)] i j
theorem p89_27 {c g h i a b} {T : Hp} {j : Nat} {d : Sc} {e : List AV} : LM C o 89 qR9 3 (yS247 c g h i a (.agg (Ex.cs b)) d e T j) (.call 84 [(.ptr 0 0),(i6 b.at_),(i6 12)] ((0,⟨[(.vs 2 false e)],[0]⟩) :: T) j fun f =>
(.mid 0 qR9 5 (yS250 c g h i a b f.v d f.H f.nx))) := lM 0
theorem p89_28 {d a f g h b c e} {T : Hp} {i : Nat} : LM C o 89 qR16 5 (yS248 d f g h b c (.tuple []) ((0,⟨[(.vs 2 a e)],[0]⟩) :: T) i) (.run 0 Q09 (zfw d f g (w64 (h + 1)) b a e T i)) := lM 3
theorem p89_29 {b a g h i d e f} {T : Hp} {j : Nat} {c : Sc} : LM C o 89 qR8 5 (yS249 b g h i d e (.tuple []) c ((0,⟨[(.vs 2 a f)],[0]⟩) :: T) j) (.run 0 Q09 (zfw b g h (w64 (i + 1)) c a f T j)) := lM 3
theorem p89_30 {b a g h i d e f} {T : Hp} {j : Nat} {c : Sc} : LM C o 89 qR9 5 (yS250 b g h i d e (.tuple []) c ((0,⟨[(.vs 2 a f)],[0]⟩) :: T) j) (.run 0 Q09 (zfw b g h (w64 (i + 1)) c a f T j)) := lM 3
end
end Go.Proofs.YtfdklpkfpmkgeaaGreatDoor
