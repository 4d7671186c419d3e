/- Sources by tokens: what the parser sees of a source whose tokens are known. -/
import Derived.Test.YtfdklpkfpmkgeaaGreatDoorM6
import Derived.Test.YtfdklpkfpmkgeaaGreatDoorM7
import Derived.Test.YtfdklpkfpmkgeaaGreatDoorM8
set_option linter.unusedSimpArgs false
set_option linter.unusedVariables false
set_option linter.unusedSectionVars false
set_option linter.unnecessarySimpa false
namespace Go.Proofs.YtfdklpkfpmkgeaaGreatDoor
section
open Go Go.Vai
def NT.up (t : NT) (k : Nat) : NT := ⟨t.kind,t.s,t.n,k + t.at_,t.err,k + t.pos⟩
theorem zvm (src : List UInt8) (k a : Nat) : tokS src (k + a) = (tokS (src.drop k) a).up k:=by
 unfold tokS;rw [List.drop_drop];cases src.drop (k + a) with
 | nil=>rfl
 | cons c r =>
  simp only
  repeat' split
  all_goals simp only [NT.up,Nat.add_assoc]
theorem zrq (src : List UInt8) (k : Nat) : zb4 src k = (zb4 (src.drop k) 0).up k:=by
 unfold zb4;rw [zvm,List.drop_zero,Nat.zero_add]
end
section
open Go Go.Vai
structure ShP (h : List UInt8) (p q : PS) : Prop where
 src : q.src = h ++ p.src
 nn : 0 ≤ p.pos
 pos : q.pos = p.pos + h.length
 kind : q.kind = p.kind
 s : q.s = p.s
 n : q.n = p.n
 tat : q.tat = p.tat + h.length
 dep : q.depth = p.depth
 err : q.err = p.err
variable {h : List UInt8} {p q : PS}
theorem ShP.isW (H : ShP h p q) (w : List UInt8) : q.isW w = p.isW w := by unfold PS.isW; rw [H.kind,H.s]
theorem ShP.isG (H : ShP h p q) (w : List UInt8) : q.isG w = p.isG w := by unfold PS.isG; rw [H.kind,H.s]
theorem ShP.fail (H : ShP h p q) (e a b : Int) : ShP h (p.fail e a) (q.fail e b):=by
 refine ⟨H.src,H.nn,H.pos,rfl,rfl,rfl,?_,H.dep,?_⟩
 ·show ((q.src.length : Nat) : Int) = (p.src.length : Int) + h.length;rw [H.src,lnA];omega
 ·show (if q.err = 0 then e else q.err) = if p.err = 0 then e else p.err
  rw [H.err]
theorem nextS_sh (h src : List UInt8) (k : Nat) : zb4 (h ++ src) (k + h.length) = (zb4 src k).up h.length:=by
 rw [zrq (h ++ src),zrq src k];have e : (h ++ src).drop (k + h.length) = src.drop k:=by
  rw [Nat.add_comm,← List.drop_drop,List.drop_left]
 rw [e];simp only [NT.up,Nat.add_assoc,Nat.add_left_comm k h.length]
theorem ShP.adv (H : ShP h p q) : ShP h p.adv q.adv:=by
 have hn : q.pos.toNat = p.pos.toNat + h.length:=by
  have := H.nn;rw [H.pos];omega
 have e := nextS_sh h p.src p.pos.toNat;unfold PS.adv;rw [H.err,H.src,hn,e];by_cases h0 : p.err = 0
 ·rw [if_pos h0,if_pos h0];by_cases he : (zb4 p.src p.pos.toNat).err = 0
  ·rw [if_pos he,if_pos (show ((zb4 p.src p.pos.toNat).up h.length).err = 0 from he)];refine ⟨rfl,Int.natCast_nonneg _,?_,rfl,rfl,rfl,?_,H.dep,rfl⟩
   ·show ((h.length + (zb4 p.src p.pos.toNat).pos : Nat) : Int) = ((zb4 p.src p.pos.toNat).pos : Int) + h.length;omega
   ·show ((h.length + (zb4 p.src p.pos.toNat).at_ : Nat) : Int) = ((zb4 p.src p.pos.toNat).at_ : Int) + h.length;omega
  ·rw [if_neg he,if_neg (show ¬ ((zb4 p.src p.pos.toNat).up h.length).err = 0 from he)];have H' : ShP h (p.at (zb4 p.src p.pos.toNat).pos) (q.at (h.length + (zb4 p.src p.pos.toNat).pos)) := ⟨H.src,Int.natCast_nonneg _,by show ((h.length + (zb4 p.src p.pos.toNat).pos : Nat) : Int) = ((zb4 p.src p.pos.toNat).pos : Int) + h.length; omega,H.kind,H.s,H.n,H.tat,H.dep,H.err⟩;exact H'.fail _ _ _
 ·rw [if_neg h0,if_neg h0];exact H
theorem ShP.sign (H : ShP h p q) (w : List UInt8) : ShP h (p.sign w) (q.sign w):=by
 unfold PS.sign;rw [H.isG];split
 ·exact H.adv
 ·exact H.fail _ _ _
theorem ShP.name (H : ShP h p q) : ShP h p.name q.name:=by
 unfold PS.name;rw [H.kind,H.s];split
 ·split
  ·exact H.fail _ _ _
  ·exact H.adv
 ·exact H.fail _ _ _
theorem ShP.oneF (H : ShP h p q) : ∀ (l : List (List UInt8)) (i : Nat),(q.oneF l i).1 = (p.oneF l i).1∧ShP h (p.oneF l i).2 (q.oneF l i).2
 | [],_=>⟨rfl,H.fail _ _ _⟩
 | w :: r,i=>by
  unfold PS.oneF;rw [H.isW];split
  ·exact ⟨rfl,H.adv⟩
  ·exact ShP.oneF H r (i + 1)
theorem ShP.depth (H : ShP h p q) (d : Int) : ShP h (p.dep d) (q.dep d) := ⟨H.src,H.nn,H.pos,H.kind,H.s,H.n,H.tat,by show q.depth + d = p.depth + d; rw [H.dep],H.err⟩
theorem ShP.opn (H : ShP h p q) : ShP h p.opn q.opn:=by
 unfold PS.opn;rw [H.dep];split
 ·exact (H.fail _ _ _).depth 1
 ·exact H.depth 1
theorem ShP.cls (H : ShP h p q) : ShP h p.cls q.cls := H.depth (-1)
mutual
def shE (K : Int) : Ex→Ex
 | .mk k n s tg l a=>.mk k n s tg (shEs K l) (a + K)
def shEs (K : Int) : List Ex→List Ex
 | []=>[]
 | e :: l=>shE K e :: shEs K l
end
theorem ex_sh : ∀ f : Nat,(∀ n p q r,ShP h p q→binF f n p = some r→∃ r',binF f n q = some r'∧r'.1 = shE h.length r.1∧ShP h r.2 r'.2)∧(∀ n e p q r,ShP h p q→binL f n e p = some r→∃ r',binL f n (shE h.length e) q = some r'∧r'.1 = shE h.length r.1∧ShP h r.2 r'.2) ∧
  (∀ p q r,ShP h p q→unF f p = some r→∃ r',unF f q = some r'∧r'.1 = shE h.length r.1∧ShP h r.2 r'.2)∧(∀ p q r,ShP h p q→priF f p = some r→∃ r',priF f q = some r'∧r'.1 = shE h.length r.1∧ShP h r.2 r'.2)
 | 0=>⟨fun _ _ _ _ _ h=>(by rw [binF] at h; cases h),fun _ _ _ _ _ _ h=>(by rw [binL] at h; cases h),fun _ _ _ _ h=>(by rw [unF] at h; cases h),fun _ _ _ _ h=>(by rw [priF] at h; cases h)⟩
 | f + 1=>by
  obtain ⟨i1,i2,i3,i4⟩ := ex_sh f;refine ⟨fun n p q r H hr=>?_,fun n e p q r H hr=>?_,fun p q r H hr=>?_,fun p q r H hr=>?_⟩
  ·rw [binF] at hr ⊢;split at hr
   ·rename_i c;rw [if_pos c];exact i3 _ _ _ H hr
   ·rename_i c;rw [if_neg c];obtain ⟨x,h1,h2⟩ := za2 hr;obtain ⟨x',e1,e2,e3⟩ := i1 _ _ _ _ H h1;obtain ⟨y',g1,g2,g3⟩ := i2 _ _ _ _ _ e3 h2;rw [← e2] at g1;exact ⟨y',bndI ⟨x',e1,g1⟩,g2,g3⟩
  ·rw [binL] at hr ⊢;rw [H.kind,H.s];split at hr
   ·rename_i c;rw [if_pos c];obtain ⟨x,h1,h2⟩ := za2 hr;obtain ⟨x',e1,e2,e3⟩ := i1 _ _ _ _ H.adv h1;have en : (Ex.mk 7 0 p.s false [shE h.length e,x'.1] q.tat) = shE h.length (.mk 7 0 p.s false [e,x.1] p.tat) := by rw [e2,H.tat]; rfl
    split at h2
    ·rename_i c3;injection h2 with h2;subst h2;exact ⟨(.mk 7 0 p.s false [shE h.length e,x'.1] q.tat,x'.2),bndI ⟨x',e1,by rw [if_pos c3]⟩,en,e3⟩
    ·rename_i c3;obtain ⟨y',g1,g2,g3⟩ := i2 _ _ _ _ _ e3 h2;rw [← en] at g1;exact ⟨y',bndI ⟨x',e1,by rw [if_neg c3]; exact g1⟩,g2,g3⟩
   ·rename_i c;rw [if_neg c];injection hr with hr;subst hr;exact ⟨_,rfl,rfl,H⟩
  ·rw [unF] at hr ⊢;rw [H.isG,H.isG,H.s];split at hr
   ·rename_i c;rw [if_pos c];obtain ⟨x,h1,h2⟩ := za2 hr;obtain ⟨x',e1,e2,e3⟩ := i3 _ _ _ H.opn.adv h1;injection h2 with h2;subst h2;exact ⟨_,bndI ⟨x',e1,rfl⟩,by rw [e2,H.tat]; rfl,e3.cls⟩
   ·rename_i c;rw [if_neg c];exact i4 _ _ _ H hr
  ·rw [priF] at hr ⊢;rw [H.kind,H.isW,H.isW,H.isW,H.isG,H.s,H.n,H.tat,(H.adv.sign [40]).s];split at hr
   ·rename_i c; rw [if_pos c]; injection hr with hr; subst hr; exact ⟨_,rfl,rfl,H.adv⟩
   rename_i c; rw [if_neg c];split at hr
   ·rename_i c; rw [if_pos c]; injection hr with hr; subst hr; exact ⟨_,rfl,rfl,H.adv⟩
   rename_i c; rw [if_neg c];split at hr
   ·rename_i c; rw [if_pos c]; injection hr with hr; subst hr; exact ⟨_,rfl,rfl,H.adv⟩
   rename_i c; rw [if_neg c];split at hr
   ·rename_i c; rw [if_pos c]; injection hr with hr; subst hr; exact ⟨_,rfl,rfl,H.adv⟩
   rename_i c; rw [if_neg c];split at hr
   ·rename_i c; rw [if_pos c]; injection hr with hr; subst hr; exact ⟨_,rfl,rfl,((H.adv.sign [40]).name).sign [41]⟩
   rename_i c; rw [if_neg c];split at hr
   ·rename_i c; rw [if_pos c];obtain ⟨x,h1,h2⟩ := za2 hr;obtain ⟨x',e1,e2,e3⟩ := i1 _ _ _ _ H.opn.adv h1;injection h2 with h2;subst h2;exact ⟨_,bndI ⟨x',e1,rfl⟩,e2,e3.cls.sign [41]⟩
   rename_i c; rw [if_neg c];injection hr with hr; subst hr; exact ⟨_,rfl,rfl,H.name⟩
end
section
open Go Go.Vai
mutual
def shS (K : Int) : Stm→Stm
 | .mk k s v t1 th t2 el a=>.mk k s (shEs K v) t1 (shSs K th) t2 (shSs K el) (a + K)
def shSs (K : Int) : List Stm→List Stm
 | []=>[]
 | e :: l=>shS K e :: shSs K l
end
theorem zsi (K : Int) : ∀ (a : List Stm) (z : Stm),shSs K (a ++ [z]) = shSs K a ++ [shS K z]
 | [],_=>rfl
 | e :: a,z=>by rw [List.cons_append,shSs,shSs,zsi K a z]; rfl
def shP (K : Int) (x : Par) : Par := { x with at_ := x.at_ + K }
def shF (K : Int) (x : Fld) : Fld := { x with at_ := x.at_ + K }
def shO (K : Int) (x : Opn) : Opn := { x with params := x.params.map (shP K),body := shSs K x.body,at_ := x.at_ + K }
def shQ (K : Int) (x : Qry) : Qry := { x with params := x.params.map (shP K),res := shE K x.res,at_ := x.at_ + K }
def shI (K : Int) (x : Idx) : Idx := { x with at_ := x.at_ + K }
def shT (K : Int) (t : Typ) : Typ := { t with fields := t.fields.map (shF K),ops := t.ops.map (shO K),qrys := t.qrys.map (shQ K),idxs := t.idxs.map (shI K),at_ := t.at_ + K }
variable {h : List UInt8} {p q : PS}
theorem zty (H : ShP h p q) : (parF q).1 = shP h.length (parF p).1∧ShP h (parF p).2 (parF q).2:=by
 obtain ⟨a1,a2⟩ := H.name.oneF tyL 0;refine ⟨?_,a2⟩;show (⟨q.s,(q.name.oneF tyL 0).1,q.tat⟩ : Par) = ⟨p.s,(p.name.oneF tyL 0).1,p.tat + h.length⟩;rw [H.s,a1,H.tat]
theorem zv9 : ∀ f l p q r,ShP h p q→pasL f l p = some r→∃ r',pasL f (l.map (shP h.length)) q = some r'∧r'.1 = r.1.map (shP h.length)∧ShP h r.2 r'.2
 | 0,_,_,_,_,_,hr=>by cases hr
 | f + 1,l,p,q,r,H,hr=>by
  rw [pasL] at hr ⊢;rw [H.isG];split at hr
  ·rename_i c;rw [if_pos c];obtain ⟨a1,a2⟩ := zty H.adv;obtain ⟨r',e1,e2,e3⟩ := zv9 f _ _ _ _ a2 hr;rw [mpA,List.map_singleton,← a1] at e1;exact ⟨r',e1,e2,e3⟩
  ·rename_i c;rw [if_neg c];injection hr with hr;subst hr;exact ⟨_,rfl,rfl,H.sign [41]⟩
theorem zwk {f : Nat} {r : (Bool × List Par) × PS} (H : ShP h p q) (hr : pasF f p = some r) : ∃ r',pasF f q = some r'∧r'.1 = (r.1.1,r.1.2.map (shP h.length))∧ShP h r.2 r'.2:=by
 have H0 := H.sign [40];unfold pasF at hr ⊢;rw [H0.isG];split at hr
 ·rename_i c;rw [if_pos c];injection hr with hr;subst hr;exact ⟨_,rfl,rfl,H0.sign [41]⟩
 ·rename_i c;rw [if_neg c];obtain ⟨x,h1,h2⟩ := Option.map_eq_some_iff.1 hr;subst h2;obtain ⟨a1,a2⟩ := zty H0;obtain ⟨x',e1,e2,e3⟩ := zv9 f _ _ _ _ a2 h1;rw [List.map_singleton,← a1] at e1;exact ⟨((false,x'.1),x'.2),Option.map_eq_some_iff.2 ⟨x',e1,rfl⟩,by rw [e2],e3⟩
theorem st_sh : ∀ f : Nat,(∀ tg l p q r,ShP h p q→blkL f tg l p = some r→∃ r',blkL f tg (shSs h.length l) q = some r'∧r'.1 = (r.1.1,shSs h.length r.1.2)∧ShP h r.2 r'.2)∧(∀ p q r,ShP h p q→stF f p = some r→∃ r',stF f q = some r'∧r'.1 = shS h.length r.1∧ShP h r.2 r'.2)
 | 0=>⟨fun _ _ _ _ _ _ h=>(by rw [blkL] at h; cases h),fun _ _ _ _ h=>(by rw [stF] at h; cases h)⟩
 | f + 1=>by
  obtain ⟨i1,i2⟩ := st_sh f;refine ⟨fun tg l p q r H hr=>?_,fun p q r H hr=>?_⟩
  ·rw [blkL] at hr ⊢;rw [H.err,H.isG];split at hr
   ·rename_i c;rw [if_pos c];obtain ⟨x,h1,h2⟩ := za2 hr;obtain ⟨x',e1,e2,e3⟩ := i2 _ _ _ H h1;obtain ⟨y',g1,g2,g3⟩ := i1 _ _ _ _ _ e3 h2;rw [zsi,← e2] at g1;exact ⟨y',bndI ⟨x',e1,g1⟩,g2,g3⟩
   ·rename_i c;rw [if_neg c];injection hr with hr;subst hr;exact ⟨_,rfl,rfl,H.sign [125]⟩
  ·obtain ⟨o1,o2⟩ := H.oneF stL 0;rw [stF] at hr ⊢;rw [H.isW,o1,H.tat,o2.s];split at hr
   ·rename_i c;rw [if_pos c];obtain ⟨x,h1,h2⟩ := za2 hr;obtain ⟨x',e1,e2,e3⟩ := (ex_sh f).1 _ _ _ _ H.opn.adv h1;obtain ⟨b,h3,h4⟩ := za2 h2;obtain ⟨b',g1,g2,g3⟩ := i1 _ _ _ _ _ (e3.sign [123]) h3;split at h4
    ·rename_i c2;obtain ⟨c',h5,h6⟩ := za2 h4;obtain ⟨d',k1,k2,k3⟩ := i1 _ _ _ _ _ (g3.adv.sign [123]) h5;injection h6 with h6;subst h6;refine ⟨(.mk 6 [] [x'.1] b'.1.1 b'.1.2 d'.1.1 d'.1.2 (p.tat + h.length),d'.2.cls),bndI ⟨x',e1,bndI ⟨b',g1,?_⟩⟩,?_,k3.cls⟩
     ·rw [g3.isW,if_pos c2];exact bndI ⟨d',k1,rfl⟩
     ·rw [e2,g2,k2];rfl
    ·rename_i c2;injection h4 with h4;subst h4;refine ⟨(.mk 6 [] [x'.1] b'.1.1 b'.1.2 true [] (p.tat + h.length),b'.2.cls),bndI ⟨x',e1,bndI ⟨b',g1,?_⟩⟩,?_,g3.cls⟩
     ·rw [g3.isW,if_neg c2]
     ·rw [e2,g2];rfl
   ·rename_i c;rw [if_neg c];split at hr
    ·rename_i c2;rw [if_pos c2];injection hr with hr;subst hr;exact ⟨_,rfl,rfl,o2.name.sign [59]⟩
    ·rename_i c2;rw [if_neg c2];obtain ⟨x,h1,h2⟩ := za2 hr;obtain ⟨x',e1,e2,e3⟩ := (ex_sh f).1 _ _ _ _ (o2.name.sign [61]) h1;injection h2 with h2;subst h2;exact ⟨_,bndI ⟨x',e1,rfl⟩,by rw [e2]; rfl,e3.sign [59]⟩
theorem memF_sh {f : Nat} {t : Typ} {r : Typ × PS} (H : ShP h p q) (hr : memF f t p = some r) : ∃ r',memF f (shT h.length t) q = some r'∧r'.1 = shT h.length r.1∧ShP h r.2 r'.2:=by
 obtain ⟨o1,o2⟩ := H.oneF memW 0;have o3 := o2.name;obtain ⟨o4,o5⟩ := o3.oneF regW 0;unfold memF at hr ⊢;rw [o1,o2.s,o2.tat,o4];split at hr
 ·rename_i c; rw [if_pos c]; injection hr with hr; subst hr;refine ⟨_,rfl,?_,o5.sign [59]⟩;simp only [shT,mpA,List.map_singleton];rfl
 rename_i c; rw [if_neg c];split at hr
 ·rename_i c; rw [if_pos c]; injection hr with hr; subst hr;refine ⟨_,rfl,?_,o3.sign [59]⟩;simp only [shT,mpA,List.map_singleton];rfl
 rename_i c; rw [if_neg c];split at hr
 ·rename_i c; rw [if_pos c];obtain ⟨a,h1,h2⟩ := za2 hr;obtain ⟨b,h3,h4⟩ := za2 h2;injection h4 with h4; subst h4;obtain ⟨a',e1,e2,e3⟩ := zwk o3 h1;obtain ⟨b',g1,g2,g3⟩ := (st_sh f).1 _ _ _ _ _ (e3.sign [123]) h3;refine ⟨_,bndI ⟨a',e1,bndI ⟨b',g1,rfl⟩⟩,?_,g3⟩;simp only [shT,mpA,List.map_singleton,e2,g2];rfl
 rename_i c; rw [if_neg c];split at hr
 ·rename_i c; rw [if_pos c];obtain ⟨a,h1,h2⟩ := za2 hr;obtain ⟨b,h3,h4⟩ := za2 h2;injection h4 with h4; subst h4;obtain ⟨a',e1,e2,e3⟩ := zwk o3 h1;obtain ⟨b',g1,g2,g3⟩ := (ex_sh f).1 _ _ _ _ (e3.sign [61]) h3;refine ⟨_,bndI ⟨a',e1,bndI ⟨b',g1,rfl⟩⟩,?_,g3.sign [59]⟩;simp only [shT,mpA,List.map_singleton,e2,g2];rfl
 rename_i c; rw [if_neg c];split at hr
 ·rename_i c; rw [if_pos c]; injection hr with hr; subst hr;refine ⟨_,rfl,?_,o3.sign [59]⟩;simp only [shT,mpA,List.map_singleton];rfl
 rename_i c; rw [if_neg c];injection hr with hr; subst hr;exact ⟨_,rfl,rfl,o2⟩
theorem tdL_sh : ∀ f t p q r,ShP h p q→tdL f t p = some r→∃ r',tdL f (shT h.length t) q = some r'∧r'.1 = shT h.length r.1∧ShP h r.2 r'.2
 | 0,_,_,_,_,_,hr=>by cases hr
 | f + 1,t,p,q,r,H,hr=>by
  unfold tdL at hr ⊢;rw [H.err,H.isG];split at hr
  ·rename_i c;rw [if_pos c];obtain ⟨x,h1,h2⟩ := za2 hr;obtain ⟨x',e1,e2,e3⟩ := memF_sh H h1;obtain ⟨y',g1,g2,g3⟩ := tdL_sh f _ _ _ _ e3 h2;rw [← e2] at g1;exact ⟨y',bndI ⟨x',e1,g1⟩,g2,g3⟩
  ·rename_i c;rw [if_neg c];injection hr with hr;subst hr;exact ⟨_,rfl,rfl,H.sign [125]⟩
theorem tdF_sh {f : Nat} {r : Typ × PS} (H : ShP h p q) (hr : tdF f p = some r) : ∃ r',tdF f q = some r'∧r'.1 = shT h.length r.1∧ShP h r.2 r'.2:=by
 obtain ⟨r',e1,e2,e3⟩ := tdL_sh f _ _ _ _ (H.adv.name.sign [123]) hr;refine ⟨r',?_,e2,e3⟩;unfold tdF;rw [H.adv.s,H.adv.tat];exact e1
theorem paL_sh : ∀ f tg l p q r,ShP h p q→paL f tg l p = some r→∃ r',paL f tg (l.map (shT h.length)) q = some r'∧r'.1 = (r.1.1,r.1.2.map (shT h.length))∧ShP h r.2 r'.2
 | 0,_,_,_,_,_,_,hr=>by cases hr
 | f + 1,tg,l,p,q,r,H,hr=>by
  unfold paL at hr ⊢;rw [H.isW];split at hr
  ·rename_i c;rw [if_pos c];obtain ⟨x,h1,h2⟩ := za2 hr;obtain ⟨x',e1,e2,e3⟩ := tdF_sh H h1;obtain ⟨y',g1,g2,g3⟩ := paL_sh f _ _ _ _ _ e3 h2;rw [mpA,List.map_singleton,← e2] at g1;exact ⟨y',bndI ⟨x',e1,g1⟩,g2,g3⟩
  ·rename_i c;rw [if_neg c];injection hr with hr;subst hr;exact ⟨_,rfl,rfl,H⟩
end
section
open Go Go.Vai
mutual
def Stm.sz : Stm→Nat
 | .mk _ _ _ _ th _ el _=>1 + szL th + szL el
def szL : List Stm→Nat
 | []=>0
 | e :: l=>e.sz + szL l
end
structure Cn where
 least : Int
 most : Int
 w : Bool
 o : Bool
mutual
def Stm.cn : Stm→Cn
 | .mk k _ _ _ th _ el _=>if k = 6 then ⟨if (cnL el).least < (cnL th).least then (cnL el).least else (cnL th).least,if (cnL th).most < (cnL el).most then (cnL el).most else (cnL th).most,(cnL th).w || (cnL el).w,(cnL th).o || (cnL el).o⟩ else ⟨1,1,decide (k = 1),!decide (k = 1)⟩
def cnL : List Stm→Cn
 | []=>⟨0,0,false,false⟩
 | e :: l=>⟨e.cn.least + (cnL l).least,e.cn.most + (cnL l).most,e.cn.w || (cnL l).w,e.cn.o || (cnL l).o⟩
end
structure Pa where
 a : Int
 b : Int
 c : Int
 d : Int
mutual
def Stm.pa : Stm→Pa
 | .mk k _ _ _ th _ el _=>if k = 1 then ⟨1,1,1,1⟩ else if k = 6 then ⟨if (paS el).a < (paS th).a then (paS el).a else (paS th).a,if (paS th).b < (paS el).b then (paS el).b else (paS th).b,if (paS el).c < (paS th).c then (paS el).c else (paS th).c,if (paS th).d < (paS el).d then (paS el).d else (paS th).d⟩ else ⟨1,1,0,0⟩
def paS : List Stm→Pa
 | []=>⟨0,0,0,0⟩
 | e :: l=>⟨e.pa.a + (paS l).a,e.pa.b + (paS l).b,e.pa.c + (paS l).c,e.pa.d + (paS l).d⟩
end
structure Both (n : Nat) (c : Cn) (p : Pa) : Prop where
 a : p.a = c.least
 b : p.b = c.most
 l0 : 0 ≤ c.least
 lm : c.least ≤ c.most
 mn : c.most ≤ n
 c0 : 0 ≤ p.c
 cd : p.c ≤ p.d
 db : p.d ≤ p.b
 w : c.w = false ↔ p.d = 0
 o1 : c.o = false→p.c = p.a∧p.d = p.b
 o2 : c.o = true→p.c + 1 ≤ p.b
mutual
theorem both_stm : ∀ e : Stm,Both e.sz e.cn e.pa
 | .mk k s v t1 th t2 el a=>by
  have h1 := zcs th;have h2 := zcs el;rw [Stm.sz,Stm.cn,Stm.pa];by_cases k1 : k = 1
  ·subst k1;rw [if_neg (by decide),if_pos rfl];exact ⟨rfl,rfl,by simp,by simp,by simp; omega,by simp,by simp,by simp,by simp,by simp,by simp⟩
  rw [if_neg k1];by_cases k6 : k = 6
  ·rw [if_pos k6,if_pos k6];obtain ⟨a1,b1,l1,m1,n1,c1,d1,e1,w1,o1,p1⟩ := h1;obtain ⟨a2,b2,l2,m2,n2,c2,d2,e2,w2,o2,p2⟩ := h2;refine ⟨?_,?_,?_,?_,?_,?_,?_,?_,?_,?_,?_⟩
   ·simp only [a1,a2]
   ·simp only [b1,b2]
   ·simp only; split <;> omega
   ·simp only; split <;> split <;> omega
   ·simp only; split <;> omega
   ·simp only; split <;> omega
   ·simp only; split <;> split <;> omega
   ·simp only; split <;> split <;> omega
   ·simp only [Bool.or_eq_false_iff,w1,w2];constructor
    ·rintro ⟨x,y⟩; split <;> omega
    ·intro h; split at h <;> omega
   ·simp only [Bool.or_eq_false_iff];rintro ⟨x,y⟩;have q1 := o1 x;have q2 := o2 y;rw [q1.1,q1.2,q2.1,q2.2];exact ⟨rfl,rfl⟩
   ·simp only [Bool.or_eq_true];rintro (x | x)
    ·have q1 := p1 x; split <;> split <;> omega
    ·have q1 := p2 x; split <;> split <;> omega
  ·rw [if_neg k6,if_neg k6];simp only [k1,decide_false,bnF];exact ⟨rfl,rfl,by simp,by simp,by simp; omega,by simp,by simp,by simp,by simp,by simp,by simp⟩
theorem zcs : ∀ l : List Stm,Both (szL l) (cnL l) (paS l)
 | []=>by
  rw [szL,cnL,paS];exact ⟨rfl,rfl,by simp,by simp,by simp,by simp,by simp,by simp,by simp,by simp,by simp⟩
 | e :: l=>by
  obtain ⟨a1,b1,l1,m1,n1,c1,d1,e1,w1,o1,p1⟩ := both_stm e;obtain ⟨a2,b2,l2,m2,n2,c2,d2,e2,w2,o2,p2⟩ := zcs l;rw [szL,cnL,paS];refine ⟨?_,?_,?_,?_,?_,?_,?_,?_,?_,?_,?_⟩
  ·simp only [a1,a2]
  ·simp only [b1,b2]
  ·simp only; omega
  ·simp only; omega
  ·simp only; omega
  ·simp only; omega
  ·simp only; omega
  ·simp only; omega
  ·simp only [Bool.or_eq_false_iff,w1,w2]; omega
  ·simp only [Bool.or_eq_false_iff];rintro ⟨x,y⟩;have q1 := o1 x;have q2 := o2 y;omega
  ·simp only [Bool.or_eq_true];rintro (x | x)
   ·have q1 := p1 x; omega
   ·have q1 := p2 x; omega
end
def clsC (c : Cn) : Int := if c.least = 1∧c.most = 1∧c.o = false then 1 else if 1 ≤ c.least∧c.w = false then 2 else 0
theorem zic : ∀ a b : List Stm,szL (a ++ b) = szL a + szL b
 | [],b=>by rw [List.nil_append,szL,Nat.zero_add]
 | e :: a,b=>by rw [List.cons_append,szL,szL,zic a b,Nat.add_assoc]
theorem zwg : ∀ f : Nat,(∀ tg l p r,Ok p→blkL f tg l p = some r→szL r.1.2 + mu r.2 ≤ szL l + mu p)∧(∀ p r,Ok p→p.err = 0→stF f p = some r→r.1.sz + mu r.2 ≤ mu p)
 | 0=>⟨fun _ _ _ _ _ h=>(by rw [blkL] at h; cases h),fun _ _ _ _ h=>(by rw [stF] at h; cases h)⟩
 | f + 1=>by
  obtain ⟨i1,i2⟩ := zwg f;obtain ⟨j1,j2⟩ := zdf f;refine ⟨fun tg l p r hO h=>?_,fun p r hO h0 h=>?_⟩
  ·rw [blkL] at h;split at h
   ·rename_i hc;obtain ⟨x,h1,h2⟩ := za2 h;have s1 := i2 _ _ hO hc.1 h1;have s2 := i1 _ _ _ _ (j2 _ _ hO h1).1.ok h2;rw [zic,szL,szL] at s2;omega
   ·injection h with h; subst h;have := (Keep.sign hO [125]).mu;simp only;omega
  ·have lt := ((zdf (f + 1)).2 p r hO h).2 h0;rw [stF] at h;split at h
   ·rename_i hw;obtain ⟨a1,a2,a3,a4⟩ := zc9 hO (by rw [zbs hw]; decide);obtain ⟨x,h1,h2⟩ := za2 h;have k1 := (zbp f).1 _ _ _ a1 h1;obtain ⟨b,h3,h4⟩ := za2 h2;have k2 := k1.trans (Keep.sign k1.ok [123]);have s1 := i1 _ _ _ _ k2.ok h3;have k3 := k2.trans (j1 _ _ _ _ k2.ok h3);have m2 := k2.mu;rw [szL] at s1;split at h4
    ·obtain ⟨c,h5,h6⟩ := za2 h4;have k4 := Keep.adv k3.ok;have k5 := k4.trans (Keep.sign k4.ok [123]);have s2 := i1 _ _ _ _ k5.ok h5;have m5 := k5.mu;rw [szL] at s2;injection h6 with h6;subst h6;show (Stm.mk _ _ _ _ _ _ _ _).sz + mu c.2 ≤ mu p;rw [Stm.sz];omega
    ·injection h4 with h4;subst h4;show (Stm.mk _ _ _ _ _ _ _ _).sz + mu b.2 ≤ mu p;rw [Stm.sz,szL];omega
   ·split at h
    ·injection h with h;subst h;show (Stm.mk _ _ _ _ _ _ _ _).sz + _ ≤ mu p;rw [Stm.sz,szL];exact by have := lt; simp only at this ⊢; omega
    ·obtain ⟨x,h1,h2⟩ := za2 h;injection h2 with h2;subst h2;show (Stm.mk _ _ _ _ _ _ _ _).sz + _ ≤ mu p;rw [Stm.sz,szL];exact by have := lt; simp only at this ⊢; omega
theorem blkF_sz {f : Nat} {p : PS} {r : (Bool × List Stm) × PS} (hO : Ok p) (h : blkF f p = some r) : szL r.1.2 ≤ 8002:=by
 have k0 := Keep.sign hO [123];have := (zwg f).1 _ _ _ _ k0.ok h;have := zj5 k0.ok;rw [szL] at *;omega
end
section
open Go Go.Vai
theorem zmj : ∀ f : Nat,(∀ n p r,binF f n p = some r→binF (f + 1) n p = some r)∧(∀ n e p r,binL f n e p = some r→binL (f + 1) n e p = some r)∧(∀ p r,unF f p = some r→unF (f + 1) p = some r)∧(∀ p r,priF f p = some r→priF (f + 1) p = some r)
 | 0=>⟨fun _ _ _ h=>(by rw [binF] at h; cases h),fun _ _ _ _ h=>(by rw [binL] at h; cases h),fun _ _ h=>(by rw [unF] at h; cases h),fun _ _ h=>(by rw [priF] at h; cases h)⟩
 | f + 1=>by
  obtain ⟨i1,i2,i3,i4⟩ := zmj f;refine ⟨fun n p r h=>?_,fun n e p r h=>?_,fun p r h=>?_,fun p r h=>?_⟩
  ·rw [binF] at h;rw [binF];split at h
   ·rename_i hn;rw [if_pos hn]; exact i3 _ _ h
   ·rename_i hn;rw [if_neg hn];obtain ⟨x,h1,h2⟩ := za2 h;exact bndI ⟨x,i1 _ _ _ h1,i2 _ _ _ _ h2⟩
  ·rw [binL] at h;rw [binL];split at h
   ·rename_i hn;rw [if_pos hn];obtain ⟨x,h1,h2⟩ := za2 h;refine bndI ⟨x,i1 _ _ _ h1,?_⟩;split at h2
    ·rename_i h3; rw [if_pos h3]; exact h2
    ·rename_i h3; rw [if_neg h3]; exact i2 _ _ _ _ h2
   ·rename_i hn;rw [if_neg hn]; exact h
  ·rw [unF] at h;rw [unF];split at h
   ·rename_i hn;rw [if_pos hn];obtain ⟨x,h1,h2⟩ := za2 h;exact bndI ⟨x,i3 _ _ h1,h2⟩
   ·rename_i hn;rw [if_neg hn]; exact i4 _ _ h
  ·rw [priF] at h;rw [priF];split at h
   ·rename_i c; rw [if_pos c]; exact h
   rename_i c; rw [if_neg c];split at h
   ·rename_i c; rw [if_pos c]; exact h
   rename_i c; rw [if_neg c];split at h
   ·rename_i c; rw [if_pos c]; exact h
   rename_i c; rw [if_neg c];split at h
   ·rename_i c; rw [if_pos c]; exact h
   rename_i c; rw [if_neg c];split at h
   ·rename_i c; rw [if_pos c]; exact h
   rename_i c; rw [if_neg c];split at h
   ·rename_i c; rw [if_pos c];obtain ⟨x,h1,h2⟩ := za2 h;exact bndI ⟨x,i1 _ _ _ h1,h2⟩
   ·rename_i c; rw [if_neg c]; exact h
theorem zgq {α : Type} {F : Nat→Option α} (h : ∀ f r,F f = some r→F (f + 1) = some r) {f g : Nat} (hfg : f ≤ g) {r : α} (hr : F f = some r) : F g = some r:=by
 induction g with
 | zero =>
  have e0 : f = 0 := (by omega); subst e0; exact hr
 | succ g ih =>
  by_cases he : f = g + 1
  ·subst he; exact hr
  ·exact h g r (ih (by omega))
theorem zg7 {n : Nat} {p : PS} {f g : Nat} (hfg : f ≤ g) {r : Ex × PS} (hr : binF f n p = some r) : binF g n p = some r := zgq (F := fun f=>binF f n p) (fun f r h=>(zmj f).1 n p r h) hfg hr
theorem zoc {n : Nat} {e : Ex} {p : PS} {f g : Nat} (hfg : f ≤ g) {r : Ex × PS} (hr : binL f n e p = some r) : binL g n e p = some r := zgq (F := fun f=>binL f n e p) (fun f r h=>(zmj f).2.1 n e p r h) hfg hr
theorem zu8 : zh2 [] = 0 := by decide
theorem zn1 {p : PS} (h : Ok p) {n : Nat} (hn : 1 ≤ n) (hl : zh2 p.s = (n : Int)) : p.kind ≠ 0 := fun h0=>by
 rw [h.s0 h0,zu8] at hl;omega
theorem ex_tot : ∀ m : Nat,(∀ p,Ok p→mu p ≤ m→(∃ f r,priF f p = some r)∧(∃ f r,unF f p = some r)∧(∀ n e,1 ≤ n→n ≤ 5→∃ f r,binL f n e p = some r)∧(∀ n,1 ≤ n→n ≤ 6→∃ f r,binF f n p = some r)):=by
 intro m
 induction m using Nat.strongRecOn with
 | _ m ih =>
 have pri : ∀ p,Ok p→mu p ≤ m→∃ f r,priF f p = some r:=by
  intro p hO hm;by_cases hg : p.isG [40] = true
  ·obtain ⟨a1,a2,a3,a4⟩ := zc9 hO (by rw [zc0 hg]; decide);obtain ⟨f,r,h⟩ := (ih (mu p.opn.adv) (by omega) _ a1 (Nat.le_refl _)).2.2.2 1 (by decide) (by decide);by_cases c1 : p.kind = 2
   ·exact ⟨1,_,by rw [priF,if_pos c1]⟩
   by_cases c2 : p.kind = 3
   ·exact ⟨1,_,by rw [priF,if_neg c1,if_pos c2]⟩
   by_cases c3 : p.isW zwc = true
   ·exact ⟨1,_,by rw [priF,if_neg c1,if_neg c2,if_pos c3]⟩
   by_cases c4 : p.isW zow = true
   ·exact ⟨1,_,by rw [priF,if_neg c1,if_neg c2,if_neg c3,if_pos c4]⟩
   by_cases c5 : p.isW zwo = true
   ·exact ⟨1,_,by rw [priF,if_neg c1,if_neg c2,if_neg c3,if_neg c4,if_pos c5]⟩
   exact ⟨f + 1,_,by rw [priF,if_neg c1,if_neg c2,if_neg c3,if_neg c4,if_neg c5,if_pos hg,h]; rfl⟩
  ·by_cases c1 : p.kind = 2
   ·exact ⟨1,_,by rw [priF,if_pos c1]⟩
   by_cases c2 : p.kind = 3
   ·exact ⟨1,_,by rw [priF,if_neg c1,if_pos c2]⟩
   by_cases c3 : p.isW zwc = true
   ·exact ⟨1,_,by rw [priF,if_neg c1,if_neg c2,if_pos c3]⟩
   by_cases c4 : p.isW zow = true
   ·exact ⟨1,_,by rw [priF,if_neg c1,if_neg c2,if_neg c3,if_pos c4]⟩
   by_cases c5 : p.isW zwo = true
   ·exact ⟨1,_,by rw [priF,if_neg c1,if_neg c2,if_neg c3,if_neg c4,if_pos c5]⟩
   exact ⟨1,_,by rw [priF,if_neg c1,if_neg c2,if_neg c3,if_neg c4,if_neg c5,if_neg hg]⟩
 have un : ∀ p,Ok p→mu p ≤ m→∃ f r,unF f p = some r:=by
  intro p hO hm;by_cases hg : p.isG [45] = true ∨ p.isG [33] = true
  ·obtain ⟨a1,a2,a3,a4⟩ := zc9 hO (by rcases hg with hg | hg <;> rw [zc0 hg] <;> decide);obtain ⟨f,r,h⟩ := (ih (mu p.opn.adv) (by omega) _ a1 (Nat.le_refl _)).2.1;exact ⟨f + 1,_,by rw [unF,if_pos hg,h]; rfl⟩
  ·obtain ⟨f,r,h⟩ := pri p hO hm;exact ⟨f + 1,r,by rw [unF,if_neg hg]; exact h⟩
 have lp : ∀ p,Ok p→mu p ≤ m→∀ n e,1 ≤ n→n ≤ 5→∃ f r,binL f n e p = some r:=by
  intro p hO hm n e h1 h5;by_cases hg : p.kind ≠ 3∧zh2 p.s = (n : Int)
  ·have hlt := (PS.adv_mu hO).2 (zn1 hO h1 hg.2);have hA := PS.adv_ok hO;obtain ⟨f,r,h⟩ := (ih (mu p.adv) (by omega) _ hA (Nat.le_refl _)).2.2.2 (n + 1) (by omega) (by omega);by_cases h3 : n = 3
   ·exact ⟨f + 1,_,by rw [binL,if_pos hg,h]; simp only [obS,if_pos h3]; rfl⟩
   ·have kr := (zbp f).1 _ _ _ hA h;have := kr.mu;obtain ⟨f2,r2,h2⟩ := (ih (mu r.2) (by omega) _ kr.ok (Nat.le_refl _)).2.2.1 n (.mk 7 0 p.s false [e,r.1] p.tat) h1 h5;refine ⟨f + f2 + 1,r2,?_⟩;rw [binL,if_pos hg,zg7 (by omega) h];simp only [obS,if_neg h3];exact zoc (by omega) h2
  ·exact ⟨1,_,by rw [binL,if_neg hg]⟩
 have bn : ∀ k,∀ p,Ok p→mu p ≤ m→∀ n,1 ≤ n→n + k = 6→∃ f r,binF f n p = some r:=by
  intro k
  induction k with
  | zero =>
   intro p hO hm n h1 h6;obtain ⟨f,r,h⟩ := un p hO hm;exact ⟨f + 1,r,by rw [binF,if_pos (by omega)]; exact h⟩
  | succ k ihk =>
   intro p hO hm n h1 h6;obtain ⟨f,r,h⟩ := ihk p hO hm (n + 1) (by omega) (by omega);have kr := (zbp f).1 _ _ _ hO h;have := kr.mu;obtain ⟨f2,r2,h2⟩ := lp r.2 kr.ok (by omega) n r.1 h1 (by omega);exact ⟨f + f2 + 1,r2,by rw [binF,if_neg (by omega),zg7 (by omega) h]; exact zoc (by omega) h2⟩
 exact fun p hO hm=>⟨pri p hO hm,un p hO hm,lp p hO hm,fun n h1 h6=>bn (6 - n) p hO hm n h1 (by omega)⟩
theorem zqw {p : PS} (hO : Ok p) : ∃ f r,binF f 1 p = some r := (ex_tot (mu p) p hO (Nat.le_refl _)).2.2.2 1 (by decide) (by decide)
theorem zqf : ∀ f : Nat,(∀ tg l p r,blkL f tg l p = some r→blkL (f + 1) tg l p = some r)∧(∀ p r,stF f p = some r→stF (f + 1) p = some r)
 | 0=>⟨fun _ _ _ _ h=>(by rw [blkL] at h; cases h),fun _ _ h=>(by rw [stF] at h; cases h)⟩
 | f + 1=>by
  obtain ⟨i1,i2⟩ := zqf f;have ib := fun n p r=>(zmj f).1 n p r;refine ⟨fun tg l p r h=>?_,fun p r h=>?_⟩
  ·rw [blkL] at h;rw [blkL];split at h
   ·rename_i c;rw [if_pos c];obtain ⟨x,h1,h2⟩ := za2 h;exact bndI ⟨x,i2 _ _ h1,i1 _ _ _ _ h2⟩
   ·rename_i c; rw [if_neg c]; exact h
  ·rw [stF] at h;rw [stF];split at h
   ·rename_i c;rw [if_pos c];obtain ⟨x,h1,h2⟩ := za2 h;obtain ⟨b,h3,h4⟩ := za2 h2;refine bndI ⟨x,ib _ _ _ h1,bndI ⟨b,i1 _ _ _ _ h3,?_⟩⟩;split at h4
    ·rename_i c; rw [if_pos c];obtain ⟨y,h5,h6⟩ := za2 h4;exact bndI ⟨y,i1 _ _ _ _ h5,h6⟩
    ·rename_i c; rw [if_neg c]; exact h4
   ·rename_i c; rw [if_neg c];split at h
    ·rename_i c; rw [if_pos c]; exact h
    ·rename_i c; rw [if_neg c];obtain ⟨x,h1,h2⟩ := za2 h;exact bndI ⟨x,ib _ _ _ h1,h2⟩
theorem zhc {tg : Bool} {l : List Stm} {p : PS} {f g : Nat} (hfg : f ≤ g) {r : (Bool × List Stm) × PS} (hr : blkL f tg l p = some r) : blkL g tg l p = some r := zgq (F := fun f=>blkL f tg l p) (fun f r h=>(zqf f).1 tg l p r h) hfg hr
theorem st_mono {p : PS} {f g : Nat} (hfg : f ≤ g) {r : Stm × PS} (hr : stF f p = some r) : stF g p = some r := zgq (F := fun f=>stF f p) (fun f r h=>(zqf f).2 p r h) hfg hr
theorem st_tot : ∀ m : Nat,(∀ p,Ok p→mu p ≤ m→(∃ f r,stF f p = some r)∧(∀ tg l,∃ f r,blkL f tg l p = some r)):=by
 intro m
 induction m using Nat.strongRecOn with
 | _ m ih =>
 have st : ∀ p,Ok p→mu p ≤ m→∃ f r,stF f p = some r:=by
  intro p hO hm;by_cases hw : p.isW wIf = true
  ·obtain ⟨a1,a2,a3,a4⟩ := zc9 hO (by rw [zbs hw]; decide);obtain ⟨f1,x,h1⟩ := zqw a1;have k1 := (zbp f1).1 _ _ _ a1 h1;have k2 := k1.trans (Keep.sign k1.ok [123]);have m2 := k2.mu;obtain ⟨f2,b,h2⟩ := (ih (mu (x.2.sign [123])) (by omega) _ k2.ok (Nat.le_refl _)).2 true [];have k3 := k2.trans ((zdf f2).1 _ _ _ _ k2.ok h2);by_cases he : b.2.isW wElse = true
   ·have k4 := k3.trans (Keep.adv k3.ok);have k5 := k4.trans (Keep.sign k4.ok [123]);have m5 := k5.mu;obtain ⟨f3,c,h3⟩ := (ih (mu (b.2.adv.sign [123])) (by omega) _ k5.ok (Nat.le_refl _)).2 true [];refine ⟨f1 + f2 + f3 + 1,?_⟩;rw [stF,if_pos hw,zg7 (by omega) h1];simp only [obS];rw [zhc (by omega) h2];simp only [obS];rw [if_pos he,zhc (by omega) h3];exact ⟨_,rfl⟩
   ·refine ⟨f1 + f2 + 1,?_⟩;rw [stF,if_pos hw,zg7 (by omega) h1];simp only [obS];rw [zhc (by omega) h2];simp only [obS];rw [if_neg he];exact ⟨_,rfl⟩
  ·by_cases h5 : (p.oneF stL 0).1 = 5
   ·exact ⟨1,_,by rw [stF,if_neg hw,if_pos h5]⟩
   ·have k1 := Keep.oneF hO stL 0;have k2 := k1.trans (Keep.name k1.ok);have k3 := Keep.sign k2.ok [61];obtain ⟨f1,x,h1⟩ := zqw k3.ok;exact ⟨f1 + 1,_,by rw [stF,if_neg hw,if_neg h5,h1]; rfl⟩
 refine fun p hO hm=>⟨st p hO hm,fun tg l=>?_⟩;by_cases hc : p.err = 0∧p.isG [125] = false
 ·obtain ⟨f1,x,h1⟩ := st p hO hm;obtain ⟨k1,lt⟩ := (zdf f1).2 _ _ hO h1;have lt := lt hc.1;obtain ⟨f2,y,h2⟩ := (ih (mu x.2) (by omega) _ k1.ok (Nat.le_refl _)).2 false (l ++ [x.1]);exact ⟨f1 + f2 + 1,y,by rw [blkL,if_pos hc,st_mono (by omega) h1]; exact zhc (by omega) h2⟩
 ·exact ⟨1,_,by rw [blkL,if_neg hc]⟩
theorem blkF_tot {p : PS} (hO : Ok p) : ∃ f r,blkF f p = some r := (st_tot _ _ (Keep.sign hO [123]).ok (Nat.le_refl _)).2 true []
theorem zoy {p : PS} {f g : Nat} (hfg : f ≤ g) {r : (Bool × List Stm) × PS} (hr : blkF f p = some r) : blkF g p = some r := zhc hfg hr
theorem zon : ∀ f l p r,pasL f l p = some r→pasL (f + 1) l p = some r
 | 0,_,_,_,h=>by cases h
 | f + 1,l,p,r,h=>by
  rw [pasL] at h;rw [pasL];split at h
  ·rename_i c; rw [if_pos c]; exact zon f _ _ _ h
  ·rename_i c; rw [if_neg c]; exact h
theorem pasL_tot : ∀ m : Nat,∀ p l,Ok p→mu p ≤ m→∃ f r,pasL f l p = some r:=by
 intro m
 induction m using Nat.strongRecOn with
 | _ m ih =>
 intro p l hO hm;by_cases hg : p.isG [44] = true
 ·have k0 := Keep.adv hO;have lt := (PS.adv_mu hO).2 (by rw [zc0 hg]; decide);have k1 := zcd k0.ok;have := k1.mu;obtain ⟨f,r,h⟩ := ih (mu (parF p.adv).2) (by omega) _ (l ++ [(parF p.adv).1]) k1.ok (Nat.le_refl _);exact ⟨f + 1,r,by rw [pasL,if_pos hg]; exact h⟩
 ·exact ⟨1,_,by rw [pasL,if_neg hg]⟩
theorem zri {p : PS} (hO : Ok p) : ∃ f r,pasF f p = some r:=by
 have k0 := Keep.sign hO [40];by_cases hg : (p.sign [40]).isG [41] = true
 ·exact ⟨0,_,by rw [pasF,if_pos hg]⟩
 ·obtain ⟨f,r,h⟩ := pasL_tot _ _ [(parF (p.sign [40])).1] (zcd k0.ok).ok (Nat.le_refl _);exact ⟨f,_,by rw [pasF,if_neg hg,h]; rfl⟩
theorem zhp {p : PS} {f g : Nat} (hfg : f ≤ g) {r : (Bool × List Par) × PS} (hr : pasF f p = some r) : pasF g p = some r :=
 zgq (F := fun f=>pasF f p) (fun f r h=>by
  simp only [pasF] at h ⊢;split at h
  ·rename_i c; rw [if_pos c]; exact h
  ·rename_i c; rw [if_neg c];obtain ⟨x,h1,h2⟩ := Option.map_eq_some_iff.1 h;exact Option.map_eq_some_iff.2 ⟨x,zon _ _ _ _ h1,h2⟩) hfg hr
theorem memF_tot (t : Typ) {p : PS} (hO : Ok p) : ∃ f r,memF f t p = some r:=by
 have k1 := Keep.oneF hO memW 0;have k2 := Keep.name k1.ok;unfold memF;by_cases e1 : (p.oneF memW 0).1 = 1
 ·exact ⟨0,_,by rw [if_pos e1]⟩
 by_cases e2 : (p.oneF memW 0).1 = 2 ∨ (p.oneF memW 0).1 = 3 ∨ (p.oneF memW 0).1 = 4 ∨ (p.oneF memW 0).1 = 5
 ·exact ⟨0,_,by rw [if_neg e1,if_pos e2]⟩
 by_cases e6 : (p.oneF memW 0).1 = 6
 ·obtain ⟨f1,a,h1⟩ := zri k2.ok;obtain ⟨f2,b,h2⟩ := blkF_tot (zbw k2.ok h1).ok;refine ⟨f1 + f2,?_⟩;rw [if_neg e1,if_neg e2,if_pos e6,zhp (by omega) h1];simp only [obS];rw [zoy (by omega) h2];exact ⟨_,rfl⟩
 by_cases e7 : (p.oneF memW 0).1 = 7
 ·obtain ⟨f1,a,h1⟩ := zri k2.ok;have k3 := zbw k2.ok h1;obtain ⟨f2,b,h2⟩ := zqw (Keep.sign k3.ok [61]).ok;refine ⟨f1 + f2,?_⟩;rw [if_neg e1,if_neg e2,if_neg e6,if_pos e7,zhp (by omega) h1];simp only [obS];rw [zg7 (by omega) h2];exact ⟨_,rfl⟩
 by_cases e8 : (p.oneF memW 0).1 = 8
 ·exact ⟨0,_,by rw [if_neg e1,if_neg e2,if_neg e6,if_neg e7,if_pos e8]⟩
 ·exact ⟨0,_,by rw [if_neg e1,if_neg e2,if_neg e6,if_neg e7,if_neg e8]⟩
theorem zpc {t : Typ} {p : PS} {f g : Nat} (hfg : f ≤ g) {r : Typ × PS} (hr : memF f t p = some r) : memF g t p = some r:=by
 unfold memF at hr ⊢;split at hr
 ·rename_i c; rw [if_pos c]; exact hr
 rename_i c; rw [if_neg c];split at hr
 ·rename_i c; rw [if_pos c]; exact hr
 rename_i c; rw [if_neg c];split at hr
 ·rename_i c; rw [if_pos c];obtain ⟨a,h1,h2⟩ := za2 hr;obtain ⟨b,h3,h4⟩ := za2 h2;exact bndI ⟨a,zhp hfg h1,bndI ⟨b,zoy hfg h3,h4⟩⟩
 rename_i c; rw [if_neg c];split at hr
 ·rename_i c; rw [if_pos c];obtain ⟨a,h1,h2⟩ := za2 hr;obtain ⟨b,h3,h4⟩ := za2 h2;exact bndI ⟨a,zhp hfg h1,bndI ⟨b,zg7 hfg h3,h4⟩⟩
 rename_i c; rw [if_neg c];exact hr
theorem zs3 : ∀ f t p r,tdL f t p = some r→tdL (f + 1) t p = some r
 | 0,_,_,_,h=>by cases h
 | f + 1,t,p,r,h=>by
  rw [tdL] at h;rw [tdL];split at h
  ·rename_i c; rw [if_pos c];obtain ⟨a,h1,h2⟩ := za2 h;exact bndI ⟨a,zpc (Nat.le_succ _) h1,zs3 f _ _ _ h2⟩
  ·rename_i c; rw [if_neg c]; exact h
theorem zse {t : Typ} {p : PS} {f g : Nat} (hfg : f ≤ g) {r : Typ × PS} (hr : tdL f t p = some r) : tdL g t p = some r := zgq (F := fun f=>tdL f t p) (fun f r h=>zs3 f t p r h) hfg hr
theorem tdL_tot : ∀ m : Nat,∀ p t,Ok p→mu p ≤ m→∃ f r,tdL f t p = some r:=by
 intro m
 induction m using Nat.strongRecOn with
 | _ m ih =>
 intro p t hO hm;by_cases hc : p.err = 0∧p.isG [125] = false
 ·obtain ⟨f1,x,h1⟩ := memF_tot t hO;obtain ⟨k1,lt⟩ := zdx hO h1;have lt := lt hc.1;obtain ⟨f2,y,h2⟩ := ih (mu x.2) (by omega) _ x.1 k1.ok (Nat.le_refl _);exact ⟨f1 + f2 + 1,y,by rw [tdL,if_pos hc,zpc (by omega) h1]; exact zse (by omega) h2⟩
 ·exact ⟨1,_,by rw [tdL,if_neg hc]⟩
theorem tdF_tot {p : PS} (hO : Ok p) : ∃ f r,tdF f p = some r:=by
 have k1 := Keep.adv hO;have k2 := Keep.name k1.ok;exact tdL_tot _ _ _ (Keep.sign k2.ok [123]).ok (Nat.le_refl _)
theorem zrt {p : PS} {f g : Nat} (hfg : f ≤ g) {r : Typ × PS} (hr : tdF f p = some r) : tdF g p = some r := zse hfg hr
theorem zrj : ∀ f tg l p r,paL f tg l p = some r→paL (f + 1) tg l p = some r
 | 0,_,_,_,_,h=>by cases h
 | f + 1,tg,l,p,r,h=>by
  rw [paL] at h;rw [paL];split at h
  ·rename_i c; rw [if_pos c];obtain ⟨a,h1,h2⟩ := za2 h;exact bndI ⟨a,zrt (Nat.le_succ _) h1,zrj f _ _ _ _ h2⟩
  ·rename_i c; rw [if_neg c]; exact h
theorem paL_mono {tg : Bool} {l : List Typ} {p : PS} {f g : Nat} (hfg : f ≤ g) {r : (Bool × List Typ) × PS} (hr : paL f tg l p = some r) : paL g tg l p = some r := zgq (F := fun f=>paL f tg l p) (fun f r h=>zrj f tg l p r h) hfg hr
theorem paL_tot : ∀ m : Nat,∀ tg l p,Ok p→mu p ≤ m→∃ f r,paL f tg l p = some r:=by
 intro m
 induction m using Nat.strongRecOn with
 | _ m ih =>
 intro tg l p hO hm;by_cases hw : p.isW wType = true
 ·obtain ⟨f1,x,h1⟩ := tdF_tot hO;have k1 := zg8 hO h1;have lt := zvl hO (by rw [zbs hw]; decide) h1;obtain ⟨f2,y,h2⟩ := ih (mu x.2) (by omega) false (l ++ [x.1]) _ k1.ok (Nat.le_refl _);exact ⟨f1 + f2 + 1,y,by rw [paL,if_pos hw,zrt (by omega) h1]; exact paL_mono (by omega) h2⟩
 ·exact ⟨1,_,by rw [paL,if_neg hw]⟩
theorem pa_tot {src : List UInt8} (h : src.length ≤ 4000) : ∃ f r,paL f true [] (ps0 src).adv = some r := paL_tot _ _ _ _ (PS.adv_ok (zk4 h)) (Nat.le_refl _)
end
section
open Go Go.Vai
def Typ.tot (t : Typ) : Nat := t.fields.length + t.ops.length + t.qrys.length + t.idxs.length
structure TOk (t : Typ) : Prop where
 tot : t.tot ≤ 9000
 ops : ∀ o ∈ t.ops,szL o.body ≤ 9000
def TsOk (l : List Typ) : Prop := l.length ≤ 20000∧∀ t ∈ l,TOk t
theorem memF_b {f : Nat} {t : Typ} {p : PS} {r : Typ × PS} (hO : Ok p) (h : memF f t p = some r) : r.1.tot ≤ t.tot + 1∧((∀ o ∈ t.ops,szL o.body ≤ 9000)→∀ o ∈ r.1.ops,szL o.body ≤ 9000):=by
 have k1 := Keep.oneF hO memW 0;have k2 := Keep.name k1.ok;unfold memF at h;unfold Typ.tot;split at h
 ·injection h with h; subst h; exact ⟨by simp; omega,fun hh=>hh⟩
 split at h
 ·injection h with h; subst h; exact ⟨by simp; omega,fun hh=>hh⟩
 split at h
 ·obtain ⟨a,h1,h2⟩ := za2 h;obtain ⟨b,h3,h4⟩ := za2 h2;injection h4 with h4; subst h4;refine ⟨by simp; omega,fun hh o ho=>?_⟩;rcases List.mem_append.1 ho with ho | ho
  ·exact hh o ho
  ·rw [List.mem_singleton.1 ho];have := blkF_sz (zbw k2.ok h1).ok h3;exact Nat.le_trans this (by decide)
 split at h
 ·obtain ⟨a,h1,h2⟩ := za2 h;obtain ⟨b,h3,h4⟩ := za2 h2;injection h4 with h4; subst h4; exact ⟨by simp; omega,fun hh=>hh⟩
 split at h
 ·injection h with h; subst h; exact ⟨by simp; omega,fun hh=>hh⟩
 ·injection h with h; subst h; exact ⟨by simp,fun hh=>hh⟩
theorem tdL_b : ∀ f t p r,Ok p→tdL f t p = some r→r.1.tot + mu r.2 ≤ t.tot + mu p∧((∀ o ∈ t.ops,szL o.body ≤ 9000)→∀ o ∈ r.1.ops,szL o.body ≤ 9000)
 | 0,_,_,_,_,h=>by cases h
 | f + 1,t,p,r,hO,h=>by
  unfold tdL at h;split at h
  ·rename_i hc;obtain ⟨a,h1,h2⟩ := za2 h;obtain ⟨k1,lt⟩ := zdx hO h1;have lt := lt hc.1;obtain ⟨b1,b2⟩ := memF_b hO h1;obtain ⟨c1,c2⟩ := tdL_b f _ _ _ k1.ok h2;exact ⟨by omega,fun hh=>c2 (b2 hh)⟩
  ·injection h with h; subst h;have := (Keep.sign hO [125]).mu;exact ⟨by simp only; omega,fun hh=>hh⟩
theorem tdF_b {f : Nat} {p : PS} {r : Typ × PS} (hO : Ok p) (h : tdF f p = some r) : TOk r.1:=by
 have k1 := Keep.adv hO;have k2 := Keep.name k1.ok;have k3 := Keep.sign k2.ok [123];obtain ⟨c1,c2⟩ := tdL_b f _ _ _ k3.ok h;have := zj5 k3.ok;have e : (⟨p.adv.s,true,[],true,[],true,[],true,[],p.adv.tat⟩ : Typ).tot = 0 := rfl;exact ⟨by omega,c2 (fun o ho=>by cases ho)⟩
theorem paL_b : ∀ f tg l p r,Ok p→paL f tg l p = some r→r.1.2.length + mu r.2 ≤ l.length + mu p∧((∀ t ∈ l,TOk t)→∀ t ∈ r.1.2,TOk t)
 | 0,_,_,_,_,_,h=>by cases h
 | f + 1,tg,l,p,r,hO,h=>by
  unfold paL at h;split at h
  ·rename_i hw;obtain ⟨a,h1,h2⟩ := za2 h;have k1 := zg8 hO h1;have lt := zvl hO (by rw [zbs hw]; decide) h1;obtain ⟨c1,c2⟩ := paL_b f _ _ _ _ k1.ok h2;refine ⟨by rw [lnA,List.length_singleton] at c1; omega,fun hh=>c2 fun t ht=>?_⟩;rcases List.mem_append.1 ht with ht | ht
   ·exact hh t ht
   ·rw [List.mem_singleton.1 ht]; exact tdF_b hO h1
  ·injection h with h; subst h; exact ⟨Nat.le_refl _,fun hh=>hh⟩
theorem pa_ok {src : List UInt8} (hl : src.length ≤ 4000) {f : Nat} {r : (Bool × List Typ) × PS} (h : paL f true [] (ps0 src).adv = some r) : TsOk r.1.2:=by
 have k0 := Keep.adv (zk4 hl);obtain ⟨c1,c2⟩ := paL_b f _ _ _ _ k0.ok h;have := zj5 k0.ok;exact ⟨by simp only [lnN] at c1; omega,c2 (fun t ht=>by cases ht)⟩
end
section
open Go Go.Vai
attribute [local irreducible] goTo zao mkS
variable {C : Nat → Oracle} {o : Out}
abbrev cF0 : AV := (.vs 1 true [(.str [105,110,116]),(.str [116,101,120,116]),(.str [98,111,111,108])])
abbrev cF1 : AV := (.vs 1 true [(.str [97]),(.str [98]),(.str [99]),(.str [111,119,110,101,114]),(.str [116,97,103,115]),(.str [110]),(.str [116,111,116,97,108]),(.str [120,49])])
abbrev qF0 : List Nat := Q0i
abbrev qF1 : List Nat := Q0g
abbrev qF2 : List Nat := Q2u
abbrev qF3 : List Nat := Q2v
theorem p22_c (hC : Ext C) {a b : Int} : LC C o 22 (mk0 14 [vi 0 a,vi 1 b]) [(i6 a),(i6 b)] Hp.none 0 := lC hC
theorem p22_0 {b a} : LR C o 22 [] (mk0 14 [vi 0 b,vi 1 a]) (.br (decide (a < 1))
(rt (i6 0))
(.br (decide (a = 0)) .none
(.br (decide (a = 0)) .none
(rt (i6 (Int.tmod (w64 ((Int.tmod b a) + a)) a)))))) := lR 10
theorem p34_c (hC : Ext C) {a : Bool} {b : List AV} {c : Int} : LC C o 34 (mk0 15 [vv 0 (.vs 1 a b),vi 1 c]) [(.vs 1 a b),(i6 c)] Hp.none 0 := lC hC
theorem p34_0 {b a c} : LR C o 34 [] (mk0 15 [vv 0 (.vs 1 b a),vi 1 c]) (.br (decide ((a.length : Int) = 0))
(rt (i6 0))
(cl0 22 [(i6 c),(i6 (a.length : Int))] fun d => .br (AV.pure d.v)
(.mid 0 qF1 5 (mk0 15 [vv 0 (.vs 1 b a),vi 1 c,vb 7 false,vv 8 (.vs 1 b a),vi 9 c,vv 10 (.vs 1 b a),vi 11 (a.length : Int),vv 12 d.v])) .none)) := lR 9
abbrev yS163 := fun (a : Bool) (b : List AV) c d e f => mk0 15 [vv 0 (.vs 1 a b),vi 1 c,vb 7 false,vv 8 (.vs 1 a b),vi 9 c,vv 10 (.vs 1 a b),vi 11 d,vi 12 e,vv 13 (.cptr f)]
theorem p34_1 {a b c d e} : LM C o 34 qF1 5 (mk0 15 [vv 0 (.vs 1 a b),vi 1 c,vb 7 false,vv 8 (.vs 1 a b),vi 9 c,vv 10 (.vs 1 a b),vi 11 e,vi 12 d]) (ix b d fun f =>
(.mid 0 qF1 6 (yS163 a b c e d (AV.cells f)))) := lM 0
theorem p34_2 {a b c e f d} : LM C o 34 qF1 6 (yS163 a b c f e [(i6 d)]) (rt (i6 d)) := lM 1
theorem p77_c (hC : Ext C) {c a b : Int} : LC C o 77 (mk0 22 [vi 0 c,vi 1 a,vi 2 b]) [(i6 c),(i6 a),(i6 b)] Hp.none 0 := lC hC
theorem p77_0 {a b c} : LR C o 77 [] (mk0 22 [vi 0 a,vi 1 b,vi 2 c]) (cl0 22 [(i6 a),(i6 1099511627776)] fun d => .br (AV.pure d.v)
(.mid 0 [0,5,0] 2 (mk0 22 [vi 0 a,vi 1 b,vi 2 c,vi 9 a,vv 10 d.v])) .none) := lR 4
theorem p77_1 {d a b c} : LM C o 77 [0,5,0] 2 (mk0 22 [vi 0 d,vi 1 a,vi 2 b,vi 9 d,vi 10 c]) (.run 0 qF0 (mk0 22 [vi 1 a,vi 2 b,vi 7 c,vi 8 0])) := lM 5
theorem p77_2 {a b c d} : LR C o 77 qF0 (mk0 22 [vi 1 a,vi 2 b,vi 7 c,vi 8 d]) (.br (decide (d < b))
(.br (decide (a = 0)) .none
(.run 0 qF0 (mk0 22 [vi 1 a,vi 2 b,vi 7 (w64 (Int.tdiv c a)),vi 8 (w64 (d + 1))])))
(.br (decide (a = 0)) .none
(rt (i6 (Int.tmod c a))))) := lR 11
theorem p29_c (hC : Ext C) {a : Int} : LC C o 29 (mk0 15 [vi 0 a]) [(i6 a)] Hp.none 0 := lC hC
theorem p29_0 {a} : LR C o 29 [] (mk0 15 [vi 0 a]) (.br (decide (a < 0))
(cl0 67 [(.int .u64 (IntKind.wrap IntKind.u64 ((IntKind.wrap IntKind.u64 (w64 (0 - (w64 (a + 1))))) + 1)))] fun b => .br (AV.pure b.v)
(.mid 1 Q0c 6 (mk0 15 [vi 0 a,vb 4 true,vi 5 a,vi 6 (w64 (a + 1)),vi 7 (w64 (0 - (w64 (a + 1)))),vv 8 (.int .u64 (IntKind.wrap IntKind.u64 (w64 (0 - (w64 (a + 1)))))),vv 9 (.int .u64 (IntKind.wrap IntKind.u64 ((IntKind.wrap IntKind.u64 (w64 (0 - (w64 (a + 1))))) + 1))),vv 10 b.v])) .none)
(cl0 67 [(.int .u64 (IntKind.wrap IntKind.u64 a))] fun c => .br (AV.pure c.v)
(.mid 0 qF1 3 (mk0 15 [vi 0 a,vb 4 false,vi 12 a,vv 13 (.int .u64 (IntKind.wrap IntKind.u64 a)),vv 14 c.v])) .none)) := lR 9
theorem p29_1 {b c d a} {e f : Int} : LM C o 29 Q0c 6 (mk0 15 [vi 0 b,vb 4 true,vi 5 b,vi 6 c,vi 7 d,vv 8 (.int .u64 e),vv 9 (.int .u64 f),vt 10 a]) (.br (Nat.ble (1 + a.length) 4611686018427387904)
(rt (.str ([45] ++ a))) .none) := lM 1
theorem p29_2 {a b} {c : Int} : LM C o 29 qF1 3 (mk0 15 [vi 0 a,vb 4 false,vi 12 a,vv 13 (.int .u64 c),vt 14 b]) (rt (.str b)) := lM 1
theorem p67_c (hC : Ext C) {a : Int} : LC C o 67 (mk0 20 [vv 0 (.int .u64 a)]) [(.int .u64 a)] Hp.none 0 := lC hC
theorem p67_0 {a : Int} : LR C o 67 [] (mk0 20 [vv 0 (.int .u64 a)]) (.br (decide (a < 10))
(.bind (zbz [(.int .u8 (IntKind.wrap IntKind.u8 (IntKind.wrap IntKind.u64 (48 + a))))]) fun c =>
(rt (.str c)))
(cl0 67 [(.int .u64 (IntKind.wrap IntKind.u64 (Int.tdiv a 10)))] fun b => .br (AV.pure b.v)
(.br (AV.pure b.v)
(.mid 0 qF1 3 (mk0 20 [vv 0 (.int .u64 a),vb 4 false,vv 10 (.int .u64 a),vv 11 (.int .u64 (IntKind.wrap IntKind.u64 (Int.tdiv a 10))),vv 12 b.v])) .none) .none)) := lR 9
theorem p67_1 {b} {a c : Int} : LM C o 67 qF1 3 (mk0 20 [vv 0 (.int .u64 a),vb 4 false,vv 10 (.int .u64 a),vv 11 (.int .u64 c),vt 12 b]) (.bind (zbz [(.int .u8 (IntKind.wrap IntKind.u8 (IntKind.wrap IntKind.u64 (48 + (Int.tmod a 10)))))]) fun d =>
(.br (Nat.ble (b.length + d.length) 4611686018427387904)
(rt (.str (b ++ d))) .none)) := lM 1
theorem p78_c (hC : Ext C) {a : List UInt8} : LC C o 78 (mk0 35 [vt 0 a]) [(.str a)] Hp.none 0 := lC hC
theorem p78_0 {a} : LR C o 78 [] (mk0 35 [vt 0 a]) (.run 0 qF0 (mk0 35 [vt 0 a,vv 3 (.vs 1 true [(.int .u8 34)]),vi 4 0])) := lR 9
theorem p78_1 {c d a b} : LR C o 78 qF0 (mk0 35 [vt 0 c,vv 3 (.vs 1 d a),vi 4 b]) (.br (decide (b < (c.length : Int)))
(.br (decide ((0 : Int) ≤ b))
(.bind (c[(Int.toNat b)]?) fun e =>
(.br (decide (((e.toNat : Nat) : Int) = 34))
(.br d
(.br (Nat.ble ((a.length + 1) * 1) za5)
(.br (Nat.ble (a.length + 1) za5)
(.br (decide ((0 : Int) ≤ b))
(.bind (c[(Int.toNat b)]?) fun f =>
(.br (Nat.ble (((List.length (a ++ [(.int .u8 92)])) + 1) * 1) za5)
(.br (Nat.ble ((List.length (a ++ [(.int .u8 92)])) + 1) za5)
(.run 0 qF0 (mk0 35 [vt 0 c,(3,.val (.vs 1 false ((a ++ [(.int .u8 92)]) ++ [(.int .u8 ((f.toNat : Nat) : Int))])) .own),vi 4 (w64 (b + 1))])) .none) .none)) .none) .none) .none) .none)
(.br (decide ((0 : Int) ≤ b))
(.bind (c[(Int.toNat b)]?) fun g =>
(.br (decide (((g.toNat : Nat) : Int) = 92))
(.br d
(.br (Nat.ble ((a.length + 1) * 1) za5)
(.br (Nat.ble (a.length + 1) za5)
(.br (decide ((0 : Int) ≤ b))
(.bind (c[(Int.toNat b)]?) fun h =>
(.br (Nat.ble (((List.length (a ++ [(.int .u8 92)])) + 1) * 1) za5)
(.br (Nat.ble ((List.length (a ++ [(.int .u8 92)])) + 1) za5)
(.run 0 qF0 (mk0 35 [vt 0 c,(3,.val (.vs 1 false ((a ++ [(.int .u8 92)]) ++ [(.int .u8 ((h.toNat : Nat) : Int))])) .own),vi 4 (w64 (b + 1))])) .none) .none)) .none) .none) .none) .none)
(.br (decide ((0 : Int) ≤ b))
(.bind (c[(Int.toNat b)]?) fun i =>
(.br d
(.br (Nat.ble ((a.length + 1) * 1) za5)
(.br (Nat.ble (a.length + 1) za5)
(.run 0 qF0 (mk0 35 [vt 0 c,(3,.val (.vs 1 false (a ++ [(.int .u8 ((i.toNat : Nat) : Int))])) .own),vi 4 (w64 (b + 1))])) .none) .none) .none)) .none))) .none))) .none)
(.br d
(.br (Nat.ble ((a.length + 1) * 1) za5)
(.br (Nat.ble (a.length + 1) za5)
(.bind (zbz (a ++ [(.int .u8 34)])) fun j =>
(rt (.str j))) .none) .none) .none)) := lR 16
theorem p78_2 {c d a b} : LR C o 78 qF0 (mk0 35 [vt 0 c,(3,.val (.vs 1 d a) .own),vi 4 b]) (.br (decide (b < (c.length : Int)))
(.br (decide ((0 : Int) ≤ b))
(.bind (c[(Int.toNat b)]?) fun h =>
(.br (decide (((h.toNat : Nat) : Int) = 34))
(.br (Nat.ble ((a.length + 1) * 1) za5)
(.br (Nat.ble (a.length + 1) za5)
(.br (decide ((0 : Int) ≤ b))
(.bind (c[(Int.toNat b)]?) fun i =>
(.br (Nat.ble (((List.length (a ++ [(.int .u8 92)])) + 1) * 1) za5)
(.br (Nat.ble ((List.length (a ++ [(.int .u8 92)])) + 1) za5)
(.run 0 qF0 (mk0 35 [vt 0 c,(3,.val (.vs 1 false ((a ++ [(.int .u8 92)]) ++ [(.int .u8 ((i.toNat : Nat) : Int))])) .own),vi 4 (w64 (b + 1))])) .none) .none)) .none) .none) .none)
(.br (decide ((0 : Int) ≤ b))
(.bind (c[(Int.toNat b)]?) fun j =>
(.br (decide (((j.toNat : Nat) : Int) = 92))
(.br (Nat.ble ((a.length + 1) * 1) za5)
(.br (Nat.ble (a.length + 1) za5)
(.br (decide ((0 : Int) ≤ b))
(.bind (c[(Int.toNat b)]?) fun e =>
(.br (Nat.ble (((List.length (a ++ [(.int .u8 92)])) + 1) * 1) za5)
(.br (Nat.ble ((List.length (a ++ [(.int .u8 92)])) + 1) za5)
(.run 0 qF0 (mk0 35 [vt 0 c,(3,.val (.vs 1 false ((a ++ [(.int .u8 92)]) ++ [(.int .u8 ((e.toNat : Nat) : Int))])) .own),vi 4 (w64 (b + 1))])) .none) .none)) .none) .none) .none)
(.br (decide ((0 : Int) ≤ b))
(.bind (c[(Int.toNat b)]?) fun f =>
(.br (Nat.ble ((a.length + 1) * 1) za5)
(.br (Nat.ble (a.length + 1) za5)
(.run 0 qF0 (mk0 35 [vt 0 c,(3,.val (.vs 1 false (a ++ [(.int .u8 ((f.toNat : Nat) : Int))])) .own),vi 4 (w64 (b + 1))])) .none) .none)) .none))) .none))) .none)
(.br (Nat.ble ((a.length + 1) * 1) za5)
(.br (Nat.ble (a.length + 1) za5)
(.bind (zbz (a ++ [(.int .u8 34)])) fun g =>
(rt (.str g))) .none) .none)) := lR 16
theorem p37_c (hC : Ext C) {a : Int} : LC C o 37 (mk0 8 [vi 0 a]) [(i6 a)] Hp.none 0 := lC hC
theorem p37_0 {a} : LR C o 37 [] (mk0 8 [vi 0 a]) (cl0 22 [(i6 a),(i6 8)] fun b => .br (AV.pure b.v)
(.mid 0 [0,5,0] 3 (mkS 8 [vi 0 a,vv 3 cF1,vi 4 a,vv 5 b.v] [] Hp.none 0)) .none) := lR 4
theorem p37_1 {a b} : LM C o 37 [0,5,0] 3 (mkS 8 [vi 0 a,vv 3 cF1,vi 4 a,vi 5 b] [] Hp.none 0) (ixl 8 [(.str [97]),(.str [98]),(.str [99]),(.str [111,119,110,101,114]),(.str [116,97,103,115]),(.str [110]),(.str [116,111,116,97,108]),(.str [120,49])] b fun c =>
(.mid 0 [0,5,0] 4 (mkS 8 [vi 0 a,vv 3 cF1,vi 4 a,vi 5 b,vv 6 (.cptr (AV.cells c))] [] Hp.none 0))) := lM 0
theorem p37_2 {a c b} : LM C o 37 [0,5,0] 4 (mkS 8 [vi 0 a,vv 3 cF1,vi 4 a,vi 5 c,vv 6 (.cptr [(.str b)])] [] Hp.none 0) (rt (.str b)) := lM 1
theorem p39_c (hC : Ext C) {a : Int} : LC C o 39 (mk0 33 [vi 0 a]) [(i6 a)] Hp.none 0 := lC hC
theorem p39_0 {a} : LR C o 39 [] (mk0 33 [vi 0 a]) (.run 0 qF0 (mk0 33 [vi 0 a,vt 3 [40],vi 4 0])) := lR 9
theorem p39_1 {a b c} : LR C o 39 qF0 (mk0 33 [vi 0 a,vt 3 c,vi 4 b]) (cl0 77 [(i6 a),(i6 4),(i6 0)] fun d => .br (AV.pure d.v)
(.mid 0 Q0r 3 (mk0 33 [vi 0 a,vt 3 c,vi 4 b,vi 5 b,vi 6 a,vv 7 d.v])) .none) := lR 3
theorem p39_2 {b a d c} : LM C o 39 Q0r 3 (mk0 33 [vi 0 b,vt 3 c,vi 4 a,vi 5 a,vi 6 b,vi 7 d]) (.br (decide (a < d))
(.br (decide (0 < a))
(.br (Nat.ble (c.length + 2) 4611686018427387904)
(cl0 77 [(i6 b),(i6 8),(i6 (w64 (2 + a)))] fun e => .br (AV.pure e.v)
(.mid 0 qF2 5 (mk0 33 [vi 0 b,vt 3 (c ++ [44,32]),vi 4 a,vt 15 (c ++ [44,32]),vi 16 b,vi 17 a,vi 18 (w64 (2 + a)),vv 19 e.v])) .none) .none)
(cl0 77 [(i6 b),(i6 8),(i6 (w64 (2 + a)))] fun f => .br (AV.pure f.v)
(.mid 0 qF3 5 (mk0 33 [vi 0 b,vt 3 c,vi 4 a,vb 12 false,vt 15 c,vi 16 b,vi 17 a,vi 18 (w64 (2 + a)),vv 19 f.v])) .none))
(.br (Nat.ble (c.length + 1) 4611686018427387904)
(rt (.str (c ++ [41]))) .none)) := lM 10
theorem p39_3 {a b d e c} : LM C o 39 qF2 5 (mk0 33 [vi 0 a,vt 3 c,vi 4 b,vt 15 c,vi 16 a,vi 17 b,vi 18 e,vi 19 d]) (cl0 37 [(i6 d)] fun f => .br (AV.pure f.v)
(.mid 0 qF2 6 (mk0 33 [vi 0 a,vt 3 c,vi 4 b,vt 15 c,vi 16 a,vi 17 b,vi 18 e,vi 19 d,vv 20 f.v])) .none) := lM 0
theorem p39_4 {a b d e c} : LM C o 39 qF3 5 (mk0 33 [vi 0 a,vt 3 c,vi 4 b,vb 12 false,vt 15 c,vi 16 a,vi 17 b,vi 18 e,vi 19 d]) (cl0 37 [(i6 d)] fun f => .br (AV.pure f.v)
(.mid 0 qF3 6 (mk0 33 [vi 0 a,vt 3 c,vi 4 b,vb 12 false,vt 15 c,vi 16 a,vi 17 b,vi 18 e,vi 19 d,vv 20 f.v])) .none) := lM 0
abbrev yS184 := fun a b c d e f g h i j => mkS 33 [vi 0 a,vt 3 b,vi 4 c,vt 15 b,vi 16 a,vi 17 c,vi 18 d,vi 19 e,vt 20 f,vt 21 g,vt 22 h,vv 23 cF0,vi 24 a,vi 25 c,vi 26 i,j] [] Hp.none 0
theorem p39_5 {c b e f a d} : LM C o 39 qF2 6 (mk0 33 [vi 0 c,vt 3 a,vi 4 b,vt 15 a,vi 16 c,vi 17 b,vi 18 f,vi 19 e,vt 20 d]) (.br (Nat.ble (a.length + d.length) 4611686018427387904)
(.br (Nat.ble ((a ++ d).length + 1) 4611686018427387904)
(cl0 77 [(i6 c),(i6 3),(i6 (w64 (6 + b)))] fun g => .br (AV.pure g.v)
(.mid 0 qF2 13 (yS184 c a b f e d (a ++ d) ((a ++ d) ++ [32]) (w64 (6 + b)) (vv 27 g.v))) .none) .none) .none) := lM 0
abbrev yS185 := fun a b c d e f g h i j => mkS 33 [vi 0 a,vt 3 b,vi 4 c,vb 12 false,vt 15 b,vi 16 a,vi 17 c,vi 18 d,vi 19 e,vt 20 f,vt 21 g,vt 22 h,vv 23 cF0,vi 24 a,vi 25 c,vi 26 i,j] [] Hp.none 0
theorem p39_6 {c b e f a d} : LM C o 39 qF3 6 (mk0 33 [vi 0 c,vt 3 a,vi 4 b,vb 12 false,vt 15 a,vi 16 c,vi 17 b,vi 18 f,vi 19 e,vt 20 d]) (.br (Nat.ble (a.length + d.length) 4611686018427387904)
(.br (Nat.ble ((a ++ d).length + 1) 4611686018427387904)
(cl0 77 [(i6 c),(i6 3),(i6 (w64 (6 + b)))] fun g => .br (AV.pure g.v)
(.mid 0 qF3 13 (yS185 c a b f e d (a ++ d) ((a ++ d) ++ [32]) (w64 (6 + b)) (vv 27 g.v))) .none) .none) .none) := lM 0
abbrev yS186 := fun a b c d e f g h i j k => mkS 33 [vi 0 a,vt 3 b,vi 4 c,vt 15 b,vi 16 a,vi 17 c,vi 18 d,vi 19 e,vt 20 f,vt 21 g,vt 22 h,vv 23 cF0,vi 24 a,vi 25 c,vi 26 i,vi 27 j,vv 28 (.cptr k)] [] Hp.none 0
theorem p39_7 {a b e f d g c h i j} : LM C o 39 qF2 13 (yS184 a c b f e h i j g (vi 27 d)) (ixl 3 [(.str [105,110,116]),(.str [116,101,120,116]),(.str [98,111,111,108])] d fun k =>
(.mid 0 qF2 14 (yS186 a c b f e h i j g d (AV.cells k)))) := lM 0
abbrev yS187 := fun a b c d e f g h i j k => mkS 33 [vi 0 a,vt 3 b,vi 4 c,vb 12 false,vt 15 b,vi 16 a,vi 17 c,vi 18 d,vi 19 e,vt 20 f,vt 21 g,vt 22 h,vv 23 cF0,vi 24 a,vi 25 c,vi 26 i,vi 27 j,vv 28 (.cptr k)] [] Hp.none 0
theorem p39_8 {a b e f d g c h i j} : LM C o 39 qF3 13 (yS185 a c b f e h i j g (vi 27 d)) (ixl 3 [(.str [105,110,116]),(.str [116,101,120,116]),(.str [98,111,111,108])] d fun k =>
(.mid 0 qF3 14 (yS187 a c b f e h i j g d (AV.cells k)))) := lM 0
theorem p39_9 {a b f g h i e j k c d} : LM C o 39 qF2 14 (yS186 a e b g f j k c i h [(.str d)]) (.br (Nat.ble (c.length + d.length) 4611686018427387904)
(.run 0 qF0 (mk0 33 [vi 0 a,vt 3 (c ++ d),vi 4 (w64 (b + 1))])) .none) := lM 3
theorem p39_10 {a b f g h i e j k c d} : LM C o 39 qF3 14 (yS187 a e b g f j k c i h [(.str d)]) (.br (Nat.ble (c.length + d.length) 4611686018427387904)
(.run 0 qF0 (mk0 33 [vi 0 a,vt 3 (c ++ d),vi 4 (w64 (b + 1))])) .none) := lM 3
end
section
open Go Go.Vai
attribute [local irreducible] goTo zao mkS
def Was (x : Option Out) (Q : Out→Prop) : Prop := ∃ o,x = some o∧Q o
theorem exW {x y : Option Out} {Q : Out→Prop} (h : ∀ o,y = some o→x = some o) (e : Was y Q) : Was x Q:=by
 obtain ⟨o,h1,h2⟩ := e;exact ⟨o,h o h1,h2⟩
theorem Was.mk {o : Out} {Q : Out→Prop} (h : Q o) : Was (some o) Q := ⟨o,rfl,h⟩
theorem Was.brn {c : Bool} {x y : Option Out} {Q : Out→Prop} (h : c = true) (e : Was x Q) : Was (Vai.br c x y) Q := by rw [br_t h]; exact e
theorem Was.brf {c : Bool} {x y : Option Out} {Q : Out→Prop} (h : c = false) (e : Was y Q) : Was (Vai.br c x y) Q := by rw [br_f h]; exact e
theorem Was.bT {p : Prop} [Decidable p] {x y : Option Out} {Q : Out→Prop} (h : p) (e : Was x Q) : Was (Vai.br (decide p) x y) Q := .brn (decide_eq_true h) e
theorem Was.bF {p : Prop} [Decidable p] {x y : Option Out} {Q : Out→Prop} (h : ¬ p) (e : Was y Q) : Was (Vai.br (decide p) x y) Q := .brf (decide_eq_false h) e
theorem Was.bL {a b : Nat} {x y : Option Out} {Q : Out→Prop} (h : a ≤ b) (e : Was x Q) : Was (Vai.br (Nat.ble a b) x y) Q := .brn (ble_t h) e
theorem Was.dec {p : Prop} [Decidable p] {x y : Option Out} {Q : Out→Prop} (h1 : p→Was x Q) (h2 : ¬ p→Was y Q) : Was (Vai.br (decide p) x y) Q:=by
 by_cases h : p
 ·exact .bT h (h1 h)
 ·exact .bF h (h2 h)
theorem Was.both {c : Bool} {x y : Option Out} {Q : Out→Prop} (h1 : c = true→Was x Q) (h2 : c = false→Was y Q) : Was (Vai.br c x y) Q:=by
 cases h : c
 ·exact h2 h
 ·exact h1 h
theorem Was.call {x : Option Out} {K : Out→Option Out} {Q1 Q : Out→Prop} (h : Was x Q1) (hK : ∀ o,Q1 o→Was (K o) Q) : Was (x.bind K) Q:=by
 obtain ⟨o,h1,h2⟩ := h;rw [h1];exact hK o h2
theorem Was.imp {x : Option Out} {Q1 Q : Out→Prop} (h : Was x Q1) (hK : ∀ o,Q1 o→Q o) : Was x Q:=by
 obtain ⟨o,h1,h2⟩ := h;exact ⟨o,h1,hK o h2⟩
def zrc (B : Nat) : List AV→Bool
 | []=>true
 | .str s :: l=>Nat.ble s.length B && zrc B l
 | _=>false
theorem zlj {B : Nat} : ∀ {l : List AV} {i : Nat},zrc B l = true→i < l.length→∃ s,nth l i = some (.str s)∧s.length ≤ B
 | [],i,_,h=>by simp at h
 | a :: l,i,hl,h=>by
  cases a with
  | str s =>
   unfold zrc at hl;rw [Bool.and_eq_true] at hl;cases i with
   | zero=>exact ⟨s,rfl,by have := hl.1; rw [Nat.ble_eq] at this; exact this⟩
   | succ i =>
    have := zlj (l := l) (i := i) hl.2 (by simpa using h);exact this
  | _=>cases hl
theorem Was.nth {B : Nat} {l : List AV} {i : Int} {K : AV→Option Out} {Q : Out→Prop} (hl : zrc B l = true) (h1 : i.toNat < l.length) (hK : ∀ s,s.length ≤ B→Was (K (.str s)) Q) : Was ((Vai.nth l i.toNat).bind K) Q:=by
 obtain ⟨s,h2,h3⟩ := zlj hl h1;rw [h2];exact hK s h3
def ints (l : List Int) : List AV := l.map (AV.int .i64)
theorem za1 (l : List Int) : za3 (ints l) = true:=by
 induction l with
 | nil=>rfl
 | cons x l ih=>show za3 (AV.int .i64 x :: ints l) = true; rw [zc8,ih]; rfl
def QS (B : Nat) (o : Out) : Prop := ∃ s,o.v = .str s∧s.length ≤ B
def QI (k : Int) (o : Out) : Prop := ∃ x,o.v = .int .i64 x∧0 ≤ x∧x < k
def QA (o : Out) : Prop := ∃ x,o.v = .int .i64 x
def QP (B : Nat) (o : Out) : Prop := ∃ s x,o.v = .tuple [.str s,.int .i64 x]∧s.length ≤ B
variable {C : Nat→Oracle} (hC : Ext C)
include hC
theorem w22 (n k : Int) (h : 1 ≤ k) (h2 : k ≤ 1152921504606846976) : Was (calL C 22 [.int .i64 n,.int .i64 k] Hp.none 0) (QI k):=by
 refine exW (fun o=>p22_c hC) (exW (fun o=>p22_0) ?_);simp only [Tr.val];refine .bF (by omega) (.bF (by omega) (.bF (by omega) (.mk ⟨_,rfl,?_⟩)));have h3 := Int.tmod_lt_of_pos n (show 0 < k by omega);have h4 : -k < Int.tmod n k := by have := Int.lt_tmod_of_pos n (show 0 < k by omega); omega
 rw [zb1 (by omega) (by omega)];exact ⟨Int.tmod_nonneg _ (by omega),Int.tmod_lt_of_pos _ (by omega)⟩
theorem w34 (tg : Bool) (l : List Int) (hl : l.length ≤ 1000000) (i : Int) : Was (calL C 34 [.vs 1 tg (ints l),.int .i64 i] Hp.none 0) QA:=by
 refine exW (fun o=>p34_c hC) (exW (fun o=>p34_0) ?_);have hlen : (ints l).length = l.length := lnM _;simp only [Tr.val,za3,AV.pure,za0,hlen];refine .dec (fun h=>.mk ⟨_,rfl⟩) fun h=>?_;refine .call (w22 hC _ _ (by omega) (by omega)) ?_;rintro o ⟨x,e,h1,h2⟩;simp only [e,AV.pure,za0];refine exW (fun o=>p34_1) ?_;simp only [Tr.val,hlen];refine .bT h1 (.bT h2 ?_);have : nth (ints l) x.toNat = some (.int .i64 (l[x.toNat]'(by omega))):=by
  rw [zci];unfold ints;rw [List.getElem?_map,List.getElem?_eq_getElem (by omega)];rfl
 rw [this];simp only [obS,AV.cells];refine exW (fun o=>p34_2) ?_;exact .mk ⟨_,rfl⟩
theorem w37 (n : Int) : Was (calL C 37 [.int .i64 n] Hp.none 0) (QS 5):=by
 refine exW (fun o=>p37_c hC) (exW (fun o=>p37_0) ?_);simp only [Tr.val,za3,AV.pure,za0];refine .call (w22 hC _ _ (by omega) (by omega)) ?_;rintro o ⟨x,e,h1,h2⟩;simp only [e,AV.pure,za0];refine exW (fun o=>p37_1) ?_;simp only [Tr.val];refine .bT h1 (.bT h2 (.nth (B := 5) rfl (by simp only [lnC,lnN]; omega) fun s hs=>?_));simp only [AV.cells];refine exW (fun o=>p37_2) ?_;exact .mk ⟨_,rfl,hs⟩
end
section
open Go Go.Vai
def Ex.kind : Ex→Int | .mk k _ _ _ _ _=>k
def Ex.n : Ex→Int | .mk _ n _ _ _ _=>n
def Ex.s : Ex→List UInt8 | .mk _ _ s _ _ _=>s
def Ex.tg : Ex→Bool | .mk _ _ _ t _ _=>t
def Ex.l : Ex→List Ex | .mk _ _ _ _ l _=>l
def Ex.at_ : Ex→Int | .mk _ _ _ _ _ a=>a
def Ex.cs (e : Ex) : List AV := [.int .i64 e.kind,.int .i64 e.n,.str e.s,.vs 5 e.tg (exs e.l),.int .i64 e.at_]
theorem Ex.av_cs (e : Ex) : e.av = .agg e.cs := by cases e; rfl
def Stm.kind : Stm→Int | .mk k _ _ _ _ _ _ _=>k
def Stm.field : Stm→List UInt8 | .mk _ s _ _ _ _ _ _=>s
def Stm.value : Stm→List Ex | .mk _ _ v _ _ _ _ _=>v
def Stm.tgT : Stm→Bool | .mk _ _ _ t _ _ _ _=>t
def Stm.thn : Stm→List Stm | .mk _ _ _ _ l _ _ _=>l
def Stm.tgE : Stm→Bool | .mk _ _ _ _ _ t _ _=>t
def Stm.els : Stm→List Stm | .mk _ _ _ _ _ _ l _=>l
def Stm.at_ : Stm→Int | .mk _ _ _ _ _ _ _ a=>a
def Stm.cs (e : Stm) : List AV := [.int .i64 e.kind,.str e.field,.vs 5 true (exs e.value),.vs 6 e.tgT (stms e.thn),.vs 6 e.tgE (stms e.els),.int .i64 e.at_]
theorem Stm.av_cs (e : Stm) : e.av = .agg e.cs := by cases e; rfl
def Par.cs (x : Par) : List AV := [.str x.name,.int .i64 x.type,.int .i64 x.at_]
theorem Par.av_cs (x : Par) : x.av = .agg x.cs := rfl
def Fld.cs (x : Fld) : List AV := [.str x.name,.int .i64 x.kind,.int .i64 x.type,.int .i64 x.at_]
theorem Fld.av_cs (x : Fld) : x.av = .agg x.cs := rfl
def Idx.cs (x : Idx) : List AV := [.str x.field,.int .i64 x.at_]
def Opn.cs (x : Opn) : List AV := [.str x.name,.vs 3 x.tgP (x.params.map Par.av),.vs 6 x.tgB (stms x.body),.int .i64 x.at_]
theorem Opn.av_cs (x : Opn) : x.av = .agg x.cs := rfl
def Qry.cs (y : Qry) : List AV := [.str y.name,.vs 3 y.tgP (y.params.map Par.av),.int .i64 y.res.kind,.int .i64 y.res.n,.str y.res.s,.vs 5 y.res.tg (exs y.res.l),.int .i64 y.res.at_,.int .i64 y.at_]
theorem Qry.av_cs (y : Qry) : y.av = .agg y.cs := by obtain ⟨n,tg,ps,⟨k,m,s,t,l,q⟩,a⟩ := y; rfl
theorem Typ.av_cs (t : Typ) : t.av = .agg t.cs := rfl
structure Sc where
 t : Typ
 tg : Bool
 ps : List Par
 q : Bool
def Sc.cs (x : Sc) : List AV := [.str x.t.name,.vs 4 x.t.tgF (x.t.fields.map Fld.av),.vs 4 x.t.tgO (x.t.ops.map Opn.av),.vs 8 x.t.tgQ (x.t.qrys.map Qry.av),.vs 2 x.t.tgI (x.t.idxs.map Idx.av),.int .i64 x.t.at_,.vs 3 x.tg (x.ps.map Par.av),.bool x.q]
structure Dg where
 at_ : Int
 err : Int
def Dg.cs (d : Dg) : List AV := [.int .i64 d.at_,.int .i64 d.err]
def Dg.av (d : Dg) : AV := .agg d.cs
theorem Dg.av_cs (x : Dg) : x.av = .agg x.cs := rfl
def mkSM (n : Nat) (l : List (Nat × Slot)) (L : List (Nat × Blk)) (H : Hp) (nx : Nat) (M : List (Nat × List (AV × AV))) : St := { mkS n l L H nx with M := M }
theorem zap (l : List Ex) : (exs l).length = l.length := by rw [zr4,lnM]
theorem za6 (e : Ex) : za3 e.cs = true := by have := ztx e; rw [e.av_cs] at this; exact this
theorem zaa (e : Stm) : za3 e.cs = true := by have := zrk e; rw [e.av_cs] at this; exact this
theorem zae (e : Opn) : za3 e.cs = true := by have := zjh e; rw [e.av_cs] at this; exact this
theorem zhk (e : Fld) : za3 e.cs = true := rfl
theorem zaf (w : Sc) : za3 w.cs = true:=by
 have := zah w.t;simp only [Typ.cs,za3,AV.pure] at this;simp only [Sc.cs,za3,AV.pure,za9,zbr _ (fun x : Fld=>(rfl : x.av.pure = true)),zbr _ zjh,zbr _ zmz,zbr _ (fun x : Idx=>(rfl : x.av.pure = true))]
theorem zac (l : List Fld) : za3 (l.map Fld.av) = true := zbr _ (fun _=>rfl) l
theorem zvo (l : List Idx) : za3 (l.map Idx.av) = true := zbr _ (fun _=>rfl) l
theorem zwx (l : List Opn) : za3 (l.map Opn.av) = true := zbr _ zjh l
theorem zvf (l : List Qry) : za3 (l.map Qry.av) = true := zbr _ zmz l
theorem zab (l : List Dg) : za3 (l.map Dg.av) = true := zbr _ (fun _=>rfl) l
theorem zak (l : List AV) : AV.cells (.agg l) = l := rfl
theorem zan {α : Type} (f : α→AV) (l : List α) (i : Nat) : nth (l.map f) i = l[i]?.map f := by rw [zci,List.getElem?_map]
theorem zau (l : List Ex) (i : Nat) : nth (exs l) i = l[i]?.map Ex.av := by rw [zr4,zan]
end
section
open Go Go.Vai
attribute [local irreducible] goTo zao mkS
variable {C : Nat → Oracle} {o : Out}
abbrev qN0 : List Nat := Q1i
abbrev qN1 : List Nat := Q23
abbrev qN2 : List Nat := Q78
abbrev qN3 : List Nat := Q16
abbrev qN4 : List Nat := Q29
abbrev qN5 : List Nat := Q3r
abbrev qN6 : List Nat := Q3s
abbrev qN7 : List Nat := Q50
abbrev qN8 : List Nat := Q5z
abbrev qN9 : List Nat := Q33
abbrev qN10 : List Nat := Q6v
abbrev qN11 : List Nat := Q32
abbrev qN12 : List Nat := Q8f
abbrev qN13 : List Nat := Q8v
abbrev qN14 : List Nat := Q8p
abbrev qN15 : List Nat := Q8y
theorem p94_c (hC : Ext C) {a : Typ} {b : List UInt8} : LC C o 94 (mk0 22 [vv 0 (.agg (Typ.cs a)),vt 1 b]) [(.agg (Typ.cs a)),(.str b)] Hp.none 0 := lC hC
abbrev yS189 := fun a (b : Bool) c d e (f : List UInt8) (g h i : Int) => mkS 22 [vt 1 a,(4,.lp 4 0),vv 9 (.vs 4 b c),vi 10 d,vi 11 e] [(4,⟨[(.str f),(i6 g),(i6 h),(i6 i)],[]⟩)] Hp.none 0
theorem p94_0 {a b} : LR C o 94 [] (mk0 22 [vv 0 (.agg (Typ.cs a)),vt 1 b]) (.run 0 Q0a (yS189 b a.tgF (a.fields.map Fld.av) ((a.fields.map Fld.av).length : Int) 0 [] 0 0 0)) := lR 7
theorem p94_1 {g b} {h : List UInt8} {e : List Fld} {f a i c d : Int} : LR C o 94 Q0a (yS189 g b (e.map Fld.av) f a h i c d) (.br (decide (a < f))
(ix (e.map Fld.av) a fun j =>
(.mid 0 qN0 1 (mkS 22 [vt 1 g,(4,.lp 4 0),vv 9 (.vs 4 b (e.map Fld.av)),vi 10 f,vi 11 a,vb 12 true,vv 13 (.cptr (AV.cells j))] [(4,⟨[(.str h),(i6 i),(i6 c),(i6 d)],[]⟩)] Hp.none 0)))
(rt (.tuple [(.agg [(.str []),(i6 0),(i6 0),(i6 0)]),(.bool false)]))) := lR 9
theorem p94_2 {e f b h i j c d a} {g : List Fld} : LM C o 94 qN0 1 (mkS 22 [vt 1 e,(4,.lp 4 0),vv 9 (.vs 4 b (g.map Fld.av)),vi 10 h,vi 11 i,vb 12 true,vv 13 (.cptr (Fld.cs a))] [(4,⟨[(.str f),(i6 j),(i6 c),(i6 d)],[]⟩)] Hp.none 0) (.br (eqS a.name e)
(rt (.tuple [(.agg (Fld.cs a)),(.bool true)]))
(.run 0 Q0a (yS189 e b (g.map Fld.av) h (w64 (i + 1)) f j c d))) := lM 7
theorem p99_c (hC : Ext C) {a : Ex} {b : Int} : LC C o 99 (mk0 11 [vv 0 (.agg (Ex.cs a)),vi 1 b]) [(.agg (Ex.cs a)),(i6 b)] Hp.none 0 := lC hC
theorem p99_0 {a b} : LR C o 99 [] (mk0 11 [vv 0 (.agg (Ex.cs a)),vi 1 b]) (rt (.tuple [(i6 0),(.vs 2 true [(.agg [(i6 a.at_),(i6 b)])])])) := lR 5
theorem p101_c (hC : Ext C) {b : List UInt8} {a : Bool} {c : List AV} : LC C o 101 (mk0 59 [vt 0 b,vv 1 (.vs 1 a c)]) [(.str b),(.vs 1 a c)] Hp.none 0 := lC hC
theorem p101_0 {c b a} : LR C o 101 [] (mk0 59 [vt 0 c,vv 1 (.vs 1 b a)]) (.br (decide (0 < (a.length : Int)))
(.bind (nth a 0) fun d =>
(.mid 0 [0,5,0] 2 (mk0 59 [vt 0 c,vv 1 (.vs 1 b a),vv 9 (.vs 1 b a),vv 10 (.cptr (AV.cells d))]))) .none) := lR 4
abbrev yS194 := fun a (b : Bool) (c : List AV) d e f g => mk0 59 [vt 0 a,vv 1 (.vs 1 b c),vv 9 (.vs 1 b c),vv 10 (.cptr [(i6 d)]),vi 11 d,vv 12 (.vs 1 b c),vv 13 (.vs 1 b c),vi 14 e,vi 15 f,vv 16 (.cptr g)]
theorem p101_1 {d b a c} : LM C o 101 [0,5,0] 2 (mk0 59 [vt 0 d,vv 1 (.vs 1 b a),vv 9 (.vs 1 b a),vv 10 (.cptr [(i6 c)])]) (ix a (w64 ((a.length : Int) - 1)) fun e =>
(.mid 0 [0,5,0] 8 (yS194 d b a c (a.length : Int) (w64 ((a.length : Int) - 1)) (AV.cells e)))) := lM 0
theorem p101_2 {a d e c b f g} : LM C o 101 [0,5,0] 8 (yS194 a d e c f g [(i6 b)]) (.br (decide (c = 1))
(.br (decide (c = 3))
(.br (eqS a [43])
(.br (decide (b = 1))
(rt (i6 1))
(rt (i6 0)))
(.br (eqS a [45])
(.br (decide (b = 1))
(rt (i6 1))
(rt (i6 0)))
(.br (eqS a [42])
(.br (decide (b = 1))
(rt (i6 1))
(rt (i6 0)))
(.br (eqS a [33])
(.br (decide (b = 3))
(rt (i6 3))
(rt (i6 0)))
(.br (eqS a [38,38])
(.br (decide (b = 3))
(rt (i6 3))
(rt (i6 0)))
(.br (eqS a [124,124])
(.br (decide (b = 3))
(rt (i6 3))
(rt (i6 0)))
(.br (eqS a [61,61])
(.br (decide (c = b))
(rt (i6 3))
(rt (i6 0)))
(.br (eqS a [33,61])
(.br (decide (c = b))
(rt (i6 3))
(rt (i6 0)))
(.br (eqS a [60])
(.br (decide (c = b))
(.br (!(decide (b = 3)))
(rt (i6 3))
(rt (i6 0)))
(rt (i6 0)))
(.br (eqS a [60,61])
(.br (decide (c = b))
(.br (!(decide (b = 3)))
(rt (i6 3))
(rt (i6 0)))
(rt (i6 0)))
(.br (eqS a [62])
(.br (decide (c = b))
(.br (!(decide (b = 3)))
(rt (i6 3))
(rt (i6 0)))
(rt (i6 0)))
(.br (eqS a [62,61])
(.br (decide (c = b))
(.br (!(decide (b = 3)))
(rt (i6 3))
(rt (i6 0)))
(rt (i6 0)))
(rt (i6 0))))))))))))))
(.br (eqS a [43])
(.br (decide (b = 1))
(rt (i6 1))
(rt (i6 0)))
(.br (eqS a [45])
(.br (decide (b = 1))
(rt (i6 1))
(rt (i6 0)))
(.br (eqS a [42])
(.br (decide (b = 1))
(rt (i6 1))
(rt (i6 0)))
(.br (eqS a [33])
(rt (i6 0))
(.br (eqS a [38,38])
(rt (i6 0))
(.br (eqS a [124,124])
(rt (i6 0))
(.br (eqS a [61,61])
(.br (decide (c = b))
(rt (i6 3))
(rt (i6 0)))
(.br (eqS a [33,61])
(.br (decide (c = b))
(rt (i6 3))
(rt (i6 0)))
(.br (eqS a [60])
(.br (decide (c = b))
(rt (i6 3))
(rt (i6 0)))
(.br (eqS a [60,61])
(.br (decide (c = b))
(rt (i6 3))
(rt (i6 0)))
(.br (eqS a [62])
(.br (decide (c = b))
(rt (i6 3))
(rt (i6 0)))
(.br (eqS a [62,61])
(.br (decide (c = b))
(rt (i6 3))
(rt (i6 0)))
(rt (i6 0)))))))))))))))
(.br (decide (c = 3))
(.br (eqS a [43])
(rt (i6 0))
(.br (eqS a [45])
(rt (i6 0))
(.br (eqS a [42])
(rt (i6 0))
(.br (eqS a [33])
(.br (decide (b = 3))
(rt (i6 3))
(rt (i6 0)))
(.br (eqS a [38,38])
(.br (decide (b = 3))
(rt (i6 3))
(rt (i6 0)))
(.br (eqS a [124,124])
(.br (decide (b = 3))
(rt (i6 3))
(rt (i6 0)))
(.br (eqS a [61,61])
(.br (decide (c = b))
(rt (i6 3))
(rt (i6 0)))
(.br (eqS a [33,61])
(.br (decide (c = b))
(rt (i6 3))
(rt (i6 0)))
(.br (eqS a [60])
(.br (decide (c = b))
(.br (!(decide (b = 3)))
(rt (i6 3))
(rt (i6 0)))
(rt (i6 0)))
(.br (eqS a [60,61])
(.br (decide (c = b))
(.br (!(decide (b = 3)))
(rt (i6 3))
(rt (i6 0)))
(rt (i6 0)))
(.br (eqS a [62])
(.br (decide (c = b))
(.br (!(decide (b = 3)))
(rt (i6 3))
(rt (i6 0)))
(rt (i6 0)))
(.br (eqS a [62,61])
(.br (decide (c = b))
(.br (!(decide (b = 3)))
(rt (i6 3))
(rt (i6 0)))
(rt (i6 0)))
(rt (i6 0))))))))))))))
(.br (eqS a [43])
(rt (i6 0))
(.br (eqS a [45])
(rt (i6 0))
(.br (eqS a [42])
(rt (i6 0))
(.br (eqS a [33])
(rt (i6 0))
(.br (eqS a [38,38])
(rt (i6 0))
(.br (eqS a [124,124])
(rt (i6 0))
(.br (eqS a [61,61])
(.br (decide (c = b))
(rt (i6 3))
(rt (i6 0)))
(.br (eqS a [33,61])
(.br (decide (c = b))
(rt (i6 3))
(rt (i6 0)))
(.br (eqS a [60])
(.br (decide (c = b))
(rt (i6 3))
(rt (i6 0)))
(.br (eqS a [60,61])
(.br (decide (c = b))
(rt (i6 3))
(rt (i6 0)))
(.br (eqS a [62])
(.br (decide (c = b))
(rt (i6 3))
(rt (i6 0)))
(.br (eqS a [62,61])
(.br (decide (c = b))
(rt (i6 3))
(rt (i6 0)))
(rt (i6 0)))))))))))))))) := lM 50
theorem p164_c (hC : Ext C) {a : Sc} {b : List UInt8} : LC C o 164 (mk0 31 [vv 0 (.agg (Sc.cs a)),vt 1 b]) [(.agg (Sc.cs a)),(.str b)] Hp.none 0 := lC hC
abbrev yS196 := fun a (b : Bool) c d e (f : Sc) (g : List UInt8) (h i j : Int) => mkS 31 [vt 1 a,(2,.lp 2 0),(4,.lp 4 0),vv 9 (.vs 3 b c),vi 10 d,vi 11 e] [(2,⟨(Sc.cs f),[]⟩),(4,⟨[(.str g),(i6 h),(i6 i),(i6 j)],[]⟩)] Hp.none 0
theorem p164_0 {a b} : LR C o 164 [] (mk0 31 [vv 0 (.agg (Sc.cs a)),vt 1 b]) (.run 0 Q0a (yS196 b a.tg (a.ps.map Par.av) ((a.ps.map Par.av).length : Int) 0 a [] 0 0 0)) := lR 7
abbrev yS197 := fun a (b : Bool) (c : List Par) d e f (g : Sc) (h : List UInt8) (i j k : Int) => mkS 31 [vt 1 a,(2,.lp 2 0),(4,.lp 4 0),vv 9 (.vs 3 b (c.map Par.av)),vi 10 d,vi 11 e,vb 12 true,vv 13 (.cptr f)] [(2,⟨(Sc.cs g),[]⟩),(4,⟨[(.str h),(i6 i),(i6 j),(i6 k)],[]⟩)] Hp.none 0
abbrev yS198 := fun a (b : Sc) c (d : List UInt8) (e f g : Int) => mkS 31 [vt 1 a,(2,.lp 2 0),(4,.lp 4 0),vb 23 false,(25,.lp 2 0),vv 26 (.agg (Typ.cs b.t)),vt 27 a,vv 28 c] [(2,⟨(Sc.cs b),[]⟩),(4,⟨[(.str d),(i6 e),(i6 f),(i6 g)],[]⟩)] Hp.none 0
theorem p164_1 {b e} {d : List UInt8} {f : List Par} {g c h i j : Int} {a : Sc} : LR C o 164 Q0a (yS196 b e (f.map Par.av) g c a d h i j) (.br (decide (c < g))
(ix (f.map Par.av) c fun l =>
(.mid 3 qN0 1 (yS197 b e f g c (AV.cells l) a d h i j)))
(.br (!a.q)
(rt (.tuple [(.agg [(.str []),(i6 0),(i6 0),(i6 0)]),(.bool false)]))
(cl0 94 [(.agg (Typ.cs a.t)),(.str b)] fun k => .br (AV.pure k.v)
(.mid 0 Q2s 4 (yS198 b a k.v d h i j)) .none))) := lR 12
theorem p164_2 {a b d e f k} {c : List UInt8} {g h i : Int} {j : Sc} : LM C o 164 qN0 1 (yS197 a b d e f (Par.cs k) j c g h i) (.br (eqS k.name a)
(rt (.tuple [(.agg [(.str []),(i6 0),(i6 0),(i6 0)]),(.bool false)]))
(.run 0 Q0a (yS196 a b (d.map Par.av) e (w64 (f + 1)) j c g h i))) := lM 7
theorem p164_3 {a b f_35 c} {d : List UInt8} {e f g : Int} : LM C o 164 Q2s 4 (yS198 a b (.tuple [(.agg (Fld.cs f_35)),(.bool c)]) d e f g) (rt (.tuple [(.agg (Fld.cs f_35)),(.bool c)])) := lM 1
theorem p97_c (hC : Ext C) {a : Sc} {b : Ex} : LC C o 97 (mk0 53 [vv 0 (.agg (Sc.cs a)),vv 1 (.agg (Ex.cs b))]) [(.agg (Sc.cs a)),(.agg (Ex.cs b))] Hp.none 0 := lC hC
abbrev yS200 := fun (a : Bool) b c d (e : Sc) (f : Ex) => mkS 53 [(2,.lp 2 0),(3,.lp 3 0),vv 11 (.vs 3 a b),vi 12 c,vi 13 d] [(2,⟨(Sc.cs e),[]⟩),(3,⟨(Ex.cs f),[]⟩)] Hp.none 0
theorem p97_0 {a b} : LR C o 97 [] (mk0 53 [vv 0 (.agg (Sc.cs a)),vv 1 (.agg (Ex.cs b))]) (.run 0 Q0a (yS200 a.tg (a.ps.map Par.av) ((a.ps.map Par.av).length : Int) 0 a b)) := lR 7
abbrev yS201 := fun (a : Bool) (b : List Par) c d e (f : Sc) (g : Ex) => mkS 53 [(2,.lp 2 0),(3,.lp 3 0),vv 11 (.vs 3 a (b.map Par.av)),vi 12 c,vi 13 d,vb 14 true,vv 15 (.cptr e)] [(2,⟨(Sc.cs f),[]⟩),(3,⟨(Ex.cs g),[]⟩)] Hp.none 0
abbrev yS202 := fun (a : Bool) (b : List Par) c d (e : Sc) (f : Ex) g => mkS 53 [(2,.lp 2 0),(3,.lp 3 0),vv 11 (.vs 3 a (b.map Par.av)),vi 12 c,vi 13 d,vb 14 false,vv 26 (.agg (Sc.cs e)),(27,.lp 3 2),vt 28 f.s,vv 29 g] [(2,⟨(Sc.cs e),[]⟩),(3,⟨(Ex.cs f),[]⟩)] Hp.none 0
theorem p97_1 {d} {e : List Par} {f a : Int} {b : Sc} {c : Ex} : LR C o 97 Q0a (yS200 d (e.map Par.av) f a b c) (.br (decide (a < f))
(ix (e.map Par.av) a fun h =>
(.mid 0 qN0 1 (yS201 d e f a (AV.cells h) b c)))
(cl0 164 [(.agg (Sc.cs b)),(.str c.s)] fun g => .br (AV.pure g.v)
(.mid 2 Q1p 4 (yS202 d e f a b c g.v)) .none)) := lR 9
theorem p97_2 {a d e f c} {g : Sc} {b : Ex} : LM C o 97 qN0 1 (yS201 a d e f (Par.cs c) g b) (.br (eqS c.name b.s)
(rt (.tuple [(i6 c.type),(.vs 2 true [])]))
(.run 0 Q0a (yS200 a (d.map Par.av) e (w64 (f + 1)) g b))) := lM 7
theorem p97_3 {d b e f g c a f_46} : LM C o 97 Q1p 4 (yS202 d e f g c a (.tuple [(.agg (Fld.cs f_46)),(.bool b)])) (.br (!b)
(cl0 99 [(.agg (Ex.cs a)),(i6 6)] fun h => .br (AV.pure h.v)
(.mid 19 qN9 2 (mkS 53 [(3,.lp 3 0),(8,.lp 8 0),vb 33 true,vv 34 (.agg (Ex.cs a)),(35,.val h.v (.comps [1]))] [(3,⟨(Ex.cs a),[]⟩),(8,⟨(Fld.cs f_46),[]⟩)] Hp.none 0)) .none)
(.br (decide (f_46.kind = 1))
(rt (.tuple [(i6 f_46.type),(.vs 2 true [])]))
(.br (decide (f_46.kind = 2))
(rt (.tuple [(i6 1),(.vs 2 true [])]))
(.br (decide (f_46.kind = 3))
(rt (.tuple [(i6 1),(.vs 2 true [])]))
(.br (decide (f_46.kind = 5))
(rt (.tuple [(i6 3),(.vs 2 true [])]))
(cl0 99 [(.agg (Ex.cs a)),(i6 12)] fun i => .br (AV.pure i.v)
(.mid 0 qN10 2 (mkS 53 [(3,.lp 3 0),vb 47 false,vv 49 (.agg (Ex.cs a)),(50,.val i.v (.comps [1]))] [(3,⟨(Ex.cs a),[]⟩)] Hp.none 0)) .none)))))) := lM 25
theorem p97_4 {b f_46 c a} {d : List Dg} : LM C o 97 qN9 2 (mkS 53 [(3,.lp 3 0),(8,.lp 8 0),vb 33 true,vv 34 (.agg (Ex.cs b)),(35,.val (.tuple [(i6 c),(.vs 2 a (d.map Dg.av))]) (.comps [1]))] [(3,⟨(Ex.cs b),[]⟩),(8,⟨(Fld.cs f_46),[]⟩)] Hp.none 0) (rt (.tuple [(i6 c),(.vs 2 a (d.map Dg.av))])) := lM 1
theorem p97_5 {b c a} {d : List Dg} : LM C o 97 qN10 2 (mkS 53 [(3,.lp 3 0),vb 47 false,vv 49 (.agg (Ex.cs b)),(50,.val (.tuple [(i6 c),(.vs 2 a (d.map Dg.av))]) (.comps [1]))] [(3,⟨(Ex.cs b),[]⟩)] Hp.none 0) (rt (.tuple [(i6 c),(.vs 2 a (d.map Dg.av))])) := lM 1
theorem p98_c (hC : Ext C) {a : Sc} {b : Ex} : LC C o 98 (mk0 39 [vv 0 (.agg (Sc.cs a)),vv 1 (.agg (Ex.cs b))]) [(.agg (Sc.cs a)),(.agg (Ex.cs b))] Hp.none 0 := lC hC
abbrev yS204 := fun (a : Sc) (b : Ex) c => mkS 39 [(2,.lp 2 0),(3,.lp 3 0),(9,.lp 2 0),vv 10 (.agg (Typ.cs a.t)),(11,.lp 3 2),vt 12 b.s,vv 13 c] [(2,⟨(Sc.cs a),[]⟩),(3,⟨(Ex.cs b),[]⟩)] Hp.none 0
theorem p98_0 {a b} : LR C o 98 [] (mk0 39 [vv 0 (.agg (Sc.cs a)),vv 1 (.agg (Ex.cs b))]) (cl0 94 [(.agg (Typ.cs a.t)),(.str b.s)] fun c => .br (AV.pure c.v)
(.mid 0 [0,5,0] 5 (yS204 a b c.v)) .none) := lR 4
theorem p98_1 {c a b d} : LM C o 98 [0,5,0] 5 (yS204 c a (.tuple [(.agg (Fld.cs b)),(.bool d)])) (.br (!c.q)
(cl0 99 [(.agg (Ex.cs a)),(i6 10)] fun e => .br (AV.pure e.v)
(.mid 9 Q0q 2 (mkS 39 [(3,.lp 3 0),(6,.lp 6 0),vb 7 d,vb 16 true,vv 20 (.agg (Ex.cs a)),(21,.val e.v (.comps [1]))] [(3,⟨(Ex.cs a),[]⟩),(6,⟨(Fld.cs b),[]⟩)] Hp.none 0)) .none)
(.br (!d)
(cl0 99 [(.agg (Ex.cs a)),(i6 6)] fun f => .br (AV.pure f.v)
(.mid 6 Q19 2 (mkS 39 [(3,.lp 3 0),(6,.lp 6 0),vb 24 true,vv 27 (.agg (Ex.cs a)),(28,.val f.v (.comps [1]))] [(3,⟨(Ex.cs a),[]⟩),(6,⟨(Fld.cs b),[]⟩)] Hp.none 0)) .none)
(.br (!(decide (b.kind = 4)))
(cl0 99 [(.agg (Ex.cs a)),(i6 12)] fun g => .br (AV.pure g.v)
(.mid 3 Q1s 2 (mkS 39 [(3,.lp 3 0),vb 31 true,vv 35 (.agg (Ex.cs a)),(36,.val g.v (.comps [1]))] [(3,⟨(Ex.cs a),[]⟩)] Hp.none 0)) .none)
(rt (.tuple [(i6 1),(.vs 2 true [])]))))) := lM 16
theorem p98_2 {b e f a c} {d : List Dg} : LM C o 98 Q0q 2 (mkS 39 [(3,.lp 3 0),(6,.lp 6 0),vb 7 f,vb 16 true,vv 20 (.agg (Ex.cs b)),(21,.val (.tuple [(i6 c),(.vs 2 a (d.map Dg.av))]) (.comps [1]))] [(3,⟨(Ex.cs b),[]⟩),(6,⟨(Fld.cs e),[]⟩)] Hp.none 0) (rt (.tuple [(i6 c),(.vs 2 a (d.map Dg.av))])) := lM 1
theorem p98_3 {b e c a} {d : List Dg} : LM C o 98 Q19 2 (mkS 39 [(3,.lp 3 0),(6,.lp 6 0),vb 24 true,vv 27 (.agg (Ex.cs b)),(28,.val (.tuple [(i6 c),(.vs 2 a (d.map Dg.av))]) (.comps [1]))] [(3,⟨(Ex.cs b),[]⟩),(6,⟨(Fld.cs e),[]⟩)] Hp.none 0) (rt (.tuple [(i6 c),(.vs 2 a (d.map Dg.av))])) := lM 1
theorem p98_4 {b c a} {d : List Dg} : LM C o 98 Q1s 2 (mkS 39 [(3,.lp 3 0),vb 31 true,vv 35 (.agg (Ex.cs b)),(36,.val (.tuple [(i6 c),(.vs 2 a (d.map Dg.av))]) (.comps [1]))] [(3,⟨(Ex.cs b),[]⟩)] Hp.none 0) (rt (.tuple [(i6 c),(.vs 2 a (d.map Dg.av))])) := lM 1
theorem p100_c (hC : Ext C) {a : Sc} {b : Ex} : LC C o 100 (mk0 93 [vv 0 (.agg (Sc.cs a)),vv 1 (.agg (Ex.cs b))]) [(.agg (Sc.cs a)),(.agg (Ex.cs b))] Hp.none 0 := lC hC
abbrev yS206 := fun (a : Sc) (b : Ex) c => mkS 93 [(2,.lp 2 0),(3,.lp 3 0),(6,.val (.vs 2 true []) .own),vb 7 false,vv 20 (.agg (Sc.cs a)),(21,.lp 3 3),vv 22 (.vs 5 b.tg (exs b.l)),vv 23 (.cptr c)] [(2,⟨(Sc.cs a),[]⟩),(3,⟨(Ex.cs b),[]⟩)] Hp.none 0
theorem p100_0 {b a} : LR C o 100 [] (mk0 93 [vv 0 (.agg (Sc.cs b)),vv 1 (.agg (Ex.cs a))]) (.br (!b.q)
(cl0 99 [(.agg (Ex.cs a)),(i6 10)] fun c => .br (AV.pure c.v)
(.mid 6 Q0c 2 (mkS 93 [(2,.lp 2 0),(3,.lp 3 0),vb 14 true,vv 15 (.agg (Ex.cs a)),(16,.val c.v (.comps [1]))] [(2,⟨(Sc.cs b),[]⟩),(3,⟨(Ex.cs a),[]⟩)] Hp.none 0)) .none)
(.br (decide (0 < ((exs a.l).length : Int)))
(.bind (nth (exs a.l) 0) fun d =>
(.mid 0 qN3 4 (yS206 b a (AV.cells d)))) .none)) := lR 14
theorem p100_1 {e b c a} {d : List Dg} : LM C o 100 Q0c 2 (mkS 93 [(2,.lp 2 0),(3,.lp 3 0),vb 14 true,vv 15 (.agg (Ex.cs b)),(16,.val (.tuple [(i6 c),(.vs 2 a (d.map Dg.av))]) (.comps [1]))] [(2,⟨(Sc.cs e),[]⟩),(3,⟨(Ex.cs b),[]⟩)] Hp.none 0) (rt (.tuple [(i6 c),(.vs 2 a (d.map Dg.av))])) := lM 1
abbrev yS207 := fun (a : Sc) (b c : Ex) d => mkS 93 [(2,.lp 2 0),(3,.lp 3 0),(6,.val (.vs 2 true []) .own),vb 7 false,vv 20 (.agg (Sc.cs a)),(21,.lp 3 3),vv 22 (.vs 5 b.tg (exs b.l)),vv 23 (.cptr (Ex.cs c)),vv 24 (.cptr [(.str c.s),(.vs 5 c.tg (exs c.l)),(i6 c.at_)]),vt 25 c.s,vv 26 d] [(2,⟨(Sc.cs a),[]⟩),(3,⟨(Ex.cs b),[]⟩)] Hp.none 0
theorem p100_2 {b c a} : LM C o 100 qN3 4 (yS206 b c (Ex.cs a)) (.br (za3 [(.agg (Sc.cs b)),(.str a.s)])
(cl0 164 [(.agg (Sc.cs b)),(.str a.s)] fun d => .br (AV.pure d.v)
(.br (AV.pure d.v)
(.mid 0 qN3 7 (yS207 b c a d.v)) .none) .none) .none) := lM 0
abbrev yS208 := fun a (b : Ex) c (d : Sc) (e : Fld) => mkS 93 [(2,.lp 2 0),(3,.lp 3 0),(6,.val (.vs 2 true []) .own),vb 7 false,(8,.lp 8 0),vb 9 a,(29,.lp 3 3),vv 30 (.vs 5 b.tg (exs b.l)),vv 31 (.cptr c)] [(2,⟨(Sc.cs d),[]⟩),(3,⟨(Ex.cs b),[]⟩),(8,⟨(Fld.cs e),[]⟩)] Hp.none 0
theorem p100_3 {c a b d e} : LM C o 100 qN3 7 (yS207 c a b (.tuple [(.agg (Fld.cs d)),(.bool e)])) (.br (decide (0 < ((exs a.l).length : Int)))
(.bind (nth (exs a.l) 0) fun f =>
(.mid 0 Q1k 3 (yS208 e a (AV.cells f) c d))) .none) := lM 2
abbrev yS209 := fun (a : Sc) (b : Ex) c => mkS 93 [(2,.lp 2 0),(3,.lp 3 0),(6,.val (.vs 2 true []) .own),vb 7 false,vb 43 true,vv 45 (.agg (Sc.cs a)),(46,.lp 3 3),vv 47 (.vs 5 b.tg (exs b.l)),vv 48 (.cptr c)] [(2,⟨(Sc.cs a),[]⟩),(3,⟨(Ex.cs b),[]⟩)] Hp.none 0
abbrev yS210 := fun (a : Sc) (b : Ex) c => mkS 93 [(2,.lp 2 0),(3,.lp 3 0),(6,.val (.vs 2 true []) .own),vb 7 false,vb 43 false,vv 61 (.agg (Sc.cs a)),(62,.lp 3 3),vv 63 (.vs 5 b.tg (exs b.l)),vv 64 (.cptr c)] [(2,⟨(Sc.cs a),[]⟩),(3,⟨(Ex.cs b),[]⟩)] Hp.none 0
theorem p100_4 {a c e} {b : Sc} {d : Fld} : LM C o 100 Q1k 3 (yS208 e a (Ex.cs c) b d) (.br (!(decide (c.kind = 4)))
(.br (decide (0 < ((exs a.l).length : Int)))
(.bind (nth (exs a.l) 0) fun f =>
(.mid 1 qN1 4 (yS209 b a (AV.cells f)))) .none)
(.br (!e)
(.br (decide (0 < ((exs a.l).length : Int)))
(.bind (nth (exs a.l) 0) fun g =>
(.mid 1 qN1 4 (yS209 b a (AV.cells g)))) .none)
(.br (!(decide (d.kind = 4)))
(.br (decide (0 < ((exs a.l).length : Int)))
(.bind (nth (exs a.l) 0) fun h =>
(.mid 1 qN1 4 (yS209 b a (AV.cells h)))) .none)
(.br (decide (1 < ((exs a.l).length : Int)))
(.bind (nth (exs a.l) 1) fun i =>
(.mid 0 qN4 4 (yS210 b a (AV.cells i)))) .none)))) := lM 4
theorem p100_5 {b a c} : LM C o 100 qN1 4 (yS209 b a (Ex.cs c)) (cl0 52 [(.agg (Sc.cs b)),(.agg (Ex.cs c))] fun d => .br (AV.pure d.v)
(.mid 0 qN1 6 (mkS 93 [(2,.lp 2 0),(3,.lp 3 0),(6,.val (.vs 2 true []) .own),vb 7 false,vb 43 true,vv 45 (.agg (Sc.cs b)),(46,.lp 3 3),vv 47 (.vs 5 a.tg (exs a.l)),vv 48 (.cptr (Ex.cs c)),vv 49 (.agg (Ex.cs c)),(50,.val d.v (.comps [1]))] [(2,⟨(Sc.cs b),[]⟩),(3,⟨(Ex.cs a),[]⟩)] Hp.none 0)) .none) := lM 0
theorem p100_6 {b a c} : LM C o 100 qN4 4 (yS210 b a (Ex.cs c)) (cl0 52 [(.agg (Sc.cs b)),(.agg (Ex.cs c))] fun d => .br (AV.pure d.v)
(.mid 0 qN4 6 (mkS 93 [(2,.lp 2 0),(3,.lp 3 0),(6,.val (.vs 2 true []) .own),vb 7 false,vb 43 false,vv 61 (.agg (Sc.cs b)),(62,.lp 3 3),vv 63 (.vs 5 a.tg (exs a.l)),vv 64 (.cptr (Ex.cs c)),vv 65 (.agg (Ex.cs c)),(66,.val d.v (.comps [1]))] [(2,⟨(Sc.cs b),[]⟩),(3,⟨(Ex.cs a),[]⟩)] Hp.none 0)) .none) := lM 0
abbrev yS211 := fun (a : Ex) (b : Sc) c => mkS 93 [(2,.lp 2 0),(3,.lp 3 0),vv 6 (.vs 2 true [(.agg [(i6 a.at_),(i6 12)])]),vb 7 true,vv 61 (.agg (Sc.cs b)),(62,.lp 3 3),vv 63 (.vs 5 a.tg (exs a.l)),vv 64 (.cptr c)] [(2,⟨(Sc.cs b),[]⟩),(3,⟨(Ex.cs a),[]⟩)] Hp.none 0
theorem p100_7 {b e f c} {a : Ex} {d : List Dg} : LM C o 100 qN1 6 (mkS 93 [(2,.lp 2 0),(3,.lp 3 0),(6,.val (.vs 2 true []) .own),vb 7 false,vb 43 true,vv 45 (.agg (Sc.cs b)),(46,.lp 3 3),vv 47 (.vs 5 a.tg (exs a.l)),vv 48 (.cptr (Ex.cs e)),vv 49 (.agg (Ex.cs e)),(50,.val (.tuple [(i6 f),(.vs 2 c (d.map Dg.av))]) (.comps [1]))] [(2,⟨(Sc.cs b),[]⟩),(3,⟨(Ex.cs a),[]⟩)] Hp.none 0) (.br (za3 [(.tuple [(i6 f),(.vs 2 c (d.map Dg.av))])])
(.br (decide (((d.map Dg.av).length : Int) = 0))
(.br (decide (1 < ((exs a.l).length : Int)))
(.bind (nth (exs a.l) 1) fun g =>
(.mid 0 qN5 4 (yS211 a b (AV.cells g)))) .none)
(.br (decide (1 < ((exs a.l).length : Int)))
(.bind (nth (exs a.l) 1) fun h =>
(.mid 0 qN6 4 (mkS 93 [(2,.lp 2 0),(3,.lp 3 0),(6,.val (.vs 2 c (d.map Dg.av)) .own),vb 7 false,vb 55 false,vv 61 (.agg (Sc.cs b)),(62,.lp 3 3),vv 63 (.vs 5 a.tg (exs a.l)),vv 64 (.cptr (AV.cells h))] [(2,⟨(Sc.cs b),[]⟩),(3,⟨(Ex.cs a),[]⟩)] Hp.none 0))) .none)) .none) := lM 6
theorem p100_8 {e f d b} {c : Ex} {a : List Dg} : LM C o 100 qN4 6 (mkS 93 [(2,.lp 2 0),(3,.lp 3 0),(6,.val (.vs 2 true []) .own),vb 7 false,vb 43 false,vv 61 (.agg (Sc.cs e)),(62,.lp 3 3),vv 63 (.vs 5 c.tg (exs c.l)),vv 64 (.cptr (Ex.cs f)),vv 65 (.agg (Ex.cs f)),(66,.val (.tuple [(i6 d),(.vs 2 b (a.map Dg.av))]) (.comps [1]))] [(2,⟨(Sc.cs e),[]⟩),(3,⟨(Ex.cs c),[]⟩)] Hp.none 0) (.br (za3 [(.tuple [(i6 d),(.vs 2 b (a.map Dg.av))])])
(.br (za3 [(.tuple [(i6 d),(.vs 2 b (a.map Dg.av))])])
(.br (AV.pure (.vs 2 b (a.map Dg.av)))
(.br (Nat.ble ((0 + (a.map Dg.av).length) * 16) za5)
(.br (Nat.ble (0 + (a.map Dg.av).length) za5)
(.br (decide (((a.map Dg.av).length : Int) = 0))
(.br (!(decide (d = 2)))
(.br (Nat.ble ((([] ++ (a.map Dg.av)).length + 1) * 16) za5)
(.br (Nat.ble (([] ++ (a.map Dg.av)).length + 1) za5)
(.br (decide (0 < (List.length (([] ++ (a.map Dg.av)) ++ [(.agg [(i6 c.at_),(i6 12)])]) : Int)))
(rt (.tuple [(i6 0),(.vs 2 false (([] ++ (a.map Dg.av)) ++ [(.agg [(i6 c.at_),(i6 12)])]))]))
(rt (.tuple [(i6 3),(.vs 2 true [])]))) .none) .none)
(.br (decide (0 < (([] ++ (a.map Dg.av)).length : Int)))
(rt (.tuple [(i6 0),(.vs 2 false ([] ++ (a.map Dg.av)))]))
(rt (.tuple [(i6 3),(.vs 2 true [])]))))
(.br (decide (0 < (([] ++ (a.map Dg.av)).length : Int)))
(rt (.tuple [(i6 0),(.vs 2 false ([] ++ (a.map Dg.av)))]))
(rt (.tuple [(i6 3),(.vs 2 true [])])))) .none) .none) .none) .none) .none) := lM 15
theorem p100_9 {b a c} : LM C o 100 qN5 4 (yS211 a b (Ex.cs c)) (cl0 52 [(.agg (Sc.cs b)),(.agg (Ex.cs c))] fun d => .br (AV.pure d.v)
(.mid 0 qN5 6 (mkS 93 [(2,.lp 2 0),(3,.lp 3 0),vv 6 (.vs 2 true [(.agg [(i6 a.at_),(i6 12)])]),vb 7 true,vv 61 (.agg (Sc.cs b)),(62,.lp 3 3),vv 63 (.vs 5 a.tg (exs a.l)),vv 64 (.cptr (Ex.cs c)),vv 65 (.agg (Ex.cs c)),(66,.val d.v (.comps [1]))] [(2,⟨(Sc.cs b),[]⟩),(3,⟨(Ex.cs a),[]⟩)] Hp.none 0)) .none) := lM 0
theorem p100_10 {b c d} {a : Ex} {e : List Dg} : LM C o 100 qN6 4 (mkS 93 [(2,.lp 2 0),(3,.lp 3 0),(6,.val (.vs 2 d (e.map Dg.av)) .own),vb 7 false,vb 55 false,vv 61 (.agg (Sc.cs b)),(62,.lp 3 3),vv 63 (.vs 5 a.tg (exs a.l)),vv 64 (.cptr (Ex.cs c))] [(2,⟨(Sc.cs b),[]⟩),(3,⟨(Ex.cs a),[]⟩)] Hp.none 0) (cl0 52 [(.agg (Sc.cs b)),(.agg (Ex.cs c))] fun f => .br (AV.pure f.v)
(.mid 0 qN6 6 (mkS 93 [(2,.lp 2 0),(3,.lp 3 0),(6,.val (.vs 2 d (e.map Dg.av)) .own),vb 7 false,vb 55 false,vv 61 (.agg (Sc.cs b)),(62,.lp 3 3),vv 63 (.vs 5 a.tg (exs a.l)),vv 64 (.cptr (Ex.cs c)),vv 65 (.agg (Ex.cs c)),(66,.val f.v (.comps [1]))] [(2,⟨(Sc.cs b),[]⟩),(3,⟨(Ex.cs a),[]⟩)] Hp.none 0)) .none) := lM 0
theorem p100_11 {e f d c} {b : Ex} {a : List Dg} : LM C o 100 qN5 6 (mkS 93 [(2,.lp 2 0),(3,.lp 3 0),vv 6 (.vs 2 true [(.agg [(i6 b.at_),(i6 12)])]),vb 7 true,vv 61 (.agg (Sc.cs e)),(62,.lp 3 3),vv 63 (.vs 5 b.tg (exs b.l)),vv 64 (.cptr (Ex.cs f)),vv 65 (.agg (Ex.cs f)),(66,.val (.tuple [(i6 d),(.vs 2 c (a.map Dg.av))]) (.comps [1]))] [(2,⟨(Sc.cs e),[]⟩),(3,⟨(Ex.cs b),[]⟩)] Hp.none 0) (.br (za3 [(.tuple [(i6 d),(.vs 2 c (a.map Dg.av))])])
(.br (za3 [(.tuple [(i6 d),(.vs 2 c (a.map Dg.av))])])
(.br (AV.pure (.vs 2 c (a.map Dg.av)))
(.br (Nat.ble ((1 + (a.map Dg.av).length) * 16) za5)
(.br (Nat.ble (1 + (a.map Dg.av).length) za5)
(.br (decide (0 < (List.length ([(.agg [(i6 b.at_),(i6 12)])] ++ (a.map Dg.av)) : Int)))
(rt (.tuple [(i6 0),(.vs 2 false ([(.agg [(i6 b.at_),(i6 12)])] ++ (a.map Dg.av)))]))
(rt (.tuple [(i6 3),(.vs 2 true [])]))) .none) .none) .none) .none) .none) := lM 15
theorem p100_12 {f g h c e} {d : Ex} {b a : List Dg} : LM C o 100 qN6 6 (mkS 93 [(2,.lp 2 0),(3,.lp 3 0),(6,.val (.vs 2 h (b.map Dg.av)) .own),vb 7 false,vb 55 false,vv 61 (.agg (Sc.cs f)),(62,.lp 3 3),vv 63 (.vs 5 d.tg (exs d.l)),vv 64 (.cptr (Ex.cs g)),vv 65 (.agg (Ex.cs g)),(66,.val (.tuple [(i6 e),(.vs 2 c (a.map Dg.av))]) (.comps [1]))] [(2,⟨(Sc.cs f),[]⟩),(3,⟨(Ex.cs d),[]⟩)] Hp.none 0) (.br (za3 [(.tuple [(i6 e),(.vs 2 c (a.map Dg.av))])])
(.br (za3 [(.tuple [(i6 e),(.vs 2 c (a.map Dg.av))])])
(.br (AV.pure (.vs 2 c (a.map Dg.av)))
(.br (Nat.ble (((b.map Dg.av).length + (a.map Dg.av).length) * 16) za5)
(.br (Nat.ble ((b.map Dg.av).length + (a.map Dg.av).length) za5)
(.br (decide (((a.map Dg.av).length : Int) = 0))
(.br (!(decide (e = 2)))
(.br (Nat.ble ((((b.map Dg.av) ++ (a.map Dg.av)).length + 1) * 16) za5)
(.br (Nat.ble (((b.map Dg.av) ++ (a.map Dg.av)).length + 1) za5)
(.br (decide (0 < (List.length (((b.map Dg.av) ++ (a.map Dg.av)) ++ [(.agg [(i6 d.at_),(i6 12)])]) : Int)))
(rt (.tuple [(i6 0),(.vs 2 false (((b.map Dg.av) ++ (a.map Dg.av)) ++ [(.agg [(i6 d.at_),(i6 12)])]))]))
(rt (.tuple [(i6 3),(.vs 2 true [])]))) .none) .none)
(.br (decide (0 < (((b.map Dg.av) ++ (a.map Dg.av)).length : Int)))
(rt (.tuple [(i6 0),(.vs 2 false ((b.map Dg.av) ++ (a.map Dg.av)))]))
(rt (.tuple [(i6 3),(.vs 2 true [])]))))
(.br (decide (0 < (((b.map Dg.av) ++ (a.map Dg.av)).length : Int)))
(rt (.tuple [(i6 0),(.vs 2 false ((b.map Dg.av) ++ (a.map Dg.av)))]))
(rt (.tuple [(i6 3),(.vs 2 true [])])))) .none) .none) .none) .none) .none) := lM 15
theorem p52_c (hC : Ext C) {a : Sc} {b : Ex} : LC C o 52 (mk0 103 [vv 0 (.agg (Sc.cs a)),vv 1 (.agg (Ex.cs b))]) [(.agg (Sc.cs a)),(.agg (Ex.cs b))] Hp.none 0 := lC hC
theorem p52_0 {b a} : LR C o 52 [] (mk0 103 [vv 0 (.agg (Sc.cs b)),vv 1 (.agg (Ex.cs a))]) (.br (decide (a.kind = 1))
(rt (.tuple [(i6 1),(.vs 2 true [])]))
(.br (decide (a.kind = 2))
(rt (.tuple [(i6 2),(.vs 2 true [])]))
(.br (decide (a.kind = 3))
(rt (.tuple [(i6 3),(.vs 2 true [])]))
(.br (decide (a.kind = 4))
(cl0 97 [(.agg (Sc.cs b)),(.agg (Ex.cs a))] fun c => .br (AV.pure c.v)
(.mid 24 Q28 3 (mkS 103 [(2,.lp 2 0),(3,.lp 3 0),vi 15 a.kind,vb 22 true,vv 24 (.agg (Sc.cs b)),vv 25 (.agg (Ex.cs a)),(26,.val c.v (.comps [1]))] [(2,⟨(Sc.cs b),[]⟩),(3,⟨(Ex.cs a),[]⟩)] Hp.none 0)) .none)
(.br (decide (a.kind = 5))
(cl0 98 [(.agg (Sc.cs b)),(.agg (Ex.cs a))] fun d => .br (AV.pure d.v)
(.mid 21 qN11 3 (mkS 103 [(2,.lp 2 0),(3,.lp 3 0),vb 29 true,vv 31 (.agg (Sc.cs b)),vv 32 (.agg (Ex.cs a)),(33,.val d.v (.comps [1]))] [(2,⟨(Sc.cs b),[]⟩),(3,⟨(Ex.cs a),[]⟩)] Hp.none 0)) .none)
(.br (decide (a.kind = 6))
(.br (!(decide (((exs a.l).length : Int) = 1)))
(cl0 99 [(.agg (Ex.cs a)),(i6 12)] fun e => .br (AV.pure e.v)
(.mid 13 qN7 2 (mkSM 103 [(2,.lp 2 0),(3,.lp 3 0),vb 49 true,vv 50 (.agg (Ex.cs a)),(51,.val e.v (.comps [1]))] [(2,⟨(Sc.cs b),[]⟩),(3,⟨(Ex.cs a),[]⟩)] Hp.none 0 [(36,[((i6 6),(i6 1)),((i6 7),(i6 2))])])) .none)
(.br (eqS a.s [104,97,115])
(.br (decide (a.kind = 7))
(cl0 100 [(.agg (Sc.cs b)),(.agg (Ex.cs a))] fun f => .br (AV.pure f.v)
(.mid 8 qN8 3 (mkSM 103 [(2,.lp 2 0),(3,.lp 3 0),vb 61 true,vv 62 (.agg (Sc.cs b)),vv 63 (.agg (Ex.cs a)),(64,.val f.v (.comps [1]))] [(2,⟨(Sc.cs b),[]⟩),(3,⟨(Ex.cs a),[]⟩)] Hp.none 0 [(36,[((i6 6),(i6 1)),((i6 7),(i6 2))])])) .none)
(.run 0 qN2 (mkSM 103 [(2,.lp 2 0),(3,.lp 3 0),(7,.val (.vs 1 true []) .own),(8,.val (.vs 2 true []) .own),vv 68 (.vs 5 a.tg (exs a.l)),vi 69 ((exs a.l).length : Int),vi 70 0] [(2,⟨(Sc.cs b),[]⟩),(3,⟨(Ex.cs a),[]⟩)] Hp.none 0 [(36,[((i6 6),(i6 1)),((i6 7),(i6 2))])])))
(.run 0 qN2 (mkSM 103 [(2,.lp 2 0),(3,.lp 3 0),(7,.val (.vs 1 true []) .own),(8,.val (.vs 2 true []) .own),vv 68 (.vs 5 a.tg (exs a.l)),vi 69 ((exs a.l).length : Int),vi 70 0] [(2,⟨(Sc.cs b),[]⟩),(3,⟨(Ex.cs a),[]⟩)] Hp.none 0 [(36,[((i6 6),(i6 1)),((i6 7),(i6 2))])]))))
(.br (decide (a.kind = 7))
(.br (!(decide (((exs a.l).length : Int) = 2)))
(cl0 99 [(.agg (Ex.cs a)),(i6 12)] fun g => .br (AV.pure g.v)
(.mid 13 qN7 2 (mkSM 103 [(2,.lp 2 0),(3,.lp 3 0),vb 49 true,vv 50 (.agg (Ex.cs a)),(51,.val g.v (.comps [1]))] [(2,⟨(Sc.cs b),[]⟩),(3,⟨(Ex.cs a),[]⟩)] Hp.none 0 [(36,[((i6 6),(i6 1)),((i6 7),(i6 2))])])) .none)
(.br (eqS a.s [104,97,115])
(.br (decide (a.kind = 7))
(cl0 100 [(.agg (Sc.cs b)),(.agg (Ex.cs a))] fun h => .br (AV.pure h.v)
(.mid 8 qN8 3 (mkSM 103 [(2,.lp 2 0),(3,.lp 3 0),vb 61 true,vv 62 (.agg (Sc.cs b)),vv 63 (.agg (Ex.cs a)),(64,.val h.v (.comps [1]))] [(2,⟨(Sc.cs b),[]⟩),(3,⟨(Ex.cs a),[]⟩)] Hp.none 0 [(36,[((i6 6),(i6 1)),((i6 7),(i6 2))])])) .none)
(.run 0 qN2 (mkSM 103 [(2,.lp 2 0),(3,.lp 3 0),(7,.val (.vs 1 true []) .own),(8,.val (.vs 2 true []) .own),vv 68 (.vs 5 a.tg (exs a.l)),vi 69 ((exs a.l).length : Int),vi 70 0] [(2,⟨(Sc.cs b),[]⟩),(3,⟨(Ex.cs a),[]⟩)] Hp.none 0 [(36,[((i6 6),(i6 1)),((i6 7),(i6 2))])])))
(.run 0 qN2 (mkSM 103 [(2,.lp 2 0),(3,.lp 3 0),(7,.val (.vs 1 true []) .own),(8,.val (.vs 2 true []) .own),vv 68 (.vs 5 a.tg (exs a.l)),vi 69 ((exs a.l).length : Int),vi 70 0] [(2,⟨(Sc.cs b),[]⟩),(3,⟨(Ex.cs a),[]⟩)] Hp.none 0 [(36,[((i6 6),(i6 1)),((i6 7),(i6 2))])]))))
(cl0 99 [(.agg (Ex.cs a)),(i6 12)] fun i => .br (AV.pure i.v)
(.mid 13 qN7 2 (mkSM 103 [(2,.lp 2 0),(3,.lp 3 0),vb 49 true,vv 50 (.agg (Ex.cs a)),(51,.val i.v (.comps [1]))] [(2,⟨(Sc.cs b),[]⟩),(3,⟨(Ex.cs a),[]⟩)] Hp.none 0 [(36,[((i6 6),(i6 1)),((i6 7),(i6 2))])])) .none)))))))) := lR 44
theorem p52_1 {c d b} {a : Ex} {e : List Dg} : LM C o 52 Q28 3 (mkS 103 [(2,.lp 2 0),(3,.lp 3 0),vi 15 a.kind,vb 22 true,vv 24 (.agg (Sc.cs c)),vv 25 (.agg (Ex.cs a)),(26,.val (.tuple [(i6 d),(.vs 2 b (e.map Dg.av))]) (.comps [1]))] [(2,⟨(Sc.cs c),[]⟩),(3,⟨(Ex.cs a),[]⟩)] Hp.none 0) (rt (.tuple [(i6 d),(.vs 2 b (e.map Dg.av))])) := lM 1
theorem p52_2 {c d e a} {b : List Dg} : LM C o 52 qN11 3 (mkS 103 [(2,.lp 2 0),(3,.lp 3 0),vb 29 true,vv 31 (.agg (Sc.cs c)),vv 32 (.agg (Ex.cs d)),(33,.val (.tuple [(i6 e),(.vs 2 a (b.map Dg.av))]) (.comps [1]))] [(2,⟨(Sc.cs c),[]⟩),(3,⟨(Ex.cs d),[]⟩)] Hp.none 0) (rt (.tuple [(i6 e),(.vs 2 a (b.map Dg.av))])) := lM 1
theorem p52_4 {d e b a} {c : List Dg} : LM C o 52 qN8 3 (mkSM 103 [(2,.lp 2 0),(3,.lp 3 0),vb 61 true,vv 62 (.agg (Sc.cs d)),vv 63 (.agg (Ex.cs e)),(64,.val (.tuple [(i6 b),(.vs 2 a (c.map Dg.av))]) (.comps [1]))] [(2,⟨(Sc.cs d),[]⟩),(3,⟨(Ex.cs e),[]⟩)] Hp.none 0 [(36,[((i6 6),(i6 1)),((i6 7),(i6 2))])]) (rt (.tuple [(i6 b),(.vs 2 a (c.map Dg.av))])) := lM 1
theorem p52_5 {a b i c d g h f j e} : LR C o 52 qN2 (mkSM 103 [(2,.lp 2 0),(3,.lp 3 0),(7,.val (.vs 1 a c) .own),(8,.val (.vs 2 b d) .own),vv 68 (.vs 5 i (exs g)),vi 69 h,vi 70 f] [(2,⟨(Sc.cs j),[]⟩),(3,⟨(Ex.cs e),[]⟩)] Hp.none 0 [(36,[((i6 6),(i6 1)),((i6 7),(i6 2))])]) (.br (decide (f < h))
(ix (exs g) f fun l =>
(.mid 4 qN12 1 (mkSM 103 [(2,.lp 2 0),(3,.lp 3 0),(7,.val (.vs 1 a c) .own),(8,.val (.vs 2 b d) .own),vv 68 (.vs 5 i (exs g)),vi 69 h,vi 70 f,vb 71 true,vv 72 (.cptr (AV.cells l))] [(2,⟨(Sc.cs j),[]⟩),(3,⟨(Ex.cs e),[]⟩)] Hp.none 0 [(36,[((i6 6),(i6 1)),((i6 7),(i6 2))])])))
(.br (decide (0 < (d.length : Int)))
(rt (.tuple [(i6 0),(.vs 2 b d)]))
(cl0 101 [(.str e.s),(.vs 1 a c)] fun k => .br (AV.pure k.v)
(.mid 0 qN13 4 (mkSM 103 [(3,.lp 3 0),(7,.val (.vs 1 a c) .own),(8,.val (.vs 2 b d) .own),vb 90 false,(92,.lp 3 2),vt 93 e.s,(94,.val (.vs 1 a c) (.lS 7)),vv 95 k.v] [(3,⟨(Ex.cs e),[]⟩)] Hp.none 0 [(36,[((i6 6),(i6 1)),((i6 7),(i6 2))])])) .none))) := lR 13
theorem p52_6 {c d e f g h i j a k b} : LM C o 52 qN12 1 (mkSM 103 [(2,.lp 2 0),(3,.lp 3 0),(7,.val (.vs 1 c f) .own),(8,.val (.vs 2 d g) .own),vv 68 (.vs 5 e (exs h)),vi 69 i,vi 70 j,vb 71 true,vv 72 (.cptr (Ex.cs b))] [(2,⟨(Sc.cs a),[]⟩),(3,⟨(Ex.cs k),[]⟩)] Hp.none 0 [(36,[((i6 6),(i6 1)),((i6 7),(i6 2))])]) (cl0 52 [(.agg (Sc.cs a)),(.agg (Ex.cs b))] fun l => .br (AV.pure l.v)
(.mid 0 qN14 3 (mkSM 103 [(2,.lp 2 0),(3,.lp 3 0),(7,.val (.vs 1 c f) .own),(8,.val (.vs 2 d g) .own),(10,.lp 10 0),vv 68 (.vs 5 e (exs h)),vi 69 i,vi 70 j,vv 75 (.agg (Sc.cs a)),vv 76 (.agg (Ex.cs b)),(77,.val l.v (.comps [1]))] [(2,⟨(Sc.cs a),[]⟩),(3,⟨(Ex.cs k),[]⟩),(10,⟨(Ex.cs b),[]⟩)] Hp.none 0 [(36,[((i6 6),(i6 1)),((i6 7),(i6 2))])])) .none) := lM 2
theorem p52_7 {c e d f b} {a : Ex} : LM C o 52 qN13 4 (mkSM 103 [(3,.lp 3 0),(7,.val (.vs 1 c d) .own),(8,.val (.vs 2 e f) .own),vb 90 false,(92,.lp 3 2),vt 93 a.s,(94,.val (.vs 1 c d) (.lS 7)),vi 95 b] [(3,⟨(Ex.cs a),[]⟩)] Hp.none 0 [(36,[((i6 6),(i6 1)),((i6 7),(i6 2))])]) (.br (!(decide (b = 0)))
(rt (.tuple [(i6 b),(.vs 2 true [])]))
(cl0 99 [(.agg (Ex.cs a)),(i6 12)] fun g => .br (AV.pure g.v)
(.mid 0 qN15 2 (mkSM 103 [(3,.lp 3 0),vi 13 b,vb 97 false,vv 99 (.agg (Ex.cs a)),(100,.val g.v (.comps [1]))] [(3,⟨(Ex.cs a),[]⟩)] Hp.none 0 [(36,[((i6 6),(i6 1)),((i6 7),(i6 2))])])) .none)) := lM 6
theorem p52_8 {l m e n a b f g h i d j k} {c : List Dg} : LM C o 52 qN14 3 (mkSM 103 [(2,.lp 2 0),(3,.lp 3 0),(7,.val (.vs 1 l a) .own),(8,.val (.vs 2 m b) .own),(10,.lp 10 0),vv 68 (.vs 5 e (exs f)),vi 69 g,vi 70 h,vv 75 (.agg (Sc.cs d)),vv 76 (.agg (Ex.cs k)),(77,.val (.tuple [(i6 i),(.vs 2 n (c.map Dg.av))]) (.comps [1]))] [(2,⟨(Sc.cs d),[]⟩),(3,⟨(Ex.cs j),[]⟩),(10,⟨(Ex.cs k),[]⟩)] Hp.none 0 [(36,[((i6 6),(i6 1)),((i6 7),(i6 2))])]) (.br (Nat.ble ((a.length + 1) * 8) za5)
(.br (Nat.ble (a.length + 1) za5)
(.br (Nat.ble ((b.length + (c.map Dg.av).length) * 16) za5)
(.br (Nat.ble (b.length + (c.map Dg.av).length) za5)
(.run 0 qN2 (mkSM 103 [(2,.lp 2 0),(3,.lp 3 0),(7,.val (.vs 1 false (a ++ [(i6 i)])) .own),(8,.val (.vs 2 false (b ++ (c.map Dg.av))) .own),vv 68 (.vs 5 e (exs f)),vi 69 g,vi 70 (w64 (h + 1))] [(2,⟨(Sc.cs d),[]⟩),(3,⟨(Ex.cs j),[]⟩)] Hp.none 0 [(36,[((i6 6),(i6 1)),((i6 7),(i6 2))])])) .none) .none) .none) .none) := lM 4
theorem p52_9 {b e c a} {d : List Dg} : LM C o 52 qN15 2 (mkSM 103 [(3,.lp 3 0),vi 13 e,vb 97 false,vv 99 (.agg (Ex.cs b)),(100,.val (.tuple [(i6 c),(.vs 2 a (d.map Dg.av))]) (.comps [1]))] [(3,⟨(Ex.cs b),[]⟩)] Hp.none 0 [(36,[((i6 6),(i6 1)),((i6 7),(i6 2))])]) (rt (.tuple [(i6 c),(.vs 2 a (d.map Dg.av))])) := lM 1
end
section
open Go Go.Vai
attribute [local irreducible] goTo zao mkS
variable {C : Nat → Oracle} {o : Out}































end
section
open Go Go.Vai
attribute [local irreducible] goTo zao mkS
def fldF (l : List Fld) (s : List UInt8) : Option Fld := l.find? fun f=>eqS f.name s
def parN (l : List Par) (s : List UInt8) : Option Par := l.find? fun p=>eqS p.name s
def fld0 : Fld := ⟨[],0,0,0⟩
def fOut : Option Fld→AV
 | some f=>.tuple [.agg f.cs,.bool true]
 | none=>.tuple [.agg fld0.cs,.bool false]
def denF (w : Sc) (s : List UInt8) : Option Fld := match parN w.ps s with
 | some _=>none
 | none=>if w.q = true then fldF w.t.fields s else none
def RT (r : Int × List Dg) (o : Out) : Prop := ∃ tg,o.v = .tuple [.int .i64 r.1,.vs 2 tg (r.2.map Dg.av)]
def oneD (e : Ex) (err : Int) : Int × List Dg := (0,[⟨e.at_,err⟩])
def zny (w : Sc) (e : Ex) : Int × List Dg := match parN w.ps e.s with
 | some p=>(p.type,[])
 | none=>match denF w e.s with
  | none=>oneD e 6
  | some f=>if f.kind = 1 then (f.type,[]) else if f.kind = 2 then (1,[]) else if f.kind = 3 then (1,[]) else if f.kind = 5 then (3,[]) else oneD e 12
def zlb (w : Sc) (e : Ex) : Int × List Dg :=
 if w.q = false then oneD e 10 else match fldF w.t.fields e.s with
  | none=>oneD e 6
  | some f=>if f.kind = 4 then (1,[]) else oneD e 12
theorem Was.ndec {p : Prop} [Decidable p] {x y : Option Out} {Q : Out→Prop} (h1 : ¬ p→Was x Q) (h2 : p→Was y Q) : Was (Vai.br (!decide p) x y) Q:=by
 by_cases h : p
 ·rw [decide_eq_true h]; exact h2 h
 ·rw [decide_eq_false h]; exact h1 h
theorem wi64 {i n : Nat} (h : i < n) (hn : n ≤ 1000000) : w64 ((i : Int) + 1) = ((i + 1 : Nat) : Int) := by rw [zb1 (by omega) (by omega)]; omega
variable {C : Nat→Oracle} (hC : Ext C)
theorem w94_loop (tg : Bool) (L : List Fld) (hL : L.length ≤ 1000000) (s z : List UInt8) (a b c : Int) : ∀ (r : List Fld) (i : Nat),L.drop i = r→i ≤ L.length →
  Was (RL C 94 Q0a (mkS 22 [(1,.val (.str s) .no),(4,.lp 4 0),(9,.val (.vs 4 tg (List.map Fld.av L)) .no),(10,.val (.int .i64 (L.length : Int)) .no),(11,.val (.int .i64 (i : Int)) .no)] [(4,⟨[(.str z),(.int .i64 a),(.int .i64 b),(.int .i64 c)],[]⟩)] Hp.none 0))
   (fun o=>o.v = fOut (fldF r s)):=by
 intro r
 induction r with
 | nil =>
  intro i hi hil;have := zal _ _ hil hi;refine exW (fun o=>p94_1) ?_;exact .bF (by omega) (.mk rfl)
 | cons f r ih =>
  intro i hi hil;obtain ⟨h1,h2,h3⟩ := zat _ _ hi;refine exW (fun o=>p94_1) ?_;simp only [Tr.val,lnM,itN,zan,zau,zap,omS,obS,Fld.av_cs,Par.av_cs,Dg.av_cs,Typ.av_cs,Qry.av_cs,Ex.av_cs,zak,AV.pure,za3,zaf,za6,zah,za9,zab,zag,za7,zac,zaa,zae,za8,za1,za0,h1];refine .bT (by omega) (.bT (by omega) (.bT (by omega) ?_));refine exW (fun o=>p94_2) ?_;simp only [Tr.val,lnM,itN,zan,zau,zap,omS,obS,Fld.av_cs,Par.av_cs,Dg.av_cs,Typ.av_cs,Qry.av_cs,Ex.av_cs,zak,AV.pure,za3,zaf,za6,zah,za9,zab,zag,za7,zac,zaa,zae,za8,za1,za0];unfold fldF;rw [List.find?_cons];refine .both (fun h=>.mk (by rw [h]; rfl)) (fun h=>?_);rw [wi64 h3 hL,h];exact ih (i + 1) h2 (by omega)
include hC
theorem w94 (t : Typ) (hL : t.fields.length ≤ 1000000) (s : List UInt8) : Was (calL C 94 [.agg t.cs,.str s] Hp.none 0) (fun o=>o.v = fOut (fldF t.fields s)):=by
 refine exW (fun o=>p94_c hC) ?_;refine exW (fun o=>p94_0) ?_;simp only [Tr.val,lnM,itN,zan,zau,zap,omS,obS,Fld.av_cs,Par.av_cs,Dg.av_cs,Typ.av_cs,Qry.av_cs,Ex.av_cs,zak,AV.pure,za3,zaf,za6,zah,za9,zab,zag,za7,zac,zaa,zae,za8,za1,za0];exact w94_loop _ t.fields hL s _ _ _ _ t.fields 0 rfl (Nat.zero_le _)
theorem w99 (e : Ex) (err : Int) : Was (calL C 99 [.agg e.cs,.int .i64 err] Hp.none 0) (RT (oneD e err)):=by
 refine exW (fun o=>p99_c hC) (exW (fun o=>p99_0) ?_);exact .mk ⟨true,rfl⟩
theorem zvw (w : Sc) (hF : w.t.fields.length ≤ 1000000) (tg : Bool) (L : List Par) (hL : L.length ≤ 1000000) (s z : List UInt8) (a b c : Int) : ∀ (r : List Par) (i : Nat),L.drop i = r→i ≤ L.length →
  Was (RL C 164 Q0a (mkS 31 [(1,.val (.str s) .no),(2,.lp 2 0),(4,.lp 4 0),(9,.val (.vs 3 tg (List.map Par.av L)) .no),(10,.val (.int .i64 (L.length : Int)) .no),(11,.val (.int .i64 (i : Int)) .no)] [(2,⟨(Sc.cs w),[]⟩),(4,⟨[(.str z),(.int .i64 a),(.int .i64 b),(.int .i64 c)],[]⟩)] Hp.none 0))
   (fun o=>o.v = fOut (match parN r s with
    | some _=>none
    | none=>if w.q = true then fldF w.t.fields s else none)):=by
 intro r
 induction r with
 | nil =>
  intro i hi hil;have := zal _ _ hil hi;refine exW (fun o=>p164_1) ?_;simp only [Tr.val,lnM,itN,zan,zau,zap,omS,obS,Fld.av_cs,Par.av_cs,Dg.av_cs,Typ.av_cs,Qry.av_cs,Ex.av_cs,zak,AV.pure,za3,zaf,za6,zah,za9,zab,zag,za7,zac,zaa,zae,za8,za1,za0];refine .bF (by omega) ?_;cases hq : w.q
  ·exact .mk rfl
  ·simp only [bnT,zaw];refine .call (w94 hC w.t hF s) ?_;rintro o e;have hp : o.v.pure = true := by rw [e]; cases fldF w.t.fields s <;> rfl
   rw [hp,za0,e];rw [show parN [] s = none from rfl];simp only [if_true];cases fldF w.t.fields s with
   | none=>exact exW (fun o=>p164_3 (f_35 := fld0)) (.mk rfl)
   | some f=>exact exW (fun o=>p164_3) (.mk rfl)
 | cons f r ih =>
  intro i hi hil;obtain ⟨h1,h2,h3⟩ := zat _ _ hi;refine exW (fun o=>p164_1) ?_;simp only [Tr.val,lnM,itN,zan,zau,zap,omS,obS,Fld.av_cs,Par.av_cs,Dg.av_cs,Typ.av_cs,Qry.av_cs,Ex.av_cs,zak,AV.pure,za3,zaf,za6,zah,za9,zab,zag,za7,zac,zaa,zae,za8,za1,za0,h1];refine .bT (by omega) (.bT (by omega) (.bT (by omega) ?_));refine exW (fun o=>p164_2) ?_;simp only [Tr.val,lnM,itN,zan,zau,zap,omS,obS,Fld.av_cs,Par.av_cs,Dg.av_cs,Typ.av_cs,Qry.av_cs,Ex.av_cs,zak,AV.pure,za3,zaf,za6,zah,za9,zab,zag,za7,zac,zaa,zae,za8,za1,za0];unfold parN;rw [List.find?_cons];refine .both (fun h=>.mk (by rw [h]; rfl)) (fun h=>?_);rw [wi64 h3 hL,h];exact ih (i + 1) h2 (by omega)
theorem w164 (w : Sc) (hF : w.t.fields.length ≤ 1000000) (hL : w.ps.length ≤ 1000000) (s : List UInt8) : Was (calL C 164 [.agg w.cs,.str s] Hp.none 0) (fun o=>o.v = fOut (denF w s)):=by
 refine exW (fun o=>p164_c hC) ?_;refine exW (fun o=>p164_0) ?_;simp only [Tr.val,lnM,itN,zan,zau,zap,omS,obS,Fld.av_cs,Par.av_cs,Dg.av_cs,Typ.av_cs,Qry.av_cs,Ex.av_cs,zak,AV.pure,za3,zaf,za6,zah,za9,zab,zag,za7,zac,zaa,zae,za8,za1,za0];exact zvw hC w hF w.tg w.ps hL s _ _ _ _ w.ps 0 rfl (Nat.zero_le _)
end
section
open Go Go.Vai
attribute [local irreducible] goTo zao mkS
def resF (s : List UInt8) (x y : Int) : Int :=
 if eqS s [43] = true then (if x = 1∧y = 1 then 1 else 0) else if eqS s [45] = true then (if x = 1∧y = 1 then 1 else 0) else if eqS s [42] = true then (if x = 1∧y = 1 then 1 else 0)
 else if eqS s [33] = true then (if x = 3∧y = 3 then 3 else 0) else if eqS s [38,38] = true then (if x = 3∧y = 3 then 3 else 0) else if eqS s [124,124] = true then (if x = 3∧y = 3 then 3 else 0)
 else if eqS s [61,61] = true then (if x = y then 3 else 0) else if eqS s [33,61] = true then (if x = y then 3 else 0)
 else if eqS s [60] = true then (if x = y∧¬ (x = 3∧y = 3) then 3 else 0) else if eqS s [60,61] = true then (if x = y∧¬ (x = 3∧y = 3) then 3 else 0)
 else if eqS s [62] = true then (if x = y∧¬ (x = 3∧y = 3) then 3 else 0) else if eqS s [62,61] = true then (if x = y∧¬ (x = 3∧y = 3) then 3 else 0) else 0
def opT (e : Ex) (ds : List Dg) (n : Int) : Int × List Dg := if ds = [] then (if n = 0 then oneD e 12 else (n,[])) else (0,ds)
def zda (w : Sc) (x : Ex) : Bool := decide (x.kind = 4) && (match denF w x.s with
 | some f=>decide (f.kind = 4)
 | none=>false)
def hasT (w : Sc) (e x : Ex) (a b : Int × List Dg) : Int × List Dg :=
 if w.q = false then oneD e 10 else
  let given := !zda w x && decide (a.2 = [])
  let l := (if zda w x = true then [] else if a.2 = [] then [⟨e.at_,12⟩] else a.2) ++ b.2
  let l2 := if given = false∧b.2 = []∧b.1 ≠ 2 then l ++ [⟨e.at_,12⟩] else l
  if l2 = [] then (3,[]) else (0,l2)
def zn4 (w : Sc) (e : Ex) : Int × List Dg := if e.kind = 1 then (1,[]) else if e.kind = 2 then (2,[]) else if e.kind = 3 then (3,[]) else if e.kind = 4 then zny w e else zlb w e
def wHas : List UInt8 := [104,97,115]
def tyE (w : Sc) : Ex→Int × List Dg
 | .mk k n s tg [] a=>zn4 w (.mk k n s tg [] a)
 | .mk k n s tg [x] a=>opT (.mk k n s tg [x] a) (tyE w x).2 (resF s (tyE w x).1 (tyE w x).1)
 | .mk k n s tg [x,y] a=>if s = wHas then hasT w (.mk k n s tg [x,y] a) x (tyE w x) (tyE w y) else opT (.mk k n s tg [x,y] a) ((tyE w x).2 ++ (tyE w y).2) (resF s (tyE w x).1 (tyE w y).1)
 | .mk _ _ _ _ (_ :: _ :: _ :: _) _=>(0,[])
mutual
def Ex.sz : Ex→Nat
 | .mk _ _ _ _ l _=>1 + szE l
def szE : List Ex→Nat
 | []=>0
 | e :: l=>e.sz + szE l
end
def binW : List (List UInt8) := [[124,124],[38,38],[61,61],[33,61],[60],[60,61],[62],[62,61],[104,97,115],[43],[45],[42]]
inductive WfE : Ex→Prop where
 | leaf (k n : Int) (s : List UInt8) (tg : Bool) (a : Int) (h1 : 1 ≤ k) (h5 : k ≤ 5) : WfE (.mk k n s tg [] a)
 | un (n : Int) (s : List UInt8) (tg : Bool) (a : Int) (x : Ex) (hs : s = [45] ∨ s = [33]) (hx : WfE x) : WfE (.mk 6 n s tg [x] a)
 | bin (n : Int) (s : List UInt8) (tg : Bool) (a : Int) (x y : Ex) (hs : s ∈ binW) (hx : WfE x) (hy : WfE y) : WfE (.mk 7 n s tg [x,y] a)
theorem zwl (e : Ex) (ds : List Dg) (n : Int) : (opT e ds n).2.length ≤ ds.length + 1:=by
 unfold opT oneD;split
 ·split <;> simp
 ·simp
theorem zvb (w : Sc) (e : Ex) : (zny w e).2.length ≤ 1:=by
 unfold zny
 repeat' split
 all_goals simp [oneD]
theorem zv5 (w : Sc) (e : Ex) : (zlb w e).2.length ≤ 1:=by
 unfold zlb
 repeat' split
 all_goals simp [oneD]
theorem ztz (w : Sc) (e : Ex) : (zn4 w e).2.length ≤ 1:=by
 unfold zn4
 repeat' split
 all_goals first | exact zvb _ _ | exact zv5 _ _ | simp
theorem hasT_len (w : Sc) (e x : Ex) (a b : Int × List Dg) : (hasT w e x a b).2.length ≤ a.2.length + b.2.length + 1:=by
 unfold hasT;split
 ·simp [oneD]
 ·cases h1 : zda w x <;> by_cases h2 : a.2 = [] <;> by_cases h3 : b.2 = [] <;> by_cases h4 : b.1 = 2 <;> simp [h2,h3,h4] <;> omega
theorem zff (w : Sc) : ∀ e : Ex,(tyE w e).2.length ≤ e.sz
 | .mk k n s tg [] a=>by rw [tyE]; have := ztz w (.mk k n s tg [] a); simp only [Ex.sz]; omega
 | .mk k n s tg [x] a=>by have := zff w x; rw [tyE]; have := zwl (.mk k n s tg [x] a) (tyE w x).2 (resF s (tyE w x).1 (tyE w x).1); simp only [Ex.sz,szE]; omega
 | .mk k n s tg [x,y] a=>by
  have := zff w x;have := zff w y;rw [tyE];simp only [Ex.sz,szE];split
  ·have := hasT_len w (.mk k n s tg [x,y] a) x (tyE w x) (tyE w y); omega
  ·have := zwl (.mk k n s tg [x,y] a) ((tyE w x).2 ++ (tyE w y).2) (resF s (tyE w x).1 (tyE w y).1); rw [lnA] at this; omega
 | .mk _ _ _ _ (_ :: _ :: _ :: _) _=>by rw [tyE]; simp
end
end Go.Proofs.YtfdklpkfpmkgeaaGreatDoor
