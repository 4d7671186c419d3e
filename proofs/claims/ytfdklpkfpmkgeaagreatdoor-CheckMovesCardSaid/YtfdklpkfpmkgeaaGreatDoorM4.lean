/- One operation of a drawn region that gives a value: it writes its slot alone. -/
import Derived.Test.YtfdklpkfpmkgeaaGreatDoorM3
set_option linter.unusedSimpArgs false
set_option linter.unusedVariables false
set_option linter.unusedSectionVars false
set_option linter.unnecessarySimpa false
namespace Go.Vai
section
section
variable {eb ebj ebi : Bool} {P : Program} {A : List (Nat × Ann)} {an : Ann} {isRes : Nat→Bool} {cal : Oracle} {o : Oper} {S S' : St} {l : List Nat}
theorem zpj : ∀ (l : List Slot) (n : Nat) (s s' : Slot),setS (setS l n s) n s' = setS l n s'
 | [],_,_,_=>rfl
 | _ :: _,0,_,_=>rfl
 | x :: l,n + 1,s,s'=>by simp only [setS,zpj l n s s']
theorem zoz : ∀ (l : List Slot) (n : Nat),setS l n (nthS l n) = l
 | [],_=>rfl
 | _ :: _,0=>rfl
 | x :: l,n + 1=>by simp only [setS,nthS,zoz l n]
theorem zob : ∀ (l : List Slot) (n m : Nat) (s s' : Slot),n ≠ m→setS (setS l n s) m s' = setS (setS l m s') n s
 | [],_,_,_,_,_=>rfl
 | _ :: _,0,0,_,_,h=>absurd rfl h
 | _ :: _,0,m + 1,_,_,_=>rfl
 | _ :: _,n + 1,0,_,_,_=>rfl
 | x :: l,n + 1,m + 1,s,s',h=>by simp only [setS,zob l n m s s' (fun e=>h (by rw [e]))]
theorem put_put (S : St) (d : Nat) (s s' : Slot) : (S.put d s).put d s' = S.put d s' := by unfold St.put; simp only [zpj]
theorem zjc (S : St) (d : Nat) : S.put d (S.slot d) = S := by unfold St.put St.slot; simp only [zoz]
theorem put_comm (S : St) {d e : Nat} (s s' : Slot) (h : d ≠ e) : (S.put d s).put e s' = (S.put e s').put d s := by unfold St.put; simp only [zob _ _ _ _ _ h]
theorem zus (S : St) {x y : Option Nat} (s s' : Slot) (h : ∀ d,x = some d→y ≠ some d) : (S.putd x s).putd y s' = (S.putd y s').putd x s:=by
 cases x with
 | none=>rfl
 | some d=>cases y with
  | none=>rfl
  | some e=>exact put_comm S s s' fun h'=>h d rfl (by rw [h'])
theorem zbt (S : St) {d t : Nat} (s : Slot) (h : t ≠ d) : (S.put d s).slot t = S.slot t := by rw [zam,if_neg fun e=>h e.1]
theorem zfs (S : St) {d : Option Nat} {t : Nat} (s : Slot) (h : d ≠ some t) : (S.putd d s).slot t = S.slot t:=by
 cases d with
 | none=>rfl
 | some d=>exact zbt S s fun e=>h (by rw [e])
theorem zep (S : St) (d : Option Nat) (s : Slot) : (S.putd d s).bareAt d = S.putd d s.bare:=by
 cases d with
 | none=>rfl
 | some d =>
  show (S.put d s).put d ((S.put d s).slot d).bare = S.put d s.bare;rw [put_put,zam];split
  ·rfl
  ·rename_i h;have hlt : ¬ d < S.sl.length := fun hh=>h ⟨rfl,hh⟩;have e : ∀ s1 s2 : Slot,setS S.sl d s1 = setS S.sl d s2:=by
    have key : ∀ (l : List Slot) (n : Nat),¬ n < l.length→∀ s1 : Slot,setS l n s1 = l:=by
     intro l
     induction l with
     | nil=>intro n _ s1; rfl
     | cons x l ih =>
      intro n hn s1;cases n with
      | zero=>simp at hn
      | succ n=>simp only [setS]; rw [ih n (by simpa using hn)]
    intro s1 s2;rw [key _ _ hlt,key _ _ hlt]
   unfold St.put;rw [e]
theorem zu2 (h : Same S S' l) : S'.mask l = S.mask l:=by
 refine ztr h.len fun t ht=>?_;rw [zfn,zfn];have hb := h.slot t ht;cases memN t l with
 | false=>rfl
 | true =>
  simp only;cases hs : S.slot t with
  | und=>rw [zg3 hb hs]
  | lp d off=>rw [ze1 hb hs]
  | mp d=>rw [zid hb hs]
  | val v f=>obtain ⟨f',hs'⟩ := zd9 hb hs; rw [hs']
theorem par2 (hcl : clOf A eb o = 2) (T : St) : Par fun _ k=>zaq P A an isRes cal o T k:=by
  cases hop : o.op with
  | extract x i =>
    simp only [zaq,hop];cases x with
    | tmp t =>
      unfold zdt;simp only;cases T.slot t with
      | val v f =>
        simp only;cases v with
        | tuple l =>
          simp only [AV.tup?];refine Par.bind fun c=>?_;cases f with
          | comps cs=>simp only; cases memN i cs <;> exact Par.ret _
          | lS q =>
            simp only;cases T.slot q with
            | val u fu =>
              cases fu with
              | comps cs=>simp only; cases memN i cs <;> exact Par.ret _
              | _=>exact Par.ret _
            | _=>exact Par.ret _
          | _=>exact Par.ret _
        | _=>exact Par.none'
      | _=>exact Par.none'
    | _=>exact Par.none'
  | call c =>
    obtain ⟨callee,args,tys⟩ := c;cases callee with
    | builtin b =>
      cases b with
      | append =>
        simp only [zaq,hop,zbv]
        match hty : tys.toList,har : args.toList with
        | [t,t2],[a,b] =>
          simp only;unfold zd6;cases zj7 P t with
          | none=>exact Par.none'
          | some e =>
            cases zs5 P t with
            | false=>exact Par.none'
            | true =>
              simp only;cases Nat.beq (zaj P e) 0 with
              | true=>exact Par.none'
              | false =>
                cases zms P t2 with
                | false=>exact Par.none'
                | true =>
                  simp only;refine Par.comp (zgo _ _ _) fun l2=>?_;have fin : ∀ (l : List AV) (X : St) (fl : Fl),Par fun R (k : St→Option R)=>br (Nat.ble ((l.length + l2.length) * zcu P e) za5) (br (Nat.ble (l.length + l2.length) za5) (match o.dst with
                      | some _=>k (X.unlent.putown o.dst (.vs (zaj P e) false (l ++ l2)) fl)
                      | none=>none) none) none:=by
                    intro l X fl;refine Par.brn (Par.brn ?_);cases o.dst with
                    | none=>exact Par.none'
                    | some d=>exact Par.ret _
                  cases evT P T t a with
                  | vs z tg l =>
                    simp only [AV.vs?];cases Nat.beq z (zaj P e) with
                    | false=>exact Par.none'
                    | true =>
                      cases a with
                      | const v=>exact fin _ _ _
                      | tmp u =>
                        simp only;cases T.slot u with
                        | val v f =>
                          cases f with
                          | own=>exact fin _ _ _
                          | lS q =>
                            simp only;cases T.slot q with
                            | val v2 f2 =>
                              cases f2 with
                              | own=>exact fin _ _ _
                                  | _=>exact Par.brn (fin _ _ _)
                            | _=>exact Par.brn (fin _ _ _)
                          | lL d off =>
                            refine Par.bind fun bl=>?_;cases memN off bl.free with
                            | true=>exact fin _ _ _
                            | false=>exact Par.brn (fin _ _ _)
                          | lH id off =>
                            refine Par.bind fun bl=>?_;cases memN off bl.free with
                            | true=>exact fin _ _ _
                            | false=>exact Par.brn (fin _ _ _)
                          | _=>exact Par.brn (fin _ _ _)
                        | _=>exact Par.brn (fin _ _ _)
                      | _=>exact Par.none'
                  | _=>exact Par.none'
        | [],_=>exact Par.none'
        | [_],_=>exact Par.none'
        | _ :: _ :: _ :: _,_=>exact Par.none'
        | [_,_],[]=>exact Par.none'
        | [_,_],[_]=>exact Par.none'
        | [_,_],_ :: _ :: _ :: _=>exact Par.none'
      | _=>simp [clOf,hop] at hcl
    | value f =>
      cases f with
      | func g =>
        simp only [zaq,hop];unfold zke;simp only [St.ev,AV.func?];cases hi : (getA A g).imp with
        | true=>simp [clOf,hop,hi] at hcl
        | false=>exact Par.brn (Par.bind fun r=>Par.brn (Par.ret _))
      | _=>simp [clOf,hop] at hcl
    | invoke _ _=>simp [clOf,hop] at hcl
  | move x =>
    exfalso;simp only [clOf,hop] at hcl;split at hcl <;> cases hcl
  | alloc _ =>
    exfalso;simp only [clOf,hop] at hcl;split at hcl <;> cases hcl
  | _=>simp [clOf,hop] at hcl
structure Sim (fx fh : Bool) (S S' : St) (l : List Nat) : Prop where
 same : Same S S' l
 mem : fh = true→zco S S'
 ex : fx = true→(∀ t ∈ l,S'.slot t = S.slot t)∧S'.L = S.L∧S'.H = S.H
theorem zpl (hl : ∀ t,Operand.tmp t ∈ o.op.operands→t ∈ l) (h : Same S S' l) : zeb o S' = zeb o S:=by
 unfold zeb;cases hop : o.op with
 | load t x =>
  simp only;cases x with
  | tmp t =>
   have hb := h.slot t (hl t (by simp [hop,Op.operands]));simp only;cases hs : S.slot t with
   | und=>rw [zg3 hb hs]
   | lp d off=>rw [ze1 hb hs]
   | mp d=>rw [zid hb hs]
   | val v f=>obtain ⟨f',hs'⟩ := zd9 hb hs; rw [hs']
  | _=>rfl
 | convert a b x =>
  simp only;cases x with
  | tmp t =>
   have hb := h.slot t (hl t (by simp [hop,Op.operands]));simp only;cases hs : S.slot t with
   | und=>rw [zg3 hb hs]
   | lp d off=>rw [ze1 hb hs]
   | mp d=>rw [zid hb hs]
   | val v f=>obtain ⟨f',hs'⟩ := zd9 hb hs; rw [hs']
  | _=>rfl
 | _=>rfl
theorem ziw {ws : List Nat} : ∀ {l : List Nat},(∀ t ∈ l,(S'.slot t).bare = (S.slot t).bare)→zm4 S' ws l = zm4 S ws l
 | [],_=>rfl
 | t :: l,h=>by
  have hb := h t mcS;unfold zm4;rw [ziw (l := l) fun t ht=>h t (mcM _ ht)];cases hs : S.slot t with
  | und=>rw [zg3 hb hs]
  | lp d off=>rw [ze1 hb hs]
  | mp d=>rw [zid hb hs]
  | val v f=>obtain ⟨f',hs'⟩ := zd9 hb hs; rw [hs']
theorem zk0 {ws : List Nat} {l : List Nat} (h : ∀ t ∈ l,(S'.slot t).bare = (S.slot t).bare) : zn0 S' ws l = zn0 S ws l:=by
 unfold zn0;cases ws with
 | nil=>rfl
 | cons b bs=>exact ziw h
theorem zln {ws l : List Nat} {s s' : Slot} (hds : ∀ q,q ∈ l→o.dst = some q) (hlen : S'.sl.length = S.sl.length) (h : s'.bare = s.bare) : zn0 (S'.putd o.dst s') ws l = zn0 (S.putd o.dst s) ws l:=by
 refine zk0 fun t ht=>?_;rw [hds t ht];show ((S'.put t s').slot t).bare = ((S.put t s).slot t).bare;rw [zam,zam,hlen];split
 ·exact h
 ·rename_i hh;have hz : ∀ (Y : St),¬ t < Y.sl.length→Y.slot t = .und := fun Y hY=>by
   cases hy : Y.slot t with
   | und=>rfl
   | _=>exact absurd (zcb (by show Y.slot t ≠ _; rw [hy]; simp)) hY
  have hlt : ¬ t < S.sl.length := fun hl=>hh ⟨rfl,hl⟩;rw [hz S' (by rw [hlen]; exact hlt),hz S hlt]
theorem zmc {ws l : List Nat} (h : zn0 S ws l = true) {t e off : Nat} (ht : t ∈ l) (hs : S.slot t = .lp e off ∨ S.slot t = .mp e) : e ∉ ws:=by
 unfold zn0 at h;cases ws with
 | nil=>simp
 | cons b bs =>
  simp only at h
  induction l with
  | nil=>cases ht
  | cons u l ih =>
   unfold zm4 at h;split at h
   ·cases h
   ·rename_i hm;rcases List.mem_cons.1 ht with e1 | ht
    ·subst e1;intro hmem;rcases hs with hs | hs
     ·rw [hs] at hm; simp only at hm; rw [zbj.2 hmem] at hm; cases hm
     ·rw [hs] at hm; simp only at hm; rw [zbj.2 hmem] at hm; cases hm
    ·exact ih ht h
theorem av_same (h : Same S S' l) : (l.map fun t=>(S'.slot t).av) = l.map fun t=>(S.slot t).av :=
 List.map_congr_left fun t ht=>by rw [← zmn,h.slot t ht,zmn]
def TwoF (fx : Bool) (F F' : ∀ R : Type,(St→Option R)→Option R) (dst : Option Nat) (S S' : St) : Prop :=
 (∀ R k,F R k = none) ∨ ∃ s,(∀ R k,F R k = k (S.putd dst s))∧(∀ R k,F' R k = k (S'.putd dst s))∧(fx = false→s.bare = s)
theorem zoa (s : Slot) : s.bare.bare = s.bare := by cases s <;> rfl
theorem zfc {l : List Nat} (hl : ∀ t,Operand.tmp t ∈ o.op.operands→t ∈ l) (h : Same S S' l) : zdo o S' = zdo o S:=by
 unfold zdo;cases hop : o.op with
 | load t x =>
  simp only;cases x with
  | tmp t =>
   have hb := h.slot t (hl t (by simp [hop,Op.operands]));simp only;cases hs : S.slot t with
   | und=>rw [zg3 hb hs]
   | lp d off=>rw [ze1 hb hs]
   | mp d=>rw [zid hb hs]
   | val v f=>obtain ⟨f',hs'⟩ := zd9 hb hs; rw [hs']
  | _=>rfl
 | _=>rfl
theorem zvn {D : List Nat} {i : Nat} {fz : Fx} {x : OI} {st : Bool} (hst : st = false→fz.fx = false∧fz.fl = false) (hx : x.cl = clOf A eb o) (hl : ∀ t,Operand.tmp t ∈ o.op.operands→t ∈ x.lk) (hv : zbb x.cl = true) (h : Sim st fz.fh S S' x.lk) :
  TwoF st (fun _ k=>dop P A an isRes cal D i fz x o S k) (fun _ k=>dop P A an isRes cal D i fz x o S' k) o.dst S S':=by
 have hcl : x.cl = 0 ∨ x.cl = 1 ∨ x.cl = 2:=by
  have : x.cl < 3 := by simpa [zbb,Nat.blt_eq] using hv
  omega
 have hs1 : fz.fx = true→st = true := fun hf=>by
  cases hs : st with
  | true=>rfl
  | false=>have := (hst hs).1; rw [hf] at this; cases this
 have hs2 : fz.fl = true→st = true := fun hf=>by
  cases hs : st with
  | true=>rfl
  | false=>have := (hst hs).2; rw [hf] at this; cases this
 unfold dop;rcases hcl with hc | hc | hc
 ·rw [hc];simp only;rw [hx] at hc;have hop : ∃ t,o.op = .move (.tmp t):=by
   cases hop : o.op with
   | move x =>
    cases x with
    | tmp t=>exact ⟨t,rfl⟩
    | _=>simp [clOf,hop] at hc
   | call c =>
    exfalso;simp only [clOf,hop] at hc
    repeat' split at hc
    all_goals cases hc
   | extract _ _ =>
    exfalso;simp only [clOf,hop] at hc;split at hc <;> cases hc
   | alloc _ =>
    exfalso;simp only [clOf,hop] at hc;split at hc <;> cases hc
   | _=>simp [clOf,hop] at hc
  obtain ⟨t,hop⟩ := hop;have ht := hl t (by simp [hop,Op.operands]);simp only [zaq,hop,zhm];cases hfx : fz.fx with
  | true =>
   obtain ⟨he,_,_⟩ := h.ex (hs1 hfx);refine .inr ⟨zc6 S t,fun R k=>rfl,fun R k=>?_,fun h=>(by rw [hs1 hfx] at h; cases h)⟩;have : zc6 S' t = zc6 S t := by unfold zc6; rw [he t ht]
   show k (S'.putd o.dst (zc6 S' t)) = _;rw [this]
  | false =>
   have hb := h.same.slot t ht;have : (zc6 S' t).bare = (zc6 S t).bare:=by
    have mb : ∀ (T : St),(zc6 T t).bare = (T.slot t).bare := fun T=>by
     unfold zc6;cases T.slot t with
     | val v f=>cases f <;> rfl
     | _=>rfl
    rw [mb,mb,hb]
   refine .inr ⟨(zc6 S t).bare,fun R k=>?_,fun R k=>?_,fun _=>zoa _⟩
   ·show k ((S.putd o.dst (zc6 S t)).bareAt o.dst) = _;rw [zep]
   ·show k ((S'.putd o.dst (zc6 S' t)).bareAt o.dst) = _;rw [zep,this]
 ·rw [hc];simp only;rw [hx] at hc;cases hfx : fz.fx with
  | true =>
   obtain ⟨_,h1,h2⟩ := h.ex (hs1 hfx);rcases uni1 (P := P) (an := an) (isRes := isRes) (cal := cal) hc hl h.same (.inl (.of h2)) with hn | ⟨s,s',h3,h4,_,h5⟩
   ·exact .inl fun R k=>hn R k
   ·rw [h5 h1 h2] at h4;exact .inr ⟨s,fun R k=>h3 R k,fun R k=>h4 R k,fun h=>(by rw [hs1 hfx] at h; cases h)⟩
  | false =>
   simp only;rw [zpl hl h.same,zfc hl h.same];cases hlo : (fz.fl && zdo o S) with
   | true =>
    have hst1 := hs2 (Bool.and_eq_true _ _ ▸ hlo).1;obtain ⟨_,h1,h2⟩ := h.ex hst1;rcases uni1 (P := P) (an := an) (isRes := isRes) (cal := cal) hc hl h.same (.inl (.of h2)) with hn | ⟨s,s',h3,h4,_,h5⟩
    ·exact .inl fun R k=>hn R k
    ·rw [h5 h1 h2] at h4;exact .inr ⟨s,fun R k=>h3 R k,fun R k=>h4 R k,fun h=>(by rw [hst1] at h; cases h)⟩
   | false =>
   simp only;cases hf : (fz.fh || zeb o S) with
   | false=>exact .inl fun R k=>rfl
   | true =>
    rw [Bool.or_eq_true] at hf;have hH : zco S S' ∨ zeb o S = true := hf.imp h.mem id;rcases uni1 (P := P) (an := an) (isRes := isRes) (cal := cal) hc hl h.same hH with hn | ⟨s,s',h3,h4,h5,_⟩
    ·exact .inl fun R k=>hn R _
    ·refine .inr ⟨s.bare,fun R k=>?_,fun R k=>?_,fun _=>zoa _⟩
     ·show zaq P A an isRes cal o S (fun S'=>k (S'.bareAt o.dst)) = _;rw [h3,zep]
     ·show zaq P A an isRes cal o S' (fun S'=>k (S'.bareAt o.dst)) = _;rw [h4,zep,h5]
 ·rw [hc];simp only;rw [hx] at hc;cases hd : o.dst with
  | none=>exact .inl fun R k=>rfl
  | some d =>
   simp only;rw [av_same h.same,zu2 h.same,h.same.len];cases hp : (Nat.blt d S.sl.length && za3 (x.lk.map fun t=>(S.slot t).av)) with
   | false=>exact .inl fun R k=>rfl
   | true =>
    rcases par2 (P := P) (an := an) (isRes := isRes) (cal := cal) hc (S.mask x.lk) with hn | ⟨T,hT⟩
    ·exact .inl fun R k=>hn R _
    ·cases hs : T.slot d with
     | val v f =>
      cases hpv : v.pure with
      | true =>
       refine .inr ⟨.val v .no,fun R k=>?_,fun R k=>?_,fun _=>rfl⟩
       ·refine (hT R _).trans ?_; simp only [hs,hpv]; rfl
       ·refine (hT R _).trans ?_; simp only [hs,hpv]; rfl
      | false=>refine .inl fun R k=>(hT R _).trans ?_; simp only [hs,hpv]; rfl
     | _=>refine .inl fun R k=>(hT R _).trans ?_; simp only [hs]
theorem st_or {fz : Fx} (h : (fz.fx || fz.fl) = false) : fz.fx = false∧fz.fl = false := by rw [Bool.or_eq_false_iff] at h; exact h
def Stay (s : Slot) : Prop := s.unlentH = s∧∀ e,s.unS e = s
theorem Stay.bare {s : Slot} (h : s.bare = s) : Stay s:=by
 cases s with
 | val v f=>simp only [Slot.bare,Slot.val.injEq,true_and] at h; subst h; exact ⟨rfl,fun _=>rfl⟩
 | _=>exact ⟨rfl,fun _=>rfl⟩
def TwoS (F F' : ∀ R : Type,(St→Option R)→Option R) (dst : Option Nat) (S S' : St) : Prop :=
 (∀ R k,F R k = none) ∨ ∃ s,(∀ R k,F R k = k (S.putd dst s))∧(∀ R k,F' R k = k (S'.putd dst s))∧Stay s
theorem TwoF.stay {F F' : ∀ R : Type,(St→Option R)→Option R} {dst : Option Nat} {S S' : St} (h : TwoF false F F' dst S S') : TwoS F F' dst S S':=by
 rcases h with h | ⟨s,h1,h2,h3⟩
 ·exact .inl h
 ·exact .inr ⟨s,h1,h2,.bare (h3 rfl)⟩
theorem dop_twoS {D : List Nat} {i : Nat} {fz : Fx} {x : OI} (hfx : fz.fx = false) (hx : x.cl = clOf A eb o) (hl : ∀ t,Operand.tmp t ∈ o.op.operands→t ∈ x.lk) (hv : zbb x.cl = true) (h : Same S S' x.lk) (hL : S'.L = S.L) (hm : fz.fh = true→zco S S') :
  TwoS (fun _ k=>dop P A an isRes cal D i fz x o S k) (fun _ k=>dop P A an isRes cal D i fz x o S' k) o.dst S S':=by
 cases hlo : (fz.fl && zdo o S) with
 | false =>
  have e1 : ∀ (R : Type) (k : St→Option R),dop P A an isRes cal D i fz x o S k = dop P A an isRes cal D i { fz with fl := false } x o S k := fun R k=>by
   unfold dop;simp only [hlo,Bool.false_and];rfl
  have e2 : ∀ (R : Type) (k : St→Option R),dop P A an isRes cal D i fz x o S' k = dop P A an isRes cal D i { fz with fl := false } x o S' k := fun R k=>by
   have hlo' : (fz.fl && zdo o S') = false := by rw [zfc hl h]; exact hlo
   unfold dop;simp only [hlo',Bool.false_and];rfl
  simp only [e1,e2];exact (zvn (fz := { fz with fl := false }) (st := false) (fun _=>⟨hfx,rfl⟩) hx hl hv ⟨h,hm,fun h=>(by cases h)⟩).stay
 | true =>
  have hll := (Bool.and_eq_true _ _ ▸ hlo).2;have hlo' : (fz.fl && zdo o S') = true := by rw [zfc hl h]; exact hlo
  obtain ⟨ty,t,hop⟩ : ∃ ty t,o.op = .load ty (.tmp t):=by
   unfold zdo at hll;split at hll
   ·split at hll
    ·exact ⟨_,_,by assumption⟩
    ·cases hll
   ·cases hll
  have hc : x.cl = 1 := by rw [hx]; simp only [clOf,hop]
  obtain ⟨d,off,hs⟩ : ∃ d off,S.slot t = .lp d off:=by
   unfold zdo at hll;rw [hop] at hll;simp only at hll;split at hll
   ·exact ⟨_,_,by assumption⟩
   ·cases hll
  have hs' : S'.slot t = .lp d off := ze1 (h.slot t (hl t (by simp [hop,Op.operands]))) hs;have e : ∀ (T : St) (R : Type) (k : St→Option R),T.slot t = .lp d off→(fz.fl && zdo o T) = true→dop P A an isRes cal D i fz x o T k = (getL T.L d).bind fun b=>zht P ty fun ag=>match ag with
    | true=>br (Nat.ble (off + zaj P ty) b.cells.length) (k (T.putd o.dst (.val (.agg ((b.cells.drop off).take (zaj P ty))) .no))) none
    | false=>(nth b.cells off).bind fun c=>k (T.putd o.dst (.val c (match memN off b.free with
     | true=>.lL d off
     | false=>.no))) := fun T R k ht hT=>by
   unfold dop;rw [hc];simp only [hfx,hT,zaq,hop,zi2,zlw,ht];rfl
  unfold TwoS;simp only [e S _ _ hs hlo,e S' _ _ hs' hlo',hL];cases hb : getL S.L d with
  | none=>exact .inl fun R k=>rfl
  | some b =>
   simp only [obS];rcases zfa (P := P) ty with hp | ⟨ag,hp⟩
   ·exact .inl fun R k=>hp R _
   ·simp only [hp];cases ag with
    | true =>
     simp only;cases Nat.ble (off + zaj P ty) b.cells.length with
     | false=>exact .inl fun R k=>rfl
     | true=>exact .inr ⟨_,fun R k=>rfl,fun R k=>rfl,.bare rfl⟩
    | false =>
     simp only;cases nth b.cells off with
     | none=>exact .inl fun R k=>rfl
     | some c =>
      refine .inr ⟨_,fun R k=>rfl,fun R k=>rfl,?_⟩;cases memN off b.free with
      | true=>exact ⟨rfl,fun _=>rfl⟩
      | false=>exact ⟨rfl,fun _=>rfl⟩
end
end
section
section
variable {g0 : G} {w0 : World} {Ex : Nat→Prop} {g g' : G} {a : Act} {w w' : World} {R : Type} {r : R}
variable {eb ebj ebi : Bool} {P : Program} {A : List (Nat × Ann)} {an : Ann} {isRes : Nat→Bool} {cal : Oracle} {o : Oper} {S S' : St} {l : List Nat}
def gres (all : List Oper) (o : Oper) (S : St) : Option Bool := match o.guard with
 | none=>some true
 | some (j,want)=>match zdd all j with
  | none=>none
  | some d=>match S.slot d with
   | .val (.bool b) _=>some (b == want)
   | .val (.tuple []) _=>some false
   | _=>none
theorem zcf {all : List Oper} {D : List Nat} {i : Nat} {fz : Fx} {x : OI} {k : St→Option R} : zfk P A an isRes cal all D i fz x o S k = match gres all o S with
  | some true=>dop P A an isRes cal D i fz x o S k
  | some false=>k (S.putd o.dst (.val (.tuple []) .no))
  | none=>none:=by
 unfold zfk gres;cases o.guard with
 | none=>rfl
 | some jw =>
  obtain ⟨j,want⟩ := jw;simp only;cases zdd all j with
  | none=>rfl
  | some d =>
   simp only;cases hs : S.slot d with
   | und=>rfl
   | lp e off=>rfl
   | mp e=>rfl
   | val v f =>
    cases v with
    | bool b =>
     have e : S.put d (.val (.bool b) f) = S := by rw [← hs]; exact zjc S d
     cases b <;> cases want <;> simp only [br,e] <;> rfl
    | tuple l=>cases l <;> rfl
    | _=>rfl
theorem zfj {all : List Oper} (hg : ∀ j want d,o.guard = some (j,want)→zdd all j = some d→d ∈ l) (h : ∀ t ∈ l,(S'.slot t).bare = (S.slot t).bare) : gres all o S' = gres all o S:=by
 unfold gres;cases hgd : o.guard with
 | none=>rfl
 | some jw =>
  obtain ⟨j,want⟩ := jw;simp only;cases hd : zdd all j with
  | none=>rfl
  | some d =>
   simp only;have hb := h d (hg j want d hgd hd);cases hs : S.slot d with
   | und=>rw [zg3 hb hs]
   | lp e off=>rw [ze1 hb hs]
   | mp e=>rw [zid hb hs]
   | val v f =>
    obtain ⟨f',hs'⟩ := zd9 hb hs;rw [hs'];cases v with
    | tuple l=>cases l <;> rfl
    | _=>rfl
theorem zlo {all : List Oper} {D : List Nat} {i : Nat} {fz : Fx} {x : OI} {st : Bool} (hst : st = false→fz.fx = false∧fz.fl = false) (hx : x.cl = clOf A eb o) (hl : ∀ t,Operand.tmp t ∈ o.op.operands→t ∈ x.lk) (hg : ∀ j want d,o.guard = some (j,want)→zdd all j = some d→d ∈ x.lk)
  (hv : zbb x.cl = true) (h : Sim st fz.fh S S' x.lk) : TwoF st (fun _ k=>zfk P A an isRes cal all D i fz x o S k) (fun _ k=>zfk P A an isRes cal all D i fz x o S' k) o.dst S S':=by
 have e : gres all o S' = gres all o S := zfj hg h.same.slot;unfold TwoF;simp only [zcf,e];cases gres all o S with
 | none=>exact .inl fun R k=>rfl
 | some b =>
  cases b with
  | true=>exact zvn hst hx hl hv h
  | false=>exact .inr ⟨_,fun R k=>rfl,fun R k=>rfl,fun _=>rfl⟩
theorem zjz {all : List Oper} {D : List Nat} {i : Nat} {fz : Fx} {x : OI} (hfx : fz.fx = false) (hx : x.cl = clOf A eb o) (hl : ∀ t,Operand.tmp t ∈ o.op.operands→t ∈ x.lk) (hg : ∀ j want d,o.guard = some (j,want)→zdd all j = some d→d ∈ x.lk)
  (hv : zbb x.cl = true) (h : Same S S' x.lk) (hL : S'.L = S.L) (hm : fz.fh = true→zco S S') : TwoS (fun _ k=>zfk P A an isRes cal all D i fz x o S k) (fun _ k=>zfk P A an isRes cal all D i fz x o S' k) o.dst S S':=by
 have e : gres all o S' = gres all o S := zfj hg h.slot;unfold TwoS;simp only [zcf,e];cases gres all o S with
 | none=>exact .inl fun R k=>rfl
 | some b =>
  cases b with
  | true=>exact dop_twoS hfx hx hl hv h hL hm
  | false=>exact .inr ⟨_,fun R k=>rfl,fun R k=>rfl,.bare rfl⟩
theorem ze6 {all : List Oper} {D : List Nat} {i : Nat} {fz : Fx} {x : OI} {k : St→Option R} (hv : zbb x.cl = false) : zbd P A an isRes cal all D i fz x o S k = zfk P A an isRes cal all D i fz x o S k:=by
 unfold zbd zqz;rw [hv]
theorem zp3 {fz : Fx} {x : OI} {l : List Nat} (h : ∀ t ∈ l,(S'.slot t).bare = (S.slot t).bare) : chk fz x S' l = chk fz x S l:=by
 unfold chk;rw [zk0 h]
theorem zpu {all : List Oper} {D : List Nat} {i : Nat} {fz : Fx} {x : OI} {st : Bool} (hst : st = false→fz.fx = false∧fz.fl = false) (hds : ∀ q,q ∈ x.ds→o.dst = some q) (hx : x.cl = clOf A eb o) (hl : ∀ t,Operand.tmp t ∈ o.op.operands→t ∈ x.lk) (hg : ∀ j want d,o.guard = some (j,want)→zdd all j = some d→d ∈ x.lk)
  (hv : zbb x.cl = true) (h : Sim st fz.fh S S' x.lk) : TwoF st (fun _ k=>zbd P A an isRes cal all D i fz x o S k) (fun _ k=>zbd P A an isRes cal all D i fz x o S' k) o.dst S S':=by
 unfold zbd;cases zqz fz x with
 | false=>exact zlo hst hx hl hg hv h
 | true =>
 unfold TwoF;simp only [zp3 h.same.slot];cases hc : chk fz x S x.lk with
 | false=>exact .inl fun R k=>rfl
 | true =>
  rcases zlo (P := P) (an := an) (isRes := isRes) (cal := cal) (all := all) (D := D) (i := i) (fz := fz) hst hx hl hg hv h with hn | ⟨s,h1,h2,h3⟩
  ·exact .inl fun R k=>hn R _
  ·have e : chk fz x (S'.putd o.dst s) x.ds = chk fz x (S.putd o.dst s) x.ds:=by
    unfold chk;rw [zln hds h.same.len rfl]
   cases hc2 : chk fz x (S.putd o.dst s) x.ds with
   | false=>exact .inl fun R k=>(h1 R _).trans (by simp only [hc2,br])
   | true=>exact .inr ⟨s,fun R k=>(h1 R _).trans (by simp only [hc2,br]),fun R k=>(h2 R _).trans (by simp only [e,hc2,br]),h3⟩
theorem ztq {all : List Oper} {D : List Nat} {i : Nat} {fz : Fx} {x : OI} (hfx : fz.fx = false) (hds : ∀ q,q ∈ x.ds→o.dst = some q) (hx : x.cl = clOf A eb o) (hl : ∀ t,Operand.tmp t ∈ o.op.operands→t ∈ x.lk) (hg : ∀ j want d,o.guard = some (j,want)→zdd all j = some d→d ∈ x.lk)
  (hv : zbb x.cl = true) (h : Same S S' x.lk) (hL : S'.L = S.L) (hm : fz.fh = true→zco S S') : TwoS (fun _ k=>zbd P A an isRes cal all D i fz x o S k) (fun _ k=>zbd P A an isRes cal all D i fz x o S' k) o.dst S S':=by
 unfold zbd;cases zqz fz x with
 | false=>exact zjz hfx hx hl hg hv h hL hm
 | true =>
 unfold TwoS;simp only [zp3 h.slot];cases hc : chk fz x S x.lk with
 | false=>exact .inl fun R k=>rfl
 | true =>
  rcases zjz (P := P) (an := an) (isRes := isRes) (cal := cal) (all := all) (D := D) (i := i) (fz := fz) hfx hx hl hg hv h hL hm with hn | ⟨s,h1,h2,h3⟩
  ·exact .inl fun R k=>hn R _
  ·have e : chk fz x (S'.putd o.dst s) x.ds = chk fz x (S.putd o.dst s) x.ds:=by
    unfold chk;rw [zln hds h.len rfl]
   cases hc2 : chk fz x (S.putd o.dst s) x.ds with
   | false=>exact .inl fun R k=>(h1 R _).trans (by simp only [hc2,br])
   | true=>exact .inr ⟨s,fun R k=>(h1 R _).trans (by simp only [hc2,br]),fun R k=>(h2 R _).trans (by simp only [e,hc2,br]),h3⟩
theorem zv6 {all : List Oper} {D : List Nat} {i : Nat} {fz : Fx} {x : OI} {T : St} (hv : zbb x.cl = true) (hfx : fz.fx = false) (h : ∀ k : St→Option St,zbd P A an isRes cal all D i fz x o S k = k T) :
  (∀ t ∈ x.lk,∀ e off,(S.slot t = .lp e off ∨ S.slot t = .mp e)→e ∉ fz.ws)∧∀ t ∈ x.ds,∀ e off,(T.slot t = .lp e off ∨ T.slot t = .mp e)→e ∉ fz.ws:=by
 have hne : fz.ws = [] ∨ zqz fz x = true:=by
  unfold zqz;rw [hv,hfx];cases fz.ws with
  | nil=>exact .inl rfl
  | cons _ _=>exact .inr rfl
 rcases hne with hnil | hneed
 ·rw [hnil];exact ⟨fun t _ e off _=>by simp,fun t _ e off _=>by simp⟩
 have h1 := h some;unfold zbd at h1;rw [hneed] at h1;obtain ⟨hc,h1⟩ := zai h1;have c : ∀ T l,chk fz x T l = zn0 T fz.ws l := fun T l=>by unfold chk; rw [hv,hfx]
 rw [c] at hc;refine ⟨fun t ht e off hs=>zmc hc ht hs,?_⟩;have key : ∀ U : St,U = T→chk fz x U x.ds = true ∨ zfk P A an isRes cal all D i fz x o S (fun S'=>br (chk fz x S' x.ds) (some S') none) ≠ some U:=by
  intro U hU;cases hcc : chk fz x U x.ds with
  | true=>exact .inl rfl
  | false =>
   right
   intro hh;have h2 := h (fun S'=>br (chk fz x S' x.ds) (some S') none);have h3 : zbd P A an isRes cal all D i fz x o S (fun S'=>br (chk fz x S' x.ds) (some S') none) = some U:=by
    unfold zbd;rw [hneed];simp only;rw [c,hc];have e : (fun S'=>br (chk fz x S' x.ds) (br (chk fz x S' x.ds) (some S') none) none) = fun S'=>br (chk fz x S' x.ds) (some S') (none : Option St):=by
     funext S'
     cases chk fz x S' x.ds <;> rfl
    rw [e];exact hh
   rw [h3] at h2;rw [← hU,hcc] at h2;cases h2
 rcases key T rfl with hk | hk
 ·rw [c] at hk;exact fun t ht e off hs=>zmc hk ht hs
 ·exact absurd h1 hk
theorem Rel.bareAt (h : Rel g0 w0 Ex g S a w) (d : Option Nat) : Rel g0 w0 Ex g (S.bareAt d) a w:=by
 cases d with
 | none=>exact h
 | some d =>
  show Rel g0 w0 Ex g (S.put d (S.slot d).bare) a w;cases hs : S.slot d with
  | val v f=>exact h.reflag hs (f' := .no) trivial (by simp) (by simp)
  | und=>rw [show S.put d Slot.und.bare = S by show S.put d Slot.und = S; rw [← hs]; exact zjc S d]; exact h
  | lp e off=>rw [show S.put d (Slot.lp e off).bare = S by show S.put d (Slot.lp e off) = S; rw [← hs]; exact zjc S d]; exact h
  | mp e=>rw [show S.put d (Slot.mp e).bare = S by show S.put d (Slot.mp e) = S; rw [← hs]; exact zjc S d]; exact h
theorem dop_ok (hN : zgg P A) (hcal : zcn P A cal) (hgl : zbn A g0 w0) {D : List Nat} {i : Nat} {fz : Fx} {x : OI} (hx : x.cl = clOf A eb o) {k : St→Option R} (h : dop P A an isRes cal D i fz x o S k = some r)
  (hg : Rel g0 w0 Ex g S a w) (Q : Exit→Act→World→Prop) : o.wp P a w (fun a' w'=>∃ S',Good g0 w0 Ex S' a' w'∧k S' = some r) Q:=by
 unfold dop at h;split at h
 ·split at h
  ·exact zd8 hN hcal hgl h hg Q
  ·refine Oper.wp_mono ?_ (zd8 hN hcal hgl h hg Q);rintro a' w' ⟨S1,⟨g1,h1⟩,h2⟩;exact ⟨_,⟨g1,h1.bareAt o.dst⟩,h2⟩
 ·split at h
  ·exact zd8 hN hcal hgl h hg Q
  split at h
  ·exact zd8 hN hcal hgl h hg Q
  ·obtain ⟨_,h⟩ := zai h;refine Oper.wp_mono ?_ (zd8 hN hcal hgl h hg Q);rintro a' w' ⟨S1,⟨g1,h1⟩,h2⟩;exact ⟨_,⟨g1,h1.bareAt o.dst⟩,h2⟩
 ·rename_i hc;rw [hx] at hc;split at h
  ·cases h
  ·rename_i d hd;obtain ⟨hp0,h⟩ := zai h;rw [Bool.and_eq_true] at hp0;obtain ⟨hlt0,hp⟩ := hp0;rcases par2 (P := P) (an := an) (isRes := isRes) (cal := cal) hc (S.mask x.lk) with hn | ⟨T,hT⟩
   ·rw [show zaq P A an isRes cal o (S.mask x.lk) _ = none from hn _ _] at h; cases h
   ·have hT' : ∀ (R : Type) (k : St→Option R),zaq P A an isRes cal o (S.mask x.lk) k = k T := hT;rw [hT'] at h;split at h
    ·rename_i v f hs;obtain ⟨hpv,hk⟩ := zai h;have hv : vOp P A an isRes cal o x.lk S = some v:=by
      unfold vOp;rw [hT'];simp only [obS,hd,hs]
     have hlt : d < S.sl.length := by simpa [Nat.blt_eq] using hlt0
     have hund : (S.put d .und).slot d = .und := by rw [zam,if_pos ⟨rfl,hlt⟩]
     have hg0 : Rel g0 w0 Ex g (S.put d .und) a w := hg.reslot rfl rfl rfl rfl (by show (setS S.sl d _).length = _; rw [zaz]) fun t=>by
      rw [zam];split
      ·exact .inr (.inl rfl)
      ·exact .inl rfl
     refine vOp_ok (S := S.put d .und) hN hcal hgl hv hpv (by show _ = (setS S.sl d _).length; rw [zaz]) (fun t ht=>?_) hd hund (by show d < (setS S.sl d _).length; rw [zaz]; exact hlt) hg0 Q _ ?_
     ·cases hst : S.slot t with
      | und=>exact .inr (by simp)
      | lp e off=>exact .inr (by simp)
      | mp e=>exact .inr (by simp)
      | val y fy =>
       refine .inl ⟨y,fy,rfl,?_,?_⟩
       ·have hm : y ∈ x.lk.map fun t=>(S.slot t).av := List.mem_map.2 ⟨t,ht,by rw [hst]; rfl⟩;obtain ⟨n,hn⟩ := List.getElem?_of_mem hm;exact zct hp n _ hn
       ·have := hg.sl t;rw [hst] at this;exact this.1
     ·intro g' u w' h1 _ h3;refine ⟨S.put d (.val v .no),⟨g',h1.reslot rfl rfl rfl rfl (by show (setS S.sl d _).length = (setS S.sl d _).length; rw [zaz,zaz]) fun t=>?_⟩,hk⟩;rw [zam,zam];split
      ·rename_i ht;refine .inr (.inr ⟨v,rfl,?_⟩);rw [ht.1,hd,zcg,if_pos ⟨rfl,by rw [← hg.len]; exact hlt⟩];exact h3
      ·exact .inl rfl
    ·cases h
 ·split at h
  ·cases h
  ·refine Oper.wp_mono ?_ (zd8 hN hcal hgl h hg Q);rintro a' w' ⟨S1,⟨g1,h1⟩,h2⟩;split at h2
   ·obtain ⟨_,h2⟩ := zai h2;exact ⟨_,⟨g1,h1⟩,h2⟩
   ·cases h2
 ·obtain ⟨_,h⟩ := zai h;exact zd8 hN hcal hgl h hg Q
 ·obtain ⟨_,h⟩ := zai h;exact zd8 hN hcal hgl h hg Q
end
end
section
section
variable {eb ebj ebi : Bool} {P : Program} {A : List (Nat × Ann)} {an : Ann} {isRes : Nat→Bool} {cal : Oracle} {o : Oper} {S S' T T' : St} {l : List Nat} {d : Nat} {dst : Option Nat}
structure Off (d : Nat) (S S' : St) : Prop where
 L : S'.L = S.L
 H : S'.H = S.H
 M : S'.M = S.M
 nx : S'.nx = S.nx
 len : S'.sl.length = S.sl.length
 sl : ∀ t,t ≠ d→S'.slot t = S.slot t
structure FrC (d : Nat) (dst : Option Nat) (S S' T T' : St) : Prop where
 off : Off d T T'
 at1 : (S.slot d).bare = S.slot d→T.slot d = S.slot d
 at2 : (S'.slot d).bare = S'.slot d→T'.slot d = S'.slot d
 pres : ∀ t,dst ≠ some t→(T.slot t).bare = (S.slot t).bare
 pres2 : ∀ t,dst ≠ some t→(T'.slot t).bare = (S'.slot t).bare
 L1 : SameL S T
 L2 : SameL S' T'
 len1 : T.sl.length = S.sl.length
theorem SameL.refl (S : St) : SameL S S := fun _=>rfl
theorem FrC.refl (h : Off d S S') : FrC d dst S S' S S' := ⟨h,fun _=>rfl,fun _=>rfl,fun _ _=>rfl,fun _ _=>rfl,.refl _,.refl _,rfl⟩
theorem zeu {s : Slot} (h : s.bare = s) : s.unlent = s:=by
 cases s with
 | val v f=>simp only [Slot.bare,Slot.val.injEq,true_and] at h; subst h; rfl
 | _=>rfl
theorem zek (s : Slot) : s.unlent.bare = s.bare := by cases s <;> rfl
theorem zs7 {s : Slot} (e : Nat) (h : s.bare = s) : s.unS e = s:=by
 cases s with
 | val v f=>simp only [Slot.bare,Slot.val.injEq,true_and] at h; subst h; rfl
 | _=>rfl
theorem zrm (s : Slot) (e : Nat) : (s.unS e).bare = s.bare:=by
 cases s with
 | val v f=>cases f <;> first | rfl | (simp only [Slot.unS]; split <;> rfl)
 | _=>rfl
theorem FrC.unlent (h : FrC d dst S S' T T') : FrC d dst S S' T.unlent T'.unlent:=by
 refine ⟨⟨h.off.L,h.off.H,h.off.M,h.off.nx,by show (T'.sl.map _).length = (T.sl.map _).length; rw [lnM,lnM]; exact h.off.len,fun t ht=>by rw [zb0,zb0,h.off.sl t ht]⟩,
  fun hb=>by rw [zb0,h.at1 hb]; exact zeu hb,fun hb=>by rw [zb0,h.at2 hb]; exact zeu hb,
  fun t ht=>by rw [zb0,zek]; exact h.pres t ht,fun t ht=>by rw [zb0,zek]; exact h.pres2 t ht,h.L1,h.L2,by show (T.sl.map _).length = _; rw [lnM]; exact h.len1⟩
theorem zj1 {s : Slot} (h : s.bare = s) : s.unlentH = s:=by
 cases s with
 | val v f=>simp only [Slot.bare,Slot.val.injEq,true_and] at h; subst h; rfl
 | _=>rfl
theorem zik (s : Slot) : s.unlentH.bare = s.bare:=by
 cases s with
 | val v f=>cases f <;> rfl
 | _=>rfl
theorem FrC.unlentH (h : FrC d dst S S' T T') : FrC d dst S S' T.unlentH T'.unlentH:=by
 refine ⟨⟨h.off.L,h.off.H,h.off.M,h.off.nx,by show (T'.sl.map _).length = (T.sl.map _).length; rw [lnM,lnM]; exact h.off.len,fun t ht=>by rw [zbh,zbh,h.off.sl t ht]⟩,
  fun hb=>by rw [zbh,h.at1 hb]; exact zj1 hb,fun hb=>by rw [zbh,h.at2 hb]; exact zj1 hb,
  fun t ht=>by rw [zbh,zik]; exact h.pres t ht,fun t ht=>by rw [zbh,zik]; exact h.pres2 t ht,h.L1,h.L2,by show (T.sl.map _).length = _; rw [lnM]; exact h.len1⟩
theorem zcj (T : St) (e t : Nat) : ({ T with sl := T.sl.map (Slot.unS e) } : St).slot t = (T.slot t).unS e := zd7 _ rfl _ _
theorem FrC.unS (h : FrC d dst S S' T T') (e : Nat) : FrC d dst S S' { T with sl := T.sl.map (Slot.unS e) } { T' with sl := T'.sl.map (Slot.unS e) }:=by
 refine ⟨⟨h.off.L,h.off.H,h.off.M,h.off.nx,by show (T'.sl.map _).length = (T.sl.map _).length; rw [lnM,lnM]; exact h.off.len,fun t ht=>by rw [zcj,zcj,h.off.sl t ht]⟩,
  fun hb=>by rw [zcj,h.at1 hb]; exact zs7 e hb,fun hb=>by rw [zcj,h.at2 hb]; exact zs7 e hb,
  fun t ht=>by rw [zcj,zrm]; exact h.pres t ht,fun t ht=>by rw [zcj,zrm]; exact h.pres2 t ht,h.L1,h.L2,by show (T.sl.map _).length = _; rw [lnM]; exact h.len1⟩
theorem FrC.put (h : FrC d dst S S' T T') {e : Nat} (hne : e ≠ d) (s : Slot) (hs : dst = some e ∨ s.bare = (T.slot e).bare) : FrC d dst S S' (T.put e s) (T'.put e s):=by
 have hs' : dst = some e ∨ s.bare = (T'.slot e).bare := by rw [h.off.sl e hne]; exact hs
 refine ⟨⟨h.off.L,h.off.H,h.off.M,h.off.nx,by show (setS T'.sl e s).length = (setS T.sl e s).length; rw [zaz,zaz]; exact h.off.len,fun t ht=>?_⟩,fun hb=>?_,fun hb=>?_,fun t ht=>?_,fun t ht=>?_,h.L1,h.L2,by show (setS T.sl e s).length = _; rw [zaz]; exact h.len1⟩
 ·rw [zam,zam,h.off.len,h.off.sl t ht]
 ·rw [zbt _ _ (Ne.symm hne)]; exact h.at1 hb
 ·rw [zbt _ _ (Ne.symm hne)]; exact h.at2 hb
 ·rw [zam];split
  ·rename_i hh;rcases hs with hs | hs
   ·rw [← hh.1] at hs; exact absurd hs ht
   ·rw [hs,← hh.1]; exact h.pres t ht
  ·exact h.pres t ht
 ·rw [zam];split
  ·rename_i hh;rcases hs' with hs | hs
   ·rw [← hh.1] at hs; exact absurd hs ht
   ·rw [hs,← hh.1]; exact h.pres2 t ht
  ·exact h.pres2 t ht
theorem FrC.putd (h : FrC d dst S S' T T') (hne : dst ≠ some d) (s : Slot) : FrC d dst S S' (T.putd dst s) (T'.putd dst s):=by
 cases hd : dst with
 | none=>rw [hd] at h; exact h
 | some e=>rw [hd] at h hne; exact h.put (fun he=>hne (by rw [he])) s (.inl rfl)
theorem FrC.putown (h : FrC d dst S S' T T') (hne : dst ≠ some d) (v : AV) (f : Fl) : FrC d dst S S' (T.putown dst v f) (T'.putown dst v f):=by
 cases hd : dst with
 | none=>rw [hd] at h; exact h
 | some e =>
  rw [hd] at h hne;have he : e ≠ d := fun he=>hne (by rw [he]);cases f with
  | no=>exact h.put he _ (.inl rfl)
  | own=>exact (h.unS e).put he _ (.inl rfl)
  | ownS=>exact (h.unS e).put he _ (.inl rfl)
  | lS q=>exact (h.unS e).put he _ (.inl rfl)
  | lL q q2=>exact (h.unS e).put he _ (.inl rfl)
  | lH q q2=>exact (h.unS e).put he _ (.inl rfl)
  | comps cs=>exact (h.unS e).put he _ (.inl rfl)
theorem FrC.mem (h : FrC d dst S S' T T') (H : Hp) (n : Nat) : FrC d dst S S' { T with H := H,nx := n } { T' with H := H,nx := n } :=
 ⟨⟨h.off.L,rfl,h.off.M,rfl,h.off.len,h.off.sl⟩,h.at1,h.at2,h.pres,h.pres2,h.L1,h.L2,h.len1⟩
theorem FrC.setH (h : FrC d dst S S' T T') (H : Hp) : FrC d dst S S' { T with H := H } { T' with H := H } :=
 ⟨⟨h.off.L,rfl,h.off.M,h.off.nx,h.off.len,h.off.sl⟩,h.at1,h.at2,h.pres,h.pres2,h.L1,h.L2,h.len1⟩
theorem FrC.setL (h : FrC d dst S S' T T') {e : Nat} {b : Blk} {fr : List Nat} (hb : getL T.L e = some b) : FrC d dst S S' { T with L := Vai.setL T.L e ⟨b.cells,fr⟩ } { T' with L := Vai.setL T'.L e ⟨b.cells,fr⟩ }:=by
 refine ⟨⟨by show Vai.setL T'.L e _ = Vai.setL T.L e _; rw [h.off.L],h.off.H,h.off.M,h.off.nx,h.off.len,h.off.sl⟩,h.at1,h.at2,h.pres,h.pres2,fun q=>?_,fun q=>?_,h.len1⟩
 ·show (getL (Vai.setL T.L e ⟨b.cells,fr⟩) q).map (·.cells) = _;rw [zcq];split
  ·rename_i hq;rw [← h.L1 q,hq,hb];rfl
  ·exact h.L1 q
 ·show (getL (Vai.setL T'.L e ⟨b.cells,fr⟩) q).map (·.cells) = _;rw [zcq];split
  ·rename_i hq;rw [← h.L2 q,hq,h.off.L,hb];rfl
  ·exact h.L2 q
def TwoC (d : Nat) (F F' : ∀ R : Type,(St→Option R)→Option R) (dst : Option Nat) (S S' : St) : Prop :=
 (∀ R k,F R k = none) ∨ ∃ T T',(∀ R k,F R k = k T)∧(∀ R k,F' R k = k T')∧FrC d dst S S' T T'
theorem Off.evx (h : Off d S S') {x : Operand} (hx : x ≠ .tmp d) : S'.ev x = S.ev x:=by
 cases x with
 | tmp t=>show (S'.slot t).av = (S.slot t).av; rw [h.sl t (fun e=>hx (by rw [e]))]
 | _=>rfl
theorem Off.evTx (h : Off d S S') {x : Operand} (hx : x ≠ .tmp d) (t : TypeId) : evT P S' t x = evT P S t x:=by
 cases x with
 | const c=>rfl
 | tmp t=>exact h.evx hx
 | _=>rfl
theorem zhe (h : Off d S S') : ∀ (args : List Operand) (tys : List TypeId),(∀ x ∈ args,x ≠ .tmp d)→evsT P S' tys args = evsT P S tys args
 | [],_,_=>by simp [evsT]
 | x :: l,[],hx=>by simp only [evsT]; rw [h.evx (hx x mcS),zhe h l [] fun y hy=>hx y (mcM _ hy)]
 | x :: l,t :: ts,hx=>by simp only [evsT]; rw [h.evTx (hx x mcS),zhe h l ts fun y hy=>hx y (mcM _ hy)]
theorem zpt {st st2 : TypeId} {x y : Operand} (h : Off d S S') (hx : x ≠ .tmp d) (hy : y ≠ .tmp d) (hdst : o.dst ≠ some d) (hlent : ∀ t v q,x = .tmp t→S.slot t = .val v (.lS q)→q ≠ d) :
  TwoC d (fun _ k=>zd6 P o st st2 x y S k) (fun _ k=>zd6 P o st st2 x y S' k) o.dst S S':=by
 unfold TwoC zd6;cases zj7 P st with
 | none=>exact .inl fun R k=>rfl
 | some e =>
  cases zs5 P st with
  | false=>exact .inl fun R k=>rfl
  | true =>
   simp only;cases Nat.beq (zaj P e) 0 with
   | true=>exact .inl fun R k=>rfl
   | false =>
    cases zms P st2 with
    | false=>exact .inl fun R k=>rfl
    | true =>
     simp only;rw [h.evTx hy,h.evTx hx];rcases zgo (S := S) (tAgg P e) (zaj P e) (evT P S st y) with hn | ⟨l2,h2⟩
     ·exact .inl fun R k=>hn R _
     ·have h2' : ∀ (R : Type) (k : List AV→Option R),zby (tAgg P e) (zaj P e) (evT P S st y) S' k = k l2 := fun R k=>(zhi _ _ _ _ (.inl (.of h.H))).trans (h2 R k);have h2'' : ∀ (R : Type) (k : List AV→Option R),zby (tAgg P e) (zaj P e) (evT P S st y) S k = k l2 := h2;simp only [h2',h2''];cases evT P S st x with
      | vs z tg l =>
       simp only [AV.vs?];cases Nat.beq z (zaj P e) with
       | false=>exact .inl fun R k=>rfl
       | true =>
        simp only;have fin : ∀ (fl : Fl) (X X' : St),FrC d o.dst S S' X X'→(∀ (R : Type) (k : St→Option R),(br (Nat.ble ((l.length + l2.length) * zcu P e) za5) (br (Nat.ble (l.length + l2.length) za5) (match o.dst with
          | some _=>k (X.unlent.putown o.dst (.vs (zaj P e) false (l ++ l2)) fl)
          | none=>none) none) none) = none) ∨ ∃ T T',(∀ (R : Type) (k : St→Option R),(br (Nat.ble ((l.length + l2.length) * zcu P e) za5) (br (Nat.ble (l.length + l2.length) za5) (match o.dst with
          | some _=>k (X.unlent.putown o.dst (.vs (zaj P e) false (l ++ l2)) fl)
          | none=>none) none) none) = k T)∧(∀ (R : Type) (k : St→Option R),(br (Nat.ble ((l.length + l2.length) * zcu P e) za5) (br (Nat.ble (l.length + l2.length) za5) (match o.dst with
          | some _=>k (X'.unlent.putown o.dst (.vs (zaj P e) false (l ++ l2)) fl)
          | none=>none) none) none) = k T')∧FrC d o.dst S S' T T':=by
         intro fl X X' hX;cases Nat.ble ((l.length + l2.length) * zcu P e) za5 with
         | false=>exact .inl fun R k=>rfl
         | true =>
          cases Nat.ble (l.length + l2.length) za5 with
          | false=>exact .inl fun R k=>rfl
          | true =>
           cases hd : o.dst with
           | none=>exact .inl fun R k=>rfl
           | some q =>
            rw [hd] at hX hdst;exact .inr ⟨_,_,fun R k=>rfl,fun R k=>rfl,hX.unlent.putown hdst _ _⟩
        have tight : (∀ (R : Type) (k : St→Option R),(br tg (br (Nat.ble ((l.length + l2.length) * zcu P e) za5) (br (Nat.ble (l.length + l2.length) za5) (match o.dst with
          | some _=>k (S.unlent.putown o.dst (.vs (zaj P e) false (l ++ l2)) .own)
          | none=>none) none) none) none) = none) ∨ ∃ T T',(∀ (R : Type) (k : St→Option R),(br tg (br (Nat.ble ((l.length + l2.length) * zcu P e) za5) (br (Nat.ble (l.length + l2.length) za5) (match o.dst with
          | some _=>k (S.unlent.putown o.dst (.vs (zaj P e) false (l ++ l2)) .own)
          | none=>none) none) none) none) = k T)∧(∀ (R : Type) (k : St→Option R),(br tg (br (Nat.ble ((l.length + l2.length) * zcu P e) za5) (br (Nat.ble (l.length + l2.length) za5) (match o.dst with
          | some _=>k (S'.unlent.putown o.dst (.vs (zaj P e) false (l ++ l2)) .own)
          | none=>none) none) none) none) = k T')∧FrC d o.dst S S' T T':=by
         cases tg with
         | false=>exact .inl fun R k=>rfl
         | true=>exact fin .own S S' (.refl h)
        cases x with
        | const c=>exact fin .own S S' (.refl h)
        | func f=>exact .inl fun R k=>rfl
        | global g=>exact .inl fun R k=>rfl
        | tmp t =>
         have htd : t ≠ d := fun e=>hx (by rw [e]);simp only;rw [h.sl t htd];cases hs : S.slot t with
         | und=>exact tight
         | lp a b=>exact tight
         | mp a=>exact tight
         | val v f =>
          cases f with
          | no=>exact tight
          | comps cs=>exact tight
          | own=>exact fin _ _ _ ((FrC.refl h).put htd (.val v .no) (.inr (by rw [hs]; rfl)))
          | ownS=>exact tight
          | lS q =>
           have hq := hlent t v q rfl hs;simp only;rw [h.sl q hq];cases hsq : S.slot q with
           | und=>exact tight
           | lp a b=>exact tight
           | mp a=>exact tight
           | val u fu =>
            cases fu with
            | own=>exact fin _ _ _ ((FrC.refl h).put hq (.val u .no) (.inr (by rw [hsq]; rfl)))
            | ownS=>exact tight
            | _=>exact tight
          | lL q off =>
           simp only;rw [h.L];cases hL : getL S.L q with
           | none=>exact .inl fun R k=>rfl
           | some b =>
            simp only [obS];cases memN off b.free with
            | false=>exact tight
            | true =>
             have := (FrC.refl (dst := o.dst) h).setL (fr := delN off b.free) hL;rw [h.L] at this;exact fin _ _ _ this
          | lH id off =>
           simp only;rw [h.H];cases hH : S.H id with
           | none=>exact .inl fun R k=>rfl
           | some b =>
            simp only [obS];cases memN off b.free with
            | false=>exact tight
            | true=>exact fin _ _ _ ((FrC.refl (dst := o.dst) h).setH _)
      | _=>exact .inl fun R k=>rfl
theorem zp8 {x : Operand} (h : Off d S S') (hx : x ≠ .tmp d) (hdst : o.dst ≠ some d) (hlent : ∀ t v q,x = .tmp t→S.slot t = .val v (.lS q)→q ≠ d) :
  TwoC d (fun _ k=>zdk P isRes o x S k) (fun _ k=>zdk P isRes o x S' k) o.dst S S':=by
 unfold TwoC zdk;cases hd : o.dst with
 | none=>exact .inl fun R k=>rfl
 | some e =>
  rw [hd] at hdst;have he : e ≠ d := fun he=>hdst (by rw [he]);have fin : ∀ (X X' : St) (s : Slot),FrC d (some e) S S' X X'→FrC d (some e) S S' (X.unlent.put e s) (X'.unlent.put e s) := fun X X' s hX=>hX.unlent.put he s (.inl rfl);cases x with
  | const c =>
   refine .inr ⟨_,_,fun R k=>rfl,fun R k=>rfl,?_⟩;unfold zii;split
   ·split
    ·exact fin _ _ _ (.refl h)
    ·exact (FrC.refl h).put he _ (.inl rfl)
   ·exact fin _ _ _ (.refl h)
  | func f=>exact .inr ⟨_,_,fun R k=>rfl,fun R k=>rfl,fin _ _ _ (.refl h)⟩
  | global g=>exact .inl fun R k=>rfl
  | tmp t =>
   have htd : t ≠ d := fun e=>hx (by rw [e]);simp only;rw [h.sl t htd];cases hs : S.slot t with
   | und=>exact .inr ⟨_,_,fun R k=>rfl,fun R k=>rfl,fin _ _ _ (.refl h)⟩
   | lp a b=>exact .inr ⟨_,_,fun R k=>rfl,fun R k=>rfl,fin _ _ _ (.refl h)⟩
   | mp a=>exact .inr ⟨_,_,fun R k=>rfl,fun R k=>rfl,fin _ _ _ (.refl h)⟩
   | val v f =>
    cases f with
    | own=>exact .inr ⟨_,_,fun R k=>rfl,fun R k=>rfl,fin _ _ _ ((FrC.refl h).put htd (.val v .no) (.inr (by rw [hs]; rfl)))⟩
    | ownS=>exact .inr ⟨_,_,fun R k=>rfl,fun R k=>rfl,fin _ _ _ (.refl h)⟩
    | lS q =>
     have hq := hlent t v q rfl hs;simp only;cases isRes e with
     | false=>exact .inr ⟨_,_,fun R k=>rfl,fun R k=>rfl,fin _ _ _ (.refl h)⟩
     | true =>
      simp only;rw [h.sl q hq];cases hsq : S.slot q with
      | val u fu =>
       cases fu with
       | own=>exact .inr ⟨_,_,fun R k=>rfl,fun R k=>rfl,fin _ _ _ ((FrC.refl h).put hq (.val u .no) (.inr (by rw [hsq]; rfl)))⟩
       | ownS=>exact .inr ⟨_,_,fun R k=>rfl,fun R k=>rfl,fin _ _ _ (.refl h)⟩
       | _=>exact .inr ⟨_,_,fun R k=>rfl,fun R k=>rfl,fin _ _ _ (.refl h)⟩
      | _=>exact .inr ⟨_,_,fun R k=>rfl,fun R k=>rfl,fin _ _ _ (.refl h)⟩
    | _=>exact .inr ⟨_,_,fun R k=>rfl,fun R k=>rfl,fin _ _ _ (.refl h)⟩
theorem zn6 {x : Operand} {i : Nat} (h : Off d S S') (hx : x ≠ .tmp d) (hdst : o.dst ≠ some d) (hlent : ∀ t v q,x = .tmp t→S.slot t = .val v (.lS q)→q ≠ d) :
  TwoC d (fun _ k=>zdt o x i S k) (fun _ k=>zdt o x i S' k) o.dst S S':=by
 unfold TwoC zdt;have pl : ∀ c,FrC d o.dst S S' (S.putd o.dst (.val c .no)) (S'.putd o.dst (.val c .no)) := fun c=>(FrC.refl h).putd hdst _;cases x with
 | tmp t =>
  have htd : t ≠ d := fun e=>hx (by rw [e]);simp only;rw [h.sl t htd];cases hs : S.slot t with
  | val v f =>
   simp only;cases v with
   | tuple l =>
    simp only [AV.tup?];cases nth l i with
    | none=>exact .inl fun R k=>rfl
    | some c =>
     simp only [obS];cases f with
     | comps cs =>
      simp only;cases memN i cs with
      | false=>exact .inr ⟨_,_,fun R k=>rfl,fun R k=>rfl,pl c⟩
      | true=>exact .inr ⟨_,_,fun R k=>rfl,fun R k=>rfl,((FrC.refl h).put htd _ (.inr (by rw [hs]; rfl))).putown hdst _ _⟩
     | lS q =>
      have hq := hlent t _ q rfl hs;simp only;rw [h.sl q hq];cases hsq : S.slot q with
      | val u fu =>
       cases fu with
       | comps cs =>
        simp only;cases memN i cs with
        | false=>exact .inr ⟨_,_,fun R k=>rfl,fun R k=>rfl,pl c⟩
        | true=>exact .inr ⟨_,_,fun R k=>rfl,fun R k=>rfl,((FrC.refl h).put hq _ (.inr (by rw [hsq]; rfl))).putown hdst _ _⟩
       | _=>exact .inr ⟨_,_,fun R k=>rfl,fun R k=>rfl,pl c⟩
      | _=>exact .inr ⟨_,_,fun R k=>rfl,fun R k=>rfl,pl c⟩
     | _=>exact .inr ⟨_,_,fun R k=>rfl,fun R k=>rfl,pl c⟩
   | _=>exact .inl fun R k=>rfl
  | _=>exact .inl fun R k=>rfl
 | _=>exact .inl fun R k=>rfl
theorem cl_ne4 {A : List (Nat × Ann)} {eb : Bool} {o : Oper} : clOf A eb o ≠ 4:=by
 intro h;unfold clOf at h
 repeat' split at h
 all_goals cases h
theorem frameC (hcl : clOf A eb o = 3 ∨ clOf A eb o = 4) (h : Off d S S') (hd : Operand.tmp d ∉ o.op.operands) (hdst : o.dst ≠ some d) (hlent : clOf A eb o = 3→∀ t v q,Operand.tmp t ∈ o.op.operands→S.slot t = .val v (.lS q)→q ≠ d) :
  TwoC d (fun _ k=>zaq P A an isRes cal o S k) (fun _ k=>zaq P A an isRes cal o S' k) o.dst S S':=by
 cases hop : o.op with
 | call c =>
  obtain ⟨callee,args,tys⟩ := c;have harg : ∀ x,x ∈ args.toList→x ∈ o.op.operands := fun x hx=>by
   have : x ∈ args := Array.mem_toList_iff.1 hx;simp [hop,Op.operands,Call.operands,this]
  cases callee with
  | builtin b =>
   cases b with
   | append =>
    simp only [zaq,hop,zbv]
    match hty : tys.toList,har : args.toList with
    | [t,t2],[x,y] =>
     have hx := harg x (by rw [har]; simp);have hy := harg y (by rw [har]; simp);exact zpt h (fun e=>hd (e ▸ hx)) (fun e=>hd (e ▸ hy)) hdst fun t v q ht hs=>hlent (by
      rcases hcl with h | h
      ·exact h
      ·simp only [clOf,hop] at h
       repeat' split at h
       all_goals cases h) t v q (ht ▸ hx) hs
    | [],_=>exact .inl fun R k=>rfl
    | [_],_=>exact .inl fun R k=>rfl
    | _ :: _ :: _ :: _,_=>exact .inl fun R k=>rfl
    | [_,_],[]=>exact .inl fun R k=>rfl
    | [_,_],[_]=>exact .inl fun R k=>rfl
    | [_,_],_ :: _ :: _ :: _=>exact .inl fun R k=>rfl
   | _=>simp [clOf,hop] at hcl
  | value f =>
   cases f with
   | func g =>
    simp only [zaq,hop];unfold TwoC zke;simp only [St.ev,AV.func?];cases hi : (getA A g).imp with
    | false =>
     simp only;rw [zhe h args.toList tys.toList fun x hx e=>hd (e ▸ harg x hx)];cases za3 (evsT P S tys.toList args.toList ++ []) with
     | false=>exact .inl fun R k=>rfl
     | true =>
      cases cal g (evsT P S tys.toList args.toList ++ []) Hp.none 0 with
      | none=>exact .inl fun R k=>rfl
      | some r =>
       cases hp : r.v.pure with
       | false=>exact .inl fun R k=>by show br r.v.pure _ _ = _; rw [hp]; rfl
       | true=>exact .inr ⟨_,_,fun R k=>(by show br r.v.pure _ _ = _; rw [hp]; rfl),fun R k=>(by show br r.v.pure _ _ = _; rw [hp]; rfl),(FrC.refl h).putown hdst _ _⟩
    | true =>
     simp only;rw [zhe h args.toList tys.toList fun x hx e=>hd (e ▸ harg x hx),h.H,h.nx];cases cal g (evsT P S tys.toList args.toList ++ []) S.H S.nx with
     | none=>exact .inl fun R k=>rfl
     | some r=>exact .inr ⟨_,_,fun R k=>rfl,fun R k=>rfl,(((FrC.refl h).mem r.H r.nx).unlentH).putown hdst _ _⟩
   | _=>simp [clOf,hop] at hcl
  | invoke _ _=>simp [clOf,hop] at hcl
 | assign x =>
  have hx : x ∈ o.op.operands := by simp [hop,Op.operands]
  simp only [zaq,hop];exact zp8 h (fun e=>hd (e ▸ hx)) hdst fun t v q ht hs=>hlent (by simp [clOf,hop]) t v q (ht ▸ hx) hs
 | extract x i =>
  have hx : x ∈ o.op.operands := by simp [hop,Op.operands]
  have h3 : clOf A eb o = 3:=by
   rcases hcl with hcl | hcl
   ·exact hcl
   ·simp only [clOf,hop] at hcl;split at hcl <;> simp at hcl
  simp only [zaq,hop];exact zn6 h (fun e=>hd (e ▸ hx)) hdst fun t v q ht hs=>hlent h3 t v q (ht ▸ hx) hs
 | move x =>
  exfalso;simp only [clOf,hop] at hcl;split at hcl <;> simp at hcl
 | alloc _ =>
  exfalso;simp only [clOf,hop] at hcl;split at hcl <;> simp at hcl
 | _=>simp [clOf,hop] at hcl
theorem ztv {x : Operand} (S : St) : (∀ (R : Type) (k : St→Option R),zdk P isRes o x S k = none) ∨ ∃ T,(∀ (R : Type) (k : St→Option R),zdk P isRes o x S k = k T)∧T.H = S.H:=by
 unfold zdk;cases o.dst with
 | none=>exact .inl fun R k=>rfl
 | some d =>
  cases x with
  | const c =>
   refine .inr ⟨_,fun R k=>rfl,?_⟩;unfold zii;split
   ·split <;> rfl
   ·rfl
  | func f=>exact .inr ⟨_,fun R k=>rfl,rfl⟩
  | global g=>exact .inl fun R k=>rfl
  | tmp t =>
   simp only;cases S.slot t with
   | und=>exact .inr ⟨_,fun R k=>rfl,rfl⟩
   | lp a b=>exact .inr ⟨_,fun R k=>rfl,rfl⟩
   | mp a=>exact .inr ⟨_,fun R k=>rfl,rfl⟩
   | val v f =>
    cases f with
    | lS q =>
     simp only;cases isRes d with
     | false=>exact .inr ⟨_,fun R k=>rfl,rfl⟩
     | true =>
      simp only;cases S.slot q with
      | val u fu =>
       cases fu with
       | own=>exact .inr ⟨_,fun R k=>rfl,rfl⟩
       | ownS=>exact .inr ⟨_,fun R k=>rfl,rfl⟩
       | _=>exact .inr ⟨_,fun R k=>rfl,rfl⟩
      | _=>exact .inr ⟨_,fun R k=>rfl,rfl⟩
    | _=>exact .inr ⟨_,fun R k=>rfl,rfl⟩
theorem zt2 {st st2 : TypeId} {x y : Operand} {S T : St} (h : zd6 P o st st2 x y S some = some T) : zco S T:=by
 have fin : ∀ (l l2 : List AV) (sz bt : Nat) (X : St) (fl : Fl),zco S X→br (Nat.ble ((l.length + l2.length) * bt) za5) (br (Nat.ble (l.length + l2.length) za5) (match o.dst with
   | some _=>some (X.unlent.putown o.dst (.vs sz false (l ++ l2)) fl)
   | none=>none) none) none = some T→zco S T:=by
  intro l l2 sz bt X fl hX h;obtain ⟨_,h⟩ := zai h;obtain ⟨_,h⟩ := zai h;split at h
  ·injection h with h;rw [← h];intro i;rw [← hX i]
   congr 1
   rename_i hd;rw [hd];cases fl <;> rfl
  ·cases h
 unfold zd6 at h;split at h
 ·split at h
  ·have key : ∀ (ag : Bool) (sz : Nat) (v : AV) (K : List AV→Option St),zby ag sz v S K = some T→∃ l,K l = some T:=by
    intro ag sz v K hh;unfold zby at hh
    repeat' split at hh
    all_goals first | exact ⟨_,hh⟩ | cases hh | skip
    obtain ⟨b,_,hh⟩ := za2 hh;obtain ⟨_,hh⟩ := zai hh;exact ⟨_,hh⟩
   obtain ⟨l2,h⟩ := key _ _ _ _ h;simp only at h;rename_i e _ _ _ _ _;cases hv : evT P S st x with
   | vs z tg l =>
    rw [hv] at h;simp only [AV.vs?] at h;split at h
    ·cases h
    ·split at h
     ·(refine fin _ _ _ _ _ _ ?_ h; exact .of rfl)
     ·split at h
      ·(refine fin _ _ _ _ _ _ ?_ h; exact .of rfl)
      ·split at h
       ·(refine fin _ _ _ _ _ _ ?_ h; exact .of rfl)
       ·obtain ⟨_,h⟩ := zai h
        (refine fin _ _ _ _ _ _ ?_ h; exact .of rfl)
      ·obtain ⟨bl,_,h⟩ := za2 h;split at h
       ·(refine fin _ _ _ _ _ _ ?_ h; exact .of rfl)
       ·obtain ⟨_,h⟩ := zai h
        (refine fin _ _ _ _ _ _ ?_ h; exact .of rfl)
      ·obtain ⟨bl,hb,h⟩ := za2 h;split at h
       ·refine fin _ _ _ _ _ _ (fun i=>?_) h;show ((S.H.set _ _) i).map _ = _;rw [zix];split
        ·rename_i hi; rw [hi,hb]; rfl
        ·rfl
       ·obtain ⟨_,h⟩ := zai h
        (refine fin _ _ _ _ _ _ ?_ h; exact .of rfl)
      ·obtain ⟨_,h⟩ := zai h
       (refine fin _ _ _ _ _ _ ?_ h; exact .of rfl)
     ·cases h
   | _=>rw [hv] at h; cases h
  ·cases h
 ·cases h
def NoB (wb : List Nat) (s : Slot) : Prop := ∀ e off,(s = .lp e off ∨ s = .mp e)→e ∉ wb
structure FrW (hz : Bool) (wb : List Nat) (d : Nat) (dst : Option Nat) (S S' T T' : St) : Prop where
 off : Off d T T'
 at1 : (S.slot d).bare = S.slot d→NoB wb (S.slot d)→T.slot d = S.slot d
 pres2 : ∀ t,dst ≠ some t→NoB wb (S'.slot t)→(T'.slot t).bare = (S'.slot t).bare
 L2 : ∀ q,q ∉ wb→(getL T'.L q).map (·.cells) = (getL S'.L q).map (·.cells)
 H2 : hz = false→T'.H = S'.H
 len1 : T.sl.length = S.sl.length
def TwoW (hz : Bool) (wb : List Nat) (d : Nat) (F F' : ∀ R : Type,(St→Option R)→Option R) (dst : Option Nat) (S S' : St) : Prop :=
 (∀ R k,F R k = none) ∨ ∃ T T',(∀ R k,F R k = k T)∧(∀ R k,F' R k = k T')∧FrW hz wb d dst S S' T T'
theorem zki (S : St) (x : Operand) (t : Nat) : (zb5 S x).slot t = S.slot t ∨ x = .tmp t∧∃ v f,S.slot t = .val v f∧(zb5 S x).slot t = .val v .no:=by
 unfold zb5;cases x with
 | tmp u =>
  simp only;cases hs : S.slot u with
  | val v f =>
   cases f with
   | own =>
    simp only;rw [zam];split
    ·rename_i hh;obtain ⟨rfl,_⟩ := hh;exact .inr ⟨rfl,v,.own,hs,rfl⟩
    ·exact .inl rfl
   | ownS =>
    simp only;rw [zam];split
    ·rename_i hh;obtain ⟨rfl,_⟩ := hh;exact .inr ⟨rfl,v,.ownS,hs,rfl⟩
    ·exact .inl rfl
   | _=>exact .inl rfl
  | _=>exact .inl rfl
 | _=>exact .inl rfl
theorem zch (S : St) (x : Operand) : (zb5 S x).L = S.L∧(zb5 S x).H = S.H∧(zb5 S x).M = S.M∧(zb5 S x).nx = S.nx∧(zb5 S x).sl.length = S.sl.length:=by
 unfold zb5;cases x with
 | tmp u =>
  simp only;cases S.slot u with
  | val v f =>
   cases f with
   | own=>exact ⟨rfl,rfl,rfl,rfl,by show (setS S.sl u _).length = _; rw [zaz]⟩
   | ownS=>exact ⟨rfl,rfl,rfl,rfl,by show (setS S.sl u _).length = _; rw [zaz]⟩
   | _=>exact ⟨rfl,rfl,rfl,rfl,rfl⟩
  | _=>exact ⟨rfl,rfl,rfl,rfl,rfl⟩
 | _=>exact ⟨rfl,rfl,rfl,rfl,rfl⟩
theorem zt0 {x : Operand} (h : Off d S S') (hx : x ≠ .tmp d) : Off d (zb5 S x) (zb5 S' x):=by
 obtain ⟨a1,a2,a3,a4,a5⟩ := zch S x;obtain ⟨b1,b2,b3,b4,b5⟩ := zch S' x;refine ⟨by rw [a1,b1,h.L],by rw [a2,b2,h.H],by rw [a3,b3,h.M],by rw [a4,b4,h.nx],by rw [a5,b5,h.len],fun t ht=>?_⟩;unfold zb5;cases x with
 | tmp u =>
  have hu : u ≠ d := fun e=>hx (by rw [e]);simp only;rw [h.sl u hu];cases S.slot u with
  | val v f =>
   cases f with
   | own=>simp only; rw [zam,zam,h.len,h.sl t ht]
   | ownS=>simp only; rw [zam,zam,h.len,h.sl t ht]
   | _=>exact h.sl t ht
  | _=>exact h.sl t ht
 | _=>exact h.sl t ht
theorem zos {X X' : St} {L : List (Nat × Blk)} {H : Hp} {x : Operand} {hz : Bool} {wb : List Nat} (h : Off d S S') (hx : x ≠ .tmp d) (hX : X = ({ (zb5 S x) with L := L,H := H } : St).unlent) (hX' : X' = ({ (zb5 S' x) with L := L,H := H } : St).unlent)
  (hL : ∀ q,q ∉ wb→(getL L q).map (·.cells) = (getL S'.L q).map (·.cells)) (hH : hz = false→H = S'.H) : FrW hz wb d dst S S' X X':=by
 subst hX hX';have o := zt0 h hx;have sl1 : ∀ (T : St) t,({ (zb5 T x) with L := L,H := H } : St).unlent.slot t = ((zb5 T x).slot t).unlent := fun T t=>zb0 _ t;refine ⟨⟨rfl,rfl,o.M,o.nx,by show ((zb5 S' x).sl.map _).length = ((zb5 S x).sl.map _).length; rw [lnM,lnM]; exact o.len,fun t ht=>by rw [sl1,sl1,o.sl t ht]⟩,fun hb _=>?_,fun t _ _=>?_,hL,hH,?_⟩
 ·rw [sl1];rcases zki S x d with e | ⟨e,_⟩
  ·rw [e]; exact zeu hb
  ·exact absurd e hx
 ·rw [sl1,zek];rcases zki S' x t with e | ⟨_,v,f,e1,e2⟩
  ·rw [e]
  ·rw [e1,e2]; rfl
 ·show ((zb5 S x).sl.map _).length = _;rw [lnM];exact (zch S x).2.2.2.2
theorem zr3 {fz : Fx} {x : OI} {ty : TypeId} {a v : Operand} (ho : o.op = .store ty a v) (h : Off d S S') (ha : a ≠ .tmp d) (hv : v ≠ .tmp d) :
  TwoW fz.hz x.wb d (fun _ k=>br (stOk fz x o S) (zaq P A an isRes cal o S k) none) (fun _ k=>br (stOk fz x o S') (zaq P A an isRes cal o S' k) none) o.dst S S':=by
 unfold TwoW;have nn : ∀ {R : Type} (b : Bool),br b (none : Option R) none = none := fun b=>by cases b <;> rfl
 cases a with
 | tmp ta =>
  have hta : ta ≠ d := fun e=>ha (by rw [e]);simp only [stOk,ho,zaq,h.sl ta hta];cases hd : o.dst with
  | some q=>exact .inl fun R k=>nn _
  | none =>
   simp only;unfold zns;cases Nat.beq (zaj P ty) 0 with
   | true=>exact .inl fun R k=>nn _
   | false =>
    simp only;rw [h.evTx hv];have ow : zgh S' v = zgh S v:=by
     unfold zgh;cases v with
     | tmp u=>simp only; rw [h.sl u fun e=>hv (by rw [e])]
     | _=>rfl
    have owS : ze3 S' v = ze3 S v:=by
     unfold ze3;cases v with
     | tmp u=>simp only; rw [h.sl u fun e=>hv (by rw [e])]
     | _=>rfl
    simp only [ow,owS,h.sl ta hta,h.L,h.H];rcases (show Par fun _ (k : List AV→Option _)=>(evT P S ty v).cells? k from by cases evT P S ty v <;> first | exact Par.ret _ | exact Par.none') with hn | ⟨cs,hc⟩
    ·have hn' : ∀ (R : Type) (k : List AV→Option R),(evT P S ty v).cells? k = none := hn;simp only [hn'];exact .inl fun R k=>nn _
    ·have hc' : ∀ (R : Type) (k : List AV→Option R),(evT P S ty v).cells? k = k cs := hc;simp only [hc'];cases Nat.beq cs.length (zaj P ty) with
     | false=>exact .inl fun R k=>nn _
     | true =>
      cases hs : S.slot ta with
      | und=>exact .inl fun R k=>by cases fz.hz <;> rfl
      | mp e=>exact .inl fun R k=>by cases fz.hz <;> rfl
      | lp e off =>
       simp only;cases hm : memN e x.wb with
       | false=>exact .inl fun R k=>rfl
       | true =>
        cases hL : getL S.L e with
        | none=>exact .inl fun R k=>rfl
        | some b =>
         simp only [obS];cases Nat.ble (off + cs.length) b.cells.length with
         | false=>exact .inl fun R k=>rfl
         | true =>
          refine .inr ⟨_,_,fun R k=>rfl,fun R k=>rfl,zos (L := setL S.L e ⟨patch b.cells off cs,zfp off cs.length (zgh S v && isVs (evT P S ty v)) b.free⟩) (H := S.H) h hv ?_ ?_ (fun q hq=>?_) fun _=>h.H.symm⟩
          ·rw [show S.H = (zb5 S v).H from (zch S v).2.1.symm]
          ·rw [show S.H = (zb5 S' v).H from by rw [(zch S' v).2.1,h.H]]
          ·rw [zcq,if_neg (fun he : q = e=>hq (he ▸ zbj.1 hm)),h.L]
      | val u f =>
       simp only;cases hz : fz.hz with
       | false=>exact .inl fun R k=>rfl
       | true =>
        cases u with
        | ptr id off =>
         simp only;cases hH : S.H id with
         | none=>exact .inl fun R k=>rfl
         | some b =>
          simp only [obS];cases Nat.ble (off + cs.length) b.cells.length with
          | false=>exact .inl fun R k=>rfl
          | true =>
           refine .inr ⟨_,_,fun R k=>rfl,fun R k=>rfl,zos (L := S.L) (H := S.H.set id ⟨patch b.cells off cs,zfp off cs.length (ze3 S v && isVs (evT P S ty v)) b.free⟩) h hv ?_ ?_ (fun q hq=>?_) fun hh=>(by cases hh)⟩
           ·rw [show S.L = (zb5 S v).L from (zch S v).1.symm]
           ·rw [show S.L = (zb5 S' v).L from by rw [(zch S' v).1,h.L]]
           ·rw [h.L]
        | _=>exact .inl fun R k=>rfl
 | _=>exact .inl fun R k=>by simp only [stOk,ho,br]
theorem NoB.drop {wb : List Nat} {s : Slot} {q : Nat} (h : NoB wb s) (hq : q ∈ wb) : zax q s = s:=by
 cases s with
 | lp e off =>
  have : e ≠ q := fun he=>h e off (.inl rfl) (he ▸ hq);have hb : Nat.beq e q = false:=by
   cases hb : Nat.beq e q with
   | false=>rfl
   | true=>exact absurd (beqN hb) this
  simp only [zax,hb]
 | mp e =>
  have : e ≠ q := fun he=>h e 0 (.inr rfl) (he ▸ hq);have hb : Nat.beq e q = false:=by
   cases hb : Nat.beq e q with
   | false=>rfl
   | true=>exact absurd (beqN hb) this
  simp only [zax,hb]
 | _=>rfl
def zde (S : St) (q : Nat) (z : List AV) (fr : List Nat) : St := ({ S with L := setL S.L q ⟨z,fr⟩,sl := S.sl.map (zax q) } : St).unlent.put q (.lp q 0)
theorem zd1 (S : St) (q : Nat) (z : List AV) (fr : List Nat) (t : Nat) : (zde S q z fr).slot t = if t = q∧q < S.sl.length then .lp q 0 else (zax q (S.slot t)).unlent:=by
 unfold zde;rw [zam];have e : ({ S with L := setL S.L q ⟨z,fr⟩,sl := S.sl.map (zax q) } : St).unlent.sl.length = S.sl.length := by show ((S.sl.map _).map _).length = _; rw [lnM,lnM]
 rw [e];split
 ·rfl
 ·refine (zb0 _ t).trans ?_
  congr 1
  exact zd7 _ rfl _ _
theorem zd4 (S : St) (q : Nat) (z : List AV) (fr : List Nat) : (zde S q z fr).sl.length = S.sl.length:=by
 show (setS ((S.sl.map _).map _) q _).length = _;rw [zaz,lnM,lnM]
theorem zer {D : List Nat} {i : Nat} {fz : Fx} {x : OI} (hx : x.cl = 6) (hop : clOf A eb o = 6) : (∀ (S : St) (R : Type) (k : St→Option R),dop P A an isRes cal D i fz x o S k = none) ∨ ∃ q z fr,o.dst = some q∧∀ (S : St) (R : Type) (k : St→Option R),dop P A an isRes cal D i fz x o S k =
  match getM S.M q with
  | none=>br (Nat.blt q S.sl.length) (k (zde S q z fr)) none
  | some _=>none:=by
 obtain ⟨e,ho⟩ : ∃ e,o.op = .alloc e:=by
  cases ho : o.op with
  | alloc e=>exact ⟨e,rfl⟩
  | move x=>simp only [clOf,ho] at hop; split at hop <;> cases hop
  | extract _ _=>simp only [clOf,ho] at hop; split at hop <;> cases hop
  | call c =>
   simp only [clOf,ho] at hop
   repeat' split at hop
   all_goals cases hop
  | _=>simp [clOf,ho] at hop
 unfold dop;rw [hx];simp only;cases hd : o.dst with
 | none=>exact .inl fun S R k=>rfl
 | some q =>
  simp only [zaq,ho];cases zeroCells P e with
  | none=>exact .inl fun S R k=>rfl
  | some z =>
   simp only;unfold zqj;rw [hd];simp only;cases memN q an.esc with
   | true =>
    refine .inl fun S R k=>?_;unfold Hp.new?;simp only;cases S.H.get S.nx with
    | some b=>rfl
    | none =>
     simp only;rw [zam];by_cases hh : q = q∧q < ({ S with H := S.H.set S.nx ⟨z,zbm 0 z⟩,nx := S.nx + 1 } : St).unlent.sl.length
     ·rw [if_pos hh]
     ·rw [if_neg hh];have : ¬ q < ({ S with H := S.H.set S.nx ⟨z,zbm 0 z⟩,nx := S.nx + 1 } : St).unlent.sl.length := fun hl=>hh ⟨rfl,hl⟩;have hz : ∀ (Y : St),¬ q < Y.sl.length→Y.slot q = .und := fun Y hY=>by
       cases hy : Y.slot q with
       | und=>rfl
       | _=>exact absurd (zcb (by show Y.slot q ≠ _; rw [hy]; simp)) hY
      rw [hz _ this]
   | false =>
    refine .inr ⟨q,z,zb2 0 z,rfl,fun S R k=>?_⟩;simp only;cases getM S.M q with
    | some _=>rfl
    | none =>
     simp only;show (match (zde S q z (zb2 0 z)).slot q with
      | .lp e _=>br (Nat.beq e q) (k (zde S q z (zb2 0 z))) none
      | _=>none) = _
     rw [zd1];by_cases hl : q < S.sl.length
     ·rw [if_pos ⟨rfl,hl⟩,show Nat.blt q S.sl.length = true from by simpa [Nat.blt_eq] using hl];simp only [show Nat.beq q q = true from Nat.beq_refl q,br]
     ·rw [if_neg (fun hh=>hl hh.2),show Nat.blt q S.sl.length = false from by
       cases hb : Nat.blt q S.sl.length with
       | false=>rfl
       | true=>exact absurd (by simpa [Nat.blt_eq] using hb) hl]
      have hz : S.slot q = .und:=by
       cases hy : S.slot q with
       | und=>rfl
       | _=>exact absurd (zcb (by show S.slot q ≠ _; rw [hy]; simp)) hl
      rw [hz];rfl
theorem zpz {D : List Nat} {i : Nat} {fz : Fx} {x : OI} (hx : x.cl = 6) (hop : clOf A eb o = 6) (hwb : ∀ q,o.dst = some q→q ∈ x.wb) (h : Off d S S') (hdst : o.dst ≠ some d) :
  TwoW fz.hz x.wb d (fun _ k=>dop P A an isRes cal D i fz x o S k) (fun _ k=>dop P A an isRes cal D i fz x o S' k) o.dst S S':=by
 rcases zer (P := P) (an := an) (isRes := isRes) (cal := cal) (D := D) (i := i) (fz := fz) hx hop with hn | ⟨q,z,fr,hq,hs⟩
 ·exact .inl fun R k=>hn S R k
 ·unfold TwoW;simp only [hs];rw [h.M,h.len];cases getM S.M q with
  | some _=>exact .inl fun R k=>rfl
  | none =>
   cases Nat.blt q S.sl.length with
   | false=>exact .inl fun R k=>rfl
   | true =>
    have hqd : q ≠ d := fun e=>hdst (by rw [hq,e]);have hqw := hwb q hq;refine .inr ⟨zde S q z fr,zde S' q z fr,fun R k=>rfl,fun R k=>rfl,⟨⟨?_,h.H,h.M,h.nx,by rw [zd4,zd4]; exact h.len,fun t ht=>by rw [zd1,zd1,h.len,h.sl t ht]⟩,fun hb hnb=>?_,fun t ht hnb=>?_,fun e he=>?_,fun _=>rfl,zd4 _ _ _ _⟩⟩
    ·show setL S'.L q _ = setL S.L q _;rw [h.L]
    ·rw [zd1,if_neg (fun hh=>hqd hh.1.symm),hnb.drop hqw];exact zeu hb
    ·rw [zd1,if_neg (fun hh : t = q∧_=>ht (by rw [hq,hh.1])),hnb.drop hqw,zek]
    ·show (getL (setL S'.L q _) e).map _ = _;rw [zcq,if_neg (fun hh : e = q=>he (hh ▸ hqw))]
end
end
section
section
variable {eb ebj ebi : Bool} {P : Program} {A : List (Nat × Ann)} {an : Ann} {isRes : Nat→Bool} {cal : Oracle} {S S' T T' : St} {d e : Nat} {R : Type} {r : R}
theorem zm6 {S S' : St} (hL : S'.L = S.L) (hH : S'.H = S.H) (hM : S'.M = S.M) (hnx : S'.nx = S.nx) (hlen : S'.sl.length = S.sl.length) (h : ∀ t,S'.slot t = S.slot t) : S' = S:=by
 obtain ⟨sl,L,H,nx,M⟩ := S;obtain ⟨sl',L',H',nx',M'⟩ := S';simp only at hL hH hM hnx hlen;have : sl' = sl := znp hlen h;subst this hL hH hM hnx;rfl
abbrev Step := St→∀ R : Type,(St→Option R)→Option R
def IsV (F : Step) (fx fh : Bool) (dst : Option Nat) (lk : List Nat) : Prop := ∀ S S',Sim fx fh S S' lk→TwoF fx (F S) (F S') dst S S'
def IsC (F : Step) (d : Nat) (dst : Option Nat) : Prop := ∀ S S',Off d S S'→TwoC d (F S) (F S') dst S S'
theorem Sim.refl (fx fh : Bool) (S : St) (l : List Nat) : Sim fx fh S S l := ⟨⟨fun _ _=>rfl,fun _ _ _ _ _=>rfl,rfl⟩,fun _=>.of rfl,fun _=>⟨fun _ _=>rfl,rfl,rfl⟩⟩
theorem zbf (S : St) (d : Option Nat) (s : Slot) : (S.putd d s).sl.length = S.sl.length:=by
 cases d with
 | none=>rfl
 | some d=>show (setS S.sl d s).length = _; rw [zaz]
theorem Sim.putd {fx fh : Bool} {l : List Nat} {dst : Option Nat} (S : St) (s : Slot) (h : ∀ q,dst = some q→q ∉ l) : Sim fx fh S (S.putd dst s) l:=by
 have e : ∀ t ∈ l,(S.putd dst s).slot t = S.slot t := fun t ht=>zfs S s fun hq=>h t hq ht;have eL : (S.putd dst s).L = S.L := by cases dst <;> rfl
 have eH : (S.putd dst s).H = S.H := by cases dst <;> rfl
 exact ⟨⟨fun t ht=>by rw [e t ht],fun _ _ q _ _=>by rw [eL],zbf _ _ _⟩,fun _=>.of eH,fun _=>⟨e,eL,eH⟩⟩
theorem Sim.putd' {fx fh : Bool} {l : List Nat} {dst : Option Nat} (S : St) (s : Slot) (h : ∀ q,dst = some q→q ∉ l) : Sim fx fh (S.putd dst s) S l:=by
 have e : ∀ t ∈ l,S.slot t = (S.putd dst s).slot t := fun t ht=>(zfs S s fun hq=>h t hq ht).symm;have eL : S.L = (S.putd dst s).L := by cases dst <;> rfl
 have eH : S.H = (S.putd dst s).H := by cases dst <;> rfl
 exact ⟨⟨fun t ht=>by rw [← e t ht],fun _ _ q _ _=>by rw [← eL],(zbf _ _ _).symm⟩,fun _=>.of eH,fun _=>⟨e,eL,eH⟩⟩
theorem exVV {F G : Step} {f g fh gh : Bool} {dF dG : Option Nat} {lF lG : List Nat} (hF : IsV F f fh dF lF) (hG : IsV G g gh dG lG) (h1 : ∀ q,dF = some q→q ∉ lG) (h2 : ∀ q,dF = some q→dG ≠ some q) (h3 : ∀ q,dG = some q→q ∉ lF)
  {K : St→Option R} (h : F T R (fun X=>G X R K) = some r) : G T R (fun X=>F X R K) = some r:=by
 rcases hF T T (.refl f fh T lF) with hn | ⟨s,e1,_,_⟩
 ·rw [hn] at h; cases h
 ·rw [e1] at h;rcases hG (T.putd dF s) T (.putd' T s h1) with hn | ⟨u,e2,e3,_⟩
  ·rw [hn] at h; cases h
  ·rw [e2] at h;rw [e3];rcases hF T (T.putd dG u) (.putd T u h3) with hn | ⟨s',e4,e5,_⟩
   ·have := hn St some;rw [e1] at this;cases this
   ·rw [e5];have : T.putd dF s = T.putd dF s':=by
     have h4 := e1 St some;rw [e4 St some] at h4;injection h4 with h4;exact h4.symm
    rw [← zus T s' u h2,← this];exact h
theorem exVC {F G : Step} {d : Nat} {fh : Bool} {dG : Option Nat} {lF : List Nat} (hF : IsV F false fh (some d) lF) (hG : IsC G d dG) (hm : fh = true→∀ S T,(∀ R k,G S R k = k T)→zco S T) (h3 : ∀ q,dG = some q→q ∉ lF)
  {K : St→Option R} (h : F T R (fun X=>G X R K) = some r) : G T R (fun X=>F X R K) = some r:=by
 rcases hF T T (.refl false fh T lF) with hn | ⟨s,e1,_,_⟩
 ·rw [hn] at h; cases h
 ·rw [e1] at h;have hoff : Off d (T.putd (some d) s) T := ⟨rfl,rfl,rfl,rfl,(zbf _ _ _).symm,fun t ht=>(zbt T s ht).symm⟩;rcases hG _ _ hoff with hn | ⟨X,X',e2,e3,fr⟩
  ·rw [hn] at h; cases h
  ·rw [e2] at h;rw [e3];have hsame : Sim false fh T X' lF := ⟨⟨fun t ht=>fr.pres2 t fun hq=>h3 t hq ht,fun _ _ q _ _=>fr.L2 q,by rw [fr.off.len,fr.len1,zbf]⟩,fun hh=>hm hh _ _ e3,fun hh=>by cases hh⟩;rcases hF T X' hsame with hn | ⟨s',e4,e5,hb⟩
   ·have := hn St some;rw [e1] at this;cases this
   ·rw [e5];have hput : T.putd (some d) s = T.putd (some d) s':=by
     have h4 := e1 St some;rw [e4 St some] at h4;injection h4 with h4;exact h4.symm
    have : X'.putd (some d) s' = X:=by
     refine zm6 (S := X) (S' := X'.putd (some d) s') fr.off.L fr.off.H fr.off.M fr.off.nx (by rw [zbf]; exact fr.off.len) fun t=>?_;show (X'.put d s').slot t = X.slot t;rw [zam];split
     ·rename_i hh;obtain ⟨rfl,hlt⟩ := hh;have hlt' : t < T.sl.length := by rw [fr.off.len,fr.len1,zbf] at hlt; exact hlt
      have hs : (T.putd (some t) s).slot t = s':=by
       rw [hput];show (T.put t s').slot t = s';rw [zam,if_pos ⟨rfl,hlt'⟩]
      rw [fr.at1 (by rw [hs]; exact hb rfl),hs]
     ·rename_i hh;by_cases ht : t = d
      ·subst ht;have hge : ¬ t < X'.sl.length := fun hl=>hh ⟨rfl,hl⟩;have hz : ∀ (Y : St),¬ t < Y.sl.length→Y.slot t = .und := fun Y hY=>by
        cases hy : Y.slot t with
        | und=>rfl
        | _=>exact absurd (zcb (by show Y.slot t ≠ _; rw [hy]; simp)) hY
       rw [hz X' hge,hz X (by rw [← fr.off.len]; exact hge)]
      ·exact fr.off.sl t ht
    rw [this];exact h
theorem exCV {F G : Step} {d : Nat} {fh : Bool} {dG : Option Nat} {lF : List Nat} (hF : IsV F false fh (some d) lF) (hG : IsC G d dG) (hm : fh = true→∀ S T,(∀ R k,G S R k = k T)→zco S T) (h3 : ∀ q,dG = some q→q ∉ lF)
  {K : St→Option R} (h : G T R (fun X=>F X R K) = some r) : F T R (fun X=>G X R K) = some r:=by
 rcases hG T T ⟨rfl,rfl,rfl,rfl,rfl,fun _ _=>rfl⟩ with hn | ⟨X,_,e1,_,fr⟩
 ·rw [hn] at h; cases h
 ·rw [e1] at h;have hsame : Sim false fh X T lF := ⟨⟨fun t ht=>(fr.pres t fun hq=>h3 t hq ht).symm,fun _ _ q _ _=>(fr.L1 q).symm,fr.len1.symm⟩,fun hh=>(hm hh _ _ e1).symm,fun hh=>by cases hh⟩;rcases hF X T hsame with hn | ⟨u,e2,e3,hb⟩
  ·rw [hn] at h; cases h
  ·rw [e2] at h;rw [e3];have hoff : Off d T (T.putd (some d) u) := ⟨rfl,rfl,rfl,rfl,zbf _ _ _,fun t ht=>zbt T u ht⟩;rcases hG _ _ hoff with hn | ⟨Y,Y',e4,e5,fr2⟩
   ·have := hn St some;rw [e1] at this;cases this
   ·rw [e5];have hXY : X = Y:=by
     have h4 := e1 St some;rw [e4 St some] at h4;injection h4 with h4;exact h4.symm
    subst hXY;have : Y' = X.putd (some d) u:=by
     refine zm6 (S := X.putd (some d) u) (S' := Y') fr2.off.L fr2.off.H fr2.off.M fr2.off.nx (by rw [zbf]; exact fr2.off.len) fun t=>?_;show Y'.slot t = (X.put d u).slot t;rw [zam];split
     ·rename_i hh;obtain ⟨rfl,hlt⟩ := hh;have hlt' : t < T.sl.length := by rw [← fr.len1]; exact hlt
      have hs : (T.putd (some t) u).slot t = u:=by
       show (T.put t u).slot t = u;rw [zam,if_pos ⟨rfl,hlt'⟩]
      rw [fr2.at2 (by rw [hs]; exact hb rfl),hs]
     ·rename_i hh;by_cases ht : t = d
      ·subst ht;have hge : ¬ t < X.sl.length := fun hl=>hh ⟨rfl,hl⟩;have hz : ∀ (Y : St),¬ t < Y.sl.length→Y.slot t = .und := fun Y hY=>by
        cases hy : Y.slot t with
        | und=>rfl
        | _=>exact absurd (zcb (by show Y.slot t ≠ _; rw [hy]; simp)) hY
       rw [hz X hge,hz Y' (by rw [fr2.off.len]; exact hge)]
      ·exact fr2.off.sl t ht
    rw [this];exact h
def IsS (F : Step) (fh : Bool) (dst : Option Nat) (lk : List Nat) : Prop := ∀ S S',Same S S' lk→S'.L = S.L→(fh = true→zco S S')→TwoS (F S) (F S') dst S S'
def IsK (F : Step) (d : Nat) (dst : Option Nat) : Prop := ∀ S S',Off d S S'→(∀ R k,F S R k = none) ∨ ∃ T T',(∀ R k,F S R k = k T)∧(∀ R k,F S' R k = k T')∧FrC d dst S S' T T' ∧
 (Stay (S.slot d)→T.slot d = S.slot d)∧(Stay (S'.slot d)→T'.slot d = S'.slot d)∧T.L = S.L∧T'.L = S'.L
theorem exVS {F G : Step} {d : Nat} {fh : Bool} {dG : Option Nat} {lF : List Nat} (hF : IsS F fh (some d) lF) (hG : IsK G d dG) (hm : fh = true→∀ S T,(∀ R k,G S R k = k T)→zco S T) (h3 : ∀ q,dG = some q→q ∉ lF)
  {K : St→Option R} (h : F T R (fun X=>G X R K) = some r) : G T R (fun X=>F X R K) = some r:=by
 rcases hF T T (Sim.refl false fh T lF).same rfl (fun _=>.of rfl) with hn | ⟨s,e1,_,_⟩
 ·rw [hn] at h; cases h
 ·rw [e1] at h;have hoff : Off d (T.putd (some d) s) T := ⟨rfl,rfl,rfl,rfl,(zbf _ _ _).symm,fun t ht=>(zbt T s ht).symm⟩;rcases hG _ _ hoff with hn | ⟨X,X',e2,e3,fr,ks,_,_,kL⟩
  ·rw [hn] at h; cases h
  ·rw [e2] at h;rw [e3];rcases hF T X' ⟨fun t ht=>fr.pres2 t fun hq=>h3 t hq ht,fun _ _ q _ _=>fr.L2 q,by rw [fr.off.len,fr.len1,zbf]⟩ kL (fun hh=>hm hh _ _ e3) with hn | ⟨s',e4,e5,hb⟩
   ·have := hn St some;rw [e1] at this;cases this
   ·rw [e5];have hput : T.putd (some d) s = T.putd (some d) s':=by
     have h4 := e1 St some;rw [e4 St some] at h4;injection h4 with h4;exact h4.symm
    have : X'.putd (some d) s' = X:=by
     refine zm6 (S := X) (S' := X'.putd (some d) s') fr.off.L fr.off.H fr.off.M fr.off.nx (by rw [zbf]; exact fr.off.len) fun t=>?_;show (X'.put d s').slot t = X.slot t;rw [zam];split
     ·rename_i hh;obtain ⟨rfl,hlt⟩ := hh;have hlt' : t < T.sl.length := by rw [fr.off.len,fr.len1,zbf] at hlt; exact hlt
      have hs : (T.putd (some t) s).slot t = s':=by
       rw [hput];show (T.put t s').slot t = s';rw [zam,if_pos ⟨rfl,hlt'⟩]
      rw [ks (by rw [hs]; exact hb),hs]
     ·rename_i hh;by_cases ht : t = d
      ·subst ht;have hge : ¬ t < X'.sl.length := fun hl=>hh ⟨rfl,hl⟩;have hz : ∀ (Y : St),¬ t < Y.sl.length→Y.slot t = .und := fun Y hY=>by
        cases hy : Y.slot t with
        | und=>rfl
        | _=>exact absurd (zcb (by show Y.slot t ≠ _; rw [hy]; simp)) hY
       rw [hz X' hge,hz X (by rw [← fr.off.len]; exact hge)]
      ·exact fr.off.sl t ht
    rw [this];exact h
theorem exSV {F G : Step} {d : Nat} {fh : Bool} {dG : Option Nat} {lF : List Nat} (hF : IsS F fh (some d) lF) (hG : IsK G d dG) (hm : fh = true→∀ S T,(∀ R k,G S R k = k T)→zco S T) (h3 : ∀ q,dG = some q→q ∉ lF)
  {K : St→Option R} (h : G T R (fun X=>F X R K) = some r) : F T R (fun X=>G X R K) = some r:=by
 rcases hG T T ⟨rfl,rfl,rfl,rfl,rfl,fun _ _=>rfl⟩ with hn | ⟨X,_,e1,_,fr,_,_,kL,_⟩
 ·rw [hn] at h; cases h
 ·rw [e1] at h;rcases hF X T ⟨fun t ht=>(fr.pres t fun hq=>h3 t hq ht).symm,fun _ _ q _ _=>(fr.L1 q).symm,fr.len1.symm⟩ kL.symm (fun hh=>(hm hh _ _ e1).symm) with hn | ⟨u,e2,e3,hb⟩
  ·rw [hn] at h; cases h
  ·rw [e2] at h;rw [e3];have hoff : Off d T (T.putd (some d) u) := ⟨rfl,rfl,rfl,rfl,zbf _ _ _,fun t ht=>zbt T u ht⟩;rcases hG _ _ hoff with hn | ⟨Y,Y',e4,e5,fr2,_,ks,_,_⟩
   ·have := hn St some;rw [e1] at this;cases this
   ·rw [e5];have hXY : X = Y:=by
     have h4 := e1 St some;rw [e4 St some] at h4;injection h4 with h4;exact h4.symm
    subst hXY;have : Y' = X.putd (some d) u:=by
     refine zm6 (S := X.putd (some d) u) (S' := Y') fr2.off.L fr2.off.H fr2.off.M fr2.off.nx (by rw [zbf]; exact fr2.off.len) fun t=>?_;show Y'.slot t = (X.put d u).slot t;rw [zam];split
     ·rename_i hh;obtain ⟨rfl,hlt⟩ := hh;have hlt' : t < T.sl.length := by rw [← fr.len1]; exact hlt
      have hs : (T.putd (some t) u).slot t = u:=by
       show (T.put t u).slot t = u;rw [zam,if_pos ⟨rfl,hlt'⟩]
      rw [ks (by rw [hs]; exact hb),hs]
     ·rename_i hh;by_cases ht : t = d
      ·subst ht;have hge : ¬ t < X.sl.length := fun hl=>hh ⟨rfl,hl⟩;have hz : ∀ (Y : St),¬ t < Y.sl.length→Y.slot t = .und := fun Y hY=>by
        cases hy : Y.slot t with
        | und=>rfl
        | _=>exact absurd (zcb (by show Y.slot t ≠ _; rw [hy]; simp)) hY
       rw [hz X hge,hz Y' (by rw [fr2.off.len]; exact hge)]
      ·exact fr2.off.sl t ht
    rw [this];exact h
def IsW (F : Step) (hz : Bool) (wb : List Nat) (d : Nat) (dst : Option Nat) : Prop := ∀ S S',Off d S S'→TwoW hz wb d (F S) (F S') dst S S'
def NoW (F : Step) (wb : List Nat) (d : Nat) (lk : List Nat) : Prop := ∀ S T,(∀ R k,F S R k = k T)→(∀ t ∈ lk,NoB wb (S.slot t))∧NoB wb (T.slot d)
theorem exVW {F G : Step} {d : Nat} {fh hz : Bool} {wb : List Nat} {dG : Option Nat} {lF : List Nat} (hF : IsV F false fh (some d) lF) (hB : NoW F wb d lF) (hG : IsW G hz wb d dG) (hm : fh = true→hz = false) (h3 : ∀ q,dG = some q→q ∉ lF)
  {K : St→Option R} (h : F T R (fun X=>G X R K) = some r) : G T R (fun X=>F X R K) = some r:=by
 rcases hF T T (.refl false fh T lF) with hn | ⟨s,e1,_,hs0⟩
 ·rw [hn] at h; cases h
 ·rw [e1] at h;obtain ⟨b1,b2⟩ := hB T _ e1;have hoff : Off d (T.putd (some d) s) T := ⟨rfl,rfl,rfl,rfl,(zbf _ _ _).symm,fun t ht=>(zbt T s ht).symm⟩;rcases hG _ _ hoff with hn | ⟨X,X',e2,e3,fr⟩
  ·rw [hn] at h; cases h
  ·rw [e2] at h;rw [e3];have hsame : Sim false fh T X' lF := ⟨⟨fun t ht=>fr.pres2 t (fun hq=>h3 t hq ht) (b1 t ht),fun t ht q off hq=>fr.L2 q (b1 t ht q off (.inl hq)),by rw [fr.off.len,fr.len1,zbf]⟩,fun hh=>.of (fr.H2 (hm hh)),fun hh=>by cases hh⟩;rcases hF T X' hsame with hn | ⟨s',e4,e5,hb⟩
   ·have := hn St some;rw [e1] at this;cases this
   ·rw [e5];have hput : T.putd (some d) s = T.putd (some d) s':=by
     have h4 := e1 St some;rw [e4 St some] at h4;injection h4 with h4;exact h4.symm
    have : X'.putd (some d) s' = X:=by
     refine zm6 (S := X) (S' := X'.putd (some d) s') fr.off.L fr.off.H fr.off.M fr.off.nx (by rw [zbf]; exact fr.off.len) fun t=>?_;show (X'.put d s').slot t = X.slot t;rw [zam];split
     ·rename_i hh;obtain ⟨rfl,hlt⟩ := hh;have hlt' : t < T.sl.length := by rw [fr.off.len,fr.len1,zbf] at hlt; exact hlt
      have hs : (T.putd (some t) s).slot t = s':=by
       rw [hput];show (T.put t s').slot t = s';rw [zam,if_pos ⟨rfl,hlt'⟩]
      rw [fr.at1 (by rw [hs]; exact hb rfl) b2,hs]
     ·rename_i hh;by_cases ht : t = d
      ·subst ht;have hge : ¬ t < X'.sl.length := fun hl=>hh ⟨rfl,hl⟩;have hz : ∀ (Y : St),¬ t < Y.sl.length→Y.slot t = .und := fun Y hY=>by
        cases hy : Y.slot t with
        | und=>rfl
        | _=>exact absurd (zcb (by show Y.slot t ≠ _; rw [hy]; simp)) hY
       rw [hz X' hge,hz X (by rw [← fr.off.len]; exact hge)]
      ·exact fr.off.sl t ht
    rw [this];exact h
end
end
section
section
variable {g0 : G} {w0 : World} {Ex : Nat→Prop} {g g' : G} {a : Act} {w w' : World}
variable {eb ebj ebi : Bool} {P : Program} {A : List (Nat × Ann)} {an : Ann} {isRes : Nat→Bool} {cal : Oracle} {S S' T : St} {R : Type} {r : R} {all : Array Oper} {D : List Nat}
theorem zit {d : Nat} (hd : d ∈ D) : ∀ {l : List Nat},ze9 S D l = true→∀ t ∈ l,∀ v q,S.slot t = .val v (.lS q)→q ≠ d
 | [],_,t,ht,_,_,_=>by cases ht
 | u :: l,h,t,ht,v,q,hs=>by
  unfold ze9 at h;rw [Bool.and_eq_true] at h;rcases List.mem_cons.1 ht with e | ht
  ·subst e;have h1 := h.1;rw [hs] at h1;simp only [Bool.not_eq_true'] at h1;intro e;subst e;rw [zbj.2 hd] at h1;cases h1
  ·exact zit hd h.2 t ht v q hs
theorem zez : ∀ {l : List Nat},(∀ t ∈ l,S'.slot t = S.slot t)→ze9 S' D l = ze9 S D l
 | [],_=>rfl
 | u :: l,h=>by
  unfold ze9;rw [h u mcS,zez fun t ht=>h t (mcM _ ht)]
theorem zh5 {o : Oper} {i : Nat} {fz : Fx} {x : OI} {st : Bool} (hst : st = false→fz.fx = false∧fz.fl = false) (hds : ∀ q,q ∈ x.ds→o.dst = some q) (hx : x.cl = clOf A eb o) (hl : ∀ t,Operand.tmp t ∈ o.op.operands→t ∈ x.lk) (hg : ∀ j want d,o.guard = some (j,want)→zdd all.toList j = some d→d ∈ x.lk)
  (hv : zbb x.cl = true) : IsV (fun S _ k=>zbd P A an isRes cal all.toList D i fz x o S k) st fz.fh o.dst x.lk := fun _ _ h=>zpu hst hds hx hl hg hv h
theorem zoq {o : Oper} {i : Nat} {fz : Fx} {x : OI} (hfx : fz.fx = false) (hds : ∀ q,q ∈ x.ds→o.dst = some q) (hx : x.cl = clOf A eb o) (hl : ∀ t,Operand.tmp t ∈ o.op.operands→t ∈ x.lk) (hg : ∀ j want d,o.guard = some (j,want)→zdd all.toList j = some d→d ∈ x.lk)
  (hv : zbb x.cl = true) : IsS (fun S _ k=>zbd P A an isRes cal all.toList D i fz x o S k) fz.fh o.dst x.lk := fun _ _ h hL hm=>ztq hfx hds hx hl hg hv h hL hm
theorem zo7 {o : Oper} {i : Nat} {fz : Fx} {x : OI} {d : Nat} (hx : x.cl = clOf A eb o) (hc : x.cl = 3 ∨ x.cl = 4) (hl : ∀ t,Operand.tmp t ∈ o.op.operands→t ∈ x.lk) (hg : ∀ j want d,o.guard = some (j,want)→zdd all.toList j = some d→d ∈ x.lk)
  (hd : d ∉ x.lk) (hdst : o.dst ≠ some d) (hD : d ∈ D) : IsC (fun S _ k=>zbd P A an isRes cal all.toList D i fz x o S k) d o.dst:=by
 intro S S' h;have hsl : ∀ t ∈ x.lk,S'.slot t = S.slot t := fun t ht=>h.sl t fun e=>hd (e ▸ ht);have e : gres all.toList o S' = gres all.toList o S := zfj hg fun t ht=>by rw [hsl t ht]
 have hv : zbb x.cl = false := by rcases hc with h | h <;> rw [h] <;> rfl
 unfold TwoC;simp only [ze6 hv,zcf,e];cases gres all.toList o S with
 | none=>exact .inl fun R k=>rfl
 | some b =>
  cases b with
  | false=>exact .inr ⟨_,_,fun R k=>rfl,fun R k=>rfl,(FrC.refl h).putd hdst _⟩
  | true =>
   simp only;have hdo : Operand.tmp d ∉ o.op.operands := fun hh=>hd (hl d hh);rcases hc with hc | hc
   ·unfold dop;rw [hc];simp only;rw [zez hsl];cases hn : ze9 S D x.lk with
    | false=>exact .inl fun R k=>rfl
    | true=>exact frameC (P := P) (an := an) (isRes := isRes) (cal := cal) (.inl (hx ▸ hc)) h hdo hdst fun _ t v q ht hs=>zit hD hn t (hl t ht) v q hs
   ·exact absurd (hx ▸ hc) cl_ne4
theorem zph {o : Oper} {i : Nat} {fz : Fx} {x : OI} {d : Nat} (hx : x.cl = clOf A eb o) (hc : x.cl = 3) (hk : kcOf A o = true) (hl : ∀ t,Operand.tmp t ∈ o.op.operands→t ∈ x.lk) (hg : ∀ j want d,o.guard = some (j,want)→zdd all.toList j = some d→d ∈ x.lk)
  (hd : d ∉ x.lk) (hdst : o.dst ≠ some d) (hD : d ∈ D) : IsK (fun S _ k=>zbd P A an isRes cal all.toList D i fz x o S k) d o.dst:=by
 intro S S' h;have hsl : ∀ t ∈ x.lk,S'.slot t = S.slot t := fun t ht=>h.sl t fun e=>hd (e ▸ ht);have e : gres all.toList o S' = gres all.toList o S := zfj hg fun t ht=>by rw [hsl t ht]
 have hv : zbb x.cl = false := by rw [hc]; rfl
 simp only [ze6 hv,zcf,e];cases gres all.toList o S with
 | none=>exact .inl fun R k=>rfl
 | some b =>
  cases b with
  | false =>
   have keep : ∀ T : St,(T.putd o.dst (.val (.tuple []) .no)).slot d = T.slot d := fun T=>zfs T _ hdst;exact .inr ⟨_,_,fun R k=>rfl,fun R k=>rfl,(FrC.refl h).putd hdst _,fun _=>keep S,fun _=>keep S',by cases o.dst <;> rfl,by cases o.dst <;> rfl⟩
  | true =>
   simp only;have hdo : Operand.tmp d ∉ o.op.operands := fun hh=>hd (hl d hh);obtain ⟨g,args,tys,hop,hi⟩ : ∃ g args tys,o.op = .call ⟨.value (.func g),args,tys⟩∧(getA A g).imp = true:=by
    unfold kcOf at hk;split at hk
    ·rename_i c hop;obtain ⟨callee,args,tys⟩ := c;simp only at hk;split at hk
     ·rename_i f;split at hk
      ·exact ⟨_,_,_,hop,hk⟩
      ·cases hk
     ·cases hk
    ·cases hk
   have harg : ∀ y,y ∈ args.toList→y ≠ .tmp d := fun y hy he=>by
    have : y ∈ args := Array.mem_toList_iff.1 hy;exact hdo (by rw [← he]; simp [hop,Op.operands,Call.operands,this])
   have stay : ∀ (T : St) (r : Out) (v : AV) (f : Fl),Stay (T.slot d)→((({ T with H := r.H,nx := r.nx } : St).unlentH).putown o.dst v f).slot d = T.slot d:=by
    intro T r v f hs;have e0 : (({ T with H := r.H,nx := r.nx } : St).unlentH).slot d = T.slot d := (zbh _ _).trans hs.1;cases hdd : o.dst with
    | none=>exact e0
    | some q =>
     have hq : d ≠ q := fun e=>hdst (by rw [hdd,e]);have e1 : ∀ (T1 : St) (s : Slot),(T1.put q s).slot d = T1.slot d := fun T1 s=>zbt T1 s hq;have e2 : ∀ s : Slot,({ (({ T with H := r.H,nx := r.nx } : St).unlentH) with sl := (({ T with H := r.H,nx := r.nx } : St).unlentH).sl.map (Slot.unS q) } : St).slot d = T.slot d := fun s=>by rw [zcj,e0,hs.2 q]
     cases f with
     | no=>exact (e1 _ _).trans e0
     | _=>exact (e1 _ _).trans (e2 .und)
   have keepL : ∀ (T : St) (r : Out) (v : AV) (f : Fl),((({ T with H := r.H,nx := r.nx } : St).unlentH).putown o.dst v f).L = T.L:=by
    intro T r v f;cases o.dst with
    | none=>rfl
    | some q=>cases f <;> rfl
   have hab : ∀ (T : St) (R : Type) (k : St→Option R),zaq P A an isRes cal o T k = (cal g (evsT P T tys.toList args.toList ++ []) T.H T.nx).bind fun r=>k ((({ T with H := r.H,nx := r.nx } : St).unlentH).putown o.dst r.v (zl6 (zf4 P g) (getA A g).rf)):=by
    intro T R k;simp only [zaq,hop];unfold zke;simp only [St.ev,AV.func?,hi]
   unfold dop;rw [hc];simp only [hab];rw [zez hsl,zhe h args.toList tys.toList harg,h.H,h.nx];cases hn : ze9 S D x.lk with
   | false=>exact .inl fun R k=>rfl
   | true =>
    cases cal g (evsT P S tys.toList args.toList ++ []) S.H S.nx with
    | none=>exact .inl fun R k=>rfl
    | some r =>
     have fr : FrC d o.dst S S' _ _ := (((FrC.refl (dst := o.dst) h).mem r.H r.nx).unlentH).putown hdst r.v (zl6 (zf4 P g) (getA A g).rf);exact .inr ⟨_,_,fun R k=>rfl,fun R k=>rfl,fr,stay S r _ _,stay S' r _ _,keepL S r _ _,keepL S' r _ _⟩
theorem zhs (q : Nat) (s : Slot) : (zax q s).unlent = zax q s.unlent:=by
 cases s with
 | lp e off=>simp only [zax]; cases hb : Nat.beq e q <;> simp only [Slot.unlent,zax,hb]
 | mp e=>simp only [zax]; cases hb : Nat.beq e q <;> simp only [Slot.unlent,zax,hb]
 | val v f=>cases f <;> rfl
 | und=>rfl
theorem zql (q p : Nat) (s : Slot) : zax q (zax p s) = zax p (zax q s):=by
 cases s with
 | lp e off=>simp only [zax]; cases hb : Nat.beq e q <;> cases hb2 : Nat.beq e p <;> simp only [zax,hb,hb2]
 | mp e=>simp only [zax]; cases hb : Nat.beq e q <;> cases hb2 : Nat.beq e p <;> simp only [zax,hb,hb2]
 | _=>rfl
theorem zqg {p q : Nat} (hne : p ≠ q) (S : St) (z1 z2 : List AV) (f1 f2 : List Nat) : zde (zde S p z1 f1) q z2 f2 = zde (zde S q z2 f2) p z1 f1:=by
 refine zm6 (S := zde (zde S q z2 f2) p z1 f1) (S' := zde (zde S p z1 f1) q z2 f2) ?_ rfl rfl rfl (by simp only [zd4]) fun t=>?_
 ·exact zux S.L p q _ _ hne
 ·have nb : ∀ a b : Nat,a ≠ b→Nat.beq a b = false := fun a b h=>by
   cases hb : Nat.beq a b with
   | false=>rfl
   | true=>exact absurd (beqN hb) h
  have dl : ∀ a b : Nat,a ≠ b→(zax b (.lp a 0)).unlent = .lp a 0 := fun a b h=>by simp only [zax,nb a b h,Slot.unlent]
  simp only [zd1,zd4];by_cases h1 : t = p∧p < S.sl.length
  ·rw [if_pos h1,if_pos h1,if_neg (fun hh=>hne (h1.1.symm.trans hh.1)),dl p q hne]
  ·rw [if_neg h1,if_neg h1];by_cases h2 : t = q∧q < S.sl.length
   ·rw [if_pos h2,if_pos h2,dl q p (Ne.symm hne)]
   ·rw [if_neg h2,if_neg h2,← zhs q,← zhs p,zql]
theorem exAA {j i : Nat} {fj fi : Fx} {oj oi : Oper} {xj xi : OI} (hj : xj.cl = 6) (hi : xi.cl = 6) (oj6 : clOf A ebj oj = 6) (oi6 : clOf A ebi oi = 6) (h2 : ∀ q,oj.dst = some q→oi.dst ≠ some q) {K : St→Option R}
  (h : dop P A an isRes cal D j fj xj oj T (fun X=>dop P A an isRes cal D i fi xi oi X K) = some r) : dop P A an isRes cal D i fi xi oi T (fun X=>dop P A an isRes cal D j fj xj oj X K) = some r:=by
 rcases zer (P := P) (an := an) (isRes := isRes) (cal := cal) (D := D) (i := j) (fz := fj) hj oj6 with hn | ⟨qj,zj,frj,ej,hsj⟩
 ·rw [hn] at h; cases h
 ·rcases zer (P := P) (an := an) (isRes := isRes) (cal := cal) (D := D) (i := i) (fz := fi) hi oi6 with hn | ⟨qi,zi,fri,ei,hsi⟩
  ·rw [hsj] at h;split at h
   ·obtain ⟨_,h⟩ := zai h;rw [hn] at h; cases h
   ·cases h
  ·have hne : qj ≠ qi := fun e=>h2 qj ej (by rw [ei,e]);rw [hsj] at h;split at h
   ·rename_i m1;obtain ⟨l1,h⟩ := zai h;rw [hsi] at h;split at h
    ·rename_i m2;obtain ⟨l2,h⟩ := zai h;rw [zd4] at l2;rw [hsi,show getM T.M qi = none from m2];simp only [l2,br];rw [hsj,show getM (zde T qi zi fri).M qj = none from m1];simp only [zd4,l1,br];rw [zqg (Ne.symm hne)];exact h
    ·cases h
   ·cases h
theorem FrW.skip {hz : Bool} {wb : List Nat} {d : Nat} {dst : Option Nat} (h : Off d S S') (hdst : dst ≠ some d) (s : Slot) : FrW hz wb d dst S S' (S.putd dst s) (S'.putd dst s):=by
 have fr := (FrC.refl (dst := dst) h).putd hdst s;refine ⟨fr.off,fun hb _=>fr.at1 hb,fun t ht _=>fr.pres2 t ht,fun q _=>fr.L2 q,fun _=>by cases dst <;> rfl,fr.len1⟩
theorem zua {o : Oper} {i : Nat} {fz : Fx} {x : OI} {d : Nat} (hx : x.cl = clOf A eb o) (hc : x.cl = 6 ∨ x.cl = 7) (hwb : x.cl = 6→∀ q,o.dst = some q→q ∈ x.wb) (hl : ∀ t,Operand.tmp t ∈ o.op.operands→t ∈ x.lk) (hg : ∀ j want d,o.guard = some (j,want)→zdd all.toList j = some d→d ∈ x.lk)
  (hd : d ∉ x.lk) (hdst : o.dst ≠ some d) : IsW (fun S _ k=>zbd P A an isRes cal all.toList D i fz x o S k) fz.hz x.wb d o.dst:=by
 intro S S' h;have hsl : ∀ t ∈ x.lk,S'.slot t = S.slot t := fun t ht=>h.sl t fun e=>hd (e ▸ ht);have e : gres all.toList o S' = gres all.toList o S := zfj hg fun t ht=>by rw [hsl t ht]
 have hv : zbb x.cl = false := by rcases hc with h | h <;> rw [h] <;> rfl
 unfold TwoW;simp only [ze6 hv,zcf,e];cases gres all.toList o S with
 | none=>exact .inl fun R k=>rfl
 | some b =>
  cases b with
  | false=>exact .inr ⟨_,_,fun R k=>rfl,fun R k=>rfl,FrW.skip h hdst _⟩
  | true =>
   simp only;have hdo : Operand.tmp d ∉ o.op.operands := fun hh=>hd (hl d hh);rcases hc with hc | hc
   ·exact zpz hc (hx ▸ hc) (hwb hc) h hdst
   ·unfold dop;rw [hc];simp only;obtain ⟨ty,a,v,ho⟩ : ∃ ty a v,o.op = .store ty a v:=by
     rw [hx] at hc;cases ho : o.op with
     | store ty a v=>exact ⟨ty,a,v,rfl⟩
     | move x=>simp only [clOf,ho] at hc; split at hc <;> cases hc
     | extract _ _=>simp only [clOf,ho] at hc; split at hc <;> cases hc
     | alloc _=>simp only [clOf,ho] at hc; split at hc <;> cases hc
     | call c =>
      simp only [clOf,ho] at hc
      repeat' split at hc
      all_goals cases hc
     | _=>simp [clOf,ho] at hc
    exact zr3 ho h (fun ee=>hdo (by rw [ho,← ee]; simp [Op.operands])) (fun ee=>hdo (by rw [ho,← ee]; simp [Op.operands]))
theorem zva {o : Oper} {i : Nat} {fz : Fx} {x : OI} {d : Nat} {wb : List Nat} (hv : zbb x.cl = true) (hfx : fz.fx = false) (hws : ∀ e ∈ wb,e ∈ fz.ws) (hds : d ∈ x.ds) : NoW (fun S _ k=>zbd P A an isRes cal all.toList D i fz x o S k) wb d x.lk:=by
 intro S T h;obtain ⟨h1,h2⟩ := zv6 (P := P) (an := an) (isRes := isRes) (cal := cal) (all := all.toList) (D := D) (i := i) hv hfx fun k=>h St k;exact ⟨fun t ht e off hs he=>h1 t ht e off hs (hws e he),fun e off hs he=>h2 d hds e off hs (hws e he)⟩
theorem zh6 {o : Oper} {i : Nat} {fz : Fx} {x : OI} (hx : x.cl = clOf A eb o) (hc : x.cl = 3 ∨ x.cl = 4) (hnh : nhOf A o = true) : ∀ S T,(∀ (R : Type) (k : St→Option R),zbd P A an isRes cal all.toList D i fz x o S k = k T)→zco S T:=by
 intro S T h;have hv : zbb x.cl = false := by rcases hc with h | h <;> rw [h] <;> rfl
 simp only [ze6 hv,zcf] at h;have one := h St some;cases hgr : gres all.toList o S with
 | none=>rw [hgr] at one; cases one
 | some b =>
  rw [hgr] at one;cases b with
  | false =>
   injection one with one;rw [← one];cases o.dst <;> exact .of rfl
  | true =>
   simp only at one;rw [hx] at hc;cases ho : o.op with
   | alloc _=>simp only [clOf,ho] at hc; split at hc <;> simp at hc
   | store _ _ _=>simp [clOf,ho] at hc
   | assign y =>
    have h3 : x.cl = 3 := by rw [hx]; simp [clOf,ho]
    unfold dop at one;rw [h3] at one
    skip
    obtain ⟨_,one⟩ := zai one;simp only [zaq,ho] at one;rcases ztv (P := P) (isRes := isRes) (o := o) (x := y) S with hn | ⟨U,hU,hH⟩
    ·rw [hn] at one; cases one
    ·rw [hU] at one;injection one with one;rw [← one];exact .of hH
   | call c =>
    obtain ⟨callee,args,tys⟩ := c;cases callee with
    | builtin b =>
     cases b with
     | append =>
      have h3 : x.cl = 3:=by
       rw [hx];rcases hc with hc | hc
       ·exact hc
       ·exfalso;simp only [clOf,ho] at hc
        repeat' split at hc
        all_goals cases hc
      unfold dop at one;rw [h3] at one
      skip
      obtain ⟨_,one⟩ := zai one;simp only [zaq,ho,zbv] at one;split at one
      ·exact zt2 one
      ·cases one
     | _=>simp [nhOf,ho] at hnh
    | value f =>
     cases f with
     | func g =>
      have h3 : x.cl = 3:=by
       rw [hx];rcases hc with hc | hc
       ·exact hc
       ·exfalso;simp only [clOf,ho] at hc
        repeat' split at hc
        all_goals cases hc
      unfold dop at one;rw [h3] at one;cases hi : (getA A g).imp with
      | false =>
       have e : ∀ {k0 : St→Option St},zaq P A an isRes cal o S k0 = some T→(∀ U T',k0 U = some T'→T' = U)→T.H = S.H:=by
        intro k0 h0 hk;simp only [zaq,ho] at h0;unfold zke at h0;simp only [St.ev,AV.func?,hi] at h0;obtain ⟨_,h0⟩ := zai h0;obtain ⟨r,_,h0⟩ := za2 h0;obtain ⟨_,h0⟩ := zai h0;rw [hk _ _ h0];unfold St.putown;split
        ·split <;> rfl
        ·rfl
       obtain ⟨_,one⟩ := zai one;exact .of (e one (fun U T' h=>(Option.some.inj h).symm))
      | true=>simp [nhOf,ho,hi] at hnh
     | _=>simp [nhOf,ho] at hnh
    | _=>simp [nhOf,ho] at hnh
   | _=>simp [nhOf,ho] at hnh
theorem zp1 (hN : zgg P A) (hcal : zcn P A cal) (hgl : zbn A g0 w0) {o : Oper} {i : Nat} {fz : Fx} {x : OI} (hx : x.cl = clOf A eb o) (hi : all[i]? = some o) {k : St→Option R}
  (h : zfk P A an isRes cal all.toList D i fz x o S k = some r) (hg : Rel g0 w0 Ex g S a w) (Q : Exit→Act→World→Prop) (K : Act→World→Prop) (hK : ∀ S' a' w',Good g0 w0 Ex S' a' w'→k S' = some r→K a' w') : wpOp P all Q i K a w:=by
 unfold wpOp;rw [hi];simp only;rw [zcf] at h;have run : dop P A an isRes cal D i fz x o S k = some r→o.wp P a w K Q := fun h=>Oper.wp_mono (fun a' w' ⟨S',hgd,hk⟩=>hK S' a' w' hgd hk) (dop_ok hN hcal hgl hx h hg Q);cases hr : gres all.toList o S with
 | none=>rw [hr] at h; cases h
 | some b =>
  rw [hr] at h;unfold gres at hr;cases hgd : o.guard with
  | none =>
   rw [hgd] at hr;injection hr with hr;subst hr;rw [if_pos (by simp [Region.wanted,hgd])];exact .inl (run h)
  | some jw =>
   obtain ⟨j,want⟩ := jw;rw [hgd] at hr;simp only at hr;cases hd : zdd all.toList j with
   | none=>rw [hd] at hr; cases hr
   | some d =>
    rw [hd] at hr;simp only at hr;have hd' := hd;rw [zku] at hd';have hev := hg.ev (.tmp d);have hy : ∀ v : Value,a.eval (.tmp d) = v→(∀ b,v = .bool b→yielded all a.tmps j = some b)∧((∀ b,v ≠ .bool b)→yielded all a.tmps j = none):=by
     intro v hv;have hv' : a.tmps.getD d undef = v := hv;rw [Array.getD_eq_getD_getElem?] at hv';unfold yielded;rw [hd'];simp only [obS];cases ht : a.tmps[d]? with
     | none =>
      rw [ht] at hv';refine ⟨fun b hb=>?_,fun _=>rfl⟩;subst hb;cases hv'
     | some u =>
      rw [ht] at hv';simp only [Option.getD_some] at hv';subst hv';refine ⟨fun b hb=>by subst hb; rfl,fun hn=>?_⟩;cases u <;> first | rfl | exact absurd rfl (hn _)
    cases hs : S.slot d with
    | und=>rw [hs] at hr; cases hr
    | lp e off=>rw [hs] at hr; cases hr
    | mp e=>rw [hs] at hr; cases hr
    | val v f =>
     rw [hs] at hr;have hev' : S.ev (.tmp d) = v := by show (S.slot d).av = v; rw [hs]; rfl
     rw [hev'] at hev;cases v with
     | bool c =>
      have hyb := (hy _ (zc2 hev)).1 c rfl;simp only at hr;injection hr with hr;subst hr;by_cases hcw : c = want
      ·rw [if_pos (by simp [Region.wanted,hgd,hyb,hcw])];have : (c == want) = true := by simpa using hcw
       rw [this] at h;exact .inl (run h)
      ·rw [if_neg (by simp [Region.wanted,hgd,hyb,hcw])];have : (c == want) = false := by simpa using hcw
       rw [this] at h;exact hK _ _ _ ⟨g,hg.skip o.dst⟩ h
     | tuple l =>
      cases l with
      | nil =>
       obtain ⟨us,hvt,_⟩ := zjx hev;have hyn := (hy _ hvt).2 (by simp);simp only at hr;injection hr with hr;subst hr;rw [if_neg (by simp [Region.wanted,hgd,hyn])];exact hK _ _ _ ⟨g,hg.skip o.dst⟩ h
      | cons _ _=>cases hr
     | _=>cases hr
theorem dstep_ok (hN : zgg P A) (hcal : zcn P A cal) (hgl : zbn A g0 w0) {o : Oper} {i : Nat} {fz : Fx} {x : OI} (hx : x.cl = clOf A eb o) (hi : all[i]? = some o) {k : St→Option R}
  (h : zbd P A an isRes cal all.toList D i fz x o S k = some r) (hg : Rel g0 w0 Ex g S a w) (Q : Exit→Act→World→Prop) (K : Act→World→Prop) (hK : ∀ S' a' w',Good g0 w0 Ex S' a' w'→k S' = some r→K a' w') : wpOp P all Q i K a w:=by
 unfold zbd at h;split at h
 ·exact zp1 hN hcal hgl hx hi h hg Q K hK
 ·obtain ⟨_,h⟩ := zai h;exact zp1 hN hcal hgl hx hi h hg Q K fun S' a' w' hgd hk=>hK S' a' w' hgd (zai hk).2
end
end
end Go.Vai
