/- Package-level variables, interface values, maps that stay in the frame, constant boxes. -/
import Derived.MapKept
import Derived.Carry
import Derived.Test.YtfdklpkfpmkgeaaGreatDoorM2
set_option linter.unusedSimpArgs false
set_option linter.unusedVariables false
set_option linter.unusedSectionVars false
set_option linter.unnecessarySimpa false
namespace Go.Vai
section
section
variable {X : Nat→Prop} {g0 : G} {w0 : World} {Ex : Nat→Prop} {g g' : G} {S : St} {a : Act} {w w' : World} {P : Program} {R : Type} {r : R} {o : Oper} {A : List (Nat × Ann)} {cal : Oracle}
theorem zm3 {i : Nat} {cs : List AV} (h : zbn A g w) (hi : zgk A i = some cs) : ∃ vals,zbg w i 0 vals∧RepL g w vals cs∧∀ (j : Nat) (u : Value),vals[j]? = some u→j < g.pub i:=by
 obtain ⟨B,off,vals,he,hc,hrl⟩ := zjl (h i cs hi).2;injection he with he;injection he with he;injection he with e1 e2 _;subst e1 e2;refine ⟨vals,fun j u hu=>⟨(hc j u hu).1,(hc j u hu).2.2⟩,hrl,fun j u hu=>?_⟩;have := (hc j u hu).2.1;omega
theorem zop {t : TypeId} {x : Operand} {k : St→Option R} (ho : o.op = .load t x) (hgl : zbn A g w) (h : zi2 P A o t x S k = some r) (hg : Rel g0 w0 Ex g S a w) : zb3 P o a w g0 w0 Ex k r:=by
 unfold zi2 at h;split at h
 ·rename_i gi;obtain ⟨cs,hcs,h1⟩ := za2 h;clear h;obtain ⟨ag,d,hd,hk,hag⟩ := zeg h1;obtain ⟨vals,hc,hrl,_⟩ := zm3 hgl hcs;have hl := zel (n := 0) hd hag hc hrl.part;have he' : ∀ u,(loadVar t ⟨gi,0 + 0,none⟩).run P w = .ok u w→(execOp a.eval o).run P w = .ok (.value u) w:=by
   intro u hu;have e : a.eval (.global gi) = .pointer (some ⟨gi,0,none⟩) := rfl;simp only [execOp,ho,Instr.loadAt,e,Instr.sureAddr,Sem.run_bind,Sem.run_pure,Result.andThen_ok,hu]
  cases ag with
  | true =>
   obtain ⟨h0,hk⟩ := zai hk;obtain ⟨u,hu,hrep⟩ := hl (zc3 h0);exact .val hg (he' u hu) hrep hk
  | false =>
   obtain ⟨c,hcc,hk⟩ := za2 hk;rw [zci] at hcc;obtain ⟨u,hu,hrep,_⟩ := hl c hcc;exact .val hg (he' u hu) hrep hk
 ·exact zq5 ho h hg
theorem zi6 {t : TypeId} {x ix : Operand} {k : St→Option R} (ho : o.op = .indexAddr t x ix) (hgl : zbn A g w) (h : zdb P A o t x ix S k = some r) (hg : Rel g0 w0 Ex g S a w) : zb3 P o a w g0 w0 Ex k r:=by
 unfold zdb at h;split at h
 ·rename_i gi;obtain ⟨cs,hcs,h1⟩ := za2 h;clear h;obtain ⟨ik,i,hix,h2⟩ := int?_some h1;clear h1;have hi := hg.ev ix;rw [hix] at hi;have hi' := zbc hi;obtain ⟨vals,hc,hrl,hp⟩ := zm3 hgl hcs;unfold idxG at h2;split at h2
  ·rename_i len e hu;split at h2
   ·cases h2
   ·rename_i hz;have hz' : zaj P e ≠ 0 := fun e=>by rw [e] at hz; cases hz
    obtain ⟨h3,h4⟩ := zai h2;obtain ⟨h5,h6⟩ := zai h4;obtain ⟨h7,h8⟩ := zai h6;have h0' : 0 ≤ i := by simpa using h3
    have h3' : i < (len : Int) := by simpa using h5
    have h9 := zc3 h7;have ev : a.eval (.global gi) = .pointer (some ⟨gi,0,none⟩) := rfl;have hk : (execOp a.eval o).run P w = .ok (.value (.pointer (some ((⟨gi,0,none⟩ : Addr).add (i.toNat * zaj P e))))) w:=by
     simp only [execOp,ho,Instr.indexAt,hi',asIntOf,Sem.run_bind,Sem.run_pure,Result.andThen_ok,zb7 hu,ev,Instr.sureAddr,if_pos (And.intro h0' h3'),Sem.run_ite,zbx hz']
    rw [Addr.add_lit] at hk;refine .val hg hk (.cptr gi _ _ (vals.drop (i.toNat * zaj P e)) (hrl.drop _).1 (fun j u hu=>?_) (hrl.drop _).2) h8;have hj : vals[i.toNat * zaj P e + j]? = some u := by simpa [List.getElem?_drop] using hu
    have := hc _ u hj;refine ⟨?_,?_,this.2⟩
    ·have e : 0 + i.toNat * zaj P e + j = 0 + (i.toNat * zaj P e + j) := by omega
     rw [e]; exact this.1
    ·have := hp _ u hj;omega
  ·cases h2
 ·exact zja ho h hg
theorem zpw {t : TypeId} {x : Operand} {k : St→Option R} (ho : o.op = .makeInterface t x) (h : zkz P t (evT P S t x) (fun v=>k (S.putd o.dst (.val v .no))) = some r) (hg : Rel g0 w0 Ex g S a w) : zb3 P o a w g0 w0 Ex k r:=by
 have hx := hg.evT (P := P) t x;unfold zkz at h;split at h
 ·cases h
 ·rename_i d hd hu;refine .val hg ?_ (.iface t _ _ hx) h;have : (Instr.makeInterface t (a.eval x)).run P w = .ok (.iface t (a.eval x)) w:=by
   simp only [Instr.makeInterface,Sem.run_bind,zb7 hu,Result.andThen_ok];cases d <;> first | exact absurd rfl (hd _) | rfl
  simp only [execOp,ho,Sem.run_bind,this,Result.andThen_ok,Sem.run_pure]
 ·cases h
end
end
section
open MapKept
section
variable {X : Nat→Prop} {g0 : G} {w0 : World} {Ex : Nat→Prop} {g g' : G} {S : St} {a : Act} {w w' : World} {P : Program} {R : Type} {r : R} {o : Oper} {A : List (Nat × Ann)} {cal : Oracle}
theorem zje {t : TypeId} {v : AV} {u : Value} (h : scal P t v = true) (hr : Rep g w u v) : ∃ d,P.underlying t = some d∧IsKey d u:=by
 cases v with
 | int i n=>obtain rfl := zbc hr; exact ⟨_,zpe h,rfl⟩
 | str s=>obtain ⟨b,rfl,_⟩ := zca hr; exact ⟨_,zmq h,trivial⟩
 | bool b=>obtain rfl := zc2 hr; exact ⟨_,zjo h,trivial⟩
 | _=>cases h
theorem eq1_key {t : TypeId} {x y : AV} {ux uy : Value} {k : Bool→Option R} (h : eq1 x y k = some r) (hx : Rep g w ux x) (hy : Rep g w uy y) (h1 : scal P t x = true) (h2 : scal P t y = true) :
  ∃ b,k b = some r∧(b = true ↔ ux = uy)∧∀ (R' : Type) (k' : Bool→Option R'),eq1 x y k' = k' b:=by
 cases x with
 | int i a =>
  simp only [eq1] at h;obtain ⟨j,b,rfl,h3⟩ := int?_some h;obtain ⟨h0,h4⟩ := zai h3;clear h h3;obtain rfl := zbc hx;obtain rfl := zbc hy;have e := zes h0;subst e;exact ⟨_,h4,by simp,fun R' k'=>by simp only [eq1,AV.int?,h0,br]⟩
 | str a =>
  simp only [eq1] at h;obtain ⟨b,rfl,h3⟩ := str?_some h;clear h;obtain ⟨s1,rfl,rfl⟩ := zca hx;obtain ⟨s2,rfl,rfl⟩ := zca hy;refine ⟨_,h3,?_,fun R' k'=>rfl⟩;rw [zs6,beq_iff_eq];constructor
  ·intro e;have : s1 = s2:=by
    apply ByteArray.ext; apply Array.toList_inj.1; exact e
   rw [this]
  ·intro e; injection e with e; rw [e]
 | bool a =>
  simp only [eq1] at h;obtain ⟨b,rfl,h3⟩ := bool?_some h;clear h;obtain rfl := zc2 hx;obtain rfl := zc2 hy;exact ⟨_,h3,by simp,fun R' k'=>rfl⟩
 | _=>cases h
theorem zgy {t : TypeId} {d : TypeDesc} {key v : AV} {uk : Value} (hd : P.underlying t = some d) (hk : scal P t key = true) (hrk : Rep g w uk key) : ∀ {l : List (AV × AV)} {es : List MapEntry} {kk : Option AV→Option R} (i : Nat),
  zdv P t l = true→zl1 g w es l→zdl key l kk = some r →
  (Instr.findNow d uk es i = some none∧kk none = some r∧mIns key v l = l ++ [(key,v)]) ∨
  ∃ j e p,Instr.findNow d uk es i = some (some (i + j,e.val))∧es[j]? = some e∧l[j]? = some p∧e.key = uk∧kk (some p.2) = some r∧mIns key v l = l.set j (key,v)
 | [],[],kk,i,_,_,h=>.inl ⟨rfl,h,rfl⟩
 | [],_ :: _,_,_,_,hr,_=>by have := hr.1; simp at this
 | (a,x) :: l,[],_,_,_,hr,_=>by have := hr.1; simp at this
 | (a,x) :: l,e :: es,kk,i,hs,hr,h=>by
  simp only [zdv] at hs;split at hs
  ·rename_i hsa;have h0 := hr.2 0 _ _ rfl rfl;simp only [zdl] at h;obtain ⟨b,hb,hiff,hall⟩ := eq1_key h hrk h0.1 hk hsa;obtain ⟨d1,hd1,hkey⟩ := zje hk hrk;obtain ⟨d2,hd2,hkey2⟩ := zje hsa h0.1;rw [hd] at hd1 hd2;injection hd1 with hd1;injection hd2 with hd2;subst hd1;rw [← hd2] at hkey2;obtain ⟨q,hq,hqi⟩ := sameNow_of_keys hkey hkey2;have hbq : b = q:=by
    have := hiff.trans hqi.symm;cases b <;> cases q <;> simp_all
   subst hbq;cases b with
   | true =>
    refine .inr ⟨0,e,(a,x),by simp [Instr.findNow,hq],rfl,rfl,(hiff.1 rfl).symm,hb,?_⟩;simp only [mIns,hall];rfl
   | false =>
    rcases zgy (v := v) hd hk hrk (i + 1) hs ⟨by simpa using hr.1,fun j e' p he hp=>hr.2 (j + 1) e' p (by simpa using he) (by simpa using hp)⟩ hb with ⟨h1,h2,h3⟩ | ⟨j,e',p,h1,h2,h3,h4,h5,h6⟩
    ·refine .inl ⟨by simp [Instr.findNow,hq,h1],h2,?_⟩;simp only [mIns,hall,h3];rfl
    ·refine .inr ⟨j + 1,e',p,by simp [Instr.findNow,hq,h1]; omega,by simpa using h2,by simpa using h3,h4,h5,?_⟩;simp only [mIns,hall,h6];rfl
  ·cases hs
theorem Rel.writeM (h : Rel g0 w0 Ex g S a w) {d B ck ck' : Nat} {es es' : Array MapEntry} {l l' : List (AV × AV)} (_hl : getM S.M d = some l) (hB : g.role B = .l d) (hheap : w.heap[B]? = some (.map es ck))
  (hn : zl1 g w es'.toList l') : Rel g0 w0 Ex g { S with M := setM S.M d l' } a { w with heap := w.heap.setIfInBounds B (.map es' ck') }:=by
 have hset := heap_set (o' := .map es' ck') hheap;have k : Keep (fun b=>b = B) g w g { w with heap := w.heap.setIfInBounds B (.map es' ck') }:=by
  refine ⟨⟨fun _ _ h=>h,fun _=>Nat.le_refl _,fun B' o ho=>?_⟩,rfl,rfl,rfl,by simp,fun B' _ hne=>⟨hset.2 B' hne,rfl,rfl⟩⟩;by_cases hb : B' = B
  ·subst hb; have := h.inv.pl B' d hB; omega
  ·exact zb8 (hset.2 B' hb)
 have hX : ∀ B' p,g.role B' = .c p→¬ B' = B := fun B' p hp e=>by subst e; rw [hB] at hp; cases hp
 have hi : Inv g { w with heap := w.heap.setIfInBounds B (.map es' ck') } := ⟨fun B' hB'=>h.inv.new B' (by simpa using hB'),h.inv.ph,h.inv.pl,h.inv.injh,h.inv.injl⟩;refine ⟨hi,h.h.keep k (fun B' id b' hB' _ e=>by subst e; rw [hB] at hB'; cases hB') (fun B' id off hB'=>hX B' _ hB') h.h.lt,
  h.l.keep k (fun B' d' b' hB' hb' e=>?_) (fun B' d' off hB'=>hX B' _ hB'),fun d' l2 hl2=>?_,h.len,fun t=>?_,h.fr.keep k ?_ ?_,h.nodef⟩
 ·subst e;obtain ⟨B2,h2,⟨us,e,h3,_⟩,_⟩ := h.l d' b' hb';obtain rfl := h.inv.injl B' B2 d' hB' h2;rw [hheap] at h3;cases h3
 ·have hl3 : getM (setM S.M d l') d' = some l2 := hl2;rw [zkf] at hl3;split at hl3
  ·rename_i hd;subst hd;injection hl3 with hl3;subst hl3;exact ⟨B,es',ck',hB,hset.1,hn.ext k.ext⟩
  ·rename_i hd;obtain ⟨B2,es2,ck2,h2,h3,h4⟩ := h.m d' l2 hl3;have hne : B2 ≠ B := fun e=>by subst e; rw [hB] at h2; injection h2 with e; exact hd e.symm
   exact ⟨B2,es2,ck2,h2,by rw [← h3]; exact hset.2 B2 hne,h4.ext k.ext⟩
 ·have h1 := h.sl t;cases hst : S.slot t with
  | und=>show zbl _ _ _ _ t (S.slot t); rw [hst]; trivial
  | lp d off=>show zbl _ _ _ _ t (S.slot t); rw [hst] at h1 ⊢; exact h1
  | mp d=>show zbl _ _ _ _ t (S.slot t); rw [hst] at h1 ⊢; exact h1
  | val v f =>
   show zbl _ _ _ _ t (S.slot t);rw [hst] at h1 ⊢;refine ⟨h1.1.ext k.ext,?_⟩;cases f with
   | no=>trivial
   | own=>exact zas.keep h1.2 k fun B' hB'=>hX B' _ hB'
   | ownS=>exact zas.keep h1.2 k fun B' hB'=>hX B' _ hB'
   | lS q=>exact h1.2
   | lL d' off =>
    intro b hb hoff;obtain ⟨B',h2,h3,h4⟩ := h1.2 b hb hoff;refine ⟨B',h2,?_,h4⟩;have hne : B' ≠ B := fun e=>by subst e; simp [World.cell?,hheap] at h3
    rw [zb8 (hset.2 B' hne)]; exact h3
   | lH id off =>
    intro b hb hoff;obtain ⟨B',h2,h3,h4⟩ := h1.2 b hb hoff;refine ⟨B',h2,?_,h4⟩;have hne : B' ≠ B := fun e=>by subst e; simp [World.cell?,hheap] at h3
    rw [zb8 (hset.2 B' hne)]; exact h3
   | comps cs=>exact fun i hi us vs ui vi e1 e2 e3 e4=>zas.keep (h1.2 i hi us vs ui vi e1 e2 e3 e4) k fun B' hB'=>hX B' _ hB'
 ·rintro B' rfl;exact h.fr.role B' (by rw [hB]; simp)
 ·rintro B' hlt rfl _;rcases h.fr.role B' (by rw [hB]; simp) with hx | hx
  ·omega
  ·exact hx
theorem keyStays {d : TypeDesc} {k : Value} (h : IsKey d k) : (Instr.keyThatStays k k).run P w = .ok k w:=by
 have : Instr.sameBits 10000 k k = true:=by
  cases d <;> cases k <;> simp_all [IsKey,Instr.sameBits];exact (bytes_beq _ _).2 rfl
 simp [Instr.keyThatStays,this]
theorem znh {t kt et : TypeId} {B ck : Nat} {es : Array MapEntry} {uk uv : Value} {d : TypeDesc} (hu : P.underlying t = some (.map kt et)) (hd : P.underlying kt = some d) (hk : IsKey d uk) (hheap : w.heap[B]? = some (.map es ck)) :
  (Instr.findNow d uk es.toList 0 = some none→(Instr.mapUpdate t (.map (some B)) uk uv).run P w = .ok () { w with heap := w.heap.setIfInBounds B (.map (es.push { key := uk,val := uv,born := ck }) (ck + 1)) }) ∧
  ∀ j e,Instr.findNow d uk es.toList 0 = some (some (0 + j,e.val))→es[j]? = some e→e.key = uk→(Instr.mapUpdate t (.map (some B)) uk uv).run P w = .ok () { w with heap := w.heap.setIfInBounds B (.map (es.modify j fun e=>{ e with key := uk,val := uv }) ck) }:=by
 refine ⟨fun h=>?_,fun j e h he hek=>?_⟩
 ·simp only [Instr.mapUpdate,Sem.run_bind,run_underlying hu,Result.andThen_ok,Go.MapKept.run_getObj_map hheap,run_checkKey hd hk,run_findKey hd h,Go.MapKept.run_setObj_map _ hheap]
 ·rw [Nat.zero_add] at h;simp only [Instr.mapUpdate,Sem.run_bind,run_underlying hu,Result.andThen_ok,Go.MapKept.run_getObj_map hheap,run_checkKey hd hk,run_findKey hd h,he,omS,Option.getD_some,hek,keyStays hk,Go.MapKept.run_setObj_map _ hheap]
theorem zf5 {t : TypeId} {m key v : Operand} {k : St→Option R} (ho : o.op = .insert t m key v ∨ o.op = .mapUpdate t m key v) (hod : o.dst = none) (h : zei P t m key v S k = some r) (hg : Rel g0 w0 Ex g S a w) :
  zb3 P o a w g0 w0 Ex k r:=by
 unfold zei at h;split at h
 ·rename_i kt et hu;split at h
  ·rename_i tm;split at h
   ·rename_i d hs;obtain ⟨l,hl,h1⟩ := za2 h;clear h;obtain ⟨h2,h3⟩ := zai h1;rw [Bool.and_eq_true] at h2;have hsl := hg.sl tm;rw [hs] at hsl;obtain ⟨B,hB,hev⟩ := hsl;have hev' : a.eval (.tmp tm) = .map (some B) := hev;obtain ⟨B2,es,ck,h4,hheap,hmr⟩ := hg.m d l hl;obtain rfl := hg.inv.injl B B2 d hB h4;have hrk := hg.evT (P := P) kt key;have hrv := hg.evT (P := P) et v;obtain ⟨dd,hdd,hkey⟩ := zje h2.1 hrk;have hrun := znh (w := w) (uv := a.eval v) hu hdd hkey hheap;have hex : ∀ w',(Instr.mapUpdate t (.map (some B)) (a.eval key) (a.eval v)).run P w = .ok () w'→(execOp a.eval o).run P w = .ok .skip w':=by
     intro w' hw;rcases ho with ho | ho <;> simp only [execOp,ho,hev',Sem.run_bind,hw,Result.andThen_ok,Sem.run_pure]
    have fin : ∀ (es' : Array MapEntry) (ck' : Nat) (l' : List (AV × AV)),zl1 g w es'.toList l'→(Instr.mapUpdate t (.map (some B)) (a.eval key) (a.eval v)).run P w = .ok () { w with heap := w.heap.setIfInBounds B (.map es' ck') } →
      k { S with M := setM S.M d l' } = some r→zb3 P o a w g0 w0 Ex k r:=by
     intro es' ck' l' hm hw hk;refine ⟨.skip,undef,_,_,hex _ hw,.inr ⟨rfl,rfl⟩,⟨g,?_⟩,hk⟩;rw [hod];exact hg.writeM hl hB hheap hm
    rcases zgy (v := evT P S et v) hdd h2.1 hrk 0 h2.2 hmr h3 with ⟨h5,h6,h7⟩ | ⟨j,e,p,h5,h6,h7,h8,h9,h10⟩
    ·rw [h7] at h6;refine fin _ _ _ ?_ (hrun.1 h5) h6;rw [Array.toList_push];refine ⟨by simp [hmr.1],fun j x q hx hq=>?_⟩;rcases Nat.lt_trichotomy j es.toList.length with hj | hj | hj
     ·rw [List.getElem?_append_left hj] at hx;rw [List.getElem?_append_left (by rw [← hmr.1]; exact hj)] at hq;exact hmr.2 j x q hx hq
     ·subst hj;rw [List.getElem?_append_right (Nat.le_refl _),Nat.sub_self] at hx;rw [List.getElem?_append_right (by rw [hmr.1]; exact Nat.le_refl _),hmr.1,Nat.sub_self] at hq;simp at hx hq;subst hx hq;exact ⟨hrk,hrv⟩
     ·rw [List.getElem?_append_right (by omega),List.getElem?_eq_none (by rw [List.length_singleton]; omega)] at hx;cases hx
    ·rw [h10] at h9;have he' : es[j]? = some e := by simpa using h6
     refine fin _ _ _ ?_ (hrun.2 j e h5 he' h8) h9;refine ⟨by simp [hmr.1],fun i x q hx hq=>?_⟩;rw [Array.getElem?_toList,Array.getElem?_modify] at hx;rw [List.getElem?_set] at hq;by_cases hij : j = i
     ·subst hij;have hlt : j < l.length := (List.getElem?_eq_some_iff.1 h7).1;rw [if_pos rfl,he'] at hx;rw [if_pos rfl,if_pos hlt] at hq;simp at hx hq;subst hx hq;exact ⟨hrk,hrv⟩
     ·rw [if_neg hij] at hx hq;exact hmr.2 i x q (by simpa using hx) hq
   ·cases h
  ·cases h
 ·cases h
theorem zoe {t : TypeId} {k : AV→Option R} (h : zw4 P t k = some r) : ∃ u v,(zeroValue t).run P w = .ok u w∧Rep g w u v∧k v = some r:=by
 unfold zw4 at h;split at h
 ·rename_i i hi;split at h
  ·rename_i z hz;exact ⟨z,_,by simp [zeroValue,typeInfo,hi,hz],zdz _ _,h⟩
  ·cases h
 ·cases h
theorem znn {t : TypeId} {x ix : Operand} {ok : Bool} {k : St→Option R} (ho : o.op = .lookup t x ix ok) (h : znc P o t x ix ok S k = some r) (hg : Rel g0 w0 Ex g S a w) : zb3 P o a w g0 w0 Ex k r:=by
 unfold znc at h;split at h
 ·rename_i kt et hu;split at h
  ·rename_i tm;split at h
   ·rename_i d hs;obtain ⟨l,hl,h1⟩ := za2 h;clear h;obtain ⟨h2,h3⟩ := zai h1;rw [Bool.and_eq_true] at h2;have hsl := hg.sl tm;rw [hs] at hsl;obtain ⟨B,hB,hev⟩ := hsl;have hev' : a.eval (.tmp tm) = .map (some B) := hev;obtain ⟨B2,es,ck,h4,hheap,hmr⟩ := hg.m d l hl;obtain rfl := hg.inv.injl B B2 d hB h4;have hrk := hg.evT (P := P) kt ix;obtain ⟨dd,hdd,hkey⟩ := zje h2.1 hrk;have fin : ∀ (u : Value) (v : AV) (b : Bool),Rep g w u v→(Instr.lookup t (.map (some B)) (a.eval ix) ok).run P w = .ok (if ok then .tuple #[u,.bool b] else u) w →
      zq6 o ok S v b k = some r→zb3 P o a w g0 w0 Ex k r:=by
     intro u v b hr hw hk;have hex : (execOp a.eval o).run P w = .ok (.value (if ok then .tuple #[u,.bool b] else u)) w:=by
      simp only [execOp,ho,hev',Sem.run_bind,hw,Result.andThen_ok,Sem.run_pure]
     cases ok with
     | true =>
      refine .val hg hex ?_ hk;refine .tuple [u,.bool b] _ rfl fun j x c hx hc=>?_
      match j with
      | 0=>simp at hx hc; subst hx hc; exact hr
      | 1=>simp at hx hc; subst hx hc; exact .bool b
      | j + 2=>simp at hx
     | false=>exact .val hg hex hr hk
    rcases zgy (v := .undef) hdd h2.1 hrk 0 h2.2 hmr h3 with ⟨h5,h6,h7⟩ | ⟨j,e,p,h5,h6,h7,h8,h9,h10⟩
    ·obtain ⟨u,v,hz,hr,hk⟩ := zoe (w := w) (g := g) h6;refine fin u v false hr ?_ hk;simp only [Instr.lookup,Sem.run_bind,run_underlying hu,Result.andThen_ok,Go.MapKept.run_getObj_map hheap,Sem.run_pure,run_checkKey hdd hkey,run_findKey hdd h5,hz]
    ·rw [Nat.zero_add] at h5;refine fin e.val p.2 true (hmr.2 j e p h6 h7).2 ?_ h9;simp only [Instr.lookup,Sem.run_bind,run_underlying hu,Result.andThen_ok,Go.MapKept.run_getObj_map hheap,Sem.run_pure,run_checkKey hdd hkey,run_findKey hdd h5]
   ·cases h
  ·cases h
 ·cases h
theorem zl9 {t : TypeId} {k : St→Option R} (ho : o.op = .makeMap t none) (h : zk1 P o t S k = some r) (hg : Rel g0 w0 Ex g S a w) : zb3 P o a w g0 w0 Ex k r:=by
 unfold zk1 at h;have hold : ∀ B,B < w.heap.size→(w.alloc (.map #[] 0)).heap[B]? = w.heap[B]? := fun B hB=>zbe w _ hB;have hat := zc7 w (.map #[] 0);split at h
 ·rename_i d hd;split at h
  ·rename_i hLn
   let g1 : G := ⟨fun b=>if g.role b = .l d then .ext else g.role b,g.pub⟩
   have r1 : ∀ b,g1.role b = if g.role b = .l d then .ext else g.role b := fun _=>rfl
   have r1ne : ∀ b x,g.role b = x→x ≠ .l d→g1.role b = x := fun b x hb hx=>by rw [r1,if_neg (by rw [hb]; exact hx),hb]
   have r1inv : ∀ b x,g1.role b = x→x ≠ .ext→g.role b = x∧x ≠ .l d := fun b x hb hx=>by
    rw [r1] at hb;split at hb
    ·exact absurd hb.symm hx
    ·rename_i hn; subst hb; exact ⟨rfl,hn⟩
   have hE1 : Ext g w g1 w := ⟨fun B id hB=>r1ne B _ hB (by simp),fun _=>Nat.le_refl _,fun _ _ _=>rfl⟩;have own1 : ∀ p u c,zas g w p u c→zas g1 w p u c:=by
    intro p u c hc;cases c with
    | vs sz tg l =>
     rcases hc with hc | hc | ⟨B,n,cap,us,e,h1,h2,h3⟩
     ·exact .inl hc
     ·exact .inr (.inl hc)
     ·exact .inr (.inr ⟨B,n,cap,us,e,h1,r1ne B _ h2 (by simp),h3⟩)
    | _=>trivial
   have hg1 : Rel g0 w0 Ex g1 ({ S with M := [],sl := S.sl.map (zax d) } : St).unlent a w:=by
    refine ⟨⟨fun B hB=>?_,fun B id hB=>hg.inv.ph B id (r1inv B _ hB (by simp)).1,fun B d' hB=>hg.inv.pl B d' (r1inv B _ hB (by simp)).1,fun B B' id hB hB'=>hg.inv.injh B B' id (r1inv B _ hB (by simp)).1 (r1inv B' _ hB' (by simp)).1,fun B B' id hB hB'=>hg.inv.injl B B' id (r1inv B _ hB (by simp)).1 (r1inv B' _ hB' (by simp)).1⟩,?_,?_,fun d' l hl=>(by cases hl),?_,fun t=>?_,?_,hg.nodef⟩
    ·obtain ⟨h2,h3⟩ := hg.inv.new B hB;exact ⟨r1ne B _ h2 (by simp),h3⟩
    ·refine ⟨fun id b hb=>?_,fun B id hB=>hg.h.lt B id (r1inv B _ hB (by simp)).1⟩;obtain ⟨B,hB,⟨us',e',hh,ho',hr'⟩,hf⟩ := hg.h.blk id b hb;exact ⟨B,r1ne B _ hB (by simp),⟨us',e',hh,ho',hr'.ext hE1⟩,fun off hoff u v hu hv=>own1 _ _ _ (hf off hoff u v hu hv)⟩
    ·intro d' b hb;have hb' : getL S.L d' = some b := hb;obtain ⟨B,hB,⟨us',e',hh,ho',hr'⟩,hf⟩ := hg.l d' b hb';exact ⟨B,r1ne B _ hB (by intro e; injection e with e; rw [e,hLn] at hb'; cases hb'),⟨us',e',hh,ho',hr'.ext hE1⟩,fun off hoff u v hu hv=>own1 _ _ _ (hf off hoff u v hu hv)⟩
    ·show ((S.sl.map (zax d)).map Slot.unlent).length = _;rw [lnM,lnM]; exact hg.len
    ·have hs := hg.sl t;rw [zb0];have e1 : ({ S with M := [],sl := S.sl.map (zax d) } : St).slot t = zax d (S.slot t) := zd7 _ rfl _ _;rw [e1];cases hst : S.slot t with
     | und=>trivial
     | lp d' off =>
      rw [hst] at hs;obtain ⟨B,h2,h3⟩ := hs;simp only [zax];cases hb : Nat.beq d' d with
      | true=>trivial
      | false =>
       have hne : d' ≠ d := fun e=>by subst e; rw [show Nat.beq d' d' = true from Nat.beq_refl d'] at hb; cases hb
       exact ⟨B,r1ne B _ h2 (by intro e; injection e with e; exact hne e),h3⟩
     | mp d' =>
      rw [hst] at hs;obtain ⟨B,h2,h3⟩ := hs;simp only [zax];cases hb : Nat.beq d' d with
      | true=>trivial
      | false =>
       have hne : d' ≠ d := fun e=>by subst e; rw [show Nat.beq d' d' = true from Nat.beq_refl d'] at hb; cases hb
       exact ⟨B,r1ne B _ h2 (by intro e; injection e with e; exact hne e),h3⟩
     | val v f =>
      rw [hst] at hs;refine zmi.rel (s := .val v f) ⟨hs.1.ext hE1,?_⟩ _;cases f with
      | own=>exact own1 _ _ _ hs.2
      | ownS=>exact own1 _ _ _ hs.2
      | comps cs=>exact fun i hi us vs ui vi e1 e2 e3 e4=>own1 _ _ _ (hs.2 i hi us vs ui vi e1 e2 e3 e4)
      | _=>trivial
    ·exact ⟨hg.fr.ext.trans hE1,hg.fr.os,hg.fr.tape,hg.fr.output,hg.fr.size,fun B hB hx=>hg.fr.same B hB hx,fun B hB=>hg.fr.role B fun e=>hB (r1ne B _ e (by simp))⟩
   have hk := zem (w' := w.alloc (.map #[] 0)) hg1.inv hold (by simp) rfl rfl rfl (.l d) 0;have hi := zmo (w' := w.alloc (.map #[] 0)) hg1.inv (zd0 w _) (.l d) 0 (fun _=>rfl) (fun id B e=>by cases e) (fun d' B e he=>by
    injection e with e; subst e; exact (r1inv B _ he (by simp)).2 rfl)
   have hr := hg1.grow hk hi (fun B id hB=>by
    rw [zba] at hB;split at hB
    ·cases hB
    ·exact hg1.h.lt B id hB)
   have hrun : (execOp a.eval o).run P w = .ok (.value (.map (some w.heap.size))) (w.alloc (.map #[] 0)):=by
    have hmk : (Instr.makeMap t none).run P w = .ok (.map (some w.heap.size)) (w.alloc (.map #[] 0)) := rfl;simp only [execOp,ho,Option.map_none,Sem.run_bind,hmk,Result.andThen_ok,Sem.run_pure]
   refine .mk hrun ⟨g1.new w.heap.size (.l d) 0,?_⟩ h;rw [hd];have hr2 : Rel g0 w0 Ex (g1.new w.heap.size (.l d) 0) ({ S with M := setM S.M d [],sl := S.sl.map (zax d) } : St).unlent a (w.alloc (.map #[] 0)):=by
    refine ⟨hr.inv,hr.h,hr.l,fun d' l hl=>?_,hr.len,fun t=>?_,hr.fr,hr.nodef⟩
    ·have hl' : getM (setM S.M d []) d' = some l := hl;rw [zkf] at hl';split at hl'
     ·rename_i hid;subst hid;injection hl' with hl';subst hl';exact ⟨w.heap.size,#[],0,by rw [zba,if_pos rfl],hat,rfl,fun j e p he=>by simp at he⟩
     ·rename_i hne;obtain ⟨B,es,ck,h1,h2,h3⟩ := hg.m d' l hl';have hB1 : g1.role B = .l d' := r1ne B _ h1 (by intro e; injection e with e; exact hne e);have hBlt := zdh h2;exact ⟨B,es,ck,by rw [zba,if_neg (by omega)]; exact hB1,by rw [hold B hBlt]; exact h2,(h3.ext hE1).ext hk.ext⟩
    ·have := hr.sl t;have e1 : (({ S with M := setM S.M d [],sl := S.sl.map (zax d) } : St).unlent.slot t) = ({ S with M := [],sl := S.sl.map (zax d) } : St).unlent.slot t := rfl;rw [e1];have e2 : (({ S with M := [],sl := S.sl.map (zax d) } : St).unlent.slot t).unlent = ({ S with M := [],sl := S.sl.map (zax d) } : St).unlent.slot t:=by
      rw [zb0];cases ({ S with M := [],sl := S.sl.map (zax d) } : St).slot t with
      | val v f=>cases f <;> rfl
      | _=>rfl
     rw [← e2];exact (zbl.c this).rel _
   exact hr2.putlp (some d) (.inr (.inr ⟨d,w.heap.size,rfl,by rw [zba,if_pos rfl],rfl⟩))
  ·cases h
 ·cases h
end
end
section
def ziy (g0 : G) (w0 : World) (Ex : Nat→Prop) : Prop := Inv g0 w0∧∀ B,¬ Ex B
section
variable {X : Nat→Prop} {g0 : G} {w0 : World} {Ex : Nat→Prop} {g g' : G} {S : St} {a : Act} {w w' : World} {P : Program} {R : Type} {r : R} {o : Oper} {A : List (Nat × Ann)} {cal : Oracle}
theorem zof : ∀ {l : List AV},intsC l = true→∀ c ∈ l,∃ k n,c = .int k n
 | [],_,c,h=>by cases h
 | x :: l,h,c,hc=>by
  cases x with
  | int k n =>
   rcases List.mem_cons.1 hc with rfl | hc
   ·exact ⟨k,n,rfl⟩
   ·exact zof (l := l) h c hc
  | _=>cases h
theorem zhw {sz : Nat} : ∀ {l : List AV},zc1 sz l = true→(∀ x ∈ l,x.cells.length = sz)∧∀ c ∈ l.flatMap AV.cells,∃ k n,c = .int k n
 | [],_=>⟨fun x h=>(by cases h),fun c h=>(by cases h)⟩
 | x :: l,h=>by
  unfold zc1 at h;split at h
  ·rename_i hx;rw [Bool.and_eq_true] at hx;obtain ⟨h1,h2⟩ := zhw h;refine ⟨fun y hy=>?_,fun c hc=>?_⟩
   ·rcases List.mem_cons.1 hy with rfl | hy
    ·exact beqN hx.1
    ·exact h1 y hy
   ·rw [List.flatMap_cons,List.mem_append] at hc;rcases hc with hc | hc
    ·exact zof hx.2 c hc
    ·exact h2 c hc
  ·cases h
theorem rep_iv {c : AV} (h : ∃ k n,c = .int k n) : Rep g w (ivV c) c := by obtain ⟨k,n,rfl⟩ := h; exact .int k n
theorem iv_one {c : AV} (h : ∃ k n,c = .int k n) : (ivV c).oneCell' = true := by obtain ⟨k,n,rfl⟩ := h; rfl
theorem zwt {c : AV} {u : Value} (h : ∃ k n,c = .int k n) (hr : Rep g w u c) : u = ivV c := by obtain ⟨k,n,rfl⟩ := h; exact zbc hr
theorem zv8 (hg : Rel g0 w0 Ex g S a w) (hf : ziy g0 w0 Ex) (hX : ∀ B,X B→∃ p,g.role B = .c p) (hw : Grew X w w') {id : Nat} {b : Blk} (hH : S.H = ([(id,b)] : List (Nat × Blk))) (hlen : b.cells.length = 1)
  {u : Value} {c' : AV} {B0 : Nat} (hB0 : g.role B0 = .h id) (hcell : w.cell? ⟨B0,0,none⟩ = some u) (hrep : Rep g w' u c') (hown : zas g w' (.h id 0) u c') :
  Rel g0 w0 Ex g ⟨S.sl.map Slot.flatS,[],([(id,⟨[c'],[0]⟩)] : List (Nat × Blk)),S.nx,[]⟩ a w':=by
 have inb : ∀ B,g.role B ≠ .ext→B < w.heap.size := fun B hB=>by
  rcases Nat.lt_or_ge B w.heap.size with h | h
  ·exact h
  ·exact absurd (hg.inv.new B h).1 hB
 have nX : ∀ B,X B→w0.heap.size ≤ B := fun B hB=>by
  obtain ⟨p,hp⟩ := hX B hB;rcases hg.fr.role B (by rw [hp]; simp) with h | h
  ·exact h
  ·exact absurd h (hf.2 B)
 have hself : ∀ x : Blk,getL [(id,x)] id = some x := fun x=>by unfold getL; rw [show Nat.beq id id = true from Nat.beq_refl id]
 have hk0 : w'.heap[B0]? = w.heap[B0]? := hw.old B0 (inb B0 (by rw [hB0]; simp)) fun h=>by obtain ⟨p,hp⟩ := hX B0 h; rw [hB0] at hp; cases hp
 obtain ⟨B1,hB1,⟨us,e,h1,h2,h3⟩,_⟩ := hg.h.blk id b (by rw [hH]; exact hself b);obtain rfl := hg.inv.injh B1 B0 id hB1 hB0;have hu0 : us[0]? = some u:=by
  have := hcell;simp only [World.cell?,h1] at this
  simpa using this
 refine ⟨⟨fun B hB=>hg.inv.new B (Nat.le_trans hw.size hB),hg.inv.ph,hg.inv.pl,hg.inv.injh,hg.inv.injl⟩,⟨fun i x hx=>?_,fun B i hB=>?_⟩,fun d x hx=>(by cases hx),fun d l hl=>(by cases hl),by rw [lnM]; exact hg.len,fun t=>?_,⟨⟨hg.fr.ext.hrole,hg.fr.ext.pub,fun B o ho=>?_⟩,hw.os.trans hg.fr.os,hw.tape.trans hg.fr.tape,hw.output.trans hg.fr.output,Nat.le_trans hg.fr.size hw.size,fun B hB hx=>?_,hg.fr.role⟩,hg.nodef⟩
 ·have hx' : getL [(id,(⟨[c'],[0]⟩ : Blk))] i = some x := hx;unfold getL at hx';split at hx'
  ·rename_i hb;injection hx' with hx';obtain rfl := beqN hb;subst hx';refine ⟨B1,hB1,⟨us,e,by rw [hk0]; exact h1,fun j v hj hv=>h2 j v (by rw [hlen]; exact hj) hv,⟨?_,fun j v c hv hc=>?_⟩⟩,fun off hoff v y hv hy=>?_⟩
   ·have := (List.getElem?_eq_some_iff.1 hu0).1;exact this
   ·match j with
    | 0 =>
     injection hc with hc;rw [hu0] at hv;injection hv with hv;rw [← hc,← hv];exact hrep
    | j + 1=>cases hc
   ·obtain rfl := List.mem_singleton.1 hoff;injection hy with hy;rw [zb8 hk0,hcell] at hv;injection hv with hv;rw [← hv,← hy];exact hown
  ·cases hx'
 ·have := hg.h.lt B i hB;rw [hH] at this;intro hn;have hn' : getL [(id,(⟨[c'],[0]⟩ : Blk))] i = none := hn;unfold getL at hn';split at hn'
  ·cases hn'
  ·rename_i hb;apply this;show getL [(id,b)] i = none;unfold getL;rw [hb];rfl
 ·have e : (⟨S.sl.map Slot.flatS,[],([(id,⟨[c'],[0]⟩)] : List (Nat × Blk)),S.nx,[]⟩ : St).slot t = (S.slot t).flatS := zd7 _ rfl _ _;rw [e];have hs := hg.sl t;cases hst : S.slot t with
  | val v f =>
   rw [hst] at hs;cases v with
   | int k n=>exact ⟨by rw [zbc hs.1]; exact .int k n,trivial⟩
   | bool c=>exact ⟨by rw [zc2 hs.1]; exact .bool c,trivial⟩
   | str s=>obtain ⟨x,hx,rfl⟩ := zca hs.1; exact ⟨by rw [hx]; exact .str x,trivial⟩
   | ptr i off=>obtain ⟨B,hB,hx⟩ := zfo hs.1; exact ⟨by rw [hx]; exact .ptr B i off hB,trivial⟩
   | _=>trivial
  | _=>trivial
 ·rcases Nat.lt_or_ge B w.heap.size with hlt | hge
  ·by_cases hx : X B
   ·rw [(hf.1.new B (nX B hx)).2] at ho;exact absurd ho (Nat.not_lt_zero _)
   ·rw [zb8 (hw.old B hlt hx)];exact hg.fr.ext.cell B o ho
  ·rw [(hf.1.new B (Nat.le_trans hg.fr.size hge)).2] at ho;exact absurd ho (Nat.not_lt_zero _)
 ·have hnx : ¬ X B := fun h=>by have := nX B h; omega
  obtain ⟨h4,h5⟩ := hg.fr.same B hB hx;exact ⟨(hw.old B (Nat.lt_of_lt_of_le hB hg.fr.size) hnx).trans h4,h5⟩
theorem zig : ∀ {l : List Operand} {gs : List Nat},zkl l = some gs→l.map a.eval = gs.map fnV
 | [],gs,h=>by injection h with h; subst h; rfl
 | x :: l,gs,h=>by
  unfold zkl at h;split at h
  ·rename_i f;split at h
   ·rename_i r hr;injection h with h;subst h;rw [List.map_cons,List.map_cons,zig hr];rfl
   ·cases h
  ·cases h
theorem zry {B cap sz n k : Nat} {us : Array Value} {e : TypeId} {l : List AV} (hi : zc1 sz l = true) (hat : w.heap[B]? = some (.cells us e (0,0))) (hv : ∀ (j : Nat) (v : Value),((l.flatMap AV.cells).map ivV)[j]? = some v→us[j]? = some v) (hn : l.length = n) (hk : k ≤ n) (hcap : k ≤ cap) (hp : g.pub B = n * sz) :
  Rep g w (.slice (some ⟨B,0,none⟩) k cap) (.vs sz false (l.take k)):=by
 obtain ⟨h1,h2⟩ := zhw hi;have ht : ∀ x ∈ l.take k,x.cells.length = sz := fun x hx=>h1 x (List.mem_of_mem_take hx);have hc : ∀ c ∈ (l.take k).flatMap AV.cells,∃ q m,c = .int q m := fun c hc=>by
  obtain ⟨x,hx,hcx⟩ := List.mem_flatMap.1 hc;exact h2 c (List.mem_flatMap.2 ⟨x,List.mem_of_mem_take hx,hcx⟩)
 have hlk : (l.take k).length = k := by rw [List.length_take]; omega
 have hfl : ((l.take k).flatMap AV.cells).length = k * sz := by rw [zbi ht,hlk]
 have := Rep.vs (g := g) (w := w) B 0 cap sz false (l.take k) (((l.take k).flatMap AV.cells).map ivV) (by rw [lnM]) ht (by simp) (by rw [hlk]; exact hcap) (fun j u hu=>?_) (fun j u c hu hcc=>?_)
 ·rw [hlk] at this;exact this
 ·have hj : j < k * sz:=by
   have := (List.getElem?_eq_some_iff.1 hu).1;rw [lnM,hfl] at this;exact this
  have hu2 : ((l.flatMap AV.cells).map ivV)[j]? = some u:=by
   rw [← List.take_append_drop k l,List.flatMap_append,mpA,List.getElem?_append_left (by rw [lnM,hfl]; exact hj)];exact hu
  refine ⟨?_,?_,?_⟩
  ·rw [Nat.zero_add];simp only [World.cell?,hat]
   simpa using hv j u hu2
  ·rw [Nat.zero_add,hp];exact Nat.lt_of_lt_of_le hj (Nat.mul_le_mul_right _ hk)
  ·rw [List.getElem?_map] at hu;obtain ⟨c,hcj,rfl⟩ := Option.map_eq_some_iff.1 hu;exact iv_one (hc c (List.mem_of_getElem? hcj))
 ·rw [List.getElem?_map,hcc] at hu;injection hu with hu;rw [← hu];exact rep_iv (hc c (List.mem_of_getElem? hcc))
theorem own_ok {c : zr8} {an : Ann} {k : St→Option R} (hN : zgg P A) (hf : an.imp = false→ziy g0 w0 Ex)
  (hc : zr0 A an o = some c) (h : opOwn c o S k = some r) (hg : Rel g0 w0 Ex g S a w) : OpOk P o a w g0 w0 Ex k r:=by
 obtain ⟨cc,rest,b,F,himp,ho,hcal,hA,hargs,hgs,hb,hF⟩ : ∃ cc rest b F,an.imp = false∧o.op = .call cc∧cc.callee = .value (.func c.f)∧(getA A c.f).oc = some (b,F)∧cc.args.toList = .tmp c.t :: rest∧zkl rest = some c.gs∧c.b = b∧c.F = F:=by
  unfold zr0 at hc;split at hc
  ·cases hc
  ·rename_i himp;split at hc
   ·rename_i cc ho;split at hc
    ·rename_i fo hcal;split at hc
     ·rename_i f;split at hc
      ·rename_i p hA;split at hc
       ·rename_i x l hx;split at hc
        ·rename_i t;split at hc
         ·rename_i gs hgs;injection hc with hc;subst hc;exact ⟨cc,l,p.1,p.2,himp,ho,hcal,hA,hx,hgs,rfl,rfl⟩
         ·cases hc
        ·cases hc
       ·cases hc
      ·cases hc
     ·cases hc
    ·cases hc
   ·cases hc
 have hfr := hf himp;unfold opOwn at h;split at h
 ·rename_i v fl hs;split at h
  ·rename_i sz tg l;split at h
   ·rename_i id off;split at h
    ·rename_i i bl hH;split at h
     ·rename_i c0 hcells;obtain ⟨h1,h2⟩ := zai h;obtain ⟨p,hp,h3⟩ := za2 h2;obtain ⟨h4,h5⟩ := zai h3;simp only [Bool.and_eq_true] at h1 h4;obtain ⟨hid,hoff,hmem,hsz,hil⟩ := h1;obtain ⟨hip,hpl,hpk⟩ := h4;obtain rfl := beqN hid;obtain rfl := beqN hoff;have hsz : 0 < sz := by simpa [Nat.blt_eq] using hsz
      have hpl := beqN hpl;have hpk := Nat.ble_eq.mp hpk;have hmem := zbj.1 hmem;subst hb hF;obtain ⟨hrep,hfl⟩ := hg.slotv hs;have hself : S.H i = some bl := by rw [hH]; show getL [(i,bl)] i = _; unfold getL; rw [show Nat.beq i i = true from Nat.beq_refl i]
      obtain ⟨B0,hB0,hcell,hc0⟩ := hfl bl hself hmem;obtain ⟨B1,hB1,_,hfree⟩ := hg.h.blk i bl hself;obtain rfl := hg.inv.injh B1 B0 i hB1 hB0;have hown := hfree 0 hmem _ _ hcell hc0;have hlen : bl.cells.length = 1 := by rw [hcells]; rfl
      have C := hN.oc c.f c.b c.F hA c.gs sz l p hp hil hsz hip hpl hpk;clear hfl;generalize hev : a.eval (.tmp c.t) = u at hrep hcell hown;have hrun : (execOp a.eval o).run P w = .ok (.enter c.f (u :: c.gs.map fnV).toArray) w:=by
       obtain ⟨fn,fc,hfn,hb⟩ := C.fn;have hn := hN.n _ fn hfn;have hfv : a.eval (.func c.f) = .func (.func c.f) #[] #[] := rfl;have e1 : cc.args.map a.eval = (u :: c.gs.map fnV).toArray:=by
        apply Array.ext';rw [Array.toList_map,hargs,List.map_cons,hev,zig hgs]
       simp only [execOp,ho,resolve,hcal,hfv,Deferred.ofValue,invoke,callFunc,Sem.run_bind,Sem.run_pure,Result.andThen_ok,run_program,hfn,hb];simp [hn,e1]
      intro Q;unfold Oper.wp;rw [hrun,Oper.upon_enter];obtain ⟨q,cap,hu,hcap⟩ := zg6 hrep;by_cases hl : l = []
      ·subst hl;have hp2 : p.2 = [] := List.eq_nil_of_length_eq_zero hpl;have empty : ∀ (w' : World),Rep g w' u (.vs sz false []) := fun w'=>by
        rcases ze2 hrep with ⟨⟨q,rfl⟩,_⟩ | ⟨B,off,cp,vals,rfl,_,_,_,_,_⟩
        ·exact .vsnil _ _ _
        ·exact .vs B off cp sz false [] [] rfl (by simp) (by simp) (Nat.zero_le _) (by simp) (by simp)
       rw [show u = .slice q 0 cap from hu];refine (C.nil rfl w q cap).mono ?_;rintro e w' ⟨v,rfl,hw,hv⟩;have hown' : zas g w' (.h i 0) u (.vs sz false []):=by
        rcases hown with h | h | ⟨B,n,cp,us,e,h1,h2,h3,h4,h5,h6⟩
        ·exact .inl h
        ·exact .inr (.inl h)
        ·exact .inr (.inr ⟨B,n,cp,us,e,h1,h2,by rw [hw.old B (zdh h3) fun h=>h]; exact h3,h4,h5,h6⟩)
       have hrel := zv8 hg hfr (fun B h=>h.elim) hw hH hlen hB0 hcell (empty w') hown';rw [hp2] at h5;refine ⟨_,⟨g,hrel.putv (f := .no) (u := v) o.dst ?_ (fun _ _=>trivial) (by simp) (by simp)⟩,h5⟩;cases hcb : c.b with
       | true =>
        rw [hcb] at hv;have hv : v = .slice q 0 cap := hv;rw [show v = u from (hv.trans hu.symm),List.take_nil];exact empty w'
       | false =>
        rw [hcb] at hv;rw [show v = .tuple #[] from hv];exact .tuple [] [] rfl (by simp)
      ·have hlp : 0 < l.length := List.length_pos_iff.2 hl;obtain ⟨B,n,cp,us,e,hu2,hrole,hheap,hus,hncap,hpub⟩ : OwnB g w (.h i 0) sz u:=by
        rcases hown with h | ⟨ad,n,hz,h⟩ | h
        ·rw [hu] at h; injection h with _ h2 _; omega
        ·rcases hz with hz | hz
         ·cases hz
         ·rw [hu] at h; injection h with _ h2 _; omega
        ·exact h
       have hn : n = l.length := by rw [hu] at hu2; injection hu2 with _ h2 _; exact h2.symm
       subst hn;obtain ⟨i1,i2⟩ := zhw hil;have hvals : ∀ (j : Nat) (v : Value),((l.flatMap AV.cells).map ivV)[j]? = some v→us[j]? = some v:=by
        rcases ze2 hrep with ⟨_,h⟩ | ⟨B2,off,cp2,vals,h1,_,_,_,h2,h3⟩
        ·exact absurd h hl
        ·rw [hu2] at h1;injection h1 with e1 _ _;injection e1 with e1;injection e1 with e1 e2 _;subst e1 e2;intro j v hv;rw [List.getElem?_map] at hv;obtain ⟨x,hx,rfl⟩ := Option.map_eq_some_iff.1 hv;have hlt : j < vals.length := by rw [h3.1]; exact (List.getElem?_eq_some_iff.1 hx).1
         have h4 := h3.2 j _ x (List.getElem?_eq_getElem hlt) hx;have h5 := (h2 j _ (List.getElem?_eq_getElem hlt)).1;rw [zwt (i2 x (List.mem_of_getElem? hx)) h4,Nat.zero_add] at h5;simp only [World.cell?,hheap] at h5
         simpa using h5
       rw [hu2];refine (C.own hl w B cp us e hheap hus hncap hvals).mono ?_;rintro ex w' ⟨v,us',rfl,hw,hat,hsz',hv',hres⟩;have hX : ∀ B',B' = B→∃ q,g.role B' = .c q := fun B' h=>⟨.h i 0,by subst h; exact hrole⟩;have full := zry (g := g) (w := w') (k := l.length) hip hat hv' hpl (Nat.le_refl _) hncap hpub;rw [List.take_of_length_le (by rw [hpl]; exact Nat.le_refl _)] at full;have hrel := zv8 hg hfr hX hw hH hlen hB0 hcell (c' := .vs sz false p.2) (by rw [hu2]; exact full) (.inr (.inr ⟨B,l.length,cp,us',e,hu2,hrole,hat,by rw [hsz']; exact hus,hncap,hpub⟩));refine ⟨_,⟨g,hrel.putv (f := .no) (u := v) o.dst ?_ (fun _ _=>trivial) (by simp) (by simp)⟩,h5⟩;cases hcb : c.b with
       | true =>
        rw [hcb] at hres;obtain ⟨cap',rfl,hc'⟩ := hres;exact zry hip hat hv' hpl hpk hc' hpub
       | false =>
        rw [hcb] at hres;rw [show v = .tuple #[] from hres];exact .tuple [] [] rfl (by simp)
     ·cases h
    ·cases h
   ·cases h
  ·cases h
 ·cases h
end
end
section
section
variable {X : Nat→Prop} {g0 : G} {w0 : World} {Ex : Nat→Prop} {g g' : G} {S : St} {a : Act} {w w' : World} {P : Program} {R : Type} {r : R} {o : Oper} {A : List (Nat × Ann)} {cal : Oracle}
theorem ztw {α : Type} {xs : Array α} {x : α} (h : xs.toList = [x]) : xs = #[x]:=by
 apply Array.toList_inj.1; simpa using h
theorem zs9 {α : Type} {xs : Array α} {x y : α} (h : xs.toList = [x,y]) : xs = #[x,y]:=by
 apply Array.toList_inj.1; simpa using h
theorem zla {c : Call} {b : Builtin} {k : St→Option R} (ho : o.op = .call c) (hb : c.callee = .builtin b) (h : zbv P b o c.argTypes.toList c.args.toList S k = some r) (hg : Rel g0 w0 Ex g S a w) :
  zb3 P o a w g0 w0 Ex k r:=by
 obtain ⟨callee,args,tys⟩ := c;simp only at hb h;subst hb;unfold zbv at h;split at h
 ·split at h
  ·rename_i t x ht hx;obtain rfl := ztw ht;obtain rfl := ztw hx;obtain ⟨n,hrun,hk⟩ := zqi (ty := o.type) h (hg.evT (P := P) t x);exact .val hg (by simp only [execOp,ho,resolve,invoke,builtin,Sem.run_bind,Sem.run_pure,Result.andThen_ok,List.map_toArray,List.map_cons,List.map_nil,hrun]) (.int _ _) hk
  ·cases h
 ·split at h
  ·rename_i t t2 x y ht hx;obtain rfl := zs9 ht;obtain rfl := zs9 hx;exact znf ho h hg
  ·cases h
 ·split at h
  ·rename_i x l hx;obtain ⟨u',v,hrun,hrep,hk⟩ := ze4 (P := P) false hg l _ _ (hg.ev x) h;refine .val hg (u := u') ?_ hrep hk;have e : (args.map a.eval).toList = a.eval x :: l.map a.eval := by rw [Array.toList_map,hx]; rfl
   simp only [execOp,ho,resolve,invoke,builtin,Sem.run_bind,Sem.run_pure,Result.andThen_ok,Builtin.min_,e];rw [hrun];rfl
  ·cases h
 ·split at h
  ·rename_i x l hx;obtain ⟨u',v,hrun,hrep,hk⟩ := ze4 (P := P) true hg l _ _ (hg.ev x) h;refine .val hg (u := u') ?_ hrep hk;have e : (args.map a.eval).toList = a.eval x :: l.map a.eval := by rw [Array.toList_map,hx]; rfl
   simp only [execOp,ho,resolve,invoke,builtin,Sem.run_bind,Sem.run_pure,Result.andThen_ok,Builtin.max_,e];rw [hrun];rfl
  ·cases h
 ·cases h
theorem zd8 {an : Ann} {isRes : Nat→Bool} {k : St→Option R} (hN : zgg P A) (hcal : zcn P A cal) (hgl : zbn A g0 w0)
  (h : zaq P A an isRes cal o S k = some r) (hg : Rel g0 w0 Ex g S a w) : OpOk P o a w g0 w0 Ex k r:=by
 unfold zaq at h;cases ho : o.op <;> rw [ho] at h <;> simp only at h <;> try (cases h; done)
 case move x=>exact (zqx ho h hg).ok
 case assign x=>exact (zmv ho h hg).ok
 case pick c x y=>exact (zw3 ho h hg).ok
 case alloc e =>
  split at h
  ·rename_i z hz; exact (ztp ho hz h hg).ok
  ·cases h
 case box e x=>exact (box_step ho h hg).ok
 case makeInterface t x=>exact (zpw ho h hg).ok
 case makeMap t r =>
  split at h
  ·exact (zl9 ho h hg).ok
  ·cases h
 case insert t m key v =>
  split at h
  ·rename_i hd; exact (zf5 (.inl ho) hd h hg).ok
  ·cases h
 case mapUpdate t m key v =>
  split at h
  ·rename_i hd; exact (zf5 (.inr ho) hd h hg).ok
  ·cases h
 case lookup t x i ok=>exact (znn ho h hg).ok
 case build t parts=>exact (zpv ho h hg).ok
 case buildSlice t len parts=>exact (zhv ho h hg).ok
 case makeSlice t n c=>exact (zqq ho h hg).ok
 case load t x=>exact (zop ho (hgl.ext hg.fr.ext) h hg).ok
 case store t x y =>
  split at h
  ·rename_i hd; exact (zp2 ho hd h hg).ok
  ·cases h
 case nilCheck x=>exact (zka ho h hg).ok
 case binOp op t x y t2 =>
  obtain ⟨u,v,hrun,hrep,hk⟩ := zp5 (xo := x) (yo := y) h (hg.ev x) (hg.ev y);exact (zb3.val hg (by simp only [execOp,ho]; rw [Sem.run_bind,hrun]; rfl) hrep hk).ok
 case unOp op t x =>
  obtain ⟨u,v,hrun,hrep,hk⟩ := zte (P := P) h (hg.ev x);exact (zb3.val hg (by simp only [execOp,ho]; rw [Sem.run_bind,hrun]; rfl) hrep hk).ok
 case convert s d x=>exact (zld ho h hg).ok
 case slice t x lo hi mx=>exact (zoh ho h hg).ok
 case fieldAddr t x f=>exact (zj8 ho h hg).ok
 case field t x f =>
  obtain ⟨u,v,hrun,hrep,hk⟩ := znu h (hg.ev x);exact (zb3.val hg (by simp only [execOp,ho]; rw [Sem.run_bind,hrun]; rfl) hrep hk).ok
 case indexAddr t x i=>exact (zi6 ho (hgl.ext hg.fr.ext) h hg).ok
 case index t x i =>
  obtain ⟨u,v,hrun,hrep,hk⟩ := zni h (hg.ev x) (hg.ev i);exact (zb3.val hg (by simp only [execOp,ho]; rw [Sem.run_bind,hrun]; rfl) hrep hk).ok
 case extract x i=>exact (zl4 ho h hg).ok
 case call c =>
  split at h
  ·rename_i b hb; exact (zla ho hb h hg).ok
  ·rename_i fo hf; exact zwe hN hcal hgl ho hf h hg
  ·cases h
theorem guard?_some {v : AV} {kb : Bool→Option R} {ks : Option R} (h : v.guard? kb ks = some r) : (∃ b,v = .bool b∧kb b = some r) ∨ (v = .tuple []∧ks = some r):=by
 unfold AV.guard? at h;split at h
 ·exact .inl ⟨_,rfl,h⟩
 ·exact .inr ⟨rfl,h⟩
 ·cases h
theorem zku (all : Array Oper) (j : Nat) : zdd all.toList j = (all[j]?).bind (·.dst):=by
 have : ∀ (l : List Oper) (j : Nat),zdd l j = (l[j]?).bind (·.dst):=by
  intro l
  induction l with
  | nil=>intro j; simp [zdd]
  | cons x l ih=>intro j; cases j <;> simp [zdd,ih]
 rw [this]; simp
theorem Rel.lit (hg : Rel g0 w0 Ex g S a w) {d : Nat} {b : Bool} (hd : (S.slot d).av = .bool b) : Rel g0 w0 Ex g (S.put d (.val (.bool b) .no)) a w:=by
 cases hs : S.slot d with
 | und=>rw [hs] at hd; cases hd
 | lp e off=>rw [hs] at hd; cases hd
 | mp e=>rw [hs] at hd; cases hd
 | val v f =>
  rw [hs] at hd;have hv : v = .bool b := hd;subst hv;exact hg.reflag hs (f' := .no) trivial (by simp) (by simp)
theorem Rel.skip (hg : Rel g0 w0 Ex g S a w) (dst : Option Nat) : Rel g0 w0 Ex g (S.putd dst (.val (.tuple []) .no)) (a.put dst undef) w :=
 hg.putv (f := .no) dst (.tuple [] [] rfl (by simp)) (fun _ _=>trivial) (by simp) (by simp)
theorem zto {an : Ann} {isRes : Nat→Bool} {all : Array Oper} {k : St→Option R} (hN : zgg P A) (hcal : zcn P A cal) (hgl : zbn A g0 w0) (hf : an.imp = false→ziy g0 w0 Ex) {i : Nat} (hi : all[i]? = some o)
  (h : zcy P A an isRes cal all.toList [o] S k = some r) (hg : Rel g0 w0 Ex g S a w) (Q : Exit→Act→World→Prop) (K : Act→World→Prop)
  (hK : ∀ S' a' w',Good g0 w0 Ex S' a' w'→k S' = some r→K a' w') : wpOp P all Q i K a w:=by
 unfold wpOp;rw [hi];simp only;have run : ∀ {S1 : St},Rel g0 w0 Ex g S1 a w→(zaq P A an isRes cal o S1 fun S'=>zcy P A an isRes cal all.toList [] S' k) = some r→o.wp P a w K Q:=by
  intro S1 h1 h2;have := zd8 hN hcal hgl h2 h1 Q;exact Oper.wp_mono (fun a' w' ⟨S',hgd,hk⟩=>hK S' a' w' hgd hk) this
 unfold zcy at h;cases hgd : o.guard with
 | none =>
  rw [hgd] at h;simp only at h;rw [if_pos (by simp [Region.wanted,hgd])];split at h
  ·rename_i c hc;have := own_ok (r := r) hN hf hc h hg Q;exact .inl (Oper.wp_mono (fun a' w' ⟨S',hgd,hk⟩=>hK S' a' w' hgd hk) this)
  ·exact .inl (run hg h)
 | some jw =>
  obtain ⟨j,want⟩ := jw;rw [hgd] at h;simp only at h;cases hd : zdd all.toList j with
  | none=>rw [hd] at h; cases h
  | some d =>
   rw [hd] at h;simp only at h;have hd' := hd;rw [zku] at hd';have hev := hg.ev (.tmp d);have hy : ∀ v : Value,a.eval (.tmp d) = v→(∀ b,v = .bool b→yielded all a.tmps j = some b)∧((∀ b,v ≠ .bool b)→yielded all a.tmps j = none):=by
    intro v hv;have hv' : a.tmps.getD d undef = v := hv;rw [Array.getD_eq_getD_getElem?] at hv';unfold yielded;rw [hd'];simp only [obS];cases ht : a.tmps[d]? with
    | none =>
     rw [ht] at hv';refine ⟨fun b hb=>?_,fun _=>rfl⟩;subst hb;cases hv'
    | some u =>
     rw [ht] at hv';simp only [Option.getD_some] at hv';subst hv';refine ⟨fun b hb=>by subst hb; rfl,fun hn=>?_⟩;cases u <;> first | rfl | exact absurd rfl (hn _)
   rcases guard?_some h with ⟨b,hb,h2⟩ | ⟨hb,h2⟩
   ·have hrb : Rep g w (a.eval (.tmp d)) (.bool b):=by
     have : S.ev (.tmp d) = .bool b := hb;rw [← this]; exact hev
    have hvb := zc2 hrb;have hyb := (hy _ hvb).1 b rfl;have hlit := hg.lit hb;rcases zgs h2 with ⟨rfl,h3⟩ | ⟨rfl,h3⟩
    ·cases want with
     | true =>
      rw [if_pos (by simp [Region.wanted,hgd,hyb])];exact .inl (run hlit h3)
     | false =>
      rw [if_neg (by simp [Region.wanted,hgd,hyb])];exact hK _ _ _ ⟨g,hlit.skip o.dst⟩ h3
    ·cases want with
     | false =>
      rw [if_pos (by simp [Region.wanted,hgd,hyb])];exact .inl (run hlit h3)
     | true =>
      rw [if_neg (by simp [Region.wanted,hgd,hyb])];exact hK _ _ _ ⟨g,hlit.skip o.dst⟩ h3
   ·have hrb : Rep g w (a.eval (.tmp d)) (.tuple []):=by
     have : S.ev (.tmp d) = .tuple [] := hb;rw [← this]; exact hev
    obtain ⟨us,hvt,_⟩ := zjx hrb;have hyn := (hy _ hvt).2 (by simp);rw [if_neg (by simp [Region.wanted,hgd,hyn])];exact hK _ _ _ ⟨g,hg.skip o.dst⟩ h2
theorem zqc {an : Ann} {isRes : Nat→Bool} {all : List Oper} {os : List Oper} {k : St→Option R} :
  zcy P A an isRes cal all (o :: os) S k = zcy P A an isRes cal all [o] S fun S'=>zcy P A an isRes cal all os S' k:=by
 conv=>lhs; unfold zcy
 conv=>rhs; unfold zcy
 rfl
theorem ops_ok {an : Ann} {isRes : Nat→Bool} {all : Array Oper} {k : St→Option R} (hN : zgg P A) (hcal : zcn P A cal) (hgl : zbn A g0 w0) (hf : an.imp = false→ziy g0 w0 Ex) (Q : Exit→Act→World→Prop)
  (hQ : ∀ S' a' w',Good g0 w0 Ex S' a' w'→k S' = some r→Q .normal a' w') :
  ∀ (n i : Nat) (S : St) (a : Act) (w : World),n + i = all.size→zcy P A an isRes cal all.toList (all.toList.drop i) S k = some r→Good g0 w0 Ex S a w→wpOps P all Q ((List.range all.size).drop i) a w
 | 0,i,S,a,w,hi,h,hg=>by
  have e1 : all.toList.drop i = [] := List.drop_eq_nil_of_le (by rw [Array.length_toList]; omega);have e2 : (List.range all.size).drop i = [] := List.drop_eq_nil_of_le (by rw [List.length_range]; omega);rw [e1] at h;rw [e2];exact hQ S a w hg h
 | n + 1,i,S,a,w,hi,h,hg=>by
  have hlt : i < all.size := by omega
  have e1 : all.toList.drop i = all[i] :: all.toList.drop (i + 1):=by
   rw [List.drop_eq_getElem_cons (by rw [Array.length_toList]; exact hlt)]; simp
  have e2 : (List.range all.size).drop i = i :: (List.range all.size).drop (i + 1):=by
   rw [List.drop_eq_getElem_cons (by rw [List.length_range]; exact hlt)]; simp
  rw [e1,zqc] at h;rw [e2,wpOps_cons];obtain ⟨g,hg⟩ := hg;exact zto hN hcal hgl hf (by rw [Array.getElem?_eq_getElem hlt]) h hg Q _ fun S' a' w' hgd hk=>ops_ok hN hcal hgl hf Q hQ n (i + 1) S' a' w' (by omega) hk hgd
end
end
section
def Par {T : Type} (F : ∀ R : Type,(T→Option R)→Option R) : Prop := (∀ R k,F R k = none) ∨ ∃ v,∀ R k,F R k = k v
namespace Par
variable {T U : Type}
theorem none' : Par (T := T) fun _ _=>none := .inl fun _ _=>rfl
theorem ret (v : T) : Par fun _ k=>k v := .inr ⟨v,fun _ _=>rfl⟩
theorem br {b : Bool} {F G : ∀ R : Type,(T→Option R)→Option R} (h : b = true→Par F) (h2 : b = false→Par G) : Par fun R k=>Vai.br b (F R k) (G R k):=by
 cases b
 ·exact h2 rfl
 ·exact h rfl
theorem brn {b : Bool} {F : ∀ R : Type,(T→Option R)→Option R} (h : Par F) : Par fun R k=>Vai.br b (F R k) none := br (fun _=>h) fun _=>none'
theorem bind {A : Type} {o : Option A} {F : A→∀ R : Type,(T→Option R)→Option R} (h : ∀ a,Par (F a)) : Par fun R k=>o.bind fun a=>F a R k:=by
 cases o with
 | none=>exact none'
 | some a=>exact h a
theorem int? {v : AV} {F : IntKind→Int→∀ R : Type,(T→Option R)→Option R} (h : ∀ i n,Par (F i n)) : Par fun R k=>v.int? fun i n=>F i n R k:=by
 cases v <;> first | exact h _ _ | exact none'
theorem bool? {v : AV} {F : Bool→∀ R : Type,(T→Option R)→Option R} (h : ∀ b,Par (F b)) : Par fun R k=>v.bool? fun b=>F b R k:=by
 cases v <;> first | exact h _ | exact none'
theorem str? {v : AV} {F : List UInt8→∀ R : Type,(T→Option R)→Option R} (h : ∀ b,Par (F b)) : Par fun R k=>v.str? fun b=>F b R k:=by
 cases v <;> first | exact h _ | exact none'
theorem agg? {v : AV} {F : List AV→∀ R : Type,(T→Option R)→Option R} (h : ∀ b,Par (F b)) : Par fun R k=>v.agg? fun b=>F b R k:=by
 cases v <;> first | exact h _ | exact none'
theorem cells? {v : AV} {F : List AV→∀ R : Type,(T→Option R)→Option R} (h : ∀ b,Par (F b)) : Par fun R k=>v.cells? fun b=>F b R k:=by
 cases v <;> first | exact h _ | exact none'
theorem comp {F : ∀ R : Type,(T→Option R)→Option R} {G : T→∀ R : Type,(U→Option R)→Option R} (h : Par F) (h2 : ∀ v,Par (G v)) : Par fun R k=>F R fun v=>G v R k:=by
 rcases h with h | ⟨v,h⟩
 ·exact .inl fun R k=>h R _
 ·rcases h2 v with h2 | ⟨u,h2⟩
  ·exact .inl fun R k=>(h R _).trans (h2 R k)
  ·exact .inr ⟨u,fun R k=>(h R _).trans (h2 R k)⟩
end Par
section
variable {P : Program}
theorem zfa (t : TypeId) : Par fun _ k=>zht P t k:=by
 unfold zht;cases P.underlying t with
 | none=>exact Par.none'
 | some d=>cases d <;> exact Par.ret _
theorem zvx (op : BinOp) (i : IntKind) (a b : Int) : Par fun _ k=>zsy op i a b k:=by
 cases op <;> first | exact Par.ret _ | exact Par.none' | exact Par.br (fun _=>Par.none') fun _=>Par.ret _
theorem zvu (op : BinOp) (a b : List UInt8) : Par fun _ k=>opStr op a b k:=by
 cases op <;> first | exact Par.ret _ | exact Par.none' | exact Par.brn (Par.ret _)
theorem zv4 (op : BinOp) (x y : AV) : Par fun _ k=>opBin op x y k:=by
 cases x <;> first | exact Par.none' | skip
 ·rename_i i a;refine Par.int? fun j b=>?_;have d : Par fun _ k=>Vai.br (zdn i j) (zsy op i a b k) none := Par.brn (zvx op i a b);cases op <;> first | exact d | exact Par.br (fun _=>Par.none') fun _=>Par.ret _
 ·exact Par.str? fun b=>zvu op _ b
theorem zvq (x y : AV) : Par fun _ k=>eq1 x y k:=by
 cases x <;> first | exact Par.none' | skip
 ·exact Par.bool? fun b=>Par.ret _
 ·exact Par.int? fun j b=>Par.brn (Par.ret _)
 ·exact Par.str? fun b=>Par.ret _
theorem zl2 (x y : AV) : Par fun _ k=>zky P x y k:=by
 cases x <;> first | exact Par.none' | skip
 ·rename_i t v;cases y <;> first | exact Par.none' | exact Par.ret _ | skip
  exact Par.br (fun _=>Par.brn (zvq _ _)) fun _=>Par.ret _
 ·cases y <;> first | exact Par.none' | exact Par.ret _
theorem zsj (xs ys : List AV) : ∀ fs : List Field,Par fun _ k=>eqFs P xs ys fs k
 | []=>Par.ret _
 | f :: fs=>by
  refine Par.bind fun a=>Par.bind fun b=>Par.brn ?_;refine Par.comp (zvq a b) fun e=>?_;cases e
  ·exact Par.ret _
  ·exact zsj xs ys fs
theorem zjb (op : BinOp) (b : Bool) : Par fun _ k=>eqlK op b k:=by
 cases op <;> first | exact Par.none' | exact Par.ret _
theorem zsp (op : BinOp) (t : TypeId) (xc yc : Bool) (x y : AV) : Par fun _ k=>zdu P op t xc yc x y k:=by
 have d := zv4 op x y;cases x <;> first | exact d | skip
 ·refine Par.bool? fun b=>?_;cases P.underlying t with
  | none=>exact Par.none'
  | some dd=>cases dd <;> first | exact Par.none' | (cases op <;> first | exact Par.ret _ | exact Par.none')
 ·cases y <;> first | exact Par.none' | skip
  unfold zdu;simp only;cases P.underlying t with
  | none=>exact Par.none'
  | some dd=>cases dd <;> first | exact Par.none' | (cases op <;> first | exact Par.ret _ | exact Par.none')
 ·cases y <;> first | exact Par.none' | skip
  unfold zdu;simp only;cases P.underlying t with
  | none=>exact Par.none'
  | some dd=>cases dd <;> first | exact Par.none' | (cases op <;> first | exact Par.ret _ | exact Par.none')
 ·rename_i xs;refine Par.agg? fun ys=>?_;cases zf2 P t with
  | none=>exact Par.none'
  | some fs=>exact Par.brn (Par.comp (zsj xs ys fs) fun b=>zjb op b)
 ·unfold zdu;simp only;cases P.underlying t with
  | none=>exact Par.none'
  | some dd=>cases dd <;> first | exact Par.none' | exact Par.comp (zl2 _ _) fun b=>zjb op b
 ·unfold zdu;simp only;cases P.underlying t with
  | none=>exact Par.none'
  | some dd =>
   cases dd <;> first | exact Par.none' | skip
   cases y <;> first | exact Par.brn (zjb op true) | exact Par.comp (zl2 _ _) fun b=>zjb op b
theorem zqy (t : TypeId) (v : AV) : Par fun _ k=>zkz P t v k:=by
 unfold zkz;cases P.underlying t with
 | none=>exact Par.none'
 | some dd=>cases dd <;> first | exact Par.none' | exact Par.ret _
theorem par_opUn (op : UnOp) (x : AV) : Par fun _ k=>opUn op x k:=by
 cases op <;> first | exact Par.none' | exact Par.int? fun _ _=>Par.ret _ | exact Par.bool? fun _=>Par.ret _
theorem zi3 (ag : Bool) (sz : Nat) (cs : List AV) (off : Nat) : Par fun _ k=>zh4 ag sz cs off k:=by
 cases ag
 ·exact Par.bind (o := nth cs off) (F := fun a _ k=>k a) fun a=>Par.ret a
 ·exact Par.brn (Par.ret _)
theorem zq8 (t : TypeId) (x : AV) (fi : Nat) : Par fun _ k=>zkw P t x fi k:=by
 unfold zkw;cases zf2 P t with
 | none=>exact Par.none'
 | some fs =>
  simp only;cases fs[fi]? with
  | none=>exact Par.none'
  | some f=>exact Par.agg? fun cs=>Par.comp (zfa _) fun ag=>zi3 _ _ _ _
theorem zq1 (t : TypeId) (x ix : AV) : Par fun _ k=>znx P t x ix k:=by
 refine Par.int? fun _ i=>?_;cases P.underlying t with
 | none=>exact Par.none'
 | some d =>
  cases d <;> first | exact Par.none' | skip
  ·exact Par.str? fun s=>Par.brn (Par.bind fun b=>Par.ret _)
  ·exact Par.agg? fun cs=>Par.brn (Par.brn (Par.comp (zfa _) fun ag=>zi3 _ _ _ _))
theorem zh3 (place : Nat→Option (Nat × Nat)) : ∀ (l : List (Nat × AV)) (cells : List AV),Par fun _ k=>zor place cells l k
 | [],cells=>Par.ret _
 | (i,v) :: rest,cells=>by
  simp only [zor];cases place i with
  | none=>exact Par.none'
  | some x =>
   obtain ⟨off,size⟩ := x;exact Par.cells? fun cs=>Par.brn (Par.brn (zh3 place rest _))
theorem zol (v : AV) (y : Nat) : Par fun _ k=>v.bound? y k := Par.int? fun _ _=>Par.brn (Par.brn (Par.ret _))
theorem zi5 (mx : Bool) (S : St) : ∀ (l : List Operand) (x : AV),Par fun _ k=>zh0 mx P S x l k
 | [],_=>Par.ret _
 | _ :: l,_=>Par.int? fun _ _=>Par.int? fun _ _=>zi5 mx S l _
theorem zvr (t : TypeId) (v : AV) : Par fun _ k=>lenOf P t v k:=by
 unfold lenOf;cases P.underlying t with
 | none=>exact Par.none'
 | some d =>
  cases d <;> first | exact Par.none' | exact Par.ret _ | exact Par.str? fun _=>Par.ret _ | (cases v <;> first | exact Par.ret _ | exact Par.none')
structure Same (S S' : St) (l : List Nat) : Prop where
 slot : ∀ t ∈ l,(S'.slot t).bare = (S.slot t).bare
 L : ∀ t ∈ l,∀ d off,S.slot t = .lp d off→(getL S'.L d).map (·.cells) = (getL S.L d).map (·.cells)
 len : S'.sl.length = S.sl.length
def zco (S S' : St) : Prop := ∀ i,(S'.H i).map (·.cells) = (S.H i).map (·.cells)
theorem zco.of {S S' : St} (h : S'.H = S.H) : zco S S' := fun i=>by rw [h]
theorem zco.symm {S S' : St} (h : zco S S') : zco S' S := fun i=>(h i).symm
theorem zco.bind {S S' : St} {R : Type} (h : zco S S') (id : Nat) (F : List AV→Option R) : ((S'.H id).bind fun b=>F b.cells) = (S.H id).bind fun b=>F b.cells:=by
 have := h id;cases h1 : S.H id with
 | none =>
  rw [h1] at this;cases h2 : S'.H id with
  | none=>rfl
  | some b=>rw [h2] at this; cases this
 | some b =>
  rw [h1] at this;cases h2 : S'.H id with
  | none=>rw [h2] at this; cases this
  | some b' =>
   rw [h2] at this;have hc : b'.cells = b.cells := by simpa using this
   simp only [obS,hc]
theorem zmn (s : Slot) : s.bare.av = s.av := by cases s <;> rfl
theorem Same.ev {S S' : St} {l : List Nat} (h : Same S S' l) {x : Operand} (hx : ∀ t,x = .tmp t→t ∈ l) : S'.ev x = S.ev x:=by
 cases x with
 | tmp t =>
  show (S'.slot t).av = (S.slot t).av;rw [← zmn,h.slot t (hx t rfl),zmn]
 | _=>rfl
theorem Same.evT {S S' : St} {l : List Nat} (h : Same S S' l) {x : Operand} (hx : ∀ t,x = .tmp t→t ∈ l) (ty : TypeId) : evT P S' ty x = evT P S ty x:=by
 cases x with
 | tmp t=>exact h.ev hx
 | _=>rfl
theorem ziv {S S' : St} (len : Nat) (lo hi : Option Operand) (hlo : ∀ x,lo = some x→S'.ev x = S.ev x) (hhi : ∀ x,hi = some x→S'.ev x = S.ev x) :
  (Par fun _ (k : Nat × Nat→Option _)=>zbu S len lo hi fun l h=>k (l,h))∧∀ (R : Type) (k : Nat→Nat→Option R),zbu S' len lo hi k = zbu S len lo hi k:=by
 constructor
 ·have low : ∀ h,Par fun R (k : Nat × Nat→Option R)=>match lo with
    | some x=>(S.ev x).bound? h fun l=>k (l,h)
    | none=>k (0,h):=by
   intro h;cases lo with
   | none=>exact Par.ret _
   | some x=>exact Par.comp (zol _ _) fun l=>Par.ret (l,h)
  cases hi with
  | none=>exact low len
  | some x=>exact Par.comp (zol _ _) fun h=>low h
 ·intro R k;unfold zbu;cases lo with
  | none =>
   cases hi with
   | none=>rfl
   | some y=>simp only; rw [hhi y rfl]
  | some x =>
   cases hi with
   | none=>simp only; rw [hlo x rfl]
   | some y=>simp only; rw [hhi y rfl,hlo x rfl]
end
end
section
section
variable {P : Program} {A : List (Nat × Ann)} {an : Ann} {isRes : Nat→Bool} {cal : Oracle} {o : Oper} {S S' : St} {l : List Nat}
def Uni (P : Program) (A : List (Nat × Ann)) (an : Ann) (isRes : Nat→Bool) (cal : Oracle) (o : Oper) (S S' : St) : Prop :=
 (∀ (R : Type) (k : St→Option R),zaq P A an isRes cal o S k = none) ∨
 ∃ s,(∀ (R : Type) (k : St→Option R),zaq P A an isRes cal o S k = k (S.putd o.dst s))∧∀ (R : Type) (k : St→Option R),zaq P A an isRes cal o S' k = k (S'.putd o.dst s)
theorem Uni.of {T : Type} {F : ∀ R : Type,(T→Option R)→Option R} (hp : Par F) (mk : T→Slot) (h1 : ∀ (R : Type) (k : St→Option R),zaq P A an isRes cal o S k = F R fun v=>k (S.putd o.dst (mk v)))
  (h2 : ∀ (R : Type) (k : St→Option R),zaq P A an isRes cal o S' k = F R fun v=>k (S'.putd o.dst (mk v))) : Uni P A an isRes cal o S S':=by
 rcases hp with hp | ⟨v,hp⟩
 ·exact .inl fun R k=>(h1 R k).trans (hp R _)
 ·exact .inr ⟨mk v,fun R k=>(h1 R k).trans (hp R _),fun R k=>(h2 R k).trans (hp R _)⟩
theorem ze1 {s s' : Slot} (h : s'.bare = s.bare) {d off : Nat} (hs : s = .lp d off) : s' = .lp d off:=by
 subst hs; cases s' <;> simp [Slot.bare] at h ⊢ <;> exact h
theorem zd9 {s s' : Slot} (h : s'.bare = s.bare) {v : AV} {f : Fl} (hs : s = .val v f) : ∃ f',s' = .val v f':=by
 subst hs; cases s' <;> simp [Slot.bare] at h ⊢ <;> exact h
theorem zg3 {s s' : Slot} (h : s'.bare = s.bare) (hs : s = .und) : s' = .und:=by
 subst hs; cases s' <;> simp [Slot.bare] at h ⊢
theorem zgo (ag : Bool) (sz : Nat) (v : AV) : Par fun _ k=>zby ag sz v S k:=by
 cases v <;> first | exact Par.none' | skip
 ·rename_i s;unfold zby;simp only;cases Nat.beq sz 1 with
  | true=>exact Par.ret _
  | false=>exact Par.none'
 ·rename_i z tg l;unfold zby;simp only;cases Nat.beq z sz with
  | true=>exact Par.ret _
  | false=>cases l with
   | nil=>exact Par.ret _
   | cons _ _=>exact Par.none'
 ·rename_i id off len z;unfold zby;simp only;cases ag with
  | true=>exact Par.none'
  | false =>
   cases Nat.beq z sz with
   | false=>exact Par.none'
   | true=>cases Nat.beq sz 1 with
    | false=>exact Par.none'
    | true=>exact Par.bind fun b=>Par.brn (Par.ret _)
theorem zhi {R : Type} (ag : Bool) (sz : Nat) (v : AV) (k : List AV→Option R) (h : zco S S' ∨ ∀ id off len z,v ≠ .arr id off len z) : zby ag sz v S' k = zby ag sz v S k:=by
 cases v <;> first | rfl | skip
 rename_i id off len z;rcases h with h | h
 ·unfold zby;simp only;cases ag <;> cases Nat.beq z sz <;> cases Nat.beq sz 1 <;> first | rfl | exact h.bind id fun cs=>br (Nat.ble (off + len) cs.length) (k ((cs.drop off).take len)) none
 ·exact absurd rfl (h _ _ _ _)
theorem zeo (ty : Nat→TypeId) : ∀ (ps : List (Nat × Operand)),(∀ i x,(i,x) ∈ ps→∀ t,evT P S' t x = evT P S t x)→zd3 P S' ty ps = zd3 P S ty ps
 | [],_=>rfl
 | (i,x) :: l,h=>by
  simp only [zd3];rw [h i x mcS,zeo ty l fun i x hx=>h i x (mcM _ hx)]
theorem zfd {R : Type} (mx : Bool) : ∀ (l : List Operand) (x : AV) (k : AV→Option R),(∀ y ∈ l,S'.ev y = S.ev y)→zh0 mx P S' x l k = zh0 mx P S x l k
 | [],x,k,_=>rfl
 | y :: l,x,k,h=>by
  simp only [zh0];rw [h y mcS]
  congr 1; funext i a; congr 1; funext _ b
  exact zfd mx l _ _ fun y hy=>h y (mcM _ hy)
theorem zvj {op : BinOp} {t ty : TypeId} {x y : Operand} (ho : o.op = .binOp op t x y ty) (hx : S'.ev x = S.ev x) (hy : S'.ev y = S.ev y) : Uni P A an isRes cal o S S' :=
 .of (zsp (P := P) op t (zey x) (zey y) (S.ev x) (S.ev y)) (fun v=>.val v .no) (fun R k=>by simp only [zaq,ho]) (fun R k=>by simp only [zaq,ho,hx,hy])
theorem uni_unOp {op : UnOp} {t : TypeId} {x : Operand} (ho : o.op = .unOp op t x) (hx : S'.ev x = S.ev x) : Uni P A an isRes cal o S S' :=
 .of (par_opUn op (S.ev x)) (fun v=>.val v .no) (fun R k=>by simp only [zaq,ho]) (fun R k=>by simp only [zaq,ho,hx])
theorem zwb {t : TypeId} {x : Operand} (ho : o.op = .makeInterface t x) (hx : evT P S' t x = evT P S t x) : Uni P A an isRes cal o S S' :=
 .of (zqy (P := P) t (evT P S t x)) (fun v=>.val v .no) (fun R k=>by simp only [zaq,ho]) (fun R k=>by simp only [zaq,ho,hx])
theorem zid {s s' : Slot} (h : s'.bare = s.bare) {d : Nat} (hs : s = .mp d) : s' = .mp d:=by
 subst hs; cases s' <;> simp [Slot.bare] at h ⊢ <;> exact h
theorem uni_pick {c x y : Operand} (ho : o.op = .pick c x y) (hc : S'.ev c = S.ev c) (hx : S'.ev x = S.ev x) (hy : S'.ev y = S.ev y) : Uni P A an isRes cal o S S' :=
 .of (F := fun R k=>(S.ev c).bool? fun b=>br b (k (S.ev x)) (k (S.ev y))) (Par.bool? fun b=>Par.br (fun _=>Par.ret _) fun _=>Par.ret _) (fun v=>.val v .no) (fun R k=>by simp only [zaq,ho,zot]) (fun R k=>by simp only [zaq,ho,zot,hc,hx,hy])
theorem zui {t : TypeId} {x : Operand} {fi : Nat} (ho : o.op = .field t x fi) (hx : S'.ev x = S.ev x) : Uni P A an isRes cal o S S' :=
 .of (zq8 (P := P) t (S.ev x) fi) (fun v=>.val v .no) (fun R k=>by simp only [zaq,ho]) (fun R k=>by simp only [zaq,ho,hx])
theorem zvp {t : TypeId} {x y : Operand} (ho : o.op = .index t x y) (hx : S'.ev x = S.ev x) (hy : S'.ev y = S.ev y) : Uni P A an isRes cal o S S' :=
 .of (zq1 (P := P) t (S.ev x) (S.ev y)) (fun v=>.val v .no) (fun R k=>by simp only [zaq,ho]) (fun R k=>by simp only [zaq,ho,hx,hy])
theorem uni_move {x : Operand} (ho : o.op = .move x) (hx : ∀ t,x ≠ .tmp t) : Uni P A an isRes cal o S S':=by
 cases x with
 | tmp t=>exact absurd rfl (hx t)
 | const c=>exact .inr ⟨.val (zdp P o.type c) .no,fun R k=>by simp only [zaq,ho,zhm],fun R k=>by simp only [zaq,ho,zhm]⟩
 | func f=>exact .inr ⟨.val (.func f []) .no,fun R k=>by simp only [zaq,ho,zhm],fun R k=>by simp only [zaq,ho,zhm]⟩
 | global _=>exact .inl fun R k=>by simp only [zaq,ho,zhm]
theorem zp0 {x : Operand} (ho : o.op = .nilCheck x) (hx : ∀ t,x = .tmp t→(S'.slot t).bare = (S.slot t).bare) : Uni P A an isRes cal o S S':=by
 have e : ∀ (T : St) (R : Type) (k : St→Option R),zaq P A an isRes cal o T k = zb6 o x T k := fun T R k=>by simp only [zaq,ho]
 unfold Uni;simp only [e];cases x with
 | const c=>exact .inl fun R k=>rfl
 | global g=>exact .inl fun R k=>rfl
 | func f=>exact .inr ⟨.val (.func f []) .no,fun R k=>rfl,fun R k=>rfl⟩
 | tmp t =>
  have hb := hx t rfl;cases hs : S.slot t with
  | und=>exact .inl fun R k=>by simp only [zb6,hs]
  | lp d off =>
   have hs' := ze1 hb hs;exact .inr ⟨.lp d off,fun R k=>by simp only [zb6,hs],fun R k=>by simp only [zb6,hs']⟩
  | mp d=>exact .inl fun R k=>by simp only [zb6,hs]
  | val v f =>
   obtain ⟨f',hs'⟩ := zd9 hb hs;cases v with
   | ptr id off=>exact .inr ⟨.val (.ptr id off) .no,fun R k=>by simp only [zb6,hs],fun R k=>by simp only [zb6,hs']⟩
   | cptr cs=>exact .inr ⟨.val (.cptr cs) .no,fun R k=>by simp only [zb6,hs],fun R k=>by simp only [zb6,hs']⟩
   | func fn caps =>
    cases caps with
    | nil=>exact .inr ⟨.val (.func fn []) .no,fun R k=>by simp only [zb6,hs],fun R k=>by simp only [zb6,hs']⟩
    | cons _ _=>exact .inl fun R k=>by simp only [zb6,hs]
   | _=>exact .inl fun R k=>by simp only [zb6,hs]
theorem zn9 {ty : TypeId} {x : Operand} {fi : Nat} (ho : o.op = .fieldAddr ty x fi) (hx : ∀ t,x = .tmp t→(S'.slot t).bare = (S.slot t).bare) : Uni P A an isRes cal o S S':=by
 have e : ∀ (T : St) (R : Type) (k : St→Option R),zaq P A an isRes cal o T k = zdr P o ty x fi T k := fun T R k=>by simp only [zaq,ho]
 unfold Uni;simp only [e];unfold zdr;cases zf2 P ty with
 | none=>exact .inl fun R k=>rfl
 | some fs =>
  simp only;cases fs[fi]? with
  | none=>exact .inl fun R k=>rfl
  | some f =>
   simp only;cases Nat.beq (zaj P f.type) 0 with
   | true=>exact .inl fun R k=>rfl
   | false =>
    simp only;cases x with
    | const c=>exact .inl fun R k=>rfl
    | global g=>exact .inl fun R k=>rfl
    | func f=>exact .inl fun R k=>rfl
    | tmp t =>
     have hb := hx t rfl;simp only;cases hs : S.slot t with
     | und=>exact .inl fun R k=>rfl
     | lp d off =>
      rw [ze1 hb hs];exact .inr ⟨_,fun R k=>rfl,fun R k=>rfl⟩
     | mp d=>exact .inl fun R k=>rfl
     | val v fl =>
      obtain ⟨f',hs'⟩ := zd9 hb hs;rw [hs'];cases v with
      | ptr id off=>exact .inr ⟨_,fun R k=>rfl,fun R k=>rfl⟩
      | cptr cs=>exact .inr ⟨_,fun R k=>rfl,fun R k=>rfl⟩
      | _=>exact .inl fun R k=>rfl
def SameL (S S' : St) : Prop := ∀ d,(getL S'.L d).map (·.cells) = (getL S.L d).map (·.cells)
def Uni2 (P : Program) (A : List (Nat × Ann)) (an : Ann) (isRes : Nat→Bool) (cal : Oracle) (o : Oper) (S S' : St) : Prop :=
 (∀ (R : Type) (k : St→Option R),zaq P A an isRes cal o S k = none) ∨
 ∃ s s',(∀ (R : Type) (k : St→Option R),zaq P A an isRes cal o S k = k (S.putd o.dst s))∧(∀ (R : Type) (k : St→Option R),zaq P A an isRes cal o S' k = k (S'.putd o.dst s')) ∧
  s'.bare = s.bare∧(S'.L = S.L→S'.H = S.H→s' = s)
theorem Uni.two (h : Uni P A an isRes cal o S S') : Uni2 P A an isRes cal o S S':=by
 rcases h with h | ⟨s,h1,h2⟩
 ·exact .inl h
 ·exact .inr ⟨s,s,h1,h2,rfl,fun _ _=>rfl⟩
theorem uni_load {ty : TypeId} {x : Operand} (ho : o.op = .load ty x) (hx : ∀ t,x = .tmp t→(S'.slot t).bare = (S.slot t).bare) (hL : ∀ t,x = .tmp t→∀ d off,S.slot t = .lp d off→(getL S'.L d).map (·.cells) = (getL S.L d).map (·.cells)) (hH : zco S S' ∨ zeb o S = true) : Uni2 P A an isRes cal o S S':=by
 by_cases hgx : ∃ gi,x = .global gi
 ·obtain ⟨gi,rfl⟩ := hgx;exact (Uni.of (F := fun R k=>(zgk A gi).bind fun cs=>zht P ty fun ag=>zh4 ag (zaj P ty) cs 0 k) (Par.bind fun cs=>Par.comp (zfa ty) fun ag=>zi3 _ _ _ _) (fun v=>.val v .no) (fun R k=>by simp only [zaq,ho,zi2]) (fun R k=>by simp only [zaq,ho,zi2])).two
 have e : ∀ (T : St) (R : Type) (k : St→Option R),zaq P A an isRes cal o T k = zlw P o ty x T k := fun T R k=>by
  simp only [zaq,ho];cases x with
  | global gi=>exact absurd ⟨gi,rfl⟩ hgx
  | _=>rfl
 unfold Uni2;simp only [e];have get : ∀ (cells : List AV) (off : Nat),(∀ (f : Fl) (R : Type) (k : Slot→Option R),(zht P ty fun ag=>match ag with
   | true=>br (Nat.ble (off + zaj P ty) cells.length) (k (.val (.agg ((cells.drop off).take (zaj P ty))) .no)) none
   | false=>(nth cells off).bind fun c=>k (.val c f)) = none) ∨ ∃ c : AV,∃ ag : Bool,∀ (f : Fl) (R : Type) (k : Slot→Option R),(zht P ty fun ag=>match ag with
   | true=>br (Nat.ble (off + zaj P ty) cells.length) (k (.val (.agg ((cells.drop off).take (zaj P ty))) .no)) none
   | false=>(nth cells off).bind fun c=>k (.val c f)) = k (.val c (match ag with
    | true=>.no
    | false=>f)):=by
  intro cells off;rcases zfa (P := P) ty with h | ⟨ag,h⟩
  ·exact .inl fun f R k=>h R _
  ·cases ag with
   | false =>
    cases hn : nth cells off with
    | none=>exact .inl fun f R k=>(h R _).trans rfl
    | some c=>exact .inr ⟨c,false,fun f R k=>(h R _).trans rfl⟩
   | true =>
    cases hb : Nat.ble (off + zaj P ty) cells.length with
    | false=>exact .inl fun f R k=>(h R _).trans rfl
    | true=>exact .inr ⟨.agg ((cells.drop off).take (zaj P ty)),true,fun f R k=>(h R _).trans rfl⟩
 cases x with
 | const c=>exact .inl fun R k=>rfl
 | global g=>exact .inl fun R k=>rfl
 | func f=>exact .inl fun R k=>rfl
 | tmp t =>
  have hb := hx t rfl;unfold zlw;simp only;cases hs : S.slot t with
  | und=>exact .inl fun R k=>rfl
  | lp d off =>
   rw [ze1 hb hs];simp only;have hLd := hL t rfl d off hs;cases hL2 : getL S.L d with
   | none=>exact .inl fun R k=>rfl
   | some b =>
    rw [hL2] at hLd;cases hL3 : getL S'.L d with
    | none=>rw [hL3] at hLd; cases hLd
    | some b' =>
     rw [hL3] at hLd;have hcell : b'.cells = b.cells := by simpa using hLd
     rcases get b.cells off with hp | ⟨c,ag,hp⟩
     ·exact .inl fun R k=>hp _ R fun s=>k (S.putd o.dst s)
     ·refine .inr ⟨_,.val c (match (generalizing := false) ag with
       | true=>.no
       | false=>match memN off b'.free with
        | true=>.lL d off
        | false=>.no),fun R k=>hp _ R fun s=>k (S.putd o.dst s),fun R k=>?_,rfl,fun h1 h2=>?_⟩
      ·simp only [obS,hcell];exact hp _ R fun s=>k (S'.putd o.dst s)
      ·rw [h1,hL2] at hL3;injection hL3 with hL3;subst hL3;rfl
  | mp d=>exact .inl fun R k=>rfl
  | val v fl =>
   obtain ⟨f',hs'⟩ := zd9 hb hs;rw [hs'];have hH' : zco S S':=by
    rcases hH with h | h
    ·exact h
    ·simp only [zeb,ho,hs] at h; cases h
   cases v with
   | ptr id off =>
    have hb' := hH' id;simp only;cases hL2 : S.H id with
    | none=>exact .inl fun R k=>rfl
    | some b =>
     rw [hL2] at hb';cases hL3 : S'.H id with
     | none=>rw [hL3] at hb'; cases hb'
     | some b' =>
     rw [hL3] at hb';have hcell : b'.cells = b.cells := by simpa using hb'
     simp only [hL3,obS,hcell];rcases get b.cells off with hp | ⟨c,ag,hp⟩
     ·exact .inl fun R k=>hp _ R fun s=>k (S.putd o.dst s)
     ·exact .inr ⟨_,_,fun R k=>hp _ R fun s=>k (S.putd o.dst s),fun R k=>hp _ R fun s=>k (S'.putd o.dst s),rfl,fun _ _=>rfl⟩
   | cptr cs =>
    rcases get cs 0 with hp | ⟨c,ag,hp⟩
    ·exact .inl fun R k=>hp _ R fun s=>k (S.putd o.dst s)
    ·exact .inr ⟨_,_,fun R k=>hp _ R fun s=>k (S.putd o.dst s),fun R k=>hp _ R fun s=>k (S'.putd o.dst s),rfl,fun _ _=>rfl⟩
   | _=>exact .inl fun R k=>rfl
theorem zq7 {st dt : TypeId} {x : Operand} (ho : o.op = .convert st dt x) (hx : ∀ t,evT P S' t x = evT P S t x) (hH : zco S S' ∨ ∀ id off len z,evT P S st x ≠ .arr id off len z) : Uni P A an isRes cal o S S':=by
 have e : ∀ (T : St) (R : Type) (k : St→Option R),zaq P A an isRes cal o T k = zar P o st dt (evT P T st x) T k := fun T R k=>by simp only [zaq,ho]
 unfold Uni;simp only [e,hx];have fin : ∀ (F : ∀ R : Type,(AV→Option R)→Option R),Par F→(∀ (T : St),(T = S ∨ T = S')→∀ (R : Type) (k : St→Option R),zar P o st dt (evT P S st x) T k = F R fun v=>k (T.putd o.dst (.val v .no))) →
   (∀ (R : Type) (k : St→Option R),zar P o st dt (evT P S st x) S k = none) ∨ ∃ s,(∀ (R : Type) (k : St→Option R),zar P o st dt (evT P S st x) S k = k (S.putd o.dst s))∧∀ (R : Type) (k : St→Option R),zar P o st dt (evT P S st x) S' k = k (S'.putd o.dst s):=by
  intro F hp hF;rcases hp with hp | ⟨v,hp⟩
  ·exact .inl fun R k=>(hF S (.inl rfl) R k).trans (hp R _)
  ·exact .inr ⟨.val v .no,fun R k=>(hF S (.inl rfl) R k).trans (hp R _),fun R k=>(hF S' (.inr rfl) R k).trans (hp R _)⟩
 have dead : (∀ (T : St) (R : Type) (k : St→Option R),zar P o st dt (evT P S st x) T k = none)→(∀ (R : Type) (k : St→Option R),zar P o st dt (evT P S st x) S k = none) ∨ ∃ s,(∀ (R : Type) (k : St→Option R),zar P o st dt (evT P S st x) S k = k (S.putd o.dst s))∧∀ (R : Type) (k : St→Option R),zar P o st dt (evT P S st x) S' k = k (S'.putd o.dst s) := fun h=>.inl fun R k=>h S R k;cases h1 : P.underlying st with
 | none=>exact dead fun T R k=>by simp only [zar,h1]
 | some a =>
  cases h2 : P.underlying dt with
  | none=>exact dead fun T R k=>by unfold zar; rw [h1,h2]; cases a <;> rfl
  | some b =>
   cases a <;> first | (refine dead fun T R k=>?_; simp only [zar,h1,h2]; done) | skip
   ·cases b <;> first | (refine dead fun T R k=>?_; simp only [zar,h1,h2]; done) | skip
    rename_i i j;exact fin (fun R k=>(evT P S st x).int? fun _ n=>k (.int j (j.wrap n))) (Par.int? fun _ _=>Par.ret _) fun T _ R k=>by simp only [zar,h1,h2]
   ·cases b <;> first | (refine dead fun T R k=>?_; simp only [zar,h1,h2]; done) | skip
    ·exact fin (fun R k=>(evT P S st x).str? fun s=>k (.str s)) (Par.str? fun _=>Par.ret _) fun T _ R k=>by simp only [zar,h1,h2]
    ·rename_i e;cases h3 : P.underlying e with
     | none=>exact fin (fun R k=>(evT P S st x).str? fun s=>none) (Par.str? fun _=>Par.none') fun T _ R k=>by simp only [zar,h1,h2,h3]
     | some c =>
      cases c <;> first | (refine fin (fun R k=>(evT P S st x).str? fun s=>none) (Par.str? fun _=>Par.none') fun T _ R k=>?_; simp only [zar,h1,h2,h3]; done) | skip
      rename_i kk;cases kk <;> first | (refine fin (fun R k=>(evT P S st x).str? fun s=>none) (Par.str? fun _=>Par.none') fun T _ R k=>?_; simp only [zar,h1,h2,h3]; done) | skip
      cases h4 : Nat.beq (zaj P e) 1 with
      | false=>exact fin (fun R k=>(evT P S st x).str? fun s=>none) (Par.str? fun _=>Par.none') fun T _ R k=>by simp only [zar,h1,h2,h3,h4]
      | true=>exact fin (fun R k=>(evT P S st x).str? fun s=>k (.vs 1 false (s.map zbq))) (Par.str? fun _=>Par.ret _) fun T _ R k=>by simp only [zar,h1,h2,h3,h4]
   ·rename_i e;cases b <;> first | (refine dead fun T R k=>?_; simp only [zar,h1,h2]; done) | skip
    cases h3 : P.underlying e with
    | none=>exact dead fun T R k=>by simp only [zar,h1,h2,h3]
    | some c =>
     cases c <;> first | (refine dead fun T R k=>?_; simp only [zar,h1,h2,h3]; done) | skip
     rename_i kk;cases kk <;> first | (refine dead fun T R k=>?_; simp only [zar,h1,h2,h3]; done) | skip
     have hh : ∀ (T : St),(T = S ∨ T = S')→∀ (R : Type) (k : List AV→Option R),zby false 1 (evT P S st x) T k = zby false 1 (evT P S st x) S k:=by
      rintro T (rfl | rfl) R k
      ·rfl
      ·exact zhi _ _ _ _ hH
     by_cases hstr : ∃ s,evT P S st x = .str s
     ·obtain ⟨s,hs⟩ := hstr;exact dead fun T R k=>by simp only [zar,h1,h2,h3,hs]
     ·refine fin (fun R k=>zby false 1 (evT P S st x) S fun l=>(zbz l).bind fun s=>k (.str s)) (Par.comp (zgo _ _ _) fun l=>Par.bind fun s=>Par.ret _) fun T hT R k=>?_;rw [← hh T hT];simp only [zar,h1,h2,h3];cases hv : evT P S st x with
      | str s=>exact absurd ⟨s,hv⟩ hstr
      | _=>rfl
theorem zpn {T : Type} {len : Nat} {lo hi : Option Operand} {G : Nat→Nat→∀ R : Type,(T→Option R)→Option R} (h : ∀ l hh,Par (G l hh)) : Par fun R k=>zbu S len lo hi fun l hh=>G l hh R k :=
 Par.comp (F := fun R (k : Nat × Nat→Option R)=>zbu S len lo hi fun l h=>k (l,h)) (G := fun p R k=>G p.1 p.2 R k) (ziv (S := S) (S' := S) len lo hi (fun _ _=>rfl) (fun _ _=>rfl)).1 fun p=>h p.1 p.2
theorem zpx (t : TypeId) (x : Operand) (lo hi mx : Option Operand) : Par fun _ k=>zh1 P t x lo hi mx S k:=by
 unfold zh1;cases P.underlying t with
 | none=>exact Par.none'
 | some a =>
  cases a with
  | string =>
   cases mx with
   | some m=>exact Par.none'
   | none=>exact Par.str? fun s=>zpn fun l h=>Par.ret _
  | slice el =>
   simp only;cases Nat.beq (zaj P el) 0 with
   | true=>exact Par.none'
   | false =>
    simp only;cases S.ev x with
    | vs z tg v =>
     simp only;cases Nat.beq z (zaj P el) with
     | false=>exact Par.none'
     | true =>
      cases mx with
      | none=>exact zpn fun l h=>Par.ret _
      | some m =>
       cases hi with
       | none=>exact Par.none'
       | some hh=>exact zpn fun l h=>Par.int? fun _ j=>Par.brn (Par.ret _)
    | arr id off len z =>
     simp only;cases Nat.beq z (zaj P el) with
     | false=>exact Par.none'
     | true =>
      cases mx with
      | none=>exact zpn fun l h=>Par.br (fun _=>Par.ret _) fun _=>Par.ret _
      | some m =>
       cases hi with
       | none=>exact Par.none'
       | some hh=>exact zpn fun l h=>Par.int? fun _ j=>Par.brn (Par.br (fun _=>Par.ret _) fun _=>Par.ret _)
    | _=>exact Par.none'
  | _=>exact Par.none'
theorem zuk {ty : TypeId} {x : Operand} {lo hi mx : Option Operand} (ho : o.op = .slice ty x lo hi mx) (hx : S'.ev x = S.ev x) (hlo : ∀ y,lo = some y→S'.ev y = S.ev y) (hhi : ∀ y,hi = some y→S'.ev y = S.ev y) (hmx : ∀ y,mx = some y→S'.ev y = S.ev y) : Uni P A an isRes cal o S S':=by
 refine .of (zpx (P := P) (S := S) ty x lo hi mx) (fun v=>.val v .no) (fun R k=>by simp only [zaq,ho,zl0]) (fun R k=>?_);have hb : ∀ (len : Nat) (R : Type) (k : Nat→Nat→Option R),zbu S' len lo hi k = zbu S len lo hi k := fun len R k=>(ziv len lo hi hlo hhi).2 R k;simp only [zaq,ho,zl0];unfold zh1;cases mx with
 | none=>simp only [hx,hb]
 | some m=>simp only [hx,hb,hmx m rfl]
theorem zng {ty : TypeId} {x ix : Operand} (ho : o.op = .indexAddr ty x ix) (hx : ∀ t,x = .tmp t→(S'.slot t).bare = (S.slot t).bare) (hev : S'.ev x = S.ev x) (hix : S'.ev ix = S.ev ix) : Uni P A an isRes cal o S S':=by
 by_cases hgx : ∃ gi,x = .global gi
 ·obtain ⟨gi,rfl⟩ := hgx;refine Uni.of (F := fun R k=>(zgk A gi).bind fun cs=>(S.ev ix).int? fun _ i=>idxG P ty cs i k) (Par.bind fun cs=>Par.int? fun _ i=>?_) (fun v=>.val v .no) (fun R k=>by simp only [zaq,ho,zdb]) (fun R k=>by simp only [zaq,ho,zdb,hix]);unfold idxG;cases P.underlying ty with
  | none=>exact Par.none'
  | some dd =>
   cases dd <;> first | exact Par.none' | skip
   rename_i len el;simp only;cases Nat.beq (zaj P el) 0 with
   | true=>exact Par.none'
   | false=>exact Par.brn (Par.brn (Par.brn (Par.ret _)))
 have e : ∀ (T : St) (R : Type) (k : St→Option R),zaq P A an isRes cal o T k = zdw P o ty x ix T k := fun T R k=>by
  simp only [zaq,ho];cases x with
  | global gi=>exact absurd ⟨gi,rfl⟩ hgx
  | _=>rfl
 unfold Uni;simp only [e];unfold zdw;rw [hix,hev];have fin : ∀ (F : ∀ R : Type,(Slot→Option R)→Option R),Par F→(∀ R (k : St→Option R),(F R fun s=>k (S.putd o.dst s)) = none) ∨ ∃ s,(∀ R (k : St→Option R),(F R fun s=>k (S.putd o.dst s)) = k (S.putd o.dst s))∧∀ R (k : St→Option R),(F R fun s=>k (S'.putd o.dst s)) = k (S'.putd o.dst s):=by
  intro F hp;rcases hp with hp | ⟨v,hp⟩
  ·exact .inl fun R k=>hp R _
  ·exact .inr ⟨v,fun R k=>hp R _,fun R k=>hp R _⟩
 cases hi : S.ev ix with
 | int kk i =>
  simp only [AV.int?];cases P.underlying ty with
  | none=>exact .inl fun R k=>rfl
  | some a =>
   cases a with
   | slice el =>
    simp only;cases Nat.beq (zaj P el) 0 with
    | true=>exact .inl fun R k=>rfl
    | false =>
     simp only;cases S.ev x with
     | vs z tg l =>
      simp only;cases Nat.beq z (zaj P el) with
      | false=>exact .inl fun R k=>rfl
      | true=>exact fin (fun R k=>br (decide (0 ≤ i)) (br (decide (i < (l.length : Int))) ((nth l i.toNat).bind fun c=>k (.val (.cptr c.cells) .no)) none) none) (Par.brn (Par.brn (Par.bind fun c=>Par.ret (Slot.val (.cptr c.cells) .no))))
     | arr id off len z =>
      simp only;cases Nat.beq z (zaj P el) with
      | false=>exact .inl fun R k=>rfl
      | true=>exact fin (fun R k=>br (decide (0 ≤ i)) (br (decide (i < (len : Int))) (k (.val (.ptr id (off + i.toNat * z)) .no)) none) none) (Par.brn (Par.brn (Par.ret _)))
     | _=>exact .inl fun R k=>rfl
   | array len el =>
    simp only;cases x with
    | tmp tx =>
     have hb := hx tx rfl;simp only;cases Nat.beq (zaj P el) 0 with
     | true=>exact .inl fun R k=>rfl
     | false =>
      simp only;cases hs : S.slot tx with
      | und=>exact .inl fun R k=>rfl
      | lp d off =>
       rw [ze1 hb hs];exact fin (fun R k=>br (decide (0 ≤ i)) (br (decide (i < (len : Int))) (k (.lp d (off + i.toNat * zaj P el))) none) none) (Par.brn (Par.brn (Par.ret _)))
      | mp d=>exact .inl fun R k=>rfl
      | val v f =>
       obtain ⟨f',hs'⟩ := zd9 hb hs;rw [hs'];cases v with
       | ptr id off=>exact fin (fun R k=>br (decide (0 ≤ i)) (br (decide (i < (len : Int))) (k (.val (.ptr id (off + i.toNat * zaj P el)) .no)) none) none) (Par.brn (Par.brn (Par.ret _)))
       | _=>exact .inl fun R k=>rfl
    | _=>exact .inl fun R k=>rfl
   | _=>exact .inl fun R k=>rfl
 | _=>exact .inl fun R k=>rfl
theorem zqd (t : TypeId) (parts : List (Nat × Operand)) : Par fun _ k=>zi9 P t parts S k:=by
 unfold zi9;cases zeroCells P t with
 | none=>exact Par.none'
 | some z =>
  simp only;cases P.underlying t with
  | none=>exact Par.none'
  | some d =>
   cases d with
   | struct fs =>
    simp only;cases zg2 P fs.toList with
    | none=>exact Par.none'
    | some pl=>exact Par.comp (zh3 _ _ _) fun cs=>Par.ret _
   | array n e =>
    simp only;cases P.info? e with
    | none=>exact Par.none'
    | some ie=>exact Par.comp (zh3 _ _ _) fun cs=>Par.ret _
   | _=>exact Par.none'
theorem zj9 (t : TypeId) (len : Nat) (parts : List (Nat × Operand)) : Par fun _ k=>zck P t len parts S k:=by
 unfold zck;cases zj7 P t with
 | none=>exact Par.none'
 | some e =>
  simp only;cases zeroCells P e with
  | none=>exact Par.none'
  | some z =>
   simp only;cases Nat.beq (zaj P e) 0 with
   | true=>exact Par.none'
   | false =>
    cases Nat.ble (len * zaj P e) 16777216 with
    | false=>exact Par.none'
    | true =>
     cases Nat.beq z.length (zaj P e) with
     | false=>exact Par.none'
     | true =>
      cases (tAgg P e || Nat.beq (zaj P e) 1) with
      | false=>exact Par.none'
      | true=>exact Par.comp (zh3 _ _ _) fun cs=>Par.ret _
theorem zuc {t : TypeId} {parts : Array (Nat × Operand)} (ho : o.op = .build t parts) (hx : ∀ i x,(i,x) ∈ parts.toList→∀ t,evT P S' t x = evT P S t x) : Uni P A an isRes cal o S S':=by
 refine .of (zqd (P := P) (S := S) t parts.toList) (fun v=>.val v .no) (fun R k=>by simp only [zaq,ho]) (fun R k=>?_);simp only [zaq,ho,zi9];simp only [zeo (P := P) (S := S) (S' := S') _ parts.toList hx]
theorem zl8 {t : TypeId} {n : Nat} {parts : Array (Nat × Operand)} (ho : o.op = .buildSlice t n parts) (hx : ∀ i x,(i,x) ∈ parts.toList→∀ t,evT P S' t x = evT P S t x) : Uni P A an isRes cal o S S':=by
 refine .of (zj9 (P := P) (S := S) t n parts.toList) (fun v=>.val v .no) (fun R k=>by simp only [zaq,ho]) (fun R k=>?_);simp only [zaq,ho,zck];simp only [zeo (P := P) (S := S) (S' := S') _ parts.toList hx]
end
end
section
section
variable {eb ebj ebi : Bool} {P : Program} {A : List (Nat × Ann)} {an : Ann} {isRes : Nat→Bool} {cal : Oracle} {o : Oper} {S S' : St} {l : List Nat}
theorem look_mem {ops : Array Oper} {t : Nat} (h : Operand.tmp t ∈ o.op.operands) : t ∈ o.looksAt ops :=
 List.mem_append_left _ (List.mem_filterMap.2 ⟨.tmp t,by simpa using h,rfl⟩)
theorem zpr {sz : Nat} {c : Value} {id off len z : Nat} (h : zdj sz c = .arr id off len z) : False:=by
 unfold zdj at h;split at h <;> first | cases h | (split at h <;> cases h)
theorem zqp {t : TypeId} {c : Value} {id off len z : Nat} (h : zdp P t c = .arr id off len z) : False:=by
 unfold zdp at h;split at h
 ·split at h <;> cases h
 ·exact zpr h
theorem uni1 (hcl : clOf A eb o = 1) (hl : ∀ t,Operand.tmp t ∈ o.op.operands→t ∈ l) (hs : Same S S' l) (hH : zco S S' ∨ zeb o S = true) : Uni2 P A an isRes cal o S S':=by
 have ev : ∀ x,x ∈ o.op.operands→S'.ev x = S.ev x := fun x hx=>hs.ev fun t ht=>hl t (ht ▸ hx);have evT' : ∀ x,x ∈ o.op.operands→∀ ty,evT P S' ty x = evT P S ty x := fun x hx ty=>hs.evT (fun t ht=>hl t (ht ▸ hx)) ty;have sl : ∀ x,x ∈ o.op.operands→∀ t,x = .tmp t→(S'.slot t).bare = (S.slot t).bare := fun x hx t ht=>hs.slot t (hl t (ht ▸ hx));cases hop : o.op with
 | move x =>
  refine (uni_move hop fun t ht=>?_).two;subst ht;simp [clOf,hop] at hcl
 | pick c x y =>
  rw [hop] at ev;exact (uni_pick hop (ev c (by simp [Op.operands])) (ev x (by simp [Op.operands])) (ev y (by simp [Op.operands]))).two
 | binOp op t x y ty =>
  rw [hop] at ev;exact (zvj hop (ev x (by simp [Op.operands])) (ev y (by simp [Op.operands]))).two
 | makeInterface t x =>
  rw [hop] at evT';exact (zwb hop (evT' x (by simp [Op.operands]) t)).two
 | unOp op t x =>
  rw [hop] at ev;exact (uni_unOp hop (ev x (by simp [Op.operands]))).two
 | convert st dt x =>
  rw [hop] at evT' sl;refine (zq7 hop (evT' x (by simp [Op.operands])) ?_).two;rcases hH with h | h
  ·exact .inl h
  ·refine .inr fun id off len z he=>?_;cases x with
   | tmp t =>
    have he' : (S.slot t).av = .arr id off len z := he;cases hst : S.slot t with
    | val v f =>
     rw [hst] at he';have : v = .arr id off len z := he';subst this;simp [zeb,hop,hst] at h
    | _=>rw [hst] at he'; cases he'
   | const c =>
    exact zqp (P := P) he
   | func f=>cases he
   | global g=>cases he
 | slice t x lo hi mx =>
  rw [hop] at ev;exact (zuk hop (ev x (by simp [Op.operands])) (fun y hy=>ev y (by subst hy; simp [Op.operands])) (fun y hy=>ev y (by subst hy; simp [Op.operands])) (fun y hy=>ev y (by subst hy; simp [Op.operands]))).two
 | field t x fi =>
  rw [hop] at ev;exact (zui hop (ev x (by simp [Op.operands]))).two
 | fieldAddr t x fi =>
  rw [hop] at sl;exact (zn9 hop (sl x (by simp [Op.operands]))).two
 | nilCheck x =>
  rw [hop] at sl;exact (zp0 hop (sl x (by simp [Op.operands]))).two
 | index t x y =>
  rw [hop] at ev;exact (zvp hop (ev x (by simp [Op.operands])) (ev y (by simp [Op.operands]))).two
 | indexAddr t x y =>
  rw [hop] at ev sl;exact (zng hop (sl x (by simp [Op.operands])) (ev x (by simp [Op.operands])) (ev y (by simp [Op.operands]))).two
 | load t x =>
  rw [hop] at sl;exact uni_load hop (sl x (by simp [Op.operands])) (fun t ht=>hs.L t (hl t (by rw [hop,← ht]; simp [Op.operands]))) hH
 | build t ps =>
  rw [hop] at evT';exact (zuc hop fun i x hx=>evT' x (by simp [Op.operands]; exact ⟨i,by simpa using hx⟩)).two
 | buildSlice t n ps =>
  rw [hop] at evT';exact (zl8 hop fun i x hx=>evT' x (by simp [Op.operands]; exact ⟨i,by simpa using hx⟩)).two
 | call c =>
  rw [hop] at ev evT';obtain ⟨callee,args,tys⟩ := c;cases callee with
  | builtin b =>
   cases b with
   | len =>
    have e : ∀ (T : St) (R : Type) (k : St→Option R),zaq P A an isRes cal o T k = zbv P .len o tys.toList args.toList T k := fun T R k=>by simp only [zaq,hop]
    unfold Uni2;simp only [e,zbv]
    match hty : tys.toList,har : args.toList with
    | [t],[x] =>
     have hx : x ∈ (Op.call { callee := .builtin .len,args := args,argTypes := tys }).operands:=by
      have : x ∈ args := by rw [← Array.mem_toList_iff,har]; simp
      simp [Op.operands,Call.operands,this]
     simp only [evT' x hx t];rcases zvr (P := P) t (evT P S t x) with h | ⟨n,h⟩
     ·exact .inl fun R k=>h R _
     ·exact .inr ⟨_,_,fun R k=>h R fun n=>k (S.putd o.dst (.val (.int .i64 (n : Int)) .no)),fun R k=>h R fun n=>k (S'.putd o.dst (.val (.int .i64 (n : Int)) .no)),rfl,fun _ _=>rfl⟩
    | [],_=>exact .inl fun R k=>rfl
    | [_],[]=>exact .inl fun R k=>rfl
    | [_],_ :: _ :: _=>exact .inl fun R k=>rfl
    | _ :: _ :: _,_=>exact .inl fun R k=>rfl
   | min =>
    have e : ∀ (T : St) (R : Type) (k : St→Option R),zaq P A an isRes cal o T k = zbv P .min o tys.toList args.toList T k := fun T R k=>by simp only [zaq,hop]
    unfold Uni2;simp only [e,zbv]
    match har : args.toList with
    | []=>exact .inl fun R k=>rfl
    | x :: l =>
     have hm : ∀ y,y ∈ x :: l→S'.ev y = S.ev y := fun y hy=>ev y (by
      have : y ∈ args := by rw [← Array.mem_toList_iff,har]; exact hy
      simp [Op.operands,Call.operands,this])
     simp only [hm x mcS,zfd (P := P) false l _ _ fun y hy=>hm y (mcM _ hy)];rcases zi5 (P := P) false S l (S.ev x) with h | ⟨n,h⟩
     ·exact .inl fun R k=>h R _
     ·exact .inr ⟨_,_,fun R k=>h R fun n=>k (S.putd o.dst (.val n .no)),fun R k=>h R fun n=>k (S'.putd o.dst (.val n .no)),rfl,fun _ _=>rfl⟩
   | max =>
    have e : ∀ (T : St) (R : Type) (k : St→Option R),zaq P A an isRes cal o T k = zbv P .max o tys.toList args.toList T k := fun T R k=>by simp only [zaq,hop]
    unfold Uni2;simp only [e,zbv]
    match har : args.toList with
    | []=>exact .inl fun R k=>rfl
    | x :: l =>
     have hm : ∀ y,y ∈ x :: l→S'.ev y = S.ev y := fun y hy=>ev y (by
      have : y ∈ args := by rw [← Array.mem_toList_iff,har]; exact hy
      simp [Op.operands,Call.operands,this])
     simp only [hm x mcS,zfd (P := P) true l _ _ fun y hy=>hm y (mcM _ hy)];rcases zi5 (P := P) true S l (S.ev x) with h | ⟨n,h⟩
     ·exact .inl fun R k=>h R _
     ·exact .inr ⟨_,_,fun R k=>h R fun n=>k (S.putd o.dst (.val n .no)),fun R k=>h R fun n=>k (S'.putd o.dst (.val n .no)),rfl,fun _ _=>rfl⟩
   | append =>
    exfalso;simp only [clOf,hop] at hcl
    repeat' split at hcl
    all_goals cases hcl
   | _=>simp [clOf,hop] at hcl
  | value f =>
   exfalso;cases f with
   | func g =>
    simp only [clOf,hop] at hcl
    repeat' split at hcl
    all_goals cases hcl
   | _=>simp [clOf,hop] at hcl
  | invoke _ _=>simp [clOf,hop] at hcl
 | extract _ _=>simp only [clOf,hop] at hcl; split at hcl <;> cases hcl
 | alloc _ =>
  simp only [clOf,hop] at hcl;split at hcl <;> cases hcl
 | _=>simp [clOf,hop] at hcl
end
end
section
section
variable {g0 : G} {w0 : World} {Ex : Nat→Prop} {g g' : G} {S : St} {a : Act} {w w' : World} {P : Program} {R : Type} {r : R} {o : Oper} {A : List (Nat × Ann)} {cal : Oracle}
theorem Rel.reslot {S' : St} (h : Rel g0 w0 Ex g S a w) (hL : S'.L = S.L) (hM : S'.M = S.M) (hH : S'.H = S.H) (hnx : S'.nx = S.nx) (hlen : S'.sl.length = S.sl.length)
  (hs : ∀ t,S'.slot t = S.slot t ∨ S'.slot t = .und ∨ ∃ v,S'.slot t = .val v .no∧Rep g w (a.tmps.getD t undef) v) : Rel g0 w0 Ex g S' a w:=by
 refine ⟨h.inv,by rw [hH,hnx]; exact h.h,by rw [hL]; exact h.l,by rw [hM]; exact h.m,by rw [hlen]; exact h.len,fun t=>?_,h.fr,h.nodef⟩;have key : ∀ q v' fq,Fl.claim fq = true→S'.slot q = .val v' fq→S.slot q = .val v' fq:=by
  intro q v' fq hcq hq;rcases hs q with h1 | h1 | ⟨v,h1,_⟩
  ·rw [← h1]; exact hq
  ·rw [h1] at hq; cases hq
  ·rw [h1] at hq; injection hq with _ e; subst e; cases hcq
 rcases hs t with h1 | h1 | ⟨v,h1,h2⟩
 ·rw [h1];have h3 := h.sl t;cases hst : S.slot t with
  | und=>trivial
  | lp d off=>rw [hst] at h3; exact h3
  | mp d=>rw [hst] at h3; exact h3
  | val v f =>
   rw [hst] at h3;refine ⟨h3.1,?_⟩;cases f with
   | no=>trivial
   | own=>exact h3.2
   | ownS=>exact h3.2
   | lS q=>exact fun v' fq hcq hq=>h3.2 v' fq hcq (key q v' fq hcq hq)
   | lL d off=>exact fun b hb hoff=>h3.2 b (by rw [← hL]; exact hb) hoff
   | lH id off=>exact fun b hb hoff=>h3.2 b (by rw [← hH]; exact hb) hoff
   | comps cs=>exact h3.2
 ·rw [h1]; trivial
 ·rw [h1]; exact ⟨h2,trivial⟩
theorem Rel.put_und (h : Rel g0 w0 Ex g S a w) {d : Nat} (hd : S.slot d = .und) (u : Value) : Rel g0 w0 Ex g S (a.put (some d) u) w:=by
 refine ⟨h.inv,h.h,h.l,h.m,by rw [zjj]; exact h.len,fun t=>?_,h.fr,by rw [zdq]; exact h.nodef⟩;have hs := h.sl t;have key : ∀ q,S.slot q ≠ .und→(a.put (some d) u).tmps.getD q undef = a.tmps.getD q undef:=by
  intro q hq;rw [zcg,if_neg];rintro ⟨rfl,_⟩;exact hq hd
 cases hst : S.slot t with
 | und=>trivial
 | lp e off =>
  rw [hst] at hs;obtain ⟨B,h1,h2⟩ := hs;exact ⟨B,h1,by rw [key t (by rw [hst]; simp)]; exact h2⟩
 | mp e =>
  rw [hst] at hs;obtain ⟨B,h1,h2⟩ := hs;exact ⟨B,h1,by rw [key t (by rw [hst]; simp)]; exact h2⟩
 | val v f =>
  rw [hst] at hs;have e := key t (by rw [hst]; simp);refine ⟨by rw [e]; exact hs.1,?_⟩;rw [e];cases f with
  | lS q =>
   intro v' fq hcq hq;rw [key q (by rw [hq]; simp)];exact hs.2 v' fq hcq hq
  | _=>exact hs.2
theorem Rel.world (h : Rel g0 w0 Ex g S a w) (hh : w'.heap = w.heap) (h1 : w'.os = w.os) (h2 : w'.tape = w.tape) (h3 : w'.output = w.output) : Rel g0 w0 Ex g S a w':=by
 have hc : ∀ p,w'.cell? p = w.cell? p := fun p=>by simp only [World.cell?,hh]
 exact h.grow (g' := g) ⟨⟨fun _ _ h=>h,fun _=>Nat.le_refl _,fun B o _=>hc _⟩,h1,h2,h3,by rw [hh]; exact Nat.le_refl _,fun B _ _=>⟨by rw [hh],rfl,rfl⟩⟩
  ⟨fun B hB=>h.inv.new B (by rw [← hh]; exact hB),h.inv.ph,h.inv.pl,h.inv.injh,h.inv.injl⟩ h.h.lt
theorem zm2 (l : List Nat) : ∀ (sl : List Slot) (i t : Nat),nthS (zkb l i sl) t = match memN (i + t) l with
  | true=>(match nthS sl t with
   | .val v _=>.val v .no
   | _=>.und)
  | false=>.und
 | [],i,t=>by cases h : memN (i + t) l <;> simp [zkb,nthS]
 | s :: r,i,0=>by simp [zkb,nthS]; rfl
 | s :: r,i,t + 1=>by
  have := zm2 l r (i + 1) t;rw [show i + 1 + t = i + (t + 1) by omega] at this
  simpa [zkb,nthS] using this
theorem ze5 (l : List Nat) : ∀ (sl : List Slot) (i : Nat),(zkb l i sl).length = sl.length
 | [],_=>rfl
 | _ :: r,i=>by simp [zkb,ze5 l r (i + 1)]
theorem zfn (S : St) (l : List Nat) (t : Nat) : (S.mask l).slot t = match memN t l with
  | true=>(match S.slot t with
   | .val v _=>.val v .no
   | _=>.und)
  | false=>.und:=by
 have := zm2 l S.sl 0 t;rw [Nat.zero_add] at this;exact this
theorem znp : ∀ {l l' : List Slot},l.length = l'.length→(∀ t,nthS l t = nthS l' t)→l = l'
 | [],[],_,_=>rfl
 | x :: l,y :: l',hl,h=>by
  have h0 := h 0;simp only [nthS] at h0;rw [h0,znp (l := l) (l' := l') (by simpa using hl) (fun t=>h (t + 1))]
theorem ztr {S' : St} {l : List Nat} (hlen : S'.sl.length = S.sl.length) (h : ∀ t ∈ l,(S'.mask l).slot t = (S.mask l).slot t) : S'.mask l = S.mask l:=by
 have : zkb l 0 S'.sl = zkb l 0 S.sl:=by
  apply znp (by rw [ze5,ze5]; exact hlen);intro t;have e1 := zfn S' l t;have e2 := zfn S l t;cases hm : memN t l with
  | false=>rw [hm] at e1 e2; exact e1.trans e2.symm
  | true=>exact h t (zbj.1 hm)
 simp only [St.mask,this]
theorem wp_put {K : Act→World→Prop} {Q : Exit→Act→World→Prop} (hK : ∀ a' w',K a' w'→a'.defers = []) (_hna : a.defers = []) (h : o.wp P a w K Q) : o.wp P a w (fun a' w'=>(∃ u,a' = a.put o.dst u)∧K a' w') Q:=by
 unfold Oper.wp at *;generalize (execOp a.eval o).run P w = rr at *;cases rr with
 | ok n w' =>
  cases n <;> simp only [Oper.upon] at h ⊢
  case value v=>exact ⟨⟨v,rfl⟩,h⟩
  case skip=>exact ⟨⟨undef,rfl⟩,h⟩
  case defer d =>
   have := hK _ _ h;rw [zdq] at this;cases this
  case enter f args =>
   refine Calls.mono h fun e w'' he=>?_;cases e with
   | returned v=>exact ⟨⟨v,rfl⟩,he⟩
   | _=>exact he
  case row row args=>exact Rows.mono h fun v w'' he=>⟨⟨v,rfl⟩,he⟩
 | halt x w'=>cases x <;> simp only [Oper.upon] at h ⊢ <;> exact h
def vOp (P : Program) (A : List (Nat × Ann)) (an : Ann) (isRes : Nat→Bool) (cal : Oracle) (o : Oper) (l : List Nat) (S : St) : Option AV :=
 (zaq P A an isRes cal o (S.mask l) some).bind fun S'=>match o.dst with
  | Option.none=>Option.none
  | some d=>match S'.slot d with
   | .val v _=>some v
   | _=>Option.none
theorem vOp_ok {an : Ann} {isRes : Nat→Bool} {l : List Nat} {T : St} {v : AV} (hN : zgg P A) (hcal : zcn P A cal) (hgl : zbn A g0 w0)
  (h : vOp P A an isRes cal o l T = some v) (hp : v.pure = true) (hT : T.sl.length = S.sl.length) (hl : ∀ t ∈ l,(∃ x f,T.slot t = .val x f∧x.pure = true∧Rep g w (a.tmps.getD t undef) x) ∨ ∀ x f,T.slot t ≠ .val x f)
  {d : Nat} (hdst : o.dst = some d) (hd : S.slot d = .und) (hdlt : d < S.sl.length)
  (hg : Rel g0 w0 Ex g S a w) (Q : Exit→Act→World→Prop) (K : Act→World→Prop)
  (hK : ∀ g' u w',Rel g0 w0 Ex g' S (a.put o.dst u) w'→Ext g w g' w'→Rep g' w' u v→K (a.put o.dst u) w') : o.wp P a w K Q:=by
 unfold vOp at h;obtain ⟨S1,h1,h2⟩ := za2 h;rw [hdst] at h2;simp only at h2;have hS1 : ∃ f,S1.slot d = .val v f:=by
  split at h2
  ·rename_i x f hx;injection h2 with e;subst e;exact ⟨f,hx⟩
  ·cases h2
 obtain ⟨f,hS1⟩ := hS1;have hrel : Rel g.none w (fun B=>g.none.role B ≠ .ext) g.none (T.mask l) a w:=by
  refine ⟨zsf hg.inv,zog,fun d b hb=>(by cases hb),fun d b hb=>(by cases hb),?_,fun t=>?_,⟨Ext.refl _ _,rfl,rfl,rfl,Nat.le_refl _,fun _ _ _=>⟨rfl,rfl⟩,fun B hB=>.inr hB⟩,hg.nodef⟩
  ·show (zkb l 0 T.sl).length = _;rw [ze5,hT]; exact hg.len
  ·rw [zfn];cases hm : memN t l with
   | false=>trivial
   | true =>
    rcases hl t (zbj.1 hm) with ⟨x,f,h3,h4,h5⟩ | h3
    ·rw [h3];exact ⟨h5.pure h4 g.none (fun _=>Nat.le_refl _),trivial⟩
    ·cases hs : T.slot t with
     | val x f=>exact absurd hs (h3 x f)
     | _=>trivial
 have hw := wp_put (fun a' w' hk=>by obtain ⟨S',⟨g',hg'⟩,_⟩ := hk; exact hg'.nodef) hg.nodef (zd8 hN hcal (zbn.pure (g' := g.none) (hgl.ext hg.fr.ext) fun _=>Nat.le_refl _) h1 hrel Q);refine Oper.wp_mono ?_ hw;rintro a' w' ⟨⟨u,rfl⟩,S',⟨g',hg'⟩,hS'⟩;injection hS' with hS';subst hS';have hslot := hg'.sl d;rw [hS1] at hslot;have hrep : Rep g' w' u v:=by
  have := hslot.1;rw [hdst,zcg,if_pos ⟨rfl,by rw [← hg.len]; exact hdlt⟩] at this;exact this
 have old : ∀ B,B < w.heap.size→w'.heap[B]? = w.heap[B]?∧g'.pub B = g.pub B := fun B hB=>hg'.fr.same B hB (fun h=>h rfl)
 let g2 : G := ⟨fun B=>if B < w.heap.size then g.role B else .ext,g'.pub⟩
 have r2 : ∀ B,g2.role B = if B < w.heap.size then g.role B else .ext := fun _=>rfl
 have rne : ∀ B,g2.role B ≠ .ext→B < w.heap.size∧g2.role B = g.role B:=by
  intro B hB;rw [r2] at hB ⊢;split
  ·rename_i h; exact ⟨h,rfl⟩
  ·rename_i h; rw [if_neg h] at hB; exact absurd rfl hB
 have hinv : Inv g2 w':=by
  refine ⟨fun B hB=>?_,fun B id hB=>?_,fun B d hB=>?_,fun B B' id k1 k2=>?_,fun B B' d k1 k2=>?_⟩
  ·have hs := hg'.fr.size;exact ⟨by rw [r2,if_neg (by omega)],(hg'.inv.new B hB).2⟩
  ·obtain ⟨k1,k2⟩ := rne B (by rw [hB]; simp);show g'.pub B = 0;rw [(old B k1).2]; exact hg.inv.ph B id (k2 ▸ hB)
  ·obtain ⟨k1,k2⟩ := rne B (by rw [hB]; simp);show g'.pub B = 0;rw [(old B k1).2]; exact hg.inv.pl B d (k2 ▸ hB)
  ·obtain ⟨_,k3⟩ := rne B (by rw [k1]; simp);obtain ⟨_,k4⟩ := rne B' (by rw [k2]; simp);exact hg.inv.injh B B' id (k3 ▸ k1) (k4 ▸ k2)
  ·obtain ⟨_,k3⟩ := rne B (by rw [k1]; simp);obtain ⟨_,k4⟩ := rne B' (by rw [k2]; simp);exact hg.inv.injl B B' d (k3 ▸ k1) (k4 ▸ k2)
 have hE : Ext g w g2 w':=by
  refine ⟨fun B id hB=>?_,fun B=>hg'.fr.ext.pub B,fun B o ho=>hg'.fr.ext.cell B o ho⟩;have : B < w.heap.size:=by
   rcases Nat.lt_or_ge B w.heap.size with h | h
   ·exact h
   ·rw [(hg.inv.new B h).1] at hB; cases hB
  rw [r2,if_pos this]; exact hB
 have hk : Keep (fun _=>False) g w g2 w' := ⟨hE,hg'.fr.os,hg'.fr.tape,hg'.fr.output,hg'.fr.size,fun B hB _=>⟨(old B hB).1,by rw [r2,if_pos hB],(old B hB).2⟩⟩;have hgrow := hg.grow hk hinv (fun B id hB=>by
  obtain ⟨_,k2⟩ := rne B (by rw [hB]; simp);exact hg.h.lt B id (k2 ▸ hB))
 refine hK g2 u w' ?_ hE (hrep.pure hp g2 (fun _=>Nat.le_refl _));rw [hdst];exact hgrow.put_und hd u
end
end
end Go.Vai
