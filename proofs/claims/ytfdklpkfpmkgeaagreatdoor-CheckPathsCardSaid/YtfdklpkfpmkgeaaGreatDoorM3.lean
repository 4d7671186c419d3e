/- Maps that stay in the frame. -/
import Derived.MapKept
import Derived.Carry
import Derived.Test.YtfdklpkfpmkgeaaGreatDoorM2
set_option linter.unusedSimpArgs false
set_option linter.unusedVariables false
set_option linter.unusedSectionVars false
set_option linter.unnecessarySimpa false
section
namespace Go.Vai
open MapKept
section
variable {X : Nat→Prop} {g0 : G} {w0 : World} {Ex : Nat→Prop} {g g' : G} {S : St} {a : Act} {w w' : World} {P : Program} {R : Type} {r : R} {o : Oper} {A : List (Nat × Ann)} {cal : Oracle}
theorem zi7 {t : TypeId} {v : AV} {u : Value} (h : scal P t v = true) (hr : Rep g w u v) : ∃ d,P.underlying t = some d∧IsKey d u:=by
 cases v with
 | int i n=>obtain rfl := zbe hr; exact ⟨_,zn7 h,rfl⟩
 | str s=>obtain ⟨b,rfl,_⟩ := zc1 hr; exact ⟨_,zkt h,trivial⟩
 | bool b=>obtain rfl := zbt hr; exact ⟨_,zix h,trivial⟩
 | _=>cases h
theorem eq1_key {t : TypeId} {x y : AV} {ux uy : Value} {k : Bool→Option R} (h : eq1 x y k = some r) (hx : Rep g w ux x) (hy : Rep g w uy y) (h1 : scal P t x = true) (h2 : scal P t y = true) :
  ∃ b,k b = some r∧(b = true ↔ ux = uy)∧∀ (R' : Type) (k' : Bool→Option R'),eq1 x y k' = k' b:=by
 cases x with
 | int i a =>
  simp only [eq1] at h
  obtain ⟨j,b,rfl,h3⟩ := int?_some h
  obtain ⟨h0,h4⟩ := zag h3
  clear h h3
  obtain rfl := zbe hx
  obtain rfl := zbe hy
  have e := zdx h0
  subst e
  exact ⟨_,h4,by simp,fun R' k'=>by simp only [eq1,AV.int?,h0,br]⟩
 | str a =>
  simp only [eq1] at h
  obtain ⟨b,rfl,h3⟩ := str?_some h
  clear h
  obtain ⟨s1,rfl,rfl⟩ := zc1 hx
  obtain ⟨s2,rfl,rfl⟩ := zc1 hy
  refine ⟨_,h3,?_,fun R' k'=>rfl⟩
  rw [zp7,beq_iff_eq]
  constructor
  ·intro e
   have : s1 = s2:=by
    apply ByteArray.ext; apply Array.toList_inj.1; exact e
   rw [this]
  ·intro e; injection e with e; rw [e]
 | bool a =>
  simp only [eq1] at h
  obtain ⟨b,rfl,h3⟩ := bool?_some h
  clear h
  obtain rfl := zbt hx
  obtain rfl := zbt hy
  exact ⟨_,h3,by simp,fun R' k'=>rfl⟩
 | _=>cases h
theorem zfx {t : TypeId} {d : TypeDesc} {key v : AV} {uk : Value} (hd : P.underlying t = some d) (hk : scal P t key = true) (hrk : Rep g w uk key) : ∀ {l : List (AV × AV)} {es : List MapEntry} {kk : Option AV→Option R} (i : Nat),
  zdf P t l = true→zjj g w es l→zd2 key l kk = some r →
  (Instr.findNow d uk es i = some none∧kk none = some r∧mIns key v l = l ++ [(key,v)]) ∨
  ∃ j e p,Instr.findNow d uk es i = some (some (i + j,e.val))∧es[j]? = some e∧l[j]? = some p∧e.key = uk∧kk (some p.2) = some r∧mIns key v l = l.set j (key,v)
 | [],[],kk,i,_,_,h=>.inl ⟨rfl,h,rfl⟩
 | [],_ :: _,_,_,_,hr,_=>by have := hr.1; simp at this
 | (a,x) :: l,[],_,_,_,hr,_=>by have := hr.1; simp at this
 | (a,x) :: l,e :: es,kk,i,hs,hr,h=>by
  simp only [zdf] at hs
  split at hs
  ·rename_i hsa
   have h0 := hr.2 0 _ _ rfl rfl
   simp only [zd2] at h
   obtain ⟨b,hb,hiff,hall⟩ := eq1_key h hrk h0.1 hk hsa
   obtain ⟨d1,hd1,hkey⟩ := zi7 hk hrk
   obtain ⟨d2,hd2,hkey2⟩ := zi7 hsa h0.1
   rw [hd] at hd1 hd2
   injection hd1 with hd1
   injection hd2 with hd2
   subst hd1
   rw [← hd2] at hkey2
   obtain ⟨q,hq,hqi⟩ := sameNow_of_keys hkey hkey2
   have hbq : b = q:=by
    have := hiff.trans hqi.symm
    cases b <;> cases q <;> simp_all
   subst hbq
   cases b with
   | true =>
    refine .inr ⟨0,e,(a,x),by simp [Instr.findNow,hq],rfl,rfl,(hiff.1 rfl).symm,hb,?_⟩
    simp only [mIns,hall]
    rfl
   | false =>
    rcases zfx (v := v) hd hk hrk (i + 1) hs ⟨by simpa using hr.1,fun j e' p he hp=>hr.2 (j + 1) e' p (by simpa using he) (by simpa using hp)⟩ hb with ⟨h1,h2,h3⟩ | ⟨j,e',p,h1,h2,h3,h4,h5,h6⟩
    ·refine .inl ⟨by simp [Instr.findNow,hq,h1],h2,?_⟩
     simp only [mIns,hall,h3]
     rfl
    ·refine .inr ⟨j + 1,e',p,by simp [Instr.findNow,hq,h1]; omega,by simpa using h2,by simpa using h3,h4,h5,?_⟩
     simp only [mIns,hall,h6]
     rfl
  ·cases hs
theorem Rel.writeM (h : Rel g0 w0 Ex g S a w) {d B ck ck' : Nat} {es es' : Array MapEntry} {l l' : List (AV × AV)} (_hl : getM S.M d = some l) (hB : g.role B = .l d) (hheap : w.heap[B]? = some (.map es ck))
  (hn : zjj g w es'.toList l') : Rel g0 w0 Ex g { S with M := setM S.M d l' } a { w with heap := w.heap.setIfInBounds B (.map es' ck') }:=by
 have hset := heap_set (o' := .map es' ck') hheap
 have k : Keep (fun b=>b = B) g w g { w with heap := w.heap.setIfInBounds B (.map es' ck') }:=by
  refine ⟨⟨fun _ _ h=>h,fun _=>Nat.le_refl _,fun B' o ho=>?_⟩,rfl,rfl,rfl,by simp,fun B' _ hne=>⟨hset.2 B' hne,rfl,rfl⟩⟩
  by_cases hb : B' = B
  ·subst hb; have := h.inv.pl B' d hB; omega
  ·exact zb7 (hset.2 B' hb)
 have hX : ∀ B' p,g.role B' = .c p→¬ B' = B := fun B' p hp e=>by subst e; rw [hB] at hp; cases hp
 have hi : Inv g { w with heap := w.heap.setIfInBounds B (.map es' ck') } := ⟨fun B' hB'=>h.inv.new B' (by simpa using hB'),h.inv.ph,h.inv.pl,h.inv.injh,h.inv.injl⟩
 refine ⟨hi,h.h.keep k (fun B' id b' hB' _ e=>by subst e; rw [hB] at hB'; cases hB') (fun B' id off hB'=>hX B' _ hB') h.h.lt,
  h.l.keep k (fun B' d' b' hB' hb' e=>?_) (fun B' d' off hB'=>hX B' _ hB'),fun d' l2 hl2=>?_,h.len,fun t=>?_,h.fr.keep k ?_ ?_,h.nodef⟩
 ·subst e
  obtain ⟨B2,h2,⟨us,e,h3,_⟩,_⟩ := h.l d' b' hb'
  obtain rfl := h.inv.injl B' B2 d' hB' h2
  rw [hheap] at h3
  cases h3
 ·have hl3 : getM (setM S.M d l') d' = some l2 := hl2
  rw [zij] at hl3
  split at hl3
  ·rename_i hd
   subst hd
   injection hl3 with hl3
   subst hl3
   exact ⟨B,es',ck',hB,hset.1,hn.ext k.ext⟩
  ·rename_i hd
   obtain ⟨B2,es2,ck2,h2,h3,h4⟩ := h.m d' l2 hl3
   have hne : B2 ≠ B := fun e=>by subst e; rw [hB] at h2; injection h2 with e; exact hd e.symm
   exact ⟨B2,es2,ck2,h2,by rw [← h3]; exact hset.2 B2 hne,h4.ext k.ext⟩
 ·have h1 := h.sl t
  cases hst : S.slot t with
  | und=>show zbd _ _ _ _ t (S.slot t); rw [hst]; trivial
  | lp d off=>show zbd _ _ _ _ t (S.slot t); rw [hst] at h1 ⊢; exact h1
  | mp d=>show zbd _ _ _ _ t (S.slot t); rw [hst] at h1 ⊢; exact h1
  | val v f =>
   show zbd _ _ _ _ t (S.slot t)
   rw [hst] at h1 ⊢
   refine ⟨h1.1.ext k.ext,?_⟩
   cases f with
   | no=>trivial
   | own=>exact zat.keep h1.2 k fun B' hB'=>hX B' _ hB'
   | lS q=>exact h1.2
   | lL d' off =>
    intro b hb hoff
    obtain ⟨B',h2,h3,h4⟩ := h1.2 b hb hoff
    refine ⟨B',h2,?_,h4⟩
    have hne : B' ≠ B := fun e=>by subst e; simp [World.cell?,hheap] at h3
    rw [zb7 (hset.2 B' hne)]; exact h3
   | lH id off =>
    intro b hb hoff
    obtain ⟨B',h2,h3,h4⟩ := h1.2 b hb hoff
    refine ⟨B',h2,?_,h4⟩
    have hne : B' ≠ B := fun e=>by subst e; simp [World.cell?,hheap] at h3
    rw [zb7 (hset.2 B' hne)]; exact h3
   | comps cs=>exact fun i hi us vs ui vi e1 e2 e3 e4=>zat.keep (h1.2 i hi us vs ui vi e1 e2 e3 e4) k fun B' hB'=>hX B' _ hB'
 ·rintro B' rfl
  exact h.fr.role B' (by rw [hB]; simp)
 ·rintro B' hlt rfl _
  rcases h.fr.role B' (by rw [hB]; simp) with hx | hx
  ·omega
  ·exact hx
theorem keyStays {d : TypeDesc} {k : Value} (h : IsKey d k) : (Instr.keyThatStays k k).run P w = .ok k w:=by
 have : Instr.sameBits 10000 k k = true:=by
  cases d <;> cases k <;> simp_all [IsKey,Instr.sameBits]
  exact (bytes_beq _ _).2 rfl
 simp [Instr.keyThatStays,this]
theorem zl5 {t kt et : TypeId} {B ck : Nat} {es : Array MapEntry} {uk uv : Value} {d : TypeDesc} (hu : P.underlying t = some (.map kt et)) (hd : P.underlying kt = some d) (hk : IsKey d uk) (hheap : w.heap[B]? = some (.map es ck)) :
  (Instr.findNow d uk es.toList 0 = some none→(Instr.mapUpdate t (.map (some B)) uk uv).run P w = .ok () { w with heap := w.heap.setIfInBounds B (.map (es.push { key := uk,val := uv,born := ck }) (ck + 1)) }) ∧
  ∀ j e,Instr.findNow d uk es.toList 0 = some (some (0 + j,e.val))→es[j]? = some e→e.key = uk→(Instr.mapUpdate t (.map (some B)) uk uv).run P w = .ok () { w with heap := w.heap.setIfInBounds B (.map (es.modify j fun e=>{ e with key := uk,val := uv }) ck) }:=by
 refine ⟨fun h=>?_,fun j e h he hek=>?_⟩
 ·simp only [Instr.mapUpdate,Sem.run_bind,run_underlying hu,Result.andThen_ok,Go.MapKept.run_getObj_map hheap,run_checkKey hd hk,run_findKey hd h,Go.MapKept.run_setObj_map _ hheap]
 ·rw [Nat.zero_add] at h
  simp only [Instr.mapUpdate,Sem.run_bind,run_underlying hu,Result.andThen_ok,Go.MapKept.run_getObj_map hheap,run_checkKey hd hk,run_findKey hd h,he,Option.map_some,Option.getD_some,hek,keyStays hk,Go.MapKept.run_setObj_map _ hheap]
theorem zej {t : TypeId} {m key v : Operand} {k : St→Option R} (ho : o.op = .insert t m key v ∨ o.op = .mapUpdate t m key v) (hod : o.dst = none) (h : zdz P t m key v S k = some r) (hg : Rel g0 w0 Ex g S a w) :
  zb0 P o a w g0 w0 Ex k r:=by
 unfold zdz at h
 split at h
 ·rename_i kt et hu
  split at h
  ·rename_i tm
   split at h
   ·rename_i d hs
    obtain ⟨l,hl,h1⟩ := zai h
    clear h
    obtain ⟨h2,h3⟩ := zag h1
    rw [Bool.and_eq_true] at h2
    have hsl := hg.sl tm
    rw [hs] at hsl
    obtain ⟨B,hB,hev⟩ := hsl
    have hev' : a.eval (.tmp tm) = .map (some B) := hev
    obtain ⟨B2,es,ck,h4,hheap,hmr⟩ := hg.m d l hl
    obtain rfl := hg.inv.injl B B2 d hB h4
    have hrk := hg.evT (P := P) kt key
    have hrv := hg.evT (P := P) et v
    obtain ⟨dd,hdd,hkey⟩ := zi7 h2.1 hrk
    have hrun := zl5 (w := w) (uv := a.eval v) hu hdd hkey hheap
    have hex : ∀ w',(Instr.mapUpdate t (.map (some B)) (a.eval key) (a.eval v)).run P w = .ok () w'→(execOp a.eval o).run P w = .ok .skip w':=by
     intro w' hw
     rcases ho with ho | ho <;> simp only [execOp,ho,hev',Sem.run_bind,hw,Result.andThen_ok,Sem.run_pure]
    have fin : ∀ (es' : Array MapEntry) (ck' : Nat) (l' : List (AV × AV)),zjj g w es'.toList l'→(Instr.mapUpdate t (.map (some B)) (a.eval key) (a.eval v)).run P w = .ok () { w with heap := w.heap.setIfInBounds B (.map es' ck') } →
      k { S with M := setM S.M d l' } = some r→zb0 P o a w g0 w0 Ex k r:=by
     intro es' ck' l' hm hw hk
     refine ⟨.skip,undef,_,_,hex _ hw,.inr ⟨rfl,rfl⟩,⟨g,?_⟩,hk⟩
     rw [hod]
     exact hg.writeM hl hB hheap hm
    rcases zfx (v := evT P S et v) hdd h2.1 hrk 0 h2.2 hmr h3 with ⟨h5,h6,h7⟩ | ⟨j,e,p,h5,h6,h7,h8,h9,h10⟩
    ·rw [h7] at h6
     refine fin _ _ _ ?_ (hrun.1 h5) h6
     rw [Array.toList_push]
     refine ⟨by simp [hmr.1],fun j x q hx hq=>?_⟩
     rcases Nat.lt_trichotomy j es.toList.length with hj | hj | hj
     ·rw [List.getElem?_append_left hj] at hx
      rw [List.getElem?_append_left (by rw [← hmr.1]; exact hj)] at hq
      exact hmr.2 j x q hx hq
     ·subst hj
      rw [List.getElem?_append_right (Nat.le_refl _),Nat.sub_self] at hx
      rw [List.getElem?_append_right (by rw [hmr.1]; exact Nat.le_refl _),hmr.1,Nat.sub_self] at hq
      simp at hx hq
      subst hx hq
      exact ⟨hrk,hrv⟩
     ·rw [List.getElem?_append_right (by omega),List.getElem?_eq_none (by rw [List.length_singleton]; omega)] at hx
      cases hx
    ·rw [h10] at h9
     have he' : es[j]? = some e := by simpa using h6
     refine fin _ _ _ ?_ (hrun.2 j e h5 he' h8) h9
     refine ⟨by simp [hmr.1],fun i x q hx hq=>?_⟩
     rw [Array.getElem?_toList,Array.getElem?_modify] at hx
     rw [List.getElem?_set] at hq
     by_cases hij : j = i
     ·subst hij
      have hlt : j < l.length := (List.getElem?_eq_some_iff.1 h7).1
      rw [if_pos rfl,he'] at hx
      rw [if_pos rfl,if_pos hlt] at hq
      simp at hx hq
      subst hx hq
      exact ⟨hrk,hrv⟩
     ·rw [if_neg hij] at hx hq
      exact hmr.2 i x q (by simpa using hx) hq
   ·cases h
  ·cases h
 ·cases h
theorem zmc {t : TypeId} {k : AV→Option R} (h : zs4 P t k = some r) : ∃ u v,(zeroValue t).run P w = .ok u w∧Rep g w u v∧k v = some r:=by
 unfold zs4 at h
 split at h
 ·rename_i i hi
  split at h
  ·rename_i z hz
   exact ⟨z,_,by simp [zeroValue,typeInfo,hi,hz],zd5 _ _,h⟩
  ·cases h
 ·cases h
theorem zl7 {t : TypeId} {x ix : Operand} {ok : Bool} {k : St→Option R} (ho : o.op = .lookup t x ix ok) (h : zla P o t x ix ok S k = some r) (hg : Rel g0 w0 Ex g S a w) : zb0 P o a w g0 w0 Ex k r:=by
 unfold zla at h
 split at h
 ·rename_i kt et hu
  split at h
  ·rename_i tm
   split at h
   ·rename_i d hs
    obtain ⟨l,hl,h1⟩ := zai h
    clear h
    obtain ⟨h2,h3⟩ := zag h1
    rw [Bool.and_eq_true] at h2
    have hsl := hg.sl tm
    rw [hs] at hsl
    obtain ⟨B,hB,hev⟩ := hsl
    have hev' : a.eval (.tmp tm) = .map (some B) := hev
    obtain ⟨B2,es,ck,h4,hheap,hmr⟩ := hg.m d l hl
    obtain rfl := hg.inv.injl B B2 d hB h4
    have hrk := hg.evT (P := P) kt ix
    obtain ⟨dd,hdd,hkey⟩ := zi7 h2.1 hrk
    have fin : ∀ (u : Value) (v : AV) (b : Bool),Rep g w u v→(Instr.lookup t (.map (some B)) (a.eval ix) ok).run P w = .ok (if ok then .tuple #[u,.bool b] else u) w →
      zov o ok S v b k = some r→zb0 P o a w g0 w0 Ex k r:=by
     intro u v b hr hw hk
     have hex : (execOp a.eval o).run P w = .ok (.value (if ok then .tuple #[u,.bool b] else u)) w:=by
      simp only [execOp,ho,hev',Sem.run_bind,hw,Result.andThen_ok,Sem.run_pure]
     cases ok with
     | true =>
      refine .val hg hex ?_ hk
      refine .tuple [u,.bool b] _ rfl fun j x c hx hc=>?_
      match j with
      | 0=>simp at hx hc; subst hx hc; exact hr
      | 1=>simp at hx hc; subst hx hc; exact .bool b
      | j + 2=>simp at hx
     | false=>exact .val hg hex hr hk
    rcases zfx (v := .undef) hdd h2.1 hrk 0 h2.2 hmr h3 with ⟨h5,h6,h7⟩ | ⟨j,e,p,h5,h6,h7,h8,h9,h10⟩
    ·obtain ⟨u,v,hz,hr,hk⟩ := zmc (w := w) (g := g) h6
     refine fin u v false hr ?_ hk
     simp only [Instr.lookup,Sem.run_bind,run_underlying hu,Result.andThen_ok,Go.MapKept.run_getObj_map hheap,Sem.run_pure,run_checkKey hdd hkey,run_findKey hdd h5,hz]
    ·rw [Nat.zero_add] at h5
     refine fin e.val p.2 true (hmr.2 j e p h6 h7).2 ?_ h9
     simp only [Instr.lookup,Sem.run_bind,run_underlying hu,Result.andThen_ok,Go.MapKept.run_getObj_map hheap,Sem.run_pure,run_checkKey hdd hkey,run_findKey hdd h5]
   ·cases h
  ·cases h
 ·cases h
theorem zjp {t : TypeId} {k : St→Option R} (ho : o.op = .makeMap t none) (h : zjm P o t S k = some r) (hg : Rel g0 w0 Ex g S a w) : zb0 P o a w g0 w0 Ex k r:=by
 unfold zjm at h
 have hold : ∀ B,B < w.heap.size→(w.alloc (.map #[] 0)).heap[B]? = w.heap[B]? := fun B hB=>zbj w _ hB
 have hat := zch w (.map #[] 0)
 split at h
 ·rename_i d hd
  split at h
  ·rename_i hLn
   let g1 : G := ⟨fun b=>if g.role b = .l d then .ext else g.role b,g.pub⟩
   have r1 : ∀ b,g1.role b = if g.role b = .l d then .ext else g.role b := fun _=>rfl
   have r1ne : ∀ b x,g.role b = x→x ≠ .l d→g1.role b = x := fun b x hb hx=>by rw [r1,if_neg (by rw [hb]; exact hx),hb]
   have r1inv : ∀ b x,g1.role b = x→x ≠ .ext→g.role b = x∧x ≠ .l d := fun b x hb hx=>by
    rw [r1] at hb
    split at hb
    ·exact absurd hb.symm hx
    ·rename_i hn; subst hb; exact ⟨rfl,hn⟩
   have hE1 : Ext g w g1 w := ⟨fun B id hB=>r1ne B _ hB (by simp),fun _=>Nat.le_refl _,fun _ _ _=>rfl⟩
   have own1 : ∀ p u c,zat g w p u c→zat g1 w p u c:=by
    intro p u c hc
    cases c with
    | vs sz tg l =>
     rcases hc with hc | hc | ⟨B,n,cap,us,e,h1,h2,h3⟩
     ·exact .inl hc
     ·exact .inr (.inl hc)
     ·exact .inr (.inr ⟨B,n,cap,us,e,h1,r1ne B _ h2 (by simp),h3⟩)
    | _=>trivial
   have hg1 : Rel g0 w0 Ex g1 ({ S with M := [],sl := S.sl.map (zav d) } : St).unlent a w:=by
    refine ⟨⟨fun B hB=>?_,fun B id hB=>hg.inv.ph B id (r1inv B _ hB (by simp)).1,fun B d' hB=>hg.inv.pl B d' (r1inv B _ hB (by simp)).1,fun B B' id hB hB'=>hg.inv.injh B B' id (r1inv B _ hB (by simp)).1 (r1inv B' _ hB' (by simp)).1,fun B B' id hB hB'=>hg.inv.injl B B' id (r1inv B _ hB (by simp)).1 (r1inv B' _ hB' (by simp)).1⟩,?_,?_,fun d' l hl=>(by cases hl),?_,fun t=>?_,?_,hg.nodef⟩
    ·obtain ⟨h2,h3⟩ := hg.inv.new B hB
     exact ⟨r1ne B _ h2 (by simp),h3⟩
    ·refine ⟨fun id b hb=>?_,fun B id hB=>hg.h.lt B id (r1inv B _ hB (by simp)).1⟩
     obtain ⟨B,hB,⟨us',e',hh,ho',hr'⟩,hf⟩ := hg.h.blk id b hb
     exact ⟨B,r1ne B _ hB (by simp),⟨us',e',hh,ho',hr'.ext hE1⟩,fun off hoff u v hu hv=>own1 _ _ _ (hf off hoff u v hu hv)⟩
    ·intro d' b hb
     have hb' : getL S.L d' = some b := hb
     obtain ⟨B,hB,⟨us',e',hh,ho',hr'⟩,hf⟩ := hg.l d' b hb'
     exact ⟨B,r1ne B _ hB (by intro e; injection e with e; rw [e,hLn] at hb'; cases hb'),⟨us',e',hh,ho',hr'.ext hE1⟩,fun off hoff u v hu hv=>own1 _ _ _ (hf off hoff u v hu hv)⟩
    ·show ((S.sl.map (zav d)).map Slot.unlent).length = _
     rw [List.length_map,List.length_map]; exact hg.len
    ·have hs := hg.sl t
     rw [zaw]
     have e1 : ({ S with M := [],sl := S.sl.map (zav d) } : St).slot t = zav d (S.slot t) := zd1 _ rfl _ _
     rw [e1]
     cases hst : S.slot t with
     | und=>trivial
     | lp d' off =>
      rw [hst] at hs
      obtain ⟨B,h2,h3⟩ := hs
      simp only [zav]
      cases hb : Nat.beq d' d with
      | true=>trivial
      | false =>
       have hne : d' ≠ d := fun e=>by subst e; rw [show Nat.beq d' d' = true from Nat.beq_refl d'] at hb; cases hb
       exact ⟨B,r1ne B _ h2 (by intro e; injection e with e; exact hne e),h3⟩
     | mp d' =>
      rw [hst] at hs
      obtain ⟨B,h2,h3⟩ := hs
      simp only [zav]
      cases hb : Nat.beq d' d with
      | true=>trivial
      | false =>
       have hne : d' ≠ d := fun e=>by subst e; rw [show Nat.beq d' d' = true from Nat.beq_refl d'] at hb; cases hb
       exact ⟨B,r1ne B _ h2 (by intro e; injection e with e; exact hne e),h3⟩
     | val v f =>
      rw [hst] at hs
      refine zlb.rel (s := .val v f) ⟨hs.1.ext hE1,?_⟩ _
      cases f with
      | own=>exact own1 _ _ _ hs.2
      | comps cs=>exact fun i hi us vs ui vi e1 e2 e3 e4=>own1 _ _ _ (hs.2 i hi us vs ui vi e1 e2 e3 e4)
      | _=>trivial
    ·exact ⟨hg.fr.ext.trans hE1,hg.fr.os,hg.fr.tape,hg.fr.output,hg.fr.size,fun B hB hx=>hg.fr.same B hB hx,fun B hB=>hg.fr.role B fun e=>hB (r1ne B _ e (by simp))⟩
   have hk := zfe (w' := w.alloc (.map #[] 0)) hg1.inv hold (by simp) rfl rfl rfl (.l d) 0
   have hi := zl9 (w' := w.alloc (.map #[] 0)) hg1.inv (zdi w _) (.l d) 0 (fun _=>rfl) (fun id B e=>by cases e) (fun d' B e he=>by
    injection e with e; subst e; exact (r1inv B _ he (by simp)).2 rfl)
   have hr := hg1.grow hk hi (fun B id hB=>by
    rw [zb5] at hB
    split at hB
    ·cases hB
    ·exact hg1.h.lt B id hB)
   have hrun : (execOp a.eval o).run P w = .ok (.value (.map (some w.heap.size))) (w.alloc (.map #[] 0)):=by
    have hmk : (Instr.makeMap t none).run P w = .ok (.map (some w.heap.size)) (w.alloc (.map #[] 0)) := rfl
    simp only [execOp,ho,Option.map_none,Sem.run_bind,hmk,Result.andThen_ok,Sem.run_pure]
   refine .mk hrun ⟨g1.new w.heap.size (.l d) 0,?_⟩ h
   rw [hd]
   have hr2 : Rel g0 w0 Ex (g1.new w.heap.size (.l d) 0) ({ S with M := setM S.M d [],sl := S.sl.map (zav d) } : St).unlent a (w.alloc (.map #[] 0)):=by
    refine ⟨hr.inv,hr.h,hr.l,fun d' l hl=>?_,hr.len,fun t=>?_,hr.fr,hr.nodef⟩
    ·have hl' : getM (setM S.M d []) d' = some l := hl
     rw [zij] at hl'
     split at hl'
     ·rename_i hid
      subst hid
      injection hl' with hl'
      subst hl'
      exact ⟨w.heap.size,#[],0,by rw [zb5,if_pos rfl],hat,rfl,fun j e p he=>by simp at he⟩
     ·rename_i hne
      obtain ⟨B,es,ck,h1,h2,h3⟩ := hg.m d' l hl'
      have hB1 : g1.role B = .l d' := r1ne B _ h1 (by intro e; injection e with e; exact hne e)
      have hBlt := zd6 h2
      exact ⟨B,es,ck,by rw [zb5,if_neg (by omega)]; exact hB1,by rw [hold B hBlt]; exact h2,(h3.ext hE1).ext hk.ext⟩
    ·have := hr.sl t
     have e1 : (({ S with M := setM S.M d [],sl := S.sl.map (zav d) } : St).unlent.slot t) = ({ S with M := [],sl := S.sl.map (zav d) } : St).unlent.slot t := rfl
     rw [e1]
     have e2 : (({ S with M := [],sl := S.sl.map (zav d) } : St).unlent.slot t).unlent = ({ S with M := [],sl := S.sl.map (zav d) } : St).unlent.slot t:=by
      rw [zaw]
      cases ({ S with M := [],sl := S.sl.map (zav d) } : St).slot t with
      | val v f=>cases f <;> rfl
      | _=>rfl
     rw [← e2]
     exact (zbd.c this).rel _
   exact hr2.putlp (some d) (.inr (.inr ⟨d,w.heap.size,rfl,by rw [zb5,if_pos rfl],rfl⟩))
  ·cases h
 ·cases h
end
end Go.Vai
end
section
namespace Go.Vai
def zki (g0 : G) (w0 : World) (Ex : Nat→Prop) : Prop := Inv g0 w0∧∀ B,¬ Ex B
section
variable {X : Nat→Prop} {g0 : G} {w0 : World} {Ex : Nat→Prop} {g g' : G} {S : St} {a : Act} {w w' : World} {P : Program} {R : Type} {r : R} {o : Oper} {A : List (Nat × Ann)} {cal : Oracle}
theorem ztf {α : Type} {xs : Array α} {x : α} (h : xs.toList = [x]) : xs = #[x]:=by
 apply Array.toList_inj.1; simpa using h
theorem zpd {α : Type} {xs : Array α} {x y : α} (h : xs.toList = [x,y]) : xs = #[x,y]:=by
 apply Array.toList_inj.1; simpa using h
theorem zjv {c : Call} {b : Builtin} {k : St→Option R} (ho : o.op = .call c) (hb : c.callee = .builtin b) (h : zbm P b o c.argTypes.toList c.args.toList S k = some r) (hg : Rel g0 w0 Ex g S a w) :
  zb0 P o a w g0 w0 Ex k r:=by
 obtain ⟨callee,args,tys⟩ := c
 simp only at hb h
 subst hb
 unfold zbm at h
 split at h
 ·split at h
  ·rename_i t x ht hx
   obtain rfl := ztf ht
   obtain rfl := ztf hx
   obtain ⟨n,hrun,hk⟩ := zow (ty := o.type) h (hg.evT (P := P) t x)
   exact .val hg (by simp only [execOp,ho,resolve,invoke,builtin,Sem.run_bind,Sem.run_pure,Result.andThen_ok,List.map_toArray,List.map_cons,List.map_nil,hrun]) (.int _ _) hk
  ·cases h
 ·split at h
  ·rename_i t t2 x y ht hx
   obtain rfl := zpd ht
   obtain rfl := zpd hx
   exact zlr ho h hg
  ·cases h
 ·split at h
  ·rename_i x l hx
   obtain ⟨u',v,hrun,hrep,hk⟩ := zdn (P := P) false hg l _ _ (hg.ev x) h
   refine .val hg (u := u') ?_ hrep hk
   have e : (args.map a.eval).toList = a.eval x :: l.map a.eval := by rw [Array.toList_map,hx]; rfl
   simp only [execOp,ho,resolve,invoke,builtin,Sem.run_bind,Sem.run_pure,Result.andThen_ok,Builtin.min_,e]
   rw [hrun]
   rfl
  ·cases h
 ·split at h
  ·rename_i x l hx
   obtain ⟨u',v,hrun,hrep,hk⟩ := zdn (P := P) true hg l _ _ (hg.ev x) h
   refine .val hg (u := u') ?_ hrep hk
   have e : (args.map a.eval).toList = a.eval x :: l.map a.eval := by rw [Array.toList_map,hx]; rfl
   simp only [execOp,ho,resolve,invoke,builtin,Sem.run_bind,Sem.run_pure,Result.andThen_ok,Builtin.max_,e]
   rw [hrun]
   rfl
  ·cases h
 ·cases h
theorem zcr {an : Ann} {isRes : Nat→Bool} {k : St→Option R} (hN : ∀ (f : Nat) (fn : Func),P.funcs[f]? = some fn→fn.name ≠ "runtime.NumGoroutine") (hcal : zc6 P A cal) (hgl : zbf A g0 w0)
  (h : zao P A an isRes cal o S k = some r) (hg : Rel g0 w0 Ex g S a w) : OpOk P o a w g0 w0 Ex k r:=by
 unfold zao at h
 cases ho : o.op <;> rw [ho] at h <;> simp only at h <;> try (cases h; done)
 case move x=>exact (zom ho h hg).ok
 case assign x=>exact (zlg ho h hg).ok
 case pick c x y=>exact (zsu ho h hg).ok
 case alloc e =>
  split at h
  ·rename_i z hz; exact (zqc ho hz h hg).ok
  ·cases h
 case box e x=>exact (box_step ho h hg).ok
 case makeInterface t x=>exact (zm5 ho h hg).ok
 case makeMap t r =>
  split at h
  ·exact (zjp ho h hg).ok
  ·cases h
 case insert t m key v =>
  split at h
  ·rename_i hd; exact (zej (.inl ho) hd h hg).ok
  ·cases h
 case mapUpdate t m key v =>
  split at h
  ·rename_i hd; exact (zej (.inr ho) hd h hg).ok
  ·cases h
 case lookup t x i ok=>exact (zl7 ho h hg).ok
 case build t parts=>exact (zm7 ho h hg).ok
 case buildSlice t len parts=>exact (zhc ho h hg).ok
 case load t x=>exact (zni ho (hgl.ext hg.fr.ext) h hg).ok
 case store t x y =>
  split at h
  ·rename_i hd; exact (zmo ho hd h hg).ok
  ·cases h
 case nilCheck x=>exact (zio ho h hg).ok
 case binOp op t x y t2 =>
  obtain ⟨u,v,hrun,hrep,hk⟩ := zlz (xo := x) (yo := y) h (hg.ev x) (hg.ev y)
  exact (zb0.val hg (by simp only [execOp,ho]; rw [Sem.run_bind,hrun]; rfl) hrep hk).ok
 case unOp op t x =>
  obtain ⟨u,v,hrun,hrep,hk⟩ := zq5 (P := P) h (hg.ev x)
  exact (zb0.val hg (by simp only [execOp,ho]; rw [Sem.run_bind,hrun]; rfl) hrep hk).ok
 case convert s d x=>exact (zjy ho h hg).ok
 case slice t x lo hi mx=>exact (zm1 ho h hg).ok
 case fieldAddr t x f=>exact (zi3 ho h hg).ok
 case field t x f =>
  obtain ⟨u,v,hrun,hrep,hk⟩ := zl8 h (hg.ev x)
  exact (zb0.val hg (by simp only [execOp,ho]; rw [Sem.run_bind,hrun]; rfl) hrep hk).ok
 case indexAddr t x i=>exact (zh2 ho (hgl.ext hg.fr.ext) h hg).ok
 case index t x i =>
  obtain ⟨u,v,hrun,hrep,hk⟩ := zlf h (hg.ev x) (hg.ev i)
  exact (zb0.val hg (by simp only [execOp,ho]; rw [Sem.run_bind,hrun]; rfl) hrep hk).ok
 case extract x i=>exact (zjx ho h hg).ok
 case call c =>
  split at h
  ·rename_i b hb; exact (zjv ho hb h hg).ok
  ·rename_i fo hf; exact zsc hN hcal hgl ho hf h hg
  ·cases h
theorem guard?_some {v : AV} {kb : Bool→Option R} {ks : Option R} (h : v.guard? kb ks = some r) : (∃ b,v = .bool b∧kb b = some r) ∨ (v = .tuple []∧ks = some r):=by
 unfold AV.guard? at h
 split at h
 ·exact .inl ⟨_,rfl,h⟩
 ·exact .inr ⟨rfl,h⟩
 ·cases h
theorem zj4 (all : Array Oper) (j : Nat) : zct all.toList j = (all[j]?).bind (·.dst):=by
 have : ∀ (l : List Oper) (j : Nat),zct l j = (l[j]?).bind (·.dst):=by
  intro l
  induction l with
  | nil=>intro j; simp [zct]
  | cons x l ih=>intro j; cases j <;> simp [zct,ih]
 rw [this]; simp
theorem Rel.lit (hg : Rel g0 w0 Ex g S a w) {d : Nat} {b : Bool} (hd : (S.slot d).av = .bool b) : Rel g0 w0 Ex g (S.put d (.val (.bool b) .no)) a w:=by
 cases hs : S.slot d with
 | und=>rw [hs] at hd; cases hd
 | lp e off=>rw [hs] at hd; cases hd
 | mp e=>rw [hs] at hd; cases hd
 | val v f =>
  rw [hs] at hd
  have hv : v = .bool b := hd
  subst hv
  exact hg.reflag hs (f' := .no) trivial (by simp) (by simp)
theorem Rel.skip (hg : Rel g0 w0 Ex g S a w) (dst : Option Nat) : Rel g0 w0 Ex g (S.putd dst (.val (.tuple []) .no)) (a.put dst undef) w :=
 hg.putv (f := .no) dst (.tuple [] [] rfl (by simp)) (fun _ _=>trivial) (by simp) (by simp)
theorem zqk {an : Ann} {isRes : Nat→Bool} {all : Array Oper} {k : St→Option R} (hN : ∀ (f : Nat) (fn : Func),P.funcs[f]? = some fn→fn.name ≠ "runtime.NumGoroutine") (hcal : zc6 P A cal) (hgl : zbf A g0 w0) (hf : an.imp = false→zki g0 w0 Ex) {i : Nat} (hi : all[i]? = some o)
  (h : zcs P A an isRes cal all.toList [o] S k = some r) (hg : Rel g0 w0 Ex g S a w) (Q : Exit→Act→World→Prop) (K : Act→World→Prop)
  (hK : ∀ S' a' w',Good g0 w0 Ex S' a' w'→k S' = some r→K a' w') : wpOp P all Q i K a w:=by
 unfold wpOp
 rw [hi]
 simp only
 have run : ∀ {S1 : St},Rel g0 w0 Ex g S1 a w→(zao P A an isRes cal o S1 fun S'=>zcs P A an isRes cal all.toList [] S' k) = some r→o.wp P a w K Q:=by
  intro S1 h1 h2
  have := zcr hN hcal hgl h2 h1 Q
  exact Oper.wp_mono (fun a' w' ⟨S',hgd,hk⟩=>hK S' a' w' hgd hk) this
 unfold zcs at h
 cases hgd : o.guard with
 | none =>
  rw [hgd] at h
  simp only at h
  rw [if_pos (by simp [Region.wanted,hgd])]
  exact .inl (run hg h)
 | some jw =>
  obtain ⟨j,want⟩ := jw
  rw [hgd] at h
  simp only at h
  cases hd : zct all.toList j with
  | none=>rw [hd] at h; cases h
  | some d =>
   rw [hd] at h
   simp only at h
   have hd' := hd
   rw [zj4] at hd'
   have hev := hg.ev (.tmp d)
   have hy : ∀ v : Value,a.eval (.tmp d) = v→(∀ b,v = .bool b→yielded all a.tmps j = some b)∧((∀ b,v ≠ .bool b)→yielded all a.tmps j = none):=by
    intro v hv
    have hv' : a.tmps.getD d undef = v := hv
    rw [Array.getD_eq_getD_getElem?] at hv'
    unfold yielded
    rw [hd']
    simp only [Option.bind_some]
    cases ht : a.tmps[d]? with
    | none =>
     rw [ht] at hv'
     refine ⟨fun b hb=>?_,fun _=>rfl⟩
     subst hb
     cases hv'
    | some u =>
     rw [ht] at hv'
     simp only [Option.getD_some] at hv'
     subst hv'
     refine ⟨fun b hb=>by subst hb; rfl,fun hn=>?_⟩
     cases u <;> first | rfl | exact absurd rfl (hn _)
   rcases guard?_some h with ⟨b,hb,h2⟩ | ⟨hb,h2⟩
   ·have hrb : Rep g w (a.eval (.tmp d)) (.bool b):=by
     have : S.ev (.tmp d) = .bool b := hb
     rw [← this]; exact hev
    have hvb := zbt hrb
    have hyb := (hy _ hvb).1 b rfl
    have hlit := hg.lit hb
    rcases zg0 h2 with ⟨rfl,h3⟩ | ⟨rfl,h3⟩
    ·cases want with
     | true =>
      rw [if_pos (by simp [Region.wanted,hgd,hyb])]
      exact .inl (run hlit h3)
     | false =>
      rw [if_neg (by simp [Region.wanted,hgd,hyb])]
      exact hK _ _ _ ⟨g,hlit.skip o.dst⟩ h3
    ·cases want with
     | false =>
      rw [if_pos (by simp [Region.wanted,hgd,hyb])]
      exact .inl (run hlit h3)
     | true =>
      rw [if_neg (by simp [Region.wanted,hgd,hyb])]
      exact hK _ _ _ ⟨g,hlit.skip o.dst⟩ h3
   ·have hrb : Rep g w (a.eval (.tmp d)) (.tuple []):=by
     have : S.ev (.tmp d) = .tuple [] := hb
     rw [← this]; exact hev
    obtain ⟨us,hvt,_⟩ := zip hrb
    have hyn := (hy _ hvt).2 (by simp)
    rw [if_neg (by simp [Region.wanted,hgd,hyn])]
    exact hK _ _ _ ⟨g,hg.skip o.dst⟩ h2
theorem zoq {an : Ann} {isRes : Nat→Bool} {all : List Oper} {os : List Oper} {k : St→Option R} :
  zcs P A an isRes cal all (o :: os) S k = zcs P A an isRes cal all [o] S fun S'=>zcs P A an isRes cal all os S' k:=by
 conv=>lhs; unfold zcs
 conv=>rhs; unfold zcs
 rfl
theorem ops_ok {an : Ann} {isRes : Nat→Bool} {all : Array Oper} {k : St→Option R} (hN : ∀ (f : Nat) (fn : Func),P.funcs[f]? = some fn→fn.name ≠ "runtime.NumGoroutine") (hcal : zc6 P A cal) (hgl : zbf A g0 w0) (hf : an.imp = false→zki g0 w0 Ex) (Q : Exit→Act→World→Prop)
  (hQ : ∀ S' a' w',Good g0 w0 Ex S' a' w'→k S' = some r→Q .normal a' w') :
  ∀ (n i : Nat) (S : St) (a : Act) (w : World),n + i = all.size→zcs P A an isRes cal all.toList (all.toList.drop i) S k = some r→Good g0 w0 Ex S a w→wpOps P all Q ((List.range all.size).drop i) a w
 | 0,i,S,a,w,hi,h,hg=>by
  have e1 : all.toList.drop i = [] := List.drop_eq_nil_of_le (by rw [Array.length_toList]; omega)
  have e2 : (List.range all.size).drop i = [] := List.drop_eq_nil_of_le (by rw [List.length_range]; omega)
  rw [e1] at h
  rw [e2]
  exact hQ S a w hg h
 | n + 1,i,S,a,w,hi,h,hg=>by
  have hlt : i < all.size := by omega
  have e1 : all.toList.drop i = all[i] :: all.toList.drop (i + 1):=by
   rw [List.drop_eq_getElem_cons (by rw [Array.length_toList]; exact hlt)]; simp
  have e2 : (List.range all.size).drop i = i :: (List.range all.size).drop (i + 1):=by
   rw [List.drop_eq_getElem_cons (by rw [List.length_range]; exact hlt)]; simp
  rw [e1,zoq] at h
  rw [e2,wpOps_cons]
  obtain ⟨g,hg⟩ := hg
  exact zqk hN hcal hgl hf (by rw [Array.getElem?_eq_getElem hlt]) h hg Q _ fun S' a' w' hgd hk=>ops_ok hN hcal hgl hf Q hQ n (i + 1) S' a' w' (by omega) hk hgd
end
end Go.Vai
end
section
namespace Go.Vai
def Par {T : Type} (F : ∀ R : Type,(T→Option R)→Option R) : Prop := (∀ R k,F R k = none) ∨ ∃ v,∀ R k,F R k = k v
namespace Par
variable {T U : Type}
theorem none' : Par (T := T) fun _ _=>none := .inl fun _ _=>rfl
theorem ret (v : T) : Par fun _ k=>k v := .inr ⟨v,fun _ _=>rfl⟩
theorem br {b : Bool} {F G : ∀ R : Type,(T→Option R)→Option R} (h : b = true→Par F) (h2 : b = false→Par G) : Par fun R k=>Vai.br b (F R k) (G R k):=by
 cases b
 ·exact h2 rfl
 ·exact h rfl
theorem brn {b : Bool} {F : ∀ R : Type,(T→Option R)→Option R} (h : Par F) : Par fun R k=>Vai.br b (F R k) none := br (fun _=>h) fun _=>none'
theorem bind {A : Type} {o : Option A} {F : A→∀ R : Type,(T→Option R)→Option R} (h : ∀ a,Par (F a)) : Par fun R k=>o.bind fun a=>F a R k:=by
 cases o with
 | none=>exact none'
 | some a=>exact h a
theorem int? {v : AV} {F : IntKind→Int→∀ R : Type,(T→Option R)→Option R} (h : ∀ i n,Par (F i n)) : Par fun R k=>v.int? fun i n=>F i n R k:=by
 cases v <;> first | exact h _ _ | exact none'
theorem bool? {v : AV} {F : Bool→∀ R : Type,(T→Option R)→Option R} (h : ∀ b,Par (F b)) : Par fun R k=>v.bool? fun b=>F b R k:=by
 cases v <;> first | exact h _ | exact none'
theorem str? {v : AV} {F : List UInt8→∀ R : Type,(T→Option R)→Option R} (h : ∀ b,Par (F b)) : Par fun R k=>v.str? fun b=>F b R k:=by
 cases v <;> first | exact h _ | exact none'
theorem agg? {v : AV} {F : List AV→∀ R : Type,(T→Option R)→Option R} (h : ∀ b,Par (F b)) : Par fun R k=>v.agg? fun b=>F b R k:=by
 cases v <;> first | exact h _ | exact none'
theorem cells? {v : AV} {F : List AV→∀ R : Type,(T→Option R)→Option R} (h : ∀ b,Par (F b)) : Par fun R k=>v.cells? fun b=>F b R k:=by
 cases v <;> first | exact h _ | exact none'
theorem comp {F : ∀ R : Type,(T→Option R)→Option R} {G : T→∀ R : Type,(U→Option R)→Option R} (h : Par F) (h2 : ∀ v,Par (G v)) : Par fun R k=>F R fun v=>G v R k:=by
 rcases h with h | ⟨v,h⟩
 ·exact .inl fun R k=>h R _
 ·rcases h2 v with h2 | ⟨u,h2⟩
  ·exact .inl fun R k=>(h R _).trans (h2 R k)
  ·exact .inr ⟨u,fun R k=>(h R _).trans (h2 R k)⟩
end Par
section
variable {P : Program}
theorem zf0 (t : TypeId) : Par fun _ k=>zge P t k:=by
 unfold zge
 cases P.underlying t with
 | none=>exact Par.none'
 | some d=>cases d <;> exact Par.ret _
theorem zs6 (op : BinOp) (i : IntKind) (a b : Int) : Par fun _ k=>zqn op i a b k:=by
 cases op <;> first | exact Par.ret _ | exact Par.none' | exact Par.br (fun _=>Par.none') fun _=>Par.ret _
theorem ztc (op : BinOp) (a b : List UInt8) : Par fun _ k=>opStr op a b k:=by
 cases op <;> first | exact Par.ret _ | exact Par.none' | exact Par.brn (Par.ret _)
theorem zrz (op : BinOp) (x y : AV) : Par fun _ k=>opBin op x y k:=by
 cases x <;> first | exact Par.none' | skip
 ·rename_i i a
  refine Par.int? fun j b=>?_
  have d : Par fun _ k=>Vai.br (zd4 i j) (zqn op i a b k) none := Par.brn (zs6 op i a b)
  cases op <;> first | exact d | exact Par.br (fun _=>Par.none') fun _=>Par.ret _
 ·exact Par.str? fun b=>ztc op _ b
theorem zsp (x y : AV) : Par fun _ k=>eq1 x y k:=by
 cases x <;> first | exact Par.none' | skip
 ·exact Par.bool? fun b=>Par.ret _
 ·exact Par.int? fun j b=>Par.brn (Par.ret _)
 ·exact Par.str? fun b=>Par.ret _
theorem zjk (x y : AV) : Par fun _ k=>zjc P x y k:=by
 cases x <;> first | exact Par.none' | skip
 ·rename_i t v
  cases y <;> first | exact Par.none' | exact Par.ret _ | skip
  exact Par.br (fun _=>Par.brn (zsp _ _)) fun _=>Par.ret _
 ·cases y <;> first | exact Par.none' | exact Par.ret _
theorem zp3 (xs ys : List AV) : ∀ fs : List Field,Par fun _ k=>eqFs P xs ys fs k
 | []=>Par.ret _
 | f :: fs=>by
  refine Par.bind fun a=>Par.bind fun b=>Par.brn ?_
  refine Par.comp (zsp a b) fun e=>?_
  cases e
  ·exact Par.ret _
  ·exact zp3 xs ys fs
theorem zi6 (op : BinOp) (b : Bool) : Par fun _ k=>eqlK op b k:=by
 cases op <;> first | exact Par.none' | exact Par.ret _
theorem zqz (op : BinOp) (t : TypeId) (xc yc : Bool) (x y : AV) : Par fun _ k=>zd8 P op t xc yc x y k:=by
 have d := zrz op x y
 cases x <;> first | exact d | skip
 ·refine Par.bool? fun b=>?_
  cases P.underlying t with
  | none=>exact Par.none'
  | some dd=>cases dd <;> first | exact Par.none' | (cases op <;> first | exact Par.ret _ | exact Par.none')
 ·cases y <;> first | exact Par.none' | skip
  unfold zd8
  simp only
  cases P.underlying t with
  | none=>exact Par.none'
  | some dd=>cases dd <;> first | exact Par.none' | (cases op <;> first | exact Par.ret _ | exact Par.none')
 ·cases y <;> first | exact Par.none' | skip
  unfold zd8
  simp only
  cases P.underlying t with
  | none=>exact Par.none'
  | some dd=>cases dd <;> first | exact Par.none' | (cases op <;> first | exact Par.ret _ | exact Par.none')
 ·rename_i xs
  refine Par.agg? fun ys=>?_
  cases ze3 P t with
  | none=>exact Par.none'
  | some fs=>exact Par.brn (Par.comp (zp3 xs ys fs) fun b=>zi6 op b)
 ·unfold zd8
  simp only
  cases P.underlying t with
  | none=>exact Par.none'
  | some dd=>cases dd <;> first | exact Par.none' | exact Par.comp (zjk _ _) fun b=>zi6 op b
 ·unfold zd8
  simp only
  cases P.underlying t with
  | none=>exact Par.none'
  | some dd =>
   cases dd <;> first | exact Par.none' | skip
   cases y <;> first | exact Par.brn (zi6 op true) | exact Par.comp (zjk _ _) fun b=>zi6 op b
theorem zoh (t : TypeId) (v : AV) : Par fun _ k=>zj9 P t v k:=by
 unfold zj9
 cases P.underlying t with
 | none=>exact Par.none'
 | some dd=>cases dd <;> first | exact Par.none' | exact Par.ret _
theorem par_opUn (op : UnOp) (x : AV) : Par fun _ k=>opUn op x k:=by
 cases op <;> first | exact Par.none' | exact Par.int? fun _ _=>Par.ret _ | exact Par.bool? fun _=>Par.ret _
theorem zh5 (ag : Bool) (sz : Nat) (cs : List AV) (off : Nat) : Par fun _ k=>zgh ag sz cs off k:=by
 cases ag
 ·exact Par.bind (o := nth cs off) (F := fun a _ k=>k a) fun a=>Par.ret a
 ·exact Par.brn (Par.ret _)
theorem zog (t : TypeId) (x : AV) (fi : Nat) : Par fun _ k=>zjh P t x fi k:=by
 unfold zjh
 cases ze3 P t with
 | none=>exact Par.none'
 | some fs =>
  simp only
  cases fs[fi]? with
  | none=>exact Par.none'
  | some f=>exact Par.agg? fun cs=>Par.comp (zf0 _) fun ag=>zh5 _ _ _ _
theorem zoi (t : TypeId) (x ix : AV) : Par fun _ k=>zlx P t x ix k:=by
 refine Par.int? fun _ i=>?_
 cases P.underlying t with
 | none=>exact Par.none'
 | some d =>
  cases d <;> first | exact Par.none' | skip
  ·exact Par.str? fun s=>Par.brn (Par.bind fun b=>Par.ret _)
  ·exact Par.agg? fun cs=>Par.brn (Par.brn (Par.comp (zf0 _) fun ag=>zh5 _ _ _ _))
theorem zg9 (place : Nat→Option (Nat × Nat)) : ∀ (l : List (Nat × AV)) (cells : List AV),Par fun _ k=>zn5 place cells l k
 | [],cells=>Par.ret _
 | (i,v) :: rest,cells=>by
  simp only [zn5]
  cases place i with
  | none=>exact Par.none'
  | some x =>
   obtain ⟨off,size⟩ := x
   exact Par.cells? fun cs=>Par.brn (Par.brn (zg9 place rest _))
theorem zmh (v : AV) (y : Nat) : Par fun _ k=>v.bound? y k := Par.int? fun _ _=>Par.brn (Par.brn (Par.ret _))
theorem zh0 (mx : Bool) (S : St) : ∀ (l : List Operand) (x : AV),Par fun _ k=>zgt mx P S x l k
 | [],_=>Par.ret _
 | _ :: l,_=>Par.int? fun _ _=>Par.int? fun _ _=>zh0 mx S l _
theorem zse (t : TypeId) (v : AV) : Par fun _ k=>lenOf P t v k:=by
 unfold lenOf
 cases P.underlying t with
 | none=>exact Par.none'
 | some d =>
  cases d <;> first | exact Par.none' | exact Par.ret _ | exact Par.str? fun _=>Par.ret _ | (cases v <;> first | exact Par.ret _ | exact Par.none')
structure Same (S S' : St) (l : List Nat) : Prop where
 slot : ∀ t ∈ l,(S'.slot t).bare = (S.slot t).bare
 L : ∀ t ∈ l,∀ d off,S.slot t = .lp d off→(getL S'.L d).map (·.cells) = (getL S.L d).map (·.cells)
 len : S'.sl.length = S.sl.length
def zc7 (S S' : St) : Prop := ∀ i,(S'.H i).map (·.cells) = (S.H i).map (·.cells)
theorem zc7.of {S S' : St} (h : S'.H = S.H) : zc7 S S' := fun i=>by rw [h]
theorem zc7.symm {S S' : St} (h : zc7 S S') : zc7 S' S := fun i=>(h i).symm
theorem zc7.bind {S S' : St} {R : Type} (h : zc7 S S') (id : Nat) (F : List AV→Option R) : ((S'.H id).bind fun b=>F b.cells) = (S.H id).bind fun b=>F b.cells:=by
 have := h id
 cases h1 : S.H id with
 | none =>
  rw [h1] at this
  cases h2 : S'.H id with
  | none=>rfl
  | some b=>rw [h2] at this; cases this
 | some b =>
  rw [h1] at this
  cases h2 : S'.H id with
  | none=>rw [h2] at this; cases this
  | some b' =>
   rw [h2] at this
   have hc : b'.cells = b.cells := by simpa using this
   simp only [Option.bind_some,hc]
theorem zle (s : Slot) : s.bare.av = s.av := by cases s <;> rfl
theorem Same.ev {S S' : St} {l : List Nat} (h : Same S S' l) {x : Operand} (hx : ∀ t,x = .tmp t→t ∈ l) : S'.ev x = S.ev x:=by
 cases x with
 | tmp t =>
  show (S'.slot t).av = (S.slot t).av
  rw [← zle,h.slot t (hx t rfl),zle]
 | _=>rfl
theorem Same.evT {S S' : St} {l : List Nat} (h : Same S S' l) {x : Operand} (hx : ∀ t,x = .tmp t→t ∈ l) (ty : TypeId) : evT P S' ty x = evT P S ty x:=by
 cases x with
 | tmp t=>exact h.ev hx
 | _=>rfl
theorem zhs {S S' : St} (len : Nat) (lo hi : Option Operand) (hlo : ∀ x,lo = some x→S'.ev x = S.ev x) (hhi : ∀ x,hi = some x→S'.ev x = S.ev x) :
  (Par fun _ (k : Nat × Nat→Option _)=>zbk S len lo hi fun l h=>k (l,h))∧∀ (R : Type) (k : Nat→Nat→Option R),zbk S' len lo hi k = zbk S len lo hi k:=by
 constructor
 ·have low : ∀ h,Par fun R (k : Nat × Nat→Option R)=>match lo with
    | some x=>(S.ev x).bound? h fun l=>k (l,h)
    | none=>k (0,h):=by
   intro h
   cases lo with
   | none=>exact Par.ret _
   | some x=>exact Par.comp (zmh _ _) fun l=>Par.ret (l,h)
  cases hi with
  | none=>exact low len
  | some x=>exact Par.comp (zmh _ _) fun h=>low h
 ·intro R k
  unfold zbk
  cases lo with
  | none =>
   cases hi with
   | none=>rfl
   | some y=>simp only; rw [hhi y rfl]
  | some x =>
   cases hi with
   | none=>simp only; rw [hlo x rfl]
   | some y=>simp only; rw [hhi y rfl,hlo x rfl]
end
end Go.Vai
end
section
namespace Go.Vai
section
variable {P : Program} {A : List (Nat × Ann)} {an : Ann} {isRes : Nat→Bool} {cal : Oracle} {o : Oper} {S S' : St} {l : List Nat}
def Uni (P : Program) (A : List (Nat × Ann)) (an : Ann) (isRes : Nat→Bool) (cal : Oracle) (o : Oper) (S S' : St) : Prop :=
 (∀ (R : Type) (k : St→Option R),zao P A an isRes cal o S k = none) ∨
 ∃ s,(∀ (R : Type) (k : St→Option R),zao P A an isRes cal o S k = k (S.putd o.dst s))∧∀ (R : Type) (k : St→Option R),zao P A an isRes cal o S' k = k (S'.putd o.dst s)
theorem Uni.of {T : Type} {F : ∀ R : Type,(T→Option R)→Option R} (hp : Par F) (mk : T→Slot) (h1 : ∀ (R : Type) (k : St→Option R),zao P A an isRes cal o S k = F R fun v=>k (S.putd o.dst (mk v)))
  (h2 : ∀ (R : Type) (k : St→Option R),zao P A an isRes cal o S' k = F R fun v=>k (S'.putd o.dst (mk v))) : Uni P A an isRes cal o S S':=by
 rcases hp with hp | ⟨v,hp⟩
 ·exact .inl fun R k=>(h1 R k).trans (hp R _)
 ·exact .inr ⟨mk v,fun R k=>(h1 R k).trans (hp R _),fun R k=>(h2 R k).trans (hp R _)⟩
theorem zd7 {s s' : Slot} (h : s'.bare = s.bare) {d off : Nat} (hs : s = .lp d off) : s' = .lp d off:=by
 subst hs; cases s' <;> simp [Slot.bare] at h ⊢ <;> exact h
theorem zcq {s s' : Slot} (h : s'.bare = s.bare) {v : AV} {f : Fl} (hs : s = .val v f) : ∃ f',s' = .val v f':=by
 subst hs; cases s' <;> simp [Slot.bare] at h ⊢ <;> exact h
theorem zfh {s s' : Slot} (h : s'.bare = s.bare) (hs : s = .und) : s' = .und:=by
 subst hs; cases s' <;> simp [Slot.bare] at h ⊢
theorem zfz (ag : Bool) (sz : Nat) (v : AV) : Par fun _ k=>zbo ag sz v S k:=by
 cases v <;> first | exact Par.none' | skip
 ·rename_i s
  unfold zbo
  simp only
  cases Nat.beq sz 1 with
  | true=>exact Par.ret _
  | false=>exact Par.none'
 ·rename_i z tg l
  unfold zbo
  simp only
  cases Nat.beq z sz with
  | true=>exact Par.ret _
  | false=>cases l with
   | nil=>exact Par.ret _
   | cons _ _=>exact Par.none'
 ·rename_i id off len z
  unfold zbo
  simp only
  cases ag with
  | true=>exact Par.none'
  | false =>
   cases Nat.beq z sz with
   | false=>exact Par.none'
   | true=>cases Nat.beq sz 1 with
    | false=>exact Par.none'
    | true=>exact Par.bind fun b=>Par.brn (Par.ret _)
theorem zg7 {R : Type} (ag : Bool) (sz : Nat) (v : AV) (k : List AV→Option R) (h : zc7 S S' ∨ ∀ id off len z,v ≠ .arr id off len z) : zbo ag sz v S' k = zbo ag sz v S k:=by
 cases v <;> first | rfl | skip
 rename_i id off len z
 rcases h with h | h
 ·unfold zbo
  simp only
  cases ag <;> cases Nat.beq z sz <;> cases Nat.beq sz 1 <;> first | rfl | exact h.bind id fun cs=>br (Nat.ble (off + len) cs.length) (k ((cs.drop off).take len)) none
 ·exact absurd rfl (h _ _ _ _)
theorem zeb (ty : Nat→TypeId) : ∀ (ps : List (Nat × Operand)),(∀ i x,(i,x) ∈ ps→∀ t,evT P S' t x = evT P S t x)→zcl P S' ty ps = zcl P S ty ps
 | [],_=>rfl
 | (i,x) :: l,h=>by
  simp only [zcl]
  rw [h i x List.mem_cons_self,zeb ty l fun i x hx=>h i x (List.mem_cons_of_mem _ hx)]
theorem zf7 {R : Type} (mx : Bool) : ∀ (l : List Operand) (x : AV) (k : AV→Option R),(∀ y ∈ l,S'.ev y = S.ev y)→zgt mx P S' x l k = zgt mx P S x l k
 | [],x,k,_=>rfl
 | y :: l,x,k,h=>by
  simp only [zgt]
  rw [h y List.mem_cons_self]
  congr 1; funext i a; congr 1; funext _ b
  exact zf7 mx l _ _ fun y hy=>h y (List.mem_cons_of_mem _ hy)
theorem zro {op : BinOp} {t ty : TypeId} {x y : Operand} (ho : o.op = .binOp op t x y ty) (hx : S'.ev x = S.ev x) (hy : S'.ev y = S.ev y) : Uni P A an isRes cal o S S' :=
 .of (zqz (P := P) op t (ze5 x) (ze5 y) (S.ev x) (S.ev y)) (fun v=>.val v .no) (fun R k=>by simp only [zao,ho]) (fun R k=>by simp only [zao,ho,hx,hy])
theorem uni_unOp {op : UnOp} {t : TypeId} {x : Operand} (ho : o.op = .unOp op t x) (hx : S'.ev x = S.ev x) : Uni P A an isRes cal o S S' :=
 .of (par_opUn op (S.ev x)) (fun v=>.val v .no) (fun R k=>by simp only [zao,ho]) (fun R k=>by simp only [zao,ho,hx])
theorem zr4 {t : TypeId} {x : Operand} (ho : o.op = .makeInterface t x) (hx : evT P S' t x = evT P S t x) : Uni P A an isRes cal o S S' :=
 .of (zoh (P := P) t (evT P S t x)) (fun v=>.val v .no) (fun R k=>by simp only [zao,ho]) (fun R k=>by simp only [zao,ho,hx])
theorem zhf {s s' : Slot} (h : s'.bare = s.bare) {d : Nat} (hs : s = .mp d) : s' = .mp d:=by
 subst hs; cases s' <;> simp [Slot.bare] at h ⊢ <;> exact h
theorem uni_pick {c x y : Operand} (ho : o.op = .pick c x y) (hc : S'.ev c = S.ev c) (hx : S'.ev x = S.ev x) (hy : S'.ev y = S.ev y) : Uni P A an isRes cal o S S' :=
 .of (F := fun R k=>(S.ev c).bool? fun b=>br b (k (S.ev x)) (k (S.ev y))) (Par.bool? fun b=>Par.br (fun _=>Par.ret _) fun _=>Par.ret _) (fun v=>.val v .no) (fun R k=>by simp only [zao,ho,zmw]) (fun R k=>by simp only [zao,ho,zmw,hc,hx,hy])
theorem zt3 {t : TypeId} {x : Operand} {fi : Nat} (ho : o.op = .field t x fi) (hx : S'.ev x = S.ev x) : Uni P A an isRes cal o S S' :=
 .of (zog (P := P) t (S.ev x) fi) (fun v=>.val v .no) (fun R k=>by simp only [zao,ho]) (fun R k=>by simp only [zao,ho,hx])
theorem zs0 {t : TypeId} {x y : Operand} (ho : o.op = .index t x y) (hx : S'.ev x = S.ev x) (hy : S'.ev y = S.ev y) : Uni P A an isRes cal o S S' :=
 .of (zoi (P := P) t (S.ev x) (S.ev y)) (fun v=>.val v .no) (fun R k=>by simp only [zao,ho]) (fun R k=>by simp only [zao,ho,hx,hy])
theorem uni_move {x : Operand} (ho : o.op = .move x) (hx : ∀ t,x ≠ .tmp t) : Uni P A an isRes cal o S S':=by
 cases x with
 | tmp t=>exact absurd rfl (hx t)
 | const c=>exact .inr ⟨.val (zdd P o.type c) .no,fun R k=>by simp only [zao,ho,zgc],fun R k=>by simp only [zao,ho,zgc]⟩
 | func f=>exact .inr ⟨.val (.func f []) .no,fun R k=>by simp only [zao,ho,zgc],fun R k=>by simp only [zao,ho,zgc]⟩
 | global _=>exact .inl fun R k=>by simp only [zao,ho,zgc]
theorem zmz {x : Operand} (ho : o.op = .nilCheck x) (hx : ∀ t,x = .tmp t→(S'.slot t).bare = (S.slot t).bare) : Uni P A an isRes cal o S S':=by
 have e : ∀ (T : St) (R : Type) (k : St→Option R),zao P A an isRes cal o T k = zb1 o x T k := fun T R k=>by simp only [zao,ho]
 unfold Uni
 simp only [e]
 cases x with
 | const c=>exact .inl fun R k=>rfl
 | global g=>exact .inl fun R k=>rfl
 | func f=>exact .inr ⟨.val (.func f []) .no,fun R k=>rfl,fun R k=>rfl⟩
 | tmp t =>
  have hb := hx t rfl
  cases hs : S.slot t with
  | und=>exact .inl fun R k=>by simp only [zb1,hs]
  | lp d off =>
   have hs' := zd7 hb hs
   exact .inr ⟨.lp d off,fun R k=>by simp only [zb1,hs],fun R k=>by simp only [zb1,hs']⟩
  | mp d=>exact .inl fun R k=>by simp only [zb1,hs]
  | val v f =>
   obtain ⟨f',hs'⟩ := zcq hb hs
   cases v with
   | ptr id off=>exact .inr ⟨.val (.ptr id off) .no,fun R k=>by simp only [zb1,hs],fun R k=>by simp only [zb1,hs']⟩
   | cptr cs=>exact .inr ⟨.val (.cptr cs) .no,fun R k=>by simp only [zb1,hs],fun R k=>by simp only [zb1,hs']⟩
   | func fn caps =>
    cases caps with
    | nil=>exact .inr ⟨.val (.func fn []) .no,fun R k=>by simp only [zb1,hs],fun R k=>by simp only [zb1,hs']⟩
    | cons _ _=>exact .inl fun R k=>by simp only [zb1,hs]
   | _=>exact .inl fun R k=>by simp only [zb1,hs]
theorem zkv {ty : TypeId} {x : Operand} {fi : Nat} (ho : o.op = .fieldAddr ty x fi) (hx : ∀ t,x = .tmp t→(S'.slot t).bare = (S.slot t).bare) : Uni P A an isRes cal o S S':=by
 have e : ∀ (T : St) (R : Type) (k : St→Option R),zao P A an isRes cal o T k = zdb P o ty x fi T k := fun T R k=>by simp only [zao,ho]
 unfold Uni
 simp only [e]
 unfold zdb
 cases ze3 P ty with
 | none=>exact .inl fun R k=>rfl
 | some fs =>
  simp only
  cases fs[fi]? with
  | none=>exact .inl fun R k=>rfl
  | some f =>
   simp only
   cases Nat.beq (zah P f.type) 0 with
   | true=>exact .inl fun R k=>rfl
   | false =>
    simp only
    cases x with
    | const c=>exact .inl fun R k=>rfl
    | global g=>exact .inl fun R k=>rfl
    | func f=>exact .inl fun R k=>rfl
    | tmp t =>
     have hb := hx t rfl
     simp only
     cases hs : S.slot t with
     | und=>exact .inl fun R k=>rfl
     | lp d off =>
      rw [zd7 hb hs]
      exact .inr ⟨_,fun R k=>rfl,fun R k=>rfl⟩
     | mp d=>exact .inl fun R k=>rfl
     | val v fl =>
      obtain ⟨f',hs'⟩ := zcq hb hs
      rw [hs']
      cases v with
      | ptr id off=>exact .inr ⟨_,fun R k=>rfl,fun R k=>rfl⟩
      | cptr cs=>exact .inr ⟨_,fun R k=>rfl,fun R k=>rfl⟩
      | _=>exact .inl fun R k=>rfl
def SameL (S S' : St) : Prop := ∀ d,(getL S'.L d).map (·.cells) = (getL S.L d).map (·.cells)
def Uni2 (P : Program) (A : List (Nat × Ann)) (an : Ann) (isRes : Nat→Bool) (cal : Oracle) (o : Oper) (S S' : St) : Prop :=
 (∀ (R : Type) (k : St→Option R),zao P A an isRes cal o S k = none) ∨
 ∃ s s',(∀ (R : Type) (k : St→Option R),zao P A an isRes cal o S k = k (S.putd o.dst s))∧(∀ (R : Type) (k : St→Option R),zao P A an isRes cal o S' k = k (S'.putd o.dst s')) ∧
  s'.bare = s.bare∧(S'.L = S.L→S'.H = S.H→s' = s)
theorem Uni.two (h : Uni P A an isRes cal o S S') : Uni2 P A an isRes cal o S S':=by
 rcases h with h | ⟨s,h1,h2⟩
 ·exact .inl h
 ·exact .inr ⟨s,s,h1,h2,rfl,fun _ _=>rfl⟩
theorem uni_load {ty : TypeId} {x : Operand} (ho : o.op = .load ty x) (hx : ∀ t,x = .tmp t→(S'.slot t).bare = (S.slot t).bare) (hL : ∀ t,x = .tmp t→∀ d off,S.slot t = .lp d off→(getL S'.L d).map (·.cells) = (getL S.L d).map (·.cells)) (hH : zc7 S S' ∨ zdo o S = true) : Uni2 P A an isRes cal o S S':=by
 by_cases hgx : ∃ gi,x = .global gi
 ·obtain ⟨gi,rfl⟩ := hgx
  exact (Uni.of (F := fun R k=>(zfq A gi).bind fun cs=>zge P ty fun ag=>zgh ag (zah P ty) cs 0 k) (Par.bind fun cs=>Par.comp (zf0 ty) fun ag=>zh5 _ _ _ _) (fun v=>.val v .no) (fun R k=>by simp only [zao,ho,zhb]) (fun R k=>by simp only [zao,ho,zhb])).two
 have e : ∀ (T : St) (R : Type) (k : St→Option R),zao P A an isRes cal o T k = zk4 P o ty x T k := fun T R k=>by
  simp only [zao,ho]
  cases x with
  | global gi=>exact absurd ⟨gi,rfl⟩ hgx
  | _=>rfl
 unfold Uni2
 simp only [e]
 have get : ∀ (cells : List AV) (off : Nat),(∀ (f : Fl) (R : Type) (k : Slot→Option R),(zge P ty fun ag=>match ag with
   | true=>br (Nat.ble (off + zah P ty) cells.length) (k (.val (.agg ((cells.drop off).take (zah P ty))) .no)) none
   | false=>(nth cells off).bind fun c=>k (.val c f)) = none) ∨ ∃ c : AV,∃ ag : Bool,∀ (f : Fl) (R : Type) (k : Slot→Option R),(zge P ty fun ag=>match ag with
   | true=>br (Nat.ble (off + zah P ty) cells.length) (k (.val (.agg ((cells.drop off).take (zah P ty))) .no)) none
   | false=>(nth cells off).bind fun c=>k (.val c f)) = k (.val c (match ag with
    | true=>.no
    | false=>f)):=by
  intro cells off
  rcases zf0 (P := P) ty with h | ⟨ag,h⟩
  ·exact .inl fun f R k=>h R _
  ·cases ag with
   | false =>
    cases hn : nth cells off with
    | none=>exact .inl fun f R k=>(h R _).trans rfl
    | some c=>exact .inr ⟨c,false,fun f R k=>(h R _).trans rfl⟩
   | true =>
    cases hb : Nat.ble (off + zah P ty) cells.length with
    | false=>exact .inl fun f R k=>(h R _).trans rfl
    | true=>exact .inr ⟨.agg ((cells.drop off).take (zah P ty)),true,fun f R k=>(h R _).trans rfl⟩
 cases x with
 | const c=>exact .inl fun R k=>rfl
 | global g=>exact .inl fun R k=>rfl
 | func f=>exact .inl fun R k=>rfl
 | tmp t =>
  have hb := hx t rfl
  unfold zk4
  simp only
  cases hs : S.slot t with
  | und=>exact .inl fun R k=>rfl
  | lp d off =>
   rw [zd7 hb hs]
   simp only
   have hLd := hL t rfl d off hs
   cases hL2 : getL S.L d with
   | none=>exact .inl fun R k=>rfl
   | some b =>
    rw [hL2] at hLd
    cases hL3 : getL S'.L d with
    | none=>rw [hL3] at hLd; cases hLd
    | some b' =>
     rw [hL3] at hLd
     have hcell : b'.cells = b.cells := by simpa using hLd
     rcases get b.cells off with hp | ⟨c,ag,hp⟩
     ·exact .inl fun R k=>hp _ R fun s=>k (S.putd o.dst s)
     ·refine .inr ⟨_,.val c (match (generalizing := false) ag with
       | true=>.no
       | false=>match memN off b'.free with
        | true=>.lL d off
        | false=>.no),fun R k=>hp _ R fun s=>k (S.putd o.dst s),fun R k=>?_,rfl,fun h1 h2=>?_⟩
      ·simp only [Option.bind_some,hcell]
       exact hp _ R fun s=>k (S'.putd o.dst s)
      ·rw [h1,hL2] at hL3
       injection hL3 with hL3
       subst hL3
       rfl
  | mp d=>exact .inl fun R k=>rfl
  | val v fl =>
   obtain ⟨f',hs'⟩ := zcq hb hs
   rw [hs']
   have hH' : zc7 S S':=by
    rcases hH with h | h
    ·exact h
    ·simp only [zdo,ho,hs] at h; cases h
   cases v with
   | ptr id off =>
    have hb' := hH' id
    simp only
    cases hL2 : S.H id with
    | none=>exact .inl fun R k=>rfl
    | some b =>
     rw [hL2] at hb'
     cases hL3 : S'.H id with
     | none=>rw [hL3] at hb'; cases hb'
     | some b' =>
     rw [hL3] at hb'
     have hcell : b'.cells = b.cells := by simpa using hb'
     simp only [hL3,Option.bind_some,hcell]
     rcases get b.cells off with hp | ⟨c,ag,hp⟩
     ·exact .inl fun R k=>hp _ R fun s=>k (S.putd o.dst s)
     ·exact .inr ⟨_,_,fun R k=>hp _ R fun s=>k (S.putd o.dst s),fun R k=>hp _ R fun s=>k (S'.putd o.dst s),rfl,fun _ _=>rfl⟩
   | cptr cs =>
    rcases get cs 0 with hp | ⟨c,ag,hp⟩
    ·exact .inl fun R k=>hp _ R fun s=>k (S.putd o.dst s)
    ·exact .inr ⟨_,_,fun R k=>hp _ R fun s=>k (S.putd o.dst s),fun R k=>hp _ R fun s=>k (S'.putd o.dst s),rfl,fun _ _=>rfl⟩
   | _=>exact .inl fun R k=>rfl
theorem zoc {st dt : TypeId} {x : Operand} (ho : o.op = .convert st dt x) (hx : ∀ t,evT P S' t x = evT P S t x) (hH : zc7 S S' ∨ ∀ id off len z,evT P S st x ≠ .arr id off len z) : Uni P A an isRes cal o S S':=by
 have e : ∀ (T : St) (R : Type) (k : St→Option R),zao P A an isRes cal o T k = zap P o st dt (evT P T st x) T k := fun T R k=>by simp only [zao,ho]
 unfold Uni
 simp only [e,hx]
 have fin : ∀ (F : ∀ R : Type,(AV→Option R)→Option R),Par F→(∀ (T : St),(T = S ∨ T = S')→∀ (R : Type) (k : St→Option R),zap P o st dt (evT P S st x) T k = F R fun v=>k (T.putd o.dst (.val v .no))) →
   (∀ (R : Type) (k : St→Option R),zap P o st dt (evT P S st x) S k = none) ∨ ∃ s,(∀ (R : Type) (k : St→Option R),zap P o st dt (evT P S st x) S k = k (S.putd o.dst s))∧∀ (R : Type) (k : St→Option R),zap P o st dt (evT P S st x) S' k = k (S'.putd o.dst s):=by
  intro F hp hF
  rcases hp with hp | ⟨v,hp⟩
  ·exact .inl fun R k=>(hF S (.inl rfl) R k).trans (hp R _)
  ·exact .inr ⟨.val v .no,fun R k=>(hF S (.inl rfl) R k).trans (hp R _),fun R k=>(hF S' (.inr rfl) R k).trans (hp R _)⟩
 have dead : (∀ (T : St) (R : Type) (k : St→Option R),zap P o st dt (evT P S st x) T k = none)→(∀ (R : Type) (k : St→Option R),zap P o st dt (evT P S st x) S k = none) ∨ ∃ s,(∀ (R : Type) (k : St→Option R),zap P o st dt (evT P S st x) S k = k (S.putd o.dst s))∧∀ (R : Type) (k : St→Option R),zap P o st dt (evT P S st x) S' k = k (S'.putd o.dst s) := fun h=>.inl fun R k=>h S R k
 cases h1 : P.underlying st with
 | none=>exact dead fun T R k=>by simp only [zap,h1]
 | some a =>
  cases h2 : P.underlying dt with
  | none=>exact dead fun T R k=>by unfold zap; rw [h1,h2]; cases a <;> rfl
  | some b =>
   cases a <;> first | (refine dead fun T R k=>?_; simp only [zap,h1,h2]; done) | skip
   ·cases b <;> first | (refine dead fun T R k=>?_; simp only [zap,h1,h2]; done) | skip
    rename_i i j
    exact fin (fun R k=>(evT P S st x).int? fun _ n=>k (.int j (j.wrap n))) (Par.int? fun _ _=>Par.ret _) fun T _ R k=>by simp only [zap,h1,h2]
   ·cases b <;> first | (refine dead fun T R k=>?_; simp only [zap,h1,h2]; done) | skip
    ·exact fin (fun R k=>(evT P S st x).str? fun s=>k (.str s)) (Par.str? fun _=>Par.ret _) fun T _ R k=>by simp only [zap,h1,h2]
    ·rename_i e
     cases h3 : P.underlying e with
     | none=>exact fin (fun R k=>(evT P S st x).str? fun s=>none) (Par.str? fun _=>Par.none') fun T _ R k=>by simp only [zap,h1,h2,h3]
     | some c =>
      cases c <;> first | (refine fin (fun R k=>(evT P S st x).str? fun s=>none) (Par.str? fun _=>Par.none') fun T _ R k=>?_; simp only [zap,h1,h2,h3]; done) | skip
      rename_i kk
      cases kk <;> first | (refine fin (fun R k=>(evT P S st x).str? fun s=>none) (Par.str? fun _=>Par.none') fun T _ R k=>?_; simp only [zap,h1,h2,h3]; done) | skip
      cases h4 : Nat.beq (zah P e) 1 with
      | false=>exact fin (fun R k=>(evT P S st x).str? fun s=>none) (Par.str? fun _=>Par.none') fun T _ R k=>by simp only [zap,h1,h2,h3,h4]
      | true=>exact fin (fun R k=>(evT P S st x).str? fun s=>k (.vs 1 false (s.map zcy))) (Par.str? fun _=>Par.ret _) fun T _ R k=>by simp only [zap,h1,h2,h3,h4]
   ·rename_i e
    cases b <;> first | (refine dead fun T R k=>?_; simp only [zap,h1,h2]; done) | skip
    cases h3 : P.underlying e with
    | none=>exact dead fun T R k=>by simp only [zap,h1,h2,h3]
    | some c =>
     cases c <;> first | (refine dead fun T R k=>?_; simp only [zap,h1,h2,h3]; done) | skip
     rename_i kk
     cases kk <;> first | (refine dead fun T R k=>?_; simp only [zap,h1,h2,h3]; done) | skip
     have hh : ∀ (T : St),(T = S ∨ T = S')→∀ (R : Type) (k : List AV→Option R),zbo false 1 (evT P S st x) T k = zbo false 1 (evT P S st x) S k:=by
      rintro T (rfl | rfl) R k
      ·rfl
      ·exact zg7 _ _ _ _ hH
     by_cases hstr : ∃ s,evT P S st x = .str s
     ·obtain ⟨s,hs⟩ := hstr
      exact dead fun T R k=>by simp only [zap,h1,h2,h3,hs]
     ·refine fin (fun R k=>zbo false 1 (evT P S st x) S fun l=>(zdp l).bind fun s=>k (.str s)) (Par.comp (zfz _ _ _) fun l=>Par.bind fun s=>Par.ret _) fun T hT R k=>?_
      rw [← hh T hT]
      simp only [zap,h1,h2,h3]
      cases hv : evT P S st x with
      | str s=>exact absurd ⟨s,hv⟩ hstr
      | _=>rfl
theorem znp {T : Type} {len : Nat} {lo hi : Option Operand} {G : Nat→Nat→∀ R : Type,(T→Option R)→Option R} (h : ∀ l hh,Par (G l hh)) : Par fun R k=>zbk S len lo hi fun l hh=>G l hh R k :=
 Par.comp (F := fun R (k : Nat × Nat→Option R)=>zbk S len lo hi fun l h=>k (l,h)) (G := fun p R k=>G p.1 p.2 R k) (zhs (S := S) (S' := S) len lo hi (fun _ _=>rfl) (fun _ _=>rfl)).1 fun p=>h p.1 p.2
theorem zmq (t : TypeId) (x : Operand) (lo hi mx : Option Operand) : Par fun _ k=>zgn P t x lo hi mx S k:=by
 unfold zgn
 cases P.underlying t with
 | none=>exact Par.none'
 | some a =>
  cases a with
  | string =>
   cases mx with
   | some m=>exact Par.none'
   | none=>exact Par.str? fun s=>znp fun l h=>Par.ret _
  | slice el =>
   simp only
   cases Nat.beq (zah P el) 0 with
   | true=>exact Par.none'
   | false =>
    simp only
    cases S.ev x with
    | vs z tg v =>
     simp only
     cases Nat.beq z (zah P el) with
     | false=>exact Par.none'
     | true =>
      cases mx with
      | none=>exact znp fun l h=>Par.ret _
      | some m =>
       cases hi with
       | none=>exact Par.none'
       | some hh=>exact znp fun l h=>Par.int? fun _ j=>Par.brn (Par.ret _)
    | arr id off len z =>
     simp only
     cases Nat.beq z (zah P el) with
     | false=>exact Par.none'
     | true =>
      cases mx with
      | none=>exact znp fun l h=>Par.br (fun _=>Par.ret _) fun _=>Par.ret _
      | some m =>
       cases hi with
       | none=>exact Par.none'
       | some hh=>exact znp fun l h=>Par.int? fun _ j=>Par.brn (Par.br (fun _=>Par.ret _) fun _=>Par.ret _)
    | _=>exact Par.none'
  | _=>exact Par.none'
theorem zsv {ty : TypeId} {x : Operand} {lo hi mx : Option Operand} (ho : o.op = .slice ty x lo hi mx) (hx : S'.ev x = S.ev x) (hlo : ∀ y,lo = some y→S'.ev y = S.ev y) (hhi : ∀ y,hi = some y→S'.ev y = S.ev y) (hmx : ∀ y,mx = some y→S'.ev y = S.ev y) : Uni P A an isRes cal o S S':=by
 refine .of (zmq (P := P) (S := S) ty x lo hi mx) (fun v=>.val v .no) (fun R k=>by simp only [zao,ho,zim]) (fun R k=>?_)
 have hb : ∀ (len : Nat) (R : Type) (k : Nat→Nat→Option R),zbk S' len lo hi k = zbk S len lo hi k := fun len R k=>(zhs len lo hi hlo hhi).2 R k
 simp only [zao,ho,zim]
 unfold zgn
 cases mx with
 | none=>simp only [hx,hb]
 | some m=>simp only [hx,hb,hmx m rfl]
theorem zli {ty : TypeId} {x ix : Operand} (ho : o.op = .indexAddr ty x ix) (hx : ∀ t,x = .tmp t→(S'.slot t).bare = (S.slot t).bare) (hev : S'.ev x = S.ev x) (hix : S'.ev ix = S.ev ix) : Uni P A an isRes cal o S S':=by
 by_cases hgx : ∃ gi,x = .global gi
 ·obtain ⟨gi,rfl⟩ := hgx
  refine Uni.of (F := fun R k=>(zfq A gi).bind fun cs=>(S.ev ix).int? fun _ i=>idxG P ty cs i k) (Par.bind fun cs=>Par.int? fun _ i=>?_) (fun v=>.val v .no) (fun R k=>by simp only [zao,ho,zcv]) (fun R k=>by simp only [zao,ho,zcv,hix])
  unfold idxG
  cases P.underlying ty with
  | none=>exact Par.none'
  | some dd =>
   cases dd <;> first | exact Par.none' | skip
   rename_i len el
   simp only
   cases Nat.beq (zah P el) 0 with
   | true=>exact Par.none'
   | false=>exact Par.brn (Par.brn (Par.brn (Par.ret _)))
 have e : ∀ (T : St) (R : Type) (k : St→Option R),zao P A an isRes cal o T k = zdc P o ty x ix T k := fun T R k=>by
  simp only [zao,ho]
  cases x with
  | global gi=>exact absurd ⟨gi,rfl⟩ hgx
  | _=>rfl
 unfold Uni
 simp only [e]
 unfold zdc
 rw [hix,hev]
 have fin : ∀ (F : ∀ R : Type,(Slot→Option R)→Option R),Par F→(∀ R (k : St→Option R),(F R fun s=>k (S.putd o.dst s)) = none) ∨ ∃ s,(∀ R (k : St→Option R),(F R fun s=>k (S.putd o.dst s)) = k (S.putd o.dst s))∧∀ R (k : St→Option R),(F R fun s=>k (S'.putd o.dst s)) = k (S'.putd o.dst s):=by
  intro F hp
  rcases hp with hp | ⟨v,hp⟩
  ·exact .inl fun R k=>hp R _
  ·exact .inr ⟨v,fun R k=>hp R _,fun R k=>hp R _⟩
 cases hi : S.ev ix with
 | int kk i =>
  simp only [AV.int?]
  cases P.underlying ty with
  | none=>exact .inl fun R k=>rfl
  | some a =>
   cases a with
   | slice el =>
    simp only
    cases Nat.beq (zah P el) 0 with
    | true=>exact .inl fun R k=>rfl
    | false =>
     simp only
     cases S.ev x with
     | vs z tg l =>
      simp only
      cases Nat.beq z (zah P el) with
      | false=>exact .inl fun R k=>rfl
      | true=>exact fin (fun R k=>br (decide (0 ≤ i)) (br (decide (i < (l.length : Int))) ((nth l i.toNat).bind fun c=>k (.val (.cptr c.cells) .no)) none) none) (Par.brn (Par.brn (Par.bind fun c=>Par.ret (Slot.val (.cptr c.cells) .no))))
     | arr id off len z =>
      simp only
      cases Nat.beq z (zah P el) with
      | false=>exact .inl fun R k=>rfl
      | true=>exact fin (fun R k=>br (decide (0 ≤ i)) (br (decide (i < (len : Int))) (k (.val (.ptr id (off + i.toNat * z)) .no)) none) none) (Par.brn (Par.brn (Par.ret _)))
     | _=>exact .inl fun R k=>rfl
   | array len el =>
    simp only
    cases x with
    | tmp tx =>
     have hb := hx tx rfl
     simp only
     cases Nat.beq (zah P el) 0 with
     | true=>exact .inl fun R k=>rfl
     | false =>
      simp only
      cases hs : S.slot tx with
      | und=>exact .inl fun R k=>rfl
      | lp d off =>
       rw [zd7 hb hs]
       exact fin (fun R k=>br (decide (0 ≤ i)) (br (decide (i < (len : Int))) (k (.lp d (off + i.toNat * zah P el))) none) none) (Par.brn (Par.brn (Par.ret _)))
      | mp d=>exact .inl fun R k=>rfl
      | val v f =>
       obtain ⟨f',hs'⟩ := zcq hb hs
       rw [hs']
       cases v with
       | ptr id off=>exact fin (fun R k=>br (decide (0 ≤ i)) (br (decide (i < (len : Int))) (k (.val (.ptr id (off + i.toNat * zah P el)) .no)) none) none) (Par.brn (Par.brn (Par.ret _)))
       | _=>exact .inl fun R k=>rfl
    | _=>exact .inl fun R k=>rfl
   | _=>exact .inl fun R k=>rfl
 | _=>exact .inl fun R k=>rfl
theorem zoy (t : TypeId) (parts : List (Nat × Operand)) : Par fun _ k=>zh3 P t parts S k:=by
 unfold zh3
 cases zeroCells P t with
 | none=>exact Par.none'
 | some z =>
  simp only
  cases P.underlying t with
  | none=>exact Par.none'
  | some d =>
   cases d with
   | struct fs =>
    simp only
    cases zfn P fs.toList with
    | none=>exact Par.none'
    | some pl=>exact Par.comp (zg9 _ _ _) fun cs=>Par.ret _
   | array n e =>
    simp only
    cases P.info? e with
    | none=>exact Par.none'
    | some ie=>exact Par.comp (zg9 _ _ _) fun cs=>Par.ret _
   | _=>exact Par.none'
theorem zi1 (t : TypeId) (len : Nat) (parts : List (Nat × Operand)) : Par fun _ k=>zc2 P t len parts S k:=by
 unfold zc2
 cases zjw P t with
 | none=>exact Par.none'
 | some e =>
  simp only
  cases zeroCells P e with
  | none=>exact Par.none'
  | some z =>
   simp only
   cases Nat.beq (zah P e) 0 with
   | true=>exact Par.none'
   | false =>
    cases Nat.ble (len * zah P e) 16777216 with
    | false=>exact Par.none'
    | true =>
     cases Nat.beq z.length (zah P e) with
     | false=>exact Par.none'
     | true =>
      cases (tAgg P e || Nat.beq (zah P e) 1) with
      | false=>exact Par.none'
      | true=>exact Par.comp (zg9 _ _ _) fun cs=>Par.ret _
theorem zt7 {t : TypeId} {parts : Array (Nat × Operand)} (ho : o.op = .build t parts) (hx : ∀ i x,(i,x) ∈ parts.toList→∀ t,evT P S' t x = evT P S t x) : Uni P A an isRes cal o S S':=by
 refine .of (zoy (P := P) (S := S) t parts.toList) (fun v=>.val v .no) (fun R k=>by simp only [zao,ho]) (fun R k=>?_)
 simp only [zao,ho,zh3]
 simp only [zeb (P := P) (S := S) (S' := S') _ parts.toList hx]
theorem zjo {t : TypeId} {n : Nat} {parts : Array (Nat × Operand)} (ho : o.op = .buildSlice t n parts) (hx : ∀ i x,(i,x) ∈ parts.toList→∀ t,evT P S' t x = evT P S t x) : Uni P A an isRes cal o S S':=by
 refine .of (zi1 (P := P) (S := S) t n parts.toList) (fun v=>.val v .no) (fun R k=>by simp only [zao,ho]) (fun R k=>?_)
 simp only [zao,ho,zc2]
 simp only [zeb (P := P) (S := S) (S' := S') _ parts.toList hx]
end
end Go.Vai
end
section
namespace Go.Vai
section
variable {eb ebj ebi : Bool} {P : Program} {A : List (Nat × Ann)} {an : Ann} {isRes : Nat→Bool} {cal : Oracle} {o : Oper} {S S' : St} {l : List Nat}
theorem look_mem {ops : Array Oper} {t : Nat} (h : Operand.tmp t ∈ o.op.operands) : t ∈ o.looksAt ops :=
 List.mem_append_left _ (List.mem_filterMap.2 ⟨.tmp t,by simpa using h,rfl⟩)
theorem zmu {sz : Nat} {c : Value} {id off len z : Nat} (h : zcz sz c = .arr id off len z) : False:=by
 unfold zcz at h
 split at h <;> first | cases h | (split at h <;> cases h)
theorem znv {t : TypeId} {c : Value} {id off len z : Nat} (h : zdd P t c = .arr id off len z) : False:=by
 unfold zdd at h
 split at h
 ·split at h <;> cases h
 ·exact zmu h
theorem uni1 (hcl : clOf A eb o = 1) (hl : ∀ t,Operand.tmp t ∈ o.op.operands→t ∈ l) (hs : Same S S' l) (hH : zc7 S S' ∨ zdo o S = true) : Uni2 P A an isRes cal o S S':=by
 have ev : ∀ x,x ∈ o.op.operands→S'.ev x = S.ev x := fun x hx=>hs.ev fun t ht=>hl t (ht ▸ hx)
 have evT' : ∀ x,x ∈ o.op.operands→∀ ty,evT P S' ty x = evT P S ty x := fun x hx ty=>hs.evT (fun t ht=>hl t (ht ▸ hx)) ty
 have sl : ∀ x,x ∈ o.op.operands→∀ t,x = .tmp t→(S'.slot t).bare = (S.slot t).bare := fun x hx t ht=>hs.slot t (hl t (ht ▸ hx))
 cases hop : o.op with
 | move x =>
  refine (uni_move hop fun t ht=>?_).two
  subst ht
  simp [clOf,hop] at hcl
 | pick c x y =>
  rw [hop] at ev
  exact (uni_pick hop (ev c (by simp [Op.operands])) (ev x (by simp [Op.operands])) (ev y (by simp [Op.operands]))).two
 | binOp op t x y ty =>
  rw [hop] at ev
  exact (zro hop (ev x (by simp [Op.operands])) (ev y (by simp [Op.operands]))).two
 | makeInterface t x =>
  rw [hop] at evT'
  exact (zr4 hop (evT' x (by simp [Op.operands]) t)).two
 | unOp op t x =>
  rw [hop] at ev
  exact (uni_unOp hop (ev x (by simp [Op.operands]))).two
 | convert st dt x =>
  rw [hop] at evT' sl
  refine (zoc hop (evT' x (by simp [Op.operands])) ?_).two
  rcases hH with h | h
  ·exact .inl h
  ·refine .inr fun id off len z he=>?_
   cases x with
   | tmp t =>
    have he' : (S.slot t).av = .arr id off len z := he
    cases hst : S.slot t with
    | val v f =>
     rw [hst] at he'
     have : v = .arr id off len z := he'
     subst this
     simp [zdo,hop,hst] at h
    | _=>rw [hst] at he'; cases he'
   | const c =>
    exact znv (P := P) he
   | func f=>cases he
   | global g=>cases he
 | slice t x lo hi mx =>
  rw [hop] at ev
  exact (zsv hop (ev x (by simp [Op.operands])) (fun y hy=>ev y (by subst hy; simp [Op.operands])) (fun y hy=>ev y (by subst hy; simp [Op.operands])) (fun y hy=>ev y (by subst hy; simp [Op.operands]))).two
 | field t x fi =>
  rw [hop] at ev
  exact (zt3 hop (ev x (by simp [Op.operands]))).two
 | fieldAddr t x fi =>
  rw [hop] at sl
  exact (zkv hop (sl x (by simp [Op.operands]))).two
 | nilCheck x =>
  rw [hop] at sl
  exact (zmz hop (sl x (by simp [Op.operands]))).two
 | index t x y =>
  rw [hop] at ev
  exact (zs0 hop (ev x (by simp [Op.operands])) (ev y (by simp [Op.operands]))).two
 | indexAddr t x y =>
  rw [hop] at ev sl
  exact (zli hop (sl x (by simp [Op.operands])) (ev x (by simp [Op.operands])) (ev y (by simp [Op.operands]))).two
 | load t x =>
  rw [hop] at sl
  exact uni_load hop (sl x (by simp [Op.operands])) (fun t ht=>hs.L t (hl t (by rw [hop,← ht]; simp [Op.operands]))) hH
 | build t ps =>
  rw [hop] at evT'
  exact (zt7 hop fun i x hx=>evT' x (by simp [Op.operands]; exact ⟨i,by simpa using hx⟩)).two
 | buildSlice t n ps =>
  rw [hop] at evT'
  exact (zjo hop fun i x hx=>evT' x (by simp [Op.operands]; exact ⟨i,by simpa using hx⟩)).two
 | call c =>
  rw [hop] at ev evT'
  obtain ⟨callee,args,tys⟩ := c
  cases callee with
  | builtin b =>
   cases b with
   | len =>
    have e : ∀ (T : St) (R : Type) (k : St→Option R),zao P A an isRes cal o T k = zbm P .len o tys.toList args.toList T k := fun T R k=>by simp only [zao,hop]
    unfold Uni2
    simp only [e,zbm]
    match hty : tys.toList,har : args.toList with
    | [t],[x] =>
     have hx : x ∈ (Op.call { callee := .builtin .len,args := args,argTypes := tys }).operands:=by
      have : x ∈ args := by rw [← Array.mem_toList_iff,har]; simp
      simp [Op.operands,Call.operands,this]
     simp only [evT' x hx t]
     rcases zse (P := P) t (evT P S t x) with h | ⟨n,h⟩
     ·exact .inl fun R k=>h R _
     ·exact .inr ⟨_,_,fun R k=>h R fun n=>k (S.putd o.dst (.val (.int .i64 (n : Int)) .no)),fun R k=>h R fun n=>k (S'.putd o.dst (.val (.int .i64 (n : Int)) .no)),rfl,fun _ _=>rfl⟩
    | [],_=>exact .inl fun R k=>rfl
    | [_],[]=>exact .inl fun R k=>rfl
    | [_],_ :: _ :: _=>exact .inl fun R k=>rfl
    | _ :: _ :: _,_=>exact .inl fun R k=>rfl
   | min =>
    have e : ∀ (T : St) (R : Type) (k : St→Option R),zao P A an isRes cal o T k = zbm P .min o tys.toList args.toList T k := fun T R k=>by simp only [zao,hop]
    unfold Uni2
    simp only [e,zbm]
    match har : args.toList with
    | []=>exact .inl fun R k=>rfl
    | x :: l =>
     have hm : ∀ y,y ∈ x :: l→S'.ev y = S.ev y := fun y hy=>ev y (by
      have : y ∈ args := by rw [← Array.mem_toList_iff,har]; exact hy
      simp [Op.operands,Call.operands,this])
     simp only [hm x List.mem_cons_self,zf7 (P := P) false l _ _ fun y hy=>hm y (List.mem_cons_of_mem _ hy)]
     rcases zh0 (P := P) false S l (S.ev x) with h | ⟨n,h⟩
     ·exact .inl fun R k=>h R _
     ·exact .inr ⟨_,_,fun R k=>h R fun n=>k (S.putd o.dst (.val n .no)),fun R k=>h R fun n=>k (S'.putd o.dst (.val n .no)),rfl,fun _ _=>rfl⟩
   | max =>
    have e : ∀ (T : St) (R : Type) (k : St→Option R),zao P A an isRes cal o T k = zbm P .max o tys.toList args.toList T k := fun T R k=>by simp only [zao,hop]
    unfold Uni2
    simp only [e,zbm]
    match har : args.toList with
    | []=>exact .inl fun R k=>rfl
    | x :: l =>
     have hm : ∀ y,y ∈ x :: l→S'.ev y = S.ev y := fun y hy=>ev y (by
      have : y ∈ args := by rw [← Array.mem_toList_iff,har]; exact hy
      simp [Op.operands,Call.operands,this])
     simp only [hm x List.mem_cons_self,zf7 (P := P) true l _ _ fun y hy=>hm y (List.mem_cons_of_mem _ hy)]
     rcases zh0 (P := P) true S l (S.ev x) with h | ⟨n,h⟩
     ·exact .inl fun R k=>h R _
     ·exact .inr ⟨_,_,fun R k=>h R fun n=>k (S.putd o.dst (.val n .no)),fun R k=>h R fun n=>k (S'.putd o.dst (.val n .no)),rfl,fun _ _=>rfl⟩
   | append =>
    exfalso
    simp only [clOf,hop] at hcl
    repeat' split at hcl
    all_goals cases hcl
   | _=>simp [clOf,hop] at hcl
  | value f =>
   exfalso
   cases f with
   | func g =>
    simp only [clOf,hop] at hcl
    repeat' split at hcl
    all_goals cases hcl
   | _=>simp [clOf,hop] at hcl
  | invoke _ _=>simp [clOf,hop] at hcl
 | extract _ _=>simp only [clOf,hop] at hcl; split at hcl <;> cases hcl
 | alloc _ =>
  simp only [clOf,hop] at hcl
  split at hcl <;> cases hcl
 | _=>simp [clOf,hop] at hcl
end
end Go.Vai
end
section
namespace Go.Vai
section
variable {g0 : G} {w0 : World} {Ex : Nat→Prop} {g g' : G} {S : St} {a : Act} {w w' : World} {P : Program} {R : Type} {r : R} {o : Oper} {A : List (Nat × Ann)} {cal : Oracle}
theorem Rel.reslot {S' : St} (h : Rel g0 w0 Ex g S a w) (hL : S'.L = S.L) (hM : S'.M = S.M) (hH : S'.H = S.H) (hnx : S'.nx = S.nx) (hlen : S'.sl.length = S.sl.length)
  (hs : ∀ t,S'.slot t = S.slot t ∨ S'.slot t = .und ∨ ∃ v,S'.slot t = .val v .no∧Rep g w (a.tmps.getD t undef) v) : Rel g0 w0 Ex g S' a w:=by
 refine ⟨h.inv,by rw [hH,hnx]; exact h.h,by rw [hL]; exact h.l,by rw [hM]; exact h.m,by rw [hlen]; exact h.len,fun t=>?_,h.fr,h.nodef⟩
 have key : ∀ q v' fq,Fl.claim fq = true→S'.slot q = .val v' fq→S.slot q = .val v' fq:=by
  intro q v' fq hcq hq
  rcases hs q with h1 | h1 | ⟨v,h1,_⟩
  ·rw [← h1]; exact hq
  ·rw [h1] at hq; cases hq
  ·rw [h1] at hq; injection hq with _ e; subst e; cases hcq
 rcases hs t with h1 | h1 | ⟨v,h1,h2⟩
 ·rw [h1]
  have h3 := h.sl t
  cases hst : S.slot t with
  | und=>trivial
  | lp d off=>rw [hst] at h3; exact h3
  | mp d=>rw [hst] at h3; exact h3
  | val v f =>
   rw [hst] at h3
   refine ⟨h3.1,?_⟩
   cases f with
   | no=>trivial
   | own=>exact h3.2
   | lS q=>exact fun v' fq hcq hq=>h3.2 v' fq hcq (key q v' fq hcq hq)
   | lL d off=>exact fun b hb hoff=>h3.2 b (by rw [← hL]; exact hb) hoff
   | lH id off=>exact fun b hb hoff=>h3.2 b (by rw [← hH]; exact hb) hoff
   | comps cs=>exact h3.2
 ·rw [h1]; trivial
 ·rw [h1]; exact ⟨h2,trivial⟩
theorem Rel.put_und (h : Rel g0 w0 Ex g S a w) {d : Nat} (hd : S.slot d = .und) (u : Value) : Rel g0 w0 Ex g S (a.put (some d) u) w:=by
 refine ⟨h.inv,h.h,h.l,h.m,by rw [zig]; exact h.len,fun t=>?_,h.fr,by rw [zda]; exact h.nodef⟩
 have hs := h.sl t
 have key : ∀ q,S.slot q ≠ .und→(a.put (some d) u).tmps.getD q undef = a.tmps.getD q undef:=by
  intro q hq
  rw [zbx,if_neg]
  rintro ⟨rfl,_⟩
  exact hq hd
 cases hst : S.slot t with
 | und=>trivial
 | lp e off =>
  rw [hst] at hs
  obtain ⟨B,h1,h2⟩ := hs
  exact ⟨B,h1,by rw [key t (by rw [hst]; simp)]; exact h2⟩
 | mp e =>
  rw [hst] at hs
  obtain ⟨B,h1,h2⟩ := hs
  exact ⟨B,h1,by rw [key t (by rw [hst]; simp)]; exact h2⟩
 | val v f =>
  rw [hst] at hs
  have e := key t (by rw [hst]; simp)
  refine ⟨by rw [e]; exact hs.1,?_⟩
  rw [e]
  cases f with
  | lS q =>
   intro v' fq hcq hq
   rw [key q (by rw [hq]; simp)]
   exact hs.2 v' fq hcq hq
  | _=>exact hs.2
theorem Rel.world (h : Rel g0 w0 Ex g S a w) (hh : w'.heap = w.heap) (h1 : w'.os = w.os) (h2 : w'.tape = w.tape) (h3 : w'.output = w.output) : Rel g0 w0 Ex g S a w':=by
 have hc : ∀ p,w'.cell? p = w.cell? p := fun p=>by simp only [World.cell?,hh]
 exact h.grow (g' := g) ⟨⟨fun _ _ h=>h,fun _=>Nat.le_refl _,fun B o _=>hc _⟩,h1,h2,h3,by rw [hh]; exact Nat.le_refl _,fun B _ _=>⟨by rw [hh],rfl,rfl⟩⟩
  ⟨fun B hB=>h.inv.new B (by rw [← hh]; exact hB),h.inv.ph,h.inv.pl,h.inv.injh,h.inv.injl⟩ h.h.lt
theorem zkm (l : List Nat) : ∀ (sl : List Slot) (i t : Nat),nthS (zjn l i sl) t = match memN (i + t) l with
  | true=>(match nthS sl t with
   | .val v _=>.val v .no
   | _=>.und)
  | false=>.und
 | [],i,t=>by cases h : memN (i + t) l <;> simp [zjn,nthS]
 | s :: r,i,0=>by simp [zjn,nthS]; rfl
 | s :: r,i,t + 1=>by
  have := zkm l r (i + 1) t
  rw [show i + 1 + t = i + (t + 1) by omega] at this
  simpa [zjn,nthS] using this
theorem zdl (l : List Nat) : ∀ (sl : List Slot) (i : Nat),(zjn l i sl).length = sl.length
 | [],_=>rfl
 | _ :: r,i=>by simp [zjn,zdl l r (i + 1)]
theorem zep (S : St) (l : List Nat) (t : Nat) : (S.mask l).slot t = match memN t l with
  | true=>(match S.slot t with
   | .val v _=>.val v .no
   | _=>.und)
  | false=>.und:=by
 have := zkm l S.sl 0 t
 rw [Nat.zero_add] at this
 exact this
theorem zll : ∀ {l l' : List Slot},l.length = l'.length→(∀ t,nthS l t = nthS l' t)→l = l'
 | [],[],_,_=>rfl
 | x :: l,y :: l',hl,h=>by
  have h0 := h 0
  simp only [nthS] at h0
  rw [h0,zll (l := l) (l' := l') (by simpa using hl) (fun t=>h (t + 1))]
theorem zqa {S' : St} {l : List Nat} (hlen : S'.sl.length = S.sl.length) (h : ∀ t ∈ l,(S'.mask l).slot t = (S.mask l).slot t) : S'.mask l = S.mask l:=by
 have : zjn l 0 S'.sl = zjn l 0 S.sl:=by
  apply zll (by rw [zdl,zdl]; exact hlen)
  intro t
  have e1 := zep S' l t
  have e2 := zep S l t
  cases hm : memN t l with
  | false=>rw [hm] at e1 e2; exact e1.trans e2.symm
  | true=>exact h t (zbg.1 hm)
 simp only [St.mask,this]
theorem wp_put {K : Act→World→Prop} {Q : Exit→Act→World→Prop} (hK : ∀ a' w',K a' w'→a'.defers = []) (_hna : a.defers = []) (h : o.wp P a w K Q) : o.wp P a w (fun a' w'=>(∃ u,a' = a.put o.dst u)∧K a' w') Q:=by
 unfold Oper.wp at *
 generalize (execOp a.eval o).run P w = rr at *
 cases rr with
 | ok n w' =>
  cases n <;> simp only [Oper.upon] at h ⊢
  case value v=>exact ⟨⟨v,rfl⟩,h⟩
  case skip=>exact ⟨⟨undef,rfl⟩,h⟩
  case defer d =>
   have := hK _ _ h
   rw [zda] at this
   cases this
  case enter f args =>
   refine Calls.mono h fun e w'' he=>?_
   cases e with
   | returned v=>exact ⟨⟨v,rfl⟩,he⟩
   | _=>exact he
  case row row args=>exact Rows.mono h fun v w'' he=>⟨⟨v,rfl⟩,he⟩
 | halt x w'=>cases x <;> simp only [Oper.upon] at h ⊢ <;> exact h
def vOp (P : Program) (A : List (Nat × Ann)) (an : Ann) (isRes : Nat→Bool) (cal : Oracle) (o : Oper) (l : List Nat) (S : St) : Option AV :=
 (zao P A an isRes cal o (S.mask l) some).bind fun S'=>match o.dst with
  | Option.none=>Option.none
  | some d=>match S'.slot d with
   | .val v _=>some v
   | _=>Option.none
theorem vOp_ok {an : Ann} {isRes : Nat→Bool} {l : List Nat} {T : St} {v : AV} (hN : ∀ (f : Nat) (fn : Func),P.funcs[f]? = some fn→fn.name ≠ "runtime.NumGoroutine") (hcal : zc6 P A cal) (hgl : zbf A g0 w0)
  (h : vOp P A an isRes cal o l T = some v) (hp : v.pure = true) (hT : T.sl.length = S.sl.length) (hl : ∀ t ∈ l,(∃ x f,T.slot t = .val x f∧x.pure = true∧Rep g w (a.tmps.getD t undef) x) ∨ ∀ x f,T.slot t ≠ .val x f)
  {d : Nat} (hdst : o.dst = some d) (hd : S.slot d = .und) (hdlt : d < S.sl.length)
  (hg : Rel g0 w0 Ex g S a w) (Q : Exit→Act→World→Prop) (K : Act→World→Prop)
  (hK : ∀ g' u w',Rel g0 w0 Ex g' S (a.put o.dst u) w'→Ext g w g' w'→Rep g' w' u v→K (a.put o.dst u) w') : o.wp P a w K Q:=by
 unfold vOp at h
 obtain ⟨S1,h1,h2⟩ := zai h
 rw [hdst] at h2
 simp only at h2
 have hS1 : ∃ f,S1.slot d = .val v f:=by
  split at h2
  ·rename_i x f hx
   injection h2 with e
   subst e
   exact ⟨f,hx⟩
  ·cases h2
 obtain ⟨f,hS1⟩ := hS1
 have hrel : Rel g.none w (fun B=>g.none.role B ≠ .ext) g.none (T.mask l) a w:=by
  refine ⟨zpt hg.inv,znb,fun d b hb=>(by cases hb),fun d b hb=>(by cases hb),?_,fun t=>?_,⟨Ext.refl _ _,rfl,rfl,rfl,Nat.le_refl _,fun _ _ _=>⟨rfl,rfl⟩,fun B hB=>.inr hB⟩,hg.nodef⟩
  ·show (zjn l 0 T.sl).length = _
   rw [zdl,hT]; exact hg.len
  ·rw [zep]
   cases hm : memN t l with
   | false=>trivial
   | true =>
    rcases hl t (zbg.1 hm) with ⟨x,f,h3,h4,h5⟩ | h3
    ·rw [h3]
     exact ⟨h5.pure h4 g.none (fun _=>Nat.le_refl _),trivial⟩
    ·cases hs : T.slot t with
     | val x f=>exact absurd hs (h3 x f)
     | _=>trivial
 have hw := wp_put (fun a' w' hk=>by obtain ⟨S',⟨g',hg'⟩,_⟩ := hk; exact hg'.nodef) hg.nodef (zcr hN hcal (zbf.pure (g' := g.none) (hgl.ext hg.fr.ext) fun _=>Nat.le_refl _) h1 hrel Q)
 refine Oper.wp_mono ?_ hw
 rintro a' w' ⟨⟨u,rfl⟩,S',⟨g',hg'⟩,hS'⟩
 injection hS' with hS'
 subst hS'
 have hslot := hg'.sl d
 rw [hS1] at hslot
 have hrep : Rep g' w' u v:=by
  have := hslot.1
  rw [hdst,zbx,if_pos ⟨rfl,by rw [← hg.len]; exact hdlt⟩] at this
  exact this
 have old : ∀ B,B < w.heap.size→w'.heap[B]? = w.heap[B]?∧g'.pub B = g.pub B := fun B hB=>hg'.fr.same B hB (fun h=>h rfl)
 let g2 : G := ⟨fun B=>if B < w.heap.size then g.role B else .ext,g'.pub⟩
 have r2 : ∀ B,g2.role B = if B < w.heap.size then g.role B else .ext := fun _=>rfl
 have rne : ∀ B,g2.role B ≠ .ext→B < w.heap.size∧g2.role B = g.role B:=by
  intro B hB
  rw [r2] at hB ⊢
  split
  ·rename_i h; exact ⟨h,rfl⟩
  ·rename_i h; rw [if_neg h] at hB; exact absurd rfl hB
 have hinv : Inv g2 w':=by
  refine ⟨fun B hB=>?_,fun B id hB=>?_,fun B d hB=>?_,fun B B' id k1 k2=>?_,fun B B' d k1 k2=>?_⟩
  ·have hs := hg'.fr.size
   exact ⟨by rw [r2,if_neg (by omega)],(hg'.inv.new B hB).2⟩
  ·obtain ⟨k1,k2⟩ := rne B (by rw [hB]; simp)
   show g'.pub B = 0
   rw [(old B k1).2]; exact hg.inv.ph B id (k2 ▸ hB)
  ·obtain ⟨k1,k2⟩ := rne B (by rw [hB]; simp)
   show g'.pub B = 0
   rw [(old B k1).2]; exact hg.inv.pl B d (k2 ▸ hB)
  ·obtain ⟨_,k3⟩ := rne B (by rw [k1]; simp)
   obtain ⟨_,k4⟩ := rne B' (by rw [k2]; simp)
   exact hg.inv.injh B B' id (k3 ▸ k1) (k4 ▸ k2)
  ·obtain ⟨_,k3⟩ := rne B (by rw [k1]; simp)
   obtain ⟨_,k4⟩ := rne B' (by rw [k2]; simp)
   exact hg.inv.injl B B' d (k3 ▸ k1) (k4 ▸ k2)
 have hE : Ext g w g2 w':=by
  refine ⟨fun B id hB=>?_,fun B=>hg'.fr.ext.pub B,fun B o ho=>hg'.fr.ext.cell B o ho⟩
  have : B < w.heap.size:=by
   rcases Nat.lt_or_ge B w.heap.size with h | h
   ·exact h
   ·rw [(hg.inv.new B h).1] at hB; cases hB
  rw [r2,if_pos this]; exact hB
 have hk : Keep (fun _=>False) g w g2 w' := ⟨hE,hg'.fr.os,hg'.fr.tape,hg'.fr.output,hg'.fr.size,fun B hB _=>⟨(old B hB).1,by rw [r2,if_pos hB],(old B hB).2⟩⟩
 have hgrow := hg.grow hk hinv (fun B id hB=>by
  obtain ⟨_,k2⟩ := rne B (by rw [hB]; simp)
  exact hg.h.lt B id (k2 ▸ hB))
 refine hK g2 u w' ?_ hE (hrep.pure hp g2 (fun _=>Nat.le_refl _))
 rw [hdst]
 exact hgrow.put_und hd u
end
end Go.Vai
end
section
namespace Go.Vai
section
variable {eb ebj ebi : Bool} {P : Program} {A : List (Nat × Ann)} {an : Ann} {isRes : Nat→Bool} {cal : Oracle} {o : Oper} {S S' : St} {l : List Nat}
theorem zn8 : ∀ (l : List Slot) (n : Nat) (s s' : Slot),setS (setS l n s) n s' = setS l n s'
 | [],_,_,_=>rfl
 | _ :: _,0,_,_=>rfl
 | x :: l,n + 1,s,s'=>by simp only [setS,zn8 l n s s']
theorem zn6 : ∀ (l : List Slot) (n : Nat),setS l n (nthS l n) = l
 | [],_=>rfl
 | _ :: _,0=>rfl
 | x :: l,n + 1=>by simp only [setS,nthS,zn6 l n]
theorem zn4 : ∀ (l : List Slot) (n m : Nat) (s s' : Slot),n ≠ m→setS (setS l n s) m s' = setS (setS l m s') n s
 | [],_,_,_,_,_=>rfl
 | _ :: _,0,0,_,_,h=>absurd rfl h
 | _ :: _,0,m + 1,_,_,_=>rfl
 | _ :: _,n + 1,0,_,_,_=>rfl
 | x :: l,n + 1,m + 1,s,s',h=>by simp only [setS,zn4 l n m s s' (fun e=>h (by rw [e]))]
theorem put_put (S : St) (d : Nat) (s s' : Slot) : (S.put d s).put d s' = S.put d s' := by unfold St.put; simp only [zn8]
theorem zif (S : St) (d : Nat) : S.put d (S.slot d) = S := by unfold St.put St.slot; simp only [zn6]
theorem put_comm (S : St) {d e : Nat} (s s' : Slot) (h : d ≠ e) : (S.put d s).put e s' = (S.put e s').put d s := by unfold St.put; simp only [zn4 _ _ _ _ _ h]
theorem zrc (S : St) {x y : Option Nat} (s s' : Slot) (h : ∀ d,x = some d→y ≠ some d) : (S.putd x s).putd y s' = (S.putd y s').putd x s:=by
 cases x with
 | none=>rfl
 | some d=>cases y with
  | none=>rfl
  | some e=>exact put_comm S s s' fun h'=>h d rfl (by rw [h'])
theorem zbl (S : St) {d t : Nat} (s : Slot) (h : t ≠ d) : (S.put d s).slot t = S.slot t := by rw [zak,if_neg fun e=>h e.1]
theorem zex (S : St) {d : Option Nat} {t : Nat} (s : Slot) (h : d ≠ some t) : (S.putd d s).slot t = S.slot t:=by
 cases d with
 | none=>rfl
 | some d=>exact zbl S s fun e=>h (by rw [e])
theorem zdw (S : St) (d : Option Nat) (s : Slot) : (S.putd d s).bareAt d = S.putd d s.bare:=by
 cases d with
 | none=>rfl
 | some d =>
  show (S.put d s).put d ((S.put d s).slot d).bare = S.put d s.bare
  rw [put_put,zak]
  split
  ·rfl
  ·rename_i h
   have hlt : ¬ d < S.sl.length := fun hh=>h ⟨rfl,hh⟩
   have e : ∀ s1 s2 : Slot,setS S.sl d s1 = setS S.sl d s2:=by
    have key : ∀ (l : List Slot) (n : Nat),¬ n < l.length→∀ s1 : Slot,setS l n s1 = l:=by
     intro l
     induction l with
     | nil=>intro n _ s1; rfl
     | cons x l ih =>
      intro n hn s1
      cases n with
      | zero=>simp at hn
      | succ n=>simp only [setS]; rw [ih n (by simpa using hn)]
    intro s1 s2
    rw [key _ _ hlt,key _ _ hlt]
   unfold St.put
   rw [e]
theorem zst (h : Same S S' l) : S'.mask l = S.mask l:=by
 refine zqa h.len fun t ht=>?_
 rw [zep,zep]
 have hb := h.slot t ht
 cases memN t l with
 | false=>rfl
 | true =>
  simp only
  cases hs : S.slot t with
  | und=>rw [zfh hb hs]
  | lp d off=>rw [zd7 hb hs]
  | mp d=>rw [zhf hb hs]
  | val v f=>obtain ⟨f',hs'⟩ := zcq hb hs; rw [hs']
theorem par2 (hcl : clOf A eb o = 2) (T : St) : Par fun _ k=>zao P A an isRes cal o T k:=by
 cases hop : o.op with
 | extract x i =>
  simp only [zao,hop]
  cases x with
  | tmp t =>
   unfold zd9
   simp only
   cases T.slot t with
   | val v f =>
    simp only
    cases v with
    | tuple l =>
     simp only [AV.tup?]
     refine Par.bind fun c=>?_
     cases f with
     | comps cs=>simp only; cases memN i cs <;> exact Par.ret _
     | lS q =>
      simp only
      cases T.slot q with
      | val u fu =>
       cases fu with
       | comps cs=>simp only; cases memN i cs <;> exact Par.ret _
       | _=>exact Par.ret _
      | _=>exact Par.ret _
     | _=>exact Par.ret _
    | _=>exact Par.none'
   | _=>exact Par.none'
  | _=>exact Par.none'
 | call c =>
  obtain ⟨callee,args,tys⟩ := c
  cases callee with
  | builtin b =>
   cases b with
   | append =>
    simp only [zao,hop,zbm]
    match hty : tys.toList,har : args.toList with
    | [t,t2],[a,b] =>
     simp only
     unfold zcp
     cases zjw P t with
     | none=>exact Par.none'
     | some e =>
      cases zpe P t with
      | false=>exact Par.none'
      | true =>
       simp only
       cases Nat.beq (zah P e) 0 with
       | true=>exact Par.none'
       | false =>
        cases zlk P t2 with
        | false=>exact Par.none'
        | true =>
         simp only
         refine Par.comp (zfz _ _ _) fun l2=>?_
         have fin : ∀ (l : List AV) (X : St),Par fun R (k : St→Option R)=>br (Nat.ble ((l.length + l2.length) * zde P e) za1) (br (Nat.ble (l.length + l2.length) za1) (match o.dst with
           | some _=>k (X.unlent.putown o.dst (.vs (zah P e) false (l ++ l2)) .own)
           | none=>none) none) none:=by
          intro l X
          refine Par.brn (Par.brn ?_)
          cases o.dst with
          | none=>exact Par.none'
          | some d=>exact Par.ret _
         cases evT P T t a with
         | vs z tg l =>
          simp only [AV.vs?]
          cases Nat.beq z (zah P e) with
          | false=>exact Par.none'
          | true =>
           cases a with
           | const v=>exact fin _ _
           | tmp u =>
            simp only
            cases T.slot u with
            | val v f =>
             cases f with
             | own=>exact fin _ _
             | lS q =>
              simp only
              cases T.slot q with
              | val v2 f2 =>
               cases f2 with
               | own=>exact fin _ _
               | _=>exact Par.brn (fin _ _)
              | _=>exact Par.brn (fin _ _)
             | lL d off =>
              refine Par.bind fun bl=>?_
              cases memN off bl.free with
              | true=>exact fin _ _
              | false=>exact Par.brn (fin _ _)
             | lH id off =>
              refine Par.bind fun bl=>?_
              cases memN off bl.free with
              | true=>exact fin _ _
              | false=>exact Par.brn (fin _ _)
             | _=>exact Par.brn (fin _ _)
            | _=>exact Par.brn (fin _ _)
           | _=>exact Par.none'
         | _=>exact Par.none'
    | [],_=>exact Par.none'
    | [_],_=>exact Par.none'
    | _ :: _ :: _ :: _,_=>exact Par.none'
    | [_,_],[]=>exact Par.none'
    | [_,_],[_]=>exact Par.none'
    | [_,_],_ :: _ :: _ :: _=>exact Par.none'
   | _=>simp [clOf,hop] at hcl
  | value f =>
   cases f with
   | func g =>
    simp only [zao,hop]
    unfold zj2
    simp only [St.ev,AV.func?]
    cases hi : (getA A g).imp with
    | true=>simp [clOf,hop,hi] at hcl
    | false=>exact Par.brn (Par.bind fun r=>Par.brn (Par.ret _))
   | _=>simp [clOf,hop] at hcl
  | invoke _ _=>simp [clOf,hop] at hcl
 | move x =>
  exfalso
  simp only [clOf,hop] at hcl
  split at hcl <;> cases hcl
 | alloc _ =>
  exfalso
  simp only [clOf,hop] at hcl
  split at hcl <;> cases hcl
 | _=>simp [clOf,hop] at hcl
structure Sim (fx fh : Bool) (S S' : St) (l : List Nat) : Prop where
 same : Same S S' l
 mem : fh = true→zc7 S S'
 ex : fx = true→(∀ t ∈ l,S'.slot t = S.slot t)∧S'.L = S.L∧S'.H = S.H
theorem znj (hl : ∀ t,Operand.tmp t ∈ o.op.operands→t ∈ l) (h : Same S S' l) : zdo o S' = zdo o S:=by
 unfold zdo
 cases hop : o.op with
 | load t x =>
  simp only
  cases x with
  | tmp t =>
   have hb := h.slot t (hl t (by simp [hop,Op.operands]))
   simp only
   cases hs : S.slot t with
   | und=>rw [zfh hb hs]
   | lp d off=>rw [zd7 hb hs]
   | mp d=>rw [zhf hb hs]
   | val v f=>obtain ⟨f',hs'⟩ := zcq hb hs; rw [hs']
  | _=>rfl
 | convert a b x =>
  simp only
  cases x with
  | tmp t =>
   have hb := h.slot t (hl t (by simp [hop,Op.operands]))
   simp only
   cases hs : S.slot t with
   | und=>rw [zfh hb hs]
   | lp d off=>rw [zd7 hb hs]
   | mp d=>rw [zhf hb hs]
   | val v f=>obtain ⟨f',hs'⟩ := zcq hb hs; rw [hs']
  | _=>rfl
 | _=>rfl
theorem zho {ws : List Nat} : ∀ {l : List Nat},(∀ t ∈ l,(S'.slot t).bare = (S.slot t).bare)→zk6 S' ws l = zk6 S ws l
 | [],_=>rfl
 | t :: l,h=>by
  have hb := h t List.mem_cons_self
  unfold zk6
  rw [zho (l := l) fun t ht=>h t (List.mem_cons_of_mem _ ht)]
  cases hs : S.slot t with
  | und=>rw [zfh hb hs]
  | lp d off=>rw [zd7 hb hs]
  | mp d=>rw [zhf hb hs]
  | val v f=>obtain ⟨f',hs'⟩ := zcq hb hs; rw [hs']
theorem zjb {ws : List Nat} {l : List Nat} (h : ∀ t ∈ l,(S'.slot t).bare = (S.slot t).bare) : zlp S' ws l = zlp S ws l:=by
 unfold zlp
 cases ws with
 | nil=>rfl
 | cons b bs=>exact zho h
theorem zk2 {ws l : List Nat} {s s' : Slot} (hds : ∀ q,q ∈ l→o.dst = some q) (hlen : S'.sl.length = S.sl.length) (h : s'.bare = s.bare) : zlp (S'.putd o.dst s') ws l = zlp (S.putd o.dst s) ws l:=by
 refine zjb fun t ht=>?_
 rw [hds t ht]
 show ((S'.put t s').slot t).bare = ((S.put t s).slot t).bare
 rw [zak,zak,hlen]
 split
 ·exact h
 ·rename_i hh
  have hz : ∀ (Y : St),¬ t < Y.sl.length→Y.slot t = .und := fun Y hY=>by
   cases hy : Y.slot t with
   | und=>rfl
   | _=>exact absurd (zbz (by show Y.slot t ≠ _; rw [hy]; simp)) hY
  have hlt : ¬ t < S.sl.length := fun hl=>hh ⟨rfl,hl⟩
  rw [hz S' (by rw [hlen]; exact hlt),hz S hlt]
theorem zka {ws l : List Nat} (h : zlp S ws l = true) {t e off : Nat} (ht : t ∈ l) (hs : S.slot t = .lp e off ∨ S.slot t = .mp e) : e ∉ ws:=by
 unfold zlp at h
 cases ws with
 | nil=>simp
 | cons b bs =>
  simp only at h
  induction l with
  | nil=>cases ht
  | cons u l ih =>
   unfold zk6 at h
   split at h
   ·cases h
   ·rename_i hm
    rcases List.mem_cons.1 ht with e1 | ht
    ·subst e1
     intro hmem
     rcases hs with hs | hs
     ·rw [hs] at hm; simp only at hm; rw [zbg.2 hmem] at hm; cases hm
     ·rw [hs] at hm; simp only at hm; rw [zbg.2 hmem] at hm; cases hm
    ·exact ih ht h
theorem av_same (h : Same S S' l) : (l.map fun t=>(S'.slot t).av) = l.map fun t=>(S.slot t).av :=
 List.map_congr_left fun t ht=>by rw [← zle,h.slot t ht,zle]
def TwoF (fx : Bool) (F F' : ∀ R : Type,(St→Option R)→Option R) (dst : Option Nat) (S S' : St) : Prop :=
 (∀ R k,F R k = none) ∨ ∃ s,(∀ R k,F R k = k (S.putd dst s))∧(∀ R k,F' R k = k (S'.putd dst s))∧(fx = false→s.bare = s)
theorem zne (s : Slot) : s.bare.bare = s.bare := by cases s <;> rfl
theorem zeq {l : List Nat} (hl : ∀ t,Operand.tmp t ∈ o.op.operands→t ∈ l) (h : Same S S' l) : zdg o S' = zdg o S:=by
 unfold zdg
 cases hop : o.op with
 | load t x =>
  simp only
  cases x with
  | tmp t =>
   have hb := h.slot t (hl t (by simp [hop,Op.operands]))
   simp only
   cases hs : S.slot t with
   | und=>rw [zfh hb hs]
   | lp d off=>rw [zd7 hb hs]
   | mp d=>rw [zhf hb hs]
   | val v f=>obtain ⟨f',hs'⟩ := zcq hb hs; rw [hs']
  | _=>rfl
 | _=>rfl
theorem zt0 {D : List Nat} {i : Nat} {fz : Fx} {x : OI} {st : Bool} (hst : st = false→fz.fx = false∧fz.fl = false) (hx : x.cl = clOf A eb o) (hl : ∀ t,Operand.tmp t ∈ o.op.operands→t ∈ x.lk) (hv : zb6 x.cl = true) (h : Sim st fz.fh S S' x.lk) :
  TwoF st (fun _ k=>dop P A an isRes cal D i fz x o S k) (fun _ k=>dop P A an isRes cal D i fz x o S' k) o.dst S S':=by
 have hcl : x.cl = 0 ∨ x.cl = 1 ∨ x.cl = 2:=by
  have : x.cl < 3 := by simpa [zb6,Nat.blt_eq] using hv
  omega
 have hs1 : fz.fx = true→st = true := fun hf=>by
  cases hs : st with
  | true=>rfl
  | false=>have := (hst hs).1; rw [hf] at this; cases this
 have hs2 : fz.fl = true→st = true := fun hf=>by
  cases hs : st with
  | true=>rfl
  | false=>have := (hst hs).2; rw [hf] at this; cases this
 unfold dop
 rcases hcl with hc | hc | hc
 ·rw [hc]
  simp only
  rw [hx] at hc
  have hop : ∃ t,o.op = .move (.tmp t):=by
   cases hop : o.op with
   | move x =>
    cases x with
    | tmp t=>exact ⟨t,rfl⟩
    | _=>simp [clOf,hop] at hc
   | call c =>
    exfalso
    simp only [clOf,hop] at hc
    repeat' split at hc
    all_goals cases hc
   | extract _ _ =>
    exfalso
    simp only [clOf,hop] at hc
    split at hc <;> cases hc
   | alloc _ =>
    exfalso
    simp only [clOf,hop] at hc
    split at hc <;> cases hc
   | _=>simp [clOf,hop] at hc
  obtain ⟨t,hop⟩ := hop
  have ht := hl t (by simp [hop,Op.operands])
  simp only [zao,hop,zgc]
  cases hfx : fz.fx with
  | true =>
   obtain ⟨he,_,_⟩ := h.ex (hs1 hfx)
   refine .inr ⟨zbq S t,fun R k=>rfl,fun R k=>?_,fun h=>(by rw [hs1 hfx] at h; cases h)⟩
   have : zbq S' t = zbq S t := by unfold zbq; rw [he t ht]
   show k (S'.putd o.dst (zbq S' t)) = _
   rw [this]
  | false =>
   have hb := h.same.slot t ht
   have : (zbq S' t).bare = (zbq S t).bare:=by
    have mb : ∀ (T : St),(zbq T t).bare = (T.slot t).bare := fun T=>by
     unfold zbq
     cases T.slot t with
     | val v f=>cases f <;> rfl
     | _=>rfl
    rw [mb,mb,hb]
   refine .inr ⟨(zbq S t).bare,fun R k=>?_,fun R k=>?_,fun _=>zne _⟩
   ·show k ((S.putd o.dst (zbq S t)).bareAt o.dst) = _
    rw [zdw]
   ·show k ((S'.putd o.dst (zbq S' t)).bareAt o.dst) = _
    rw [zdw,this]
 ·rw [hc]
  simp only
  rw [hx] at hc
  cases hfx : fz.fx with
  | true =>
   obtain ⟨_,h1,h2⟩ := h.ex (hs1 hfx)
   rcases uni1 (P := P) (an := an) (isRes := isRes) (cal := cal) hc hl h.same (.inl (.of h2)) with hn | ⟨s,s',h3,h4,_,h5⟩
   ·exact .inl fun R k=>hn R k
   ·rw [h5 h1 h2] at h4
    exact .inr ⟨s,fun R k=>h3 R k,fun R k=>h4 R k,fun h=>(by rw [hs1 hfx] at h; cases h)⟩
  | false =>
   simp only
   rw [znj hl h.same,zeq hl h.same]
   cases hlo : (fz.fl && zdg o S) with
   | true =>
    have hst1 := hs2 (Bool.and_eq_true _ _ ▸ hlo).1
    obtain ⟨_,h1,h2⟩ := h.ex hst1
    rcases uni1 (P := P) (an := an) (isRes := isRes) (cal := cal) hc hl h.same (.inl (.of h2)) with hn | ⟨s,s',h3,h4,_,h5⟩
    ·exact .inl fun R k=>hn R k
    ·rw [h5 h1 h2] at h4
     exact .inr ⟨s,fun R k=>h3 R k,fun R k=>h4 R k,fun h=>(by rw [hst1] at h; cases h)⟩
   | false =>
   simp only
   cases hf : (fz.fh || zdo o S) with
   | false=>exact .inl fun R k=>rfl
   | true =>
    rw [Bool.or_eq_true] at hf
    have hH : zc7 S S' ∨ zdo o S = true := hf.imp h.mem id
    rcases uni1 (P := P) (an := an) (isRes := isRes) (cal := cal) hc hl h.same hH with hn | ⟨s,s',h3,h4,h5,_⟩
    ·exact .inl fun R k=>hn R _
    ·refine .inr ⟨s.bare,fun R k=>?_,fun R k=>?_,fun _=>zne _⟩
     ·show zao P A an isRes cal o S (fun S'=>k (S'.bareAt o.dst)) = _
      rw [h3,zdw]
     ·show zao P A an isRes cal o S' (fun S'=>k (S'.bareAt o.dst)) = _
      rw [h4,zdw,h5]
 ·rw [hc]
  simp only
  rw [hx] at hc
  cases hd : o.dst with
  | none=>exact .inl fun R k=>rfl
  | some d =>
   simp only
   rw [av_same h.same,zst h.same,h.same.len]
   cases hp : (Nat.blt d S.sl.length && zab (x.lk.map fun t=>(S.slot t).av)) with
   | false=>exact .inl fun R k=>rfl
   | true =>
    rcases par2 (P := P) (an := an) (isRes := isRes) (cal := cal) hc (S.mask x.lk) with hn | ⟨T,hT⟩
    ·exact .inl fun R k=>hn R _
    ·cases hs : T.slot d with
     | val v f =>
      cases hpv : v.pure with
      | true =>
       refine .inr ⟨.val v .no,fun R k=>?_,fun R k=>?_,fun _=>rfl⟩
       ·refine (hT R _).trans ?_; simp only [hs,hpv]; rfl
       ·refine (hT R _).trans ?_; simp only [hs,hpv]; rfl
      | false=>refine .inl fun R k=>(hT R _).trans ?_; simp only [hs,hpv]; rfl
     | _=>refine .inl fun R k=>(hT R _).trans ?_; simp only [hs]
theorem st_or {fz : Fx} (h : (fz.fx || fz.fl) = false) : fz.fx = false∧fz.fl = false := by rw [Bool.or_eq_false_iff] at h; exact h
def Stay (s : Slot) : Prop := s.unlentH = s∧∀ e,s.unS e = s
theorem Stay.bare {s : Slot} (h : s.bare = s) : Stay s:=by
 cases s with
 | val v f=>simp only [Slot.bare,Slot.val.injEq,true_and] at h; subst h; exact ⟨rfl,fun _=>rfl⟩
 | _=>exact ⟨rfl,fun _=>rfl⟩
def TwoS (F F' : ∀ R : Type,(St→Option R)→Option R) (dst : Option Nat) (S S' : St) : Prop :=
 (∀ R k,F R k = none) ∨ ∃ s,(∀ R k,F R k = k (S.putd dst s))∧(∀ R k,F' R k = k (S'.putd dst s))∧Stay s
theorem TwoF.stay {F F' : ∀ R : Type,(St→Option R)→Option R} {dst : Option Nat} {S S' : St} (h : TwoF false F F' dst S S') : TwoS F F' dst S S':=by
 rcases h with h | ⟨s,h1,h2,h3⟩
 ·exact .inl h
 ·exact .inr ⟨s,h1,h2,.bare (h3 rfl)⟩
theorem dop_twoS {D : List Nat} {i : Nat} {fz : Fx} {x : OI} (hfx : fz.fx = false) (hx : x.cl = clOf A eb o) (hl : ∀ t,Operand.tmp t ∈ o.op.operands→t ∈ x.lk) (hv : zb6 x.cl = true) (h : Same S S' x.lk) (hL : S'.L = S.L) (hm : fz.fh = true→zc7 S S') :
  TwoS (fun _ k=>dop P A an isRes cal D i fz x o S k) (fun _ k=>dop P A an isRes cal D i fz x o S' k) o.dst S S':=by
 cases hlo : (fz.fl && zdg o S) with
 | false =>
  have e1 : ∀ (R : Type) (k : St→Option R),dop P A an isRes cal D i fz x o S k = dop P A an isRes cal D i { fz with fl := false } x o S k := fun R k=>by
   unfold dop
   simp only [hlo,Bool.false_and]
   rfl
  have e2 : ∀ (R : Type) (k : St→Option R),dop P A an isRes cal D i fz x o S' k = dop P A an isRes cal D i { fz with fl := false } x o S' k := fun R k=>by
   have hlo' : (fz.fl && zdg o S') = false := by rw [zeq hl h]; exact hlo
   unfold dop
   simp only [hlo',Bool.false_and]
   rfl
  simp only [e1,e2]
  exact (zt0 (fz := { fz with fl := false }) (st := false) (fun _=>⟨hfx,rfl⟩) hx hl hv ⟨h,hm,fun h=>(by cases h)⟩).stay
 | true =>
  have hll := (Bool.and_eq_true _ _ ▸ hlo).2
  have hlo' : (fz.fl && zdg o S') = true := by rw [zeq hl h]; exact hlo
  obtain ⟨ty,t,hop⟩ : ∃ ty t,o.op = .load ty (.tmp t):=by
   unfold zdg at hll
   split at hll
   ·split at hll
    ·exact ⟨_,_,by assumption⟩
    ·cases hll
   ·cases hll
  have hc : x.cl = 1 := by rw [hx]; simp only [clOf,hop]
  obtain ⟨d,off,hs⟩ : ∃ d off,S.slot t = .lp d off:=by
   unfold zdg at hll
   rw [hop] at hll
   simp only at hll
   split at hll
   ·exact ⟨_,_,by assumption⟩
   ·cases hll
  have hs' : S'.slot t = .lp d off := zd7 (h.slot t (hl t (by simp [hop,Op.operands]))) hs
  have e : ∀ (T : St) (R : Type) (k : St→Option R),T.slot t = .lp d off→(fz.fl && zdg o T) = true→dop P A an isRes cal D i fz x o T k = (getL T.L d).bind fun b=>zge P ty fun ag=>match ag with
    | true=>br (Nat.ble (off + zah P ty) b.cells.length) (k (T.putd o.dst (.val (.agg ((b.cells.drop off).take (zah P ty))) .no))) none
    | false=>(nth b.cells off).bind fun c=>k (T.putd o.dst (.val c (match memN off b.free with
     | true=>.lL d off
     | false=>.no))) := fun T R k ht hT=>by
   unfold dop
   rw [hc]
   simp only [hfx,hT,zao,hop,zhb,zk4,ht]
   rfl
  unfold TwoS
  simp only [e S _ _ hs hlo,e S' _ _ hs' hlo',hL]
  cases hb : getL S.L d with
  | none=>exact .inl fun R k=>rfl
  | some b =>
   simp only [Option.bind_some]
   rcases zf0 (P := P) ty with hp | ⟨ag,hp⟩
   ·exact .inl fun R k=>hp R _
   ·simp only [hp]
    cases ag with
    | true =>
     simp only
     cases Nat.ble (off + zah P ty) b.cells.length with
     | false=>exact .inl fun R k=>rfl
     | true=>exact .inr ⟨_,fun R k=>rfl,fun R k=>rfl,.bare rfl⟩
    | false =>
     simp only
     cases nth b.cells off with
     | none=>exact .inl fun R k=>rfl
     | some c =>
      refine .inr ⟨_,fun R k=>rfl,fun R k=>rfl,?_⟩
      cases memN off b.free with
      | true=>exact ⟨rfl,fun _=>rfl⟩
      | false=>exact ⟨rfl,fun _=>rfl⟩
end
end Go.Vai
end
