/- Composite literals, and new variables. -/
import Derived.Laws.Tables
import Derived.Test.YtfdklpkfpmkgeaaGreatDoorM1
set_option linter.unusedSimpArgs false
set_option linter.unusedVariables false
set_option linter.unusedSectionVars false
set_option linter.unnecessarySimpa false
namespace Go.Vai
section
section
variable {X : Nat→Prop} {g0 : G} {w0 : World} {Ex : Nat→Prop} {g g' : G} {S : St} {a : Act} {w w' : World} {P : Program} {R : Type} {r : R} {o : Oper}
def zc4 (us : List Value) (off : Nat) (new : List Value) : List Value := us.take off ++ (new ++ us.drop (off + new.length))
theorem zgc : ∀ (cells : List AV) (off : Nat) (new : List AV),off ≤ cells.length→patch cells off new = cells.take off ++ (new ++ cells.drop (off + new.length))
 | cells,0,new,_=>by simp [patch]
 | [],n + 1,new,h=>by simp at h
 | c :: cells,n + 1,new,h=>by
  have ih := zgc cells n new (by simpa using h);simp only [patch,ih,List.take_succ_cons,List.cons_append];rw [show n + 1 + new.length = (n + new.length) + 1 by omega,List.drop_succ_cons]
theorem RepL.patch {us new : List Value} {cs ncs : List AV} {off : Nat} (h : RepL g w us cs) (hn : RepL g w new ncs) (hle : off + ncs.length ≤ cs.length) :
  RepL g w (zc4 us off new) (Go.Vai.patch cs off ncs):=by
 rw [zgc _ _ _ (by omega)];unfold zc4;refine (h.take off).append (hn.append ?_);rw [hn.1];exact h.drop _
theorem RepP.patch {us new : List Value} {cs ncs : List AV} {off : Nat} (h : RepP g w us cs) (hn : RepL g w new ncs) (hle : off + ncs.length ≤ cs.length) :
  RepP g w (zc4 us off new) (Go.Vai.patch cs off ncs):=by
 have hl := h.1;have hl2 := hn.1;rw [zgc _ _ _ (by omega)];unfold zc4;refine ⟨by simp; omega,fun j u c hu hc=>?_⟩;rw [List.getElem?_append,List.length_take,Nat.min_eq_left (by omega)] at hu hc;split at hu
 ·rename_i hj;rw [if_pos hj,List.getElem?_take,if_pos hj] at hc;rw [List.getElem?_take,if_pos hj] at hu;exact h.2 j u c hu hc
 ·rename_i hj;rw [if_neg hj] at hc;rw [List.getElem?_append] at hu hc;rw [hl2] at hu;split at hu
  ·rename_i h2;rw [if_pos h2] at hc;exact hn.2 _ u c hu hc
  ·rename_i h2;rw [if_neg h2,List.getElem?_drop] at hc;rw [List.getElem?_drop] at hu;exact h.2 _ u c hu hc
theorem znb {us new : List Value} {off : Nat} (h : off + new.length ≤ us.length) : (zc4 us off new).length = us.length:=by
 simp only [zc4,lnA,List.length_take,List.length_drop]; omega
theorem zsq {us new : List Value} {off : Nat} (h : ∀ u ∈ us,u.oneCell' = true) (hn : ∀ u ∈ new,u.oneCell' = true) : ∀ u ∈ zc4 us off new,u.oneCell' = true:=by
 intro u hu;simp only [zc4,List.mem_append] at hu;rcases hu with hu | hu | hu
 ·exact h u (List.mem_of_mem_take hu)
 ·exact hn u hu
 ·exact h u (List.mem_of_mem_drop hu)
theorem zou {cs ncs : List AV} {off : Nat} (h : off + ncs.length ≤ cs.length) : (Go.Vai.patch cs off ncs).length = cs.length:=by
 rw [zgc _ _ _ (by omega)];simp only [lnA,List.length_take,List.length_drop];omega
theorem OneP.patch {us new : List Value} {cs ncs : List AV} {off : Nat} (h : OneP us cs.length) (hu : cs.length ≤ us.length) (hn : ∀ u ∈ new,u.oneCell' = true) (hl : new.length = ncs.length) (hle : off + ncs.length ≤ cs.length) :
  OneP (zc4 us off new) (Go.Vai.patch cs off ncs).length:=by
 intro j u hj hu2;rw [zou hle] at hj;unfold zc4 at hu2;rw [List.getElem?_append,List.length_take,Nat.min_eq_left (by omega)] at hu2;split at hu2
 ·rename_i hjo;rw [List.getElem?_take,if_pos hjo] at hu2;exact h j u hj hu2
 ·rw [List.getElem?_append] at hu2;split at hu2
  ·exact hn u (List.mem_of_getElem? hu2)
  ·rw [List.getElem?_drop] at hu2;refine h _ u ?_ hu2;omega
theorem zls : ∀ (new : List Value) (k off : Nat) (us : List Value),off + k + new.length ≤ us.length →
  ((new.zipIdx k).foldl (fun (cs : Array Value) (x : Value × Nat)=>cs.setIfInBounds (off + x.2) x.1) us.toArray) = (us.take (off + k) ++ (new ++ us.drop (off + k + new.length))).toArray
 | [],k,off,us,_=>by simp
 | v :: new,k,off,us,h=>by
  simp only [lnC] at h;have hlt : off + k < us.length := by omega
  have e1 : us.toArray.setIfInBounds (off + k) v = (us.set (off + k) v).toArray:=by
   apply Array.ext'; simp
  simp only [List.zipIdx_cons,List.foldl_cons,e1];rw [zls new (k + 1) off (us.set (off + k) v) (by simp; omega)];apply Array.ext';simp only [lnC];have e2 : (us.set (off + k) v).take (off + (k + 1)) = us.take (off + k) ++ [v]:=by
   rw [← Nat.add_assoc,List.take_succ_eq_append_getElem (by simpa using hlt)];simp [List.take_set_of_le]
  have e3 : (us.set (off + k) v).drop (off + (k + 1) + new.length) = us.drop (off + k + (new.length + 1)):=by
   rw [List.drop_set_of_lt (by omega)]
   congr 1; omega
  rw [e2,e3];simp
theorem not_agg {u : Value} {v : AV} (h : Rep g w u v) (h1 : v ≠ .undef) (h2 : ∀ cs,v ≠ .agg cs) (h3 : ∀ cs,v ≠ .tuple cs) : u.oneCell' = true∧u.cells = #[u]:=by
 cases h <;> first | exact absurd rfl h1 | exact absurd rfl (h2 _) | exact absurd rfl (h3 _) | exact ⟨rfl,rfl⟩
theorem cells?_sound {u : Value} {v : AV} {k : List AV→Option R} (hr : Rep g w u v) (h : v.cells? k = some r) :
  ∃ (cs : List AV) (us : List Value),k cs = some r∧u.cells = us.toArray∧RepL g w us cs∧(∀ x ∈ us,x.oneCell' = true)∧cs = v.cells∧v ≠ .undef∧((∃ l,v = .agg l) ∨ (us = [u]∧cs = [v])):=by
 unfold AV.cells? at h;split at h
 ·cases h
 ·cases h
 ·rename_i cs;obtain ⟨us,rfl,h1,h2⟩ := zfy hr;exact ⟨cs,us,h,rfl,h2,h1,rfl,by simp,.inl ⟨_,rfl⟩⟩
 ·rename_i hn1 hn2 hn3;obtain ⟨h1,h2⟩ := not_agg hr hn1 hn3 hn2;refine ⟨[v],[u],h,by rw [h2],⟨rfl,fun j x c hx hc=>?_⟩,by simpa using h1,?_,hn1,.inr ⟨rfl,rfl⟩⟩
  ·cases j with
   | zero=>simp at hx hc; subst hx hc; exact hr
   | succ j=>simp at hx
  ·cases v <;> first | rfl | exact absurd rfl (hn3 _)
theorem zeq {place : Nat→Option (Nat × Nat)} {k : List AV→Option R} : ∀ (ps : List (Nat × AV)) (qs : List (Nat × Value)) (cs : List AV) (us : List Value),
  qs.map (·.1) = ps.map (·.1)→(∀ (j : Nat) (p : Nat × AV) (q : Nat × Value),ps[j]? = some p→qs[j]? = some q→Rep g w q.2 p.2)→RepL g w us cs→(∀ u ∈ us,u.oneCell' = true)→zor place cs ps k = some r →
  ∃ us' cs',Instr.fill place us.toArray qs = some us'.toArray∧RepL g w us' cs'∧(∀ u ∈ us',u.oneCell' = true)∧us'.length = us.length∧k cs' = some r
 | [],[],cs,us,_,_,hr,h1,h=>⟨us,cs,rfl,hr,h1,rfl,h⟩
 | [],_ :: _,_,_,he,_,_,_,_=>by simp at he
 | _ :: _,[],_,_,he,_,_,_,_=>by simp at he
 | (i,v) :: ps,(i',u) :: qs,cs,us,he,hrep,hr,h1,h=>by
  simp only [List.map_cons,List.cons.injEq] at he;obtain ⟨rfl,he⟩ := he;simp only [zor] at h;cases hp : place i' with
  | none=>rw [hp] at h; cases h
  | some os =>
   obtain ⟨off,size⟩ := os;rw [hp] at h;simp only at h;obtain ⟨ncs,nus,h2,hcells,hnr,hn1,_⟩ := cells?_sound (hrep 0 (i',v) (i',u) rfl rfl) h;obtain ⟨h3,h4⟩ := zai h2;obtain ⟨h5,h6⟩ := zai h4;have e1 := zay h3;have e2 := zc3 h5;have hsz : u.cells.size = size := by rw [hcells,List.size_toArray,hnr.1,e1]
   have hle : ¬ (off + u.cells.size > us.toArray.size) := by rw [hsz,List.size_toArray,hr.1]; omega
   have hfold : (u.cells.zipIdx.foldl (fun (cs : Array Value) (x : Value × Nat)=>cs.setIfInBounds (off + x.2) x.1) us.toArray) = (zc4 us off nus).toArray:=by
    rw [hcells];have := zls nus 0 off us (by rw [hr.1,hnr.1]; omega);simp only [Nat.add_zero] at this;unfold zc4;rw [← this];simp
   obtain ⟨us',cs',h7,h8,h9,h10,h11⟩ := zeq ps qs (patch cs off ncs) (zc4 us off nus) he (fun j p q hp hq=>hrep (j + 1) p q (by simpa using hp) (by simpa using hq))
    (hr.patch hnr e2) (zsq h1 hn1) h6
   refine ⟨us',cs',?_,h8,h9,by rw [h10,znb]; rw [hr.1,hnr.1]; exact e2,h11⟩;simp only [Instr.fill,hp];rw [if_neg (by simp [hsz,hr.1]; omega)];rw [← h7,← hfold]
theorem zgr (ty : Nat→TypeId) (parts : List (Nat × Operand)) : (zd3 P S ty parts).map (·.1) = parts.map (·.1):=by
 induction parts with
 | nil=>rfl
 | cons p l ih=>obtain ⟨i,x⟩ := p; simp [zd3,ih]
theorem zev (hg : Rel g0 w0 Ex g S a w) (ty : Nat→TypeId) : ∀ (parts : List (Nat × Operand)) (j : Nat) (p : Nat × AV) (q : Nat × Value),(zd3 P S ty parts)[j]? = some p→(parts.map fun x=>(x.1,a.eval x.2))[j]? = some q→Rep g w q.2 p.2
 | [],j,p,q,h,_=>by simp [zd3] at h
 | (i,x) :: l,0,p,q,h,h'=>by
  simp [zd3] at h h';subst h h';exact hg.evT (ty i) x
 | (i,x) :: l,j + 1,p,q,h,h'=>zev hg ty l j p q (by simpa [zd3] using h) (by simpa using h')
theorem zce {t : TypeId} {z : List AV} (h : zeroCells P t = some z) : ∃ (i : TypeInfo) (v : Value),P.info? t = some i∧i.zero = some v∧RepL g w v.cells.toList z∧∀ u ∈ v.cells.toList,u.oneCell' = true:=by
 unfold zeroCells at h;split at h
 ·rename_i i hi;split at h
  ·rename_i v hv;split at h
   ·rename_i h1;injection h with h;subst h;exact ⟨i,v,hi,hv,zkd _ _,zhx h1⟩
   ·cases h
  ·cases h
 ·cases h
theorem zho : ∀ {l : List Field} {r : List (Nat × Nat)},zg2 P l = some r→l.mapM (fun f=>(P.info? f.type).map fun i=>(f.offset,i.size)) = some r
 | [],r,h=>by simp [zg2] at h; simp [h]
 | f :: l,r,h=>by
  simp only [zg2] at h;split at h
  ·rename_i i hi;obtain ⟨r',h1,h2⟩ := za2 h;injection h2 with h2;subst h2;simp [List.mapM_cons,hi,zho h1]
  ·cases h
theorem zrh : ∀ (l : List (Nat × Nat)) (n : Nat),nthP l n = l[n]?
 | [],n=>by simp [nthP]
 | x :: l,0=>by simp [nthP]
 | x :: l,n + 1=>by simp [nthP,zrh l n]
theorem zpv {t : TypeId} {parts : Array (Nat × Operand)} {k : St→Option R} (ho : o.op = .build t parts) (h : zi9 P t parts.toList S (fun v=>k (S.putd o.dst (.val v .no))) = some r) (hg : Rel g0 w0 Ex g S a w) :
  zb3 P o a w g0 w0 Ex k r:=by
 unfold zi9 at h;split at h
 ·cases h
 ·rename_i z hz;obtain ⟨i,v,hi,hv,hrz,h1z⟩ := zce (g := g) (w := w) hz;have key : ∀ us' : List Value,P.built t (parts.map fun (i,x)=>(i,a.eval x)).toList = some us'.toArray→(execOp a.eval o).run P w = .ok (.value (.agg us'.toArray)) w:=by
   intro us' hb;simp only [execOp,ho,Sem.run_bind,run_build w t _ _ hb,Result.andThen_ok,Sem.run_pure]
  have e0 : (parts.map fun (i,x)=>(i,a.eval x)).toList = parts.toList.map fun x=>(x.1,a.eval x.2) := by simp
  split at h
  ·rename_i fs hu;split at h
   ·rename_i pl hpl;obtain ⟨us',cs',h2,h3,h4,_,h6⟩ := zeq (w := w) (g := g) _ (parts.toList.map fun x=>(x.1,a.eval x.2)) _ _ (by rw [zgr]; simp) (fun j p q=>zev hg _ _ j p q) hrz h1z h;refine .val hg (key us' ?_) (.agg us' cs' h3.1 h4 h3.2) h6;unfold Program.built;simp only [hi,hu,hv,zho hpl,e0];rw [← h2]
    congr 1
    ·funext j; rw [zrh]; simp
   ·cases h
  ·rename_i n e hu;split at h
   ·rename_i ie hie;obtain ⟨us',cs',h2,h3,h4,_,h6⟩ := zeq (w := w) (g := g) _ (parts.toList.map fun x=>(x.1,a.eval x.2)) _ _ (by rw [zgr]; simp) (fun j p q=>zev hg _ _ j p q) hrz h1z h;refine .val hg (key us' ?_) (.agg us' cs' h3.1 h4 h3.2) h6;unfold Program.built;simp only [hi,hu,hv,hie,e0];rw [← h2]
   ·cases h
  ·cases h
theorem zi1 (zs : List Value) (n : Nat) (hn : zs.length = n) (hpos : 0 < n) : ∀ len : Nat,(List.range (len * n)).map (fun j=>zs.toArray[j % n]!) = (List.replicate len zs).flatten
 | 0=>by simp
 | len + 1=>by
  rw [Nat.succ_mul,Nat.add_comm,List.range_add,mpA,List.map_map,List.replicate_succ,List.flatten_cons,← zi1 zs n hn hpos len]
  congr 1
  ·apply List.ext_getElem?;intro j;rw [List.getElem?_map];by_cases hj : j < n
   ·rw [List.getElem?_range hj,List.getElem?_eq_getElem (by omega)];simp only [omS,Nat.mod_eq_of_lt hj];rw [getElem!_pos _ _ (by simpa using (by omega : j < zs.length))];simp
   ·rw [List.getElem?_eq_none (by simp; omega),List.getElem?_eq_none (by omega)]; rfl
  ·apply List.map_congr_left;intro j _;simp
theorem znq (z : List AV) : ∀ n,zi0 z n = (List.replicate n z).flatten
 | 0=>rfl
 | n + 1=>by rw [zi0,znq z n,List.replicate_succ,List.flatten_cons]
theorem RepL.repl {us : List Value} {cs : List AV} (h : RepL g w us cs) : ∀ n,RepL g w (List.replicate n us).flatten (zi0 cs n)
 | 0=>⟨rfl,by simp⟩
 | n + 1=>by rw [List.replicate_succ,List.flatten_cons,zi0]; exact h.append (h.repl n)
theorem zft {ag : Bool} {n : Nat} (hn : 0 < n) (hag : ag = false→n = 1) : ∀ (k : Nat) (cs : List AV),cs.length = k * n→(∀ x ∈ cs,∀ l,x ≠ .agg l) →
  (zdi ag n k cs).flatMap AV.cells = cs∧(zdi ag n k cs).length = k∧∀ x ∈ zdi ag n k cs,x.cells.length = n
 | 0,cs,h,_=>by
  have : cs = [] := List.eq_nil_of_length_eq_zero (by simpa using h);subst this;simp [zdi]
 | k + 1,cs,h,hc=>by
  rw [Nat.succ_mul] at h;obtain ⟨i1,i2,i3⟩ := zft hn hag k (cs.drop n) (by rw [List.length_drop]; omega) (fun x hx=>hc x (List.mem_of_mem_drop hx));have hpk : (pack ag (cs.take n)).cells = cs.take n:=by
   cases ag with
   | true=>rfl
   | false =>
    obtain rfl := hag rfl;cases cs with
    | nil=>simp at h
    | cons x l =>
     simp only [List.take_succ_cons,List.take_zero,pack];have := hc x (by simp);cases x <;> first | rfl | exact absurd rfl (this _)
  have hlen : (cs.take n).length = n := by rw [List.length_take]; omega
  refine ⟨by simp only [zdi,List.flatMap_cons,hpk,i1,List.take_append_drop],by simp [zdi,i2],fun x hx=>?_⟩;simp only [zdi,List.mem_cons] at hx;rcases hx with rfl | hx
  ·rw [hpk]; exact hlen
  ·exact i3 x hx
theorem ziu {us : List Value} {cs : List AV} (h : RepL g w us cs) (h1 : ∀ u ∈ us,u.oneCell' = true) : ∀ x ∈ cs,∀ l,x ≠ .agg l:=by
 intro x hx l e;subst e;obtain ⟨j,hj⟩ := List.mem_iff_getElem?.1 hx;obtain ⟨u,hu,hr⟩ := h.get hj;obtain ⟨us',rfl,_⟩ := zfy hr;have := h1 _ (List.mem_of_getElem? hu);cases this
end
end
section
section
variable {X : Nat→Prop} {g0 : G} {w0 : World} {Ex : Nat→Prop} {g g' : G} {S : St} {a : Act} {w w' : World} {P : Program} {R : Type} {r : R} {o : Oper}
theorem zbe (w : World) (x : Obj) {B : Nat} (h : B < w.heap.size) : (w.alloc x).heap[B]? = w.heap[B]?:=by
 show (w.heap.push x)[B]? = _;rw [Array.getElem?_push,if_neg (by omega)]
theorem zc7 (w : World) (x : Obj) : (w.alloc x).heap[w.heap.size]? = some x:=by
 show (w.heap.push x)[w.heap.size]? = _;rw [Array.getElem?_push,if_pos rfl]
theorem zd0 (w : World) (x : Obj) : (w.alloc x).heap.size = w.heap.size + 1 := by simp
theorem zhv {t : TypeId} {len : Nat} {parts : Array (Nat × Operand)} {k : St→Option R} (ho : o.op = .buildSlice t len parts)
  (h : zck P t len parts.toList S (fun v=>k (S.putd o.dst (.val v .no))) = some r) (hg : Rel g0 w0 Ex g S a w) : zb3 P o a w g0 w0 Ex k r:=by
 unfold zck at h;split at h
 ·cases h
 ·rename_i e he;have hu : P.underlying t = some (.slice e):=by
   unfold zj7 at he;split at he
   ·rename_i e' hu; injection he with he; rw [hu,he]
   ·cases he
  split at h
  ·cases h
  ·rename_i z hz;obtain ⟨i,v,hi,hv,hrz,h1z⟩ := zce (g := g) (w := w) hz;split at h
   ·rename_i hz0 hsm hzl hag;have hzpos : zaj P e ≠ 0 := fun e'=>by rw [e'] at hz0; cases hz0
    have hsm' := zc3 hsm;have hzl' := zay hzl;have hsz : i.size = zaj P e := by simp [zaj,hi]
    have hvl : v.cells.size = zaj P e := by rw [← hzl',← hrz.1,Array.length_toList]
    obtain ⟨us',cs',h2,h3,h4,h5,h6⟩ := zeq (w := w) (g := g) _ (parts.toList.map fun x=>(x.1,a.eval x.2)) _ _ (by rw [zgr]; simp) (fun j p q=>zev hg _ _ j p q)
     (hrz.repl len) (fun u hu=>by
      obtain ⟨l,hl,hul⟩ := List.mem_flatten.1 hu;rw [(List.mem_replicate.1 hl).2] at hul;exact h1z u hul) h
    have hl2 : us'.length = len * zaj P e:=by
     rw [h5,((hrz.repl (w := w) (g := g)) len).1,znq,List.length_flatten];simp [hzl']
    have hrun : (execOp a.eval o).run P w = .ok (.value (.slice (some ⟨w.heap.size,0,none⟩) len len)) (w.alloc (.cells us'.toArray e)):=by
     have e0 : (parts.map fun (i,x)=>(i,a.eval x)).toList = parts.toList.map fun x=>(x.1,a.eval x.2) := by simp
     have hbs : (Instr.buildSlice t len (parts.map fun (i,x)=>(i,a.eval x))).run P w = .ok (.slice (some ⟨w.heap.size,0,none⟩) len len) (w.alloc (.cells us'.toArray e)):=by
      have hnb : ¬ (len * i.size > 2 ^ 24) := by rw [hsz]; omega
      by_cases hl0 : len * i.size = 0
      ·have hlen0 : len = 0:=by
        rcases Nat.mul_eq_zero.1 hl0 with h | h
        ·exact h
        ·rw [hsz] at h; exact absurd h hzpos
       subst hlen0;have hfill : Instr.fill (fun i_1=>some (i_1 * i.size,i.size)) #[] (parts.toList.map fun x=>(x.1,a.eval x.2)) = some us'.toArray:=by
        rw [← h2,hsz]; rfl
       simp only [Instr.buildSlice,Sem.run_bind,zb7 hu,Result.andThen_ok,sizeOf,typeInfo,run_program,hi,Sem.run_pure,Nat.zero_mul,↓reduceIte,e0];rw [show Array.range 0 = #[] from rfl];simp [hfill,newRow]
      ·have hfill : Instr.fill (fun i_1=>some (i_1 * i.size,i.size)) ((Array.range (len * i.size)).map (v.cells[· % v.cells.size]!)) (parts.toList.map fun x=>(x.1,a.eval x.2)) = some us'.toArray:=by
        rw [← h2,hsz]
        congr 1
        apply Array.ext';rw [Array.toList_map,Array.toList_range,hvl];have := zi1 v.cells.toList (zaj P e) (by rw [Array.length_toList]; exact hvl) (by omega) len
        simpa using this
       simp [Instr.buildSlice,zb7 hu,sizeOf,typeInfo,zeroValue,hi,hv,hnb,hl0,hfill,newRow]
     simp only [execOp,ho,Sem.run_bind,hbs,Result.andThen_ok,Sem.run_pure]
    refine .mk hrun ?_ h6;have hr := hg.newblk (w' := w.alloc (.cells us'.toArray e)) (fun B hB=>zbe w _ hB) (zd0 w _) rfl rfl rfl .ext us'.length (.inl rfl);have hk := zem (w' := w.alloc (.cells us'.toArray e)) hg.inv (fun B hB=>zbe w _ hB) (by simp) rfl rfl rfl .ext us'.length;have h3' := h3.ext hk.ext;obtain ⟨c1,c2,c3⟩ := zft (ag := tAgg P e) (n := zaj P e) (Nat.pos_of_ne_zero hzpos) (fun hf=>by rw [hf] at hag; exact zay (by rw [Bool.false_or] at hag; exact hag)) len cs' (by rw [← h3.1,hl2]) (ziu h3 h4);refine ⟨_,hr.putv (f := .no) o.dst ?_ (fun _ _=>trivial) (by simp) (by simp)⟩;have := Rep.vs (g := g.new w.heap.size .ext us'.length) (w := w.alloc (.cells us'.toArray e)) w.heap.size 0 len (zaj P e) true (zdi (tAgg P e) (zaj P e) len cs') us' (by rw [c1]; exact h3'.1) c3 (fun _=>c2.symm) (by rw [c2]; exact Nat.le_refl _)
     (fun j u hu=>by
      obtain ⟨h7,h8⟩ := zju (zc7 w _) h4 j u hu;refine ⟨h7,?_,h8⟩;rw [ze8,if_pos rfl,Nat.zero_add];exact (List.getElem?_eq_some_iff.1 hu).1) (by rw [c1]; exact h3'.2)
    rw [c2] at this;exact this
   ·cases h
theorem zkf : ∀ (M : List (Nat × List (AV × AV))) (d : Nat) (b : List (AV × AV)) (d' : Nat),getM (setM M d b) d' = if d' = d then some b else getM M d'
 | [],d,b,d'=>by
  simp only [setM,getM];cases hb : Nat.beq d' d with
  | true=>rw [if_pos (zay hb)]
  | false=>rw [if_neg (fun e=>by subst e; rw [show Nat.beq d' d' = true from Nat.beq_refl d'] at hb; cases hb)]
 | (e,c) :: L,d,b,d'=>by
  simp only [setM];have hn : ∀ x y : Nat,Nat.beq x y = false→x ≠ y := fun x y hb e=>by subst e; rw [show Nat.beq x x = true from Nat.beq_refl x] at hb; cases hb
  cases hb : Nat.beq d e with
  | true =>
   obtain rfl := zay hb;simp only [getM];cases hb2 : Nat.beq d' d with
   | true=>rw [if_pos (zay hb2)]
   | false=>rw [if_neg (hn _ _ hb2)]
  | false =>
   simp only [getM,zkf L d b d'];cases hb2 : Nat.beq d' e with
   | true =>
    obtain rfl := zay hb2;exact (if_neg (fun e : d' = d=>hn _ _ hb e.symm)).symm
   | false=>rfl
theorem zkt : ∀ (L : List (Nat × Blk)) (d : Nat) (b : Blk) (d' : Nat),getL (insH L d b) d' = if d' = d then some b else getL L d'
 | [],d,b,d'=>by
  simp only [insH,getL];cases hb : Nat.beq d' d with
  | true=>rw [if_pos (zay hb)]
  | false=>rw [if_neg (fun e=>by subst e; rw [show Nat.beq d' d' = true from Nat.beq_refl d'] at hb; cases hb)]
 | (e,c) :: L,d,b,d'=>by
  simp only [insH];cases hde : Nat.beq d e with
  | true =>
   obtain rfl := zay hde;simp only [getL];cases hb : Nat.beq d' d with
   | true=>rw [if_pos (zay hb)]
   | false=>rw [if_neg (fun e=>by subst e; rw [show Nat.beq d' d' = true from Nat.beq_refl d'] at hb; cases hb)]
  | false =>
   simp only;cases hlt : Nat.blt d e with
   | true =>
    simp only [getL];cases hb : Nat.beq d' d with
    | true=>rw [if_pos (zay hb)]
    | false=>rw [if_neg (fun e=>by subst e; rw [show Nat.beq d' d' = true from Nat.beq_refl d'] at hb; cases hb)]
   | false =>
    simp only [getL,zkt L d b d'];cases hb : Nat.beq d' e with
    | true =>
     obtain rfl := zay hb;have hne : d' ≠ d := fun h=>by subst h; rw [show Nat.beq d' d' = true from Nat.beq_refl d'] at hde; cases hde
     simp [hne]
    | false=>rfl
theorem zux : ∀ (L : List (Nat × Blk)) (i j : Nat) (b c : Blk),i ≠ j→insH (insH L i b) j c = insH (insH L j c) i b:=by
 have nb : ∀ {i j : Nat},i ≠ j→Nat.beq i j = false := fun {i j} h=>by
  cases hb : Nat.beq i j with
  | false=>rfl
  | true=>exact absurd (zay hb) h
 have bl : ∀ {i j : Nat},i < j→Nat.blt i j = true := fun h=>by simpa [Nat.blt_eq] using h
 have nl : ∀ {i j : Nat},¬ i < j→Nat.blt i j = false := fun {i j} h=>by
  cases hb : Nat.blt i j with
  | false=>rfl
  | true=>exact absurd (by simpa [Nat.blt_eq] using hb) h
 have br : ∀ i : Nat,Nat.beq i i = true := Nat.beq_refl;intro L
 induction L with
 | nil =>
  intro i j b c hij;rcases Nat.lt_or_gt_of_ne hij with h | h
  ·simp [insH,nb hij,nb (Ne.symm hij),bl h,nl (Nat.lt_asymm h)]
  ·simp [insH,nb hij,nb (Ne.symm hij),bl h,nl (Nat.lt_asymm h)]
 | cons x L ih =>
  obtain ⟨d,e⟩ := x;intro i j b c hij;have h3 : i < d ∨ i = d ∨ d < i := by omega
  have h4 : j < d ∨ j = d ∨ d < j := by omega
  rcases h3 with h3 | rfl | h3 <;> rcases h4 with h4 | rfl | h4
  ·rcases Nat.lt_or_gt_of_ne hij with h | h
   ·simp [insH,nb hij,nb (Ne.symm hij),bl h,nl (Nat.lt_asymm h),nb (Nat.ne_of_lt h3),bl h3,nb (Nat.ne_of_lt h4),bl h4]
   ·simp [insH,nb hij,nb (Ne.symm hij),bl h,nl (Nat.lt_asymm h),nb (Nat.ne_of_lt h3),bl h3,nb (Nat.ne_of_lt h4),bl h4]
  ·simp [insH,nb (Nat.ne_of_lt h3),nb (Nat.ne_of_gt h3),bl h3,nl (Nat.lt_asymm h3)]
  ·simp [insH,nb (Nat.ne_of_lt h3),bl h3,nb (Nat.ne_of_gt h4),nl (Nat.lt_asymm h4),nb (Ne.symm hij),nl (Nat.lt_asymm (Nat.lt_trans h3 h4))]
  ·simp [insH,nb (Nat.ne_of_lt h4),nb (Nat.ne_of_gt h4),bl h4,nl (Nat.lt_asymm h4)]
  ·exact absurd rfl hij
  ·simp [insH,nb (Nat.ne_of_gt h4),nl (Nat.lt_asymm h4)]
  ·simp [insH,nb (Nat.ne_of_lt h4),bl h4,nb (Nat.ne_of_gt h3),nl (Nat.lt_asymm h3),nb hij,nl (Nat.lt_asymm (Nat.lt_trans h4 h3))]
  ·simp [insH,nb (Nat.ne_of_gt h3),nl (Nat.lt_asymm h3)]
  ·simp [insH,nb (Nat.ne_of_gt h3),nl (Nat.lt_asymm h3),nb (Nat.ne_of_gt h4),nl (Nat.lt_asymm h4),ih i j b c hij]
theorem zcq (L : List (Nat × Blk)) (d : Nat) (b : Blk) (d' : Nat) : getL (setL L d b) d' = if d' = d then some b else getL L d' := zkt L d b d'
theorem zix (H : Hp) (i j : Nat) (b : Blk) : H.set i b j = if j = i then some b else H j := zkt H i b j
theorem zpm {H : Hp} {i j : Nat} {b : Blk} (h : H j ≠ none) : H.set i b j ≠ none:=by
 rw [zix];split
 ·simp
 ·exact h
theorem new?_some {R : Type} {H : Hp} {i : Nat} {x : Option R} {r : R} (h : H.new? i x = some r) : H i = none∧x = some r:=by
 unfold Hp.new? at h;split at h
 ·rename_i hn; exact ⟨hn,h⟩
 ·cases h
theorem zl3 {g : G} {w : World} {u : Value} {sz : Nat} {l : List AV} (h : Rep g w u (.vs sz true l)) (g' : G) (w' : World) (p : Pl) (hp : p.str = false ∨ l = []) : OwnV g' w' p sz u:=by
 rcases ze2 h with ⟨⟨q,rfl⟩,_⟩ | ⟨B,off,cap,vals,rfl,_,ht,_⟩
 ·cases q with
  | none=>exact .inl rfl
  | some a=>exact .inr (.inl ⟨_,_,.inr rfl,rfl⟩)
 ·have := ht rfl;subst this;exact .inr (.inl ⟨_,_,hp.imp id fun h=>by rw [h]; rfl,rfl⟩)
theorem zfu : ∀ (cs : List AV) (i off : Nat),off ∈ zbm i cs→i ≤ off∧∃ sz,cs[off - i]? = some (.vs sz true [])
 | [],_,_,h=>by cases h
 | c :: l,i,off,h=>by
  have go : off ∈ zbm (i + 1) l→i ≤ off∧∃ sz,(c :: l)[off - i]? = some (.vs sz true []) := fun h=>by
   obtain ⟨h1,sz,h2⟩ := zfu l (i + 1) off h;refine ⟨by omega,sz,?_⟩;rw [show off - i = (off - (i + 1)) + 1 by omega];exact h2
  unfold zbm at h;split at h
  ·split at h
   ·rcases List.mem_cons.1 h with rfl | h
    ·exact ⟨Nat.le_refl _,_,by rw [Nat.sub_self]; rfl⟩
    ·exact go h
   ·exact go h
  ·exact go h
theorem Rel.newHf (hg : Rel g0 w0 Ex g S a w) {us : List Value} {cells : List AV} {free : List Nat} (e : TypeId) {id : Nat} (hn : S.H id = none) (nx' : Nat) (h1 : OneP us cells.length) (hrl : RepP g w us cells)
  (hfree : ∀ off ∈ free,∃ sz,cells[off]? = some (.vs sz true [])) :
  Rel g0 w0 Ex (g.new w.heap.size (.h id) 0) ({ S with H := S.H.set id ⟨cells,free⟩,nx := nx' } : St).unlent a (w.alloc (.cells us.toArray e)):=by
 have hold : ∀ B,B < w.heap.size→(w.alloc (.cells us.toArray e)).heap[B]? = w.heap[B]? := fun B hB=>zbe w _ hB;have hat := zc7 w (.cells us.toArray e);have hk := zem (w' := w.alloc (.cells us.toArray e)) hg.inv hold (by simp) rfl rfl rfl (.h id) 0;have hi := zmo (w' := w.alloc (.cells us.toArray e)) hg.inv (zd0 w _) (.h id) 0 (fun _=>rfl) (fun id' B e he=>by injection e with e; subst e; exact absurd hn (hg.h.lt B _ he)) (fun d B e=>by cases e);have role : ∀ B d,g.role B = .l d→(g.new w.heap.size (.h id) 0).role B = .l d := fun B d hB=>by
  rcases Nat.lt_or_ge B w.heap.size with hlt | hge
  ·rw [(hk.blk B hlt (fun x=>x)).2.1]; exact hB
  ·rw [(hg.inv.new B hge).1] at hB; cases hB
 refine ⟨hi,⟨fun id' b hb=>?_,fun B id' hB=>?_⟩,hg.l.keep hk (fun _ _ _ _ _=>fun x=>x) (fun _ _ _ _=>fun x=>x),hg.m.keep hk (fun _ _ _ _ _=>fun x=>x),by show (S.sl.map Slot.unlent).length = _; rw [lnM]; exact hg.len,fun t=>?_,hg.fr.keep hk (fun _ hx=>hx.elim) (fun _ _ hx=>hx.elim),hg.nodef⟩
 ·have hb' : S.H.set id ⟨cells,free⟩ id' = some b := hb;rw [zix] at hb';split at hb'
  ·rename_i hid;subst hid;injection hb' with hb';subst hb';refine ⟨w.heap.size,by rw [zba,if_pos rfl],⟨us,e,hat,h1,hrl.ext hk.ext⟩,fun off hoff u v hu hv=>?_⟩;obtain ⟨sz,hc⟩ := hfree off hoff;have hv' : cells[off]? = some v := hv;rw [hc] at hv';injection hv' with hv';subst hv';have hlt : off < us.length := Nat.lt_of_lt_of_le (List.getElem?_eq_some_iff.1 hc).1 hrl.1;have h3 := (zh8 hat h1 off us[off] (by rw [List.getElem?_take,if_pos (List.getElem?_eq_some_iff.1 hc).1]; exact List.getElem?_eq_getElem hlt)).1;rw [Nat.zero_add,hu] at h3;injection h3 with h3;have := hrl.2 off _ _ (List.getElem?_eq_getElem hlt) hc;rw [← h3] at this;exact zl3 this _ _ _ (.inr rfl)
  ·obtain ⟨B,hB,⟨us',e',k1,k2,k3⟩,hf⟩ := hg.h.blk id' b hb';have hBlt : B < w.heap.size:=by
    rcases Nat.lt_or_ge B w.heap.size with hlt | hge
    ·exact hlt
    ·rw [(hg.inv.new B hge).1] at hB; cases hB
   have hBr : (g.new w.heap.size (.h id) 0).role B = .h id' := by rw [(hk.blk B hBlt (fun x=>x)).2.1]; exact hB
   refine ⟨B,hBr,⟨us',e',by rw [hold B hBlt]; exact k1,k2,k3.ext hk.ext⟩,fun off hoff u v hu hv=>?_⟩;rw [zb8 (hold B hBlt)] at hu;exact zas.keep (hf off hoff u v hu hv) hk fun _ _=>fun x=>x
 ·show S.H.set id ⟨cells,free⟩ id' ≠ none;rw [zix];split
  ·simp
  ·rename_i hne;rw [zba] at hB;split at hB
   ·injection hB with hB; exact absurd hB.symm hne
   ·exact hg.h.lt B id' hB
 ·show zbl _ _ a _ t (S.unlent.slot t);rw [zb0];refine zmi.rel ?_ _;have h1 := (hg.sl t).c;cases hst : S.slot t with
  | und=>trivial
  | lp d off =>
   rw [hst] at h1;obtain ⟨B,h2,h3⟩ := h1;exact ⟨B,role B d h2,h3⟩
  | mp d =>
   rw [hst] at h1;obtain ⟨B,h2,h3⟩ := h1;exact ⟨B,role B d h2,h3⟩
  | val v f =>
   rw [hst] at h1;refine ⟨h1.1.ext hk.ext,?_⟩;cases f with
   | own=>exact zas.keep h1.2 hk fun _ _=>fun x=>x
   | ownS=>exact zas.keep h1.2 hk fun _ _=>fun x=>x
   | comps cs=>exact fun i hi us vs ui vi e1 e2 e3 e4=>zas.keep (h1.2 i hi us vs ui vi e1 e2 e3 e4) hk fun _ _=>fun x=>x
   | _=>trivial
theorem zlg {A : Ann} {cells : List AV} {free : List Nat} {k : St→Option R} {us : List Value} {e : TypeId} (hrun : (execOp a.eval o).run P w = .ok (.value (.pointer (some ⟨w.heap.size,0,none⟩))) (w.alloc (.cells us.toArray e)))
  (h1 : ∀ u ∈ us,u.oneCell' = true) (hrl : RepP g w us cells) (hfree : ∀ off ∈ free,∃ sz l,cells[off]? = some (.vs sz true l))
  (h : zqj A o cells free S k = some r) (hg : Rel g0 w0 Ex g S a w) : zb3 P o a w g0 w0 Ex k r:=by
 unfold zqj at h;have hold : ∀ B,B < w.heap.size→(w.alloc (.cells us.toArray e)).heap[B]? = w.heap[B]? := fun B hB=>zbe w _ hB;have hat := zc7 w (.cells us.toArray e);split at h
 ·cases h
 ·rename_i d hd;split at h
  ·
   obtain ⟨hn,h⟩ := new?_some h;have hr2 := hg.newHf (free := zbm 0 cells) e hn (S.nx + 1) (zwp h1 _) hrl fun off hoff=>(zfu cells 0 off hoff).2;refine .mk hrun ⟨g.new w.heap.size (.h S.nx) 0,?_⟩ h;rw [hd];exact hr2.putv (f := .no) (some d) (.ptr w.heap.size S.nx 0 (by rw [zba,if_pos rfl])) (fun _ _=>trivial) (by simp) (by simp)
  ·
   split at h
   rotate_left
   ·cases h
   rename_i hMn
   let g1 : G := ⟨fun b=>if g.role b = .l d then .ext else g.role b,g.pub⟩
   have r1 : ∀ b,g1.role b = if g.role b = .l d then .ext else g.role b := fun _=>rfl
   have r1ne : ∀ b x,g.role b = x→x ≠ .l d→g1.role b = x := fun b x hb hx=>by rw [r1,if_neg (by rw [hb]; exact hx),hb]
   have r1inv : ∀ b x,g1.role b = x→x ≠ .ext→g.role b = x∧x ≠ .l d := fun b x hb hx=>by
    rw [r1] at hb;split at hb
    ·exact absurd hb.symm hx
    ·rename_i hn; subst hb; exact ⟨rfl,hn⟩
   have hE1 : Ext g w g1 w := ⟨fun B id hB=>r1ne B _ hB (by simp),fun _=>Nat.le_refl _,fun _ _ _=>rfl⟩;have own1 : ∀ p u c,zas g w p u c→zas g1 w p u c:=by
    intro p u c hc;cases c with
    | vs sz tg l =>
     rcases hc with hc | hc | ⟨B,n,cap,us,e,h1,h2,h3⟩
     ·exact .inl hc
     ·exact .inr (.inl hc)
     ·exact .inr (.inr ⟨B,n,cap,us,e,h1,r1ne B _ h2 (by simp),h3⟩)
    | _=>trivial
   have hg1 : Rel g0 w0 Ex g1 ({ S with L := [],sl := S.sl.map (zax d) } : St).unlent a w:=by
    refine ⟨⟨fun B hB=>?_,fun B id hB=>hg.inv.ph B id (r1inv B _ hB (by simp)).1,fun B d' hB=>hg.inv.pl B d' (r1inv B _ hB (by simp)).1,fun B B' id hB hB'=>hg.inv.injh B B' id (r1inv B _ hB (by simp)).1 (r1inv B' _ hB' (by simp)).1,fun B B' id hB hB'=>hg.inv.injl B B' id (r1inv B _ hB (by simp)).1 (r1inv B' _ hB' (by simp)).1⟩,?_,?_,fun d' l hl=>?_,?_,fun t=>?_,?_,hg.nodef⟩
    ·obtain ⟨h2,h3⟩ := hg.inv.new B hB;exact ⟨r1ne B _ h2 (by simp),h3⟩
    ·refine ⟨fun id b hb=>?_,fun B id hB=>hg.h.lt B id (r1inv B _ hB (by simp)).1⟩;obtain ⟨B,hB,⟨us',e',hh,ho',hr'⟩,hf⟩ := hg.h.blk id b hb;exact ⟨B,r1ne B _ hB (by simp),⟨us',e',hh,ho',hr'.ext hE1⟩,fun off hoff u v hu hv=>own1 _ _ _ (hf off hoff u v hu hv)⟩
    ·intro d' b hb; cases hb
    ·obtain ⟨B,es,ck,h2,h3,h4⟩ := hg.m d' l hl;exact ⟨B,es,ck,r1ne B _ h2 (by intro e; injection e with e; have hl' : getM S.M d' = some l := hl; rw [e,hMn] at hl'; cases hl'),h3,h4.ext hE1⟩
    ·show ((S.sl.map (zax d)).map Slot.unlent).length = _;rw [lnM,lnM]; exact hg.len
    ·have hs := hg.sl t;rw [zb0];have e1 : ({ S with L := [],sl := S.sl.map (zax d) } : St).slot t = zax d (S.slot t) := zd7 _ rfl _ _;rw [e1];cases hst : S.slot t with
     | und=>trivial
     | lp d' off =>
      rw [hst] at hs;obtain ⟨B,h2,h3⟩ := hs;simp only [zax];cases hb : Nat.beq d' d with
      | true=>trivial
      | false =>
       have hne : d' ≠ d := fun e=>by subst e; rw [show Nat.beq d' d' = true from Nat.beq_refl d'] at hb; cases hb
       exact ⟨B,r1ne B _ h2 (by intro e; injection e with e; exact hne e),h3⟩
     | mp d' =>
      rw [hst] at hs;obtain ⟨B,h2,h3⟩ := hs;simp only [zax];cases hb : Nat.beq d' d with
      | true=>trivial
      | false =>
       have hne : d' ≠ d := fun e=>by subst e; rw [show Nat.beq d' d' = true from Nat.beq_refl d'] at hb; cases hb
       exact ⟨B,r1ne B _ h2 (by intro e; injection e with e; exact hne e),h3⟩
     | val v f =>
      rw [hst] at hs;refine zmi.rel (s := .val v f) ⟨hs.1.ext hE1,?_⟩ _;cases f with
      | own=>exact own1 _ _ _ hs.2
      | ownS=>exact own1 _ _ _ hs.2
      | comps cs=>exact fun i hi us vs ui vi e1 e2 e3 e4=>own1 _ _ _ (hs.2 i hi us vs ui vi e1 e2 e3 e4)
      | _=>trivial
    ·exact ⟨hg.fr.ext.trans hE1,hg.fr.os,hg.fr.tape,hg.fr.output,hg.fr.size,fun B hB hx=>hg.fr.same B hB hx,fun B hB=>hg.fr.role B fun e=>hB (r1ne B _ e (by simp))⟩
   have hk := zem (w' := w.alloc (.cells us.toArray e)) hg1.inv hold (by simp) rfl rfl rfl (.l d) 0;have hi := zmo (w' := w.alloc (.cells us.toArray e)) hg1.inv (zd0 w _) (.l d) 0 (fun _=>rfl) (fun id B e=>by cases e) (fun d' B e he=>by
    injection e with e; subst e; exact (r1inv B _ he (by simp)).2 rfl)
   have hr := hg1.grow hk hi (fun B id hB=>by
    rw [zba] at hB;split at hB
    ·cases hB
    ·exact hg1.h.lt B id hB)
   refine .mk hrun ⟨g1.new w.heap.size (.l d) 0,?_⟩ h;rw [hd];have hr2 : Rel g0 w0 Ex (g1.new w.heap.size (.l d) 0) ({ S with L := setL S.L d ⟨cells,free⟩,sl := S.sl.map (zax d) } : St).unlent a (w.alloc (.cells us.toArray e)):=by
    refine ⟨hr.inv,hr.h,fun d' b hb=>?_,hr.m,hr.len,fun t=>?_,hr.fr,hr.nodef⟩
    ·have hb' : getL (setL S.L d ⟨cells,free⟩) d' = some b := hb;rw [zcq] at hb';split at hb'
     ·rename_i hid;subst hid;injection hb' with hb';subst hb';refine ⟨w.heap.size,by rw [zba,if_pos rfl],⟨us,e,hat,zwp h1 _,hrl.ext (hE1.trans hk.ext)⟩,fun off hoff u v hu hv=>?_⟩;obtain ⟨sz,l,hc⟩ := hfree off hoff;have hv' : cells[off]? = some v := hv;rw [hc] at hv';injection hv' with hv';subst hv';have hlt : off < us.length := Nat.lt_of_lt_of_le (List.getElem?_eq_some_iff.1 hc).1 hrl.1;have h3 := (zju hat h1 off _ (List.getElem?_eq_getElem hlt)).1;rw [Nat.zero_add,hu] at h3;injection h3 with h3;have := hrl.2 off _ _ (List.getElem?_eq_getElem hlt) hc;rw [← h3] at this;exact zl3 this _ _ _ (.inl rfl)
     ·rename_i hne;obtain ⟨B,hB,hblk,hf⟩ := hg.l d' b hb';obtain ⟨us',e',hh,ho',hr'⟩ := hblk;have hB1 : g1.role B = .l d' := r1ne B _ hB (by intro e; injection e with e; exact hne e);have hBlt := zdh hh;refine ⟨B,by rw [zba,if_neg (by omega)]; exact hB1,zeh.keep ⟨us',e',hh,ho',hr'.ext hE1⟩ hk (fun x=>x),fun off hoff u v hu hv=>?_⟩;rw [zb8 (hold B hBlt)] at hu;exact zas.keep (own1 _ _ _ (hf off hoff u v hu hv)) hk fun _ _ x=>x
    ·have := hr.sl t;have e1 : (({ S with L := setL S.L d ⟨cells,free⟩,sl := S.sl.map (zax d) } : St).unlent.slot t) = ({ S with L := [],sl := S.sl.map (zax d) } : St).unlent.slot t := rfl;rw [e1];have e2 : (({ S with L := [],sl := S.sl.map (zax d) } : St).unlent.slot t).unlent = ({ S with L := [],sl := S.sl.map (zax d) } : St).unlent.slot t:=by
      rw [zb0];cases ({ S with L := [],sl := S.sl.map (zax d) } : St).slot t with
      | val v f=>cases f <;> rfl
      | _=>rfl
     rw [← e2];exact (zbl.c this).rel _
   exact hr2.putlp (some d) (.inr (.inl ⟨d,0,w.heap.size,rfl,by rw [zba,if_pos rfl],rfl⟩))
end
end
section
theorem zrv {n m : Nat} : ∀ {l : List Nat},m ∈ insN n l ↔ m = n ∨ m ∈ l
 | []=>by simp [insN]
 | x :: l=>by
  have ih := zrv (n := n) (m := m) (l := l);unfold insN;cases Nat.blt n x with
  | true=>simp
  | false =>
   cases hb : Nat.beq n x with
   | true=>obtain rfl := zay hb; simp
   | false =>
    simp only [List.mem_cons,ih];constructor
    ·rintro (h | h | h) <;> simp [h]
    ·rintro (h | h | h) <;> simp [h]
theorem zrl {a b m : Nat} : ∀ {l : List Nat},m ∈ cutN a b l ↔ m ∈ l∧¬ (a ≤ m∧m < b)
 | []=>by simp [cutN]
 | x :: l=>by
  have ih := zrl (a := a) (b := b) (m := m) (l := l);unfold cutN;have hble : ∀ p q : Nat,Nat.ble p q = false→¬ p ≤ q := fun p q h h2=>by rw [Nat.ble_eq_true_of_le h2] at h; cases h
  cases h1 : Nat.ble a x with
  | true =>
   cases h2 : Nat.blt x b with
   | true =>
    have e1 := zc3 h1;have e2 : x < b := Nat.le_of_ble_eq_true h2;simp only [ih,List.mem_cons];constructor
    ·rintro ⟨h,h'⟩; exact ⟨.inr h,h'⟩
    ·rintro ⟨rfl | h,h'⟩
     ·exact absurd ⟨e1,e2⟩ h'
     ·exact ⟨h,h'⟩
   | false =>
    have e2 : ¬ x < b := fun h=>hble _ _ h2 h;simp only [List.mem_cons,ih];constructor
    ·rintro (rfl | ⟨h,h'⟩)
     ·exact ⟨.inl rfl,fun h=>e2 h.2⟩
     ·exact ⟨.inr h,h'⟩
    ·rintro ⟨rfl | h,h'⟩
     ·exact .inl rfl
     ·exact .inr ⟨h,h'⟩
  | false =>
   have e1 := hble _ _ h1;simp only [List.mem_cons,ih];constructor
   ·rintro (rfl | ⟨h,h'⟩)
    ·exact ⟨.inl rfl,fun h=>e1 h.1⟩
    ·exact ⟨.inr h,h'⟩
   ·rintro ⟨rfl | h,h'⟩
    ·exact .inl rfl
    ·exact .inr ⟨h,h'⟩
section
variable {X : Nat→Prop} {g0 : G} {w0 : World} {Ex : Nat→Prop} {g g' : G} {S : St} {a : Act} {w w' : World} {P : Program} {R : Type} {r : R} {o : Oper}
theorem zro {B : Nat} {us : List Value} {e : TypeId} (hheap : w.heap[B]? = some (.cells us.toArray e (0,0))) (hp : g.pub B = 0) (nus : List Value) : Keep (fun b=>b = B) g w g (w.setRow B nus.toArray) :=
 ⟨⟨fun _ _ h=>h,fun _=>Nat.le_refl _,fun B' o ho=>by
  have hne : B' ≠ B := fun e=>by subst e; omega
  exact zb8 (setRow_other w B B' _ hne)⟩,rfl,rfl,rfl,by simp,fun B' _ hne=>⟨setRow_other w B B' _ hne,rfl,rfl⟩⟩
theorem zup (h : Inv g w) {B : Nat} {nus : Array Value} : Inv g (w.setRow B nus) := ⟨fun B' hB=>h.new B' (by simpa using hB),h.ph,h.pl,h.injh,h.injl⟩
theorem zli (h : Rel g0 w0 Ex g S a w) (k : Keep X g w g w') (hX : ∀ B p,g.role B = .c p→¬ X B) (S' : St) (hs : S'.sl = S.sl) (t : Nat) : zbl g S'.unlent a w' t (S'.unlent.slot t):=by
 have e : S'.unlent.slot t = (S.slot t).unlent := by rw [zb0]; show (nthS S'.sl t).unlent = _; rw [hs]; rfl
 rw [e];have h1 := (h.sl t).c;refine zmi.rel ?_ _;cases hst : S.slot t with
 | und=>trivial
 | lp d off=>rw [hst] at h1; exact h1
 | mp d=>rw [hst] at h1; exact h1
 | val v f =>
  rw [hst] at h1;refine ⟨h1.1.ext k.ext,?_⟩;cases f with
  | own=>exact zas.keep h1.2 k fun B hB=>hX B _ hB
  | ownS=>exact zas.keep h1.2 k fun B hB=>hX B _ hB
  | comps cs=>exact fun i hi us vs ui vi e1 e2 e3 e4=>zas.keep (h1.2 i hi us vs ui vi e1 e2 e3 e4) k fun B hB=>hX B _ hB
  | _=>trivial
theorem Rel.writeL (h : Rel g0 w0 Ex g S a w) {d B : Nat} {b : Blk} {us nus : List Value} {e : TypeId} {ncells : List AV} {nfree : List Nat} (hb : getL S.L d = some b) (hB : g.role B = .l d) (hheap : w.heap[B]? = some (.cells us.toArray e (0,0)))
  (hn : RepP g w nus ncells) (h1 : OneP nus ncells.length) (hfree : ∀ off ∈ nfree,∀ u v,nus[off]? = some u→ncells[off]? = some v→zas g w (.l d off) u v) :
  Rel g0 w0 Ex g ({ S with L := setL S.L d ⟨ncells,nfree⟩ } : St).unlent a (w.setRow B nus.toArray):=by
 have k := zro hheap (h.inv.pl B d hB) nus;have hX : ∀ B' p,g.role B' = .c p→¬ B' = B := fun B' p hp e=>by subst e; rw [hB] at hp; cases hp
 have hat := setRow_heap w B us.toArray nus.toArray e (0,0) hheap;refine ⟨zup h.inv,h.h.keep k (fun B' id b' hB' _ e=>by subst e; rw [hB] at hB'; cases hB') (fun B' id off hB'=>hX B' _ hB') h.h.lt,fun d' b' hb'=>?_,h.m.keep k (h.m.nocells h.inv hheap),by show (S.sl.map Slot.unlent).length = _; rw [lnM]; exact h.len,fun t=>zli h k hX { S with L := setL S.L d ⟨ncells,nfree⟩ } rfl t,h.fr.keep k ?_ ?_,h.nodef⟩
 ·have hb2 : getL (setL S.L d ⟨ncells,nfree⟩) d' = some b' := hb';rw [zcq] at hb2;split at hb2
  ·rename_i hd;subst hd;injection hb2 with hb2;subst hb2;refine ⟨B,hB,⟨nus,e,hat,h1,hn.ext k.ext⟩,fun off hoff u v hu hv=>zas.keep (hfree off hoff u v ?_ hv) k fun B' hB'=>hX B' _ hB'⟩
   simpa [World.cell?,hat] using hu
  ·rename_i hd;obtain ⟨B',hB',hblk,hf⟩ := h.l d' b' hb2;have hne : ¬ B' = B := fun e=>by subst e; rw [hB] at hB'; injection hB' with e; exact hd e.symm
   obtain ⟨us',e',hh,hrest⟩ := hblk;refine ⟨B',hB',zeh.keep ⟨us',e',hh,hrest⟩ k hne,fun off hoff u v hu hv=>?_⟩;rw [zb8 (setRow_other w B B' _ hne)] at hu;exact zas.keep (hf off hoff u v hu hv) k fun B'' hB''=>hX B'' _ hB''
 ·rintro B' rfl;exact h.fr.role B' (by rw [hB]; simp)
 ·rintro B' hlt rfl _;rcases h.fr.role B' (by rw [hB]; simp) with hx | hx
  ·omega
  ·exact hx
theorem Rel.writeH (h : Rel g0 w0 Ex g S a w) {id B : Nat} {b : Blk} {us nus : List Value} {e : TypeId} {ncells : List AV} {nfree : List Nat} (hb : S.H id = some b) (hB : g.role B = .h id) (hheap : w.heap[B]? = some (.cells us.toArray e (0,0)))
  (hn : RepP g w nus ncells) (h1 : OneP nus ncells.length) (hfree : ∀ off ∈ nfree,∀ u v,nus[off]? = some u→ncells[off]? = some v→zas g w (.h id off) u v) :
  Rel g0 w0 Ex g ({ S with H := S.H.set id ⟨ncells,nfree⟩ } : St).unlent a (w.setRow B nus.toArray):=by
 have k := zro hheap (h.inv.ph B id hB) nus;have hX : ∀ B' p,g.role B' = .c p→¬ B' = B := fun B' p hp e=>by subst e; rw [hB] at hp; cases hp
 have hat := setRow_heap w B us.toArray nus.toArray e (0,0) hheap;refine ⟨zup h.inv,⟨fun id' b' hb'=>?_,fun B' id'' hB'=>zpm (h.h.lt B' id'' hB')⟩,h.l.keep k (fun B' d b' hB' _ e=>by subst e; rw [hB] at hB'; cases hB') (fun B' d off hB'=>hX B' _ hB'),h.m.keep k (h.m.nocells h.inv hheap),by show (S.sl.map Slot.unlent).length = _; rw [lnM]; exact h.len,fun t=>zli h k hX { S with H := S.H.set id ⟨ncells,nfree⟩ } rfl t,h.fr.keep k ?_ ?_,h.nodef⟩
 ·have hb2 : S.H.set id ⟨ncells,nfree⟩ id' = some b' := hb';rw [zix] at hb2;split at hb2
  ·rename_i hd;subst hd;injection hb2 with hb2;subst hb2;refine ⟨B,hB,⟨nus,e,hat,h1,hn.ext k.ext⟩,fun off hoff u v hu hv=>zas.keep (hfree off hoff u v ?_ hv) k fun B' hB'=>hX B' _ hB'⟩
   simpa [World.cell?,hat] using hu
  ·rename_i hd;obtain ⟨B',hB',hblk,hf⟩ := h.h.blk id' b' hb2;have hne : ¬ B' = B := fun e=>by subst e; rw [hB] at hB'; injection hB' with e; exact hd e.symm
   obtain ⟨us',e',hh,hrest⟩ := hblk;refine ⟨B',hB',zeh.keep ⟨us',e',hh,hrest⟩ k hne,fun off hoff u v hu hv=>?_⟩;rw [zb8 (setRow_other w B B' _ hne)] at hu;exact zas.keep (hf off hoff u v hu hv) k fun B'' hB''=>hX B'' _ hB''
 ·rintro B' rfl;exact h.fr.role B' (by rw [hB]; simp)
 ·rintro B' hlt rfl _;rcases h.fr.role B' (by rw [hB]; simp) with hx | hx
  ·omega
  ·exact hx
theorem own_nil (p : Pl) (v : AV) : zas g w p (.slice none 0 0) v:=by
 cases v <;> first | trivial | exact .inl rfl
def zj2 (st : Bool) (S : St) (x : Operand) : Bool := match st with
 | true=>ze3 S x
 | false=>zgh S x
theorem Rel.disowned (h : Rel g0 w0 Ex g S a w) (x : Operand) (t : TypeId) (p : Pl) : ∃ g1,Rel g0 w0 Ex g1 (zb5 S x) a w∧Ext g w g1 w∧(∀ B id,g1.role B = .h id ↔ g.role B = .h id)∧(∀ B d,g1.role B = .l d ↔ g.role B = .l d) ∧
  (zj2 p.str S x = true→zas g1 w p (a.eval x) (Go.Vai.evT P S t x)):=by
 have same : zb5 S x = S→(zj2 p.str S x = true→zas g w p (a.eval x) (Go.Vai.evT P S t x))→∃ g1,Rel g0 w0 Ex g1 (zb5 S x) a w∧Ext g w g1 w∧(∀ B id,g1.role B = .h id ↔ g.role B = .h id)∧(∀ B d,g1.role B = .l d ↔ g.role B = .l d) ∧
   (zj2 p.str S x = true→zas g1 w p (a.eval x) (Go.Vai.evT P S t x)) := fun e ho=>⟨g,by rw [e]; exact h,Ext.refl _ _,fun _ _=>Iff.rfl,fun _ _=>Iff.rfl,ho⟩
 cases x with
 | const c =>
  refine same rfl fun ho=>?_;have ho : zgh S (.const c) = true:=by
   unfold zj2 at ho;split at ho <;> exact ho
  simp only [zgh] at ho;split at ho
  ·exact own_nil _ _
  ·cases ho
 | global n=>exact same rfl fun ho=>by unfold zj2 at ho; split at ho <;> cases ho
 | func f=>exact same rfl fun ho=>by unfold zj2 at ho; split at ho <;> cases ho
 | tmp ts =>
  cases hs : S.slot ts with
  | und=>exact same (by simp [zb5,hs]) fun ho=>by unfold zj2 at ho; split at ho <;> simp [zgh,ze3,hs] at ho
  | lp d off=>exact same (by simp [zb5,hs]) fun ho=>by unfold zj2 at ho; split at ho <;> simp [zgh,ze3,hs] at ho
  | mp d=>exact same (by simp [zb5,hs]) fun ho=>by unfold zj2 at ho; split at ho <;> simp [zgh,ze3,hs] at ho
  | val v f =>
   cases f with
   | own =>
    have e : zb5 S (.tmp ts) = S.put ts (.val v .no) := by simp [zb5,hs]
    rw [e];obtain ⟨hrep,hown⟩ := h.slotv hs;have hlt : ts < S.sl.length := zcb (by show S.slot ts ≠ _; rw [hs]; simp);have h1 := h.reflag hs (f' := .no) trivial (by simp) (by simp);have hnc : zfi (S.put ts (.val v .no)) (.s ts):=by
     intro v' hv';rw [zam,if_pos ⟨rfl,hlt⟩] at hv';injection hv' with _ e;cases e
    have ev : Go.Vai.evT P S t (.tmp ts) = v := by show (S.slot ts).av = v; rw [hs]; rfl
    cases hp : p.str with
    | false =>
     obtain ⟨g1,h2,h3,h4,h5,h6,_⟩ := h1.retag hnc hown p (by rw [hp]; simp [Pl.str]);exact ⟨g1,h2,⟨fun B id hB=>(h4 B id).2 hB,fun B=>by rw [h6]; exact Nat.le_refl _,fun _ _ _=>rfl⟩,h4,h5,fun _=>by rw [ev]; exact h3⟩
    | true =>
     obtain ⟨g1,h2,h3,h4,h5,h6,_⟩ := h1.retag hnc hown (.r 0);exact ⟨g1,h2,⟨fun B id hB=>(h4 B id).2 hB,fun B=>by rw [h6]; exact Nat.le_refl _,fun _ _ _=>rfl⟩,h4,h5,fun ho=>by simp [zj2,zgh,ze3,hs] at ho⟩
   | ownS =>
    have e : zb5 S (.tmp ts) = S.put ts (.val v .no) := by simp [zb5,hs]
    rw [e];obtain ⟨hrep,hown⟩ := h.slotv hs;have hlt : ts < S.sl.length := zcb (by show S.slot ts ≠ _; rw [hs]; simp);have h1 := h.reflag hs (f' := .no) trivial (by simp) (by simp);have hnc : zfi (S.put ts (.val v .no)) (.ss ts):=by
     intro v' hv';rw [zam,if_pos ⟨rfl,hlt⟩] at hv';injection hv' with _ e;cases e
    have ev : Go.Vai.evT P S t (.tmp ts) = v := by show (S.slot ts).av = v; rw [hs]; rfl
    cases hp : p.str with
    | true =>
     obtain ⟨g1,h2,h3,h4,h5,h6,_⟩ := h1.retag hnc hown p (by rw [hp]; simp [Pl.str]);exact ⟨g1,h2,⟨fun B id hB=>(h4 B id).2 hB,fun B=>by rw [h6]; exact Nat.le_refl _,fun _ _ _=>rfl⟩,h4,h5,fun _=>by rw [ev]; exact h3⟩
    | false =>
     obtain ⟨g1,h2,h3,h4,h5,h6,_⟩ := h1.retag hnc hown (.r 0);exact ⟨g1,h2,⟨fun B id hB=>(h4 B id).2 hB,fun B=>by rw [h6]; exact Nat.le_refl _,fun _ _ _=>rfl⟩,h4,h5,fun ho=>by simp [zj2,zgh,ze3,hs] at ho⟩
   | _=>exact same (by simp [zb5,hs]) fun ho=>by unfold zj2 at ho; split at ho <;> simp [zgh,ze3,hs] at ho
theorem zle {us new : List Value} {off i : Nat} (h : off + new.length ≤ us.length) (hi : ¬ (off ≤ i∧i < off + new.length)) : (zc4 us off new)[i]? = us[i]?:=by
 unfold zc4;by_cases h1 : i < off
 ·rw [List.getElem?_append_left (by rw [List.length_take]; omega),List.getElem?_take,if_pos h1]
 ·rw [List.getElem?_append_right (by rw [List.length_take]; omega),List.length_take,Nat.min_eq_left (by omega),List.getElem?_append_right (by omega),List.getElem?_drop]
  congr 1; omega
theorem zna {us new : List AV} {off i : Nat} (h : off + new.length ≤ us.length) (hi : ¬ (off ≤ i∧i < off + new.length)) : (patch us off new)[i]? = us[i]?:=by
 rw [zgc _ _ _ (by omega)];by_cases h1 : i < off
 ·rw [List.getElem?_append_left (by rw [List.length_take]; omega),List.getElem?_take,if_pos h1]
 ·rw [List.getElem?_append_right (by rw [List.length_take]; omega),List.length_take,Nat.min_eq_left (by omega),List.getElem?_append_right (by omega),List.getElem?_drop]
  congr 1; omega
theorem zlf {us : List Value} {off : Nat} {u : Value} (h : off + 1 ≤ us.length) : (zc4 us off [u])[off]? = some u:=by
 unfold zc4;rw [List.getElem?_append_right (by rw [List.length_take]; omega),List.length_take,Nat.min_eq_left (by omega)];simp
theorem zmp {us : List AV} {off : Nat} {u : AV} (h : off + 1 ≤ us.length) : (patch us off [u])[off]? = some u:=by
 rw [zgc _ _ _ (by omega)];rw [List.getElem?_append_right (by rw [List.length_take]; omega),List.length_take,Nat.min_eq_left (by omega)];simp
theorem zmw {t : TypeId} {B off : Nat} {us nus : List Value} {e : TypeId} {u : Value} (hz : zaj P t ≠ 0) (hheap : w.heap[B]? = some (.cells us.toArray e (0,0))) (hu : u.cells = nus.toArray) (hn : nus.length = zaj P t) (h1 : ∀ x ∈ nus,x.oneCell' = true)
  (hle : off + nus.length ≤ us.length) : (storeVar t ⟨B,off,none⟩ u).run P w = .ok () (w.setRow B (zc4 us off nus).toArray):=by
 have hst := run_storeCells_at P B off e nus 0 us.toArray w hheap (by simpa using hle) h1;have hs : u.cells.size = zaj P t := by rw [hu,List.size_toArray,hn]
 simp only [storeVar,Sem.run_bind,zbx hz,Result.andThen_ok,ne_eq,hu];simp only [Nat.add_zero] at hst;simp only [List.append_assoc] at hst;unfold zc4
 simpa [hn] using hst
theorem zp2 {t : TypeId} {ad x : Operand} {k : St→Option R} (ho : o.op = .store t ad x) (hod : o.dst = none) (h : zns P t ad x S k = some r) (hg : Rel g0 w0 Ex g S a w) :
  zb3 P o a w g0 w0 Ex k r:=by
 unfold zns at h;split at h
 ·cases h
 ·rename_i hz0;have hz : zaj P t ≠ 0 := fun e=>by rw [e] at hz0; cases hz0
  obtain ⟨cs,nus,h2,hcells,hnr,hn1,hcs,hnu,hshape⟩ := cells?_sound (hg.evT (P := P) t x) h;obtain ⟨h3,h4⟩ := zai h2;clear h h2;have hlen := zay h3;have hnlen : nus.length = zaj P t := by rw [hnr.1,hlen]
  split at h4
  ·rename_i ta;have fin : ∀ (B off : Nat) (us : List Value) (e : TypeId) (S' : St),a.eval (.tmp ta) = .pointer (some ⟨B,off,none⟩)→w.heap[B]? = some (.cells us.toArray e (0,0))→off + nus.length ≤ us.length →
     Good g0 w0 Ex S' a (w.setRow B (zc4 us off nus).toArray)→k S' = some r→zb3 P o a w g0 w0 Ex k r:=by
    intro B off us e S' hev hheap hle hgood hk;refine ⟨.skip,undef,w.setRow B (zc4 us off nus).toArray,S',?_,.inr ⟨rfl,rfl⟩,?_,hk⟩
    ·simp only [execOp,ho,Instr.storeAt,hev,Instr.sureAddr,Sem.run_bind,Sem.run_pure,Result.andThen_ok,zmw hz hheap hcells hnlen hn1 hle]
    ·rw [hod]; exact hgood
   have claims : ∀ (g1 : G) (p : Nat→Pl) (off : Nat) (us : List Value) (cells : List AV) (free : List Nat) (ow : Bool),off + cs.length ≤ cells.length→cells.length ≤ us.length →
     (∀ i ∈ free,∀ u v,us[i]? = some u→cells[i]? = some v→zas g1 w (p i) u v)→(ow = true→zas g1 w (p off) (a.eval x) (evT P S t x)) →
     ∀ i ∈ zfp off cs.length (ow && isVs (evT P S t x)) free,∀ u v,(zc4 us off nus)[i]? = some u→(patch cells off cs)[i]? = some v→zas g1 w (p i) u v:=by
    intro g1 p off us cells free ow hle hul hold hnew i hi u v hu hv;have hle2 : off + nus.length ≤ us.length := by rw [hnr.1]; omega
    have out : i ∈ cutN off (off + cs.length) free→zas g1 w (p i) u v:=by
     intro hi;obtain ⟨hm,hn⟩ := zrl.1 hi;rw [zle hle2 (by rw [hnr.1]; exact hn)] at hu;rw [zna hle hn] at hv;exact hold i hm u v hu hv
    unfold zfp at hi;cases hb : (ow && isVs (evT P S t x)) with
    | false=>rw [hb] at hi; exact out hi
    | true =>
     rw [hb] at hi;rcases zrv.1 hi with rfl | hi
     ·rw [Bool.and_eq_true] at hb;rcases hshape with ⟨l,hl⟩ | ⟨hs1,hs2⟩
      ·rw [hl] at hb;cases hb.2
      ·subst hs1 hs2;rw [zlf hle2] at hu;rw [zmp hle] at hv;injection hu with hu;injection hv with hv;subst hu hv;exact hnew hb.1
     ·exact out hi
   split at h4
   ·rename_i d off hs;obtain ⟨b,hb,h5⟩ := za2 h4;obtain ⟨h6,h7⟩ := zai h5;have hle := zc3 h6;have h8 := hg.sl ta;rw [hs] at h8;obtain ⟨B,hB,hev⟩ := h8;obtain ⟨g1,hr1,hE,hh,hl,hown⟩ := hg.disowned (P := P) x t (.l d off);have hL : (zb5 S x).L = S.L := by unfold zb5; split <;> (try split) <;> rfl
    obtain ⟨B',hB',⟨us,e,hheap,hone,hrl⟩,hfree⟩ := hr1.l d b (by rw [hL]; exact hb);obtain rfl := hr1.inv.injl B B' d ((hl _ _).2 hB) hB';have hul := hrl.1;refine fin B off us e _ hev hheap (by rw [hnr.1]; omega) ⟨g1,?_⟩ h7;have := hr1.writeL (d := d) (B := B) (b := b) (us := us) (nus := zc4 us off nus) (e := e) (ncells := patch b.cells off cs) (nfree := zfp off cs.length (zgh S x && isVs (evT P S t x)) b.free) (by rw [hL]; exact hb) ((hl _ _).2 hB) hheap
     (hrl.patch (hnr.ext hE) hle) (hone.patch hul hn1 hnr.1 hle) (claims g1 (fun i=>.l d i) off us b.cells b.free (zgh S x) hle hul (fun i hi u v hu hv=>hfree i hi u v (by simpa [World.cell?,hheap] using hu) hv) hown)
    rw [hL] at this;exact this
   ·rename_i v f hs;have hrep := (hg.slotv hs).1;split at h4
    ·rename_i id off;obtain ⟨b,hb,h5⟩ := za2 h4;obtain ⟨h6,h7⟩ := zai h5;have hle := zc3 h6;obtain ⟨B,hB,hev⟩ := zfo hrep;obtain ⟨g1,hr1,hE,hh,hl,hown⟩ := hg.disowned (P := P) x t (.h id off);have hH : (zb5 S x).H = S.H := by unfold zb5; split <;> (try split) <;> rfl
     obtain ⟨B',hB',⟨us,e,hheap,hone,hrl⟩,hfree⟩ := hr1.h.blk id b (by rw [hH]; exact hb);obtain rfl := hr1.inv.injh B B' id ((hh _ _).2 hB) hB';have hul := hrl.1;refine fin B off us e _ hev hheap (by rw [hnr.1]; omega) ⟨g1,?_⟩ h7;have := hr1.writeH (id := id) (B := B) (b := b) (us := us) (nus := zc4 us off nus) (e := e) (ncells := patch b.cells off cs) (nfree := zfp off cs.length (ze3 S x && isVs (evT P S t x)) b.free) (by rw [hH]; exact hb) ((hh _ _).2 hB) hheap
      (hrl.patch (hnr.ext hE) hle) (hone.patch hul hn1 hnr.1 hle) (claims g1 (fun i=>.h id i) off us b.cells b.free (ze3 S x) hle hul (fun i hi u v hu hv=>hfree i hi u v (by simpa [World.cell?,hheap] using hu) hv) hown)
     rw [hH] at this;exact this
    ·cases h4
   ·cases h4
  ·cases h4
end
end
section
section
variable {X : Nat→Prop} {g0 : G} {w0 : World} {Ex : Nat→Prop} {g g' : G} {S : St} {a : Act} {w w' : World} {P : Program} {R : Type} {r : R} {o : Oper}
def Tmp0 (q : Pl) : Prop := q = .r 0 ∨ q = .rs
theorem Rel.keepX (h : Rel g0 w0 Ex g S a w) (k : Keep X g w g' w') (hi : Inv g' w') {q : Pl} (hq : Tmp0 q) (hX : ∀ B,X B→g.role B = .c q) (hrole : ∀ B,B < w.heap.size→g'.role B = g.role B) (hlt : ∀ B id,g'.role B = .h id→S.H id ≠ none) :
  Rel g0 w0 Ex g' S.unlent a w':=by
 have nX : ∀ B p,g.role B = .c p→p ≠ q→¬ X B := fun B p hp hne hx=>by rw [hX B hx] at hp; injection hp with e; exact hne e.symm
 refine ⟨hi,h.h.keep k (fun B id b hB _ hx=>by rw [hX B hx] at hB; cases hB) (fun B id off hB=>nX B _ hB (by rcases hq with rfl | rfl <;> simp)) hlt,h.l.keep k (fun B id b hB _ hx=>by rw [hX B hx] at hB; cases hB) (fun B id off hB=>nX B _ hB (by rcases hq with rfl | rfl <;> simp)),h.m.keep k (fun B d l hB _ hx=>by rw [hX B hx] at hB; cases hB),
  by show (S.sl.map Slot.unlent).length = _; rw [lnM]; exact h.len,fun t=>?_,h.fr.keep k (fun B hx=>h.fr.role B (by rw [hX B hx]; simp)) (fun B hB hx _=>?_),h.nodef⟩
 ·rw [zb0];refine zmi.rel ?_ _;have h1 := (h.sl t).c;cases hst : S.slot t with
  | und=>trivial
  | lp d off =>
   rw [hst] at h1;obtain ⟨B,h2,h3⟩ := h1;refine ⟨B,?_,h3⟩;have hB : B < w.heap.size:=by
    rcases Nat.lt_or_ge B w.heap.size with hl | hl
    ·exact hl
    ·rw [(h.inv.new B hl).1] at h2; cases h2
   rw [hrole B hB]; exact h2
  | mp d =>
   rw [hst] at h1;obtain ⟨B,h2,h3⟩ := h1;refine ⟨B,?_,h3⟩;have hB : B < w.heap.size:=by
    rcases Nat.lt_or_ge B w.heap.size with hl | hl
    ·exact hl
    ·rw [(h.inv.new B hl).1] at h2; cases h2
   rw [hrole B hB]; exact h2
  | val v f =>
   rw [hst] at h1;refine ⟨h1.1.ext k.ext,?_⟩;cases f with
   | own=>exact zas.keep h1.2 k fun B hB=>nX B _ hB (by rcases hq with rfl | rfl <;> simp)
   | ownS=>exact zas.keep h1.2 k fun B hB=>nX B _ hB (by rcases hq with rfl | rfl <;> simp)
   | comps cs=>exact fun i hi us vs ui vi e1 e2 e3 e4=>zas.keep (h1.2 i hi us vs ui vi e1 e2 e3 e4) k fun B hB=>nX B _ hB (by rcases hq with rfl | rfl <;> simp)
   | _=>trivial
 ·rcases h.fr.role B (by rw [hX B hx]; simp) with h1 | h1
  ·omega
  ·exact h1
theorem zfr {t t2 ty e : TypeId} {i : TypeInfo} {x : Value} {base : Option Addr} {n cap m : Nat} {news : List Value} (ht : P.underlying t = some (.slice e)) (ht2 : (∃ e2,P.underlying t2 = some (.slice e2)) ∨ P.underlying t2 = some .string)
  (hi : P.info? e = some i) (hlen : (Builtin.lenOf x).run P w = .ok m w) (hfc : (Builtin.firstCells i.size m x).run P w = .ok news.toArray w) (hroom : n + m ≤ cap) :
  (Builtin.append_ #[t,t2] ty #[.slice base n cap,x]).run P w = (match base with
   | some a=>(storeCells (a.add (n * i.size)) news).run P w
   | none=>Result.ok () w).andThen fun _ w'=>.ok (.slice base (n + m) cap) w':=by
 rcases ht2 with ⟨e2,ht2⟩ | ht2 <;> cases base <;> simp [Builtin.append_,zb7 ht,zb7 ht2,sizeOf,typeInfo,hi,hlen,hroom,hfc]
theorem zj4 {t t2 ty e : TypeId} {i : TypeInfo} {z x : Value} {base : Option Addr} {n cap m : Nat} {olds news : List Value} (ht : P.underlying t = some (.slice e)) (ht2 : (∃ e2,P.underlying t2 = some (.slice e2)) ∨ P.underlying t2 = some .string)
  (hi : P.info? e = some i) (hz : i.zero = some z) (hlen : (Builtin.lenOf x).run P w = .ok m w) (hfc : (Builtin.firstCells i.size m x).run P w.drew = .ok news.toArray w.drew)
  (hfo : (Builtin.firstCells i.size n (.slice base n cap)).run P w.drew = .ok olds.toArray w.drew) (hgrow : cap < n + m) (h63 : n + m ≤ 140737488355328) (hb : (n + m) * i.bytes ≤ 140737488355328) :
  (Builtin.append_ #[t,t2] ty #[.slice base n cap,x]).run P w =
   .ok (.slice (some ⟨w.heap.size,0,none⟩) (n + m) (grownCap w (n + m) cap e)) (w.drew.alloc (.cells (olds ++ (news ++ (Builtin.zeroCells z.cells (grownCap w (n + m) cap e - (n + m))).toList)).toArray e)):=by
 have hn : ¬ (n + m ≤ cap) := by omega
 have h63' : ¬ (9223372036854775807 < ((n : Int) + (m : Int))) := by omega
 have hfit := growslice_fits hgrow hb;have h48' : ¬ (281474976710656 < Builtin.nextslicecap (n + m) cap * i.bytes) := by omega
 rcases ht2 with ⟨e2,ht2⟩ | ht2 <;>
  (simp [Builtin.append_,zb7 ht,zb7 ht2,sizeOf,typeInfo,zeroValue,hi,hz,hlen,hn,h63',h48',Question.forced,hfc,hfo,newRow,grownCap]; try (congr 2; apply Array.ext'; simp))
theorem zqt {st st2 ty e : TypeId} {ua ub : Value} {z : Nat} {tg : Bool} {l l2 : List AV} {news : List Value} {i : TypeInfo} {zv : Value} {q : Pl} (hq : Tmp0 q) (hg : Rel g0 w0 Ex g S a w)
  (ht : P.underlying st = some (.slice e)) (ht2 : (∃ e2,P.underlying st2 = some (.slice e2)) ∨ P.underlying st2 = some .string) (hi : P.info? e = some i) (hzv : i.zero = some zv) (hzc : zv.cells.size = i.size) (_hsz : i.size ≠ 0)
  (hra : Rep g w ua (.vs z tg l)) (hz : z = i.size ∨ l = []) (ho : OwnV g w q i.size ua) (hsrc : Src P g w i.size ub l2 news)
  (hb1 : (l.length + l2.length) * i.bytes ≤ 140737488355328) (hb2 : l.length + l2.length ≤ 140737488355328) :
  ∃ u' w' g',(Builtin.append_ #[st,st2] ty #[ua,ub]).run P w = .ok u' w'∧Rel g0 w0 Ex g' S.unlent a w'∧Rep g' w' u' (.vs i.size false (l ++ l2))∧OwnV g' w' q i.size u'∧(l2 ≠ []→OwnB g' w' q i.size u'):=by
 have hszs : ∀ x ∈ l,x.cells.length = i.size:=by
  rcases hz with rfl | rfl
  ·rcases ze2 hra with ⟨_,rfl⟩ | ⟨_,_,_,_,_,h,_⟩
   ·simp
   ·exact h
  ·simp
 have hszs2 : ∀ x ∈ l ++ l2,x.cells.length = i.size := fun x hx=>by
  rcases List.mem_append.1 hx with h | h
  ·exact hszs x h
  ·exact hsrc.sizes x h
 have hfc : ∀ w',(∀ B o,B < w.heap.size→w'.cell? ⟨B,o,none⟩ = w.cell? ⟨B,o,none⟩)→(Builtin.firstCells i.size l2.length ub).run P w' = .ok news.toArray w' := fun w' hw=>by
  have h := hsrc.cells l2.length w' (Nat.le_refl _) hw
  rwa [List.take_of_length_le (by rw [hsrc.rep.1,zbi hsrc.sizes]; exact Nat.le_refl _)] at h
 have hnl : news.length = l2.length * i.size := by rw [hsrc.rep.1,zbi hsrc.sizes]
 have grow : ∀ (base : Option Addr) (cap : Nat) (olds : List Value),ua = .slice base l.length cap→cap < l.length + l2.length→RepL g w olds (l.flatMap AV.cells)→(∀ u ∈ olds,u.oneCell' = true) →
   (Builtin.firstCells i.size l.length (.slice base l.length cap)).run P w.drew = .ok olds.toArray w.drew →
   ∃ u' w' g',(Builtin.append_ #[st,st2] ty #[ua,ub]).run P w = .ok u' w'∧Rel g0 w0 Ex g' S.unlent a w'∧Rep g' w' u' (.vs i.size false (l ++ l2))∧OwnV g' w' q i.size u'∧(l2 ≠ []→OwnB g' w' q i.size u'):=by
  intro base cap olds hua hgr holds hone hfo;subst hua;have hrun := zj4 (ty := ty) ht ht2 hi hzv (hsrc.len w) (hfc w.drew (fun _ _ _=>rfl)) hfo hgr hb2 hb1;have hge := grownCap_ge w (l.length + l2.length) cap e;generalize hcells : olds ++ (news ++ (Builtin.zeroCells zv.cells (grownCap w (l.length + l2.length) cap e - (l.length + l2.length))).toList) = cells at hrun;have hd := hg.drew;have hr := hd.newblk (w' := w.drew.alloc (.cells cells.toArray e)) (fun B hB=>zbe w.drew _ hB) (zd0 w.drew _) rfl rfl rfl (.c q) ((l.length + l2.length) * i.size) (.inr ⟨_,rfl⟩);have hk := zem (w' := w.drew.alloc (.cells cells.toArray e)) hd.inv (fun B hB=>zbe w.drew _ hB) (by simp) rfl rfl rfl (.c q) ((l.length + l2.length) * i.size);have hol : olds.length = l.length * i.size := by rw [holds.1,zbi hszs]
  have hcl : cells.length = grownCap w (l.length + l2.length) cap e * i.size:=by
   rw [← hcells];simp only [lnA,Array.length_toList,size_zeroCells,hzc,hol,hnl,← Nat.add_mul]
   congr 1; omega
  have hat := zc7 w.drew (.cells cells.toArray e);have hB : OwnB (g.new w.drew.heap.size (.c q) ((l.length + l2.length) * i.size)) (w.drew.alloc (.cells cells.toArray e)) q i.size (.slice (some ⟨w.heap.size,0,none⟩) (l.length + l2.length) (grownCap w (l.length + l2.length) cap e)) := ⟨w.heap.size,_,_,cells.toArray,e,rfl,by rw [zba]; exact if_pos rfl,hat,by simpa using hcl,hge,by rw [ze8]; exact if_pos rfl⟩;refine ⟨_,_,_,hrun,hr.unlent,?_,hB.v,fun _=>hB⟩;have hrl := ((holds.append hsrc.rep).ext (⟨fun _ _ h=>h,fun _=>Nat.le_refl _,fun _ _ _=>rfl⟩ : Ext g w g w.drew)).ext hk.ext;rw [← List.flatMap_append] at hrl;have hcat : ∀ (j : Nat) (u : Value),(olds ++ news)[j]? = some u→cells[j]? = some u := fun j u hu=>by
   rw [← hcells,← List.append_assoc,List.getElem?_append_left (List.getElem?_eq_some_iff.1 hu).1]; exact hu
  have := Rep.vs (g := g.new w.drew.heap.size (.c q) ((l.length + l2.length) * i.size)) (w := w.drew.alloc (.cells cells.toArray e)) w.heap.size 0 (grownCap w (l.length + l2.length) cap e) i.size false (l ++ l2) (olds ++ news) hrl.1 hszs2 (by simp) (by rw [lnA]; exact hge)
   (fun j u hu=>by
    have h1 := hcat j u hu;refine ⟨?_,?_,?_⟩
    ·rw [Nat.zero_add]; simp only [World.cell?]; rw [show (w.drew.alloc (Obj.cells cells.toArray e)).heap[w.heap.size]? = some (Obj.cells cells.toArray e) from hat]; simpa using h1
    ·rw [Nat.zero_add,ze8,if_pos (show w.heap.size = w.drew.heap.size from rfl)];have := (List.getElem?_eq_some_iff.1 hu).1;rw [lnA,hol,hnl,← Nat.add_mul] at this;exact this
    ·rcases List.mem_append.1 (List.mem_of_getElem? hu) with h | h
     ·exact hone u h
     ·exact hsrc.one u h) hrl.2
  rw [lnA] at this;exact this
 have none' : ∀ (base : Option Addr) (cap : Nat),ua = .slice base l.length cap→l2 = []→l.length ≤ cap→
   ∃ u' w' g',(Builtin.append_ #[st,st2] ty #[ua,ub]).run P w = .ok u' w'∧Rel g0 w0 Ex g' S.unlent a w'∧Rep g' w' u' (.vs i.size false (l ++ l2))∧OwnV g' w' q i.size u'∧(l2 ≠ []→OwnB g' w' q i.size u'):=by
  intro base cap hua hl2 hle;subst hl2 hua;have hn0 : news = [] := List.eq_nil_of_length_eq_zero (by simpa using hnl);subst hn0;have hrun := zfr (ty := ty) (base := base) ht ht2 hi (hsrc.len w) (hfc w (fun _ _ _=>rfl)) (by simpa using hle);refine ⟨.slice base l.length cap,w,g,?_,hg.unlent,?_,ho,fun h=>absurd rfl h⟩
  ·rw [hrun]; cases base <;> rfl
  ·rw [List.append_nil];rcases ze2 hra with ⟨⟨p0,hu⟩,rfl⟩ | ⟨B,off,cap',vals,hu,hs,ht',hc,hcell,hrl⟩
   ·injection hu with e1 e2 e3; subst e1 e3; exact .vsnil _ _ _
   ·injection hu with e1 e2 e3; subst e1 e3; exact .vs B off _ _ false l vals hrl.1 hszs (by simp) hle hcell hrl.2
 have odd : ∀ p,ua = .slice p 0 0→l = [] →
   ∃ u' w' g',(Builtin.append_ #[st,st2] ty #[ua,ub]).run P w = .ok u' w'∧Rel g0 w0 Ex g' S.unlent a w'∧Rep g' w' u' (.vs i.size false (l ++ l2))∧OwnV g' w' q i.size u'∧(l2 ≠ []→OwnB g' w' q i.size u'):=by
  intro p hp hl;subst hl;by_cases hm : l2 = []
  ·exact none' p 0 hp hm (Nat.le_refl _)
  ·refine grow p 0 [] hp ?_ ⟨rfl,by simp⟩ (by simp) ?_
   ·have : l2.length ≠ 0 := fun h=>hm (List.eq_nil_of_length_eq_zero h);simp only [lnN]; omega
   ·cases p with
    | none=>simp [Builtin.firstCells]
    | some ad =>
     have := run_loadCells_list (P := P) w.drew ad [] (fun j v hv=>by simp at hv)
     simpa [Builtin.firstCells] using this
 rcases ho with hnil | ⟨ad,n,htight⟩ | ⟨B,n,cap,us,e',hu,hrole,hheap,hus,hncap,hpub⟩
 ·
  obtain ⟨p,cap,he,hcap⟩ := zg6 hra;have hl0 : l = []:=by
   rw [hnil] at he; injection he with _ e2 _; exact List.eq_nil_of_length_eq_zero e2.symm
  subst hl0;by_cases hm : l2 = []
  ·exact none' none 0 (by rw [hnil]; rfl) hm (Nat.le_refl _)
  ·refine grow none 0 [] (by rw [hnil]; rfl) ?_ ⟨rfl,by simp⟩ (by simp) (by simp [Builtin.firstCells]);have : l2.length ≠ 0 := fun h=>hm (List.eq_nil_of_length_eq_zero h);simp only [lnN]; omega
 ·
  rcases ze2 hra with ⟨⟨p0,hu⟩,hl0⟩ | ⟨B,off,cap',vals,hu,hs,ht',hc,hcell,hrl⟩
  ·exact odd p0 hu hl0
  ·have hcap : cap' = l.length := by rw [htight.2] at hu; injection hu with _ e2 e3; rw [← e3,e2]
   subst hcap;by_cases hm : l2 = []
   ·exact none' _ _ hu hm (Nat.le_refl _)
   ·have hca : zbg w B off vals := fun j u hu=>⟨(hcell j u hu).1,(hcell j u hu).2.2⟩;refine grow _ _ vals hu ?_ hrl hca.one ?_
    ·have : l2.length ≠ 0 := fun h=>hm (List.eq_nil_of_length_eq_zero h);omega
    ·simp only [Builtin.firstCells];have hca' : zbg w.drew B off vals := hca;exact hca'.run (by rw [hrl.1,zbi hszs])
 ·
  rcases ze2 hra with ⟨⟨p0,hu2⟩,hl0⟩ | ⟨B2,off,cap',vals,hu2,hs,ht',hc,hcell,hrl⟩
  ·exact odd p0 hu2 hl0
  ·have h3 := hu2;rw [hu] at h3;injection h3 with e1 e2 e3;injection e1 with e1;injection e1 with e1 e4 _;subst e1 e2 e3 e4;have hvl : vals.length = l.length * i.size := by rw [hrl.1,zbi hszs]
   have hul : us.toList.length = us.size := Array.length_toList;by_cases hroom : l.length + l2.length ≤ cap
   ·
    have hrun := zfr (ty := ty) (base := some ⟨B,0,none⟩) ht ht2 hi (hsrc.len w) (hfc w (fun _ _ _=>rfl)) hroom;have hle : l.length * i.size + news.length ≤ us.size := by rw [hnl,hus,← Nat.add_mul]; exact Nat.mul_le_mul_right _ hroom
    have hst := run_storeCells_at P B (l.length * i.size) e' news 0 us w hheap (by simpa using hle) hsrc.one;simp only [Nat.add_zero,List.append_assoc] at hst;generalize hrow : (us.toList.take (l.length * i.size) ++ (news ++ us.toList.drop (l.length * i.size + news.length))).toArray = row at hst;have hrun2 : (Builtin.append_ #[st,st2] ty #[ua,ub]).run P w = .ok (.slice (some ⟨B,0,none⟩) (l.length + l2.length) cap) (w.setRow B row):=by
     rw [hu,hrun];simp only [Addr.add_lit,Nat.zero_add];rw [hst];rfl
    let g2 : G := ⟨g.role,fun b=>if b = B then (l.length + l2.length) * i.size else g.pub b⟩
    have hp2 : ∀ b,g2.pub b = if b = B then (l.length + l2.length) * i.size else g.pub b := fun _=>rfl
    have hat := setRow_heap w B us row e' (0,0) hheap;have hlow : ∀ o,o < l.length * i.size→row[o]? = us[o]? := fun o ho=>by
     rw [← hrow];simp only [List.getElem?_toArray];rw [List.getElem?_append_left (by rw [List.length_take,hul]; omega),List.getElem?_take,if_pos ho];simp
    have hrow_size : row.size = us.size:=by
     rw [← hrow];simp only [List.size_toArray,lnA,List.length_take,List.length_drop,hul]; omega
    have hext : Ext g w g2 (w.setRow B row):=by
     refine ⟨fun _ _ h=>h,fun b=>?_,fun b o hb=>?_⟩
     ·rw [hp2]; split
      ·rename_i hbB; subst hbB; rw [hpub]; exact Nat.mul_le_mul_right _ (Nat.le_add_right _ _)
      ·exact Nat.le_refl _
     ·by_cases hbB : b = B
      ·subst hbB;rw [hpub] at hb;simp only [World.cell?,hat,hheap];simp [hlow o hb]
      ·exact zb8 (setRow_other w B b _ hbB)
    have hk : Keep (fun b=>b = B) g w g2 (w.setRow B row) := ⟨hext,rfl,rfl,rfl,by simp,fun b _ hne=>⟨setRow_other w B b _ hne,rfl,by rw [hp2,if_neg hne]⟩⟩;have hinv : Inv g2 (w.setRow B row):=by
     have hBl := zdh hheap;refine ⟨fun b hb=>?_,fun b id hb=>?_,fun b d hb=>?_,hg.inv.injh,hg.inv.injl⟩
     ·have hb' : w.heap.size ≤ b := by simpa using hb
      rw [hp2,if_neg (by omega)]; exact hg.inv.new b hb'
     ·rw [hp2,if_neg (fun e=>by subst e; rw [show g2.role b = g.role b from rfl,hrole] at hb; cases hb)]; exact hg.inv.ph b id hb
     ·rw [hp2,if_neg (fun e=>by subst e; rw [show g2.role b = g.role b from rfl,hrole] at hb; cases hb)]; exact hg.inv.pl b d hb
    have hrel := hg.keepX hk hinv hq (fun b hb=>by subst hb; exact hrole) (fun _ _=>rfl) hg.h.lt;have hB : OwnB g2 (w.setRow B row) q i.size (.slice (some ⟨B,0,none⟩) (l.length + l2.length) cap) := ⟨B,_,cap,row,e',rfl,hrole,hat,by rw [hrow_size]; exact hus,hroom,by rw [hp2]; exact if_pos rfl⟩;refine ⟨_,_,g2,hrun2,hrel,?_,hB.v,fun _=>hB⟩;have hrl2 := (hrl.append hsrc.rep).ext hext;rw [← List.flatMap_append] at hrl2;have := Rep.vs (g := g2) (w := w.setRow B row) B 0 cap i.size false (l ++ l2) (vals ++ news) hrl2.1 hszs2 (by simp) (by rw [lnA]; exact hroom)
     (fun j u hu=>by
      have hj : j < (l.length + l2.length) * i.size:=by
       have := (List.getElem?_eq_some_iff.1 hu).1;rw [lnA,hvl,hnl,← Nat.add_mul] at this;exact this
      refine ⟨?_,by rw [Nat.zero_add,hp2,if_pos rfl]; exact hj,?_⟩
      ·rw [Nat.zero_add];by_cases hjl : j < l.length * i.size
       ·rw [List.getElem?_append_left (by omega)] at hu;have h1 := (hcell j u hu).1;rw [Nat.zero_add] at h1;simp only [World.cell?,hheap] at h1;simp only [World.cell?,hat]
        simpa [hlow j hjl] using h1
       ·rw [List.getElem?_append_right (by omega)] at hu;simp only [World.cell?,hat];rw [← hrow];simp only [List.getElem?_toArray,Option.isSome_none,Bool.false_eq_true,if_false];rw [List.getElem?_append_right (by rw [List.length_take,hul]; omega),List.length_take,hul,Nat.min_eq_left (by omega),List.getElem?_append_left (by have := (List.getElem?_eq_some_iff.1 hu).1; omega)];rw [hvl] at hu;exact hu
      ·rcases List.mem_append.1 (List.mem_of_getElem? hu) with h | h
       ·obtain ⟨j',hj'⟩ := List.mem_iff_getElem?.1 h;exact (hcell j' u hj').2.2
       ·exact hsrc.one u h) hrl2.2
    rw [lnA] at this;exact this
   ·have hca : zbg w B 0 vals := fun j u hu=>⟨(hcell j u hu).1,(hcell j u hu).2.2⟩;refine grow _ _ vals hu (by omega) hrl hca.one ?_;simp only [Builtin.firstCells];have hca' : zbg w.drew B 0 vals := hca;exact hca'.run hvl
def zpf (P : Program) (o : Oper) (g0 : G) (w0 : World) (Ex : Nat→Prop) (a : Act) (w : World) (k : St→Option R) (r : R) (l : List AV) (sz : Nat) (q : Pl) (fl : Fl) : Prop :=
 ∃ S0 l2 u' w' g',(execOp a.eval o).run P w = .ok (.value u') w'∧Rel g0 w0 Ex g' (St.unlent S0) a w'∧Rep g' w' u' (.vs sz false (l ++ l2))∧OwnV g' w' q sz u' ∧
  (l2 ≠ []→OwnB g' w' q sz u')∧(∃ d,o.dst = some d)∧k ((St.unlent S0).putown o.dst (.vs sz false (l ++ l2)) fl) = some r
theorem zo3 {st st2 : TypeId} {x y : Operand} {k : St→Option R} (ho : o.op = .call { callee := .builtin .append,args := #[x,y],argTypes := #[st,st2] })
  (h : zd6 P o st st2 x y S k = some r) (hg : Rel g0 w0 Ex g S a w) : ∃ sz tg l,evT P S st x = .vs sz tg l∧∃ q fl,((q = .r 0∧fl = .own) ∨ (q = .rs∧fl = .ownS))∧zpf P o g0 w0 Ex a w k r l sz q fl:=by
 unfold zd6 at h;split at h
 ·rename_i e he hzo;have hu : P.underlying st = some (.slice e):=by
   unfold zj7 at he;split at he
   ·rename_i e' hu; injection he with he; rw [hu,he]
   ·cases he
  split at h
  ·rename_i hz0 hst;have hz : zaj P e ≠ 0 := fun e=>by rw [e] at hz0; cases hz0
   obtain ⟨i,hi,hisz,hiby⟩ := zqk hz;obtain ⟨zv,hzv,hzc⟩ : ∃ zv,i.zero = some zv∧zv.cells.size = i.size:=by
    unfold zs5 at hzo;rw [he] at hzo;simp only at hzo;split at hzo
    ·rename_i z hzz;obtain ⟨i',v,hi',hv,hr,_⟩ := zce (g := g) (w := w) hzz;rw [hi] at hi';injection hi' with hi';subst hi';refine ⟨v,hv,?_⟩;have := hr.1;rw [Array.length_toList] at this;rw [this,zay hzo,hisz]
    ·cases hzo
   have ht2 : (∃ e2,P.underlying st2 = some (.slice e2)) ∨ P.underlying st2 = some .string:=by
    unfold zms at hst;split at hst
    ·exact .inl ⟨_,‹_›⟩
    ·exact .inr ‹_›
    ·cases hst
   obtain ⟨l2,news,h1,hsrc⟩ := zha (P := P) hg h (hg.evT (P := P) st y);clear h;simp only at h1;obtain ⟨z,tg,l,hva,h2⟩ := vs?_some h1;clear h1;have hra := hg.evT (P := P) st x;rw [hva] at hra;split at h2
   ·cases h2
   ·rename_i hzz;have hzl : z = i.size := by rw [hisz]; exact zay hzz
    subst hzl;refine ⟨i.size,tg,l,hva,?_⟩;have fin : ∀ (S1 : St) (g1 : G) (q : Pl) (fl : Fl),((q = .r 0∧fl = .own) ∨ (q = .rs∧fl = .ownS))→Rel g0 w0 Ex g1 S1 a w→Ext g w g1 w→OwnV g1 w q i.size (a.eval x) →
      br (Nat.ble ((l.length + l2.length) * zcu P e) za5) (br (Nat.ble (l.length + l2.length) za5) (match o.dst with
       | some _=>k (S1.unlent.putown o.dst (.vs (zaj P e) false (l ++ l2)) fl)
       | Option.none=>Option.none) Option.none) Option.none = some r→∃ q fl,((q = .r 0∧fl = .own) ∨ (q = .rs∧fl = .ownS))∧zpf P o g0 w0 Ex a w k r l i.size q fl:=by
     intro S1 g1 q fl hqf hr1 hE hown hk;obtain ⟨hb1,hk⟩ := zai hk;obtain ⟨hb2,hk⟩ := zai hk;have hb1' := zc3 hb1;have hb2' := zc3 hb2;rw [← hiby] at hb1';rw [← hisz] at hsrc;have hsrc1 : Src P g1 w i.size (a.eval y) l2 news := ⟨hsrc.rep.ext hE,hsrc.one,hsrc.sizes,hsrc.len,hsrc.shape,hsrc.cells⟩;obtain ⟨u',w',g',hrun,hrel,hrep,hown',hB⟩ := zqt (ty := o.type) (hqf.imp (·.1) (·.1)) hr1 hu ht2 hi hzv hzc (by rw [hisz]; exact hz) (hra.ext hE) (.inl rfl) hown hsrc1 hb1' hb2';split at hk
     ·rename_i d hd;refine ⟨q,fl,hqf,S1,l2,u',w',g',?_,hrel,hrep,hown',hB,⟨d,hd⟩,by rw [hisz]; exact hk⟩;simp only [execOp,ho,resolve,invoke,builtin,Sem.run_bind,Sem.run_pure,Result.andThen_ok,List.map_toArray,List.map_cons,List.map_nil,hrun]
     ·cases hk
    have tight : ∀ (hk : br tg (br (Nat.ble ((l.length + l2.length) * zcu P e) za5) (br (Nat.ble (l.length + l2.length) za5) (match o.dst with
       | some _=>k (S.unlent.putown o.dst (.vs (zaj P e) false (l ++ l2)) .own)
       | Option.none=>Option.none) Option.none) Option.none) Option.none = some r),∃ q fl,((q = .r 0∧fl = .own) ∨ (q = .rs∧fl = .ownS))∧zpf P o g0 w0 Ex a w k r l i.size q fl:=by
     intro hk;obtain ⟨htg,hk⟩ := zai hk;refine fin S g (.r 0) .own (.inl ⟨rfl,rfl⟩) hg (Ext.refl _ _) ?_ hk;rcases ze2 hra with ⟨⟨q,h⟩,_⟩ | ⟨B,off,cap,vals,h,_,ht,_⟩
     ·cases q with
      | none=>exact .inl h
      | some ad=>exact .inr (.inl ⟨_,_,.inl rfl,h⟩)
     ·have := ht htg;subst this;exact .inr (.inl ⟨_,_,.inl rfl,h⟩)
    have take : ∀ (S1 : St) (p : Pl) (q : Pl) (fl : Fl),((q = .r 0∧fl = .own) ∨ (q = .rs∧fl = .ownS))→(q.str = true→p.str = true)→Rel g0 w0 Ex g S1 a w→zfi S1 p→zas g w p (a.eval x) (.vs i.size tg l) →
      br (Nat.ble ((l.length + l2.length) * zcu P e) za5) (br (Nat.ble (l.length + l2.length) za5) (match o.dst with
       | some _=>k (S1.unlent.putown o.dst (.vs (zaj P e) false (l ++ l2)) fl)
       | Option.none=>Option.none) Option.none) Option.none = some r→∃ q fl,((q = .r 0∧fl = .own) ∨ (q = .rs∧fl = .ownS))∧zpf P o g0 w0 Ex a w k r l i.size q fl:=by
     intro S1 p q fl hqf hst hr1 hnc hown hk;obtain ⟨g1,h3,h4,h5,h6,h7,_⟩ := hr1.retag hnc hown q hst;exact fin S1 g1 q fl hqf h3 ⟨fun B id h=>(h5 B id).2 h,fun B=>by rw [h7]; exact Nat.le_refl _,fun _ _ _=>rfl⟩ h4 hk
    have slotOwn : ∀ (q : Nat) (v : AV),S.slot q = .val v .own→a.tmps.getD q undef = a.eval x→v = .vs i.size tg l →
      br (Nat.ble ((l.length + l2.length) * zcu P e) za5) (br (Nat.ble (l.length + l2.length) za5) (match o.dst with
       | some _=>k ((S.put q (.val v .no)).unlent.putown o.dst (.vs (zaj P e) false (l ++ l2)) .own)
       | Option.none=>Option.none) Option.none) Option.none = some r→∃ q fl,((q = .r 0∧fl = .own) ∨ (q = .rs∧fl = .ownS))∧zpf P o g0 w0 Ex a w k r l i.size q fl:=by
     intro q v hs heq hv hk;have hlt : q < S.sl.length := zcb (by show S.slot q ≠ _; rw [hs]; simp);have hown := (hg.slotv hs).2;refine take _ (.s q) (.r 0) .own (.inl ⟨rfl,rfl⟩) (by simp [Pl.str]) (hg.reflag hs (f' := .no) trivial (by simp) (by simp)) ?_ ?_ hk
     ·intro v' hv';rw [zam,if_pos ⟨rfl,hlt⟩] at hv';injection hv' with _ e;cases e
     ·have h1 : zas g w (.s q) (a.tmps.getD q undef) v := hown;rw [heq,hv] at h1;exact h1
    split at h2
    ·rename_i c;refine fin S g (.r 0) .own (.inl ⟨rfl,rfl⟩) hg (Ext.refl _ _) ?_ h2;rcases ze2 hra with ⟨⟨q,h⟩,_⟩ | ⟨B,off,cap,vals,h,_⟩
     ·cases q with
      | none=>exact .inl h
      | some ad=>exact .inr (.inl ⟨_,_,.inl rfl,h⟩)
     ·exfalso;have hc : a.eval (.const c) = c := rfl;rw [hc] at h;subst h;have : evT P S st (.const (Value.slice (some ⟨B,off,none⟩) l.length cap)) = .undef := rfl;rw [this] at hva;cases hva
    ·rename_i t;have hev : ∀ v f,S.slot t = .val v f→v = .vs i.size tg l := fun v f hs=>by
      have : evT P S st (.tmp t) = v := by show (S.slot t).av = v; rw [hs]; rfl
      rw [← this,hva]
     split at h2
     ·rename_i v hs;exact slotOwn t v hs rfl (hev v _ hs) h2
     ·rename_i v q hs;split at h2
      ·rename_i u hq;obtain ⟨h3,h4⟩ := (hg.slotv hs).2 u _ rfl hq;exact slotOwn q u hq h3 (h4.trans (hev v _ hs)) h2
      ·exact tight h2
     ·rename_i v d off hs;obtain ⟨bl,hbl,h3⟩ := za2 h2;have hv := hev v _ hs;split at h3
      ·rename_i hm;obtain ⟨B,hB,hcell,hc⟩ := (hg.slotv hs).2 bl hbl (zbj.1 hm);obtain ⟨B',hB',hblk,hfree⟩ := hg.l d bl hbl;obtain rfl := hg.inv.injl B B' d hB hB';have hown := hfree off (zbj.1 hm) _ _ hcell hc;rw [hv] at hown;refine take { S with L := setL S.L d ⟨bl.cells,delN off bl.free⟩ } (.l d off) (.r 0) .own (.inl ⟨rfl,rfl⟩) (by simp [Pl.str]) ⟨hg.inv,hg.h,fun d' b' hb'=>?_,hg.m,hg.len,fun t'=>?_,hg.fr,hg.nodef⟩ ?_ hown ?_
       ·rw [zcq] at hb';split at hb'
        ·rename_i hd;subst hd;injection hb' with hb';subst hb';exact ⟨B,hB,hblk,fun off' hoff'=>hfree off' (zcx.1 hoff').1⟩
        ·exact hg.l d' b' hb'
       ·have h5 := hg.sl t';show zbl g _ a w t' (S.slot t');cases hst : S.slot t' with
        | und=>trivial
        | lp d' off'=>rw [hst] at h5; exact h5
        | mp d'=>rw [hst] at h5; exact h5
        | val v2 f2 =>
         rw [hst] at h5;refine ⟨h5.1,?_⟩;cases f2 with
         | lL d2 off2 =>
          intro b2 hb2 hoff2;have hb2' : getL (setL S.L d ⟨bl.cells,delN off bl.free⟩) d2 = some b2 := hb2;rw [zcq] at hb2';split at hb2'
          ·rename_i hd;subst hd;injection hb2' with hb2';subst hb2';exact h5.2 bl hbl (zcx.1 hoff2).1
          ·exact h5.2 b2 hb2' hoff2
         | _=>exact h5.2
       ·intro b' hb';have hb2 : getL (setL S.L d ⟨bl.cells,delN off bl.free⟩) d = some b' := hb';rw [zcq,if_pos rfl] at hb2;injection hb2 with hb2;subst hb2;intro hh;exact (zcx.1 hh).2 rfl
       ·exact h3
      ·exact tight h3
     ·rename_i v id off hs;obtain ⟨bl,hbl,h3⟩ := za2 h2;have hv := hev v _ hs;split at h3
      ·rename_i hm;obtain ⟨B,hB,hcell,hc⟩ := (hg.slotv hs).2 bl hbl (zbj.1 hm);obtain ⟨B',hB',hblk,hfree⟩ := hg.h.blk id bl hbl;obtain rfl := hg.inv.injh B B' id hB hB';have hown := hfree off (zbj.1 hm) _ _ hcell hc;rw [hv] at hown;refine take { S with H := S.H.set id ⟨bl.cells,delN off bl.free⟩ } (.h id off) .rs .ownS (.inr ⟨rfl,rfl⟩) (fun _=>rfl) ⟨hg.inv,⟨fun d' b' hb'=>?_,fun B' id'' hB'=>zpm (hg.h.lt B' id'' hB')⟩,hg.l,hg.m,hg.len,fun t'=>?_,hg.fr,hg.nodef⟩ ?_ hown ?_
       ·have hb2 : S.H.set id ⟨bl.cells,delN off bl.free⟩ d' = some b' := hb';rw [zix] at hb2;split at hb2
        ·rename_i hd;subst hd;injection hb2 with hb2;subst hb2;exact ⟨B,hB,hblk,fun off' hoff'=>hfree off' (zcx.1 hoff').1⟩
        ·exact hg.h.blk d' b' hb2
       ·have h5 := hg.sl t';show zbl g _ a w t' (S.slot t');cases hst : S.slot t' with
        | und=>trivial
        | lp d' off'=>rw [hst] at h5; exact h5
        | mp d'=>rw [hst] at h5; exact h5
        | val v2 f2 =>
         rw [hst] at h5;refine ⟨h5.1,?_⟩;cases f2 with
         | lH d2 off2 =>
          intro b2 hb2 hoff2;have hb2' : S.H.set id ⟨bl.cells,delN off bl.free⟩ d2 = some b2 := hb2;rw [zix] at hb2';split at hb2'
          ·rename_i hd;subst hd;injection hb2' with hb2';subst hb2';exact h5.2 bl hbl (zcx.1 hoff2).1
          ·exact h5.2 b2 hb2' hoff2
         | _=>exact h5.2
       ·intro b' hb';have hb2 : S.H.set id ⟨bl.cells,delN off bl.free⟩ id = some b' := hb';rw [zix,if_pos rfl] at hb2;injection hb2 with hb2;subst hb2;intro hh;exact (zcx.1 hh).2 rfl
       ·exact h3
      ·exact tight h3
     ·exact tight h2
    ·cases h2
  ·cases h
 ·cases h
theorem znf {st st2 : TypeId} {x y : Operand} {k : St→Option R} (ho : o.op = .call { callee := .builtin .append,args := #[x,y],argTypes := #[st,st2] })
  (h : zd6 P o st st2 x y S k = some r) (hg : Rel g0 w0 Ex g S a w) : zb3 P o a w g0 w0 Ex k r:=by
 obtain ⟨sz,tg,l,_,q,fl,hqf,S0,l2,u',w',g',hrun,hrel,hrep,hown',_,⟨d,hd⟩,hk⟩ := zo3 ho h hg;rcases hqf with ⟨rfl,rfl⟩ | ⟨rfl,rfl⟩
 ·obtain ⟨g2,h3,h4,h5,h6,h7,_⟩ := hrel.retag (p := .r 0) trivial (c := .vs sz false (l ++ l2)) hown' (.s d);have hE2 : Ext g' w' g2 w' := ⟨fun B id h=>(h5 B id).2 h,fun B=>by rw [h7]; exact Nat.le_refl _,fun _ _ _=>rfl⟩;refine .mk (u := u') (w' := w') hrun ⟨g2,?_⟩ hk;rw [hd];exact h3.putown (some d) (hrep.ext hE2) (fun d' e=>by injection e with e; subst e; exact h4) (.inr (.inl rfl))
 ·obtain ⟨g2,h3,h4,h5,h6,h7,_⟩ := hrel.retag (p := .rs) trivial (c := .vs sz false (l ++ l2)) hown' (.ss d);have hE2 : Ext g' w' g2 w' := ⟨fun B id h=>(h5 B id).2 h,fun B=>by rw [h7]; exact Nat.le_refl _,fun _ _ _=>rfl⟩;refine .mk (u := u') (w' := w') hrun ⟨g2,?_⟩ hk;rw [hd];exact h3.putown (some d) (hrep.ext hE2) (fun d' e=>by injection e with e; subst e; exact h4) (.inr (.inr (.inl rfl)))
end
end
section
section
variable {X : Nat→Prop} {g0 : G} {w0 : World} {Ex : Nat→Prop} {g g' : G} {S : St} {a : Act} {w w' : World} {P : Program} {R : Type} {r : R} {o : Oper}
theorem zf6 : ∀ (z : List AV) (n off : Nat),off ∈ zb2 n z→∃ j,off = n + j∧∃ sz l,z[j]? = some (.vs sz true l)
 | [],n,off,h=>by simp [zb2] at h
 | x :: l,n,off,h=>by
  have rest : off ∈ zb2 (n + 1) l→∃ j,off = n + j∧∃ sz l',(x :: l)[j]? = some (.vs sz true l') := fun h=>by
   obtain ⟨j,h1,h2⟩ := zf6 l (n + 1) off h;exact ⟨j + 1,by omega,by simpa using h2⟩
  unfold zb2 at h;split at h
  ·rename_i sz tg l';split at h
   ·rcases List.mem_cons.1 h with e | h
    ·exact ⟨0,by omega,sz,l',by rfl⟩
    ·exact rest h
   ·exact rest h
  ·exact rest h
theorem zvv {z : List AV} : ∀ off ∈ zb2 0 z,∃ sz l,z[off]? = some (.vs sz true l) := fun off h=>by
 obtain ⟨j,h1,h2⟩ := zf6 z 0 off h;rw [Nat.zero_add] at h1;rw [h1];exact h2
theorem ztp {A : Ann} {e : TypeId} {z : List AV} {k : St→Option R} (ho : o.op = .alloc e) (hz : zeroCells P e = some z) (h : zqj A o z (zb2 0 z) S k = some r) (hg : Rel g0 w0 Ex g S a w) : zb3 P o a w g0 w0 Ex k r:=by
 obtain ⟨i,v,hi,hv,hr,h1⟩ := zce (g := g) (w := w) hz;refine zlg (us := v.cells.toList) (e := e) ?_ h1 hr.part zvv h hg;simp [execOp,ho,Instr.alloc,zeroValue,typeInfo,hi,hv,newVar,newRow]
theorem boxFree0 {A : Ann} {o : Oper} {z : List AV} : ∀ off ∈ znm A o z,∃ sz l,z[off]? = some (.vs sz true l) := fun off h=>by
 unfold znm at h;split at h
 ·split at h
  ·split at h
   ·exact zvv off h
   ·cases h
  ·cases h
 ·exact zvv off h
theorem box_step {A : Ann} {e : TypeId} {x : Operand} {k : St→Option R} (ho : o.op = .box e x) (h : ((evT P S e x).cells? fun cs=>zqj A o cs (znm A o cs) S k) = some r) (hg : Rel g0 w0 Ex g S a w) : zb3 P o a w g0 w0 Ex k r:=by
 obtain ⟨cs,us,h2,hcells,hr,h1,_⟩ := cells?_sound (hg.evT (P := P) e x) h;refine zlg (us := us) (e := e) ?_ h1 hr.part boxFree0 h2 hg;simp [execOp,ho,Instr.box,newVar,newRow,hcells]
theorem ztj {n : Int} (h0 : 0 ≤ n) (h1 : n ≤ 281474976710656) : IntKind.i64.wrap n = n:=by
 simp [IntKind.wrap,IntKind.bits,IntKind.signed]; omega
theorem zqq {t : TypeId} {n c : Operand} {k : St→Option R} (ho : o.op = .makeSlice t n c)
  (h : zw9 P t n c S (fun v=>k (S.putd o.dst (.val v .no))) = some r) (hg : Rel g0 w0 Ex g S a w) : zb3 P o a w g0 w0 Ex k r:=by
 unfold zw9 at h;split at h
 ·cases h
 ·rename_i e he;have hu : P.underlying t = some (.slice e):=by
   unfold zj7 at he;split at he
   ·rename_i e' hu; injection he with he; rw [hu,he]
   ·cases he
  split at h
  ·cases h
  ·rename_i z hz;obtain ⟨i,v,hi,hv,hrz,h1z⟩ := zce (g := g) (w := w) hz;split at h
   ·rename_i hz0 hzl hag;have hzpos : zaj P e ≠ 0 := fun e=>by rw [e] at hz0; cases hz0
    have hsz : i.size = zaj P e := by simp [zaj,hi]
    have hby : i.bytes = zcu P e := by simp [zcu,hi]
    have hvl : v.cells.size = zaj P e := by rw [← zay hzl,← hrz.1,Array.length_toList]
    obtain ⟨nk,len,hn,h2⟩ := int?_some h;obtain ⟨ck,cap,hc,h3⟩ := int?_some h2;obtain ⟨b1,h4⟩ := zai h3;obtain ⟨b2,h5⟩ := zai h4;obtain ⟨b3,h6⟩ := zai h5;obtain ⟨b4,h7⟩ := zai h6;clear h h2 h3 h4 h5 h6;have c1 : 0 ≤ len := by simpa using b1
    have c2 : len = cap := by simpa using b2
    subst c2;have c3 : len * (zcu P e : Int) ≤ 281474976710656 := by simpa using b3
    have c4 : len ≤ 281474976710656 := by simpa using b4
    have hnr := hg.ev n;rw [hn] at hnr;have hn' := zbc hnr;have hcr := hg.ev c;rw [hc] at hcr;have hc' := zbc hcr;have w1 := ztj c1 c4;have hzc : ∀ m : Nat,((Array.range (m * i.size)).map (v.cells[· % v.cells.size]!)) = ((List.replicate m v.cells.toList).flatten).toArray:=by
     intro m;apply Array.ext';rw [Array.toList_map,Array.toList_range,hvl,hsz];have := zi1 v.cells.toList (zaj P e) (by rw [Array.length_toList]; exact hvl) (by omega) m
     simpa using this
    have hrun : (execOp a.eval o).run P w = .ok (.value (.slice (some ⟨w.heap.size,0,none⟩) len.toNat len.toNat)) (w.alloc (.cells ((List.replicate len.toNat v.cells.toList).flatten).toArray e)):=by
     have hb' : ¬ (281474976710656 < (i.bytes : Int) * len) := by rw [hby,Int.mul_comm]; omega
     have hneg : ¬ len < 0 := by omega
     have hgt : ¬ len < len := by omega
     have hn0 : len.toNat * i.size = 0 ∨ ¬ len.toNat * i.size = 0 := Classical.em _;simp only [execOp,ho,Instr.makeSlice,hn',hc',asInt,asIntOf,Sem.run_bind,zb7 hu,Result.andThen_ok,typeInfo,run_program,hi,Sem.run_pure,w1,sizeOf];rcases hn0 with h0 | h0
     ·have hc0 : len.toNat = 0:=by
       rcases Nat.mul_eq_zero.1 h0 with h | h
       ·exact h
       ·rw [hsz] at h; exact absurd h hzpos
      have hlen0 : len = 0 := by omega
      subst hlen0;simp [newRow,hi,show Array.range 0 = #[] from rfl]
     ·simp [hb',hneg,h0,zeroValue,typeInfo,hi,hv,newRow,hzc]
    have hrc := hrz.repl (w := w) (g := g) len.toNat;have h1c : ∀ u ∈ (List.replicate len.toNat v.cells.toList).flatten,u.oneCell' = true := fun u hu=>by
     obtain ⟨l,hl,hul⟩ := List.mem_flatten.1 hu;rw [(List.mem_replicate.1 hl).2] at hul;exact h1z u hul
    have hl2 : (List.replicate len.toNat v.cells.toList).flatten.length = len.toNat * zaj P e:=by
     rw [hrc.1,znq,List.length_flatten];simp [zay hzl]
    refine .mk hrun ?_ h7;generalize hus : (List.replicate len.toNat v.cells.toList).flatten = us' at *;have hr := hg.newblk (w' := w.alloc (.cells us'.toArray e)) (fun B hB=>zbe w _ hB) (zd0 w _) rfl rfl rfl .ext us'.length (.inl rfl);have hk := zem (w' := w.alloc (.cells us'.toArray e)) hg.inv (fun B hB=>zbe w _ hB) (by simp) rfl rfl rfl .ext us'.length;have h3' := hrc.ext hk.ext;obtain ⟨c1,c2,c3⟩ := zft (ag := tAgg P e) (n := zaj P e) (Nat.pos_of_ne_zero hzpos) (fun hf=>by rw [hf] at hag; exact zay (by rw [Bool.false_or] at hag; exact hag)) len.toNat (zi0 z len.toNat) (by rw [← hrc.1,hl2]) (ziu hrc h1c);refine ⟨_,hr.putv (f := .no) o.dst ?_ (fun _ _=>trivial) (by simp) (by simp)⟩;have := Rep.vs (g := g.new w.heap.size .ext us'.length) (w := w.alloc (.cells us'.toArray e)) w.heap.size 0 len.toNat (zaj P e) true (zdi (tAgg P e) (zaj P e) len.toNat (zi0 z len.toNat)) us' (by rw [c1]; exact h3'.1) c3 (fun _=>c2.symm) (by rw [c2]; exact Nat.le_refl _)
     (fun j u hu=>by
      obtain ⟨h7,h8⟩ := zju (zc7 w _) h1c j u hu;refine ⟨h7,?_,h8⟩;rw [ze8,if_pos rfl,Nat.zero_add];exact (List.getElem?_eq_some_iff.1 hu).1) (by rw [c1]; exact h3'.2)
    rw [c2] at this;exact this
   ·cases h
end
end
section
structure Grew (X : Nat→Prop) (w w' : World) : Prop where
 old : ∀ B,B < w.heap.size→¬ X B→w'.heap[B]? = w.heap[B]?
 size : w.heap.size ≤ w'.heap.size
 os : w'.os = w.os
 tape : w'.tape = w.tape
 output : w'.output = w.output
def ivV : AV→Value
 | .int k n=>.int k n
 | _=>undef
def fnV (f : Nat) : Value := .func (.func f) #[] #[]
def ResB (b : Bool) (x y : Prop) : Prop := match b with
 | true=>x
 | false=>y
structure OwnC (P : Program) (f : Nat) (b : Bool) (gs : List Nat) (sz : Nat) (l : List AV) (p : Nat × List AV) : Prop where
 fn : ∃ fn c,P.funcs[f]? = some fn∧fn.body = some c
 nil : l = []→∀ (w : World) (q : Option Addr) (cap : Nat),Calls P f (.slice q 0 cap :: gs.map fnV).toArray w fun e w'=>∃ v,e = .returned v∧Grew (fun _=>False) w w'∧ResB b (v = .slice q 0 cap) (v = .tuple #[])
 own : l ≠ []→∀ (w : World) (B cap : Nat) (us : Array Value) (e : TypeId),w.heap[B]? = some (.cells us e (0,0))→us.size = cap * sz→l.length ≤ cap→(∀ (j : Nat) (v : Value),((l.flatMap AV.cells).map ivV)[j]? = some v→us[j]? = some v) →
  Calls P f (.slice (some ⟨B,0,none⟩) l.length cap :: gs.map fnV).toArray w fun ex w'=>∃ v us',ex = .returned v∧Grew (fun x=>x = B) w w'∧w'.heap[B]? = some (.cells us' e (0,0))∧us'.size = us.size ∧
   (∀ (j : Nat) (v : Value),((p.2.flatMap AV.cells).map ivV)[j]? = some v→us'[j]? = some v)∧ResB b (∃ cap',v = .slice (some ⟨B,0,none⟩) p.1 cap'∧p.1 ≤ cap') (v = .tuple #[])
def OcOk (P : Program) (A : List (Nat × Ann)) : Prop := ∀ f b F,(getA A f).oc = some (b,F)→∀ gs sz l p,F gs l = some p→zc1 sz l = true→0 < sz→zc1 sz p.2 = true→p.2.length = l.length→p.1 ≤ l.length→OwnC P f b gs sz l p
structure zgg (P : Program) (A : List (Nat × Ann)) : Prop where
 n : ∀ (f : Nat) (fn : Func),P.funcs[f]? = some fn→fn.name ≠ "runtime.NumGoroutine"
 oc : OcOk P A
structure Ret (rf : List Nat) (one : Bool) (g : G) (w : World) (Ex : Nat→Prop) (out : Out) (v : Value) (g' : G) (w' : World) : Prop where
 inv : Inv g' w'
 h : RelH g' out.H out.nx w'
 rep : Rep g' w' v out.v
 fr : Fr g w Ex g' w'
 roles : ∀ B,(∃ d,g'.role B = .l d) ∨ (∃ t,g'.role B = .c (.s t)) ∨ (∃ t i,g'.role B = .c (.sc t i)) ∨ (∃ d off,g'.role B = .c (.l d off))→False
 own1 : one = true→0 ∈ rf→zas g' w' (.r 0) v out.v
 own : one = false→∀ i ∈ rf,∀ us vs ui vi,v = .tuple us→out.v = .tuple vs→us[i]? = some ui→vs[i]? = some vi→zas g' w' (.r i) ui vi
def Shared (g : G) : Prop := ∀ B,g.role B = .ext ∨ (∃ id,g.role B = .h id) ∨ ∃ id off,g.role B = .c (.h id off)
def zcn (P : Program) (A : List (Nat × Ann)) (cal : Oracle) : Prop :=
 ∀ f args H nx out,cal f args H nx = some out→(∃ fn c,P.funcs[f]? = some fn∧fn.body = some c)∧∀ (g : G) (w : World) (cargs : List Value),Inv g w→RelH g H nx w→Shared g→((getA A f).imp = false→∀ B,g.role B = .ext)→zbn A g w→RepL g w cargs args →
  Calls P f cargs.toArray w fun e w'=>∃ v g',e = .returned v∧Ret (getA A f).rf (zf4 P f) g w (fun B=>g.role B ≠ .ext) out v g' w'
section
variable {X : Nat→Prop} {g0 : G} {w0 : World} {Ex : Nat→Prop} {g g' : G} {S : St} {a : Act} {w w' : World} {P : Program} {R : Type} {r : R} {o : Oper} {A : List (Nat × Ann)} {cal : Oracle}
def OpOk (P : Program) (o : Oper) (a : Act) (w : World) (g0 : G) (w0 : World) (Ex : Nat→Prop) (k : St→Option R) (r : R) : Prop :=
 ∀ Q,o.wp P a w (fun a' w'=>∃ S',Good g0 w0 Ex S' a' w'∧k S' = some r) Q
theorem zb3.ok {k : St→Option R} (h : zb3 P o a w g0 w0 Ex k r) : OpOk P o a w g0 w0 Ex k r:=by
 intro Q;obtain ⟨n,u,w',S',hrun,hn,hgood,hk⟩ := h;unfold Oper.wp;rw [hrun];rcases hn with rfl | ⟨rfl,rfl⟩
 ·rw [Oper.upon_value]; exact ⟨S',hgood,hk⟩
 ·rw [Oper.upon_skip]; exact ⟨S',hgood,hk⟩
theorem znj (hg : Rel g0 w0 Ex g S a w) : ∀ (tys : List TypeId) (l : List Operand),RepL g w (l.map a.eval) (evsT P S tys l)
 | _,[]=>by cases ‹List TypeId› <;> exact ⟨rfl,by simp [evsT]⟩
 | t :: ts,x :: l=>by
  have ih := znj hg ts l;refine ⟨by simp [evsT,ih.1],fun j u c hu hc=>?_⟩;cases j with
  | zero=>simp [evsT] at hu hc; subst hu hc; exact hg.evT t x
  | succ j=>exact ih.2 j u c (by simpa using hu) (by simpa [evsT] using hc)
 | [],x :: l=>by
  have ih := znj hg [] l;refine ⟨by simp [evsT,ih.1],fun j u c hu hc=>?_⟩;cases j with
  | zero=>simp [evsT] at hu hc; subst hu hc; exact hg.ev x
  | succ j=>exact ih.2 j u c (by simpa using hu) (by simpa [evsT] using hc)
def G.shared (g : G) : G := ⟨fun B=>match g.role B with
 | .h id=>.h id
 | .c (.h id off)=>.c (.h id off)
 | _=>.ext,g.pub⟩
theorem zet {B id : Nat} : (g.shared).role B = .h id ↔ g.role B = .h id:=by
 unfold G.shared;cases hr : g.role B with
 | c p=>cases p <;> simp [hr]
 | _=>simp [hr]
theorem zwv {B id off : Nat} : (g.shared).role B = .c (.h id off) ↔ g.role B = .c (.h id off):=by
 unfold G.shared;cases hr : g.role B with
 | c p=>cases p <;> simp [hr]
 | _=>simp [hr]
theorem zn5 : Shared g.shared:=by
 intro B;unfold G.shared;cases hr : g.role B with
 | c p=>cases p <;> simp [hr]
 | _=>simp [hr]
theorem zlr {B d : Nat} : (g.shared).role B ≠ .l d:=by
 unfold G.shared;cases hr : g.role B with
 | c p=>cases p <;> simp [hr]
 | _=>simp [hr]
theorem zib : Ext g w g.shared w := ⟨fun _B _id h=>zet.2 h,fun _=>Nat.le_refl _,fun _ _ _=>rfl⟩
theorem zta {id off : Nat} {u : Value} {c : AV} (h : zas g w (.h id off) u c) : zas g.shared w (.h id off) u c:=by
 cases c with
 | vs sz tg l =>
  rcases h with h | h | ⟨B,n,cap,us,e,h1,h2,h3⟩
  ·exact .inl h
  ·exact .inr (.inl h)
  ·exact .inr (.inr ⟨B,n,cap,us,e,h1,zwv.2 h2,h3⟩)
 | _=>trivial
theorem ztt (h : Inv g w) : Inv g.shared w:=by
 refine ⟨fun B hB=>⟨?_,(h.new B hB).2⟩,fun B id hB=>h.ph B id (zet.1 hB),fun B d hB=>absurd hB zlr,fun B B' id h1 h2=>h.injh B B' id (zet.1 h1) (zet.1 h2),fun B B' d h1 _=>absurd h1 zlr⟩;show (match g.role B with
  | .h id=>Role.h id
  | .c (.h id off)=>.c (.h id off)
  | _=>.ext) = .ext
 rw [(h.new B hB).1]
theorem zq4 {H : Hp} {nx : Nat} (h : RelH g H nx w) : RelH g.shared H nx w:=by
 refine ⟨fun id b hb=>?_,fun B id hB=>h.lt B id (zet.1 hB)⟩;obtain ⟨B,hB,⟨us,e,h1,h2,h3⟩,hf⟩ := h.blk id b hb;exact ⟨B,zet.2 hB,⟨us,e,h1,h2,h3.ext zib⟩,fun off hoff u v hu hv=>zta (hf off hoff u v hu hv)⟩
def G.back (g : G) (n : Nat) (g' : G) (pl : Nat→Pl) : G := ⟨fun B=>match g'.role B with
 | .c (.r i)=>.c (pl i)
 | .ext=>if B < n then (match g.role B with
  | .h _=>.ext
  | .c (.h _ _)=>.ext
  | x=>x) else .ext
 | x=>x,g'.pub⟩
theorem back_h {n : Nat} {pl : Nat→Pl} (_hpl : ∀ i,(∃ d,pl i = .s d) ∨ (∃ d j,pl i = .sc d j) ∨ ∃ j,pl i = .r j) {B id : Nat} : (g.back n g' pl).role B = .h id ↔ g'.role B = .h id:=by
 unfold G.back;simp only;cases hr : g'.role B with
 | h id'=>simp
 | l d=>simp
 | c p=>cases p <;> simp
 | ext =>
  simp only;split
  ·cases hg : g.role B with
   | c p=>cases p <;> simp
   | _=>simp
  ·simp
theorem call_imp (hg : Rel g0 w0 Ex g S a w) {rf : List Nat} {one : Bool} {out : Out} {v : Value} (hret : Ret rf one g.shared w (fun B=>g.shared.role B ≠ .ext) out v g' w') (dst : Option Nat) :
  Good g0 w0 Ex (({ S with H := out.H,nx := out.nx } : St).unlentH.putown dst out.v (zl6 one rf)) (a.put dst v) w':=by
 let pl : Nat→Pl := fun i=>match dst with
  | some d=>match one with
   | true=>.s d
   | false=>.sc d i
  | none=>.r i
 have hpl : ∀ i,(∃ d,pl i = .s d) ∨ (∃ d j,pl i = .sc d j) ∨ ∃ j,pl i = .r j:=by
  intro i;simp only [pl];cases dst with
  | none=>exact .inr (.inr ⟨i,rfl⟩)
  | some d=>cases one with
   | true=>exact .inl ⟨d,rfl⟩
   | false=>exact .inr (.inl ⟨d,i,rfl⟩)
 let g2 := g.back w.heap.size g' pl
 have r2 : ∀ B,g2.role B = match g'.role B with
  | .c (.r i)=>.c (pl i)
  | .ext=>if B < w.heap.size then (match g.role B with
   | .h _=>.ext
   | .c (.h _ _)=>.ext
   | x=>x) else .ext
  | x=>x := fun _=>rfl
 have p2 : g2.pub = g'.pub := rfl;have hh : ∀ B id,g2.role B = .h id ↔ g'.role B = .h id := fun B id=>back_h hpl;have loc : ∀ B,B < w.heap.size→g.shared.role B = .ext→g'.role B = .ext∧w'.heap[B]? = w.heap[B]?∧g'.pub B = g.pub B := fun B hB he=>by
  have hne : ¬ (g.shared.role B ≠ .ext) := fun h=>h he;obtain ⟨h1,h2⟩ := hret.fr.same B hB hne;refine ⟨?_,h1,h2⟩;rcases Classical.em (g'.role B = .ext) with h | h
  ·exact h
  ·rcases hret.fr.role B h with h3 | h3
   ·omega
   ·exact absurd he h3
 have shExt : ∀ B x,g.role B = x→(∀ id,x ≠ .h id)→(∀ id off,x ≠ .c (.h id off))→g.shared.role B = .ext:=by
  intro B x hx h1 h2;unfold G.shared;simp only;subst hx;cases hr : g.role B with
  | h id=>exact absurd hr (h1 id)
  | c p=>cases p <;> first | rfl | (rename_i id off; exact absurd hr (h2 id off))
  | _=>rfl
 have keep : ∀ B x,B < w.heap.size→g.role B = x→x ≠ .ext→(∀ id,x ≠ .h id)→(∀ id off,x ≠ .c (.h id off))→g2.role B = x∧w'.heap[B]? = w.heap[B]?∧g2.pub B = g.pub B:=by
  intro B x hB hx h0 h1 h2;obtain ⟨h3,h4,h5⟩ := loc B hB (shExt B x hx h1 h2);refine ⟨?_,h4,h5⟩;rw [r2,h3];simp only;rw [if_pos hB,hx];cases x with
  | h id=>exact absurd rfl (h1 id)
  | c p=>cases p <;> first | rfl | exact absurd rfl (h2 _ _)
  | _=>rfl
 have hE : Ext g w g2 w' := ⟨fun B id hB=>(hh B id).2 (hret.fr.ext.hrole B id (zet.2 hB)),fun B=>hret.fr.ext.pub B,fun B o ho=>hret.fr.ext.cell B o ho⟩;have hE' : Ext g' w' g2 w' := ⟨fun B id hB=>(hh B id).2 hB,fun _=>Nat.le_refl _,fun _ _ _=>rfl⟩;have inb : ∀ B x,g.role B = x→x ≠ .ext→B < w.heap.size := fun B x hx h0=>by
  rcases Nat.lt_or_ge B w.heap.size with h | h
  ·exact h
  ·rw [(hg.inv.new B h).1] at hx; exact absurd hx.symm h0
 have l2 : ∀ B d,g2.role B = .l d→g.role B = .l d:=by
  intro B d hB;rw [r2] at hB;cases hr : g'.role B with
  | ext =>
   rw [hr] at hB;simp only at hB;split at hB
   ·cases hgr : g.role B with
    | c p=>rw [hgr] at hB; cases p <;> cases hB
    | l d'=>rw [hgr] at hB; exact hB
    | _=>rw [hgr] at hB; cases hB
   ·cases hB
  | l d'=>exact absurd (.inl ⟨d',hr⟩) (hret.roles B)
  | h id=>rw [hr] at hB; cases hB
  | c p=>rw [hr] at hB; cases p <;> cases hB
 have ownKeep : ∀ p u c,(∀ id off,p ≠ .h id off)→zas g w p u c→zas g2 w' p u c:=by
  intro p u c hp hc;cases c with
  | vs sz tg l =>
   rcases hc with h | h | ⟨B,n,cap,us,e,h1,h2,h3,h4,h5,h6⟩
   ·exact .inl h
   ·exact .inr (.inl h)
   ·obtain ⟨k1,k2,k3⟩ := keep B _ (zdh h3) h2 (by simp) (by simp) (fun id off e=>by injection e with e; exact hp id off e);exact .inr (.inr ⟨B,n,cap,us,e,h1,k1,by rw [k2]; exact h3,h4,h5,by rw [k3]; exact h6⟩)
  | _=>trivial
 have hrel : Rel g0 w0 Ex g2 ({ S with H := out.H,nx := out.nx } : St).unlentH a w':=by
  refine ⟨⟨fun B hB=>?_,fun B id hB=>hret.inv.ph B id ((hh B id).1 hB),fun B d hB=>?_,fun B B' id h1 h2=>hret.inv.injh B B' id ((hh _ _).1 h1) ((hh _ _).1 h2),fun B B' d h1 h2=>hg.inv.injl B B' d (l2 B d h1) (l2 B' d h2)⟩,
   ⟨fun id b hb=>?_,fun B id hB=>hret.h.lt B id ((hh B id).1 hB)⟩,fun d b hb=>?_,fun d l hl=>?_,by show (S.sl.map Slot.unlentH).length = _; rw [lnM]; exact hg.len,fun t=>?_,?_,hg.nodef⟩
  ·obtain ⟨h1,h2⟩ := hret.inv.new B hB;refine ⟨?_,h2⟩;rw [r2,h1];simp only;rw [if_neg (by have := hret.fr.size; omega)]
  ·have hl := l2 B d hB;rw [(keep B _ (inb B _ hl (by simp)) hl (by simp) (by simp) (by simp)).2.2];exact hg.inv.pl B d hl
  ·obtain ⟨B,hB,⟨us,e,h1,h2,h3⟩,hf⟩ := hret.h.blk id b hb;refine ⟨B,(hh B id).2 hB,⟨us,e,h1,h2,h3.ext hE'⟩,fun off hoff u v hu hv=>?_⟩;have := hf off hoff u v hu hv;cases v with
   | vs sz tg l =>
    rcases this with h | h | ⟨B',n,cap,us',e',h1,h2,h3⟩
    ·exact .inl h
    ·exact .inr (.inl h)
    ·exact .inr (.inr ⟨B',n,cap,us',e',h1,by rw [r2,h2],h3⟩)
   | _=>trivial
  ·obtain ⟨B,hB,⟨us,e,h1,h2,h3⟩,hf⟩ := hg.l d b hb;obtain ⟨k1,k2,k3⟩ := keep B _ (zdh h1) hB (by simp) (by simp) (by simp);refine ⟨B,k1,⟨us,e,by rw [k2]; exact h1,h2,h3.ext hE⟩,fun off hoff u v hu hv=>?_⟩;rw [zb8 k2] at hu;exact ownKeep _ _ _ (by simp) (hf off hoff u v hu hv)
  ·obtain ⟨B,es,ck,h1,h2,h3⟩ := hg.m d l hl;obtain ⟨k1,k2,k3⟩ := keep B _ (zdh h2) h1 (by simp) (by simp) (by simp);exact ⟨B,es,ck,k1,by rw [k2]; exact h2,h3.ext hE⟩
  ·rw [zbh];have hown : ∀ q v' fq,Fl.claim fq = true→(({ S with H := out.H,nx := out.nx } : St).unlentH).slot q = .val v' fq→S.slot q = .val v' fq := fun q v' fq hcq hq=>zf3 (S := { S with H := out.H,nx := out.nx }) hcq hq;show zbl g2 _ a w' t (S.slot t).unlentH;have h1 := hg.sl t;cases hst : S.slot t with
   | und=>trivial
   | lp d off =>
    rw [hst] at h1;obtain ⟨B,h2,h3⟩ := h1;exact ⟨B,(keep B _ (inb B _ h2 (by simp)) h2 (by simp) (by simp) (by simp)).1,h3⟩
   | mp d =>
    rw [hst] at h1;obtain ⟨B,h2,h3⟩ := h1;exact ⟨B,(keep B _ (inb B _ h2 (by simp)) h2 (by simp) (by simp) (by simp)).1,h3⟩
   | val v f =>
    rw [hst] at h1;cases f with
    | no=>exact ⟨h1.1.ext hE,trivial⟩
    | own=>exact ⟨h1.1.ext hE,ownKeep _ _ _ (by simp) h1.2⟩
    | ownS=>exact ⟨h1.1.ext hE,ownKeep _ _ _ (by simp) h1.2⟩
    | lS q=>exact ⟨h1.1.ext hE,fun v' fq hcq hq=>h1.2 v' fq hcq (hown q v' fq hcq hq)⟩
    | lL d off =>
     refine ⟨h1.1.ext hE,fun b hb hoff=>?_⟩;obtain ⟨B,h2,h3,h4⟩ := h1.2 b hb hoff;obtain ⟨k1,k2,_⟩ := keep B _ (inb B _ h2 (by simp)) h2 (by simp) (by simp) (by simp);exact ⟨B,k1,by rw [zb8 k2]; exact h3,h4⟩
    | lH id off=>exact ⟨h1.1.ext hE,trivial⟩
    | comps cs=>exact ⟨h1.1.ext hE,fun i hi us vs ui vi e1 e2 e3 e4=>ownKeep _ _ _ (by simp) (h1.2 i hi us vs ui vi e1 e2 e3 e4)⟩
  ·refine ⟨hg.fr.ext.trans hE,hret.fr.os.trans hg.fr.os,hret.fr.tape.trans hg.fr.tape,hret.fr.output.trans hg.fr.output,Nat.le_trans hg.fr.size hret.fr.size,fun B hB hx=>?_,fun B hB=>?_⟩
   ·have hge : g.role B = .ext:=by
     rcases Classical.em (g.role B = .ext) with h | h
     ·exact h
     ·rcases hg.fr.role B h with h1 | h1
      ·omega
      ·exact absurd h1 hx
    obtain ⟨_,h2,h3⟩ := loc B (Nat.lt_of_lt_of_le hB hg.fr.size) (shExt B _ hge (by simp) (by simp));obtain ⟨h4,h5⟩ := hg.fr.same B hB hx;exact ⟨h2.trans h4,h3.trans h5⟩
   ·rcases Nat.lt_or_ge B w.heap.size with hlt | hge
    ·rcases Classical.em (g.role B = .ext) with h | h
     ·exfalso;obtain ⟨h2,_⟩ := loc B hlt (shExt B _ h (by simp) (by simp));apply hB;rw [r2,h2];simp only;rw [if_pos hlt,h]
     ·exact hg.fr.role B h
    ·exact .inl (Nat.le_trans hg.fr.size hge)
 refine ⟨g2,hrel.putown dst (hret.rep.ext hE') (fun d hd=>?_) ?_⟩
 ·have conv : ∀ i u c,zas g' w' (.r i) u c→zas g2 w' (pl i) u c:=by
   intro i u c hc;cases c with
   | vs sz tg l =>
    rcases hc with h | h | ⟨B,n,cap,us,e,h1,h2,h3⟩
    ·exact .inl h
    ·exact .inr (.inl (by obtain ⟨a,n,_,h⟩ := h; exact ⟨a,n,.inl (by rcases hpl i with ⟨d,e⟩ | ⟨d,j,e⟩ | ⟨j,e⟩ <;> rw [e] <;> rfl),h⟩))
    ·exact .inr (.inr ⟨B,n,cap,us,e,h1,by rw [r2,h2],h3⟩)
   | _=>trivial
  subst hd;unfold zl6;cases one with
  | true =>
   simp only;split
   ·rename_i hm;exact conv 0 _ _ (hret.own1 rfl (zbj.1 hm))
   ·trivial
  | false =>
   simp only;split
   ·trivial
   ·rename_i hne;intro i hi us vs ui vi e1 e2 e3 e4;exact conv i _ _ (hret.own rfl i hi us vs ui vi e1 e2 e3 e4)
 ·unfold zl6;cases one with
  | true=>simp only; split <;> simp
  | false=>simp only; split <;> simp
def G.pback (g : G) (n : Nat) (g' : G) (pl : Nat→Pl) : G := ⟨fun B=>if B < n then g.role B else match g'.role B with
 | .c (.r i)=>.c (pl i)
 | _=>.ext,g'.pub⟩
def G.none (g : G) : G := ⟨fun _=>.ext,g.pub⟩
theorem zsf (h : Inv g w) : Inv g.none w := ⟨fun B hB=>⟨rfl,(h.new B hB).2⟩,fun _ _ hB=>(by cases hB),fun _ _ hB=>(by cases hB),fun _ _ _ hB=>(by cases hB),fun _ _ _ hB=>(by cases hB)⟩
theorem zwf (hg : Rel g0 w0 Ex g S a w) {rf : List Nat} {one : Bool} {out : Out} {v : Value} (hret : Ret rf one g.none w (fun B=>g.none.role B ≠ .ext) out v g' w') (hp : out.v.pure = true) (dst : Option Nat) :
  Good g0 w0 Ex (S.putown dst out.v (zl6 one rf)) (a.put dst v) w':=by
 let pl : Nat→Pl := fun i=>match dst with
  | some d=>match one with
   | true=>.s d
   | false=>.sc d i
  | none=>.r i
 let g2 := g.pback w.heap.size g' pl
 have r2 : ∀ B,g2.role B = if B < w.heap.size then g.role B else match g'.role B with
  | .c (.r i)=>.c (pl i)
  | _=>.ext := fun _=>rfl
 have old : ∀ B,B < w.heap.size→w'.heap[B]? = w.heap[B]?∧g'.pub B = g.pub B := fun B hB=>hret.fr.same B hB (fun h=>h rfl);have hpl : ∀ i,(∀ id,Role.c (pl i) ≠ .h id)∧∀ d,Role.c (pl i) ≠ .l d := fun i=>⟨by simp,by simp⟩;have newr : ∀ B,¬ B < w.heap.size→(∀ id,g2.role B ≠ .h id)∧∀ d,g2.role B ≠ .l d:=by
  intro B hB;rw [r2,if_neg hB];cases g'.role B with
  | c p=>cases p <;> simp
  | _=>simp
 have hinv : Inv g2 w':=by
  refine ⟨fun B hB=>?_,fun B id hB=>?_,fun B d hB=>?_,fun B B' id h1 h2=>?_,fun B B' d h1 h2=>?_⟩
  ·obtain ⟨h1,h2⟩ := hret.inv.new B hB;refine ⟨?_,h2⟩;rw [r2,if_neg (by have := hret.fr.size; omega),h1]
  ·rcases Classical.em (B < w.heap.size) with h | h
   ·rw [r2,if_pos h] at hB;show g'.pub B = 0;rw [(old B h).2]; exact hg.inv.ph B id hB
   ·exact absurd hB ((newr B h).1 id)
  ·rcases Classical.em (B < w.heap.size) with h | h
   ·rw [r2,if_pos h] at hB;show g'.pub B = 0;rw [(old B h).2]; exact hg.inv.pl B d hB
   ·exact absurd hB ((newr B h).2 d)
  ·rcases Classical.em (B < w.heap.size) with h | h
   ·rcases Classical.em (B' < w.heap.size) with h' | h'
    ·rw [r2,if_pos h] at h1;rw [r2,if_pos h'] at h2;exact hg.inv.injh B B' id h1 h2
    ·exact absurd h2 ((newr B' h').1 id)
   ·exact absurd h1 ((newr B h).1 id)
  ·rcases Classical.em (B < w.heap.size) with h | h
   ·rcases Classical.em (B' < w.heap.size) with h' | h'
    ·rw [r2,if_pos h] at h1;rw [r2,if_pos h'] at h2;exact hg.inv.injl B B' d h1 h2
    ·exact absurd h2 ((newr B' h').2 d)
   ·exact absurd h1 ((newr B h).2 d)
 have hE : Ext g w g2 w':=by
  refine ⟨fun B id hB=>?_,fun B=>hret.fr.ext.pub B,fun B o ho=>hret.fr.ext.cell B o ho⟩;have : B < w.heap.size:=by
   rcases Nat.lt_or_ge B w.heap.size with h | h
   ·exact h
   ·rw [(hg.inv.new B h).1] at hB; cases hB
  rw [r2,if_pos this]; exact hB
 have hk : Keep (fun _=>False) g w g2 w' := ⟨hE,hret.fr.os,hret.fr.tape,hret.fr.output,hret.fr.size,fun B hB _=>⟨(old B hB).1,by rw [r2,if_pos hB],(old B hB).2⟩⟩;have hrel := hg.grow hk hinv (fun B id hB=>by
  rcases Classical.em (B < w.heap.size) with h | h
  ·rw [r2,if_pos h] at hB; exact hg.h.lt B id hB
  ·exact absurd hB ((newr B h).1 id))
 refine ⟨g2,hrel.putown dst (hret.rep.pure hp g2 (fun _=>Nat.le_refl _)) (fun d hd=>?_) ?_⟩
 ·have conv : ∀ i u c,zas g' w' (.r i) u c→zas g2 w' (pl i) u c:=by
   intro i u c hc;cases c with
   | vs sz tg l =>
    rcases hc with h | h | ⟨B,n,cap,us,e,h1,h2,h3⟩
    ·exact .inl h
    ·exact .inr (.inl (by obtain ⟨a,n,_,h⟩ := h; exact ⟨a,n,.inl (by simp only [pl]; cases dst with | none=>rfl | some d=>cases one <;> rfl),h⟩))
    ·have hB : ¬ B < w.heap.size := fun hlt=>by
      rcases hret.fr.role B (by rw [h2]; simp) with h | h
      ·omega
      ·exact h rfl
     exact .inr (.inr ⟨B,n,cap,us,e,h1,by rw [r2,if_neg hB,h2],h3⟩)
   | _=>trivial
  subst hd;unfold zl6;cases one with
  | true =>
   simp only;split
   ·rename_i hm;exact conv 0 _ _ (hret.own1 rfl (zbj.1 hm))
   ·trivial
  | false =>
   simp only;split
   ·trivial
   ·rename_i hne;intro i hi us vs ui vi e1 e2 e3 e4;exact conv i _ _ (hret.own rfl i hi us vs ui vi e1 e2 e3 e4)
 ·unfold zl6;cases one with
  | true=>simp only; split <;> simp
  | false=>simp only; split <;> simp
theorem zog : RelH g.none Hp.none 0 w := ⟨fun id b hb=>(by cases hb),fun B id hB=>(by cases hB)⟩
theorem zwe {c : Call} {fo : Operand} {k : St→Option R} (hN : zgg P A) (hcal : zcn P A cal) (hgl : zbn A g0 w0) (ho : o.op = .call c) (hf : c.callee = .value fo)
  (h : zke P A cal o fo c.argTypes.toList c.args.toList S k = some r) (hg : Rel g0 w0 Ex g S a w) : OpOk P o a w g0 w0 Ex k r:=by
 unfold zke at h;obtain ⟨f,caps,hev,h1⟩ := func?_some h;clear h;have hfr := hg.ev fo;rw [hev] at hfr;obtain ⟨cus,hfv,hcr⟩ := zs4 hfr;have hargs := (znj (P := P) hg c.argTypes.toList c.args.toList).append hcr;have hrun : (∃ fn cc,P.funcs[f]? = some fn∧fn.body = some cc)→(execOp a.eval o).run P w = .ok (.enter f (c.args.toList.map a.eval ++ cus).toArray) w:=by
  rintro ⟨fn,cc,hfn,hb⟩;have hn := hN.n f fn hfn;have e1 : c.args.map a.eval ++ cus.toArray = (c.args.toList.map a.eval ++ cus).toArray:=by
   apply Array.ext'; simp
  simp only [execOp,ho,resolve,hf,hfv,Deferred.ofValue,invoke,callFunc,Sem.run_bind,Sem.run_pure,Result.andThen_ok,run_program,hfn,hb];simp [hn,e1]
 intro Q;unfold Oper.wp;split at h1
 ·obtain ⟨out,hc,h2⟩ := za2 h1;obtain ⟨hfn,hcc⟩ := hcal _ _ _ _ _ hc;rw [hrun hfn,Oper.upon_enter];refine (hcc g.shared w _ (ztt hg.inv) (zq4 hg.h) zn5 (fun h0=>by simp_all) ((hgl.ext hg.fr.ext).ext zib) (hargs.ext zib)).mono ?_;rintro e w' ⟨v,g',rfl,hret⟩;exact ⟨_,call_imp hg hret o.dst,h2⟩
 ·obtain ⟨hp,h2⟩ := zai h1;obtain ⟨out,hc,h3⟩ := za2 h2;obtain ⟨hp2,h4⟩ := zai h3;obtain ⟨hfn,hcc⟩ := hcal _ _ _ _ _ hc;rw [hrun hfn,Oper.upon_enter];have hargs' : RepL g.none w (c.args.toList.map a.eval ++ cus) (evsT P S c.argTypes.toList c.args.toList ++ caps) :=
   ⟨hargs.1,fun j u cv hu hcv=>(hargs.2 j u cv hu hcv).pure (zct hp j cv hcv) g.none (fun _=>Nat.le_refl _)⟩
  refine (hcc g.none w _ (zsf hg.inv) zog (fun _=>.inl rfl) (fun _ _=>rfl) ((hgl.ext hg.fr.ext).pure fun _=>Nat.le_refl _) hargs').mono ?_;rintro e w' ⟨v,g',rfl,hret⟩;exact ⟨_,zwf hg hret hp2 o.dst,h4⟩
end
end
end Go.Vai
