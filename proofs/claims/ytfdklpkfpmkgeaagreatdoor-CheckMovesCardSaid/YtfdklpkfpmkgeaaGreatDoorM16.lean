/- Arguments into abstract values. -/
import Derived.ProofKit
import Derived.SizedLaws
import Derived.LaidHandle
import Derived.LaidMore
import Derived.Deep.Strs
import Derived.OpenShut
import Derived.Test.YtfdklpkfpmkgeaaGreatDoorRows
import Derived.LaidLaws
import Derived.Test.YtfdklpkfpmkgeaaGreatDoorM5
set_option linter.unusedSimpArgs false
set_option linter.unusedVariables false
set_option linter.unusedSectionVars false
set_option linter.unnecessarySimpa false
namespace Go.Vai
section
open Go.ChangeShapes Go.WideShapes Go.ChangeAt Go.RowKit
section
variable {H : Type} {enc : TypeId × Value→H} {P : Program} {W : World} {base : Nat}
end
end
section
open Go.ChangeShapes Go.WideShapes Go.ChangeAt Go.RowKit
section
variable {P : Program} {W : World}
theorem zsn {n : String} {d : DataW Unit} : ∀ {l : List (String × DataW Unit)} {ps : List MemPlace},DataW.LaidVars P W l ps→(n,d) ∈ l →
  ∃ g t cs fuel p,P.globalNamed n = some g∧(P.globals[g]?).map (·.type) = some t∧W.var? P n = some cs∧DataW.trod (fun _=>()) P W 0 (fun _=>true) false fuel t cs.toList = some (d,p)∧∀ x ∈ MemPlace.row ⟨g,0,none⟩ cs.size,x ∈ ps
 | [],_,_,hm=>by cases hm
 | (n',d') :: l,ps,h,hm=>by
  obtain ⟨g,t,cs,fuel,p,q,h1,h2,h3,h4,h5,rfl⟩ := h;rcases List.mem_cons.1 hm with he | hm
  ·injection he with e1 e2;subst e1 e2;exact ⟨g,t,cs,fuel,p,h1,h2,h3,h4,fun x hx=>by simp [hx]⟩
  ·obtain ⟨g',t',cs',fuel',p',k1,k2,k3,k4,k5⟩ := zsn h5 hm;exact ⟨g',t',cs',fuel',p',k1,k2,k3,k4,fun x hx=>by simp [k5 x hx]⟩
theorem zmu {l : List (String × DataW Unit)} (h : laidMet P l W) {n : String} {d : DataW Unit} (hm : (n,d) ∈ l) {g t : Nat} (hg : P.globalNamed n = some g) (ht : (P.globals[g]?).map (·.type) = some t) :
  ∃ cs fuel p,(∀ i : Nat,W.cell? ⟨g,i,none⟩ = cs[i]?)∧DataW.trod (fun _=>()) P W 0 (fun _=>true) false fuel t cs = some (d,p)∧∀ u v,cs = [.iface u v]→Value.okWide P W .any 0 u v:=by
 obtain ⟨ps,hl,_,hrows⟩ := h;obtain ⟨g',t',cs,fuel,p,h1,h2,h3,h4,h5⟩ := zsn hl hm;obtain rfl := Option.some.inj (hg.symm.trans h1);obtain rfl := Option.some.inj (ht.symm.trans h2);have hc : ∀ i : Nat,W.cell? ⟨g,i,none⟩ = cs.toList[i]? := fun i=>by rw [World.var?_cell h1 h3 i]; simp
 refine ⟨cs.toList,fuel,p,hc,h4,fun u v e=>?_⟩;have hs : cs.size = 1 := by rw [← Array.length_toList,e]; rfl
 exact (hrows g 0 (h5 _ (by rw [hs]; simp [MemPlace.row]))).2 u v (by rw [hc 0,e]; rfl)
theorem znr {g : Nat} {cs : List Value} {avs : List AV} (hc : ∀ i : Nat,W.cell? ⟨g,i,none⟩ = cs[i]?) (h1 : ∀ u ∈ cs,u.oneCell' = true) (hr : RepL (zcz W) W cs avs) : Rep (zcz W) W (.pointer (some ⟨g,0,none⟩)) (.cptr avs) :=
 .cptr g 0 avs cs hr.1 (fun j u hu=>by
  have hk : W.cell? ⟨g,0 + j,none⟩ = some u := by rw [Nat.zero_add,hc,hu]
  exact ⟨hk,zex hk,h1 u (List.mem_of_getElem? hu)⟩) hr.2
theorem zk2 {a : Addr} {u : Value} (h : W.cell? a = some u) : a.spot = none:=by
 obtain ⟨B,o,s⟩ := a;cases s with
 | none=>rfl
 | some s =>
  unfold World.cell? at h;split at h
  ·simp at h
  ·cases h
theorem zjt {n : String} {k : IntKind} {zs : List Int} {l : List (String × DataW Unit)} (h : laidMet P l W) (hm : (n,.agg (zs.map fun z=>.lit (.int k z))) ∈ l) {g t e : Nat} (hg : P.globalNamed n = some g) (ht : (P.globals[g]?).map (·.type) = some t)
  (hu : P.underlying t = some (.array zs.length e)) (he : P.underlying e = some (.int k)) (hc : P.cellsOf e = 1) (hct : P.cellsOf t = zs.length) :
  Rep (zcz W) W (.pointer (some ⟨g,0,none⟩)) (.cptr (zs.map (.int k))):=by
 obtain ⟨cs,fuel,p,hcell,hd,_⟩ := zmu h hm hg ht;obtain ⟨xs,m,_,hx,hlen,hn,hel⟩ := DataW.trod_array hu hd;injection hx with hx _;injection hx with hx;have hcs : cs = zs.map (.int k):=by
  refine List.ext_getElem? fun i=>?_;by_cases hi : i < zs.length
  ·have h1 := hel i hi;rw [hc,Nat.mul_one,List.getElem?_eq_getElem (by omega)] at h1;obtain ⟨z,hz1,hz2,_⟩ := DataW.trod_int he h1;have h2 : (xs.map (·.1))[i]? = some (.lit (.int k z)) := by rw [List.getElem?_map,List.getElem?_eq_getElem (by omega),hz2]; rfl
   rw [← hx,List.getElem?_map,List.getElem?_eq_getElem hi] at h2;simp only [omS,Option.some.injEq,DataW.lit.injEq,Lit.int.injEq,true_and] at h2;have h3 : ((cs.drop i).take 1)[0]? = cs[i]? := by rw [List.getElem?_take_of_lt (by omega),List.getElem?_drop]; rfl
   rw [← h3,hz1,List.getElem?_map,List.getElem?_eq_getElem hi,h2];rfl
  ·rw [List.getElem?_eq_none (by omega),List.getElem?_eq_none (by simp; omega)]
 subst hcs;refine znr hcell (fun u hu=>?_) ⟨by simp,fun j u c hu hc'=>?_⟩
 ·obtain ⟨z,_,rfl⟩ := List.mem_map.1 hu;rfl
 ·rw [List.getElem?_map] at hu hc';obtain ⟨z,hz,rfl⟩ := Option.map_eq_some_iff.1 hu;rw [hz] at hc';simp only [omS,Option.some.injEq] at hc';subst hc';exact .int _ _
theorem zne {g : G} {w : World} {u : Value} {v : AV} (h : Rep g w u v) : RepL g w [u] [v] := zhn h zrn
theorem zr9 {n nm : String} {text : List UInt8} {l : List (String × DataW Unit)} (h : laidMet P l W) (hm : (n,.iface nm (.ptr (.agg [.lit (.string text)]))) ∈ l) {g ti tp te ts : Nat} {ms : Array (String × TypeId)} {f : Field} (hg : P.globalNamed n = some g) (ht : (P.globals[g]?).map (·.type) = some ti)
  (hi : P.underlying ti = some (.interface ms)) (hrow : ∀ u,P.typeName? 3 u = some nm→u = tp)
  (hp : P.underlying tp = some (.pointer te)) (he : P.underlying te = some (.struct #[f])) (hft : f.type = ts) (hfo : f.offset = 0) (hs : P.underlying ts = some .string) (hc : P.cellsOf te = 1) (hcs : P.cellsOf ts = 1) :
  Rep (zcz W) W (.pointer (some ⟨g,0,none⟩)) (.cptr [.iface tp (.cptr [.str text])]):=by
 obtain ⟨cs,fuel,p,hcell,hd,hok⟩ := zmu h hm hg ht;obtain ⟨⟨B,o,spot⟩,s,rfl,h1,rfl,_,_⟩ := errorString_of_trod hi hrow hp he hft hfo hs hc hcs hd hok;obtain rfl : spot = none := zk2 h1;refine znr hcell (fun u hu=>?_) (zne (.iface _ _ _ (.cptr B o _ [.string s] rfl (fun j u hu=>?_) (zne (.str s)).2)))
 ·simp only [List.mem_singleton] at hu;subst hu;rfl
 ·match j with
  | 0 =>
   simp only [List.getElem?_cons_zero,Option.some.injEq] at hu;subst hu;exact ⟨h1,zex h1,rfl⟩
  | j + 1=>simp at hu
theorem zpg (l : List (List UInt8)) : (l.map AV.str).flatMap AV.cells = l.map AV.str:=by
 induction l with
 | nil=>rfl
 | cons x l ih=>rw [List.map_cons,List.flatMap_cons,ih]; rfl
theorem zo9 {n : String} {ss : List (List UInt8)} {l : List (String × DataW Unit)} (h : laidMet P l W) (hm : (n,.slice (ss.map fun s=>.lit (.string s)) []) ∈ l) {g t e : Nat} (hg : P.globalNamed n = some g) (ht : (P.globals[g]?).map (·.type) = some t)
  (hu : P.underlying t = some (.slice e)) (he : P.underlying e = some .string) (hc : P.cellsOf e = 1) (h0 : 0 < ss.length) :
  Rep (zcz W) W (.pointer (some ⟨g,0,none⟩)) (.cptr [.vs 1 true (ss.map .str)]):=by
 obtain ⟨cs,fuel,p,hcell,hd,_⟩ := zmu h hm hg ht;rcases Go.Deep.open_strs hu he hc hd with ⟨_,hx⟩ | ⟨⟨B,o,spot⟩,len,cap,m,Sx,rfl,_,hle,_,hmm,hx,hS⟩
 ·cases hx
 simp only [if_true] at hmm;subst hmm;injection hx with hx _;injection hx with hx1 hx2;have hlen : ss.length = len := by have := congrArg List.length hx1; simpa using this
 have hcap : m = ss.length := by have := congrArg List.length hx2; simp at this; omega
 subst hcap;obtain rfl := hlen;have hS' : ∀ i,i < ss.length→W.cell? ⟨B,o + i,none⟩ = some (.string (Sx i))∧some (Sx i).data.toList = ss[i]? := fun i hi=>by
  obtain ⟨h1,_⟩ := hS i hi;have hsp : spot = none:=by
   have := (hS 0 h0).1;rw [show (⟨B,o,spot⟩ : Addr).add 0 = ⟨B,o,spot⟩ by unfold Addr.add; simp] at this;exact zk2 this
  subst hsp;rw [Addr.add_lit] at h1;refine ⟨h1,?_⟩;have h2 := congrArg (fun l=>l[i]?) hx1;simp only [List.getElem?_map,List.getElem?_eq_getElem hi,List.getElem?_range hi,omS,Option.some.injEq,DataW.lit.injEq,Lit.string.injEq] at h2;rw [List.getElem?_eq_getElem hi,h2]
 have hsp : spot = none:=by
  have := (hS 0 h0).1;rw [show (⟨B,o,spot⟩ : Addr).add 0 = ⟨B,o,spot⟩ by unfold Addr.add; simp] at this;exact zk2 this
 subst hsp;refine znr hcell (fun u hu=>?_) (zne ?_)
 ·simp only [List.mem_singleton] at hu;subst hu;rfl
 ·have := Rep.vs (g := zcz W) (w := W) B o ss.length 1 true (ss.map AV.str) ((List.range ss.length).map fun i=>.string (Sx i)) (by rw [zpg]; simp) (fun x hx=>by
   obtain ⟨y,_,rfl⟩ := List.mem_map.1 hx
   rfl) (by simp) (by simp) (fun j u hu=>?_) (fun j u c hu hcc=>?_)
  ·rw [lnM] at this;exact this
  ·rw [List.getElem?_map] at hu;obtain ⟨i,hi,rfl⟩ := Option.map_eq_some_iff.1 hu;have hj := (List.getElem?_eq_some_iff.1 hi).1;simp only [List.length_range] at hj;rw [List.getElem?_range hj] at hi;obtain rfl := Option.some.inj hi;exact ⟨(hS' j hj).1,zex (hS' j hj).1,rfl⟩
  ·rw [List.getElem?_map] at hu;rw [zpg,List.getElem?_map] at hcc;obtain ⟨i,hi,rfl⟩ := Option.map_eq_some_iff.1 hu;have hj := (List.getElem?_eq_some_iff.1 hi).1;simp only [List.length_range] at hj;rw [List.getElem?_range hj] at hi;obtain rfl := Option.some.inj hi;rw [← (hS' j hj).2] at hcc;simp only [omS,Option.some.injEq] at hcc;subst hcc;exact .str _
theorem getG_mem : ∀ (L : List (Nat × List AV)) (i : Nat) (cs : List AV),getG L i = some cs→∃ p ∈ L,p.1 = i∧p.2 = cs:=by
 intro L
 induction L with
 | nil=>intro i cs h; cases h
 | cons p L ih =>
  obtain ⟨a,b⟩ := p;intro i cs h;unfold getG at h;split at h
  ·rename_i he;injection h with h;exact ⟨_,mcS ..,(beqN he).symm,h⟩
  ·obtain ⟨q,hq,h1,h2⟩ := ih i cs h;exact ⟨q,mcM _ hq,h1,h2⟩
theorem zw1 {A : List (Nat × Ann)} {g : G} {w : World} (h : ∀ p ∈ (getA A 1000000).gl,za3 p.2 = true∧Rep g w (.pointer (some ⟨p.1,0,none⟩)) (.cptr p.2)) : zbn A g w := fun i cs hc=>by
 obtain ⟨p,hp,rfl,rfl⟩ := getG_mem _ _ _ hc;exact h p hp
end
end
end Go.Vai
namespace Go.Proofs.YtfdklpkfpmkgeaaGreatDoor
section
open Go Go.Vai Go.ChangeShapes Go.WideShapes Go.ChangeAt Go.RowKit
abbrev zj6 : List (String × DataW Unit) := [("math/bits.deBruijn32tab",Rows.laid_math_bits_deBruijn32tab),("math/bits.deBruijn64tab",Rows.laid_math_bits_deBruijn64tab),("internal/strconv.uint64pow10",Rows.laid_internal_strconv_uint64pow10),("strconv.ErrRange",Rows.laid_strconv_ErrRange),("strconv.ErrSyntax",Rows.laid_strconv_ErrSyntax),("elasticstore/schema.keywords",Rows.laid_elasticstore_schema_keywords),("elasticstore/schema.signs",Rows.laid_elasticstore_schema_signs)]
def aInts : List AV→List Int
 | []=>[]
 | .int _ n :: l=>n :: aInts l
 | _ :: l=>aInts l
def aStrs : List AV→List (List UInt8)
 | []=>[]
 | .str s :: l=>s :: aStrs l
 | _ :: l=>aStrs l
def cs3 : List (List UInt8) := match zgk ann 3 with
 | some [.vs _ _ l]=>aStrs l
 | _=>[]
def cs4 : List (List UInt8) := match zgk ann 4 with
 | some [.vs _ _ l]=>aStrs l
 | _=>[]
def csI (i : Nat) : List Int := match zgk ann i with
 | some l=>aInts l
 | _=>[]
theorem row319 (u : TypeId) (h : Tryz.prog.typeName? 3 u = some "*errors.errorString") : u = 319 :=
 typeName_ptr_named (nm := "errors.errorString") (by rw [show "*" ++ "errors.errorString" = "*errors.errorString" by decide]; kernel_rfl) (by kernel_rfl) (by decide) u (by rw [show "*" ++ "errors.errorString" = "*errors.errorString" by decide]; exact h)
theorem globs {W : World} (h : laidMetH Tryz.prog zj6 W) : zbn ann (zcz W) W:=by
 rw [MakeChecks.laidMetH_plain _ _ _ (by kernel_rfl)] at h;have r3 := zo9 (n := "elasticstore/schema.signs") (ss := cs3) (g := 3) (t := 67) (e := 9) h (show ("elasticstore/schema.signs",_) ∈ zj6 from .tail _ (.tail _ (.tail _ (.tail _ (.tail _ (.tail _ (.head _))))))) (by kernel_rfl) (by kernel_rfl) (by kernel_rfl) (by kernel_rfl) (by kernel_rfl) (by decide);have r4 := zo9 (n := "elasticstore/schema.keywords") (ss := cs4) (g := 4) (t := 67) (e := 9) h (show ("elasticstore/schema.keywords",_) ∈ zj6 from .tail _ (.tail _ (.tail _ (.tail _ (.tail _ (.head _)))))) (by kernel_rfl) (by kernel_rfl) (by kernel_rfl) (by kernel_rfl) (by kernel_rfl) (by decide);have r5 := zjt (n := "internal/strconv.uint64pow10") (k := .u64) (zs := csI 5) (g := 5) (t := 295) (e := 131) h (show ("internal/strconv.uint64pow10",_) ∈ zj6 from .tail _ (.tail _ (.head _))) (by kernel_rfl) (by kernel_rfl) (by kernel_rfl) (by kernel_rfl) (by kernel_rfl) (by kernel_rfl);have r9 := zjt (n := "math/bits.deBruijn32tab") (k := .u8) (zs := csI 9) (g := 9) (t := 322) (e := 5) h (show ("math/bits.deBruijn32tab",_) ∈ zj6 from .head _) (by kernel_rfl) (by kernel_rfl) (by kernel_rfl) (by kernel_rfl) (by kernel_rfl) (by kernel_rfl);have r10 := zjt (n := "math/bits.deBruijn64tab") (k := .u8) (zs := csI 10) (g := 10) (t := 323) (e := 5) h (show ("math/bits.deBruijn64tab",_) ∈ zj6 from .tail _ (.head _)) (by kernel_rfl) (by kernel_rfl) (by kernel_rfl) (by kernel_rfl) (by kernel_rfl) (by kernel_rfl);have r6 := zr9 (n := "strconv.ErrSyntax") (nm := "*errors.errorString") (g := 6) (ti := 179) (tp := 319) (te := 321) (ts := 9) h (show ("strconv.ErrSyntax",_) ∈ zj6 from .tail _ (.tail _ (.tail _ (.tail _ (.head _))))) (by kernel_rfl) (by kernel_rfl) Tryz.underlying179 row319 Tryz.underlying319 Tryz.underlying321 rfl rfl Tryz.underlying9 (by kernel_rfl) (by kernel_rfl)
 have r7 := zr9 (n := "strconv.ErrRange") (nm := "*errors.errorString") (g := 7) (ti := 179) (tp := 319) (te := 321) (ts := 9) h (show ("strconv.ErrRange",_) ∈ zj6 from .tail _ (.tail _ (.tail _ (.head _)))) (by kernel_rfl) (by kernel_rfl) Tryz.underlying179 row319 Tryz.underlying319 Tryz.underlying321 rfl rfl Tryz.underlying9 (by kernel_rfl) (by kernel_rfl);refine zw1 fun p hp=>?_;have hall : (getA ann 1000000).gl = [(3,[.vs 1 true (cs3.map .str)]),(4,[.vs 1 true (cs4.map .str)]),(5,(csI 5).map (.int .u64)),(6,[.iface 319 (.cptr [.str [105,110,118,97,108,105,100,32,115,121,110,116,97,120]])]),(7,[.iface 319 (.cptr [.str [118,97,108,117,101,32,111,117,116,32,111,102,32,114,97,110,103,101]])]),(9,(csI 9).map (.int .u8)),(10,(csI 10).map (.int .u8))] := by kernel_rfl
 rw [hall] at hp;simp only [List.mem_cons,List.not_mem_nil,or_false] at hp;rcases hp with rfl | rfl | rfl | rfl | rfl | rfl | rfl
 ·exact ⟨by kernel_rfl,r3⟩
 ·exact ⟨by kernel_rfl,r4⟩
 ·exact ⟨by kernel_rfl,r5⟩
 ·exact ⟨by kernel_rfl,r6⟩
 ·exact ⟨by kernel_rfl,r7⟩
 ·exact ⟨by kernel_rfl,r9⟩
 ·exact ⟨by kernel_rfl,r10⟩
theorem door_met (os : Os) (args : Array Value) : laidMetH Tryz.prog zj6 ((World.doorLaid Tryz.prog 4000 os).forCall (fun _ _=>0) ⟨#[],args,[]⟩).memory :=
 laidMetH_of_parts3 (fuel := 8) (laidMet_of_run' 8 (by kernel_rfl) (by kernel_rfl)) (by kernel_rfl) (by kernel_rfl)
end
end Go.Proofs.YtfdklpkfpmkgeaaGreatDoor
