/- The shelf's contracts of ParseInt and IndexByte, laid at this program. -/
import Derived.Test.YtfdklpkfpmkgeaaGreatDoorProg
import Derived.Shelf.Strconv.ParseIntPublic10
import Derived.Shelf.Strings.Search1
import GoSem.Dispatch
import GoSem.Machine.Frame
import Derived.RowKit3
import Derived.Orders
import Derived.Laws.Entries
import Derived.Calls
import Derived.Laws.AppendOwn
import Derived.Laws.Strings
import Derived.Laws.Slices
import Derived.Laws.BytesString
import Derived.Below
set_option linter.unusedSimpArgs false
set_option linter.unusedVariables false
set_option linter.unusedSectionVars false
set_option linter.unnecessarySimpa false
namespace Go.Proofs
section
open Go.Shelf
def Tryz.laysPI_ren : Go.Shelf.Ren := ⟨fun | 174=>144 | 247=>182 | 245=>183 | 287=>207 | 279=>208 | 280=>209 | 281=>210 | 282=>211 | 321=>226 | 322=>227 | 316=>228 | 171=>230 | 205=>229 | 243=>240 | 246=>169 | 283=>198 | 284=>199 | 285=>200 | 286=>201 | 129=>163 | 317=>218 | 318=>219 | 319=>220 | 320=>221 | 337=>232 | 338=>233 | n=>n,fun | 9=>9 | 3=>3 | 2=>2 | 75=>179 | 85=>211 | 4=>4 | 167=>283 | 5=>5 | 53=>131 | 175=>284 | 46=>172 | 168=>286 | 37=>49 | 0=>0 | 210=>302 | 21=>21 | 127=>189 | 145=>321 | 143=>319 | 171=>262 | 173=>264 | 212=>295 | 51=>229 | 20=>20 | 213=>296 | 232=>322 | 233=>323 | 80=>127 | n=>n,fun | 15=>6 | 16=>7 | 17=>5 | 18=>9 | 19=>10 | n=>n⟩
theorem Tryz.laysPI : Go.Proofs.LaysC.n174 Tryz.prog Tryz.laysPI_ren := {
 mixed := by kernel_rfl
 f129 := Tryz.func163.trans (congrArg some (by kernel_rfl))
 f171 := Tryz.func230.trans (congrArg some (by kernel_rfl))
 f174 := Tryz.func144.trans (congrArg some (by kernel_rfl))
 f205 := Tryz.func229.trans (congrArg some (by kernel_rfl))
 f243 := Tryz.func240.trans (congrArg some (by kernel_rfl))
 f245 := Tryz.func183.trans (congrArg some (by kernel_rfl))
 f246 := Tryz.func169.trans (congrArg some (by kernel_rfl))
 f247 := Tryz.func182.trans (congrArg some (by kernel_rfl))
 f279 := Tryz.func208.trans (congrArg some (by kernel_rfl))
 f280 := Tryz.func209.trans (congrArg some (by kernel_rfl))
 f281 := Tryz.func210.trans (congrArg some (by kernel_rfl))
 f282 := Tryz.func211.trans (congrArg some (by kernel_rfl))
 f283 := Tryz.func198.trans (congrArg some (by kernel_rfl))
 f284 := Tryz.func199.trans (congrArg some (by kernel_rfl))
 f285 := Tryz.func200.trans (congrArg some (by kernel_rfl))
 f286 := Tryz.func201.trans (congrArg some (by kernel_rfl))
 f287 := Tryz.func207.trans (congrArg some (by kernel_rfl))
 f316 := Tryz.func228.trans (congrArg some (by kernel_rfl))
 f317 := Tryz.func218.trans (congrArg some (by kernel_rfl))
 f318 := Tryz.func219.trans (congrArg some (by kernel_rfl))
 f319 := Tryz.func220.trans (congrArg some (by kernel_rfl))
 f320 := Tryz.func221.trans (congrArg some (by kernel_rfl))
 f321 := Tryz.func226.trans (congrArg some (by kernel_rfl))
 f322 := Tryz.func227.trans (congrArg some (by kernel_rfl))
 f337 := Tryz.func232.trans (congrArg some (by kernel_rfl))
 f338 := Tryz.func233.trans (congrArg some (by kernel_rfl))
 t0 := Tryz.underlying0
 a0 := Tryz.isAgg0
 z0 := Tryz.sizeOf0
 v0 := Tryz.zeroValue0
 t2 := Tryz.underlying2
 a2 := Tryz.isAgg2
 z2 := Tryz.sizeOf2
 v2 := Tryz.zeroValue2
 t3 := Tryz.underlying3
 a3 := Tryz.isAgg3
 z3 := Tryz.sizeOf3
 v3 := Tryz.zeroValue3
 t4 := Tryz.underlying4
 a4 := Tryz.isAgg4
 z4 := Tryz.sizeOf4
 v4 := Tryz.zeroValue4
 t5 := Tryz.underlying5
 a5 := Tryz.isAgg5
 z5 := Tryz.sizeOf5
 v5 := Tryz.zeroValue5
 t9 := Tryz.underlying9
 a9 := Tryz.isAgg9
 z9 := Tryz.sizeOf9
 v9 := Tryz.zeroValue9
 t20 := Tryz.underlying20
 a20 := Tryz.isAgg20
 z20 := Tryz.sizeOf20
 v20 := Tryz.zeroValue20
 t21 := Tryz.underlying21
 a21 := Tryz.isAgg21
 z21 := Tryz.sizeOf21
 v21 := Tryz.zeroValue21
 t37 := Tryz.underlying49
 a37 := Tryz.isAgg49
 z37 := Tryz.sizeOf49
 v37 := Tryz.zeroValue49
 t46 := Tryz.underlying172
 a46 := Tryz.isAgg172
 z46 := Tryz.sizeOf172
 v46 := Tryz.zeroValue172
 t51 := Tryz.underlying229
 a51 := Tryz.isAgg229
 z51 := Tryz.sizeOf229
 v51 := Tryz.zeroValue229
 t53 := Tryz.underlying131
 a53 := Tryz.isAgg131
 z53 := Tryz.sizeOf131
 v53 := Tryz.zeroValue131
 t75 := Tryz.underlying179
 a75 := Tryz.isAgg179
 z75 := Tryz.sizeOf179
 v75 := Tryz.zeroValue179
 t85 := Tryz.underlying211
 a85 := Tryz.isAgg211
 z85 := Tryz.sizeOf211
 v85 := Tryz.zeroValue211
 t127 := Tryz.underlying189
 a127 := Tryz.isAgg189
 z127 := Tryz.sizeOf189
 v127 := Tryz.zeroValue189
 t143 := Tryz.underlying319
 a143 := Tryz.isAgg319
 z143 := Tryz.sizeOf319
 v143 := Tryz.zeroValue319
 t145 := Tryz.underlying321
 a145 := Tryz.isAgg321
 z145 := Tryz.sizeOf321
 v145 := Tryz.zeroValue321
 t167 := Tryz.underlying283
 a167 := Tryz.isAgg283
 z167 := Tryz.sizeOf283
 v167 := Tryz.zeroValue283
 t168 := Tryz.underlying286
 a168 := Tryz.isAgg286
 z168 := Tryz.sizeOf286
 v168 := Tryz.zeroValue286
 t171 := Tryz.underlying262
 a171 := Tryz.isAgg262
 z171 := Tryz.sizeOf262
 v171 := Tryz.zeroValue262
 t173 := Tryz.underlying264
 a173 := Tryz.isAgg264
 z173 := Tryz.sizeOf264
 v173 := Tryz.zeroValue264
 t175 := Tryz.underlying284
 a175 := Tryz.isAgg284
 z175 := Tryz.sizeOf284
 v175 := Tryz.zeroValue284
 t210 := Tryz.underlying302
 a210 := Tryz.isAgg302
 z210 := Tryz.sizeOf302
 v210 := Tryz.zeroValue302
 t212 := Tryz.underlying295
 a212 := Tryz.isAgg295
 z212 := Tryz.sizeOf295
 v212 := Tryz.zeroValue295
 t213 := Tryz.underlying296
 a213 := Tryz.isAgg296
 z213 := Tryz.sizeOf296
 t232 := Tryz.underlying322
 a232 := Tryz.isAgg322
 z232 := Tryz.sizeOf322
 v232 := Tryz.zeroValue322
 t233 := Tryz.underlying323
 a233 := Tryz.isAgg323
 z233 := Tryz.sizeOf323
 v233 := Tryz.zeroValue323
 g15 := by kernel_rfl
 g16 := by kernel_rfl
 g17 := by kernel_rfl
 g18 := by kernel_rfl
 g19 := by kernel_rfl
 t80 := Tryz.underlying127
 a80 := Tryz.isAgg127
 z80 := Tryz.sizeOf127
 v80 := Tryz.zeroValue127
 i0 := by kernel_rfl
 i2 := by kernel_rfl
 i3 := by kernel_rfl
 i4 := by kernel_rfl
 i5 := by kernel_rfl
 i9 := by kernel_rfl
 i20 := by kernel_rfl
 i21 := by kernel_rfl
 i37 := by kernel_rfl
 i46 := by kernel_rfl
 i51 := by kernel_rfl
 i53 := by kernel_rfl
 i75 := by kernel_rfl
 i80 := by kernel_rfl
 i85 := by kernel_rfl
 i127 := by kernel_rfl
 i143 := by kernel_rfl
 i145 := by kernel_rfl
 i167 := by kernel_rfl
 i168 := by kernel_rfl
 i171 := by kernel_rfl
 i173 := by kernel_rfl
 i175 := by kernel_rfl
 i210 := by kernel_rfl
 i212 := by kernel_rfl
 i232 := by kernel_rfl
 i233 := by kernel_rfl
 m15 := by kernel_rfl
 m16 := by kernel_rfl
 m17 := by kernel_rfl
 m18 := by kernel_rfl
 m19 := by kernel_rfl
 c0 := by kernel_rfl
 c2 := by kernel_rfl
 c3 := by kernel_rfl
 c4 := by kernel_rfl
 c5 := by kernel_rfl
 c9 := by kernel_rfl
 c20 := by kernel_rfl
 c21 := by kernel_rfl
 c37 := by kernel_rfl
 c46 := by kernel_rfl
 c51 := by kernel_rfl
 c53 := by kernel_rfl
 c75 := by kernel_rfl
 c80 := by kernel_rfl
 c85 := by kernel_rfl
 c127 := by kernel_rfl
 c143 := by kernel_rfl
 c145 := by kernel_rfl
 c167 := by kernel_rfl
 c168 := by kernel_rfl
 c171 := by kernel_rfl
 c173 := by kernel_rfl
 c175 := by kernel_rfl
 c210 := by kernel_rfl
 c212 := by kernel_rfl
 c213 := by kernel_rfl
 c232 := by kernel_rfl
 c233 := by kernel_rfl }
def Tryz.laysIB_ren : Go.Shelf.Ren := ⟨fun | 217=>206 | 266=>225 | n=>n,fun | 9=>9 | 5=>5 | 3=>3 | n=>n,fun | n=>n⟩
theorem Tryz.laysIB : Go.Proofs.Lays.n217 Tryz.prog Tryz.laysIB_ren := {
 mixed := by kernel_rfl
 f217 := Tryz.func206.trans (congrArg some (by kernel_rfl))
 f266 := Tryz.func225.trans (congrArg some (by kernel_rfl))
 t3 := Tryz.underlying3
 a3 := Tryz.isAgg3
 z3 := Tryz.sizeOf3
 v3 := Tryz.zeroValue3
 t5 := Tryz.underlying5
 a5 := Tryz.isAgg5
 z5 := Tryz.sizeOf5
 v5 := Tryz.zeroValue5
 t9 := Tryz.underlying9
 a9 := Tryz.isAgg9
 z9 := Tryz.sizeOf9
 v9 := Tryz.zeroValue9 }
end
end Go.Proofs
namespace Go.Vai
section
theorem bnT : (!true) = false := rfl
theorem bnF : (!false) = true := rfl
theorem mcS {α : Type} {a : α} {l : List α} : a ∈ a :: l := List.mem_cons_self
theorem mcM {α : Type} {a : α} (y : α) {l : List α} (h : a ∈ l) : a ∈ y :: l := List.mem_cons_of_mem y h
theorem mpA {α β : Type} {f : α → β} {l₁ l₂ : List α} : (l₁ ++ l₂).map f = l₁.map f ++ l₂.map f := List.map_append
theorem lnN {α : Type} : ([] : List α).length = 0 := rfl
theorem lnC {α : Type} {a : α} {l : List α} : (a :: l).length = l.length + 1 := rfl
theorem omS {α β : Type} (a : α) (f : α → β) : (some a).map f = some (f a) := rfl
theorem obS {α β : Type} (a : α) (f : α → Option β) : (some a).bind f = f a := rfl
theorem itN (n : Nat) : (n : Int).toNat = n := Int.toNat_natCast n
theorem beqN {n m : Nat} (h : Nat.beq n m = true) : n = m := Nat.eq_of_beq_eq_true h
theorem bndI {α β : Type} {o : Option α} {f : α → Option β} {b : β} (h : ∃ a, o = some a ∧ f a = some b) : o.bind f = some b := Option.bind_eq_some_iff.2 h
theorem lnA {α : Type} {a b : List α} : (a ++ b).length = a.length + b.length := List.length_append
theorem lnM {α β : Type} {l : List α} (f : α → β) : (l.map f).length = l.length := List.length_map f
inductive AV where
 | undef
 | bool (b : Bool)
 | int (k : IntKind) (n : Int)
 | str (s : List UInt8)
 | nilp
 | ptr (id off : Nat)
 | cptr (cs : List AV)
 | vs (sz : Nat) (tg : Bool) (l : List AV)
 | arr (id off len sz : Nat)
 | agg (cs : List AV)
 | tuple (l : List AV)
 | func (f : Nat) (caps : List AV)
 | iface (t : Nat) (v : AV)
 | nilI
 deriving Inhabited
mutual
def AV.pure : AV→Bool
 | .ptr ..=>false
 | .arr ..=>false
 | .cptr cs=>za3 cs
 | .vs _ _ l=>za3 l
 | .agg cs=>za3 cs
 | .tuple l=>za3 l
 | .func _ caps=>za3 caps
 | .iface _ v=>v.pure
 | _=>true
def za3 : List AV→Bool
 | []=>true
 | a :: l=>match a.pure with
  | true=>za3 l
  | false=>false
end
def AV.cells : AV→List AV
 | .agg cs=>cs
 | v=>[v]
inductive Fl where
 | no
 | own
 | ownS
 | lS (t : Nat)
 | lL (d off : Nat)
 | lH (id off : Nat)
 | comps (cs : List Nat)
 deriving Inhabited
inductive Slot where
 | und
 | val (v : AV) (f : Fl)
 | lp (d off : Nat)
 | mp (d : Nat)
 deriving Inhabited
def Fl.claim : Fl→Bool
 | .own=>true
 | .comps _=>true
 | _=>false
structure Blk where
 cells : List AV
 free : List Nat
 deriving Inhabited
def Hp := List (Nat × Blk)
def Hp.none : Hp := ([] : List (Nat × Blk))
structure St where
 sl : List Slot
 L : List (Nat × Blk)
 H : Hp
 nx : Nat
 M : List (Nat × List (AV × AV))
structure Ann where
 K : List Nat
 imp : Bool
 rf : List Nat
 esc : List Nat
 gl : List (Nat × List AV)
 drp : List (Nat × Nat)
 dbx : Bool
 oc : Option (Bool × (List Nat→List AV→Option (Nat × List AV)))
 deriving Inhabited
structure Out where
 v : AV
 H : Hp
 nx : Nat
variable {R : Type}
def br (b : Bool) (x y : Option R) : Option R := match b with
 | true=>x
 | false=>y
def memN : Nat→List Nat→Bool
 | _,[]=>false
 | n,m :: l=>match Nat.beq n m with
  | true=>true
  | false=>memN n l
def insN : Nat→List Nat→List Nat
 | n,[]=>[n]
 | n,m :: l=>match Nat.blt n m with
  | true=>n :: m :: l
  | false=>match Nat.beq n m with
   | true=>m :: l
   | false=>m :: insN n l
def delN (n : Nat) : List Nat→List Nat
 | []=>[]
 | m :: l=>match Nat.beq n m with
  | true=>delN n l
  | false=>m :: delN n l
def cutN (a b : Nat) : List Nat→List Nat
 | []=>[]
 | m :: l=>match Nat.ble a m,Nat.blt m b with
  | true,true=>cutN a b l
  | _,_=>m :: cutN a b l
def nthS : List Slot→Nat→Slot
 | [],_=>.und
 | s :: _,0=>s
 | _ :: l,n + 1=>nthS l n
def setS : List Slot→Nat→Slot→List Slot
 | [],_,_=>[]
 | _ :: l,0,s=>s :: l
 | x :: l,n + 1,s=>x :: setS l n s
def nth : List AV→Nat→Option AV
 | [],_=>Option.none
 | s :: _,0=>some s
 | _ :: l,n + 1=>nth l n
def patch : List AV→Nat→List AV→List AV
 | cells,0,new=>new ++ cells.drop new.length
 | [],_ + 1,_=>[]
 | c :: cells,n + 1,new=>c :: patch cells n new
def nthN : List Nat→Nat→Nat
 | [],_=>0
 | s :: _,0=>s
 | _ :: l,n + 1=>nthN l n
def getL : List (Nat × Blk)→Nat→Option Blk
 | [],_=>Option.none
 | (d,b) :: l,n=>match Nat.beq n d with
  | true=>some b
  | false=>getL l n
def insH : List (Nat × Blk)→Nat→Blk→List (Nat × Blk)
 | [],n,b=>[(n,b)]
 | (d,c) :: l,n,b=>match Nat.beq n d with
  | true=>(d,b) :: l
  | false=>match Nat.blt n d with
   | true=>(n,b) :: (d,c) :: l
   | false=>(d,c) :: insH l n b
def setL (l : List (Nat × Blk)) (n : Nat) (b : Blk) : List (Nat × Blk) := insH l n b
def getM : List (Nat × List (AV × AV))→Nat→Option (List (AV × AV))
 | [],_=>Option.none
 | (d,b) :: l,n=>match Nat.beq n d with
  | true=>some b
  | false=>getM l n
def setM : List (Nat × List (AV × AV))→Nat→List (AV × AV)→List (Nat × List (AV × AV))
 | [],n,b=>[(n,b)]
 | (d,c) :: l,n,b=>match Nat.beq n d with
  | true=>(d,b) :: l
  | false=>(d,c) :: setM l n b
def Hp.get (H : Hp) (i : Nat) : Option Blk := getL H i
def Hp.set (H : Hp) (i : Nat) (b : Blk) : Hp := insH H i b
instance : CoeFun Hp fun _=>Nat→Option Blk := ⟨Hp.get⟩
def Hp.new? (H : Hp) (i : Nat) (x : Option R) : Option R := match H.get i with
 | Option.none=>x
 | some _=>Option.none
def AV.int? (v : AV) (k : IntKind→Int→Option R) : Option R := match v with
 | .int i n=>k i n
 | _=>Option.none
def AV.bool? (v : AV) (k : Bool→Option R) : Option R := match v with
 | .bool b=>k b
 | _=>Option.none
def AV.str? (v : AV) (k : List UInt8→Option R) : Option R := match v with
 | .str s=>k s
 | _=>Option.none
def AV.vs? (v : AV) (k : Nat→Bool→List AV→Option R) : Option R := match v with
 | .vs sz tg l=>k sz tg l
 | _=>Option.none
def AV.agg? (v : AV) (k : List AV→Option R) : Option R := match v with
 | .agg cs=>k cs
 | _=>Option.none
def AV.tup? (v : AV) (k : List AV→Option R) : Option R := match v with
 | .tuple l=>k l
 | _=>Option.none
def AV.func? (v : AV) (k : Nat→List AV→Option R) : Option R := match v with
 | .func f c=>k f c
 | _=>Option.none
def AV.cells? (v : AV) (k : List AV→Option R) : Option R := match v with
 | .undef=>Option.none
 | .tuple _=>Option.none
 | .agg cs=>k cs
 | w=>k [w]
def getG : List (Nat × List AV)→Nat→Option (List AV)
 | [],_=>Option.none
 | (d,b) :: l,n=>match Nat.beq n d with
  | true=>some b
  | false=>getG l n
def zaj (P : Program) (t : TypeId) : Nat := match P.info? t with
 | some i=>i.size
 | Option.none=>0
def zcu (P : Program) (t : TypeId) : Nat := match P.info? t with
 | some i=>i.bytes
 | Option.none=>0
def tAgg (P : Program) (t : TypeId) : Bool := match P.underlying t with
 | some (.struct _)=>true
 | some (.array _ _)=>true
 | _=>false
def zj7 (P : Program) (t : TypeId) : Option TypeId := match P.underlying t with
 | some (.slice e)=>some e
 | _=>Option.none
def zht (P : Program) (t : TypeId) (k : Bool→Option R) : Option R := match P.underlying t with
 | some (.struct _)=>k true
 | some (.array _ _)=>k true
 | some _=>k false
 | Option.none=>Option.none
def zf2 (P : Program) (t : TypeId) : Option (List Field) := match P.underlying t with
 | some (.struct fs)=>some fs.toList
 | _=>Option.none
def pack (ag : Bool) (cs : List AV) : AV := match ag with
 | true=>.agg cs
 | false=>match cs with
  | [c]=>c
  | _=>.undef
def zdj (sz : Nat) : Value→AV
 | .bool b=>.bool b
 | .int k n=>.int k n
 | .string s=>.str s.data.toList
 | .pointer none=>.nilp
 | .slice none 0 0=>.vs sz true []
 | .func (.func f) first captured=>match first.toList,captured.toList with
  | [],[]=>.func f []
  | _,_=>.undef
 | .nilIface=>.nilI
 | .tuple l=>match l.toList with
  | []=>.tuple []
  | _=>.undef
 | _=>.undef
def zk3 (P : Program) : Nat→TypeId→List Nat
 | 0,_=>[]
 | n + 1,t=>match P.underlying t with
  | some (.struct fs)=>fs.toList.flatMap fun f=>zk3 P n f.type
  | some (.array k e)=>(List.replicate k (zk3 P n e)).flatten
  | some (.slice e)=>[zaj P e]
  | _=>[0]
def zd2 : List Nat→List Value→List AV
 | h :: hs,c :: cs=>zdj h c :: zd2 hs cs
 | [],c :: cs=>zdj 0 c :: zd2 [] cs
 | _,[]=>[]
def zlq : List Value→Bool
 | []=>true
 | .agg _ :: _=>false
 | .tuple _ :: _=>false
 | _ :: l=>zlq l
def zdp (P : Program) (t : TypeId) : Value→AV
 | .agg cs=>match zlq cs.toList with
  | true=>.agg (zd2 (zk3 P 8 t) cs.toList)
  | false=>.undef
 | v=>zdj (match zj7 P t with
  | some e=>zaj P e
  | Option.none=>0) v
def zeroCells (P : Program) (t : TypeId) : Option (List AV) := match P.info? t with
 | some i=>match i.zero with
  | some z=>match zlq z.cells.toList with
   | true=>some (zd2 (zk3 P 8 t) z.cells.toList)
   | false=>Option.none
  | Option.none=>Option.none
 | Option.none=>Option.none
def zbm : Nat→List AV→List Nat
 | _,[]=>[]
 | i,c :: l=>match c with
  | .vs _ tg vs=>match tg,vs with
   | true,[]=>i :: zbm (i + 1) l
   | _,_=>zbm (i + 1) l
  | _=>zbm (i + 1) l
def zb2 : Nat→List AV→List Nat
 | _,[]=>[]
 | i,c :: l=>match c with
  | .vs _ tg _=>match tg with
   | true=>i :: zb2 (i + 1) l
   | false=>zb2 (i + 1) l
  | _=>zb2 (i + 1) l
def St.slot (S : St) (t : Nat) : Slot := nthS S.sl t
def St.put (S : St) (t : Nat) (s : Slot) : St := { S with sl := setS S.sl t s }
def St.putd (S : St) (dst : Option Nat) (s : Slot) : St := match dst with
 | some t=>S.put t s
 | Option.none=>S
def Slot.av : Slot→AV
 | .val v _=>v
 | _=>.undef
def St.ev (S : St) : Operand→AV
 | .tmp t=>(S.slot t).av
 | .const v=>zdj 0 v
 | .func f=>.func f []
 | .global _=>.undef
def Fl.unlent : Fl→Fl
 | .lS _=>.no
 | .lL _ _=>.no
 | .lH _ _=>.no
 | f=>f
def Slot.unlent : Slot→Slot
 | .val v f=>.val v f.unlent
 | s=>s
def St.unlent (S : St) : St := { S with sl := S.sl.map Slot.unlent }
def Slot.unlentH : Slot→Slot
 | .val v f=>match f with
  | .lH _ _=>.val v .no
  | f=>.val v f
 | s=>s
def St.unlentH (S : St) : St := { S with sl := S.sl.map Slot.unlentH }
def znw (i : Nat) : Slot→Slot
 | .mp d=>.mp d
 | .lp d off=>match Nat.beq d i,Nat.beq off 0 with
  | true,true=>.lp d 0
  | _,_=>.und
 | .val v f=>.val v f.unlent
 | .und=>.und
def zj3 : Nat→Nat→List Slot→List Slot
 | _,_,[]=>[]
 | m,i,s :: l=>match Nat.beq (m % 2) 1 with
  | true=>znw i s :: zj3 (m / 2) (i + 1) l
  | false=>.und :: zj3 (m / 2) (i + 1) l
def St.keep (S : St) (m : Nat) : St := { S with sl := zj3 m 0 S.sl }
def zax (d : Nat) : Slot→Slot
 | .lp e off=>match Nat.beq e d with
  | true=>.und
  | false=>.lp e off
 | .mp e=>match Nat.beq e d with
  | true=>.und
  | false=>.mp e
 | s=>s
def St.lit (S : St) (x : Operand) (b : Bool) : St := match x with
 | .tmp t=>S.put t (.val (.bool b) .no)
 | _=>S
def zc6 (S : St) (t : Nat) : Slot := match S.slot t with
 | .val v .own=>.val v (.lS t)
 | .val v (.comps _)=>.val v (.lS t)
 | .val v .ownS=>.val v .no
 | s=>s
def Slot.unS (d : Nat) : Slot→Slot
 | .val v (.lS q)=>match Nat.beq q d with
  | true=>.val v .no
  | false=>.val v (.lS q)
 | s=>s
def St.putown (S : St) (dst : Option Nat) (v : AV) (f : Fl) : St := match dst with
 | some d=>match f with
  | .no=>S.put d (.val v .no)
  | _=>({ S with sl := S.sl.map (Slot.unS d) } : St).put d (.val v f)
 | Option.none=>S
def zpb (P : Program) (ty : TypeId) (c : Value) : Slot := match c with
 | .slice none 0 0=>.val (zdp P ty (.slice none 0 0)) .own
 | c=>.val (zdp P ty c) .no
def zhm (P : Program) (o : Oper) (x : Operand) (S : St) (k : St→Option R) : Option R := match x with
 | .tmp t=>k (S.putd o.dst (zc6 S t))
 | .const c=>k (S.putd o.dst (.val (zdp P o.type c) .no))
 | .func f=>k (S.putd o.dst (.val (.func f []) .no))
 | .global _=>Option.none
def zii (r : Bool) (c : Value) (S : St) : St := match r with
 | true=>match c with
  | .slice none 0 0=>S.unlent
  | _=>S
 | false=>S.unlent
def zdk (P : Program) (isRes : Nat→Bool) (o : Oper) (x : Operand) (S : St) (k : St→Option R) : Option R := match o.dst with
 | Option.none=>Option.none
 | some d=>match x with
  | .const c=>k ((zii (isRes d) c S).put d (zpb P o.type c))
  | .func f=>k (S.unlent.put d (.val (.func f []) .no))
  | .global _=>Option.none
  | .tmp t=>match S.slot t with
   | .und=>k (S.unlent.put d .und)
   | .lp e off=>k (S.unlent.put d (.lp e off))
   | .mp e=>k (S.unlent.put d (.mp e))
   | .val v .own=>k (((S.put t (.val v .no)).unlent).put d (.val v .own))
   | .val v (.lS q)=>match isRes d with
    | false=>k (S.unlent.put d (.val v .no))
    | true=>match S.slot q with
     | .val u .own=>k (((S.put q (.val u .no)).unlent).put d (.val v .own))
     | _=>k (S.unlent.put d (.val v .no))
   | .val v _=>k (S.unlent.put d (.val v .no))
def zqj (A : Ann) (o : Oper) (cells : List AV) (free : List Nat) (S : St) (k : St→Option R) : Option R := match o.dst with
 | Option.none=>Option.none
 | some d=>match memN d A.esc with
  | true=>S.H.new? S.nx (k (({ S with H := S.H.set S.nx ⟨cells,zbm 0 cells⟩,nx := S.nx + 1 } : St).unlent.put d (.val (.ptr S.nx 0) .no)))
  | false=>match getM S.M d with
   | Option.none=>k (({ S with L := setL S.L d ⟨cells,free⟩,sl := S.sl.map (zax d) } : St).unlent.put d (.lp d 0))
   | some _=>Option.none
def AV.guard? (v : AV) (kb : Bool→Option R) (ks : Option R) : Option R := match v with
 | .bool b=>kb b
 | .tuple []=>ks
 | _=>Option.none
def zlw (P : Program) (o : Oper) (t : TypeId) (a : Operand) (S : St) (k : St→Option R) : Option R :=
 let get (cells : List AV) (off : Nat) (f : Fl) : Option R := zht P t fun ag=>match ag with
  | true=>br (Nat.ble (off + zaj P t) cells.length) (k (S.putd o.dst (.val (.agg ((cells.drop off).take (zaj P t))) .no))) Option.none
  | false=>(nth cells off).bind fun c=>k (S.putd o.dst (.val c f))
 match a with
 | .tmp ta=>match S.slot ta with
  | .lp d off=>(getL S.L d).bind fun b=>get b.cells off (match memN off b.free with
   | true=>.lL d off
   | false=>.no)
  | .val v _=>match v with
   | .ptr id off=>(S.H id).bind fun b=>get b.cells off (.lH id off)
   | .cptr cs=>get cs 0 .no
   | _=>Option.none
  | _=>Option.none
 | _=>Option.none
def zgh (S : St) (x : Operand) : Bool := match x with
 | .tmp t=>match S.slot t with
  | .val _ .own=>true
  | _=>false
 | .const c=>match c with
  | .slice none 0 0=>true
  | _=>false
 | _=>false
def ze3 (S : St) (x : Operand) : Bool := match x with
 | .tmp t=>match S.slot t with
  | .val _ .ownS=>true
  | _=>false
 | .const c=>match c with
  | .slice none 0 0=>true
  | _=>false
 | _=>false
def zb5 (S : St) (x : Operand) : St := match x with
 | .tmp t=>match S.slot t with
  | .val v .own=>S.put t (.val v .no)
  | .val v .ownS=>S.put t (.val v .no)
  | _=>S
 | _=>S
def evT (P : Program) (S : St) (t : TypeId) : Operand→AV
 | .const c=>zdp P t c
 | x=>S.ev x
def evsT (P : Program) (S : St) : List TypeId→List Operand→List AV
 | t :: ts,x :: l=>evT P S t x :: evsT P S ts l
 | [],x :: l=>S.ev x :: evsT P S [] l
 | _,[]=>[]
def isVs : AV→Bool
 | .vs _ _ _=>true
 | _=>false
def zfp (off n : Nat) (own : Bool) (free : List Nat) : List Nat := match own with
 | true=>insN off (cutN off (off + n) free)
 | false=>cutN off (off + n) free
def zns (P : Program) (t : TypeId) (a x : Operand) (S : St) (k : St→Option R) : Option R :=
 match Nat.beq (zaj P t) 0 with
 | true=>Option.none
 | false=>(evT P S t x).cells? fun cs =>
  br (Nat.beq cs.length (zaj P t)) (
   match a with
   | .tmp ta=>match S.slot ta with
    | .lp d off=>(getL S.L d).bind fun b=>br (Nat.ble (off + cs.length) b.cells.length)
      (k ({ (zb5 S x) with L := setL S.L d ⟨patch b.cells off cs,zfp off cs.length (zgh S x && isVs (evT P S t x)) b.free⟩ } : St).unlent) Option.none
    | .val v _=>match v with
     | .ptr id off=>(S.H id).bind fun b=>br (Nat.ble (off + cs.length) b.cells.length)
      (k ({ (zb5 S x) with H := S.H.set id ⟨patch b.cells off cs,zfp off cs.length (ze3 S x && isVs (evT P S t x)) b.free⟩ } : St).unlent) Option.none
     | _=>Option.none
    | _=>Option.none
   | _=>Option.none) Option.none
def shlZ (k : IntKind) (x y : Int) : Int := k.wrap (x * 2 ^ (min y.toNat k.bits))
def shrZ (k : IntKind) (x y : Int) : Int := x.fdiv (2 ^ (min y.toNat k.bits))
def zdn : IntKind→IntKind→Bool
 | .i8,.i8=>true
 | .i16,.i16=>true
 | .i32,.i32=>true
 | .i64,.i64=>true
 | .u8,.u8=>true
 | .u16,.u16=>true
 | .u32,.u32=>true
 | .u64,.u64=>true
 | _,_=>false
def eqS : List UInt8→List UInt8→Bool
 | [],[]=>true
 | a :: l,b :: m=>match Nat.beq a.toNat b.toNat with
  | true=>eqS l m
  | false=>false
 | _,_=>false
def zsy (op : BinOp) (i : IntKind) (a b : Int) (k : AV→Option R) : Option R := match op with
 | .add=>k (.int i (i.wrap (a + b)))
 | .sub=>k (.int i (i.wrap (a - b)))
 | .mul=>k (.int i (i.wrap (a * b)))
 | .quo=>br (decide (b = 0)) Option.none (k (.int i (i.wrap (a.tdiv b))))
 | .rem=>br (decide (b = 0)) Option.none (k (.int i (a.tmod b)))
 | .and=>k (.int i (bits .and i a b))
 | .or=>k (.int i (bits .or i a b))
 | .xor=>k (.int i (bits .xor i a b))
 | .andNot=>k (.int i (bits .andNot i a b))
 | .eql=>k (.bool (decide (a = b)))
 | .neq=>k (.bool (!decide (a = b)))
 | .lss=>k (.bool (decide (a < b)))
 | .leq=>k (.bool (decide (a ≤ b)))
 | .gtr=>k (.bool (decide (b < a)))
 | .geq=>k (.bool (decide (b ≤ a)))
 | _=>Option.none
def opStr (op : BinOp) (a b : List UInt8) (k : AV→Option R) : Option R := match op with
 | .add=>br (Nat.ble (a.length + b.length) 4611686018427387904) (k (.str (a ++ b))) Option.none
 | .eql=>k (.bool (eqS a b))
 | .neq=>k (.bool (!eqS a b))
 | .lss=>k (.bool (Op.bytesLess a b))
 | .leq=>k (.bool (Op.bytesLess a b || eqS a b))
 | .gtr=>k (.bool (!(Op.bytesLess a b || eqS a b)))
 | .geq=>k (.bool (!Op.bytesLess a b))
 | _=>Option.none
def isShift : BinOp→Bool
 | .shl=>true
 | .shr=>true
 | _=>false
def opBin (op : BinOp) (x y : AV) (k : AV→Option R) : Option R := match x with
 | .int i a=>y.int? fun j b=>match op with
  | .shl=>br (decide (b < 0)) Option.none (k (.int i (shlZ i a b)))
  | .shr=>br (decide (b < 0)) Option.none (k (.int i (shrZ i a b)))
  | _=>br (zdn i j) (zsy op i a b k) Option.none
 | .str a=>y.str? fun b=>opStr op a b k
 | _=>Option.none
def zjs : List Field→Bool
 | []=>true
 | f :: l=>match f.name == "_" with
  | true=>false
  | false=>zjs l
def eqlK (op : BinOp) (b : Bool) (k : AV→Option R) : Option R := match op with
 | .eql=>k (.bool b)
 | .neq=>k (.bool (!b))
 | _=>Option.none
def eq1 : AV→AV→(Bool→Option R)→Option R
 | .int i a,y,k=>y.int? fun j b=>br (zdn i j) (k (decide (a = b))) Option.none
 | .str a,y,k=>y.str? fun b=>k (eqS a b)
 | .bool a,y,k=>y.bool? fun b=>k (a == b)
 | _,_,_=>Option.none
def scal (P : Program) (t : TypeId) : AV→Bool
 | .int i _=>match P.underlying t with
  | some (.int j)=>zdn i j
  | _=>false
 | .str _=>match P.underlying t with
  | some .string=>true
  | _=>false
 | .bool _=>match P.underlying t with
  | some .bool=>true
  | _=>false
 | _=>false
def tComp (P : Program) (t : TypeId) : Bool := match P.info? t with
 | some i=>i.comparable
 | Option.none=>false
def zky (P : Program) (x y : AV) (k : Bool→Option R) : Option R := match x with
 | .iface t v=>match y with
  | .iface t' v'=>br (Nat.beq t t') (br (tComp P t && (scal P t v && scal P t v')) (eq1 v v' k) Option.none) (k false)
  | .nilI=>k false
  | _=>Option.none
 | .nilI=>match y with
  | .iface _ _=>k false
  | _=>Option.none
 | _=>Option.none
def eqFs (P : Program) (xs ys : List AV) : List Field→(Bool→Option R)→Option R
 | [],k=>k true
 | f :: fs,k=>(nth xs f.offset).bind fun a=>(nth ys f.offset).bind fun b=>br (scal P f.type a && scal P f.type b) (eq1 a b fun e=>match e with
  | true=>eqFs P xs ys fs k
  | false=>k false) Option.none
def zdu (P : Program) (op : BinOp) (t : TypeId) (xc yc : Bool) (x y : AV) (k : AV→Option R) : Option R := match x with
 | .iface _ _=>match P.underlying t with
  | some (.interface _)=>zky P x y fun b=>eqlK op b k
  | _=>Option.none
 | .nilI=>match P.underlying t with
  | some (.interface _)=>match y with
   | .nilI=>br (xc || yc) (eqlK op true k) Option.none
   | _=>zky P x y fun b=>eqlK op b k
  | _=>Option.none
 | .agg xs=>y.agg? fun ys=>match zf2 P t with
  | some fs=>br (!P.eqGuardType P.depth t && (!P.stoodInHeld t && zjs fs)) (eqFs P xs ys fs fun b=>eqlK op b k) Option.none
  | Option.none=>Option.none
 | .bool a=>y.bool? fun b=>match P.underlying t with
  | some .bool=>match op with
   | .eql=>k (.bool (a == b))
   | .neq=>k (.bool (!(a == b)))
   | _=>Option.none
  | _=>Option.none
 | .nilp=>match y with
  | .nilp=>match P.underlying t with
   | some (.pointer _)=>match op with
    | .eql=>k (.bool true)
    | .neq=>k (.bool false)
    | _=>Option.none
   | _=>Option.none
  | _=>Option.none
 | .ptr _ _=>match y with
  | .nilp=>match P.underlying t with
   | some (.pointer _)=>match op with
    | .eql=>k (.bool false)
    | .neq=>k (.bool true)
    | _=>Option.none
   | _=>Option.none
  | _=>Option.none
 | _=>opBin op x y k
def zey : Operand→Bool
 | .const _=>true
 | _=>false
def opUn (op : UnOp) (x : AV) (k : AV→Option R) : Option R := match op with
 | .neg=>x.int? fun i n=>k (.int i (i.wrap (0 - n)))
 | .xor=>x.int? fun i n=>k (.int i (bits .xor i (if i.signed then -1 else i.max) n))
 | .not=>x.bool? fun b=>k (.bool !b)
 | _=>Option.none
def zbq (b : UInt8) : AV := .int .u8 (b.toNat : Int)
def zbz : List AV→Option (List UInt8)
 | []=>some []
 | .int k n :: l=>match k with
  | .u8=>(zbz l).bind fun r=>some (UInt8.ofNat n.toNat :: r)
  | _=>Option.none
 | _ :: _=>Option.none
def zby (ag : Bool) (sz : Nat) (v : AV) (S : St) (k : List AV→Option R) : Option R := match v with
 | .vs z _ l=>match Nat.beq z sz with
  | true=>k l
  | false=>match l with
   | []=>k []
   | _ :: _=>Option.none
 | .arr id off len z=>match ag,Nat.beq z sz,Nat.beq sz 1 with
  | false,true,true=>(S.H id).bind fun b=>br (Nat.ble (off + len) b.cells.length) (k ((b.cells.drop off).take len)) Option.none
  | _,_,_=>Option.none
 | .str s=>match Nat.beq sz 1 with
  | true=>k (s.map zbq)
  | false=>Option.none
 | _=>Option.none
def zar (P : Program) (o : Oper) (src dst : TypeId) (x : AV) (S : St) (k : St→Option R) : Option R :=
 match P.underlying src,P.underlying dst with
 | some (.int _),some (.int j)=>x.int? fun _ n=>k (S.putd o.dst (.val (.int j (j.wrap n)) .no))
 | some .string,some .string=>x.str? fun s=>k (S.putd o.dst (.val (.str s) .no))
 | some .string,some (.slice e)=>x.str? fun s=>match P.underlying e with
  | some (.int .u8)=>match Nat.beq (zaj P e) 1 with
   | true=>k (S.putd o.dst (.val (.vs 1 false (s.map zbq)) .no))
   | false=>Option.none
  | _=>Option.none
 | some (.slice e),some .string=>match P.underlying e with
  | some (.int .u8)=>match x with
   | .str _=>Option.none
   | y=>zby false 1 y S fun l=>(zbz l).bind fun s=>k (S.putd o.dst (.val (.str s) .no))
  | _=>Option.none
 | _,_=>Option.none
def AV.bound? (v : AV) (y : Nat) (k : Nat→Option R) : Option R :=
 v.int? fun _ i=>br (decide (0 ≤ i)) (br (decide (i ≤ (y : Int))) (k i.toNat) Option.none) Option.none
def zbu (S : St) (len : Nat) (lo hi : Option Operand) (k : Nat→Nat→Option R) : Option R :=
 let low (h : Nat) : Option R := match lo with
  | some x=>(S.ev x).bound? h fun l=>k l h
  | Option.none=>k 0 h
 match hi with
 | some x=>(S.ev x).bound? len low
 | Option.none=>low len
def zh1 (P : Program) (t : TypeId) (x : Operand) (lo hi mx : Option Operand) (S : St) (k : AV→Option R) : Option R :=
 match P.underlying t with
 | some .string=>match mx with
  | some _=>Option.none
  | Option.none=>(S.ev x).str? fun s=>zbu S s.length lo hi fun l h=>k (.str ((s.take h).drop l))
 | some (.slice e)=>match Nat.beq (zaj P e) 0 with
  | true=>Option.none
  | false=>match S.ev x with
   | .vs z tg v=>match Nat.beq z (zaj P e) with
    | false=>Option.none
    | true=>match mx with
     | Option.none=>zbu S v.length lo hi fun l h=>k (.vs z (match hi with
      | some _=>false
      | Option.none=>tg) ((v.take h).drop l))
     | some m=>match hi with
      | Option.none=>Option.none
      | some _=>zbu S v.length lo hi fun l h=>(S.ev m).int? fun _ j=>br (decide (j = (h : Int))) (k (.vs z true ((v.take h).drop l))) Option.none
   | .arr id off len z=>match Nat.beq z (zaj P e) with
    | false=>Option.none
    | true=>match mx with
     | Option.none=>zbu S len lo hi fun l h=>br (Nat.blt l h) (k (.arr id (off + l * z) (h - l) z)) (k (.vs z false []))
     | some m=>match hi with
      | Option.none=>Option.none
      | some _=>zbu S len lo hi fun l h=>(S.ev m).int? fun _ j=>br (decide (j = (h : Int))) (br (Nat.blt l h) (k (.arr id (off + l * z) (h - l) z)) (k (.vs z true []))) Option.none
   | _=>Option.none
 | _=>Option.none
def zl0 (P : Program) (o : Oper) (t : TypeId) (x : Operand) (lo hi mx : Option Operand) (S : St) (k : St→Option R) : Option R :=
 zh1 P t x lo hi mx S fun v=>k (S.putd o.dst (.val v .no))
def zdr (P : Program) (o : Oper) (t : TypeId) (x : Operand) (fi : Nat) (S : St) (k : St→Option R) : Option R :=
 match zf2 P t with
 | Option.none=>Option.none
 | some fs=>match fs[fi]? with
  | Option.none=>Option.none
  | some f=>match Nat.beq (zaj P f.type) 0 with
   | true=>Option.none
   | false=>match x with
    | .tmp tx=>match S.slot tx with
     | .lp d off=>k (S.putd o.dst (.lp d (off + f.offset)))
     | .val v _=>match v with
      | .ptr id off=>k (S.putd o.dst (.val (.ptr id (off + f.offset)) .no))
      | .cptr cs=>k (S.putd o.dst (.val (.cptr (cs.drop f.offset)) .no))
      | _=>Option.none
     | _=>Option.none
    | _=>Option.none
def zh4 (ag : Bool) (sz : Nat) (cs : List AV) (off : Nat) (k : AV→Option R) : Option R := match ag with
 | true=>br (Nat.ble (off + sz) cs.length) (k (.agg ((cs.drop off).take sz))) Option.none
 | false=>(nth cs off).bind k
def zkw (P : Program) (t : TypeId) (x : AV) (fi : Nat) (k : AV→Option R) : Option R :=
 match zf2 P t with
 | Option.none=>Option.none
 | some fs=>match fs[fi]? with
  | Option.none=>Option.none
  | some f=>x.agg? fun cs=>zht P f.type fun ag=>zh4 ag (zaj P f.type) cs f.offset k
def zdw (P : Program) (o : Oper) (t : TypeId) (x ix : Operand) (S : St) (k : St→Option R) : Option R :=
  (S.ev ix).int? fun _ i=>match P.underlying t with
    | some (.slice e)=>match Nat.beq (zaj P e) 0 with
     | true=>Option.none
     | false=>match S.ev x with
      | .vs z _ l=>match Nat.beq z (zaj P e) with
        | true=>br (decide (0 ≤ i)) (br (decide (i < (l.length : Int))) ((nth l i.toNat).bind fun c=>k (S.putd o.dst (.val (.cptr c.cells) .no))) Option.none) Option.none
        | false=>Option.none
      | .arr id off len z=>match Nat.beq z (zaj P e) with
        | true=>br (decide (0 ≤ i)) (br (decide (i < (len : Int))) (k (S.putd o.dst (.val (.ptr id (off + i.toNat * z)) .no))) Option.none) Option.none
        | false=>Option.none
      | _=>Option.none
    | some (.array len e)=>match x with
      | .tmp tx=>match Nat.beq (zaj P e) 0 with
        | true=>Option.none
        | false=>match S.slot tx with
          | .lp d off=>br (decide (0 ≤ i)) (br (decide (i < (len : Int))) (k (S.putd o.dst (.lp d (off + i.toNat * zaj P e)))) Option.none) Option.none
          | .val v _=>match v with
            | .ptr id off=>br (decide (0 ≤ i)) (br (decide (i < (len : Int))) (k (S.putd o.dst (.val (.ptr id (off + i.toNat * zaj P e)) .no))) Option.none) Option.none
            | _=>Option.none
          | _=>Option.none
      | _=>Option.none
    | _=>Option.none
def znx (P : Program) (t : TypeId) (x ix : AV) (k : AV→Option R) : Option R :=
 ix.int? fun _ i=>match P.underlying t with
  | some .string=>x.str? fun s=>br (decide (0 ≤ i)) ((s[i.toNat]?).bind fun b=>k (zbq b)) Option.none
  | some (.array len e)=>x.agg? fun cs=>br (decide (0 ≤ i)) (br (decide (i < (len : Int))) (zht P e fun ag=>zh4 ag (zaj P e) cs (i.toNat * zaj P e) k) Option.none) Option.none
  | _=>Option.none
def zor (place : Nat→Option (Nat × Nat)) : List AV→List (Nat × AV)→(List AV→Option R)→Option R
 | cells,[],k=>k cells
 | cells,(i,v) :: rest,k=>match place i with
  | Option.none=>Option.none
  | some (off,size)=>v.cells? fun cs=>br (Nat.beq cs.length size) (br (Nat.ble (off + cs.length) cells.length) (zor place (patch cells off cs) rest k) Option.none) Option.none
def zd3 (P : Program) (S : St) (ty : Nat→TypeId) : List (Nat × Operand)→List (Nat × AV)
 | []=>[]
 | (i,x) :: l=>(i,evT P S (ty i) x) :: zd3 P S ty l
def zg2 (P : Program) : List Field→Option (List (Nat × Nat))
 | []=>some []
 | f :: l=>match P.info? f.type with
  | some i=>(zg2 P l).bind fun r=>some ((f.offset,i.size) :: r)
  | Option.none=>Option.none
def nthP : List (Nat × Nat)→Nat→Option (Nat × Nat)
 | [],_=>Option.none
 | s :: _,0=>some s
 | _ :: l,n + 1=>nthP l n
def zi9 (P : Program) (t : TypeId) (parts : List (Nat × Operand)) (S : St) (k : AV→Option R) : Option R :=
 match zeroCells P t with
 | Option.none=>Option.none
 | some z=>match P.underlying t with
  | some (.struct fs)=>match zg2 P fs.toList with
   | some pl=>zor (nthP pl) z (zd3 P S (fun i=>match fs.toList[i]? with
    | some f=>f.type
    | Option.none=>0) parts) fun cs=>k (.agg cs)
   | Option.none=>Option.none
  | some (.array _ e)=>match P.info? e with
   | some ie=>zor (fun i=>some (i * ie.size,ie.size)) z (zd3 P S (fun _=>e) parts) fun cs=>k (.agg cs)
   | Option.none=>Option.none
  | _=>Option.none
def zdi (ag : Bool) (n : Nat) : Nat→List AV→List AV
 | 0,_=>[]
 | k + 1,cs=>pack ag (cs.take n) :: zdi ag n k (cs.drop n)
def zi0 (z : List AV) : Nat→List AV
 | 0=>[]
 | n + 1=>z ++ zi0 z n
def zck (P : Program) (t : TypeId) (len : Nat) (parts : List (Nat × Operand)) (S : St) (k : AV→Option R) : Option R :=
 match zj7 P t with
 | Option.none=>Option.none
 | some e=>match zeroCells P e with
  | Option.none=>Option.none
  | some z=>match Nat.beq (zaj P e) 0,Nat.ble (len * zaj P e) 16777216,Nat.beq z.length (zaj P e),(tAgg P e || Nat.beq (zaj P e) 1) with
   | false,true,true,true=>zor (fun i=>some (i * zaj P e,zaj P e)) (zi0 z len) (zd3 P S (fun _=>e) parts) fun cs=>k (.vs (zaj P e) true (zdi (tAgg P e) (zaj P e) len cs))
   | _,_,_,_=>Option.none
def zw9 (P : Program) (t : TypeId) (n c : Operand) (S : St) (k : AV→Option R) : Option R :=
 match zj7 P t with
 | Option.none=>Option.none
 | some e=>match zeroCells P e with
  | Option.none=>Option.none
  | some z=>match Nat.beq (zaj P e) 0,Nat.beq z.length (zaj P e),(tAgg P e || Nat.beq (zaj P e) 1) with
   | false,true,true=>(S.ev n).int? fun _ len=>(S.ev c).int? fun _ cap =>
    br (decide (0 ≤ len)) (br (decide (len = cap)) (br (decide (len * (zcu P e : Int) ≤ 281474976710656)) (br (decide (len ≤ 281474976710656))
     (k (.vs (zaj P e) true (zdi (tAgg P e) (zaj P e) len.toNat (zi0 z len.toNat)))) Option.none) Option.none) Option.none) Option.none
   | _,_,_=>Option.none
def zs5 (P : Program) (t : TypeId) : Bool := match zj7 P t with
 | some e=>match zeroCells P e with
  | some z=>Nat.beq z.length (zaj P e)
  | Option.none=>false
 | Option.none=>false
def za5 : Nat := 140737488355328
def zms (P : Program) (t : TypeId) : Bool := match P.underlying t with
 | some (.slice _)=>true
 | some .string=>true
 | _=>false
def zd6 (P : Program) (o : Oper) (st st2 : TypeId) (a b : Operand) (S : St) (k : St→Option R) : Option R :=
 match zj7 P st,zs5 P st with
 | some e,true=>match Nat.beq (zaj P e) 0,zms P st2 with
  | false,true=>zby (tAgg P e) (zaj P e) (evT P S st b) S fun l2 =>
   let fin (l : List AV) (S1 : St) (fl : Fl) : Option R := br (Nat.ble ((l.length + l2.length) * zcu P e) za5) (br (Nat.ble (l.length + l2.length) za5) (match o.dst with
    | some _=>k (S1.unlent.putown o.dst (.vs (zaj P e) false (l ++ l2)) fl)
    | Option.none=>Option.none) Option.none) Option.none
   (evT P S st a).vs? fun z tg l=>match Nat.beq z (zaj P e) with
    | false=>Option.none
    | true=>match a with
     | .const _=>fin l S .own
     | .tmp t=>match S.slot t with
      | .val v .own=>fin l (S.put t (.val v .no)) .own
      | .val _ (.lS q)=>match S.slot q with
       | .val u .own=>fin l (S.put q (.val u .no)) .own
       | _=>br tg (fin l S .own) Option.none
      | .val _ (.lL d off)=>(getL S.L d).bind fun bl=>match memN off bl.free with
       | true=>fin l { S with L := setL S.L d ⟨bl.cells,delN off bl.free⟩ } .own
       | false=>br tg (fin l S .own) Option.none
      | .val _ (.lH id off)=>(S.H id).bind fun bl=>match memN off bl.free with
       | true=>fin l { S with H := S.H.set id ⟨bl.cells,delN off bl.free⟩ } .ownS
       | false=>br tg (fin l S .own) Option.none
      | _=>br tg (fin l S .own) Option.none
     | _=>Option.none
  | _,_=>Option.none
 | _,_=>Option.none
def lenOf (P : Program) (t : TypeId) (v : AV) (k : Nat→Option R) : Option R := match P.underlying t with
 | some .string=>v.str? fun s=>k s.length
 | some (.slice _)=>match v with
  | .vs _ _ l=>k l.length
  | .arr _ _ len _=>k len
  | _=>Option.none
 | some (.array n _)=>k n
 | _=>Option.none
def zh0 (isMax : Bool) (P : Program) (S : St) : AV→List Operand→(AV→Option R)→Option R
 | x,[],k=>k x
 | x,y :: l,k=>x.int? fun i a=>(S.ev y).int? fun _ b=>zh0 isMax P S (.int i (match isMax with
  | true=>if a < b then b else a
  | false=>if b < a then b else a)) l k
abbrev Oracle := Nat→List AV→Hp→Nat→Option Out
def getA : List (Nat × Ann)→Nat→Ann
 | [],_=>⟨[],false,[],[],[],[],false,Option.none⟩
 | (f,a) :: l,n=>match Nat.beq n f with
  | true=>a
  | false=>getA l n
def zl6 (one : Bool) (rf : List Nat) : Fl := match one with
 | true=>match memN 0 rf with
  | true=>.own
  | false=>.no
 | false=>match rf with
  | []=>.no
  | l=>.comps l
def zf4 (P : Program) (f : Nat) : Bool := match P.funcs[f]? with
 | some fn=>Nat.beq fn.results.size 1
 | Option.none=>false
def zke (P : Program) (A : List (Nat × Ann)) (cal : Oracle) (o : Oper) (fo : Operand) (tys : List TypeId) (args : List Operand) (S : St) (k : St→Option R) : Option R :=
 (S.ev fo).func? fun f caps=>match (getA A f).imp with
  | true=>(cal f (evsT P S tys args ++ caps) S.H S.nx).bind fun r =>
    k (({ S with H := r.H,nx := r.nx } : St).unlentH.putown o.dst r.v (zl6 (zf4 P f) (getA A f).rf))
  | false=>br (za3 (evsT P S tys args ++ caps)) ((cal f (evsT P S tys args ++ caps) Hp.none 0).bind fun r =>
    br r.v.pure (k (S.putown o.dst r.v (zl6 (zf4 P f) (getA A f).rf))) Option.none) Option.none
def zbv (P : Program) (b : Builtin) (o : Oper) (tys : List TypeId) (args : List Operand) (S : St) (k : St→Option R) : Option R :=
 match b with
 | .len=>match tys,args with
  | [t],[x]=>lenOf P t (evT P S t x) fun n=>k (S.putd o.dst (.val (.int .i64 (n : Int)) .no))
  | _,_=>Option.none
 | .append=>match tys,args with
  | [t,t2],[a,b]=>zd6 P o t t2 a b S k
  | _,_=>Option.none
 | .min=>match args with
  | x :: l=>zh0 false P S (S.ev x) l fun v=>k (S.putd o.dst (.val v .no))
  | _=>Option.none
 | .max=>match args with
  | x :: l=>zh0 true P S (S.ev x) l fun v=>k (S.putd o.dst (.val v .no))
  | _=>Option.none
 | _=>Option.none
def zdt (o : Oper) (x : Operand) (i : Nat) (S : St) (k : St→Option R) : Option R := match x with
 | .tmp t=>match S.slot t with
  | .val v f=>v.tup? fun l=>(nth l i).bind fun c=>match f with
   | .comps cs=>match memN i cs with
    | true=>k ((S.put t (.val v (.comps (delN i cs)))).putown o.dst c .own)
    | false=>k (S.putd o.dst (.val c .no))
   | .lS q=>match S.slot q with
    | .val u fu=>match fu with
     | .comps cs=>match memN i cs with
      | true=>k ((S.put q (.val u (.comps (delN i cs)))).putown o.dst c .own)
      | false=>k (S.putd o.dst (.val c .no))
     | _=>k (S.putd o.dst (.val c .no))
    | _=>k (S.putd o.dst (.val c .no))
   | _=>k (S.putd o.dst (.val c .no))
  | _=>Option.none
 | _=>Option.none
def zb6 (o : Oper) (x : Operand) (S : St) (k : St→Option R) : Option R := match x with
 | .tmp t=>match S.slot t with
  | .lp d off=>k (S.putd o.dst (.lp d off))
  | .val v _=>match v with
   | .ptr id off=>k (S.putd o.dst (.val (.ptr id off) .no))
   | .cptr cs=>k (S.putd o.dst (.val (.cptr cs) .no))
   | .func f []=>k (S.putd o.dst (.val (.func f []) .no))
   | _=>Option.none
  | _=>Option.none
 | .func f=>k (S.putd o.dst (.val (.func f []) .no))
 | _=>Option.none
def zot (o : Oper) (c a b : Operand) (S : St) (k : St→Option R) : Option R :=
 (S.ev c).bool? fun t=>br t (k (S.putd o.dst (.val (S.ev a) .no))) (k (S.putd o.dst (.val (S.ev b) .no)))
def zgk (A : List (Nat × Ann)) (g : Nat) : Option (List AV) := getG (getA A 1000000).gl g
def zi2 (P : Program) (A : List (Nat × Ann)) (o : Oper) (t : TypeId) (a : Operand) (S : St) (k : St→Option R) : Option R := match a with
 | .global g=>(zgk A g).bind fun cs=>zht P t fun ag=>zh4 ag (zaj P t) cs 0 fun v=>k (S.putd o.dst (.val v .no))
 | a=>zlw P o t a S k
def idxG (P : Program) (t : TypeId) (cs : List AV) (i : Int) (k : AV→Option R) : Option R := match P.underlying t with
 | some (.array len e)=>match Nat.beq (zaj P e) 0 with
  | true=>Option.none
  | false=>br (decide (0 ≤ i)) (br (decide (i < (len : Int))) (br (Nat.ble (i.toNat * zaj P e) cs.length) (k (.cptr (cs.drop (i.toNat * zaj P e)))) Option.none) Option.none) Option.none
 | _=>Option.none
def zdb (P : Program) (A : List (Nat × Ann)) (o : Oper) (t : TypeId) (x ix : Operand) (S : St) (k : St→Option R) : Option R := match x with
 | .global g=>(zgk A g).bind fun cs=>(S.ev ix).int? fun _ i=>idxG P t cs i fun v=>k (S.putd o.dst (.val v .no))
 | x=>zdw P o t x ix S k
def zkz (P : Program) (t : TypeId) (v : AV) (k : AV→Option R) : Option R := match P.underlying t with
 | some (.interface _)=>Option.none
 | some _=>k (.iface t v)
 | Option.none=>Option.none
def zk1 (P : Program) (o : Oper) (_t : TypeId) (S : St) (k : St→Option R) : Option R := match o.dst with
 | some d=>match getL S.L d with
  | Option.none=>k (({ S with M := setM S.M d [],sl := S.sl.map (zax d) } : St).unlent.put d (.mp d))
  | some _=>Option.none
 | Option.none=>Option.none
def zdl (key : AV) : List (AV × AV)→(Option AV→Option R)→Option R
 | [],k=>k Option.none
 | (a,v) :: l,k=>eq1 key a fun e=>match e with
  | true=>k (some v)
  | false=>zdl key l k
def mIns (key v : AV) : List (AV × AV)→List (AV × AV)
 | []=>[(key,v)]
 | (a,u) :: l=>match (eq1 key a fun e=>match e with
   | true=>some ()
   | false=>Option.none) with
  | some _=>(key,v) :: l
  | Option.none=>(a,u) :: mIns key v l
def zdv (P : Program) (t : TypeId) : List (AV × AV)→Bool
 | []=>true
 | (a,_) :: l=>match scal P t a with
  | true=>zdv P t l
  | false=>false
def zei (P : Program) (t : TypeId) (m key v : Operand) (S : St) (k : St→Option R) : Option R := match P.underlying t with
 | some (.map kt et)=>match m with
  | .tmp tm=>match S.slot tm with
   | .mp d=>(getM S.M d).bind fun l=>br (scal P kt (evT P S kt key) && zdv P kt l) (zdl (evT P S kt key) l fun _ =>
     k ({ S with M := setM S.M d (mIns (evT P S kt key) (evT P S et v) l) } : St)) Option.none
   | _=>Option.none
  | _=>Option.none
 | _=>Option.none
def zw4 (P : Program) (t : TypeId) (k : AV→Option R) : Option R := match P.info? t with
 | some i=>match i.zero with
  | some z=>k (zdp P t z)
  | Option.none=>Option.none
 | Option.none=>Option.none
def zq6 (o : Oper) (ok : Bool) (S : St) (v : AV) (b : Bool) (k : St→Option R) : Option R := match ok with
 | true=>k (S.putd o.dst (.val (.tuple [v,.bool b]) .no))
 | false=>k (S.putd o.dst (.val v .no))
def znc (P : Program) (o : Oper) (t : TypeId) (x ix : Operand) (ok : Bool) (S : St) (k : St→Option R) : Option R := match P.underlying t with
 | some (.map kt et)=>match x with
  | .tmp tm=>match S.slot tm with
   | .mp d=>(getM S.M d).bind fun l=>br (scal P kt (evT P S kt ix) && zdv P kt l) (zdl (evT P S kt ix) l fun r =>
match r with
     | some v=>zq6 o ok S v true k
     | Option.none=>zw4 P et fun z=>zq6 o ok S z false k) Option.none
   | _=>Option.none
  | _=>Option.none
 | _=>Option.none
def znm (an : Ann) (o : Oper) (cs : List AV) : List Nat := match an.dbx with
 | true=>match o.dst with
  | some d=>match memN d an.esc with
   | true=>zb2 0 cs
   | false=>[]
  | Option.none=>[]
 | false=>zb2 0 cs
def zaq (P : Program) (A : List (Nat × Ann)) (an : Ann) (isRes : Nat→Bool) (cal : Oracle) (o : Oper) (S : St) (k : St→Option R) : Option R :=
 match o.op with
 | .move x=>zhm P o x S k
 | .assign x=>zdk P isRes o x S k
 | .pick c a b=>zot o c a b S k
 | .alloc e=>match zeroCells P e with
  | some z=>zqj an o z (zb2 0 z) S k
  | Option.none=>Option.none
 | .box e x=>(evT P S e x).cells? fun cs=>zqj an o cs (znm an o cs) S k
 | .build t parts=>zi9 P t parts.toList S fun v=>k (S.putd o.dst (.val v .no))
 | .buildSlice t len parts=>zck P t len parts.toList S fun v=>k (S.putd o.dst (.val v .no))
 | .makeSlice t n c=>zw9 P t n c S fun v=>k (S.putd o.dst (.val v .no))
 | .load t a=>zi2 P A o t a S k
 | .store t a x=>match o.dst with
  | Option.none=>zns P t a x S k
  | some _=>Option.none
 | .nilCheck x=>zb6 o x S k
 | .binOp op t x y _=>zdu P op t (zey x) (zey y) (S.ev x) (S.ev y) fun v=>k (S.putd o.dst (.val v .no))
 | .makeInterface t x=>zkz P t (evT P S t x) fun v=>k (S.putd o.dst (.val v .no))
 | .makeMap t r=>match r with
  | Option.none=>zk1 P o t S k
  | some _=>Option.none
 | .insert t m key v=>match o.dst with
  | Option.none=>zei P t m key v S k
  | some _=>Option.none
 | .mapUpdate t m key v=>match o.dst with
  | Option.none=>zei P t m key v S k
  | some _=>Option.none
 | .lookup t x i ok=>znc P o t x i ok S k
 | .unOp op _ x=>opUn op (S.ev x) fun v=>k (S.putd o.dst (.val v .no))
 | .convert s d x=>zar P o s d (evT P S s x) S k
 | .slice t x lo hi mx=>zl0 P o t x lo hi mx S k
 | .fieldAddr t x f=>zdr P o t x f S k
 | .field t x f=>zkw P t (S.ev x) f fun v=>k (S.putd o.dst (.val v .no))
 | .indexAddr t x i=>zdb P A o t x i S k
 | .index t x i=>znx P t (S.ev x) (S.ev i) fun v=>k (S.putd o.dst (.val v .no))
 | .extract x i=>zdt o x i S k
 | .call c=>match c.callee with
  | .builtin b=>zbv P b o c.argTypes.toList c.args.toList S k
  | .value f=>zke P A cal o f c.argTypes.toList c.args.toList S k
  | .invoke _ _=>Option.none
 | _=>Option.none
def zdd : List Oper→Nat→Option Nat
 | [],_=>Option.none
 | o :: _,0=>o.dst
 | _ :: l,n + 1=>zdd l n
def zkl : List Operand→Option (List Nat)
 | []=>some []
 | x :: l=>match x with
  | .func f=>match zkl l with
   | some r=>some (f :: r)
   | Option.none=>Option.none
  | _=>Option.none
structure zr8 where
 f : Nat
 b : Bool
 F : List Nat→List AV→Option (Nat × List AV)
 t : Nat
 gs : List Nat
def zr0 (A : List (Nat × Ann)) (an : Ann) (o : Oper) : Option zr8 := match an.imp with
 | true=>Option.none
 | false=>match o.op with
  | .call c=>match c.callee with
   | .value fo=>match fo with
    | .func f=>match (getA A f).oc with
     | some p=>match c.args.toList with
      | x :: l=>match x with
       | .tmp t=>match zkl l with
        | some gs=>some ⟨f,p.1,p.2,t,gs⟩
        | Option.none=>Option.none
       | _=>Option.none
      | []=>Option.none
     | Option.none=>Option.none
    | _=>Option.none
   | _=>Option.none
  | _=>Option.none
def intsC : List AV→Bool
 | []=>true
 | .int _ _ :: l=>intsC l
 | _=>false
def zc1 (sz : Nat) : List AV→Bool
 | []=>true
 | x :: l=>match Nat.beq x.cells.length sz && intsC x.cells with
  | true=>zc1 sz l
  | false=>false
def Slot.flatS : Slot→Slot
 | .val v _=>match v with
  | .int i n=>.val (.int i n) .no
  | .bool b=>.val (.bool b) .no
  | .str s=>.val (.str s) .no
  | .ptr i off=>.val (.ptr i off) .no
  | _=>.und
 | _=>.und
def opOwn (c : zr8) (o : Oper) (S : St) (k : St→Option R) : Option R := match S.slot c.t with
 | .val v fl=>match v with
  | .vs sz _ l=>match fl with
   | .lH id off=>match S.H with
    | [(i,b)]=>match b.cells with
     | [_]=>br (Nat.beq i id && (Nat.beq off 0 && (memN 0 b.free && (Nat.blt 0 sz && zc1 sz l)))) ((c.F c.gs l).bind fun p =>
       br (zc1 sz p.2 && (Nat.beq p.2.length l.length && Nat.ble p.1 l.length)) (k (({ sl := S.sl.map Slot.flatS,L := [],H := ([(i,⟨[.vs sz false p.2],[0]⟩)] : List (Nat × Blk)),nx := S.nx,M := [] } : St).putd o.dst (.val (match c.b with
        | true=>.vs sz false (p.2.take p.1)
        | false=>.tuple []) .no))) Option.none) Option.none
     | _=>Option.none
    | _=>Option.none
   | _=>Option.none
  | _=>Option.none
 | _=>Option.none
def zcy (P : Program) (A : List (Nat × Ann)) (an : Ann) (isRes : Nat→Bool) (cal : Oracle) (all : List Oper) : List Oper→St→(St→Option R)→Option R
 | [],S,k=>k S
 | o :: os,S,k=>match o.guard with
  | Option.none=>match zr0 A an o with
   | some c=>opOwn c o S fun S'=>zcy P A an isRes cal all os S' k
   | Option.none=>zaq P A an isRes cal o S fun S'=>zcy P A an isRes cal all os S' k
  | some (j,want)=>match zdd all j with
   | Option.none=>Option.none
   | some d=>(S.slot d).av.guard? (fun b=>br b
     (match want with
      | true=>zaq P A an isRes cal o (S.put d (.val (.bool true) .no)) fun S'=>zcy P A an isRes cal all os S' k
      | false=>zcy P A an isRes cal all os ((S.put d (.val (.bool true) .no)).putd o.dst (.val (.tuple []) .no)) k)
     (match want with
      | false=>zaq P A an isRes cal o (S.put d (.val (.bool false) .no)) fun S'=>zcy P A an isRes cal all os S' k
      | true=>zcy P A an isRes cal all os ((S.put d (.val (.bool false) .no)).putd o.dst (.val (.tuple []) .no)) k))
    (zcy P A an isRes cal all os (S.putd o.dst (.val (.tuple []) .no)) k)
def zkb (l : List Nat) : Nat→List Slot→List Slot
 | _,[]=>[]
 | i,s :: r=>(match memN i l with
  | true=>match s with
   | .val v _=>.val v .no
   | _=>.und
  | false=>.und) :: zkb l (i + 1) r
def St.mask (S : St) (l : List Nat) : St := ⟨zkb l 0 S.sl,[],Hp.none,0,[]⟩
def clOf (A : List (Nat × Ann)) (eb : Bool) (o : Oper) : Nat := match o.op with
 | .move x=>match x with
  | .tmp _=>0
  | _=>1
 | .pick _ _ _=>1
 | .binOp _ _ _ _ _=>1
 | .unOp _ _ _=>1
 | .makeInterface _ _=>1
 | .convert _ _ _=>1
 | .slice _ _ _ _ _=>1
 | .field _ _ _=>1
 | .fieldAddr _ _ _=>1
 | .nilCheck _=>1
 | .index _ _ _=>1
 | .indexAddr _ _ _=>1
 | .load _ _=>1
 | .build _ _=>1
 | .buildSlice _ _ _=>1
 | .extract _ _=>match eb with
  | true=>3
  | false=>2
 | .assign _=>3
 | .alloc _=>match o.guard with
  | Option.none=>6
  | some _=>5
 | .store _ _ _=>7
 | .call c=>match c.callee with
  | .builtin b=>match b with
   | .len=>1
   | .min=>1
   | .max=>1
   | .append=>match eb with
    | true=>2
    | false=>match c.args.toList with
     | .const _ :: _=>2
     | _=>3
   | _=>5
  | .value f=>match f with
   | .func g=>match (getA A g).imp with
    | true=>3
    | false=>match (getA A g).rf with
     | []=>2
     | _ :: _=>3
   | _=>5
  | _=>5
 | _=>5
def zbb (c : Nat) : Bool := Nat.blt c 3
def zmt (T : List Nat) : List Edge→Nat
 | []=>0
 | e :: l=>match Region.binds .any e with
  | true=>Nat.lor (Nat.lor (2 ^ e.on) (nthN T e.on)) (zmt T l)
  | false=>zmt T l
def zb9 : List Oper→List Nat→List Nat
 | [],T=>T
 | o :: l,T=>zb9 l (T ++ [zmt T o.after.toList])
structure OI where
 cl : Nat
 lk : List Nat
 ds : List Nat
 pre : Nat
 wb : List Nat
 hr : Bool
 nh : Bool
 kc : Bool
def defOf : List Oper→Nat→Option Operand
 | [],_=>Option.none
 | o :: l,t=>match o.dst with
  | some d=>match Nat.beq d t with
   | true=>match o.op with
    | .fieldAddr _ x _=>some x
    | .nilCheck x=>some x
    | .move x=>some x
    | .indexAddr _ x _=>some x
    | _=>Option.none
   | false=>defOf l t
  | Option.none=>defOf l t
def baseOf (all : List Oper) : Nat→Nat→Nat
 | 0,t=>t
 | n + 1,t=>match defOf all t with
  | some x=>match x with
   | .tmp s=>baseOf all n s
   | _=>t
  | Option.none=>t
def zno : List Oper→Nat→Bool
 | [],_=>false
 | o :: l,t=>match o.dst with
  | some d=>match Nat.beq d t with
   | true=>match o.op with
    | .buildSlice _ n _=>Nat.beq n 0
    | _=>false
   | false=>zno l t
  | Option.none=>zno l t
def defO : List Oper→Nat→Option Oper
 | [],_=>Option.none
 | o :: l,t=>match o.dst with
  | some d=>match Nat.beq d t with
   | true=>some o
   | false=>defO l t
  | Option.none=>defO l t
def rfCall (A : List (Nat × Ann)) (o : Oper) : List Nat := match o.op with
 | .call c=>match c.callee with
  | .value f=>match f with
   | .func g=>match (getA A g).imp with
    | true=>[]
    | false=>(getA A g).rf
   | _=>[]
  | _=>[]
 | _=>[]
def rfDef (A : List (Nat × Ann)) (all : List Oper) (t : Nat) : List Nat := match defO all t with
 | Option.none=>[]
 | some o=>match o.op with
  | .move x=>match x with
   | .tmp s=>match defO all s with
    | Option.none=>[]
    | some o2=>rfCall A o2
   | _=>[]
  | _=>rfCall A o
def zrr : List Oper→Nat
 | []=>0
 | o :: l=>match o.op with
  | .assign _=>zrr l + 1
  | .store _ _ _=>zrr l + 1
  | _=>zrr l
def eArg (A : List (Nat × Ann)) (all : List Oper) (o : Oper) : Bool := match o.op with
 | .extract x i=>match x with
  | .tmp t=>Nat.ble (zrr all) 1 && memN i (rfDef A all t)
  | _=>false
 | .call c=>match c.args.toList with
  | x :: _=>match x with
   | .tmp t=>zno all t
   | _=>false
  | _=>false
 | _=>false
def dsL (o : Oper) : List Nat := match o.dst with
 | some d=>[d]
 | Option.none=>[]
def wbOf (all : List Oper) (o : Oper) : List Nat := match o.op with
 | .alloc _=>dsL o
 | .store _ a _=>match a with
  | .tmp ta=>[baseOf all 8 ta]
  | _=>[]
 | _=>[]
def hrOf (o : Oper) : Bool := match o.op with
 | .load _ _=>true
 | .convert _ _ _=>true
 | _=>false
def nhOf (A : List (Nat × Ann)) (o : Oper) : Bool := match o.op with
 | .alloc _=>true
 | .store _ _ _=>true
 | .assign _=>true
 | .call c=>match c.callee with
  | .builtin b=>match b with
   | .append=>true
   | _=>false
  | .value f=>match f with
   | .func g=>!(getA A g).imp
   | _=>false
  | _=>false
 | _=>false
def kcOf (A : List (Nat × Ann)) (o : Oper) : Bool := match o.op with
 | .call c=>match c.callee with
  | .value f=>match f with
   | .func g=>(getA A g).imp
   | _=>false
  | _=>false
 | _=>false
def oiOf (A : List (Nat × Ann)) (all : Array Oper) (m : Nat) (o : Oper) : OI := ⟨clOf A (eArg A all.toList o) o,o.looksAt all,dsL o,m,wbOf all.toList o,hrOf o,nhOf A o,kcOf A o⟩
def zif (A : List (Nat × Ann)) (all : Array Oper) : List Nat→List Oper→List OI
 | m :: T,o :: l=>oiOf A all m o :: zif A all T l
 | _,_=>[]
def zly : List Nat→List Nat→Bool
 | [],_=>true
 | a :: l,m=>match memN a m with
  | true=>false
  | false=>zly l m
def zsx (x y : OI) : Bool := (zly x.ds y.lk && (zly x.ds y.ds && zly y.ds x.lk)) && (match zbb x.cl,zbb y.cl with
 | true,true=>true
 | true,false=>Nat.blt y.cl 5 || (Nat.beq y.cl 6 || Nat.beq y.cl 7)
 | false,true=>Nat.blt x.cl 5
 | false,false=>Nat.beq x.cl 6 && Nat.beq y.cl 6)
def exAll (y : OI) : Nat→List OI→Bool
 | _,[]=>true
 | j,x :: l=>(Nat.testBit y.pre j || zsx x y) && exAll y (j + 1) l
def zr1 : List OI→List OI→Bool
 | _,[]=>true
 | bef,y :: l=>(exAll y 0 bef && (match y.ds with
  | []=>!zbb y.cl
  | _=>true)) && zr1 (bef ++ [y]) l
def zen : Nat→List Oper→Bool
 | _,[]=>true
 | i,o :: l=>o.after.toList.all (fun e=>!Region.binds .any e || Nat.blt e.on i) && zen (i + 1) l
def zfh (all : List OI) (i : Nat) (x : OI) : Nat→List OI→Bool
 | _,[]=>true
 | j,y :: l=>(zbb y.cl || (Nat.beq j i || (Nat.testBit x.pre j || Nat.testBit y.pre i))) && zfh all i x (j + 1) l
def fhOf (i : Nat) (x : OI) : Nat→List OI→Bool
 | _,[]=>true
 | j,y :: l=>(zbb y.cl || (y.nh || (Nat.beq j i || (Nat.testBit x.pre j || Nat.testBit y.pre i)))) && fhOf i x (j + 1) l
def wsOf (i : Nat) (x : OI) : Nat→List OI→List Nat
 | _,[]=>[]
 | j,y :: l=>match y.wb with
  | []=>wsOf i x (j + 1) l
  | b :: bs=>match (Nat.beq j i || (Nat.testBit x.pre j || Nat.testBit y.pre i)) with
   | true=>wsOf i x (j + 1) l
   | false=>(b :: bs) ++ wsOf i x (j + 1) l
def hzOf (i : Nat) (x : OI) : Nat→List OI→Bool
 | _,[]=>true
 | j,y :: l=>(!zbb y.cl || (!y.hr || (Nat.beq j i || (Nat.testBit x.pre j || Nat.testBit y.pre i)))) && hzOf i x (j + 1) l
def flOf (i : Nat) (x : OI) : Nat→List OI→Bool
 | _,[]=>true
 | j,y :: l=>(zbb y.cl || (y.kc || (Nat.beq j i || (Nat.testBit x.pre j || Nat.testBit y.pre i)))) && flOf i x (j + 1) l
structure Fx where
 fx : Bool
 fh : Bool
 ws : List Nat
 hz : Bool
 fl : Bool
def fxOf (ois : List OI) (i : Nat) (x : OI) : Fx := ⟨zfh ois i x 0 ois,x.hr && fhOf i x 0 ois,wsOf i x 0 ois,hzOf i x 0 ois,x.hr && flOf i x 0 ois⟩
def zdo (o : Oper) (S : St) : Bool := match o.op with
 | .load _ x=>match x with
  | .tmp t=>match S.slot t with
   | .lp _ _=>true
   | _=>false
  | _=>false
 | _=>false
def Slot.bare : Slot→Slot
 | .val v _=>.val v .no
 | s=>s
def St.bareAt (S : St) : Option Nat→St
 | some d=>S.put d (S.slot d).bare
 | Option.none=>S
def zeb (o : Oper) (S : St) : Bool := match o.op with
 | .load _ x=>match x with
  | .tmp t=>match S.slot t with
   | .lp _ _=>true
   | _=>false
  | .global _=>true
  | _=>false
 | .convert _ _ x=>match x with
  | .tmp t=>match S.slot t with
   | .val v _=>match v with
    | .arr _ _ _ _=>false
    | _=>true
   | _=>true
  | _=>true
 | _=>true
def ze9 (S : St) (D : List Nat) : List Nat→Bool
 | []=>true
 | t :: l=>(match S.slot t with
  | .val _ f=>match f with
   | .lS q=>!memN q D
   | _=>true
  | _=>true) && ze9 S D l
def zm4 (S : St) (ws : List Nat) : List Nat→Bool
 | []=>true
 | t :: l=>match (match S.slot t with
   | .lp e _=>memN e ws
   | .mp e=>memN e ws
   | _=>false) with
  | true=>false
  | false=>zm4 S ws l
def zn0 (S : St) (ws l : List Nat) : Bool := match ws with
 | []=>true
 | b :: bs=>zm4 S (b :: bs) l
def stOk (fz : Fx) (x : OI) (o : Oper) (S : St) : Bool := match o.op with
 | .store _ a _=>match a with
  | .tmp ta=>match S.slot ta with
   | .lp e _=>memN e x.wb
   | _=>fz.hz
  | _=>false
 | _=>false
noncomputable def dop (P : Program) (A : List (Nat × Ann)) (an : Ann) (isRes : Nat→Bool) (cal : Oracle) (D : List Nat) (i : Nat) (fz : Fx) (x : OI) (o : Oper) (S : St) (k : St→Option R) : Option R :=
 match x.cl with
 | 0=>match fz.fx with
  | true=>zaq P A an isRes cal o S k
  | false=>zaq P A an isRes cal o S fun S'=>k (S'.bareAt o.dst)
 | 1=>match fz.fx with
  | true=>zaq P A an isRes cal o S k
  | false=>match fz.fl && zdo o S with
   | true=>zaq P A an isRes cal o S k
   | false=>br (fz.fh || zeb o S) (zaq P A an isRes cal o S fun S'=>k (S'.bareAt o.dst)) Option.none
 | 2=>match o.dst with
  | Option.none=>Option.none
  | some d=>br (Nat.blt d S.sl.length && za3 (x.lk.map fun t=>(S.slot t).av)) (zaq P A an isRes cal o (S.mask x.lk) fun S'=>match S'.slot d with
    | .val v _=>br v.pure (k (S.put d (.val v .no))) Option.none
    | _=>Option.none) Option.none
 | 6=>match o.dst with
  | Option.none=>Option.none
  | some d=>zaq P A an isRes cal o S fun S'=>match S'.slot d with
   | .lp e _=>br (Nat.beq e d) (k S') Option.none
   | _=>Option.none
 | 7=>br (stOk fz x o S) (zaq P A an isRes cal o S k) Option.none
 | _=>br (ze9 S D x.lk) (zaq P A an isRes cal o S k) Option.none
noncomputable def zfk (P : Program) (A : List (Nat × Ann)) (an : Ann) (isRes : Nat→Bool) (cal : Oracle) (all : List Oper) (D : List Nat) (i : Nat) (fz : Fx) (x : OI) (o : Oper) (S : St) (k : St→Option R) : Option R :=
 match o.guard with
 | Option.none=>dop P A an isRes cal D i fz x o S k
 | some (j,want)=>match zdd all j with
  | Option.none=>Option.none
  | some d=>match S.slot d with
   | .val v f=>match v with
    | .bool b=>br b
     (match want with
      | true=>dop P A an isRes cal D i fz x o (S.put d (.val (.bool true) f)) k
      | false=>k ((S.put d (.val (.bool true) f)).putd o.dst (.val (.tuple []) .no)))
     (match want with
      | false=>dop P A an isRes cal D i fz x o (S.put d (.val (.bool false) f)) k
      | true=>k ((S.put d (.val (.bool false) f)).putd o.dst (.val (.tuple []) .no)))
    | .tuple l=>match l with
     | []=>k (S.putd o.dst (.val (.tuple []) .no))
     | _=>Option.none
    | _=>Option.none
   | _=>Option.none
def chk (fz : Fx) (x : OI) (S : St) (l : List Nat) : Bool := match zbb x.cl with
 | false=>true
 | true=>match fz.fx with
  | true=>true
  | false=>zn0 S fz.ws l
def zqz (fz : Fx) (x : OI) : Bool := match zbb x.cl with
 | false=>false
 | true=>match fz.fx with
  | true=>false
  | false=>match fz.ws with
   | []=>false
   | _ :: _=>true
noncomputable def zbd (P : Program) (A : List (Nat × Ann)) (an : Ann) (isRes : Nat→Bool) (cal : Oracle) (all : List Oper) (D : List Nat) (i : Nat) (fz : Fx) (x : OI) (o : Oper) (S : St) (k : St→Option R) : Option R :=
 match zqz fz x with
 | false=>zfk P A an isRes cal all D i fz x o S k
 | true=>br (chk fz x S x.lk) (zfk P A an isRes cal all D i fz x o S fun S'=>br (chk fz x S' x.ds) (k S') Option.none) Option.none
noncomputable def zpk (P : Program) (A : List (Nat × Ann)) (an : Ann) (isRes : Nat→Bool) (cal : Oracle) (all : List Oper) (D : List Nat) (ois : List OI) : Nat→List OI→List Oper→St→(St→Option R)→Option R
 | i,x :: xs,o :: os,S,k=>zbd P A an isRes cal all D i (fxOf ois i x) x o S fun S'=>zpk P A an isRes cal all D ois (i + 1) xs os S' k
 | _,_,_,S,k=>k S
def zav : List OI→List Nat
 | []=>[]
 | x :: l=>match zbb x.cl with
  | true=>x.ds ++ zav l
  | false=>zav l
noncomputable def zw0 (P : Program) (A : List (Nat × Ann)) (an : Ann) (isRes : Nat→Bool) (cal : Oracle) (all : Array Oper) (S : St) (k : St→Option R) : Option R :=
 br (zen 0 all.toList && zr1 [] (zif A all (zb9 all.toList []) all.toList))
  (zpk P A an isRes cal all.toList (zav (zif A all (zb9 all.toList []) all.toList)) (zif A all (zb9 all.toList []) all.toList) 0 (zif A all (zb9 all.toList []) all.toList) all.toList S k) Option.none
def zh7 : List ResultVar→List Nat
 | []=>[]
 | .tmp t :: l=>t :: zh7 l
 | _ :: l=>zh7 l
def zf9 (P : Program) (S : St) : List ResultVar→Option (List AV)
 | []=>some []
 | .tmp t :: l=>match S.slot t with
  | .val v _=>(zf9 P S l).bind fun r=>some (v :: r)
  | _=>Option.none
 | .cell t ty :: l=>match S.slot t with
  | .lp d off=>(getL S.L d).bind fun b=>zht P ty fun ag=>zh4 ag (zaj P ty) b.cells off fun v=>(zf9 P S l).bind fun r=>some (v :: r)
  | _=>Option.none
def zlh : AV→Bool
 | .vs _ true _=>true
 | _=>false
def zhf (S : St) (rs : List ResultVar) : List Nat→Bool
 | []=>true
 | j :: l=>match rs[j]? with
  | some (.tmp t)=>match S.slot t with
   | .val v f=>match f with
    | .own=>zhf (S.put t (.val v .no)) rs l
    | .lS q=>match S.slot q with
     | .val u fu=>match fu with
      | .own=>zhf (S.put q (.val u .no)) rs l
      | _=>zlh v && zhf S rs l
     | _=>zlh v && zhf S rs l
    | _=>zlh v && zhf S rs l
   | _=>false
  | _=>false
def zpp (P : Program) (an : Ann) (rs : List ResultVar) (S : St) : Option Out :=
 match zhf S rs an.rf with
 | false=>Option.none
 | true=>(zf9 P S rs).bind fun vs=>match vs with
  | [v]=>some ⟨v,S.H,S.nx⟩
  | l=>some ⟨.tuple l,S.H,S.nx⟩
def start : Nat→List AV→List Slot
 | 0,_=>[]
 | n + 1,[]=>.und :: start n []
 | n + 1,a :: l=>.val a .no :: start n l
def AV.okD (m : Nat) : AV→Bool
 | .ptr i _=>Nat.blt i m
 | .arr i _ _ _=>Nat.blt i m
 | v=>v.pure
def zgj (m : Nat) : List Slot→Bool
 | []=>true
 | s :: l=>match (match s with
   | .val v _=>v.okD m
   | _=>true) with
  | true=>zgj m l
  | false=>false
def zio : List (Nat × Blk)→Bool
 | []=>true
 | (_,b) :: l=>match za3 b.cells with
  | true=>zio l
  | false=>false
def zlc (m : Nat) : List (Nat × Blk)→List (Nat × Blk)
 | []=>[]
 | (d,b) :: l=>match Nat.blt d m with
  | true=>(d,b) :: zlc m l
  | false=>zlc m l
def noMaps : List (Nat × List (AV × AV))→Bool
 | []=>true
 | _=>false
def zlt (m : Nat) (S : St) : Bool := match zgj m S.sl with
 | true=>match zio S.L with
  | true=>match zio (zlc m S.H) with
   | true=>noMaps S.M
   | false=>false
  | false=>false
 | false=>false
def St.drop (m : Nat) (S : St) : St := ⟨S.sl.map Slot.unlentH,S.L,zlc m S.H,m,[]⟩
def zoi (imp : Bool) : List (Nat × Nat)→Nat→St→(St→Option R)→Option R
 | [],_,S,k=>k S
 | (r,m) :: l,id,S,k=>match Nat.beq r id with
  | true=>match imp with
   | true=>Option.none
   | false=>br (zlt m S) (zoi imp l id (S.drop m) k) Option.none
  | false=>zoi imp l id S k
def lvB (sl : List Slot) (d : Nat) : Bool := match nthS sl d with
 | .lp e _=>Nat.beq e d
 | _=>false
def zr6 (sl : List Slot) : List (Nat × Blk)→List (Nat × Blk)
 | []=>[]
 | (d,b) :: l=>match lvB sl d with
  | true=>(d,b) :: zr6 sl l
  | false=>zr6 sl l
def zvi (dbx : Bool) (S : St) (k : St→Option R) : Option R := match dbx with
 | true=>k ⟨S.sl,zr6 S.sl S.L,S.H,S.nx,S.M⟩
 | false=>k S
def zfv (an : Ann) (id : Nat) (S : St) (k : St→Option R) : Option R := zoi an.imp an.drp id S fun S3=>zvi an.dbx S3 k
noncomputable def run (P : Program) (A : List (Nat × Ann)) (cal : Oracle) : Nat→FuncId→List Item→St→Option Out
 | 0,_,_,_=>Option.none
 | n + 1,f,todo,S=>match P.funcs[f]? with
  | Option.none=>Option.none
  | some fn=>match todo with
   | []=>zpp P (getA A f) fn.results.toList S
   | .inBlock _ :: k=>run P A cal n f k S
   | .inScope _ :: k=>run P A cal n f k S
   | .inLoop body :: k=>run P A cal n f (.code body :: .inLoop body :: k) S
   | .code c :: k=>match c with
    | .ret=>zpp P (getA A f) fn.results.toList S
    | .skip=>run P A cal n f k S
    | .label _=>run P A cal n f k S
    | .seq a b=>run P A cal n f (.code a :: .code b :: k) S
    | .cond c t e=>(S.ev c).bool? fun b=>br b (run P A cal n f (.code t :: k) (S.lit c true)) (run P A cal n f (.code e :: k) (S.lit c false))
    | .block id body=>run P A cal n f (.code body :: .inBlock id :: k) S
    | .loop body=>run P A cal n f (.code body :: .inLoop body :: k) S
    | .scope body=>run P A cal n f (.code body :: .inScope body :: k) S
    | .exit id=>match exitTo id k with
     | some k'=>run P A cal n f k' S
     | Option.none=>Option.none
    | .goto l=>match gotoIn l k with
     | some k'=>run P A cal n f k' S
     | Option.none=>Option.none
    | .region id ops draw=>match draw with
     | false=>zcy P A (getA A f) (fun d=>memN d (zh7 fn.results.toList)) cal ops.toList ops.toList S fun S'=>zfv (getA A f) id (S'.keep (nthN (getA A f).K id)) fun S''=>run P A cal n f k S''
     | true=>zw0 P A (getA A f) (fun d=>memN d (zh7 fn.results.toList)) cal ops S fun S'=>zfv (getA A f) id (S'.keep (nthN (getA A f).K id)) fun S''=>run P A cal n f k S''
    | _=>Option.none
   | _=>Option.none
noncomputable def calN (P : Program) (A : List (Nat × Ann)) (cal : Oracle) (n : Nat) : Oracle := fun g args H nx=>match P.funcs[g]? with
 | some gn=>match gn.body with
  | some c=>match Nat.ble args.length gn.ntmps with
   | true=>run P A cal n g [.code c] ⟨start gn.ntmps args,[],H,nx,[]⟩
   | false=>Option.none
  | Option.none=>Option.none
 | Option.none=>Option.none
noncomputable def lvl (P : Program) (A : List (Nat × Ann)) (n : Nat) : Nat→Oracle
 | 0=>fun _ _ _ _=>Option.none
 | d + 1=>calN P A (lvl P A n d) n
end
section
inductive Pl where
 | s (t : Nat)
 | ss (t : Nat)
 | rs
 | sc (t i : Nat)
 | l (d off : Nat)
 | h (id off : Nat)
 | r (i : Nat)
 deriving DecidableEq
def Pl.str : Pl→Bool
 | .ss _=>true
 | .rs=>true
 | .h _ _=>true
 | _=>false
inductive Role where
 | ext
 | h (id : Nat)
 | l (d : Nat)
 | c (p : Pl)
 deriving DecidableEq
structure G where
 role : Nat→Role
 pub : Nat→Nat
inductive Rep (g : G) (w : World) : Value→AV→Prop where
 | undef (u) : Rep g w u .undef
 | bool (b) : Rep g w (.bool b) (.bool b)
 | int (k n) : Rep g w (.int k n) (.int k n)
 | str (s : ByteArray) : Rep g w (.string s) (.str s.data.toList)
 | nilp : Rep g w (.pointer none) .nilp
 | ptr (B id off) (h : g.role B = .h id) : Rep g w (.pointer (some ⟨B,off,none⟩)) (.ptr id off)
 | cptr (B off) (cs : List AV) (vals : List Value) (hl : vals.length = cs.length)
   (hc : ∀ (j : Nat) (u : Value),vals[j]? = some u→w.cell? ⟨B,off + j,none⟩ = some u∧off + j < g.pub B∧u.oneCell' = true)
   (hr : ∀ (j : Nat) (u : Value) (c : AV),vals[j]? = some u→cs[j]? = some c→Rep g w u c) : Rep g w (.pointer (some ⟨B,off,none⟩)) (.cptr cs)
 | vsnil (p : Option Addr) (sz tg) : Rep g w (.slice p 0 0) (.vs sz tg [])
 | vs (B off cap sz) (tg : Bool) (l : List AV) (vals : List Value) (hl : vals.length = (l.flatMap AV.cells).length) (hsz : ∀ x ∈ l,x.cells.length = sz)
   (htg : tg = true→cap = l.length) (hcap : l.length ≤ cap)
   (hc : ∀ (j : Nat) (u : Value),vals[j]? = some u→w.cell? ⟨B,off + j,none⟩ = some u∧off + j < g.pub B∧u.oneCell' = true)
   (hr : ∀ (j : Nat) (u : Value) (c : AV),vals[j]? = some u→(l.flatMap AV.cells)[j]? = some c→Rep g w u c) : Rep g w (.slice (some ⟨B,off,none⟩) l.length cap) (.vs sz tg l)
 | arr (B id off len cap sz) (h : g.role B = .h id) (hcap : len ≤ cap) : Rep g w (.slice (some ⟨B,off,none⟩) len cap) (.arr id off len sz)
 | agg (us : List Value) (cs : List AV) (hl : us.length = cs.length) (h1 : ∀ u ∈ us,u.oneCell' = true) (hr : ∀ (j : Nat) (u : Value) (c : AV),us[j]? = some u→cs[j]? = some c→Rep g w u c) : Rep g w (.agg us.toArray) (.agg cs)
 | tuple (us : List Value) (cs : List AV) (hl : us.length = cs.length) (hr : ∀ (j : Nat) (u : Value) (c : AV),us[j]? = some u→cs[j]? = some c→Rep g w u c) : Rep g w (.tuple us.toArray) (.tuple cs)
 | func (f) (us : List Value) (cs : List AV) (hl : us.length = cs.length) (hr : ∀ (j : Nat) (u : Value) (c : AV),us[j]? = some u→cs[j]? = some c→Rep g w u c) : Rep g w (.func (.func f) #[] us.toArray) (.func f cs)
 | iface (t u v) (h : Rep g w u v) : Rep g w (.iface t u) (.iface t v)
 | nilI : Rep g w .nilIface .nilI
def RepL (g : G) (w : World) (us : List Value) (cs : List AV) : Prop :=
 us.length = cs.length∧∀ (j : Nat) (u : Value) (c : AV),us[j]? = some u→cs[j]? = some c→Rep g w u c
structure Ext (g : G) (w : World) (g' : G) (w' : World) : Prop where
 hrole : ∀ B id,g.role B = .h id→g'.role B = .h id
 pub : ∀ B,g.pub B ≤ g'.pub B
 cell : ∀ B o,o < g.pub B→w'.cell? ⟨B,o,none⟩ = w.cell? ⟨B,o,none⟩
theorem Ext.refl (g : G) (w : World) : Ext g w g w := ⟨fun _ _ h=>h,fun _=>Nat.le_refl _,fun _ _ _=>rfl⟩
theorem Ext.trans {g g' g'' : G} {w w' w'' : World} (a : Ext g w g' w') (b : Ext g' w' g'' w'') : Ext g w g'' w'' :=
 ⟨fun B id h=>b.hrole B id (a.hrole B id h),fun B=>Nat.le_trans (a.pub B) (b.pub B),
  fun B o h=>(b.cell B o (Nat.lt_of_lt_of_le h (a.pub B))).trans (a.cell B o h)⟩
theorem Rep.ext {g g' : G} {w w' : World} {u : Value} {v : AV} (h : Rep g w u v) (e : Ext g w g' w') : Rep g' w' u v:=by
 induction h with
 | undef u=>exact .undef u
 | bool b=>exact .bool b
 | int k n=>exact .int k n
 | str s=>exact .str s
 | nilp=>exact .nilp
 | ptr B id off h=>exact .ptr B id off (e.hrole B id h)
 | cptr B off cs vals hl hc hr ih =>
  refine .cptr B off cs vals hl (fun j u hu=>?_) ih;obtain ⟨h1,h2,h3⟩ := hc j u hu;exact ⟨(e.cell B _ h2).trans h1,Nat.lt_of_lt_of_le h2 (e.pub B),h3⟩
 | vsnil p sz tg=>exact .vsnil p sz tg
 | vs B off cap sz tg l vals hl hsz htg hcap hc hr ih =>
  refine .vs B off cap sz tg l vals hl hsz htg hcap (fun j u hu=>?_) ih;obtain ⟨h1,h2,h3⟩ := hc j u hu;exact ⟨(e.cell B _ h2).trans h1,Nat.lt_of_lt_of_le h2 (e.pub B),h3⟩
 | arr B id off len cap sz h hcap=>exact .arr B id off len cap sz (e.hrole B id h) hcap
 | agg us cs hl h1 hr ih=>exact .agg us cs hl h1 ih
 | tuple us cs hl hr ih=>exact .tuple us cs hl ih
 | func f us cs hl hr ih=>exact .func f us cs hl ih
 | iface t u v h ih=>exact .iface t u v ih
 | nilI=>exact .nilI
def RepP (g : G) (w : World) (us : List Value) (cs : List AV) : Prop :=
 cs.length ≤ us.length∧∀ (j : Nat) (u : Value) (c : AV),us[j]? = some u→cs[j]? = some c→Rep g w u c
theorem RepL.part {g : G} {w : World} {us : List Value} {cs : List AV} (h : RepL g w us cs) : RepP g w us cs := ⟨by rw [h.1]; exact Nat.le_refl _,h.2⟩
theorem RepL.ext {g g' : G} {w w' : World} {us : List Value} {cs : List AV} (h : RepL g w us cs) (e : Ext g w g' w') : RepL g' w' us cs :=
 ⟨h.1,fun j u c hu hc=>(h.2 j u c hu hc).ext e⟩
theorem RepP.ext {g g' : G} {w w' : World} {us : List Value} {cs : List AV} (h : RepP g w us cs) (e : Ext g w g' w') : RepP g' w' us cs :=
 ⟨h.1,fun j u c hu hc=>(h.2 j u c hu hc).ext e⟩
theorem RepP.get {g : G} {w : World} {us : List Value} {cs : List AV} (h : RepP g w us cs) {j : Nat} {c : AV} (hc : cs[j]? = some c) : ∃ u,us[j]? = some u∧Rep g w u c:=by
 have hlt : j < us.length := Nat.lt_of_lt_of_le (List.getElem?_eq_some_iff.1 hc).1 h.1;exact ⟨us[j],List.getElem?_eq_getElem hlt,h.2 j _ c (List.getElem?_eq_getElem hlt) hc⟩
theorem RepP.full {g : G} {w : World} {us : List Value} {cs : List AV} (h : RepP g w us cs) : RepL g w (us.take cs.length) cs:=by
 refine ⟨by have := h.1; simp; omega,fun j u c hu hc=>?_⟩;rw [List.getElem?_take] at hu;split at hu
 ·exact h.2 j u c hu hc
 ·cases hu
def OneP (us : List Value) (n : Nat) : Prop := ∀ j u,j < n→us[j]? = some u→u.oneCell' = true
theorem zwp {us : List Value} (h : ∀ u ∈ us,u.oneCell' = true) (n : Nat) : OneP us n := fun _ u _ hu=>h u (List.mem_of_getElem? hu)
theorem RepP.cut {g : G} {w : World} {us : List Value} {cs : List AV} (h : RepP g w us cs) {off n : Nat} (hn : off + n ≤ cs.length) : RepL g w ((us.drop off).take n) ((cs.drop off).take n):=by
 refine ⟨by have := h.1; simp; omega,fun j u c hu hc=>?_⟩;rw [List.getElem?_take] at hu hc;split at hu
 ·rename_i hj;rw [if_pos hj] at hc;rw [List.getElem?_drop] at hu hc;exact h.2 _ u c hu hc
 ·cases hu
theorem zc8 (a : AV) (l : List AV) : za3 (a :: l) = (a.pure && za3 l):=by
 simp only [za3];cases a.pure <;> rfl
theorem zpo (a b : List AV) : za3 (a ++ b) = (za3 a && za3 b):=by
 induction a with
 | nil=>simp [za3]
 | cons x a ih=>simp [zc8,ih,Bool.and_assoc]
theorem zct {cs : List AV} (h : za3 cs = true) (j : Nat) (c : AV) (hc : cs[j]? = some c) : c.pure = true:=by
 induction cs generalizing j with
 | nil=>simp at hc
 | cons a l ih =>
  rw [zc8,Bool.and_eq_true] at h;cases j with
  | zero=>simp at hc; subst hc; exact h.1
  | succ j=>exact ih h.2 j (by simpa using hc)
theorem zti {l : List AV} (h : za3 l = true) : za3 (l.flatMap AV.cells) = true:=by
 induction l with
 | nil=>rfl
 | cons x l ih =>
  rw [zc8,Bool.and_eq_true] at h;rw [List.flatMap_cons,zpo,ih h.2,Bool.and_true];cases x <;> simp_all [AV.cells,zc8,AV.pure,za3]
theorem Rep.pure {g : G} {w : World} {u : Value} {v : AV} (h : Rep g w u v) : v.pure = true→∀ g' : G,(∀ B,g.pub B ≤ g'.pub B)→Rep g' w u v:=by
 induction h with
 | undef u=>intro _ g' _; exact .undef u
 | bool b=>intro _ g' _; exact .bool b
 | int k n=>intro _ g' _; exact .int k n
 | str s=>intro _ g' _; exact .str s
 | nilp=>intro _ g' _; exact .nilp
 | ptr B id off h=>intro hp; simp [AV.pure] at hp
 | cptr B off cs vals hl hc hr ih =>
  intro hp g' hg;simp only [AV.pure] at hp;refine .cptr B off cs vals hl (fun j u hu=>?_) (fun j u c hu hcc=>ih j u c hu hcc (zct hp j c hcc) g' hg);obtain ⟨h1,h2,h3⟩ := hc j u hu;exact ⟨h1,Nat.lt_of_lt_of_le h2 (hg B),h3⟩
 | vsnil p sz tg=>intro _ g' _; exact .vsnil p sz tg
 | vs B off cap sz tg l vals hl hsz htg hcap hc hr ih =>
  intro hp g' hg;simp only [AV.pure] at hp;have hcells := zct (zti hp);refine .vs B off cap sz tg l vals hl hsz htg hcap (fun j u hu=>?_) (fun j u c hu hcc=>ih j u c hu hcc (hcells j c hcc) g' hg);obtain ⟨h1,h2,h3⟩ := hc j u hu;exact ⟨h1,Nat.lt_of_lt_of_le h2 (hg B),h3⟩
 | arr B id off len cap sz h hcap=>intro hp; simp [AV.pure] at hp
 | agg us cs hl h1 hr ih=>intro hp g' hg; exact .agg us cs hl h1 fun j u c hu hc=>ih j u c hu hc (zct (by simpa [AV.pure] using hp) j c hc) g' hg
 | tuple us cs hl hr ih=>intro hp g' hg; exact .tuple us cs hl fun j u c hu hc=>ih j u c hu hc (zct (by simpa [AV.pure] using hp) j c hc) g' hg
 | func f us cs hl hr ih=>intro hp g' hg; exact .func f us cs hl fun j u c hu hc=>ih j u c hu hc (zct (by simpa [AV.pure] using hp) j c hc) g' hg
 | iface t u v h ih=>intro hp g' hg; exact .iface t u v (ih (by simpa [AV.pure] using hp) g' hg)
 | nilI=>intro _ g' _; exact .nilI
def zeh (g : G) (w : World) (B : Nat) (cells : List AV) : Prop :=
 ∃ (us : List Value) (e : TypeId),w.heap[B]? = some (.cells us.toArray e (0,0))∧OneP us cells.length∧RepP g w us cells
def OwnV (g : G) (w : World) (p : Pl) (sz : Nat) (u : Value) : Prop :=
 u = .slice none 0 0 ∨ (∃ a n,(p.str = false ∨ n = 0)∧u = .slice (some a) n n) ∨
 (∃ B n cap us e,u = .slice (some ⟨B,0,none⟩) n cap∧g.role B = .c p∧w.heap[B]? = some (.cells us e (0,0))∧us.size = cap * sz∧n ≤ cap∧g.pub B = n * sz)
def OwnB (g : G) (w : World) (p : Pl) (sz : Nat) (u : Value) : Prop :=
 ∃ B n cap us e,u = .slice (some ⟨B,0,none⟩) n cap∧g.role B = .c p∧w.heap[B]? = some (.cells us e (0,0))∧us.size = cap * sz∧n ≤ cap∧g.pub B = n * sz
theorem OwnB.v {g : G} {w : World} {p : Pl} {sz : Nat} {u : Value} (h : OwnB g w p sz u) : OwnV g w p sz u := .inr (.inr h)
def zas (g : G) (w : World) (p : Pl) (u : Value) : AV→Prop
 | .vs sz _ _=>OwnV g w p sz u
 | _=>True
structure Inv (g : G) (w : World) : Prop where
 new : ∀ B,w.heap.size ≤ B→g.role B = .ext∧g.pub B = 0
 ph : ∀ B id,g.role B = .h id→g.pub B = 0
 pl : ∀ B d,g.role B = .l d→g.pub B = 0
 injh : ∀ B B' id,g.role B = .h id→g.role B' = .h id→B = B'
 injl : ∀ B B' d,g.role B = .l d→g.role B' = .l d→B = B'
structure RelH (g : G) (H : Hp) (_nx : Nat) (w : World) : Prop where
 blk : ∀ id b,H id = some b→∃ B,g.role B = .h id∧zeh g w B b.cells ∧
  ∀ off ∈ b.free,∀ u v,w.cell? ⟨B,off,none⟩ = some u→b.cells[off]? = some v→zas g w (.h id off) u v
 lt : ∀ B id,g.role B = .h id→H id ≠ none
def RelL (g : G) (L : List (Nat × Blk)) (w : World) : Prop :=
 ∀ d b,getL L d = some b→∃ B,g.role B = .l d∧zeh g w B b.cells ∧
  ∀ off ∈ b.free,∀ u v,w.cell? ⟨B,off,none⟩ = some u→b.cells[off]? = some v→zas g w (.l d off) u v
def zl1 (g : G) (w : World) (es : List MapEntry) (l : List (AV × AV)) : Prop :=
 es.length = l.length∧∀ (j : Nat) (e : MapEntry) (p : AV × AV),es[j]? = some e→l[j]? = some p→Rep g w e.key p.1∧Rep g w e.val p.2
theorem zl1.ext {g g' : G} {w w' : World} {es : List MapEntry} {l : List (AV × AV)} (h : zl1 g w es l) (e : Ext g w g' w') : zl1 g' w' es l :=
 ⟨h.1,fun j x p hx hp=>⟨(h.2 j x p hx hp).1.ext e,(h.2 j x p hx hp).2.ext e⟩⟩
def RelM (g : G) (M : List (Nat × List (AV × AV))) (w : World) : Prop :=
 ∀ d l,getM M d = some l→∃ B es ck,g.role B = .l d∧w.heap[B]? = some (.map es ck)∧zl1 g w es.toList l
def zt4 (g : G) (S : St) (a : Act) (w : World) (t : Nat) (u : Value) (v : AV) : Fl→Prop
 | .no=>True
 | .own=>zas g w (.s t) u v
 | .ownS=>zas g w (.ss t) u v
 | .lS q=>∀ v' f',Fl.claim f' = true→S.slot q = .val v' f'→a.tmps.getD q undef = u∧v' = v
 | .lL d off=>∀ b,getL S.L d = some b→off ∈ b.free→∃ B,g.role B = .l d∧w.cell? ⟨B,off,none⟩ = some u∧b.cells[off]? = some v
 | .lH id off=>∀ b,S.H id = some b→off ∈ b.free→∃ B,g.role B = .h id∧w.cell? ⟨B,off,none⟩ = some u∧b.cells[off]? = some v
 | .comps cs=>∀ i ∈ cs,∀ us vs ui vi,u = .tuple us→v = .tuple vs→us[i]? = some ui→vs[i]? = some vi→zas g w (.sc t i) ui vi
def zbl (g : G) (S : St) (a : Act) (w : World) (t : Nat) : Slot→Prop
 | .und=>True
 | .lp d off=>∃ B,g.role B = .l d∧a.tmps.getD t undef = .pointer (some ⟨B,off,none⟩)
 | .mp d=>∃ B,g.role B = .l d∧a.tmps.getD t undef = .map (some B)
 | .val v f=>Rep g w (a.tmps.getD t undef) v∧zt4 g S a w t (a.tmps.getD t undef) v f
structure Fr (g0 : G) (w0 : World) (Ex : Nat→Prop) (g : G) (w : World) : Prop where
 ext : Ext g0 w0 g w
 os : w.os = w0.os
 tape : w.tape = w0.tape
 output : w.output = w0.output
 size : w0.heap.size ≤ w.heap.size
 same : ∀ B,B < w0.heap.size→¬ Ex B→w.heap[B]? = w0.heap[B]?∧g.pub B = g0.pub B
 role : ∀ B,g.role B ≠ .ext→w0.heap.size ≤ B ∨ Ex B
structure Rel (g0 : G) (w0 : World) (Ex : Nat→Prop) (g : G) (S : St) (a : Act) (w : World) : Prop where
 inv : Inv g w
 h : RelH g S.H S.nx w
 l : RelL g S.L w
 m : RelM g S.M w
 len : S.sl.length = a.tmps.size
 sl : ∀ t,zbl g S a w t (S.slot t)
 fr : Fr g0 w0 Ex g w
 nodef : a.defers = []
def zbn (A : List (Nat × Ann)) (g : G) (w : World) : Prop := ∀ i cs,zgk A i = some cs→za3 cs = true∧Rep g w (.pointer (some ⟨i,0,none⟩)) (.cptr cs)
theorem zbn.ext {A : List (Nat × Ann)} {g g' : G} {w w' : World} (h : zbn A g w) (e : Ext g w g' w') : zbn A g' w' := fun i cs hc=>⟨(h i cs hc).1,(h i cs hc).2.ext e⟩
theorem zbn.pure {A : List (Nat × Ann)} {g g' : G} {w : World} (h : zbn A g w) (hp : ∀ B,g.pub B ≤ g'.pub B) : zbn A g' w := fun i cs hc=>⟨(h i cs hc).1,(h i cs hc).2.pure (h i cs hc).1 g' hp⟩
def Good (g0 : G) (w0 : World) (Ex : Nat→Prop) (S : St) (a : Act) (w : World) : Prop := ∃ g,Rel g0 w0 Ex g S a w
end
section
theorem zps : ∀ (l : List Slot) (n : Nat) (s : Slot) (t : Nat),nthS (setS l n s) t = if t = n∧n < l.length then s else nthS l t
 | [],n,s,t=>by simp [setS,nthS]
 | x :: l,0,s,t=>by cases t <;> simp [setS,nthS]
 | x :: l,n + 1,s,t=>by
  cases t with
  | zero=>simp [setS,nthS]
  | succ t=>simp only [setS,nthS,zps l n s t]; simp
theorem zaz : ∀ (l : List Slot) (n : Nat) (s : Slot),(setS l n s).length = l.length
 | [],_,_=>rfl
 | _ :: _,0,_=>rfl
 | _ :: l,n + 1,s=>by simp [setS,zaz l n s]
theorem zd7 (f : Slot→Slot) (hf : f .und = .und) : ∀ (l : List Slot) (t : Nat),nthS (l.map f) t = f (nthS l t)
 | [],t=>by simp [nthS,hf]
 | x :: l,0=>rfl
 | x :: l,t + 1=>by simpa [nthS] using zd7 f hf l t
theorem zcb {l : List Slot} {t : Nat} (h : nthS l t ≠ .und) : t < l.length:=by
 induction l generalizing t with
 | nil=>simp [nthS] at h
 | cons x l ih =>
  cases t with
  | zero=>simp
  | succ t=>simp only [List.length_cons]; have := ih (t := t) (by simpa [nthS] using h); omega
theorem zcg (a : Act) (d : Nat) (v : Value) (t : Nat) : (a.put (some d) v).tmps.getD t undef = if t = d∧d < a.tmps.size then v else a.tmps.getD t undef:=by
 simp only [Act.put];rw [Array.getD_eq_getD_getElem?,Array.getElem?_setIfInBounds,Array.getD_eq_getD_getElem?];by_cases h : d = t
 ·subst h;by_cases h2 : d < a.tmps.size
  ·simp [h2]
  ·simp [h2]
 ·have h' : ¬ t = d := fun e=>h e.symm;simp [h,h']
theorem zjj (a : Act) (d : Option Nat) (v : Value) : (a.put d v).tmps.size = a.tmps.size:=by
 cases d <;> simp [Act.put]
theorem zdq (a : Act) (d : Option Nat) (v : Value) : (a.put d v).defers = a.defers:=by
 cases d <;> rfl
theorem zam (S : St) (d : Nat) (s : Slot) (t : Nat) : (S.put d s).slot t = if t = d∧d < S.sl.length then s else S.slot t := zps _ _ _ _
section
variable {g0 : G} {w0 : World} {Ex : Nat→Prop} {g : G} {S : St} {a : Act} {w : World}
def FlC (g : G) (w : World) (t : Nat) (u : Value) (v : AV) : Fl→Prop
 | .own=>zas g w (.s t) u v
 | .ownS=>zas g w (.ss t) u v
 | .comps cs=>∀ i ∈ cs,∀ us vs ui vi,u = .tuple us→v = .tuple vs→us[i]? = some ui→vs[i]? = some vi→zas g w (.sc t i) ui vi
 | _=>True
def zmi (g : G) (a : Act) (w : World) (t : Nat) : Slot→Prop
 | .und=>True
 | .lp d off=>∃ B,g.role B = .l d∧a.tmps.getD t undef = .pointer (some ⟨B,off,none⟩)
 | .mp d=>∃ B,g.role B = .l d∧a.tmps.getD t undef = .map (some B)
 | .val v f=>Rep g w (a.tmps.getD t undef) v∧FlC g w t (a.tmps.getD t undef) v f
theorem zbl.c {t : Nat} {s : Slot} (h : zbl g S a w t s) : zmi g a w t s:=by
 cases s with
 | und=>trivial
 | lp d off=>exact h
 | mp d=>exact h
 | val v f=>exact ⟨h.1,by cases f <;> first | exact h.2 | trivial⟩
theorem zmi.rel {t : Nat} {s : Slot} (h : zmi g a w t s) (S : St) : zbl g S a w t s.unlent:=by
 cases s with
 | und=>trivial
 | lp d off=>exact h
 | mp d=>exact h
 | val v f=>exact ⟨h.1,by cases f <;> first | exact h.2 | trivial⟩
theorem zb0 (S : St) (t : Nat) : S.unlent.slot t = (S.slot t).unlent := zd7 _ rfl _ _
theorem zbh (S : St) (t : Nat) : S.unlentH.slot t = (S.slot t).unlentH := zd7 _ rfl _ _
theorem zf3 {t : Nat} {v : AV} {f : Fl} (hf : f.claim = true) (h : S.unlentH.slot t = .val v f) : S.slot t = .val v f:=by
 rw [zbh] at h
 revert h
 cases S.slot t with
 | val v2 f2=>cases f2 <;> (intro h; first | exact h | (injection h with _ h2; subst h2; cases hf))
 | _=>exact fun h=>h
theorem Rel.unlent (h : Rel g0 w0 Ex g S a w) : Rel g0 w0 Ex g S.unlent a w :=
 ⟨h.inv,h.h,h.l,h.m,by simpa [St.unlent] using h.len,fun t=>by rw [zb0]; exact (h.sl t).c.rel _,h.fr,h.nodef⟩
theorem Rel.putv (h : Rel g0 w0 Ex g S a w) (dst : Option Nat) {u : Value} {v : AV} {f : Fl} (hr : Rep g w u v) (hf : ∀ d,dst = some d→zt4 g S a w d u v f) (hno : f ≠ .own) (hnc : ∀ cs,f ≠ .comps cs) :
  Rel g0 w0 Ex g (S.putd dst (.val v f)) (a.put dst u) w:=by
 cases dst with
 | none=>exact h
 | some d =>
  refine ⟨h.inv,h.h,h.l,h.m,?_,fun t=>?_,h.fr,by rw [zdq]; exact h.nodef⟩
  ·show (setS S.sl d _).length = _;rw [zaz,zjj]; exact h.len
  show zbl g (S.put d (.val v f)) (a.put (some d) u) w t ((S.put d (.val v f)).slot t);have hs := h.sl t;have key : ∀ q v' fq,Fl.claim fq = true→(S.put d (.val v f)).slot q = .val v' fq→S.slot q = .val v' fq∧(a.put (some d) u).tmps.getD q undef = a.tmps.getD q undef:=by
   intro q v' fq hcq hq;rw [zam] at hq;split at hq
   ·rename_i hqd; injection hq with h1 h2; subst h2; exfalso; cases f <;> first | exact hno rfl | exact hnc _ rfl | cases hcq
   ·rename_i hqd;refine ⟨hq,?_⟩;rw [zcg,if_neg (by rw [← h.len]; exact hqd)]
  rw [zam];by_cases htd : t = d∧d < S.sl.length
  ·rw [if_pos htd];obtain ⟨rfl,hlt⟩ := htd;have e : (a.put (some t) u).tmps.getD t undef = u := by rw [zcg,if_pos ⟨rfl,by rw [← h.len]; exact hlt⟩]
   refine ⟨by rw [e]; exact hr,?_⟩;rw [e];have hf' := hf t rfl;cases f with
   | no=>trivial
   | own=>exact absurd rfl hno
   | ownS=>exact hf'
   | lS q =>
    intro v' fq hcq hq;obtain ⟨h1,h2⟩ := key q v' fq hcq hq;rw [h2];exact hf' v' fq hcq h1
   | lL d' off=>exact hf'
   | lH id off=>exact hf'
   | comps cs=>exact absurd rfl (hnc cs)
  ·rw [if_neg htd];have e : (a.put (some d) u).tmps.getD t undef = a.tmps.getD t undef := by rw [zcg,if_neg (by rw [← h.len]; exact htd)]
   cases hst : S.slot t with
   | und=>trivial
   | lp d' off=>rw [hst] at hs; obtain ⟨B,h1,h2⟩ := hs; exact ⟨B,h1,by rw [e]; exact h2⟩
   | mp d'=>rw [hst] at hs; obtain ⟨B,h1,h2⟩ := hs; exact ⟨B,h1,by rw [e]; exact h2⟩
   | val v2 f2 =>
    rw [hst] at hs;obtain ⟨h1,h2⟩ := hs;refine ⟨by rw [e]; exact h1,?_⟩;rw [e];cases f2 with
    | no=>trivial
    | own=>exact h2
    | ownS=>exact h2
    | lS q =>
     intro v' fq hcq hq;obtain ⟨h3,h4⟩ := key q v' fq hcq hq;rw [h4];exact h2 v' fq hcq h3
    | lL d' off=>exact h2
    | lH id off=>exact h2
    | comps cs=>exact h2
theorem Rel.putlp (h : Rel g0 w0 Ex g S a w) (dst : Option Nat) {u : Value} {s : Slot} (hs : s = .und ∨ (∃ d off B,s = .lp d off∧g.role B = .l d∧u = .pointer (some ⟨B,off,none⟩)) ∨ ∃ d B,s = .mp d∧g.role B = .l d∧u = .map (some B)) :
  Rel g0 w0 Ex g (S.putd dst s) (a.put dst u) w:=by
 cases dst with
 | none=>exact h
 | some d =>
  refine ⟨h.inv,h.h,h.l,h.m,?_,fun t=>?_,h.fr,by rw [zdq]; exact h.nodef⟩
  ·show (setS S.sl d _).length = _;rw [zaz,zjj]; exact h.len
  show zbl g (S.put d s) (a.put (some d) u) w t ((S.put d s).slot t);have hsl := h.sl t;have key : ∀ q v' fq,Fl.claim fq = true→(S.put d s).slot q = .val v' fq→S.slot q = .val v' fq∧(a.put (some d) u).tmps.getD q undef = a.tmps.getD q undef:=by
   intro q v' fq hcq hq;rw [zam] at hq;split at hq
   ·rcases hs with rfl | ⟨_,_,_,rfl,_⟩ | ⟨_,_,rfl,_⟩ <;> cases hq
   ·rename_i hqd;refine ⟨hq,?_⟩;rw [zcg,if_neg (by rw [← h.len]; exact hqd)]
  rw [zam];by_cases htd : t = d∧d < S.sl.length
  ·rw [if_pos htd];obtain ⟨rfl,hlt⟩ := htd;have e : (a.put (some t) u).tmps.getD t undef = u := by rw [zcg,if_pos ⟨rfl,by rw [← h.len]; exact hlt⟩]
   rcases hs with rfl | ⟨d',off,B,rfl,h1,h2⟩ | ⟨d',B,rfl,h1,h2⟩
   ·trivial
   ·exact ⟨B,h1,by rw [e]; exact h2⟩
   ·exact ⟨B,h1,by rw [e]; exact h2⟩
  ·rw [if_neg htd];have e : (a.put (some d) u).tmps.getD t undef = a.tmps.getD t undef := by rw [zcg,if_neg (by rw [← h.len]; exact htd)]
   cases hst : S.slot t with
   | und=>trivial
   | lp d' off=>rw [hst] at hsl; obtain ⟨B,h1,h2⟩ := hsl; exact ⟨B,h1,by rw [e]; exact h2⟩
   | mp d'=>rw [hst] at hsl; obtain ⟨B,h1,h2⟩ := hsl; exact ⟨B,h1,by rw [e]; exact h2⟩
   | val v2 f2 =>
    rw [hst] at hsl;obtain ⟨h1,h2⟩ := hsl;refine ⟨by rw [e]; exact h1,?_⟩;rw [e];cases f2 with
    | no=>trivial
    | own=>exact h2
    | ownS=>exact h2
    | lS q =>
     intro v' fq hcq hq;obtain ⟨h3,h4⟩ := key q v' fq hcq hq;rw [h4];exact h2 v' fq hcq h3
    | lL d' off=>exact h2
    | lH id off=>exact h2
    | comps cs=>exact h2
theorem zsb (S : St) (d t : Nat) : ({ S with sl := S.sl.map (Slot.unS d) } : St).slot t = (S.slot t).unS d := zd7 _ rfl _ _
theorem Rel.putown (h : Rel g0 w0 Ex g S a w) (dst : Option Nat) {u : Value} {v : AV} {f : Fl} (hr : Rep g w u v) (hf : ∀ d,dst = some d→FlC g w d u v f) (hfl : f = .no ∨ f = .own ∨ f = .ownS ∨ ∃ cs,f = .comps cs) :
  Rel g0 w0 Ex g (S.putown dst v f) (a.put dst u) w:=by
 cases dst with
 | none=>exact h
 | some d =>
  rcases Classical.em (f = .no) with hno | hno
  ·subst hno;exact h.putv (some d) hr (fun _ _=>trivial) (by simp) (by simp)
  have e0 : S.putown (some d) v f = ({ S with sl := S.sl.map (Slot.unS d) } : St).put d (.val v f):=by
   cases f <;> first | exact absurd rfl hno | rfl
  rw [e0];refine ⟨h.inv,h.h,h.l,h.m,?_,fun t=>?_,h.fr,by rw [zdq]; exact h.nodef⟩
  ·show (setS _ d _).length = _;rw [zaz,zjj,List.length_map]; exact h.len
  have hsl := h.sl t;have key : ∀ q v' fq,Fl.claim fq = true→q ≠ d→((({ S with sl := S.sl.map (Slot.unS d) } : St).put d (.val v f)).slot q) = .val v' fq→S.slot q = .val v' fq∧(a.put (some d) u).tmps.getD q undef = a.tmps.getD q undef:=by
   intro q v' fq hcq hne hq;rw [zam,if_neg (by intro hh; exact hne hh.1),zsb] at hq;refine ⟨?_,?_⟩
   ·revert hq
    cases S.slot q with
    | und=>exact fun h=>h
    | lp d' off=>exact fun h=>h
    | mp d'=>exact fun h=>h
    | val v2 f2=>cases f2 with
     | lS q' =>
      simp only [Slot.unS];split <;> (intro h; injection h with _ h2; subst h2; cases hcq)
     | _=>exact fun h=>h
   ·rw [zcg,if_neg (by intro hh; exact hne hh.1)]
  rw [zam];by_cases htd : t = d∧d < ({ S with sl := S.sl.map (Slot.unS d) } : St).sl.length
  ·rw [if_pos htd];obtain ⟨rfl,hlt⟩ := htd;have e : (a.put (some t) u).tmps.getD t undef = u := by rw [zcg,if_pos ⟨rfl,by rw [← h.len]; simpa using hlt⟩]
   refine ⟨by rw [e]; exact hr,?_⟩;rw [e];have hf' := hf t rfl;rcases hfl with rfl | rfl | rfl | ⟨cs,rfl⟩
   ·trivial
   ·exact hf'
   ·exact hf'
   ·exact hf'
  ·rw [if_neg htd,zsb];have e : (a.put (some d) u).tmps.getD t undef = a.tmps.getD t undef := by rw [zcg,if_neg (by rw [← h.len]; simpa using htd)]
   cases hst : S.slot t with
   | und=>trivial
   | lp d' off=>rw [hst] at hsl; obtain ⟨B,h1,h2⟩ := hsl; exact ⟨B,h1,by rw [e]; exact h2⟩
   | mp d'=>rw [hst] at hsl; obtain ⟨B,h1,h2⟩ := hsl; exact ⟨B,h1,by rw [e]; exact h2⟩
   | val v2 f2 =>
    rw [hst] at hsl;obtain ⟨h1,h2⟩ := hsl;cases f2 with
    | no=>exact ⟨by rw [e]; exact h1,trivial⟩
    | own=>exact ⟨by rw [e]; exact h1,by rw [e]; exact h2⟩
    | ownS=>exact ⟨by rw [e]; exact h1,by rw [e]; exact h2⟩
    | lS q =>
     simp only [Slot.unS];by_cases hqd : q = d
     ·subst hqd;rw [show Nat.beq q q = true from Nat.beq_refl q];exact ⟨by rw [e]; exact h1,trivial⟩
     ·rw [show Nat.beq q d = false from by cases hb : Nat.beq q d with | false=>rfl | true=>exact absurd (Nat.eq_of_beq_eq_true hb) hqd];refine ⟨by rw [e]; exact h1,?_⟩;rw [e];intro v' fq hcq hq;obtain ⟨h3,h4⟩ := key q v' fq hcq hqd hq;rw [h4];exact h2 v' fq hcq h3
    | lL d' off=>exact ⟨by rw [e]; exact h1,by rw [e]; exact h2⟩
    | lH id off=>exact ⟨by rw [e]; exact h1,by rw [e]; exact h2⟩
    | comps cs=>exact ⟨by rw [e]; exact h1,by rw [e]; exact h2⟩
theorem Rel.slotv (h : Rel g0 w0 Ex g S a w) {t : Nat} {v : AV} {f : Fl} (hs : S.slot t = .val v f) : Rep g w (a.eval (.tmp t)) v∧zt4 g S a w t (a.eval (.tmp t)) v f:=by
 have := h.sl t;rw [hs] at this;exact this
theorem zfm (sz : Nat) (c : Value) : Rep g w c (zdj sz c):=by
 unfold zdj;split
 ·exact .bool _
 ·exact .int _ _
 ·exact .str _
 ·exact .nilp
 ·exact .vsnil _ _ _
 ·split
  ·rename_i f first captured _ _ h1 h2;have e1 : first = #[] := by apply Array.toList_inj.1; simpa using h1
   have e2 : captured = [].toArray := by apply Array.toList_inj.1; simpa using h2
   rw [e1,e2];exact .func f [] [] rfl (by simp)
  ·exact .undef _
 ·exact .nilI
 ·split
  ·rename_i l _ h1;have e1 : l = [].toArray := by apply Array.toList_inj.1; simpa using h1
   rw [e1];exact .tuple [] [] rfl (by simp)
  ·exact .undef _
 ·exact .undef _
theorem zgu : ∀ (hs : List Nat) (cs : List Value),(zd2 hs cs).length = cs.length∧∀ (j : Nat) (u : Value) (c : AV),cs[j]? = some u→(zd2 hs cs)[j]? = some c→∃ sz,c = zdj sz u
 | [],[]=>⟨rfl,by simp⟩
 | _ :: _,[]=>⟨rfl,by simp⟩
 | h :: hs,x :: cs=>by
  obtain ⟨h1,h2⟩ := zgu hs cs;refine ⟨by simp [zd2,h1],fun j u c hu hc=>?_⟩;cases j with
  | zero=>simp [zd2] at hu hc; exact ⟨h,by rw [← hu,hc]⟩
  | succ j=>exact h2 j u c (by simpa using hu) (by simpa [zd2] using hc)
 | [],x :: cs=>by
  obtain ⟨h1,h2⟩ := zgu [] cs;refine ⟨by simp [zd2,h1],fun j u c hu hc=>?_⟩;cases j with
  | zero=>simp [zd2] at hu hc; exact ⟨0,by rw [← hu,hc]⟩
  | succ j=>exact h2 j u c (by simpa using hu) (by simpa [zd2] using hc)
theorem zkd (hs : List Nat) (cs : List Value) : RepL g w cs (zd2 hs cs):=by
 obtain ⟨h1,h2⟩ := zgu hs cs;refine ⟨h1.symm,fun j u c hu hc=>?_⟩;obtain ⟨sz,rfl⟩ := h2 j u c hu hc;exact zfm sz u
end
end
end Go.Vai
