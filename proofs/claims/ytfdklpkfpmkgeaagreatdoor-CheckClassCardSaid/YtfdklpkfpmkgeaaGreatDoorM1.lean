/- An abstract interpreter over the model's code: values are pure trees, a slice is the list of its elements; it is executable, and it is proved sound in a later text. -/
import GoSem.Dispatch
import GoSem.Machine.Frame
import Derived.RowKit3
import Derived.Orders
import Derived.Laws.Entries
import Derived.Calls
import Derived.Laws.AppendOwn
import Derived.Laws.Strings
import Derived.Laws.Slices
import Derived.Laws.BytesString
import Derived.Below
import Derived.Laws.Small
import Derived.Laws.Pointers
import Derived.Laws.StructEq
set_option linter.unusedSimpArgs false
set_option linter.unusedVariables false
set_option linter.unusedSectionVars false
set_option linter.unnecessarySimpa false
section
namespace Go.Vai
inductive AV where
 | undef
 | bool (b : Bool)
 | int (k : IntKind) (n : Int)
 | str (s : List UInt8)
 | nilp
 | ptr (id off : Nat)
 | cptr (cs : List AV)
 | vs (sz : Nat) (tg : Bool) (l : List AV)
 | arr (id off len sz : Nat)
 | agg (cs : List AV)
 | tuple (l : List AV)
 | func (f : Nat) (caps : List AV)
 | iface (t : Nat) (v : AV)
 | nilI
 deriving Inhabited
mutual
def AV.pure : AV→Bool
 | .ptr ..=>false
 | .arr ..=>false
 | .cptr cs=>pureL cs
 | .vs _ _ l=>pureL l
 | .agg cs=>pureL cs
 | .tuple l=>pureL l
 | .func _ caps=>pureL caps
 | .iface _ v=>v.pure
 | _=>true
def pureL : List AV→Bool
 | []=>true
 | a :: l=>match a.pure with
  | true=>pureL l
  | false=>false
end
def AV.cells : AV→List AV
 | .agg cs=>cs
 | v=>[v]
inductive Fl where
 | no
 | own
 | lS (t : Nat)
 | lL (d off : Nat)
 | lH (id off : Nat)
 | comps (cs : List Nat)
 deriving Inhabited
inductive Slot where
 | und
 | val (v : AV) (f : Fl)
 | lp (d off : Nat)
 | mp (d : Nat)
 deriving Inhabited
structure Blk where
 cells : List AV
 free : List Nat
 deriving Inhabited
def Hp := List (Nat × Blk)
def Hp.none : Hp := ([] : List (Nat × Blk))
structure St where
 sl : List Slot
 L : List (Nat × Blk)
 H : Hp
 nx : Nat
 M : List (Nat × List (AV × AV))
structure Ann where
 K : List Nat
 imp : Bool
 rf : List Nat
 esc : List Nat
 mem : List Nat
 frz : List (Nat × Nat)
 thaw : List Nat
 cst : List Nat
 gl : List (Nat × List AV)
 nrm : List (Nat × Nat × List (Nat × Nat × Nat) × List (Nat × Nat))
 ro : Bool
 drp : List (Nat × Nat)
 deriving Inhabited
structure Out where
 v : AV
 H : Hp
 nx : Nat
variable {R : Type}
def br (b : Bool) (x y : Option R) : Option R := match b with
 | true=>x
 | false=>y
def memN : Nat→List Nat→Bool
 | _,[]=>false
 | n,m :: l=>match Nat.beq n m with
  | true=>true
  | false=>memN n l
def insN : Nat→List Nat→List Nat
 | n,[]=>[n]
 | n,m :: l=>match Nat.blt n m with
  | true=>n :: m :: l
  | false=>match Nat.beq n m with
   | true=>m :: l
   | false=>m :: insN n l
def delN (n : Nat) : List Nat→List Nat
 | []=>[]
 | m :: l=>match Nat.beq n m with
  | true=>delN n l
  | false=>m :: delN n l
def cutN (a b : Nat) : List Nat→List Nat
 | []=>[]
 | m :: l=>match Nat.ble a m,Nat.blt m b with
  | true,true=>cutN a b l
  | _,_=>m :: cutN a b l
def nthS : List Slot→Nat→Slot
 | [],_=>.und
 | s :: _,0=>s
 | _ :: l,n + 1=>nthS l n
def setS : List Slot→Nat→Slot→List Slot
 | [],_,_=>[]
 | _ :: l,0,s=>s :: l
 | x :: l,n + 1,s=>x :: setS l n s
def nth : List AV→Nat→Option AV
 | [],_=>Option.none
 | s :: _,0=>some s
 | _ :: l,n + 1=>nth l n
def patch : List AV→Nat→List AV→List AV
 | cells,0,new=>new ++ cells.drop new.length
 | [],_ + 1,_=>[]
 | c :: cells,n + 1,new=>c :: patch cells n new
def nthN : List Nat→Nat→Nat
 | [],_=>0
 | s :: _,0=>s
 | _ :: l,n + 1=>nthN l n
def getL : List (Nat × Blk)→Nat→Option Blk
 | [],_=>Option.none
 | (d,b) :: l,n=>match Nat.beq n d with
  | true=>some b
  | false=>getL l n
def insH : List (Nat × Blk)→Nat→Blk→List (Nat × Blk)
 | [],n,b=>[(n,b)]
 | (d,c) :: l,n,b=>match Nat.beq n d with
  | true=>(d,b) :: l
  | false=>match Nat.blt n d with
   | true=>(n,b) :: (d,c) :: l
   | false=>(d,c) :: insH l n b
def setL (l : List (Nat × Blk)) (n : Nat) (b : Blk) : List (Nat × Blk) := insH l n b
def getM : List (Nat × List (AV × AV))→Nat→Option (List (AV × AV))
 | [],_=>Option.none
 | (d,b) :: l,n=>match Nat.beq n d with
  | true=>some b
  | false=>getM l n
def setM : List (Nat × List (AV × AV))→Nat→List (AV × AV)→List (Nat × List (AV × AV))
 | [],n,b=>[(n,b)]
 | (d,c) :: l,n,b=>match Nat.beq n d with
  | true=>(d,b) :: l
  | false=>(d,c) :: setM l n b
def Hp.get (H : Hp) (i : Nat) : Option Blk := getL H i
def Hp.set (H : Hp) (i : Nat) (b : Blk) : Hp := insH H i b
instance : CoeFun Hp fun _=>Nat→Option Blk := ⟨Hp.get⟩
def Hp.new? (H : Hp) (i : Nat) (x : Option R) : Option R := match H.get i with
 | Option.none=>x
 | some _=>Option.none
def AV.int? (v : AV) (k : IntKind→Int→Option R) : Option R := match v with
 | .int i n=>k i n
 | _=>Option.none
def AV.bool? (v : AV) (k : Bool→Option R) : Option R := match v with
 | .bool b=>k b
 | _=>Option.none
def AV.str? (v : AV) (k : List UInt8→Option R) : Option R := match v with
 | .str s=>k s
 | _=>Option.none
def AV.vs? (v : AV) (k : Nat→Bool→List AV→Option R) : Option R := match v with
 | .vs sz tg l=>k sz tg l
 | _=>Option.none
def AV.agg? (v : AV) (k : List AV→Option R) : Option R := match v with
 | .agg cs=>k cs
 | _=>Option.none
def AV.tup? (v : AV) (k : List AV→Option R) : Option R := match v with
 | .tuple l=>k l
 | _=>Option.none
def AV.func? (v : AV) (k : Nat→List AV→Option R) : Option R := match v with
 | .func f c=>k f c
 | _=>Option.none
def AV.cells? (v : AV) (k : List AV→Option R) : Option R := match v with
 | .undef=>Option.none
 | .tuple _=>Option.none
 | .agg cs=>k cs
 | w=>k [w]
def getG : List (Nat × List AV)→Nat→Option (List AV)
 | [],_=>Option.none
 | (d,b) :: l,n=>match Nat.beq n d with
  | true=>some b
  | false=>getG l n
def tSize (P : Program) (t : TypeId) : Nat := match P.info? t with
 | some i=>i.size
 | Option.none=>0
def tBytes (P : Program) (t : TypeId) : Nat := match P.info? t with
 | some i=>i.bytes
 | Option.none=>0
def tAgg (P : Program) (t : TypeId) : Bool := match P.underlying t with
 | some (.struct _)=>true
 | some (.array _ _)=>true
 | _=>false
def tElem (P : Program) (t : TypeId) : Option TypeId := match P.underlying t with
 | some (.slice e)=>some e
 | _=>Option.none
def tAggK (P : Program) (t : TypeId) (k : Bool→Option R) : Option R := match P.underlying t with
 | some (.struct _)=>k true
 | some (.array _ _)=>k true
 | some _=>k false
 | Option.none=>Option.none
def tFields (P : Program) (t : TypeId) : Option (List Field) := match P.underlying t with
 | some (.struct fs)=>some fs.toList
 | _=>Option.none
def pack (ag : Bool) (cs : List AV) : AV := match ag with
 | true=>.agg cs
 | false=>match cs with
  | [c]=>c
  | _=>.undef
def ofConst1 (sz : Nat) : Value→AV
 | .bool b=>.bool b
 | .int k n=>.int k n
 | .string s=>.str s.data.toList
 | .pointer none=>.nilp
 | .slice none 0 0=>.vs sz true []
 | .func (.func f) first captured=>match first.toList,captured.toList with
  | [],[]=>.func f []
  | _,_=>.undef
 | .nilIface=>.nilI
 | .tuple l=>match l.toList with
  | []=>.tuple []
  | _=>.undef
 | _=>.undef
def szHints (P : Program) : Nat→TypeId→List Nat
 | 0,_=>[]
 | n + 1,t=>match P.underlying t with
  | some (.struct fs)=>fs.toList.flatMap fun f=>szHints P n f.type
  | some (.array k e)=>(List.replicate k (szHints P n e)).flatten
  | some (.slice e)=>[tSize P e]
  | _=>[0]
def ofCells : List Nat→List Value→List AV
 | h :: hs,c :: cs=>ofConst1 h c :: ofCells hs cs
 | [],c :: cs=>ofConst1 0 c :: ofCells [] cs
 | _,[]=>[]
def allOne : List Value→Bool
 | []=>true
 | .agg _ :: _=>false
 | .tuple _ :: _=>false
 | _ :: l=>allOne l
def ofConst (P : Program) (t : TypeId) : Value→AV
 | .agg cs=>match allOne cs.toList with
  | true=>.agg (ofCells (szHints P 8 t) cs.toList)
  | false=>.undef
 | v=>ofConst1 (match tElem P t with
  | some e=>tSize P e
  | Option.none=>0) v
def zeroCells (P : Program) (t : TypeId) : Option (List AV) := match P.info? t with
 | some i=>match i.zero with
  | some z=>match allOne z.cells.toList with
   | true=>some (ofCells (szHints P 8 t) z.cells.toList)
   | false=>Option.none
  | Option.none=>Option.none
 | Option.none=>Option.none
def tightPlaces : Nat→List AV→List Nat
 | _,[]=>[]
 | i,c :: l=>match c with
  | .vs _ tg _=>match tg with
   | true=>i :: tightPlaces (i + 1) l
   | false=>tightPlaces (i + 1) l
  | _=>tightPlaces (i + 1) l
def St.slot (S : St) (t : Nat) : Slot := nthS S.sl t
def St.put (S : St) (t : Nat) (s : Slot) : St := { S with sl := setS S.sl t s }
def St.putd (S : St) (dst : Option Nat) (s : Slot) : St := match dst with
 | some t=>S.put t s
 | Option.none=>S
def Slot.av : Slot→AV
 | .val v _=>v
 | _=>.undef
def St.ev (S : St) : Operand→AV
 | .tmp t=>(S.slot t).av
 | .const v=>ofConst1 0 v
 | .func f=>.func f []
 | .global _=>.undef
def Fl.unlent : Fl→Fl
 | .lS _=>.no
 | .lL _ _=>.no
 | .lH _ _=>.no
 | f=>f
def Slot.unlent : Slot→Slot
 | .val v f=>.val v f.unlent
 | s=>s
def St.unlent (S : St) : St := { S with sl := S.sl.map Slot.unlent }
def Slot.unlentH : Slot→Slot
 | .val v f=>match f with
  | .lH _ _=>.val v .no
  | f=>.val v f
 | s=>s
def St.unlentH (S : St) : St := { S with sl := S.sl.map Slot.unlentH }
def keepSlot (i : Nat) : Slot→Slot
 | .mp d=>.mp d
 | .lp d off=>match Nat.beq d i,Nat.beq off 0 with
  | true,true=>.lp d 0
  | _,_=>.und
 | .val v f=>.val v f.unlent
 | .und=>.und
def keepS : Nat→Nat→List Slot→List Slot
 | _,_,[]=>[]
 | m,i,s :: l=>match Nat.beq (m % 2) 1 with
  | true=>keepSlot i s :: keepS (m / 2) (i + 1) l
  | false=>.und :: keepS (m / 2) (i + 1) l
def St.keep (S : St) (m : Nat) : St := { S with sl := keepS m 0 S.sl }
def dropLp (d : Nat) : Slot→Slot
 | .lp e off=>match Nat.beq e d with
  | true=>.und
  | false=>.lp e off
 | .mp e=>match Nat.beq e d with
  | true=>.und
  | false=>.mp e
 | s=>s
def St.lit (S : St) (x : Operand) (b : Bool) : St := match x with
 | .tmp t=>S.put t (.val (.bool b) .no)
 | _=>S
def moveSlot (S : St) (t : Nat) : Slot := match S.slot t with
 | .val v .own=>.val v (.lS t)
 | .val v (.comps _)=>.val v .no
 | s=>s
def Slot.unS (d : Nat) : Slot→Slot
 | .val v (.lS q)=>match Nat.beq q d with
  | true=>.val v .no
  | false=>.val v (.lS q)
 | s=>s
def St.putown (S : St) (dst : Option Nat) (v : AV) (f : Fl) : St := match dst with
 | some d=>match f with
  | .no=>S.put d (.val v .no)
  | _=>({ S with sl := S.sl.map (Slot.unS d) } : St).put d (.val v f)
 | Option.none=>S
def constSlot (P : Program) (ty : TypeId) (c : Value) : Slot := match c with
 | .slice none 0 0=>.val (ofConst P ty (.slice none 0 0)) .own
 | c=>.val (ofConst P ty c) .no
def opMove (P : Program) (o : Oper) (x : Operand) (S : St) (k : St→Option R) : Option R := match x with
 | .tmp t=>k (S.putd o.dst (moveSlot S t))
 | .const c=>k (S.putd o.dst (.val (ofConst P o.type c) .no))
 | .func f=>k (S.putd o.dst (.val (.func f []) .no))
 | .global _=>Option.none
def opAssign (P : Program) (isRes : Nat→Bool) (o : Oper) (x : Operand) (S : St) (k : St→Option R) : Option R := match o.dst with
 | Option.none=>Option.none
 | some d=>match x with
  | .const c=>k (S.unlent.put d (constSlot P o.type c))
  | .func f=>k (S.unlent.put d (.val (.func f []) .no))
  | .global _=>Option.none
  | .tmp t=>match S.slot t with
   | .und=>k (S.unlent.put d .und)
   | .lp e off=>k (S.unlent.put d (.lp e off))
   | .mp e=>k (S.unlent.put d (.mp e))
   | .val v .own=>k (((S.put t (.val v .no)).unlent).put d (.val v .own))
   | .val v (.lS q)=>match isRes d with
    | false=>k (S.unlent.put d (.val v .no))
    | true=>match S.slot q with
     | .val u .own=>k (((S.put q (.val u .no)).unlent).put d (.val v .own))
     | _=>k (S.unlent.put d (.val v .no))
   | .val v _=>k (S.unlent.put d (.val v .no))
def opNew (A : Ann) (o : Oper) (cells : List AV) (free : List Nat) (S : St) (k : St→Option R) : Option R := match o.dst with
 | Option.none=>Option.none
 | some d=>match memN d A.esc with
  | true=>S.H.new? S.nx (k (({ S with H := S.H.set S.nx ⟨cells,free⟩,nx := S.nx + 1 } : St).unlent.put d (.val (.ptr S.nx 0) .no)))
  | false=>match getM S.M d with
   | Option.none=>k (({ S with L := setL S.L d ⟨cells,free⟩,sl := S.sl.map (dropLp d) } : St).unlent.put d (.lp d 0))
   | some _=>Option.none
def AV.guard? (v : AV) (kb : Bool→Option R) (ks : Option R) : Option R := match v with
 | .bool b=>kb b
 | .tuple []=>ks
 | _=>Option.none
def opLoad (P : Program) (o : Oper) (t : TypeId) (a : Operand) (S : St) (k : St→Option R) : Option R :=
 let get (cells : List AV) (off : Nat) (f : Fl) : Option R := tAggK P t fun ag=>match ag with
  | true=>br (Nat.ble (off + tSize P t) cells.length) (k (S.putd o.dst (.val (.agg ((cells.drop off).take (tSize P t))) .no))) Option.none
  | false=>(nth cells off).bind fun c=>k (S.putd o.dst (.val c f))
 match a with
 | .tmp ta=>match S.slot ta with
  | .lp d off=>(getL S.L d).bind fun b=>get b.cells off (match memN off b.free with
   | true=>.lL d off
   | false=>.no)
  | .val v _=>match v with
   | .ptr id off=>(S.H id).bind fun b=>get b.cells off (.lH id off)
   | .cptr cs=>get cs 0 .no
   | _=>Option.none
  | _=>Option.none
 | _=>Option.none
def ownOf (S : St) (x : Operand) : Bool := match x with
 | .tmp t=>match S.slot t with
  | .val _ .own=>true
  | _=>false
 | .const c=>match c with
  | .slice none 0 0=>true
  | _=>false
 | _=>false
def disown (S : St) (x : Operand) : St := match x with
 | .tmp t=>match S.slot t with
  | .val v .own=>S.put t (.val v .no)
  | _=>S
 | _=>S
def evT (P : Program) (S : St) (t : TypeId) : Operand→AV
 | .const c=>ofConst P t c
 | x=>S.ev x
def evsT (P : Program) (S : St) : List TypeId→List Operand→List AV
 | t :: ts,x :: l=>evT P S t x :: evsT P S ts l
 | [],x :: l=>S.ev x :: evsT P S [] l
 | _,[]=>[]
def isVs : AV→Bool
 | .vs _ _ _=>true
 | _=>false
def newFree (off n : Nat) (own : Bool) (free : List Nat) : List Nat := match own with
 | true=>insN off (cutN off (off + n) free)
 | false=>cutN off (off + n) free
def opStore (P : Program) (t : TypeId) (a x : Operand) (S : St) (k : St→Option R) : Option R :=
 match Nat.beq (tSize P t) 0 with
 | true=>Option.none
 | false=>(evT P S t x).cells? fun cs =>
  br (Nat.beq cs.length (tSize P t)) (
   match a with
   | .tmp ta=>match S.slot ta with
    | .lp d off=>(getL S.L d).bind fun b=>br (Nat.ble (off + cs.length) b.cells.length)
      (k ({ (disown S x) with L := setL S.L d ⟨patch b.cells off cs,newFree off cs.length (ownOf S x && isVs (evT P S t x)) b.free⟩ } : St).unlent) Option.none
    | .val v _=>match v with
     | .ptr id off=>(S.H id).bind fun b=>br (Nat.ble (off + cs.length) b.cells.length)
      (k ({ (disown S x) with H := S.H.set id ⟨patch b.cells off cs,newFree off cs.length (ownOf S x && isVs (evT P S t x)) b.free⟩ } : St).unlent) Option.none
     | _=>Option.none
    | _=>Option.none
   | _=>Option.none) Option.none
def shlZ (k : IntKind) (x y : Int) : Int := k.wrap (x * 2 ^ (min y.toNat k.bits))
def shrZ (k : IntKind) (x y : Int) : Int := x.fdiv (2 ^ (min y.toNat k.bits))
def sameKind : IntKind→IntKind→Bool
 | .i8,.i8=>true
 | .i16,.i16=>true
 | .i32,.i32=>true
 | .i64,.i64=>true
 | .u8,.u8=>true
 | .u16,.u16=>true
 | .u32,.u32=>true
 | .u64,.u64=>true
 | _,_=>false
def eqS : List UInt8→List UInt8→Bool
 | [],[]=>true
 | a :: l,b :: m=>match Nat.beq a.toNat b.toNat with
  | true=>eqS l m
  | false=>false
 | _,_=>false
def opInt (op : BinOp) (i : IntKind) (a b : Int) (k : AV→Option R) : Option R := match op with
 | .add=>k (.int i (i.wrap (a + b)))
 | .sub=>k (.int i (i.wrap (a - b)))
 | .mul=>k (.int i (i.wrap (a * b)))
 | .quo=>br (decide (b = 0)) Option.none (k (.int i (i.wrap (a.tdiv b))))
 | .rem=>br (decide (b = 0)) Option.none (k (.int i (a.tmod b)))
 | .and=>k (.int i (bits .and i a b))
 | .or=>k (.int i (bits .or i a b))
 | .xor=>k (.int i (bits .xor i a b))
 | .andNot=>k (.int i (bits .andNot i a b))
 | .eql=>k (.bool (decide (a = b)))
 | .neq=>k (.bool (!decide (a = b)))
 | .lss=>k (.bool (decide (a < b)))
 | .leq=>k (.bool (decide (a ≤ b)))
 | .gtr=>k (.bool (decide (b < a)))
 | .geq=>k (.bool (decide (b ≤ a)))
 | _=>Option.none
def opStr (op : BinOp) (a b : List UInt8) (k : AV→Option R) : Option R := match op with
 | .add=>br (Nat.ble (a.length + b.length) 4611686018427387904) (k (.str (a ++ b))) Option.none
 | .eql=>k (.bool (eqS a b))
 | .neq=>k (.bool (!eqS a b))
 | .lss=>k (.bool (Op.bytesLess a b))
 | .leq=>k (.bool (Op.bytesLess a b || eqS a b))
 | .gtr=>k (.bool (!(Op.bytesLess a b || eqS a b)))
 | .geq=>k (.bool (!Op.bytesLess a b))
 | _=>Option.none
def opBin (op : BinOp) (x y : AV) (k : AV→Option R) : Option R := match x with
 | .int i a=>y.int? fun j b=>match op with
  | .shl=>br (decide (b < 0)) Option.none (k (.int i (shlZ i a b)))
  | .shr=>br (decide (b < 0)) Option.none (k (.int i (shrZ i a b)))
  | _=>br (sameKind i j) (opInt op i a b k) Option.none
 | .str a=>y.str? fun b=>opStr op a b k
 | _=>Option.none
def noBlank : List Field→Bool
 | []=>true
 | f :: l=>match f.name == "_" with
  | true=>false
  | false=>noBlank l
def eqlK (op : BinOp) (b : Bool) (k : AV→Option R) : Option R := match op with
 | .eql=>k (.bool b)
 | .neq=>k (.bool (!b))
 | _=>Option.none
def eq1 : AV→AV→(Bool→Option R)→Option R
 | .int i a,y,k=>y.int? fun j b=>br (sameKind i j) (k (decide (a = b))) Option.none
 | .str a,y,k=>y.str? fun b=>k (eqS a b)
 | .bool a,y,k=>y.bool? fun b=>k (a == b)
 | _,_,_=>Option.none
def scal (P : Program) (t : TypeId) : AV→Bool
 | .int i _=>match P.underlying t with
  | some (.int j)=>sameKind i j
  | _=>false
 | .str _=>match P.underlying t with
  | some .string=>true
  | _=>false
 | .bool _=>match P.underlying t with
  | some .bool=>true
  | _=>false
 | _=>false
def tComp (P : Program) (t : TypeId) : Bool := match P.info? t with
 | some i=>i.comparable
 | Option.none=>false
def eqIface (P : Program) (x y : AV) (k : Bool→Option R) : Option R := match x with
 | .iface t v=>match y with
  | .iface t' v'=>br (Nat.beq t t') (br (tComp P t && (scal P t v && scal P t v')) (eq1 v v' k) Option.none) (k false)
  | .nilI=>k false
  | _=>Option.none
 | .nilI=>match y with
  | .iface _ _=>k false
  | _=>Option.none
 | _=>Option.none
def eqFs (P : Program) (xs ys : List AV) : List Field→(Bool→Option R)→Option R
 | [],k=>k true
 | f :: fs,k=>(nth xs f.offset).bind fun a=>(nth ys f.offset).bind fun b=>br (scal P f.type a && scal P f.type b) (eq1 a b fun e=>match e with
  | true=>eqFs P xs ys fs k
  | false=>k false) Option.none
def opBinT (P : Program) (op : BinOp) (t : TypeId) (xc yc : Bool) (x y : AV) (k : AV→Option R) : Option R := match x with
 | .iface _ _=>match P.underlying t with
  | some (.interface _)=>eqIface P x y fun b=>eqlK op b k
  | _=>Option.none
 | .nilI=>match P.underlying t with
  | some (.interface _)=>match y with
   | .nilI=>br (xc || yc) (eqlK op true k) Option.none
   | _=>eqIface P x y fun b=>eqlK op b k
  | _=>Option.none
 | .agg xs=>y.agg? fun ys=>match tFields P t with
  | some fs=>br (!P.eqGuardType P.depth t && (!P.stoodInHeld t && noBlank fs)) (eqFs P xs ys fs fun b=>eqlK op b k) Option.none
  | Option.none=>Option.none
 | .bool a=>y.bool? fun b=>match P.underlying t with
  | some .bool=>match op with
   | .eql=>k (.bool (a == b))
   | .neq=>k (.bool (!(a == b)))
   | _=>Option.none
  | _=>Option.none
 | .nilp=>match y with
  | .nilp=>match P.underlying t with
   | some (.pointer _)=>match op with
    | .eql=>k (.bool true)
    | .neq=>k (.bool false)
    | _=>Option.none
   | _=>Option.none
  | _=>Option.none
 | .ptr _ _=>match y with
  | .nilp=>match P.underlying t with
   | some (.pointer _)=>match op with
    | .eql=>k (.bool false)
    | .neq=>k (.bool true)
    | _=>Option.none
   | _=>Option.none
  | _=>Option.none
 | _=>opBin op x y k
def isConst : Operand→Bool
 | .const _=>true
 | _=>false
def opUn (op : UnOp) (x : AV) (k : AV→Option R) : Option R := match op with
 | .neg=>x.int? fun i n=>k (.int i (i.wrap (0 - n)))
 | .xor=>x.int? fun i n=>k (.int i (bits .xor i (if i.signed then -1 else i.max) n))
 | .not=>x.bool? fun b=>k (.bool !b)
 | _=>Option.none
def byteAV (b : UInt8) : AV := .int .u8 (b.toNat : Int)
def bytesOf : List AV→Option (List UInt8)
 | []=>some []
 | .int k n :: l=>match k with
  | .u8=>(bytesOf l).bind fun r=>some (UInt8.ofNat n.toNat :: r)
  | _=>Option.none
 | _ :: _=>Option.none
def elemsOf (ag : Bool) (sz : Nat) (v : AV) (S : St) (k : List AV→Option R) : Option R := match v with
 | .vs z _ l=>match Nat.beq z sz with
  | true=>k l
  | false=>match l with
   | []=>k []
   | _ :: _=>Option.none
 | .arr id off len z=>match ag,Nat.beq z sz,Nat.beq sz 1 with
  | false,true,true=>(S.H id).bind fun b=>br (Nat.ble (off + len) b.cells.length) (k ((b.cells.drop off).take len)) Option.none
  | _,_,_=>Option.none
 | .str s=>match Nat.beq sz 1 with
  | true=>k (s.map byteAV)
  | false=>Option.none
 | _=>Option.none
def opConvert (P : Program) (o : Oper) (src dst : TypeId) (x : AV) (S : St) (k : St→Option R) : Option R :=
 match P.underlying src,P.underlying dst with
 | some (.int _),some (.int j)=>x.int? fun _ n=>k (S.putd o.dst (.val (.int j (j.wrap n)) .no))
 | some .string,some .string=>x.str? fun s=>k (S.putd o.dst (.val (.str s) .no))
 | some .string,some (.slice e)=>x.str? fun s=>match P.underlying e with
  | some (.int .u8)=>match Nat.beq (tSize P e) 1 with
   | true=>k (S.putd o.dst (.val (.vs 1 false (s.map byteAV)) .no))
   | false=>Option.none
  | _=>Option.none
 | some (.slice e),some .string=>match P.underlying e with
  | some (.int .u8)=>match x with
   | .str _=>Option.none
   | y=>elemsOf false 1 y S fun l=>(bytesOf l).bind fun s=>k (S.putd o.dst (.val (.str s) .no))
  | _=>Option.none
 | _,_=>Option.none
def AV.bound? (v : AV) (y : Nat) (k : Nat→Option R) : Option R :=
 v.int? fun _ i=>br (decide (0 ≤ i)) (br (decide (i ≤ (y : Int))) (k i.toNat) Option.none) Option.none
def opBounds (S : St) (len : Nat) (lo hi : Option Operand) (k : Nat→Nat→Option R) : Option R :=
 let low (h : Nat) : Option R := match lo with
  | some x=>(S.ev x).bound? h fun l=>k l h
  | Option.none=>k 0 h
 match hi with
 | some x=>(S.ev x).bound? len low
 | Option.none=>low len
def opSliceV (P : Program) (t : TypeId) (x : Operand) (lo hi mx : Option Operand) (S : St) (k : AV→Option R) : Option R :=
 match P.underlying t with
 | some .string=>match mx with
  | some _=>Option.none
  | Option.none=>(S.ev x).str? fun s=>opBounds S s.length lo hi fun l h=>k (.str ((s.take h).drop l))
 | some (.slice e)=>match Nat.beq (tSize P e) 0 with
  | true=>Option.none
  | false=>match S.ev x with
   | .vs z tg v=>match Nat.beq z (tSize P e) with
    | false=>Option.none
    | true=>match mx with
     | Option.none=>opBounds S v.length lo hi fun l h=>k (.vs z (match hi with
      | some _=>false
      | Option.none=>tg) ((v.take h).drop l))
     | some m=>match hi with
      | Option.none=>Option.none
      | some _=>opBounds S v.length lo hi fun l h=>(S.ev m).int? fun _ j=>br (decide (j = (h : Int))) (k (.vs z true ((v.take h).drop l))) Option.none
   | .arr id off len z=>match Nat.beq z (tSize P e) with
    | false=>Option.none
    | true=>match mx with
     | Option.none=>opBounds S len lo hi fun l h=>br (Nat.blt l h) (k (.arr id (off + l * z) (h - l) z)) (k (.vs z false []))
     | some m=>match hi with
      | Option.none=>Option.none
      | some _=>opBounds S len lo hi fun l h=>(S.ev m).int? fun _ j=>br (decide (j = (h : Int))) (br (Nat.blt l h) (k (.arr id (off + l * z) (h - l) z)) (k (.vs z true []))) Option.none
   | _=>Option.none
 | _=>Option.none
def opSlice (P : Program) (o : Oper) (t : TypeId) (x : Operand) (lo hi mx : Option Operand) (S : St) (k : St→Option R) : Option R :=
 opSliceV P t x lo hi mx S fun v=>k (S.putd o.dst (.val v .no))
def opFieldAddr (P : Program) (o : Oper) (t : TypeId) (x : Operand) (fi : Nat) (S : St) (k : St→Option R) : Option R :=
 match tFields P t with
 | Option.none=>Option.none
 | some fs=>match fs[fi]? with
  | Option.none=>Option.none
  | some f=>match Nat.beq (tSize P f.type) 0 with
   | true=>Option.none
   | false=>match x with
    | .tmp tx=>match S.slot tx with
     | .lp d off=>k (S.putd o.dst (.lp d (off + f.offset)))
     | .val v _=>match v with
      | .ptr id off=>k (S.putd o.dst (.val (.ptr id (off + f.offset)) .no))
      | .cptr cs=>k (S.putd o.dst (.val (.cptr (cs.drop f.offset)) .no))
      | _=>Option.none
     | _=>Option.none
    | _=>Option.none
def partOf (ag : Bool) (sz : Nat) (cs : List AV) (off : Nat) (k : AV→Option R) : Option R := match ag with
 | true=>br (Nat.ble (off + sz) cs.length) (k (.agg ((cs.drop off).take sz))) Option.none
 | false=>(nth cs off).bind k
def opField (P : Program) (t : TypeId) (x : AV) (fi : Nat) (k : AV→Option R) : Option R :=
 match tFields P t with
 | Option.none=>Option.none
 | some fs=>match fs[fi]? with
  | Option.none=>Option.none
  | some f=>x.agg? fun cs=>tAggK P f.type fun ag=>partOf ag (tSize P f.type) cs f.offset k
def opIndexAddr (P : Program) (o : Oper) (t : TypeId) (x ix : Operand) (S : St) (k : St→Option R) : Option R :=
  (S.ev ix).int? fun _ i=>match P.underlying t with
    | some (.slice e)=>match Nat.beq (tSize P e) 0 with
     | true=>Option.none
     | false=>match S.ev x with
      | .vs z _ l=>match Nat.beq z (tSize P e) with
        | true=>br (decide (0 ≤ i)) (br (decide (i < (l.length : Int))) ((nth l i.toNat).bind fun c=>k (S.putd o.dst (.val (.cptr c.cells) .no))) Option.none) Option.none
        | false=>Option.none
      | .arr id off len z=>match Nat.beq z (tSize P e) with
        | true=>br (decide (0 ≤ i)) (br (decide (i < (len : Int))) (k (S.putd o.dst (.val (.ptr id (off + i.toNat * z)) .no))) Option.none) Option.none
        | false=>Option.none
      | _=>Option.none
    | some (.array len e)=>match x with
      | .tmp tx=>match Nat.beq (tSize P e) 0 with
        | true=>Option.none
        | false=>match S.slot tx with
          | .lp d off=>br (decide (0 ≤ i)) (br (decide (i < (len : Int))) (k (S.putd o.dst (.lp d (off + i.toNat * tSize P e)))) Option.none) Option.none
          | .val v _=>match v with
            | .ptr id off=>br (decide (0 ≤ i)) (br (decide (i < (len : Int))) (k (S.putd o.dst (.val (.ptr id (off + i.toNat * tSize P e)) .no))) Option.none) Option.none
            | _=>Option.none
          | _=>Option.none
      | _=>Option.none
    | _=>Option.none
def opIndex (P : Program) (t : TypeId) (x ix : AV) (k : AV→Option R) : Option R :=
 ix.int? fun _ i=>match P.underlying t with
  | some .string=>x.str? fun s=>br (decide (0 ≤ i)) ((s[i.toNat]?).bind fun b=>k (byteAV b)) Option.none
  | some (.array len e)=>x.agg? fun cs=>br (decide (0 ≤ i)) (br (decide (i < (len : Int))) (tAggK P e fun ag=>partOf ag (tSize P e) cs (i.toNat * tSize P e) k) Option.none) Option.none
  | _=>Option.none
def fillC (place : Nat→Option (Nat × Nat)) : List AV→List (Nat × AV)→(List AV→Option R)→Option R
 | cells,[],k=>k cells
 | cells,(i,v) :: rest,k=>match place i with
  | Option.none=>Option.none
  | some (off,size)=>v.cells? fun cs=>br (Nat.beq cs.length size) (br (Nat.ble (off + cs.length) cells.length) (fillC place (patch cells off cs) rest k) Option.none) Option.none
def partsOf (P : Program) (S : St) (ty : Nat→TypeId) : List (Nat × Operand)→List (Nat × AV)
 | []=>[]
 | (i,x) :: l=>(i,evT P S (ty i) x) :: partsOf P S ty l
def placesOf (P : Program) : List Field→Option (List (Nat × Nat))
 | []=>some []
 | f :: l=>match P.info? f.type with
  | some i=>(placesOf P l).bind fun r=>some ((f.offset,i.size) :: r)
  | Option.none=>Option.none
def nthP : List (Nat × Nat)→Nat→Option (Nat × Nat)
 | [],_=>Option.none
 | s :: _,0=>some s
 | _ :: l,n + 1=>nthP l n
def opBuild (P : Program) (t : TypeId) (parts : List (Nat × Operand)) (S : St) (k : AV→Option R) : Option R :=
 match zeroCells P t with
 | Option.none=>Option.none
 | some z=>match P.underlying t with
  | some (.struct fs)=>match placesOf P fs.toList with
   | some pl=>fillC (nthP pl) z (partsOf P S (fun i=>match fs.toList[i]? with
    | some f=>f.type
    | Option.none=>0) parts) fun cs=>k (.agg cs)
   | Option.none=>Option.none
  | some (.array _ e)=>match P.info? e with
   | some ie=>fillC (fun i=>some (i * ie.size,ie.size)) z (partsOf P S (fun _=>e) parts) fun cs=>k (.agg cs)
   | Option.none=>Option.none
  | _=>Option.none
def chunks (ag : Bool) (n : Nat) : Nat→List AV→List AV
 | 0,_=>[]
 | k + 1,cs=>pack ag (cs.take n) :: chunks ag n k (cs.drop n)
def replC (z : List AV) : Nat→List AV
 | 0=>[]
 | n + 1=>z ++ replC z n
def opBuildSlice (P : Program) (t : TypeId) (len : Nat) (parts : List (Nat × Operand)) (S : St) (k : AV→Option R) : Option R :=
 match tElem P t with
 | Option.none=>Option.none
 | some e=>match zeroCells P e with
  | Option.none=>Option.none
  | some z=>match Nat.beq (tSize P e) 0,Nat.ble (len * tSize P e) 16777216,Nat.beq z.length (tSize P e),(tAgg P e || Nat.beq (tSize P e) 1) with
   | false,true,true,true=>fillC (fun i=>some (i * tSize P e,tSize P e)) (replC z len) (partsOf P S (fun _=>e) parts) fun cs=>k (.vs (tSize P e) true (chunks (tAgg P e) (tSize P e) len cs))
   | _,_,_,_=>Option.none
def zeroOk (P : Program) (t : TypeId) : Bool := match tElem P t with
 | some e=>match zeroCells P e with
  | some z=>Nat.beq z.length (tSize P e)
  | Option.none=>false
 | Option.none=>false
def maxBytes : Nat := 140737488355328
def srcType (P : Program) (t : TypeId) : Bool := match P.underlying t with
 | some (.slice _)=>true
 | some .string=>true
 | _=>false
def opAppend (P : Program) (o : Oper) (st st2 : TypeId) (a b : Operand) (S : St) (k : St→Option R) : Option R :=
 match tElem P st,zeroOk P st with
 | some e,true=>match Nat.beq (tSize P e) 0,srcType P st2 with
  | false,true=>elemsOf (tAgg P e) (tSize P e) (evT P S st b) S fun l2 =>
   let fin (l : List AV) (S1 : St) : Option R := br (Nat.ble ((l.length + l2.length) * tBytes P e) maxBytes) (br (Nat.ble (l.length + l2.length) maxBytes) (match o.dst with
    | some _=>k (S1.unlent.putown o.dst (.vs (tSize P e) false (l ++ l2)) .own)
    | Option.none=>Option.none) Option.none) Option.none
   (evT P S st a).vs? fun z tg l=>match Nat.beq z (tSize P e) with
    | false=>Option.none
    | true=>match a with
     | .const _=>fin l S
     | .tmp t=>match S.slot t with
      | .val v .own=>fin l (S.put t (.val v .no))
      | .val _ (.lS q)=>match S.slot q with
       | .val u .own=>fin l (S.put q (.val u .no))
       | _=>br tg (fin l S) Option.none
      | .val _ (.lL d off)=>(getL S.L d).bind fun bl=>match memN off bl.free with
       | true=>fin l { S with L := setL S.L d ⟨bl.cells,delN off bl.free⟩ }
       | false=>br tg (fin l S) Option.none
      | .val _ (.lH id off)=>(S.H id).bind fun bl=>match memN off bl.free with
       | true=>fin l { S with H := S.H.set id ⟨bl.cells,delN off bl.free⟩ }
       | false=>br tg (fin l S) Option.none
      | _=>br tg (fin l S) Option.none
     | _=>Option.none
  | _,_=>Option.none
 | _,_=>Option.none
def AV.flat : AV→Bool
 | .int _ _=>true
 | .bool _=>true
 | .str _=>true
 | .nilp=>true
 | .nilI=>true
 | _=>false
def flatL : List AV→Bool
 | []=>true
 | a :: l=>match a.flat with
  | true=>flatL l
  | false=>false
def Slot.purge : Slot→Slot
 | .val v _=>match v.flat with
  | true=>.val v .no
  | false=>.und
 | _=>.und
def vsLen : AV→Nat
 | .vs _ _ l=>l.length
 | _=>0
def opAppendM (P : Program) (o : Oper) (st st2 : TypeId) (a b : Operand) (S : St) (k : St→Option R) : Option R := match o.dst with
 | Option.none=>Option.none
 | some d=>match tElem P st,zeroOk P st with
  | some e,true=>match tAgg P e,Nat.beq (tSize P e) 1,srcType P st2 with
   | false,true,true=>elemsOf false 1 (evT P S st b) S fun l2 =>
    (evT P S st a).vs? fun z tg l=>match l with
     | []=>br (tg && Nat.beq z 1) (br (Nat.ble (l2.length * tBytes P e) maxBytes) (br (Nat.ble l2.length maxBytes)
       (br (Nat.beq l2.length 0) (k (S.unlent.put d (.val (.vs 1 true []) .no)))
        (S.H.new? S.nx (k (({ S with H := S.H.set S.nx ⟨l2.flatMap AV.cells,[]⟩,nx := S.nx + 1 } : St).unlent.put d (.val (.arr S.nx 0 l2.length 1) .no))))) Option.none) Option.none) Option.none
     | _ :: _=>Option.none
   | _,_,_=>Option.none
  | _,_=>Option.none
def opAppendT (P : Program) (an : Ann) (o : Oper) (st st2 : TypeId) (a b : Operand) (S : St) (k : St→Option R) : Option R := match an.imp with
 | true=>Option.none
 | false=>match o.dst with
  | Option.none=>Option.none
  | some d=>opAppend P o st st2 a b S fun S1=>match (S1.slot d).av with
   | .vs z _ l=>br (Nat.beq z 1 && (flatL l && Nat.blt (vsLen (evT P S st a)) l.length)) (match S1.H with
    | []=>k ((⟨S1.sl.map Slot.purge,[],Hp.none.set S1.nx ⟨l,[]⟩,S1.nx + 1,[]⟩ : St).put d (.val (.arr S1.nx 0 l.length 1) .no))
    | _ :: _=>Option.none) Option.none
   | _=>Option.none
def lenOf (P : Program) (t : TypeId) (v : AV) (k : Nat→Option R) : Option R := match P.underlying t with
 | some .string=>v.str? fun s=>k s.length
 | some (.slice _)=>match v with
  | .vs _ _ l=>k l.length
  | .arr _ _ len _=>k len
  | _=>Option.none
 | some (.array n _)=>k n
 | _=>Option.none
def minMax (isMax : Bool) (P : Program) (S : St) : AV→List Operand→(AV→Option R)→Option R
 | x,[],k=>k x
 | x,y :: l,k=>x.int? fun i a=>(S.ev y).int? fun _ b=>minMax isMax P S (.int i (match isMax with
  | true=>if a < b then b else a
  | false=>if b < a then b else a)) l k
def opCopy (P : Program) (o : Oper) (dt : TypeId) (d s : Operand) (S : St) (k : St→Option R) : Option R :=
 match tElem P dt with
 | Option.none=>Option.none
 | some e=>match tAgg P e,Nat.beq (tSize P e) 1 with
  | false,true=>elemsOf false 1 (evT P S dt s) S fun l=>match evT P S dt d with
   | .arr id off len z=>match Nat.beq z 1 with
    | true=>(S.H id).bind fun b=>br (Nat.ble (off + len) b.cells.length)
      (k (({ S with H := S.H.set id ⟨patch b.cells off ((l.take (Nat.min l.length len)).flatMap AV.cells),cutN off (off + len) b.free⟩ } : St).unlent.putd o.dst (.val (.int .i64 (Nat.min l.length len : Nat)) .no))) Option.none
    | false=>Option.none
   | .vs _ _ []=>k (S.putd o.dst (.val (.int .i64 0) .no))
   | _=>Option.none
  | _,_=>Option.none
def opMake (P : Program) (o : Oper) (t : TypeId) (n c : Operand) (S : St) (k : St→Option R) : Option R :=
 match tElem P t with
 | Option.none=>Option.none
 | some e=>match zeroCells P e with
  | Option.none=>Option.none
  | some z=>match Nat.beq (tSize P e) 0,Nat.beq z.length (tSize P e) with
   | false,true=>(S.ev n).int? fun _ len=>(S.ev c).int? fun _ cap =>
    br (decide (0 ≤ len)) (br (decide (len ≤ cap)) (br (decide (cap * (tBytes P e : Int) ≤ 281474976710656)) (br (decide (cap ≤ 281474976710656))
     (br (decide (len = cap))
      (S.H.new? S.nx (k (({ S with H := S.H.set S.nx ⟨replC z len.toNat,[]⟩,nx := S.nx + 1 } : St).unlent.putd o.dst (.val (.arr S.nx 0 len.toNat (tSize P e)) .no))))
      (br (decide (len = 0)) (k (S.putown o.dst (.vs (tSize P e) false []) .own)) Option.none)) Option.none) Option.none) Option.none) Option.none
   | _,_=>Option.none
abbrev Oracle := Nat→List AV→Hp→Nat→Option Out
def getA : List (Nat × Ann)→Nat→Ann
 | [],_=>⟨[],false,[],[],[],[],[],[],[],[],false,[]⟩
 | (f,a) :: l,n=>match Nat.beq n f with
  | true=>a
  | false=>getA l n
def resFl (one : Bool) (rf : List Nat) : Fl := match one with
 | true=>match memN 0 rf with
  | true=>.own
  | false=>.no
 | false=>match rf with
  | []=>.no
  | l=>.comps l
def oneRes (P : Program) (f : Nat) : Bool := match P.funcs[f]? with
 | some fn=>Nat.beq fn.results.size 1
 | Option.none=>false
def opCall (P : Program) (A : List (Nat × Ann)) (cal : Oracle) (o : Oper) (fo : Operand) (tys : List TypeId) (args : List Operand) (S : St) (k : St→Option R) : Option R :=
 (S.ev fo).func? fun f caps=>match (getA A f).imp with
  | true=>(cal f (evsT P S tys args ++ caps) S.H S.nx).bind fun r =>
    k (({ S with H := r.H,nx := r.nx } : St).unlentH.putown o.dst r.v (resFl (oneRes P f) (getA A f).rf))
  | false=>br (pureL (evsT P S tys args ++ caps)) ((cal f (evsT P S tys args ++ caps) Hp.none 0).bind fun r =>
    br r.v.pure (k (S.putown o.dst r.v (resFl (oneRes P f) (getA A f).rf))) Option.none) Option.none
def opBuiltin (P : Program) (b : Builtin) (o : Oper) (tys : List TypeId) (args : List Operand) (S : St) (k : St→Option R) : Option R :=
 match b with
 | .len=>match tys,args with
  | [t],[x]=>lenOf P t (evT P S t x) fun n=>k (S.putd o.dst (.val (.int .i64 (n : Int)) .no))
  | _,_=>Option.none
 | .append=>match tys,args with
  | [t,t2],[a,b]=>opAppend P o t t2 a b S k
  | _,_=>Option.none
 | .copy=>match tys,args with
  | [t,_],[a,b]=>opCopy P o t a b S k
  | _,_=>Option.none
 | .min=>match args with
  | x :: l=>minMax false P S (S.ev x) l fun v=>k (S.putd o.dst (.val v .no))
  | _=>Option.none
 | .max=>match args with
  | x :: l=>minMax true P S (S.ev x) l fun v=>k (S.putd o.dst (.val v .no))
  | _=>Option.none
 | _=>Option.none
def opExtract (o : Oper) (x : Operand) (i : Nat) (S : St) (k : St→Option R) : Option R := match x with
 | .tmp t=>match S.slot t with
  | .val v f=>v.tup? fun l=>(nth l i).bind fun c=>match f with
   | .comps cs=>match memN i cs with
    | true=>k ((S.put t (.val v (.comps (delN i cs)))).putown o.dst c .own)
    | false=>k (S.putd o.dst (.val c .no))
   | _=>k (S.putd o.dst (.val c .no))
  | _=>Option.none
 | _=>Option.none
def opNilCheck (o : Oper) (x : Operand) (S : St) (k : St→Option R) : Option R := match x with
 | .tmp t=>match S.slot t with
  | .lp d off=>k (S.putd o.dst (.lp d off))
  | .val v _=>match v with
   | .ptr id off=>k (S.putd o.dst (.val (.ptr id off) .no))
   | .cptr cs=>k (S.putd o.dst (.val (.cptr cs) .no))
   | .func f []=>k (S.putd o.dst (.val (.func f []) .no))
   | _=>Option.none
  | _=>Option.none
 | .func f=>k (S.putd o.dst (.val (.func f []) .no))
 | _=>Option.none
def opPick (o : Oper) (c a b : Operand) (S : St) (k : St→Option R) : Option R :=
 (S.ev c).bool? fun t=>br t (k (S.putd o.dst (.val (S.ev a) .no))) (k (S.putd o.dst (.val (S.ev b) .no)))
def isCst (an : Ann) (o : Oper) : Bool := match o.dst with
 | some d=>memN d an.cst
 | Option.none=>false
def globOf (A : List (Nat × Ann)) (g : Nat) : Option (List AV) := getG (getA A 1000000).gl g
def opLoadA (P : Program) (A : List (Nat × Ann)) (o : Oper) (t : TypeId) (a : Operand) (S : St) (k : St→Option R) : Option R := match a with
 | .global g=>(globOf A g).bind fun cs=>tAggK P t fun ag=>partOf ag (tSize P t) cs 0 fun v=>k (S.putd o.dst (.val v .no))
 | a=>opLoad P o t a S k
def idxG (P : Program) (t : TypeId) (cs : List AV) (i : Int) (k : AV→Option R) : Option R := match P.underlying t with
 | some (.array len e)=>match Nat.beq (tSize P e) 0 with
  | true=>Option.none
  | false=>br (decide (0 ≤ i)) (br (decide (i < (len : Int))) (br (Nat.ble (i.toNat * tSize P e) cs.length) (k (.cptr (cs.drop (i.toNat * tSize P e)))) Option.none) Option.none) Option.none
 | _=>Option.none
def opIndexAddrA (P : Program) (A : List (Nat × Ann)) (o : Oper) (t : TypeId) (x ix : Operand) (S : St) (k : St→Option R) : Option R := match x with
 | .global g=>(globOf A g).bind fun cs=>(S.ev ix).int? fun _ i=>idxG P t cs i fun v=>k (S.putd o.dst (.val v .no))
 | x=>opIndexAddr P o t x ix S k
def opIface (P : Program) (t : TypeId) (v : AV) (k : AV→Option R) : Option R := match P.underlying t with
 | some (.interface _)=>Option.none
 | some _=>k (.iface t v)
 | Option.none=>Option.none
def opMakeMap (P : Program) (o : Oper) (_t : TypeId) (S : St) (k : St→Option R) : Option R := match o.dst with
 | some d=>match getL S.L d with
  | Option.none=>k (({ S with M := setM S.M d [],sl := S.sl.map (dropLp d) } : St).unlent.put d (.mp d))
  | some _=>Option.none
 | Option.none=>Option.none
def mFind (key : AV) : List (AV × AV)→(Option AV→Option R)→Option R
 | [],k=>k Option.none
 | (a,v) :: l,k=>eq1 key a fun e=>match e with
  | true=>k (some v)
  | false=>mFind key l k
def mIns (key v : AV) : List (AV × AV)→List (AV × AV)
 | []=>[(key,v)]
 | (a,u) :: l=>match (eq1 key a fun e=>match e with
   | true=>some ()
   | false=>Option.none) with
  | some _=>(key,v) :: l
  | Option.none=>(a,u) :: mIns key v l
def mScal (P : Program) (t : TypeId) : List (AV × AV)→Bool
 | []=>true
 | (a,_) :: l=>match scal P t a with
  | true=>mScal P t l
  | false=>false
def opMapUpdate (P : Program) (t : TypeId) (m key v : Operand) (S : St) (k : St→Option R) : Option R := match P.underlying t with
 | some (.map kt et)=>match m with
  | .tmp tm=>match S.slot tm with
   | .mp d=>(getM S.M d).bind fun l=>br (scal P kt (evT P S kt key) && mScal P kt l) (mFind (evT P S kt key) l fun _ =>
     k ({ S with M := setM S.M d (mIns (evT P S kt key) (evT P S et v) l) } : St)) Option.none
   | _=>Option.none
  | _=>Option.none
 | _=>Option.none
def zeroAV (P : Program) (t : TypeId) (k : AV→Option R) : Option R := match P.info? t with
 | some i=>match i.zero with
  | some z=>k (ofConst P t z)
  | Option.none=>Option.none
 | Option.none=>Option.none
def lookRes (o : Oper) (ok : Bool) (S : St) (v : AV) (b : Bool) (k : St→Option R) : Option R := match ok with
 | true=>k (S.putd o.dst (.val (.tuple [v,.bool b]) .no))
 | false=>k (S.putd o.dst (.val v .no))
def opLookup (P : Program) (o : Oper) (t : TypeId) (x ix : Operand) (ok : Bool) (S : St) (k : St→Option R) : Option R := match P.underlying t with
 | some (.map kt et)=>match x with
  | .tmp tm=>match S.slot tm with
   | .mp d=>(getM S.M d).bind fun l=>br (scal P kt (evT P S kt ix) && mScal P kt l) (mFind (evT P S kt ix) l fun r =>
match r with
     | some v=>lookRes o ok S v true k
     | Option.none=>zeroAV P et fun z=>lookRes o ok S z false k) Option.none
   | _=>Option.none
  | _=>Option.none
 | _=>Option.none
def absOp (P : Program) (A : List (Nat × Ann)) (an : Ann) (isRes : Nat→Bool) (cal : Oracle) (o : Oper) (S : St) (k : St→Option R) : Option R :=
 match o.op with
 | .move x=>opMove P o x S k
 | .assign x=>opAssign P isRes o x S k
 | .pick c a b=>opPick o c a b S k
 | .alloc e=>match zeroCells P e with
  | some z=>opNew an o z (tightPlaces 0 z) S k
  | Option.none=>Option.none
 | .box e x=>match isCst an o with
  | true=>(evT P S e x).cells? fun cs=>br (Nat.ble cs.length 16777216) (k (S.putd o.dst (.val (.cptr cs) .no))) Option.none
  | false=>(evT P S e x).cells? fun cs=>opNew an o cs (tightPlaces 0 cs) S k
 | .build t parts=>opBuild P t parts.toList S fun v=>k (S.putd o.dst (.val v .no))
 | .buildSlice t len parts=>opBuildSlice P t len parts.toList S fun v=>k (S.putd o.dst (.val v .no))
 | .load t a=>opLoadA P A o t a S k
 | .store t a x=>match o.dst with
  | Option.none=>opStore P t a x S k
  | some _=>Option.none
 | .nilCheck x=>opNilCheck o x S k
 | .binOp op t x y _=>opBinT P op t (isConst x) (isConst y) (S.ev x) (S.ev y) fun v=>k (S.putd o.dst (.val v .no))
 | .makeInterface t x=>opIface P t (evT P S t x) fun v=>k (S.putd o.dst (.val v .no))
 | .makeMap t r=>match r with
  | Option.none=>opMakeMap P o t S k
  | some _=>Option.none
 | .insert t m key v=>match o.dst with
  | Option.none=>opMapUpdate P t m key v S k
  | some _=>Option.none
 | .mapUpdate t m key v=>match o.dst with
  | Option.none=>opMapUpdate P t m key v S k
  | some _=>Option.none
 | .lookup t x i ok=>opLookup P o t x i ok S k
 | .unOp op _ x=>opUn op (S.ev x) fun v=>k (S.putd o.dst (.val v .no))
 | .convert s d x=>opConvert P o s d (evT P S s x) S k
 | .makeSlice t n c=>opMake P o t n c S k
 | .slice t x lo hi mx=>opSlice P o t x lo hi mx S k
 | .fieldAddr t x f=>opFieldAddr P o t x f S k
 | .field t x f=>opField P t (S.ev x) f fun v=>k (S.putd o.dst (.val v .no))
 | .indexAddr t x i=>opIndexAddrA P A o t x i S k
 | .index t x i=>opIndex P t (S.ev x) (S.ev i) fun v=>k (S.putd o.dst (.val v .no))
 | .extract x i=>opExtract o x i S k
 | .call c=>match c.callee with
  | .builtin b=>opBuiltin P b o c.argTypes.toList c.args.toList S k
  | .value f=>opCall P A cal o f c.argTypes.toList c.args.toList S k
  | .invoke _ _=>Option.none
 | _=>Option.none
def mutK (an : Ann) (o : Oper) : Nat := match o.dst with
 | Option.none=>0
 | some d=>match memN d an.mem with
  | true=>1
  | false=>match memN d an.thaw with
   | true=>2
   | false=>0
def absOpM (P : Program) (A : List (Nat × Ann)) (an : Ann) (isRes : Nat→Bool) (cal : Oracle) (o : Oper) (S : St) (k : St→Option R) : Option R := match mutK an o with
 | 0=>absOp P A an isRes cal o S k
 | m + 1=>match o.op with
  | .call c=>match c.callee with
   | .builtin b=>match b with
    | .append=>match c.argTypes.toList,c.args.toList with
     | [t,t2],[x,y]=>match m with
      | 0=>opAppendM P o t t2 x y S k
      | _ + 1=>opAppendT P an o t t2 x y S k
     | _,_=>Option.none
    | _=>Option.none
   | _=>Option.none
  | _=>Option.none
def dstOf : List Oper→Nat→Option Nat
 | [],_=>Option.none
 | o :: _,0=>o.dst
 | _ :: l,n + 1=>dstOf l n
def absOps (P : Program) (A : List (Nat × Ann)) (an : Ann) (isRes : Nat→Bool) (cal : Oracle) (all : List Oper) : List Oper→St→(St→Option R)→Option R
 | [],S,k=>k S
 | o :: os,S,k=>match o.guard with
  | Option.none=>absOpM P A an isRes cal o S fun S'=>absOps P A an isRes cal all os S' k
  | some (j,want)=>match dstOf all j with
   | Option.none=>Option.none
   | some d=>(S.slot d).av.guard? (fun b=>br b
     (match want with
      | true=>absOpM P A an isRes cal o (S.put d (.val (.bool true) .no)) fun S'=>absOps P A an isRes cal all os S' k
      | false=>absOps P A an isRes cal all os ((S.put d (.val (.bool true) .no)).putd o.dst (.val (.tuple []) .no)) k)
     (match want with
      | false=>absOpM P A an isRes cal o (S.put d (.val (.bool false) .no)) fun S'=>absOps P A an isRes cal all os S' k
      | true=>absOps P A an isRes cal all os ((S.put d (.val (.bool false) .no)).putd o.dst (.val (.tuple []) .no)) k))
    (absOps P A an isRes cal all os (S.putd o.dst (.val (.tuple []) .no)) k)
def maskS (l : List Nat) : Nat→List Slot→List Slot
 | _,[]=>[]
 | i,s :: r=>(match memN i l with
  | true=>match s with
   | .val v _=>.val v .no
   | _=>.und
  | false=>.und) :: maskS l (i + 1) r
def St.mask (S : St) (l : List Nat) : St := ⟨maskS l 0 S.sl,[],Hp.none,0,[]⟩
def clOf (A : List (Nat × Ann)) (eb : Bool) (o : Oper) : Nat := match o.op with
 | .move x=>match x with
  | .tmp _=>0
  | _=>1
 | .pick _ _ _=>1
 | .binOp _ _ _ _ _=>1
 | .unOp _ _ _=>1
 | .makeInterface _ _=>1
 | .convert _ _ _=>1
 | .slice _ _ _ _ _=>1
 | .field _ _ _=>1
 | .fieldAddr _ _ _=>1
 | .nilCheck _=>1
 | .index _ _ _=>1
 | .indexAddr _ _ _=>1
 | .load _ _=>1
 | .build _ _=>1
 | .buildSlice _ _ _=>1
 | .extract _ _=>2
 | .assign _=>3
 | .alloc _=>match o.guard with
  | Option.none=>6
  | some _=>5
 | .store _ _ _=>7
 | .makeSlice _ _ _=>match o.guard with
  | Option.none=>4
  | some _=>3
 | .call c=>match c.callee with
  | .builtin b=>match b with
   | .len=>1
   | .min=>1
   | .max=>1
   | .append=>match eb with
    | true=>2
    | false=>match c.args.toList with
     | .const _ :: _=>2
     | _=>3
   | _=>5
  | .value f=>match f with
   | .func g=>match (getA A g).imp with
    | true=>3
    | false=>2
   | _=>5
  | _=>5
 | _=>5
def isVal (c : Nat) : Bool := Nat.blt c 3
def depsM (T : List Nat) : List Edge→Nat
 | []=>0
 | e :: l=>match Region.binds .any e with
  | true=>Nat.lor (Nat.lor (2 ^ e.on) (nthN T e.on)) (depsM T l)
  | false=>depsM T l
def depsT : List Oper→List Nat→List Nat
 | [],T=>T
 | o :: l,T=>depsT l (T ++ [depsM T o.after.toList])
structure OI where
 cl : Nat
 lk : List Nat
 ds : List Nat
 pre : Nat
 wb : List Nat
 hr : Bool
 nh : Bool
 kc : Bool
def defOf : List Oper→Nat→Option Operand
 | [],_=>Option.none
 | o :: l,t=>match o.dst with
  | some d=>match Nat.beq d t with
   | true=>match o.op with
    | .fieldAddr _ x _=>some x
    | .nilCheck x=>some x
    | .move x=>some x
    | .indexAddr _ x _=>some x
    | _=>Option.none
   | false=>defOf l t
  | Option.none=>defOf l t
def baseOf (all : List Oper) : Nat→Nat→Nat
 | 0,t=>t
 | n + 1,t=>match defOf all t with
  | some x=>match x with
   | .tmp s=>baseOf all n s
   | _=>t
  | Option.none=>t
def emptyDef : List Oper→Nat→Bool
 | [],_=>false
 | o :: l,t=>match o.dst with
  | some d=>match Nat.beq d t with
   | true=>match o.op with
    | .buildSlice _ n _=>Nat.beq n 0
    | _=>false
   | false=>emptyDef l t
  | Option.none=>emptyDef l t
def eArg (all : List Oper) (o : Oper) : Bool := match o.op with
 | .call c=>match c.args.toList with
  | x :: _=>match x with
   | .tmp t=>emptyDef all t
   | _=>false
  | _=>false
 | _=>false
def dsL (o : Oper) : List Nat := match o.dst with
 | some d=>[d]
 | Option.none=>[]
def wbOf (all : List Oper) (o : Oper) : List Nat := match o.op with
 | .alloc _=>dsL o
 | .store _ a _=>match a with
  | .tmp ta=>[baseOf all 8 ta]
  | _=>[]
 | _=>[]
def hrOf (o : Oper) : Bool := match o.op with
 | .load _ _=>true
 | .convert _ _ _=>true
 | _=>false
def roOf (A : List (Nat × Ann)) (o : Oper) : Bool := match o.op with
 | .call c=>match c.callee with
  | .value f=>match f with
   | .func g=>(getA A g).ro
   | _=>false
  | _=>false
 | _=>false
def nhOf (A : List (Nat × Ann)) (o : Oper) : Bool := match o.op with
 | .alloc _=>true
 | .store _ _ _=>true
 | .assign _=>true
 | .call c=>match c.callee with
  | .builtin b=>match b with
   | .append=>true
   | _=>false
  | .value f=>match f with
   | .func g=>(getA A g).ro
   | _=>false
  | _=>false
 | _=>false
def kcOf (A : List (Nat × Ann)) (o : Oper) : Bool := match o.op with
 | .call c=>match c.callee with
  | .value f=>match f with
   | .func g=>(getA A g).imp
   | _=>false
  | _=>false
 | _=>false
def oiOf (A : List (Nat × Ann)) (all : Array Oper) (m : Nat) (o : Oper) : OI := ⟨clOf A (eArg all.toList o) o,o.looksAt all,dsL o,m,wbOf all.toList o,hrOf o,nhOf A o,kcOf A o⟩
def oisOf (A : List (Nat × Ann)) (all : Array Oper) : List Nat→List Oper→List OI
 | m :: T,o :: l=>oiOf A all m o :: oisOf A all T l
 | _,_=>[]
def apartN : List Nat→List Nat→Bool
 | [],_=>true
 | a :: l,m=>match memN a m with
  | true=>false
  | false=>apartN l m
def mayEx (x y : OI) : Bool := (apartN x.ds y.lk && (apartN x.ds y.ds && apartN y.ds x.lk)) && (match isVal x.cl,isVal y.cl with
 | true,true=>true
 | true,false=>Nat.blt y.cl 5 || (Nat.beq y.cl 6 || Nat.beq y.cl 7)
 | false,true=>Nat.blt x.cl 5
 | false,false=>(Nat.beq x.cl 4 && Nat.beq y.cl 4) || (Nat.beq x.cl 6 && Nat.beq y.cl 6))
def exAll (y : OI) : Nat→List OI→Bool
 | _,[]=>true
 | j,x :: l=>(Nat.testBit y.pre j || mayEx x y) && exAll y (j + 1) l
def dagOk : List OI→List OI→Bool
 | _,[]=>true
 | bef,y :: l=>(exAll y 0 bef && (match y.ds with
  | []=>!isVal y.cl
  | _=>true)) && dagOk (bef ++ [y]) l
def edgesOk : Nat→List Oper→Bool
 | _,[]=>true
 | i,o :: l=>o.after.toList.all (fun e=>!Region.binds .any e || Nat.blt e.on i) && edgesOk (i + 1) l
def fixedOf (all : List OI) (i : Nat) (x : OI) : Nat→List OI→Bool
 | _,[]=>true
 | j,y :: l=>(isVal y.cl || (Nat.beq j i || (Nat.testBit x.pre j || Nat.testBit y.pre i))) && fixedOf all i x (j + 1) l
def fhOf (i : Nat) (x : OI) : Nat→List OI→Bool
 | _,[]=>true
 | j,y :: l=>(isVal y.cl || (y.nh || (Nat.beq j i || (Nat.testBit x.pre j || Nat.testBit y.pre i)))) && fhOf i x (j + 1) l
def wsOf (i : Nat) (x : OI) : Nat→List OI→List Nat
 | _,[]=>[]
 | j,y :: l=>match y.wb with
  | []=>wsOf i x (j + 1) l
  | b :: bs=>match (Nat.beq j i || (Nat.testBit x.pre j || Nat.testBit y.pre i)) with
   | true=>wsOf i x (j + 1) l
   | false=>(b :: bs) ++ wsOf i x (j + 1) l
def hzOf (i : Nat) (x : OI) : Nat→List OI→Bool
 | _,[]=>true
 | j,y :: l=>(!isVal y.cl || (!y.hr || (Nat.beq j i || (Nat.testBit x.pre j || Nat.testBit y.pre i)))) && hzOf i x (j + 1) l
def flOf (i : Nat) (x : OI) : Nat→List OI→Bool
 | _,[]=>true
 | j,y :: l=>(isVal y.cl || (y.kc || (Nat.beq j i || (Nat.testBit x.pre j || Nat.testBit y.pre i)))) && flOf i x (j + 1) l
structure Fx where
 fx : Bool
 fh : Bool
 ws : List Nat
 hz : Bool
 fl : Bool
def fxOf (ois : List OI) (i : Nat) (x : OI) : Fx := ⟨fixedOf ois i x 0 ois,x.hr && fhOf i x 0 ois,wsOf i x 0 ois,hzOf i x 0 ois,x.hr && flOf i x 0 ois⟩
def locLoad (o : Oper) (S : St) : Bool := match o.op with
 | .load _ x=>match x with
  | .tmp t=>match S.slot t with
   | .lp _ _=>true
   | _=>false
  | _=>false
 | _=>false
def Slot.bare : Slot→Slot
 | .val v _=>.val v .no
 | s=>s
def St.bareAt (S : St) : Option Nat→St
 | some d=>S.put d (S.slot d).bare
 | Option.none=>S
def floatOk (o : Oper) (S : St) : Bool := match o.op with
 | .load _ x=>match x with
  | .tmp t=>match S.slot t with
   | .lp _ _=>true
   | _=>false
  | .global _=>true
  | _=>false
 | .convert _ _ x=>match x with
  | .tmp t=>match S.slot t with
   | .val v _=>match v with
    | .arr _ _ _ _=>false
    | _=>true
   | _=>true
  | _=>true
 | _=>true
def notLent (S : St) (D : List Nat) : List Nat→Bool
 | []=>true
 | t :: l=>(match S.slot t with
  | .val _ f=>match f with
   | .lS q=>!memN q D
   | _=>true
  | _=>true) && notLent S D l
def catOk (o : Oper) (fx : Bool) (S : St) : Bool := match o.op with
 | .call c=>match c.callee with
  | .builtin b=>match b with
   | .append=>match c.argTypes.toList,c.args.toList with
    | [_,_],[x,y]=>match x with
     | .const _=>match y with
      | .tmp t=>match (S.slot t).av with
       | .arr _ _ _ _=>fx
       | _=>false
      | _=>false
     | _=>false
    | _,_=>false
   | _=>false
  | _=>false
 | _=>false
def opCat (P : Program) (o : Oper) (S : St) (k : AV→Option R) : Option R := match o.op with
 | .call c=>match c.callee with
  | .builtin b=>match b with
   | .append=>match c.argTypes.toList,c.args.toList with
    | [st,st2],[x,y]=>match x with
     | .const cc=>match tElem P st,zeroOk P st with
      | some e,true=>match tAgg P e,Nat.beq (tSize P e) 1,srcType P st2 with
       | false,true,true=>elemsOf false 1 (evT P S st y) S fun l2 =>
        (evT P S st (.const cc)).vs? fun z _ l=>match l with
         | []=>br (Nat.beq z 1 && pureL l2) (br (Nat.ble (l2.length * tBytes P e) maxBytes) (br (Nat.ble l2.length maxBytes) (k (.vs 1 false l2)) Option.none) Option.none) Option.none
         | _ :: _=>Option.none
       | _,_,_=>Option.none
      | _,_=>Option.none
     | _=>Option.none
    | _,_=>Option.none
   | _=>Option.none
  | _=>Option.none
 | _=>Option.none
def noBoxL (S : St) (ws : List Nat) : List Nat→Bool
 | []=>true
 | t :: l=>match (match S.slot t with
   | .lp e _=>memN e ws
   | .mp e=>memN e ws
   | _=>false) with
  | true=>false
  | false=>noBoxL S ws l
def noBox (S : St) (ws l : List Nat) : Bool := match ws with
 | []=>true
 | b :: bs=>noBoxL S (b :: bs) l
def stOk (fz : Fx) (x : OI) (o : Oper) (S : St) : Bool := match o.op with
 | .store _ a _=>match a with
  | .tmp ta=>match S.slot ta with
   | .lp e _=>memN e x.wb
   | _=>fz.hz
  | _=>false
 | _=>false
noncomputable def dop (P : Program) (A : List (Nat × Ann)) (an : Ann) (isRes : Nat→Bool) (cal : Oracle) (D : List Nat) (i : Nat) (fz : Fx) (x : OI) (o : Oper) (S : St) (k : St→Option R) : Option R :=
 match x.cl with
 | 0=>match fz.fx with
  | true=>absOp P A an isRes cal o S k
  | false=>absOp P A an isRes cal o S fun S'=>k (S'.bareAt o.dst)
 | 1=>match fz.fx with
  | true=>absOp P A an isRes cal o S k
  | false=>match fz.fl && locLoad o S with
   | true=>absOp P A an isRes cal o S k
   | false=>br (fz.fh || floatOk o S) (absOp P A an isRes cal o S fun S'=>k (S'.bareAt o.dst)) Option.none
 | 2=>match o.dst with
  | Option.none=>Option.none
  | some d=>match catOk o fz.fx S with
   | true=>br (Nat.blt d S.sl.length) (opCat P o S fun v=>k (S.put d (.val v .no))) Option.none
   | false=>br (Nat.blt d S.sl.length && pureL (x.lk.map fun t=>(S.slot t).av)) (absOp P A an isRes cal o (S.mask x.lk) fun S'=>match S'.slot d with
    | .val v _=>br v.pure (k (S.put d (.val v .no))) Option.none
    | _=>Option.none) Option.none
 | 4=>match o.dst with
  | Option.none=>Option.none
  | some d=>absOp P A an isRes cal o { S with nx := S.nx + i } fun S'=>match S'.slot d with
   | .val v _=>match v with
    | .arr _ _ _ _=>k { S' with nx := S.nx }
    | _=>Option.none
   | _=>Option.none
 | 6=>match o.dst with
  | Option.none=>Option.none
  | some d=>absOp P A an isRes cal o S fun S'=>match S'.slot d with
   | .lp e _=>br (Nat.beq e d) (k S') Option.none
   | _=>Option.none
 | 7=>br (stOk fz x o S) (absOp P A an isRes cal o S k) Option.none
 | _=>match roOf A o with
  | false=>br (notLent S D x.lk) (absOp P A an isRes cal o S k) Option.none
  | true=>br (notLent S D x.lk) (absOp P A an isRes cal o S fun S'=>br (@decide (S'.H = S.H) (Classical.propDecidable _)) (k S') Option.none) Option.none
noncomputable def dstep0 (P : Program) (A : List (Nat × Ann)) (an : Ann) (isRes : Nat→Bool) (cal : Oracle) (all : List Oper) (D : List Nat) (i : Nat) (fz : Fx) (x : OI) (o : Oper) (S : St) (k : St→Option R) : Option R :=
 match o.guard with
 | Option.none=>dop P A an isRes cal D i fz x o S k
 | some (j,want)=>match dstOf all j with
  | Option.none=>Option.none
  | some d=>match S.slot d with
   | .val v f=>match v with
    | .bool b=>br b
     (match want with
      | true=>dop P A an isRes cal D i fz x o (S.put d (.val (.bool true) f)) k
      | false=>k ((S.put d (.val (.bool true) f)).putd o.dst (.val (.tuple []) .no)))
     (match want with
      | false=>dop P A an isRes cal D i fz x o (S.put d (.val (.bool false) f)) k
      | true=>k ((S.put d (.val (.bool false) f)).putd o.dst (.val (.tuple []) .no)))
    | .tuple l=>match l with
     | []=>k (S.putd o.dst (.val (.tuple []) .no))
     | _=>Option.none
    | _=>Option.none
   | _=>Option.none
def chk (fz : Fx) (x : OI) (S : St) (l : List Nat) : Bool := match isVal x.cl with
 | false=>true
 | true=>match fz.fx with
  | true=>true
  | false=>noBox S fz.ws l
def needs (fz : Fx) (x : OI) : Bool := match isVal x.cl with
 | false=>false
 | true=>match fz.fx with
  | true=>false
  | false=>match fz.ws with
   | []=>false
   | _ :: _=>true
noncomputable def dstep (P : Program) (A : List (Nat × Ann)) (an : Ann) (isRes : Nat→Bool) (cal : Oracle) (all : List Oper) (D : List Nat) (i : Nat) (fz : Fx) (x : OI) (o : Oper) (S : St) (k : St→Option R) : Option R :=
 match needs fz x with
 | false=>dstep0 P A an isRes cal all D i fz x o S k
 | true=>br (chk fz x S x.lk) (dstep0 P A an isRes cal all D i fz x o S fun S'=>br (chk fz x S' x.ds) (k S') Option.none) Option.none
noncomputable def dsteps (P : Program) (A : List (Nat × Ann)) (an : Ann) (isRes : Nat→Bool) (cal : Oracle) (all : List Oper) (D : List Nat) (ois : List OI) : Nat→List OI→List Oper→St→(St→Option R)→Option R
 | i,x :: xs,o :: os,S,k=>dstep P A an isRes cal all D i (fxOf ois i x) x o S fun S'=>dsteps P A an isRes cal all D ois (i + 1) xs os S' k
 | _,_,_,S,k=>k S
def valDsts : List OI→List Nat
 | []=>[]
 | x :: l=>match isVal x.cl with
  | true=>x.ds ++ valDsts l
  | false=>valDsts l
def anyMake : List OI→Bool
 | []=>false
 | x :: l=>Nat.beq x.cl 4 || anyMake l
noncomputable def absDag (P : Program) (A : List (Nat × Ann)) (an : Ann) (isRes : Nat→Bool) (cal : Oracle) (all : Array Oper) (S : St) (k : St→Option R) : Option R :=
 br (edgesOk 0 all.toList && dagOk [] (oisOf A all (depsT all.toList []) all.toList))
  (dsteps P A an isRes cal all.toList (valDsts (oisOf A all (depsT all.toList []) all.toList)) (oisOf A all (depsT all.toList []) all.toList) 0 (oisOf A all (depsT all.toList []) all.toList) all.toList S fun S' =>
   k (match anyMake (oisOf A all (depsT all.toList []) all.toList) with
    | true=>{ S' with nx := S'.nx + all.size }
    | false=>S')) Option.none
def resSlots : List ResultVar→List Nat
 | []=>[]
 | .tmp t :: l=>t :: resSlots l
 | _ :: l=>resSlots l
def resVals (P : Program) (S : St) : List ResultVar→Option (List AV)
 | []=>some []
 | .tmp t :: l=>match S.slot t with
  | .val v _=>(resVals P S l).bind fun r=>some (v :: r)
  | _=>Option.none
 | .cell t ty :: l=>match S.slot t with
  | .lp d off=>(getL S.L d).bind fun b=>tAggK P ty fun ag=>partOf ag (tSize P ty) b.cells off fun v=>(resVals P S l).bind fun r=>some (v :: r)
  | _=>Option.none
def resOwn (S : St) (rs : List ResultVar) : List Nat→Bool
 | []=>true
 | j :: l=>match rs[j]? with
  | some (.tmp t)=>match S.slot t with
   | .val v .own=>resOwn (S.put t (.val v .no)) rs l
   | _=>false
  | _=>false
def absRet (P : Program) (an : Ann) (rs : List ResultVar) (S : St) : Option Out :=
 match resOwn S rs an.rf with
 | false=>Option.none
 | true=>(resVals P S rs).bind fun vs=>match vs with
  | [v]=>some ⟨v,S.H,S.nx⟩
  | l=>some ⟨.tuple l,S.H,S.nx⟩
def start : Nat→List AV→List Slot
 | 0,_=>[]
 | n + 1,[]=>.und :: start n []
 | n + 1,a :: l=>.val a .no :: start n l
def AV.keepI (id : Nat) : AV→Bool
 | .ptr i _=>!Nat.beq i id
 | .arr i _ _ _=>!Nat.beq i id
 | v=>v.pure
def cellsI (id : Nat) : List AV→Bool
 | []=>true
 | c :: l=>match c.keepI id with
  | true=>cellsI id l
  | false=>false
def AV.keepF (id : Nat) : AV→Bool
 | .ptr i _=>!Nat.beq i id
 | .arr i _ _ _=>!Nat.beq i id
 | v=>v.flat
def Slot.without (id : Nat) : Slot→Slot
 | .val v _=>match v.keepF id with
  | true=>.val v .no
  | false=>.und
 | _=>.und
def blksI (id : Nat) : List (Nat × Blk)→Bool
 | []=>true
 | (i,b) :: l=>match Nat.beq i id with
  | true=>blksI id l
  | false=>match cellsI id b.cells with
   | true=>blksI id l
   | false=>false
def remH (id : Nat) : List (Nat × Blk)→List (Nat × Blk)
 | []=>[]
 | (i,b) :: l=>match Nat.beq i id with
  | true=>remH id l
  | false=>(i,b) :: remH id l
def wI (id : Nat) (v : AV) : AV := match v.keepI id with
 | true=>v
 | false=>.undef
def blkW (id : Nat) (x : Nat × Blk) : Nat × Blk := (x.1,⟨x.2.cells.map (wI id),x.2.free⟩)
def St.frz (s : Nat) (S : St) (k : St→Option R) : Option R := match S.slot s with
 | .val v _=>match v with
  | .arr id off len z=>(S.H id).bind fun b=>match Nat.beq z 1 with
   | true=>br (Nat.ble (off + len) b.cells.length && (flatL b.cells && blksI id S.H))
    (k ((⟨S.sl.map (Slot.without id),[],remH id S.H,S.nx,[]⟩ : St).put s (.val (.vs 1 false ((b.cells.drop off).take len)) .no))) Option.none
   | false=>br (Nat.blt 0 z && (Nat.ble (off + len * z) b.cells.length && flatL b.cells))
    (k ((⟨S.sl.map (Slot.without id),[],(remH id S.H).map (blkW id),S.nx,[]⟩ : St).put s (.val (.vs z false (chunks true z len ((b.cells.drop off).take (len * z)))) .no))) Option.none
  | _=>Option.none
 | _=>Option.none
def frzAll (imp : Bool) : List (Nat × Nat)→Nat→St→(St→Option R)→Option R
 | [],_,S,k=>k S
 | (r,s) :: l,id,S,k=>match Nat.beq r id with
  | true=>match imp with
   | true=>Option.none
   | false=>S.frz s fun S'=>frzAll imp l id S' k
  | false=>frzAll imp l id S k
def idxN : List (Nat × Nat)→Nat→Option Nat
 | [],_=>Option.none
 | (o,n) :: l,i=>match Nat.beq o i with
  | true=>some n
  | false=>idxN l i
def revN : List (Nat × Nat)→Nat→Option Nat
 | [],_=>Option.none
 | (o,n) :: l,i=>match Nat.beq n i with
  | true=>some o
  | false=>revN l i
def nodupN : List Nat→Bool
 | []=>true
 | a :: l=>match memN a l with
  | true=>false
  | false=>nodupN l
def renV (π : List (Nat × Nat)) : AV→AV
 | .ptr i off=>match idxN π i with
  | some j=>.ptr j off
  | Option.none=>.undef
 | .arr i off len z=>match idxN π i with
  | some j=>.arr j off len z
  | Option.none=>.undef
 | v=>v
def AV.okN : AV→Bool
 | .ptr _ _=>true
 | .arr _ _ _ _=>true
 | v=>v.pure
def cellsN : List AV→Bool
 | []=>true
 | c :: l=>match c.okN with
  | true=>cellsN l
  | false=>false
def slotsN : List Slot→Bool
 | []=>true
 | s :: l=>match (match s with
   | .val v _=>v.okN
   | _=>true) with
  | true=>slotsN l
  | false=>false
def renS (π : List (Nat × Nat)) : Slot→Slot
 | .val v _=>.val (renV π v) .no
 | _=>.und
def nrmH (π : List (Nat × Nat)) (H : Hp) : List (Nat × Nat)→Hp→(Hp→Option R)→Option R
 | [],acc,k=>k acc
 | (o,n) :: l,acc,k=>(H o).bind fun b=>br (cellsN b.cells) (nrmH π H l (acc.set n ⟨b.cells.map (renV π),b.free⟩) k) Option.none
def idOf : AV→Option Nat
 | .ptr i _=>some i
 | .arr i _ _ _=>some i
 | _=>Option.none
def nrmIds (S : St) : List (Nat × Nat × Nat)→List (Nat × Nat)→(List (Nat × Nat)→Option R)→Option R
 | [],π,k=>k π
 | (n,a,b) :: l,π,k=>match a with
  | 0=>(idOf (S.slot b).av).bind fun o=>nrmIds S l ((o,n) :: π) k
  | i + 1=>(revN π i).bind fun o=>(S.H o).bind fun blk=>(nth blk.cells b).bind fun v=>(idOf v).bind fun o'=>nrmIds S l ((o',n) :: π) k
def fstN : List (Nat × Nat)→List Nat
 | []=>[]
 | (o,_) :: l=>o :: fstN l
def sndN : List (Nat × Nat)→List Nat
 | []=>[]
 | (_,n) :: l=>n :: sndN l
def tightH : List (Nat × Nat)→Hp→(Hp→Option R)→Option R
 | [],H,k=>k H
 | (n,c) :: l,H,k=>(H n).bind fun b=>(nth b.cells c).bind fun v=>match v with
  | .vs _ tg _=>br tg (tightH l (H.set n ⟨b.cells,insN c b.free⟩) k) Option.none
  | _=>Option.none
def St.nrm (S : St) (nx : Nat) (steps : List (Nat × Nat × Nat)) (ti : List (Nat × Nat)) (k : St→Option R) : Option R :=
 nrmIds S steps [] fun π=>br (nodupN (fstN π) && (nodupN (sndN π) && slotsN S.sl)) (nrmH π S.H π Hp.none fun H'=>tightH ti H' fun H2=>k ⟨S.sl.map (renS π),[],H2,nx,[]⟩) Option.none
def nrmAll (imp : Bool) : List (Nat × Nat × List (Nat × Nat × Nat) × List (Nat × Nat))→Nat→St→(St→Option R)→Option R
 | [],_,S,k=>k S
 | (r,nx,steps,ti) :: l,id,S,k=>match Nat.beq r id with
  | true=>match imp with
   | true=>Option.none
   | false=>S.nrm nx steps ti fun S'=>nrmAll imp l id S' k
  | false=>nrmAll imp l id S k
def AV.okD (m : Nat) : AV→Bool
 | .ptr i _=>Nat.blt i m
 | .arr i _ _ _=>Nat.blt i m
 | v=>v.pure
def slotsD (m : Nat) : List Slot→Bool
 | []=>true
 | s :: l=>match (match s with
   | .val v _=>v.okD m
   | _=>true) with
  | true=>slotsD m l
  | false=>false
def boxesP : List (Nat × Blk)→Bool
 | []=>true
 | (_,b) :: l=>match pureL b.cells with
  | true=>boxesP l
  | false=>false
def keepH (m : Nat) : List (Nat × Blk)→List (Nat × Blk)
 | []=>[]
 | (d,b) :: l=>match Nat.blt d m with
  | true=>(d,b) :: keepH m l
  | false=>keepH m l
def noMaps : List (Nat × List (AV × AV))→Bool
 | []=>true
 | _=>false
def dropOk (m : Nat) (S : St) : Bool := match slotsD m S.sl with
 | true=>match boxesP S.L with
  | true=>match boxesP (keepH m S.H) with
   | true=>noMaps S.M
   | false=>false
  | false=>false
 | false=>false
def St.drop (m : Nat) (S : St) : St := ⟨S.sl.map Slot.unlentH,S.L,keepH m S.H,m,[]⟩
def drpAll (imp : Bool) : List (Nat × Nat)→Nat→St→(St→Option R)→Option R
 | [],_,S,k=>k S
 | (r,m) :: l,id,S,k=>match Nat.beq r id with
  | true=>match imp with
   | true=>Option.none
   | false=>br (dropOk m S) (drpAll imp l id (S.drop m) k) Option.none
  | false=>drpAll imp l id S k
def behind (an : Ann) (id : Nat) (S : St) (k : St→Option R) : Option R := frzAll an.imp an.frz id S fun S'=>nrmAll an.imp an.nrm id S' fun S''=>drpAll an.imp an.drp id S'' k
noncomputable def run (P : Program) (A : List (Nat × Ann)) (cal : Oracle) : Nat→FuncId→List Item→St→Option Out
 | 0,_,_,_=>Option.none
 | n + 1,f,todo,S=>match P.funcs[f]? with
  | Option.none=>Option.none
  | some fn=>match todo with
   | []=>absRet P (getA A f) fn.results.toList S
   | .inBlock _ :: k=>run P A cal n f k S
   | .inScope _ :: k=>run P A cal n f k S
   | .inLoop body :: k=>run P A cal n f (.code body :: .inLoop body :: k) S
   | .code c :: k=>match c with
    | .ret=>absRet P (getA A f) fn.results.toList S
    | .skip=>run P A cal n f k S
    | .label _=>run P A cal n f k S
    | .seq a b=>run P A cal n f (.code a :: .code b :: k) S
    | .cond c t e=>(S.ev c).bool? fun b=>br b (run P A cal n f (.code t :: k) (S.lit c true)) (run P A cal n f (.code e :: k) (S.lit c false))
    | .block id body=>run P A cal n f (.code body :: .inBlock id :: k) S
    | .loop body=>run P A cal n f (.code body :: .inLoop body :: k) S
    | .scope body=>run P A cal n f (.code body :: .inScope body :: k) S
    | .exit id=>match exitTo id k with
     | some k'=>run P A cal n f k' S
     | Option.none=>Option.none
    | .goto l=>match gotoIn l k with
     | some k'=>run P A cal n f k' S
     | Option.none=>Option.none
    | .region id ops draw=>match draw with
     | false=>absOps P A (getA A f) (fun d=>memN d (resSlots fn.results.toList)) cal ops.toList ops.toList S fun S'=>behind (getA A f) id (S'.keep (nthN (getA A f).K id)) fun S''=>run P A cal n f k S''
     | true=>absDag P A (getA A f) (fun d=>memN d (resSlots fn.results.toList)) cal ops S fun S'=>behind (getA A f) id (S'.keep (nthN (getA A f).K id)) fun S''=>run P A cal n f k S''
    | _=>Option.none
   | _=>Option.none
noncomputable def calN (P : Program) (A : List (Nat × Ann)) (cal : Oracle) (n : Nat) : Oracle := fun g args H nx=>match P.funcs[g]? with
 | some gn=>match gn.body with
  | some c=>match Nat.ble args.length gn.ntmps with
   | true=>run P A cal n g [.code c] ⟨start gn.ntmps args,[],H,nx,[]⟩
   | false=>Option.none
  | Option.none=>Option.none
 | Option.none=>Option.none
noncomputable def lvl (P : Program) (A : List (Nat × Ann)) (n : Nat) : Nat→Oracle
 | 0=>fun _ _ _ _=>Option.none
 | d + 1=>calN P A (lvl P A n d) n
end Go.Vai
end
section
namespace Go.Vai
inductive Pl where
 | s (t : Nat)
 | sc (t i : Nat)
 | l (d off : Nat)
 | h (id off : Nat)
 | r (i : Nat)
 deriving DecidableEq
inductive Role where
 | ext
 | h (id : Nat)
 | l (d : Nat)
 | c (p : Pl)
 deriving DecidableEq
structure G where
 role : Nat→Role
 pub : Nat→Nat
inductive Rep (g : G) (w : World) : Value→AV→Prop where
 | undef (u) : Rep g w u .undef
 | bool (b) : Rep g w (.bool b) (.bool b)
 | int (k n) : Rep g w (.int k n) (.int k n)
 | str (s : ByteArray) : Rep g w (.string s) (.str s.data.toList)
 | nilp : Rep g w (.pointer none) .nilp
 | ptr (B id off) (h : g.role B = .h id) : Rep g w (.pointer (some ⟨B,off,none⟩)) (.ptr id off)
 | cptr (B off) (cs : List AV) (vals : List Value) (hl : vals.length = cs.length)
   (hc : ∀ (j : Nat) (u : Value),vals[j]? = some u→w.cell? ⟨B,off + j,none⟩ = some u∧off + j < g.pub B∧u.oneCell' = true)
   (hr : ∀ (j : Nat) (u : Value) (c : AV),vals[j]? = some u→cs[j]? = some c→Rep g w u c) : Rep g w (.pointer (some ⟨B,off,none⟩)) (.cptr cs)
 | vsnil (p : Option Addr) (sz tg) : Rep g w (.slice p 0 0) (.vs sz tg [])
 | vs (B off cap sz) (tg : Bool) (l : List AV) (vals : List Value) (hl : vals.length = (l.flatMap AV.cells).length) (hsz : ∀ x ∈ l,x.cells.length = sz)
   (htg : tg = true→cap = l.length) (hcap : l.length ≤ cap)
   (hc : ∀ (j : Nat) (u : Value),vals[j]? = some u→w.cell? ⟨B,off + j,none⟩ = some u∧off + j < g.pub B∧u.oneCell' = true)
   (hr : ∀ (j : Nat) (u : Value) (c : AV),vals[j]? = some u→(l.flatMap AV.cells)[j]? = some c→Rep g w u c) : Rep g w (.slice (some ⟨B,off,none⟩) l.length cap) (.vs sz tg l)
 | arr (B id off len cap sz) (h : g.role B = .h id) (hcap : len ≤ cap) : Rep g w (.slice (some ⟨B,off,none⟩) len cap) (.arr id off len sz)
 | agg (us : List Value) (cs : List AV) (hl : us.length = cs.length) (h1 : ∀ u ∈ us,u.oneCell' = true) (hr : ∀ (j : Nat) (u : Value) (c : AV),us[j]? = some u→cs[j]? = some c→Rep g w u c) : Rep g w (.agg us.toArray) (.agg cs)
 | tuple (us : List Value) (cs : List AV) (hl : us.length = cs.length) (hr : ∀ (j : Nat) (u : Value) (c : AV),us[j]? = some u→cs[j]? = some c→Rep g w u c) : Rep g w (.tuple us.toArray) (.tuple cs)
 | func (f) (us : List Value) (cs : List AV) (hl : us.length = cs.length) (hr : ∀ (j : Nat) (u : Value) (c : AV),us[j]? = some u→cs[j]? = some c→Rep g w u c) : Rep g w (.func (.func f) #[] us.toArray) (.func f cs)
 | iface (t u v) (h : Rep g w u v) : Rep g w (.iface t u) (.iface t v)
 | nilI : Rep g w .nilIface .nilI
def RepL (g : G) (w : World) (us : List Value) (cs : List AV) : Prop :=
 us.length = cs.length∧∀ (j : Nat) (u : Value) (c : AV),us[j]? = some u→cs[j]? = some c→Rep g w u c
structure Ext (g : G) (w : World) (g' : G) (w' : World) : Prop where
 hrole : ∀ B id,g.role B = .h id→g'.role B = .h id
 pub : ∀ B,g.pub B ≤ g'.pub B
 cell : ∀ B o,o < g.pub B→w'.cell? ⟨B,o,none⟩ = w.cell? ⟨B,o,none⟩
theorem Ext.refl (g : G) (w : World) : Ext g w g w := ⟨fun _ _ h=>h,fun _=>Nat.le_refl _,fun _ _ _=>rfl⟩
theorem Ext.trans {g g' g'' : G} {w w' w'' : World} (a : Ext g w g' w') (b : Ext g' w' g'' w'') : Ext g w g'' w'' :=
 ⟨fun B id h=>b.hrole B id (a.hrole B id h),fun B=>Nat.le_trans (a.pub B) (b.pub B),
  fun B o h=>(b.cell B o (Nat.lt_of_lt_of_le h (a.pub B))).trans (a.cell B o h)⟩
theorem Rep.ext {g g' : G} {w w' : World} {u : Value} {v : AV} (h : Rep g w u v) (e : Ext g w g' w') : Rep g' w' u v:=by
 induction h with
 | undef u=>exact .undef u
 | bool b=>exact .bool b
 | int k n=>exact .int k n
 | str s=>exact .str s
 | nilp=>exact .nilp
 | ptr B id off h=>exact .ptr B id off (e.hrole B id h)
 | cptr B off cs vals hl hc hr ih =>
  refine .cptr B off cs vals hl (fun j u hu=>?_) ih
  obtain ⟨h1,h2,h3⟩ := hc j u hu
  exact ⟨(e.cell B _ h2).trans h1,Nat.lt_of_lt_of_le h2 (e.pub B),h3⟩
 | vsnil p sz tg=>exact .vsnil p sz tg
 | vs B off cap sz tg l vals hl hsz htg hcap hc hr ih =>
  refine .vs B off cap sz tg l vals hl hsz htg hcap (fun j u hu=>?_) ih
  obtain ⟨h1,h2,h3⟩ := hc j u hu
  exact ⟨(e.cell B _ h2).trans h1,Nat.lt_of_lt_of_le h2 (e.pub B),h3⟩
 | arr B id off len cap sz h hcap=>exact .arr B id off len cap sz (e.hrole B id h) hcap
 | agg us cs hl h1 hr ih=>exact .agg us cs hl h1 ih
 | tuple us cs hl hr ih=>exact .tuple us cs hl ih
 | func f us cs hl hr ih=>exact .func f us cs hl ih
 | iface t u v h ih=>exact .iface t u v ih
 | nilI=>exact .nilI
def RepP (g : G) (w : World) (us : List Value) (cs : List AV) : Prop :=
 cs.length ≤ us.length∧∀ (j : Nat) (u : Value) (c : AV),us[j]? = some u→cs[j]? = some c→Rep g w u c
theorem RepL.part {g : G} {w : World} {us : List Value} {cs : List AV} (h : RepL g w us cs) : RepP g w us cs := ⟨by rw [h.1]; exact Nat.le_refl _,h.2⟩
theorem RepL.ext {g g' : G} {w w' : World} {us : List Value} {cs : List AV} (h : RepL g w us cs) (e : Ext g w g' w') : RepL g' w' us cs :=
 ⟨h.1,fun j u c hu hc=>(h.2 j u c hu hc).ext e⟩
theorem RepP.ext {g g' : G} {w w' : World} {us : List Value} {cs : List AV} (h : RepP g w us cs) (e : Ext g w g' w') : RepP g' w' us cs :=
 ⟨h.1,fun j u c hu hc=>(h.2 j u c hu hc).ext e⟩
theorem RepP.get {g : G} {w : World} {us : List Value} {cs : List AV} (h : RepP g w us cs) {j : Nat} {c : AV} (hc : cs[j]? = some c) : ∃ u,us[j]? = some u∧Rep g w u c:=by
 have hlt : j < us.length := Nat.lt_of_lt_of_le (List.getElem?_eq_some_iff.1 hc).1 h.1
 exact ⟨us[j],List.getElem?_eq_getElem hlt,h.2 j _ c (List.getElem?_eq_getElem hlt) hc⟩
theorem RepP.full {g : G} {w : World} {us : List Value} {cs : List AV} (h : RepP g w us cs) : RepL g w (us.take cs.length) cs:=by
 refine ⟨by have := h.1; simp; omega,fun j u c hu hc=>?_⟩
 rw [List.getElem?_take] at hu
 split at hu
 ·exact h.2 j u c hu hc
 ·cases hu
def OneP (us : List Value) (n : Nat) : Prop := ∀ j u,j < n→us[j]? = some u→u.oneCell' = true
theorem oneP_of {us : List Value} (h : ∀ u ∈ us,u.oneCell' = true) (n : Nat) : OneP us n := fun _ u _ hu=>h u (List.mem_of_getElem? hu)
theorem RepP.cut {g : G} {w : World} {us : List Value} {cs : List AV} (h : RepP g w us cs) {off n : Nat} (hn : off + n ≤ cs.length) : RepL g w ((us.drop off).take n) ((cs.drop off).take n):=by
 refine ⟨by have := h.1; simp; omega,fun j u c hu hc=>?_⟩
 rw [List.getElem?_take] at hu hc
 split at hu
 ·rename_i hj
  rw [if_pos hj] at hc
  rw [List.getElem?_drop] at hu hc
  exact h.2 _ u c hu hc
 ·cases hu
theorem pureL_cons (a : AV) (l : List AV) : pureL (a :: l) = (a.pure && pureL l):=by
 simp only [pureL]
 cases a.pure <;> rfl
theorem pureL_append (a b : List AV) : pureL (a ++ b) = (pureL a && pureL b):=by
 induction a with
 | nil=>simp [pureL]
 | cons x a ih=>simp [pureL_cons,ih,Bool.and_assoc]
theorem pureL_get {cs : List AV} (h : pureL cs = true) (j : Nat) (c : AV) (hc : cs[j]? = some c) : c.pure = true:=by
 induction cs generalizing j with
 | nil=>simp at hc
 | cons a l ih =>
  rw [pureL_cons,Bool.and_eq_true] at h
  cases j with
  | zero=>simp at hc; subst hc; exact h.1
  | succ j=>exact ih h.2 j (by simpa using hc)
theorem pureL_flat {l : List AV} (h : pureL l = true) : pureL (l.flatMap AV.cells) = true:=by
 induction l with
 | nil=>rfl
 | cons x l ih =>
  rw [pureL_cons,Bool.and_eq_true] at h
  rw [List.flatMap_cons,pureL_append,ih h.2,Bool.and_true]
  cases x <;> simp_all [AV.cells,pureL_cons,AV.pure,pureL]
theorem Rep.pure {g : G} {w : World} {u : Value} {v : AV} (h : Rep g w u v) : v.pure = true→∀ g' : G,(∀ B,g.pub B ≤ g'.pub B)→Rep g' w u v:=by
 induction h with
 | undef u=>intro _ g' _; exact .undef u
 | bool b=>intro _ g' _; exact .bool b
 | int k n=>intro _ g' _; exact .int k n
 | str s=>intro _ g' _; exact .str s
 | nilp=>intro _ g' _; exact .nilp
 | ptr B id off h=>intro hp; simp [AV.pure] at hp
 | cptr B off cs vals hl hc hr ih =>
  intro hp g' hg
  simp only [AV.pure] at hp
  refine .cptr B off cs vals hl (fun j u hu=>?_) (fun j u c hu hcc=>ih j u c hu hcc (pureL_get hp j c hcc) g' hg)
  obtain ⟨h1,h2,h3⟩ := hc j u hu
  exact ⟨h1,Nat.lt_of_lt_of_le h2 (hg B),h3⟩
 | vsnil p sz tg=>intro _ g' _; exact .vsnil p sz tg
 | vs B off cap sz tg l vals hl hsz htg hcap hc hr ih =>
  intro hp g' hg
  simp only [AV.pure] at hp
  have hcells := pureL_get (pureL_flat hp)
  refine .vs B off cap sz tg l vals hl hsz htg hcap (fun j u hu=>?_) (fun j u c hu hcc=>ih j u c hu hcc (hcells j c hcc) g' hg)
  obtain ⟨h1,h2,h3⟩ := hc j u hu
  exact ⟨h1,Nat.lt_of_lt_of_le h2 (hg B),h3⟩
 | arr B id off len cap sz h hcap=>intro hp; simp [AV.pure] at hp
 | agg us cs hl h1 hr ih=>intro hp g' hg; exact .agg us cs hl h1 fun j u c hu hc=>ih j u c hu hc (pureL_get (by simpa [AV.pure] using hp) j c hc) g' hg
 | tuple us cs hl hr ih=>intro hp g' hg; exact .tuple us cs hl fun j u c hu hc=>ih j u c hu hc (pureL_get (by simpa [AV.pure] using hp) j c hc) g' hg
 | func f us cs hl hr ih=>intro hp g' hg; exact .func f us cs hl fun j u c hu hc=>ih j u c hu hc (pureL_get (by simpa [AV.pure] using hp) j c hc) g' hg
 | iface t u v h ih=>intro hp g' hg; exact .iface t u v (ih (by simpa [AV.pure] using hp) g' hg)
 | nilI=>intro _ g' _; exact .nilI
def BlkRep (g : G) (w : World) (B : Nat) (cells : List AV) : Prop :=
 ∃ (us : List Value) (e : TypeId),w.heap[B]? = some (.cells us.toArray e (0,0))∧OneP us cells.length∧RepP g w us cells
def OwnV (g : G) (w : World) (p : Pl) (sz : Nat) (u : Value) : Prop :=
 u = .slice none 0 0 ∨ (∃ a n,u = .slice (some a) n n) ∨
 (∃ B n cap us e,u = .slice (some ⟨B,0,none⟩) n cap∧g.role B = .c p∧w.heap[B]? = some (.cells us e (0,0))∧us.size = cap * sz∧n ≤ cap∧g.pub B = n * sz)
def OwnB (g : G) (w : World) (p : Pl) (sz : Nat) (u : Value) : Prop :=
 ∃ B n cap us e,u = .slice (some ⟨B,0,none⟩) n cap∧g.role B = .c p∧w.heap[B]? = some (.cells us e (0,0))∧us.size = cap * sz∧n ≤ cap∧g.pub B = n * sz
theorem OwnB.v {g : G} {w : World} {p : Pl} {sz : Nat} {u : Value} (h : OwnB g w p sz u) : OwnV g w p sz u := .inr (.inr h)
def OwnAV (g : G) (w : World) (p : Pl) (u : Value) : AV→Prop
 | .vs sz _ _=>OwnV g w p sz u
 | _=>True
structure Inv (g : G) (w : World) : Prop where
 new : ∀ B,w.heap.size ≤ B→g.role B = .ext∧g.pub B = 0
 ph : ∀ B id,g.role B = .h id→g.pub B = 0
 pl : ∀ B d,g.role B = .l d→g.pub B = 0
 injh : ∀ B B' id,g.role B = .h id→g.role B' = .h id→B = B'
 injl : ∀ B B' d,g.role B = .l d→g.role B' = .l d→B = B'
structure RelH (g : G) (H : Hp) (_nx : Nat) (w : World) : Prop where
 blk : ∀ id b,H id = some b→∃ B,g.role B = .h id∧BlkRep g w B b.cells ∧
  ∀ off ∈ b.free,∀ u v,w.cell? ⟨B,off,none⟩ = some u→b.cells[off]? = some v→OwnAV g w (.h id off) u v
 lt : ∀ B id,g.role B = .h id→H id ≠ none
def RelL (g : G) (L : List (Nat × Blk)) (w : World) : Prop :=
 ∀ d b,getL L d = some b→∃ B,g.role B = .l d∧BlkRep g w B b.cells ∧
  ∀ off ∈ b.free,∀ u v,w.cell? ⟨B,off,none⟩ = some u→b.cells[off]? = some v→OwnAV g w (.l d off) u v
def MapRep (g : G) (w : World) (es : List MapEntry) (l : List (AV × AV)) : Prop :=
 es.length = l.length∧∀ (j : Nat) (e : MapEntry) (p : AV × AV),es[j]? = some e→l[j]? = some p→Rep g w e.key p.1∧Rep g w e.val p.2
theorem MapRep.ext {g g' : G} {w w' : World} {es : List MapEntry} {l : List (AV × AV)} (h : MapRep g w es l) (e : Ext g w g' w') : MapRep g' w' es l :=
 ⟨h.1,fun j x p hx hp=>⟨(h.2 j x p hx hp).1.ext e,(h.2 j x p hx hp).2.ext e⟩⟩
def RelM (g : G) (M : List (Nat × List (AV × AV))) (w : World) : Prop :=
 ∀ d l,getM M d = some l→∃ B es ck,g.role B = .l d∧w.heap[B]? = some (.map es ck)∧MapRep g w es.toList l
def FlRel (g : G) (S : St) (a : Act) (w : World) (t : Nat) (u : Value) (v : AV) : Fl→Prop
 | .no=>True
 | .own=>OwnAV g w (.s t) u v
 | .lS q=>∀ v',S.slot q = .val v' .own→a.tmps.getD q undef = u∧v' = v
 | .lL d off=>∀ b,getL S.L d = some b→off ∈ b.free→∃ B,g.role B = .l d∧w.cell? ⟨B,off,none⟩ = some u∧b.cells[off]? = some v
 | .lH id off=>∀ b,S.H id = some b→off ∈ b.free→∃ B,g.role B = .h id∧w.cell? ⟨B,off,none⟩ = some u∧b.cells[off]? = some v
 | .comps cs=>∀ i ∈ cs,∀ us vs ui vi,u = .tuple us→v = .tuple vs→us[i]? = some ui→vs[i]? = some vi→OwnAV g w (.sc t i) ui vi
def SlotRel (g : G) (S : St) (a : Act) (w : World) (t : Nat) : Slot→Prop
 | .und=>True
 | .lp d off=>∃ B,g.role B = .l d∧a.tmps.getD t undef = .pointer (some ⟨B,off,none⟩)
 | .mp d=>∃ B,g.role B = .l d∧a.tmps.getD t undef = .map (some B)
 | .val v f=>Rep g w (a.tmps.getD t undef) v∧FlRel g S a w t (a.tmps.getD t undef) v f
structure Fr (g0 : G) (w0 : World) (Ex : Nat→Prop) (g : G) (w : World) : Prop where
 ext : Ext g0 w0 g w
 os : w.os = w0.os
 tape : w.tape = w0.tape
 output : w.output = w0.output
 size : w0.heap.size ≤ w.heap.size
 same : ∀ B,B < w0.heap.size→¬ Ex B→w.heap[B]? = w0.heap[B]?∧g.pub B = g0.pub B
 role : ∀ B,g.role B ≠ .ext→w0.heap.size ≤ B ∨ Ex B
structure Rel (g0 : G) (w0 : World) (Ex : Nat→Prop) (g : G) (S : St) (a : Act) (w : World) : Prop where
 inv : Inv g w
 h : RelH g S.H S.nx w
 l : RelL g S.L w
 m : RelM g S.M w
 len : S.sl.length = a.tmps.size
 sl : ∀ t,SlotRel g S a w t (S.slot t)
 fr : Fr g0 w0 Ex g w
 nodef : a.defers = []
def GlobOk (A : List (Nat × Ann)) (g : G) (w : World) : Prop := ∀ i cs,globOf A i = some cs→pureL cs = true∧Rep g w (.pointer (some ⟨i,0,none⟩)) (.cptr cs)
theorem GlobOk.ext {A : List (Nat × Ann)} {g g' : G} {w w' : World} (h : GlobOk A g w) (e : Ext g w g' w') : GlobOk A g' w' := fun i cs hc=>⟨(h i cs hc).1,(h i cs hc).2.ext e⟩
theorem GlobOk.pure {A : List (Nat × Ann)} {g g' : G} {w : World} (h : GlobOk A g w) (hp : ∀ B,g.pub B ≤ g'.pub B) : GlobOk A g' w := fun i cs hc=>⟨(h i cs hc).1,(h i cs hc).2.pure (h i cs hc).1 g' hp⟩
def Good (g0 : G) (w0 : World) (Ex : Nat→Prop) (S : St) (a : Act) (w : World) : Prop := ∃ g,Rel g0 w0 Ex g S a w
end Go.Vai
end
section
namespace Go.Vai
theorem nthS_setS : ∀ (l : List Slot) (n : Nat) (s : Slot) (t : Nat),nthS (setS l n s) t = if t = n∧n < l.length then s else nthS l t
 | [],n,s,t=>by simp [setS,nthS]
 | x :: l,0,s,t=>by cases t <;> simp [setS,nthS]
 | x :: l,n + 1,s,t=>by
  cases t with
  | zero=>simp [setS,nthS]
  | succ t=>simp only [setS,nthS,nthS_setS l n s t]; simp
theorem setS_length : ∀ (l : List Slot) (n : Nat) (s : Slot),(setS l n s).length = l.length
 | [],_,_=>rfl
 | _ :: _,0,_=>rfl
 | _ :: l,n + 1,s=>by simp [setS,setS_length l n s]
theorem nthS_map (f : Slot→Slot) (hf : f .und = .und) : ∀ (l : List Slot) (t : Nat),nthS (l.map f) t = f (nthS l t)
 | [],t=>by simp [nthS,hf]
 | x :: l,0=>rfl
 | x :: l,t + 1=>by simpa [nthS] using nthS_map f hf l t
theorem nthS_lt {l : List Slot} {t : Nat} (h : nthS l t ≠ .und) : t < l.length:=by
 induction l generalizing t with
 | nil=>simp [nthS] at h
 | cons x l ih =>
  cases t with
  | zero=>simp
  | succ t=>simp only [List.length_cons]; have := ih (t := t) (by simpa [nthS] using h); omega
theorem getD_put (a : Act) (d : Nat) (v : Value) (t : Nat) : (a.put (some d) v).tmps.getD t undef = if t = d∧d < a.tmps.size then v else a.tmps.getD t undef:=by
 simp only [Act.put]
 rw [Array.getD_eq_getD_getElem?,Array.getElem?_setIfInBounds,Array.getD_eq_getD_getElem?]
 by_cases h : d = t
 ·subst h
  by_cases h2 : d < a.tmps.size
  ·simp [h2]
  ·simp [h2]
 ·have h' : ¬ t = d := fun e=>h e.symm
  simp [h,h']
theorem put_size (a : Act) (d : Option Nat) (v : Value) : (a.put d v).tmps.size = a.tmps.size:=by
 cases d <;> simp [Act.put]
theorem put_defers' (a : Act) (d : Option Nat) (v : Value) : (a.put d v).defers = a.defers:=by
 cases d <;> rfl
theorem slot_put (S : St) (d : Nat) (s : Slot) (t : Nat) : (S.put d s).slot t = if t = d∧d < S.sl.length then s else S.slot t := nthS_setS _ _ _ _
section
variable {g0 : G} {w0 : World} {Ex : Nat→Prop} {g : G} {S : St} {a : Act} {w : World}
def FlC (g : G) (w : World) (t : Nat) (u : Value) (v : AV) : Fl→Prop
 | .own=>OwnAV g w (.s t) u v
 | .comps cs=>∀ i ∈ cs,∀ us vs ui vi,u = .tuple us→v = .tuple vs→us[i]? = some ui→vs[i]? = some vi→OwnAV g w (.sc t i) ui vi
 | _=>True
def SlotC (g : G) (a : Act) (w : World) (t : Nat) : Slot→Prop
 | .und=>True
 | .lp d off=>∃ B,g.role B = .l d∧a.tmps.getD t undef = .pointer (some ⟨B,off,none⟩)
 | .mp d=>∃ B,g.role B = .l d∧a.tmps.getD t undef = .map (some B)
 | .val v f=>Rep g w (a.tmps.getD t undef) v∧FlC g w t (a.tmps.getD t undef) v f
theorem SlotRel.c {t : Nat} {s : Slot} (h : SlotRel g S a w t s) : SlotC g a w t s:=by
 cases s with
 | und=>trivial
 | lp d off=>exact h
 | mp d=>exact h
 | val v f=>exact ⟨h.1,by cases f <;> first | exact h.2 | trivial⟩
theorem SlotC.rel {t : Nat} {s : Slot} (h : SlotC g a w t s) (S : St) : SlotRel g S a w t s.unlent:=by
 cases s with
 | und=>trivial
 | lp d off=>exact h
 | mp d=>exact h
 | val v f=>exact ⟨h.1,by cases f <;> first | exact h.2 | trivial⟩
theorem slot_unlent (S : St) (t : Nat) : S.unlent.slot t = (S.slot t).unlent := nthS_map _ rfl _ _
theorem slot_unlentH (S : St) (t : Nat) : S.unlentH.slot t = (S.slot t).unlentH := nthS_map _ rfl _ _
theorem slot_unlentH_own {t : Nat} {v : AV} (h : S.unlentH.slot t = .val v .own) : S.slot t = .val v .own:=by
 rw [slot_unlentH] at h
 revert h
 cases S.slot t with
 | val v2 f2=>cases f2 <;> (intro h; first | exact h | cases h)
 | _=>exact fun h=>h
theorem Rel.unlent (h : Rel g0 w0 Ex g S a w) : Rel g0 w0 Ex g S.unlent a w :=
 ⟨h.inv,h.h,h.l,h.m,by simpa [St.unlent] using h.len,fun t=>by rw [slot_unlent]; exact (h.sl t).c.rel _,h.fr,h.nodef⟩
theorem Rel.putv (h : Rel g0 w0 Ex g S a w) (dst : Option Nat) {u : Value} {v : AV} {f : Fl} (hr : Rep g w u v) (hf : ∀ d,dst = some d→FlRel g S a w d u v f) (hno : f ≠ .own) (hnc : ∀ cs,f ≠ .comps cs) :
  Rel g0 w0 Ex g (S.putd dst (.val v f)) (a.put dst u) w:=by
 cases dst with
 | none=>exact h
 | some d =>
  refine ⟨h.inv,h.h,h.l,h.m,?_,fun t=>?_,h.fr,by rw [put_defers']; exact h.nodef⟩
  ·show (setS S.sl d _).length = _
   rw [setS_length,put_size]; exact h.len
  show SlotRel g (S.put d (.val v f)) (a.put (some d) u) w t ((S.put d (.val v f)).slot t)
  have hs := h.sl t
  have key : ∀ q v',(S.put d (.val v f)).slot q = .val v' .own→S.slot q = .val v' .own∧(a.put (some d) u).tmps.getD q undef = a.tmps.getD q undef:=by
   intro q v' hq
   rw [slot_put] at hq
   split at hq
   ·rename_i hqd; injection hq with h1 h2; exact absurd h2 hno
   ·rename_i hqd
    refine ⟨hq,?_⟩
    rw [getD_put,if_neg (by rw [← h.len]; exact hqd)]
  rw [slot_put]
  by_cases htd : t = d∧d < S.sl.length
  ·rw [if_pos htd]
   obtain ⟨rfl,hlt⟩ := htd
   have e : (a.put (some t) u).tmps.getD t undef = u := by rw [getD_put,if_pos ⟨rfl,by rw [← h.len]; exact hlt⟩]
   refine ⟨by rw [e]; exact hr,?_⟩
   rw [e]
   have hf' := hf t rfl
   cases f with
   | no=>trivial
   | own=>exact absurd rfl hno
   | lS q =>
    intro v' hq
    obtain ⟨h1,h2⟩ := key q v' hq
    rw [h2]
    exact hf' v' h1
   | lL d' off=>exact hf'
   | lH id off=>exact hf'
   | comps cs=>exact absurd rfl (hnc cs)
  ·rw [if_neg htd]
   have e : (a.put (some d) u).tmps.getD t undef = a.tmps.getD t undef := by rw [getD_put,if_neg (by rw [← h.len]; exact htd)]
   cases hst : S.slot t with
   | und=>trivial
   | lp d' off=>rw [hst] at hs; obtain ⟨B,h1,h2⟩ := hs; exact ⟨B,h1,by rw [e]; exact h2⟩
   | mp d'=>rw [hst] at hs; obtain ⟨B,h1,h2⟩ := hs; exact ⟨B,h1,by rw [e]; exact h2⟩
   | val v2 f2 =>
    rw [hst] at hs
    obtain ⟨h1,h2⟩ := hs
    refine ⟨by rw [e]; exact h1,?_⟩
    rw [e]
    cases f2 with
    | no=>trivial
    | own=>exact h2
    | lS q =>
     intro v' hq
     obtain ⟨h3,h4⟩ := key q v' hq
     rw [h4]
     exact h2 v' h3
    | lL d' off=>exact h2
    | lH id off=>exact h2
    | comps cs=>exact h2
theorem Rel.putlp (h : Rel g0 w0 Ex g S a w) (dst : Option Nat) {u : Value} {s : Slot} (hs : s = .und ∨ (∃ d off B,s = .lp d off∧g.role B = .l d∧u = .pointer (some ⟨B,off,none⟩)) ∨ ∃ d B,s = .mp d∧g.role B = .l d∧u = .map (some B)) :
  Rel g0 w0 Ex g (S.putd dst s) (a.put dst u) w:=by
 cases dst with
 | none=>exact h
 | some d =>
  refine ⟨h.inv,h.h,h.l,h.m,?_,fun t=>?_,h.fr,by rw [put_defers']; exact h.nodef⟩
  ·show (setS S.sl d _).length = _
   rw [setS_length,put_size]; exact h.len
  show SlotRel g (S.put d s) (a.put (some d) u) w t ((S.put d s).slot t)
  have hsl := h.sl t
  have key : ∀ q v',(S.put d s).slot q = .val v' .own→S.slot q = .val v' .own∧(a.put (some d) u).tmps.getD q undef = a.tmps.getD q undef:=by
   intro q v' hq
   rw [slot_put] at hq
   split at hq
   ·rcases hs with rfl | ⟨_,_,_,rfl,_⟩ | ⟨_,_,rfl,_⟩ <;> cases hq
   ·rename_i hqd
    refine ⟨hq,?_⟩
    rw [getD_put,if_neg (by rw [← h.len]; exact hqd)]
  rw [slot_put]
  by_cases htd : t = d∧d < S.sl.length
  ·rw [if_pos htd]
   obtain ⟨rfl,hlt⟩ := htd
   have e : (a.put (some t) u).tmps.getD t undef = u := by rw [getD_put,if_pos ⟨rfl,by rw [← h.len]; exact hlt⟩]
   rcases hs with rfl | ⟨d',off,B,rfl,h1,h2⟩ | ⟨d',B,rfl,h1,h2⟩
   ·trivial
   ·exact ⟨B,h1,by rw [e]; exact h2⟩
   ·exact ⟨B,h1,by rw [e]; exact h2⟩
  ·rw [if_neg htd]
   have e : (a.put (some d) u).tmps.getD t undef = a.tmps.getD t undef := by rw [getD_put,if_neg (by rw [← h.len]; exact htd)]
   cases hst : S.slot t with
   | und=>trivial
   | lp d' off=>rw [hst] at hsl; obtain ⟨B,h1,h2⟩ := hsl; exact ⟨B,h1,by rw [e]; exact h2⟩
   | mp d'=>rw [hst] at hsl; obtain ⟨B,h1,h2⟩ := hsl; exact ⟨B,h1,by rw [e]; exact h2⟩
   | val v2 f2 =>
    rw [hst] at hsl
    obtain ⟨h1,h2⟩ := hsl
    refine ⟨by rw [e]; exact h1,?_⟩
    rw [e]
    cases f2 with
    | no=>trivial
    | own=>exact h2
    | lS q =>
     intro v' hq
     obtain ⟨h3,h4⟩ := key q v' hq
     rw [h4]
     exact h2 v' h3
    | lL d' off=>exact h2
    | lH id off=>exact h2
    | comps cs=>exact h2
theorem slot_unS (S : St) (d t : Nat) : ({ S with sl := S.sl.map (Slot.unS d) } : St).slot t = (S.slot t).unS d := nthS_map _ rfl _ _
theorem Rel.putown (h : Rel g0 w0 Ex g S a w) (dst : Option Nat) {u : Value} {v : AV} {f : Fl} (hr : Rep g w u v) (hf : ∀ d,dst = some d→FlC g w d u v f) (hfl : f = .no ∨ f = .own ∨ ∃ cs,f = .comps cs) :
  Rel g0 w0 Ex g (S.putown dst v f) (a.put dst u) w:=by
 cases dst with
 | none=>exact h
 | some d =>
  rcases Classical.em (f = .no) with hno | hno
  ·subst hno
   exact h.putv (some d) hr (fun _ _=>trivial) (by simp) (by simp)
  have e0 : S.putown (some d) v f = ({ S with sl := S.sl.map (Slot.unS d) } : St).put d (.val v f):=by
   cases f <;> first | exact absurd rfl hno | rfl
  rw [e0]
  refine ⟨h.inv,h.h,h.l,h.m,?_,fun t=>?_,h.fr,by rw [put_defers']; exact h.nodef⟩
  ·show (setS _ d _).length = _
   rw [setS_length,put_size,List.length_map]; exact h.len
  have hsl := h.sl t
  have key : ∀ q v',q ≠ d→((({ S with sl := S.sl.map (Slot.unS d) } : St).put d (.val v f)).slot q) = .val v' .own→S.slot q = .val v' .own∧(a.put (some d) u).tmps.getD q undef = a.tmps.getD q undef:=by
   intro q v' hne hq
   rw [slot_put,if_neg (by intro hh; exact hne hh.1),slot_unS] at hq
   refine ⟨?_,?_⟩
   ·revert hq
    cases S.slot q with
    | und=>exact fun h=>h
    | lp d' off=>exact fun h=>h
    | mp d'=>exact fun h=>h
    | val v2 f2=>cases f2 with
     | lS q' =>
      simp only [Slot.unS]
      split <;> (intro h; cases h)
     | _=>exact fun h=>h
   ·rw [getD_put,if_neg (by intro hh; exact hne hh.1)]
  rw [slot_put]
  by_cases htd : t = d∧d < ({ S with sl := S.sl.map (Slot.unS d) } : St).sl.length
  ·rw [if_pos htd]
   obtain ⟨rfl,hlt⟩ := htd
   have e : (a.put (some t) u).tmps.getD t undef = u := by rw [getD_put,if_pos ⟨rfl,by rw [← h.len]; simpa using hlt⟩]
   refine ⟨by rw [e]; exact hr,?_⟩
   rw [e]
   have hf' := hf t rfl
   rcases hfl with rfl | rfl | ⟨cs,rfl⟩
   ·trivial
   ·exact hf'
   ·exact hf'
  ·rw [if_neg htd,slot_unS]
   have e : (a.put (some d) u).tmps.getD t undef = a.tmps.getD t undef := by rw [getD_put,if_neg (by rw [← h.len]; simpa using htd)]
   cases hst : S.slot t with
   | und=>trivial
   | lp d' off=>rw [hst] at hsl; obtain ⟨B,h1,h2⟩ := hsl; exact ⟨B,h1,by rw [e]; exact h2⟩
   | mp d'=>rw [hst] at hsl; obtain ⟨B,h1,h2⟩ := hsl; exact ⟨B,h1,by rw [e]; exact h2⟩
   | val v2 f2 =>
    rw [hst] at hsl
    obtain ⟨h1,h2⟩ := hsl
    cases f2 with
    | no=>exact ⟨by rw [e]; exact h1,trivial⟩
    | own=>exact ⟨by rw [e]; exact h1,by rw [e]; exact h2⟩
    | lS q =>
     simp only [Slot.unS]
     by_cases hqd : q = d
     ·subst hqd
      rw [show Nat.beq q q = true from Nat.beq_refl q]
      exact ⟨by rw [e]; exact h1,trivial⟩
     ·rw [show Nat.beq q d = false from by cases hb : Nat.beq q d with | false=>rfl | true=>exact absurd (Nat.eq_of_beq_eq_true hb) hqd]
      refine ⟨by rw [e]; exact h1,?_⟩
      rw [e]
      intro v' hq
      obtain ⟨h3,h4⟩ := key q v' hqd hq
      rw [h4]
      exact h2 v' h3
    | lL d' off=>exact ⟨by rw [e]; exact h1,by rw [e]; exact h2⟩
    | lH id off=>exact ⟨by rw [e]; exact h1,by rw [e]; exact h2⟩
    | comps cs=>exact ⟨by rw [e]; exact h1,by rw [e]; exact h2⟩
theorem Rel.slotv (h : Rel g0 w0 Ex g S a w) {t : Nat} {v : AV} {f : Fl} (hs : S.slot t = .val v f) : Rep g w (a.eval (.tmp t)) v∧FlRel g S a w t (a.eval (.tmp t)) v f:=by
 have := h.sl t
 rw [hs] at this
 exact this
theorem ofConst1_rep (sz : Nat) (c : Value) : Rep g w c (ofConst1 sz c):=by
 unfold ofConst1
 split
 ·exact .bool _
 ·exact .int _ _
 ·exact .str _
 ·exact .nilp
 ·exact .vsnil _ _ _
 ·split
  ·rename_i f first captured _ _ h1 h2
   have e1 : first = #[] := by apply Array.toList_inj.1; simpa using h1
   have e2 : captured = [].toArray := by apply Array.toList_inj.1; simpa using h2
   rw [e1,e2]
   exact .func f [] [] rfl (by simp)
  ·exact .undef _
 ·exact .nilI
 ·split
  ·rename_i l _ h1
   have e1 : l = [].toArray := by apply Array.toList_inj.1; simpa using h1
   rw [e1]
   exact .tuple [] [] rfl (by simp)
  ·exact .undef _
 ·exact .undef _
theorem ofCells_get : ∀ (hs : List Nat) (cs : List Value),(ofCells hs cs).length = cs.length∧∀ (j : Nat) (u : Value) (c : AV),cs[j]? = some u→(ofCells hs cs)[j]? = some c→∃ sz,c = ofConst1 sz u
 | [],[]=>⟨rfl,by simp⟩
 | _ :: _,[]=>⟨rfl,by simp⟩
 | h :: hs,x :: cs=>by
  obtain ⟨h1,h2⟩ := ofCells_get hs cs
  refine ⟨by simp [ofCells,h1],fun j u c hu hc=>?_⟩
  cases j with
  | zero=>simp [ofCells] at hu hc; exact ⟨h,by rw [← hu,hc]⟩
  | succ j=>exact h2 j u c (by simpa using hu) (by simpa [ofCells] using hc)
 | [],x :: cs=>by
  obtain ⟨h1,h2⟩ := ofCells_get [] cs
  refine ⟨by simp [ofCells,h1],fun j u c hu hc=>?_⟩
  cases j with
  | zero=>simp [ofCells] at hu hc; exact ⟨0,by rw [← hu,hc]⟩
  | succ j=>exact h2 j u c (by simpa using hu) (by simpa [ofCells] using hc)
theorem ofCells_rep (hs : List Nat) (cs : List Value) : RepL g w cs (ofCells hs cs):=by
 obtain ⟨h1,h2⟩ := ofCells_get hs cs
 refine ⟨h1.symm,fun j u c hu hc=>?_⟩
 obtain ⟨sz,rfl⟩ := h2 j u c hu hc
 exact ofConst1_rep sz u
end
end Go.Vai
end
section
namespace Go.Vai
section inversions
variable {g : G} {w : World} {u : Value}
theorem rep_int {k : IntKind} {n : Int} (h : Rep g w u (.int k n)) : u = .int k n := by cases h; rfl
theorem rep_bool {b : Bool} (h : Rep g w u (.bool b)) : u = .bool b := by cases h; rfl
theorem rep_str {l : List UInt8} (h : Rep g w u (.str l)) : ∃ s : ByteArray,u = .string s∧s.data.toList = l := by cases h; exact ⟨_,rfl,rfl⟩
theorem rep_nilp (h : Rep g w u .nilp) : u = .pointer none := by cases h; rfl
theorem rep_ptr {id off : Nat} (h : Rep g w u (.ptr id off)) : ∃ B,g.role B = .h id∧u = .pointer (some ⟨B,off,none⟩) := by cases h; exact ⟨_,‹_›,rfl⟩
theorem rep_agg {cs : List AV} (h : Rep g w u (.agg cs)) : ∃ us : List Value,u = .agg us.toArray∧(∀ x ∈ us,x.oneCell' = true)∧RepL g w us cs:=by
 cases h; exact ⟨_,rfl,‹_›,‹_›,‹_›⟩
theorem rep_tuple {cs : List AV} (h : Rep g w u (.tuple cs)) : ∃ us : List Value,u = .tuple us.toArray∧RepL g w us cs:=by
 cases h; exact ⟨_,rfl,‹_›,‹_›⟩
theorem rep_nilI (h : Rep g w u .nilI) : u = .nilIface := by cases h; rfl
theorem rep_iface {t : Nat} {v : AV} (h : Rep g w u (.iface t v)) : ∃ x,u = .iface t x∧Rep g w x v := by cases h; exact ⟨_,rfl,‹_›⟩
theorem rep_func {f : Nat} {cs : List AV} (h : Rep g w u (.func f cs)) : ∃ us : List Value,u = .func (.func f) #[] us.toArray∧RepL g w us cs:=by
 cases h; exact ⟨_,rfl,‹_›,‹_›⟩
end inversions
section br
variable {R : Type}
theorem br_some {b : Bool} {x y : Option R} {r : R} (h : br b x y = some r) : (b = true∧x = some r) ∨ (b = false∧y = some r):=by
 cases b
 ·exact .inr ⟨rfl,h⟩
 ·exact .inl ⟨rfl,h⟩
theorem br_left {b : Bool} {x : Option R} {r : R} (h : br b x Option.none = some r) : b = true∧x = some r:=by
 rcases br_some h with h | ⟨_,h⟩
 ·exact h
 ·cases h
theorem br_right {b : Bool} {x : Option R} {r : R} (h : br b Option.none x = some r) : b = false∧x = some r:=by
 rcases br_some h with ⟨_,h⟩ | h
 ·cases h
 ·exact h
theorem int?_some {v : AV} {k : IntKind→Int→Option R} {r : R} (h : v.int? k = some r) : ∃ i n,v = .int i n∧k i n = some r:=by
 unfold AV.int? at h
 split at h
 ·exact ⟨_,_,rfl,h⟩
 ·cases h
theorem bool?_some {v : AV} {k : Bool→Option R} {r : R} (h : v.bool? k = some r) : ∃ b,v = .bool b∧k b = some r:=by
 unfold AV.bool? at h
 split at h
 ·exact ⟨_,rfl,h⟩
 ·cases h
theorem str?_some {v : AV} {k : List UInt8→Option R} {r : R} (h : v.str? k = some r) : ∃ s,v = .str s∧k s = some r:=by
 unfold AV.str? at h
 split at h
 ·exact ⟨_,rfl,h⟩
 ·cases h
theorem vs?_some {v : AV} {k : Nat→Bool→List AV→Option R} {r : R} (h : v.vs? k = some r) : ∃ a b c,v = .vs a b c∧k a b c = some r:=by
 unfold AV.vs? at h
 split at h
 ·exact ⟨_,_,_,rfl,h⟩
 ·cases h
theorem agg?_some {v : AV} {k : List AV→Option R} {r : R} (h : v.agg? k = some r) : ∃ cs,v = .agg cs∧k cs = some r:=by
 unfold AV.agg? at h
 split at h
 ·exact ⟨_,rfl,h⟩
 ·cases h
theorem tup?_some {v : AV} {k : List AV→Option R} {r : R} (h : v.tup? k = some r) : ∃ cs,v = .tuple cs∧k cs = some r:=by
 unfold AV.tup? at h
 split at h
 ·exact ⟨_,rfl,h⟩
 ·cases h
theorem func?_some {v : AV} {k : Nat→List AV→Option R} {r : R} (h : v.func? k = some r) : ∃ f c,v = .func f c∧k f c = some r:=by
 unfold AV.func? at h
 split at h
 ·exact ⟨_,_,rfl,h⟩
 ·cases h
theorem bind_some' {α : Type} {x : Option α} {k : α→Option R} {r : R} (h : x.bind k = some r) : ∃ y,x = some y∧k y = some r:=by
 cases x with
 | none=>cases h
 | some y=>exact ⟨y,rfl,h⟩
end br
theorem eqS_eq : ∀ (a b : List UInt8),eqS a b = (a == b)
 | [],[]=>rfl
 | [],_ :: _=>rfl
 | _ :: _,[]=>rfl
 | a :: l,b :: m=>by
  rw [eqS,eqS_eq l m]
  by_cases h : a = b
  ·subst h; simp
  ·have h' : Nat.beq a.toNat b.toNat = false:=by
    cases hb : Nat.beq a.toNat b.toNat with
    | false=>rfl
    | true=>exact absurd (UInt8.toNat_inj.1 (Nat.eq_of_beq_eq_true hb)) h
   rw [h']
   simp [h]
theorem rep_str_mk {g : G} {w : World} (l : List UInt8) : Rep g w (.string ⟨l.toArray⟩) (.str l):=by
 have := Rep.str (g := g) (w := w) ⟨l.toArray⟩
 simpa using this
theorem sameKind_eq {i j : IntKind} (h : sameKind i j = true) : i = j := by cases i <;> cases j <;> first | rfl | cases h
theorem nth_get : ∀ (l : List AV) (n : Nat),nth l n = l[n]?
 | [],n=>by simp [nth]
 | x :: l,0=>by simp [nth]
 | x :: l,n + 1=>by simp [nth,nth_get l n]
section getl
variable {g : G} {w : World}
theorem RepL.get {us : List Value} {cs : List AV} (h : RepL g w us cs) {j : Nat} {c : AV} (hc : cs[j]? = some c) : ∃ u,us[j]? = some u∧Rep g w u c:=by
 have hj : j < us.length := by rw [h.1]; exact (List.getElem?_eq_some_iff.1 hc).1
 exact ⟨us[j],List.getElem?_eq_getElem hj,h.2 j _ c (List.getElem?_eq_getElem hj) hc⟩
end getl
def eqb (o : BinOp) (b : Bool) : Bool := match o with
 | .neq=>!b
 | _=>b
section ops
variable {P : Program} {g : G} {w : World} {R : Type} {r : R}
theorem opInt_sound {op : BinOp} {i : IntKind} {x y : Int} {k : AV→Option R} (t : TypeId) (h : opInt op i x y k = some r) :
  ∃ u v,(binOp op t (.int i x) (.int i y)).run P w = .ok u w∧Rep g w u v∧k v = some r:=by
 cases op <;> simp only [opInt] at h
 case add=>exact ⟨_,_,by simp [binOp,Op.intArith],.int _ _,h⟩
 case sub=>exact ⟨_,_,by simp [binOp,Op.intArith],.int _ _,h⟩
 case mul=>exact ⟨_,_,by simp [binOp,Op.intArith],.int _ _,h⟩
 case quo =>
  obtain ⟨h0,h⟩ := br_right h
  have h0' : ¬ y = 0 := by simpa using h0
  exact ⟨_,_,by simp [binOp,Op.intDiv,h0'],.int _ _,h⟩
 case rem =>
  obtain ⟨h0,h⟩ := br_right h
  have h0' : ¬ y = 0 := by simpa using h0
  exact ⟨_,_,by simp [binOp,Op.intDiv,h0'],.int _ _,h⟩
 case and=>exact ⟨_,_,by simp [binOp,Op.intBits,bits],.int _ _,h⟩
 case or=>exact ⟨_,_,by simp [binOp,Op.intBits,bits],.int _ _,h⟩
 case xor=>exact ⟨_,_,by simp [binOp,Op.intBits,bits],.int _ _,h⟩
 case andNot=>exact ⟨_,_,by simp [binOp,Op.intBits,bits],.int _ _,h⟩
 case eql=>exact ⟨_,_,by simp only [binOp,Op.intCmp,ne_eq,not_true_eq_false,↓reduceIte,Sem.run_pure]; rfl,.bool (decide (x = y)),h⟩
 case neq=>exact ⟨_,_,by simp only [binOp,Op.intCmp,ne_eq,not_true_eq_false,↓reduceIte,Sem.run_pure,bne]; rfl,.bool (!decide (x = y)),h⟩
 case lss=>exact ⟨_,_,by simp [binOp,Op.intCmp],.bool (decide (x < y)),h⟩
 case leq=>exact ⟨_,_,by simp [binOp,Op.intCmp],.bool (decide (x ≤ y)),h⟩
 case gtr=>exact ⟨_,_,by simp [binOp,Op.intCmp],.bool (decide (y < x)),h⟩
 case geq=>exact ⟨_,_,by simp [binOp,Op.intCmp],.bool (decide (y ≤ x)),h⟩
 all_goals cases h
theorem opStr_sound {op : BinOp} {x y : ByteArray} {k : AV→Option R} (t : TypeId) (h : opStr op x.data.toList y.data.toList k = some r) :
  ∃ u v,(binOp op t (.string x) (.string y)).run P w = .ok u w∧Rep g w u v∧k v = some r:=by
 have hx := ByteArray.toList_eq x
 have hy := ByteArray.toList_eq y
 have he := eqS_eq x.data.toList y.data.toList
 cases op <;> simp only [opStr] at h
 case add =>
  obtain ⟨h0,h⟩ := br_left h
  have h0' := Nat.le_of_ble_eq_true h0
  have hs : ¬ (((x.size + y.size : Nat) : Int) > IntKind.i64.max):=by
   have e1 : x.size = x.data.toList.length := by rw [Array.length_toList]; rfl
   have e2 : y.size = y.data.toList.length := by rw [Array.length_toList]; rfl
   have e3 : IntKind.i64.max = 9223372036854775807 := rfl
   omega
  refine ⟨.string (x ++ y),.str (x.data.toList ++ y.data.toList),?_,?_,h⟩
  ·simp only [binOp,Op.stringOp,if_neg hs,Sem.run_pure]
  ·have := Rep.str (g := g) (w := w) (x ++ y)
   rw [ByteArray.data_append,Array.toList_append] at this
   exact this
 case eql=>exact ⟨_,_,by rw [binOp_string_eql,Sem.run_pure,hx,hy],.bool _,by rw [← he]; exact h⟩
 case neq=>exact ⟨_,_,by rw [binOp_string_neq,Sem.run_pure,hx,hy,← he],.bool _,h⟩
 case lss=>exact ⟨_,_,by rw [binOp_string_lss,Sem.run_pure,hx,hy],.bool _,h⟩
 case leq=>exact ⟨_,_,by rw [show binOp .leq t (.string x) (.string y) = pure (.bool (Op.bytesLess x.toList y.toList || x.toList == y.toList)) from by simp [binOp,Op.stringOp],Sem.run_pure,hx,hy,← he],.bool _,h⟩
 case gtr=>exact ⟨_,_,by rw [show binOp .gtr t (.string x) (.string y) = pure (.bool !(Op.bytesLess x.toList y.toList || x.toList == y.toList)) from by simp [binOp,Op.stringOp],Sem.run_pure,hx,hy,← he],.bool _,h⟩
 case geq=>exact ⟨_,_,by rw [show binOp .geq t (.string x) (.string y) = pure (.bool !(Op.bytesLess x.toList y.toList)) from by simp [binOp,Op.stringOp],Sem.run_pure,hx,hy],.bool _,h⟩
 all_goals cases h
theorem eqGuard_skip {op : BinOp} {t : TypeId} {x y : Operand} {a b : Value} (h : ∀ cs,a ≠ .agg cs) (h2 : a ≠ .nilIface) : (eqGuard op t x y a b).run P w = .ok () w:=by
 unfold eqGuard
 cases op <;> first
  | (simp; done)
  | (cases a <;> first | exact absurd rfl (h _) | exact absurd rfl h2 | (simp; done) | (cases b <;> simp))
theorem scal_int' {t : TypeId} {i : IntKind} {n : Int} (h : scal P t (.int i n) = true) : P.underlying t = some (.int i):=by
 simp only [scal] at h
 split at h
 ·rename_i k hk; rw [hk,sameKind_eq h]
 ·cases h
theorem scal_int {t : TypeId} {i : IntKind} {n : Int} (h : scal P t (.int i n) = true) : ∃ k,P.underlying t = some (.int k) := ⟨i,scal_int' h⟩
theorem scal_str {t : TypeId} {s : List UInt8} (h : scal P t (.str s) = true) : P.underlying t = some .string:=by
 simp only [scal] at h
 split at h
 ·rename_i hk; exact hk
 ·cases h
theorem scal_bool {t : TypeId} {b : Bool} (h : scal P t (.bool b) = true) : P.underlying t = some .bool:=by
 simp only [scal] at h
 split at h
 ·rename_i hk; exact hk
 ·cases h
theorem eq1_sound {t : TypeId} {ux uy : Value} {x y : AV} {k : Bool→Option R} (h : eq1 x y k = some r) (h1 : scal P t x = true) (hx : Rep g w ux x) (hy : Rep g w uy y) :
  ∃ b,(∀ d,(Op.equalIn (d + 1) t ux uy).run P w = .ok b w)∧k b = some r:=by
 cases x with
 | int i a =>
  simp only [eq1] at h
  obtain ⟨j,b,rfl,h2⟩ := int?_some h
  obtain ⟨h0,h3⟩ := br_left h2
  clear h h2
  obtain rfl := sameKind_eq h0
  obtain rfl := rep_int hx
  obtain rfl := rep_int hy
  obtain ⟨kk,hu⟩ := scal_int h1
  exact ⟨_,fun d=>run_equalIn_int w d t i kk a b hu,h3⟩
 | str a =>
  simp only [eq1] at h
  obtain ⟨b,rfl,h2⟩ := str?_some h
  clear h
  obtain ⟨s1,rfl,rfl⟩ := rep_str hx
  obtain ⟨s2,rfl,rfl⟩ := rep_str hy
  have hu := scal_str h1
  refine ⟨_,fun d=>run_equalIn_string w d t s1 s2 hu,?_⟩
  rw [ByteArray.toList_eq,ByteArray.toList_eq,← eqS_eq]
  exact h2
 | bool a =>
  simp only [eq1] at h
  obtain ⟨b,rfl,h2⟩ := bool?_some h
  clear h
  obtain rfl := rep_bool hx
  obtain rfl := rep_bool hy
  exact ⟨_,fun d=>run_equalIn_bool' w d t a b (scal_bool h1),h2⟩
 | _=>cases h
theorem eqlK_sound {op : BinOp} {t : TypeId} {ux uy : Value} {b : Bool} {k : AV→Option R} (hu : ∀ o : BinOp,o = .eql ∨ o = .neq→(binOp o t ux uy).run P w = .ok (.bool (eqb o b)) w) (h : eqlK op b k = some r) : ∃ u v,(binOp op t ux uy).run P w = .ok u w∧Rep g w u v∧k v = some r:=by
 unfold eqlK at h
 split at h
 ·exact ⟨_,_,hu _ (.inl rfl),.bool _,h⟩
 ·exact ⟨_,_,hu _ (.inr rfl),.bool _,h⟩
 ·cases h
theorem eqIface_sound {t : TypeId} {ms : Array (String × TypeId)} {ux uy : Value} {x y : AV} {k : Bool→Option R} (hu : P.underlying t = some (.interface ms)) (h : eqIface P x y k = some r) (hx : Rep g w ux x) (hy : Rep g w uy y) :
  ∃ b,(∀ d,(Op.equalIn (d + 2) t ux uy).run P w = .ok b w)∧k b = some r:=by
 unfold eqIface at h
 split at h
 ·rename_i tx v
  obtain ⟨vx,rfl,hvx⟩ := rep_iface hx
  split at h
  ·rename_i ty v'
   obtain ⟨vy,rfl,hvy⟩ := rep_iface hy
   rcases br_some h with ⟨h0,h5⟩ | ⟨h0,h5⟩
   ·clear h
    obtain rfl := Nat.eq_of_beq_eq_true h0
    obtain ⟨h2,h6⟩ := br_left h5
    simp only [Bool.and_eq_true] at h2
    obtain ⟨hc,h3,h4⟩ := h2
    obtain ⟨b,hb,hk⟩ := eq1_sound h6 h3 hvx hvy
    refine ⟨b,fun d=>?_,hk⟩
    unfold tComp at hc
    split at hc
    ·rename_i i hi
     have := hb d
     rw [Op.equalIn]
     simp only [Sem.run_bind,run_underlying hu,Result.andThen_ok,ne_eq,not_true_eq_false,if_false,typeInfo,run_program,hi,hc,Sem.run_pure,Bool.not_true,Bool.false_eq_true]
     exact this
    ·cases hc
   ·have hne : tx ≠ ty := fun e=>by subst e; rw [show Nat.beq tx tx = true from Nat.beq_refl tx] at h0; cases h0
    exact ⟨false,fun d=>by simp [Op.equalIn,run_underlying hu,hne],h5⟩
  ·obtain rfl := rep_nilI hy
   exact ⟨false,fun d=>by simp [Op.equalIn,run_underlying hu],h⟩
  ·cases h
 ·obtain rfl := rep_nilI hx
  split at h
  ·obtain ⟨vy,rfl,_⟩ := rep_iface hy
   exact ⟨false,fun d=>by simp [Op.equalIn,run_underlying hu],h⟩
  ·cases h
 ·cases h
theorem iface_bin {t : TypeId} {ux uy : Value} {b : Bool} {o : BinOp} (ho : o = .eql ∨ o = .neq) (hb : ∀ d,(Op.equalIn (d + 2) t ux uy).run P w = .ok b w) (hs : (∃ tx v,ux = .iface tx v) ∨ ux = .nilIface) :
  (binOp o t ux uy).run P w = .ok (.bool (eqb o b)) w:=by
 have e : (Op.equal t ux uy).run P w = .ok b w := hb 9998
 rcases ho with rfl | rfl <;> rcases hs with ⟨tx,v,rfl⟩ | rfl <;> simp only [binOp,Sem.run_bind,Sem.run_map,e,Result.andThen_ok,Sem.run_pure,eqb]
theorem part_one {us : List Value} {t : TypeId} {f : Nat} {u : Value} {d : TypeDesc} (hu : P.underlying t = some d) (hd : (∀ fs,d ≠ .struct fs)∧∀ n e,d ≠ .array n e) (hj : us[f]? = some u) : (part t us.toArray f).run P w = .ok u w:=by
 have ha : (isAgg t).run P w = .ok false w:=by
  simp only [isAgg,Sem.run_bind,run_underlying hu,Result.andThen_ok]
  cases d <;> first | exact absurd rfl (hd.1 _) | exact absurd rfl (hd.2 _ _) | rfl
 simp only [part,Sem.run_bind,ha,Result.andThen_ok,Bool.false_eq_true,if_false,List.getElem?_toArray,hj,Sem.run_pure]
theorem eqFs_sound {xs ys : List AV} {uxs uys : List Value} {k : Bool→Option R} : ∀ (fs : List Field),eqFs P xs ys fs k = some r→noBlank fs = true→RepL g w uxs xs→RepL g w uys ys →
  ∃ b,(∀ d,(Op.eqFields (d + 1) uxs.toArray uys.toArray fs).run P w = .ok b w)∧k b = some r:=by
 intro fs
 induction fs with
 | nil=>intro h _ _ _; exact ⟨true,fun d=>rfl,h⟩
 | cons f fs ih =>
  intro h hn hx hy
  simp only [eqFs] at h
  obtain ⟨a,ha,h1⟩ := bind_some' h
  obtain ⟨b,hb,h2⟩ := bind_some' h1
  obtain ⟨h3,h4⟩ := br_left h2
  clear h h1 h2
  rw [Bool.and_eq_true] at h3
  rw [nth_get] at ha hb
  obtain ⟨ua,hua,hra⟩ := hx.get ha
  obtain ⟨ub,hub,hrb⟩ := hy.get hb
  obtain ⟨e,he,h5⟩ := eq1_sound h4 h3.1 hra hrb
  have hnb : f.name ≠ "_"∧noBlank fs = true:=by
   unfold noBlank at hn
   split at hn
   ·cases hn
   ·rename_i hh; exact ⟨by simpa using hh,hn⟩
  have hund : ∃ d,P.underlying f.type = some d∧(∀ fs,d ≠ .struct fs)∧∀ n e,d ≠ .array n e:=by
   have h3' := h3.1
   cases a with
   | int i n=>obtain ⟨kk,hk⟩ := scal_int h3'; exact ⟨_,hk,by simp,by simp⟩
   | str s=>exact ⟨_,scal_str h3',by simp,by simp⟩
   | bool s=>exact ⟨_,scal_bool h3',by simp,by simp⟩
   | _=>cases h3'
  obtain ⟨dd,hd1,hd2⟩ := hund
  have pa := part_one (w := w) hd1 hd2 hua
  have pb := part_one (w := w) hd1 hd2 hub
  cases e with
  | true =>
   obtain ⟨b',hb',hk⟩ := ih h5 hnb.2 hx hy
   refine ⟨b',fun d=>?_,hk⟩
   simp only [Op.eqFields,ne_eq,hnb.1,not_false_eq_true,if_true,Sem.run_bind,pa,pb,he d,Result.andThen_ok,Bool.not_true,Bool.false_eq_true,if_false]
   exact hb' d
  | false =>
   refine ⟨false,fun d=>?_,h5⟩
   simp only [Op.eqFields,ne_eq,hnb.1,not_false_eq_true,if_true,Sem.run_bind,pa,pb,he d,Result.andThen_ok,Bool.not_false,Sem.run_pure]
theorem opBinT_sound {op : BinOp} {t : TypeId} {xo yo : Operand} {ux uy : Value} {x y : AV} {k : AV→Option R} (h : opBinT P op t (isConst xo) (isConst yo) x y k = some r)
  (hx : Rep g w ux x) (hy : Rep g w uy y) : ∃ u v,(do eqGuard op t xo yo ux uy; binOp op t ux uy : Sem Value).run P w = .ok u w∧Rep g w u v∧k v = some r:=by
 cases x with
 | bool b1 =>
  simp only [opBinT] at h
  obtain ⟨b2,rfl,h⟩ := bool?_some h
  obtain rfl := rep_bool hx
  obtain rfl := rep_bool hy
  simp only [Sem.run_bind,eqGuard_skip (P := P) (w := w) (a := Value.bool b1) (by simp) (by simp),Result.andThen_ok]
  split at h
  ·rename_i hu
   split at h
   ·exact ⟨_,_,run_eql_bool w t b1 b2 hu,.bool _,h⟩
   ·exact ⟨_,_,run_neq_bool w t b1 b2 hu,.bool _,h⟩
   ·cases h
  ·cases h
 | nilp =>
  obtain rfl := rep_nilp hx
  simp only [Sem.run_bind,eqGuard_skip (P := P) (w := w) (a := Value.pointer none) (by simp) (by simp),Result.andThen_ok]
  cases y with
  | nilp =>
   simp only [opBinT] at h
   obtain rfl := rep_nilp hy
   split at h
   ·rename_i e hu
    have hu' : P.underlying t = some (.pointer (P.pointee t)) := by rw [hu]; simp [Program.pointee,hu]
    split at h
    ·exact ⟨_,_,run_eql_pointer_nil w t none hu',.bool true,h⟩
    ·exact ⟨_,_,run_neq_pointer_nil w t none hu',.bool false,h⟩
    ·cases h
   ·cases h
  | _=>cases h
 | ptr id off =>
  obtain ⟨B,hB,rfl⟩ := rep_ptr hx
  simp only [Sem.run_bind,eqGuard_skip (P := P) (w := w) (a := Value.pointer (some ⟨B,off,none⟩)) (by simp) (by simp),Result.andThen_ok]
  cases y with
  | nilp =>
   simp only [opBinT] at h
   obtain rfl := rep_nilp hy
   split at h
   ·rename_i e hu
    have hu' : P.underlying t = some (.pointer (P.pointee t)) := by rw [hu]; simp [Program.pointee,hu]
    split at h
    ·exact ⟨_,_,run_eql_pointer_nil w t (some ⟨B,off,none⟩) hu',.bool false,h⟩
    ·exact ⟨_,_,run_neq_pointer_nil w t (some ⟨B,off,none⟩) hu',.bool true,h⟩
    ·cases h
   ·cases h
  | _=>cases h
 | int i a =>
  simp only [opBinT,opBin] at h
  obtain ⟨j,b,rfl,h⟩ := int?_some h
  obtain rfl := rep_int hx
  obtain rfl := rep_int hy
  simp only [Sem.run_bind,eqGuard_skip (P := P) (w := w) (a := Value.int i a) (by simp) (by simp),Result.andThen_ok]
  split at h
  ·obtain ⟨h0,h⟩ := br_right h
   have h0' : ¬ b < 0 := by simpa using h0
   exact ⟨_,_,by simp [binOp,Op.shift,h0']; rfl,.int _ _,h⟩
  ·obtain ⟨h0,h⟩ := br_right h
   have h0' : ¬ b < 0 := by simpa using h0
   exact ⟨_,_,by simp [binOp,Op.shift,h0']; rfl,.int _ _,h⟩
  ·obtain ⟨h0,h1⟩ := br_left (show br (sameKind i j) (opInt op i a b k) Option.none = some r from h)
   obtain rfl := sameKind_eq h0
   exact opInt_sound t h1
 | str s =>
  simp only [opBinT,opBin] at h
  obtain ⟨b,rfl,h⟩ := str?_some h
  obtain ⟨s1,rfl,rfl⟩ := rep_str hx
  obtain ⟨s2,rfl,rfl⟩ := rep_str hy
  simp only [Sem.run_bind,eqGuard_skip (P := P) (w := w) (a := Value.string s1) (by simp) (by simp),Result.andThen_ok]
  exact opStr_sound t h
 | iface tx v =>
  obtain ⟨vx,rfl,hvx⟩ := rep_iface hx
  simp only [Sem.run_bind,eqGuard_skip (P := P) (w := w) (a := Value.iface tx vx) (by simp) (by simp),Result.andThen_ok]
  simp only [opBinT] at h
  split at h
  ·rename_i ms hu
   obtain ⟨b,hb,hk⟩ := eqIface_sound (w := w) (g := g) hu h (.iface tx vx v hvx) hy
   exact eqlK_sound (fun o ho=>iface_bin ho hb (.inl ⟨_,_,rfl⟩)) hk
  ·cases h
 | nilI =>
  obtain rfl := rep_nilI hx
  simp only [opBinT] at h
  split at h
  ·rename_i ms hu
   split at h
   ·obtain rfl := rep_nilI hy
    obtain ⟨h0,h1⟩ := br_left h
    have hg : (eqGuard op t xo yo Value.nilIface Value.nilIface).run P w = .ok () w:=by
     have hc : (isConst xo || isConst yo) = true := h0
     cases op <;> simp only [eqGuard] <;> first | (simp; done) | skip
     all_goals
      cases xo <;> cases yo <;> simp [isConst] at hc ⊢
    simp only [Sem.run_bind,hg,Result.andThen_ok]
    have hq : ∀ d,(Op.equalIn (d + 2) t Value.nilIface Value.nilIface).run P w = .ok true w := fun d=>by simp [Op.equalIn,run_underlying hu]
    exact eqlK_sound (fun o ho=>iface_bin ho hq (.inr rfl)) h1
   ·have hg : ∀ uy',Rep g w uy' y→uy' ≠ .nilIface→(eqGuard op t xo yo Value.nilIface uy').run P w = .ok () w:=by
     intro uy' _ hne
     cases op <;> simp only [eqGuard] <;> first | (simp; done) | skip
     all_goals
      cases uy' <;> first | exact absurd rfl hne | (simp; done)
    have hne : uy ≠ .nilIface:=by
     rintro rfl
     rename_i hny
     cases hy <;> first | exact hny rfl | (cases h; done)
    simp only [Sem.run_bind,hg uy hy hne,Result.andThen_ok]
    obtain ⟨b,hb,hk⟩ := eqIface_sound (w := w) (g := g) hu h .nilI hy
    exact eqlK_sound (fun o ho=>iface_bin ho hb (.inr rfl)) hk
  ·cases h
 | agg xs =>
  simp only [opBinT] at h
  obtain ⟨ys,rfl,h1⟩ := agg?_some h
  clear h
  obtain ⟨uxs,rfl,_,hrx⟩ := rep_agg hx
  obtain ⟨uys,rfl,_,hry⟩ := rep_agg hy
  split at h1
  ·rename_i fs hfs
   obtain ⟨h2,h3⟩ := br_left h1
   simp only [Bool.and_eq_true,Bool.not_eq_true'] at h2
   obtain ⟨h4,h5,h6⟩ := h2
   have hu : P.underlying t = some (.struct (P.fieldsOf t))∧(P.fieldsOf t).toList = fs:=by
    unfold tFields at hfs
    unfold Program.fieldsOf
    split at hfs
    ·rename_i fa hu
     injection hfs with hfs
     rw [hu]
     exact ⟨rfl,hfs⟩
    ·cases hfs
   simp only [Sem.run_bind,run_eqGuard_agg w op t xo yo uxs.toArray uys.toArray h4,Result.andThen_ok]
   obtain ⟨b,hb,hk⟩ := eqFs_sound fs h3 h6 hrx hry
   have he : ∀ d,(Op.equalIn (d + 2) t (.agg uxs.toArray) (.agg uys.toArray)).run P w = .ok b w := fun d=>by
    rw [run_equalIn_struct w (d + 1) t _ _ hu.1 h5,hu.2]; exact hb d
   refine eqlK_sound (fun o ho=>?_) hk
   rcases ho with rfl | rfl
   ·rw [run_eql_struct,he 9998]; rfl
   ·rw [run_neq_struct,he 9998]; rfl
  ·cases h1
 | _=>cases h
theorem opUn_sound {op : UnOp} {ux : Value} {x : AV} {k : AV→Option R} (h : opUn op x k = some r) (hx : Rep g w ux x) :
  ∃ u v,(Op.unary op ux).run P w = .ok u w∧Rep g w u v∧k v = some r:=by
 unfold opUn at h
 split at h
 ·obtain ⟨i,n,rfl,h⟩ := int?_some h
  obtain rfl := rep_int hx
  exact ⟨_,_,by simp [Op.unary,Op.intArith],.int i (i.wrap (0 - n)),h⟩
 ·obtain ⟨i,n,rfl,h⟩ := int?_some h
  obtain rfl := rep_int hx
  exact ⟨_,_,by simp [Op.unary,Op.intBits,bits],.int i (bits .xor i (if i.signed then -1 else i.max) n),h⟩
 ·obtain ⟨b,rfl,h⟩ := bool?_some h
  obtain rfl := rep_bool hx
  exact ⟨_,_,by simp [Op.unary],.bool _,h⟩
 ·cases h
end ops
end Go.Vai
end
