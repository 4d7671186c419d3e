/- What the parser of schemas does, as plain functions and rules over its state. -/
import Derived.Lib.ParseIntB
import Derived.Lib.Bytealg
import Derived.Lib.Walk
import Derived.WalkKit
import Derived.Lib.AtoiErrMem
import Derived.Shelf.SlSortCmp.NoneTotal
import Derived.Test.YtfdklpkfpmkgeaaGreatDoorProg
import Derived.Shelf.RegionOpenPlain
import Derived.Deep.LoopGhost
import Derived.Deep.Draws
import Derived.Sort.WalkB12
import Derived.Lib.SliceRun
import Derived.Lib.SlicesS
import Derived.Lib.SlicesCompact
import Derived.Shelf.SlicesQ.Reverse
import Derived.Test.YtfdklpkfpmkgeaaGreatDoorM0
import Derived.Test.YtfdklpkfpmkgeaaGreatDoorM5
set_option linter.unusedSimpArgs false
set_option linter.unusedVariables false
set_option linter.unusedSectionVars false
set_option linter.unnecessarySimpa false
namespace Go.Proofs.YtfdklpkfpmkgeaaGreatDoor
section
open Go Go.Vai
structure PS where
 src : List UInt8
 pos : Int
 kind : Int
 s : List UInt8
 n : Int
 tat : Int
 depth : Int
 err : Int
 eat : Int
def hp (p : PS) (T : Hp) : Hp := ((0,⟨[.str p.src,.int .i64 p.pos,.int .i64 p.kind,.str p.s,.int .i64 p.n,.int .i64 p.tat,.int .i64 p.depth,.int .i64 p.err,.int .i64 p.eat],[]⟩) :: (T : List (Nat × Blk)) : List (Nat × Blk))
def zqh (c : UInt8) : Bool := (decide (97 ≤ (c.toNat : Int)) && decide ((c.toNat : Int) ≤ 122)) || (decide (65 ≤ (c.toNat : Int)) && decide ((c.toNat : Int) ≤ 90))
def zed (c : UInt8) : Bool := decide (48 ≤ (c.toNat : Int)) && decide ((c.toNat : Int) ≤ 57)
def isWs (c : UInt8) : Bool := c.toNat == 9 || c.toNat == 10 || c.toNat == 13 || c.toNat == 32
def zbk : Bool→List UInt8→Nat
 | _,[]=>0
 | false,c :: r=>if isWs c then zbk false r + 1 else if c.toNat = 35 then zbk true r + 1 else 0
 | true,c :: r=>if c.toNat = 10 then zbk false r + 1 else zbk true r + 1
def zcw : List UInt8→Option (List UInt8 × Nat)
 | []=>none
 | c :: r =>
  if c.toNat = 34 then some ([],1)
  else if c.toNat = 92 then match r with
   | []=>none
   | d :: r'=>if d.toNat = 34 ∨ d.toNat = 92 then (zcw r').map fun (s,k)=>(d :: s,k + 2) else none
  else if c.toNat < 32 ∨ 126 < c.toNat then none
  else (zcw r).map fun (s,k)=>(c :: s,k + 1)
def zfl : List (List UInt8) := [[123],[125],[40],[41],[59],[44],[61,61],[61],[33,61],[33],[60,61],[60],[62,61],[62],[43],[45],[42],[38,38],[124,124]]
end
section
open Go Go.Vai
abbrev i6 (x : Int) : AV := .int .i64 x
abbrev vi (k : Nat) (x : Int) : Nat × Slot := (k,.val (.int .i64 x) .no)
abbrev vb (k : Nat) (b : Bool) : Nat × Slot := (k,.val (.bool b) .no)
abbrev vt (k : Nat) (s : List UInt8) : Nat × Slot := (k,.val (.str s) .no)
abbrev vv (k : Nat) (v : AV) : Nat × Slot := (k,.val v .no)
abbrev mk0 (n : Nat) (l : List (Nat × Slot)) : St := mkS n l [] Hp.none 0
abbrev cl0 (g : Nat) (args : List AV) (K : Out→Tr) : Tr := .br (za3 args) (.call g args Hp.none 0 K) .none
def ext (g : Nat) : Bool := memN g [14,26,181,144]
structure Ext (C : Nat→Oracle) : Prop where
 base : ∃ b : Oracle,C = calW Tryz.prog ann b∧∀ g args H nx,ext g = false→b g args H nx = none
 idx : ∀ (s : List UInt8) (c : Int),s.length ≤ 1099511627776→calL C 181 [.str s,.int .u8 c] Hp.none 0 = some ⟨.int .i64 (Lib.indexByte s (UInt8.ofNat c.toNat)),Hp.none,0⟩
 pint : ∀ (s : List UInt8),s.length ≤ 1099511627776→∃ v e,calL C 144 [.str s,.int .i64 10,.int .i64 64] Hp.none 0 = some ⟨.tuple [.int .i64 v,e],Hp.none,0⟩∧AV.pure e = true ∧
  (match Lib.parseIntB 64 s with
  | .ok u=>v = u∧e = .nilI
  | _=>∃ t w,e = .iface t w)
theorem Ext.call {C : Nat→Oracle} (hC : Ext C) {g : Nat} {args : List AV} {H : Hp} {nx : Nat} {S : St} (hg : ext g = false) (hc : ∀ cal n,calN Tryz.prog ann cal n g args H nx = Vai.run Tryz.prog ann cal n g (zao g) S) {o : Out} (ho : RL C g [] S = some o) : calL C g args H nx = some o:=by
 obtain ⟨b,rfl,hb⟩ := hC.base;exact calR b (hb _ _ _ _ hg) hc ho
abbrev Q00:List Nat:=[0,0,5,6]
abbrev Q01:List Nat:=[0,5,0,0]
abbrev Q02:List Nat:=[1,2,3,4]
abbrev Q03:List Nat:=Q00++[0]
abbrev Q04:List Nat:=[0,0,5,7,5]
abbrev Q05:List Nat:=[0,5,0,5,0]
abbrev Q06:List Nat:=Q04++[0]
abbrev Q07:List Nat:=Q01++[5,5]
abbrev Q08:List Nat:=Q05++[0]
abbrev Q09:List Nat:=[0,5,0,5,2,3]
abbrev Q0a:List Nat:=Q01++[5,2,3]
abbrev Q0b:List Nat:=Q07++[0]
abbrev Q0c:List Nat:=Q01++[5,6,0]
abbrev Q0d:List Nat:=Q05++[2,0]
abbrev Q0e:List Nat:=Q05++[2,3]
abbrev Q0f:List Nat:=Q05++[5,0]
abbrev Q0g:List Nat:=Q01++[5,7,5,0]
abbrev Q0h:List Nat:=Q0f++[0]
abbrev Q0i:List Nat:=Q08++[5,2,3]
abbrev Q0j:List Nat:=Q08++[5,6,0]
abbrev Q0k:List Nat:=Q0d++[5,6]
abbrev Q0l:List Nat:=Q0e++[0,0]
abbrev Q0m:List Nat:=Q0f++[2,3]
abbrev Q0n:List Nat:=Q0f++[5,0]
abbrev Q0o:List Nat:=Q0g++[5,0]
abbrev Q0p:List Nat:=Q08++[5,7,5,0]
abbrev Q0q:List Nat:=Q0k++[0]
abbrev Q0r:List Nat:=Q0i++[0,0]
abbrev Q0s:List Nat:=Q0j++[5,0]
abbrev Q0t:List Nat:=Q0h++[5,2,3]
abbrev Q0u:List Nat:=Q0h++[5,6,0]
abbrev Q0v:List Nat:=Q0m++[0,0]
abbrev Q0w:List Nat:=Q06++[5,0,0,5,6,0]
abbrev Q0x:List Nat:=Q0b++[5,0,0,5,5]
abbrev Q0y:List Nat:=Q0b++[5,0,0,5,6]
abbrev Q0z:List Nat:=Q0o++[2,3]
abbrev Q10:List Nat:=Q0o++[5,0]
abbrev Q11:List Nat:=Q0p++[5,0]
abbrev Q12:List Nat:=Q0d++[5,7,0,5,6]
abbrev Q13:List Nat:=Q0d++[5,7,0,5,7]
abbrev Q14:List Nat:=Q0h++[5,7,5,0]
abbrev Q15:List Nat:=Q0x++[0]
abbrev Q16:List Nat:=Q10++[0]
abbrev Q17:List Nat:=Q0s++[5,0]
abbrev Q18:List Nat:=Q11++[0]
abbrev Q19:List Nat:=Q12++[0]
abbrev Q1a:List Nat:=Q0t++[0,0]
abbrev Q1b:List Nat:=Q0f++[2,0,5,6,0,5]
abbrev Q1c:List Nat:=Q0n++[5,0,2,3]
abbrev Q1d:List Nat:=Q0z++[0,0]
abbrev Q1e:List Nat:=Q10++[5,0]
abbrev Q1f:List Nat:=Q0u++[5,2,3]
abbrev Q1g:List Nat:=[0,5,0,5,2,0,0,5,6,5,6,0,5,0]
abbrev Q1h:List Nat:=Q09++[0,5,0,6,5,0,2,0]
abbrev Q1i:List Nat:=Q0a++[0,5,0,6,5,0,2,0]
abbrev Q1j:List Nat:=Q15++[5,0]
abbrev Q1k:List Nat:=Q16++[5,0]
abbrev Q1l:List Nat:=Q17++[5,0]
abbrev Q1m:List Nat:=Q0f++[2,0,5,7,0,5,7,0]
abbrev Q1n:List Nat:=Q0v++[5,6,5,2]
abbrev Q1o:List Nat:=Q1c++[0,0]
abbrev Q1p:List Nat:=Q0a++[0,5,0,7,5,5,5,5,0]
abbrev Q1q:List Nat:=Q1e++[2,3]
abbrev Q1r:List Nat:=Q1e++[5,0]
abbrev Q1s:List Nat:=Q13++[0,5,6,0]
abbrev Q1t:List Nat:=Q1f++[0,0]
abbrev Q1u:List Nat:=Q14++[5,0,2,0]
abbrev Q1v:List Nat:=Q0f++[2,0,5,7,0,5,6,0,5]
abbrev Q1w:List Nat:=Q1h++[5,0]
abbrev Q1x:List Nat:=Q1i++[5,0]
abbrev Q1y:List Nat:=Q1j++[5,0]
abbrev Q1z:List Nat:=Q0r++[5,6,5,0,2,0]
abbrev Q20:List Nat:=Q0i++[0,5,0,6,5,0,2,0]
abbrev Q21:List Nat:=Q1l++[5,0]
abbrev Q22:List Nat:=[0,5,0,5,2,0,0,5,7,0,5,6,5,6,0,5,0]
abbrev Q23:List Nat:=Q1k++[5,6,0]
abbrev Q24:List Nat:=Q1q++[0,0]
abbrev Q25:List Nat:=Q11++[5,0,0,5,6,0]
abbrev Q26:List Nat:=Q1m++[5,7,0]
abbrev Q27:List Nat:=Q0v++[5,7,5,5,5,5,0]
abbrev Q28:List Nat:=Q01++[5,2,0,5,7,0,5,7,0,5,7,0,5,6,0]
abbrev Q29:List Nat:=Q1k++[5,7,5,0]
abbrev Q2a:List Nat:=Q1z++[5,0]
abbrev Q2b:List Nat:=Q18++[5,2,0,5,6,0]
abbrev Q2c:List Nat:=Q25++[5]
abbrev Q2d:List Nat:=Q11++[5,0,0,5,7,5,0]
abbrev Q2e:List Nat:=Q1a++[5,6,5,0,2,0]
abbrev Q2f:List Nat:=Q0t++[0,5,0,6,5,0,2,0]
abbrev Q2g:List Nat:=Q1u++[5,6,0]
abbrev Q2h:List Nat:=Q1u++[5,7,0]
abbrev Q2i:List Nat:=Q1m++[5,6,0,5]
abbrev Q2j:List Nat:=Q1o++[5,6,5,2]
abbrev Q2k:List Nat:=Q1g++[5,0,0,5,6]
abbrev Q2l:List Nat:=Q1x++[5,6,0]
abbrev Q2m:List Nat:=Q21++[5,0,0]
abbrev Q2n:List Nat:=Q1a++[5,7,5,5,5,5,0]
abbrev Q2o:List Nat:=Q2f++[5]
abbrev Q2p:List Nat:=Q0t++[0,5,0,7,5,5,5,5,0]
abbrev Q2q:List Nat:=[0,5,0,5,2,0,0,5,7,0,5,7,0,5,6,5,6,0,5,0]
abbrev Q2r:List Nat:=Q1w++[0,5,6,0]
abbrev Q2s:List Nat:=Q1p++[0,5,7,5,0]
abbrev Q2t:List Nat:=Q1d++[5,6,5,2,0,5,0]
abbrev Q2u:List Nat:=Q1z++[0,5,6,5]
abbrev Q2v:List Nat:=Q1z++[0,5,7,5]
abbrev Q2w:List Nat:=Q2c++[5,0]
abbrev Q2x:List Nat:=Q2e++[5,0]
abbrev Q2y:List Nat:=Q1t++[5,6,5,2,0]
abbrev Q2z:List Nat:=Q26++[5,7,0]
abbrev Q30:List Nat:=Q1w++[0,5,7,5,0]
abbrev Q31:List Nat:=Q1w++[5,0,0,5,6]
abbrev Q32:List Nat:=Q01++[5,2,0,5,7,0,5,7,0,5,7,0,5,7,0,5,6,0]
abbrev Q33:List Nat:=Q1p++[5,0,0,5,6,0]
abbrev Q34:List Nat:=Q1y++[5,0,0,5,5]
abbrev Q35:List Nat:=Q24++[5,6,5,2]
abbrev Q36:List Nat:=Q2a++[5,0,0]
abbrev Q37:List Nat:=Q18++[5,2,0,5,7,0,5,6,0]
abbrev Q38:List Nat:=Q2p++[5,0]
abbrev Q39:List Nat:=Q2y++[5]
abbrev Q3a:List Nat:=Q0h++[5,6,5,0,5,0,0,5,2,0,5,6,0,0]
abbrev Q3b:List Nat:=Q14++[5,0,0,5,2,0,5,6,0,0]
abbrev Q3c:List Nat:=Q26++[5,6,0,5]
abbrev Q3d:List Nat:=Q1o++[5,7,5,5,5,5,0]
abbrev Q3e:List Nat:=Q2k++[5,0,5]
abbrev Q3f:List Nat:=Q1g++[5,0,0,5,7,5,0,5]
abbrev Q3g:List Nat:=Q22++[5,0,0,5,6]
abbrev Q3h:List Nat:=Q34++[0]
abbrev Q3i:List Nat:=Q1y++[5,0,0,5,6,0]
abbrev Q3j:List Nat:=Q2t++[5,0]
abbrev Q3k:List Nat:=Q2m++[5,6,0]
abbrev Q3l:List Nat:=Q2x++[5,0]
abbrev Q3m:List Nat:=Q2o++[0,5,0]
abbrev Q3n:List Nat:=Q1t++[5,7,5,5,5,5,0]
abbrev Q3o:List Nat:=[0,5,0,5,2,0,0,5,7,0,5,7,0,5,7,0,5,6,5,6,0,5,0]
abbrev Q3p:List Nat:=[0,5,0,5,2,0,0,5,7,0,5,7,0,5,7,0,5,7,5,6,0,5,0]
abbrev Q3q:List Nat:=Q30++[5,0]
abbrev Q3r:List Nat:=Q23++[5,0,5,6,5,0]
abbrev Q3s:List Nat:=Q23++[5,0,5,7,5,0]
abbrev Q3t:List Nat:=Q20++[5,0,0,5,7,5,0]
abbrev Q3u:List Nat:=Q3k++[5]
abbrev Q3v:List Nat:=Q2m++[5,7,5,0]
abbrev Q3w:List Nat:=Q2p++[0,5,2,3]
abbrev Q3x:List Nat:=Q2h++[5,6,0,5,0]
abbrev Q3y:List Nat:=Q2z++[5,7,0]
abbrev Q3z:List Nat:=Q18++[5,2,0,5,7,0,5,7,0,5,6,0]
abbrev Q40:List Nat:=Q3m++[5,0]
abbrev Q41:List Nat:=Q22++[5,0,0,5,7,5,0,5]
abbrev Q42:List Nat:=Q2q++[5,0,0,5,6]
abbrev Q43:List Nat:=Q3u++[5,0]
abbrev Q44:List Nat:=Q3x++[5,0]
abbrev Q45:List Nat:=Q2z++[5,6,0,5,0]
abbrev Q46:List Nat:=[0,5,0,5,2,0,0,5,7,0,5,7,0,5,7,0,5,7,5,7,0,5,6,0,5,0]
abbrev Q47:List Nat:=Q36++[5,2,0,5,6]
abbrev Q48:List Nat:=Q3a++[5,0,5,6,0]
abbrev Q49:List Nat:=Q0h++[5,6,5,0,5,0,0,5,2,0,5,7,0,5,7,5,5,0,0]
abbrev Q4a:List Nat:=Q3b++[5,0,5,6,0]
abbrev Q4b:List Nat:=Q14++[5,0,0,5,2,0,5,7,0,5,7,5,5,0,0]
abbrev Q4c:List Nat:=Q2h++[5,7,0,5,6,0,5,0]
abbrev Q4d:List Nat:=Q3y++[5,6,0]
abbrev Q4e:List Nat:=Q2r++[5,0,5,0,0,5,6]
abbrev Q4f:List Nat:=[2,3,0,0,5,6,5,2,0,5,2,0,0,5,7,0,5,7,0,5,7,5,7,0,5,6,0]
abbrev Q4g:List Nat:=Q3h++[5,0,0,5,5]
abbrev Q4h:List Nat:=Q24++[5,7,5,5,5,5,0,0,5,6]
abbrev Q4i:List Nat:=Q18++[5,2,0,5,7,0,5,7,0,5,7,0,5,6,0]
abbrev Q4j:List Nat:=Q3l++[5,0,5,0,0]
abbrev Q4k:List Nat:=Q40++[5,0,0]
abbrev Q4l:List Nat:=Q45++[5,0]
abbrev Q4m:List Nat:=Q3y++[5,7,0,5]
abbrev Q4n:List Nat:=Q2q++[5,0,0,5,7,5,0,5]
abbrev Q4o:List Nat:=Q3o++[5,0,0,5,6]
abbrev Q4p:List Nat:=Q3p++[5,0,0,5,6]
abbrev Q4q:List Nat:=Q46++[5,0]
abbrev Q4r:List Nat:=Q3l++[5,0,0,5,2,3]
abbrev Q4s:List Nat:=Q48++[5,0]
abbrev Q4t:List Nat:=Q0h++[5,6,5,0,5,0,0,5,2,0,5,7,0,5,6,0,0,5,7,5,0]
abbrev Q4u:List Nat:=Q4a++[5,0]
abbrev Q4v:List Nat:=Q14++[5,0,0,5,2,0,5,7,0,5,6,0,0,5,7,5,0]
abbrev Q4w:List Nat:=Q4d++[5,0]
abbrev Q4x:List Nat:=[0,5,0,5,2,0,0,5,7,0,5,7,0,5,7,0,5,7,5,7,0,5,7,0,5,6,0,5,0]
abbrev Q4y:List Nat:=Q4e++[5,0]
abbrev Q4z:List Nat:=Q2r++[5,0,5,0,0,5,7,5,0]
abbrev Q50:List Nat:=Q01++[5,2,0,5,7,0,5,7,0,5,7,0,5,7,0,5,7,5,5,0,0,5,0,5,6,0]
abbrev Q51:List Nat:=Q36++[5,2,0,5,7,0,5,6]
abbrev Q52:List Nat:=Q4k++[5,6]
abbrev Q53:List Nat:=Q3a++[5,0,5,7,0,5,6,0]
abbrev Q54:List Nat:=Q3b++[5,0,5,7,0,5,6,0]
abbrev Q55:List Nat:=Q4l++[5,0]
abbrev Q56:List Nat:=Q4q++[5,0]
abbrev Q57:List Nat:=Q36++[5,2,0,5,7,0,5,7,0]
abbrev Q58:List Nat:=Q4s++[5,0]
abbrev Q59:List Nat:=Q4u++[5,0]
abbrev Q5a:List Nat:=Q2h++[5,7,0,5,7,5,5,0,0,5,2,3]
abbrev Q5b:List Nat:=Q55++[5]
abbrev Q5c:List Nat:=Q4w++[5,0]
abbrev Q5d:List Nat:=Q3o++[5,0,0,5,7,5,0,5]
abbrev Q5e:List Nat:=Q3p++[5,0,0,5,7,5,0,5]
abbrev Q5f:List Nat:=Q4x++[5,0]
abbrev Q5g:List Nat:=Q4y++[5,0]
abbrev Q5h:List Nat:=Q4z++[5,0]
abbrev Q5i:List Nat:=Q3q++[5,0,5,0,2,0,5,6]
abbrev Q5j:List Nat:=Q4g++[0,0,5,5]
abbrev Q5k:List Nat:=Q52++[5,0]
abbrev Q5l:List Nat:=Q4k++[5,7,5,0]
abbrev Q5m:List Nat:=Q3w++[0,5,0,6,5,0,2,0]
abbrev Q5n:List Nat:=[0,5,0,5,2,0,0,5,7,0,5,7,0,5,7,0,5,7,5,7,0,5,7,0,5,7,0,5,6,0,5,0]
abbrev Q5o:List Nat:=Q4g++[0,0,5,2,3]
abbrev Q5p:List Nat:=Q5j++[0]
abbrev Q5q:List Nat:=Q3w++[0,5,0,7,5,5,5,5,0]
abbrev Q5r:List Nat:=Q5c++[5,0]
abbrev Q5s:List Nat:=Q5f++[5,0]
abbrev Q5t:List Nat:=Q18++[5,2,0,5,7,0,5,7,0,5,7,0,5,7,0,0,5,6,5,6,0]
abbrev Q5u:List Nat:=Q18++[5,2,0,5,7,0,5,7,0,5,7,0,5,7,0,0,5,7,5,6,0]
abbrev Q5v:List Nat:=Q5k++[5,6]
abbrev Q5w:List Nat:=Q5l++[5,6]
abbrev Q5x:List Nat:=Q5r++[5]
abbrev Q5y:List Nat:=Q3q++[5,0,5,0,2,0,5,7,0,5,6]
abbrev Q5z:List Nat:=Q01++[5,2,0,5,7,0,5,7,0,5,7,0,5,7,0,5,7,5,5,0,0,5,0,5,7,5,0,0,5,6,0]
abbrev Q60:List Nat:=Q5q++[5,0]
abbrev Q61:List Nat:=Q3a++[5,0,5,7,0,5,7,5,0,0,5,6,0]
abbrev Q62:List Nat:=Q3b++[5,0,5,7,0,5,7,5,0,0,5,6,0]
abbrev Q63:List Nat:=Q5s++[5,0]
abbrev Q64:List Nat:=Q5n++[5,0,5]
abbrev Q65:List Nat:=Q5t++[5,0]
abbrev Q66:List Nat:=Q5u++[5,0]
abbrev Q67:List Nat:=Q5m++[5,0,5,0]
abbrev Q68:List Nat:=Q3a++[5,0,5,7,0,5,7,5,0,0,5,7,5,0]
abbrev Q69:List Nat:=Q49++[5,2,0,5,7,0,5,6,0]
abbrev Q6a:List Nat:=Q3b++[5,0,5,7,0,5,7,5,0,0,5,7,5,0]
abbrev Q6b:List Nat:=Q4b++[5,2,0,5,7,0,5,6,0]
abbrev Q6c:List Nat:=Q5o++[0,0,5,5]
abbrev Q6d:List Nat:=Q18++[5,2,0,5,7,0,5,7,0,5,7,0,5,7,0,0,5,7,5,7,0,5,6,0]
abbrev Q6e:List Nat:=Q4r++[0,0,5,6,5,0,2,0]
abbrev Q6f:List Nat:=Q67++[5,0]
abbrev Q6g:List Nat:=Q69++[5,0]
abbrev Q6h:List Nat:=Q6b++[5,0]
abbrev Q6i:List Nat:=Q63++[5,0,5]
abbrev Q6j:List Nat:=Q6e++[5,0]
abbrev Q6k:List Nat:=Q4j++[5,2,0,5,7,0,5,6,5,5,0]
abbrev Q6l:List Nat:=Q49++[5,2,0,5,7,0,5,7,0,5,6,0]
abbrev Q6m:List Nat:=Q4b++[5,2,0,5,7,0,5,7,0,5,6,0]
abbrev Q6n:List Nat:=Q5a++[0,5,0,6,5,0,2,0]
abbrev Q6o:List Nat:=Q6c++[0,2,0]
abbrev Q6p:List Nat:=Q57++[5,0,5,0,5,0,5,6,0]
abbrev Q6q:List Nat:=Q60++[5,0,5,2,3]
abbrev Q6r:List Nat:=Q49++[5,2,0,5,6,5,5,0,0,5,7,5,0]
abbrev Q6s:List Nat:=Q6g++[5,0]
abbrev Q6t:List Nat:=Q4b++[5,2,0,5,6,5,5,0,0,5,7,5,0]
abbrev Q6u:List Nat:=Q6h++[5,0]
abbrev Q6v:List Nat:=Q1p++[5,0,0,5,7,5,0,0,5,2,0,5,7,0,0,5,7,5,7,0,5,7,5,5,0]
abbrev Q6w:List Nat:=Q4j++[5,2,0,5,6,0,5,0,5,6,5,5,0]
abbrev Q6x:List Nat:=Q4j++[5,2,0,5,6,0,5,0,5,7,5,5,0]
abbrev Q6y:List Nat:=Q6k++[5,0]
abbrev Q6z:List Nat:=Q6n++[5,0]
abbrev Q70:List Nat:=Q6o++[5,5]
abbrev Q71:List Nat:=Q4j++[5,2,0,5,7,0,5,7,0,5,6,5,5,0]
abbrev Q72:List Nat:=Q49++[5,2,0,5,7,0,5,7,0,5,7,0,5,6,0]
abbrev Q73:List Nat:=Q4b++[5,2,0,5,7,0,5,7,0,5,7,0,5,6,0]
abbrev Q74:List Nat:=Q18++[5,2,0,5,7,0,5,7,0,5,7,0,5,7,0,0,5,7,5,7,0,5,7,0,0,5,6,5,6,0]
abbrev Q75:List Nat:=Q6w++[5,0]
abbrev Q76:List Nat:=Q6x++[5,0]
abbrev Q77:List Nat:=Q6y++[5,0]
abbrev Q78:List Nat:=Q01++[5,2,0,5,7,0,5,7,0,5,7,0,5,7,0,5,7,5,5,0,0,5,0,5,7,5,0,0,5,7,5,0,5,0,5,0,0,5,2,3]
abbrev Q79:List Nat:=Q71++[5,0]
abbrev Q7a:List Nat:=Q5i++[5,5,0,0,5,7,5,0,0,5,6,5,0]
abbrev Q7b:List Nat:=Q5i++[5,5,0,0,5,7,5,0,0,5,7,5,0]
abbrev Q7c:List Nat:=Q74++[5,0]
abbrev Q7d:List Nat:=Q6j++[5,0,5,0,5,0]
abbrev Q7e:List Nat:=Q75++[5,0]
abbrev Q7f:List Nat:=Q76++[5,0]
abbrev Q7g:List Nat:=Q77++[5,0]
abbrev Q7h:List Nat:=Q4j++[5,2,0,5,7,0,5,7,0,5,7,0,5,6,5,5,0]
abbrev Q7i:List Nat:=Q18++[5,2,0,5,7,0,5,7,0,5,7,0,5,7,0,0,5,7,5,7,0,5,7,0,0,5,7,0,5,6,5,6,0]
abbrev Q7j:List Nat:=Q79++[5,0]
abbrev Q7k:List Nat:=Q7c++[5,0]
abbrev Q7l:List Nat:=Q7e++[5,0]
abbrev Q7m:List Nat:=Q7f++[5,0]
abbrev Q7n:List Nat:=Q7h++[5,0]
abbrev Q7o:List Nat:=Q49++[5,2,0,5,7,0,5,7,0,5,7,0,5,7,0,5,6,0,5,0]
abbrev Q7p:List Nat:=Q4b++[5,2,0,5,7,0,5,7,0,5,7,0,5,7,0,5,6,0,5,0]
abbrev Q7q:List Nat:=Q5y++[5,5,0,0,5,7,5,0,0,5,6,5,0]
abbrev Q7r:List Nat:=Q5y++[5,5,0,0,5,7,5,0,0,5,7,5,0]
abbrev Q7s:List Nat:=Q3q++[5,0,5,0,2,0,5,7,0,5,7,5,5,0,0,5,7,5,0,0,5,6,5,0]
abbrev Q7t:List Nat:=Q3q++[5,0,5,0,2,0,5,7,0,5,7,5,5,0,0,5,7,5,0,0,5,7,5,0]
abbrev Q7u:List Nat:=Q7i++[5,0]
abbrev Q7v:List Nat:=Q7j++[5,0]
abbrev Q7w:List Nat:=Q4j++[5,2,0,5,7,0,5,7,0,5,7,0,5,7,0,5,6,5,5,0]
abbrev Q7x:List Nat:=Q4j++[5,2,0,5,7,0,5,7,0,5,7,0,5,7,0,5,7,5,5,0]
abbrev Q7y:List Nat:=Q6q++[0,5,0,6,5,0,2,0]
abbrev Q7z:List Nat:=Q18++[5,2,0,5,7,0,5,7,0,5,7,0,5,7,0,0,5,7,5,7,0,5,7,0,0,5,7,0,5,7,0,5,6,5,6,0]
abbrev Q80:List Nat:=Q18++[5,2,0,5,7,0,5,7,0,5,7,0,5,7,0,0,5,7,5,7,0,5,7,0,0,5,7,0,5,7,0,5,7,5,6,0]
abbrev Q81:List Nat:=Q7n++[5,0]
abbrev Q82:List Nat:=Q7o++[5,0]
abbrev Q83:List Nat:=Q7p++[5,0]
abbrev Q84:List Nat:=Q7u++[5,0]
abbrev Q85:List Nat:=Q7d++[5,2,0,5,6]
abbrev Q86:List Nat:=Q7w++[5,0]
abbrev Q87:List Nat:=Q7x++[5,0]
abbrev Q88:List Nat:=Q7y++[5,0]
abbrev Q89:List Nat:=Q7z++[5,0]
abbrev Q8a:List Nat:=Q80++[5,0]
abbrev Q8b:List Nat:=Q18++[5,2,0,5,7,0,5,7,0,5,7,0,5,7,0,0,5,7,5,7,0,5,7,0,0,5,7,0,5,7,0,5,7,5,7,5,5,0]
abbrev Q8c:List Nat:=Q81++[5,0]
abbrev Q8d:List Nat:=Q82++[5,0]
abbrev Q8e:List Nat:=Q83++[5,0]
abbrev Q8f:List Nat:=Q78++[0,5,0,6,5,0,2,0]
abbrev Q8g:List Nat:=Q86++[5,0]
abbrev Q8h:List Nat:=Q87++[5,0]
abbrev Q8i:List Nat:=Q49++[5,2,0,5,7,0,5,7,0,5,7,0,5,7,0,5,7,5,5,0,0,5,7,5,0]
abbrev Q8j:List Nat:=Q4b++[5,2,0,5,7,0,5,7,0,5,7,0,5,7,0,5,7,5,5,0,0,5,7,5,0]
abbrev Q8k:List Nat:=Q89++[5,0]
abbrev Q8l:List Nat:=Q8a++[5,0]
abbrev Q8m:List Nat:=Q7d++[5,2,0,5,7,0,5,6]
abbrev Q8n:List Nat:=Q7s++[5,0,5,0,5,6]
abbrev Q8o:List Nat:=Q7t++[5,0,5,0,5,6]
abbrev Q8p:List Nat:=Q8f++[5,0]
abbrev Q8q:List Nat:=Q8g++[5,0]
abbrev Q8r:List Nat:=Q8h++[5,0]
abbrev Q8s:List Nat:=Q88++[5,2,0,5,6]
abbrev Q8t:List Nat:=Q7d++[5,2,0,5,7,0,5,7,0,5,6]
abbrev Q8u:List Nat:=Q88++[5,2,0,5,7,0,5,6]
abbrev Q8v:List Nat:=Q78++[0,5,0,7,5,5,5,5,0,0,5,7,5,0,0]
abbrev Q8w:List Nat:=Q7d++[5,2,0,5,7,0,5,7,0,5,7,0,5,6]
abbrev Q8x:List Nat:=Q7d++[5,2,0,5,7,0,5,7,0,5,7,0,5,7,0,5,6]
abbrev Q8y:List Nat:=Q8v++[5,0,5,7,5,0]
abbrev Q8z:List Nat:=Q7d++[5,2,0,5,7,0,5,7,0,5,7,0,5,7,0,5,7,0,5,6]
abbrev Q90:List Nat:=Q7d++[5,2,0,5,7,0,5,7,0,5,7,0,5,7,0,5,7,0,5,7,0,5,6,0]
abbrev Q91:List Nat:=Q90++[5]
abbrev Q92:List Nat:=Q7d++[5,2,0,5,7,0,5,7,0,5,7,0,5,7,0,5,7,0,5,7,0,5,7,0,5,7]
abbrev Q93:List Nat:=Q7d++[5,2,0,5,7,0,5,7,0,5,7,0,5,7,0,5,7,0,5,7,0,5,7,0,5,6,0]
abbrev Q94:List Nat:=Q93++[5]
abbrev w64 (x : Int) : Int := IntKind.wrap .i64 x
abbrev rt (v : AV) : Tr := .ret ⟨v,Hp.none,0⟩
abbrev ix (l : List AV) (i : Int) (K : AV→Tr) : Tr := .br (decide ((0 : Int) ≤ i)) (.br (decide (i < (l.length : Int))) (.bind (nth l (Int.toNat i)) K) .none) .none
abbrev ixl (n : Int) (l : List AV) (i : Int) (K : AV→Tr) : Tr := .br (decide ((0 : Int) ≤ i)) (.br (decide (i < n)) (.bind (nth l (Int.toNat i)) K) .none) .none
abbrev pv (K : Out → Tr) (r : Out) : Tr := .br (AV.pure r.v) (K r) .none
abbrev LR (C : Nat → Oracle) (o : Out) (f : Nat) (p : List Nat) (S : St) (t : Tr) : Prop := Tr.val C f t = some o → RL C f p S = some o
abbrev LM (C : Nat → Oracle) (o : Out) (f : Nat) (p : List Nat) (i : Nat) (S : St) (t : Tr) : Prop := Tr.val C f t = some o → ML C f p i S = some o
theorem lR {C : Nat → Oracle} {o : Out} {f : Nat} {p : List Nat} {S : St} {t : Tr} (k : Nat) (h : ∀ cal n, Vai.run Tryz.prog ann cal (n + k) f (goTo p (zao f)) S = t.at cal f n := by intro _ _; kernel_rfl) : LR C o f p S t := stR C k h
theorem lM {C : Nat → Oracle} {o : Out} {f : Nat} {p : List Nat} {i : Nat} {S : St} {t : Tr} (k : Nat) (h : ∀ cal n, zlu cal (n + k) f (goTo p (zao f)) i S = t.at cal f n := by intro _ _; kernel_rfl) : LM C o f p i S t := stM C k h
abbrev LC (C : Nat → Oracle) (o : Out) (g : Nat) (S : St) (args : List AV) (H : Hp) (nx : Nat) : Prop := RL C g [] S = some o → calL C g args H nx = some o
theorem lC {C : Nat → Oracle} (hC : Ext C) {o : Out} {g : Nat} {S : St} {args : List AV} {H : Hp} {nx : Nat} (hg : ext g = false := by rfl) (hc : ∀ cal n, calN Tryz.prog ann cal n g args H nx = Vai.run Tryz.prog ann cal n g (zao g) S := by intro _ _; kernel_rfl) : LC C o g S args H nx := fun ho => hC.call hg hc ho
theorem lE {C : Nat → Oracle} (hC : Ext C) {o : Out} {g : Nat} {S : St} {args : List AV} {H : Hp} {nx : Nat} (ho : RL C g [] S = some o) (hg : ext g = false := by rfl) (hc : ∀ cal n, calN Tryz.prog ann cal n g args H nx = Vai.run Tryz.prog ann cal n g (zao g) S := by intro _ _; kernel_rfl) : calL C g args H nx = some o := hC.call hg hc ho
theorem zb1 {x : Int} (h : -9223372036854775808 ≤ x) (h2 : x < 9223372036854775808) : w64 x = x:=by
 simp [w64,IntKind.wrap,IntKind.bits,IntKind.signed];omega
theorem bT {R : Type} {p : Prop} [hd : Decidable p] {x y z : Option R} (h : p) (e : x = z) : Vai.br (decide p) x y = z := (br_t (decide_eq_true h)).trans e
theorem bF {R : Type} {p : Prop} [hd : Decidable p] {x y z : Option R} (h : ¬ p) (e : y = z) : Vai.br (decide p) x y = z := (br_f (decide_eq_false h)).trans e
theorem nT {R : Type} {p : Prop} [hd : Decidable p] {x y z : Option R} (h : ¬ p) (e : x = z) : Vai.br (!decide p) x y = z := (br_t (by rw [decide_eq_false h]; rfl)).trans e
theorem nF {R : Type} {p : Prop} [hd : Decidable p] {x y z : Option R} (h : p) (e : y = z) : Vai.br (!decide p) x y = z := (br_f (by rw [decide_eq_true h]; rfl)).trans e
theorem ct {R : Type} {c : Bool} {x y z : Option R} (h : c = true) (e : x = z) : Vai.br c x y = z := (br_t h).trans e
theorem cf {R : Type} {c : Bool} {x y z : Option R} (h : c = false) (e : y = z) : Vai.br c x y = z := (br_f h).trans e
theorem bnd {R α : Type} {o : Option α} {K : α→Option R} {x : α} {z : Option R} (h : o = some x) (e : K x = z) : o.bind K = z := by rw [h]; exact e
theorem zad {n : Nat} (h : n ≤ 140737488355328) : Nat.ble n za5 = true := ble_t (by unfold za5; omega)
theorem zat {α : Type} (l : List α) (k : Nat) {x : α} {r : List α} (h : l.drop k = x :: r) : l[k]? = some x∧l.drop (k + 1) = r∧k < l.length:=by
 have h1 : (l.drop k)[0]? = some x := by rw [h]; rfl
 rw [List.getElem?_drop] at h1;refine ⟨by simpa using h1,?_,?_⟩
 ·rw [show k + 1 = k + 1 from rfl,← List.drop_drop,h]; rfl
 ·exact (List.getElem?_eq_some_iff.1 (by simpa using h1)).1
theorem zal {α : Type} (l : List α) (k : Nat) (hk : k ≤ l.length) (h : l.drop k = []) : k = l.length:=by
 have := congrArg List.length h;rw [List.length_drop] at this;simp at this;omega
theorem drop_cons {α : Type} (l : List α) (k : Nat) (hk : k < l.length) : ∃ x r,l.drop k = x :: r:=by
 cases h : l.drop k with
 | nil=>have := zal l k (by omega) h; omega
 | cons x r=>exact ⟨x,r,rfl⟩
theorem pureL_nil : za3 [] = true := rfl
theorem nth_getq : ∀ (l : List AV) (n : Nat),nth l n = l[n]? := zci
end
section
open Go Go.Vai Go.RowKit
theorem zjk {g : G} {w w' : World} {out : Out} {v : Value} {one : Bool} (hI : Inv g w) (hext : ∀ B,g.role B = .ext) (hB : Below w.heap.size w w') (hr : Rep g w' v out.v) (hH : out.H = Hp.none) : Ret [] one g w (fun B=>g.role B ≠ .ext) out v g w':=by
 have no : ∀ {B : Nat} {x : Role},x ≠ .ext→g.role B = x→False := fun hx h=>hx (by rw [← h,hext]);refine ⟨⟨fun B hb=>hI.new B (Nat.le_trans hB.size hb),hI.ph,hI.pl,hI.injh,hI.injl⟩,⟨fun id b hb=>?_,fun B id hb=>(no (by simp) hb).elim⟩,hr,⟨⟨fun _ _ h=>h,fun _=>Nat.le_refl _,fun B o ho=>?_⟩,hB.os,hB.tape,hB.output,hB.size,fun B hb _=>⟨hB.block B hb,rfl⟩,fun B hb=>absurd (hext B) hb⟩,fun B hb=>?_,fun _ h=>(by cases h),fun _ i h=>(by cases h)⟩
 ·rw [hH] at hb; cases hb
 ·have hb : B < w.heap.size:=by
   rcases Nat.lt_or_ge B w.heap.size with h | h
   ·exact h
   ·rw [(hI.new B h).2] at ho; exact absurd ho (Nat.not_lt_zero _)
  unfold World.cell?;simp only;rw [hB.block B hb]
 ·rcases hb with ⟨d,h⟩ | ⟨t,h⟩ | ⟨t,i,h⟩ | ⟨d,o,h⟩
  ·exact no (by simp) h
  ·exact no (by simp) h
  ·exact no (by simp) h
  ·exact no (by simp) h
theorem zu1 (s : ByteArray) (c : Int) (w : World) : Calls Tryz.prog 181 #[.string s,.int .u8 c] w fun e w'=>e = .returned (.int .i64 (Lib.indexByte s.data.toList c.toNat.toUInt8))∧w' = w:=by
 go_enter Tryz.func181,Tryz.ntmps181
 go_wp2_with (go_at_call 206; refine (Any.stringslite_IndexByte Tryz.laysIB _ _ _).mono ?_; rintro e w' ⟨rfl,rfl⟩)
 go_ret
 exact ⟨rfl,rfl⟩
def xCal : Oracle := fun g args H nx=>match Nat.beq g 181 with
 | true=>match args with
  | [.str s,.int .u8 c]=>match H,nx with
   | [],0=>some ⟨.int .i64 (Lib.indexByte s (UInt8.ofNat c.toNat)),Hp.none,0⟩
   | _,_=>none
  | _=>none
 | false=>match Nat.beq g 144 with
  | true=>match args with
   | [.str s,.int .i64 b,.int .i64 z]=>match H,nx with
    | [],0=>br (decide (b = 10)) (br (decide (z = 64)) (br (Nat.ble s.length 1099511627776) (match Lib.parseIntB 64 s with
     | .ok u=>some ⟨.tuple [.int .i64 u,.nilI],Hp.none,0⟩
     | .range=>some ⟨.tuple [.int .i64 (Lib.intSat 64 s),.iface 286 .undef],Hp.none,0⟩
     | _=>some ⟨.tuple [.int .i64 0,.iface 286 .undef],Hp.none,0⟩) none) none) none
    | _,_=>none
   | _=>none
  | false=>none
theorem zrd {g : G} {w : World} (h : zbn ann g w) {i : Nat} {t : Nat} {v : AV} (he : zgk ann i = some [.iface t v]) : ∃ ev,w.cell? ⟨i,0,none⟩ = some ev∧(ev = .nilIface ∨ ∃ te pe,ev = .iface te pe):=by
 obtain ⟨_,h2⟩ := h i _ he;cases h2 with
 | cptr B off cs vals hl hc hr =>
  cases vals with
  | nil=>simp at hl
  | cons u vals =>
   have h3 := (hc 0 u rfl).1;obtain ⟨x,h4,_⟩ := zfq (hr 0 u _ rfl rfl);exact ⟨u,h3,.inr ⟨_,_,h4⟩⟩
theorem znv {g : G} {w : World} {a b : Value} {x y : AV} (h1 : Rep g w a x) (h2 : Rep g w b y) : Rep g w (.tuple #[a,b]) (.tuple [x,y]):=by
 refine Rep.tuple [a,b] [x,y] rfl fun j u c hu hc=>?_
 match j with
 | 0=>injection hu with hu; injection hc with hc; subst hu hc; exact h1
 | 1=>injection hu with hu; injection hc with hc; subst hu hc; exact h2
 | j + 2=>cases hu
theorem zwj {g : G} {w : World} {cargs : List Value} {s : List UInt8} {k : IntKind} {c : Int} (h : RepL g w cargs [.str s,.int k c]) : ∃ S : ByteArray,S.data.toList = s∧cargs = [.string S,.int k c]:=by
 obtain ⟨hl,hr⟩ := h
 match cargs,hl with
 | [a,b],_ =>
  obtain ⟨S,rfl,hS⟩ := zca (hr 0 a _ rfl rfl);have := hr 1 b _ rfl rfl;cases this;exact ⟨S,hS,rfl⟩
theorem zvy {g : G} {w : World} {cargs : List Value} {s : List UInt8} {k k' : IntKind} {c d : Int} (h : RepL g w cargs [.str s,.int k c,.int k' d]) : ∃ S : ByteArray,S.data.toList = s∧cargs = [.string S,.int k c,.int k' d]:=by
 obtain ⟨hl,hr⟩ := h
 match cargs,hl with
 | [a,b,e],_ =>
  obtain ⟨S,rfl,hS⟩ := zca (hr 0 a _ rfl rfl);have h1 := hr 1 b _ rfl rfl;have h2 := hr 2 e _ rfl rfl;cases h1;cases h2;exact ⟨S,hS,rfl⟩
theorem rf181 : (getA ann 181).rf = []∧(getA ann 181).imp = false := by constructor <;> kernel_rfl
theorem rf144 : (getA ann 144).rf = []∧(getA ann 144).imp = false := by constructor <;> kernel_rfl
theorem zu0 : zcn Tryz.prog ann xCal:=by
 intro f args H nx out hc;unfold xCal at hc;split at hc
 ·rename_i hf;obtain rfl := Nat.eq_of_beq_eq_true hf;split at hc
  ·rename_i s c;split at hc
   ·injection hc with hc;subst hc;refine ⟨⟨_,_,Tryz.func181,rfl⟩,fun g w cargs hI hH hS hi hg hr=>?_⟩;obtain ⟨S,hS,rfl⟩ := zwj hr;rw [rf181.1];refine (zu1 S c w).mono ?_;rintro e w' ⟨rfl,rfl⟩;refine ⟨_,g,rfl,zjk hI (hi rf181.2) (Below.refl _ _) ?_ rfl⟩;rw [hS];exact .int _ _
   ·cases hc
  ·cases hc
 ·split at hc
  ·rename_i hf;obtain rfl := Nat.eq_of_beq_eq_true hf;split at hc
   ·rename_i s b z;split at hc
    ·obtain ⟨hb,hc1⟩ := zai hc;obtain ⟨hz,hc2⟩ := zai hc1;obtain ⟨hs,hc3⟩ := zai hc2;clear hc hc1 hc2;obtain rfl := of_decide_eq_true hb;obtain rfl := of_decide_eq_true hz;have hs := Nat.ble_eq.mp hs;refine ⟨⟨_,_,Tryz.func144,rfl⟩,fun g w cargs hI hH hS hi hg hr=>?_⟩;obtain ⟨S,hS,rfl⟩ := zvy hr;subst hS;have hsz : S.size ≤ 1099511627776 := hs;rw [rf144.1];obtain ⟨e1,c1,c2⟩ := zrd (i := 6) (t := 319) (v := (.cptr [(.str [105,110,118,97,108,105,100,32,115,121,110,116,97,120])])) hg (by kernel_rfl);obtain ⟨e2,c3,c4⟩ := zrd (i := 7) (t := 319) (v := (.cptr [(.str [118,97,108,117,101,32,111,117,116,32,111,102,32,114,97,110,103,101])])) hg (by kernel_rfl);cases hp : Lib.parseIntB 64 S.data.toList with
     | ok u =>
      rw [hp] at hc3;injection hc3 with hc3;subst hc3;refine (Any.strconv_ParseInt_10_at64_ok Tryz.laysPI S (by omega) u hp w).mono ?_;rintro e w' ⟨rfl,hw⟩;refine ⟨_,g,rfl,zjk hI (hi rf144.2) ?_ (znv (.int _ _) .nilI) rfl⟩;rcases hw with rfl | ⟨t,rfl⟩
      ·exact Below.refl _ _
      ·exact Lib.bytesWorld_below _ _ _
     | range =>
      rw [hp] at hc3;injection hc3 with hc3;subst hc3;refine (Any.strconv_ParseInt_10_at64_range Tryz.laysPI S (by omega) hp e2 w c3 c4).mono ?_;rintro e w' ⟨N,rfl,_,_,hw⟩;exact ⟨_,g,rfl,zjk hI (hi rf144.2) hw (znv (.int _ _) (.iface _ _ _ (.undef _))) rfl⟩
     | _ =>
      rw [hp] at hc3;injection hc3 with hc3;subst hc3;refine (Any.strconv_ParseInt_10_at64_syntax Tryz.laysPI S (by omega) hp e1 w c1 c2).mono ?_;rintro e w' ⟨N,rfl,_,_,hw⟩;exact ⟨_,g,rfl,zjk hI (hi rf144.2) hw (znv (.int _ _) (.iface _ _ _ (.undef _))) rfl⟩
    ·cases hc
   ·cases hc
  ·cases hc
end
end Go.Proofs.YtfdklpkfpmkgeaaGreatDoor
namespace Go.Proofs
section
open Go.Shelf
def Tryz.laysSF_ren : Go.Shelf.Ren := ⟨fun | 6=>49 | 15=>96 | 14=>95 | 28=>162 | 29=>163 | 20=>154 | 21=>155 | 22=>156 | 23=>157 | 24=>158 | 25=>159 | 26=>160 | 27=>161 | 46=>189 | 47=>190 | 48=>191 | 49=>192 | 50=>193 | 57=>216 | n=>n,fun | 22=>45 | 24=>48 | 25=>104 | 3=>3 | 39=>172 | 0=>0 | 53=>229 | 55=>131 | 4=>4 | 46=>222 | 45=>221 | 50=>226 | 5=>5 | 9=>9 | 66=>250 | 70=>254 | 76=>290 | 77=>218 | n=>n,fun | n=>n⟩
theorem Tryz.laysSF : Go.Proofs.SlLaysF0.n6 Tryz.prog Tryz.laysSF_ren := {
 mixed := by kernel_rfl
 f6 := ⟨Tryz.f49.name,by decide,Tryz.func49.trans (congrArg some (by kernel_rfl))⟩
 f14 := ⟨Tryz.f95.name,by decide,Tryz.func95.trans (congrArg some (by kernel_rfl))⟩
 f15 := Tryz.func96.trans (congrArg some (by kernel_rfl))
 f20 := ⟨Tryz.f154.name,by decide,Tryz.func154.trans (congrArg some (by kernel_rfl))⟩
 f21 := ⟨Tryz.f155.name,by decide,Tryz.func155.trans (congrArg some (by kernel_rfl))⟩
 f22 := ⟨Tryz.f156.name,by decide,Tryz.func156.trans (congrArg some (by kernel_rfl))⟩
 f23 := ⟨Tryz.f157.name,by decide,Tryz.func157.trans (congrArg some (by kernel_rfl))⟩
 f24 := ⟨Tryz.f158.name,by decide,Tryz.func158.trans (congrArg some (by kernel_rfl))⟩
 f25 := ⟨Tryz.f159.name,by decide,Tryz.func159.trans (congrArg some (by kernel_rfl))⟩
 f26 := ⟨Tryz.f160.name,by decide,Tryz.func160.trans (congrArg some (by kernel_rfl))⟩
 f27 := ⟨Tryz.f161.name,by decide,Tryz.func161.trans (congrArg some (by kernel_rfl))⟩
 f28 := Tryz.func162.trans (congrArg some (by kernel_rfl))
 f29 := Tryz.func163.trans (congrArg some (by kernel_rfl))
 f46 := ⟨Tryz.f189.name,by decide,Tryz.func189.trans (congrArg some (by kernel_rfl))⟩
 f47 := Tryz.func190.trans (congrArg some (by kernel_rfl))
 f48 := Tryz.func191.trans (congrArg some (by kernel_rfl))
 f49 := ⟨Tryz.f192.name,by decide,Tryz.func192.trans (congrArg some (by kernel_rfl))⟩
 f50 := ⟨Tryz.f193.name,by decide,Tryz.func193.trans (congrArg some (by kernel_rfl))⟩
 f57 := ⟨Tryz.f216.name,by decide,Tryz.func216.trans (congrArg some (by kernel_rfl))⟩
 t0 := Tryz.underlying0
 a0 := Tryz.isAgg0
 z0 := Tryz.sizeOf0
 v0 := Tryz.zeroValue0
 t3 := Tryz.underlying3
 a3 := Tryz.isAgg3
 z3 := Tryz.sizeOf3
 v3 := Tryz.zeroValue3
 t4 := Tryz.underlying4
 a4 := Tryz.isAgg4
 z4 := Tryz.sizeOf4
 v4 := Tryz.zeroValue4
 t5 := Tryz.underlying5
 a5 := Tryz.isAgg5
 z5 := Tryz.sizeOf5
 v5 := Tryz.zeroValue5
 t9 := Tryz.underlying9
 a9 := Tryz.isAgg9
 z9 := Tryz.sizeOf9
 v9 := Tryz.zeroValue9
 t22 := Tryz.underlying45
 a22 := Tryz.isAgg45
 z22 := Tryz.sizeOf45
 v22 := Tryz.zeroValue45
 t25 := Tryz.underlying104
 a25 := Tryz.isAgg104
 z25 := Tryz.sizeOf104
 v25 := Tryz.zeroValue104
 t39 := Tryz.underlying172
 a39 := Tryz.isAgg172
 z39 := Tryz.sizeOf172
 v39 := Tryz.zeroValue172
 t45 := Tryz.underlying221
 a45 := Tryz.isAgg221
 z45 := Tryz.sizeOf221
 v45 := Tryz.zeroValue221
 t46 := Tryz.underlying222
 a46 := Tryz.isAgg222
 z46 := Tryz.sizeOf222
 v46 := Tryz.zeroValue222
 t50 := Tryz.underlying226
 a50 := Tryz.isAgg226
 z50 := Tryz.sizeOf226
 v50 := Tryz.zeroValue226
 t53 := Tryz.underlying229
 a53 := Tryz.isAgg229
 z53 := Tryz.sizeOf229
 v53 := Tryz.zeroValue229
 t55 := Tryz.underlying131
 a55 := Tryz.isAgg131
 z55 := Tryz.sizeOf131
 v55 := Tryz.zeroValue131
 t66 := Tryz.underlying250
 a66 := Tryz.isAgg250
 z66 := Tryz.sizeOf250
 v66 := Tryz.zeroValue250
 t70 := Tryz.underlying254
 a70 := Tryz.isAgg254
 z70 := Tryz.sizeOf254
 v70 := Tryz.zeroValue254
 t76 := Tryz.underlying290
 a76 := Tryz.isAgg290
 z76 := Tryz.sizeOf290
 v76 := Tryz.zeroValue290
 t77 := Tryz.underlying218
 a77 := Tryz.isAgg218
 z77 := Tryz.sizeOf218
 v77 := Tryz.zeroValue218 }
end
section
open Go Go.Vai Go.Shelf Go.RowKit Go.Lib Go.Sort YtfdklpkfpmkgeaaGreatDoor
structure YtfdklpkfpmkgeaaGreatDoor.BP where
 a : Int
 e : Int
 ok : -1099511627776 ≤ a∧a ≤ 1099511627776∧-1099511627776 ≤ e∧e ≤ 1099511627776
instance : Inhabited BP := ⟨⟨0,0,by omega⟩⟩
def YtfdklpkfpmkgeaaGreatDoor.BP.enc (x : BP) : List Value := [.int .i64 x.a,.int .i64 x.e]
def YtfdklpkfpmkgeaaGreatDoor.BP.cf (x y : BP) : Int := if x.a = y.a then x.e - y.e else x.a - y.a
set_option maxHeartbeats 1000000 in
theorem YtfdklpkfpmkgeaaGreatDoor.clo50 (a e b f r : Int) (h1 : -1099511627776 ≤ a∧a ≤ 1099511627776) (h2 : -1099511627776 ≤ e∧e ≤ 1099511627776) (h3 : -1099511627776 ≤ b∧b ≤ 1099511627776) (h4 : -1099511627776 ≤ f∧f ≤ 1099511627776) (hr : r = if a = b then e - f else a - b) (W : World) :
  Calls Tryz.prog 50 #[.agg #[.int .i64 a,.int .i64 e],.agg #[.int .i64 b,.int .i64 f]] W fun ex w'=>ex = .returned (.int .i64 r)∧∃ q os',w' = grow (W.drewN q) os':=by
 by_cases hab : a = b
 ·subst hab;rw [if_pos rfl] at hr
  go_enter Tryz.func50,Tryz.ntmps50
  go_wp2
  go_ret
  refine ⟨by rw [hr]; go_num,0,_,by rw [alloc_eq_grow,alloc_eq_grow,grow_grow]; rfl⟩
 ·rw [if_neg hab] at hr
  go_enter Tryz.func50,Tryz.ntmps50
  go_wp2
  go_ret
  refine ⟨by rw [hr]; go_num,0,_,by rw [alloc_eq_grow,alloc_eq_grow,grow_grow]; rfl⟩
end
end Go.Proofs
namespace Go.Proofs.YtfdklpkfpmkgeaaGreatDoor
section
open Go Go.Vai Go.Proofs Go.Sort
theorem zfe (p q : Int × Int) : leP p q = true ↔ p.1 < q.1 ∨ (p.1 = q.1∧p.2 ≤ q.2):=by
 unfold leP;simp only [Bool.or_eq_true,Bool.and_eq_true,decide_eq_true_eq]
theorem zk5 (p : Int × Int) : ∀ l,(insP p l).Perm (p :: l)
 | []=>List.Perm.refl _
 | q :: l=>by
  rw [insP];split
  ·exact List.Perm.refl _
  ·exact ((zk5 p l).cons q).trans (List.Perm.swap p q l)
theorem zm9 : ∀ l,(zec l).Perm l
 | []=>List.Perm.refl _
 | p :: l=>(zk5 p _).trans ((zm9 l).cons p)
theorem zjp (p : Int × Int) : ∀ l,l.Pairwise (fun x y=>leP x y = true)→(insP p l).Pairwise (fun x y=>leP x y = true)
 | [],_=>List.pairwise_singleton _ _
 | q :: l,h=>by
  obtain ⟨h1,h2⟩ := List.pairwise_cons.1 h;rw [insP];split
  ·rename_i hpq;rw [zfe] at hpq;refine List.pairwise_cons.2 ⟨fun x hx=>?_,h⟩;rcases List.mem_cons.1 hx with rfl | hx
   ·exact (zfe _ _).2 hpq
   ·have := (zfe _ _).1 (h1 x hx);exact (zfe _ _).2 (by omega)
  ·rename_i hpq;have hpq : ¬ (p.1 < q.1 ∨ (p.1 = q.1∧p.2 ≤ q.2)) := fun h=>by rw [(zfe p q).2 h] at hpq; cases hpq
   refine List.pairwise_cons.2 ⟨fun x hx=>?_,zjp p l h2⟩;rcases List.mem_cons.1 ((zk5 p l).mem_iff.1 hx) with rfl | hx
   ·exact (zfe _ _).2 (by omega)
   ·exact h1 x hx
theorem zir : ∀ l,(zec l).Pairwise (fun x y=>leP x y = true)
 | []=>List.Pairwise.nil
 | p :: l=>zjp p _ (zir l)
def BP.pr (x : BP) : Int × Int := (x.a,x.e)
theorem BP.lt_iff (x y : BP) : ltOf BP.cf x y = true ↔ x.a < y.a ∨ (x.a = y.a∧x.e < y.e):=by
 unfold ltOf BP.cf;rw [decide_eq_true_eq];split <;> omega
theorem BP.lt_f (x y : BP) : ltOf BP.cf x y = false ↔ ¬ (x.a < y.a ∨ (x.a = y.a∧x.e < y.e)):=by
 rw [← BP.lt_iff,Bool.not_eq_true]
theorem BP.swo : SWO (ltOf BP.cf):=by
 refine ⟨fun x=>?_,fun x y z=>?_,fun x y z=>?_⟩
 ·rw [BP.lt_f]; omega
 ·rw [BP.lt_iff,BP.lt_iff,BP.lt_iff]; omega
 ·rw [BP.lt_f,BP.lt_f,BP.lt_f]; omega
theorem BP.parts (x y : BP) (h : ltOf BP.cf x y = false) (h' : ltOf BP.cf y x = false) : x = y:=by
 rw [BP.lt_f] at h h';obtain ⟨a,e,ok⟩ := x;obtain ⟨b,f,ok'⟩ := y;simp only at h h';obtain rfl : a = b := by omega
 obtain rfl : e = f := by omega
 rfl
theorem sort_bp (l : List BP) : (l.mergeSort fun x y=>!(ltOf BP.cf) y x).map BP.pr = zec (l.map BP.pr):=by
 refine List.Perm.eq_of_pairwise (le := fun x y=>leP x y = true) ?_ ?_ (zir _) (((List.mergeSort_perm _ _).map _).trans (zm9 _).symm)
 ·intro p q _ _ h1 h2;rw [zfe] at h1 h2;obtain ⟨a,e⟩ := p;obtain ⟨b,f⟩ := q;simp only at h1 h2;obtain rfl : a = b := by omega
  obtain rfl : e = f := by omega
  rfl
 ·rw [List.pairwise_map];refine (List.pairwise_mergeSort (le := fun x y=>!(ltOf BP.cf) y x) ?_ ?_ l).imp ?_
  ·intro x y z h1 h2;simp only [Bool.not_eq_true',BP.lt_f] at *;omega
  ·intro x y;simp only [Bool.or_eq_true,Bool.not_eq_true',BP.lt_f];omega
  ·intro x y h;simp only [Bool.not_eq_true',BP.lt_f] at h;rw [zfe];show x.a < y.a ∨ x.a = y.a∧x.e ≤ y.e;omega
theorem bdOk_iff (x : Int) : bdOk x = true ↔ -1099511627776 ≤ x∧x ≤ 1099511627776:=by
 unfold bdOk;rw [Bool.and_eq_true,decide_eq_true_eq,decide_eq_true_eq]
theorem dgP_of {x : AV} {p : Int × Int} (h : dgP x = some p) : ∃ b : BP,p = b.pr∧x = pAV b.pr:=by
 unfold dgP at h;split at h
 ·split at h
  ·rename_i a e _ hb;injection h with h;subst h;rw [Bool.and_eq_true] at hb;obtain ⟨h1,h2⟩ := hb;rw [bdOk_iff] at h1 h2;exact ⟨⟨a,e,h1.1,h1.2,h2.1,h2.2⟩,rfl,rfl⟩
  ·cases h
 ·cases h
theorem zve : ∀ {l : List AV} {ds : List (Int × Int)},dgPs l = some ds→∃ bs : List BP,ds = bs.map BP.pr∧l = ds.map pAV
 | [],ds,h=>by
  injection h with h;subst h;exact ⟨[],rfl,rfl⟩
 | x :: l,ds,h=>by
  rw [dgPs] at h;split at h
  ·rename_i p hp;split at h
   ·rename_i r hr;injection h with h;subst h;obtain ⟨b,rfl,rfl⟩ := dgP_of hp;obtain ⟨bs,rfl,rfl⟩ := zve hr;exact ⟨b :: bs,rfl,rfl⟩
   ·cases h
  ·cases h
theorem dgL_of {l : List AV} {ds : List (Int × Int)} (h : dgL l = some ds) : l.length ≤ 1099511627776∧∃ bs : List BP,ds = bs.map BP.pr∧l = ds.map pAV:=by
 unfold dgL at h;split at h
 ·rename_i h1;exact ⟨Nat.ble_eq.mp h1,zve h⟩
 ·cases h
theorem zhj : ∀ bs : List BP,((((bs.map BP.pr).map pAV).flatMap AV.cells).map ivV) = bs.flatMap BP.enc
 | []=>rfl
 | b :: bs=>by
  rw [List.map_cons,List.map_cons,List.flatMap_cons,List.map_append,zhj bs];rfl
theorem zwd (d : BP) : ∀ (bs : List BP) (j : Nat),(bs.flatMap BP.enc)[j]? = (bs[j / 2]?).bind fun b=>b.enc[j % 2]?
 | [],_=>by simp
 | b :: bs,0=>rfl
 | b :: bs,1=>rfl
 | b :: bs,j + 2=>by
  show (bs.flatMap BP.enc)[j]? = _;rw [zwd d bs j,show (j + 2) / 2 = j / 2 + 1 by omega,show (j + 2) % 2 = j % 2 by omega];rfl
theorem zbi : ∀ bs : List BP,(bs.flatMap BP.enc).length = bs.length * 2
 | []=>rfl
 | b :: bs=>by
  rw [List.flatMap_cons,List.length_append,zbi bs,List.length_cons];show 2 + _ = _;omega
theorem znd (bs : List BP) : flatK BP.enc 2 bs.toArray = (bs.flatMap BP.enc).toArray:=by
 refine ext_get! (by rw [size_flatK,List.size_toArray,List.size_toArray,zbi]) fun t ht=>?_;rw [size_flatK,List.size_toArray] at ht;rw [get_flatK _ _ _ _ (by rw [List.size_toArray]; exact ht)];have h2 : t / 2 < bs.length := by omega
 have e := zwd default bs t;rw [List.getElem?_eq_getElem h2,Option.bind_some] at e;rw [getElem!_pos bs.toArray _ (by rw [List.size_toArray]; exact h2),getElem!_pos (bs.flatMap BP.enc).toArray t (by rw [List.size_toArray,zbi]; exact ht)];simp only [List.getElem_toArray];have h3 : t % 2 < (bs[t / 2]).enc.length:=by
  show t % 2 < 2;omega
 rw [List.getElem?_eq_getElem h3,List.getElem?_eq_getElem (by rw [zbi]; exact ht)] at e;injection e with e;rw [getElem!_pos (bs[t / 2]).enc _ h3,e]
end
section
open Go Go.Vai Go.Proofs Go.Sort
theorem zk7 {w : World} {B : Nat} {us : Array Value} {e : TypeId} (bs : List BP) (hw : w.heap[B]? = some (.cells us e (0,0)))
  (hc : ∀ (j : Nat) (v : Value),(bs.flatMap BP.enc)[j]? = some v→us[j]? = some v) : HoldsK BP.enc 2 w B 0 bs.toArray:=by
 intro j hj;rw [size_flatK,List.size_toArray] at hj;rw [znd];have hj' : j < (bs.flatMap BP.enc).length := by rw [zbi]; exact hj
 refine ⟨?_,?_⟩
 ·show w.cell? ⟨B,0 + j,none⟩ = _;unfold World.cell?;simp only [hw,Nat.zero_add,Option.isSome_none,Bool.false_eq_true,if_false];rw [hc j _ (List.getElem?_eq_getElem hj'),getElem!_pos (bs.flatMap BP.enc).toArray j (by rw [List.size_toArray]; exact hj')];rfl
 ·unfold World.frozen?;simp only [hw];simp
theorem zov {w w' : World} {B cap n : Nat} {us : Array Value} {e : TypeId} {os : Array Obj} (bs bs' : List BP) (hw : w.heap[B]? = some (.cells us e (0,0))) (hus : us.size = cap * 2) (hcap : bs'.length ≤ cap)
  (h : w' = sortWorldK BP.enc 2 w B 0 n bs'.toArray os) : Grew (fun x=>x = B) w w'∧∃ us',w'.heap[B]? = some (.cells us' e (0,0))∧us'.size = us.size∧(∀ (j : Nat) (v : Value),(bs'.flatMap BP.enc)[j]? = some v→us'[j]? = some v):=by
 subst h;have hB : B < w.heap.size := (Array.getElem?_eq_some_iff.1 hw).1;refine ⟨⟨fun B' h1 h2=>?_,by rw [sortWorldK,size_grow,putRowK,size_putRow]; exact Nat.le_add_right _ _,rfl,rfl,rfl⟩,putCells id 0 (flatK BP.enc 2 bs'.toArray) us,?_,?_,?_⟩
 ·rw [sortWorldK,heap_grow_old _ _ (by rw [putRowK,size_putRow]; exact h1)];show (w.heap.modify B _)[B']? = _;rw [Array.getElem?_modify,if_neg (fun h=>h2 h.symm)]
 ·rw [sortWorldK,heap_grow_old _ _ (by rw [putRowK,size_putRow]; exact hB)];show (w.heap.modify B _)[B]? = _;rw [Array.getElem?_modify,if_pos rfl,hw];rfl
 ·rw [putCells,Array.size_mapIdx]
 ·intro j v hv;have hj : j < (bs'.flatMap BP.enc).length := (List.getElem?_eq_some_iff.1 hv).1;have hj2 := hj;rw [zbi] at hj2;have hu : j < us.size := by rw [hus]; have := Nat.mul_le_mul_right 2 hcap; omega
  rw [putCells,Array.getElem?_mapIdx,Array.getElem?_eq_getElem hu,Option.map_some,if_pos ⟨Nat.zero_le _,by rw [size_flatK,List.size_toArray]; omega⟩,znd,Nat.sub_zero,getElem!_pos (bs'.flatMap BP.enc).toArray j (by rw [List.size_toArray]; exact hj)];rw [List.getElem?_eq_getElem hj] at hv;exact hv
theorem own49 {gs : List Nat} {sz : Nat} {l : List AV} {p : Nat × List AV} (hF : zlz gs l = some p) (hi : zc1 sz l = true) (hs : 0 < sz) : OwnC Tryz.prog 49 false gs sz l p:=by
 unfold zlz at hF;split at hF
 ·rename_i g;split at hF
  ·rename_i hg;obtain rfl := Nat.eq_of_beq_eq_true hg;split at hF
   ·rename_i ds hd;injection hF with hF;subst hF;obtain ⟨hle,bs,rfl,rfl⟩ := dgL_of hd;rw [List.length_map,List.length_map] at hle;refine ⟨⟨_,_,Tryz.func49,rfl⟩,fun _ w q cap=>?_,fun hl w B cap us e hw hus hcap hc=>?_⟩
    ·refine (AnyF.slices_SortFunc_none Tryz.laysSF q cap (.func (.func 50) #[] #[]) w).mono ?_;rintro e w' ⟨rfl,rfl⟩;exact ⟨_,rfl,⟨fun _ _ _=>rfl,Nat.le_refl _,rfl,rfl,rfl⟩,rfl⟩
    ·have hsz : sz = 2:=by
      cases bs with
      | nil=>exact absurd rfl hl
      | cons b bs =>
       simp only [List.map_cons,zc1] at hi;split at hi
       ·rename_i h;rw [Bool.and_eq_true] at h;exact (Nat.eq_of_beq_eq_true h.1).symm
       ·cases hi
     subst hsz;rw [zhj] at hc;rw [List.length_map,List.length_map] at hcap;have eg : ∀ args w,(callFunc 50 args).run Tryz.prog w = .ok (.enter 50 args) w := enters_of Tryz.func50 (by kernel_rfl) rfl;have hB : B < w.heap.size := (Array.getElem?_eq_some_iff.1 hw).1;have hcmp : CmpLays Tryz.prog 50 #[] BP.enc 2 BP.cf B 0 bs.toArray.size w := fun _ _ _ _ x y=>YtfdklpkfpmkgeaaGreatDoor.clo50 x.a x.e y.a y.e _ ⟨x.ok.1,x.ok.2.1⟩ x.ok.2.2 ⟨y.ok.1,y.ok.2.1⟩ y.ok.2.2 rfl _;have hcon := AnyQ.slices_SortFunc_total Tryz.laysSF 2 Tryz.isAgg48 Tryz.sizeOf48 BP.enc (fun _=>rfl) (fun x v hv=>by simp [BP.enc] at hv; rcases hv with rfl | rfl <;> rfl) BP.cf BP.swo 50 #[] B 0 cap bs.toArray w eg hcmp (zk7 bs hw hc) hB (by rw [List.size_toArray]; omega) BP.parts;rw [show (List.map pAV (List.map BP.pr bs)).length = bs.toArray.size by simp];refine hcon.mono ?_;rintro e' w' ⟨rfl,n,os,hw'⟩;have hlen : (bs.toArray.toList.mergeSort fun x y=>!(ltOf BP.cf) y x).length = bs.length := by rw [List.length_mergeSort]
     obtain ⟨h1,us',h2,h3,h4⟩ := zov bs _ hw hus (by rw [hlen]; exact hcap) hw';refine ⟨_,us',rfl,h1,h2,h3,?_,rfl⟩;show ∀ (j : Nat) (v : Value),((((zec (bs.map BP.pr)).map pAV).flatMap AV.cells).map ivV)[j]? = some v→us'[j]? = some v;rw [← sort_bp,zhj];exact h4
   ·cases hF
  ·cases hF
 ·cases hF
end
end Go.Proofs.YtfdklpkfpmkgeaaGreatDoor
namespace Go.Proofs
section
open Go Go.Vai Go.Shelf Go.RowKit Go.Lib Go.Sort YtfdklpkfpmkgeaaGreatDoor
deriving instance DecidableEq for BP
theorem YtfdklpkfpmkgeaaGreatDoor.setMany_append : ∀ (vs us : List Value) (F : Array Value) (s : Nat),setMany F s (vs ++ us) = setMany (setMany F s vs) (s + vs.length) us
 | [],_,_,_=>rfl
 | v :: r,us,F,s=>by
  rw [List.cons_append,setMany,setMany,setMany_append r us,List.length_cons,show s + 1 + r.length = s + (r.length + 1) by omega]
theorem YtfdklpkfpmkgeaaGreatDoor.setMany_one (d : Array BP) (i : Nat) (x : BP) (hi : i < d.size) : setMany (flatK BP.enc 2 d) (i * 2) x.enc = flatK BP.enc 2 (d.setIfInBounds i x):=by
 refine ext_get! (by simp) fun t ht=>?_;have ht' : t < d.size * 2 := by simpa using ht
 rw [get_setMany _ _ _ t (by simpa using ht'),get_flatK _ _ _ t ht',get_flatK _ _ _ t (by rw [Array.size_setIfInBounds]; exact ht')];show (if i * 2 ≤ t∧t < i * 2 + 2 then _ else _) = _;by_cases h : t / 2 = i
 ·rw [if_pos (by omega),h,getElem!_set_same d i x hi,show t - i * 2 = t % 2 by omega]
 ·rw [if_neg (by omega),getElem!_set_other d i _ x h]
theorem YtfdklpkfpmkgeaaGreatDoor.setMany_lay : ∀ (xs : List BP) (d : Array BP) (i : Nat),i + xs.length ≤ d.size→setMany (flatK BP.enc 2 d) (i * 2) (xs.flatMap BP.enc) = flatK BP.enc 2 (lay d i xs)
 | [],_,_,_=>rfl
 | x :: r,d,i,h=>by
  have h' : i + (r.length + 1) ≤ d.size := h;rw [List.flatMap_cons,setMany_append,setMany_one _ _ _ (by omega),lay];have := setMany_lay r (d.setIfInBounds i x) (i + 1) (by rw [Array.size_setIfInBounds]; omega);rw [← this,show i * 2 + x.enc.length = (i + 1) * 2 by show i * 2 + 2 = _; omega]
theorem YtfdklpkfpmkgeaaGreatDoor.store_world {w wr : World} {n blk off : Nat} {dk : Array BP} {i : Nat} (hi : i < dk.size) (hwr : wr = putRowK BP.enc 2 (Sort.ahead w n) blk off dk) (x : BP) :
  ((wr.setCell ⟨blk,off + i * 2,none⟩ (.int .i64 x.a)).setCell ⟨blk,off + i * 2 + 1,none⟩ (.int .i64 x.e)).drew = putRowK BP.enc 2 (Sort.ahead w (n + 1)) blk off (dk.setIfInBounds i x):=by
 subst hwr;show ((putRow id (Sort.ahead w n) blk off (flatK BP.enc 2 dk)).setCells blk (off + i * 2) x.enc).drew = _;rw [setCells_putRow _ _ _ _ _ _ (by rw [size_flatK]; show i * 2 + 2 ≤ _; omega),setMany_one _ _ _ hi];rfl
theorem YtfdklpkfpmkgeaaGreatDoor.zero_cells (n : Nat) : (Builtin.zeroCells #[.int .i64 0,.int .i64 0] n).toList = (List.replicate n (default : BP)).flatMap BP.enc:=by
 have e := znd (List.replicate n (default : BP));rw [show (List.replicate n (default : BP)).flatMap BP.enc = ((List.replicate n (default : BP)).flatMap BP.enc).toArray.toList from rfl,← e];refine congrArg Array.toList (ext_get! (by simp [Builtin.zeroCells]) fun t ht=>?_);have ht' : t < n * 2 := by simpa [Builtin.zeroCells] using ht
 have h2 : t / 2 < n := by omega
 rw [get_flatK _ _ _ _ (by rw [List.size_toArray,List.length_replicate]; exact ht'),getElem!_pos (List.replicate n (default : BP)).toArray _ (by rw [List.size_toArray,List.length_replicate]; exact h2)];simp only [List.getElem_toArray,List.getElem_replicate];rw [getElem!_pos _ t ht];simp only [Builtin.zeroCells,Array.getElem_map,Array.getElem_range];rcases (show t % 2 = 0 ∨ t % 2 = 1 by omega) with h | h
 ·show (#[Value.int .i64 0,Value.int .i64 0])[t % 2]! = _;rw [h]; rfl
 ·show (#[Value.int .i64 0,Value.int .i64 0])[t % 2]! = _;rw [h]; rfl
theorem YtfdklpkfpmkgeaaGreatDoor.run_clear2 (w : World) (ty : TypeId) (b o n c : Nat) (hn : 0 < n)
  (hc : ∀ j,j < n * 2→(w.cell? ⟨b,o + j,none⟩).isSome = true) (hf : ∀ j,j < n * 2→w.frozen? ⟨b,o + j,none⟩ = false) :
  (Builtin.clear_ #[45] ty #[.slice (some ⟨b,o,none⟩) n c]).run Tryz.prog w = .ok (.tuple #[]) (w.setCells b o ((List.replicate n (default : BP)).flatMap BP.enc)):=by
 have hzc := zero_cells n;have hl : ((List.replicate n (default : BP)).flatMap BP.enc).length = n * 2 := by rw [zbi,List.length_replicate]
 have hst := run_storeCells_cells (P := Tryz.prog) b o ((List.replicate n (default : BP)).flatMap BP.enc) 0 w (by rw [hl]; simpa using hc) (by rw [hl]; simpa using hf) (by
  intro v hv;obtain ⟨x,_,hv⟩ := List.mem_flatMap.1 hv;simp [BP.enc] at hv;rcases hv with rfl | rfl <;> rfl)
 simp only [Nat.add_zero] at hst;obtain ⟨m,rfl⟩ : ∃ m,n = m + 1 := ⟨n - 1,by omega⟩;simp [Builtin.clear_,run_underlying Tryz.underlying45,Tryz.zeroValue48,Value.cells,hzc,hst]
set_option maxHeartbeats 4000000 in
set_option maxRecDepth 1000000 in
theorem YtfdklpkfpmkgeaaGreatDoor.compact_arr (blk off cap : Nat) (d : Array BP) (w : World) (hH : HoldsK BP.enc 2 w blk off d) (hsz : d.size ≤ 1099511627776) (hcap : d.size ≤ cap) :
  Calls Tryz.prog 51 #[.slice (some ⟨blk,off,none⟩) d.size cap] w fun e w'=>e = .returned (.slice (some ⟨blk,off,none⟩) (compactUpTo d d.size).length cap)∧∃ q,w' = putRowK BP.enc 2 (Sort.ahead w q) blk off (compactUpTo d d.size ++ List.replicate (d.size - (compactUpTo d d.size).length) default).toArray:=by
 have same : ∀ q,(∀ j,j < d.size→keeps d j = true)→(compactUpTo d d.size).length = d.size∧w.drewN q = putRowK BP.enc 2 (Sort.ahead w q) blk off (compactUpTo d d.size ++ List.replicate (d.size - (compactUpTo d d.size).length) default).toArray:=by
  intro q hall;have e : compactUpTo d d.size = d.toList := by rw [compactUpTo_all d _ hall,range_map_get]
  rw [e];refine ⟨by simp,?_⟩;simp only [Array.length_toList,Nat.sub_self,List.replicate_zero,List.append_nil,Array.toArray_toList];exact (putRowK_self BP.enc 2 (Sort.ahead w q) blk off d (holdsK_ahead BP.enc 2 w q blk off d hH)).symm
 have HS : Aside (∀ q,(∀ j,j < d.size→keeps d j = true)→(compactUpTo d d.size).length = d.size∧w.drewN q = putRowK BP.enc 2 (Sort.ahead w q) blk off (compactUpTo d d.size ++ List.replicate (d.size - (compactUpTo d d.size).length) default).toArray) := same;clear same;have mixed := Tryz.laysSF.mixed;by_cases h2 : d.size < 2
 ·have HH : Aside (HoldsK BP.enc 2 w blk off d) := hH;clear hH
  go_enter Tryz.func51,Tryz.ntmps51
  go_wp2
  go_ret
  obtain ⟨e1,e2⟩ := HS.out 0 (fun j hj=>keeps_lt_one d j (by omega));exact ⟨by rw [e1]; rfl,0,e2⟩
 ·go_enter Tryz.func51,Tryz.ntmps51
  go_wp2
  go_loopg [3] d.size (fun g s3 wr=>∃ k q : Nat,1 ≤ k∧k ≤ d.size∧d.size - k ≤ g∧s3 = .int .i64 k∧wr = w.drewN q∧∀ j,j < k→keeps d j = true)
  case atStart=>exact ⟨1,0,Nat.le_refl _,by omega,by omega,rfl,rfl,keeps_lt_one d⟩
  case round =>
   obtain ⟨k,q,hk1,hk,hg,rfl,hwr,hall⟩ := hrel;by_cases hlt : k < d.size
   ·obtain ⟨c1,f1⟩ := hH.cell hlt (show 0 < 2 by omega);obtain ⟨c2,f2⟩ := hH.cell hlt (show 1 < 2 by omega);obtain ⟨c3,f3⟩ := hH.cell (show k - 1 < d.size by omega) (show 0 < 2 by omega);obtain ⟨c4,f4⟩ := hH.cell (show k - 1 < d.size by omega) (show 1 < 2 by omega);rw [Nat.add_zero] at c1 c3 f1 f3;change _ = some (Value.int .i64 d[k]!.a) at c1;change _ = some (Value.int .i64 d[k]!.e) at c2;change _ = some (Value.int .i64 d[k - 1]!.a) at c3;change _ = some (Value.int .i64 d[k - 1]!.e) at c4;have A : Aside (∀ j,j < k→keeps d j = true) := hall;have HH : Aside (HoldsK BP.enc 2 w blk off d) := hH;subst hwr;clear hall hH;generalize hx : d[k]! = x at c1 c2;generalize hy : d[k - 1]! = y at c3 c4;have B : Aside (d[k]! = x∧d[k - 1]! = y) := ⟨hx,hy⟩;clear hx hy;obtain ⟨a,e,ok⟩ := x;obtain ⟨b,f,ok'⟩ := y;simp only at c1 c2 c3 c4;by_cases hdup : a = b∧e = f
    ·obtain ⟨rfl,rfl⟩ := hdup
     go_wp2_with fail
     go_region_o
     go_wp2_with fail
     clear c1 c2 c3 c4 f1 f2 f3 f4
     go_loopg [3,5] d.size (fun g s3 s5 wr=>∃ (kk k2 q2 : Nat) (dk : Array BP),s3 = .int .i64 kk∧s5 = .int .i64 k2∧1 ≤ k2∧k + k2 ≤ d.size∧d.size - (k + k2) ≤ g∧wr = putRowK BP.enc 2 (Sort.ahead w q2) blk off dk∧CompInv d (k + k2) kk dk)
     case atStart=>exact ⟨k,1,q + 1,d,rfl,rfl,Nat.le_refl _,by omega,by omega,(putRowK_self BP.enc 2 (Sort.ahead w (q + 1)) blk off d (holdsK_ahead BP.enc 2 w (q + 1) blk off d HH.out)).symm,CompInv.start A.out (keeps_neg (by omega) (by rw [B.out.1,B.out.2]))⟩
     case round =>
      obtain ⟨kk,k2,q2,dk,rfl,rfl,h1,hle,hg2,hwr,hI⟩ := hrel;have hkk := hI.lt;have hds := hI.size;have hHk : HoldsK BP.enc 2 wr blk off dk := by rw [hwr]; exact holdsK_putRowK BP.enc 2 _ blk off d dk (holdsK_ahead BP.enc 2 w q2 blk off d HH.out) hds
      have W2 : Aside (wr = putRowK BP.enc 2 (Sort.ahead w q2) blk off dk) := hwr;have I2 : Aside (CompInv d (k + k2) kk dk) := hI;clear hwr;by_cases hlt2 : k + k2 < d.size
      ·obtain ⟨m1,_⟩ := hHk.cell (show k + k2 < dk.size by omega) (show 0 < 2 by omega);obtain ⟨m2,_⟩ := hHk.cell (show k + k2 < dk.size by omega) (show 1 < 2 by omega);obtain ⟨p1,_⟩ := hHk.cell (show k + k2 - 1 < dk.size by omega) (show 0 < 2 by omega);obtain ⟨p2,_⟩ := hHk.cell (show k + k2 - 1 < dk.size by omega) (show 1 < 2 by omega);obtain ⟨k1,g1⟩ := hHk.cell (show kk < dk.size by omega) (show 0 < 2 by omega);obtain ⟨k3,g3⟩ := hHk.cell (show kk < dk.size by omega) (show 1 < 2 by omega);rw [hI.high (k + k2) (by omega),show off + (k + k2) * 2 + 0 = off + k * 2 + k2 * 2 by omega] at m1;rw [hI.high (k + k2) (by omega),show off + (k + k2) * 2 + 1 = off + k * 2 + k2 * 2 + 1 by omega] at m2;rw [hI.high (k + k2 - 1) (by omega),show off + (k + k2 - 1) * 2 + 0 = off + k * 2 + (k2 - 1) * 2 by omega] at p1;rw [hI.high (k + k2 - 1) (by omega),show off + (k + k2 - 1) * 2 + 1 = off + k * 2 + (k2 - 1) * 2 + 1 by omega] at p2;rw [Nat.add_zero] at k1 g1;change _ = some (Value.int .i64 d[k + k2]!.a) at m1;change _ = some (Value.int .i64 d[k + k2]!.e) at m2;change _ = some (Value.int .i64 d[k + k2 - 1]!.a) at p1;change _ = some (Value.int .i64 d[k + k2 - 1]!.e) at p2;change _ = some (Value.int .i64 dk[kk]!.a) at k1;change _ = some (Value.int .i64 dk[kk]!.e) at k3;clear hHk hI;generalize hu : d[k + k2]! = u at m1 m2;generalize hv : d[k + k2 - 1]! = v at p1 p2;generalize dk[kk]! = old at k1 k3;have C : Aside (d[k + k2]! = u∧d[k + k2 - 1]! = v) := ⟨hu,hv⟩;clear hu hv;obtain ⟨ua,ue,uk⟩ := u;obtain ⟨va,ve,vk⟩ := v
       simp only at m1 m2 p1 p2;by_cases huv : ua = va∧ue = ve
       ·obtain ⟨rfl,rfl⟩ := huv
        go_wp2_with fail
        go_region_o
        go_wp2
        go_roundg (d.size - (k + (k2 + 1)))
        case measure=>omega
        case rel=>exact ⟨kk,k2 + 1,q2 + 1,dk,rfl,by go_num,by omega,by omega,Nat.le_refl _,by rw [W2.out]; rfl,I2.out.skip (keeps_neg (by omega) (by rw [C.out.1,C.out.2]))⟩
       ·have hne : ({ a := ua,e := ue,ok := uk } : BP) ≠ { a := va,e := ve,ok := vk } := fun h=>huv (by injection h with h1 h2; exact ⟨h1,h2⟩);have I3 := I2.out.keep hlt2 (keeps_pos (by rw [C.out.1,C.out.2]; exact hne));rw [C.out.1] at I3;have J3 : Aside _ := I3;clear I3 hne;by_cases hua : ua = va
        ·have hue : ¬ ue = ve := fun h=>huv ⟨hua,h⟩;subst hua;clear huv
         go_wp2_with fail
         go_region_o
         go_wp2
         go_roundg (d.size - (k + (k2 + 1)))
         case measure=>omega
         case rel=>exact ⟨kk + 1,k2 + 1,q2 + 1,dk.setIfInBounds kk ⟨ua,ue,uk⟩,by go_num,by go_num,by omega,by omega,Nat.le_refl _,store_world (by omega) W2.out ⟨ua,ue,uk⟩,J3.out⟩
        ·clear huv
         go_wp2_with fail
         go_region_o
         go_wp2
         go_roundg (d.size - (k + (k2 + 1)))
         case measure=>omega
         case rel=>exact ⟨kk + 1,k2 + 1,q2 + 1,dk.setIfInBounds kk ⟨ua,ue,uk⟩,by go_num,by go_num,by omega,by omega,Nat.le_refl _,store_world (by omega) W2.out ⟨ua,ue,uk⟩,J3.out⟩
      ·have hend : k + k2 = d.size := by omega
       have hcl : ∀ ty,(Builtin.clear_ #[45] ty #[.slice (some ⟨blk,off + kk * 2,none⟩) (d.size - kk) (cap - kk)]).run Tryz.prog wr = .ok (.tuple #[]) (wr.setCells blk (off + kk * 2) ((List.replicate (d.size - kk) (default : BP)).flatMap BP.enc)) :=
        fun ty=>run_clear2 wr ty blk (off + kk * 2) _ _ (by omega) (fun j hj=>by rw [show off + kk * 2 + j = off + (kk * 2 + j) by omega,(hHk (kk * 2 + j) (by rw [size_flatK]; omega)).1]; rfl) (fun j hj=>by rw [show off + kk * 2 + j = off + (kk * 2 + j) by omega]; exact (hHk (kk * 2 + j) (by rw [size_flatK]; omega)).2)
       clear hHk hI
       go_wp2
       go_ret
       have hI := I2.out;rw [hend] at hI;refine ⟨by rw [hI.len]; rfl,q2,?_⟩;rw [hI.len,← hI.done default];show wr.setCells _ _ _ = putRow id _ _ _ _;rw [← setMany_lay _ dk kk (by simp; omega),W2.out];exact setCells_putRow _ _ _ _ _ _ (by rw [size_flatK,zbi,List.length_replicate]; omega)
    ·have hne : ({ a := a,e := e,ok := ok } : BP) ≠ { a := b,e := f,ok := ok' } := fun h=>hdup (by injection h with h1 h2; exact ⟨h1,h2⟩);have H : Aside (∀ j,j < k + 1→keeps d j = true) := fun j hj=>by
      by_cases e : j = k
      ·subst e;exact keeps_pos (by rw [B.out.1,B.out.2]; exact hne)
      ·exact A.out j (by omega)
     clear hne;by_cases hua : a = b
     ·have hue : ¬ e = f := fun h=>hdup ⟨hua,h⟩;subst hua;clear hdup
      go_wp2_with fail
      go_region_o
      go_wp2
      go_roundg (d.size - (k + 1))
      case measure=>omega
      case rel=>exact ⟨k + 1,q + 1,by omega,by omega,Nat.le_refl _,by go_num,rfl,H.out⟩
     ·clear hdup
      go_wp2_with fail
      go_region_o
      go_wp2
      go_roundg (d.size - (k + 1))
      case measure=>omega
      case rel=>exact ⟨k + 1,q + 1,by omega,by omega,Nat.le_refl _,by go_num,rfl,H.out⟩
   ·have : k = d.size := by omega
    subst this;subst hwr;have HH : Aside (HoldsK BP.enc 2 w blk off d) := hH;clear hH
    go_wp2
    go_ret
    obtain ⟨e1,e2⟩ := HS.out q hall;exact ⟨by rw [e1]; rfl,q,e2⟩
end
end Go.Proofs
namespace Go.Proofs.YtfdklpkfpmkgeaaGreatDoor
section
open Go Go.Vai Go.Proofs Go.Sort Go.Lib
theorem zs2 (x : Int × Int) : ∀ l : List (Int × Int),ddP (l ++ [x]) = ddP l ++ if l.getLast? = some x then [] else [x]
 | []=>rfl
 | [p]=>by
  show (match decide (p = x) with | true=>[x] | false=>p :: [x]) = [p] ++ if some p = some x then [] else [x]
  by_cases h : p = x
  ·subst h;simp
  ·have h' : ¬ (some p = some x) := fun e=>h (by injection e);rw [decide_eq_false h,if_neg h'];rfl
 | p :: q :: l=>by
  have ih := zs2 x (q :: l);have e1 : (p :: q :: l).getLast? = (q :: l).getLast? := by simp [List.getLast?_cons_cons]
  rw [e1];show (match decide (p = q) with | true=>ddP (q :: l ++ [x]) | false=>p :: ddP (q :: l ++ [x])) = (match decide (p = q) with | true=>ddP (q :: l) | false=>p :: ddP (q :: l)) ++ _;rw [ih];by_cases h : p = q
  ·rw [decide_eq_true h]
  ·rw [decide_eq_false h];rfl
theorem pr_inj {x y : BP} (h : x.pr = y.pr) : x = y:=by
 obtain ⟨a,e,ok⟩ := x;obtain ⟨b,f,ok'⟩ := y;injection h with h1 h2;subst h1;subst h2;rfl
theorem zlk (bs : List BP) : ∀ m,m ≤ bs.length→(compactUpTo bs.toArray m).map BP.pr = ddP ((bs.take m).map BP.pr)
 | 0,_=>rfl
 | m + 1,hm=>by
  have hm' : m < bs.length := by omega
  rw [compactUpTo_succ,List.map_append,zlk bs m (by omega),List.take_add_one,List.getElem?_eq_getElem hm'];show _ = ddP (List.map BP.pr (bs.take m ++ [bs[m]]));rw [List.map_append,List.map_cons,List.map_nil,zs2]
  congr 1
  have e1 : bs.toArray[m]! = bs[m] := getElem!_pos bs.toArray m (by rw [List.size_toArray]; exact hm');by_cases h0 : m = 0
  ·subst h0;simp only [List.take_zero,List.map_nil,List.getLast?_nil];rw [keeps_lt_one _ 0 (by omega),e1];rfl
  ·have e2 : bs.toArray[m - 1]! = bs[m - 1]'(by omega) := getElem!_pos bs.toArray (m - 1) (by rw [List.size_toArray]; omega);have e3 : ((bs.take m).map BP.pr).getLast? = some (bs[m - 1]'(by omega)).pr:=by
    rw [List.getLast?_eq_getElem?,List.length_map,List.length_take,Nat.min_eq_left (by omega),List.getElem?_map,List.getElem?_take,if_pos (by omega),List.getElem?_eq_getElem (by omega)];rfl
   rw [e3];by_cases h : bs[m] = bs[m - 1]'(by omega)
   ·rw [keeps_neg (by omega) (by rw [e1,e2]; exact h),if_neg (by decide),if_pos (show some _ = some _ by rw [h])];rfl
   ·rw [keeps_pos (by rw [e1,e2]; exact h),if_pos rfl,if_neg (show ¬ some _ = some _ from fun e=>h (pr_inj (by injection e with e; exact e.symm))),e1];rfl
set_option maxHeartbeats 1000000 in
theorem zmk (a : Option Addr) (cap : Nat) (w : World) : Calls Tryz.prog 51 #[.slice a 0 cap] w fun e w'=>e = .returned (.slice a 0 cap)∧w' = w:=by
 go_enter Tryz.func51,Tryz.ntmps51
 go_wp2
 go_ret
 exact ⟨rfl,rfl⟩
theorem own51 {gs : List Nat} {sz : Nat} {l : List AV} {p : Nat × List AV} (hF : zef gs l = some p) (hi : zc1 sz l = true) (hs : 0 < sz) : OwnC Tryz.prog 51 true gs sz l p:=by
 unfold zef at hF;split at hF
 ·split at hF
  ·rename_i ds hd;injection hF with hF;subst hF;obtain ⟨hle,bs,rfl,rfl⟩ := dgL_of hd;rw [List.length_map,List.length_map] at hle;refine ⟨⟨_,_,Tryz.func51,rfl⟩,fun hl w q cap=>?_,fun hl w B cap us e hw hus hcap hc=>?_⟩
   ·refine (zmk q cap w).mono ?_;rintro e w' ⟨rfl,rfl⟩;cases bs with
    | nil=>exact ⟨_,rfl,⟨fun _ _ _=>rfl,Nat.le_refl _,rfl,rfl,rfl⟩,rfl⟩
    | cons b bs=>cases hl
   ·have hsz : sz = 2:=by
     cases bs with
     | nil=>exact absurd rfl hl
     | cons b bs =>
      simp only [List.map_cons,zc1] at hi;split at hi
      ·rename_i h;rw [Bool.and_eq_true] at h;exact (Nat.eq_of_beq_eq_true h.1).symm
      ·cases hi
    subst hsz;rw [zhj] at hc;rw [List.length_map,List.length_map] at hcap;have hcon := YtfdklpkfpmkgeaaGreatDoor.compact_arr B 0 cap bs.toArray w (zk7 bs hw hc) (by rw [List.size_toArray]; exact hle) (by rw [List.size_toArray]; exact hcap);rw [show (List.map pAV (List.map BP.pr bs)).length = bs.toArray.size by simp];refine hcon.mono ?_;rintro e' w' ⟨rfl,n,hw'⟩;have hdd : (compactUpTo bs.toArray bs.toArray.size).map BP.pr = ddP (bs.map BP.pr):=by
     have := zlk bs bs.length (Nat.le_refl _)
     rwa [List.take_length] at this
    have hlen : (compactUpTo bs.toArray bs.toArray.size).length = (ddP (bs.map BP.pr)).length := by rw [← hdd,List.length_map]
    have hld : (ddP (bs.map BP.pr)).length ≤ bs.length:=by
     rw [← hlen];unfold compactUpTo;rw [List.length_map];refine Nat.le_trans (List.length_filter_le _ _) ?_;rw [List.length_range,List.size_toArray];exact Nat.le_refl _
    rw [hlen] at hw' ⊢;obtain ⟨h1,us',h2,h3,h4⟩ := zov (w' := w') (n := n) (os := #[]) bs (compactUpTo bs.toArray bs.toArray.size ++ List.replicate (bs.toArray.size - (ddP (bs.map BP.pr)).length) default) hw hus (by rw [List.length_append,hlen,List.length_replicate,List.size_toArray]; omega) (by rw [hw',sortWorldK,grow_empty]);refine ⟨_,us',rfl,h1,h2,h3,?_,cap,rfl,by omega⟩;show ∀ (j : Nat) (v : Value),((((ddP (bs.map BP.pr)).map pAV ++ List.replicate ((bs.map BP.pr).length - (ddP (bs.map BP.pr)).length) (pAV (0,0))).flatMap AV.cells).map ivV)[j]? = some v→us'[j]? = some v;have e : (ddP (bs.map BP.pr)).map pAV ++ List.replicate ((bs.map BP.pr).length - (ddP (bs.map BP.pr)).length) (pAV (0,0)) = ((compactUpTo bs.toArray bs.toArray.size ++ List.replicate (bs.toArray.size - (ddP (bs.map BP.pr)).length) default).map BP.pr).map pAV:=by
     rw [List.map_append,List.map_append,hdd,List.map_replicate,List.map_replicate,List.length_map,List.size_toArray];rfl
    rw [e,zhj];exact h4
  ·cases hF
 ·cases hF
def zkp : List (Nat × Ann)→List Nat
 | []=>[]
 | (f,a) :: l=>match a.oc with
  | none=>zkp l
  | some _=>f :: zkp l
theorem zjq {f : Nat} {x : Bool × (List Nat→List AV→Option (Nat × List AV))} : ∀ A : List (Nat × Ann),(getA A f).oc = some x→f ∈ zkp A
 | [],h=>by cases h
 | (g,a) :: l,h=>by
  rw [getA] at h;rw [zkp];cases hb : Nat.beq f g with
  | true =>
   rw [hb] at h;obtain rfl := Nat.eq_of_beq_eq_true hb;simp only at h;rw [h];exact List.mem_cons_self
  | false =>
   rw [hb] at h;have := zjq l h;cases a.oc with
   | none=>exact this
   | some y=>exact List.mem_cons_of_mem _ this
theorem zpy : zkp ann = [49,51] := by kernel_rfl
theorem oc49 : (getA ann 49).oc = some (false,zlz) := by kernel_rfl
theorem oc51 : (getA ann 51).oc = some (true,zef) := by kernel_rfl
theorem ocOk : OcOk Tryz.prog ann:=by
 intro f b F hf gs sz l p hp hi hs _ _ _;have h := zjq ann hf;rw [zpy] at h;rcases List.mem_cons.1 h with rfl | h
 ·rw [oc49] at hf;injection hf with hf;injection hf with h1 h2;subst h1;subst h2;exact own49 hp hi hs
 ·obtain rfl := List.mem_singleton.1 h;rw [oc51] at hf;injection hf with hf;injection hf with h1 h2;subst h1;subst h2;exact own51 hp hi hs
theorem numOk : zgg Tryz.prog ann := ⟨noNum,ocOk⟩
end
section
open Go Go.Vai
attribute [local irreducible] goTo zao mkS
variable {C : Nat → Oracle} {o : Out}
theorem p45_c (hC : Ext C) {T : Hp} {d : Nat} {a b : Int} {c : PS} : LC C o 45 (mkS 29 [vv 0 (.ptr 0 0),vi 1 a,vi 2 b] [] (hp c T) d) [(.ptr 0 0),(i6 a),(i6 b)] (hp c T) d := lC hC
theorem p45_0 {b c} {T : Hp} {d : Nat} {a : PS} : LR C o 45 [] (mkS 29 [vv 0 (.ptr 0 0),vi 1 b,vi 2 c] [] (hp a T) d) (.br (decide (a.err = 0))
(.ret ⟨(.tuple []),(hp ⟨a.src,a.pos,0,[],0,(a.src.length : Int),a.depth,b,c⟩ T),d⟩)
(.ret ⟨(.tuple []),(hp ⟨a.src,a.pos,0,[],0,(a.src.length : Int),a.depth,a.err,a.eat⟩ T),d⟩)) := lR 7
theorem p42_c (hC : Ext C) {T : Hp} {b : Nat} {a : PS} : LC C o 42 (mkS 27 [vv 0 (.ptr 0 0)] [] (hp a T) b) [(.ptr 0 0)] (hp a T) b := lC hC
abbrev yS3 := fun a b (c : Nat) => mkS 27 [vv 0 (.ptr 0 0),vb 8 false,vv 10 (.ptr 0 0),vv 11 (.ptr 0 0),vv 12 (.ptr 0 0),vv 13 a] [] b c
theorem p42_0 {T : Hp} {b : Nat} {a : PS} : LR C o 42 [] (mkS 27 [vv 0 (.ptr 0 0)] [] (hp a T) b) (.br (!(decide (a.err = 0)))
(.ret ⟨(.tuple []),(hp a T),b⟩)
(.call 79 [(.ptr 0 0)] (hp a T) b fun c =>
(.mid 0 Q06 4 (yS3 c.v c.H c.nx)))) := lR 7
abbrev yS4 := fun a b c (d : Int) (e : List UInt8) (f : Int) g (h : Nat) => mkS 27 [vv 0 (.ptr 0 0),(2,.lp 2 0),vi 3 a,vb 17 true,vv 18 (.ptr 0 0),vi 19 a,(20,.lp 2 3),vi 21 b,vv 22 c] [(2,⟨[(i6 d),(.str e),(i6 f),(i6 b)],[]⟩)] g h
theorem p42_1 {d e b c f} {T : Hp} {g : Nat} {a : PS} : LM C o 42 Q06 4 (yS3 (.tuple [(.agg [(i6 d),(.str f),(i6 e),(i6 b)]),(i6 c)]) (hp a T) g) (.br (!(decide (c = 0)))
(.call 45 [(.ptr 0 0),(i6 c),(i6 b)] (hp a T) g fun h =>
(.mid 1 Q0w 5 (yS4 c b h.v d f e h.H h.nx)))
(.ret ⟨(.tuple []),(hp ⟨a.src,a.pos,d,f,e,b,a.depth,a.err,a.eat⟩ T),g⟩)) := lM 7
theorem p42_2 {b c} {T : Hp} {g : Nat} {d e : Int} {f : List UInt8} {a : PS} : LM C o 42 Q0w 5 (yS4 c b (.tuple []) d f e (hp a T) g) (.ret ⟨(.tuple []),(hp a T),g⟩) := lM 1
theorem p43_c (hC : Ext C) {T : Hp} {c : Nat} {a : List UInt8} {b : PS} : LC C o 43 (mkS 20 [vv 0 (.ptr 0 0),vt 1 a] [] (hp b T) c) [(.ptr 0 0),(.str a)] (hp b T) c := lC hC
theorem p43_0 {b} {T : Hp} {c : Nat} {a : PS} : LR C o 43 [] (mkS 20 [vv 0 (.ptr 0 0),vt 1 b] [] (hp a T) c) (.br (decide (a.kind = 1))
(.ret ⟨(.bool (eqS a.s b)),(hp a T),c⟩)
(.ret ⟨(.bool false),(hp a T),c⟩)) := lR 5
theorem p82_c (hC : Ext C) {T : Hp} {c : Nat} {a : List UInt8} {b : PS} : LC C o 82 (mkS 20 [vv 0 (.ptr 0 0),vt 1 a] [] (hp b T) c) [(.ptr 0 0),(.str a)] (hp b T) c := lC hC
theorem p82_0 {b} {T : Hp} {c : Nat} {a : PS} : LR C o 82 [] (mkS 20 [vv 0 (.ptr 0 0),vt 1 b] [] (hp a T) c) (.br (decide (a.kind = 4))
(.ret ⟨(.bool (eqS a.s b)),(hp a T),c⟩)
(.ret ⟨(.bool false),(hp a T),c⟩)) := lR 5
theorem p81_c (hC : Ext C) {T : Hp} {c : Nat} {a : List UInt8} {b : PS} : LC C o 81 (mkS 17 [vv 0 (.ptr 0 0),vt 1 a] [] (hp b T) c) [(.ptr 0 0),(.str a)] (hp b T) c := lC hC
theorem p81_0 {a} {T : Hp} {d : Nat} {b : PS} : LR C o 81 [] (mkS 17 [vv 0 (.ptr 0 0),vt 1 a] [] (hp b T) d) (.call 82 [(.ptr 0 0),(.str a)] (hp b T) d fun c =>
(.mid 0 [0,0] 3 (mkS 17 [vv 0 (.ptr 0 0),vt 1 a,vv 4 (.ptr 0 0),vt 5 a,vv 6 c.v] [] c.H c.nx))) := lR 3
abbrev yS9 := fun a b c (d : Nat) => mkS 17 [vv 0 (.ptr 0 0),vb 7 true,vv 8 (.ptr 0 0),vv 9 (.ptr 0 0),vv 10 (.ptr 0 0),vv 11 (.ptr 0 2),vv 12 (.ptr 0 5),vi 13 a,vv 14 b] [] c d
theorem p81_1 {b c} {T : Hp} {d : Nat} {a : PS} : LM C o 81 [0,0] 3 (mkS 17 [vv 0 (.ptr 0 0),vt 1 b,vv 4 (.ptr 0 0),vt 5 b,vb 6 c] [] (hp a T) d) (.br (!c)
(.call 45 [(.ptr 0 0),(i6 11),(i6 a.tat)] (hp a T) d fun e =>
(.mid 0 Q03 7 (yS9 a.tat e.v e.H e.nx)))
(.call 42 [(.ptr 0 0)] (hp a T) d fun f =>
(.mid 0 Q04 2 (mkS 17 [vv 0 (.ptr 0 0),vb 7 false,vv 15 (.ptr 0 0),vv 16 f.v] [] f.H f.nx)))) := lM 3
theorem p81_2 {b} {T : Hp} {c : Nat} {a : PS} : LM C o 81 Q03 7 (yS9 b (.tuple []) (hp a T) c) (.ret ⟨(.tuple []),(hp a T),c⟩) := lM 1
theorem p81_3 {T : Hp} {b : Nat} {a : PS} : LM C o 81 Q04 2 (mkS 17 [vv 0 (.ptr 0 0),vb 7 false,vv 15 (.ptr 0 0),vv 16 (.tuple [])] [] (hp a T) b) (.ret ⟨(.tuple []),(hp a T),b⟩) := lM 1
theorem p80_c (hC : Ext C) {T : Hp} {b : Nat} {a : PS} : LC C o 80 (mkS 37 [vv 0 (.ptr 0 0)] [] (hp a T) b) [(.ptr 0 0)] (hp a T) b := lC hC
abbrev yS12 := fun a b (c : Int) (d : List UInt8) (e : Int) f (g : Nat) => mkS 37 [vv 0 (.ptr 0 0),(4,.lp 4 0),vb 11 true,vv 20 (.ptr 0 0),(21,.lp 4 3),vi 22 a,vv 23 b] [(4,⟨[(i6 c),(.str d),(i6 e),(i6 a)],[]⟩)] f g
abbrev yS13 := fun a b c d (e f : Int) (g : PS) (h : Hp) (i : Nat) => mkS 37 [vv 0 (.ptr 0 0),(4,.lp 4 0),(12,.lp 4 0),vi 13 a,vb 14 b,vb 15 false,(16,.lp 4 1),vt 17 c,d] [(4,⟨[(i6 a),(.str c),(i6 e),(i6 f)],[]⟩)] (hp g h) i
theorem p80_0 {T : Hp} {b : Nat} {a : PS} : LR C o 80 [] (mkS 37 [vv 0 (.ptr 0 0)] [] (hp a T) b) (.br (!(decide (a.kind = 1)))
(.call 45 [(.ptr 0 0),(i6 11),(i6 a.tat)] (hp a T) b fun c =>
(.mid 0 Q0k 4 (yS12 a.tat c.v a.kind a.s a.n c.H c.nx)))
(cl0 147 [(.str a.s)] fun d => .br (AV.pure d.v)
(.mid 2 Q0d 7 (yS13 a.kind (! (decide (a.kind = 1))) a.s (vv 18 d.v) a.n a.tat a T b)) .none)) := lR 10
theorem p80_1 {a} {T : Hp} {f : Nat} {d e : Int} {b : List UInt8} {c : PS} : LM C o 80 Q0k 4 (yS12 a (.tuple []) d b e (hp c T) f) (.ret ⟨(.tuple [(.str b),(i6 a)]),(hp c T),f⟩) := lM 4
abbrev yS14 := fun a b (c : Int) (d : List UInt8) (e : Int) f (g : Nat) => mkS 37 [vv 0 (.ptr 0 0),(4,.lp 4 0),vb 24 true,vv 29 (.ptr 0 0),(30,.lp 4 3),vi 31 a,vv 32 b] [(4,⟨[(i6 c),(.str d),(i6 e),(i6 a)],[]⟩)] f g
theorem p80_2 {f g c b} {T : Hp} {h : Nat} {d a : Int} {e : PS} : LM C o 80 Q0d 7 (yS13 c g b (vb 18 f) d a e T h) (.br f
(.call 45 [(.ptr 0 0),(i6 11),(i6 a)] (hp e T) h fun i =>
(.mid 3 Q0k 4 (yS12 a i.v c b d i.H i.nx)))
(.br (decide (16 < (b.length : Int)))
(.call 45 [(.ptr 0 0),(i6 3),(i6 a)] (hp e T) h fun j =>
(.mid 0 Q12 4 (yS14 a j.v c b d j.H j.nx)))
(.call 42 [(.ptr 0 0)] (hp e T) h fun k =>
(.mid 0 Q13 2 (mkS 37 [vv 0 (.ptr 0 0),(4,.lp 4 0),vv 9 (.ptr 0 0),vv 10 k.v,vb 24 false] [(4,⟨[(i6 c),(.str b),(i6 d),(i6 a)],[]⟩)] k.H k.nx))))) := lM 5
theorem p80_3 {a} {T : Hp} {f : Nat} {d e : Int} {b : List UInt8} {c : PS} : LM C o 80 Q12 4 (yS14 a (.tuple []) d b e (hp c T) f) (.ret ⟨(.tuple [(.str b),(i6 a)]),(hp c T),f⟩) := lM 4
theorem p80_4 {d e a b} {T : Hp} {f : Nat} {c : PS} : LM C o 80 Q13 2 (mkS 37 [vv 0 (.ptr 0 0),(4,.lp 4 0),vv 9 (.ptr 0 0),vv 10 (.tuple []),vb 24 false] [(4,⟨[(i6 d),(.str b),(i6 e),(i6 a)],[]⟩)] (hp c T) f) (.ret ⟨(.tuple [(.str b),(i6 a)]),(hp c T),f⟩) := lM 4
theorem p148_c (hC : Ext C) {T : Hp} {d : Nat} {a : Bool} {b : List AV} {c : PS} : LC C o 148 (mkS 29 [vv 0 (.ptr 0 0),vv 1 (.vs 1 a b)] [] (hp c T) d) [(.ptr 0 0),(.vs 1 a b)] (hp c T) d := lC hC
theorem p148_0 {a b} {T : Hp} {d : Nat} {c : PS} : LR C o 148 [] (mkS 29 [vv 0 (.ptr 0 0),vv 1 (.vs 1 a b)] [] (hp c T) d) (.run 0 Q0a (mkS 29 [vv 0 (.ptr 0 0),vv 7 (.vs 1 a b),vi 8 (b.length : Int),vi 9 0] [] (hp c T) d)) := lR 7
abbrev yS19 := fun (a : Bool) (b : List AV) c d e f g (h : Nat) => mkS 29 [vv 0 (.ptr 0 0),vv 7 (.vs 1 a b),vi 8 c,vi 9 d,vb 10 false,vv 22 (.ptr 0 0),vv 23 (.ptr 0 0),vv 24 (.ptr 0 0),vv 25 (.ptr 0 2),vv 26 (.ptr 0 5),vi 27 e,vv 28 f] [] g h
theorem p148_1 {c d e a} {T : Hp} {f : Nat} {b : PS} : LR C o 148 Q0a (mkS 29 [vv 0 (.ptr 0 0),vv 7 (.vs 1 c d),vi 8 e,vi 9 a] [] (hp b T) f) (.br (decide (a < e))
(ix d a fun h =>
(.mid 0 Q1i 2 (mkS 29 [vv 0 (.ptr 0 0),vv 7 (.vs 1 c d),vi 8 e,vi 9 a,vb 10 true,vi 11 a,vv 12 (.cptr (AV.cells h))] [] (hp b T) f)))
(.call 45 [(.ptr 0 0),(i6 11),(i6 b.tat)] (hp b T) f fun g =>
(.mid 2 Q1p 7 (yS19 c d e a b.tat g.v g.H g.nx)))) := lR 9
theorem p148_2 {c d e a b} {T : Hp} {h : Nat} {f : PS} : LM C o 148 Q1i 2 (mkS 29 [vv 0 (.ptr 0 0),vv 7 (.vs 1 c d),vi 8 e,vi 9 a,vb 10 true,vi 11 a,vv 12 (.cptr [(.str b)])] [] (hp f T) h) (.call 43 [(.ptr 0 0),(.str b)] (hp f T) h fun g =>
(.mid 0 Q1x 3 (mkS 29 [vv 0 (.ptr 0 0),vi 5 a,vt 6 b,vv 7 (.vs 1 c d),vi 8 e,vi 9 a,vv 14 (.ptr 0 0),vt 15 b,vv 16 g.v] [] g.H g.nx))) := lM 2
theorem p148_3 {b c d e f} {T : Hp} {g : Nat} {a : PS} : LM C o 148 Q1p 7 (yS19 b c d e f (.tuple []) (hp a T) g) (.ret ⟨(i6 0),(hp a T),g⟩) := lM 3
theorem p148_4 {b f c d a g} {T : Hp} {h : Nat} {e : PS} : LM C o 148 Q1x 3 (mkS 29 [vv 0 (.ptr 0 0),vi 5 a,vt 6 g,vv 7 (.vs 1 b c),vi 8 d,vi 9 a,vv 14 (.ptr 0 0),vt 15 g,vb 16 f] [] (hp e T) h) (.br f
(.call 42 [(.ptr 0 0)] (hp e T) h fun i =>
(.mid 2 Q2l 2 (mkS 29 [vv 0 (.ptr 0 0),vi 5 a,vv 7 (.vs 1 b c),vi 8 d,vi 9 a,vb 16 true,vv 17 (.ptr 0 0),vv 18 i.v] [] i.H i.nx)))
(.run 0 Q0a (mkS 29 [vv 0 (.ptr 0 0),vv 7 (.vs 1 b c),vi 8 d,vi 9 (w64 (a + 1))] [] (hp e T) h))) := lM 5
theorem p148_5 {c d e a} {T : Hp} {f : Nat} {b : PS} : LM C o 148 Q2l 2 (mkS 29 [vv 0 (.ptr 0 0),vi 5 a,vv 7 (.vs 1 c d),vi 8 e,vi 9 a,vb 16 true,vv 17 (.ptr 0 0),vv 18 (.tuple [])] [] (hp b T) f) (.ret ⟨(i6 (w64 (a + 1))),(hp b T),f⟩) := lM 3
theorem p213_c (hC : Ext C) {T : Hp} {b : Nat} {a : PS} : LC C o 213 (mkS 21 [vv 0 (.ptr 0 0)] [] (hp a T) b) [(.ptr 0 0)] (hp a T) b := lC hC
abbrev yS23 := fun a b c (d : Nat) => mkS 21 [vv 0 (.ptr 0 0),vb 6 true,vv 7 (.ptr 0 0),vv 8 (.ptr 0 0),vv 9 (.ptr 0 0),vv 10 (.ptr 0 2),vv 11 (.ptr 0 5),vi 12 a,vv 13 b] [] c d
theorem p213_0 {T : Hp} {b : Nat} {a : PS} : LR C o 213 [] (mkS 21 [vv 0 (.ptr 0 0)] [] (hp a T) b) (.br (decide (a.depth = 20))
(.call 45 [(.ptr 0 0),(i6 3),(i6 a.tat)] (hp a T) b fun c =>
(.mid 2 Q00 7 (yS23 a.tat c.v c.H c.nx)))
(.ret ⟨(.tuple []),(hp ⟨a.src,a.pos,a.kind,a.s,a.n,a.tat,(w64 (a.depth + 1)),a.err,a.eat⟩ T),b⟩)) := lR 7
theorem p213_1 {b} {T : Hp} {c : Nat} {a : PS} : LM C o 213 Q00 7 (yS23 b (.tuple []) (hp a T) c) (.ret ⟨(.tuple []),(hp ⟨a.src,a.pos,a.kind,a.s,a.n,a.tat,(w64 (a.depth + 1)),a.err,a.eat⟩ T),c⟩) := lM 2
theorem p214_c (hC : Ext C) {T : Hp} {b : Nat} {a : PS} : LC C o 214 (mkS 9 [vv 0 (.ptr 0 0)] [] (hp a T) b) [(.ptr 0 0)] (hp a T) b := lC hC
theorem p214_0 {T : Hp} {b : Nat} {a : PS} : LR C o 214 [] (mkS 9 [vv 0 (.ptr 0 0)] [] (hp a T) b) (.ret ⟨(.tuple []),(hp ⟨a.src,a.pos,a.kind,a.s,a.n,a.tat,(w64 (a.depth - 1)),a.err,a.eat⟩ T),b⟩) := lR 2
theorem p140_c (hC : Ext C) {a : Int} : LC C o 140 (mk0 17 [vv 0 (.int .u8 a)]) [(.int .u8 a)] Hp.none 0 := lC hC
theorem p140_0 {a : Int} : LR C o 140 [] (mk0 17 [vv 0 (.int .u8 a)]) (.br (decide (97 ≤ a))
(.br (decide (a ≤ 122))
(rt (.bool true))
(.br (decide (65 ≤ a))
(rt (.bool (decide (a ≤ 90))))
(rt (.bool false))))
(.br (decide (65 ≤ a))
(rt (.bool (decide (a ≤ 90))))
(rt (.bool false)))) := lR 5
theorem p143_c (hC : Ext C) {a : Int} : LC C o 143 (mk0 9 [vv 0 (.int .u8 a)]) [(.int .u8 a)] Hp.none 0 := lC hC
theorem p143_0 {a : Int} : LR C o 143 [] (mk0 9 [vv 0 (.int .u8 a)]) (.br (decide (48 ≤ a))
(rt (.bool (decide (a ≤ 57))))
(rt (.bool false))) := lR 5
theorem p142_c (hC : Ext C) {a : Int} : LC C o 142 (mk0 9 [vv 0 (.int .u8 a)]) [(.int .u8 a)] Hp.none 0 := lC hC
theorem p142_0 {a : Int} : LR C o 142 [] (mk0 9 [vv 0 (.int .u8 a)]) (cl0 140 [(.int .u8 a)] fun b => .br (AV.pure b.v)
(.mid 0 [0,5,0] 2 (mk0 9 [vv 0 (.int .u8 a),vv 3 (.int .u8 a),vv 4 b.v])) .none) := lR 4
theorem p142_1 {b} {a : Int} : LM C o 142 [0,5,0] 2 (mk0 9 [vv 0 (.int .u8 a),vv 3 (.int .u8 a),vb 4 b]) (.br b
(rt (.bool true))
(cl0 143 [(.int .u8 a)] fun c => .br (AV.pure c.v)
(.mid 1 [0,5,0] 5 (mk0 9 [vv 0 (.int .u8 a),vv 3 (.int .u8 a),vb 4 b,vb 5 false,vv 6 (.int .u8 a),vv 7 c.v])) .none)) := lM 1
theorem p142_2 {c b} {a : Int} : LM C o 142 [0,5,0] 5 (mk0 9 [vv 0 (.int .u8 a),vv 3 (.int .u8 a),vb 4 c,vb 5 false,vv 6 (.int .u8 a),vb 7 b]) (rt (.bool b)) := lM 1
end
section
open Go Go.Vai
attribute [local irreducible] goTo zao mkS
variable {C : Nat → Oracle} {o : Out}
abbrev cB0 : Nat × Blk := (2,⟨[(i6 0),(.str []),(i6 0),(i6 0)],[]⟩)
abbrev qB0 : List Nat := Q0i
abbrev qB1 : List Nat := Q0l
abbrev qB2 : List Nat := Q5a
abbrev qB3 : List Nat := Q44
abbrev qB4 : List Nat := Q4f
abbrev qB5 : List Nat := Q3x
abbrev qB6 : List Nat := Q4c
abbrev qB7 : List Nat := Q6n
abbrev qB8 : List Nat := Q6z
abbrev yS30 := fun a (b : PS) (c : Hp) (d : Nat) => mkS 50 [vv 0 (.ptr 0 0),vv 1 (.func a [])] [] (hp b c) d
theorem ztm (hC : Ext C) {T : Hp} {b : Nat} {a : PS} : LC C o 141 (yS30 142 a T b) [(.ptr 0 0),(.func 142 [])] (hp a T) b := lC hC
abbrev yS31 := fun a b c (d : Nat) => mkS 50 [vv 0 (.ptr 0 0),vv 1 (.func a []),vi 5 b] [] c d
theorem zss {T a} {b : Nat} : LR C o 141 [] (yS30 142 a T b) (.run 0 Q0e (yS31 142 a.pos (hp a T) b)) := lR 7
abbrev yS32 := fun a b (c : PS) d e (f : Hp) (g : Nat) => mkS 50 [vv 0 (.ptr 0 0),vv 1 (.func a []),vi 5 b,vv 10 (.ptr 0 0),vv 11 (.ptr 0 0),vv 12 (.ptr 0 1),(13,.val (i6 c.pos) (.lH 0 1)),vv 14 (.ptr 0 0),vv 15 (.ptr 0 0),vv 16 (.ptr 0 0),(17,.val (.str c.src) (.lH 0 0)),vi 18 (c.src.length : Int),vb 19 (decide (c.pos < (c.src.length : Int))),vb 20 true,vv 21 (.func a []),vv 22 (.ptr 0 0),vv 23 (.ptr 0 0),vv 24 (.ptr 0 0),(25,.val (.str c.src) (.lH 0 0)),vv 26 (.ptr 0 0),vv 27 (.ptr 0 0),vv 28 (.ptr 0 1),(29,.val (i6 c.pos) (.lH 0 1)),vv 30 (.int .u8 d),vv 31 e] [] (hp c f) g
theorem zlm {b} {T : Hp} {c : Nat} {a : PS} : LR C o 141 Q0e (yS31 142 b (hp a T) c) (.br (decide (a.pos < (a.src.length : Int)))
(.br (decide ((0 : Int) ≤ a.pos))
(.bind (a.src[(Int.toNat a.pos)]?) fun d =>
(cl0 142 [(.int .u8 ((d.toNat : Nat) : Int))] fun e => .br (AV.pure e.v)
(.mid 5 qB1 22 (yS32 142 b a ((d.toNat : Nat) : Int) e.v T c)) .none)) .none)
(.br (decide ((0 : Int) ≤ a.pos))
(.br (decide (a.pos ≤ (a.src.length : Int)))
(.br (decide ((0 : Int) ≤ b))
(.br (decide (b ≤ (((Int.toNat a.pos) : Nat) : Int)))
(.ret ⟨(.str (List.drop (Int.toNat b) (List.take (Int.toNat a.pos) a.src))),(hp a T),c⟩) .none) .none) .none) .none)) := lR 8
abbrev yS33 := fun a b (c : Int) (d : List UInt8) e f (g : Int) h (i : PS) (j : Hp) (k : Nat) => mkS 50 [vv 0 (.ptr 0 0),vv 1 (.func a []),vi 5 b,vv 10 (.ptr 0 0),vv 11 (.ptr 0 0),vv 12 (.ptr 0 1),(13,.val (i6 c) (.lH 0 1)),vv 14 (.ptr 0 0),vv 15 (.ptr 0 0),vv 16 (.ptr 0 0),(17,.val (.str d) (.lH 0 0)),vi 18 e,vb 19 f,vb 20 true,vv 21 (.func a []),vv 22 (.ptr 0 0),vv 23 (.ptr 0 0),vv 24 (.ptr 0 0),(25,.val (.str d) (.lH 0 0)),vv 26 (.ptr 0 0),vv 27 (.ptr 0 0),vv 28 (.ptr 0 1),(29,.val (i6 c) (.lH 0 1)),vv 30 (.int .u8 g),vb 31 h] [] (hp i j) k
theorem zsr {T b c g h d i e a} {f : Nat} : LM C o 141 qB1 22 (yS33 142 b c e g i h d a T f) (.br d
(.run 0 Q0e (yS31 142 b (hp ⟨a.src,(w64 (a.pos + 1)),a.kind,a.s,a.n,a.tat,a.depth,a.err,a.eat⟩ T) f))
(.br (decide ((0 : Int) ≤ a.pos))
(.br (decide (a.pos ≤ (a.src.length : Int)))
(.br (decide ((0 : Int) ≤ b))
(.br (decide (b ≤ (((Int.toNat a.pos) : Nat) : Int)))
(.ret ⟨(.str (List.drop (Int.toNat b) (List.take (Int.toNat a.pos) a.src))),(hp a T),f⟩) .none) .none) .none) .none)) := lM 6
theorem zth (hC : Ext C) {T : Hp} {b : Nat} {a : PS} : LC C o 141 (yS30 143 a T b) [(.ptr 0 0),(.func 143 [])] (hp a T) b := lC hC
theorem ztn {T a} {b : Nat} : LR C o 141 [] (yS30 143 a T b) (.run 0 Q0e (yS31 143 a.pos (hp a T) b)) := lR 7
theorem zma {b} {T : Hp} {c : Nat} {a : PS} : LR C o 141 Q0e (yS31 143 b (hp a T) c) (.br (decide (a.pos < (a.src.length : Int)))
(.br (decide ((0 : Int) ≤ a.pos))
(.bind (a.src[(Int.toNat a.pos)]?) fun d =>
(cl0 143 [(.int .u8 ((d.toNat : Nat) : Int))] fun e => .br (AV.pure e.v)
(.mid 5 qB1 22 (yS32 143 b a ((d.toNat : Nat) : Int) e.v T c)) .none)) .none)
(.br (decide ((0 : Int) ≤ a.pos))
(.br (decide (a.pos ≤ (a.src.length : Int)))
(.br (decide ((0 : Int) ≤ b))
(.br (decide (b ≤ (((Int.toNat a.pos) : Nat) : Int)))
(.ret ⟨(.str (List.drop (Int.toNat b) (List.take (Int.toNat a.pos) a.src))),(hp a T),c⟩) .none) .none) .none) .none)) := lR 8
theorem ztd {T b c f g d h e a} {i : Nat} : LM C o 141 qB1 22 (yS33 143 b c e f h g d a T i) (.br d
(.run 0 Q0e (yS31 143 b (hp ⟨a.src,(w64 (a.pos + 1)),a.kind,a.s,a.n,a.tat,a.depth,a.err,a.eat⟩ T) i))
(.br (decide ((0 : Int) ≤ a.pos))
(.br (decide (a.pos ≤ (a.src.length : Int)))
(.br (decide ((0 : Int) ≤ b))
(.br (decide (b ≤ (((Int.toNat a.pos) : Nat) : Int)))
(.ret ⟨(.str (List.drop (Int.toNat b) (List.take (Int.toNat a.pos) a.src))),(hp a T),i⟩) .none) .none) .none) .none)) := lM 6
theorem p139_c (hC : Ext C) {T : Hp} {b : Nat} {a : PS} : LC C o 139 (mkS 66 [vv 0 (.ptr 0 0)] [] (hp a T) b) [(.ptr 0 0)] (hp a T) b := lC hC
abbrev yS35 := fun a (b : Nat) => mkS 66 [vv 0 (.ptr 0 0)] [] a b
theorem p139_0 {T : Hp} {b : Nat} {a : PS} : LR C o 139 [] (mkS 66 [vv 0 (.ptr 0 0)] [] (hp a T) b) (.run 0 [2,3] (yS35 (hp a T) b)) := lR 2
theorem p139_1 {T : Hp} {b : Nat} {a : PS} : LR C o 139 [2,3] (yS35 (hp a T) b) (.br (decide (a.pos < (a.src.length : Int)))
(.br (decide ((0 : Int) ≤ a.pos))
(.bind (a.src[(Int.toNat a.pos)]?) fun c =>
(.br (decide (((c.toNat : Nat) : Int) = 9))
(.run 7 [2,3] (yS35 (hp ⟨a.src,(w64 (a.pos + 1)),a.kind,a.s,a.n,a.tat,a.depth,a.err,a.eat⟩ T) b))
(.br (decide (((c.toNat : Nat) : Int) = 10))
(.run 4 [2,3] (yS35 (hp ⟨a.src,(w64 (a.pos + 1)),a.kind,a.s,a.n,a.tat,a.depth,a.err,a.eat⟩ T) b))
(.br (decide (((c.toNat : Nat) : Int) = 13))
(.run 1 [2,3] (yS35 (hp ⟨a.src,(w64 (a.pos + 1)),a.kind,a.s,a.n,a.tat,a.depth,a.err,a.eat⟩ T) b))
(.br (decide (((c.toNat : Nat) : Int) = 32))
(.run 1 [2,3] (yS35 (hp ⟨a.src,(w64 (a.pos + 1)),a.kind,a.s,a.n,a.tat,a.depth,a.err,a.eat⟩ T) b))
(.br (decide (((c.toNat : Nat) : Int) = 35))
(.br (decide ((0 : Int) ≤ a.pos))
(.br (decide (a.pos ≤ (a.src.length : Int)))
(cl0 181 [(.str (List.drop (Int.toNat a.pos) (List.take a.src.length a.src))),(.int .u8 10)] fun d => .br (AV.pure d.v)
(.br (AV.pure d.v)
(.mid 0 qB4 10 (mkS 66 [vv 0 (.ptr 0 0),vb 34 true,vv 36 (.ptr 0 0),vv 37 (.ptr 0 0),vv 38 (.ptr 0 0),(39,.val (.str a.src) (.lH 0 0)),vv 40 (.ptr 0 0),vv 41 (.ptr 0 0),vv 42 (.ptr 0 1),(43,.val (i6 a.pos) (.lH 0 1)),vt 44 (List.drop (Int.toNat a.pos) (List.take a.src.length a.src)),vv 45 d.v] [] (hp a T) b)) .none) .none) .none) .none)
(.ret ⟨(.tuple []),(hp a T),b⟩))))))) .none)
(.ret ⟨(.tuple []),(hp a T),b⟩)) := lR 26
theorem p139_2 {b c d e} {T : Hp} {f : Nat} {a : PS} : LM C o 139 qB4 10 (mkS 66 [vv 0 (.ptr 0 0),vb 34 true,vv 36 (.ptr 0 0),vv 37 (.ptr 0 0),vv 38 (.ptr 0 0),(39,.val (.str d) (.lH 0 0)),vv 40 (.ptr 0 0),vv 41 (.ptr 0 0),vv 42 (.ptr 0 1),(43,.val (i6 c) (.lH 0 1)),vt 44 e,vi 45 b] [] (hp a T) f) (.br (decide (b < 0))
(.run 0 [2,3] (yS35 (hp ⟨a.src,(w64 (a.pos + (w64 ((a.src.length : Int) - a.pos)))),a.kind,a.s,a.n,a.tat,a.depth,a.err,a.eat⟩ T) f))
(.run 0 [2,3] (yS35 (hp ⟨a.src,(w64 (a.pos + b)),a.kind,a.s,a.n,a.tat,a.depth,a.err,a.eat⟩ T) f))) := lM 9
theorem p145_c (hC : Ext C) {T : Hp} {f : Nat} {a b c : Int} {d : List UInt8} {e : PS} : LC C o 145 (mkS 95 [vv 0 (.ptr 0 0),vv 1 (.agg [(i6 a),(.str d),(i6 b),(i6 c)])] [] (hp e T) f) [(.ptr 0 0),(.agg [(i6 a),(.str d),(i6 b),(i6 c)])] (hp e T) f := lC hC
theorem p145_0 {b c d e} {T : Hp} {f : Nat} {a : PS} : LR C o 145 [] (mkS 95 [vv 0 (.ptr 0 0),vv 1 (.agg [(i6 b),(.str e),(i6 c),(i6 d)])] [] (hp a T) f) (.run 0 qB0 (mkS 95 [vv 0 (.ptr 0 0),(3,.lp 3 0),(4,.lp 4 0),(6,.val (.vs 1 true []) .own),vi 7 (w64 (a.pos + 1))] [(3,⟨[(i6 b),(.str e),(i6 c),(i6 d)],[]⟩),(4,⟨[(i6 0),(.str []),(i6 0),(i6 0)],[]⟩)] (hp a T) f)) := lR 9
theorem p145_1 {m c b d e f h i j g k} {T : Hp} {l : Nat} {a : PS} : LR C o 145 qB0 (mkS 95 [vv 0 (.ptr 0 0),(3,.lp 3 0),(4,.lp 4 0),(6,.val (.vs 1 m c) .own),vi 7 b] [(3,⟨[(i6 d),(.str g),(i6 e),(i6 f)],[]⟩),(4,⟨[(i6 h),(.str k),(i6 i),(i6 j)],[]⟩)] (hp a T) l) (.br (decide (b < (a.src.length : Int)))
(.br (decide ((0 : Int) ≤ b))
(.bind (a.src[(Int.toNat b)]?) fun p =>
(.br (decide (((p.toNat : Nat) : Int) = 34))
(.br (decide (32 < (c.length : Int)))
(.ret ⟨(.tuple [(.agg [(i6 d),(.str g),(i6 e),(i6 f)]),(i6 3)]),(hp ⟨a.src,(w64 (b + 1)),a.kind,a.s,a.n,a.tat,a.depth,a.err,a.eat⟩ T),l⟩)
(.bind (zbz c) fun q =>
(.ret ⟨(.tuple [(.agg [(i6 d),(.str q),(i6 e),(i6 f)]),(i6 0)]),(hp ⟨a.src,(w64 (b + 1)),a.kind,a.s,a.n,a.tat,a.depth,a.err,a.eat⟩ T),l⟩)))
(.br (decide (((p.toNat : Nat) : Int) = 92))
(.br (decide ((w64 (b + 1)) = (a.src.length : Int)))
(.ret ⟨(.tuple [(.agg [(i6 d),(.str g),(i6 e),(i6 f)]),(i6 11)]),(hp a T),l⟩)
(.br (decide ((0 : Int) ≤ (w64 (b + 1))))
(.bind (a.src[(Int.toNat (w64 (b + 1)))]?) fun r =>
(.br (!(decide (((r.toNat : Nat) : Int) = 34)))
(.br (decide ((0 : Int) ≤ (w64 (b + 1))))
(.bind (a.src[(Int.toNat (w64 (b + 1)))]?) fun t =>
(.br (!(decide (((t.toNat : Nat) : Int) = 92)))
(.ret ⟨(.tuple [(.agg [(i6 d),(.str g),(i6 e),(i6 f)]),(i6 11)]),(hp a T),l⟩)
(.br (decide ((0 : Int) ≤ (w64 (b + 1))))
(.bind (a.src[(Int.toNat (w64 (b + 1)))]?) fun u =>
(.br (Nat.ble ((c.length + 1) * 1) za5)
(.br (Nat.ble (c.length + 1) za5)
(.run 0 qB0 (mkS 95 [vv 0 (.ptr 0 0),(3,.lp 3 0),(4,.lp 4 0),(6,.val (.vs 1 false (c ++ [(.int .u8 ((u.toNat : Nat) : Int))])) .own),vi 7 (w64 ((w64 (b + 1)) + 1))] [(3,⟨[(i6 d),(.str g),(i6 e),(i6 f)],[]⟩),(4,⟨[(i6 h),(.str k),(i6 i),(i6 j)],[]⟩)] (hp a T) l)) .none) .none)) .none))) .none)
(.br (decide ((0 : Int) ≤ (w64 (b + 1))))
(.bind (a.src[(Int.toNat (w64 (b + 1)))]?) fun v =>
(.br (Nat.ble ((c.length + 1) * 1) za5)
(.br (Nat.ble (c.length + 1) za5)
(.run 0 qB0 (mkS 95 [vv 0 (.ptr 0 0),(3,.lp 3 0),(4,.lp 4 0),(6,.val (.vs 1 false (c ++ [(.int .u8 ((v.toNat : Nat) : Int))])) .own),vi 7 (w64 ((w64 (b + 1)) + 1))] [(3,⟨[(i6 d),(.str g),(i6 e),(i6 f)],[]⟩),(4,⟨[(i6 h),(.str k),(i6 i),(i6 j)],[]⟩)] (hp a T) l)) .none) .none)) .none))) .none))
(.br (decide (((p.toNat : Nat) : Int) < 32))
(.ret ⟨(.tuple [(.agg [(i6 d),(.str g),(i6 e),(i6 f)]),(i6 11)]),(hp a T),l⟩)
(.br (decide (126 < ((p.toNat : Nat) : Int)))
(.ret ⟨(.tuple [(.agg [(i6 d),(.str g),(i6 e),(i6 f)]),(i6 11)]),(hp a T),l⟩)
(.br (Nat.ble ((c.length + 1) * 1) za5)
(.br (Nat.ble (c.length + 1) za5)
(.run 4 qB0 (mkS 95 [vv 0 (.ptr 0 0),(3,.lp 3 0),(4,.lp 4 0),(6,.val (.vs 1 false (c ++ [(.int .u8 ((p.toNat : Nat) : Int))])) .own),vi 7 (w64 (b + 1))] [(3,⟨[(i6 d),(.str g),(i6 e),(i6 f)],[]⟩),(4,⟨[(i6 h),(.str k),(i6 i),(i6 j)],[]⟩)] (hp a T) l)) .none) .none)))))) .none)
(.ret ⟨(.tuple [(.agg [(i6 d),(.str g),(i6 e),(i6 f)]),(i6 11)]),(hp a T),l⟩)) := lR 30
theorem p79_c (hC : Ext C) {T : Hp} {b : Nat} {a : PS} : LC C o 79 (mkS 114 [vv 0 (.ptr 0 0)] [] (hp a T) b) [(.ptr 0 0)] (hp a T) b := lC hC
theorem p79_0 {T : Hp} {c : Nat} {a : PS} : LR C o 79 [] (mkS 114 [vv 0 (.ptr 0 0)] [] (hp a T) c) (.call 139 [(.ptr 0 0)] (hp a T) c fun b =>
(.mid 0 [0,5,0] 2 (mkS 114 [vv 0 (.ptr 0 0),(2,.lp 2 0),vv 11 (.ptr 0 0),vv 12 b.v] [cB0] b.H b.nx))) := lR 4
abbrev yS39 := fun (a : Int) b (c : Int) (d : PS) (e : Hp) (f : Nat) => mkS 114 [vv 0 (.ptr 0 0),(2,.lp 2 0),(4,.lp 4 0),vv 5 (.int .u8 a),vv 39 (.int .u8 a),b] [cB0,(4,⟨[(i6 0),(.str []),(i6 0),(i6 c)],[]⟩)] (hp d e) f
theorem p79_1 {T : Hp} {b : Nat} {a : PS} : LM C o 79 [0,5,0] 2 (mkS 114 [vv 0 (.ptr 0 0),(2,.lp 2 0),vv 11 (.ptr 0 0),vv 12 (.tuple [])] [cB0] (hp a T) b) (.br (decide (a.pos = (a.src.length : Int)))
(.ret ⟨(.tuple [(.agg [(i6 0),(.str []),(i6 0),(i6 a.pos)]),(i6 0)]),(hp a T),b⟩)
(.br (decide ((0 : Int) ≤ a.pos))
(.bind (a.src[(Int.toNat a.pos)]?) fun c =>
(cl0 140 [(.int .u8 ((c.toNat : Nat) : Int))] fun d => .br (AV.pure d.v)
(.mid 0 Q1u 2 (yS39 ((c.toNat : Nat) : Int) (vv 40 d.v) a.pos a T b)) .none)) .none)) := lM 13
abbrev yS40 := fun (a : Int) b (c : Int) d (e : Nat) => mkS 114 [vv 0 (.ptr 0 0),(2,.lp 2 0),(4,.lp 4 0),vv 5 (.int .u8 a),vb 38 true,vv 41 (.ptr 0 0),b] [cB0,(4,⟨[(i6 0),(.str []),(i6 0),(i6 c)],[]⟩)] d e
abbrev yS41 := fun (a : Int) b (c : Int) (d : PS) (e : Hp) (f : Nat) => mkS 114 [vv 0 (.ptr 0 0),(2,.lp 2 0),(4,.lp 4 0),vv 5 (.int .u8 a),vb 38 false,vv 47 (.int .u8 a),b] [cB0,(4,⟨[(i6 0),(.str []),(i6 0),(i6 c)],[]⟩)] (hp d e) f
theorem p79_2 {d a} {T : Hp} {e : Nat} {b : Int} {c : PS} : LM C o 79 Q1u 2 (yS39 a (vb 40 d) b c T e) (.br d
(.call 141 [(.ptr 0 0),(.func 142 [])] (hp c T) e fun f =>
(.mid 0 Q2g 2 (yS40 a (vv 42 f.v) b f.H f.nx)))
(cl0 143 [(.int .u8 a)] fun g => .br (AV.pure g.v)
(.mid 0 Q2h 2 (yS41 a (vv 48 g.v) b c T e)) .none)) := lM 3
theorem p79_3 {d b} {T : Hp} {e : Nat} {a : Int} {c : PS} : LM C o 79 Q2g 2 (yS40 d (vt 42 b) a (hp c T) e) (.ret ⟨(.tuple [(.agg [(i6 1),(.str b),(i6 0),(i6 a)]),(i6 0)]),(hp c T),e⟩) := lM 3
abbrev yS42 := fun a (b : Int) c (d : Nat) => mkS 114 [vv 0 (.ptr 0 0),(2,.lp 2 0),(4,.lp 4 0),vv 50 (.ptr 0 0),a] [cB0,(4,⟨[(i6 2),(.str []),(i6 0),(i6 b)],[]⟩)] c d
abbrev yS43 := fun (a : Int) b c (d : Nat) => mkS 114 [vv 0 (.ptr 0 0),(2,.lp 2 0),(4,.lp 4 0),vv 77 (.ptr 0 0),vv 78 (.agg [(i6 3),(.str []),(i6 0),(i6 a)]),vv 79 b] [cB0,(4,⟨[(i6 3),(.str []),(i6 0),(i6 a)],[]⟩)] c d
theorem p79_4 {c d} {T : Hp} {e : Nat} {a : Int} {b : PS} : LM C o 79 Q2h 2 (yS41 c (vb 48 d) a b T e) (.br d
(.call 141 [(.ptr 0 0),(.func 143 [])] (hp b T) e fun f =>
(.mid 6 qB5 2 (yS42 (vv 51 f.v) a f.H f.nx)))
(.br (decide (c = 34))
(.call 145 [(.ptr 0 0),(.agg [(i6 3),(.str []),(i6 0),(i6 a)])] (hp b T) e fun g =>
(.mid 3 qB6 3 (yS43 a g.v g.H g.nx)))
(.run 0 qB2 (mkS 114 [vv 0 (.ptr 0 0),(2,.lp 2 0),(4,.lp 4 0),vv 82 (.vs 1 true [(.str [123]),(.str [125]),(.str [40]),(.str [41]),(.str [59]),(.str [44]),(.str [61,61]),(.str [61]),(.str [33,61]),(.str [33]),(.str [60,61]),(.str [60]),(.str [62,61]),(.str [62]),(.str [43]),(.str [45]),(.str [42]),(.str [38,38]),(.str [124,124])]),vi 83 19,vi 84 0] [cB0,(4,⟨[(i6 0),(.str []),(i6 0),(i6 a)],[]⟩)] (hp b T) e)))) := lM 11
abbrev yS44 := fun a b (c : Int) (d : PS) (e : Hp) (f : Nat) => mkS 114 [(2,.lp 2 0),(4,.lp 4 0),vt 6 a,vt 53 a,vv 54 b] [cB0,(4,⟨[(i6 2),(.str []),(i6 0),(i6 c)],[]⟩)] (hp d e) f
theorem p79_5 {a} {T : Hp} {d : Nat} {b : Int} {c : PS} : LM C o 79 qB5 2 (yS42 (vt 51 a) b (hp c T) d) (cl0 144 [(.str a),(i6 10),(i6 64)] fun e => .br (AV.pure e.v)
(.mid 0 qB3 2 (yS44 a e.v b c T d)) .none) := lM 2
theorem p79_6 {a b c d e f} {T : Hp} {h : Nat} {g : PS} : LM C o 79 qB6 3 (yS43 a (.tuple [(.agg [(i6 b),(.str f),(i6 c),(i6 d)]),(i6 e)]) (hp g T) h) (.ret ⟨(.tuple [(.agg [(i6 b),(.str f),(i6 c),(i6 d)]),(i6 e)]),(hp g T),h⟩) := lM 1
theorem p79_7 {b c d a j k l e f g m h} {T : Hp} {n : Nat} {i : PS} : LR C o 79 qB2 (mkS 114 [vv 0 (.ptr 0 0),(2,.lp 2 0),(4,.lp 4 0),vv 82 (.vs 1 b c),vi 83 d,vi 84 a] [(2,⟨[(i6 j),(.str m),(i6 k),(i6 l)],[]⟩),(4,⟨[(i6 e),(.str h),(i6 f),(i6 g)],[]⟩)] (hp i T) n) (.br (decide (a < d))
(ix c a fun p =>
(.mid 0 qB7 1 (mkS 114 [vv 0 (.ptr 0 0),(2,.lp 2 0),(4,.lp 4 0),vv 82 (.vs 1 b c),vi 83 d,vi 84 a,vb 85 true,vv 86 (.cptr (AV.cells p))] [(2,⟨[(i6 j),(.str m),(i6 k),(i6 l)],[]⟩),(4,⟨[(i6 e),(.str h),(i6 f),(i6 g)],[]⟩)] (hp i T) n)))
(.ret ⟨(.tuple [(.agg [(i6 e),(.str h),(i6 f),(i6 g)]),(i6 11)]),(hp i T),n⟩)) := lR 9
theorem p79_8 {d b} {T : Hp} {e : Nat} {a : Int} {c : PS} : LM C o 79 qB3 2 (yS44 b (.tuple [(i6 d),.nilI]) a c T e) (.br (decide (1 < (b.length : Int)))
(.bind (b[0]?) fun f =>
(.br (decide (((f.toNat : Nat) : Int) = 48))
(.ret ⟨(.tuple [(.agg [(i6 2),(.str []),(i6 0),(i6 a)]),(i6 9)]),(hp c T),e⟩)
(.ret ⟨(.tuple [(.agg [(i6 2),(.str []),(i6 d),(i6 a)]),(i6 0)]),(hp c T),e⟩)))
(.ret ⟨(.tuple [(.agg [(i6 2),(.str []),(i6 d),(i6 a)]),(i6 0)]),(hp c T),e⟩)) := lM 10
theorem p79_9 {e b} {T : Hp} {g d : Nat} {a : Int} {f : AV} {c : PS} : LM C o 79 qB3 2 (yS44 b (.tuple [(i6 e),(.iface d f)]) a c T g) (.ret ⟨(.tuple [(.agg [(i6 2),(.str []),(i6 0),(i6 a)]),(i6 9)]),(hp c T),g⟩) := lM 7
theorem p79_10 {c d e f g h i j k l m n b} {T : Hp} {q : Nat} {a : PS} : LM C o 79 qB7 1 (mkS 114 [vv 0 (.ptr 0 0),(2,.lp 2 0),(4,.lp 4 0),vv 82 (.vs 1 c d),vi 83 e,vi 84 f,vb 85 true,vv 86 (.cptr [(.str b)])] [(2,⟨[(i6 g),(.str m),(i6 h),(i6 i)],[]⟩),(4,⟨[(i6 j),(.str n),(i6 k),(i6 l)],[]⟩)] (hp a T) q) (.br (decide ((0 : Int) ≤ a.pos))
(.br (decide (a.pos ≤ (a.src.length : Int)))
(cl0 146 [(.str (List.drop (Int.toNat a.pos) (List.take a.src.length a.src))),(.str b)] fun p => .br (AV.pure p.v)
(.br (AV.pure p.v)
(.mid 0 qB8 11 (mkS 114 [vv 0 (.ptr 0 0),(2,.lp 2 0),(4,.lp 4 0),vt 10 b,vv 82 (.vs 1 c d),vi 83 e,vi 84 f,vv 88 (.ptr 0 0),vv 89 (.ptr 0 0),vv 90 (.ptr 0 0),(91,.val (.str a.src) (.lH 0 0)),vv 92 (.ptr 0 0),vv 93 (.ptr 0 0),vv 94 (.ptr 0 1),(95,.val (i6 a.pos) (.lH 0 1)),vt 96 (List.drop (Int.toNat a.pos) (List.take a.src.length a.src)),vt 97 b,vv 98 p.v] [(2,⟨[(i6 g),(.str m),(i6 h),(i6 i)],[]⟩),(4,⟨[(i6 j),(.str n),(i6 k),(i6 l)],[]⟩)] (hp a T) q)) .none) .none) .none) .none) := lM 2
theorem p79_11 {c f g h i j k l m d e r p q b t u} {T : Hp} {v : Nat} {a : PS} : LM C o 79 qB8 11 (mkS 114 [vv 0 (.ptr 0 0),(2,.lp 2 0),(4,.lp 4 0),vt 10 b,vv 82 (.vs 1 c g),vi 83 h,vi 84 i,vv 88 (.ptr 0 0),vv 89 (.ptr 0 0),vv 90 (.ptr 0 0),(91,.val (.str t) (.lH 0 0)),vv 92 (.ptr 0 0),vv 93 (.ptr 0 0),vv 94 (.ptr 0 1),(95,.val (i6 r) (.lH 0 1)),vt 96 u,vt 97 b,vb 98 f] [(2,⟨[(i6 j),(.str p),(i6 k),(i6 l)],[]⟩),(4,⟨[(i6 m),(.str q),(i6 d),(i6 e)],[]⟩)] (hp a T) v) (.br f
(.ret ⟨(.tuple [(.agg [(i6 4),(.str b),(i6 d),(i6 e)]),(i6 0)]),(hp ⟨a.src,(w64 (a.pos + (b.length : Int))),a.kind,a.s,a.n,a.tat,a.depth,a.err,a.eat⟩ T),v⟩)
(.run 3 qB2 (mkS 114 [vv 0 (.ptr 0 0),(2,.lp 2 0),(4,.lp 4 0),vv 82 (.vs 1 c g),vi 83 h,vi 84 (w64 (i + 1))] [(2,⟨[(i6 j),(.str p),(i6 k),(i6 l)],[]⟩),(4,⟨[(i6 m),(.str q),(i6 d),(i6 e)],[]⟩)] (hp a T) v))) := lM 8
end
section
open Go Go.Vai
attribute [local irreducible] goTo zao mkS
def PS.at (p : PS) (k : Nat) : PS := ⟨p.src,(k : Int),p.kind,p.s,p.n,p.tat,p.depth,p.err,p.eat⟩
theorem zea {α : Type} (p : α→Bool) : ∀ l : List α,l.take (l.takeWhile p).length = l.takeWhile p
 | []=>rfl
 | x :: l=>by
  rw [List.takeWhile_cons];split
  ·rw [lnC,List.take_succ_cons,zea p l]
  ·rfl
variable {C : Nat→Oracle} (hC : Ext C) {T : Hp} {nx : Nat}
include hC
theorem l140 (c : UInt8) : calL C 140 [.int .u8 (c.toNat : Int)] Hp.none 0 = some ⟨.bool (zqh c),Hp.none,0⟩:=by
 refine p140_c hC (p140_0 ?_);simp only [Tr.val,zqh];by_cases h1 : (97 : Int) ≤ c.toNat <;> by_cases h2 : (c.toNat : Int) ≤ 122 <;> by_cases h3 : (65 : Int) ≤ c.toNat <;> by_cases h4 : (c.toNat : Int) ≤ 90 <;> simp [h1,h2,h3,h4,za0,zaw]
theorem l143 (c : UInt8) : calL C 143 [.int .u8 (c.toNat : Int)] Hp.none 0 = some ⟨.bool (zed c),Hp.none,0⟩:=by
 refine p143_c hC (p143_0 ?_);simp only [Tr.val,zed];by_cases h1 : (48 : Int) ≤ c.toNat <;> by_cases h2 : (c.toNat : Int) ≤ 57 <;> simp [h1,h2,za0,zaw]
theorem l142 (c : UInt8) : calL C 142 [.int .u8 (c.toNat : Int)] Hp.none 0 = some ⟨.bool (zqh c || zed c),Hp.none,0⟩:=by
 refine p142_c hC (p142_0 ?_);simp only [Tr.val,za3,AV.pure,za0,l140 hC,obS];refine p142_1 ?_;cases h : zqh c
 ·simp only [Tr.val,za3,AV.pure,za0,zaw,l143 hC,obS];refine p142_2 ?_;simp only [Tr.val,Bool.false_or]
 ·simp only [Tr.val,za0,Bool.true_or]
def isLD (c : UInt8) : Bool := zqh c || zed c
theorem run142 (p : PS) (hl : p.src.length ≤ 4000) (o : Nat) : ∀ (r : List UInt8) (k : Nat),p.src.drop k = r→k ≤ p.src.length→o ≤ k →
  RL C 141 Q0e (mkS 50 [(0,.val (.ptr 0 0) .no),(1,.val (.func 142 []) .no),(5,.val (.int .i64 (o : Int)) .no)] [] (hp (p.at k) T) nx) =
   some ⟨.str ((p.src.take (k + (r.takeWhile isLD).length)).drop o),hp (p.at (k + (r.takeWhile isLD).length)) T,nx⟩:=by
 intro r
 induction r with
 | nil =>
  intro k hk hkl ho;have hkn := zal _ _ hkl hk;refine zlm ?_;simp only [Tr.val,PS.at,itN,List.takeWhile_nil,lnN,Nat.add_zero];exact bF (by omega) (bT (by omega) (bT (by omega) (bT (by omega) (bT (by omega) rfl))))
 | cons c r ih =>
  intro k hk hkl ho;obtain ⟨h1,h2,h3⟩ := zat _ _ hk;refine zlm ?_;simp only [Tr.val,PS.at,itN];refine bT (by omega) (bT (by omega) (bnd h1 ?_));simp only [obS,za3,AV.pure,za0,l142 hC];refine zsr ?_;cases hc : isLD c
  ·simp only [isLD] at hc;simp only [Tr.val,isLD,hc,zaw,List.takeWhile_cons,Bool.false_eq_true,if_false,lnN,Nat.add_zero,itN];exact bT (by omega) (bT (by omega) (bT (by omega) (bT (by omega) rfl)))
  ·have hc' := hc;simp only [isLD] at hc;simp only [Tr.val,hc,za0];rw [zb1 (by omega) (by omega)];have := ih (k + 1) h2 (by omega) (by omega);simp only [PS.at] at this;rw [show ((k : Int) + 1) = ((k + 1 : Nat) : Int) by omega,this,List.takeWhile_cons,if_pos hc',lnC,show k + 1 + (r.takeWhile isLD).length = k + ((r.takeWhile isLD).length + 1) by omega]
theorem l141f142 (p : PS) (hl : p.src.length ≤ 4000) (k : Nat) (hk : k ≤ p.src.length) :
  calL C 141 [.ptr 0 0,.func 142 []] (hp (p.at k) T) nx = some ⟨.str ((p.src.drop k).takeWhile isLD),hp (p.at (k + ((p.src.drop k).takeWhile isLD).length)) T,nx⟩:=by
 refine ztm hC (zss ?_);have := run142 (T := T) (nx := nx) hC p hl k _ k rfl hk (Nat.le_refl _);simp only [PS.at] at this;simp only [Tr.val,PS.at];rw [this]
 congr 3
 rw [List.drop_take,show k + ((p.src.drop k).takeWhile isLD).length - k = ((p.src.drop k).takeWhile isLD).length by omega];exact zea _ _
theorem run143 (p : PS) (hl : p.src.length ≤ 4000) (o : Nat) : ∀ (r : List UInt8) (k : Nat),p.src.drop k = r→k ≤ p.src.length→o ≤ k →
  RL C 141 Q0e (mkS 50 [(0,.val (.ptr 0 0) .no),(1,.val (.func 143 []) .no),(5,.val (.int .i64 (o : Int)) .no)] [] (hp (p.at k) T) nx) =
   some ⟨.str ((p.src.take (k + (r.takeWhile zed).length)).drop o),hp (p.at (k + (r.takeWhile zed).length)) T,nx⟩:=by
 intro r
 induction r with
 | nil =>
  intro k hk hkl ho;have hkn := zal _ _ hkl hk;refine zma ?_;simp only [Tr.val,PS.at,itN,List.takeWhile_nil,lnN,Nat.add_zero];exact bF (by omega) (bT (by omega) (bT (by omega) (bT (by omega) (bT (by omega) rfl))))
 | cons c r ih =>
  intro k hk hkl ho;obtain ⟨h1,h2,h3⟩ := zat _ _ hk;refine zma ?_;simp only [Tr.val,PS.at,itN];refine bT (by omega) (bT (by omega) (bnd h1 ?_));simp only [obS,za3,AV.pure,za0,l143 hC];refine ztd ?_;cases hc : zed c
  ·have hc := hc;simp only [Tr.val,hc,zaw,List.takeWhile_cons,Bool.false_eq_true,if_false,lnN,Nat.add_zero,itN];exact bT (by omega) (bT (by omega) (bT (by omega) (bT (by omega) rfl)))
  ·have hc' := hc;simp only [Tr.val,hc,za0];rw [zb1 (by omega) (by omega)];have := ih (k + 1) h2 (by omega) (by omega);simp only [PS.at] at this;rw [show ((k : Int) + 1) = ((k + 1 : Nat) : Int) by omega,this,List.takeWhile_cons,if_pos hc',lnC,show k + 1 + (r.takeWhile zed).length = k + ((r.takeWhile zed).length + 1) by omega]
theorem l141f143 (p : PS) (hl : p.src.length ≤ 4000) (k : Nat) (hk : k ≤ p.src.length) :
  calL C 141 [.ptr 0 0,.func 143 []] (hp (p.at k) T) nx = some ⟨.str ((p.src.drop k).takeWhile zed),hp (p.at (k + ((p.src.drop k).takeWhile zed).length)) T,nx⟩:=by
 refine zth hC (ztn ?_);have := run143 (T := T) (nx := nx) hC p hl k _ k rfl hk (Nat.le_refl _);simp only [PS.at] at this;simp only [Tr.val,PS.at];rw [this]
 congr 3
 rw [List.drop_take,show k + ((p.src.drop k).takeWhile zed).length - k = ((p.src.drop k).takeWhile zed).length by omega];exact zea _ _
end
section
open Go Go.Vai
attribute [local irreducible] goTo zao mkS
theorem ix1 : ∀ r : List UInt8,Lib.indexByte r 10 = -1→zbk true r = r.length
 | [],_=>rfl
 | b :: l,h=>by
  unfold Lib.indexByte at h;split at h
  ·cases h
  ·rename_i hb;split at h
   ·rename_i h1;have hb : b.toNat ≠ 10 := fun e=>hb (by rw [beq_iff_eq]; exact UInt8.toNat_inj.1 e);unfold zbk;rw [if_neg hb,ix1 l (by simpa using h1),lnC]
   ·have := Lib.indexByte_ge l 10;omega
theorem ix2 : ∀ (r : List UInt8) (n : Nat),Lib.indexByte r 10 = (n : Int)→n < r.length∧zbk true r = n + zbk false (r.drop n)
 | [],n,h=>by unfold Lib.indexByte at h; omega
 | b :: l,n,h=>by
  unfold Lib.indexByte at h;split at h
  ·rename_i hb;have hb : b.toNat = 10 := by rw [beq_iff_eq] at hb; rw [hb]; rfl
   obtain rfl : n = 0 := by omega
   refine ⟨by simp,?_⟩;have hw : isWs b = true := by unfold isWs; rw [hb]; rfl
   rw [List.drop_zero,Nat.zero_add];unfold zbk;rw [if_pos hb,if_pos hw]
  ·rename_i hb;have hb : b.toNat ≠ 10 := fun e=>hb (by rw [beq_iff_eq]; exact UInt8.toNat_inj.1 e);split at h
   ·omega
   ·have hg := Lib.indexByte_ge l 10;rename_i h1;have h1 : Lib.indexByte l 10 ≠ -1 := by simpa using h1
    obtain ⟨m,hm⟩ : ∃ m : Nat,Lib.indexByte l 10 = m := ⟨(Lib.indexByte l 10).toNat,by omega⟩;obtain rfl : n = m + 1 := by omega
    obtain ⟨i1,i2⟩ := ix2 l m hm;refine ⟨by simpa using i1,?_⟩;rw [List.drop_succ_cons,show zbk true (b :: l) = zbk true l + 1 by rw [zbk,if_neg hb],i2];omega
theorem ix0 (b : UInt8) (l : List UInt8) (h : Lib.indexByte (b :: l) 10 = 0) : b.toNat = 10:=by
 unfold Lib.indexByte at h;split at h
 ·rename_i hb;rw [beq_iff_eq] at hb;rw [hb];rfl
 ·split at h
  ·cases h
  ·have := Lib.indexByte_ge l 10;have h1 : Lib.indexByte l 10 = -1 := by omega
   rename_i h2;exact absurd h1 (by simpa using h2)
variable {C : Nat→Oracle} (hC : Ext C) {T : Hp} {nx : Nat}
include hC
theorem zwi (p : PS) (hl : p.src.length ≤ 4000) : ∀ (m k : Nat),p.src.length - k = m→k ≤ p.src.length →
  RL C 139 [2,3] (mkS 66 [(0,.val (.ptr 0 0) .no)] [] (hp (p.at k) T) nx) = some ⟨.tuple [],hp (p.at (k + zbk false (p.src.drop k))) T,nx⟩:=by
 intro m
 induction m using Nat.strongRecOn with
 | _ m ih =>
 intro k hm hk;cases hd : p.src.drop k with
 | nil =>
  have := zal _ _ hk hd;refine p139_1 ?_;simp only [Tr.val,PS.at,itN,zbk,Nat.add_zero];exact bF (by omega) rfl
 | cons c r =>
  obtain ⟨h1,h2,h3⟩ := zat _ _ hd;have ws : isWs c = true→RL C 139 [2,3] (mkS 66 [(0,.val (.ptr 0 0) .no)] [] (hp ⟨p.src,w64 ((k : Int) + 1),p.kind,p.s,p.n,p.tat,p.depth,p.err,p.eat⟩ T) nx) = some ⟨.tuple [],hp (p.at (k + zbk false (c :: r))) T,nx⟩:=by
   intro hw;rw [zb1 (by omega) (by omega)];have := ih _ (by omega) (k + 1) rfl (by omega);simp only [PS.at] at this;rw [show ((k : Int) + 1) = ((k + 1 : Nat) : Int) by omega,this,h2];rw [show zbk false (c :: r) = zbk false r + 1 by rw [zbk,if_pos hw],show k + 1 + zbk false r = k + (zbk false r + 1) by omega];rfl
  refine p139_1 ?_;simp only [Tr.val,PS.at,itN] at ws ⊢;refine bT (by omega) (bT (by omega) (bnd h1 ?_));by_cases e9 : c.toNat = 9
  ·exact bT (by omega) (ws (by unfold isWs; rw [e9]; rfl))
  refine bF (by omega) ?_;by_cases e10 : c.toNat = 10
  ·exact bT (by omega) (ws (by unfold isWs; rw [e10]; rfl))
  refine bF (by omega) ?_;by_cases e13 : c.toNat = 13
  ·exact bT (by omega) (ws (by unfold isWs; rw [e13]; rfl))
  refine bF (by omega) ?_;by_cases e32 : c.toNat = 32
  ·exact bT (by omega) (ws (by unfold isWs; rw [e32]; rfl))
  refine bF (by omega) ?_;have hnw : isWs c = false := by unfold isWs; simp [e9,e10,e13,e32]
  by_cases e35 : c.toNat = 35
  ·refine bT (by omega) (bT (by omega) (bT (by omega) ?_));rw [List.take_length,hd];simp only [za3,AV.pure,za0];have hll : (c :: r).length = p.src.length - k := by rw [← hd,List.length_drop]
   rw [hC.idx _ _ (by omega)];simp only [obS,AV.pure,za0];rw [show UInt8.ofNat (Int.toNat 10) = 10 from rfl];refine p139_2 ?_;simp only [Tr.val];have hs : zbk false (c :: r) = zbk true (c :: r):=by
    simp only [zbk,hnw,Bool.false_eq_true,if_false];rw [if_pos e35,if_neg e10]
   have hg := Lib.indexByte_ge (c :: r) 10;by_cases hx : Lib.indexByte (c :: r) 10 < 0
   ·refine bT hx ?_;have hx1 := ix1 _ (show Lib.indexByte (c :: r) 10 = -1 by omega);rw [zb1 (x := (p.src.length : Int) - k) (by omega) (by omega),zb1 (by omega) (by omega)];have := ih _ (show p.src.length - p.src.length < m by omega) p.src.length rfl (Nat.le_refl _);simp only [PS.at,List.drop_length,zbk,Nat.add_zero] at this;rw [show ((k : Int) + ((p.src.length : Int) - k)) = ((p.src.length : Nat) : Int) by omega,this,hs,hx1,hll,show k + (p.src.length - k) = p.src.length by omega]
   ·refine bF hx ?_;obtain ⟨n,hn⟩ : ∃ n : Nat,Lib.indexByte (c :: r) 10 = n := ⟨(Lib.indexByte (c :: r) 10).toNat,by omega⟩;obtain ⟨i1,i2⟩ := ix2 _ n hn;have hn0 : n ≠ 0 := fun e=>e10 (ix0 _ _ (by rw [hn,e]; rfl));rw [hn,zb1 (by omega) (by omega)];have := ih _ (show p.src.length - (k + n) < m by omega) (k + n) rfl (by omega);simp only [PS.at] at this;rw [show ((k : Int) + (n : Int)) = ((k + n : Nat) : Int) by omega,this,← List.drop_drop,hd,hs,i2,Nat.add_assoc]
  ·refine bF (by omega) ?_;rw [show zbk false (c :: r) = 0 by simp only [zbk,hnw,Bool.false_eq_true,if_false]; rw [if_neg e35]];rfl
theorem l139 (p : PS) (hl : p.src.length ≤ 4000) (k : Nat) (hk : k ≤ p.src.length) :
  calL C 139 [.ptr 0 0] (hp (p.at k) T) nx = some ⟨.tuple [],hp (p.at (k + zbk false (p.src.drop k))) T,nx⟩ :=
 p139_c hC (p139_0 (zwi hC p hl _ k rfl hk))
end
end Go.Proofs.YtfdklpkfpmkgeaaGreatDoor
