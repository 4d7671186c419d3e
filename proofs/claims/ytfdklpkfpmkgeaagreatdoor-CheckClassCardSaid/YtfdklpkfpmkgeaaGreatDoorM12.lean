/- The oracles of the walks; the sanity check of the check chapter. -/
import Derived.Test.YtfdklpkfpmkgeaaGreatDoorM8
import Derived.Test.YtfdklpkfpmkgeaaGreatDoorM11
set_option linter.unusedSimpArgs false
set_option linter.unusedVariables false
set_option linter.unusedSectionVars false
set_option linter.unnecessarySimpa false
namespace Go.Proofs.YtfdklpkfpmkgeaaGreatDoor
open Go Go.Vai
theorem xCal_no (g : Nat) (args : List AV) (H : Hp) (nx : Nat) (h : ext g = false) : xCal g args H nx = none:=by
 unfold xCal
 split
 ·rename_i hf
  obtain rfl := Nat.eq_of_beq_eq_true hf
  cases h
 ·split
  ·rename_i hf
   obtain rfl := Nat.eq_of_beq_eq_true hf
   cases h
  ·rfl
theorem mkExt (b : Oracle) (h1 : ∀ g args H nx,xCal g args H nx ≠ none→b g args H nx = xCal g args H nx) (h2 : ∀ g args H nx,ext g = false→b g args H nx = none) : Ext (calW Tryz.prog ann b):=by
 refine ⟨⟨b,rfl,h2⟩,fun s c hs=>?_,fun s hs=>?_⟩
 ·refine calB b ((h1 _ _ _ _ ?_).trans rfl)
  exact fun h=>by cases h
 ·have e : xCal 144 [.str s,.int .i64 10,.int .i64 64] Hp.none 0 = match Lib.parseIntB 64 s with
     | .ok u=>some ⟨.tuple [.int .i64 u,.nilI],Hp.none,0⟩
     | .range=>some ⟨.tuple [.int .i64 (Lib.intSat 64 s),.iface 286 .undef],Hp.none,0⟩
     | _=>some ⟨.tuple [.int .i64 0,.iface 286 .undef],Hp.none,0⟩:=by
   show br (decide ((10 : Int) = 10)) (br (decide ((64 : Int) = 64)) (br (Nat.ble s.length 1099511627776) _ none) none) none = _
   rw [ble_t hs]
   rfl
  cases hp : Lib.parseIntB 64 s with
  | ok u =>
   rw [hp] at e
   exact ⟨u,.nilI,calB b ((h1 _ _ _ _ (by rw [e]; simp)).trans e),rfl,rfl,rfl⟩
  | range =>
   rw [hp] at e
   exact ⟨Lib.intSat 64 s,.iface 286 .undef,calB b ((h1 _ _ _ _ (by rw [e]; simp)).trans e),rfl,286,.undef,rfl⟩
  | _ =>
   rw [hp] at e
   exact ⟨0,.iface 286 .undef,calB b ((h1 _ _ _ _ (by rw [e]; simp)).trans e),rfl,286,.undef,rfl⟩
theorem xExt : Ext (calW Tryz.prog ann xCal) := mkExt xCal (fun _ _ _ _ _=>rfl) xCal_no
def awSrc : List UInt8 := [116,121,112,101,32,97,32,123,32,99,111,117,110,116,101,114,32,99,59,32,111,112,32,102,40,110,32,105,110,116,41,32,123,32,119,114,105,116,101,32,99,32,61,32,110,59,32,125,32,111,112,32,103,40,41,32,123,32,125,32,125]
def awTyp : Typ := ⟨[97],false,[⟨[99],2,0,17⟩],false,[⟨[102],false,[⟨[110],1,25⟩],false,[.mk 1 [99] [.mk 4 0 [110] true [] 44] true [] true [] 34],23⟩,⟨[103],true,[],true,[],52⟩],true,[],true,[],5⟩
theorem aw_parse : paL 60 true [] (ps0 awSrc).adv = some ((false,[awTyp]),⟨awSrc,61,0,[],0,61,0,0,0⟩) := by kernel_rfl
def awVal : AV := .tuple [.agg [.vs 6 false [awTyp.av]],.int .i64 0,.int .i64 0]
theorem aw_20 : ∃ d H nx,calW Tryz.prog ann xCal d 20 [.str awSrc] Hp.none 0 = some ⟨awVal,H,nx⟩:=by
 obtain ⟨d,h⟩ := calL_of (l20 xExt (src := awSrc) (by decide) aw_parse)
 exact ⟨d,_,_,h⟩
noncomputable def pCal : Oracle := fun g args H nx=>match Nat.beq g 20 with
 | true=>match args with
  | [.str s]=>match eqS s awSrc with
   | true=>match H,nx with
    | [],0=>some ⟨awVal,aw_20.choose_spec.choose,aw_20.choose_spec.choose_spec.choose⟩
    | _,_=>none
   | false=>none
  | _=>none
 | false=>none
theorem pCal_ok : CalOk Tryz.prog ann pCal:=by
 intro f args H nx out hc
 unfold pCal at hc
 split at hc
 ·rename_i hf
  obtain rfl := Nat.eq_of_beq_eq_true hf
  split at hc
  ·rename_i s
   split at hc
   ·rename_i hs
    obtain rfl := (eqS_iff _ _).1 hs
    split at hc
    ·have h := aw_20.choose_spec.choose_spec.choose_spec
     rw [← h] at hc
     exact calW_ok mixed noNum xCal_ok _ _ _ _ _ _ hc
    ·cases hc
   ·cases hc
  ·cases hc
 ·cases hc
end Go.Proofs.YtfdklpkfpmkgeaaGreatDoor
