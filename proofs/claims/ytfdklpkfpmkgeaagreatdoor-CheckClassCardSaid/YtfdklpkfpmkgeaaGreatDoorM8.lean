/- The calls that are taken by the kit's contracts: IndexByte, ParseInt. -/
import Derived.Lib.Walk
import Derived.WalkKit
import Derived.Lib.AtoiErrMem
import Derived.Test.YtfdklpkfpmkgeaaGreatDoorM0
import Derived.Test.YtfdklpkfpmkgeaaGreatDoorM7
set_option linter.unusedSimpArgs false
set_option linter.unusedVariables false
set_option linter.unusedSectionVars false
set_option linter.unnecessarySimpa false
namespace Go.Proofs.YtfdklpkfpmkgeaaGreatDoor
open Go Go.Vai Go.RowKit
theorem ret_pure {g : G} {w w' : World} {out : Out} {v : Value} {one : Bool} (hI : Inv g w) (hext : ∀ B,g.role B = .ext) (hB : Below w.heap.size w w') (hr : Rep g w' v out.v) (hH : out.H = Hp.none) : Ret [] one g w (fun B=>g.role B ≠ .ext) out v g w':=by
 have no : ∀ {B : Nat} {x : Role},x ≠ .ext→g.role B = x→False := fun hx h=>hx (by rw [← h,hext])
 refine ⟨⟨fun B hb=>hI.new B (Nat.le_trans hB.size hb),hI.ph,hI.pl,hI.injh,hI.injl⟩,⟨fun id b hb=>?_,fun B id hb=>(no (by simp) hb).elim⟩,hr,⟨⟨fun _ _ h=>h,fun _=>Nat.le_refl _,fun B o ho=>?_⟩,hB.os,hB.tape,hB.output,hB.size,fun B hb _=>⟨hB.block B hb,rfl⟩,fun B hb=>absurd (hext B) hb⟩,fun B hb=>?_,fun _ h=>(by cases h),fun _ i h=>(by cases h)⟩
 ·rw [hH] at hb; cases hb
 ·have hb : B < w.heap.size:=by
   rcases Nat.lt_or_ge B w.heap.size with h | h
   ·exact h
   ·rw [(hI.new B h).2] at ho; exact absurd ho (Nat.not_lt_zero _)
  unfold World.cell?
  simp only
  rw [hB.block B hb]
 ·rcases hb with ⟨d,h⟩ | ⟨t,h⟩ | ⟨t,i,h⟩ | ⟨d,o,h⟩
  ·exact no (by simp) h
  ·exact no (by simp) h
  ·exact no (by simp) h
  ·exact no (by simp) h
theorem idx_calls (s : ByteArray) (c : Int) (w : World) : Calls Tryz.prog 181 #[.string s,.int .u8 c] w fun e w'=>e = .returned (.int .i64 (Lib.indexByte s.data.toList c.toNat.toUInt8))∧w' = w:=by
 go_enter Tryz.func181,Tryz.ntmps181
 go_wp2_with (go_at_call 206; refine (Any.stringslite_IndexByte Tryz.laysIB _ _ _).mono ?_; rintro e w' ⟨rfl,rfl⟩)
 go_ret
 exact ⟨rfl,rfl⟩
def xCal : Oracle := fun g args H nx=>match Nat.beq g 181 with
 | true=>match args with
  | [.str s,.int .u8 c]=>match H,nx with
   | [],0=>some ⟨.int .i64 (Lib.indexByte s (UInt8.ofNat c.toNat)),Hp.none,0⟩
   | _,_=>none
  | _=>none
 | false=>match Nat.beq g 144 with
  | true=>match args with
   | [.str s,.int .i64 b,.int .i64 z]=>match H,nx with
    | [],0=>br (decide (b = 10)) (br (decide (z = 64)) (br (Nat.ble s.length 1099511627776) (match Lib.parseIntB 64 s with
     | .ok u=>some ⟨.tuple [.int .i64 u,.nilI],Hp.none,0⟩
     | .range=>some ⟨.tuple [.int .i64 (Lib.intSat 64 s),.iface 286 .undef],Hp.none,0⟩
     | _=>some ⟨.tuple [.int .i64 0,.iface 286 .undef],Hp.none,0⟩) none) none) none
    | _,_=>none
   | _=>none
  | false=>none
theorem err_cell {g : G} {w : World} (h : GlobOk ann g w) {i : Nat} {t : Nat} {v : AV} (he : globOf ann i = some [.iface t v]) : ∃ ev,w.cell? ⟨i,0,none⟩ = some ev∧(ev = .nilIface ∨ ∃ te pe,ev = .iface te pe):=by
 obtain ⟨_,h2⟩ := h i _ he
 cases h2 with
 | cptr B off cs vals hl hc hr =>
  cases vals with
  | nil=>simp at hl
  | cons u vals =>
   have h3 := (hc 0 u rfl).1
   obtain ⟨x,h4,_⟩ := rep_iface (hr 0 u _ rfl rfl)
   exact ⟨u,h3,.inr ⟨_,_,h4⟩⟩
theorem rep_tup2 {g : G} {w : World} {a b : Value} {x y : AV} (h1 : Rep g w a x) (h2 : Rep g w b y) : Rep g w (.tuple #[a,b]) (.tuple [x,y]):=by
 refine Rep.tuple [a,b] [x,y] rfl fun j u c hu hc=>?_
 match j with
 | 0=>injection hu with hu; injection hc with hc; subst hu hc; exact h1
 | 1=>injection hu with hu; injection hc with hc; subst hu hc; exact h2
 | j + 2=>cases hu
theorem rep_args2 {g : G} {w : World} {cargs : List Value} {s : List UInt8} {k : IntKind} {c : Int} (h : RepL g w cargs [.str s,.int k c]) : ∃ S : ByteArray,S.data.toList = s∧cargs = [.string S,.int k c]:=by
 obtain ⟨hl,hr⟩ := h
 match cargs,hl with
 | [a,b],_ =>
  obtain ⟨S,rfl,hS⟩ := rep_str (hr 0 a _ rfl rfl)
  have := hr 1 b _ rfl rfl
  cases this
  exact ⟨S,hS,rfl⟩
theorem rep_args3 {g : G} {w : World} {cargs : List Value} {s : List UInt8} {k k' : IntKind} {c d : Int} (h : RepL g w cargs [.str s,.int k c,.int k' d]) : ∃ S : ByteArray,S.data.toList = s∧cargs = [.string S,.int k c,.int k' d]:=by
 obtain ⟨hl,hr⟩ := h
 match cargs,hl with
 | [a,b,e],_ =>
  obtain ⟨S,rfl,hS⟩ := rep_str (hr 0 a _ rfl rfl)
  have h1 := hr 1 b _ rfl rfl
  have h2 := hr 2 e _ rfl rfl
  cases h1
  cases h2
  exact ⟨S,hS,rfl⟩
theorem rf181 : (getA ann 181).rf = []∧(getA ann 181).imp = false := by constructor <;> kernel_rfl
theorem rf144 : (getA ann 144).rf = []∧(getA ann 144).imp = false := by constructor <;> kernel_rfl
theorem xCal_ok : CalOk Tryz.prog ann xCal:=by
 intro f args H nx out hc
 unfold xCal at hc
 split at hc
 ·rename_i hf
  obtain rfl := Nat.eq_of_beq_eq_true hf
  split at hc
  ·rename_i s c
   split at hc
   ·injection hc with hc
    subst hc
    refine ⟨⟨_,_,Tryz.func181,rfl⟩,fun g w cargs hI hH hS hi hg hr=>?_⟩
    obtain ⟨S,hS,rfl⟩ := rep_args2 hr
    rw [rf181.1]
    refine (idx_calls S c w).mono ?_
    rintro e w' ⟨rfl,rfl⟩
    refine ⟨_,g,rfl,ret_pure hI (hi rf181.2) (Below.refl _ _) ?_ rfl⟩
    rw [hS]
    exact .int _ _
   ·cases hc
  ·cases hc
 ·split at hc
  ·rename_i hf
   obtain rfl := Nat.eq_of_beq_eq_true hf
   split at hc
   ·rename_i s b z
    split at hc
    ·obtain ⟨hb,hc1⟩ := br_left hc
     obtain ⟨hz,hc2⟩ := br_left hc1
     obtain ⟨hs,hc3⟩ := br_left hc2
     clear hc hc1 hc2
     obtain rfl := of_decide_eq_true hb
     obtain rfl := of_decide_eq_true hz
     have hs := Nat.ble_eq.mp hs
     refine ⟨⟨_,_,Tryz.func144,rfl⟩,fun g w cargs hI hH hS hi hg hr=>?_⟩
     obtain ⟨S,hS,rfl⟩ := rep_args3 hr
     subst hS
     have hsz : S.size ≤ 1099511627776 := hs
     rw [rf144.1]
     obtain ⟨e1,c1,c2⟩ := err_cell (i := 6) (t := 319) (v := (.cptr [(.str [105,110,118,97,108,105,100,32,115,121,110,116,97,120])])) hg (by kernel_rfl)
     obtain ⟨e2,c3,c4⟩ := err_cell (i := 7) (t := 319) (v := (.cptr [(.str [118,97,108,117,101,32,111,117,116,32,111,102,32,114,97,110,103,101])])) hg (by kernel_rfl)
     cases hp : Lib.parseIntB 64 S.data.toList with
     | ok u =>
      rw [hp] at hc3
      injection hc3 with hc3
      subst hc3
      refine (Any.strconv_ParseInt_10_at64_ok Tryz.laysPI S (by omega) u hp w).mono ?_
      rintro e w' ⟨rfl,hw⟩
      refine ⟨_,g,rfl,ret_pure hI (hi rf144.2) ?_ (rep_tup2 (.int _ _) .nilI) rfl⟩
      rcases hw with rfl | ⟨t,rfl⟩
      ·exact Below.refl _ _
      ·exact Lib.bytesWorld_below _ _ _
     | range =>
      rw [hp] at hc3
      injection hc3 with hc3
      subst hc3
      refine (Any.strconv_ParseInt_10_at64_range Tryz.laysPI S (by omega) hp e2 w c3 c4).mono ?_
      rintro e w' ⟨N,rfl,_,_,hw⟩
      exact ⟨_,g,rfl,ret_pure hI (hi rf144.2) hw (rep_tup2 (.int _ _) (.iface _ _ _ (.undef _))) rfl⟩
     | _ =>
      rw [hp] at hc3
      injection hc3 with hc3
      subst hc3
      refine (Any.strconv_ParseInt_10_at64_syntax Tryz.laysPI S (by omega) hp e1 w c1 c2).mono ?_
      rintro e w' ⟨N,rfl,_,_,hw⟩
      exact ⟨_,g,rfl,ret_pure hI (hi rf144.2) hw (rep_tup2 (.int _ _) (.iface _ _ _ (.undef _))) rfl⟩
    ·cases hc
   ·cases hc
  ·cases hc
end Go.Proofs.YtfdklpkfpmkgeaaGreatDoor
