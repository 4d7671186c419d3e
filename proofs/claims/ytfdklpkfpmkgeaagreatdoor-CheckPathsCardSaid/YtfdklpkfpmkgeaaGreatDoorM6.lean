/- The calls that are taken by the kit's contracts: IndexByte, ParseInt. -/
import Derived.Lib.Walk
import Derived.WalkKit
import Derived.Lib.AtoiErrMem
import Derived.Test.YtfdklpkfpmkgeaaGreatDoorM0
import Derived.Test.YtfdklpkfpmkgeaaGreatDoorM5
set_option linter.unusedSimpArgs false
set_option linter.unusedVariables false
set_option linter.unusedSectionVars false
set_option linter.unnecessarySimpa false
section
namespace Go.Proofs.YtfdklpkfpmkgeaaGreatDoor
open Go Go.Vai Go.RowKit
theorem zi9 {g : G} {w w' : World} {out : Out} {v : Value} {one : Bool} (hI : Inv g w) (hext : ∀ B,g.role B = .ext) (hB : Below w.heap.size w w') (hr : Rep g w' v out.v) (hH : out.H = Hp.none) : Ret [] one g w (fun B=>g.role B ≠ .ext) out v g w':=by
 have no : ∀ {B : Nat} {x : Role},x ≠ .ext→g.role B = x→False := fun hx h=>hx (by rw [← h,hext])
 refine ⟨⟨fun B hb=>hI.new B (Nat.le_trans hB.size hb),hI.ph,hI.pl,hI.injh,hI.injl⟩,⟨fun id b hb=>?_,fun B id hb=>(no (by simp) hb).elim⟩,hr,⟨⟨fun _ _ h=>h,fun _=>Nat.le_refl _,fun B o ho=>?_⟩,hB.os,hB.tape,hB.output,hB.size,fun B hb _=>⟨hB.block B hb,rfl⟩,fun B hb=>absurd (hext B) hb⟩,fun B hb=>?_,fun _ h=>(by cases h),fun _ i h=>(by cases h)⟩
 ·rw [hH] at hb; cases hb
 ·have hb : B < w.heap.size:=by
   rcases Nat.lt_or_ge B w.heap.size with h | h
   ·exact h
   ·rw [(hI.new B h).2] at ho; exact absurd ho (Nat.not_lt_zero _)
  unfold World.cell?
  simp only
  rw [hB.block B hb]
 ·rcases hb with ⟨d,h⟩ | ⟨t,h⟩ | ⟨t,i,h⟩ | ⟨d,o,h⟩
  ·exact no (by simp) h
  ·exact no (by simp) h
  ·exact no (by simp) h
  ·exact no (by simp) h
theorem zte (s : ByteArray) (c : Int) (w : World) : Calls Tryz.prog 181 #[.string s,.int .u8 c] w fun e w'=>e = .returned (.int .i64 (Lib.indexByte s.data.toList c.toNat.toUInt8))∧w' = w:=by
 go_enter Tryz.func181,Tryz.ntmps181
 go_wp2_with (go_at_call 206; refine (Any.stringslite_IndexByte Tryz.laysIB _ _ _).mono ?_; rintro e w' ⟨rfl,rfl⟩)
 go_ret
 exact ⟨rfl,rfl⟩
def xCal : Oracle := fun g args H nx=>match Nat.beq g 181 with
 | true=>match args with
  | [.str s,.int .u8 c]=>match H,nx with
   | [],0=>some ⟨.int .i64 (Lib.indexByte s (UInt8.ofNat c.toNat)),Hp.none,0⟩
   | _,_=>none
  | _=>none
 | false=>match Nat.beq g 144 with
  | true=>match args with
   | [.str s,.int .i64 b,.int .i64 z]=>match H,nx with
    | [],0=>br (decide (b = 10)) (br (decide (z = 64)) (br (Nat.ble s.length 1099511627776) (match Lib.parseIntB 64 s with
     | .ok u=>some ⟨.tuple [.int .i64 u,.nilI],Hp.none,0⟩
     | .range=>some ⟨.tuple [.int .i64 (Lib.intSat 64 s),.iface 286 .undef],Hp.none,0⟩
     | _=>some ⟨.tuple [.int .i64 0,.iface 286 .undef],Hp.none,0⟩) none) none) none
    | _,_=>none
   | _=>none
  | false=>none
theorem zp6 {g : G} {w : World} (h : zbf ann g w) {i : Nat} {t : Nat} {v : AV} (he : zfq ann i = some [.iface t v]) : ∃ ev,w.cell? ⟨i,0,none⟩ = some ev∧(ev = .nilIface ∨ ∃ te pe,ev = .iface te pe):=by
 obtain ⟨_,h2⟩ := h i _ he
 cases h2 with
 | cptr B off cs vals hl hc hr =>
  cases vals with
  | nil=>simp at hl
  | cons u vals =>
   have h3 := (hc 0 u rfl).1
   obtain ⟨x,h4,_⟩ := zf9 (hr 0 u _ rfl rfl)
   exact ⟨u,h3,.inr ⟨_,_,h4⟩⟩
theorem zld {g : G} {w : World} {a b : Value} {x y : AV} (h1 : Rep g w a x) (h2 : Rep g w b y) : Rep g w (.tuple #[a,b]) (.tuple [x,y]):=by
 refine Rep.tuple [a,b] [x,y] rfl fun j u c hu hc=>?_
 match j with
 | 0=>injection hu with hu; injection hc with hc; subst hu hc; exact h1
 | 1=>injection hu with hu; injection hc with hc; subst hu hc; exact h2
 | j + 2=>cases hu
theorem zt8 {g : G} {w : World} {cargs : List Value} {s : List UInt8} {k : IntKind} {c : Int} (h : RepL g w cargs [.str s,.int k c]) : ∃ S : ByteArray,S.data.toList = s∧cargs = [.string S,.int k c]:=by
 obtain ⟨hl,hr⟩ := h
 match cargs,hl with
 | [a,b],_ =>
  obtain ⟨S,rfl,hS⟩ := zc1 (hr 0 a _ rfl rfl)
  have := hr 1 b _ rfl rfl
  cases this
  exact ⟨S,hS,rfl⟩
theorem zsq {g : G} {w : World} {cargs : List Value} {s : List UInt8} {k k' : IntKind} {c d : Int} (h : RepL g w cargs [.str s,.int k c,.int k' d]) : ∃ S : ByteArray,S.data.toList = s∧cargs = [.string S,.int k c,.int k' d]:=by
 obtain ⟨hl,hr⟩ := h
 match cargs,hl with
 | [a,b,e],_ =>
  obtain ⟨S,rfl,hS⟩ := zc1 (hr 0 a _ rfl rfl)
  have h1 := hr 1 b _ rfl rfl
  have h2 := hr 2 e _ rfl rfl
  cases h1
  cases h2
  exact ⟨S,hS,rfl⟩
theorem rf181 : (getA ann 181).rf = []∧(getA ann 181).imp = false := by constructor <;> kernel_rfl
theorem rf144 : (getA ann 144).rf = []∧(getA ann 144).imp = false := by constructor <;> kernel_rfl
theorem zt4 : zc6 Tryz.prog ann xCal:=by
 intro f args H nx out hc
 unfold xCal at hc
 split at hc
 ·rename_i hf
  obtain rfl := Nat.eq_of_beq_eq_true hf
  split at hc
  ·rename_i s c
   split at hc
   ·injection hc with hc
    subst hc
    refine ⟨⟨_,_,Tryz.func181,rfl⟩,fun g w cargs hI hH hS hi hg hr=>?_⟩
    obtain ⟨S,hS,rfl⟩ := zt8 hr
    rw [rf181.1]
    refine (zte S c w).mono ?_
    rintro e w' ⟨rfl,rfl⟩
    refine ⟨_,g,rfl,zi9 hI (hi rf181.2) (Below.refl _ _) ?_ rfl⟩
    rw [hS]
    exact .int _ _
   ·cases hc
  ·cases hc
 ·split at hc
  ·rename_i hf
   obtain rfl := Nat.eq_of_beq_eq_true hf
   split at hc
   ·rename_i s b z
    split at hc
    ·obtain ⟨hb,hc1⟩ := zag hc
     obtain ⟨hz,hc2⟩ := zag hc1
     obtain ⟨hs,hc3⟩ := zag hc2
     clear hc hc1 hc2
     obtain rfl := of_decide_eq_true hb
     obtain rfl := of_decide_eq_true hz
     have hs := Nat.ble_eq.mp hs
     refine ⟨⟨_,_,Tryz.func144,rfl⟩,fun g w cargs hI hH hS hi hg hr=>?_⟩
     obtain ⟨S,hS,rfl⟩ := zsq hr
     subst hS
     have hsz : S.size ≤ 1099511627776 := hs
     rw [rf144.1]
     obtain ⟨e1,c1,c2⟩ := zp6 (i := 6) (t := 319) (v := (.cptr [(.str [105,110,118,97,108,105,100,32,115,121,110,116,97,120])])) hg (by kernel_rfl)
     obtain ⟨e2,c3,c4⟩ := zp6 (i := 7) (t := 319) (v := (.cptr [(.str [118,97,108,117,101,32,111,117,116,32,111,102,32,114,97,110,103,101])])) hg (by kernel_rfl)
     cases hp : Lib.parseIntB 64 S.data.toList with
     | ok u =>
      rw [hp] at hc3
      injection hc3 with hc3
      subst hc3
      refine (Any.strconv_ParseInt_10_at64_ok Tryz.laysPI S (by omega) u hp w).mono ?_
      rintro e w' ⟨rfl,hw⟩
      refine ⟨_,g,rfl,zi9 hI (hi rf144.2) ?_ (zld (.int _ _) .nilI) rfl⟩
      rcases hw with rfl | ⟨t,rfl⟩
      ·exact Below.refl _ _
      ·exact Lib.bytesWorld_below _ _ _
     | range =>
      rw [hp] at hc3
      injection hc3 with hc3
      subst hc3
      refine (Any.strconv_ParseInt_10_at64_range Tryz.laysPI S (by omega) hp e2 w c3 c4).mono ?_
      rintro e w' ⟨N,rfl,_,_,hw⟩
      exact ⟨_,g,rfl,zi9 hI (hi rf144.2) hw (zld (.int _ _) (.iface _ _ _ (.undef _))) rfl⟩
     | _ =>
      rw [hp] at hc3
      injection hc3 with hc3
      subst hc3
      refine (Any.strconv_ParseInt_10_at64_syntax Tryz.laysPI S (by omega) hp e1 w c1 c2).mono ?_
      rintro e w' ⟨N,rfl,_,_,hw⟩
      exact ⟨_,g,rfl,zi9 hI (hi rf144.2) hw (zld (.int _ _) (.iface _ _ _ (.undef _))) rfl⟩
    ·cases hc
   ·cases hc
  ·cases hc
end Go.Proofs.YtfdklpkfpmkgeaaGreatDoor
end
section
namespace Go.Proofs.YtfdklpkfpmkgeaaGreatDoor
open Go Go.Vai
attribute [local irreducible] goTo zaq mkS
variable {C : Nat → Oracle} {o : Out}
theorem p45_c (hC : Ext C) {T : Hp} {nx : Nat} {x_1 x_2 : Int} {q_3 : PS} (ho : RL C 45 [] (mkS 29 [vv 0 (.ptr 0 0),vi 1 x_1,vi 2 x_2] [] (hp q_3 T) nx) = some o) : calL C 45 [(.ptr 0 0),(i6 x_1),(i6 x_2)] (hp q_3 T) nx = some o := hC.call rfl (fun _ _ => by kernel_rfl) ho
theorem p45_0 {T : Hp} {nx : Nat} {x_1 x_2 : Int} {q_3 : PS} (ho : Tr.val C 45
(.br (decide (q_3.err = 0))
(.ret ⟨(.tuple []),(hp ⟨q_3.src,q_3.pos,0,[],0,(q_3.src.length : Int),q_3.depth,x_1,x_2⟩ T),nx⟩)
(.ret ⟨(.tuple []),(hp ⟨q_3.src,q_3.pos,0,[],0,(q_3.src.length : Int),q_3.depth,q_3.err,q_3.eat⟩ T),nx⟩)) = some o) : RL C 45 [] (mkS 29 [vv 0 (.ptr 0 0),vi 1 x_1,vi 2 x_2] [] (hp q_3 T) nx) = some o := stR C 7 (fun _ _ => by kernel_rfl) ho
theorem p42_c (hC : Ext C) {T : Hp} {nx : Nat} {q_4 : PS} (ho : RL C 42 [] (mkS 27 [vv 0 (.ptr 0 0)] [] (hp q_4 T) nx) = some o) : calL C 42 [(.ptr 0 0)] (hp q_4 T) nx = some o := hC.call rfl (fun _ _ => by kernel_rfl) ho
theorem p42_0 {T : Hp} {nx : Nat} {q_4 : PS} (ho : Tr.val C 42
(.br (!(decide (q_4.err = 0)))
(.ret ⟨(.tuple []),(hp q_4 T),nx⟩)
(.call 79 [(.ptr 0 0)] (hp q_4 T) nx fun r1 =>
(.mid 0 [0,0,5,7,5,0] 4 (mkS 27 [vv 0 (.ptr 0 0),vb 8 false,vv 10 (.ptr 0 0),vv 11 (.ptr 0 0),vv 12 (.ptr 0 0),vv 13 r1.v] [] r1.H r1.nx)))) = some o) : RL C 42 [] (mkS 27 [vv 0 (.ptr 0 0)] [] (hp q_4 T) nx) = some o := stR C 7 (fun _ _ => by kernel_rfl) ho
theorem p42_1 {T : Hp} {nx : Nat} {x_5 x_7 x_8 x_9 : Int} {s_6 : List UInt8} {q_11 : PS} (ho : Tr.val C 42
(.br (!(decide (x_9 = 0)))
(.call 45 [(.ptr 0 0),(i6 x_9),(i6 x_8)] (hp q_11 T) nx fun r2 =>
(.mid 1 [0,0,5,7,5,0,5,0,0,5,6,0] 5 (mkS 27 [vv 0 (.ptr 0 0),(2,.lp 2 0),vi 3 x_9,vb 17 true,vv 18 (.ptr 0 0),vi 19 x_9,(20,.lp 2 3),vi 21 x_8,vv 22 r2.v] [(2,⟨[(i6 x_5),(.str s_6),(i6 x_7),(i6 x_8)],[]⟩)] r2.H r2.nx)))
(.ret ⟨(.tuple []),(hp ⟨q_11.src,q_11.pos,x_5,s_6,x_7,x_8,q_11.depth,q_11.err,q_11.eat⟩ T),nx⟩)) = some o) : ML C 42 [0,0,5,7,5,0] 4 (mkS 27 [vv 0 (.ptr 0 0),vb 8 false,vv 10 (.ptr 0 0),vv 11 (.ptr 0 0),vv 12 (.ptr 0 0),vv 13 (.tuple [(.agg [(i6 x_5),(.str s_6),(i6 x_7),(i6 x_8)]),(i6 x_9)])] [] (hp q_11 T) nx) = some o := stM C 7 (fun _ _ => by kernel_rfl) ho
theorem p42_2 {T : Hp} {nx : Nat} {x_5 x_7 x_8 x_9 : Int} {s_6 : List UInt8} {q_13 : PS} (ho : Tr.val C 42
(.ret ⟨(.tuple []),(hp q_13 T),nx⟩) = some o) : ML C 42 [0,0,5,7,5,0,5,0,0,5,6,0] 5 (mkS 27 [vv 0 (.ptr 0 0),(2,.lp 2 0),vi 3 x_9,vb 17 true,vv 18 (.ptr 0 0),vi 19 x_9,(20,.lp 2 3),vi 21 x_8,vv 22 (.tuple [])] [(2,⟨[(i6 x_5),(.str s_6),(i6 x_7),(i6 x_8)],[]⟩)] (hp q_13 T) nx) = some o := stM C 1 (fun _ _ => by kernel_rfl) ho
theorem p43_c (hC : Ext C) {T : Hp} {nx : Nat} {s_14 : List UInt8} {q_15 : PS} (ho : RL C 43 [] (mkS 20 [vv 0 (.ptr 0 0),vt 1 s_14] [] (hp q_15 T) nx) = some o) : calL C 43 [(.ptr 0 0),(.str s_14)] (hp q_15 T) nx = some o := hC.call rfl (fun _ _ => by kernel_rfl) ho
theorem p43_0 {T : Hp} {nx : Nat} {s_14 : List UInt8} {q_15 : PS} (ho : Tr.val C 43
(.br (decide (q_15.kind = 1))
(.ret ⟨(.bool (eqS q_15.s s_14)),(hp q_15 T),nx⟩)
(.ret ⟨(.bool false),(hp q_15 T),nx⟩)) = some o) : RL C 43 [] (mkS 20 [vv 0 (.ptr 0 0),vt 1 s_14] [] (hp q_15 T) nx) = some o := stR C 5 (fun _ _ => by kernel_rfl) ho
theorem p82_c (hC : Ext C) {T : Hp} {nx : Nat} {s_16 : List UInt8} {q_17 : PS} (ho : RL C 82 [] (mkS 20 [vv 0 (.ptr 0 0),vt 1 s_16] [] (hp q_17 T) nx) = some o) : calL C 82 [(.ptr 0 0),(.str s_16)] (hp q_17 T) nx = some o := hC.call rfl (fun _ _ => by kernel_rfl) ho
theorem p82_0 {T : Hp} {nx : Nat} {s_16 : List UInt8} {q_17 : PS} (ho : Tr.val C 82
(.br (decide (q_17.kind = 4))
(.ret ⟨(.bool (eqS q_17.s s_16)),(hp q_17 T),nx⟩)
(.ret ⟨(.bool false),(hp q_17 T),nx⟩)) = some o) : RL C 82 [] (mkS 20 [vv 0 (.ptr 0 0),vt 1 s_16] [] (hp q_17 T) nx) = some o := stR C 5 (fun _ _ => by kernel_rfl) ho
theorem p81_c (hC : Ext C) {T : Hp} {nx : Nat} {s_18 : List UInt8} {q_19 : PS} (ho : RL C 81 [] (mkS 17 [vv 0 (.ptr 0 0),vt 1 s_18] [] (hp q_19 T) nx) = some o) : calL C 81 [(.ptr 0 0),(.str s_18)] (hp q_19 T) nx = some o := hC.call rfl (fun _ _ => by kernel_rfl) ho
theorem p81_0 {T : Hp} {nx : Nat} {s_18 : List UInt8} {q_19 : PS} (ho : Tr.val C 81
(.call 82 [(.ptr 0 0),(.str s_18)] (hp q_19 T) nx fun r1 =>
(.mid 0 [0,0] 3 (mkS 17 [vv 0 (.ptr 0 0),vt 1 s_18,vv 4 (.ptr 0 0),vt 5 s_18,vv 6 r1.v] [] r1.H r1.nx))) = some o) : RL C 81 [] (mkS 17 [vv 0 (.ptr 0 0),vt 1 s_18] [] (hp q_19 T) nx) = some o := stR C 3 (fun _ _ => by kernel_rfl) ho
theorem p81_1 {T : Hp} {nx : Nat} {s_18 : List UInt8} {c_20 : Bool} {q_22 : PS} (ho : Tr.val C 81
(.br (!c_20)
(.call 45 [(.ptr 0 0),(i6 11),(i6 q_22.tat)] (hp q_22 T) nx fun r2 =>
(.mid 0 [0,0,5,6,0] 7 (mkS 17 [vv 0 (.ptr 0 0),vb 7 true,vv 8 (.ptr 0 0),vv 9 (.ptr 0 0),vv 10 (.ptr 0 0),vv 11 (.ptr 0 2),vv 12 (.ptr 0 5),vi 13 q_22.tat,vv 14 r2.v] [] r2.H r2.nx)))
(.call 42 [(.ptr 0 0)] (hp q_22 T) nx fun r3 =>
(.mid 0 [0,0,5,7,5] 2 (mkS 17 [vv 0 (.ptr 0 0),vb 7 false,vv 15 (.ptr 0 0),vv 16 r3.v] [] r3.H r3.nx)))) = some o) : ML C 81 [0,0] 3 (mkS 17 [vv 0 (.ptr 0 0),vt 1 s_18,vv 4 (.ptr 0 0),vt 5 s_18,vb 6 c_20] [] (hp q_22 T) nx) = some o := stM C 3 (fun _ _ => by kernel_rfl) ho
theorem p81_2 {T : Hp} {nx : Nat} {x_24 : Int} {q_25 : PS} (ho : Tr.val C 81
(.ret ⟨(.tuple []),(hp q_25 T),nx⟩) = some o) : ML C 81 [0,0,5,6,0] 7 (mkS 17 [vv 0 (.ptr 0 0),vb 7 true,vv 8 (.ptr 0 0),vv 9 (.ptr 0 0),vv 10 (.ptr 0 0),vv 11 (.ptr 0 2),vv 12 (.ptr 0 5),vi 13 x_24,vv 14 (.tuple [])] [] (hp q_25 T) nx) = some o := stM C 1 (fun _ _ => by kernel_rfl) ho
theorem p81_3 {T : Hp} {nx : Nat} {q_27 : PS} (ho : Tr.val C 81
(.ret ⟨(.tuple []),(hp q_27 T),nx⟩) = some o) : ML C 81 [0,0,5,7,5] 2 (mkS 17 [vv 0 (.ptr 0 0),vb 7 false,vv 15 (.ptr 0 0),vv 16 (.tuple [])] [] (hp q_27 T) nx) = some o := stM C 1 (fun _ _ => by kernel_rfl) ho
theorem p80_c (hC : Ext C) {T : Hp} {nx : Nat} {q_28 : PS} (ho : RL C 80 [] (mkS 37 [vv 0 (.ptr 0 0)] [] (hp q_28 T) nx) = some o) : calL C 80 [(.ptr 0 0)] (hp q_28 T) nx = some o := hC.call rfl (fun _ _ => by kernel_rfl) ho
theorem p80_0 {T : Hp} {nx : Nat} {q_28 : PS} (ho : Tr.val C 80
(.br (!(decide (q_28.kind = 1)))
(.call 45 [(.ptr 0 0),(i6 11),(i6 q_28.tat)] (hp q_28 T) nx fun r1 =>
(.mid 0 [0,5,0,5,0,2,0,5,6] 4 (mkS 37 [vv 0 (.ptr 0 0),(4,.lp 4 0),vb 11 true,vv 20 (.ptr 0 0),(21,.lp 4 3),vi 22 q_28.tat,vv 23 r1.v] [(4,⟨[(i6 q_28.kind),(.str q_28.s),(i6 q_28.n),(i6 q_28.tat)],[]⟩)] r1.H r1.nx)))
(cl0 147 [(.str q_28.s)] fun r2 => .br (AV.pure r2.v)
(.mid 2 [0,5,0,5,0,2,0] 7 (mkS 37 [vv 0 (.ptr 0 0),(4,.lp 4 0),(12,.lp 4 0),vi 13 q_28.kind,vb 14 (!(decide (q_28.kind = 1))),vb 15 false,(16,.lp 4 1),vt 17 q_28.s,vv 18 r2.v] [(4,⟨[(i6 q_28.kind),(.str q_28.s),(i6 q_28.n),(i6 q_28.tat)],[]⟩)] (hp q_28 T) nx)) .none)) = some o) : RL C 80 [] (mkS 37 [vv 0 (.ptr 0 0)] [] (hp q_28 T) nx) = some o := stR C 10 (fun _ _ => by kernel_rfl) ho
theorem p80_1 {T : Hp} {nx : Nat} {x_30 x_31 x_33 : Int} {s_32 : List UInt8} {q_34 : PS} (ho : Tr.val C 80
(.ret ⟨(.tuple [(.str s_32),(i6 x_30)]),(hp q_34 T),nx⟩) = some o) : ML C 80 [0,5,0,5,0,2,0,5,6] 4 (mkS 37 [vv 0 (.ptr 0 0),(4,.lp 4 0),vb 11 true,vv 20 (.ptr 0 0),(21,.lp 4 3),vi 22 x_30,vv 23 (.tuple [])] [(4,⟨[(i6 x_31),(.str s_32),(i6 x_33),(i6 x_30)],[]⟩)] (hp q_34 T) nx) = some o := stM C 4 (fun _ _ => by kernel_rfl) ho
theorem p80_2 {T : Hp} {nx : Nat} {c_35 c_37 : Bool} {x_36 x_39 x_40 : Int} {s_38 : List UInt8} {q_41 : PS} (ho : Tr.val C 80
(.br c_35
(.call 45 [(.ptr 0 0),(i6 11),(i6 x_40)] (hp q_41 T) nx fun r3 =>
(.mid 3 [0,5,0,5,0,2,0,5,6] 4 (mkS 37 [vv 0 (.ptr 0 0),(4,.lp 4 0),vb 11 true,vv 20 (.ptr 0 0),(21,.lp 4 3),vi 22 x_40,vv 23 r3.v] [(4,⟨[(i6 x_36),(.str s_38),(i6 x_39),(i6 x_40)],[]⟩)] r3.H r3.nx)))
(.br (decide (16 < (s_38.length : Int)))
(.call 45 [(.ptr 0 0),(i6 3),(i6 x_40)] (hp q_41 T) nx fun r4 =>
(.mid 0 [0,5,0,5,0,2,0,5,7,0,5,6] 4 (mkS 37 [vv 0 (.ptr 0 0),(4,.lp 4 0),vb 24 true,vv 29 (.ptr 0 0),(30,.lp 4 3),vi 31 x_40,vv 32 r4.v] [(4,⟨[(i6 x_36),(.str s_38),(i6 x_39),(i6 x_40)],[]⟩)] r4.H r4.nx)))
(.call 42 [(.ptr 0 0)] (hp q_41 T) nx fun r5 =>
(.mid 0 [0,5,0,5,0,2,0,5,7,0,5,7] 2 (mkS 37 [vv 0 (.ptr 0 0),(4,.lp 4 0),vv 9 (.ptr 0 0),vv 10 r5.v,vb 24 false] [(4,⟨[(i6 x_36),(.str s_38),(i6 x_39),(i6 x_40)],[]⟩)] r5.H r5.nx))))) = some o) : ML C 80 [0,5,0,5,0,2,0] 7 (mkS 37 [vv 0 (.ptr 0 0),(4,.lp 4 0),(12,.lp 4 0),vi 13 x_36,vb 14 c_37,vb 15 false,(16,.lp 4 1),vt 17 s_38,vb 18 c_35] [(4,⟨[(i6 x_36),(.str s_38),(i6 x_39),(i6 x_40)],[]⟩)] (hp q_41 T) nx) = some o := stM C 5 (fun _ _ => by kernel_rfl) ho
theorem p80_3 {T : Hp} {nx : Nat} {x_36 x_39 x_40 : Int} {s_38 : List UInt8} {q_45 : PS} (ho : Tr.val C 80
(.ret ⟨(.tuple [(.str s_38),(i6 x_40)]),(hp q_45 T),nx⟩) = some o) : ML C 80 [0,5,0,5,0,2,0,5,7,0,5,6] 4 (mkS 37 [vv 0 (.ptr 0 0),(4,.lp 4 0),vb 24 true,vv 29 (.ptr 0 0),(30,.lp 4 3),vi 31 x_40,vv 32 (.tuple [])] [(4,⟨[(i6 x_36),(.str s_38),(i6 x_39),(i6 x_40)],[]⟩)] (hp q_45 T) nx) = some o := stM C 4 (fun _ _ => by kernel_rfl) ho
theorem p80_4 {T : Hp} {nx : Nat} {x_36 x_39 x_40 : Int} {s_38 : List UInt8} {q_47 : PS} (ho : Tr.val C 80
(.ret ⟨(.tuple [(.str s_38),(i6 x_40)]),(hp q_47 T),nx⟩) = some o) : ML C 80 [0,5,0,5,0,2,0,5,7,0,5,7] 2 (mkS 37 [vv 0 (.ptr 0 0),(4,.lp 4 0),vv 9 (.ptr 0 0),vv 10 (.tuple []),vb 24 false] [(4,⟨[(i6 x_36),(.str s_38),(i6 x_39),(i6 x_40)],[]⟩)] (hp q_47 T) nx) = some o := stM C 4 (fun _ _ => by kernel_rfl) ho
theorem p148_c (hC : Ext C) {T : Hp} {nx : Nat} {tg_48 : Bool} {l_49 : List AV} {q_50 : PS} (ho : RL C 148 [] (mkS 29 [vv 0 (.ptr 0 0),vv 1 (.vs 1 tg_48 l_49)] [] (hp q_50 T) nx) = some o) : calL C 148 [(.ptr 0 0),(.vs 1 tg_48 l_49)] (hp q_50 T) nx = some o := hC.call rfl (fun _ _ => by kernel_rfl) ho
theorem p148_0 {T : Hp} {nx : Nat} {tg_48 : Bool} {l_49 : List AV} {q_50 : PS} (ho : Tr.val C 148
(.run 0 [0,5,0,0,5,2,3] (mkS 29 [vv 0 (.ptr 0 0),vv 7 (.vs 1 tg_48 l_49),vi 8 (l_49.length : Int),vi 9 0] [] (hp q_50 T) nx)) = some o) : RL C 148 [] (mkS 29 [vv 0 (.ptr 0 0),vv 1 (.vs 1 tg_48 l_49)] [] (hp q_50 T) nx) = some o := stR C 7 (fun _ _ => by kernel_rfl) ho
theorem p148_1 {T : Hp} {nx : Nat} {tg_51 : Bool} {l_52 : List AV} {x_53 x_54 : Int} {q_55 : PS} (ho : Tr.val C 148
(.br (decide (x_54 < x_53))
(ix l_52 x_54 fun c1 =>
(.mid 0 [0,5,0,0,5,2,3,0,5,0,6,5,0,2,0] 2 (mkS 29 [vv 0 (.ptr 0 0),vv 7 (.vs 1 tg_51 l_52),vi 8 x_53,vi 9 x_54,vb 10 true,vi 11 x_54,vv 12 (.cptr (AV.cells c1))] [] (hp q_55 T) nx)))
(.call 45 [(.ptr 0 0),(i6 11),(i6 q_55.tat)] (hp q_55 T) nx fun r2 =>
(.mid 2 [0,5,0,0,5,2,3,0,5,0,7,5,5,5,5,0] 7 (mkS 29 [vv 0 (.ptr 0 0),vv 7 (.vs 1 tg_51 l_52),vi 8 x_53,vi 9 x_54,vb 10 false,vv 22 (.ptr 0 0),vv 23 (.ptr 0 0),vv 24 (.ptr 0 0),vv 25 (.ptr 0 2),vv 26 (.ptr 0 5),vi 27 q_55.tat,vv 28 r2.v] [] r2.H r2.nx)))) = some o) : RL C 148 [0,5,0,0,5,2,3] (mkS 29 [vv 0 (.ptr 0 0),vv 7 (.vs 1 tg_51 l_52),vi 8 x_53,vi 9 x_54] [] (hp q_55 T) nx) = some o := stR C 9 (fun _ _ => by kernel_rfl) ho
theorem p148_2 {T : Hp} {nx : Nat} {tg_51 : Bool} {l_52 : List AV} {x_53 x_54 : Int} {s_56 : List UInt8} {q_57 : PS} (ho : Tr.val C 148
(.call 43 [(.ptr 0 0),(.str s_56)] (hp q_57 T) nx fun r3 =>
(.mid 0 [0,5,0,0,5,2,3,0,5,0,6,5,0,2,0,5,0] 3 (mkS 29 [vv 0 (.ptr 0 0),vi 5 x_54,vt 6 s_56,vv 7 (.vs 1 tg_51 l_52),vi 8 x_53,vi 9 x_54,vv 14 (.ptr 0 0),vt 15 s_56,vv 16 r3.v] [] r3.H r3.nx))) = some o) : ML C 148 [0,5,0,0,5,2,3,0,5,0,6,5,0,2,0] 2 (mkS 29 [vv 0 (.ptr 0 0),vv 7 (.vs 1 tg_51 l_52),vi 8 x_53,vi 9 x_54,vb 10 true,vi 11 x_54,vv 12 (.cptr [(.str s_56)])] [] (hp q_57 T) nx) = some o := stM C 2 (fun _ _ => by kernel_rfl) ho
theorem p148_3 {T : Hp} {nx : Nat} {tg_51 : Bool} {l_52 : List AV} {x_53 x_54 x_59 : Int} {q_60 : PS} (ho : Tr.val C 148
(.ret ⟨(i6 0),(hp q_60 T),nx⟩) = some o) : ML C 148 [0,5,0,0,5,2,3,0,5,0,7,5,5,5,5,0] 7 (mkS 29 [vv 0 (.ptr 0 0),vv 7 (.vs 1 tg_51 l_52),vi 8 x_53,vi 9 x_54,vb 10 false,vv 22 (.ptr 0 0),vv 23 (.ptr 0 0),vv 24 (.ptr 0 0),vv 25 (.ptr 0 2),vv 26 (.ptr 0 5),vi 27 x_59,vv 28 (.tuple [])] [] (hp q_60 T) nx) = some o := stM C 3 (fun _ _ => by kernel_rfl) ho
theorem p148_4 {T : Hp} {nx : Nat} {tg_51 c_61 : Bool} {l_52 : List AV} {x_53 x_54 : Int} {s_56 : List UInt8} {q_63 : PS} (ho : Tr.val C 148
(.br c_61
(.call 42 [(.ptr 0 0)] (hp q_63 T) nx fun r4 =>
(.mid 2 [0,5,0,0,5,2,3,0,5,0,6,5,0,2,0,5,0,5,6,0] 2 (mkS 29 [vv 0 (.ptr 0 0),vi 5 x_54,vv 7 (.vs 1 tg_51 l_52),vi 8 x_53,vi 9 x_54,vb 16 true,vv 17 (.ptr 0 0),vv 18 r4.v] [] r4.H r4.nx)))
(.run 0 [0,5,0,0,5,2,3] (mkS 29 [vv 0 (.ptr 0 0),vv 7 (.vs 1 tg_51 l_52),vi 8 x_53,vi 9 (w64 (x_54 + 1))] [] (hp q_63 T) nx))) = some o) : ML C 148 [0,5,0,0,5,2,3,0,5,0,6,5,0,2,0,5,0] 3 (mkS 29 [vv 0 (.ptr 0 0),vi 5 x_54,vt 6 s_56,vv 7 (.vs 1 tg_51 l_52),vi 8 x_53,vi 9 x_54,vv 14 (.ptr 0 0),vt 15 s_56,vb 16 c_61] [] (hp q_63 T) nx) = some o := stM C 5 (fun _ _ => by kernel_rfl) ho
theorem p148_5 {T : Hp} {nx : Nat} {tg_51 : Bool} {l_52 : List AV} {x_53 x_54 : Int} {q_65 : PS} (ho : Tr.val C 148
(.ret ⟨(i6 (w64 (x_54 + 1))),(hp q_65 T),nx⟩) = some o) : ML C 148 [0,5,0,0,5,2,3,0,5,0,6,5,0,2,0,5,0,5,6,0] 2 (mkS 29 [vv 0 (.ptr 0 0),vi 5 x_54,vv 7 (.vs 1 tg_51 l_52),vi 8 x_53,vi 9 x_54,vb 16 true,vv 17 (.ptr 0 0),vv 18 (.tuple [])] [] (hp q_65 T) nx) = some o := stM C 3 (fun _ _ => by kernel_rfl) ho
theorem p213_c (hC : Ext C) {T : Hp} {nx : Nat} {q_66 : PS} (ho : RL C 213 [] (mkS 21 [vv 0 (.ptr 0 0)] [] (hp q_66 T) nx) = some o) : calL C 213 [(.ptr 0 0)] (hp q_66 T) nx = some o := hC.call rfl (fun _ _ => by kernel_rfl) ho
theorem p213_0 {T : Hp} {nx : Nat} {q_66 : PS} (ho : Tr.val C 213
(.br (decide (q_66.depth = 20))
(.call 45 [(.ptr 0 0),(i6 3),(i6 q_66.tat)] (hp q_66 T) nx fun r1 =>
(.mid 2 [0,0,5,6] 7 (mkS 21 [vv 0 (.ptr 0 0),vb 6 true,vv 7 (.ptr 0 0),vv 8 (.ptr 0 0),vv 9 (.ptr 0 0),vv 10 (.ptr 0 2),vv 11 (.ptr 0 5),vi 12 q_66.tat,vv 13 r1.v] [] r1.H r1.nx)))
(.ret ⟨(.tuple []),(hp ⟨q_66.src,q_66.pos,q_66.kind,q_66.s,q_66.n,q_66.tat,(w64 (q_66.depth + 1)),q_66.err,q_66.eat⟩ T),nx⟩)) = some o) : RL C 213 [] (mkS 21 [vv 0 (.ptr 0 0)] [] (hp q_66 T) nx) = some o := stR C 7 (fun _ _ => by kernel_rfl) ho
theorem p213_1 {T : Hp} {nx : Nat} {x_68 : Int} {q_69 : PS} (ho : Tr.val C 213
(.ret ⟨(.tuple []),(hp ⟨q_69.src,q_69.pos,q_69.kind,q_69.s,q_69.n,q_69.tat,(w64 (q_69.depth + 1)),q_69.err,q_69.eat⟩ T),nx⟩) = some o) : ML C 213 [0,0,5,6] 7 (mkS 21 [vv 0 (.ptr 0 0),vb 6 true,vv 7 (.ptr 0 0),vv 8 (.ptr 0 0),vv 9 (.ptr 0 0),vv 10 (.ptr 0 2),vv 11 (.ptr 0 5),vi 12 x_68,vv 13 (.tuple [])] [] (hp q_69 T) nx) = some o := stM C 2 (fun _ _ => by kernel_rfl) ho
theorem p214_c (hC : Ext C) {T : Hp} {nx : Nat} {q_70 : PS} (ho : RL C 214 [] (mkS 9 [vv 0 (.ptr 0 0)] [] (hp q_70 T) nx) = some o) : calL C 214 [(.ptr 0 0)] (hp q_70 T) nx = some o := hC.call rfl (fun _ _ => by kernel_rfl) ho
theorem p214_0 {T : Hp} {nx : Nat} {q_70 : PS} (ho : Tr.val C 214
(.ret ⟨(.tuple []),(hp ⟨q_70.src,q_70.pos,q_70.kind,q_70.s,q_70.n,q_70.tat,(w64 (q_70.depth - 1)),q_70.err,q_70.eat⟩ T),nx⟩) = some o) : RL C 214 [] (mkS 9 [vv 0 (.ptr 0 0)] [] (hp q_70 T) nx) = some o := stR C 2 (fun _ _ => by kernel_rfl) ho
theorem p140_c (hC : Ext C) {x_71 : Int} (ho : RL C 140 [] (mk0 17 [vv 0 (.int .u8 x_71)]) = some o) : calL C 140 [(.int .u8 x_71)] Hp.none 0 = some o := hC.call rfl (fun _ _ => by kernel_rfl) ho
theorem p140_0 {x_71 : Int} (ho : Tr.val C 140
(.br (decide (97 ≤ x_71))
(.br (decide (x_71 ≤ 122))
(rt (.bool true))
(.br (decide (65 ≤ x_71))
(rt (.bool (decide (x_71 ≤ 90))))
(rt (.bool false))))
(.br (decide (65 ≤ x_71))
(rt (.bool (decide (x_71 ≤ 90))))
(rt (.bool false)))) = some o) : RL C 140 [] (mk0 17 [vv 0 (.int .u8 x_71)]) = some o := stR C 5 (fun _ _ => by kernel_rfl) ho
theorem p143_c (hC : Ext C) {x_72 : Int} (ho : RL C 143 [] (mk0 9 [vv 0 (.int .u8 x_72)]) = some o) : calL C 143 [(.int .u8 x_72)] Hp.none 0 = some o := hC.call rfl (fun _ _ => by kernel_rfl) ho
theorem p143_0 {x_72 : Int} (ho : Tr.val C 143
(.br (decide (48 ≤ x_72))
(rt (.bool (decide (x_72 ≤ 57))))
(rt (.bool false))) = some o) : RL C 143 [] (mk0 9 [vv 0 (.int .u8 x_72)]) = some o := stR C 5 (fun _ _ => by kernel_rfl) ho
theorem p142_c (hC : Ext C) {x_73 : Int} (ho : RL C 142 [] (mk0 9 [vv 0 (.int .u8 x_73)]) = some o) : calL C 142 [(.int .u8 x_73)] Hp.none 0 = some o := hC.call rfl (fun _ _ => by kernel_rfl) ho
theorem p142_0 {x_73 : Int} (ho : Tr.val C 142
(cl0 140 [(.int .u8 x_73)] fun r1 => .br (AV.pure r1.v)
(.mid 0 [0,5,0] 2 (mk0 9 [vv 0 (.int .u8 x_73),vv 3 (.int .u8 x_73),vv 4 r1.v])) .none) = some o) : RL C 142 [] (mk0 9 [vv 0 (.int .u8 x_73)]) = some o := stR C 4 (fun _ _ => by kernel_rfl) ho
theorem p142_1 {x_73 : Int} {c_74 : Bool} (ho : Tr.val C 142
(.br c_74
(rt (.bool true))
(cl0 143 [(.int .u8 x_73)] fun r2 => .br (AV.pure r2.v)
(.mid 1 [0,5,0] 5 (mk0 9 [vv 0 (.int .u8 x_73),vv 3 (.int .u8 x_73),vb 4 c_74,vb 5 false,vv 6 (.int .u8 x_73),vv 7 r2.v])) .none)) = some o) : ML C 142 [0,5,0] 2 (mk0 9 [vv 0 (.int .u8 x_73),vv 3 (.int .u8 x_73),vb 4 c_74]) = some o := stM C 1 (fun _ _ => by kernel_rfl) ho
theorem p142_2 {x_73 : Int} {c_74 c_75 : Bool} (ho : Tr.val C 142
(rt (.bool c_75)) = some o) : ML C 142 [0,5,0] 5 (mk0 9 [vv 0 (.int .u8 x_73),vv 3 (.int .u8 x_73),vb 4 c_74,vb 5 false,vv 6 (.int .u8 x_73),vb 7 c_75]) = some o := stM C 1 (fun _ _ => by kernel_rfl) ho
end Go.Proofs.YtfdklpkfpmkgeaaGreatDoor
end
section
namespace Go.Proofs.YtfdklpkfpmkgeaaGreatDoor
open Go Go.Vai
attribute [local irreducible] goTo zaq mkS
variable {C : Nat → Oracle} {o : Out}
abbrev cB0 : Nat × Blk := (2,⟨[(i6 0),(.str []),(i6 0),(i6 0)],[]⟩)
abbrev qB0 : List Nat := [0,5,0,5,0,0,5,2,3]
abbrev qB1 : List Nat := [0,5,0,5,0,2,3,0,0]
abbrev qB2 : List Nat := [0,5,0,5,0,5,0,0,5,7,5,0,5,0,2,0,5,7,0,5,7,0,5,7,5,5,0,0,5,2,3]
abbrev qB3 : List Nat := [0,5,0,5,0,5,0,0,5,7,5,0,5,0,2,0,5,7,0,5,6,0,5,0,5,0]
abbrev qB4 : List Nat := [2,3,0,0,5,6,5,2,0,5,2,0,0,5,7,0,5,7,0,5,7,5,7,0,5,6,0]
abbrev qB5 : List Nat := [0,5,0,5,0,5,0,0,5,7,5,0,5,0,2,0,5,7,0,5,6,0,5,0]
abbrev qB6 : List Nat := [0,5,0,5,0,5,0,0,5,7,5,0,5,0,2,0,5,7,0,5,7,0,5,6,0,5,0]
abbrev qB7 : List Nat := [0,5,0,5,0,5,0,0,5,7,5,0,5,0,2,0,5,7,0,5,7,0,5,7,5,5,0,0,5,2,3,0,5,0,6,5,0,2,0]
abbrev qB8 : List Nat := [0,5,0,5,0,5,0,0,5,7,5,0,5,0,2,0,5,7,0,5,7,0,5,7,5,5,0,0,5,2,3,0,5,0,6,5,0,2,0,5,0]
theorem zqg (hC : Ext C) {T : Hp} {nx : Nat} {q_1 : PS} (ho : RL C 141 [] (mkS 50 [vv 0 (.ptr 0 0),vv 1 (.func 142 [])] [] (hp q_1 T) nx) = some o) : calL C 141 [(.ptr 0 0),(.func 142 [])] (hp q_1 T) nx = some o := hC.call rfl (fun _ _ => by kernel_rfl) ho
theorem zq9 {T : Hp} {nx : Nat} {q_1 : PS} (ho : Tr.val C 141
(.run 0 [0,5,0,5,0,2,3] (mkS 50 [vv 0 (.ptr 0 0),vv 1 (.func 142 []),vi 5 q_1.pos] [] (hp q_1 T) nx)) = some o) : RL C 141 [] (mkS 50 [vv 0 (.ptr 0 0),vv 1 (.func 142 [])] [] (hp q_1 T) nx) = some o := stR C 7 (fun _ _ => by kernel_rfl) ho
theorem zkb {T : Hp} {nx : Nat} {x_2 : Int} {q_3 : PS} (ho : Tr.val C 141
(.br (decide (q_3.pos < (q_3.src.length : Int)))
(.br (decide ((0 : Int) ≤ q_3.pos))
(.bind (q_3.src[(Int.toNat q_3.pos)]?) fun b1 =>
(cl0 142 [(.int .u8 ((b1.toNat : Nat) : Int))] fun r2 => .br (AV.pure r2.v)
(.mid 5 qB1 22 (mkS 50 [vv 0 (.ptr 0 0),vv 1 (.func 142 []),vi 5 x_2,vv 10 (.ptr 0 0),vv 11 (.ptr 0 0),vv 12 (.ptr 0 1),(13,.val (i6 q_3.pos) (.lH 0 1)),vv 14 (.ptr 0 0),vv 15 (.ptr 0 0),vv 16 (.ptr 0 0),(17,.val (.str q_3.src) (.lH 0 0)),vi 18 (q_3.src.length : Int),vb 19 (decide (q_3.pos < (q_3.src.length : Int))),vb 20 true,vv 21 (.func 142 []),vv 22 (.ptr 0 0),vv 23 (.ptr 0 0),vv 24 (.ptr 0 0),(25,.val (.str q_3.src) (.lH 0 0)),vv 26 (.ptr 0 0),vv 27 (.ptr 0 0),vv 28 (.ptr 0 1),(29,.val (i6 q_3.pos) (.lH 0 1)),vv 30 (.int .u8 ((b1.toNat : Nat) : Int)),vv 31 r2.v] [] (hp q_3 T) nx)) .none)) .none)
(.br (decide ((0 : Int) ≤ q_3.pos))
(.br (decide (q_3.pos ≤ (q_3.src.length : Int)))
(.br (decide ((0 : Int) ≤ x_2))
(.br (decide (x_2 ≤ (((Int.toNat q_3.pos) : Nat) : Int)))
(.ret ⟨(.str (List.drop (Int.toNat x_2) (List.take (Int.toNat q_3.pos) q_3.src))),(hp q_3 T),nx⟩) .none) .none) .none) .none)) = some o) : RL C 141 [0,5,0,5,0,2,3] (mkS 50 [vv 0 (.ptr 0 0),vv 1 (.func 142 []),vi 5 x_2] [] (hp q_3 T) nx) = some o := stR C 8 (fun _ _ => by kernel_rfl) ho
theorem zq4 {T : Hp} {nx : Nat} {x_2 x_5 x_7 x_9 : Int} {c_4 c_8 : Bool} {s_6 : List UInt8} {q_10 : PS} (ho : Tr.val C 141
(.br c_4
(.run 0 [0,5,0,5,0,2,3] (mkS 50 [vv 0 (.ptr 0 0),vv 1 (.func 142 []),vi 5 x_2] [] (hp ⟨q_10.src,(w64 (q_10.pos + 1)),q_10.kind,q_10.s,q_10.n,q_10.tat,q_10.depth,q_10.err,q_10.eat⟩ T) nx))
(.br (decide ((0 : Int) ≤ q_10.pos))
(.br (decide (q_10.pos ≤ (q_10.src.length : Int)))
(.br (decide ((0 : Int) ≤ x_2))
(.br (decide (x_2 ≤ (((Int.toNat q_10.pos) : Nat) : Int)))
(.ret ⟨(.str (List.drop (Int.toNat x_2) (List.take (Int.toNat q_10.pos) q_10.src))),(hp q_10 T),nx⟩) .none) .none) .none) .none)) = some o) : ML C 141 qB1 22 (mkS 50 [vv 0 (.ptr 0 0),vv 1 (.func 142 []),vi 5 x_2,vv 10 (.ptr 0 0),vv 11 (.ptr 0 0),vv 12 (.ptr 0 1),(13,.val (i6 x_5) (.lH 0 1)),vv 14 (.ptr 0 0),vv 15 (.ptr 0 0),vv 16 (.ptr 0 0),(17,.val (.str s_6) (.lH 0 0)),vi 18 x_7,vb 19 c_8,vb 20 true,vv 21 (.func 142 []),vv 22 (.ptr 0 0),vv 23 (.ptr 0 0),vv 24 (.ptr 0 0),(25,.val (.str s_6) (.lH 0 0)),vv 26 (.ptr 0 0),vv 27 (.ptr 0 0),vv 28 (.ptr 0 1),(29,.val (i6 x_5) (.lH 0 1)),vv 30 (.int .u8 x_9),vb 31 c_4] [] (hp q_10 T) nx) = some o := stM C 6 (fun _ _ => by kernel_rfl) ho
theorem zqw (hC : Ext C) {T : Hp} {nx : Nat} {q_11 : PS} (ho : RL C 141 [] (mkS 50 [vv 0 (.ptr 0 0),vv 1 (.func 143 [])] [] (hp q_11 T) nx) = some o) : calL C 141 [(.ptr 0 0),(.func 143 [])] (hp q_11 T) nx = some o := hC.call rfl (fun _ _ => by kernel_rfl) ho
theorem zq3 {T : Hp} {nx : Nat} {q_11 : PS} (ho : Tr.val C 141
(.run 0 [0,5,0,5,0,2,3] (mkS 50 [vv 0 (.ptr 0 0),vv 1 (.func 143 []),vi 5 q_11.pos] [] (hp q_11 T) nx)) = some o) : RL C 141 [] (mkS 50 [vv 0 (.ptr 0 0),vv 1 (.func 143 [])] [] (hp q_11 T) nx) = some o := stR C 7 (fun _ _ => by kernel_rfl) ho
theorem zk0 {T : Hp} {nx : Nat} {x_12 : Int} {q_13 : PS} (ho : Tr.val C 141
(.br (decide (q_13.pos < (q_13.src.length : Int)))
(.br (decide ((0 : Int) ≤ q_13.pos))
(.bind (q_13.src[(Int.toNat q_13.pos)]?) fun b1 =>
(cl0 143 [(.int .u8 ((b1.toNat : Nat) : Int))] fun r2 => .br (AV.pure r2.v)
(.mid 5 qB1 22 (mkS 50 [vv 0 (.ptr 0 0),vv 1 (.func 143 []),vi 5 x_12,vv 10 (.ptr 0 0),vv 11 (.ptr 0 0),vv 12 (.ptr 0 1),(13,.val (i6 q_13.pos) (.lH 0 1)),vv 14 (.ptr 0 0),vv 15 (.ptr 0 0),vv 16 (.ptr 0 0),(17,.val (.str q_13.src) (.lH 0 0)),vi 18 (q_13.src.length : Int),vb 19 (decide (q_13.pos < (q_13.src.length : Int))),vb 20 true,vv 21 (.func 143 []),vv 22 (.ptr 0 0),vv 23 (.ptr 0 0),vv 24 (.ptr 0 0),(25,.val (.str q_13.src) (.lH 0 0)),vv 26 (.ptr 0 0),vv 27 (.ptr 0 0),vv 28 (.ptr 0 1),(29,.val (i6 q_13.pos) (.lH 0 1)),vv 30 (.int .u8 ((b1.toNat : Nat) : Int)),vv 31 r2.v] [] (hp q_13 T) nx)) .none)) .none)
(.br (decide ((0 : Int) ≤ q_13.pos))
(.br (decide (q_13.pos ≤ (q_13.src.length : Int)))
(.br (decide ((0 : Int) ≤ x_12))
(.br (decide (x_12 ≤ (((Int.toNat q_13.pos) : Nat) : Int)))
(.ret ⟨(.str (List.drop (Int.toNat x_12) (List.take (Int.toNat q_13.pos) q_13.src))),(hp q_13 T),nx⟩) .none) .none) .none) .none)) = some o) : RL C 141 [0,5,0,5,0,2,3] (mkS 50 [vv 0 (.ptr 0 0),vv 1 (.func 143 []),vi 5 x_12] [] (hp q_13 T) nx) = some o := stR C 8 (fun _ _ => by kernel_rfl) ho
theorem zqd {T : Hp} {nx : Nat} {x_12 x_15 x_17 x_19 : Int} {c_14 c_18 : Bool} {s_16 : List UInt8} {q_20 : PS} (ho : Tr.val C 141
(.br c_14
(.run 0 [0,5,0,5,0,2,3] (mkS 50 [vv 0 (.ptr 0 0),vv 1 (.func 143 []),vi 5 x_12] [] (hp ⟨q_20.src,(w64 (q_20.pos + 1)),q_20.kind,q_20.s,q_20.n,q_20.tat,q_20.depth,q_20.err,q_20.eat⟩ T) nx))
(.br (decide ((0 : Int) ≤ q_20.pos))
(.br (decide (q_20.pos ≤ (q_20.src.length : Int)))
(.br (decide ((0 : Int) ≤ x_12))
(.br (decide (x_12 ≤ (((Int.toNat q_20.pos) : Nat) : Int)))
(.ret ⟨(.str (List.drop (Int.toNat x_12) (List.take (Int.toNat q_20.pos) q_20.src))),(hp q_20 T),nx⟩) .none) .none) .none) .none)) = some o) : ML C 141 qB1 22 (mkS 50 [vv 0 (.ptr 0 0),vv 1 (.func 143 []),vi 5 x_12,vv 10 (.ptr 0 0),vv 11 (.ptr 0 0),vv 12 (.ptr 0 1),(13,.val (i6 x_15) (.lH 0 1)),vv 14 (.ptr 0 0),vv 15 (.ptr 0 0),vv 16 (.ptr 0 0),(17,.val (.str s_16) (.lH 0 0)),vi 18 x_17,vb 19 c_18,vb 20 true,vv 21 (.func 143 []),vv 22 (.ptr 0 0),vv 23 (.ptr 0 0),vv 24 (.ptr 0 0),(25,.val (.str s_16) (.lH 0 0)),vv 26 (.ptr 0 0),vv 27 (.ptr 0 0),vv 28 (.ptr 0 1),(29,.val (i6 x_15) (.lH 0 1)),vv 30 (.int .u8 x_19),vb 31 c_14] [] (hp q_20 T) nx) = some o := stM C 6 (fun _ _ => by kernel_rfl) ho
theorem p139_c (hC : Ext C) {T : Hp} {nx : Nat} {q_21 : PS} (ho : RL C 139 [] (mkS 66 [vv 0 (.ptr 0 0)] [] (hp q_21 T) nx) = some o) : calL C 139 [(.ptr 0 0)] (hp q_21 T) nx = some o := hC.call rfl (fun _ _ => by kernel_rfl) ho
theorem p139_0 {T : Hp} {nx : Nat} {q_21 : PS} (ho : Tr.val C 139
(.run 0 [2,3] (mkS 66 [vv 0 (.ptr 0 0)] [] (hp q_21 T) nx)) = some o) : RL C 139 [] (mkS 66 [vv 0 (.ptr 0 0)] [] (hp q_21 T) nx) = some o := stR C 2 (fun _ _ => by kernel_rfl) ho
theorem p139_1 {T : Hp} {nx : Nat} {q_22 : PS} (ho : Tr.val C 139
(.br (decide (q_22.pos < (q_22.src.length : Int)))
(.br (decide ((0 : Int) ≤ q_22.pos))
(.bind (q_22.src[(Int.toNat q_22.pos)]?) fun b1 =>
(.br (decide (((b1.toNat : Nat) : Int) = 9))
(.run 7 [2,3] (mkS 66 [vv 0 (.ptr 0 0)] [] (hp ⟨q_22.src,(w64 (q_22.pos + 1)),q_22.kind,q_22.s,q_22.n,q_22.tat,q_22.depth,q_22.err,q_22.eat⟩ T) nx))
(.br (decide (((b1.toNat : Nat) : Int) = 10))
(.run 4 [2,3] (mkS 66 [vv 0 (.ptr 0 0)] [] (hp ⟨q_22.src,(w64 (q_22.pos + 1)),q_22.kind,q_22.s,q_22.n,q_22.tat,q_22.depth,q_22.err,q_22.eat⟩ T) nx))
(.br (decide (((b1.toNat : Nat) : Int) = 13))
(.run 1 [2,3] (mkS 66 [vv 0 (.ptr 0 0)] [] (hp ⟨q_22.src,(w64 (q_22.pos + 1)),q_22.kind,q_22.s,q_22.n,q_22.tat,q_22.depth,q_22.err,q_22.eat⟩ T) nx))
(.br (decide (((b1.toNat : Nat) : Int) = 32))
(.run 1 [2,3] (mkS 66 [vv 0 (.ptr 0 0)] [] (hp ⟨q_22.src,(w64 (q_22.pos + 1)),q_22.kind,q_22.s,q_22.n,q_22.tat,q_22.depth,q_22.err,q_22.eat⟩ T) nx))
(.br (decide (((b1.toNat : Nat) : Int) = 35))
(.br (decide ((0 : Int) ≤ q_22.pos))
(.br (decide (q_22.pos ≤ (q_22.src.length : Int)))
(cl0 181 [(.str (List.drop (Int.toNat q_22.pos) (List.take q_22.src.length q_22.src))),(.int .u8 10)] fun r2 => .br (AV.pure r2.v)
(.br (AV.pure r2.v)
(.mid 0 qB4 10 (mkS 66 [vv 0 (.ptr 0 0),vb 34 true,vv 36 (.ptr 0 0),vv 37 (.ptr 0 0),vv 38 (.ptr 0 0),(39,.val (.str q_22.src) (.lH 0 0)),vv 40 (.ptr 0 0),vv 41 (.ptr 0 0),vv 42 (.ptr 0 1),(43,.val (i6 q_22.pos) (.lH 0 1)),vt 44 (List.drop (Int.toNat q_22.pos) (List.take q_22.src.length q_22.src)),vv 45 r2.v] [] (hp q_22 T) nx)) .none) .none) .none) .none)
(.ret ⟨(.tuple []),(hp q_22 T),nx⟩))))))) .none)
(.ret ⟨(.tuple []),(hp q_22 T),nx⟩)) = some o) : RL C 139 [2,3] (mkS 66 [vv 0 (.ptr 0 0)] [] (hp q_22 T) nx) = some o := stR C 26 (fun _ _ => by kernel_rfl) ho
theorem p139_2 {T : Hp} {nx : Nat} {x_23 x_25 : Int} {s_24 s_26 : List UInt8} {q_27 : PS} (ho : Tr.val C 139
(.br (decide (x_23 < 0))
(.run 0 [2,3] (mkS 66 [vv 0 (.ptr 0 0)] [] (hp ⟨q_27.src,(w64 (q_27.pos + (w64 ((q_27.src.length : Int) - q_27.pos)))),q_27.kind,q_27.s,q_27.n,q_27.tat,q_27.depth,q_27.err,q_27.eat⟩ T) nx))
(.run 0 [2,3] (mkS 66 [vv 0 (.ptr 0 0)] [] (hp ⟨q_27.src,(w64 (q_27.pos + x_23)),q_27.kind,q_27.s,q_27.n,q_27.tat,q_27.depth,q_27.err,q_27.eat⟩ T) nx))) = some o) : ML C 139 qB4 10 (mkS 66 [vv 0 (.ptr 0 0),vb 34 true,vv 36 (.ptr 0 0),vv 37 (.ptr 0 0),vv 38 (.ptr 0 0),(39,.val (.str s_24) (.lH 0 0)),vv 40 (.ptr 0 0),vv 41 (.ptr 0 0),vv 42 (.ptr 0 1),(43,.val (i6 x_25) (.lH 0 1)),vt 44 s_26,vi 45 x_23] [] (hp q_27 T) nx) = some o := stM C 9 (fun _ _ => by kernel_rfl) ho
theorem p145_c (hC : Ext C) {T : Hp} {nx : Nat} {x_28 x_30 x_31 : Int} {s_29 : List UInt8} {q_32 : PS} (ho : RL C 145 [] (mkS 95 [vv 0 (.ptr 0 0),vv 1 (.agg [(i6 x_28),(.str s_29),(i6 x_30),(i6 x_31)])] [] (hp q_32 T) nx) = some o) : calL C 145 [(.ptr 0 0),(.agg [(i6 x_28),(.str s_29),(i6 x_30),(i6 x_31)])] (hp q_32 T) nx = some o := hC.call rfl (fun _ _ => by kernel_rfl) ho
theorem p145_0 {T : Hp} {nx : Nat} {x_28 x_30 x_31 : Int} {s_29 : List UInt8} {q_32 : PS} (ho : Tr.val C 145
(.run 0 qB0 (mkS 95 [vv 0 (.ptr 0 0),(3,.lp 3 0),(4,.lp 4 0),(6,.val (.vs 1 true []) .own),vi 7 (w64 (q_32.pos + 1))] [(3,⟨[(i6 x_28),(.str s_29),(i6 x_30),(i6 x_31)],[]⟩),(4,⟨[(i6 0),(.str []),(i6 0),(i6 0)],[]⟩)] (hp q_32 T) nx)) = some o) : RL C 145 [] (mkS 95 [vv 0 (.ptr 0 0),vv 1 (.agg [(i6 x_28),(.str s_29),(i6 x_30),(i6 x_31)])] [] (hp q_32 T) nx) = some o := stR C 9 (fun _ _ => by kernel_rfl) ho
theorem p145_1 {T : Hp} {nx : Nat} {tg_33 : Bool} {l_34 : List AV} {x_35 x_36 x_38 x_39 x_40 x_42 x_43 : Int} {s_37 s_41 : List UInt8} {q_44 : PS} (ho : Tr.val C 145
(.br (decide (x_35 < (q_44.src.length : Int)))
(.br (decide ((0 : Int) ≤ x_35))
(.bind (q_44.src[(Int.toNat x_35)]?) fun b1 =>
(.br (decide (((b1.toNat : Nat) : Int) = 34))
(.br (decide (32 < (l_34.length : Int)))
(.ret ⟨(.tuple [(.agg [(i6 x_36),(.str s_37),(i6 x_38),(i6 x_39)]),(i6 3)]),(hp ⟨q_44.src,(w64 (x_35 + 1)),q_44.kind,q_44.s,q_44.n,q_44.tat,q_44.depth,q_44.err,q_44.eat⟩ T),nx⟩)
(.bind (zdp l_34) fun s2 =>
(.ret ⟨(.tuple [(.agg [(i6 x_36),(.str s2),(i6 x_38),(i6 x_39)]),(i6 0)]),(hp ⟨q_44.src,(w64 (x_35 + 1)),q_44.kind,q_44.s,q_44.n,q_44.tat,q_44.depth,q_44.err,q_44.eat⟩ T),nx⟩)))
(.br (decide (((b1.toNat : Nat) : Int) = 92))
(.br (decide ((w64 (x_35 + 1)) = (q_44.src.length : Int)))
(.ret ⟨(.tuple [(.agg [(i6 x_36),(.str s_37),(i6 x_38),(i6 x_39)]),(i6 11)]),(hp q_44 T),nx⟩)
(.br (decide ((0 : Int) ≤ (w64 (x_35 + 1))))
(.bind (q_44.src[(Int.toNat (w64 (x_35 + 1)))]?) fun b3 =>
(.br (!(decide (((b3.toNat : Nat) : Int) = 34)))
(.br (decide ((0 : Int) ≤ (w64 (x_35 + 1))))
(.bind (q_44.src[(Int.toNat (w64 (x_35 + 1)))]?) fun b4 =>
(.br (!(decide (((b4.toNat : Nat) : Int) = 92)))
(.ret ⟨(.tuple [(.agg [(i6 x_36),(.str s_37),(i6 x_38),(i6 x_39)]),(i6 11)]),(hp q_44 T),nx⟩)
(.br (decide ((0 : Int) ≤ (w64 (x_35 + 1))))
(.bind (q_44.src[(Int.toNat (w64 (x_35 + 1)))]?) fun b5 =>
(.br (Nat.ble ((l_34.length + 1) * 1) za1)
(.br (Nat.ble (l_34.length + 1) za1)
(.run 0 qB0 (mkS 95 [vv 0 (.ptr 0 0),(3,.lp 3 0),(4,.lp 4 0),(6,.val (.vs 1 false (l_34 ++ [(.int .u8 ((b5.toNat : Nat) : Int))])) .own),vi 7 (w64 ((w64 (x_35 + 1)) + 1))] [(3,⟨[(i6 x_36),(.str s_37),(i6 x_38),(i6 x_39)],[]⟩),(4,⟨[(i6 x_40),(.str s_41),(i6 x_42),(i6 x_43)],[]⟩)] (hp q_44 T) nx)) .none) .none)) .none))) .none)
(.br (decide ((0 : Int) ≤ (w64 (x_35 + 1))))
(.bind (q_44.src[(Int.toNat (w64 (x_35 + 1)))]?) fun b6 =>
(.br (Nat.ble ((l_34.length + 1) * 1) za1)
(.br (Nat.ble (l_34.length + 1) za1)
(.run 0 qB0 (mkS 95 [vv 0 (.ptr 0 0),(3,.lp 3 0),(4,.lp 4 0),(6,.val (.vs 1 false (l_34 ++ [(.int .u8 ((b6.toNat : Nat) : Int))])) .own),vi 7 (w64 ((w64 (x_35 + 1)) + 1))] [(3,⟨[(i6 x_36),(.str s_37),(i6 x_38),(i6 x_39)],[]⟩),(4,⟨[(i6 x_40),(.str s_41),(i6 x_42),(i6 x_43)],[]⟩)] (hp q_44 T) nx)) .none) .none)) .none))) .none))
(.br (decide (((b1.toNat : Nat) : Int) < 32))
(.ret ⟨(.tuple [(.agg [(i6 x_36),(.str s_37),(i6 x_38),(i6 x_39)]),(i6 11)]),(hp q_44 T),nx⟩)
(.br (decide (126 < ((b1.toNat : Nat) : Int)))
(.ret ⟨(.tuple [(.agg [(i6 x_36),(.str s_37),(i6 x_38),(i6 x_39)]),(i6 11)]),(hp q_44 T),nx⟩)
(.br (Nat.ble ((l_34.length + 1) * 1) za1)
(.br (Nat.ble (l_34.length + 1) za1)
(.run 4 qB0 (mkS 95 [vv 0 (.ptr 0 0),(3,.lp 3 0),(4,.lp 4 0),(6,.val (.vs 1 false (l_34 ++ [(.int .u8 ((b1.toNat : Nat) : Int))])) .own),vi 7 (w64 (x_35 + 1))] [(3,⟨[(i6 x_36),(.str s_37),(i6 x_38),(i6 x_39)],[]⟩),(4,⟨[(i6 x_40),(.str s_41),(i6 x_42),(i6 x_43)],[]⟩)] (hp q_44 T) nx)) .none) .none)))))) .none)
(.ret ⟨(.tuple [(.agg [(i6 x_36),(.str s_37),(i6 x_38),(i6 x_39)]),(i6 11)]),(hp q_44 T),nx⟩)) = some o) : RL C 145 qB0 (mkS 95 [vv 0 (.ptr 0 0),(3,.lp 3 0),(4,.lp 4 0),(6,.val (.vs 1 tg_33 l_34) .own),vi 7 x_35] [(3,⟨[(i6 x_36),(.str s_37),(i6 x_38),(i6 x_39)],[]⟩),(4,⟨[(i6 x_40),(.str s_41),(i6 x_42),(i6 x_43)],[]⟩)] (hp q_44 T) nx) = some o := stR C 30 (fun _ _ => by kernel_rfl) ho
theorem p79_c (hC : Ext C) {T : Hp} {nx : Nat} {q_45 : PS} (ho : RL C 79 [] (mkS 114 [vv 0 (.ptr 0 0)] [] (hp q_45 T) nx) = some o) : calL C 79 [(.ptr 0 0)] (hp q_45 T) nx = some o := hC.call rfl (fun _ _ => by kernel_rfl) ho
theorem p79_0 {T : Hp} {nx : Nat} {q_45 : PS} (ho : Tr.val C 79
(.call 139 [(.ptr 0 0)] (hp q_45 T) nx fun r1 =>
(.mid 0 [0,5,0] 2 (mkS 114 [vv 0 (.ptr 0 0),(2,.lp 2 0),vv 11 (.ptr 0 0),vv 12 r1.v] [cB0] r1.H r1.nx))) = some o) : RL C 79 [] (mkS 114 [vv 0 (.ptr 0 0)] [] (hp q_45 T) nx) = some o := stR C 4 (fun _ _ => by kernel_rfl) ho
theorem p79_1 {T : Hp} {nx : Nat} {q_47 : PS} (ho : Tr.val C 79
(.br (decide (q_47.pos = (q_47.src.length : Int)))
(.ret ⟨(.tuple [(.agg [(i6 0),(.str []),(i6 0),(i6 q_47.pos)]),(i6 0)]),(hp q_47 T),nx⟩)
(.br (decide ((0 : Int) ≤ q_47.pos))
(.bind (q_47.src[(Int.toNat q_47.pos)]?) fun b2 =>
(cl0 140 [(.int .u8 ((b2.toNat : Nat) : Int))] fun r3 => .br (AV.pure r3.v)
(.mid 0 [0,5,0,5,0,5,0,0,5,7,5,0,5,0,2,0] 2 (mkS 114 [vv 0 (.ptr 0 0),(2,.lp 2 0),(4,.lp 4 0),vv 5 (.int .u8 ((b2.toNat : Nat) : Int)),vv 39 (.int .u8 ((b2.toNat : Nat) : Int)),vv 40 r3.v] [cB0,(4,⟨[(i6 0),(.str []),(i6 0),(i6 q_47.pos)],[]⟩)] (hp q_47 T) nx)) .none)) .none)) = some o) : ML C 79 [0,5,0] 2 (mkS 114 [vv 0 (.ptr 0 0),(2,.lp 2 0),vv 11 (.ptr 0 0),vv 12 (.tuple [])] [cB0] (hp q_47 T) nx) = some o := stM C 13 (fun _ _ => by kernel_rfl) ho
theorem p79_2 {T : Hp} {nx : Nat} {c_48 : Bool} {x_49 x_50 : Int} {q_51 : PS} (ho : Tr.val C 79
(.br c_48
(.call 141 [(.ptr 0 0),(.func 142 [])] (hp q_51 T) nx fun r4 =>
(.mid 0 [0,5,0,5,0,5,0,0,5,7,5,0,5,0,2,0,5,6,0] 2 (mkS 114 [vv 0 (.ptr 0 0),(2,.lp 2 0),(4,.lp 4 0),vv 5 (.int .u8 x_49),vb 38 true,vv 41 (.ptr 0 0),vv 42 r4.v] [cB0,(4,⟨[(i6 0),(.str []),(i6 0),(i6 x_50)],[]⟩)] r4.H r4.nx)))
(cl0 143 [(.int .u8 x_49)] fun r5 => .br (AV.pure r5.v)
(.mid 0 [0,5,0,5,0,5,0,0,5,7,5,0,5,0,2,0,5,7,0] 2 (mkS 114 [vv 0 (.ptr 0 0),(2,.lp 2 0),(4,.lp 4 0),vv 5 (.int .u8 x_49),vb 38 false,vv 47 (.int .u8 x_49),vv 48 r5.v] [cB0,(4,⟨[(i6 0),(.str []),(i6 0),(i6 x_50)],[]⟩)] (hp q_51 T) nx)) .none)) = some o) : ML C 79 [0,5,0,5,0,5,0,0,5,7,5,0,5,0,2,0] 2 (mkS 114 [vv 0 (.ptr 0 0),(2,.lp 2 0),(4,.lp 4 0),vv 5 (.int .u8 x_49),vv 39 (.int .u8 x_49),vb 40 c_48] [cB0,(4,⟨[(i6 0),(.str []),(i6 0),(i6 x_50)],[]⟩)] (hp q_51 T) nx) = some o := stM C 3 (fun _ _ => by kernel_rfl) ho
theorem p79_3 {T : Hp} {nx : Nat} {x_49 x_50 : Int} {s_52 : List UInt8} {q_54 : PS} (ho : Tr.val C 79
(.ret ⟨(.tuple [(.agg [(i6 1),(.str s_52),(i6 0),(i6 x_50)]),(i6 0)]),(hp q_54 T),nx⟩) = some o) : ML C 79 [0,5,0,5,0,5,0,0,5,7,5,0,5,0,2,0,5,6,0] 2 (mkS 114 [vv 0 (.ptr 0 0),(2,.lp 2 0),(4,.lp 4 0),vv 5 (.int .u8 x_49),vb 38 true,vv 41 (.ptr 0 0),vt 42 s_52] [cB0,(4,⟨[(i6 0),(.str []),(i6 0),(i6 x_50)],[]⟩)] (hp q_54 T) nx) = some o := stM C 3 (fun _ _ => by kernel_rfl) ho
theorem p79_4 {T : Hp} {nx : Nat} {x_49 x_50 : Int} {c_55 : Bool} {q_56 : PS} (ho : Tr.val C 79
(.br c_55
(.call 141 [(.ptr 0 0),(.func 143 [])] (hp q_56 T) nx fun r6 =>
(.mid 6 qB5 2 (mkS 114 [vv 0 (.ptr 0 0),(2,.lp 2 0),(4,.lp 4 0),vv 50 (.ptr 0 0),vv 51 r6.v] [cB0,(4,⟨[(i6 2),(.str []),(i6 0),(i6 x_50)],[]⟩)] r6.H r6.nx)))
(.br (decide (x_49 = 34))
(.call 145 [(.ptr 0 0),(.agg [(i6 3),(.str []),(i6 0),(i6 x_50)])] (hp q_56 T) nx fun r7 =>
(.mid 3 qB6 3 (mkS 114 [vv 0 (.ptr 0 0),(2,.lp 2 0),(4,.lp 4 0),vv 77 (.ptr 0 0),vv 78 (.agg [(i6 3),(.str []),(i6 0),(i6 x_50)]),vv 79 r7.v] [cB0,(4,⟨[(i6 3),(.str []),(i6 0),(i6 x_50)],[]⟩)] r7.H r7.nx)))
(.run 0 qB2 (mkS 114 [vv 0 (.ptr 0 0),(2,.lp 2 0),(4,.lp 4 0),vv 82 (.vs 1 true [(.str [123]),(.str [125]),(.str [40]),(.str [41]),(.str [59]),(.str [44]),(.str [61,61]),(.str [61]),(.str [33,61]),(.str [33]),(.str [60,61]),(.str [60]),(.str [62,61]),(.str [62]),(.str [43]),(.str [45]),(.str [42]),(.str [38,38]),(.str [124,124])]),vi 83 19,vi 84 0] [cB0,(4,⟨[(i6 0),(.str []),(i6 0),(i6 x_50)],[]⟩)] (hp q_56 T) nx)))) = some o) : ML C 79 [0,5,0,5,0,5,0,0,5,7,5,0,5,0,2,0,5,7,0] 2 (mkS 114 [vv 0 (.ptr 0 0),(2,.lp 2 0),(4,.lp 4 0),vv 5 (.int .u8 x_49),vb 38 false,vv 47 (.int .u8 x_49),vb 48 c_55] [cB0,(4,⟨[(i6 0),(.str []),(i6 0),(i6 x_50)],[]⟩)] (hp q_56 T) nx) = some o := stM C 11 (fun _ _ => by kernel_rfl) ho
theorem p79_5 {T : Hp} {nx : Nat} {x_50 : Int} {s_57 : List UInt8} {q_59 : PS} (ho : Tr.val C 79
(cl0 144 [(.str s_57),(i6 10),(i6 64)] fun r8 => .br (AV.pure r8.v)
(.mid 0 qB3 2 (mkS 114 [(2,.lp 2 0),(4,.lp 4 0),vt 6 s_57,vt 53 s_57,vv 54 r8.v] [cB0,(4,⟨[(i6 2),(.str []),(i6 0),(i6 x_50)],[]⟩)] (hp q_59 T) nx)) .none) = some o) : ML C 79 qB5 2 (mkS 114 [vv 0 (.ptr 0 0),(2,.lp 2 0),(4,.lp 4 0),vv 50 (.ptr 0 0),vt 51 s_57] [cB0,(4,⟨[(i6 2),(.str []),(i6 0),(i6 x_50)],[]⟩)] (hp q_59 T) nx) = some o := stM C 2 (fun _ _ => by kernel_rfl) ho
theorem p79_6 {T : Hp} {nx : Nat} {x_50 x_60 x_62 x_63 x_64 : Int} {s_61 : List UInt8} {q_66 : PS} (ho : Tr.val C 79
(.ret ⟨(.tuple [(.agg [(i6 x_60),(.str s_61),(i6 x_62),(i6 x_63)]),(i6 x_64)]),(hp q_66 T),nx⟩) = some o) : ML C 79 qB6 3 (mkS 114 [vv 0 (.ptr 0 0),(2,.lp 2 0),(4,.lp 4 0),vv 77 (.ptr 0 0),vv 78 (.agg [(i6 3),(.str []),(i6 0),(i6 x_50)]),vv 79 (.tuple [(.agg [(i6 x_60),(.str s_61),(i6 x_62),(i6 x_63)]),(i6 x_64)])] [cB0,(4,⟨[(i6 3),(.str []),(i6 0),(i6 x_50)],[]⟩)] (hp q_66 T) nx) = some o := stM C 1 (fun _ _ => by kernel_rfl) ho
theorem p79_7 {T : Hp} {nx : Nat} {tg_67 : Bool} {l_68 : List AV} {x_69 x_70 x_71 x_73 x_74 x_75 x_77 x_78 : Int} {s_72 s_76 : List UInt8} {q_79 : PS} (ho : Tr.val C 79
(.br (decide (x_70 < x_69))
(ix l_68 x_70 fun c9 =>
(.mid 0 qB7 1 (mkS 114 [vv 0 (.ptr 0 0),(2,.lp 2 0),(4,.lp 4 0),vv 82 (.vs 1 tg_67 l_68),vi 83 x_69,vi 84 x_70,vb 85 true,vv 86 (.cptr (AV.cells c9))] [(2,⟨[(i6 x_71),(.str s_72),(i6 x_73),(i6 x_74)],[]⟩),(4,⟨[(i6 x_75),(.str s_76),(i6 x_77),(i6 x_78)],[]⟩)] (hp q_79 T) nx)))
(.ret ⟨(.tuple [(.agg [(i6 x_75),(.str s_76),(i6 x_77),(i6 x_78)]),(i6 11)]),(hp q_79 T),nx⟩)) = some o) : RL C 79 qB2 (mkS 114 [vv 0 (.ptr 0 0),(2,.lp 2 0),(4,.lp 4 0),vv 82 (.vs 1 tg_67 l_68),vi 83 x_69,vi 84 x_70] [(2,⟨[(i6 x_71),(.str s_72),(i6 x_73),(i6 x_74)],[]⟩),(4,⟨[(i6 x_75),(.str s_76),(i6 x_77),(i6 x_78)],[]⟩)] (hp q_79 T) nx) = some o := stR C 9 (fun _ _ => by kernel_rfl) ho
theorem p79_8 {T : Hp} {nx : Nat} {x_50 x_80 : Int} {s_57 : List UInt8} {q_83 : PS} (ho : Tr.val C 79
(.br (decide (1 < (s_57.length : Int)))
(.bind (s_57[0]?) fun b10 =>
(.br (decide (((b10.toNat : Nat) : Int) = 48))
(.ret ⟨(.tuple [(.agg [(i6 2),(.str []),(i6 0),(i6 x_50)]),(i6 9)]),(hp q_83 T),nx⟩)
(.ret ⟨(.tuple [(.agg [(i6 2),(.str []),(i6 x_80),(i6 x_50)]),(i6 0)]),(hp q_83 T),nx⟩)))
(.ret ⟨(.tuple [(.agg [(i6 2),(.str []),(i6 x_80),(i6 x_50)]),(i6 0)]),(hp q_83 T),nx⟩)) = some o) : ML C 79 qB3 2 (mkS 114 [(2,.lp 2 0),(4,.lp 4 0),vt 6 s_57,vt 53 s_57,vv 54 (.tuple [(i6 x_80),.nilI])] [cB0,(4,⟨[(i6 2),(.str []),(i6 0),(i6 x_50)],[]⟩)] (hp q_83 T) nx) = some o := stM C 10 (fun _ _ => by kernel_rfl) ho
theorem p79_9 {T : Hp} {nx n_81 : Nat} {x_50 x_80 : Int} {s_57 : List UInt8} {v_82 : AV} {q_84 : PS} (ho : Tr.val C 79
(.ret ⟨(.tuple [(.agg [(i6 2),(.str []),(i6 0),(i6 x_50)]),(i6 9)]),(hp q_84 T),nx⟩) = some o) : ML C 79 qB3 2 (mkS 114 [(2,.lp 2 0),(4,.lp 4 0),vt 6 s_57,vt 53 s_57,vv 54 (.tuple [(i6 x_80),(.iface n_81 v_82)])] [cB0,(4,⟨[(i6 2),(.str []),(i6 0),(i6 x_50)],[]⟩)] (hp q_84 T) nx) = some o := stM C 7 (fun _ _ => by kernel_rfl) ho
theorem p79_10 {T : Hp} {nx : Nat} {tg_67 : Bool} {l_68 : List AV} {x_69 x_70 x_71 x_73 x_74 x_75 x_77 x_78 : Int} {s_72 s_76 s_85 : List UInt8} {q_86 : PS} (ho : Tr.val C 79
(.br (decide ((0 : Int) ≤ q_86.pos))
(.br (decide (q_86.pos ≤ (q_86.src.length : Int)))
(cl0 146 [(.str (List.drop (Int.toNat q_86.pos) (List.take q_86.src.length q_86.src))),(.str s_85)] fun r11 => .br (AV.pure r11.v)
(.br (AV.pure r11.v)
(.mid 0 qB8 11 (mkS 114 [vv 0 (.ptr 0 0),(2,.lp 2 0),(4,.lp 4 0),vt 10 s_85,vv 82 (.vs 1 tg_67 l_68),vi 83 x_69,vi 84 x_70,vv 88 (.ptr 0 0),vv 89 (.ptr 0 0),vv 90 (.ptr 0 0),(91,.val (.str q_86.src) (.lH 0 0)),vv 92 (.ptr 0 0),vv 93 (.ptr 0 0),vv 94 (.ptr 0 1),(95,.val (i6 q_86.pos) (.lH 0 1)),vt 96 (List.drop (Int.toNat q_86.pos) (List.take q_86.src.length q_86.src)),vt 97 s_85,vv 98 r11.v] [(2,⟨[(i6 x_71),(.str s_72),(i6 x_73),(i6 x_74)],[]⟩),(4,⟨[(i6 x_75),(.str s_76),(i6 x_77),(i6 x_78)],[]⟩)] (hp q_86 T) nx)) .none) .none) .none) .none) = some o) : ML C 79 qB7 1 (mkS 114 [vv 0 (.ptr 0 0),(2,.lp 2 0),(4,.lp 4 0),vv 82 (.vs 1 tg_67 l_68),vi 83 x_69,vi 84 x_70,vb 85 true,vv 86 (.cptr [(.str s_85)])] [(2,⟨[(i6 x_71),(.str s_72),(i6 x_73),(i6 x_74)],[]⟩),(4,⟨[(i6 x_75),(.str s_76),(i6 x_77),(i6 x_78)],[]⟩)] (hp q_86 T) nx) = some o := stM C 2 (fun _ _ => by kernel_rfl) ho
theorem p79_11 {T : Hp} {nx : Nat} {tg_67 c_87 : Bool} {l_68 : List AV} {x_69 x_70 x_71 x_73 x_74 x_75 x_77 x_78 x_89 : Int} {s_72 s_76 s_85 s_88 s_90 : List UInt8} {q_91 : PS} (ho : Tr.val C 79
(.br c_87
(.ret ⟨(.tuple [(.agg [(i6 4),(.str s_85),(i6 x_77),(i6 x_78)]),(i6 0)]),(hp ⟨q_91.src,(w64 (q_91.pos + (s_85.length : Int))),q_91.kind,q_91.s,q_91.n,q_91.tat,q_91.depth,q_91.err,q_91.eat⟩ T),nx⟩)
(.run 3 qB2 (mkS 114 [vv 0 (.ptr 0 0),(2,.lp 2 0),(4,.lp 4 0),vv 82 (.vs 1 tg_67 l_68),vi 83 x_69,vi 84 (w64 (x_70 + 1))] [(2,⟨[(i6 x_71),(.str s_72),(i6 x_73),(i6 x_74)],[]⟩),(4,⟨[(i6 x_75),(.str s_76),(i6 x_77),(i6 x_78)],[]⟩)] (hp q_91 T) nx))) = some o) : ML C 79 qB8 11 (mkS 114 [vv 0 (.ptr 0 0),(2,.lp 2 0),(4,.lp 4 0),vt 10 s_85,vv 82 (.vs 1 tg_67 l_68),vi 83 x_69,vi 84 x_70,vv 88 (.ptr 0 0),vv 89 (.ptr 0 0),vv 90 (.ptr 0 0),(91,.val (.str s_88) (.lH 0 0)),vv 92 (.ptr 0 0),vv 93 (.ptr 0 0),vv 94 (.ptr 0 1),(95,.val (i6 x_89) (.lH 0 1)),vt 96 s_90,vt 97 s_85,vb 98 c_87] [(2,⟨[(i6 x_71),(.str s_72),(i6 x_73),(i6 x_74)],[]⟩),(4,⟨[(i6 x_75),(.str s_76),(i6 x_77),(i6 x_78)],[]⟩)] (hp q_91 T) nx) = some o := stM C 8 (fun _ _ => by kernel_rfl) ho
end Go.Proofs.YtfdklpkfpmkgeaaGreatDoor
end
section
namespace Go.Proofs.YtfdklpkfpmkgeaaGreatDoor
open Go Go.Vai
attribute [local irreducible] goTo zaq mkS
def PS.at (p : PS) (k : Nat) : PS := ⟨p.src,(k : Int),p.kind,p.s,p.n,p.tat,p.depth,p.err,p.eat⟩
theorem zds {α : Type} (p : α→Bool) : ∀ l : List α,l.take (l.takeWhile p).length = l.takeWhile p
 | []=>rfl
 | x :: l=>by
  rw [List.takeWhile_cons]
  split
  ·rw [List.length_cons,List.take_succ_cons,zds p l]
  ·rfl
variable {C : Nat→Oracle} (hC : Ext C) {T : Hp} {nx : Nat}
include hC
theorem l140 (c : UInt8) : calL C 140 [.int .u8 (c.toNat : Int)] Hp.none 0 = some ⟨.bool (zns c),Hp.none,0⟩:=by
 refine p140_c hC (p140_0 ?_)
 simp only [Tr.val,zns]
 by_cases h1 : (97 : Int) ≤ c.toNat <;> by_cases h2 : (c.toNat : Int) ≤ 122 <;> by_cases h3 : (65 : Int) ≤ c.toNat <;> by_cases h4 : (c.toNat : Int) ≤ 90 <;> simp [h1,h2,h3,h4,za0,zam]
theorem l143 (c : UInt8) : calL C 143 [.int .u8 (c.toNat : Int)] Hp.none 0 = some ⟨.bool (zdq c),Hp.none,0⟩:=by
 refine p143_c hC (p143_0 ?_)
 simp only [Tr.val,zdq]
 by_cases h1 : (48 : Int) ≤ c.toNat <;> by_cases h2 : (c.toNat : Int) ≤ 57 <;> simp [h1,h2,za0,zam]
theorem l142 (c : UInt8) : calL C 142 [.int .u8 (c.toNat : Int)] Hp.none 0 = some ⟨.bool (zns c || zdq c),Hp.none,0⟩:=by
 refine p142_c hC (p142_0 ?_)
 simp only [Tr.val,zab,AV.pure,za0,l140 hC,Option.bind_some]
 refine p142_1 ?_
 cases h : zns c
 ·simp only [Tr.val,zab,AV.pure,za0,zam,l143 hC,Option.bind_some]
  refine p142_2 ?_
  simp only [Tr.val,Bool.false_or]
 ·simp only [Tr.val,za0,Bool.true_or]
def isLD (c : UInt8) : Bool := zns c || zdq c
theorem run142 (p : PS) (hl : p.src.length ≤ 4000) (o : Nat) : ∀ (r : List UInt8) (k : Nat),p.src.drop k = r→k ≤ p.src.length→o ≤ k →
  RL C 141 [0,5,0,5,0,2,3] (mkS 50 [(0,.val (.ptr 0 0) .no),(1,.val (.func 142 []) .no),(5,.val (.int .i64 (o : Int)) .no)] [] (hp (p.at k) T) nx) =
   some ⟨.str ((p.src.take (k + (r.takeWhile isLD).length)).drop o),hp (p.at (k + (r.takeWhile isLD).length)) T,nx⟩:=by
 intro r
 induction r with
 | nil =>
  intro k hk hkl ho
  have hkn := zaj _ _ hkl hk
  refine zkb ?_
  simp only [Tr.val,PS.at,Int.toNat_natCast,List.takeWhile_nil,List.length_nil,Nat.add_zero]
  exact bF (by omega) (bT (by omega) (bT (by omega) (bT (by omega) (bT (by omega) rfl))))
 | cons c r ih =>
  intro k hk hkl ho
  obtain ⟨h1,h2,h3⟩ := zau _ _ hk
  refine zkb ?_
  simp only [Tr.val,PS.at,Int.toNat_natCast]
  refine bT (by omega) (bT (by omega) (bnd h1 ?_))
  simp only [Option.bind_some,zab,AV.pure,za0,l142 hC]
  refine zq4 ?_
  cases hc : isLD c
  ·simp only [isLD] at hc
   simp only [Tr.val,isLD,hc,zam,List.takeWhile_cons,Bool.false_eq_true,if_false,List.length_nil,Nat.add_zero,Int.toNat_natCast]
   exact bT (by omega) (bT (by omega) (bT (by omega) (bT (by omega) rfl)))
  ·have hc' := hc
   simp only [isLD] at hc
   simp only [Tr.val,hc,za0]
   rw [zb9 (by omega) (by omega)]
   have := ih (k + 1) h2 (by omega) (by omega)
   simp only [PS.at] at this
   rw [show ((k : Int) + 1) = ((k + 1 : Nat) : Int) by omega,this,List.takeWhile_cons,if_pos hc',List.length_cons,show k + 1 + (r.takeWhile isLD).length = k + ((r.takeWhile isLD).length + 1) by omega]
theorem l141f142 (p : PS) (hl : p.src.length ≤ 4000) (k : Nat) (hk : k ≤ p.src.length) :
  calL C 141 [.ptr 0 0,.func 142 []] (hp (p.at k) T) nx = some ⟨.str ((p.src.drop k).takeWhile isLD),hp (p.at (k + ((p.src.drop k).takeWhile isLD).length)) T,nx⟩:=by
 refine zqg hC (zq9 ?_)
 have := run142 (T := T) (nx := nx) hC p hl k _ k rfl hk (Nat.le_refl _)
 simp only [PS.at] at this
 simp only [Tr.val,PS.at]
 rw [this]
 congr 3
 rw [List.drop_take,show k + ((p.src.drop k).takeWhile isLD).length - k = ((p.src.drop k).takeWhile isLD).length by omega]
 exact zds _ _
theorem run143 (p : PS) (hl : p.src.length ≤ 4000) (o : Nat) : ∀ (r : List UInt8) (k : Nat),p.src.drop k = r→k ≤ p.src.length→o ≤ k →
  RL C 141 [0,5,0,5,0,2,3] (mkS 50 [(0,.val (.ptr 0 0) .no),(1,.val (.func 143 []) .no),(5,.val (.int .i64 (o : Int)) .no)] [] (hp (p.at k) T) nx) =
   some ⟨.str ((p.src.take (k + (r.takeWhile zdq).length)).drop o),hp (p.at (k + (r.takeWhile zdq).length)) T,nx⟩:=by
 intro r
 induction r with
 | nil =>
  intro k hk hkl ho
  have hkn := zaj _ _ hkl hk
  refine zk0 ?_
  simp only [Tr.val,PS.at,Int.toNat_natCast,List.takeWhile_nil,List.length_nil,Nat.add_zero]
  exact bF (by omega) (bT (by omega) (bT (by omega) (bT (by omega) (bT (by omega) rfl))))
 | cons c r ih =>
  intro k hk hkl ho
  obtain ⟨h1,h2,h3⟩ := zau _ _ hk
  refine zk0 ?_
  simp only [Tr.val,PS.at,Int.toNat_natCast]
  refine bT (by omega) (bT (by omega) (bnd h1 ?_))
  simp only [Option.bind_some,zab,AV.pure,za0,l143 hC]
  refine zqd ?_
  cases hc : zdq c
  ·have hc := hc
   simp only [Tr.val,hc,zam,List.takeWhile_cons,Bool.false_eq_true,if_false,List.length_nil,Nat.add_zero,Int.toNat_natCast]
   exact bT (by omega) (bT (by omega) (bT (by omega) (bT (by omega) rfl)))
  ·have hc' := hc
   simp only [Tr.val,hc,za0]
   rw [zb9 (by omega) (by omega)]
   have := ih (k + 1) h2 (by omega) (by omega)
   simp only [PS.at] at this
   rw [show ((k : Int) + 1) = ((k + 1 : Nat) : Int) by omega,this,List.takeWhile_cons,if_pos hc',List.length_cons,show k + 1 + (r.takeWhile zdq).length = k + ((r.takeWhile zdq).length + 1) by omega]
theorem l141f143 (p : PS) (hl : p.src.length ≤ 4000) (k : Nat) (hk : k ≤ p.src.length) :
  calL C 141 [.ptr 0 0,.func 143 []] (hp (p.at k) T) nx = some ⟨.str ((p.src.drop k).takeWhile zdq),hp (p.at (k + ((p.src.drop k).takeWhile zdq).length)) T,nx⟩:=by
 refine zqw hC (zq3 ?_)
 have := run143 (T := T) (nx := nx) hC p hl k _ k rfl hk (Nat.le_refl _)
 simp only [PS.at] at this
 simp only [Tr.val,PS.at]
 rw [this]
 congr 3
 rw [List.drop_take,show k + ((p.src.drop k).takeWhile zdq).length - k = ((p.src.drop k).takeWhile zdq).length by omega]
 exact zds _ _
end Go.Proofs.YtfdklpkfpmkgeaaGreatDoor
end
section
namespace Go.Proofs.YtfdklpkfpmkgeaaGreatDoor
open Go Go.Vai
attribute [local irreducible] goTo zaq mkS
theorem ix1 : ∀ r : List UInt8,Lib.indexByte r 10 = -1→zbs true r = r.length
 | [],_=>rfl
 | b :: l,h=>by
  unfold Lib.indexByte at h
  split at h
  ·cases h
  ·rename_i hb
   split at h
   ·rename_i h1
    have hb : b.toNat ≠ 10 := fun e=>hb (by rw [beq_iff_eq]; exact UInt8.toNat_inj.1 e)
    unfold zbs
    rw [if_neg hb,ix1 l (by simpa using h1),List.length_cons]
   ·have := Lib.indexByte_ge l 10
    omega
theorem ix2 : ∀ (r : List UInt8) (n : Nat),Lib.indexByte r 10 = (n : Int)→n < r.length∧zbs true r = n + zbs false (r.drop n)
 | [],n,h=>by unfold Lib.indexByte at h; omega
 | b :: l,n,h=>by
  unfold Lib.indexByte at h
  split at h
  ·rename_i hb
   have hb : b.toNat = 10 := by rw [beq_iff_eq] at hb; rw [hb]; rfl
   obtain rfl : n = 0 := by omega
   refine ⟨by simp,?_⟩
   have hw : isWs b = true := by unfold isWs; rw [hb]; rfl
   rw [List.drop_zero,Nat.zero_add]
   unfold zbs
   rw [if_pos hb,if_pos hw]
  ·rename_i hb
   have hb : b.toNat ≠ 10 := fun e=>hb (by rw [beq_iff_eq]; exact UInt8.toNat_inj.1 e)
   split at h
   ·omega
   ·have hg := Lib.indexByte_ge l 10
    rename_i h1
    have h1 : Lib.indexByte l 10 ≠ -1 := by simpa using h1
    obtain ⟨m,hm⟩ : ∃ m : Nat,Lib.indexByte l 10 = m := ⟨(Lib.indexByte l 10).toNat,by omega⟩
    obtain rfl : n = m + 1 := by omega
    obtain ⟨i1,i2⟩ := ix2 l m hm
    refine ⟨by simpa using i1,?_⟩
    rw [List.drop_succ_cons,show zbs true (b :: l) = zbs true l + 1 by rw [zbs,if_neg hb],i2]
    omega
theorem ix0 (b : UInt8) (l : List UInt8) (h : Lib.indexByte (b :: l) 10 = 0) : b.toNat = 10:=by
 unfold Lib.indexByte at h
 split at h
 ·rename_i hb
  rw [beq_iff_eq] at hb
  rw [hb]
  rfl
 ·split at h
  ·cases h
  ·have := Lib.indexByte_ge l 10
   have h1 : Lib.indexByte l 10 = -1 := by omega
   rename_i h2
   exact absurd h1 (by simpa using h2)
variable {C : Nat→Oracle} (hC : Ext C) {T : Hp} {nx : Nat}
include hC
theorem zsa (p : PS) (hl : p.src.length ≤ 4000) : ∀ (m k : Nat),p.src.length - k = m→k ≤ p.src.length →
  RL C 139 [2,3] (mkS 66 [(0,.val (.ptr 0 0) .no)] [] (hp (p.at k) T) nx) = some ⟨.tuple [],hp (p.at (k + zbs false (p.src.drop k))) T,nx⟩:=by
 intro m
 induction m using Nat.strongRecOn with
 | _ m ih =>
 intro k hm hk
 cases hd : p.src.drop k with
 | nil =>
  have := zaj _ _ hk hd
  refine p139_1 ?_
  simp only [Tr.val,PS.at,Int.toNat_natCast,zbs,Nat.add_zero]
  exact bF (by omega) rfl
 | cons c r =>
  obtain ⟨h1,h2,h3⟩ := zau _ _ hd
  have ws : isWs c = true→RL C 139 [2,3] (mkS 66 [(0,.val (.ptr 0 0) .no)] [] (hp ⟨p.src,w64 ((k : Int) + 1),p.kind,p.s,p.n,p.tat,p.depth,p.err,p.eat⟩ T) nx) = some ⟨.tuple [],hp (p.at (k + zbs false (c :: r))) T,nx⟩:=by
   intro hw
   rw [zb9 (by omega) (by omega)]
   have := ih _ (by omega) (k + 1) rfl (by omega)
   simp only [PS.at] at this
   rw [show ((k : Int) + 1) = ((k + 1 : Nat) : Int) by omega,this,h2]
   rw [show zbs false (c :: r) = zbs false r + 1 by rw [zbs,if_pos hw],show k + 1 + zbs false r = k + (zbs false r + 1) by omega]
   rfl
  refine p139_1 ?_
  simp only [Tr.val,PS.at,Int.toNat_natCast] at ws ⊢
  refine bT (by omega) (bT (by omega) (bnd h1 ?_))
  by_cases e9 : c.toNat = 9
  ·exact bT (by omega) (ws (by unfold isWs; rw [e9]; rfl))
  refine bF (by omega) ?_
  by_cases e10 : c.toNat = 10
  ·exact bT (by omega) (ws (by unfold isWs; rw [e10]; rfl))
  refine bF (by omega) ?_
  by_cases e13 : c.toNat = 13
  ·exact bT (by omega) (ws (by unfold isWs; rw [e13]; rfl))
  refine bF (by omega) ?_
  by_cases e32 : c.toNat = 32
  ·exact bT (by omega) (ws (by unfold isWs; rw [e32]; rfl))
  refine bF (by omega) ?_
  have hnw : isWs c = false := by unfold isWs; simp [e9,e10,e13,e32]
  by_cases e35 : c.toNat = 35
  ·refine bT (by omega) (bT (by omega) (bT (by omega) ?_))
   rw [List.take_length,hd]
   simp only [zab,AV.pure,za0]
   have hll : (c :: r).length = p.src.length - k := by rw [← hd,List.length_drop]
   rw [hC.idx _ _ (by omega)]
   simp only [Option.bind_some,AV.pure,za0]
   rw [show UInt8.ofNat (Int.toNat 10) = 10 from rfl]
   refine p139_2 ?_
   simp only [Tr.val]
   have hs : zbs false (c :: r) = zbs true (c :: r):=by
    simp only [zbs,hnw,Bool.false_eq_true,if_false]
    rw [if_pos e35,if_neg e10]
   have hg := Lib.indexByte_ge (c :: r) 10
   by_cases hx : Lib.indexByte (c :: r) 10 < 0
   ·refine bT hx ?_
    have hx1 := ix1 _ (show Lib.indexByte (c :: r) 10 = -1 by omega)
    rw [zb9 (x := (p.src.length : Int) - k) (by omega) (by omega),zb9 (by omega) (by omega)]
    have := ih _ (show p.src.length - p.src.length < m by omega) p.src.length rfl (Nat.le_refl _)
    simp only [PS.at,List.drop_length,zbs,Nat.add_zero] at this
    rw [show ((k : Int) + ((p.src.length : Int) - k)) = ((p.src.length : Nat) : Int) by omega,this,hs,hx1,hll,show k + (p.src.length - k) = p.src.length by omega]
   ·refine bF hx ?_
    obtain ⟨n,hn⟩ : ∃ n : Nat,Lib.indexByte (c :: r) 10 = n := ⟨(Lib.indexByte (c :: r) 10).toNat,by omega⟩
    obtain ⟨i1,i2⟩ := ix2 _ n hn
    have hn0 : n ≠ 0 := fun e=>e10 (ix0 _ _ (by rw [hn,e]; rfl))
    rw [hn,zb9 (by omega) (by omega)]
    have := ih _ (show p.src.length - (k + n) < m by omega) (k + n) rfl (by omega)
    simp only [PS.at] at this
    rw [show ((k : Int) + (n : Int)) = ((k + n : Nat) : Int) by omega,this,← List.drop_drop,hd,hs,i2,Nat.add_assoc]
  ·refine bF (by omega) ?_
   rw [show zbs false (c :: r) = 0 by simp only [zbs,hnw,Bool.false_eq_true,if_false]; rw [if_neg e35]]
   rfl
theorem l139 (p : PS) (hl : p.src.length ≤ 4000) (k : Nat) (hk : k ≤ p.src.length) :
  calL C 139 [.ptr 0 0] (hp (p.at k) T) nx = some ⟨.tuple [],hp (p.at (k + zbs false (p.src.drop k))) T,nx⟩ :=
 p139_c hC (p139_0 (zsa hC p hl _ k rfl hk))
end Go.Proofs.YtfdklpkfpmkgeaaGreatDoor
end
section
namespace Go.Proofs.YtfdklpkfpmkgeaaGreatDoor
open Go Go.Vai
attribute [local irreducible] goTo zaq mkS
def zq6 (k : Int) (s : List UInt8) (n a : Int) : AV := .agg [.int .i64 k,.str s,.int .i64 n,.int .i64 a]
def zm8 (p : PS) (i : Nat) (acc : List UInt8) (K : Int) (S : List UInt8) (N A : Int) (T : Hp) (nx : Nat) : Option (List UInt8 × Nat)→Out
 | none=>⟨.tuple [zq6 K S N A,.int .i64 11],hp p T,nx⟩
 | some (w,m)=>if 32 < (acc ++ w).length then ⟨.tuple [zq6 K S N A,.int .i64 3],hp (p.at (i + m)) T,nx⟩ else ⟨.tuple [zq6 K (acc ++ w) N A,.int .i64 0],hp (p.at (i + m)) T,nx⟩
theorem zs2 (p : PS) (i : Nat) (acc : List UInt8) (K : Int) (S : List UInt8) (N A : Int) (T : Hp) (nx : Nat) (c : UInt8) (j : Nat) (x : Option (List UInt8 × Nat)) :
  zm8 p (i + j) (acc ++ [c]) K S N A T nx x = zm8 p i acc K S N A T nx (x.map fun (s,k)=>(c :: s,k + j)):=by
 cases x with
 | none=>rfl
 | some x =>
  obtain ⟨w,m⟩ := x
  simp only [zm8,Option.map_some,List.append_assoc,List.singleton_append,show i + j + m = i + (m + j) by omega]
variable {C : Nat→Oracle} (hC : Ext C) {T : Hp} {nx : Nat}
theorem zsg (p : PS) (hl : p.src.length ≤ 4000) (K : Int) (S : List UInt8) (N A : Int) : ∀ (m i : Nat) (acc : List UInt8) (tg : Bool),p.src.length - i = m→i ≤ p.src.length→acc.length ≤ i →
  RL C 145 [0,5,0,5,0,0,5,2,3] (mkS 95 [(0,.val (.ptr 0 0) .no),(3,.lp 3 0),(4,.lp 4 0),(6,.val (.vs 1 tg (acc.map zcy)) .own),(7,.val (.int .i64 (i : Int)) .no)] [(3,⟨[(.int .i64 K),(.str S),(.int .i64 N),(.int .i64 A)],[]⟩),(4,⟨[(.int .i64 (0)),(.str []),(.int .i64 (0)),(.int .i64 (0))],[]⟩)] (hp p T) nx) =
   some (zm8 p i acc K S N A T nx (zca (p.src.drop i))):=by
 intro m
 induction m using Nat.strongRecOn with
 | _ m ih =>
 intro i acc tg hm hi ha
 cases hd : p.src.drop i with
 | nil =>
  have := zaj _ _ hi hd
  refine p145_1 ?_
  simp only [Tr.val,Int.toNat_natCast]
  exact bF (by omega) rfl
 | cons c r =>
  obtain ⟨h1,h2,h3⟩ := zau _ _ hd
  have hw : w64 ((i : Int) + 1) = ((i + 1 : Nat) : Int) := by rw [zb9 (by omega) (by omega)]; omega
  have hw2 : w64 (((i + 1 : Nat) : Int) + 1) = ((i + 2 : Nat) : Int) := by rw [zb9 (by omega) (by omega)]; omega
  refine p145_1 ?_
  simp only [Tr.val,Int.toNat_natCast,hw,hw2,List.length_map,zo4,Option.bind_some]
  refine bT (by omega) (bT (by omega) (bnd h1 ?_))
  by_cases e34 : c.toNat = 34
  ·refine bT (by omega) ?_
   rw [show zca (c :: r) = some ([],1) by rw [zca.eq_def]; simp only [if_pos e34]]
   simp only [zm8,List.append_nil,PS.at,zq6]
   by_cases h32 : 32 < acc.length
   ·refine bT (by omega) ?_
    rw [if_pos h32]
   ·refine bF (by omega) ?_
    rw [if_neg h32]
  refine bF (by omega) ?_
  by_cases e92 : c.toNat = 92
  ·refine bT (by omega) ?_
   cases hr : r with
   | nil =>
    rw [hr] at h2
    have := zaj _ _ (by omega) h2
    refine bT (by omega) ?_
    rw [show zca [c] = none by rw [zca.eq_def]; simp only [if_neg e34,if_pos e92]]
    rfl
   | cons d r' =>
    rw [hr] at h2
    obtain ⟨g1,g2,g3⟩ := zau _ _ h2
    have go : RL C 145 [0,5,0,5,0,0,5,2,3] (mkS 95 [(0,.val (.ptr 0 0) .no),(3,.lp 3 0),(4,.lp 4 0),(6,.val (.vs 1 false (acc.map zcy ++ [(.int .u8 ((d.toNat : Nat) : Int))])) .own),(7,.val (.int .i64 ((i + 2 : Nat) : Int)) .no)] [(3,⟨[(.int .i64 K),(.str S),(.int .i64 N),(.int .i64 A)],[]⟩),(4,⟨[(.int .i64 (0)),(.str []),(.int .i64 (0)),(.int .i64 (0))],[]⟩)] (hp p T) nx) =
      some (zm8 p i acc K S N A T nx ((zca r').map fun (s,k)=>(d :: s,k + 2))):=by
     have := ih _ (show p.src.length - (i + 2) < m by omega) (i + 2) (acc ++ [d]) false rfl (by omega) (by simp; omega)
     rw [List.map_append,show [d].map zcy = [.int .u8 ((d.toNat : Nat) : Int)] from rfl] at this
     rw [this,zs2,show p.src.drop (i + 2) = r' from g2]
    refine bF (by omega) (bT (by omega) (bnd g1 ?_))
    by_cases d34 : d.toNat = 34
    ·refine nF (by omega) (bT (by omega) (bnd g1 (ct (zae (by omega)) (ct (zae (by omega)) (go.trans ?_)))))
     rw [show zca (c :: d :: r') = (zca r').map fun (s,k)=>(d :: s,k + 2) by rw [zca.eq_def]; simp only [if_neg e34,if_pos e92,if_pos (show d.toNat = 34 ∨ d.toNat = 92 from .inl d34)]]
    ·refine nT (by omega) (bT (by omega) (bnd g1 ?_))
     by_cases d92 : d.toNat = 92
     ·refine nF (by omega) (bT (by omega) (bnd g1 (ct (zae (by omega)) (ct (zae (by omega)) (go.trans ?_)))))
      rw [show zca (c :: d :: r') = (zca r').map fun (s,k)=>(d :: s,k + 2) by rw [zca.eq_def]; simp only [if_neg e34,if_pos e92,if_pos (show d.toNat = 34 ∨ d.toNat = 92 from .inr d92)]]
     ·refine nT (by omega) ?_
      rw [show zca (c :: d :: r') = none by rw [zca.eq_def]; simp only [if_neg e34,if_pos e92,if_neg (show ¬ (d.toNat = 34 ∨ d.toNat = 92) by omega)]]
      rfl
  refine bF (by omega) ?_
  by_cases l32 : c.toNat < 32
  ·refine bT (by omega) ?_
   rw [show zca (c :: r) = none by rw [zca.eq_def]; simp only [if_neg e34,if_neg e92,if_pos (show c.toNat < 32 ∨ 126 < c.toNat from .inl l32)]]
   rfl
  refine bF (by omega) ?_
  by_cases l126 : 126 < c.toNat
  ·refine bT (by omega) ?_
   rw [show zca (c :: r) = none by rw [zca.eq_def]; simp only [if_neg e34,if_neg e92,if_pos (show c.toNat < 32 ∨ 126 < c.toNat from .inr l126)]]
   rfl
  refine bF (by omega) (ct (zae (by omega)) (ct (zae (by omega)) ?_))
  have := ih _ (show p.src.length - (i + 1) < m by omega) (i + 1) (acc ++ [c]) false rfl (by omega) (by simp; omega)
  rw [List.map_append,show [c].map zcy = [.int .u8 ((c.toNat : Nat) : Int)] from rfl] at this
  rw [this,zs2,h2]
  rw [show zca (c :: r) = (zca r).map fun (s,k)=>(c :: s,k + 1) by rw [zca.eq_def]; simp only [if_neg e34,if_neg e92,if_neg (show ¬ (c.toNat < 32 ∨ 126 < c.toNat) by omega)]]
include hC
theorem l145 (p : PS) (hl : p.src.length ≤ 4000) (k : Nat) (hk : k < p.src.length) (K : Int) (S : List UInt8) (N A : Int) :
  calL C 145 [.ptr 0 0,.agg [.int .i64 K,.str S,.int .i64 N,.int .i64 A]] (hp (p.at k) T) nx = some (zm8 (p.at k) (k + 1) [] K S N A T nx (zca (p.src.drop (k + 1)))):=by
 refine p145_c hC (p145_0 ?_)
 have := zsg (C := C) (T := T) (nx := nx) (p.at k) hl K S N A _ (k + 1) [] true rfl (by show k + 1 ≤ p.src.length; omega) (by simp)
 simp only [Tr.val,PS.at] at this ⊢
 rw [zb9 (by omega) (by omega),show ((k : Int) + 1) = ((k + 1 : Nat) : Int) by omega]
 exact this
end Go.Proofs.YtfdklpkfpmkgeaaGreatDoor
end
section
namespace Go.Proofs.YtfdklpkfpmkgeaaGreatDoor
open Go Go.Vai
attribute [local irreducible] goTo zaq mkS
variable {C : Nat → Oracle} {o : Out}
abbrev cC0 : AV := (.vs 1 true [(.str [116,121,112,101]),(.str [114,101,103,105,115,116,101,114]),(.str [99,111,117,110,116,101,114]),(.str [109,97,120]),(.str [115,101,116]),(.str [102,108,97,103]),(.str [111,112]),(.str [113,117,101,114,121]),(.str [105,110,100,101,120]),(.str [119,114,105,116,101]),(.str [97,100,100]),(.str [114,97,105,115,101]),(.str [105,110,115,101,114,116]),(.str [109,97,114,107]),(.str [105,102]),(.str [101,108,115,101]),(.str [105,110,116]),(.str [116,101,120,116]),(.str [98,111,111,108]),(.str [116,114,117,101]),(.str [102,97,108,115,101]),(.str [104,97,115]),(.str [115,105,122,101])])
theorem p147_c (hC : Ext C) {s_1 : List UInt8} (ho : RL C 147 [] (mk0 6 [vt 0 s_1]) = some o) : calL C 147 [(.str s_1)] Hp.none 0 = some o := hC.call rfl (fun _ _ => by kernel_rfl) ho
theorem p147_0 {s_1 : List UInt8} (ho : Tr.val C 147
(cl0 185 [(.vs 1 true [(.str [116,121,112,101]),(.str [114,101,103,105,115,116,101,114]),(.str [99,111,117,110,116,101,114]),(.str [109,97,120]),(.str [115,101,116]),(.str [102,108,97,103]),(.str [111,112]),(.str [113,117,101,114,121]),(.str [105,110,100,101,120]),(.str [119,114,105,116,101]),(.str [97,100,100]),(.str [114,97,105,115,101]),(.str [105,110,115,101,114,116]),(.str [109,97,114,107]),(.str [105,102]),(.str [101,108,115,101]),(.str [105,110,116]),(.str [116,101,120,116]),(.str [98,111,111,108]),(.str [116,114,117,101]),(.str [102,97,108,115,101]),(.str [104,97,115]),(.str [115,105,122,101])]),(.str s_1)] fun r1 => .br (AV.pure r1.v)
(.mid 0 [0,5,0] 3 (mkS 6 [vt 0 s_1,vv 3 cC0,vt 4 s_1,vv 5 r1.v] [] Hp.none 0)) .none) = some o) : RL C 147 [] (mk0 6 [vt 0 s_1]) = some o := stR C 4 (fun _ _ => by kernel_rfl) ho
theorem p147_1 {s_1 : List UInt8} {c_2 : Bool} (ho : Tr.val C 147
(rt (.bool c_2)) = some o) : ML C 147 [0,5,0] 3 (mkS 6 [vt 0 s_1,vv 3 cC0,vt 4 s_1,vb 5 c_2] [] Hp.none 0) = some o := stM C 1 (fun _ _ => by kernel_rfl) ho
theorem p185_c (hC : Ext C) {tg_3 : Bool} {l_4 : List AV} {s_5 : List UInt8} (ho : RL C 185 [] (mk0 9 [vv 0 (.vs 1 tg_3 l_4),vt 1 s_5]) = some o) : calL C 185 [(.vs 1 tg_3 l_4),(.str s_5)] Hp.none 0 = some o := hC.call rfl (fun _ _ => by kernel_rfl) ho
theorem p185_0 {tg_3 : Bool} {l_4 : List AV} {s_5 : List UInt8} (ho : Tr.val C 185
(cl0 212 [(.vs 1 tg_3 l_4),(.str s_5)] fun r1 => .br (AV.pure r1.v)
(.mid 0 [0,5,0] 3 (mk0 9 [vv 0 (.vs 1 tg_3 l_4),vt 1 s_5,vv 5 (.vs 1 tg_3 l_4),vt 6 s_5,vv 7 r1.v])) .none) = some o) : RL C 185 [] (mk0 9 [vv 0 (.vs 1 tg_3 l_4),vt 1 s_5]) = some o := stR C 4 (fun _ _ => by kernel_rfl) ho
theorem p185_1 {tg_3 : Bool} {l_4 : List AV} {s_5 : List UInt8} {x_6 : Int} (ho : Tr.val C 185
(rt (.bool (decide (0 ≤ x_6)))) = some o) : ML C 185 [0,5,0] 3 (mk0 9 [vv 0 (.vs 1 tg_3 l_4),vt 1 s_5,vv 5 (.vs 1 tg_3 l_4),vt 6 s_5,vi 7 x_6]) = some o := stM C 1 (fun _ _ => by kernel_rfl) ho
theorem p212_c (hC : Ext C) {tg_7 : Bool} {l_8 : List AV} {s_9 : List UInt8} (ho : RL C 212 [] (mk0 19 [vv 0 (.vs 1 tg_7 l_8),vt 1 s_9]) = some o) : calL C 212 [(.vs 1 tg_7 l_8),(.str s_9)] Hp.none 0 = some o := hC.call rfl (fun _ _ => by kernel_rfl) ho
theorem p212_0 {tg_7 : Bool} {l_8 : List AV} {s_9 : List UInt8} (ho : Tr.val C 212
(.run 0 [0,5,0,0,5,2,3] (mk0 19 [vv 0 (.vs 1 tg_7 l_8),vt 1 s_9,vi 7 (l_8.length : Int),vi 8 0])) = some o) : RL C 212 [] (mk0 19 [vv 0 (.vs 1 tg_7 l_8),vt 1 s_9]) = some o := stR C 7 (fun _ _ => by kernel_rfl) ho
theorem p212_1 {tg_10 : Bool} {l_11 : List AV} {s_12 : List UInt8} {x_13 x_14 : Int} (ho : Tr.val C 212
(.br (decide (x_14 < x_13))
(ix l_11 x_14 fun c1 =>
(.mid 0 [0,5,0,0,5,2,3,0,5,0,6,5,0,2,0,5,0] 4 (mk0 19 [vv 0 (.vs 1 tg_10 l_11),vt 1 s_12,vi 5 x_14,vi 7 x_13,vi 8 x_14,vt 11 s_12,vv 12 (.vs 1 tg_10 l_11),vi 13 x_14,vv 14 (.cptr (AV.cells c1))])))
(rt (i6 (-1)))) = some o) : RL C 212 [0,5,0,0,5,2,3] (mk0 19 [vv 0 (.vs 1 tg_10 l_11),vt 1 s_12,vi 7 x_13,vi 8 x_14]) = some o := stR C 11 (fun _ _ => by kernel_rfl) ho
theorem p212_2 {tg_10 : Bool} {l_11 : List AV} {s_12 s_15 : List UInt8} {x_13 x_14 : Int} (ho : Tr.val C 212
(.br (eqS s_12 s_15)
(rt (i6 x_14))
(.run 0 [0,5,0,0,5,2,3] (mk0 19 [vv 0 (.vs 1 tg_10 l_11),vt 1 s_12,vi 7 x_13,vi 8 (w64 (x_14 + 1))]))) = some o) : ML C 212 [0,5,0,0,5,2,3,0,5,0,6,5,0,2,0,5,0] 4 (mk0 19 [vv 0 (.vs 1 tg_10 l_11),vt 1 s_12,vi 5 x_14,vi 7 x_13,vi 8 x_14,vt 11 s_12,vv 12 (.vs 1 tg_10 l_11),vi 13 x_14,vv 14 (.cptr [(.str s_15)])]) = some o := stM C 5 (fun _ _ => by kernel_rfl) ho
theorem p146_c (hC : Ext C) {s_16 s_17 : List UInt8} (ho : RL C 146 [] (mk0 8 [vt 0 s_16,vt 1 s_17]) = some o) : calL C 146 [(.str s_16),(.str s_17)] Hp.none 0 = some o := hC.call rfl (fun _ _ => by kernel_rfl) ho
theorem p146_0 {s_16 s_17 : List UInt8} (ho : Tr.val C 146
(cl0 184 [(.str s_16),(.str s_17)] fun r1 => .br (AV.pure r1.v)
(.mid 0 [0,5,0] 3 (mk0 8 [vt 0 s_16,vt 1 s_17,vt 5 s_16,vt 6 s_17,vv 7 r1.v])) .none) = some o) : RL C 146 [] (mk0 8 [vt 0 s_16,vt 1 s_17]) = some o := stR C 4 (fun _ _ => by kernel_rfl) ho
theorem p146_1 {s_16 s_17 : List UInt8} {c_18 : Bool} (ho : Tr.val C 146
(rt (.bool c_18)) = some o) : ML C 146 [0,5,0] 3 (mk0 8 [vt 0 s_16,vt 1 s_17,vt 5 s_16,vt 6 s_17,vb 7 c_18]) = some o := stM C 1 (fun _ _ => by kernel_rfl) ho
theorem p184_c (hC : Ext C) {s_19 s_20 : List UInt8} (ho : RL C 184 [] (mk0 18 [vt 0 s_19,vt 1 s_20]) = some o) : calL C 184 [(.str s_19),(.str s_20)] Hp.none 0 = some o := hC.call rfl (fun _ _ => by kernel_rfl) ho
theorem p184_0 {s_19 s_20 : List UInt8} (ho : Tr.val C 184
(.br (decide ((s_20.length : Int) ≤ (s_19.length : Int)))
(.br (decide ((0 : Int) ≤ (s_20.length : Int)))
(.br (decide ((s_20.length : Int) ≤ (s_19.length : Int)))
(rt (.bool (eqS (List.drop 0 (List.take (Int.toNat (s_20.length : Int)) s_19)) s_20))) .none) .none)
(rt (.bool false))) = some o) : RL C 184 [] (mk0 18 [vt 0 s_19,vt 1 s_20]) = some o := stR C 5 (fun _ _ => by kernel_rfl) ho
theorem p113_c (hC : Ext C) {s_21 : List UInt8} (ho : RL C 113 [] (mk0 21 [vt 0 s_21]) = some o) : calL C 113 [(.str s_21)] Hp.none 0 = some o := hC.call rfl (fun _ _ => by kernel_rfl) ho
theorem p113_0 {s_21 : List UInt8} (ho : Tr.val C 113
(.br (eqS s_21 [124,124])
(rt (i6 1))
(.br (eqS s_21 [38,38])
(rt (i6 2))
(.br (eqS s_21 [61,61])
(rt (i6 3))
(.br (eqS s_21 [33,61])
(rt (i6 3))
(.br (eqS s_21 [60])
(rt (i6 3))
(.br (eqS s_21 [60,61])
(rt (i6 3))
(.br (eqS s_21 [62])
(rt (i6 3))
(.br (eqS s_21 [62,61])
(rt (i6 3))
(.br (eqS s_21 [104,97,115])
(rt (i6 3))
(.br (eqS s_21 [43])
(rt (i6 4))
(.br (eqS s_21 [45])
(rt (i6 4))
(.br (eqS s_21 [42])
(rt (i6 5))
(rt (i6 0)))))))))))))) = some o) : RL C 113 [] (mk0 21 [vt 0 s_21]) = some o := stR C 47 (fun _ _ => by kernel_rfl) ho
end Go.Proofs.YtfdklpkfpmkgeaaGreatDoor
end
section
namespace Go.Proofs.YtfdklpkfpmkgeaaGreatDoor
open Go Go.Vai
attribute [local irreducible] goTo zaq mkS
def idxS (s : List UInt8) : List (List UInt8)→Nat→Int
 | [],_=>-1
 | w :: r,i=>if s = w then (i : Int) else idxS s r (i + 1)
theorem zpf (s : List UInt8) : ∀ (l : List (List UInt8)) (i : Nat),(0 ≤ idxS s l i) = (s ∈ l)
 | [],i=>by simp [idxS]
 | w :: r,i=>by
  unfold idxS
  split
  ·rename_i h; simp [h]
  ·rename_i h; rw [zpf s r (i + 1)]; simp [h]
theorem zs8 (l : List (List UInt8)) : zab (l.map AV.str) = true:=by
 induction l with
 | nil=>rfl
 | cons x l ih=>rw [List.map_cons,zc4,ih]; rfl
def hasP (s p : List UInt8) : Bool := eqS (s.take p.length) p
def ziv (s : List UInt8) : Int :=
 if s = [124,124] then 1 else if s = [38,38] then 2
 else if s = [61,61] ∨ s = [33,61] ∨ s = [60] ∨ s = [60,61] ∨ s = [62] ∨ s = [62,61] ∨ s = [104,97,115] then 3
 else if s = [43] ∨ s = [45] then 4 else if s = [42] then 5 else 0
theorem et {R : Type} {a b : List UInt8} {x y z : Option R} (h : a = b) (e : x = z) : Vai.br (eqS a b) x y = z := (br_t ((zcx a b).2 h)).trans e
theorem ef {R : Type} {a b : List UInt8} {x y z : Option R} (h : ¬ a = b) (e : y = z) : Vai.br (eqS a b) x y = z := (br_f (by rw [Bool.eq_false_iff]; exact fun he=>h ((zcx a b).1 he))).trans e
variable {C : Nat→Oracle} (hC : Ext C) {T : Hp} {nx : Nat}
theorem idx_loop (s : List UInt8) (tg : Bool) (l : List (List UInt8)) (hl : l.length ≤ 4000) : ∀ (r : List (List UInt8)) (i : Nat),l.drop i = r→i ≤ l.length →
  RL C 212 [0,5,0,0,5,2,3] (mkS 19 [(0,.val (.vs 1 tg (l.map AV.str)) .no),(1,.val (.str s) .no),(7,.val (.int .i64 (l.length : Int)) .no),(8,.val (.int .i64 (i : Int)) .no)] [] Hp.none 0) =
   some ⟨.int .i64 (idxS s r i),Hp.none,0⟩:=by
 intro r
 induction r with
 | nil =>
  intro i hi hil
  have := zaj _ _ hil hi
  refine p212_1 ?_
  simp only [Tr.val,idxS]
  exact bF (by omega) rfl
 | cons w r ih =>
  intro i hi hil
  obtain ⟨h1,h2,h3⟩ := zau _ _ hi
  refine p212_1 ?_
  simp only [Tr.val,idxS,List.length_map,Int.toNat_natCast]
  refine bT (by omega) (bT (by omega) (bT (by omega) (bnd (x := .str w) (by rw [zcc,List.getElem?_map,h1]; rfl) ?_)))
  refine p212_2 ?_
  simp only [Tr.val]
  by_cases h : s = w
  ·rw [if_pos h]; exact et h rfl
  ·rw [if_neg h]
   refine ef h ?_
   rw [zb9 (by omega) (by omega),show ((i : Int) + 1) = ((i + 1 : Nat) : Int) by omega]
   exact ih (i + 1) h2 (by omega)
include hC
theorem l212 (s : List UInt8) (tg : Bool) (l : List (List UInt8)) (hl : l.length ≤ 4000) : calL C 212 [.vs 1 tg (l.map AV.str),.str s] Hp.none 0 = some ⟨.int .i64 (idxS s l 0),Hp.none,0⟩:=by
 refine p212_c hC (p212_0 ?_)
 have := idx_loop (C := C) s tg l hl l 0 rfl (Nat.zero_le _)
 simp only [Tr.val,List.length_map]
 exact this
theorem l185 (s : List UInt8) (tg : Bool) (l : List (List UInt8)) (hl : l.length ≤ 4000) : calL C 185 [.vs 1 tg (l.map AV.str),.str s] Hp.none 0 = some ⟨.bool (decide (s ∈ l)),Hp.none,0⟩:=by
 refine p185_c hC (p185_0 ?_)
 simp only [Tr.val,zab,AV.pure,zs8,za0]
 rw [l212 hC s tg l hl]
 simp only [Option.bind_some,AV.pure,za0]
 refine p185_1 ?_
 simp only [Tr.val,zpf]
def kwL : List (List UInt8) := [[116,121,112,101],[114,101,103,105,115,116,101,114],[99,111,117,110,116,101,114],[109,97,120],[115,101,116],[102,108,97,103],[111,112],[113,117,101,114,121],[105,110,100,101,120],[119,114,105,116,101],[97,100,100],[114,97,105,115,101],[105,110,115,101,114,116],[109,97,114,107],[105,102],[101,108,115,101],[105,110,116],[116,101,120,116],[98,111,111,108],[116,114,117,101],[102,97,108,115,101],[104,97,115],[115,105,122,101]]
theorem l147 (s : List UInt8) : calL C 147 [.str s] Hp.none 0 = some ⟨.bool (decide (s ∈ kwL)),Hp.none,0⟩:=by
 refine p147_c hC (p147_0 ?_)
 simp only [Tr.val,zab,AV.pure,za0]
 have := l185 hC s true kwL (by decide)
 refine bnd this ?_
 simp only [AV.pure,za0]
 refine p147_1 ?_
 simp only [Tr.val]
theorem l184 (s p : List UInt8) : calL C 184 [.str s,.str p] Hp.none 0 = some ⟨.bool (hasP s p),Hp.none,0⟩:=by
 refine p184_c hC (p184_0 ?_)
 simp only [Tr.val,hasP]
 by_cases h : p.length ≤ s.length
 ·exact bT (by omega) (bT (by omega) (bT (by omega) (by rw [Int.toNat_natCast,List.drop_zero])))
 ·refine bF (by omega) ?_
  have : eqS (s.take p.length) p = false:=by
   rw [Bool.eq_false_iff]
   intro he
   have := congrArg List.length ((zcx _ _).1 he)
   rw [List.length_take] at this
   omega
  rw [this]
theorem l146 (s p : List UInt8) : calL C 146 [.str s,.str p] Hp.none 0 = some ⟨.bool (hasP s p),Hp.none,0⟩:=by
 refine p146_c hC (p146_0 ?_)
 simp only [Tr.val,zab,AV.pure,za0]
 rw [l184 hC]
 simp only [Option.bind_some,AV.pure,za0]
 refine p146_1 ?_
 simp only [Tr.val]
theorem l113 (s : List UInt8) : calL C 113 [.str s] Hp.none 0 = some ⟨.int .i64 (ziv s),Hp.none,0⟩:=by
 refine p113_c hC (p113_0 ?_)
 simp only [Tr.val,ziv]
 by_cases h1 : s = [124,124]
 ·rw [if_pos h1]; exact et h1 rfl
 rw [if_neg h1]; refine ef h1 ?_
 by_cases h2 : s = [38,38]
 ·rw [if_pos h2]; exact et h2 rfl
 rw [if_neg h2]; refine ef h2 ?_
 by_cases h3 : s = [61,61] ∨ s = [33,61] ∨ s = [60] ∨ s = [60,61] ∨ s = [62] ∨ s = [62,61] ∨ s = [104,97,115]
 ·rw [if_pos h3]
  rcases h3 with rfl | rfl | rfl | rfl | rfl | rfl | rfl <;> rfl
 rw [if_neg h3]
 have h3 : ¬ s = [61,61]∧¬ s = [33,61]∧¬ s = [60]∧¬ s = [60,61]∧¬ s = [62]∧¬ s = [62,61]∧¬ s = [104,97,115] := by simpa using h3
 obtain ⟨a1,a2,a3,a4,a5,a6,a7⟩ := h3
 refine ef a1 (ef a2 (ef a3 (ef a4 (ef a5 (ef a6 (ef a7 ?_))))))
 by_cases h4 : s = [43] ∨ s = [45]
 ·rw [if_pos h4]
  rcases h4 with rfl | rfl <;> rfl
 rw [if_neg h4]
 have h4 : ¬ s = [43]∧¬ s = [45] := by simpa using h4
 refine ef h4.1 (ef h4.2 ?_)
 by_cases h5 : s = [42]
 ·rw [if_pos h5]; exact et h5 rfl
 ·rw [if_neg h5]; exact ef h5 rfl
end Go.Proofs.YtfdklpkfpmkgeaaGreatDoor
end
section
namespace Go.Proofs.YtfdklpkfpmkgeaaGreatDoor
open Go Go.Vai
attribute [local irreducible] goTo zaq mkS
def numS (w : List UInt8) : Option Int := match Lib.parseIntB 64 w with
 | .ok u=>if 1 < w.length∧w.head? = some 48 then none else some u
 | _=>none
structure NT where
 kind : Int
 s : List UInt8
 n : Int
 at_ : Nat
 err : Int
 pos : Nat
def tokS (src : List UInt8) (a : Nat) : NT :=
 match src.drop a with
 | []=>⟨0,[],0,a,0,a⟩
 | c :: r =>
  if zns c then ⟨1,(c :: r).takeWhile isLD,0,a,0,a + ((c :: r).takeWhile isLD).length⟩
  else if zdq c then match numS ((c :: r).takeWhile zdq) with
   | some v=>⟨2,[],v,a,0,a + ((c :: r).takeWhile zdq).length⟩
   | none=>⟨2,[],0,a,9,a + ((c :: r).takeWhile zdq).length⟩
  else if c.toNat = 34 then match zca r with
   | none=>⟨3,[],0,a,11,a⟩
   | some (w,m)=>if 32 < w.length then ⟨3,[],0,a,3,a + 1 + m⟩ else ⟨3,w,0,a,0,a + 1 + m⟩
  else match zeu.find? (hasP (c :: r)) with
   | some s=>⟨4,s,0,a,0,a + s.length⟩
   | none=>⟨0,[],0,a,11,a⟩
def zcf (src : List UInt8) (k : Nat) : NT := tokS src (k + zbs false (src.drop k))
variable {C : Nat→Oracle} (hC : Ext C) {T : Hp} {nx : Nat}
def ntO (p : PS) (t : NT) (T : Hp) (nx : Nat) : Out := ⟨.tuple [zq6 t.kind t.s t.n t.at_,.int .i64 t.err],hp (p.at t.pos) T,nx⟩
include hC
theorem zsk (p : PS) (hl : p.src.length ≤ 4000) (a : Nat) (ha : a ≤ p.src.length) : ∀ (r : List (List UInt8)) (i : Nat),zeu.drop i = r→i ≤ 19 →
  RL C 79 [0,5,0,5,0,5,0,0,5,7,5,0,5,0,2,0,5,7,0,5,7,0,5,7,5,5,0,0,5,2,3] (mkS 114 [(0,.val (.ptr 0 0) .no),(2,.lp 2 0),(4,.lp 4 0),(82,.val (.vs 1 true (zeu.map AV.str)) .no),(83,.val (.int .i64 (19)) .no),(84,.val (.int .i64 (i : Int)) .no)] [(2,⟨[(.int .i64 (0)),(.str []),(.int .i64 (0)),(.int .i64 (0))],[]⟩),(4,⟨[(.int .i64 (0)),(.str []),(.int .i64 (0)),(.int .i64 (a : Int))],[]⟩)] (hp (p.at a) T) nx) =
   some (ntO p (match r.find? (hasP (p.src.drop a)) with
    | some s=>⟨4,s,0,a,0,a + s.length⟩
    | none=>⟨0,[],0,a,11,a⟩) T nx):=by
 intro r
 induction r with
 | nil =>
  intro i hi hil
  have := zaj zeu i hil hi
  have hs : zeu.length = 19 := rfl
  refine p79_7 ?_
  simp only [Tr.val]
  exact bF (by omega) rfl
 | cons w r ih =>
  intro i hi hil
  obtain ⟨h1,h2,h3⟩ := zau _ _ hi
  have hs : zeu.length = 19 := rfl
  refine p79_7 ?_
  simp only [Tr.val,List.length_map,Int.toNat_natCast]
  refine bT (by omega) (bT (by omega) (bT (by omega) (bnd (x := .str w) (by rw [zcc,List.getElem?_map,h1]; rfl) ?_)))
  refine p79_10 ?_
  simp only [Tr.val,PS.at,Int.toNat_natCast,List.take_length,zab,AV.pure,za0,l146 hC,Option.bind_some]
  refine bT (by omega) (bT (by omega) ?_)
  refine p79_11 ?_
  rw [List.find?_cons]
  have hw : w.length ≤ 2:=by
   have : w ∈ zeu := List.mem_of_mem_drop (by rw [hi]; exact List.mem_cons_self ..)
   exact (by decide : ∀ w ∈ zeu,w.length ≤ 2) w this
  cases hp : hasP (p.src.drop a) w
  ·simp only [Tr.val,zam]
   rw [zb9 (by omega) (by omega),show ((i : Int) + 1) = ((i + 1 : Nat) : Int) by omega]
   exact ih (i + 1) h2 (by omega)
  ·simp only [Tr.val,za0]
   rw [zb9 (by omega) (by omega),show ((a : Int) + (w.length : Int)) = ((a + w.length : Nat) : Int) by omega]
   rfl
theorem l79 (p : PS) (hl : p.src.length ≤ 4000) (k : Nat) (hk : k + zbs false (p.src.drop k) ≤ p.src.length) (hk' : k ≤ p.src.length) :
  calL C 79 [.ptr 0 0] (hp (p.at k) T) nx = some (ntO p (zcf p.src k) T nx):=by
 refine p79_c hC (p79_0 ?_)
 simp only [Tr.val,l139 hC p hl k hk',Option.bind_some]
 unfold zcf
 generalize k + zbs false (p.src.drop k) = a at hk
 refine p79_1 ?_
 simp only [Tr.val,PS.at,Int.toNat_natCast]
 unfold tokS
 cases hd : p.src.drop a with
 | nil =>
  have := zaj _ _ hk hd
  exact bT (by omega) rfl
 | cons c r =>
  obtain ⟨h1,h2,h3⟩ := zau _ _ hd
  refine bF (by omega) (bT (by omega) (bnd h1 ?_))
  simp only [zab,AV.pure,za0,l140 hC,Option.bind_some]
  refine p79_2 ?_
  have w142 := l141f142 (T := T) (nx := nx) hC p hl a hk
  have w143 := l141f143 (T := T) (nx := nx) hC p hl a hk
  rw [hd] at w142 w143
  simp only [PS.at] at w142 w143
  cases hlt : zns c
  ·simp only [Tr.val,zam,zab,AV.pure,za0,l143 hC,Option.bind_some]
   refine p79_4 ?_
   cases hdg : zdq c
   ·simp only [Tr.val,zam,Bool.false_eq_true,if_false]
    by_cases e34 : c.toNat = 34
    ·refine bT (by omega) ?_
     rw [if_pos e34]
     have := l145 (T := T) (nx := nx) hC p hl a h3 3 [] 0 a
     simp only [PS.at,h2] at this
     rw [this]
     cases ht : zca r with
     | none=>exact p79_6 rfl
     | some x =>
      obtain ⟨w,m⟩ := x
      simp only [zm8,List.nil_append,Option.bind_some]
      by_cases h32 : 32 < w.length
      ·simp only [if_pos h32,PS.at]
       exact p79_6 rfl
      ·simp only [if_neg h32,PS.at]
       exact p79_6 rfl
    ·refine bF (by omega) ?_
     rw [if_neg e34]
     have := zsk (T := T) (nx := nx) hC p hl a hk zeu 0 rfl (Nat.zero_le _)
     rw [hd] at this
     exact this
   ·simp only [Tr.val,za0,Bool.false_eq_true,if_false,if_true]
    refine bnd w143 ?_
    refine p79_5 ?_
    generalize hW : (c :: r).takeWhile zdq = W
    have hWl : W.length ≤ 4000:=by
     have h4 : (c :: r).length ≤ p.src.length := by rw [← hd,List.length_drop]; omega
     have h5 : W.length ≤ (c :: r).length := by rw [← hW]; exact (List.takeWhile_sublist _).length_le
     omega
    have hW0 : W ≠ [] := by rw [← hW,List.takeWhile_cons,if_pos hdg]; simp
    obtain ⟨v,e,hp1,hp2,hp3⟩ := hC.pint W (by omega)
    simp only [Tr.val,zab,AV.pure,za0]
    refine bnd hp1 ?_
    simp only [zab,AV.pure,hp2,za0]
    unfold numS
    cases hn : Lib.parseIntB 64 W with
    | ok u =>
     rw [hn] at hp3
     obtain ⟨rfl,rfl⟩ := hp3
     refine p79_8 ?_
     simp only [Tr.val]
     obtain ⟨x,W',rfl⟩ : ∃ x W',W = x :: W':=by
      cases W with
      | nil=>exact absurd rfl hW0
      | cons x W'=>exact ⟨x,W',rfl⟩
     by_cases hl1 : 1 < (x :: W').length
     ·refine bT (by omega) (bnd (x := x) rfl ?_)
      by_cases h48 : x.toNat = 48
      ·refine bT (by omega) ?_
       rw [if_pos ⟨hl1,by rw [List.head?_cons,show x = 48 from UInt8.toNat_inj.1 h48]⟩]
       rfl
      ·refine bF (by omega) ?_
       rw [if_neg (fun h=>h48 (by rw [List.head?_cons] at h; rw [Option.some.inj h.2]; rfl))]
       rfl
     ·refine bF (by omega) ?_
      rw [if_neg (fun h=>hl1 h.1)]
      rfl
    | range =>
     rw [hn] at hp3
     obtain ⟨t,w,rfl⟩ := hp3
     exact p79_9 rfl
    | _ =>
     rw [hn] at hp3
     obtain ⟨t,w,rfl⟩ := hp3
     exact p79_9 rfl
  ·simp only [Tr.val,za0,if_true]
   refine bnd w142 ?_
   exact p79_3 rfl
end Go.Proofs.YtfdklpkfpmkgeaaGreatDoor
end
section
namespace Go.Proofs.YtfdklpkfpmkgeaaGreatDoor
open Go Go.Vai
def PS.fail (p : PS) (e a : Int) : PS := ⟨p.src,p.pos,0,[],0,(p.src.length : Int),p.depth,if p.err = 0 then e else p.err,if p.err = 0 then a else p.eat⟩
def PS.adv (p : PS) : PS :=
 if p.err = 0 then
  if (zcf p.src p.pos.toNat).err = 0 then ⟨p.src,(zcf p.src p.pos.toNat).pos,(zcf p.src p.pos.toNat).kind,(zcf p.src p.pos.toNat).s,(zcf p.src p.pos.toNat).n,(zcf p.src p.pos.toNat).at_,p.depth,p.err,p.eat⟩
  else (p.at (zcf p.src p.pos.toNat).pos).fail (zcf p.src p.pos.toNat).err (zcf p.src p.pos.toNat).at_
 else p
def PS.isW (p : PS) (w : List UInt8) : Bool := decide (p.kind = 1) && eqS p.s w
def PS.isG (p : PS) (w : List UInt8) : Bool := decide (p.kind = 4) && eqS p.s w
def PS.sign (p : PS) (w : List UInt8) : PS := if p.isG w = true then p.adv else p.fail 11 p.tat
def PS.name (p : PS) : PS := if p.kind = 1∧p.s ∉ kwL then if 16 < p.s.length then p.fail 3 p.tat else p.adv else p.fail 11 p.tat
def PS.oneF (p : PS) : List (List UInt8)→Nat→Int × PS
 | [],_=>(0,p.fail 11 p.tat)
 | w :: r,i=>if p.isW w = true then ((i : Int) + 1,p.adv) else p.oneF r (i + 1)
def PS.dep (p : PS) (d : Int) : PS := ⟨p.src,p.pos,p.kind,p.s,p.n,p.tat,p.depth + d,p.err,p.eat⟩
def PS.opn (p : PS) : PS := (if p.depth = 20 then p.fail 3 p.tat else p).dep 1
def PS.cls (p : PS) : PS := p.dep (-1)
theorem zgm : ∀ (b : Bool) (l : List UInt8),zbs b l ≤ l.length
 | b,[]=>by cases b <;> exact Nat.le_refl _
 | false,c :: r=>by
  unfold zbs
  split
  ·exact Nat.succ_le_succ (zgm _ _)
  ·split
   ·exact Nat.succ_le_succ (zgm _ _)
   ·exact Nat.zero_le _
 | true,c :: r=>by
  unfold zbs
  split
  ·exact Nat.succ_le_succ (zgm _ _)
  ·exact Nat.succ_le_succ (zgm _ _)
theorem zlu : ∀ (m : Nat) (l : List UInt8),l.length ≤ m→∀ w k,zca l = some (w,k)→k ≤ l.length
 | m,[],_,w,k,h=>by rw [zca.eq_def] at h; cases h
 | 0,c :: r,hm,w,k,h=>by simp at hm
 | m + 1,c :: r,hm,w,k,h=>by
  rw [zca.eq_def] at h
  simp only at h
  split at h
  ·injection h with h; injection h with h1 h2; subst h2; simp
  ·split at h
   ·split at h
    ·cases h
    ·rename_i d r'
     split at h
     ·obtain ⟨⟨w',k'⟩,h1,h2⟩ := Option.map_eq_some_iff.1 h
      have := zlu m r' (by simp at hm; omega) w' k' h1
      injection h2 with _ h2
      subst h2
      simp
      omega
     ·cases h
   ·split at h
    ·cases h
    ·obtain ⟨⟨w',k'⟩,h1,h2⟩ := Option.map_eq_some_iff.1 h
     have := zlu m r (by simp at hm; omega) w' k' h1
     injection h2 with _ h2
     subst h2
     simp
     omega
theorem hasP_le {s p : List UInt8} (h : hasP s p = true) : p.length ≤ s.length:=by
 have := congrArg List.length ((zcx _ _).1 h)
 rw [List.length_take] at this
 omega
theorem sign_len {s : List UInt8} (h : s ∈ zeu) : 1 ≤ s.length∧s.length ≤ 2 := (by decide : ∀ w ∈ zeu,1 ≤ w.length∧w.length ≤ 2) s h
structure TokOk (src : List UInt8) (a : Nat) (t : NT) : Prop where
 le : t.pos ≤ src.length
 ge : a ≤ t.pos
 gt : t.err = 0→t.kind ≠ 0→a < t.pos
 fin : t.err = 0→t.kind = 0→t.pos = src.length
 s0 : t.kind = 0→t.s = []
 at_ : t.at_ = a
 lt : a < src.length ∨ (t.err = 0∧t.kind = 0)
theorem tokS_ok (src : List UInt8) (a : Nat) (ha : a ≤ src.length) : TokOk src a (tokS src a):=by
 unfold tokS
 cases hd : src.drop a with
 | nil =>
  have := zaj _ _ ha hd
  exact ⟨ha,Nat.le_refl _,fun _ h=>absurd rfl h,fun _ _=>this,fun _=>rfl,rfl,.inr ⟨rfl,rfl⟩⟩
 | cons c r =>
  obtain ⟨h1,h2,h3⟩ := zau _ _ hd
  have hlen : (c :: r).length = src.length - a := by rw [← hd,List.length_drop]
  have hw : ∀ P : UInt8→Bool,((c :: r).takeWhile P).length ≤ (c :: r).length := fun P=>(List.takeWhile_sublist _).length_le
  have hw1 : ∀ P : UInt8→Bool,P c = true→1 ≤ ((c :: r).takeWhile P).length := fun P hP=>by rw [List.takeWhile_cons,if_pos hP]; simp
  dsimp only
  split
  ·rename_i hc
   have i1 := hw isLD
   have i2 := hw1 isLD (by unfold isLD; rw [hc]; rfl)
   exact ⟨by simp only; omega,by simp only; omega,fun _ _=>by simp only; omega,fun _ h=>(by cases h),fun h=>(by cases h),rfl,.inl h3⟩
  ·split
   ·rename_i hc
    have i1 := hw zdq
    have i2 := hw1 zdq hc
    split
    ·exact ⟨by simp only; omega,by simp only; omega,fun _ _=>by simp only; omega,fun _ h=>(by cases h),fun h=>(by cases h),rfl,.inl h3⟩
    ·exact ⟨by simp only; omega,by simp only; omega,fun h=>(by cases h),fun h=>(by cases h),fun h=>(by cases h),rfl,.inl h3⟩
   ·split
    ·split
     ·exact ⟨ha,Nat.le_refl _,fun h=>(by cases h),fun h=>(by cases h),fun h=>(by cases h),rfl,.inl h3⟩
     ·rename_i w m ht
      have := zlu _ r (Nat.le_refl _) w m ht
      simp only [List.length_cons] at hlen
      split
      ·exact ⟨by simp only; omega,by simp only; omega,fun h=>(by cases h),fun h=>(by cases h),fun h=>(by cases h),rfl,.inl h3⟩
      ·exact ⟨by simp only; omega,by simp only; omega,fun _ _=>by simp only; omega,fun _ h=>(by cases h),fun h=>(by cases h),rfl,.inl h3⟩
    ·split
     ·rename_i s hs
      have i1 := sign_len (List.mem_of_find?_eq_some hs)
      have i2 := hasP_le (List.find?_some hs)
      exact ⟨by simp only; omega,by simp only; omega,fun _ _=>by simp only; omega,fun _ h=>(by cases h),fun h=>(by cases h),rfl,.inl h3⟩
     ·exact ⟨ha,Nat.le_refl _,fun h=>(by cases h),fun h=>(by cases h),fun _=>rfl,rfl,.inl h3⟩
theorem ztg (src : List UInt8) (k : Nat) (hk : k ≤ src.length) : k + zbs false (src.drop k) ≤ src.length:=by
 have := zgm false (src.drop k)
 rw [List.length_drop] at this
 omega
theorem zpk (src : List UInt8) (k : Nat) (hk : k ≤ src.length) : TokOk src (k + zbs false (src.drop k)) (zcf src k) := tokS_ok _ _ (ztg _ _ hk)
structure Ok (p : PS) : Prop where
 len : p.src.length ≤ 4000
 pos : ∃ k : Nat,p.pos = k∧k ≤ p.src.length
 tok : p.err ≠ 0→p.kind = 0
 s0 : p.kind = 0→p.s = []
 d0 : 0 ≤ p.depth
 d1 : p.depth ≤ 21
 d2 : p.err = 0→p.depth ≤ 20
theorem Ok.at {p : PS} (h : Ok p) : ∃ k : Nat,p = p.at k∧p.pos.toNat = k∧k ≤ p.src.length:=by
 obtain ⟨k,hk,hl⟩ := h.pos
 refine ⟨k,?_,by omega,hl⟩
 cases p
 simp only [PS.at] at *
 rw [hk]
def mu (p : PS) : Nat := if p.err = 0 then 2 * (p.src.length - p.pos.toNat) + (if p.kind = 0 then 1 else 2) else 0
theorem PS.fail_ok {p : PS} (h : Ok p) {e a : Int} (he : e ≠ 0) : Ok (p.fail e a):=by
 refine ⟨h.len,h.pos,fun _=>rfl,fun _=>rfl,h.d0,h.d1,?_⟩
 intro h0
 simp only [PS.fail] at h0 ⊢
 split at h0
 ·exact absurd h0 he
 ·contradiction
theorem zr5 {p : PS} (h : p.err ≠ 0) : mu p = 0 := by unfold mu; rw [if_neg h]
theorem PS.fail_err (p : PS) {e : Int} (a : Int) (he : e ≠ 0) : (p.fail e a).err ≠ 0:=by
 simp only [PS.fail]
 split
 ·exact he
 ·assumption
theorem PS.fail_mu (p : PS) {e : Int} (a : Int) (he : e ≠ 0) : mu (p.fail e a) = 0 := zr5 (p.fail_err a he)
theorem zrb {p : PS} (h : p.err = 0) : 0 < mu p := by unfold mu; rw [if_pos h]; split <;> omega
theorem PS.adv_src (p : PS) : p.adv.src = p.src := by unfold PS.adv; split; · split <;> rfl
                                                      · rfl
theorem PS.adv_depth (p : PS) : p.adv.depth = p.depth := by unfold PS.adv; split; · split <;> rfl
                                                            · rfl
theorem PS.adv_ok {p : PS} (h : Ok p) : Ok p.adv:=by
 obtain ⟨k,hk,hk2,hkl⟩ := h.at
 have ht := zpk p.src k hkl
 unfold PS.adv
 split
 ·rename_i h0
  rw [hk2]
  split
  ·exact ⟨h.len,⟨_,rfl,ht.le⟩,fun hh=>absurd h0 hh,ht.s0,h.d0,h.d1,h.d2⟩
  ·rename_i he
   have : Ok (p.at (zcf p.src k).pos) := ⟨h.len,⟨_,rfl,ht.le⟩,fun hh=>h.tok hh,h.s0,h.d0,h.d1,h.d2⟩
   exact PS.fail_ok this he
 ·exact h
theorem PS.adv_mu {p : PS} (h : Ok p) : mu p.adv ≤ mu p∧(p.kind ≠ 0→mu p.adv < mu p):=by
 obtain ⟨k,hk,hk2,hkl⟩ := h.at
 have ht := zpk p.src k hkl
 unfold PS.adv
 split
 ·rename_i h0
  rw [hk2]
  split
  ·rename_i he
   have e1 : mu p = 2 * (p.src.length - k) + (if p.kind = 0 then 1 else 2) := by unfold mu; rw [if_pos h0,hk2]
   unfold mu
   simp only [if_pos h0] at e1 ⊢
   rw [hk2,Int.toNat_natCast]
   have i1 := ht.le
   have i2 := ht.ge
   by_cases hk0 : (zcf p.src k).kind = 0
   ·rw [if_pos hk0,ht.fin he hk0]
    constructor
    ·split <;> omega
    ·intro hn; rw [if_neg hn]; omega
   ·rw [if_neg hk0]
    have i3 := ht.gt he hk0
    constructor
    ·split <;> omega
    ·intro hn; rw [if_neg hn]; omega
  ·rename_i he
   rw [PS.fail_mu _ _ he]
   exact ⟨Nat.zero_le _,fun _=>zrb h0⟩
 ·rename_i h0
  exact ⟨Nat.le_refl _,fun hk=>absurd (h.tok h0) hk⟩
end Go.Proofs.YtfdklpkfpmkgeaaGreatDoor
end
section
namespace Go.Proofs.YtfdklpkfpmkgeaaGreatDoor
open Go Go.Vai
inductive Ex where
 | mk (kind n : Int) (s : List UInt8) (tg : Bool) (l : List Ex) (a : Int)
mutual
def Ex.av : Ex→AV
 | .mk k n s tg l a=>.agg [.int .i64 k,.int .i64 n,.str s,.vs 5 tg (exs l),.int .i64 a]
def exs : List Ex→List AV
 | []=>[]
 | e :: l=>e.av :: exs l
end
def wTrue : List UInt8 := [116,114,117,101]
def zpu : List UInt8 := [102,97,108,115,101]
def wSize : List UInt8 := [115,105,122,101]
mutual
def binF : Nat→Nat→PS→Option (Ex × PS)
 | 0,_,_=>none
 | f + 1,n,p=>if n = 6 then unF f p else (binF f (n + 1) p).bind fun r=>binL f n r.1 r.2
def binL : Nat→Nat→Ex→PS→Option (Ex × PS)
 | 0,_,_,_=>none
 | f + 1,n,e,p =>
  if p.kind ≠ 3∧ziv p.s = (n : Int) then
   (binF f (n + 1) p.adv).bind fun r=>if n = 3 then some (.mk 7 0 p.s false [e,r.1] p.tat,r.2) else binL f n (.mk 7 0 p.s false [e,r.1] p.tat) r.2
  else some (e,p)
def unF : Nat→PS→Option (Ex × PS)
 | 0,_=>none
 | f + 1,p=>if p.isG [45] = true ∨ p.isG [33] = true then (unF f p.opn.adv).bind fun r=>some (.mk 6 0 p.s true [r.1] p.tat,r.2.cls) else priF f p
def priF : Nat→PS→Option (Ex × PS)
 | 0,_=>none
 | f + 1,p =>
  if p.kind = 2 then some (.mk 1 p.n [] true [] p.tat,p.adv)
  else if p.kind = 3 then some (.mk 2 0 p.s true [] p.tat,p.adv)
  else if p.isW wTrue = true then some (.mk 3 1 [] true [] p.tat,p.adv)
  else if p.isW zpu = true then some (.mk 3 0 [] true [] p.tat,p.adv)
  else if p.isW wSize = true then some (.mk 5 0 (p.adv.sign [40]).s true [] p.tat,(p.adv.sign [40]).name.sign [41])
  else if p.isG [40] = true then (binF f 1 p.opn.adv).bind fun r=>some (r.1,r.2.cls.sign [41])
  else some (.mk 4 0 p.s true [] p.tat,p.name)
end
structure Keep (p q : PS) : Prop where
 ok : Ok q
 src : q.src = p.src
 dep : q.depth = p.depth
 mu : mu q ≤ mu p
theorem Keep.refl {p : PS} (h : Ok p) : Keep p p := ⟨h,rfl,rfl,Nat.le_refl _⟩
theorem Keep.trans {p q r : PS} (a : Keep p q) (b : Keep q r) : Keep p r := ⟨b.ok,b.src.trans a.src,b.dep.trans a.dep,Nat.le_trans b.mu a.mu⟩
theorem Keep.adv {p : PS} (h : Ok p) : Keep p p.adv := ⟨PS.adv_ok h,p.adv_src,p.adv_depth,(PS.adv_mu h).1⟩
theorem Keep.fail {p : PS} (h : Ok p) {e a : Int} (he : e ≠ 0) : Keep p (p.fail e a) := ⟨PS.fail_ok h he,rfl,rfl,by rw [PS.fail_mu _ _ he]; exact Nat.zero_le _⟩
theorem Keep.sign {p : PS} (h : Ok p) (w : List UInt8) : Keep p (p.sign w):=by
 unfold PS.sign
 split
 ·exact Keep.adv h
 ·exact Keep.fail h (by decide)
theorem Keep.name {p : PS} (h : Ok p) : Keep p p.name:=by
 unfold PS.name
 split
 ·split
  ·exact Keep.fail h (by decide)
  ·exact Keep.adv h
 ·exact Keep.fail h (by decide)
theorem Keep.oneF {p : PS} (h : Ok p) : ∀ (l : List (List UInt8)) (i : Nat),Keep p (p.oneF l i).2
 | [],_=>Keep.fail h (by decide)
 | w :: r,i=>by
  unfold PS.oneF
  split
  ·exact Keep.adv h
  ·exact Keep.oneF h r (i + 1)
theorem zia {p : PS} {w : List UInt8} (h : p.isW w = true) : p.kind = 1:=by
 unfold PS.isW at h
 rw [Bool.and_eq_true] at h
 simpa using h.1
theorem zfl {p : PS} {w : List UInt8} (h : p.isG w = true) : p.kind = 4:=by
 unfold PS.isG at h
 rw [Bool.and_eq_true] at h
 simpa using h.1
theorem Ok.err0 {p : PS} (h : Ok p) (hk : p.kind ≠ 0) : p.err = 0:=by
 by_cases he : p.err = 0
 ·exact he
 ·exact absurd (h.tok he) hk
theorem zq2 {p : PS} (h : Ok p) (hk : p.kind ≠ 0) : Ok p.opn∧p.opn.src = p.src∧p.opn.depth = p.depth + 1∧mu p.opn ≤ mu p∧(p.opn.kind ≠ 0 ∨ p.opn.err ≠ 0):=by
 have h0 := h.err0 hk
 have h2 := h.d2 h0
 have h1 := h.d0
 unfold PS.opn
 split
 ·rename_i hd
  have hf := PS.fail_ok h (e := 3) (a := p.tat) (by decide)
  have he := p.fail_err (e := 3) p.tat (by decide)
  refine ⟨⟨hf.len,hf.pos,hf.tok,hf.s0,?_,?_,fun h=>absurd h he⟩,rfl,rfl,?_,.inr he⟩
  ·show 0 ≤ p.depth + 1; omega
  ·show p.depth + 1 ≤ 21; omega
  ·rw [zr5 (p := (p.fail 3 p.tat).dep 1) he]; exact Nat.zero_le _
 ·rename_i hd
  refine ⟨⟨h.len,h.pos,h.tok,h.s0,?_,?_,fun _=>?_⟩,rfl,rfl,Nat.le_refl _,.inl hk⟩
  ·show 0 ≤ p.depth + 1; omega
  ·show p.depth + 1 ≤ 21; omega
  ·show p.depth + 1 ≤ 20; omega
theorem zh7 {p : PS} (h : Ok p) (hk : p.kind ≠ 0) : Ok p.opn.adv∧p.opn.adv.src = p.src∧p.opn.adv.depth = p.depth + 1∧mu p.opn.adv < mu p:=by
 obtain ⟨h1,h2,h3,h4,h5⟩ := zq2 h hk
 refine ⟨PS.adv_ok h1,p.opn.adv_src.trans h2,p.opn.adv_depth.trans h3,?_⟩
 rcases h5 with h5 | h5
 ·exact Nat.lt_of_lt_of_le ((PS.adv_mu h1).2 h5) h4
 ·have : p.opn.adv = p.opn := by unfold PS.adv; rw [if_neg h5]
  rw [this,zr5 h5]
  exact zrb (h.err0 hk)
theorem zgo {p q : PS} (h : Ok p) (hq : Ok q) (hs : q.src = p.src) (hd : q.depth = p.depth + 1) (hm : mu q ≤ mu p) : Keep p q.cls:=by
 have h0 := h.d0
 have h1 := hq.d1
 refine ⟨⟨hq.len,hq.pos,hq.tok,hq.s0,?_,?_,fun he=>?_⟩,hs,?_,hm⟩
 ·show 0 ≤ q.depth + -1; omega
 ·show q.depth + -1 ≤ 21; omega
 ·have := hq.d2 he; show q.depth + -1 ≤ 20; omega
 ·show q.depth + -1 = p.depth; omega
theorem zev : ∀ f : Nat,(∀ n p r,Ok p→binF f n p = some r→Keep p r.2)∧(∀ n e p r,Ok p→binL f n e p = some r→Keep p r.2)∧(∀ p r,Ok p→unF f p = some r→Keep p r.2)∧(∀ p r,Ok p→priF f p = some r→Keep p r.2)
 | 0=>⟨fun _ _ _ _ h=>(by rw [binF] at h; cases h),fun _ _ _ _ _ h=>(by rw [binL] at h; cases h),fun _ _ _ h=>(by rw [unF] at h; cases h),fun _ _ _ h=>(by rw [priF] at h; cases h)⟩
 | f + 1=>by
  obtain ⟨i1,i2,i3,i4⟩ := zev f
  refine ⟨fun n p r hp h=>?_,fun n e p r hp h=>?_,fun p r hp h=>?_,fun p r hp h=>?_⟩
  ·rw [binF] at h
   split at h
   ·exact i3 p r hp h
   ·obtain ⟨x,h1,h2⟩ := Option.bind_eq_some_iff.1 h
    have k1 := i1 _ _ _ hp h1
    exact k1.trans (i2 _ _ _ _ k1.ok h2)
  ·rw [binL] at h
   split at h
   ·obtain ⟨x,h1,h2⟩ := Option.bind_eq_some_iff.1 h
    have k0 := Keep.adv hp
    have k1 := k0.trans (i1 _ _ _ k0.ok h1)
    split at h2
    ·injection h2 with h2; subst h2; exact k1
    ·exact k1.trans (i2 _ _ _ _ k1.ok h2)
   ·injection h with h; subst h; exact Keep.refl hp
  ·rw [unF] at h
   split at h
   ·rename_i hg
    have hk : p.kind ≠ 0 := by rcases hg with hg | hg <;> rw [zfl hg] <;> decide
    obtain ⟨x,h1,h2⟩ := Option.bind_eq_some_iff.1 h
    obtain ⟨a1,a2,a3,a4⟩ := zh7 hp hk
    have k1 := i3 _ _ a1 h1
    injection h2 with h2
    subst h2
    exact zgo hp k1.ok (k1.src.trans a2) (k1.dep.trans a3) (by have := k1.mu; omega)
   ·exact i4 p r hp h
  ·rw [priF] at h
   split at h
   ·injection h with h; subst h; exact Keep.adv hp
   split at h
   ·injection h with h; subst h; exact Keep.adv hp
   split at h
   ·injection h with h; subst h; exact Keep.adv hp
   split at h
   ·injection h with h; subst h; exact Keep.adv hp
   split at h
   ·injection h with h; subst h
    have k1 := Keep.adv hp
    have k2 := k1.trans (Keep.sign k1.ok [40])
    have k3 := k2.trans (Keep.name k2.ok)
    exact k3.trans (Keep.sign k3.ok [41])
   split at h
   ·rename_i hg
    obtain ⟨x,h1,h2⟩ := Option.bind_eq_some_iff.1 h
    obtain ⟨a1,a2,a3,a4⟩ := zh7 hp (by rw [zfl hg]; decide)
    have k1 := i1 _ _ _ a1 h1
    injection h2 with h2
    subst h2
    have k2 := zgo hp k1.ok (k1.src.trans a2) (k1.dep.trans a3) (by have := k1.mu; omega)
    exact k2.trans (Keep.sign k2.ok [41])
   ·injection h with h; subst h; exact Keep.name hp
end Go.Proofs.YtfdklpkfpmkgeaaGreatDoor
end
section
namespace Go.Proofs.YtfdklpkfpmkgeaaGreatDoor
open Go Go.Vai
inductive Stm where
 | mk (kind : Int) (field : List UInt8) (v : List Ex) (tg1 : Bool) (th : List Stm) (tg2 : Bool) (el : List Stm) (a : Int)
mutual
def Stm.av : Stm→AV
 | .mk k s v tg1 th tg2 el a=>.agg [.int .i64 k,.str s,.vs 5 true (exs v),.vs 6 tg1 (stms th),.vs 6 tg2 (stms el),.int .i64 a]
def stms : List Stm→List AV
 | []=>[]
 | e :: l=>e.av :: stms l
end
structure Par where
 name : List UInt8
 type : Int
 at_ : Int
def Par.av (x : Par) : AV := .agg [.str x.name,.int .i64 x.type,.int .i64 x.at_]
def wIf : List UInt8 := [105,102]
def wElse : List UInt8 := [101,108,115,101]
def tyL : List (List UInt8) := [[105,110,116],[116,101,120,116],[98,111,111,108]]
def stL : List (List UInt8) := [[119,114,105,116,101],[114,97,105,115,101],[97,100,100],[105,110,115,101,114,116],[109,97,114,107]]
def parF (p : PS) : Par × PS := (⟨p.s,(p.name.oneF tyL 0).1,p.tat⟩,(p.name.oneF tyL 0).2)
def pasL : Nat→List Par→PS→Option (List Par × PS)
 | 0,_,_=>none
 | f + 1,l,p=>if p.isG [44] = true then pasL f (l ++ [(parF p.adv).1]) (parF p.adv).2 else some (l,p.sign [41])
def pasF (f : Nat) (p : PS) : Option ((Bool × List Par) × PS) :=
 if (p.sign [40]).isG [41] = true then some ((true,[]),(p.sign [40]).sign [41])
 else (pasL f [(parF (p.sign [40])).1] (parF (p.sign [40])).2).map fun x=>((false,x.1),x.2)
mutual
def blkL : Nat→Bool→List Stm→PS→Option ((Bool × List Stm) × PS)
 | 0,_,_,_=>none
 | f + 1,tg,l,p=>if p.err = 0∧p.isG [125] = false then (stF f p).bind fun r=>blkL f false (l ++ [r.1]) r.2 else some ((tg,l),p.sign [125])
def stF : Nat→PS→Option (Stm × PS)
 | 0,_=>none
 | f + 1,p =>
  if p.isW wIf = true then
   (binF f 1 p.opn.adv).bind fun r=>(blkL f true [] (r.2.sign [123])).bind fun b =>
    if b.2.isW wElse = true then (blkL f true [] (b.2.adv.sign [123])).bind fun c=>some (.mk 6 [] [r.1] b.1.1 b.1.2 c.1.1 c.1.2 p.tat,c.2.cls)
    else some (.mk 6 [] [r.1] b.1.1 b.1.2 true [] p.tat,b.2.cls)
  else if (p.oneF stL 0).1 = 5 then some (.mk 5 (p.oneF stL 0).2.s [] true [] true [] p.tat,(p.oneF stL 0).2.name.sign [59])
  else (binF f 1 ((p.oneF stL 0).2.name.sign [61])).bind fun r=>some (.mk (p.oneF stL 0).1 (p.oneF stL 0).2.s [r.1] true [] true [] p.tat,r.2.sign [59])
end
def blkF (f : Nat) (p : PS) : Option ((Bool × List Stm) × PS) := blkL f true [] (p.sign [123])
theorem zsh {p : PS} (h : Ok p) : mu p ≤ 8002:=by
 have := h.len
 unfold mu
 split
 ·split <;> omega
 ·omega
theorem zo1 {p : PS} (h : Ok p) (h0 : p.err = 0) : ∀ (l : List (List UInt8)) (i : Nat),mu (p.oneF l i).2 < mu p
 | [],i=>by
  unfold PS.oneF
  rw [show mu ((0 : Int),p.fail 11 p.tat).2 = 0 from PS.fail_mu _ _ (by decide)]
  exact zrb h0
 | w :: r,i=>by
  unfold PS.oneF
  split
  ·rename_i hw
   exact (PS.adv_mu h).2 (by rw [zia hw]; decide)
  ·exact zo1 h h0 r (i + 1)
theorem zgd {p : PS} (h : Ok p) : Keep p (parF p).2 := (Keep.name h).trans (Keep.oneF (Keep.name h).ok _ _)
theorem zmm : ∀ f l p r,Ok p→pasL f l p = some r→Keep p r.2
 | 0,_,_,_,_,h=>by cases h
 | f + 1,l,p,r,hO,h=>by
  unfold pasL at h
  split at h
  ·have k0 := Keep.adv hO
   have k1 := k0.trans (zgd k0.ok)
   exact k1.trans (zmm f _ _ _ k1.ok h)
  ·injection h with h; subst h; exact Keep.sign hO _
theorem zgv {f : Nat} {p : PS} {r : (Bool × List Par) × PS} (hO : Ok p) (h : pasF f p = some r) : Keep p r.2:=by
 have k0 := Keep.sign hO [40]
 unfold pasF at h
 split at h
 ·injection h with h; subst h; exact k0.trans (Keep.sign k0.ok _)
 ·obtain ⟨x,h1,h2⟩ := Option.map_eq_some_iff.1 h
  subst h2
  have k1 := k0.trans (zgd k0.ok)
  exact k1.trans (zmm f _ _ _ k1.ok h1)
theorem zo3 : ∀ f : Nat,(∀ tg l p r,Ok p→blkL f tg l p = some r→Keep p r.2)∧(∀ p r,Ok p→stF f p = some r→Keep p r.2∧(p.err = 0→mu r.2 < mu p))
 | 0=>⟨fun _ _ _ _ _ h=>(by rw [blkL] at h; cases h),fun _ _ _ h=>(by rw [stF] at h; cases h)⟩
 | f + 1=>by
  obtain ⟨i1,i2⟩ := zo3 f
  refine ⟨fun tg l p r hO h=>?_,fun p r hO h=>?_⟩
  ·rw [blkL] at h
   split at h
   ·obtain ⟨x,h1,h2⟩ := Option.bind_eq_some_iff.1 h
    have k1 := (i2 _ _ hO h1).1
    exact k1.trans (i1 _ _ _ _ k1.ok h2)
   ·injection h with h; subst h; exact Keep.sign hO _
  ·rw [stF] at h
   split at h
   ·rename_i hw
    have hk : p.kind ≠ 0 := by rw [zia hw]; decide
    obtain ⟨a1,a2,a3,a4⟩ := zh7 hO hk
    obtain ⟨x,h1,h2⟩ := Option.bind_eq_some_iff.1 h
    have k1 := (zev f).1 _ _ _ a1 h1
    obtain ⟨b,h3,h4⟩ := Option.bind_eq_some_iff.1 h2
    have k2 := k1.trans (Keep.sign k1.ok [123])
    have k3 := k2.trans (i1 _ _ _ _ k2.ok h3)
    split at h4
    ·obtain ⟨c,h5,h6⟩ := Option.bind_eq_some_iff.1 h4
     have k4 := k3.trans (Keep.adv k3.ok)
     have k5 := k4.trans (Keep.sign k4.ok [123])
     have k6 := k5.trans (i1 _ _ _ _ k5.ok h5)
     injection h6 with h6
     subst h6
     have := k6.mu
     refine ⟨zgo hO k6.ok (k6.src.trans a2) (k6.dep.trans a3) (by omega),fun _=>?_⟩
     show mu c.2 < mu p
     omega
    ·injection h4 with h4
     subst h4
     have := k3.mu
     refine ⟨zgo hO k3.ok (k3.src.trans a2) (k3.dep.trans a3) (by omega),fun _=>?_⟩
     show mu b.2 < mu p
     omega
   ·have k1 := Keep.oneF hO stL 0
    have k2 := k1.trans (Keep.name k1.ok)
    have lt := fun h0=>zo1 hO h0 stL 0
    split at h
    ·injection h with h
     subst h
     have k3 := Keep.sign k2.ok [59]
     refine ⟨k2.trans k3,fun h0=>?_⟩
     have := (Keep.name k1.ok).mu
     have := k3.mu
     have := lt h0
     simp only
     omega
    ·obtain ⟨x,h1,h2⟩ := Option.bind_eq_some_iff.1 h
     have k3 := Keep.sign k2.ok [61]
     have k4 := (zev f).1 _ _ _ k3.ok h1
     have k5 := Keep.sign k4.ok [59]
     injection h2 with h2
     subst h2
     refine ⟨((k2.trans k3).trans k4).trans k5,fun h0=>?_⟩
     have := (Keep.name k1.ok).mu
     have := k3.mu
     have := k4.mu
     have := k5.mu
     have := lt h0
     simp only
     omega
end Go.Proofs.YtfdklpkfpmkgeaaGreatDoor
end
