/- The law CheckMoves returns true for every slice of ints, both bools and every int, where the listed variables read as they are laid; its tied card. -/
import Derived.Test.YtfdklpkfpmkgeaaGreatDoorTie
import Derived.Test.YtfdklpkfpmkgeaaGreatDoorCards
import Derived.SevenTiedAt
import Derived.Deep.Slices
import Derived.Carry
import Derived.Test.YtfdklpkfpmkgeaaGreatDoorM15
import Derived.Test.YtfdklpkfpmkgeaaGreatDoorM17
set_option linter.unusedSimpArgs false
set_option linter.unusedVariables false
set_option linter.unusedSectionVars false
set_option linter.unnecessarySimpa false
namespace Go.Proofs.YtfdklpkfpmkgeaaGreatDoor
open Go Go.Vai Go.ChangeShapes Go.WideShapes Go.ChangeAt Go.RowKit
set_option maxHeartbeats 40000000
theorem Tryz.own : ownKnob Tryz.prog.godebug = none := by kernel_rfl
theorem Tryz.laidOut : laidOutB Tryz.prog = true := by kernel_rfl
section
variable {H : Type} {enc : TypeId × Value→H} {P : Program} {W : World} {base : Nat}
theorem zo2 (l : List Int) : (ints l).flatMap AV.cells = ints l:=by
 unfold ints
 induction l with
 | nil=>rfl
 | cons x l ih=>rw [List.map_cons,List.flatMap_cons,ih]; rfl
theorem zq3 {t e : TypeId} {v : Value} {d : DataW H} {p : List MemPlace} (ht : P.underlying t = some (.slice e)) (he : P.underlying e = some (.int .i64)) (hc : P.cellsOf e = 1)
  (hval : Value.okWide P W .any base t v) (h : DataW.Trod enc P W 0 (fun _=>true) true t v d p) :
  ∃ l : List Int,Rep (zcz W) W v (.vs 1 false (ints l)):=by
 obtain ⟨a0,len0,cap0,rfl⟩ := okWide_slice ht hval;obtain ⟨fuel,hf⟩ := h;rcases open_ints ht he hc hf with ⟨hcs,hx⟩ | ⟨a,len,cap,zs,hcs,_,hl,hm,hz,hx,hcell,hwz⟩
 ·simp [Value.cells] at hcs;obtain ⟨rfl,rfl,rfl⟩ := hcs;exact ⟨[],.vsnil _ _ _⟩
 ·simp [Value.cells] at hcs;obtain ⟨rfl,rfl,rfl⟩ := hcs;simp only [if_true] at hz;obtain ⟨B,off,spot⟩ := a;have hspot : spot = none:=by
   simp only [Value.okWide,ht,Cell.okWide,Cell.ok] at hval;exact hval.2.2.2.1
  subst hspot;refine ⟨zs.take len0,?_⟩;have hlen : (ints (zs.take len0)).length = len0 := by unfold ints; simp; omega
  have := Rep.vs (g := zcz W) (w := W) B off cap0 1 false (ints (zs.take len0)) ((zs.take len0).map fun z=>Value.int .i64 z)
   (by rw [zo2]; unfold ints; simp) (fun x hx=>by
    unfold ints at hx;obtain ⟨y,_,rfl⟩ := List.mem_map.1 hx
    rfl) (by simp) (by rw [hlen]; exact hl) (fun j u hu=>?_) (fun j u c hu hcc=>?_)
  ·rw [hlen] at this;exact this
  ·rw [List.getElem?_map] at hu;obtain ⟨z,hz1,rfl⟩ := Option.map_eq_some_iff.1 hu;have hj : j < len0 := by have := (List.getElem?_eq_some_iff.1 hz1).1; simp at this; omega
   have hzj : zs.getD j 0 = z:=by
    rw [List.getElem?_take,if_pos hj] at hz1;simp [hz1]
   have hc1 := hcell j (by omega);rw [hzj,Addr.add_lit] at hc1;exact ⟨hc1,zex hc1,rfl⟩
  ·rw [zo2] at hcc;unfold ints at hcc;rw [List.getElem?_map] at hu hcc;obtain ⟨z,hz1,rfl⟩ := Option.map_eq_some_iff.1 hu;rw [hz1] at hcc;simp only [Option.map_some,Option.some.injEq] at hcc;subst hcc;exact .int _ _
end
theorem law5 (l0 : List Int) (b1 : Bool) (x2 : Int) (W : World) (v0 : Value) (r0 : Rep (zcz W) W v0 (.vs 1 false (ints l0))) (hg : zbn ann (zcz W) W) :
  Calls Tryz.prog 5 #[v0,.bool b1,.int .i64 x2] W fun e w'=>e = .returned (.bool true)∧Below W.heap.size W w':=by
 obtain ⟨d,H,nx,h⟩ := c5 false l0 b1 x2;exact law_true (zqu mixed numOk bs_ok d) h (cargs := [v0,.bool b1,.int .i64 x2]) (zhn r0 (zhn (.bool _) (zhn (.int _ _) zrn))) hg
set_option maxRecDepth 100000 in
theorem lifted5 (os : Os) (started : os.Started) (H : Type) (enc : TypeId × Value→H) :
  ReturnsInHanded {} Tryz.checked os 5 .any (fun w args=>(Rows.checkMovesSpec.pre enc Tryz.prog Tryz.f5 [] false w args∧laidMetH Tryz.prog zj6 w)∧sizedMet enc Tryz.prog Tryz.f5 (OpenSpec.ofChange Rows.checkMovesSpec) false w args)
   (Rows.checkMovesSpec.post enc Tryz.prog Tryz.f5 false true false false):=by
 refine returnsInHanded_of_change_and (C := Tryz.checked) (X := fun w _=>laidMetH Tryz.prog zj6 w) (fun _ _ _ hh h=>h.of_heap hh) Tryz.own started (by kernel_rfl) Tryz.func5
  (ChangeSpec.witness_shaped (enc := enc) (C := Tryz.checked) (os := os) (X := fun w _=>laidMetH Tryz.prog zj6 w) false (World.doorLaid Tryz.prog 4000 os) #[.slice none 0 0,.bool false,.int .i64 0] 8 rfl (World.shaped_of_RefB (by kernel_rfl) (by kernel_rfl)) (by kernel_rfl) (by kernel_rfl) (by kernel_rfl) (door_met os _)) ?_
 intro W base args ds gs before hval0 hW _ _ hL _;have hval : ∀ (j : Nat) t v,Tryz.f5.params[j]? = some t→args[j]? = some v→Value.okWide Tryz.prog W .any base t v := hval0;have hW' := hW;obtain ⟨p,q,hA0,hV,rfl,_,_⟩ := hW;have hA : DataW.TrodAll enc Tryz.prog W 0 (fun _=>true) true Tryz.f5.params.toList args.toList ds p := hA0;rw [Tryz.params5] at hA hval;obtain ⟨v0,v1,v2,d0,d1,d2,p0,p1,p2,rfl,rfl,rfl,h0,h1,h2⟩ := trodAll_three hA;obtain ⟨rfl,rfl⟩ := trodVars_none hV;obtain ⟨l0,r0⟩ := zq3 Tryz.underlying22 Tryz.underlying3 (by kernel_rfl) (hval 0 22 v0 rfl rfl) h0;obtain ⟨b1,rfl,rfl,rfl⟩ := open_bool Tryz.underlying4 (hval 1 4 v1 rfl rfl) h1;obtain ⟨x2,rfl,rfl,rfl,w2⟩ := open_int Tryz.underlying3 (hval 2 3 v2 rfl rfl) h2;clear hA0 hval0;simp only [List.append_nil] at hW';have hlt : ∀ x ∈ p0,x.block < W.heap.size := fun x hx=>by simpa using hW'.lt x (by simpa using hx)
 refine (law5 l0 b1 x2 W v0 r0 (globs hL)).mono fun e W' ⟨he,hw⟩=>?_;subst he;have k0 : DataW.Trod enc Tryz.prog W' 0 (fun b=>decide (b < W.heap.size)) true 22 v0 d0 p0 :=
  Below.trod Tryz.laidOut (by kernel_rfl) (of_decide_eq_true (by kernel_rfl)) h0 hw (fun x hx=>hlt x hx)
 have hall : DataW.TrodAll enc Tryz.prog W' 0 (fun b=>decide (b < W.heap.size)) true [22,4,3] [v0,.bool b1,.int .i64 x2] [d0,.lit (.bool b1),.lit (.int .i64 x2)] p0:=by
  rw [show p0 = p0 ++ ([] ++ []) by simp];exact trodAll_mk3 k0 (shut_bool Tryz.underlying4 _) (shut_int Tryz.underlying3 w2)
 exact ⟨_,rfl,_,_,_,[],p0,[],hW',trodAll_mk1 (shut_bool Tryz.underlying4 _),hall,rfl,hw.frame _,fun h=>by cases h⟩
theorem zkm : Rows.CheckMovesSaid :=
 OpenClaim.holds_of_wide 5 Tryz.f5 rfl rfl rfl rfl rfl rfl rfl ⟨rfl,rfl,rfl,rfl,rfl⟩ rfl rfl rfl rfl rfl (by as_aux_lemma=>kernel_rfl) Tryz.func5 closed5
  (of_decide_eq_true (by kernel_rfl)) (by unfold Func.isWrapper; first | (rw [if_pos (by decide +kernel)]; kernel_rfl) | (rw [if_neg (by decide +kernel)]; exact ⟨rfl,rfl⟩))
  (fun os started H enc _=>lifted5 os started H enc)
theorem checkMoves_holds : Rows.CheckMovesCardSaid :=
 Claim7.holds_tied_plain_at .later [] [.data,.data,.data,.sentinel,.sentinel,.widerDeep,.data] true (true,"477f77623027600d86b76821fe0375488ae4da0855fbcf344bff753e1eb6a17b") true
  zkm (fun _ h=>by cases h) (by as_aux_lemma=>kernel_rfl) (fun _ h=>by cases h) checkMoves_row_tie rfl ⟨rfl,rfl⟩ (by as_aux_lemma=>kernel_rfl) rfl
  (fun f fn hf hfn=>by
   obtain rfl : f = 5 := Option.some.inj ((show Tryz.prog.funcNamed "elasticstore/elasticstorelaw28.CheckMoves" = some 5 by as_aux_lemma=>kernel_rfl).symm.trans hf) |>.symm;obtain rfl : fn = Tryz.f5 := (Option.some.inj (Tryz.func5.symm.trans hfn)).symm;exact ⟨by as_aux_lemma=>kernel_rfl,fun j t ht=>by
    rw [Tryz.params5] at ht;have hm : t ∈ [22,4,3] := by simpa using Array.mem_of_getElem? ht
    have hall : ([22,4,3].all fun u=>!Tryz.prog.wantsStandIn u) = true := by as_aux_lemma=>kernel_rfl
    exact (show Tryz.prog.wantsStandIn t = false by simpa using List.all_eq_true.1 hall t hm)⟩)
  (by as_aux_lemma=>kernel_rfl)
end Go.Proofs.YtfdklpkfpmkgeaaGreatDoor
