/- The law CheckPaths returns true for every integer and every two slices of bools, where the listed variables read as they are laid; its tied card. -/
import Derived.Test.YtfdklpkfpmkgeaaGreatDoorTie
import Derived.Test.YtfdklpkfpmkgeaaGreatDoorCards
import Derived.SevenTiedAt
import Derived.Deep.Slices
import Derived.Carry
import Derived.Test.YtfdklpkfpmkgeaaGreatDoorM15
import Derived.Test.YtfdklpkfpmkgeaaGreatDoorM17
set_option linter.unusedSimpArgs false
set_option linter.unusedVariables false
set_option linter.unusedSectionVars false
set_option linter.unnecessarySimpa false
namespace Go.Proofs.YtfdklpkfpmkgeaaGreatDoor
open Go Go.Vai Go.ChangeShapes Go.WideShapes Go.ChangeAt Go.RowKit
set_option maxHeartbeats 40000000
theorem Tryz.own : ownKnob Tryz.prog.godebug = none := by kernel_rfl
theorem Tryz.laidOut : laidOutB Tryz.prog = true := by kernel_rfl
section
variable {H : Type} {enc : TypeId × Value→H} {P : Program} {W : World} {base : Nat}
theorem zp5 (l : List Bool) : (bls l).flatMap AV.cells = bls l:=by
 unfold bls
 induction l with
 | nil=>rfl
 | cons x l ih=>rw [List.map_cons,List.flatMap_cons,ih]; rfl
theorem zhu {t e : TypeId} {v : Value} {d : DataW H} {p : List MemPlace} (ht : P.underlying t = some (.slice e)) (he : P.underlying e = some .bool) (hc : P.cellsOf e = 1)
  (hval : Value.okWide P W .any base t v) (h : DataW.Trod enc P W 0 (fun _=>true) true t v d p) :
  ∃ l : List Bool,Rep (zcj W) W v (.vs 1 false (bls l)):=by
 obtain ⟨a0,len0,cap0,rfl⟩ := okWide_slice ht hval
 obtain ⟨fuel,hf⟩ := h
 rcases Go.Deep.open_slice1 ht hc hf with ⟨hcs,hx⟩ | ⟨a,len,cap,m,n,V,D,Pl,hcs,_,hl,_,hm,_,hV⟩
 ·simp [Value.cells] at hcs
  obtain ⟨rfl,rfl,rfl⟩ := hcs
  exact ⟨[],.vsnil _ _ _⟩
 ·simp [Value.cells] at hcs
  obtain ⟨rfl,rfl,rfl⟩ := hcs
  simp only [if_true] at hm
  subst hm
  obtain ⟨B,off,spot⟩ := a
  have hspot : spot = none:=by
   simp only [Value.okWide,ht,Cell.okWide,Cell.ok] at hval
   exact hval.2.2.2.1
  subst hspot
  have hb : ∀ i,i < len0→∃ c,V i = .bool c := fun i hi=>by
   obtain ⟨c,h1,_⟩ := DataW.trod_bool he (hV i (by omega)).2
   exact ⟨c,by simpa using h1⟩
  let bv : Value→Bool := fun v=>match v with
   | .bool c=>c
   | _=>false
  have hbv : ∀ i,i < len0→V i = .bool (bv (V i)) := fun i hi=>by
   obtain ⟨c,h⟩ := hb i hi
   rw [h]
  refine ⟨(List.range len0).map fun i=>bv (V i),?_⟩
  have hlen : (bls ((List.range len0).map fun i=>bv (V i))).length = len0 := by unfold bls; simp
  have := Rep.vs (g := zcj W) (w := W) B off m 1 false (bls ((List.range len0).map fun i=>bv (V i))) ((List.range len0).map V)
   (by rw [zp5,hlen]; simp) (fun x hx=>by
    unfold bls at hx
    obtain ⟨y,_,rfl⟩ := List.mem_map.1 hx
    rfl) (by simp) (by rw [hlen]; exact hl) (fun j u hu=>?_) (fun j u c hu hcc=>?_)
  ·rw [hlen] at this
   exact this
  ·rw [List.getElem?_map] at hu
   obtain ⟨i,hi,rfl⟩ := Option.map_eq_some_iff.1 hu
   have hj : j < len0 := by have := (List.getElem?_eq_some_iff.1 hi).1; simpa using this
   rw [List.getElem?_range hj] at hi
   obtain rfl := Option.some.inj hi
   have hc1 := (hV j (by omega)).1
   rw [Addr.add_lit] at hc1
   exact ⟨hc1,zed hc1,by rw [hbv j hj]; rfl⟩
  ·rw [zp5] at hcc
   unfold bls at hcc
   rw [List.getElem?_map] at hu
   obtain ⟨i,hi,rfl⟩ := Option.map_eq_some_iff.1 hu
   have hj : j < len0 := by have := (List.getElem?_eq_some_iff.1 hi).1; simpa using this
   rw [List.getElem?_range hj] at hi
   obtain rfl := Option.some.inj hi
   rw [List.getElem?_map,List.getElem?_map,List.getElem?_range hj] at hcc
   simp only [Option.map_some,Option.some.injEq] at hcc
   subst hcc
   rw [hbv j hj]
   exact .bool _
end
theorem law6 (x : Int) (l1 l2 : List Bool) (W : World) (v1 v2 : Value) (r1 : Rep (zcj W) W v1 (.vs 1 false (bls l1))) (r2 : Rep (zcj W) W v2 (.vs 1 false (bls l2))) (hg : zbf ann (zcj W) W) :
  Calls Tryz.prog 6 #[.int .i64 x,v1,v2] W fun e w'=>e = .returned (.bool true)∧Below W.heap.size W w':=by
 obtain ⟨d,H,nx,h⟩ := c6 x false l1 false l2
 exact law_true (zoe mixed noNum bs_ok d) h (cargs := [.int .i64 x,v1,v2]) (zgx (.int _ _) (zgx r1 (zgx r2 zpx))) hg
set_option maxRecDepth 100000 in
theorem lifted6 (os : Os) (started : os.Started) (H : Type) (enc : TypeId × Value→H) :
  ReturnsInHanded {} Tryz.checked os 6 .any (fun w args=>(Rows.checkPathsSpec.pre enc Tryz.prog Tryz.f6 [] false w args∧laidMetH Tryz.prog zhz w)∧sizedMet enc Tryz.prog Tryz.f6 (OpenSpec.ofChange Rows.checkPathsSpec) false w args)
   (Rows.checkPathsSpec.post enc Tryz.prog Tryz.f6 false true false false):=by
 refine returnsInHanded_of_change_and (C := Tryz.checked) (X := fun w _=>laidMetH Tryz.prog zhz w) (fun _ _ _ hh h=>h.of_heap hh) Tryz.own started (by kernel_rfl) Tryz.func6
  (ChangeSpec.witness_shaped (enc := enc) (C := Tryz.checked) (os := os) (X := fun w _=>laidMetH Tryz.prog zhz w) false (World.doorLaid Tryz.prog 4000 os) #[.int .i64 0,.slice none 0 0,.slice none 0 0] 8 rfl (World.shaped_of_RefB (by kernel_rfl) (by kernel_rfl)) (by kernel_rfl) (by kernel_rfl) (by kernel_rfl) (door_met os _)) ?_
 intro W base args ds gs before hval0 hW _ _ hL _
 have hval : ∀ (j : Nat) t v,Tryz.f6.params[j]? = some t→args[j]? = some v→Value.okWide Tryz.prog W .any base t v := hval0
 have hW' := hW
 obtain ⟨p,q,hA0,hV,rfl,_,_⟩ := hW
 have hA : DataW.TrodAll enc Tryz.prog W 0 (fun _=>true) true Tryz.f6.params.toList args.toList ds p := hA0
 rw [Tryz.params6] at hA hval
 obtain ⟨v0,v1,v2,d0,d1,d2,p0,p1,p2,rfl,rfl,rfl,h0,h1,h2⟩ := trodAll_three hA
 obtain ⟨rfl,rfl⟩ := trodVars_none hV
 obtain ⟨x0,rfl,rfl,rfl,w0⟩ := open_int Tryz.underlying3 (hval 0 3 v0 rfl rfl) h0
 obtain ⟨l1,r1⟩ := zhu Tryz.underlying52 Tryz.underlying4 (by kernel_rfl) (hval 1 52 v1 rfl rfl) h1
 obtain ⟨l2,r2⟩ := zhu Tryz.underlying52 Tryz.underlying4 (by kernel_rfl) (hval 2 52 v2 rfl rfl) h2
 clear hA0 hval0
 simp only [List.append_nil,List.nil_append] at hW'
 have hlt : ∀ x ∈ p1 ++ p2,x.block < W.heap.size := fun x hx=>by simpa using hW'.lt x (by simpa using hx)
 refine (law6 x0 l1 l2 W v1 v2 r1 r2 (globs hL)).mono fun e W' ⟨he,hw⟩=>?_
 subst he
 have k1 : DataW.Trod enc Tryz.prog W' 0 (fun b=>decide (b < W.heap.size)) true 52 v1 d1 p1 :=
  Below.trod Tryz.laidOut (by kernel_rfl) (of_decide_eq_true (by kernel_rfl)) h1 hw (fun x hx=>hlt x (by simp [hx]))
 have k2 : DataW.Trod enc Tryz.prog W' 0 (fun b=>decide (b < W.heap.size)) true 52 v2 d2 p2 :=
  Below.trod Tryz.laidOut (by kernel_rfl) (of_decide_eq_true (by kernel_rfl)) h2 hw (fun x hx=>hlt x (by simp [hx]))
 have hall : DataW.TrodAll enc Tryz.prog W' 0 (fun b=>decide (b < W.heap.size)) true [3,52,52] [.int .i64 x0,v1,v2] [.lit (.int .i64 x0),d1,d2] (p1 ++ p2) :=
  trodAll_mk3 (shut_int Tryz.underlying3 w0) k1 k2
 exact ⟨_,rfl,_,_,_,[],p1 ++ p2,[],hW',trodAll_mk1 (shut_bool Tryz.underlying4 _),hall,rfl,hw.frame _,fun h=>by cases h⟩
theorem zj6 : Rows.CheckPathsSaid :=
 OpenClaim.holds_of_wide 6 Tryz.f6 rfl rfl rfl rfl rfl rfl rfl ⟨rfl,rfl,rfl,rfl,rfl⟩ rfl rfl rfl rfl rfl (by as_aux_lemma=>kernel_rfl) Tryz.func6 closed6
  (of_decide_eq_true (by kernel_rfl)) (by unfold Func.isWrapper; first | (rw [if_pos (by decide +kernel)]; kernel_rfl) | (rw [if_neg (by decide +kernel)]; exact ⟨rfl,rfl⟩))
  (fun os started H enc _=>lifted6 os started H enc)
theorem checkPaths_holds : Rows.CheckPathsCardSaid :=
 Claim7.holds_tied_plain_at .later [] [.data,.data,.data,.sentinel,.sentinel,.widerDeep,.data] true (true,"477f77623027600d86b76821fe0375488ae4da0855fbcf344bff753e1eb6a17b") true
  zj6 (fun _ h=>by cases h) (by as_aux_lemma=>kernel_rfl) (fun _ h=>by cases h) checkPaths_row_tie rfl ⟨rfl,rfl⟩ (by as_aux_lemma=>kernel_rfl) rfl
  (fun f fn hf hfn=>by
   obtain rfl : f = 6 := Option.some.inj ((show Tryz.prog.funcNamed "elasticstore/elasticstorelaw28.CheckPaths" = some 6 by as_aux_lemma=>kernel_rfl).symm.trans hf) |>.symm
   obtain rfl : fn = Tryz.f6 := (Option.some.inj (Tryz.func6.symm.trans hfn)).symm
   exact ⟨by as_aux_lemma=>kernel_rfl,fun j t ht=>by
    rw [Tryz.params6] at ht
    have hm : t ∈ [3,52] := by simpa using Array.mem_of_getElem? ht
    have hall : ([3,52].all fun u=>!Tryz.prog.wantsStandIn u) = true := by as_aux_lemma=>kernel_rfl
    exact (show Tryz.prog.wantsStandIn t = false by simpa using List.all_eq_true.1 hall t hm)⟩)
  (by as_aux_lemma=>kernel_rfl)
end Go.Proofs.YtfdklpkfpmkgeaaGreatDoor
