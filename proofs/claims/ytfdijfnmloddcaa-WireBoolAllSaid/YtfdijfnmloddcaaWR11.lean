/- The law WireBoolAll returns true for every bool and every slice of bytes. -/
import Derived.Test.YtfdijfnmloddcaaWOr3
namespace Go.Proofs.Ytfdijfnmloddcaa
open Go Go.Vai Go.ChangeShapes Go.WideShapes Go.ChangeAt Go.RowKit

theorem Try.own : ownKnob Try.prog.godebug = none := by kernel_rfl
theorem Try.laidOut : laidOutB Try.prog = true := by kernel_rfl
theorem Try.cells5 : Try.prog.cellsOf 5 = 1 := by kernel_rfl
theorem Try.bytes5 : Try.prog.bytesOf 5 = 1 := by kernel_rfl

theorem law11 (bs : List UInt8) (c : Bool) (hb : bs.length ≤ 140737488351232) (W : World) (v : Value) (hv : Rep (gStart W) W v (.vs 1 false (bs.map byteAV))) :
    Calls Try.prog 11 #[.bool c, v] W fun e w' => e = .returned (.bool true) ∧ Below W.heap.size W w' := by
  have hm : maxBytes = 140737488355328 := rfl
  obtain ⟨n, hn⟩ := calN_of (f := 11) (args := [.bool c, .vs 1 false (bs.map byteAV)]) (c11 O29 o29_13 o29_26 o29_27 o29_28 o29_29 Hp.none 0 bs false c (by omega)) (fun n => by kernel_rfl)
  exact law_true (calN_ok mixed noNum ok29 n) hn (cargs := [.bool c, v]) (repL_cons (.bool _) (repL_cons hv repL_nil))

set_option maxRecDepth 100000 in
theorem lifted11 (os : Os) (started : os.Started) (H : Type) (enc : TypeId × Value → H) :
    ReturnsInHanded {} Try.checked os 11 .any (Rows.wireBoolAllSpec.pre6 enc Try.prog Try.f11 Rows.wireBoolAllRow.domain false) (Rows.wireBoolAllSpec.post enc Try.prog Try.f11 false true false false) := by
  refine returnsInHanded_of_change_sized (C := Try.checked) Try.own started (by kernel_rfl) Try.func11
    (ChangeSpec.witness6 (enc := enc) (C := Try.checked) false ⟨#[], #[.bool false, .slice none 0 0], []⟩ 8 (by kernel_rfl) (by kernel_rfl) (by kernel_rfl) (by kernel_rfl)) ?_
  intro W base args ds gs before hval0 hW _ hsz0 _
  have hsz : (DataW.weightsEach Try.prog (Try.f11.params.toList ++ Rows.wireBoolAllSpec.plain.varTypes Try.prog) (ds ++ gs)).all (· ≤ reachBytes) = true := hsz0
  clear hsz0
  have hval : ∀ (j : Nat) t v, Try.f11.params[j]? = some t → args[j]? = some v → Value.okWide Try.prog W .any base t v := hval0
  have hW' := hW
  obtain ⟨p, q, hA0, hV, rfl, _, _⟩ := hW
  have hA : DataW.TrodAll enc Try.prog W 0 (fun _ => true) true Try.f11.params.toList args.toList ds p := hA0
  rw [Try.params11] at hA hval
  obtain ⟨v0, v1, d0, d1, p0, p1, rfl, rfl, rfl, h0, h1⟩ := trodAll_two hA
  obtain ⟨rfl, rfl⟩ := trodVars_none hV
  obtain ⟨c, rfl, rfl, rfl⟩ := open_bool Try.underlying4 (hval 0 4 v0 rfl rfl) h0
  obtain ⟨bs, hrep, hlen⟩ := open_bytes Try.underlying22 Try.underlying5 Try.cells5 (hval 1 22 v1 rfl rfl) h1
  clear hA0 hval0
  simp only [List.append_nil, List.nil_append] at hW'
  have hlt : ∀ x ∈ p1, x.block < W.heap.size := fun x hx => by simpa using hW'.lt x hx
  have hbl : bs.length ≤ 140737488351232 := by
    rcases hlen with rfl | ⟨elems, spare, rfl, h⟩
    · simp
    · have := sized_slice hsz (j := 1) (t := 22) (e := 5) rfl rfl Try.underlying22
      rw [Try.bytes5] at this
      simp only [reachBytes] at this
      omega
  refine (law11 bs c hbl W v1 hrep).mono fun e W' ⟨he, hw⟩ => ?_
  subst he
  have hargs : DataW.Trod enc Try.prog W' 0 (fun b => decide (b < W.heap.size)) true 22 v1 d1 p1 :=
    Below.trod Try.laidOut (by kernel_rfl) (of_decide_eq_true (by kernel_rfl)) h1 hw hlt
  exact ⟨_, rfl, _, _, _, [], [] ++ p1, [], hW', trodAll_mk1 (shut_bool Try.underlying4 _), trodAll_mk2 (shut_bool Try.underlying4 _) hargs, rfl, hw.frame _, fun h => by cases h⟩

theorem wireBoolAll_holds : Rows.WireBoolAllSaid :=
  OpenClaim.holds_of_wide 11 Try.f11 rfl rfl rfl rfl rfl rfl rfl ⟨rfl, rfl, rfl, rfl, rfl⟩ rfl rfl rfl rfl rfl (by kernel_rfl) Try.func11 (by kernel_rfl)
    (of_decide_eq_true (by kernel_rfl)) (by unfold Func.isWrapper; first | (rw [if_pos (by decide +kernel)]; kernel_rfl) | (rw [if_neg (by decide +kernel)]; exact ⟨rfl, rfl⟩))
    (fun os started H enc _ => lifted11 os started H enc)

end Go.Proofs.Ytfdijfnmloddcaa
