/- The law WireSequence returns true for every slice of signed numbers, every slice of strings and every slice of bools. -/
import Derived.Test.YtfdijfnmloddcaaWOr4
import Derived.Test.YtfdijfnmloddcaaWP12
import Derived.Test.YtfdijfnmloddcaaVOpen2
import Derived.ChangeMaps5
namespace Go.Proofs.Ytfdijfnmloddcaa
open Go Go.Vai Go.ChangeShapes Go.WideShapes Go.ChangeAt Go.RowKit

theorem Try.own : ownKnob Try.prog.godebug = none := by kernel_rfl
theorem Try.laidOut : laidOutB Try.prog = true := by kernel_rfl
theorem Try.cells2 : Try.prog.cellsOf 2 = 1 := by kernel_rfl
theorem Try.cells9 : Try.prog.cellsOf 9 = 1 := by kernel_rfl
theorem Try.cells4 : Try.prog.cellsOf 4 = 1 := by kernel_rfl

theorem law12 (l : List Int) (hi : ∀ x ∈ l, I64 x) (ss : List (List UInt8)) (vs : List Bool) (W : World) (v0 v1 v2 : Value) (r0 : Rep (gStart W) W v0 (.vs 1 false (l.map intAV))) (r1 : Rep (gStart W) W v1 (.vs 1 false (ss.map strAV))) (r2 : Rep (gStart W) W v2 (.vs 1 false (vs.map boolAV))) :
    Calls Try.prog 12 #[v0, v1, v2] W fun e w' => e = .returned (.bool true) ∧ Below W.heap.size W w' := by
  obtain ⟨n, hn⟩ := calN_of (f := 12) (args := [.vs 1 false (l.map intAV), .vs 1 false (ss.map strAV), .vs 1 false (vs.map boolAV)]) (c12 OW w_13 w_18 w_19 w_22 w_23 w_26 w_28 Hp.none 0 false false false l hi ss vs) (fun n => by kernel_rfl)
  exact law_true (calN_ok mixed noNum okW n) hn (cargs := [v0, v1, v2]) (repL_cons r0 (repL_cons r1 (repL_cons r2 repL_nil)))

set_option maxRecDepth 100000 in
theorem lifted12 (os : Os) (started : os.Started) (H : Type) (enc : TypeId × Value → H) :
    ReturnsInHanded {} Try.checked os 12 .any (Rows.wireSequenceSpec.pre6 enc Try.prog Try.f12 Rows.wireSequenceRow.domain false) (Rows.wireSequenceSpec.post enc Try.prog Try.f12 false true false false) := by
  refine returnsInHanded_of_change_sized (C := Try.checked) Try.own started (by kernel_rfl) Try.func12
    (ChangeSpec.witness6 (enc := enc) (C := Try.checked) false ⟨#[], #[.slice none 0 0, .slice none 0 0, .slice none 0 0], []⟩ 8 (by kernel_rfl) (by kernel_rfl) (by kernel_rfl) (by kernel_rfl)) ?_
  intro W base args ds gs before hval0 hW _ _ _
  have hval : ∀ (j : Nat) t v, Try.f12.params[j]? = some t → args[j]? = some v → Value.okWide Try.prog W .any base t v := hval0
  have hW' := hW
  obtain ⟨p, q, hA0, hV, rfl, _, _⟩ := hW
  have hA : DataW.TrodAll enc Try.prog W 0 (fun _ => true) true Try.f12.params.toList args.toList ds p := hA0
  rw [Try.params12] at hA hval
  obtain ⟨v0, v1, v2, d0, d1, d2, p0, p1, p2, rfl, rfl, rfl, h0, h1, h2⟩ := trodAll_three hA
  obtain ⟨rfl, rfl⟩ := trodVars_none hV
  obtain ⟨l, r0, hi⟩ := open_each (f := intAV) (pr := I64) (fun x => rfl) Try.underlying46 Try.cells2 (fun n cs y h => by
    obtain ⟨m, rfl, _, hw⟩ := DataW.trod_int Try.underlying2 h
    have h1 : IntKind.i64.min = -9223372036854775808 := rfl
    have h2 : IntKind.i64.max = 9223372036854775807 := rfl
    simp only [Lit.wf, Bool.and_eq_true, decide_eq_true_eq, h1, h2] at hw
    exact ⟨_, m, rfl, .int _ _, rfl, by unfold I64; omega⟩) (hval 0 46 v0 rfl rfl) h0
  obtain ⟨ss, r1, _⟩ := open_each (f := strAV) (pr := fun _ => True) (fun x => rfl) Try.underlying47 Try.cells9 (fun n cs y h => by
    obtain ⟨s, rfl, _, _⟩ := DataW.trod_string Try.underlying9 h
    exact ⟨_, s.data.toList, rfl, .str s, rfl, trivial⟩) (hval 1 47 v1 rfl rfl) h1
  obtain ⟨vs, r2, _⟩ := open_each (f := boolAV) (pr := fun _ => True) (fun x => rfl) Try.underlying48 Try.cells4 (fun n cs y h => by
    obtain ⟨b, rfl, _⟩ := DataW.trod_bool Try.underlying4 h
    exact ⟨_, b, rfl, .bool b, rfl, trivial⟩) (hval 2 48 v2 rfl rfl) h2
  clear hA0 hval0
  simp only [List.append_nil] at hW'
  have hlt : ∀ x ∈ p0 ++ p1 ++ p2, x.block < W.heap.size := fun x hx => by simpa using hW'.lt x (by simpa using hx)
  refine (law12 l hi ss vs W v0 v1 v2 r0 r1 r2).mono fun e W' ⟨he, hw⟩ => ?_
  subst he
  have k0 : DataW.Trod enc Try.prog W' 0 (fun b => decide (b < W.heap.size)) true 46 v0 d0 p0 :=
    Below.trod Try.laidOut (by kernel_rfl) (of_decide_eq_true (by kernel_rfl)) h0 hw (fun x hx => hlt x (by simp [hx]))
  have k1 : DataW.Trod enc Try.prog W' 0 (fun b => decide (b < W.heap.size)) true 47 v1 d1 p1 :=
    Below.trod Try.laidOut (by kernel_rfl) (of_decide_eq_true (by kernel_rfl)) h1 hw (fun x hx => hlt x (by simp [hx]))
  have k2 : DataW.Trod enc Try.prog W' 0 (fun b => decide (b < W.heap.size)) true 48 v2 d2 p2 :=
    Below.trod Try.laidOut (by kernel_rfl) (of_decide_eq_true (by kernel_rfl)) h2 hw (fun x hx => hlt x (by simp [hx]))
  rw [List.append_assoc] at hW'
  exact ⟨_, rfl, _, _, _, [], p0 ++ (p1 ++ p2), [], hW', trodAll_mk1 (shut_bool Try.underlying4 _), trodAll_mk3 k0 k1 k2, rfl, hw.frame _, fun h => by cases h⟩

theorem wireSequence_holds : Rows.WireSequenceSaid :=
  OpenClaim.holds_of_wide 12 Try.f12 rfl rfl rfl rfl rfl rfl rfl ⟨rfl, rfl, rfl, rfl, rfl⟩ rfl rfl rfl rfl rfl (by kernel_rfl) Try.func12 (by kernel_rfl)
    (of_decide_eq_true (by kernel_rfl)) (by unfold Func.isWrapper; first | (rw [if_pos (by decide +kernel)]; kernel_rfl) | (rw [if_neg (by decide +kernel)]; exact ⟨rfl, rfl⟩))
    (fun os started H enc _ => lifted12 os started H enc)

end Go.Proofs.Ytfdijfnmloddcaa
