/- The law WireUintRoundTrip returns true for every number of 64 bits and every slice of bytes. -/
import Derived.Test.YtfdijfnmloddcaaWOr4
namespace Go.Proofs.Ytfdijfnmloddcaa
open Go Go.Vai Go.ChangeShapes Go.WideShapes Go.ChangeAt Go.RowKit

theorem Try.own : ownKnob Try.prog.godebug = none := by kernel_rfl
theorem Try.laidOut : laidOutB Try.prog = true := by kernel_rfl
theorem Try.cells5 : Try.prog.cellsOf 5 = 1 := by kernel_rfl
theorem Try.bytes5 : Try.prog.bytesOf 5 = 1 := by kernel_rfl

theorem law5 (bs : List UInt8) (y : Int) (hy : (Lit.int .u64 y).wf = true) (hb : bs.length ≤ 140737488351232) (W : World) (v : Value) (hv : Rep (gStart W) W v (.vs 1 false (bs.map byteAV))) :
    Calls Try.prog 5 #[.int .u64 y, v] W fun e w' => e = .returned (.bool true) ∧ Below W.heap.size W w' := by
  have hm : maxBytes = 140737488355328 := rfl
  have h1 : IntKind.u64.min = 0 := rfl
  have h2 : IntKind.u64.max = 18446744073709551615 := rfl
  simp only [Lit.wf, Bool.and_eq_true, decide_eq_true_eq, h1, h2] at hy
  obtain ⟨a, rfl⟩ := Int.eq_ofNat_of_zero_le hy.1
  obtain ⟨n, hn⟩ := calN_of (f := 5) (args := [.int .u64 (a : Int), .vs 1 false (bs.map byteAV)]) (c5 OW w_13 w_14 w_16 Hp.none 0 bs false a (by omega)) (fun n => by kernel_rfl)
  exact law_true (calN_ok mixed noNum okW n) hn (cargs := [.int .u64 (a : Int), v]) (repL_cons (.int _ _) (repL_cons hv repL_nil))

set_option maxRecDepth 100000 in
theorem lifted5 (os : Os) (started : os.Started) (H : Type) (enc : TypeId × Value → H) :
    ReturnsInHanded {} Try.checked os 5 .any (Rows.wireUintRoundTripSpec.pre6 enc Try.prog Try.f5 Rows.wireUintRoundTripRow.domain false) (Rows.wireUintRoundTripSpec.post enc Try.prog Try.f5 false true false false) := by
  refine returnsInHanded_of_change_sized (C := Try.checked) Try.own started (by kernel_rfl) Try.func5
    (ChangeSpec.witness6 (enc := enc) (C := Try.checked) false ⟨#[], #[.int .u64 0, .slice none 0 0], []⟩ 8 (by kernel_rfl) (by kernel_rfl) (by kernel_rfl) (by kernel_rfl)) ?_
  intro W base args ds gs before hval0 hW _ hsz0 _
  have hsz : (DataW.weightsEach Try.prog (Try.f5.params.toList ++ Rows.wireUintRoundTripSpec.plain.varTypes Try.prog) (ds ++ gs)).all (· ≤ reachBytes) = true := hsz0
  clear hsz0
  have hval : ∀ (j : Nat) t v, Try.f5.params[j]? = some t → args[j]? = some v → Value.okWide Try.prog W .any base t v := hval0
  have hW' := hW
  obtain ⟨p, q, hA0, hV, rfl, _, _⟩ := hW
  have hA : DataW.TrodAll enc Try.prog W 0 (fun _ => true) true Try.f5.params.toList args.toList ds p := hA0
  rw [Try.params5] at hA hval
  obtain ⟨v0, v1, d0, d1, p0, p1, rfl, rfl, rfl, h0, h1⟩ := trodAll_two hA
  obtain ⟨rfl, rfl⟩ := trodVars_none hV
  obtain ⟨a, rfl, rfl, rfl, wa⟩ := open_int Try.underlying23 (hval 0 23 v0 rfl rfl) h0
  obtain ⟨bs, hrep, hlen⟩ := open_bytes Try.underlying22 Try.underlying5 Try.cells5 (hval 1 22 v1 rfl rfl) h1
  clear hA0 hval0
  simp only [List.append_nil, List.nil_append] at hW'
  have hlt : ∀ x ∈ p1, x.block < W.heap.size := fun x hx => by simpa using hW'.lt x hx
  have hbl : bs.length ≤ 140737488351232 := by
    rcases hlen with rfl | ⟨elems, spare, rfl, h⟩
    · simp
    · have := sized_slice hsz (j := 1) (t := 22) (e := 5) rfl rfl Try.underlying22
      rw [Try.bytes5] at this
      simp only [reachBytes] at this
      omega
  refine (law5 bs a wa hbl W v1 hrep).mono fun e W' ⟨he, hw⟩ => ?_
  subst he
  have hargs : DataW.Trod enc Try.prog W' 0 (fun b => decide (b < W.heap.size)) true 22 v1 d1 p1 :=
    Below.trod Try.laidOut (by kernel_rfl) (of_decide_eq_true (by kernel_rfl)) h1 hw hlt
  exact ⟨_, rfl, _, _, _, [], [] ++ p1, [], hW', trodAll_mk1 (shut_bool Try.underlying4 _), trodAll_mk2 (shut_int Try.underlying23 wa) hargs, rfl, hw.frame _, fun h => by cases h⟩

theorem wireUintRoundTrip_holds : Rows.WireUintRoundTripSaid :=
  OpenClaim.holds_of_wide 5 Try.f5 rfl rfl rfl rfl rfl rfl rfl ⟨rfl, rfl, rfl, rfl, rfl⟩ rfl rfl rfl rfl rfl (by kernel_rfl) Try.func5 (by kernel_rfl)
    (of_decide_eq_true (by kernel_rfl)) (by unfold Func.isWrapper; first | (rw [if_pos (by decide +kernel)]; kernel_rfl) | (rw [if_neg (by decide +kernel)]; exact ⟨rfl, rfl⟩))
    (fun os started H enc _ => lifted5 os started H enc)

end Go.Proofs.Ytfdijfnmloddcaa
