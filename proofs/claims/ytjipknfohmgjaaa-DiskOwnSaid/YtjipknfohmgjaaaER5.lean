/- The law DiskOwn returns true for every slice of bytes, every int, every byte. -/
import Derived.Test.YtjipknfohmgjaaaEOwn
import Derived.Test.YtjipknfohmgjaaaEOpen
namespace Go.Proofs.Ytjipknfohmgjaaa
open Go Go.Vai Go.ChangeShapes Go.WideShapes Go.ChangeAt Go.RowKit

theorem b64 {x : Int} (h : (Lit.int .i64 x).wf = true) : -9223372036854775808 ≤ x ∧ x ≤ 9223372036854775807 := by
  have h1 : IntKind.i64.min = -9223372036854775808 := rfl
  have h2 : IntKind.i64.max = 9223372036854775807 := rfl
  simp only [Lit.wf, Bool.and_eq_true, decide_eq_true_eq, h1, h2] at h
  exact h
theorem b8 {x : Int} (h : (Lit.int .u8 x).wf = true) : 0 ≤ x ∧ x ≤ 255 := by
  have h1 : IntKind.u8.min = 0 := rfl
  have h2 : IntKind.u8.max = 255 := rfl
  simp only [Lit.wf, Bool.and_eq_true, decide_eq_true_eq, h1, h2] at h
  exact h

theorem law5 (l0 : List UInt8) (hl0 : l0.length ≤ 140737488351232) (x1 : Int) (w1 : (Lit.int .i64 x1).wf = true) (x2 : Int) (w2 : (Lit.int .u8 x2).wf = true) (W : World) (v0 : Value) (r0 : Rep (gStart W) W v0 (.vs 1 false (l0.map byteAV))) :
    Calls Try.prog 5 #[v0, .int .i64 x1, .int .u8 x2] W fun e w' => e = .returned (.bool true) ∧ Below W.heap.size W w' := by
  obtain ⟨d, H, nx, h⟩ := c5 l0 false hl0 x1 (b64 w1) x2 (b8 w2)
  exact law_true (CW_ok d) h (cargs := [v0, .int .i64 x1, .int .u8 x2]) (repL_cons r0 (repL_cons (.int _ _) (repL_cons (.int _ _) repL_nil)))

set_option maxRecDepth 100000 in
theorem lifted5 (os : Os) (started : os.Started) (H : Type) (enc : TypeId × Value → H) :
    ReturnsInHanded {} Try.checked os 5 .any (Rows.diskOwnSpec.pre6 enc Try.prog Try.f5 Rows.diskOwnRow.domain false) (Rows.diskOwnSpec.post enc Try.prog Try.f5 false true false false) := by
  refine returnsInHanded_of_change_sized (C := Try.checked) Try.own started (by kernel_rfl) Try.func5
    (ChangeSpec.witness6 (enc := enc) (C := Try.checked) false ⟨#[], #[.slice none 0 0, .int .i64 0, .int .u8 0], []⟩ 8 (by kernel_rfl) (by kernel_rfl) (by kernel_rfl) (by kernel_rfl)) ?_
  intro W base args ds gs before hval0 hW _ hsz0 _
  have hsz : (DataW.weightsEach Try.prog (Try.f5.params.toList ++ Rows.diskOwnSpec.plain.varTypes Try.prog) (ds ++ gs)).all (· ≤ reachBytes) = true := hsz0
  clear hsz0
  have hval : ∀ (j : Nat) t v, Try.f5.params[j]? = some t → args[j]? = some v → Value.okWide Try.prog W .any base t v := hval0
  have hW' := hW
  obtain ⟨p, q, hA0, hV, rfl, _, _⟩ := hW
  have hA : DataW.TrodAll enc Try.prog W 0 (fun _ => true) true Try.f5.params.toList args.toList ds p := hA0
  rw [Try.params5] at hA hval
  obtain ⟨v0, v1, v2, d0, d1, d2, p0, p1, p2, rfl, rfl, rfl, h0, h1, h2⟩ := trodAll_three hA
  obtain ⟨rfl, rfl⟩ := trodVars_none hV
  obtain ⟨l0, r0, hlen0⟩ := open_bytes Try.underlying25 Try.underlying5 Try.cells5 (hval 0 25 v0 rfl rfl) h0
  obtain ⟨x1, rfl, rfl, rfl, w1⟩ := open_int Try.underlying3 (hval 1 3 v1 rfl rfl) h1
  obtain ⟨x2, rfl, rfl, rfl, w2⟩ := open_int Try.underlying5 (hval 2 5 v2 rfl rfl) h2
  clear hA0 hval0
  simp only [List.append_nil, List.nil_append] at hW'
  have hlt : ∀ x ∈ p0, x.block < W.heap.size := fun x hx => by simpa using hW'.lt x (by simpa using hx)
  have hb0 : l0.length ≤ 140737488351232 := by
    rcases hlen0 with rfl | ⟨elems, spare, rfl, h⟩
    · simp
    · have := sized_slice hsz (j := 0) (t := 25) (e := 5) rfl rfl Try.underlying25
      rw [Try.bytes5] at this
      simp only [reachBytes] at this
      omega
  refine (law5 l0 hb0 x1 w1 x2 w2 W v0 r0).mono fun e W' ⟨he, hw⟩ => ?_
  subst he
  have k0 : DataW.Trod enc Try.prog W' 0 (fun b => decide (b < W.heap.size)) true 25 v0 d0 p0 :=
    Below.trod Try.laidOut (by kernel_rfl) (of_decide_eq_true (by kernel_rfl)) h0 hw (fun x hx => hlt x (by simp [hx]))
  have hall : DataW.TrodAll enc Try.prog W' 0 (fun b => decide (b < W.heap.size)) true [25, 3, 5] [v0, .int .i64 x1, .int .u8 x2] [d0, .lit (.int .i64 x1), .lit (.int .u8 x2)] (p0) := by
    rw [show p0 = p0 ++ ([] ++ []) by simp]
    exact trodAll_mk3 k0 (shut_int Try.underlying3 w1) (shut_int Try.underlying5 w2)
  exact ⟨_, rfl, _, _, _, [], p0, [], hW', trodAll_mk1 (shut_bool Try.underlying4 _), hall, rfl, hw.frame _, fun h => by cases h⟩

theorem diskOwn_holds : Rows.DiskOwnSaid :=
  OpenClaim.holds_of_wide 5 Try.f5 rfl rfl rfl rfl rfl rfl rfl ⟨rfl, rfl, rfl, rfl, rfl⟩ rfl rfl rfl rfl rfl (by kernel_rfl) Try.func5 (by kernel_rfl)
    (of_decide_eq_true (by kernel_rfl)) (by unfold Func.isWrapper; first | (rw [if_pos (by decide +kernel)]; kernel_rfl) | (rw [if_neg (by decide +kernel)]; exact ⟨rfl, rfl⟩))
    (fun os started H enc _ => lifted5 os started H enc)

end Go.Proofs.Ytjipknfohmgjaaa
