/- The law DiskNil returns true for every int, every int, every slice of bytes. -/
import Derived.Test.YtjipknfohmgjaaaDNil
import Derived.Test.YtjipknfohmgjaaaDOpen
namespace Go.Proofs.Ytjipknfohmgjaaa
open Go Go.Vai Go.ChangeShapes Go.WideShapes Go.ChangeAt Go.RowKit

theorem b64 {x : Int} (h : (Lit.int .i64 x).wf = true) : -9223372036854775808 ≤ x ∧ x ≤ 9223372036854775807 := by
  have h1 : IntKind.i64.min = -9223372036854775808 := rfl
  have h2 : IntKind.i64.max = 9223372036854775807 := rfl
  simp only [Lit.wf, Bool.and_eq_true, decide_eq_true_eq, h1, h2] at h
  exact h
theorem b8 {x : Int} (h : (Lit.int .u8 x).wf = true) : 0 ≤ x ∧ x ≤ 255 := by
  have h1 : IntKind.u8.min = 0 := rfl
  have h2 : IntKind.u8.max = 255 := rfl
  simp only [Lit.wf, Bool.and_eq_true, decide_eq_true_eq, h1, h2] at h
  exact h

theorem law10 (x0 : Int) (w0 : (Lit.int .i64 x0).wf = true) (x1 : Int) (w1 : (Lit.int .i64 x1).wf = true) (l2 : List UInt8) (hl2 : l2.length ≤ 140737488351232) (W : World) (v2 : Value) (r2 : Rep (gStart W) W v2 (.vs 1 false (l2.map byteAV))) :
    Calls Try.prog 10 #[.int .i64 x0, .int .i64 x1, v2] W fun e w' => e = .returned (.bool true) ∧ Below W.heap.size W w' := by
  obtain ⟨d, H, nx, h⟩ := c10 x0 (b64 w0) x1 (b64 w1) l2 false hl2
  exact law_true (CW_ok d) h (cargs := [.int .i64 x0, .int .i64 x1, v2]) (repL_cons (.int _ _) (repL_cons (.int _ _) (repL_cons r2 repL_nil)))

set_option maxRecDepth 100000 in
theorem lifted10 (os : Os) (started : os.Started) (H : Type) (enc : TypeId × Value → H) :
    ReturnsInHanded {} Try.checked os 10 .any (Rows.diskNilSpec.pre6 enc Try.prog Try.f10 Rows.diskNilRow.domain false) (Rows.diskNilSpec.post enc Try.prog Try.f10 false true false false) := by
  refine returnsInHanded_of_change_sized (C := Try.checked) Try.own started (by kernel_rfl) Try.func10
    (ChangeSpec.witness6 (enc := enc) (C := Try.checked) false ⟨#[], #[.int .i64 0, .int .i64 0, .slice none 0 0], []⟩ 8 (by kernel_rfl) (by kernel_rfl) (by kernel_rfl) (by kernel_rfl)) ?_
  intro W base args ds gs before hval0 hW _ hsz0 _
  have hsz : (DataW.weightsEach Try.prog (Try.f10.params.toList ++ Rows.diskNilSpec.plain.varTypes Try.prog) (ds ++ gs)).all (· ≤ reachBytes) = true := hsz0
  clear hsz0
  have hval : ∀ (j : Nat) t v, Try.f10.params[j]? = some t → args[j]? = some v → Value.okWide Try.prog W .any base t v := hval0
  have hW' := hW
  obtain ⟨p, q, hA0, hV, rfl, _, _⟩ := hW
  have hA : DataW.TrodAll enc Try.prog W 0 (fun _ => true) true Try.f10.params.toList args.toList ds p := hA0
  rw [Try.params10] at hA hval
  obtain ⟨v0, v1, v2, d0, d1, d2, p0, p1, p2, rfl, rfl, rfl, h0, h1, h2⟩ := trodAll_three hA
  obtain ⟨rfl, rfl⟩ := trodVars_none hV
  obtain ⟨x0, rfl, rfl, rfl, w0⟩ := open_int Try.underlying3 (hval 0 3 v0 rfl rfl) h0
  obtain ⟨x1, rfl, rfl, rfl, w1⟩ := open_int Try.underlying3 (hval 1 3 v1 rfl rfl) h1
  obtain ⟨l2, r2, hlen2⟩ := open_bytes Try.underlying25 Try.underlying5 Try.cells5 (hval 2 25 v2 rfl rfl) h2
  clear hA0 hval0
  simp only [List.append_nil, List.nil_append] at hW'
  have hlt : ∀ x ∈ p2, x.block < W.heap.size := fun x hx => by simpa using hW'.lt x (by simpa using hx)
  have hb2 : l2.length ≤ 140737488351232 := by
    rcases hlen2 with rfl | ⟨elems, spare, rfl, h⟩
    · simp
    · have := sized_slice hsz (j := 2) (t := 25) (e := 5) rfl rfl Try.underlying25
      rw [Try.bytes5] at this
      simp only [reachBytes] at this
      omega
  refine (law10 x0 w0 x1 w1 l2 hb2 W v2 r2).mono fun e W' ⟨he, hw⟩ => ?_
  subst he
  have k2 : DataW.Trod enc Try.prog W' 0 (fun b => decide (b < W.heap.size)) true 25 v2 d2 p2 :=
    Below.trod Try.laidOut (by kernel_rfl) (of_decide_eq_true (by kernel_rfl)) h2 hw (fun x hx => hlt x (by simp [hx]))
  have hall : DataW.TrodAll enc Try.prog W' 0 (fun b => decide (b < W.heap.size)) true [3, 3, 25] [.int .i64 x0, .int .i64 x1, v2] [.lit (.int .i64 x0), .lit (.int .i64 x1), d2] (p2) := by
    rw [show p2 = [] ++ ([] ++ p2) by simp]
    exact trodAll_mk3 (shut_int Try.underlying3 w0) (shut_int Try.underlying3 w1) k2
  exact ⟨_, rfl, _, _, _, [], p2, [], hW', trodAll_mk1 (shut_bool Try.underlying4 _), hall, rfl, hw.frame _, fun h => by cases h⟩

theorem diskNil_holds : Rows.DiskNilSaid :=
  OpenClaim.holds_of_wide 10 Try.f10 rfl rfl rfl rfl rfl rfl rfl ⟨rfl, rfl, rfl, rfl, rfl⟩ rfl rfl rfl rfl rfl (by kernel_rfl) Try.func10 (by kernel_rfl)
    (of_decide_eq_true (by kernel_rfl)) (by unfold Func.isWrapper; first | (rw [if_pos (by decide +kernel)]; kernel_rfl) | (rw [if_neg (by decide +kernel)]; exact ⟨rfl, rfl⟩))
    (fun os started H enc _ => lifted10 os started H enc)

end Go.Proofs.Ytjipknfohmgjaaa
