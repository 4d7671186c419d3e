/- The law DiskPrefix returns true for every slice of bytes, every slice of bytes, every int, every int, every int. -/
import Derived.Test.YtjipknfohmgjaaaDPrefix
import Derived.Test.YtjipknfohmgjaaaDOpen
namespace Go.Proofs.Ytjipknfohmgjaaa
open Go Go.Vai Go.ChangeShapes Go.WideShapes Go.ChangeAt Go.RowKit

theorem b64 {x : Int} (h : (Lit.int .i64 x).wf = true) : -9223372036854775808 ≤ x ∧ x ≤ 9223372036854775807 := by
  have h1 : IntKind.i64.min = -9223372036854775808 := rfl
  have h2 : IntKind.i64.max = 9223372036854775807 := rfl
  simp only [Lit.wf, Bool.and_eq_true, decide_eq_true_eq, h1, h2] at h
  exact h
theorem b8 {x : Int} (h : (Lit.int .u8 x).wf = true) : 0 ≤ x ∧ x ≤ 255 := by
  have h1 : IntKind.u8.min = 0 := rfl
  have h2 : IntKind.u8.max = 255 := rfl
  simp only [Lit.wf, Bool.and_eq_true, decide_eq_true_eq, h1, h2] at h
  exact h

theorem law4 (l0 : List UInt8) (hl0 : l0.length ≤ 140737488351232) (l1 : List UInt8) (hl1 : l1.length ≤ 140737488351232) (x2 : Int) (w2 : (Lit.int .i64 x2).wf = true) (x3 : Int) (w3 : (Lit.int .i64 x3).wf = true) (x4 : Int) (w4 : (Lit.int .i64 x4).wf = true) (W : World) (v0 : Value) (v1 : Value) (r0 : Rep (gStart W) W v0 (.vs 1 false (l0.map byteAV))) (r1 : Rep (gStart W) W v1 (.vs 1 false (l1.map byteAV))) :
    Calls Try.prog 4 #[v0, v1, .int .i64 x2, .int .i64 x3, .int .i64 x4] W fun e w' => e = .returned (.bool true) ∧ Below W.heap.size W w' := by
  obtain ⟨d, H, nx, h⟩ := c4 l0 false hl0 l1 false hl1 x2 (b64 w2) x3 (b64 w3) x4 (b64 w4)
  exact law_true (CW_ok d) h (cargs := [v0, v1, .int .i64 x2, .int .i64 x3, .int .i64 x4]) (repL_cons r0 (repL_cons r1 (repL_cons (.int _ _) (repL_cons (.int _ _) (repL_cons (.int _ _) repL_nil)))))

set_option maxRecDepth 100000 in
theorem lifted4 (os : Os) (started : os.Started) (H : Type) (enc : TypeId × Value → H) :
    ReturnsInHanded {} Try.checked os 4 .any (Rows.diskPrefixSpec.pre6 enc Try.prog Try.f4 Rows.diskPrefixRow.domain false) (Rows.diskPrefixSpec.post enc Try.prog Try.f4 false true false false) := by
  refine returnsInHanded_of_change_sized (C := Try.checked) Try.own started (by kernel_rfl) Try.func4
    (ChangeSpec.witness6 (enc := enc) (C := Try.checked) false ⟨#[], #[.slice none 0 0, .slice none 0 0, .int .i64 0, .int .i64 0, .int .i64 0], []⟩ 8 (by kernel_rfl) (by kernel_rfl) (by kernel_rfl) (by kernel_rfl)) ?_
  intro W base args ds gs before hval0 hW _ hsz0 _
  have hsz : (DataW.weightsEach Try.prog (Try.f4.params.toList ++ Rows.diskPrefixSpec.plain.varTypes Try.prog) (ds ++ gs)).all (· ≤ reachBytes) = true := hsz0
  clear hsz0
  have hval : ∀ (j : Nat) t v, Try.f4.params[j]? = some t → args[j]? = some v → Value.okWide Try.prog W .any base t v := hval0
  have hW' := hW
  obtain ⟨p, q, hA0, hV, rfl, _, _⟩ := hW
  have hA : DataW.TrodAll enc Try.prog W 0 (fun _ => true) true Try.f4.params.toList args.toList ds p := hA0
  rw [Try.params4] at hA hval
  obtain ⟨v0, v1, v2, v3, v4, d0, d1, d2, d3, d4, p0, p1, p2, p3, p4, rfl, rfl, rfl, h0, h1, h2, h3, h4⟩ := trodAll_five hA
  obtain ⟨rfl, rfl⟩ := trodVars_none hV
  obtain ⟨l0, r0, hlen0⟩ := open_bytes Try.underlying25 Try.underlying5 Try.cells5 (hval 0 25 v0 rfl rfl) h0
  obtain ⟨l1, r1, hlen1⟩ := open_bytes Try.underlying25 Try.underlying5 Try.cells5 (hval 1 25 v1 rfl rfl) h1
  obtain ⟨x2, rfl, rfl, rfl, w2⟩ := open_int Try.underlying3 (hval 2 3 v2 rfl rfl) h2
  obtain ⟨x3, rfl, rfl, rfl, w3⟩ := open_int Try.underlying3 (hval 3 3 v3 rfl rfl) h3
  obtain ⟨x4, rfl, rfl, rfl, w4⟩ := open_int Try.underlying3 (hval 4 3 v4 rfl rfl) h4
  clear hA0 hval0
  simp only [List.append_nil, List.nil_append] at hW'
  have hlt : ∀ x ∈ p0 ++ p1, x.block < W.heap.size := fun x hx => by simpa using hW'.lt x (by simpa using hx)
  have hb0 : l0.length ≤ 140737488351232 := by
    rcases hlen0 with rfl | ⟨elems, spare, rfl, h⟩
    · simp
    · have := sized_slice hsz (j := 0) (t := 25) (e := 5) rfl rfl Try.underlying25
      rw [Try.bytes5] at this
      simp only [reachBytes] at this
      omega
  have hb1 : l1.length ≤ 140737488351232 := by
    rcases hlen1 with rfl | ⟨elems, spare, rfl, h⟩
    · simp
    · have := sized_slice hsz (j := 1) (t := 25) (e := 5) rfl rfl Try.underlying25
      rw [Try.bytes5] at this
      simp only [reachBytes] at this
      omega
  refine (law4 l0 hb0 l1 hb1 x2 w2 x3 w3 x4 w4 W v0 v1 r0 r1).mono fun e W' ⟨he, hw⟩ => ?_
  subst he
  have k0 : DataW.Trod enc Try.prog W' 0 (fun b => decide (b < W.heap.size)) true 25 v0 d0 p0 :=
    Below.trod Try.laidOut (by kernel_rfl) (of_decide_eq_true (by kernel_rfl)) h0 hw (fun x hx => hlt x (by simp [hx]))
  have k1 : DataW.Trod enc Try.prog W' 0 (fun b => decide (b < W.heap.size)) true 25 v1 d1 p1 :=
    Below.trod Try.laidOut (by kernel_rfl) (of_decide_eq_true (by kernel_rfl)) h1 hw (fun x hx => hlt x (by simp [hx]))
  have hall : DataW.TrodAll enc Try.prog W' 0 (fun b => decide (b < W.heap.size)) true [25, 25, 3, 3, 3] [v0, v1, .int .i64 x2, .int .i64 x3, .int .i64 x4] [d0, d1, .lit (.int .i64 x2), .lit (.int .i64 x3), .lit (.int .i64 x4)] (p0 ++ p1) := by
    rw [show p0 ++ p1 = p0 ++ (p1 ++ ([] ++ ([] ++ []))) by simp]
    exact trodAll_mk5 k0 k1 (shut_int Try.underlying3 w2) (shut_int Try.underlying3 w3) (shut_int Try.underlying3 w4)
  exact ⟨_, rfl, _, _, _, [], p0 ++ p1, [], hW', trodAll_mk1 (shut_bool Try.underlying4 _), hall, rfl, hw.frame _, fun h => by cases h⟩

theorem diskPrefix_holds : Rows.DiskPrefixSaid :=
  OpenClaim.holds_of_wide 4 Try.f4 rfl rfl rfl rfl rfl rfl rfl ⟨rfl, rfl, rfl, rfl, rfl⟩ rfl rfl rfl rfl rfl (by kernel_rfl) Try.func4 (by kernel_rfl)
    (of_decide_eq_true (by kernel_rfl)) (by unfold Func.isWrapper; first | (rw [if_pos (by decide +kernel)]; kernel_rfl) | (rw [if_neg (by decide +kernel)]; exact ⟨rfl, rfl⟩))
    (fun os started H enc _ => lifted4 os started H enc)

end Go.Proofs.Ytjipknfohmgjaaa
