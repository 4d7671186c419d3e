/- The law DiskPlays returns true for every int, every slice of acts. -/
import Derived.Test.YtjipknfohmgjaaaPPlays
import Derived.Test.YtjipknfohmgjaaaDOpen
import Derived.Deep.Slices
import Derived.Deep.Fields
import Derived.Lib.SmallJoins
namespace Go.Proofs.Ytjipknfohmgjaaa
open Go Go.Vai Go.ChangeShapes Go.WideShapes Go.ChangeAt Go.RowKit

section
variable {H : Type} {enc : TypeId × Value → H} {P : Program} {W : World} {base : Nat}

theorem open_cell_bytes {t e : TypeId} {V : Value} {fuel : Nat} {x : DataW H × List MemPlace} (ht : P.underlying t = some (.slice e)) (he : P.underlying e = some (.int .u8)) (hc : P.cellsOf e = 1)
    (h : DataW.trod enc P W 0 (fun _ => true) true fuel t [V] = some x) : ∃ bs : List UInt8, Rep (gStart W) W V (.vs 1 false (bs.map byteAV)) ∧ V.oneCell' = true := by
  rcases open_ints ht he hc h with ⟨hcs, hx⟩ | ⟨a, len0, cap0, zs, hcs, _, hl, hm, hz, hx, hcell, hwz⟩
  · simp at hcs
    subst hcs
    exact ⟨[], .vsnil _ _ _, rfl⟩
  · simp at hcs
    subst hcs
    simp only [if_true] at hz
    by_cases h0 : cap0 = 0
    · subst h0
      have : len0 = 0 := by omega
      subst this
      exact ⟨[], .vsnil _ _ _, rfl⟩
    obtain ⟨B, off, spot⟩ := a
    have hspot : spot = none := by
      have h1 := hcell 0 (by omega)
      rw [show (⟨B, off, spot⟩ : Addr).add 0 = ⟨B, off, spot⟩ by unfold Addr.add; simp] at h1
      cases spot with
      | none => rfl
      | some s =>
        unfold World.cell? at h1
        split at h1
        · simp at h1
        · cases h1
    subst hspot
    refine ⟨(zs.take len0).map fun z => UInt8.ofNat z.toNat, ?_, rfl⟩
    have hlen2 : (((zs.take len0).map fun z => UInt8.ofNat z.toNat).map byteAV).length = len0 := by simp; omega
    have := Rep.vs (g := gStart W) (w := W) B off cap0 1 false (((zs.take len0).map fun z => UInt8.ofNat z.toNat).map byteAV) ((zs.take len0).map fun z => Value.int .u8 z)
      (by rw [flat_bytes]; simp) (fun x hx => by
        obtain ⟨y, _, rfl⟩ := List.mem_map.1 hx
        rfl) (by simp) (by rw [hlen2]; exact hl) (fun j u hu => ?_) (fun j u c hu hcc => ?_)
    · rw [hlen2] at this
      exact this
    · rw [List.getElem?_map] at hu
      obtain ⟨z, hz1, rfl⟩ := Option.map_eq_some_iff.1 hu
      have hj : j < len0 := by have := (List.getElem?_eq_some_iff.1 hz1).1; simp at this; omega
      have hzj : zs.getD j 0 = z := by
        rw [List.getElem?_take, if_pos hj] at hz1
        simp [hz1]
      have hc1 := hcell j (by omega)
      rw [hzj, Addr.add_lit] at hc1
      exact ⟨hc1, pub_of_cell hc1, rfl⟩
    · rw [flat_bytes, List.getElem?_map, List.getElem?_map] at hcc
      rw [List.getElem?_map] at hu
      obtain ⟨z, hz1, rfl⟩ := Option.map_eq_some_iff.1 hu
      rw [hz1] at hcc
      simp only [Option.map_some, Option.some.injEq] at hcc
      subst hcc
      have hw := hwz z (List.mem_of_mem_take (List.mem_of_getElem? hz1))
      have h1 : IntKind.u8.min = 0 := rfl
      have h2 : IntKind.u8.max = 255 := rfl
      simp only [Lit.wf, Bool.and_eq_true, decide_eq_true_eq, h1, h2] at hw
      obtain ⟨n, rfl⟩ := Int.eq_ofNat_of_zero_le hw.1
      have : byteAV (UInt8.ofNat ((n : Int).toNat)) = .int .u8 (n : Int) := by
        have : n < 256 := by omega
        simp [byteAV, Nat.mod_eq_of_lt this]
      rw [this]
      exact .int _ _

theorem flat4_len {α : Type} (f : Nat → List α) (hf : ∀ i, (f i).length = 4) : ∀ n : Nat, ((List.range n).flatMap f).length = n * 4
  | 0 => rfl
  | n + 1 => by rw [List.range_succ, List.flatMap_append, List.length_append, flat4_len f hf n]; simp [hf]; omega
theorem flat4_get {α : Type} (f : Nat → List α) (hf : ∀ i, (f i).length = 4) : ∀ (n j : Nat) (u : α), ((List.range n).flatMap f)[j]? = some u → j < n * 4 ∧ (f (j / 4))[j % 4]? = some u
  | 0, j, u, h => by simp at h
  | n + 1, j, u, h => by
    rw [List.range_succ, List.flatMap_append, List.getElem?_append, flat4_len f hf n] at h
    split at h
    · obtain ⟨h1, h2⟩ := flat4_get f hf n j u h
      exact ⟨by omega, h2⟩
    · rename_i hj
      simp only [List.flatMap_cons, List.flatMap_nil, List.append_nil] at h
      have h3 := (List.getElem?_eq_some_iff.1 h).1
      rw [hf n] at h3
      have e1 : j / 4 = n := by omega
      have e2 : j % 4 = j - n * 4 := by omega
      exact ⟨by omega, by rw [e1, e2]; exact h⟩

theorem open_acts {t e b : TypeId} {f0 f1 f2 f3 : Field} {v : Value} {d : DataW H} {p : List MemPlace} (ht : P.underlying t = some (.slice e)) (he : P.underlying e = some (.struct #[f0, f1, f2, f3])) (hone : Go.Deep.oneCellFields P #[f0, f1, f2, f3] = true)
    (ce : P.cellsOf e = 4) (k0 : P.underlying f0.type = some (.int .i64)) (k1 : P.underlying f1.type = some (.int .i64)) (k2 : P.underlying f2.type = some (.int .i64)) (k3 : P.underlying f3.type = some (.slice b)) (kb : P.underlying b = some (.int .u8)) (cb : P.cellsOf b = 1)
    (hval : Value.okWide P W .any base t v) (h : DataW.Trod enc P W 0 (fun _ => true) true t v d p) :
    ∃ l : List ActT, Rep (gStart W) W v (.vs 4 false (l.map actAV)) ∧ (∀ a ∈ l, -9223372036854775808 ≤ a.2.1 ∧ a.2.1 ≤ 9223372036854775807) ∧ (l = [] ∨ ∃ elems spare, d = .slice elems spare ∧ l.length ≤ elems.length + spare.length) := by
  obtain ⟨a0, len0, cap00, rfl⟩ := okWide_slice ht hval
  obtain ⟨fuel, hf⟩ := h
  rcases Go.Deep.open_slice ht hf with ⟨hcs, hx⟩ | ⟨a, len, cap, m, n, D, Pl, hcs, _, hl, hm, hmm, hx, hel⟩
  · simp [Value.cells] at hcs
    obtain ⟨rfl, rfl, rfl⟩ := hcs
    exact ⟨[], .vsnil _ _ _, fun a ha => (by cases ha), .inl rfl⟩
  · simp [Value.cells] at hcs
    obtain ⟨rfl, rfl, rfl⟩ := hcs
    simp only [if_true] at hmm
    subst hmm
    obtain ⟨B, off, spot⟩ := a
    have hspot : spot = none := by
      simp only [Value.okWide, ht, Cell.okWide, Cell.ok] at hval
      exact hval.2.2.2.1
    subst hspot
    obtain ⟨o0, c0⟩ := Go.Deep.hone_of hone 0 f0 rfl
    obtain ⟨o1, c1⟩ := Go.Deep.hone_of hone 1 f1 rfl
    obtain ⟨o2, c2⟩ := Go.Deep.hone_of hone 2 f2 rfl
    obtain ⟨o3, c3⟩ := Go.Deep.hone_of hone 3 f3 rfl
    have each : ∀ i, i < len0 → ∃ q : ActT × List Value, q.2.length = 4 ∧ (∀ r, r < 4 → W.cell? ⟨B, off + (i * 4 + r), none⟩ = q.2[r]?) ∧ RepL (gStart W) W q.2 (actAV q.1).cells ∧ (∀ u ∈ q.2, u.oneCell' = true) ∧ -9223372036854775808 ≤ q.1.2.1 ∧ q.1.2.1 ≤ 9223372036854775807 := by
      intro i hi
      obtain ⟨cs', g1, g2⟩ := hel i (by omega)
      rw [ce] at g1
      obtain ⟨_, hlen, hcell⟩ := World.cells?_some g1
      obtain ⟨y0, y1, y2, y3, n', _, _, t0, t1, t2, t3⟩ := Go.Joins.trod_struct4 he g2
      match cs', hlen with
      | [u0, u1, u2, u3], _ =>
        simp [o0, c0] at t0
        simp [o1, c1] at t1
        simp [o2, c2] at t2
        simp [o3, c3] at t3
        obtain ⟨z0, q0, _, w0⟩ := DataW.trod_int k0 t0
        obtain ⟨z1, q1, _, w1⟩ := DataW.trod_int k1 t1
        obtain ⟨z2, q2, _, w2⟩ := DataW.trod_int k2 t2
        simp at q0 q1 q2
        subst q0 q1 q2
        obtain ⟨bs, hbs, hb1⟩ := open_cell_bytes k3 kb cb t3
        have h1 : IntKind.i64.min = -9223372036854775808 := rfl
        have h2 : IntKind.i64.max = 9223372036854775807 := rfl
        simp only [Lit.wf, Bool.and_eq_true, decide_eq_true_eq, h1, h2] at w1
        refine ⟨((z0, z1, z2, bs), [.int .i64 z0, .int .i64 z1, .int .i64 z2, u3]), rfl, fun r hr => ?_, ⟨rfl, fun j u c hu hcj => ?_⟩, fun u hu => ?_, w1.1, w1.2⟩
        · have := hcell r hr
          rw [Addr.add_lit, Addr.add_lit] at this
          rw [← this]
          congr 2
          omega
        · match j with
          | 0 => simp [actAV, AV.cells] at hu hcj; subst hu hcj; exact .int _ _
          | 1 => simp [actAV, AV.cells] at hu hcj; subst hu hcj; exact .int _ _
          | 2 => simp [actAV, AV.cells] at hu hcj; subst hu hcj; exact .int _ _
          | 3 => simp [actAV, AV.cells] at hu hcj; subst hu hcj; exact hbs
          | j + 4 => simp at hu
        · simp at hu
          rcases hu with rfl | rfl | rfl | rfl
          · rfl
          · rfl
          · rfl
          · exact hb1
    haveI : Inhabited (ActT × List Value) := ⟨((0, 0, 0, []), [])⟩
    obtain ⟨q, hq⟩ := Go.Deep.choose_lt each
    let f : Nat → List Value := fun i => if i < len0 then (q i).2 else [.int .i64 0, .int .i64 0, .int .i64 0, .int .i64 0]
    have hf4 : ∀ i, (f i).length = 4 := fun i => by
      show (if i < len0 then (q i).2 else _).length = 4
      split
      · rename_i hi; exact (hq i hi).1
      · rfl
    have hfi : ∀ i, i < len0 → f i = (q i).2 := fun i hi => if_pos hi
    have hact : (((List.range len0).map fun i => (q i).1).map actAV).flatMap AV.cells = (List.range len0).flatMap fun i => (actAV (q i).1).cells := by
      rw [List.map_map, List.flatMap_map]
      rfl
    have hlen : (((List.range len0).map fun i => (q i).1).map actAV).length = len0 := by simp
    refine ⟨(List.range len0).map fun i => (q i).1, ?_, fun a ha => ?_, .inr ⟨_, _, by injection hx, ?_⟩⟩
    · have := Rep.vs (g := gStart W) (w := W) B off _ 4 false (((List.range len0).map fun i => (q i).1).map actAV) ((List.range len0).flatMap f)
        (by rw [hact, flat4_len f hf4, flat4_len (fun i => (actAV (q i).1).cells) (fun i => rfl)]) (fun x hx => by
          obtain ⟨y, _, rfl⟩ := List.mem_map.1 hx
          rfl) (by simp) (by rw [hlen]; exact hl) (fun j u hu => ?_) (fun j u c hu hcc => ?_)
      · rw [hlen] at this
        exact this
      · obtain ⟨h1, h2⟩ := flat4_get f hf4 len0 j u hu
        have hi : j / 4 < len0 := by omega
        rw [hfi _ hi] at h2
        obtain ⟨_, hc1, _, ho, _⟩ := hq (j / 4) hi
        have hc2 := hc1 (j % 4) (by omega)
        rw [h2, show j / 4 * 4 + j % 4 = j by omega] at hc2
        exact ⟨hc2, pub_of_cell hc2, ho u (List.mem_of_getElem? h2)⟩
      · rw [hact] at hcc
        obtain ⟨h1, h2⟩ := flat4_get f hf4 len0 j u hu
        have hi : j / 4 < len0 := by omega
        rw [hfi _ hi] at h2
        obtain ⟨_, h3⟩ := flat4_get (fun i => (actAV (q i).1).cells) (fun i => rfl) len0 j c hcc
        exact (hq (j / 4) hi).2.2.1.2 (j % 4) u c h2 h3
    · obtain ⟨i, hi, rfl⟩ := List.mem_map.1 ha
      exact (hq i (List.mem_range.1 hi)).2.2.2.2
    · simp

end
end Go.Proofs.Ytjipknfohmgjaaa

namespace Go.Proofs.Ytjipknfohmgjaaa
open Go Go.Vai Go.ChangeShapes Go.WideShapes Go.ChangeAt Go.RowKit

theorem b64 {x : Int} (h : (Lit.int .i64 x).wf = true) : -9223372036854775808 ≤ x ∧ x ≤ 9223372036854775807 := by
  have h1 : IntKind.i64.min = -9223372036854775808 := rfl
  have h2 : IntKind.i64.max = 9223372036854775807 := rfl
  simp only [Lit.wf, Bool.and_eq_true, decide_eq_true_eq, h1, h2] at h
  exact h
theorem b8 {x : Int} (h : (Lit.int .u8 x).wf = true) : 0 ≤ x ∧ x ≤ 255 := by
  have h1 : IntKind.u8.min = 0 := rfl
  have h2 : IntKind.u8.max = 255 := rfl
  simp only [Lit.wf, Bool.and_eq_true, decide_eq_true_eq, h1, h2] at h
  exact h

theorem law7 (x0 : Int) (w0 : (Lit.int .i64 x0).wf = true) (l1 : List ActT) (hl1 : l1.length ≤ 140737488351232) (hr1 : ∀ a ∈ l1, -9223372036854775808 ≤ a.2.1 ∧ a.2.1 ≤ 9223372036854775807) (W : World) (v1 : Value) (r1 : Rep (gStart W) W v1 (.vs 4 false (l1.map actAV))) :
    Calls Try.prog 7 #[.int .i64 x0, v1] W fun e w' => e = .returned (.bool true) ∧ Below W.heap.size W w' := by
  obtain ⟨d, H, nx, h⟩ := c7 x0 (b64 w0) false l1 hl1 hr1
  exact law_true (CW_ok d) h (cargs := [.int .i64 x0, v1]) (repL_cons (.int _ _) (repL_cons r1 repL_nil)) (globOk_nil (by kernel_rfl) _ _)

set_option maxRecDepth 100000 in
theorem lifted7 (os : Os) (started : os.Started) (H : Type) (enc : TypeId × Value → H) :
    ReturnsInHanded {} Try.checked os 7 .any (Rows.diskPlaysSpec.pre6 enc Try.prog Try.f7 Rows.diskPlaysRow.domain false) (Rows.diskPlaysSpec.post enc Try.prog Try.f7 false true false false) := by
  refine returnsInHanded_of_change_sized (C := Try.checked) Try.own started (by kernel_rfl) Try.func7
    (ChangeSpec.witness6 (enc := enc) (C := Try.checked) false ⟨#[], #[.int .i64 0, .slice none 0 0], []⟩ 8 (by kernel_rfl) (by kernel_rfl) (by kernel_rfl) (by kernel_rfl)) ?_
  intro W base args ds gs before hval0 hW _ hsz0 _
  have hsz : (DataW.weightsEach Try.prog (Try.f7.params.toList ++ Rows.diskPlaysSpec.plain.varTypes Try.prog) (ds ++ gs)).all (· ≤ reachBytes) = true := hsz0
  clear hsz0
  have hval : ∀ (j : Nat) t v, Try.f7.params[j]? = some t → args[j]? = some v → Value.okWide Try.prog W .any base t v := hval0
  have hW' := hW
  obtain ⟨p, q, hA0, hV, rfl, _, _⟩ := hW
  have hA : DataW.TrodAll enc Try.prog W 0 (fun _ => true) true Try.f7.params.toList args.toList ds p := hA0
  rw [Try.params7] at hA hval
  obtain ⟨v0, v1, d0, d1, p0, p1, rfl, rfl, rfl, h0, h1⟩ := trodAll_two hA
  obtain ⟨rfl, rfl⟩ := trodVars_none hV
  obtain ⟨x0, rfl, rfl, rfl, w0⟩ := open_int Try.underlying3 (hval 0 3 v0 rfl rfl) h0
  obtain ⟨l1, r1, hr1, hlen1⟩ := open_acts Try.underlying42 Try.underlying50 (by kernel_rfl) (by kernel_rfl) Try.underlying3 Try.underlying3 Try.underlying3 Try.underlying25 Try.underlying5 Try.cells5 (hval 1 42 v1 rfl rfl) h1
  clear hA0 hval0
  simp only [List.append_nil, List.nil_append] at hW'
  have hlt : ∀ x ∈ p1, x.block < W.heap.size := fun x hx => by simpa using hW'.lt x (by simpa using hx)
  have hb1 : l1.length ≤ 140737488351232 := by
    rcases hlen1 with rfl | ⟨elems, spare, rfl, h⟩
    · simp
    · have := sized_slice hsz (j := 1) (t := 42) (e := 50) rfl rfl Try.underlying42
      rw [show Try.prog.bytesOf 50 = 48 by kernel_rfl] at this
      simp only [reachBytes] at this
      omega
  refine (law7 x0 w0 l1 hb1 hr1 W v1 r1).mono fun e W' ⟨he, hw⟩ => ?_
  subst he
  have k1 : DataW.Trod enc Try.prog W' 0 (fun b => decide (b < W.heap.size)) true 42 v1 d1 p1 :=
    Below.trod Try.laidOut (by kernel_rfl) (of_decide_eq_true (by kernel_rfl)) h1 hw (fun x hx => hlt x (by simp [hx]))
  have hall : DataW.TrodAll enc Try.prog W' 0 (fun b => decide (b < W.heap.size)) true [3, 42] [.int .i64 x0, v1] [.lit (.int .i64 x0), d1] (p1) := by
    rw [show p1 = [] ++ p1 by simp]
    exact trodAll_mk2 (shut_int Try.underlying3 w0) k1
  exact ⟨_, rfl, _, _, _, [], p1, [], hW', trodAll_mk1 (shut_bool Try.underlying4 _), hall, rfl, hw.frame _, fun h => by cases h⟩

theorem diskPlays_holds : Rows.DiskPlaysSaid :=
  OpenClaim.holds_of_wide 7 Try.f7 rfl rfl rfl rfl rfl rfl rfl ⟨rfl, rfl, rfl, rfl, rfl⟩ rfl rfl rfl rfl rfl (by kernel_rfl) Try.func7 (by kernel_rfl)
    (of_decide_eq_true (by kernel_rfl)) (by unfold Func.isWrapper; first | (rw [if_pos (by decide +kernel)]; kernel_rfl) | (rw [if_neg (by decide +kernel)]; exact ⟨rfl, rfl⟩))
    (fun os started H enc _ => lifted7 os started H enc)

end Go.Proofs.Ytjipknfohmgjaaa
