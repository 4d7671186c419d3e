/- A slice of one-cell elements as an argument, into an abstract value. -/
import Derived.Test.YtfdijfnmloddcaaVOpen
namespace Go.Vai
open Go.ChangeShapes Go.WideShapes Go.ChangeAt Go.RowKit

section
variable {H : Type} {enc : TypeId × Value → H} {P : Program} {W : World} {base : Nat}

theorem flat_one {T : Type} {f : T → AV} (hone : ∀ x, (f x).cells = [f x]) (l : List T) : (l.map f).flatMap AV.cells = l.map f := by
  induction l with
  | nil => rfl
  | cons x l ih => rw [List.map_cons, List.flatMap_cons, ih, hone]; rfl

theorem open_each {T : Type} [Inhabited T] {f : T → AV} {pr : T → Prop} (hone : ∀ x, (f x).cells = [f x]) {t e : TypeId} {v : Value} {d : DataW H} {p : List MemPlace} (ht : P.underlying t = some (.slice e)) (hc : P.cellsOf e = 1)
    (hel : ∀ n cs y, DataW.trod enc P W 0 (fun _ => true) true n e cs = some y → ∃ u x, cs = [u] ∧ Rep (gStart W) W u (f x) ∧ u.oneCell' = true ∧ pr x)
    (hval : Value.okWide P W .any base t v) (h : DataW.Trod enc P W 0 (fun _ => true) true t v d p) :
    ∃ l : List T, Rep (gStart W) W v (.vs 1 false (l.map f)) ∧ ∀ x ∈ l, pr x := by
  obtain ⟨a0, len0, cap0, rfl⟩ := okWide_slice ht hval
  obtain ⟨fuel, hf⟩ := h
  rcases DataW.trod_slice ht hf with ⟨hcs, hx⟩ | ⟨a, len, cap, elems, rest, n, _, hcs, _, _, hl, _, hlen, hels, _, _⟩
  · simp [Value.cells] at hcs
    obtain ⟨rfl, rfl, rfl⟩ := hcs
    exact ⟨[], .vsnil _ _, by simp⟩
  · simp [Value.cells] at hcs
    obtain ⟨rfl, rfl, rfl⟩ := hcs
    have each : ∀ i, i < len0 → ∃ u x, W.cell? (a.add i) = some u ∧ Rep (gStart W) W u (f x) ∧ u.oneCell' = true ∧ pr x := by
      intro i hi
      have h1 := hels i hi
      rw [hc, Nat.mul_one] at h1
      have hi' : i < elems.length := by omega
      rw [List.getElem?_eq_getElem hi'] at h1
      rw [Option.bind_eq_some_iff] at h1
      obtain ⟨cs, hcs, hy⟩ := h1
      obtain ⟨u, x, rfl, h2, h3, h4⟩ := hel _ _ _ hy
      exact ⟨u, x, cell_of_cells?_one hcs, h2, h3, h4⟩
    let fu : Nat → Value := fun i => match Classical.propDecidable (i < len0) with
      | .isTrue hi => (each i hi).choose
      | .isFalse _ => undef
    let fx : Nat → T := fun i => match Classical.propDecidable (i < len0) with
      | .isTrue hi => (each i hi).choose_spec.choose
      | .isFalse _ => default
    have spec : ∀ i, i < len0 → W.cell? (a.add i) = some (fu i) ∧ Rep (gStart W) W (fu i) (f (fx i)) ∧ (fu i).oneCell' = true ∧ pr (fx i) := by
      intro i hi
      have := (each i hi).choose_spec.choose_spec
      simp only [fu, fx]
      cases Classical.propDecidable (i < len0) with
      | isTrue h => exact this
      | isFalse h => exact absurd hi h
    refine ⟨(List.range len0).map fx, ?_, fun x hx => ?_⟩
    · obtain ⟨B, off, spot⟩ := a
      have hspot : spot = none := by
        simp only [Value.okWide, ht, Cell.okWide, Cell.ok] at hval
        exact hval.2.2.2.1
      subst hspot
      have hlen1 : (((List.range len0).map fx).map f).length = len0 := by simp
      have := Rep.vs (g := gStart W) (w := W) B off cap0 1 false (((List.range len0).map fx).map f) ((List.range len0).map fu)
        (by rw [flat_one hone]; simp) (fun x hx => by
          obtain ⟨y, _, rfl⟩ := List.mem_map.1 hx
          rw [hone]; rfl) (by simp) (by rw [hlen1]; exact hl) (fun j u hu => ?_) (fun j u c hu hcc => ?_)
      · rw [hlen1] at this
        exact this
      · rw [List.getElem?_map] at hu
        obtain ⟨i, hi1, rfl⟩ := Option.map_eq_some_iff.1 hu
        have hj : j < len0 := by have := (List.getElem?_eq_some_iff.1 hi1).1; simpa using this
        have hij : i = j := by rw [List.getElem?_range hj] at hi1; injection hi1 with hi1; exact hi1.symm
        subst hij
        obtain ⟨hc1, _, hc3, _⟩ := spec i hj
        have hc2 : W.cell? ⟨B, off + i, none⟩ = some (fu i) := by
          rw [← hc1]
          unfold Addr.add
          split
          · rename_i h0; subst h0; rfl
          · rfl
        exact ⟨hc2, pub_of_cell hc2, hc3⟩
      · rw [flat_one hone, List.getElem?_map, List.getElem?_map] at hcc
        rw [List.getElem?_map] at hu
        obtain ⟨i, hi1, rfl⟩ := Option.map_eq_some_iff.1 hu
        rw [hi1] at hcc
        simp only [Option.map_some, Option.some.injEq] at hcc
        subst hcc
        have hj : j < len0 := by have := (List.getElem?_eq_some_iff.1 hi1).1; simpa using this
        have hij : i = j := by rw [List.getElem?_range hj] at hi1; injection hi1 with hi1; exact hi1.symm
        subst hij
        exact (spec i hj).2.1
    · obtain ⟨i, hi, rfl⟩ := List.mem_map.1 hx
      exact (spec i (List.mem_range.1 hi)).2.2.2

end
end Go.Vai
