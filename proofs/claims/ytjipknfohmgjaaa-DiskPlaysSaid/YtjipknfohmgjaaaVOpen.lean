/- Arguments into abstract values. -/
import Derived.Test.YtjipknfohmgjaaaVLaw
import Derived.ProofKit
import Derived.SizedLaws
namespace Go.Vai
open Go.ChangeShapes Go.WideShapes Go.ChangeAt Go.RowKit

section
variable {H : Type} {enc : TypeId × Value → H} {P : Program} {W : World} {base : Nat}

theorem flat_bytes (l : List UInt8) : (l.map byteAV).flatMap AV.cells = l.map byteAV := by
  induction l with
  | nil => rfl
  | cons x l ih => rw [List.map_cons, List.flatMap_cons, ih]; rfl

theorem open_bytes {t e : TypeId} {v : Value} {d : DataW H} {p : List MemPlace} (ht : P.underlying t = some (.slice e)) (he : P.underlying e = some (.int .u8)) (hc : P.cellsOf e = 1)
    (hval : Value.okWide P W .any base t v) (h : DataW.Trod enc P W 0 (fun _ => true) true t v d p) :
    ∃ bs : List UInt8, Rep (gStart W) W v (.vs 1 false (bs.map byteAV)) ∧ (bs = [] ∨ ∃ elems spare, d = .slice elems spare ∧ bs.length ≤ elems.length + spare.length) := by
  obtain ⟨a0, len0, cap0, rfl⟩ := okWide_slice ht hval
  obtain ⟨fuel, hf⟩ := h
  rcases open_ints ht he hc hf with ⟨hcs, hx⟩ | ⟨a, len, cap, zs, hcs, _, hl, hm, hz, hx, hcell, hwz⟩
  · simp [Value.cells] at hcs
    obtain ⟨rfl, rfl, rfl⟩ := hcs
    exact ⟨[], .vsnil _ _ _, .inl rfl⟩
  · simp [Value.cells] at hcs
    obtain ⟨rfl, rfl, rfl⟩ := hcs
    simp only [if_true] at hz
    simp only [Prod.mk.injEq] at hx
    refine ⟨(zs.take len0).map fun z => UInt8.ofNat z.toNat, ?_, .inr ⟨_, _, hx.1, ?_⟩⟩
    · have hlen : ((zs.take len0).map fun z => UInt8.ofNat z.toNat).length = len0 := by simp; omega
      have hlen2 : (((zs.take len0).map fun z => UInt8.ofNat z.toNat).map byteAV).length = len0 := by simp; omega
      obtain ⟨B, off, spot⟩ := a
      have hspot : spot = none := by
        simp only [Value.okWide, ht, Cell.okWide, Cell.ok] at hval
        exact hval.2.2.2.1
      · subst hspot
        have := Rep.vs (g := gStart W) (w := W) B off cap0 1 false (((zs.take len0).map fun z => UInt8.ofNat z.toNat).map byteAV) ((zs.take len0).map fun z => Value.int .u8 z)
          (by rw [flat_bytes]; simp) (fun x hx => by
            obtain ⟨y, _, rfl⟩ := List.mem_map.1 hx
            rfl) (by simp) (by rw [hlen2]; exact hl) (fun j u hu => ?_) (fun j u c hu hcc => ?_)
        · rw [hlen2] at this
          exact this
        · rw [List.getElem?_map] at hu
          obtain ⟨z, hz1, rfl⟩ := Option.map_eq_some_iff.1 hu
          have hj : j < len0 := by have := (List.getElem?_eq_some_iff.1 hz1).1; simp at this; omega
          have hzj : zs.getD j 0 = z := by
            rw [List.getElem?_take, if_pos hj] at hz1
            simp [hz1]
          have hc1 := hcell j (by omega)
          rw [hzj] at hc1
          have hc2 : W.cell? ⟨B, off + j, none⟩ = some (.int .u8 z) := by
            rw [← hc1]
            unfold Addr.add
            split
            · rename_i h0; subst h0; rfl
            · rfl
          exact ⟨hc2, pub_of_cell hc2, rfl⟩
        · rw [flat_bytes, List.getElem?_map, List.getElem?_map] at hcc
          rw [List.getElem?_map] at hu
          obtain ⟨z, hz1, rfl⟩ := Option.map_eq_some_iff.1 hu
          rw [hz1] at hcc
          simp only [Option.map_some, Option.some.injEq] at hcc
          subst hcc
          have hw := hwz z (List.mem_of_mem_take (List.mem_of_getElem? hz1))
          have h1 : IntKind.u8.min = 0 := rfl
          have h2 : IntKind.u8.max = 255 := rfl
          simp only [Lit.wf, Bool.and_eq_true, decide_eq_true_eq, h1, h2] at hw
          obtain ⟨n, rfl⟩ := Int.eq_ofNat_of_zero_le hw.1
          have : byteAV (UInt8.ofNat ((n : Int).toNat)) = .int .u8 (n : Int) := by
            have : n < 256 := by omega
            simp [byteAV, Nat.mod_eq_of_lt this]
          rw [this]
          exact .int _ _
    · simp [lits]
end
end Go.Vai
