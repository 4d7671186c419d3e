/- A slice expression in a drawn region. -/
import Derived.Test.YtfdijfnmloddcaaVMid
namespace Go.Proofs.Ytfdijfnmloddcaa
open Go Go.Vai
section
variable {cal : Oracle} {n f : Nat} {todo : List Item} {i e d : Nat} {S S' : St} {v : AV} {w b : Bool}

noncomputable def sliceOf (todo : List Item) (i : Nat) (S : St) : Option (Nat × List AV × Int) := match opOf todo i with
  | some o => match o.op with
    | .slice ty (.tmp t) none (some (.tmp h)) none => match Try.prog.underlying ty with
      | some (.slice e) => match Nat.beq (tSize Try.prog e) 1 with
        | true => match memN t (lookOf todo i), S.slot t with
          | true, .val (.vs z _ L) _ => match memN h (lookOf todo i), S.slot h with
            | true, .val (.int _ m) _ => match Nat.beq z 1, o.dst with
              | true, some d => some (d, L, m)
              | _, _ => none
            | _, _ => none
          | _, _ => none
        | false => none
      | _ => none
    | _ => none
  | none => none
theorem vAt_sliceOf {L : List AV} {m : Nat} (h : sliceOf todo i S = some (d, L, (m : Int))) (hlt : Nat.blt d S.sl.length = true) (hb : m ≤ L.length) : vAt cal f todo i S = some (.vs 1 false (L.take m)) := by
  unfold sliceOf at h
  cases ho : opOf todo i with
  | none => rw [ho] at h; cases h
  | some o =>
    rw [ho] at h
    simp only at h
    split at h
    · rename_i ty t hh hop
      split at h
      · rename_i e h1
        split at h
        · rename_i h2
          split at h
          · rename_i z tg L' fl hm hs
            split at h
            · rename_i k2 m' fl2 hm2 hs2
              split at h
              · rename_i d' hz hd
                injection h with h
                injection h with h4 h5
                injection h5 with h5 h6
                subst h4 h5 h6
                obtain rfl := Nat.eq_of_beq_eq_true hz
                have h2' := Nat.eq_of_beq_eq_true h2
                rw [vAt_eq ho]
                have hsl : (S.mask (lookOf todo i)).slot t = .val (.vs 1 tg L') .no := by rw [slot_mask, hm, hs]
                have hsl2 : (S.mask (lookOf todo i)).slot hh = .val (.int k2 (m : Int)) .no := by rw [slot_mask, hm2, hs2]
                have hl : d' < (S.mask (lookOf todo i)).sl.length := by show d' < (maskS _ 0 S.sl).length; rw [maskS_length]; simpa [Nat.blt_eq] using hlt
                simp only [vOp, absOp, hop, opSlice, h1, h2', St.ev, hsl, hsl2, Slot.av, opBounds, AV.bound?]
                simp only [AV.int?, Int.toNat_natCast]
                rw [br_t' (by simp), br_t' (by simpa using hb)]
                simp only [Option.bind_some, hd, St.putd, List.drop_zero]
                rw [slot_put, if_pos ⟨rfl, hl⟩]
              · cases h
            · cases h
          · cases h
        · cases h
      · cases h
    · cases h
end
end Go.Proofs.Ytfdijfnmloddcaa
