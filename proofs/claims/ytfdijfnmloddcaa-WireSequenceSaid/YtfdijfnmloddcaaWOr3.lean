/- The oracle, with the bools. -/
import Derived.Test.YtfdijfnmloddcaaWOr2
import Derived.Test.YtfdijfnmloddcaaWP11
namespace Go.Proofs.Ytfdijfnmloddcaa
open Go Go.Vai

/-- an answer that hangs on the bytes alone -/
noncomputable def specB (F : List UInt8 → AV) : List AV → Option AV
  | [.vs 1 _ b] => match bytesOf b with
    | some bs => match Classical.propDecidable (b = bs.map byteAV) with
      | .isTrue _ => some (F bs)
      | .isFalse _ => none
    | none => none
  | _ => none
theorem specB_at (F : List UInt8 → AV) (bs : List UInt8) (tg : Bool) : specB F [.vs 1 tg (bs.map byteAV)] = some (F bs) := by
  simp only [specB, bytesOf_map]
  split
  · rfl
  · rename_i h _; exact absurd rfl h
theorem specB_some {F : List UInt8 → AV} {args : List AV} {v : AV} (h : specB F args = some v) : ∃ bs tg, args = [.vs 1 tg (bs.map byteAV)] ∧ v = F bs := by
  unfold specB at h
  split at h
  · rename_i tg b
    split at h
    · rename_i bs _
      split at h
      · rename_i hb _
        injection h with h
        exact ⟨bs, tg, by rw [hb], h.symm⟩
      · cases h
    · cases h
  · cases h

def spec28 : List AV → Option AV
  | [.vs 1 _ b, .bool c] => if b.length + 10 ≤ maxBytes then some (.vs 1 false (b ++ (oneByte c).map byteAV)) else none
  | _ => none

noncomputable def O26 : Oracle := addCal 26 (specB decBool) O15
theorem ok26 : CalOk Try.prog ann O26 := calOk_add mixed noNum ok15 fun args v hv H nx => by
  obtain ⟨bs, tg, rfl, rfl⟩ := specB_some hv
  exact calN_of (c26 O15 H nx bs tg) (fun n => by kernel_rfl)
noncomputable def O27 : Oracle := addCal 27 (specB decBool) O26
theorem ok27 : CalOk Try.prog ann O27 := calOk_add mixed noNum ok26 fun args v hv H nx => by
  obtain ⟨bs, tg, rfl, rfl⟩ := specB_some hv
  exact calN_of (c27 O26 H nx bs tg) (fun n => by kernel_rfl)

theorem spec28_some {args : List AV} {v : AV} (h : spec28 args = some v) : ∃ b tg c, args = [.vs 1 tg b, .bool c] ∧ b.length + 10 ≤ maxBytes ∧ v = .vs 1 false (b ++ [.int .u8 (match c with | true => 1 | false => 0)]) := by
  unfold spec28 at h
  split at h
  · rename_i tg b c
    split at h
    · rename_i hb
      injection h with h
      refine ⟨b, tg, c, rfl, hb, ?_⟩
      rw [← h]
      cases c <;> rfl
    · cases h
  · cases h
noncomputable def O28 : Oracle := addCal 28 spec28 O27
theorem ok28 : CalOk Try.prog ann O28 := calOk_add mixed noNum ok27 fun args v hv H nx => by
  obtain ⟨b, tg, c, rfl, hb, rfl⟩ := spec28_some hv
  exact calN_of (c28 O27 H nx b tg c hb) (fun n => by kernel_rfl)
noncomputable def O29 : Oracle := addCal 29 spec28 O28
theorem ok29 : CalOk Try.prog ann O29 := calOk_add mixed noNum ok28 fun args v hv H nx => by
  obtain ⟨b, tg, c, rfl, hb, rfl⟩ := spec28_some hv
  exact calN_of (c29 O28 H nx b tg c hb) (fun n => by kernel_rfl)

theorem o29_13 : Has13 O29 := by
  unfold Has13 O29 O28 O27 O26
  rw [addCal_miss rfl, addCal_miss rfl, addCal_miss rfl, addCal_miss rfl]
  exact has13'
theorem o29_26 : Has26 26 O29 := fun bs tg => by
  unfold O29 O28 O27 O26
  rw [addCal_miss rfl, addCal_miss rfl, addCal_miss rfl]
  exact addCal_hit (specB_at _ _ _)
theorem o29_27 : Has26 27 O29 := fun bs tg => by
  unfold O29 O28 O27
  rw [addCal_miss rfl, addCal_miss rfl]
  exact addCal_hit (specB_at _ _ _)
theorem spec28_at {b : List AV} {tg c : Bool} (hb : b.length + 10 ≤ maxBytes) : spec28 [.vs 1 tg b, .bool c] = some (.vs 1 false (b ++ (oneByte c).map byteAV)) := by
  simp only [spec28]
  rw [if_pos hb]
theorem o29_28 : Has28 28 O29 := fun b tg c hb => by
  unfold O29 O28
  rw [addCal_miss rfl]
  exact addCal_hit (spec28_at hb)
theorem o29_29 : Has28 29 O29 := fun b tg c hb => by
  unfold O29
  exact addCal_hit (spec28_at hb)

end Go.Proofs.Ytfdijfnmloddcaa
