/- The oracle, with the reference's encoder. -/
import Derived.Test.YtfdijfnmloddcaaWOr
import Derived.Test.YtfdijfnmloddcaaWP3
import Derived.Test.YtfdijfnmloddcaaVOpen
namespace Go.Proofs.Ytfdijfnmloddcaa
open Go Go.Vai

noncomputable def O15 : Oracle := addCal 15 spec14 O14
theorem ok15 : CalOk Try.prog ann O15 := calOk_add mixed noNum ok14 fun args v hv H nx => by
  unfold spec14 at hv
  split at hv
  · rename_i tg b v0
    split at hv
    · rename_i h
      obtain ⟨h1, h2, h3⟩ := h
      injection hv with hv
      subst hv
      obtain ⟨n, rfl⟩ := Int.eq_ofNat_of_zero_le h1
      exact calN_of (c15 O14 H nx b tg h3 n (by omega)) (fun n => by kernel_rfl)
    · cases hv
  · cases hv

theorem spec14_at {b : List AV} {tg : Bool} {v : Nat} (hb : b.length + 10 ≤ maxBytes) (hv : v < 18446744073709551616) : spec14 [.vs 1 tg b, .int .u64 (v : Int)] = some (.vs 1 false (b ++ (encB v).map byteAV)) := by
  unfold spec14
  simp only
  rw [if_pos ⟨by omega, by omega, hb⟩]
  simp
theorem has15 : Has15 O15 := fun b tg v hb hv => by
  unfold O15
  exact addCal_hit (spec14_at hb hv)
theorem has14' : Has14 O15 := fun b tg v hb hv => by
  unfold O15
  rw [addCal_miss (by rfl)]
  exact has14 b tg v hb hv
theorem has13' : Has13 O15 := by
  unfold Has13 O15
  rw [addCal_miss rfl]
  exact has13

end Go.Proofs.Ytfdijfnmloddcaa
