/- The oracle: what is known of the calls. -/
import Derived.Test.YtfdijfnmloddcaaWP6
import Derived.Test.YtfdijfnmloddcaaVLaw
import Derived.Test.YtfdijfnmloddcaaRows
import Derived.ProofKit
import Derived.SizedLaws
namespace Go.Proofs.Ytfdijfnmloddcaa
open Go Go.Vai

theorem mixed : Try.prog.follows .mixedOrders = true := by kernel_rfl
theorem names : (Try.prog.funcs.toList.all fun fn => !(fn.name == "runtime.NumGoroutine")) = true := by kernel_rfl
theorem noNum (f : Nat) (fn : Func) (h : Try.prog.funcs[f]? = some fn) : fn.name ≠ "runtime.NumGoroutine" := by
  intro he
  have h1 := List.all_eq_true.1 names fn (Array.mem_toList_iff.2 (Array.mem_of_getElem? h))
  rw [he] at h1
  simp at h1

noncomputable def O0 : Oracle := lvl Try.prog ann 1000 8
theorem ok0 : CalOk Try.prog ann O0 := calOk_lvl mixed noNum 1000 8

def spec13 : List AV → Option AV
  | [] => some (.bool true)
  | _ => none
noncomputable def O13 : Oracle := addCal 13 spec13 O0
theorem ok13 : CalOk Try.prog ann O13 := calOk_add mixed noNum ok0 fun args v hv H nx => by
  match args, hv with
  | [], hv =>
    injection hv with hv
    subst hv
    exact ⟨1000, by kernel_rfl⟩

def spec14 : List AV → Option AV
  | [.vs 1 _ b, .int .u64 v] => if 0 ≤ v ∧ v < 18446744073709551616 ∧ b.length + 10 ≤ maxBytes then some (.vs 1 false (b ++ (encB v.toNat).map byteAV)) else none
  | _ => none
noncomputable def O14 : Oracle := addCal 14 spec14 O13
theorem ok14 : CalOk Try.prog ann O14 := calOk_add mixed noNum ok13 fun args v hv H nx => by
  unfold spec14 at hv
  split at hv
  · rename_i tg b v0
    split at hv
    · rename_i h
      obtain ⟨h1, h2, h3⟩ := h
      injection hv with hv
      subst hv
      obtain ⟨n, rfl⟩ := Int.eq_ofNat_of_zero_le h1
      exact calN_of (c14 O13 H nx b tg h3 n (by omega)) (fun n => by kernel_rfl)
    · cases hv
  · cases hv

theorem has13 : Has13 O14 := by
  unfold Has13 O14 O13
  rw [addCal_miss rfl]
  exact addCal_hit rfl
theorem has14 : Has14 O14 := fun b tg v hb hv => by
  have : spec14 [.vs 1 tg b, .int .u64 (v : Int)] = some (.vs 1 false (b ++ (encB v).map byteAV)) := by
    unfold spec14
    simp only
    rw [if_pos ⟨by omega, by omega, hb⟩]
    simp
  unfold O14
  exact addCal_hit this

end Go.Proofs.Ytfdijfnmloddcaa
