/- DiskSizes: what the law computes is true. -/
import Derived.Test.YtjipknfohmgjaaaDSp0
import Derived.Test.YtjipknfohmgjaaaDW3
namespace Go.Proofs.Ytjipknfohmgjaaa
open Go Go.Vai

attribute [local irreducible] midRun goTo bodyOf mkS run

theorem c3 (x : Int) (_ : -9223372036854775808 ≤ x ∧ x ≤ 9223372036854775807) : ∃ d H nx, CW d 3 [.int .i64 x] Hp.none 0 = some ⟨.bool true, H, nx⟩ := by
  obtain ⟨o, ho, haw⟩ := cw_awake 2
  have c1 := clampS_1 x
  have c2 := clampS_2 x
  obtain ⟨N, hN⟩ := Int.eq_ofNat_of_zero_le (a := clampS x) (by omega)
  have h11 := s0_11 1 x
  rw [hN, Int.toNat_natCast] at h11
  have ok : (dk0 (N * 32)).Ok := dk0_ok (by omega)
  refine ⟨3, ?_⟩
  apply Exists.intro
  apply Exists.intro
  refine cw rfl (Ev.stage 4 (fun n => w3_0 _ n (x_1 := x)) ?_) (fun n => by kernel_rfl)
  refine EvF.call h11 (EvF.mid 5 (fun n => w3_1 _ n) ?_ 0)
  have e1 : (if 1 < (if x < 2048 then x else 2048) then (if x < 2048 then x else 2048) else 1) = (N : Int) := by
    rw [← hN]; unfold clampS; split <;> split <;> (try split) <;> omega
  rw [e1]
  have e2 : IntKind.wrap IntKind.i64 (Int.tdiv ((dk0 (N * 32)).n : Int) 32) = (N : Int) := by
    show IntKind.wrap IntKind.i64 (Int.tdiv ((N * 32 : Nat) : Int) 32) = _
    rw [Int.tdiv_eq_ediv_of_nonneg (by omega), wrap64 (by omega) (by omega)]; omega
  refine EvF.call (s0_12 1 Hp.none 8 (dk0 (N * 32))) ?_
  rw [e2]
  refine EvF.mid 4 (fun n => w3_2 _ n) ?_ 0
  refine EvF.bnf rfl ?_
  have e3 : IntKind.wrap IntKind.i64 ((N : Int) * 32) = ((N * 32 : Nat) : Int) := by rw [wrap64 (by omega) (by omega)]; omega
  have e4 : IntKind.wrap IntKind.i64 (((N * 32 : Nat) : Int) - 32) = ((N * 32 - 32 : Nat) : Int) := by rw [wrap64 (by omega) (by omega)]; omega
  rw [e3, e4]
  refine EvF.call (s0_13 0 Hp.none 8 (dk0 (N * 32)) ok (N * 32 - 32) 32 rfl (by show _ ≤ N * 32; omega)) ?_
  refine EvF.mid 2 (fun n => w3_3 _ n) ?_ 0
  rw [e3]
  have hc : chk (dk0 (N * 32)) ((N * 32 : Nat) : Int) 1 = 9 := by
    unfold chk
    rw [if_neg (by simp [dk0]), if_neg (by omega), if_neg (by omega), if_neg (by show ¬ ((N * 32 : Nat) : Int) < _; omega), if_pos (by show ((N * 32 : Nat) : Int) - _ < _; omega)]
  refine EvF.call (s0_13e 0 Hp.none 8 (dk0 (N * 32)) ok ((N * 32 : Nat) : Int) 1 (by rw [hc]; decide)) ?_
  rw [hc]
  refine EvF.mid 3 (fun n => w3_4 _ n) ?_ 0
  refine EvF.bdt rfl (EvF.bnd (bytesOf_map _) (EvF.brt rfl (EvF.bnd (v := List.replicate 32 0) rfl (EvF.brt ?_ (EvF.bdt rfl ?_)))))
  · have : ((dk0 (N * 32)).C.drop (N * 32 - 32)).take 32 = List.replicate 32 0 := by
      show ((List.replicate (N * 32) (0 : UInt8)).drop (N * 32 - 32)).take 32 = _
      rw [List.drop_replicate, List.take_replicate]
      congr 1
      omega
    rw [this]
    exact eqS_refl _
  refine EvF.call (s0_14 1 _ 9 (dk0 (N * 32))) (EvF.mid 1 (fun n => w3_5 _ n) ?_ 1)
  refine EvF.brt rfl (EvF.call (s0_15 1 _ 9 (dk0 (N * 32))) (EvF.mid 1 (fun n => w3_6 _ n) ?_ 1))
  refine EvF.bdt rfl (EvF.brt rfl (EvF.call haw (EvF.brt (by rw [ho]; rfl) (EvF.brt (by rw [ho]; rfl) ?_))))
  rw [ho]
  exact EvF.mid 1 (fun n => w3_7 _ n) EvF.ret 1

end Go.Proofs.Ytjipknfohmgjaaa
