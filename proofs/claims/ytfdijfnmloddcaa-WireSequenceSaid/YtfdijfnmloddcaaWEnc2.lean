/- The reference's unsigned integers. -/
import Derived.Test.YtfdijfnmloddcaaWEnc
namespace Go.Proofs.Ytfdijfnmloddcaa
open Go Go.Vai

theorem l15 (cal : Oracle) (H : Hp) (nx : Nat) (b : List AV) (hb : b.length + 10 ≤ maxBytes) : ∀ (k v : Nat) (res : List AV) (tr : Bool), v < 128 ^ (k + 1) → v < 18446744073709551616 → res.length + k + 1 ≤ b.length + 10 →
    Ev cal 15 (goTo [0, 5, 0, 5, 0, 2, 3] (bodyOf 15)) (mkS 25 [(1, .val (.int .u64 (v : Int)) .no), (5, .val (.vs 1 tr res) .own)] H nx) ⟨.vs 1 false (res ++ (encB v).map byteAV), H, nx⟩ := by
  intro k
  have hm : maxBytes = 140737488355328 := rfl
  have last : ∀ (v : Nat) (res : List AV) (tr : Bool), v < 128 → res.length + 1 ≤ b.length + 10 → Ev cal 15 (goTo [0, 5, 0, 5, 0, 2, 3] (bodyOf 15)) (mkS 25 [(1, .val (.int .u64 (v : Int)) .no), (5, .val (.vs 1 tr res) .own)] H nx) ⟨.vs 1 false (res ++ (encB v).map byteAV), H, nx⟩ := by
    intro v res tr hv hr
    refine Ev.stage 11 (fun n => s15_1 cal n H nx (v : Int) tr res) (EvF.stage fun n => ?_)
    rw [br_f (by simp; omega), br_t (ble_t (by omega)), br_t (ble_t (by omega)), enc_lt hv, wrap_u8, Nat.mod_eq_of_lt (by omega)]
  induction k with
  | zero => intro v res tr hv _ hr; exact last v res tr (by simpa using hv) (by omega)
  | succ k ih =>
    intro v res tr hv hv2 hr
    by_cases h : v < 128
    · exact last v res tr h (by omega)
    · refine Ev.stage 11 (fun n => s15_1 cal n H nx (v : Int) tr res) ?_
      have := ih (v / 128) (res ++ [.int .u8 ((v % 128 + 128 : Nat) : Int)]) false (by rw [Nat.div_lt_iff_lt_mul (by omega)]; rw [Nat.pow_succ] at hv; exact hv) (by omega) (by simp; omega)
      rw [List.append_assoc, List.singleton_append, ← enc_ge h] at this
      refine (this.at 0).congr fun n => ?_
      rw [br_t (by simp; omega), br_t (ble_t (by omega)), br_t (ble_t (by omega)), byte_rem, quo128 v hv2]
      rfl

theorem c15 (cal : Oracle) (H : Hp) (nx : Nat) (b : List AV) (tg : Bool) (hb : b.length + 10 ≤ maxBytes) (v : Nat) (hv : v < 18446744073709551616) :
    Ev cal 15 (bodyOf 15) (mkS 25 [(0, .val (.vs 1 tg b) .no), (1, .val (.int .u64 (v : Int)) .no)] H nx) ⟨.vs 1 false (b ++ (encB v).map byteAV), H, nx⟩ := by
  have hm : maxBytes = 140737488355328 := rfl
  refine Ev.stage 7 (fun n => s15_0 cal n H nx b tg (v : Int)) ?_
  refine ((l15 cal H nx b hb 9 v ([] ++ b) false (by omega) hv (by simp)).at 0).congr fun n => ?_
  rw [br_t (ble_t (by omega)), br_t (ble_t (by omega))]
  rfl

end Go.Proofs.Ytfdijfnmloddcaa
