/- The wire's unsigned integers: what the two encoders write. -/
import Derived.Test.YtfdijfnmloddcaaWSt
namespace Go.Proofs.Ytfdijfnmloddcaa
open Go Go.Vai

/-- seven bits a byte, the low ones first -/
def encB (v : Nat) : List UInt8 := if v < 128 then [UInt8.ofNat v] else UInt8.ofNat (v % 128 + 128) :: encB (v / 128)
termination_by v
decreasing_by omega

theorem ble_t {a b : Nat} (h : a ≤ b) : Nat.ble a b = true := by rw [Nat.ble_eq]; exact h
theorem br_t {R : Type} {c : Bool} {x y : Option R} (h : c = true) : br c x y = x := by rw [h]; rfl
theorem br_f {R : Type} {c : Bool} {x y : Option R} (h : c = false) : br c x y = y := by rw [h]; rfl

theorem wrap_u8 (v : Nat) : IntKind.wrap .u8 (v : Int) = ((v % 256 : Nat) : Int) := by
  simp [IntKind.wrap, IntKind.bits, IntKind.signed]
theorem wrap_u64 (v : Nat) (h : v < 18446744073709551616) : IntKind.wrap .u64 (v : Int) = (v : Int) := by
  simp [IntKind.wrap, IntKind.bits, IntKind.signed]
  omega
theorem or_u8 : ∀ x : Fin 256, bits .or .u8 ((x.val : Nat) : Int) 128 = ((x.val % 128 + 128 : Nat) : Int) := by decide +kernel
theorem byte_or (v : Nat) : bits .or .u8 (IntKind.wrap .u8 (v : Int)) 128 = ((v % 128 + 128 : Nat) : Int) := by
  rw [wrap_u8]
  have := or_u8 ⟨v % 256, by omega⟩
  simp only at this
  rw [this]
  congr 1
  omega
theorem shr7 (v : Nat) : shrZ .u64 (v : Int) 7 = ((v / 128 : Nat) : Int) := by
  simp [shrZ, IntKind.bits, Int.fdiv_eq_ediv]
theorem quo128 (v : Nat) (h : v < 18446744073709551616) : IntKind.wrap .u64 (Int.tdiv (v : Int) 128) = ((v / 128 : Nat) : Int) := by
  rw [show Int.tdiv (v : Int) 128 = ((v / 128 : Nat) : Int) by rw [Int.tdiv_eq_ediv_of_nonneg (by omega)]; omega]
  exact wrap_u64 _ (by omega)
theorem byte_rem (v : Nat) : IntKind.wrap .u8 (IntKind.wrap .u8 (Int.tmod (v : Int) 128) + 128) = ((v % 128 + 128 : Nat) : Int) := by
  rw [show Int.tmod (v : Int) 128 = ((v % 128 : Nat) : Int) by rw [Int.tmod_eq_emod_of_nonneg (by omega)]; omega, wrap_u8,
    show (((v % 128 % 256 : Nat) : Int) + 128) = ((v % 128 + 128 : Nat) : Int) by omega, wrap_u8]
  omega

theorem byteAV_of (x : Nat) (h : x < 256) : byteAV (UInt8.ofNat x) = .int .u8 (x : Int) := by
  simp [byteAV, Nat.mod_eq_of_lt h]

theorem enc_lt {v : Nat} (h : v < 128) : (encB v).map byteAV = [.int .u8 (v : Int)] := by
  unfold encB
  rw [if_pos h, List.map_cons, byteAV_of v (by omega)]
  rfl
theorem enc_ge {v : Nat} (h : ¬ v < 128) : (encB v).map byteAV = .int .u8 ((v % 128 + 128 : Nat) : Int) :: (encB (v / 128)).map byteAV := by
  rw [encB, if_neg h, List.map_cons, byteAV_of _ (by omega)]

/-- wire.AppendUint, its loop -/
theorem l14 (cal : Oracle) (H : Hp) (nx : Nat) (b : List AV) (tg : Bool) (hb : b.length + 10 ≤ maxBytes) : ∀ (k v : Nat) (res : List AV) (tr : Bool), v < 128 ^ (k + 1) → res.length + k + 1 ≤ 10 →
    Ev cal 14 (goTo [0, 5, 0, 5, 0, 2, 3] (bodyOf 14)) (mkS 29 [(0, .val (.vs 1 tg b) .no), (1, .val (.int .u64 (v : Int)) .no), (5, .val (.vs 1 tr res) .own)] H nx) ⟨.vs 1 false (b ++ (res ++ (encB v).map byteAV)), H, nx⟩ := by
  intro k
  have hm : maxBytes = 140737488355328 := rfl
  have last : ∀ (v : Nat) (res : List AV) (tr : Bool), v < 128 → res.length + 1 ≤ 10 → Ev cal 14 (goTo [0, 5, 0, 5, 0, 2, 3] (bodyOf 14)) (mkS 29 [(0, .val (.vs 1 tg b) .no), (1, .val (.int .u64 (v : Int)) .no), (5, .val (.vs 1 tr res) .own)] H nx) ⟨.vs 1 false (b ++ (res ++ (encB v).map byteAV)), H, nx⟩ := by
    intro v res tr hv hr
    refine Ev.stage 11 (fun n => s14_1 cal n H nx tg b (v : Int) tr res) (EvF.stage fun n => ?_)
    rw [br_f (by simp; omega), br_t (ble_t (by omega)), br_t (ble_t (by omega)), br_t (by simp), br_t (by simp), br_t (by simp), br_t (ble_t (by simp; omega)), br_t (ble_t (by simp; omega)), enc_lt hv, wrap_u8, Nat.mod_eq_of_lt (by omega)]
    simp
  induction k with
  | zero => intro v res tr hv hr; exact last v res tr (by simpa using hv) (by omega)
  | succ k ih =>
    intro v res tr hv hr
    by_cases h : v < 128
    · exact last v res tr h (by omega)
    · refine Ev.stage 11 (fun n => s14_1 cal n H nx tg b (v : Int) tr res) ?_
      have := ih (v / 128) (res ++ [.int .u8 ((v % 128 + 128 : Nat) : Int)]) false (by rw [Nat.div_lt_iff_lt_mul (by omega)]; rw [Nat.pow_succ] at hv; exact hv) (by simp; omega)
      rw [List.append_assoc, List.singleton_append, ← enc_ge h] at this
      refine (this.at 0).congr fun n => ?_
      rw [br_t (by simp; omega), br_t (ble_t (by omega)), br_t (ble_t (by omega)), byte_or, shr7]
      rfl

theorem c14 (cal : Oracle) (H : Hp) (nx : Nat) (b : List AV) (tg : Bool) (hb : b.length + 10 ≤ maxBytes) (v : Nat) (hv : v < 18446744073709551616) :
    Ev cal 14 (bodyOf 14) (mkS 29 [(0, .val (.vs 1 tg b) .no), (1, .val (.int .u64 (v : Int)) .no)] H nx) ⟨.vs 1 false (b ++ (encB v).map byteAV), H, nx⟩ := by
  refine Ev.stage 7 (fun n => s14_0 cal n H nx b tg (v : Int)) ?_
  exact ((l14 cal H nx b tg hb 9 v [] true (by omega) (by simp)).at 0).congr fun n => rfl

end Go.Proofs.Ytfdijfnmloddcaa
