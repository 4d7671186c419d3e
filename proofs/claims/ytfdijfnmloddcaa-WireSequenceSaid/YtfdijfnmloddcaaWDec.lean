/- The wire's unsigned integers: how they are read. -/
import Derived.Test.YtfdijfnmloddcaaWP3
namespace Go.Proofs.Ytfdijfnmloddcaa
open Go Go.Vai

theorem br_dt {R : Type} {p : Prop} [h : Decidable p] {x y : Option R} (hp : p) : br (decide p) x y = x := by rw [decide_eq_true hp]; rfl
theorem br_df {R : Type} {p : Prop} [h : Decidable p] {x y : Option R} (hp : ¬ p) : br (decide p) x y = y := by rw [decide_eq_false hp]; rfl

/-- an unsigned number read: the value, the bytes it took, the error -/
def du : List UInt8 → Nat → Nat → Nat × Nat × Nat
  | [], _, _ => (0, 0, 1)
  | x :: r, i, acc =>
    if i = 9 ∧ 1 < x.toNat then (0, 0, 9)
    else if 128 ≤ x.toNat then du r (i + 1) (acc + x.toNat % 128 * 128 ^ i)
    else if x.toNat = 0 ∧ 0 < i then (0, 0, 2)
    else (acc + x.toNat % 128 * 128 ^ i, i + 1, 0)
def tupU (p : Nat × Nat × Nat) : AV := .tuple [.int .u64 (p.1 : Int), .int .i64 (p.2.1 : Int), .int .i64 (p.2.2 : Int)]

theorem ten {i : Nat} (h : i ≤ 9) : i = 0 ∨ i = 1 ∨ i = 2 ∨ i = 3 ∨ i = 4 ∨ i = 5 ∨ i = 6 ∨ i = 7 ∨ i = 8 ∨ i = 9 := by omega
theorem step_lt {acc y i : Nat} (hi : i ≤ 9) (hacc : acc < 128 ^ i) (hy : y < 128) : acc + y * 128 ^ i < 128 ^ (i + 1) := by
  rcases ten hi with h | h | h | h | h | h | h | h | h | h <;> subst h <;> simp at hacc ⊢ <;> omega
theorem step_u64 {acc y i : Nat} (hi : i ≤ 9) (hacc : acc < 128 ^ i) (hy : y < 128) (h9 : i = 9 → y ≤ 1) : acc + y * 128 ^ i < 18446744073709551616 := by
  rcases ten hi with h | h | h | h | h | h | h | h | h | h <;> subst h <;> simp at hacc h9 ⊢ <;> omega

theorem andNot_u8 : ∀ x : Fin 256, bits .andNot .u8 ((x.val : Nat) : Int) 128 = ((x.val % 128 : Nat) : Int) := by decide +kernel
theorem low_u8 (x : Nat) (h : x < 256) : bits .andNot .u8 (x : Int) 128 = ((x % 128 : Nat) : Int) := andNot_u8 ⟨x, h⟩

theorem or_u64 {acc z i : Nat} (hacc : acc < 2 ^ i) (hz : acc + z * 2 ^ i < 18446744073709551616) : bits .or .u64 (acc : Int) ((z * 2 ^ i : Nat) : Int) = ((acc + z * 2 ^ i : Nat) : Int) := by
  have e : ∀ n : Nat, (BitVec.ofInt IntKind.u64.bits (n : Int)).toNat = n % 18446744073709551616 := fun n => by
    rw [BitVec.toNat_ofInt]
    simp [IntKind.bits]
    omega
  unfold bits
  simp only [BitVec.toNat_or, e]
  rw [Nat.mod_eq_of_lt (by omega), Nat.mod_eq_of_lt (by omega), Nat.or_comm, Nat.mul_comm z, ← Nat.two_pow_add_eq_or_of_lt hacc, wrap_u64 _ (by rw [Nat.mul_comm]; omega)]
  omega
theorem shl_u64 {y i : Nat} (hi : i ≤ 9) (hz : y * 128 ^ i < 18446744073709551616) : shlZ .u64 (y : Int) ((7 * i : Nat) : Int) = ((y * 2 ^ (7 * i) : Nat) : Int) := by
  have e : (128 : Nat) ^ i = 2 ^ (7 * i) := by rw [Nat.pow_mul]
  unfold shlZ
  rw [show min (((7 * i : Nat) : Int).toNat) IntKind.u64.bits = 7 * i by simp [IntKind.bits]; omega]
  rw [show (y : Int) * 2 ^ (7 * i) = ((y * 2 ^ (7 * i) : Nat) : Int) by push_cast; rfl]
  exact wrap_u64 _ (by rw [← e]; exact hz)

theorem or_step {acc y i : Nat} (hi : i ≤ 9) (hacc : acc < 128 ^ i) (hy : y < 128) (h9 : i = 9 → y ≤ 1) : bits .or .u64 (acc : Int) (shlZ .u64 (y : Int) ((7 * i : Nat) : Int)) = ((acc + y * 128 ^ i : Nat) : Int) := by
  have h := step_u64 hi hacc hy h9
  have e : (128 : Nat) ^ i = 2 ^ (7 * i) := by rw [Nat.pow_mul]
  rw [shl_u64 hi (by omega)]
  rw [e] at hacc h ⊢
  exact or_u64 hacc h

theorem or16 {acc x i : Nat} (hx : x < 256) (hi : i ≤ 9) (hacc : acc < 128 ^ i) (h9 : i = 9 → x ≤ 1) :
    bits .or .u64 (acc : Int) (shlZ .u64 (IntKind.wrap .u64 (bits .andNot .u8 (x : Int) 128)) (IntKind.wrap .i64 (7 * (i : Int)))) = ((acc + x % 128 * 128 ^ i : Nat) : Int) := by
  rw [low_u8 x hx, wrap_u64 _ (by omega), show (7 * (i : Int)) = ((7 * i : Nat) : Int) by omega, wrap_i64 _ (by omega)]
  exact or_step hi hacc (by omega) (fun h => by have := h9 h; omega)
theorem or17 {acc x i : Nat} (_hx : x < 256) (hi : i ≤ 9) (hacc : acc < 128 ^ i) (h9 : i = 9 → x ≤ 1) :
    bits .or .u64 (acc : Int) (shlZ .u64 (IntKind.wrap .u64 (Int.tmod (x : Int) 128)) (IntKind.wrap .u64 (IntKind.wrap .i64 (7 * (i : Int))))) = ((acc + x % 128 * 128 ^ i : Nat) : Int) := by
  rw [show Int.tmod (x : Int) 128 = ((x % 128 : Nat) : Int) by rw [Int.tmod_eq_emod_of_nonneg (by omega)]; omega, wrap_u64 _ (by omega), show (7 * (i : Int)) = ((7 * i : Nat) : Int) by omega, wrap_i64 _ (by omega), wrap_u64 _ (by omega)]
  exact or_step hi hacc (by omega) (fun h => by have := h9 h; omega)

/-- what is known of an answer without an error -/
theorem du_canon : ∀ (r : List UInt8) (i acc v n : Nat), i ≤ 9 → acc < 128 ^ i → du r i acc = (v, n, 0) →
    ∃ w, v = acc + w * 128 ^ i ∧ (0 < i → 0 < w) ∧ encB w = r.take (n - i) ∧ i < n ∧ n - i ≤ r.length ∧ v < 18446744073709551616
  | [], i, acc, v, n, _, _, h => by simp [du] at h
  | x :: r, i, acc, v, n, hi, hacc, h => by
    have hx : x.toNat < 256 := x.toNat_lt
    unfold du at h
    split at h
    · simp at h
    · rename_i h1
      split at h
      · rename_i h2
        have hi' : i ≠ 9 := fun e => h1 ⟨e, by omega⟩
        obtain ⟨w, hv, hw, henc, hin, hle, hv2⟩ := du_canon r (i + 1) _ v n (by omega) (step_lt hi hacc (by omega)) h
        have hw := hw (by omega)
        refine ⟨x.toNat % 128 + 128 * w, ?_, fun _ => by omega, ?_, by omega, by simp; omega, hv2⟩
        · rw [hv, Nat.pow_succ, Nat.add_mul, ← Nat.add_assoc]; congr 1; rw [Nat.mul_comm 128 w, Nat.mul_assoc]; congr 1; exact Nat.mul_comm _ _
        · rw [encB, if_neg (by omega), show n - i = (n - (i + 1)) + 1 by omega, List.take_succ_cons, ← henc]
          congr 1
          · rw [show (x.toNat % 128 + 128 * w) % 128 + 128 = x.toNat by omega]
            simp
          · congr 1; omega
      · rename_i h2
        split at h
        · simp at h
        · rename_i h3
          simp only [Prod.mk.injEq] at h
          obtain ⟨hv, hn, _⟩ := h
          subst hv hn
          refine ⟨x.toNat, ?_, fun hp => by omega, ?_, by omega, by simp, ?_⟩
          · rw [Nat.mod_eq_of_lt (by omega)]
          · rw [encB, if_pos (by omega), show i + 1 - i = 1 by omega]
            simp
          · exact step_u64 hi hacc (by omega) (fun e => by have : ¬ 1 < x.toNat := fun h => h1 ⟨e, h⟩; omega)

theorem du_round : ∀ (k w i acc : Nat) (rest : List UInt8), w ≤ k → i ≤ 9 → acc + w * 128 ^ i < 18446744073709551616 → (0 < i → 0 < w) →
    du (encB w ++ rest) i acc = (acc + w * 128 ^ i, i + (encB w).length, 0)
  | k, w, i, acc, rest, hk, hi, hlt, hp => by
    have h9 : i = 9 → w ≤ 1 := fun e => by subst e; simp at hlt; omega
    by_cases h : w < 128
    · rw [encB, if_pos h]
      have hw : (UInt8.ofNat w).toNat = w := by simp; omega
      simp only [List.cons_append, List.nil_append, du, hw]
      rw [if_neg (fun hh => by have := h9 hh.1; omega), if_neg (by omega), if_neg (fun hh => by have := hp hh.2; omega), Nat.mod_eq_of_lt h]
      rfl
    · have hw : (UInt8.ofNat (w % 128 + 128)).toNat = w % 128 + 128 := by simp; omega
      match k with
      | 0 => omega
      | k + 1 =>
      have ih := du_round k (w / 128) (i + 1) (acc + w % 128 * 128 ^ i) rest (by omega) (by omega) (by
        rw [Nat.pow_succ, Nat.add_assoc, Nat.mul_comm (128 ^ i) 128, ← Nat.mul_assoc, ← Nat.add_mul, show w % 128 + w / 128 * 128 = w by omega]; exact hlt) (fun _ => by omega)
      rw [encB, if_neg h]
      simp only [List.cons_append, du, hw]
      rw [if_neg (fun hh => by have := h9 hh.1; omega), if_pos (by omega), show (w % 128 + 128) % 128 = w % 128 by omega, ih]
      simp only [List.length_cons, Prod.mk.injEq]
      refine ⟨?_, by omega, trivial⟩
      rw [Nat.pow_succ, Nat.add_assoc, Nat.mul_comm (128 ^ i) 128, ← Nat.mul_assoc, ← Nat.add_mul, show w % 128 + w / 128 * 128 = w by omega]

theorem du_err : ∀ (r : List UInt8) (i acc v n e : Nat), du r i acc = (v, n, e) → e = 0 ∨ (v = 0 ∧ n = 0 ∧ (e = 1 ∨ e = 2 ∨ e = 9))
  | [], i, acc, v, n, e, h => by simp [du] at h; omega
  | x :: r, i, acc, v, n, e, h => by
    unfold du at h
    split at h
    · simp at h; omega
    · split at h
      · exact du_err r _ _ v n e h
      · split at h
        · simp at h; omega
        · simp at h; omega

theorem nth_at (p : List UInt8) (x : UInt8) (r : List UInt8) : nth ((p ++ x :: r).map byteAV) p.length = some (.int .u8 (x.toNat : Int)) := by
  rw [nth_get]
  simp [byteAV]

attribute [local irreducible] midRun goTo bodyOf mkS run

theorem l16 (cal : Oracle) (H : Hp) (nx : Nat) (tg : Bool) : ∀ (r p : List UInt8) (acc : Nat) (y : Int), 1 ≤ p.length → p.length ≤ 9 → acc < 128 ^ p.length →
    Ev cal 16 (goTo [0, 5, 4, 9, 0] (bodyOf 16)) (mkS 42 [(0, .val (.vs 1 tg ((p ++ r).map byteAV)) .no), (5, .val (.int .u64 (acc : Int)) .no), (6, .val (.int .i64 (p.length : Int)) .no), (7, .val (.int .u8 y) .no), (33, .val (.bool true) .no)] H nx) ⟨tupU (du r p.length acc), H, nx⟩
  | [], p, acc, y, h1, h9, hacc => by
    refine Ev.stage 9 (fun n => s16_2 cal n H nx _ _ _ _ _ _) (EvF.stage fun n => ?_)
    rw [br_t (by simp)]
    rfl
  | x :: r, p, acc, y, h1, h9, hacc => by
    have hx : x.toNat < 256 := x.toNat_lt
    have ih := fun (hi : p.length ≠ 9) => l16 cal H nx tg r (p ++ [x]) (acc + x.toNat % 128 * 128 ^ p.length) (x.toNat : Int) (by simp) (by simp; omega) (by simpa using step_lt h9 hacc (by omega))
    refine Ev.stage 9 (fun n => s16_2 cal n H nx _ _ _ _ _ _) ?_
    have e : EvF (fun n => midRun cal (n + 0) 16 (goTo [0, 5, 4, 9, 0, 0, 5, 0, 0, 5, 7, 5, 0] (bodyOf 16)) 3 (mkS 42 [(0, .val (.vs 1 tg ((p ++ x :: r).map byteAV)) .no), (5, .val (.int .u64 (acc : Int)) .no), (6, .val (.int .i64 (p.length : Int)) .no), (11, .val (.bool false) .no), (12, .val (.vs 1 tg ((p ++ x :: r).map byteAV)) .no), (13, .val (.int .i64 (p.length : Int)) .no), (14, .val (.cptr [(.int .u8 (x.toNat : Int))]) .no)] H nx)) ⟨tupU (du (x :: r) p.length acc), H, nx⟩ := by
      refine EvF.mid 22 (fun n => s16_3 cal n H nx tg ((p ++ x :: r).map byteAV) (acc : Int) (p.length : Int) (x.toNat : Int)) ?_ 0
      by_cases hr : p.length = 9 ∧ 1 < x.toNat
      · refine EvF.stage fun n => ?_
        rw [br_t (by simp; omega), br_t (by simp; omega), du, if_pos hr]
        rfl
      · have h9x : p.length = 9 → x.toNat ≤ 1 := fun e => by have : ¬ 1 < x.toNat := fun h => hr ⟨e, h⟩; omega
        have hor := or16 hx h9 hacc h9x
        have hw : IntKind.wrap .i64 ((p.length : Int) + 1) = ((p.length + 1 : Nat) : Int) := by
          rw [show ((p.length : Int) + 1) = ((p.length + 1 : Nat) : Int) by omega]; exact wrap_i64 _ (by omega)
        have h7 : IntKind.wrap .i64 (7 * (p.length : Int)) = ((7 * p.length : Nat) : Int) := by
          rw [show (7 * (p.length : Int)) = ((7 * p.length : Nat) : Int) by omega]; exact wrap_i64 _ (by omega)
        have tail : EvF (fun n => (br (decide ((IntKind.wrap IntKind.i64 ((7) * (p.length : Int))) < 0))
 none
 (br (decide ((128) ≤ (x.toNat : Int)))
 (run Try.prog ann cal (n + 8) 16 (goTo [0, 5, 4, 9, 0] (bodyOf 16)) (mkS 42 [(0, .val (.vs 1 tg ((p ++ x :: r).map byteAV)) .no), (5, .val (.int .u64 (bits .or .u64 (acc : Int) (shlZ IntKind.u64 (IntKind.wrap IntKind.u64 (bits .andNot .u8 (x.toNat : Int) (128))) (IntKind.wrap IntKind.i64 ((7) * (p.length : Int)))))) .no), (6, .val (.int .i64 (IntKind.wrap IntKind.i64 ((p.length : Int) + (1)))) .no), (7, .val (.int .u8 (x.toNat : Int)) .no), (33, .val (.bool true) .no)] H nx))
 (br (decide ((x.toNat : Int) = (0)))
 (br (decide ((1) < (IntKind.wrap IntKind.i64 ((p.length : Int) + (1)))))
 (some ⟨(.tuple [(.int .u64 (0)), (.int .i64 (0)), (.int .i64 (2))]), H, nx⟩)
 (some ⟨(.tuple [(.int .u64 (bits .or .u64 (acc : Int) (shlZ IntKind.u64 (IntKind.wrap IntKind.u64 (bits .andNot .u8 (x.toNat : Int) (128))) (IntKind.wrap IntKind.i64 ((7) * (p.length : Int)))))), (.int .i64 (IntKind.wrap IntKind.i64 ((p.length : Int) + (1)))), (.int .i64 (0))]), H, nx⟩))
 (some ⟨(.tuple [(.int .u64 (bits .or .u64 (acc : Int) (shlZ IntKind.u64 (IntKind.wrap IntKind.u64 (bits .andNot .u8 (x.toNat : Int) (128))) (IntKind.wrap IntKind.i64 ((7) * (p.length : Int)))))), (.int .i64 (IntKind.wrap IntKind.i64 ((p.length : Int) + (1)))), (.int .i64 (0))]), H, nx⟩))))) ⟨tupU (du (x :: r) p.length acc), H, nx⟩ := by
          rw [hor, hw, h7]
          by_cases h128 : 128 ≤ x.toNat
          · have hd : du (x :: r) p.length acc = du r (p.length + 1) (acc + x.toNat % 128 * 128 ^ p.length) := by rw [du, if_neg hr, if_pos h128]
            have := ih (fun e => by have := h9x e; omega)
            rw [List.append_assoc, List.singleton_append, List.length_append, List.length_singleton] at this
            rw [hd]
            refine (this.at 8).congr fun n => ?_
            rw [br_f (by simp; omega), br_t (by simp; omega)]
          · have hd : du (x :: r) p.length acc = if x.toNat = 0 ∧ 0 < p.length then (0, 0, 2) else (acc + x.toNat % 128 * 128 ^ p.length, p.length + 1, 0) := by rw [du, if_neg hr, if_neg h128]
            refine EvF.stage fun n => ?_
            rw [hd, br_f (by simp; omega), br_f (by simp; omega)]
            by_cases h0 : x.toNat = 0
            · rw [br_t (by simp [h0]), br_t (by simp; omega), if_pos ⟨h0, by omega⟩]
              rfl
            · rw [br_f (by simp; omega), if_neg (fun h => h0 h.1)]
              rfl
        refine tail.congr fun n => ?_
        by_cases h : p.length = 9
        · rw [br_t (by simp; omega), br_f (by simp; have := h9x h; omega)]
        · rw [br_f (by simp; omega)]
    refine e.congr fun n => ?_
    rw [br_f (by simp; omega), br_t (by simp), br_t (by simp; omega), show Int.toNat (p.length : Int) = p.length by simp, nth_at, Option.bind_some]
    rfl


theorem c16 (cal : Oracle) (H : Hp) (nx : Nat) (bs : List UInt8) (tg : Bool) : Ev cal 16 (bodyOf 16) (mkS 42 [(0, .val (.vs 1 tg (bs.map byteAV)) .no)] H nx) ⟨tupU (du bs 0 0), H, nx⟩ := by
  refine Ev.stage 14 (fun n => s16_0 cal n H nx _ tg) ?_
  cases bs with
  | nil => exact EvF.stage fun n => rfl
  | cons x r =>
    have hx : x.toNat < 256 := x.toNat_lt
    have hor : bits .or .u64 0 (shlZ .u64 (IntKind.wrap .u64 (bits .andNot .u8 (x.toNat : Int) 128)) 0) = ((x.toNat % 128 : Nat) : Int) := by
      have := or16 (acc := 0) (i := 0) hx (by omega) (by omega) (by omega)
      simpa [show IntKind.wrap .i64 0 = 0 from rfl] using this
    have e : EvF (fun n => midRun cal (n + 0) 16 (goTo [0, 5, 4, 0, 5, 0, 5, 0, 0, 5, 7, 5, 0] (bodyOf 16)) 3 (mkS 42 [(0, .val (.vs 1 tg ((x :: r).map byteAV)) .no), (5, .val (.int .u64 (0)) .no), (6, .val (.int .i64 (0)) .no), (11, .val (.bool false) .no), (12, .val (.vs 1 tg ((x :: r).map byteAV)) .no), (13, .val (.int .i64 (0)) .no), (14, .val (.cptr [(.int .u8 (x.toNat : Int))]) .no)] H nx)) ⟨tupU (du (x :: r) 0 0), H, nx⟩ := by
      refine EvF.mid 22 (fun n => s16_1 cal n H nx ((x :: r).map byteAV) tg (x.toNat : Int)) ?_ 0
      rw [hor]
      by_cases h128 : 128 ≤ x.toNat
      · have hd : du (x :: r) 0 0 = du r 1 (x.toNat % 128) := by rw [du, if_neg (by omega), if_pos h128]; simp
        have := l16 cal H nx tg r [x] (x.toNat % 128) (x.toNat : Int) (by simp) (by simp) (by simp; omega)
        rw [hd]
        refine (this.at 8).congr fun n => ?_
        rw [br_t (by simp; omega)]
        rfl
      · have hd : du (x :: r) 0 0 = (x.toNat % 128, 1, 0) := by rw [du, if_neg (by omega), if_neg h128, if_neg (by omega)]; simp
        refine EvF.stage fun n => ?_
        rw [hd, br_f (by simp; omega)]
        by_cases h0 : x.toNat = 0
        · rw [br_t (by simp [h0])]
          rfl
        · rw [br_f (by simp; omega)]
          rfl
    refine e.congr fun n => ?_
    rw [br_df (by simp; omega), br_dt (by simp)]
    rfl

theorem l17 (cal : Oracle) (H : Hp) (nx : Nat) (tg : Bool) : ∀ (r p : List UInt8) (acc : Nat), p.length ≤ 9 → acc < 128 ^ p.length →
    Ev cal 17 (goTo [0, 5, 0, 5, 0, 0, 5, 2, 3] (bodyOf 17)) (mkS 53 [(0, .val (.vs 1 tg ((p ++ r).map byteAV)) .no), (5, .val (.int .u64 (acc : Int)) .no), (6, .val (.int .i64 (p.length : Int)) .no)] H nx) ⟨tupU (du r p.length acc), H, nx⟩
  | [], p, acc, h9, hacc => by
    refine Ev.stage 19 (fun n => s17_1 cal n H nx _ _ _ _) (EvF.stage fun n => ?_)
    rw [br_t (by simp; omega), br_t (by simp)]
    rfl
  | x :: r, p, acc, h9, hacc => by
    have hx : x.toNat < 256 := x.toNat_lt
    have ih := fun (hi : p.length ≠ 9) => l17 cal H nx tg r (p ++ [x]) (acc + x.toNat % 128 * 128 ^ p.length) (by simp; omega) (by simpa using step_lt h9 hacc (by omega))
    have h7 : IntKind.wrap .u64 (IntKind.wrap .i64 (7 * (p.length : Int))) = ((7 * p.length : Nat) : Int) := by
      rw [show (7 * (p.length : Int)) = ((7 * p.length : Nat) : Int) by omega, wrap_i64 _ (by omega)]; exact wrap_u64 _ (by omega)
    have hnth : nth ((p ++ x :: r).map byteAV) (Int.toNat (p.length : Int)) = some (.int .u8 (x.toNat : Int)) := by
      rw [show Int.toNat (p.length : Int) = p.length by simp]; exact nth_at p x r
    have hlt : (decide ((p.length : Int) < (((List.length ((p ++ x :: r).map byteAV)) : Nat) : Int))) = true := by simp; omega
    -- what follows where the byte is not too great
    have rest : (¬ (p.length = 9 ∧ 1 < x.toNat)) → EvF (fun n => midRun cal (n + 0) 17 (goTo [0, 5, 0, 5, 0, 0, 5, 2, 3, 0, 0, 5, 6, 5, 0, 2, 0, 0, 5, 7, 5, 0, 0, 5, 7, 5, 0] (bodyOf 17)) 4 (mkS 53 [(0, .val (.vs 1 tg ((p ++ x :: r).map byteAV)) .no), (5, .val (.int .u64 (acc : Int)) .no), (6, .val (.int .i64 (p.length : Int)) .no), (23, .val (.bool false) .no), (24, .val (.int .u64 (acc : Int)) .no), (25, .val (.vs 1 tg ((p ++ x :: r).map byteAV)) .no), (26, .val (.int .i64 (p.length : Int)) .no), (27, .val (.cptr [(.int .u8 (x.toNat : Int))]) .no)] H nx)) ⟨tupU (du (x :: r) p.length acc), H, nx⟩ := by
      intro hr
      have h9x : p.length = 9 → x.toNat ≤ 1 := fun e => by have : ¬ 1 < x.toNat := fun h => hr ⟨e, h⟩; omega
      have hor := or17 hx h9 hacc h9x
      have hw : IntKind.wrap .i64 ((p.length : Int) + 1) = ((p.length + 1 : Nat) : Int) := by
        rw [show ((p.length : Int) + 1) = ((p.length + 1 : Nat) : Int) by omega]; exact wrap_i64 _ (by omega)
      refine EvF.mid 2 (fun n => s17_3 cal n H nx tg ((p ++ x :: r).map byteAV) (acc : Int) (p.length : Int) (x.toNat : Int)) ?_ 0
      have e4 := EvF.mid 5 (fun n => s17_4 cal n H nx tg ((p ++ x :: r).map byteAV) (acc : Int) (p.length : Int) (x.toNat : Int) (x.toNat : Int)) (out := ⟨tupU (du (x :: r) p.length acc), H, nx⟩) (by
        by_cases h128 : 128 ≤ x.toNat
        · have hd : du (x :: r) p.length acc = du r (p.length + 1) (acc + x.toNat % 128 * 128 ^ p.length) := by rw [du, if_neg hr, if_pos h128]
          have := ih (fun e => by have := h9x e; omega)
          rw [List.append_assoc, List.singleton_append, List.length_append, List.length_singleton] at this
          rw [hd, hor, hw]
          refine (this.at 0).congr fun n => ?_
          rw [br_f (by simp; omega)]
          rfl
        · have hd : du (x :: r) p.length acc = if x.toNat = 0 ∧ 0 < p.length then (0, 0, 2) else (acc + x.toNat % 128 * 128 ^ p.length, p.length + 1, 0) := by rw [du, if_neg hr, if_neg h128]
          have e5 := EvF.mid 5 (fun n => s17_5 cal n H nx tg ((p ++ x :: r).map byteAV) (acc : Int) (p.length : Int) (x.toNat : Int) (x.toNat : Int)) (out := ⟨tupU (du (x :: r) p.length acc), H, nx⟩) (by
            refine EvF.stage fun n => ?_
            rw [hd, hor, hw]
            by_cases h0 : x.toNat = 0
            · rw [br_t (by simp [h0])]
              by_cases hp : 0 < p.length
              · rw [br_t (by simp; omega), if_pos ⟨h0, hp⟩]
                rfl
              · rw [br_df (by omega), if_neg (fun h => hp h.2)]
                rfl
            · rw [br_f (by simp; omega), if_neg (fun h => h0 h.1)]
              rfl) 1
          refine e5.congr fun n => ?_
          rw [br_t (by simp; omega), br_t (by simp), br_t hlt, hnth, Option.bind_some]
          rfl) 0
      refine e4.congr fun n => ?_
      rw [h7, br_f (by simp; omega), br_t (by simp), br_t hlt, hnth, Option.bind_some]
      rfl
    refine Ev.stage 19 (fun n => s17_1 cal n H nx _ _ _ _) ?_
    by_cases h : p.length = 9
    · have e2 := EvF.mid 4 (fun n => s17_2 cal n H nx tg ((p ++ x :: r).map byteAV) (acc : Int) (p.length : Int) (x.toNat : Int)) (out := ⟨tupU (du (x :: r) p.length acc), H, nx⟩) (by
        by_cases hr : 1 < x.toNat
        · refine EvF.stage fun n => ?_
          rw [br_t (by simp; omega), du, if_pos ⟨h, hr⟩]
          rfl
        · refine (rest (fun hh => hr hh.2)).congr fun n => ?_
          rw [br_f (by simp; omega), br_t (by simp), br_t hlt, hnth, Option.bind_some]
          rfl) 4
      refine e2.congr fun n => ?_
      rw [br_t (by simp; omega), br_f (by simp; omega), br_t (by simp; omega), br_t (by simp), br_t hlt, hnth, Option.bind_some]
      rfl
    · refine (rest (fun hh => h hh.1)).congr fun n => ?_
      rw [br_t (by simp; omega), br_f (by simp; omega), br_f (by simp; omega), br_t (by simp), br_t hlt, hnth, Option.bind_some]
      rfl

theorem c17 (cal : Oracle) (H : Hp) (nx : Nat) (bs : List UInt8) (tg : Bool) : Ev cal 17 (bodyOf 17) (mkS 53 [(0, .val (.vs 1 tg (bs.map byteAV)) .no)] H nx) ⟨tupU (du bs 0 0), H, nx⟩ := by
  refine Ev.stage 9 (fun n => s17_0 cal n H nx _ tg) ?_
  exact ((l17 cal H nx tg bs [] 0 (by simp) (by simp)).at 0).congr fun n => rfl

end Go.Proofs.Ytfdijfnmloddcaa
