/- WireUintLength: what the law computes is true. -/
import Derived.Test.YtfdijfnmloddcaaWEnc
import Derived.Test.YtfdijfnmloddcaaWLaw6
namespace Go.Proofs.Ytfdijfnmloddcaa
open Go Go.Vai

theorem pure_bytes (l : List UInt8) : pureL (l.map byteAV) = true := by
  induction l with
  | nil => rfl
  | cons x l ih => rw [List.map_cons, pureL_cons, ih]; rfl
theorem pure_vs {sz : Nat} {tg : Bool} {l : List AV} (h : pureL l = true) : (AV.vs sz tg l).pure = true := h

/-- what the calls' oracle says -/
def Has13 (cal : Oracle) : Prop := cal 13 [] Hp.none 0 = some ⟨.bool true, Hp.none, 0⟩
def Has14 (cal : Oracle) : Prop := ∀ (b : List AV) (tg : Bool) (v : Nat), b.length + 10 ≤ maxBytes → v < 18446744073709551616 →
  cal 14 [.vs 1 tg b, .int .u64 (v : Int)] Hp.none 0 = some ⟨.vs 1 false (b ++ (encB v).map byteAV), Hp.none, 0⟩

theorem len_lt {v : Nat} (h : v < 128) : (encB v).length = 1 := by rw [encB, if_pos h]; rfl
theorem len_ge {v : Nat} (h : ¬ v < 128) : (encB v).length = (encB (v / 128)).length + 1 := by rw [encB, if_neg h]; rfl
theorem len_pos (v : Nat) : 1 ≤ (encB v).length := by
  by_cases h : v < 128
  · rw [len_lt h]; exact Nat.le_refl _
  · rw [len_ge h]; omega
theorem len_le : ∀ (k v : Nat), v < 128 ^ (k + 1) → (encB v).length ≤ k + 1
  | 0, v, h => by rw [len_lt (by simpa using h)]; exact Nat.le_refl _
  | k + 1, v, h => by
    by_cases hv : v < 128
    · rw [len_lt hv]; omega
    · rw [len_ge hv]
      have := len_le k (v / 128) (by rw [Nat.div_lt_iff_lt_mul (by omega)]; rw [Nat.pow_succ] at h; exact h)
      omega
theorem len_mono : ∀ (k v w : Nat), w < 128 ^ (k + 1) → v ≤ w → (encB v).length ≤ (encB w).length
  | 0, v, w, h, hle => by rw [len_lt (v := v) (by simp at h; omega), len_lt (v := w) (by simpa using h)]; exact Nat.le_refl _
  | k + 1, v, w, h, hle => by
    by_cases hv : v < 128
    · rw [len_lt hv]; exact len_pos w
    · have hw : ¬ w < 128 := by omega
      rw [len_ge hv, len_ge hw]
      have := len_mono k (v / 128) (w / 128) (by rw [Nat.div_lt_iff_lt_mul (by omega)]; rw [Nat.pow_succ] at h; exact h) (Nat.div_le_div_right hle)
      omega

def more (v : Nat) : Nat := if v = 0 then 0 else (encB v).length
theorem more_div (v : Nat) : 1 + more (v / 128) = (encB v).length := by
  unfold more
  by_cases h : v < 128
  · rw [if_pos (by omega), len_lt h]
  · rw [if_neg (by omega), len_ge h]; omega

theorem wrap_i64 (v : Nat) (h : v < 9223372036854775808) : IntKind.wrap .i64 (v : Int) = (v : Int) := by
  simp [IntKind.wrap, IntKind.bits, IntKind.signed]
  omega

theorem l6 (cal : Oracle) (h13 : Has13 cal) (H : Hp) (nx : Nat) (x y : Nat) (_hx : x < 18446744073709551616) (hy : y < 18446744073709551616) : ∀ (k v c : Nat), v < 128 ^ k → v < 18446744073709551616 → c + k ≤ 20 → c + more v = (encB x).length →
    Ev cal 6 (goTo [0, 5, 0, 5, 0, 5, 0, 0, 5, 2, 3] (bodyOf 6)) (mkS 39 [(0, .val (.int .u64 (x : Int)) .no), (1, .val (.int .u64 (y : Int)) .no), (5, .val (.int .i64 (((encB x).length : Nat) : Int)) .no), (6, .val (.int .i64 (((encB y).length : Nat) : Int)) .no), (7, .val (.int .i64 (c : Int)) .no), (8, .val (.int .u64 (v : Int)) .no)] H nx) ⟨.bool true, H, nx⟩ := by
  intro k
  have h13' : cal 13 [] Hp.none 0 = some ⟨.bool true, Hp.none, 0⟩ := h13
  have last : ∀ (v c : Nat), v = 0 → c + more v = (encB x).length → Ev cal 6 (goTo [0, 5, 0, 5, 0, 5, 0, 0, 5, 2, 3] (bodyOf 6)) (mkS 39 [(0, .val (.int .u64 (x : Int)) .no), (1, .val (.int .u64 (y : Int)) .no), (5, .val (.int .i64 (((encB x).length : Nat) : Int)) .no), (6, .val (.int .i64 (((encB y).length : Nat) : Int)) .no), (7, .val (.int .i64 (c : Int)) .no), (8, .val (.int .u64 (v : Int)) .no)] H nx) ⟨.bool true, H, nx⟩ := by
    intro v c hv hc
    subst hv
    obtain rfl : c = (encB x).length := by simpa [more] using hc
    refine Ev.stage 11 (fun n => s6_3 cal n H nx _ _ _ _ _ _) (EvF.stage fun n => ?_)
    rw [br_f (by simp), br_t (by simp)]
    by_cases hxy : (y : Int) < (x : Int)
    · rw [br_t (by simpa using hxy), br_t (by rfl), h13', Option.bind_some, br_t (by rfl)]
      exact s6_4 cal (n + 3) H nx _ _ _ _ _ _
    · have hlen := len_mono 9 x y (by omega) (by omega)
      rw [br_f (by simpa using hxy), br_t (by simpa using hlen), br_t (by rfl), h13', Option.bind_some, br_t (by rfl)]
      exact s6_5 cal (n + 3) H nx _ _ _ _ _ _
  induction k with
  | zero => intro v c hv _ _ hc; exact last v c (by simpa using hv) hc
  | succ k ih =>
    intro v c hv hv2 hk hc
    by_cases h : v = 0
    · exact last v c h hc
    · refine Ev.stage 11 (fun n => s6_3 cal n H nx _ _ _ _ _ _) ?_
      have hm := more_div v
      have hmv : more v = (encB v).length := by unfold more; rw [if_neg h]
      have := ih (v / 128) (c + 1) (by rw [Nat.div_lt_iff_lt_mul (by omega)]; rw [Nat.pow_succ] at hv; exact hv) (by omega) (by omega) (by omega)
      refine (this.at 0).congr fun n => ?_
      rw [br_t (by simp; omega), quo128 v hv2, show ((c : Int) + 1) = ((c + 1 : Nat) : Int) by omega, wrap_i64 _ (by omega)]
      rfl

theorem c6 (cal : Oracle) (h13 : Has13 cal) (h14 : Has14 cal) (H : Hp) (nx : Nat) (x y : Nat) (hx : x < 18446744073709551616) (hy : y < 18446744073709551616) :
    Ev cal 6 (bodyOf 6) (mkS 39 [(0, .val (.int .u64 (x : Int)) .no), (1, .val (.int .u64 (y : Int)) .no)] H nx) ⟨.bool true, H, nx⟩ := by
  have hm : maxBytes = 140737488355328 := rfl
  refine Ev.stage 4 (fun n => s6_0 cal n H nx _ _) ?_
  refine EvF.congr (F := fun n => midRun cal n 6 (goTo [0, 5, 0] (bodyOf 6)) 2 (mkS 39 [(0, .val (.int .u64 (x : Int)) .no), (1, .val (.int .u64 (y : Int)) .no), (9, .val (.int .u64 (x : Int)) .no), (10, .val (.vs 1 false ([] ++ (encB x).map byteAV)) .own)] H nx)) ?_ (fun n => by
    rw [br_t (by rfl), h14 [] true x (by simp [hm]) hx, Option.bind_some, br_t (by exact pure_bytes _)])
  refine EvF.mid (r := 0) 0 (fun n => s6_1 cal n H nx _ _ _) ?_
  refine EvF.congr (F := fun n => midRun cal n 6 (goTo [0, 5, 0] (bodyOf 6)) 5 (mkS 39 [(0, .val (.int .u64 (x : Int)) .no), (1, .val (.int .u64 (y : Int)) .no), (9, .val (.int .u64 (x : Int)) .no), (10, .val (.vs 1 false ([] ++ (encB x).map byteAV)) .own), (11, .val (.int .i64 (((List.length ([] ++ (encB x).map byteAV)) : Nat) : Int)) .no), (12, .val (.int .u64 (y : Int)) .no), (13, .val (.vs 1 false ([] ++ (encB y).map byteAV)) .own)] H nx)) ?_ (fun n => by
    rw [br_t (by rfl), h14 [] true y (by simp [hm]) hy, Option.bind_some, br_t (by exact pure_bytes _)])
  refine EvF.mid (r := 0) 7 (fun n => s6_2 cal n H nx _ _ _ _) ?_
  have := l6 cal h13 H nx x y hx hy 10 (x / 128) 1 (by omega) (by omega) (by omega) (more_div x)
  refine (this.at 0).congr fun n => ?_
  rw [quo128 x hx]
  simp only [List.nil_append, List.length_map]
  rfl

end Go.Proofs.Ytfdijfnmloddcaa
