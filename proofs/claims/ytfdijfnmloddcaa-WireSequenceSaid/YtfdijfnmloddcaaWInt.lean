/- The wire's signed integers and strings: what writes and what reads them. -/
import Derived.Test.YtfdijfnmloddcaaWDec
namespace Go.Proofs.Ytfdijfnmloddcaa
open Go Go.Vai

/-- the zigzag number, and back -/
def zz (v : Int) : Nat := if 0 ≤ v then (2 * v).toNat else (-2 * v - 1).toNat
def uz (u : Nat) : Int := if u % 2 = 0 then ((u / 2 : Nat) : Int) else -((u / 2 : Nat) : Int) - 1
theorem uz_zz (v : Int) : uz (zz v) = v := by unfold uz zz; split <;> split <;> omega
theorem zz_uz (u : Nat) : zz (uz u) = u := by unfold uz zz; split <;> split <;> omega
def I64 (v : Int) : Prop := -9223372036854775808 ≤ v ∧ v < 9223372036854775808
theorem zz_lt {v : Int} (h : I64 v) : zz v < 18446744073709551616 := by unfold I64 at h; unfold zz; split <;> omega
theorem uz_i64 {u : Nat} (h : u < 18446744073709551616) : I64 (uz u) := by unfold I64 uz; split <;> omega

theorem wrap_u64' (v : Int) : IntKind.wrap .u64 v = v % 18446744073709551616 := by simp [IntKind.wrap, IntKind.bits, IntKind.signed]
theorem wrap_i64' (v : Int) : IntKind.wrap .i64 v = if 9223372036854775808 ≤ v % 18446744073709551616 then v % 18446744073709551616 - 18446744073709551616 else v % 18446744073709551616 := by
  simp [IntKind.wrap, IntKind.bits, IntKind.signed]

theorem bv_nat (n : Nat) : (BitVec.ofInt 64 (n : Int)).toNat = n % 18446744073709551616 := by
  rw [BitVec.toNat_ofInt]
  simp
  omega
theorem xor_zero (n : Nat) (h : n < 18446744073709551616) : bits .xor .u64 (n : Int) 0 = (n : Int) := by
  show IntKind.wrap .u64 (((BitVec.ofInt 64 (n : Int) ^^^ BitVec.ofInt 64 0).toNat : Nat) : Int) = _
  rw [show BitVec.ofInt 64 0 = 0#64 from rfl, BitVec.xor_zero, bv_nat, Nat.mod_eq_of_lt h, wrap_u64 _ h]
theorem xor_ones (n : Nat) (h : n < 18446744073709551616) : bits .xor .u64 (n : Int) 18446744073709551615 = ((18446744073709551615 - n : Nat) : Int) := by
  show IntKind.wrap .u64 (((BitVec.ofInt 64 (n : Int) ^^^ BitVec.ofInt 64 18446744073709551615).toNat : Nat) : Int) = _
  rw [show BitVec.ofInt 64 18446744073709551615 = BitVec.allOnes 64 by decide, BitVec.xor_allOnes, BitVec.toNat_not, bv_nat, Nat.mod_eq_of_lt h]
  rw [show (2 ^ 64 - 1 - n) = 18446744073709551615 - n by omega]
  exact wrap_u64 _ (by omega)
theorem zig_num {v : Int} (h : I64 v) : bits .xor .u64 (shlZ .u64 (IntKind.wrap .u64 v) 1) (IntKind.wrap .u64 (shrZ .i64 v 63)) = ((zz v : Nat) : Int) := by
  have hlt := zz_lt h
  unfold I64 at h
  have e2 : shlZ .u64 (IntKind.wrap .u64 v) 1 = IntKind.wrap .u64 (IntKind.wrap .u64 v * 2) := rfl
  have e3 : shrZ .i64 v 63 = v.fdiv 9223372036854775808 := rfl
  rw [e2, e3, Int.fdiv_eq_ediv_of_nonneg _ (by omega)]
  by_cases h0 : 0 ≤ v
  · rw [show v / 9223372036854775808 = 0 by omega, show IntKind.wrap .u64 0 = 0 from rfl]
    have hz : zz v = (2 * v).toNat := by unfold zz; rw [if_pos h0]
    rw [show IntKind.wrap .u64 (IntKind.wrap .u64 v * 2) = ((zz v : Nat) : Int) by rw [wrap_u64', wrap_u64']; omega]
    exact xor_zero _ hlt
  · rw [show v / 9223372036854775808 = -1 by omega, show IntKind.wrap .u64 (-1) = 18446744073709551615 from rfl]
    have hz : zz v = (-2 * v - 1).toNat := by unfold zz; rw [if_neg h0]
    rw [show IntKind.wrap .u64 (IntKind.wrap .u64 v * 2) = ((18446744073709551615 - zz v : Nat) : Int) by rw [wrap_u64', wrap_u64']; omega]
    rw [xor_ones _ (by omega)]
    omega

theorem and_one (u : Nat) (h : u < 18446744073709551616) : bits .and .u64 (u : Int) 1 = ((u % 2 : Nat) : Int) := by
  show IntKind.wrap .u64 (((BitVec.ofInt 64 (u : Int) &&& BitVec.ofInt 64 1).toNat : Nat) : Int) = _
  rw [BitVec.toNat_and, bv_nat, Nat.mod_eq_of_lt h, show (BitVec.ofInt 64 1).toNat = 1 from rfl, Nat.and_one_is_mod]
  exact wrap_u64 _ (by omega)
theorem xor_i64_zero (n : Nat) (h : n < 9223372036854775808) : bits .xor .i64 (n : Int) 0 = (n : Int) := by
  show IntKind.wrap .i64 (((BitVec.ofInt 64 (n : Int) ^^^ BitVec.ofInt 64 0).toNat : Nat) : Int) = _
  rw [show BitVec.ofInt 64 0 = 0#64 from rfl, BitVec.xor_zero, bv_nat, Nat.mod_eq_of_lt (by omega), wrap_i64 _ h]
theorem xor_i64_ones (n : Nat) (h : n < 9223372036854775808) : bits .xor .i64 (n : Int) (-1) = -(n : Int) - 1 := by
  show IntKind.wrap .i64 (((BitVec.ofInt 64 (n : Int) ^^^ BitVec.ofInt 64 (-1)).toNat : Nat) : Int) = _
  rw [show BitVec.ofInt 64 (-1) = BitVec.allOnes 64 by decide, BitVec.xor_allOnes, BitVec.toNat_not, bv_nat, Nat.mod_eq_of_lt (by omega), wrap_i64']
  rw [show (2 ^ 64 - 1 - n) = 18446744073709551615 - n by omega]
  split <;> omega
theorem uzig_num {u : Nat} (h : u < 18446744073709551616) : bits .xor .i64 (IntKind.wrap .i64 (shrZ .u64 (u : Int) 1)) (IntKind.wrap .i64 (0 - IntKind.wrap .i64 (bits .and .u64 (u : Int) 1))) = uz u := by
  have e : shrZ .u64 (u : Int) 1 = (u : Int).fdiv 2 := rfl
  rw [and_one u h, e, Int.fdiv_eq_ediv_of_nonneg _ (by omega), show (u : Int) / 2 = ((u / 2 : Nat) : Int) by omega, wrap_i64 (u / 2) (by omega), wrap_i64 (u % 2) (by omega)]
  unfold uz
  by_cases h2 : u % 2 = 0
  · rw [if_pos h2, h2]
    exact xor_i64_zero _ (by omega)
  · rw [if_neg h2, show u % 2 = 1 by omega]
    exact xor_i64_ones _ (by omega)

/-- the answers -/
def duI (bs : List UInt8) : Int × Nat × Nat := match du bs 0 0 with
  | (v, n, e) => if e = 0 then (uz v, n, 0) else (0, 0, e)
def duS (bs : List UInt8) : List UInt8 × Nat × Nat := match du bs 0 0 with
  | (v, n, e) => if e = 0 then (if bs.length - n < v then ([], 0, 1) else ((bs.take (n + v)).drop n, n + v, 0)) else ([], 0, e)
def tupI (p : Int × Nat × Nat) : AV := .tuple [.int .i64 p.1, .int .i64 (p.2.1 : Int), .int .i64 (p.2.2 : Int)]
def tupS (p : List UInt8 × Nat × Nat) : AV := .tuple [.str p.1, .int .i64 (p.2.1 : Int), .int .i64 (p.2.2 : Int)]

/-- what the oracle says of a reader of numbers -/
def HasU (f : Nat) (cal : Oracle) : Prop := ∀ (bs : List UInt8) (tg : Bool), cal f [.vs 1 tg (bs.map byteAV)] Hp.none 0 = some ⟨tupU (du bs 0 0), Hp.none, 0⟩
def HasA (f : Nat) (cal : Oracle) : Prop := ∀ (b : List AV) (tg : Bool) (v : Nat), b.length + 10 ≤ maxBytes → v < 18446744073709551616 →
  cal f [.vs 1 tg b, .int .u64 (v : Int)] Hp.none 0 = some ⟨.vs 1 false (b ++ (encB v).map byteAV), Hp.none, 0⟩

theorem pure_enc {b : List AV} (hb : pureL b = true) (l : List UInt8) : pureL (b ++ l.map byteAV) = true := by
  induction b with
  | nil => exact pure_bytes _
  | cons x b ih =>
    rw [pureL_cons, Bool.and_eq_true] at hb
    rw [List.cons_append, pureL_cons, hb.1, ih hb.2]
    rfl

attribute [local irreducible] midRun goTo bodyOf mkS run

theorem c18 (cal : Oracle) (h14 : HasA 14 cal) (H : Hp) (nx : Nat) (b : List AV) (tg : Bool) (hb : b.length + 10 ≤ maxBytes) (hp : pureL b = true) (v : Int) (hv : I64 v) :
    Ev cal 18 (bodyOf 18) (mkS 14 [(0, .val (.vs 1 tg b) .no), (1, .val (.int .i64 v) .no)] H nx) ⟨.vs 1 false (b ++ (encB (zz v)).map byteAV), H, nx⟩ := by
  refine Ev.stage 4 (fun n => s18_0 cal n H nx b tg v) ?_
  rw [zig_num hv]
  refine EvF.congr (EvF.mid (r := 0) 1 (fun n => s18_1 cal n H nx b tg v (b ++ (encB (zz v)).map byteAV)) (EvF.stage fun n => rfl)) fun n => ?_
  rw [br_t (by exact pureL_vs hp (pureL_int rfl)), h14 b tg (zz v) hb (zz_lt hv), Option.bind_some, br_t (by exact pure_enc hp _), zig_num hv]
  rfl

theorem c20 (cal : Oracle) (H : Hp) (nx : Nat) (v : Int) (hv : I64 v) :
    Ev cal 20 (bodyOf 20) (mkS 14 [(0, .val (.int .i64 v) .no)] H nx) ⟨.int .u64 ((zz v : Nat) : Int), H, nx⟩ := by
  refine Ev.stage 10 (fun n => s20_0 cal n H nx v) (EvF.stage fun n => ?_)
  unfold I64 at hv
  by_cases h0 : 0 ≤ v
  · have hz : zz v = (2 * v).toNat := by unfold zz; rw [if_pos h0]
    rw [br_dt h0, show IntKind.wrap .u64 (IntKind.wrap .u64 v * 2) = ((zz v : Nat) : Int) by rw [wrap_u64', wrap_u64']; omega]
  · have hz : zz v = (-2 * v - 1).toNat := by unfold zz; rw [if_neg h0]
    have e1 : IntKind.wrap .i64 (v + 1) = v + 1 := by rw [wrap_i64']; split <;> omega
    have e2 : IntKind.wrap .i64 (0 - (v + 1)) = -v - 1 := by rw [wrap_i64']; split <;> omega
    rw [br_df h0, e1, e2, show IntKind.wrap .u64 (IntKind.wrap .u64 (IntKind.wrap .u64 (-v - 1) * 2) + 1) = ((zz v : Nat) : Int) by rw [wrap_u64', wrap_u64', wrap_u64']; omega]

theorem c19 (cal : Oracle) (h16 : HasU 16 cal) (H : Hp) (nx : Nat) (bs : List UInt8) (tg : Bool) :
    Ev cal 19 (bodyOf 19) (mkS 26 [(0, .val (.vs 1 tg (bs.map byteAV)) .no)] H nx) ⟨tupI (duI bs), H, nx⟩ := by
  refine Ev.stage 4 (fun n => s19_0 cal n H nx _ tg) ?_
  obtain ⟨v, n0, e, hd⟩ : ∃ v n e, du bs 0 0 = (v, n, e) := ⟨_, _, _, rfl⟩
  have h16' := h16 bs tg
  rw [hd] at h16'
  refine EvF.congr (EvF.mid (r := 0) 8 (fun n => s19_1 cal n H nx (bs.map byteAV) tg (v : Int) (n0 : Int) (e : Int)) (EvF.stage (out := ⟨tupI (duI bs), H, nx⟩) fun n => ?_)) fun n => ?_
  · by_cases he : e = 0
    · subst he
      obtain ⟨_, _, _, _, _, _, hv⟩ := du_canon bs 0 0 v n0 (by omega) (by simp) hd
      rw [br_f (by simp), uzig_num hv]
      simp [duI, hd, tupI]
    · rw [br_t (by simpa using he)]
      simp [duI, hd, tupI, he]
  · rw [br_t (by exact pureL_vs (pure_bytes _) rfl), h16', Option.bind_some, br_t (by rfl)]
    rfl

theorem c21 (cal : Oracle) (h17 : HasU 17 cal) (H : Hp) (nx : Nat) (bs : List UInt8) (tg : Bool) :
    Ev cal 21 (bodyOf 21) (mkS 30 [(0, .val (.vs 1 tg (bs.map byteAV)) .no)] H nx) ⟨tupI (duI bs), H, nx⟩ := by
  refine Ev.stage 4 (fun n => s21_0 cal n H nx _ tg) ?_
  obtain ⟨v, n0, e, hd⟩ : ∃ v n e, du bs 0 0 = (v, n, e) := ⟨_, _, _, rfl⟩
  have h17' := h17 bs tg
  rw [hd] at h17'
  refine EvF.congr (EvF.mid (r := 0) 13 (fun n => s21_1 cal n H nx (bs.map byteAV) tg (v : Int) (n0 : Int) (e : Int)) (EvF.stage (out := ⟨tupI (duI bs), H, nx⟩) fun n => ?_)) fun n => ?_
  · by_cases he : e = 0
    · subst he
      obtain ⟨_, _, _, _, _, _, hv⟩ := du_canon bs 0 0 v n0 (by omega) (by simp) hd
      have e1 : Int.tmod (v : Int) 2 = ((v % 2 : Nat) : Int) := by rw [Int.tmod_eq_emod_of_nonneg (by omega)]; omega
      have e2 : Int.tdiv (v : Int) 2 = ((v / 2 : Nat) : Int) := by rw [Int.tdiv_eq_ediv_of_nonneg (by omega)]; omega
      rw [br_f (by simp), e1, e2, wrap_u64 _ (by omega), wrap_i64 _ (by omega)]
      by_cases h2 : v % 2 = 0
      · rw [br_dt (by omega)]
        simp [duI, hd, tupI, uz, h2]
      · have e3 : IntKind.wrap .i64 (IntKind.wrap .i64 (0 - ((v / 2 : Nat) : Int)) - 1) = -((v / 2 : Nat) : Int) - 1 := by
          rw [show IntKind.wrap .i64 (0 - ((v / 2 : Nat) : Int)) = -((v / 2 : Nat) : Int) by rw [wrap_i64']; split <;> omega, wrap_i64']
          split <;> omega
        rw [br_df (by omega), e3]
        simp [duI, hd, tupI, uz, h2]
    · rw [br_t (by simpa using he)]
      simp [duI, hd, tupI, he]
  · rw [br_t (by exact pureL_vs (pure_bytes _) rfl), h17', Option.bind_some, br_t (by rfl)]
    rfl

theorem c22 (cal : Oracle) (h14 : HasA 14 cal) (H : Hp) (nx : Nat) (b : List AV) (tg : Bool) (s : List UInt8) (hb : b.length + s.length + 10 ≤ maxBytes) (hp : pureL b = true) :
    Ev cal 22 (bodyOf 22) (mkS 12 [(0, .val (.vs 1 tg b) .no), (1, .val (.str s) .no)] H nx) ⟨.vs 1 false (b ++ (encB s.length).map byteAV ++ s.map byteAV), H, nx⟩ := by
  have hm : maxBytes = 140737488355328 := rfl
  refine Ev.stage 4 (fun n => s22_0 cal n H nx b tg s) ?_
  have hl := len_le 9 s.length (by omega)
  refine EvF.congr (EvF.mid (r := 0) 1 (fun n => s22_1 cal n H nx b tg s (b ++ (encB s.length).map byteAV)) (EvF.stage (out := ⟨.vs 1 false (b ++ (encB s.length).map byteAV ++ s.map byteAV), H, nx⟩) fun n => ?_)) fun n => ?_
  · rw [br_t (ble_t (by simp; omega)), br_t (ble_t (by simp; omega))]
  · rw [wrap_u64 _ (by omega), br_t (by exact pureL_vs hp (pureL_int rfl)), h14 b tg s.length (by omega) (by omega), Option.bind_some, br_t (by exact pure_enc hp _)]
    rfl

theorem c24 (cal : Oracle) (h15 : HasA 15 cal) (H : Hp) (nx : Nat) (b : List AV) (tg : Bool) (s : List UInt8) (hb : b.length + s.length + 10 ≤ maxBytes) (hp : pureL b = true) :
    Ev cal 24 (bodyOf 24) (mkS 12 [(0, .val (.vs 1 tg b) .no), (1, .val (.str s) .no)] H nx) ⟨.vs 1 false (b ++ (encB s.length).map byteAV ++ s.map byteAV), H, nx⟩ := by
  have hm : maxBytes = 140737488355328 := rfl
  refine Ev.stage 4 (fun n => s24_0 cal n H nx b tg s) ?_
  have hl := len_le 9 s.length (by omega)
  refine EvF.congr (EvF.mid (r := 0) 1 (fun n => s24_1 cal n H nx b tg s (b ++ (encB s.length).map byteAV)) (EvF.stage (out := ⟨.vs 1 false (b ++ (encB s.length).map byteAV ++ s.map byteAV), H, nx⟩) fun n => ?_)) fun n => ?_
  · rw [br_t (ble_t (by simp; omega)), br_t (ble_t (by simp; omega))]
  · rw [wrap_u64 _ (by omega), br_t (by exact pureL_vs hp (pureL_int rfl)), h15 b tg s.length (by omega) (by omega), Option.bind_some, br_t (by exact pure_enc hp _)]
    rfl

theorem bytesOf_part (bs : List UInt8) (a b : Nat) : bytesOf (List.drop a (List.take b (bs.map byteAV))) = some ((bs.take b).drop a) := by
  rw [← List.map_take, ← List.map_drop]
  exact bytesOf_map _

/-- the tail of the two readers of strings -/
theorem str_tail (bs : List UInt8) (hb : bs.length ≤ maxBytes) (H : Hp) (nx : Nat) (v n e : Nat) (hd : du bs 0 0 = (v, n, e)) :
 (br (R := Out) (!(decide ((e : Int) = (0))))
 (some (⟨(.tuple [(.str []), (.int .i64 (0)), (.int .i64 (e : Int))]), H, nx⟩ : Out))
 (br (decide ((IntKind.wrap IntKind.u64 (IntKind.wrap IntKind.i64 ((((List.length (bs.map byteAV)) : Nat) : Int) - (n : Int)))) < (v : Int)))
 (some (⟨(.tuple [(.str []), (.int .i64 (0)), (.int .i64 (1))]), H, nx⟩ : Out))
 (br (decide ((0 : Int) ≤ (IntKind.wrap IntKind.i64 ((n : Int) + (IntKind.wrap IntKind.i64 (v : Int))))))
 (br (decide ((IntKind.wrap IntKind.i64 ((n : Int) + (IntKind.wrap IntKind.i64 (v : Int)))) ≤ (((List.length (bs.map byteAV)) : Nat) : Int)))
 (br (decide ((0 : Int) ≤ (n : Int)))
 (br (decide ((n : Int) ≤ (((Int.toNat (IntKind.wrap IntKind.i64 ((n : Int) + (IntKind.wrap IntKind.i64 (v : Int))))) : Nat) : Int)))
 ((bytesOf (List.drop (Int.toNat (n : Int)) (List.take (Int.toNat (IntKind.wrap IntKind.i64 ((n : Int) + (IntKind.wrap IntKind.i64 (v : Int))))) (bs.map byteAV)))).bind fun s1 =>
 (some (⟨(.tuple [(.str s1), (.int .i64 (IntKind.wrap IntKind.i64 ((n : Int) + (IntKind.wrap IntKind.i64 (v : Int))))), (.int .i64 (0))]), H, nx⟩ : Out)))
 none)
 none)
 none)
 none))) = some (⟨tupS (duS bs), H, nx⟩ : Out) := by
  have hm : maxBytes = 140737488355328 := rfl
  by_cases he : e = 0
  · subst he
    obtain ⟨_, _, _, _, h1, h2, hv⟩ := du_canon bs 0 0 v n (by omega) (by simp) hd
    rw [br_f (by simp), List.length_map, show ((bs.length : Int) - (n : Int)) = ((bs.length - n : Nat) : Int) by omega, wrap_i64 _ (by omega), wrap_u64 _ (by omega)]
    by_cases hlt : bs.length - n < v
    · rw [br_dt (by omega)]
      simp [duS, hd, tupS, hlt]
    · rw [br_df (by omega), wrap_i64 v (by omega), show ((n : Int) + (v : Int)) = ((n + v : Nat) : Int) by omega, wrap_i64 (n + v) (by omega), br_dt (by omega), br_dt (by omega), br_dt (by omega), Int.toNat_natCast, br_dt (by omega), Int.toNat_natCast, bytesOf_part, Option.bind_some]
      simp [duS, hd, tupS, hlt]
  · rw [br_t (by simpa using he)]
    simp [duS, hd, tupS, he]

theorem c23 (cal : Oracle) (h16 : HasU 16 cal) (H : Hp) (nx : Nat) (bs : List UInt8) (tg : Bool) (hb : bs.length ≤ maxBytes) :
    Ev cal 23 (bodyOf 23) (mkS 36 [(0, .val (.vs 1 tg (bs.map byteAV)) .no)] H nx) ⟨tupS (duS bs), H, nx⟩ := by
  refine Ev.stage 4 (fun n => s23_0 cal n H nx _ tg) ?_
  obtain ⟨v, n0, e, hd⟩ : ∃ v n e, du bs 0 0 = (v, n, e) := ⟨_, _, _, rfl⟩
  have h16' := h16 bs tg
  rw [hd] at h16'
  refine EvF.congr (EvF.mid (r := 0) 13 (fun n => s23_1 cal n H nx (bs.map byteAV) tg (v : Int) (n0 : Int) (e : Int)) (EvF.stage (out := ⟨tupS (duS bs), H, nx⟩) fun n => str_tail bs hb H nx v n0 e hd)) fun n => ?_
  rw [br_t (by exact pureL_vs (pure_bytes _) rfl), h16', Option.bind_some, br_t (by rfl)]
  rfl
theorem c25 (cal : Oracle) (h17 : HasU 17 cal) (H : Hp) (nx : Nat) (bs : List UInt8) (tg : Bool) (hb : bs.length ≤ maxBytes) :
    Ev cal 25 (bodyOf 25) (mkS 36 [(0, .val (.vs 1 tg (bs.map byteAV)) .no)] H nx) ⟨tupS (duS bs), H, nx⟩ := by
  refine Ev.stage 4 (fun n => s25_0 cal n H nx _ tg) ?_
  obtain ⟨v, n0, e, hd⟩ : ∃ v n e, du bs 0 0 = (v, n, e) := ⟨_, _, _, rfl⟩
  have h17' := h17 bs tg
  rw [hd] at h17'
  refine EvF.congr (EvF.mid (r := 0) 13 (fun n => s25_1 cal n H nx (bs.map byteAV) tg (v : Int) (n0 : Int) (e : Int)) (EvF.stage (out := ⟨tupS (duS bs), H, nx⟩) fun n => str_tail bs hb H nx v n0 e hd)) fun n => ?_
  rw [br_t (by exact pureL_vs (pure_bytes _) rfl), h17', Option.bind_some, br_t (by rfl)]
  rfl

end Go.Proofs.Ytfdijfnmloddcaa
