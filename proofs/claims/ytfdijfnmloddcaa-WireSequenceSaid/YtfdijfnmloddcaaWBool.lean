/- The wire's bools: what reads and what writes them. -/
import Derived.Test.YtfdijfnmloddcaaWP3
namespace Go.Proofs.Ytfdijfnmloddcaa
open Go Go.Vai

/-- a bool read: the bool, the bytes it took, the error -/
def decBool : List UInt8 → AV
  | [] => .tuple [.bool false, .int .i64 0, .int .i64 1]
  | x :: _ => match decide (1 < x.toNat) with
    | true => .tuple [.bool false, .int .i64 0, .int .i64 2]
    | false => .tuple [.bool (decide (x.toNat = 1)), .int .i64 1, .int .i64 0]

attribute [local irreducible] midRun goTo bodyOf mkS run

theorem c26 (cal : Oracle) (H : Hp) (nx : Nat) (bs : List UInt8) (tg : Bool) : Ev cal 26 (bodyOf 26) (mkS 18 [(0, .val (.vs 1 tg (bs.map byteAV)) .no)] H nx) ⟨decBool bs, H, nx⟩ := by
  refine Ev.stage 10 (fun n => s26_0 cal n H nx _ tg) ?_
  cases bs with
  | nil => exact EvF.stage fun n => rfl
  | cons x r =>
    have e3 := EvF.mid (r := 0) 1 (fun n => s26_2 cal n H nx ((x :: r).map byteAV) tg (x.toNat : Int)) (EvF.stage fun n => rfl)
    have e2 : EvF (fun n => midRun cal (n + 1) 26 (goTo [0, 5, 0, 2, 0, 5, 7, 0] (bodyOf 26)) 2 (mkS 18 [(0, .val (.vs 1 tg ((x :: r).map byteAV)) .no), (5, .val (.bool false) .no), (10, .val (.vs 1 tg ((x :: r).map byteAV)) .no), (11, .val (.cptr [.int .u8 (x.toNat : Int)]) .no)] H nx)) ⟨decBool (x :: r), H, nx⟩ := by
      refine EvF.mid (r := 1) 5 (fun n => s26_1 cal n H nx ((x :: r).map byteAV) tg (x.toNat : Int)) ?_
      by_cases h : 1 < x.toNat
      · refine EvF.stage fun n => ?_
        rw [br_t (by simp; omega)]
        simp [decBool, h]
      · have hd : decBool (x :: r) = .tuple [.bool (decide ((x.toNat : Int) = 1)), .int .i64 1, .int .i64 0] := by
          have : decide (x.toNat = 1) = decide ((x.toNat : Int) = 1) := by simp [decide_eq_decide]; omega
          simp [decBool, h, this]
        rw [hd]
        refine e3.congr fun n => ?_
        rw [br_f (by simp; omega), br_t (by simp)]
        rfl
    refine e2.congr fun n => ?_
    rw [br_f (by simp; omega), br_t (by simp)]
    rfl

theorem c27 (cal : Oracle) (H : Hp) (nx : Nat) (bs : List UInt8) (tg : Bool) : Ev cal 27 (bodyOf 27) (mkS 18 [(0, .val (.vs 1 tg (bs.map byteAV)) .no)] H nx) ⟨decBool bs, H, nx⟩ := by
  refine Ev.stage 10 (fun n => s27_0 cal n H nx _ tg) ?_
  cases bs with
  | nil => exact EvF.stage fun n => rfl
  | cons x r =>
    have e3 := EvF.mid (r := 0) 1 (fun n => s27_2 cal n H nx ((x :: r).map byteAV) tg (x.toNat : Int)) (EvF.stage fun n => rfl)
    have e2 : EvF (fun n => midRun cal (n + 1) 27 (goTo [0, 5, 0, 2, 0, 5, 7, 0] (bodyOf 27)) 2 (mkS 18 [(0, .val (.vs 1 tg ((x :: r).map byteAV)) .no), (5, .val (.bool false) .no), (10, .val (.vs 1 tg ((x :: r).map byteAV)) .no), (11, .val (.cptr [.int .u8 (x.toNat : Int)]) .no)] H nx)) ⟨decBool (x :: r), H, nx⟩ := by
      refine EvF.mid (r := 1) 5 (fun n => s27_1 cal n H nx ((x :: r).map byteAV) tg (x.toNat : Int)) ?_
      by_cases h : 1 < x.toNat
      · refine EvF.stage fun n => ?_
        rw [br_t (by simp; omega)]
        simp [decBool, h]
      · have hd : decBool (x :: r) = .tuple [.bool (decide ((x.toNat : Int) = 1)), .int .i64 1, .int .i64 0] := by
          have : decide (x.toNat = 1) = decide ((x.toNat : Int) = 1) := by simp [decide_eq_decide]; omega
          simp [decBool, h, this]
        rw [hd]
        refine e3.congr fun n => ?_
        rw [br_f (by simp; omega), br_t (by simp)]
        rfl
    refine e2.congr fun n => ?_
    rw [br_f (by simp; omega), br_t (by simp)]
    rfl


theorem c28 (cal : Oracle) (H : Hp) (nx : Nat) (b : List AV) (tg c : Bool) (hb : b.length + 10 ≤ maxBytes) : Ev cal 28 (bodyOf 28) (mkS 22 [(0, .val (.vs 1 tg b) .no), (1, .val (.bool c) .no)] H nx) ⟨.vs 1 false (b ++ [.int .u8 (match c with | true => 1 | false => 0)]), H, nx⟩ := by
  have hm : maxBytes = 140737488355328 := rfl
  refine Ev.stage 10 (fun n => s28_0 cal n H nx b tg c) (EvF.stage fun n => ?_)
  cases c with
  | true =>
    rw [br_t rfl, br_t (by simp), br_t (by simp), br_t (by simp), br_t (ble_t (by simp; omega)), br_t (ble_t (by simp; omega))]
    simp
  | false =>
    rw [br_f rfl, br_t (by simp), br_t (by simp), br_t (by simp), br_t (ble_t (by simp; omega)), br_t (ble_t (by simp; omega))]
    simp

theorem c29 (cal : Oracle) (H : Hp) (nx : Nat) (b : List AV) (tg c : Bool) (hb : b.length + 10 ≤ maxBytes) : Ev cal 29 (bodyOf 29) (mkS 16 [(0, .val (.vs 1 tg b) .no), (1, .val (.bool c) .no)] H nx) ⟨.vs 1 false (b ++ [.int .u8 (match c with | true => 1 | false => 0)]), H, nx⟩ := by
  have hm : maxBytes = 140737488355328 := rfl
  refine Ev.stage 10 (fun n => s29_0 cal n H nx b tg c) (EvF.stage fun n => ?_)
  cases c with
  | true =>
    rw [br_t rfl, br_t (ble_t (by omega)), br_t (ble_t (by omega)), br_t (ble_t (by simp; omega)), br_t (ble_t (by simp; omega))]
    simp
  | false =>
    rw [br_f rfl, br_t (ble_t (by omega)), br_t (ble_t (by omega)), br_t (ble_t (by simp; omega)), br_t (ble_t (by simp; omega))]
    simp

end Go.Proofs.Ytfdijfnmloddcaa
