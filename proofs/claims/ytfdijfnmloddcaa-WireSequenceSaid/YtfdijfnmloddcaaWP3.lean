/- WireUintEncode: what the law computes is true. -/
import Derived.Test.YtfdijfnmloddcaaWP6
import Derived.Test.YtfdijfnmloddcaaWEnc2
import Derived.Test.YtfdijfnmloddcaaWLaw3
namespace Go.Proofs.Ytfdijfnmloddcaa
open Go Go.Vai

theorem bytesOf_map (l : List UInt8) : bytesOf (l.map byteAV) = some l := by
  induction l with
  | nil => rfl
  | cons x l ih =>
    show (bytesOf (l.map byteAV)).bind _ = _
    rw [ih]
    simp
theorem bytesOf_app (a b : List UInt8) : bytesOf (a.map byteAV ++ b.map byteAV) = some (a ++ b) := by
  rw [← List.map_append]; exact bytesOf_map _
theorem eqS_refl (l : List UInt8) : eqS l l = true := by
  induction l with
  | nil => rfl
  | cons x l ih => simp [eqS, ih]
theorem pure_app (a b : List UInt8) : pureL (a.map byteAV ++ b.map byteAV) = true := by
  rw [← List.map_append]; exact pure_bytes _

def Has15 (cal : Oracle) : Prop := ∀ (b : List AV) (tg : Bool) (v : Nat), b.length + 10 ≤ maxBytes → v < 18446744073709551616 →
  cal 15 [.vs 1 tg b, .int .u64 (v : Int)] Hp.none 0 = some ⟨.vs 1 false (b ++ (encB v).map byteAV), Hp.none, 0⟩

theorem pureL_vs {sz : Nat} {tg : Bool} {l r : List AV} (h : pureL l = true) (h2 : pureL r = true) : pureL (.vs sz tg l :: r) = true := by
  rw [pureL_cons, h2, Bool.and_true]; exact h
theorem pureL_int {k : IntKind} {n : Int} {r : List AV} (h2 : pureL r = true) : pureL (.int k n :: r) = true := by
  rw [pureL_cons, h2, Bool.and_true]; rfl
theorem pureL_bool {b : Bool} {r : List AV} (h2 : pureL r = true) : pureL (.bool b :: r) = true := by
  rw [pureL_cons, h2, Bool.and_true]; rfl
theorem pureL_str {s : List UInt8} {r : List AV} (h2 : pureL r = true) : pureL (.str s :: r) = true := by
  rw [pureL_cons, h2, Bool.and_true]; rfl

attribute [local irreducible] midRun goTo bodyOf mkS run in
theorem c3 (cal : Oracle) (h13 : Has13 cal) (h14 : Has14 cal) (h15 : Has15 cal) (H : Hp) (nx : Nat) (bs : List UInt8) (tg : Bool) (hb : bs.length + 10 ≤ maxBytes) (v : Nat) (hv : v < 18446744073709551616) :
    Ev cal 3 (bodyOf 3) (mkS 21 [(0, .val (.vs 1 tg (bs.map byteAV)) .no), (1, .val (.int .u64 (v : Int)) .no)] H nx) ⟨.bool true, H, nx⟩ := by
  have h13' : cal 13 [] Hp.none 0 = some ⟨.bool true, Hp.none, 0⟩ := h13
  refine Ev.stage 8 (fun n => s3_0 cal n H nx _ tg (v : Int)) ?_
  by_cases h : 300 < bs.length
  · refine EvF.congr (EvF.mid (r := 0) 1 (fun n => s3_1 cal n H nx (bs.map byteAV) tg (v : Int)) (EvF.stage fun n => rfl)) fun n => ?_
    rw [br_t (by simp; omega), br_t (by rfl), h13', Option.bind_some, br_t (by rfl)]
    rfl
  · have hpa : pureL [AV.vs 1 tg (bs.map byteAV), .int .u64 (v : Int)] = true := pureL_vs (pure_bytes _) (pureL_int rfl)
    have last : Ev cal 3 (goTo [0, 5, 0, 0, 5, 7, 5, 0] (bodyOf 3)) (mkS 21 [(0, .val (.vs 1 tg (bs.map byteAV)) .no), (1, .val (.int .u64 (v : Int)) .no), (7, .val (.bool false) .no)] H nx) ⟨.bool true, H, nx⟩ := by
      refine Ev.stage 2 (fun n => r3_0 cal n H nx _ tg (v : Int) _ _ _ _ (h14 _ tg v (by simpa using hb) hv) hpa (pure_app _ _) (bytesOf_app _ _) (h15 _ tg v (by simpa using hb) hv) hpa (pure_app _ _) (bytesOf_app _ _) (eqS_refl _) h13' rfl rfl ?_) (EvF.stage fun n => rfl)
      simp only [AV.pure, pure_bytes, pure_app, pureL]
    refine (last.at 0).congr fun n => ?_
    rw [br_f (by simp; omega)]
    rfl

end Go.Proofs.Ytfdijfnmloddcaa
