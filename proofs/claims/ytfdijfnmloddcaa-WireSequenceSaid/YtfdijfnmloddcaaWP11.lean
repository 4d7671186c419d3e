/- WireBoolAll: what the law computes is true. -/
import Derived.Test.YtfdijfnmloddcaaWBool
import Derived.Test.YtfdijfnmloddcaaWLaw11
namespace Go.Proofs.Ytfdijfnmloddcaa
open Go Go.Vai

theorem decBool_tuple (bs : List UInt8) : ∃ c x e, decBool bs = .tuple [.bool c, .int .i64 x, .int .i64 e] := by
  cases bs with
  | nil => exact ⟨_, _, _, rfl⟩
  | cons x r =>
    cases h : decide (1 < x.toNat) with
    | true => exact ⟨_, _, _, by simp only [decBool, h]; rfl⟩
    | false => exact ⟨_, _, _, by simp only [decBool, h]; rfl⟩

def Has26 (f : Nat) (cal : Oracle) : Prop := ∀ (bs : List UInt8) (tg : Bool), cal f [.vs 1 tg (bs.map byteAV)] Hp.none 0 = some ⟨decBool bs, Hp.none, 0⟩
def oneByte (c : Bool) : List UInt8 := match c with
  | true => [1]
  | false => [0]
def Has28 (f : Nat) (cal : Oracle) : Prop := ∀ (b : List AV) (tg c : Bool), b.length + 10 ≤ maxBytes → cal f [.vs 1 tg b, .bool c] Hp.none 0 = some ⟨.vs 1 false (b ++ (oneByte c).map byteAV), Hp.none, 0⟩

attribute [local irreducible] midRun goTo bodyOf mkS run

theorem c11 (cal : Oracle) (h13 : Has13 cal) (h26 : Has26 26 cal) (h27 : Has26 27 cal) (h28 : Has28 28 cal) (h29 : Has28 29 cal) (H : Hp) (nx : Nat) (bs : List UInt8) (tg c : Bool) (hb : bs.length + 10 ≤ maxBytes) :
    Ev cal 11 (bodyOf 11) (mkS 54 [(0, .val (.bool c) .no), (1, .val (.vs 1 tg (bs.map byteAV)) .no)] H nx) ⟨.bool true, H, nx⟩ := by
  have h13' : cal 13 [] Hp.none 0 = some ⟨.bool true, Hp.none, 0⟩ := h13
  obtain ⟨q, x, e, hdec⟩ := decBool_tuple bs
  have hpb : pureL [AV.vs 1 tg (bs.map byteAV)] = true := pureL_vs (pure_bytes _) rfl
  have h26' := h26 bs tg
  have h27' := h27 bs tg
  rw [hdec] at h26' h27'
  refine Ev.stage 9 (fun n => s11_0 cal n H nx c _ tg) ?_
  by_cases h : 300 < bs.length
  · refine EvF.congr (EvF.mid (r := 1) 1 (fun n => s11_1 cal n H nx c (bs.map byteAV) tg) (EvF.stage fun n => rfl)) fun n => ?_
    rw [br_t (by simp; omega), br_t (by rfl), h13', Option.bind_some, br_t (by rfl)]
  · have hpa : pureL [AV.vs 1 tg (bs.map byteAV), .bool c] = true := pureL_vs (pure_bytes _) (pureL_bool rfl)
    have last := Ev.stage 2 (fun n => r11_0 cal n H nx c _ tg q x e q x e _ _ _ _ (h28 _ tg c (by simpa using hb)) hpa (pure_app _ _) (bytesOf_app _ _) (h29 _ tg c (by simpa using hb)) hpa (pure_app _ _) (bytesOf_app _ _) (eqS_refl _) (by simp) (by simp) (by simp) h13' rfl rfl
      (by simp only [AV.pure, pure_bytes, pure_app, pureL])) (EvF.stage fun n => rfl)
    have e3 := EvF.mid (r := 0) 1 (fun n => s11_3 cal n H nx c (bs.map byteAV) tg q x e q x e) ((last.at 0).congr fun n => rfl)
    have e2 := EvF.mid (r := 0) 2 (fun n => s11_2 cal n H nx c (bs.map byteAV) tg q x e) (e3.congr fun n => by
      rw [br_t hpb, h27', Option.bind_some, br_t (by rfl)]
      rfl)
    refine e2.congr fun n => ?_
    rw [br_f (by simp; omega), br_t hpb, h26', Option.bind_some, br_t (by rfl)]
    rfl

end Go.Proofs.Ytfdijfnmloddcaa
