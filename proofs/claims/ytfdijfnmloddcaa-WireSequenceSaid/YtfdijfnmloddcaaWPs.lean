/- The wire's laws on numbers and strings: what each computes is true. -/
import Derived.Test.YtfdijfnmloddcaaWInt
import Derived.Test.YtfdijfnmloddcaaVMid2
import Derived.Test.YtfdijfnmloddcaaWLaw4
import Derived.Test.YtfdijfnmloddcaaWLaw5
import Derived.Test.YtfdijfnmloddcaaWLaw7
import Derived.Test.YtfdijfnmloddcaaWLaw8
import Derived.Test.YtfdijfnmloddcaaWLaw9
import Derived.Test.YtfdijfnmloddcaaWLaw10
namespace Go.Proofs.Ytfdijfnmloddcaa
open Go Go.Vai

/-- the oracle's words on the other functions -/
def HasZ (f : Nat) (cal : Oracle) : Prop := ∀ (v : Int), I64 v → cal f [.int .i64 v] Hp.none 0 = some ⟨.int .u64 ((zz v : Nat) : Int), Hp.none, 0⟩
def HasAI (f : Nat) (cal : Oracle) : Prop := ∀ (b : List AV) (tg : Bool) (v : Int), b.length + 10 ≤ maxBytes → pureL b = true → I64 v →
  cal f [.vs 1 tg b, .int .i64 v] Hp.none 0 = some ⟨.vs 1 false (b ++ (encB (zz v)).map byteAV), Hp.none, 0⟩
def HasI (f : Nat) (cal : Oracle) : Prop := ∀ (bs : List UInt8) (tg : Bool), cal f [.vs 1 tg (bs.map byteAV)] Hp.none 0 = some ⟨tupI (duI bs), Hp.none, 0⟩
def encS (s : List UInt8) : List UInt8 := encB s.length ++ s
def HasAS (f : Nat) (cal : Oracle) : Prop := ∀ (b : List AV) (tg : Bool) (s : List UInt8), b.length + s.length + 10 ≤ maxBytes → pureL b = true →
  cal f [.vs 1 tg b, .str s] Hp.none 0 = some ⟨.vs 1 false (b ++ (encS s).map byteAV), Hp.none, 0⟩
def HasS (f : Nat) (cal : Oracle) : Prop := ∀ (bs : List UInt8) (tg : Bool), bs.length ≤ maxBytes → cal f [.vs 1 tg (bs.map byteAV)] Hp.none 0 = some ⟨tupS (duS bs), Hp.none, 0⟩

theorem duI_enc (v : Int) (hv : I64 v) (rest : List UInt8) : duI (encB (zz v) ++ rest) = (v, (encB (zz v)).length, 0) := by
  have h := du_round (zz v) (zz v) 0 0 rest (Nat.le_refl _) (by omega) (by have := zz_lt hv; omega) (by omega)
  unfold duI
  rw [h]
  simp [uz_zz]
theorem duS_enc (s : List UInt8) (hs : s.length < 18446744073709551616) (rest : List UInt8) : duS (encS s ++ rest) = (s, (encS s).length, 0) := by
  have h := du_round s.length s.length 0 0 (s ++ rest) (Nat.le_refl _) (by omega) (by omega) (by omega)
  rw [← List.append_assoc] at h
  unfold duS encS
  rw [h]
  simp only [Nat.pow_zero, Nat.mul_one, Nat.zero_add, if_true]
  rw [if_neg (by simp)]
  have e : encB s.length ++ s ++ rest = (encB s.length ++ s) ++ rest := rfl
  rw [show (encB s.length).length + s.length = (encB s.length ++ s).length by simp, List.take_left' rfl, List.drop_left' rfl]

theorem pureL_nil : pureL [] = true := rfl

attribute [local irreducible] midRun goTo bodyOf mkS run

theorem c5 (cal : Oracle) (h13 : Has13 cal) (h14 : HasA 14 cal) (h16 : HasU 16 cal) (H : Hp) (nx : Nat) (bs : List UInt8) (tg : Bool) (v : Nat) (hv : v < 18446744073709551616) :
    Ev cal 5 (bodyOf 5) (mkS 48 [(0, .val (.int .u64 (v : Int)) .no), (1, .val (.vs 1 tg (bs.map byteAV)) .no)] H nx) ⟨.bool true, H, nx⟩ := by
  have hm : maxBytes = 140737488355328 := rfl
  have h13' : cal 13 [] Hp.none 0 = some ⟨.bool true, Hp.none, 0⟩ := h13
  refine Ev.stage 9 (fun n => s5_0 cal n H nx _ _ tg) ?_
  by_cases h : 300 < bs.length
  · refine EvF.congr (EvF.mid (r := 1) 1 (fun n => s5_1 cal n H nx (v : Int) (bs.map byteAV) tg) (EvF.stage fun n => rfl)) fun n => ?_
    rw [br_dt (by simp; omega), br_t (by rfl), h13', Option.bind_some, br_t (by rfl)]
  · have hl := len_le 9 v (by omega)
    have hl1 := len_pos v
    have hdu := du_round v v 0 0 bs (Nat.le_refl _) (by omega) (by omega) (by omega)
    rw [Nat.pow_zero, Nat.mul_one, Nat.zero_add, Nat.zero_add] at hdu
    have e3 := EvF.mid (r := 0) 3 (fun n => s5_3 cal n H nx (v : Int) (bs.map byteAV) tg ((encB v).map byteAV) (v : Int) (((encB v).length : Nat) : Int) 0) (EvF.stage (out := ⟨.bool true, H, nx⟩) fun n => by
      rw [br_dt rfl, br_dt (by simp), br_dt (by simp), br_dt (by simp; omega), List.length_map, decide_eq_true (by omega)])
    have e2 := EvF.mid (r := 0) 2 (fun n => s5_2 cal n H nx (v : Int) (bs.map byteAV) tg ((encB v).map byteAV)) (e3.congr fun n => by
      rw [br_t (ble_t (by simp; omega)), br_t (ble_t (by simp; omega)), br_t (ble_t (by simp; omega)), br_t (ble_t (by simp; omega)), br_t (by exact pureL_vs (pure_app _ _) rfl)]
      rw [List.nil_append, ← List.map_append, h16 (encB v ++ bs) false, hdu, Option.bind_some, br_t (by rfl)]
      rfl)
    refine e2.congr fun n => ?_
    rw [br_df (by simp; omega), br_t (by rfl), h14 [] true v (by simp [hm]) hv, Option.bind_some, br_t (by exact pure_bytes _)]
    rfl

theorem c8 (cal : Oracle) (h13 : Has13 cal) (h19 : HasI 19 cal) (h21 : HasI 21 cal) (H : Hp) (nx : Nat) (bs : List UInt8) (tg : Bool) :
    Ev cal 8 (bodyOf 8) (mkS 41 [(0, .val (.vs 1 tg (bs.map byteAV)) .no)] H nx) ⟨.bool true, H, nx⟩ := by
  have h13' : cal 13 [] Hp.none 0 = some ⟨.bool true, Hp.none, 0⟩ := h13
  have hpb : pureL [AV.vs 1 tg (bs.map byteAV)] = true := pureL_vs (pure_bytes _) rfl
  refine Ev.stage 9 (fun n => s8_0 cal n H nx _ tg) ?_
  by_cases h : 300 < bs.length
  · refine EvF.congr (EvF.mid (r := 1) 1 (fun n => s8_1 cal n H nx (bs.map byteAV) tg) (EvF.stage fun n => rfl)) fun n => ?_
    rw [br_dt (by simp; omega), br_t (by rfl), h13', Option.bind_some, br_t (by rfl)]
  · have e4 := EvF.mid (r := 1) 1 (fun n => s8_4 cal n H nx (duI bs).1 ((duI bs).2.1 : Int) ((duI bs).2.2 : Int) (duI bs).1 ((duI bs).2.1 : Int) ((duI bs).2.2 : Int)) (EvF.stage fun n => rfl)
    have e3 := EvF.mid (r := 0) 3 (fun n => s8_3 cal n H nx (bs.map byteAV) tg (duI bs).1 ((duI bs).2.1 : Int) ((duI bs).2.2 : Int) (duI bs).1 ((duI bs).2.1 : Int) ((duI bs).2.2 : Int)) (e4.congr fun n => by
      rw [br_dt rfl, br_dt rfl, br_dt rfl, br_t (by rfl), h13', Option.bind_some, br_t (by rfl)])
    have e2 := EvF.mid (r := 0) 2 (fun n => s8_2 cal n H nx (bs.map byteAV) tg (duI bs).1 ((duI bs).2.1 : Int) ((duI bs).2.2 : Int)) (e3.congr fun n => by
      rw [br_t hpb, h21 bs tg, Option.bind_some, br_t (by rfl)]
      rfl)
    refine e2.congr fun n => ?_
    rw [br_df (by simp; omega), br_t hpb, h19 bs tg, Option.bind_some, br_t (by rfl)]
    rfl

theorem c10 (cal : Oracle) (h13 : Has13 cal) (h23 : HasS 23 cal) (h25 : HasS 25 cal) (H : Hp) (nx : Nat) (bs : List UInt8) (tg : Bool) (hb : bs.length ≤ maxBytes) :
    Ev cal 10 (bodyOf 10) (mkS 41 [(0, .val (.vs 1 tg (bs.map byteAV)) .no)] H nx) ⟨.bool true, H, nx⟩ := by
  have h13' : cal 13 [] Hp.none 0 = some ⟨.bool true, Hp.none, 0⟩ := h13
  have hpb : pureL [AV.vs 1 tg (bs.map byteAV)] = true := pureL_vs (pure_bytes _) rfl
  refine Ev.stage 9 (fun n => s10_0 cal n H nx _ tg) ?_
  by_cases h : 300 < bs.length
  · refine EvF.congr (EvF.mid (r := 1) 1 (fun n => s10_1 cal n H nx (bs.map byteAV) tg) (EvF.stage fun n => rfl)) fun n => ?_
    rw [br_dt (by simp; omega), br_t (by rfl), h13', Option.bind_some, br_t (by rfl)]
  · have e4 := EvF.mid (r := 1) 1 (fun n => s10_4 cal n H nx (duS bs).1 ((duS bs).2.1 : Int) ((duS bs).2.2 : Int) (duS bs).1 ((duS bs).2.1 : Int) ((duS bs).2.2 : Int)) (EvF.stage fun n => rfl)
    have e3 := EvF.mid (r := 0) 3 (fun n => s10_3 cal n H nx (bs.map byteAV) tg (duS bs).1 ((duS bs).2.1 : Int) ((duS bs).2.2 : Int) (duS bs).1 ((duS bs).2.1 : Int) ((duS bs).2.2 : Int)) (e4.congr fun n => by
      rw [br_t (eqS_refl _), br_dt rfl, br_dt rfl, br_t (by rfl), h13', Option.bind_some, br_t (by rfl)])
    have e2 := EvF.mid (r := 0) 2 (fun n => s10_2 cal n H nx (bs.map byteAV) tg (duS bs).1 ((duS bs).2.1 : Int) ((duS bs).2.2 : Int)) (e3.congr fun n => by
      rw [br_t hpb, h25 bs tg hb, Option.bind_some, br_t (by rfl)]
      rfl)
    refine e2.congr fun n => ?_
    rw [br_df (by simp; omega), br_t hpb, h23 bs tg hb, Option.bind_some, br_t (by rfl)]
    rfl

theorem c7 (cal : Oracle) (h15 : HasA 15 cal) (h18 : HasAI 18 cal) (h19 : HasI 19 cal) (h20 : HasZ 20 cal) (h13 : Has13 cal) (H : Hp) (nx : Nat) (bs : List UInt8) (tg : Bool) (v : Int) (hv : I64 v) :
    Ev cal 7 (bodyOf 7) (mkS 47 [(0, .val (.int .i64 v) .no), (1, .val (.vs 1 tg (bs.map byteAV)) .no)] H nx) ⟨.bool true, H, nx⟩ := by
  have hm : maxBytes = 140737488355328 := rfl
  have h13' : cal 13 [] Hp.none 0 = some ⟨.bool true, Hp.none, 0⟩ := h13
  refine Ev.stage 9 (fun n => s7_0 cal n H nx _ _ tg) ?_
  by_cases h : 300 < bs.length
  · refine EvF.congr (EvF.mid (r := 1) 1 (fun n => s7_1 cal n H nx v (bs.map byteAV) tg) (EvF.stage fun n => rfl)) fun n => ?_
    rw [br_dt (by simp; omega), br_t (by rfl), h13', Option.bind_some, br_t (by rfl)]
  · have hz := zz_lt hv
    have hl := len_le 9 (zz v) (by omega)
    have hbo : bytesOf ((encB (zz v)).map byteAV) = some (encB (zz v)) := bytesOf_map _
    have last := Ev.stage 2 (fun n => r7_0 cal n H nx v ((encB (zz v)).map byteAV) v (((encB (zz v)).length : Nat) : Int) 0 (encB (zz v)) ((zz v : Nat) : Int) ([] ++ (encB (zz v)).map byteAV) (encB (zz v)) hbo (h20 v hv) (by rfl) (by rfl)
      (h15 [] true (zz v) (by simp [hm]) hz) (by rfl) (by exact pure_bytes _) hbo (eqS_refl _) (by simp) (by simp) (by simp)
      (by simp only [AV.pure, pure_bytes, pure_app, pureL, List.nil_append])) (EvF.stage fun n => rfl)
    have e3 := EvF.mid (r := 0) 1 (fun n => s7_3 cal n H nx v (bs.map byteAV) tg ((encB (zz v)).map byteAV) v (((encB (zz v)).length : Nat) : Int) 0) (last.at 0)
    have e2 := EvF.mid (r := 0) 2 (fun n => s7_2 cal n H nx v (bs.map byteAV) tg ((encB (zz v)).map byteAV)) (e3.congr fun n => by
      rw [br_t (ble_t (by simp; omega)), br_t (ble_t (by simp; omega)), br_t (ble_t (by simp; omega)), br_t (ble_t (by simp; omega)), br_t (by exact pureL_vs (pure_app _ _) rfl)]
      rw [List.nil_append, ← List.map_append, h19 (encB (zz v) ++ bs) false, duI_enc v hv, Option.bind_some, br_t (by rfl)]
      rfl)
    refine e2.congr fun n => ?_
    rw [br_df (by simp; omega), br_t (by rfl), h18 [] true v (by simp [hm]) rfl hv, Option.bind_some, br_t (by exact pure_bytes _)]
    rfl

theorem c9 (cal : Oracle) (h13 : Has13 cal) (h22 : HasAS 22 cal) (h23 : HasS 23 cal) (h24 : HasAS 24 cal) (H : Hp) (nx : Nat) (bs : List UInt8) (tg : Bool) (s : List UInt8) :
    Ev cal 9 (bodyOf 9) (mkS 54 [(0, .val (.str s) .no), (1, .val (.vs 1 tg (bs.map byteAV)) .no)] H nx) ⟨.bool true, H, nx⟩ := by
  have hm : maxBytes = 140737488355328 := rfl
  have h13' : cal 13 [] Hp.none 0 = some ⟨.bool true, Hp.none, 0⟩ := h13
  refine Ev.stage 9 (fun n => s9_0 cal n H nx _ _ tg) ?_
  by_cases h : 300 < s.length
  · refine EvF.congr (EvF.mid (r := 1) 1 (fun n => s9_1 cal n H nx s (bs.map byteAV) tg) (EvF.stage fun n => rfl)) fun n => ?_
    rw [br_dt (by omega), br_t (by rfl), h13', Option.bind_some, br_t (by rfl)]
  by_cases h' : 300 < bs.length
  · refine EvF.congr (EvF.mid (r := 1) 1 (fun n => s9_1 cal n H nx s (bs.map byteAV) tg) (EvF.stage fun n => rfl)) fun n => ?_
    rw [br_df (by omega), br_dt (by simp; omega), br_t (by rfl), h13', Option.bind_some, br_t (by rfl)]
  · have hl := len_le 9 s.length (by omega)
    have hl2 : (encS s).length = (encB s.length).length + s.length := by simp [encS]
    have hbo : bytesOf ((encS s).map byteAV) = some (encS s) := bytesOf_map _
    have last := Ev.stage 2 (fun n => r9_0 cal n H nx s ((encS s).map byteAV) s (((encS s).length : Nat) : Int) 0 (encS s) ([] ++ (encS s).map byteAV) (encS s) hbo (h24 [] true s (by simp; omega) rfl) (by rfl) (by exact pure_bytes _)
      hbo (eqS_refl _) (eqS_refl _) (by simp) (by simp) h13' (by rfl) (by rfl)
      (by simp only [AV.pure, pure_bytes, pure_app, pureL, List.nil_append])) (EvF.stage fun n => rfl)
    have e3 := EvF.mid (r := 0) 1 (fun n => s9_3 cal n H nx s (bs.map byteAV) tg ((encS s).map byteAV) s (((encS s).length : Nat) : Int) 0) (last.at 0)
    have e2 := EvF.mid (r := 0) 2 (fun n => s9_2 cal n H nx s (bs.map byteAV) tg ((encS s).map byteAV)) (e3.congr fun n => by
      rw [br_t (ble_t (by simp; omega)), br_t (ble_t (by simp; omega)), br_t (ble_t (by simp; omega)), br_t (ble_t (by simp; omega)), br_t (by exact pureL_vs (pure_app _ _) rfl)]
      rw [List.nil_append, ← List.map_append, h23 (encS s ++ bs) false (by simp; omega), duS_enc s (by omega), Option.bind_some, br_t (by rfl)]
      rfl)
    refine e2.congr fun n => ?_
    rw [br_df (by omega), br_df (by simp; omega), br_t (by rfl), h22 [] true s (by simp; omega) rfl, Option.bind_some, br_t (by exact pure_bytes _)]
    rfl

theorem c4 (cal : Oracle) (h13 : Has13 cal) (h14 : HasA 14 cal) (h16 : HasU 16 cal) (h17 : HasU 17 cal) (H : Hp) (nx : Nat) (bs : List UInt8) (tg : Bool) :
    Ev cal 4 (bodyOf 4) (mkS 52 [(0, .val (.vs 1 tg (bs.map byteAV)) .no)] H nx) ⟨.bool true, H, nx⟩ := by
  have hm : maxBytes = 140737488355328 := rfl
  have h13' : cal 13 [] Hp.none 0 = some ⟨.bool true, Hp.none, 0⟩ := h13
  have hpb : pureL [AV.vs 1 tg (bs.map byteAV)] = true := pureL_vs (pure_bytes _) rfl
  refine Ev.stage 9 (fun n => s4_0 cal n H nx _ tg) ?_
  by_cases h : 300 < bs.length
  · refine EvF.congr (EvF.mid (r := 1) 1 (fun n => s4_1 cal n H nx (bs.map byteAV) tg) (EvF.stage fun n => rfl)) fun n => ?_
    rw [br_dt (by simp; omega), br_t (by rfl), h13', Option.bind_some, br_t (by rfl)]
  · obtain ⟨v, n0, e, hd⟩ : ∃ v n e, du bs 0 0 = (v, n, e) := ⟨_, _, _, rfl⟩
    have h16' := h16 bs tg
    have h17' := h17 bs tg
    rw [hd] at h16' h17'
    have e3 := EvF.mid (r := 0) 11 (fun n => s4_3 cal n H nx (bs.map byteAV) tg (v : Int) (n0 : Int) (e : Int) (v : Int) (n0 : Int) (e : Int)) (out := ⟨.bool true, H, nx⟩) (by
      by_cases he : e = 0
      · subst he
        obtain ⟨w, hv, _, henc, _, hle, hlt⟩ := du_canon bs 0 0 v n0 (by omega) (by simp) hd
        obtain rfl : v = w := by simpa using hv
        rw [Nat.sub_zero] at henc hle
        have hsl : vAt cal 4 (goTo [0, 5, 0, 0, 5, 7, 5, 0, 5, 0, 5, 0, 0, 5, 7, 5, 0, 0, 5, 7, 5, 0] (bodyOf 4)) 5 (mkS 52 [(0, .val (.vs 1 tg (bs.map byteAV)) .no), (3, .val (.int .u64 (v : Int)) .no), (4, .val (.int .i64 (n0 : Int)) .no), (39, .val (.bool false) .no), (41, .val (.int .u64 (v : Int)) .no), (42, .val (.vs 1 false ([] ++ (encB v).map byteAV)) .no), (43, .val (.str (encB v)) .no), (44, .val (.vs 1 tg (bs.map byteAV)) .no), (45, .val (.int .i64 (n0 : Int)) .no)] H nx) = some (.vs 1 false ((encB v).map byteAV)) := by
          have := vAt_sliceOf (cal := cal) (f := 4) (todo := goTo [0, 5, 0, 0, 5, 7, 5, 0, 5, 0, 5, 0, 0, 5, 7, 5, 0, 0, 5, 7, 5, 0] (bodyOf 4)) (i := 5) (S := mkS 52 [(0, .val (.vs 1 tg (bs.map byteAV)) .no), (3, .val (.int .u64 (v : Int)) .no), (4, .val (.int .i64 (n0 : Int)) .no), (39, .val (.bool false) .no), (41, .val (.int .u64 (v : Int)) .no), (42, .val (.vs 1 false ([] ++ (encB v).map byteAV)) .no), (43, .val (.str (encB v)) .no), (44, .val (.vs 1 tg (bs.map byteAV)) .no), (45, .val (.int .i64 (n0 : Int)) .no)] H nx)
            (d := 46) (L := bs.map byteAV) (m := n0) (by kernel_rfl) (by kernel_rfl) (by simpa using hle)
          rw [this, henc, List.map_take]
        have last := Ev.stage 2 (fun n => r4_0 cal n H nx (bs.map byteAV) tg (v : Int) (n0 : Int) ([] ++ (encB v).map byteAV) (encB v) ((encB v).map byteAV) (encB v) (h14 [] true v (by simp [hm]) hlt) (by rfl) (by exact pure_bytes _) (by exact bytesOf_map _) hsl (bytesOf_map _) (eqS_refl _) h13' (by rfl) (by rfl)
          (by simp only [AV.pure, pure_bytes, pure_app, pureL, List.nil_append])) (EvF.stage fun n => rfl)
        refine (last.at 0).congr fun n => ?_
        rw [br_f (by simp), br_f (by simp), br_f (by simp), br_f (by simp)]
        rfl
      · have e4 := EvF.mid (r := 0) 1 (fun n => s4_4 cal n H nx (bs.map byteAV) tg (v : Int) (n0 : Int)) (EvF.stage (out := ⟨.bool true, H, nx⟩) fun n => rfl)
        refine e4.congr fun n => ?_
        rw [br_f (by simp), br_f (by simp), br_f (by simp), br_t (by simpa using he), br_t (by rfl), h13', Option.bind_some, br_t (by rfl)]
        rfl)
    have e2 := EvF.mid (r := 0) 2 (fun n => s4_2 cal n H nx (bs.map byteAV) tg (v : Int) (n0 : Int) (e : Int)) (e3.congr fun n => by
      rw [br_t hpb, h17', Option.bind_some, br_t (by rfl)]
      rfl)
    refine e2.congr fun n => ?_
    rw [br_df (by simp; omega), br_t hpb, h16', Option.bind_some, br_t (by rfl)]
    rfl

end Go.Proofs.Ytfdijfnmloddcaa
