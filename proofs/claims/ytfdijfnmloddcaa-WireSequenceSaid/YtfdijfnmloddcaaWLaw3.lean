/- Stage laws, printed by gen_wire.py. -/
import Derived.Test.YtfdijfnmloddcaaVMid
namespace Go.Proofs.Ytfdijfnmloddcaa
open Go Go.Vai
attribute [local irreducible] midRun vAt goTo bodyOf mkS

/-- fuel 8 -/
theorem s3_0 (cal : Oracle) (n : Nat) (H : Hp) (nx : Nat) (l_1 : List AV) (tg_2 : Bool) (x_3 : Int) : run Try.prog ann cal (n + 8) 3 (bodyOf 3) (mkS 21 [(0, .val (.vs 1 tg_2 l_1) .no), (1, .val (.int .u64 x_3) .no)] H nx) =
 (br (decide ((300) < (((List.length l_1) : Nat) : Int)))
 (br (pureL []) ((cal 13 [] Hp.none 0).bind fun r1 => br (AV.pure r1.v)
 (midRun cal n 3 (goTo [0, 5, 0, 0, 5, 6, 0] (bodyOf 3)) 1 (mkS 21 [(0, .val (.vs 1 tg_2 l_1) .no), (1, .val (.int .u64 x_3) .no), (7, .val (.bool true) .no), (8, .val r1.v .no)] H nx)) none) none)
 (run Try.prog ann cal n 3 (goTo [0, 5, 0, 0, 5, 7, 5, 0] (bodyOf 3)) (mkS 21 [(0, .val (.vs 1 tg_2 l_1) .no), (1, .val (.int .u64 x_3) .no), (7, .val (.bool false) .no)] H nx))) := by kernel_rfl

/-- fuel 1 -/
theorem s3_1 (cal : Oracle) (n : Nat) (H : Hp) (nx : Nat) (l_1 : List AV) (tg_2 : Bool) (x_3 : Int) : midRun cal (n + 1) 3 (goTo [0, 5, 0, 0, 5, 6, 0] (bodyOf 3)) 1 (mkS 21 [(0, .val (.vs 1 tg_2 l_1) .no), (1, .val (.int .u64 x_3) .no), (7, .val (.bool true) .no), (8, .val (.bool true) .no)] H nx) =
 (some ⟨(.bool true), H, nx⟩) := by kernel_rfl

theorem d3_0 (cal : Oracle) (n : Nat) (H : Hp) (nx : Nat) (l_1 : List AV) (tg_2 : Bool) (x_3 : Int) (l_4 : List AV) (s_5 : List UInt8) (l_6 : List AV) (s_7 : List UInt8) (h1 : cal 14 [(.vs 1 tg_2 l_1), (.int .u64 x_3)] Hp.none 0 = some ⟨(.vs 1 false l_4), Hp.none, 0⟩)
  (h2 : pureL [(.vs 1 tg_2 l_1), (.int .u64 x_3)] = true)
  (h3 : (AV.pure (.vs 1 false l_4)) = true)
  (h4 : bytesOf l_4 = some s_5)
  (h5 : cal 15 [(.vs 1 tg_2 l_1), (.int .u64 x_3)] Hp.none 0 = some ⟨(.vs 1 false l_6), Hp.none, 0⟩)
  (h6 : pureL [(.vs 1 tg_2 l_1), (.int .u64 x_3)] = true)
  (h7 : (AV.pure (.vs 1 false l_6)) = true)
  (h8 : bytesOf l_6 = some s_7)
  (h9 : (eqS s_5 s_7) = true)
  (h10 : cal 13 [] Hp.none 0 = some ⟨(.bool true), Hp.none, 0⟩)
  (h11 : pureL [] = true)
  (h12 : (AV.pure (.bool true)) = true) : midRun cal n 3 (goTo [0, 5, 0, 0, 5, 7, 5, 0] (bodyOf 3)) 0 (mkS 21 [(0, .val (.vs 1 tg_2 l_1) .no), (1, .val (.int .u64 x_3) .no), (7, .val (.bool false) .no)] H nx) = midRun cal n 3 (goTo [0, 5, 0, 0, 5, 7, 5, 0] (bodyOf 3)) 12 (mkS 21 [(0, .val (.vs 1 tg_2 l_1) .no), (1, .val (.int .u64 x_3) .no), (7, .val (.bool false) .no), (9, .val (.vs 1 tg_2 l_1) .no), (10, .val (.int .u64 x_3) .no), (11, .val (.vs 1 false l_4) .no), (12, .val (.str s_5) .no), (13, .val (.vs 1 tg_2 l_1) .no), (14, .val (.int .u64 x_3) .no), (15, .val (.vs 1 false l_6) .no), (16, .val (.str s_7) .no), (17, .val (.bool true) .no), (18, .val (.bool true) .no), (19, .val (.bool true) .no), (20, .val (.bool true) .no)] H nx) :=
  (mid_val (e := 9) (v := (.vs 1 tg_2 l_1)) (S' := (mkS 21 [(0, .val (.vs 1 tg_2 l_1) .no), (1, .val (.int .u64 x_3) .no), (7, .val (.bool false) .no), (9, .val (.vs 1 tg_2 l_1) .no)] H nx)) (by kernel_rfl) (by kernel_rfl) (by kernel_rfl)).trans <|
  (mid_val (e := 10) (v := (.int .u64 x_3)) (S' := (mkS 21 [(0, .val (.vs 1 tg_2 l_1) .no), (1, .val (.int .u64 x_3) .no), (7, .val (.bool false) .no), (9, .val (.vs 1 tg_2 l_1) .no), (10, .val (.int .u64 x_3) .no)] H nx)) (by kernel_rfl) (by kernel_rfl) (by kernel_rfl)).trans <|
  (mid_val (e := 11) (v := (.vs 1 false l_4)) (S' := (mkS 21 [(0, .val (.vs 1 tg_2 l_1) .no), (1, .val (.int .u64 x_3) .no), (7, .val (.bool false) .no), (9, .val (.vs 1 tg_2 l_1) .no), (10, .val (.int .u64 x_3) .no), (11, .val (.vs 1 false l_4) .no)] H nx)) (by kernel_rfl) (vAt_callOf (g := 14) (d := 11) (L := [(.vs 1 tg_2 l_1), (.int .u64 x_3)]) (by kernel_rfl) (by kernel_rfl) (by kernel_rfl) h2 h1 h3) (by kernel_rfl)).trans <|
  (mid_val (e := 12) (v := (.str s_5)) (S' := (mkS 21 [(0, .val (.vs 1 tg_2 l_1) .no), (1, .val (.int .u64 x_3) .no), (7, .val (.bool false) .no), (9, .val (.vs 1 tg_2 l_1) .no), (10, .val (.int .u64 x_3) .no), (11, .val (.vs 1 false l_4) .no), (12, .val (.str s_5) .no)] H nx)) (by kernel_rfl) (vAt_convOf (d := 12) (L := l_4) (by kernel_rfl) (by kernel_rfl) h4) (by kernel_rfl)).trans <|
  (mid_val (e := 13) (v := (.vs 1 tg_2 l_1)) (S' := (mkS 21 [(0, .val (.vs 1 tg_2 l_1) .no), (1, .val (.int .u64 x_3) .no), (7, .val (.bool false) .no), (9, .val (.vs 1 tg_2 l_1) .no), (10, .val (.int .u64 x_3) .no), (11, .val (.vs 1 false l_4) .no), (12, .val (.str s_5) .no), (13, .val (.vs 1 tg_2 l_1) .no)] H nx)) (by kernel_rfl) (by kernel_rfl) (by kernel_rfl)).trans <|
  (mid_val (e := 14) (v := (.int .u64 x_3)) (S' := (mkS 21 [(0, .val (.vs 1 tg_2 l_1) .no), (1, .val (.int .u64 x_3) .no), (7, .val (.bool false) .no), (9, .val (.vs 1 tg_2 l_1) .no), (10, .val (.int .u64 x_3) .no), (11, .val (.vs 1 false l_4) .no), (12, .val (.str s_5) .no), (13, .val (.vs 1 tg_2 l_1) .no), (14, .val (.int .u64 x_3) .no)] H nx)) (by kernel_rfl) (by kernel_rfl) (by kernel_rfl)).trans <|
  (mid_val (e := 15) (v := (.vs 1 false l_6)) (S' := (mkS 21 [(0, .val (.vs 1 tg_2 l_1) .no), (1, .val (.int .u64 x_3) .no), (7, .val (.bool false) .no), (9, .val (.vs 1 tg_2 l_1) .no), (10, .val (.int .u64 x_3) .no), (11, .val (.vs 1 false l_4) .no), (12, .val (.str s_5) .no), (13, .val (.vs 1 tg_2 l_1) .no), (14, .val (.int .u64 x_3) .no), (15, .val (.vs 1 false l_6) .no)] H nx)) (by kernel_rfl) (vAt_callOf (g := 15) (d := 15) (L := [(.vs 1 tg_2 l_1), (.int .u64 x_3)]) (by kernel_rfl) (by kernel_rfl) (by kernel_rfl) h6 h5 h7) (by kernel_rfl)).trans <|
  (mid_val (e := 16) (v := (.str s_7)) (S' := (mkS 21 [(0, .val (.vs 1 tg_2 l_1) .no), (1, .val (.int .u64 x_3) .no), (7, .val (.bool false) .no), (9, .val (.vs 1 tg_2 l_1) .no), (10, .val (.int .u64 x_3) .no), (11, .val (.vs 1 false l_4) .no), (12, .val (.str s_5) .no), (13, .val (.vs 1 tg_2 l_1) .no), (14, .val (.int .u64 x_3) .no), (15, .val (.vs 1 false l_6) .no), (16, .val (.str s_7) .no)] H nx)) (by kernel_rfl) (vAt_convOf (d := 16) (L := l_6) (by kernel_rfl) (by kernel_rfl) h8) (by kernel_rfl)).trans <|
  (mid_val (e := 17) (v := (.bool true)) (S' := (mkS 21 [(0, .val (.vs 1 tg_2 l_1) .no), (1, .val (.int .u64 x_3) .no), (7, .val (.bool false) .no), (9, .val (.vs 1 tg_2 l_1) .no), (10, .val (.int .u64 x_3) .no), (11, .val (.vs 1 false l_4) .no), (12, .val (.str s_5) .no), (13, .val (.vs 1 tg_2 l_1) .no), (14, .val (.int .u64 x_3) .no), (15, .val (.vs 1 false l_6) .no), (16, .val (.str s_7) .no), (17, .val (.bool true) .no)] H nx)) (by kernel_rfl) ((show vAt cal 3 (goTo [0, 5, 0, 0, 5, 7, 5, 0] (bodyOf 3)) 8 (mkS 21 [(0, .val (.vs 1 tg_2 l_1) .no), (1, .val (.int .u64 x_3) .no), (7, .val (.bool false) .no), (9, .val (.vs 1 tg_2 l_1) .no), (10, .val (.int .u64 x_3) .no), (11, .val (.vs 1 false l_4) .no), (12, .val (.str s_5) .no), (13, .val (.vs 1 tg_2 l_1) .no), (14, .val (.int .u64 x_3) .no), (15, .val (.vs 1 false l_6) .no), (16, .val (.str s_7) .no)] H nx) = some (.bool (eqS s_5 s_7)) by kernel_rfl).trans (by rw [h9])) (by kernel_rfl)).trans <|
  (mid_val (e := 18) (v := (.bool true)) (S' := (mkS 21 [(0, .val (.vs 1 tg_2 l_1) .no), (1, .val (.int .u64 x_3) .no), (7, .val (.bool false) .no), (9, .val (.vs 1 tg_2 l_1) .no), (10, .val (.int .u64 x_3) .no), (11, .val (.vs 1 false l_4) .no), (12, .val (.str s_5) .no), (13, .val (.vs 1 tg_2 l_1) .no), (14, .val (.int .u64 x_3) .no), (15, .val (.vs 1 false l_6) .no), (16, .val (.str s_7) .no), (17, .val (.bool true) .no), (18, .val (.bool true) .no)] H nx)) (by kernel_rfl) (by kernel_rfl) (by kernel_rfl)).trans <|
  (mid_yes2 (e := 19) (d := 18) (w := true) (v := (.bool true)) (S' := (mkS 21 [(0, .val (.vs 1 tg_2 l_1) .no), (1, .val (.int .u64 x_3) .no), (7, .val (.bool false) .no), (9, .val (.vs 1 tg_2 l_1) .no), (10, .val (.int .u64 x_3) .no), (11, .val (.vs 1 false l_4) .no), (12, .val (.str s_5) .no), (13, .val (.vs 1 tg_2 l_1) .no), (14, .val (.int .u64 x_3) .no), (15, .val (.vs 1 false l_6) .no), (16, .val (.str s_7) .no), (17, .val (.bool true) .no), (18, .val (.bool true) .no), (19, .val (.bool true) .no)] H nx)) (by kernel_rfl) (by kernel_rfl) (by kernel_rfl) (vAt_callOf (g := 13) (d := 19) (L := []) (by kernel_rfl) (by kernel_rfl) (by kernel_rfl) h11 h10 h12) (by kernel_rfl)).trans <|
  (mid_val (e := 20) (v := (.bool true)) (S' := (mkS 21 [(0, .val (.vs 1 tg_2 l_1) .no), (1, .val (.int .u64 x_3) .no), (7, .val (.bool false) .no), (9, .val (.vs 1 tg_2 l_1) .no), (10, .val (.int .u64 x_3) .no), (11, .val (.vs 1 false l_4) .no), (12, .val (.str s_5) .no), (13, .val (.vs 1 tg_2 l_1) .no), (14, .val (.int .u64 x_3) .no), (15, .val (.vs 1 false l_6) .no), (16, .val (.str s_7) .no), (17, .val (.bool true) .no), (18, .val (.bool true) .no), (19, .val (.bool true) .no), (20, .val (.bool true) .no)] H nx)) (by kernel_rfl) (by kernel_rfl) (by kernel_rfl))

/-- fuel 1 -/
theorem e3_0 (cal : Oracle) (n : Nat) (H : Hp) (nx : Nat) (l_1 : List AV) (tg_2 : Bool) (x_3 : Int) (l_4 : List AV) (s_5 : List UInt8) (l_6 : List AV) (s_7 : List UInt8) : midRun cal (n + 1) 3 (goTo [0, 5, 0, 0, 5, 7, 5, 0] (bodyOf 3)) 12 (mkS 21 [(0, .val (.vs 1 tg_2 l_1) .no), (1, .val (.int .u64 x_3) .no), (7, .val (.bool false) .no), (9, .val (.vs 1 tg_2 l_1) .no), (10, .val (.int .u64 x_3) .no), (11, .val (.vs 1 false l_4) .no), (12, .val (.str s_5) .no), (13, .val (.vs 1 tg_2 l_1) .no), (14, .val (.int .u64 x_3) .no), (15, .val (.vs 1 false l_6) .no), (16, .val (.str s_7) .no), (17, .val (.bool true) .no), (18, .val (.bool true) .no), (19, .val (.bool true) .no), (20, .val (.bool true) .no)] H nx) =
 (br (pureL [(.vs 1 tg_2 l_1), (.vs 1 tg_2 l_1), (.int .u64 x_3), (.int .u64 x_3), (.vs 1 tg_2 l_1), (.int .u64 x_3), (.vs 1 false l_4), (.vs 1 false l_4), (.str s_5), (.vs 1 tg_2 l_1), (.vs 1 tg_2 l_1), (.int .u64 x_3), (.int .u64 x_3), (.vs 1 tg_2 l_1), (.int .u64 x_3), (.vs 1 false l_6), (.vs 1 false l_6), (.str s_7), (.str s_5), (.str s_7), (.bool true), (.bool true), (.bool true), (.bool true), (.bool true), (.bool true), (.bool true), (.bool true)])
 (some ⟨(.bool true), H, nx⟩)
 none) := by kernel_rfl

theorem r3_0 (cal : Oracle) (n : Nat) (H : Hp) (nx : Nat) (l_1 : List AV) (tg_2 : Bool) (x_3 : Int) (l_4 : List AV) (s_5 : List UInt8) (l_6 : List AV) (s_7 : List UInt8) (h1 : cal 14 [(.vs 1 tg_2 l_1), (.int .u64 x_3)] Hp.none 0 = some ⟨(.vs 1 false l_4), Hp.none, 0⟩)
  (h2 : pureL [(.vs 1 tg_2 l_1), (.int .u64 x_3)] = true)
  (h3 : (AV.pure (.vs 1 false l_4)) = true)
  (h4 : bytesOf l_4 = some s_5)
  (h5 : cal 15 [(.vs 1 tg_2 l_1), (.int .u64 x_3)] Hp.none 0 = some ⟨(.vs 1 false l_6), Hp.none, 0⟩)
  (h6 : pureL [(.vs 1 tg_2 l_1), (.int .u64 x_3)] = true)
  (h7 : (AV.pure (.vs 1 false l_6)) = true)
  (h8 : bytesOf l_6 = some s_7)
  (h9 : (eqS s_5 s_7) = true)
  (h10 : cal 13 [] Hp.none 0 = some ⟨(.bool true), Hp.none, 0⟩)
  (h11 : pureL [] = true)
  (h12 : (AV.pure (.bool true)) = true)
  (hp : pureL [(.vs 1 tg_2 l_1), (.vs 1 tg_2 l_1), (.int .u64 x_3), (.int .u64 x_3), (.vs 1 tg_2 l_1), (.int .u64 x_3), (.vs 1 false l_4), (.vs 1 false l_4), (.str s_5), (.vs 1 tg_2 l_1), (.vs 1 tg_2 l_1), (.int .u64 x_3), (.int .u64 x_3), (.vs 1 tg_2 l_1), (.int .u64 x_3), (.vs 1 false l_6), (.vs 1 false l_6), (.str s_7), (.str s_5), (.str s_7), (.bool true), (.bool true), (.bool true), (.bool true), (.bool true), (.bool true), (.bool true), (.bool true)] = true) : run Try.prog ann cal (n + 2) 3 (goTo [0, 5, 0, 0, 5, 7, 5, 0] (bodyOf 3)) (mkS 21 [(0, .val (.vs 1 tg_2 l_1) .no), (1, .val (.int .u64 x_3) .no), (7, .val (.bool false) .no)] H nx) = some ⟨.bool true, H, nx⟩ :=
  (run_draw (by kernel_rfl)).trans <| (d3_0 cal (n + 1) H nx l_1 tg_2 x_3 l_4 s_5 l_6 s_7 h1 h2 h3 h4 h5 h6 h7 h8 h9 h10 h11 h12).trans <| (e3_0 cal n H nx l_1 tg_2 x_3 l_4 s_5 l_6 s_7).trans (br_t' hp)

end Go.Proofs.Ytfdijfnmloddcaa
