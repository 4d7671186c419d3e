/- Stage laws, printed by gen_wire.py. -/
import Derived.Test.YtfdijfnmloddcaaVMid
namespace Go.Proofs.Ytfdijfnmloddcaa
open Go Go.Vai
attribute [local irreducible] midRun vAt goTo bodyOf mkS

/-- fuel 9 -/
theorem s4_0 (cal : Oracle) (n : Nat) (H : Hp) (nx : Nat) (l_1 : List AV) (tg_2 : Bool) : run Try.prog ann cal (n + 9) 4 (bodyOf 4) (mkS 52 [(0, .val (.vs 1 tg_2 l_1) .no)] H nx) =
 (br (decide ((300) < (((List.length l_1) : Nat) : Int)))
 (br (pureL []) ((cal 13 [] Hp.none 0).bind fun r1 => br (AV.pure r1.v)
 (midRun cal (n + 1) 4 (goTo [0, 5, 0, 0, 5, 6, 0] (bodyOf 4)) 1 (mkS 52 [(0, .val (.vs 1 tg_2 l_1) .no), (11, .val (.bool true) .no), (12, .val r1.v .no)] H nx)) none) none)
 (br (pureL [(.vs 1 tg_2 l_1)]) ((cal 16 [(.vs 1 tg_2 l_1)] Hp.none 0).bind fun r2 => br (AV.pure r2.v)
 (midRun cal n 4 (goTo [0, 5, 0, 0, 5, 7, 5, 0] (bodyOf 4)) 2 (mkS 52 [(0, .val (.vs 1 tg_2 l_1) .no), (11, .val (.bool false) .no), (14, .val (.vs 1 tg_2 l_1) .no), (15, .val r2.v .no)] H nx)) none) none)) := by kernel_rfl

/-- fuel 1 -/
theorem s4_1 (cal : Oracle) (n : Nat) (H : Hp) (nx : Nat) (l_1 : List AV) (tg_2 : Bool) : midRun cal (n + 1) 4 (goTo [0, 5, 0, 0, 5, 6, 0] (bodyOf 4)) 1 (mkS 52 [(0, .val (.vs 1 tg_2 l_1) .no), (11, .val (.bool true) .no), (12, .val (.bool true) .no)] H nx) =
 (some ⟨(.bool true), H, nx⟩) := by kernel_rfl

/-- fuel 2 -/
theorem s4_2 (cal : Oracle) (n : Nat) (H : Hp) (nx : Nat) (l_1 : List AV) (tg_2 : Bool) (x_3 : Int) (x_4 : Int) (x_5 : Int) : midRun cal (n + 2) 4 (goTo [0, 5, 0, 0, 5, 7, 5, 0] (bodyOf 4)) 2 (mkS 52 [(0, .val (.vs 1 tg_2 l_1) .no), (11, .val (.bool false) .no), (14, .val (.vs 1 tg_2 l_1) .no), (15, .val (.tuple [(.int .u64 x_3), (.int .i64 x_4), (.int .i64 x_5)]) .no)] H nx) =
 (br (pureL [(.vs 1 tg_2 l_1)]) ((cal 17 [(.vs 1 tg_2 l_1)] Hp.none 0).bind fun r1 => br (AV.pure r1.v)
 (midRun cal n 4 (goTo [0, 5, 0, 0, 5, 7, 5, 0, 5, 0] (bodyOf 4)) 2 (mkS 52 [(0, .val (.vs 1 tg_2 l_1) .no), (3, .val (.int .u64 x_3) .no), (4, .val (.int .i64 x_4) .no), (5, .val (.int .i64 x_5) .no), (20, .val (.vs 1 tg_2 l_1) .no), (21, .val r1.v .no)] H nx)) none) none) := by kernel_rfl

/-- fuel 11 -/
theorem s4_3 (cal : Oracle) (n : Nat) (H : Hp) (nx : Nat) (l_1 : List AV) (tg_2 : Bool) (x_3 : Int) (x_4 : Int) (x_5 : Int) (x_6 : Int) (x_7 : Int) (x_8 : Int) : midRun cal (n + 11) 4 (goTo [0, 5, 0, 0, 5, 7, 5, 0, 5, 0] (bodyOf 4)) 2 (mkS 52 [(0, .val (.vs 1 tg_2 l_1) .no), (3, .val (.int .u64 x_3) .no), (4, .val (.int .i64 x_4) .no), (5, .val (.int .i64 x_5) .no), (20, .val (.vs 1 tg_2 l_1) .no), (21, .val (.tuple [(.int .u64 x_6), (.int .i64 x_7), (.int .i64 x_8)]) .no)] H nx) =
 (br (!(decide (x_3 = x_6)))
 (some ⟨(.bool false), H, nx⟩)
 (br (!(decide (x_4 = x_7)))
 (some ⟨(.bool false), H, nx⟩)
 (br (!(decide (x_5 = x_8)))
 (some ⟨(.bool false), H, nx⟩)
 (br (!(decide (x_5 = (0))))
 (br (pureL []) ((cal 13 [] Hp.none 0).bind fun r1 => br (AV.pure r1.v)
 (midRun cal n 4 (goTo [0, 5, 0, 0, 5, 7, 5, 0, 5, 0, 5, 0, 0, 5, 7, 5, 0, 0, 5, 6, 0] (bodyOf 4)) 1 (mkS 52 [(0, .val (.vs 1 tg_2 l_1) .no), (3, .val (.int .u64 x_3) .no), (4, .val (.int .i64 x_4) .no), (39, .val (.bool true) .no), (40, .val r1.v .no)] H nx)) none) none)
 (run Try.prog ann cal n 4 (goTo [0, 5, 0, 0, 5, 7, 5, 0, 5, 0, 5, 0, 0, 5, 7, 5, 0, 0, 5, 7, 5, 0] (bodyOf 4)) (mkS 52 [(0, .val (.vs 1 tg_2 l_1) .no), (3, .val (.int .u64 x_3) .no), (4, .val (.int .i64 x_4) .no), (39, .val (.bool false) .no)] H nx)))))) := by kernel_rfl

/-- fuel 1 -/
theorem s4_4 (cal : Oracle) (n : Nat) (H : Hp) (nx : Nat) (l_1 : List AV) (tg_2 : Bool) (x_3 : Int) (x_4 : Int) : midRun cal (n + 1) 4 (goTo [0, 5, 0, 0, 5, 7, 5, 0, 5, 0, 5, 0, 0, 5, 7, 5, 0, 0, 5, 6, 0] (bodyOf 4)) 1 (mkS 52 [(0, .val (.vs 1 tg_2 l_1) .no), (3, .val (.int .u64 x_3) .no), (4, .val (.int .i64 x_4) .no), (39, .val (.bool true) .no), (40, .val (.bool true) .no)] H nx) =
 (some ⟨(.bool true), H, nx⟩) := by kernel_rfl

theorem d4_0 (cal : Oracle) (n : Nat) (H : Hp) (nx : Nat) (l_1 : List AV) (tg_2 : Bool) (x_3 : Int) (x_4 : Int) (l_9 : List AV) (s_10 : List UInt8) (l_11 : List AV) (s_12 : List UInt8) (h1 : cal 14 [(.vs 1 true []), (.int .u64 x_3)] Hp.none 0 = some ⟨(.vs 1 false l_9), Hp.none, 0⟩)
  (h2 : pureL [(.vs 1 true []), (.int .u64 x_3)] = true)
  (h3 : (AV.pure (.vs 1 false l_9)) = true)
  (h4 : bytesOf l_9 = some s_10)
  (h5 : vAt cal 4 (goTo [0, 5, 0, 0, 5, 7, 5, 0, 5, 0, 5, 0, 0, 5, 7, 5, 0, 0, 5, 7, 5, 0] (bodyOf 4)) 5 (mkS 52 [(0, .val (.vs 1 tg_2 l_1) .no), (3, .val (.int .u64 x_3) .no), (4, .val (.int .i64 x_4) .no), (39, .val (.bool false) .no), (41, .val (.int .u64 x_3) .no), (42, .val (.vs 1 false l_9) .no), (43, .val (.str s_10) .no), (44, .val (.vs 1 tg_2 l_1) .no), (45, .val (.int .i64 x_4) .no)] H nx) = some (.vs 1 false l_11))
  (h6 : bytesOf l_11 = some s_12)
  (h7 : (eqS s_10 s_12) = true)
  (h8 : cal 13 [] Hp.none 0 = some ⟨(.bool true), Hp.none, 0⟩)
  (h9 : pureL [] = true)
  (h10 : (AV.pure (.bool true)) = true) : midRun cal n 4 (goTo [0, 5, 0, 0, 5, 7, 5, 0, 5, 0, 5, 0, 0, 5, 7, 5, 0, 0, 5, 7, 5, 0] (bodyOf 4)) 0 (mkS 52 [(0, .val (.vs 1 tg_2 l_1) .no), (3, .val (.int .u64 x_3) .no), (4, .val (.int .i64 x_4) .no), (39, .val (.bool false) .no)] H nx) = midRun cal n 4 (goTo [0, 5, 0, 0, 5, 7, 5, 0, 5, 0, 5, 0, 0, 5, 7, 5, 0, 0, 5, 7, 5, 0] (bodyOf 4)) 11 (mkS 52 [(0, .val (.vs 1 tg_2 l_1) .no), (3, .val (.int .u64 x_3) .no), (4, .val (.int .i64 x_4) .no), (39, .val (.bool false) .no), (41, .val (.int .u64 x_3) .no), (42, .val (.vs 1 false l_9) .no), (43, .val (.str s_10) .no), (44, .val (.vs 1 tg_2 l_1) .no), (45, .val (.int .i64 x_4) .no), (46, .val (.vs 1 false l_11) .no), (47, .val (.str s_12) .no), (48, .val (.bool true) .no), (49, .val (.bool true) .no), (50, .val (.bool true) .no), (51, .val (.bool true) .no)] H nx) :=
  (mid_val (e := 41) (v := (.int .u64 x_3)) (S' := (mkS 52 [(0, .val (.vs 1 tg_2 l_1) .no), (3, .val (.int .u64 x_3) .no), (4, .val (.int .i64 x_4) .no), (39, .val (.bool false) .no), (41, .val (.int .u64 x_3) .no)] H nx)) (by kernel_rfl) (by kernel_rfl) (by kernel_rfl)).trans <|
  (mid_val (e := 42) (v := (.vs 1 false l_9)) (S' := (mkS 52 [(0, .val (.vs 1 tg_2 l_1) .no), (3, .val (.int .u64 x_3) .no), (4, .val (.int .i64 x_4) .no), (39, .val (.bool false) .no), (41, .val (.int .u64 x_3) .no), (42, .val (.vs 1 false l_9) .no)] H nx)) (by kernel_rfl) (vAt_callOf (g := 14) (d := 42) (L := [(.vs 1 true []), (.int .u64 x_3)]) (by kernel_rfl) (by kernel_rfl) (by kernel_rfl) h2 h1 h3) (by kernel_rfl)).trans <|
  (mid_val (e := 43) (v := (.str s_10)) (S' := (mkS 52 [(0, .val (.vs 1 tg_2 l_1) .no), (3, .val (.int .u64 x_3) .no), (4, .val (.int .i64 x_4) .no), (39, .val (.bool false) .no), (41, .val (.int .u64 x_3) .no), (42, .val (.vs 1 false l_9) .no), (43, .val (.str s_10) .no)] H nx)) (by kernel_rfl) (vAt_convOf (d := 43) (L := l_9) (by kernel_rfl) (by kernel_rfl) h4) (by kernel_rfl)).trans <|
  (mid_val (e := 44) (v := (.vs 1 tg_2 l_1)) (S' := (mkS 52 [(0, .val (.vs 1 tg_2 l_1) .no), (3, .val (.int .u64 x_3) .no), (4, .val (.int .i64 x_4) .no), (39, .val (.bool false) .no), (41, .val (.int .u64 x_3) .no), (42, .val (.vs 1 false l_9) .no), (43, .val (.str s_10) .no), (44, .val (.vs 1 tg_2 l_1) .no)] H nx)) (by kernel_rfl) (by kernel_rfl) (by kernel_rfl)).trans <|
  (mid_val (e := 45) (v := (.int .i64 x_4)) (S' := (mkS 52 [(0, .val (.vs 1 tg_2 l_1) .no), (3, .val (.int .u64 x_3) .no), (4, .val (.int .i64 x_4) .no), (39, .val (.bool false) .no), (41, .val (.int .u64 x_3) .no), (42, .val (.vs 1 false l_9) .no), (43, .val (.str s_10) .no), (44, .val (.vs 1 tg_2 l_1) .no), (45, .val (.int .i64 x_4) .no)] H nx)) (by kernel_rfl) (by kernel_rfl) (by kernel_rfl)).trans <|
  (mid_val (e := 46) (v := (.vs 1 false l_11)) (S' := (mkS 52 [(0, .val (.vs 1 tg_2 l_1) .no), (3, .val (.int .u64 x_3) .no), (4, .val (.int .i64 x_4) .no), (39, .val (.bool false) .no), (41, .val (.int .u64 x_3) .no), (42, .val (.vs 1 false l_9) .no), (43, .val (.str s_10) .no), (44, .val (.vs 1 tg_2 l_1) .no), (45, .val (.int .i64 x_4) .no), (46, .val (.vs 1 false l_11) .no)] H nx)) (by kernel_rfl) h5 (by kernel_rfl)).trans <|
  (mid_val (e := 47) (v := (.str s_12)) (S' := (mkS 52 [(0, .val (.vs 1 tg_2 l_1) .no), (3, .val (.int .u64 x_3) .no), (4, .val (.int .i64 x_4) .no), (39, .val (.bool false) .no), (41, .val (.int .u64 x_3) .no), (42, .val (.vs 1 false l_9) .no), (43, .val (.str s_10) .no), (44, .val (.vs 1 tg_2 l_1) .no), (45, .val (.int .i64 x_4) .no), (46, .val (.vs 1 false l_11) .no), (47, .val (.str s_12) .no)] H nx)) (by kernel_rfl) (vAt_convOf (d := 47) (L := l_11) (by kernel_rfl) (by kernel_rfl) h6) (by kernel_rfl)).trans <|
  (mid_val (e := 48) (v := (.bool true)) (S' := (mkS 52 [(0, .val (.vs 1 tg_2 l_1) .no), (3, .val (.int .u64 x_3) .no), (4, .val (.int .i64 x_4) .no), (39, .val (.bool false) .no), (41, .val (.int .u64 x_3) .no), (42, .val (.vs 1 false l_9) .no), (43, .val (.str s_10) .no), (44, .val (.vs 1 tg_2 l_1) .no), (45, .val (.int .i64 x_4) .no), (46, .val (.vs 1 false l_11) .no), (47, .val (.str s_12) .no), (48, .val (.bool true) .no)] H nx)) (by kernel_rfl) ((show vAt cal 4 (goTo [0, 5, 0, 0, 5, 7, 5, 0, 5, 0, 5, 0, 0, 5, 7, 5, 0, 0, 5, 7, 5, 0] (bodyOf 4)) 7 (mkS 52 [(0, .val (.vs 1 tg_2 l_1) .no), (3, .val (.int .u64 x_3) .no), (4, .val (.int .i64 x_4) .no), (39, .val (.bool false) .no), (41, .val (.int .u64 x_3) .no), (42, .val (.vs 1 false l_9) .no), (43, .val (.str s_10) .no), (44, .val (.vs 1 tg_2 l_1) .no), (45, .val (.int .i64 x_4) .no), (46, .val (.vs 1 false l_11) .no), (47, .val (.str s_12) .no)] H nx) = some (.bool (eqS s_10 s_12)) by kernel_rfl).trans (by rw [h7])) (by kernel_rfl)).trans <|
  (mid_val (e := 49) (v := (.bool true)) (S' := (mkS 52 [(0, .val (.vs 1 tg_2 l_1) .no), (3, .val (.int .u64 x_3) .no), (4, .val (.int .i64 x_4) .no), (39, .val (.bool false) .no), (41, .val (.int .u64 x_3) .no), (42, .val (.vs 1 false l_9) .no), (43, .val (.str s_10) .no), (44, .val (.vs 1 tg_2 l_1) .no), (45, .val (.int .i64 x_4) .no), (46, .val (.vs 1 false l_11) .no), (47, .val (.str s_12) .no), (48, .val (.bool true) .no), (49, .val (.bool true) .no)] H nx)) (by kernel_rfl) (by kernel_rfl) (by kernel_rfl)).trans <|
  (mid_yes2 (e := 50) (d := 49) (w := true) (v := (.bool true)) (S' := (mkS 52 [(0, .val (.vs 1 tg_2 l_1) .no), (3, .val (.int .u64 x_3) .no), (4, .val (.int .i64 x_4) .no), (39, .val (.bool false) .no), (41, .val (.int .u64 x_3) .no), (42, .val (.vs 1 false l_9) .no), (43, .val (.str s_10) .no), (44, .val (.vs 1 tg_2 l_1) .no), (45, .val (.int .i64 x_4) .no), (46, .val (.vs 1 false l_11) .no), (47, .val (.str s_12) .no), (48, .val (.bool true) .no), (49, .val (.bool true) .no), (50, .val (.bool true) .no)] H nx)) (by kernel_rfl) (by kernel_rfl) (by kernel_rfl) (vAt_callOf (g := 13) (d := 50) (L := []) (by kernel_rfl) (by kernel_rfl) (by kernel_rfl) h9 h8 h10) (by kernel_rfl)).trans <|
  (mid_val (e := 51) (v := (.bool true)) (S' := (mkS 52 [(0, .val (.vs 1 tg_2 l_1) .no), (3, .val (.int .u64 x_3) .no), (4, .val (.int .i64 x_4) .no), (39, .val (.bool false) .no), (41, .val (.int .u64 x_3) .no), (42, .val (.vs 1 false l_9) .no), (43, .val (.str s_10) .no), (44, .val (.vs 1 tg_2 l_1) .no), (45, .val (.int .i64 x_4) .no), (46, .val (.vs 1 false l_11) .no), (47, .val (.str s_12) .no), (48, .val (.bool true) .no), (49, .val (.bool true) .no), (50, .val (.bool true) .no), (51, .val (.bool true) .no)] H nx)) (by kernel_rfl) (by kernel_rfl) (by kernel_rfl))

/-- fuel 1 -/
theorem e4_0 (cal : Oracle) (n : Nat) (H : Hp) (nx : Nat) (l_1 : List AV) (tg_2 : Bool) (x_3 : Int) (x_4 : Int) (l_9 : List AV) (s_10 : List UInt8) (l_11 : List AV) (s_12 : List UInt8) : midRun cal (n + 1) 4 (goTo [0, 5, 0, 0, 5, 7, 5, 0, 5, 0, 5, 0, 0, 5, 7, 5, 0, 0, 5, 7, 5, 0] (bodyOf 4)) 11 (mkS 52 [(0, .val (.vs 1 tg_2 l_1) .no), (3, .val (.int .u64 x_3) .no), (4, .val (.int .i64 x_4) .no), (39, .val (.bool false) .no), (41, .val (.int .u64 x_3) .no), (42, .val (.vs 1 false l_9) .no), (43, .val (.str s_10) .no), (44, .val (.vs 1 tg_2 l_1) .no), (45, .val (.int .i64 x_4) .no), (46, .val (.vs 1 false l_11) .no), (47, .val (.str s_12) .no), (48, .val (.bool true) .no), (49, .val (.bool true) .no), (50, .val (.bool true) .no), (51, .val (.bool true) .no)] H nx) =
 (br (pureL [(.int .u64 x_3), (.int .u64 x_3), (.int .u64 x_3), (.vs 1 false l_9), (.vs 1 false l_9), (.str s_10), (.vs 1 tg_2 l_1), (.vs 1 tg_2 l_1), (.int .i64 x_4), (.int .i64 x_4), (.vs 1 tg_2 l_1), (.int .i64 x_4), (.vs 1 false l_11), (.vs 1 false l_11), (.str s_12), (.str s_10), (.str s_12), (.bool true), (.bool true), (.bool true), (.bool true), (.bool true), (.bool true), (.bool true), (.bool true)])
 (some ⟨(.bool true), H, nx⟩)
 none) := by kernel_rfl

theorem r4_0 (cal : Oracle) (n : Nat) (H : Hp) (nx : Nat) (l_1 : List AV) (tg_2 : Bool) (x_3 : Int) (x_4 : Int) (l_9 : List AV) (s_10 : List UInt8) (l_11 : List AV) (s_12 : List UInt8) (h1 : cal 14 [(.vs 1 true []), (.int .u64 x_3)] Hp.none 0 = some ⟨(.vs 1 false l_9), Hp.none, 0⟩)
  (h2 : pureL [(.vs 1 true []), (.int .u64 x_3)] = true)
  (h3 : (AV.pure (.vs 1 false l_9)) = true)
  (h4 : bytesOf l_9 = some s_10)
  (h5 : vAt cal 4 (goTo [0, 5, 0, 0, 5, 7, 5, 0, 5, 0, 5, 0, 0, 5, 7, 5, 0, 0, 5, 7, 5, 0] (bodyOf 4)) 5 (mkS 52 [(0, .val (.vs 1 tg_2 l_1) .no), (3, .val (.int .u64 x_3) .no), (4, .val (.int .i64 x_4) .no), (39, .val (.bool false) .no), (41, .val (.int .u64 x_3) .no), (42, .val (.vs 1 false l_9) .no), (43, .val (.str s_10) .no), (44, .val (.vs 1 tg_2 l_1) .no), (45, .val (.int .i64 x_4) .no)] H nx) = some (.vs 1 false l_11))
  (h6 : bytesOf l_11 = some s_12)
  (h7 : (eqS s_10 s_12) = true)
  (h8 : cal 13 [] Hp.none 0 = some ⟨(.bool true), Hp.none, 0⟩)
  (h9 : pureL [] = true)
  (h10 : (AV.pure (.bool true)) = true)
  (hp : pureL [(.int .u64 x_3), (.int .u64 x_3), (.int .u64 x_3), (.vs 1 false l_9), (.vs 1 false l_9), (.str s_10), (.vs 1 tg_2 l_1), (.vs 1 tg_2 l_1), (.int .i64 x_4), (.int .i64 x_4), (.vs 1 tg_2 l_1), (.int .i64 x_4), (.vs 1 false l_11), (.vs 1 false l_11), (.str s_12), (.str s_10), (.str s_12), (.bool true), (.bool true), (.bool true), (.bool true), (.bool true), (.bool true), (.bool true), (.bool true)] = true) : run Try.prog ann cal (n + 2) 4 (goTo [0, 5, 0, 0, 5, 7, 5, 0, 5, 0, 5, 0, 0, 5, 7, 5, 0, 0, 5, 7, 5, 0] (bodyOf 4)) (mkS 52 [(0, .val (.vs 1 tg_2 l_1) .no), (3, .val (.int .u64 x_3) .no), (4, .val (.int .i64 x_4) .no), (39, .val (.bool false) .no)] H nx) = some ⟨.bool true, H, nx⟩ :=
  (run_draw (by kernel_rfl)).trans <| (d4_0 cal (n + 1) H nx l_1 tg_2 x_3 x_4 l_9 s_10 l_11 s_12 h1 h2 h3 h4 h5 h6 h7 h8 h9 h10).trans <| (e4_0 cal n H nx l_1 tg_2 x_3 x_4 l_9 s_10 l_11 s_12).trans (br_t' hp)

end Go.Proofs.Ytfdijfnmloddcaa
