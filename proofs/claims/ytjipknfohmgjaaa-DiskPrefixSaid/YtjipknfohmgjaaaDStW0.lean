/- Stage laws, printed by gen_disk.py. -/
import Derived.Test.YtjipknfohmgjaaaDHp
namespace Go.Proofs.Ytjipknfohmgjaaa
open Go Go.Vai
attribute [local irreducible] midRun goTo bodyOf mkS

/-- fuel 4 -/
theorem d0_22_0 (cal : Oracle) (n : Nat) (T : Hp) (nx : Nat) (n_1 : Nat) (tg_2 : Bool) (q_3 : List AV) (ar_4 : Bool) (lf_5 : Int) (dn_6 : Bool) (D_7 : List AV) (C_8 : List AV) : run Try.prog ann cal (n + 4) 22 (bodyOf 22) (mkS 15 [(0, .val (.ptr 0 0) .no)] [] (hdk 0 n_1 tg_2 q_3 ar_4 lf_5 dn_6 D_7 C_8 T) nx) =
 ((cal 12 [(.ptr 0 0)] (hdk 0 n_1 tg_2 q_3 ar_4 lf_5 dn_6 D_7 C_8 T) nx).bind fun r1 =>
 (midRun cal n 22 (goTo [0, 5, 0] (bodyOf 22)) 3 (mkS 15 [(0, .val (.ptr 0 0) .no), (6, .val (.ptr 0 0) .no), (7, .val (.ptr 0 0) .no), (8, .val r1.v .no)] [] r1.H r1.nx))) := by kernel_rfl

/-- fuel 0 -/
theorem d0_22_1 (cal : Oracle) (n : Nat) (T : Hp) (nx : Nat) (n_1 : Nat) (tg_2 : Bool) (q_3 : List AV) (ar_4 : Bool) (lf_5 : Int) (dn_6 : Bool) (D_7 : List AV) (C_8 : List AV) (x_9 : Int) : midRun cal n 22 (goTo [0, 5, 0] (bodyOf 22)) 3 (mkS 15 [(0, .val (.ptr 0 0) .no), (6, .val (.ptr 0 0) .no), (7, .val (.ptr 0 0) .no), (8, .val (.int .i64 x_9) .no)] [] (hdk 0 n_1 tg_2 q_3 ar_4 lf_5 dn_6 D_7 C_8 T) nx) =
 ((cal 13 [(.ptr 0 0), (.int .i64 (0)), (.int .i64 (IntKind.wrap IntKind.i64 (x_9 * (32))))] (hdk 0 n_1 tg_2 q_3 ar_4 lf_5 dn_6 D_7 C_8 T) nx).bind fun r2 =>
 (midRun cal n 22 (goTo [0, 5, 0] (bodyOf 22)) 5 (mkS 15 [(0, .val (.ptr 0 0) .no), (6, .val (.ptr 0 0) .no), (7, .val (.ptr 0 0) .no), (8, .val (.int .i64 x_9) .no), (9, .val (.int .i64 (IntKind.wrap IntKind.i64 (x_9 * (32)))) .no), (10, .val r2.v .no)] [] r2.H r2.nx))) := by kernel_rfl

/-- fuel 3 -/
theorem d0_22_2 (cal : Oracle) (n : Nat) (T : Hp) (nx : Nat) (n_1 : Nat) (tg_2 : Bool) (q_3 : List AV) (ar_4 : Bool) (lf_5 : Int) (dn_6 : Bool) (D_7 : List AV) (C_8 : List AV) (x_9 : Int) (l_10 : List AV) (tg_11 : Bool) (x_12 : Int) : midRun cal (n + 3) 22 (goTo [0, 5, 0] (bodyOf 22)) 5 (mkS 15 [(0, .val (.ptr 0 0) .no), (6, .val (.ptr 0 0) .no), (7, .val (.ptr 0 0) .no), (8, .val (.int .i64 x_9) .no), (9, .val (.int .i64 (IntKind.wrap IntKind.i64 (x_9 * (32)))) .no), (10, .val (.tuple [(.vs 1 tg_11 l_10), (.int .i64 x_12)]) .no)] [] (hdk 0 n_1 tg_2 q_3 ar_4 lf_5 dn_6 D_7 C_8 T) nx) =
 ((bytesOf l_10).bind fun s3 =>
 (some ⟨(.str s3), (hdk 0 n_1 tg_2 q_3 ar_4 lf_5 dn_6 D_7 C_8 T), nx⟩)) := by kernel_rfl

end Go.Proofs.Ytjipknfohmgjaaa
