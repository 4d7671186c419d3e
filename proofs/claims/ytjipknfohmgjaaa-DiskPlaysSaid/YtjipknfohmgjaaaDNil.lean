/- DiskNil: what the law computes is true. -/
import Derived.Test.YtjipknfohmgjaaaDTool
import Derived.Test.YtjipknfohmgjaaaDNilSt
namespace Go.Proofs.Ytjipknfohmgjaaa
open Go Go.Vai

attribute [local irreducible] midRun goTo bodyOf mkS run

theorem n12 (d : Nat) (H : Hp) (nx : Nat) : CW (d + 1) 12 [.nilp] H nx = some ⟨.int .i64 0, H, nx⟩ :=
  cw rfl (Ev.stage 9 (fun n => z12_0 _ n H nx) EvF.ret) (fun n => by kernel_rfl)
theorem n14 (d : Nat) (H : Hp) (nx : Nat) : CW (d + 1) 14 [.nilp] H nx = some ⟨.bool false, H, nx⟩ :=
  cw rfl (Ev.stage 5 (fun n => z14_0 _ n H nx) EvF.ret) (fun n => by kernel_rfl)
theorem n15 (d : Nat) (H : Hp) (nx : Nat) : CW (d + 1) 15 [.nilp] H nx = some ⟨.int .i64 0, H, nx⟩ :=
  cw rfl (Ev.stage 9 (fun n => z15_0 _ n H nx) EvF.ret) (fun n => by kernel_rfl)
theorem n28 (d : Nat) (H : Hp) (nx : Nat) (x y : Int) : CW (d + 1) 28 [.nilp, .int .i64 x, .int .i64 y] H nx = some ⟨.int .i64 17, H, nx⟩ :=
  cw rfl (Ev.stage 10 (fun n => z28_0 _ n H nx x y) EvF.ret) (fun n => by kernel_rfl)
theorem n27 (d : Nat) (H : Hp) (nx : Nat) (x : Int) : CW (d + 1) 27 [.nilp, .int .i64 x] H nx = some ⟨.tuple [], H, nx⟩ :=
  cw rfl (Ev.stage 5 (fun n => z27_0 _ n H nx x) EvF.ret) (fun n => by kernel_rfl)
theorem n21 (d : Nat) (H : Hp) (nx : Nat) (x y : Int) : CW (d + 1) 21 [.nilp, .agg [.int .i64 x, .int .i64 y]] H nx = some ⟨.tuple [], H, nx⟩ :=
  cw rfl (Ev.stage 7 (fun n => z21_0 _ n H nx x y) EvF.ret) (fun n => by kernel_rfl)
theorem n13 (d : Nat) (H : Hp) (nx : Nat) (x y : Int) : CW (d + 2) 13 [.nilp, .int .i64 x, .int .i64 y] H nx = some ⟨.tuple [.vs 1 true [], .int .i64 17], H, nx⟩ :=
  cw rfl (Ev.stage 5 (fun n => z13_0 _ n H nx x y) (EvF.call (n28 _ _ _ _ _) (EvF.mid 6 (fun n => z13_1 _ n _ _ x y 17) (EvF.bnt (by decide) EvF.ret) 0))) (fun n => by kernel_rfl)
theorem n19 (d : Nat) (H : Hp) (nx : Nat) (x : Int) (l : List AV) (tg : Bool) : CW (d + 2) 19 [.nilp, .int .i64 x, .vs 1 tg l] H nx = some ⟨.int .i64 17, H, nx⟩ :=
  cw rfl (Ev.stage 5 (fun n => z19_0 _ n H nx x l tg) (EvF.call (n28 _ _ _ _ _) (EvF.mid 7 (fun n => z19_1 _ n H nx x l tg 17) (EvF.bnt (by decide) EvF.ret) 0))) (fun n => by kernel_rfl)
theorem n20 (d : Nat) (H : Hp) (nx : Nat) : CW (d + 2) 20 [.nilp] H nx = some ⟨.int .i64 17, H, nx⟩ :=
  cw rfl (Ev.stage 5 (fun n => z20_0 _ n H nx) (EvF.call (n28 _ _ _ _ _) (EvF.mid 7 (fun n => z20_1 _ n _ _ 17) (EvF.bnt (by decide) EvF.ret) 0))) (fun n => by kernel_rfl)
/-- few -/
theorem n17 (d : Nat) (H : Hp) (nx : Nat) (l : List UInt8) (tg : Bool) (k : Nat) : CW (d + 1) 17 [.vs 1 tg (l.map byteAV), .int .i64 (k : Int)] H nx = some ⟨.vs 1 false ((l.take k).map byteAV), H, nx⟩ := by
  refine cw rfl (Ev.stage 5 (fun n => z17_0 _ n H nx (l.map byteAV) tg (k : Int)) ?_) (fun n => by kernel_rfl)
  rw [List.length_map]
  have e : (if (k : Int) < (l.length : Int) then (k : Int) else (l.length : Int)) = ((min k l.length : Nat) : Int) := by split <;> omega
  rw [e]
  refine EvF.bdt (by omega) (EvF.bdt (by omega) (EvF.ret' ?_))
  rw [List.drop_zero, Int.toNat_natCast, List.map_take]
  congr 2
  exact (List.take_eq_take_iff.2 (by simp))

theorem c10 (x : Int) (_ : -9223372036854775808 ≤ x ∧ x ≤ 9223372036854775807) (y : Int) (_ : -9223372036854775808 ≤ y ∧ y ≤ 9223372036854775807) (l : List UInt8) (tg : Bool) (_ : l.length ≤ 140737488351232) :
    ∃ d H nx, CW d 10 [.int .i64 x, .int .i64 y, .vs 1 tg (l.map byteAV)] Hp.none 0 = some ⟨.bool true, H, nx⟩ := by
  refine ⟨3, Hp.none, 0, ?_⟩

  obtain ⟨o, ho, haw⟩ := cw_awake 2
  refine cw rfl (Ev.stage 6 (fun n => z10_0 _ n Hp.none 0 x y (l.map byteAV) tg) ?_) (fun n => by kernel_rfl)
  refine EvF.call (n13 0 _ _ _ _) (EvF.mid 2 (fun n => z10_1 _ n Hp.none 0 x y (l.map byteAV) tg _ _ 17) ?_ 0)
  refine EvF.brt (pureL_vs (pure_bytes _) rfl) (EvF.call (n17 1 _ _ l tg 40) (EvF.brt (pure_bytes _) (EvF.mid 0 (fun n => z10_2 _ n Hp.none 0 x y (l.map byteAV) tg 17 _ _) ?_ 0)))
  refine EvF.call (n19 0 _ _ _ _ _) (EvF.mid 0 (fun n => z10_3 _ n Hp.none 0 x y (l.map byteAV) tg 17 _ _ 17) ?_ 0)
  refine EvF.call (n20 0 _ _) (EvF.mid 2 (fun n => z10_4 _ n Hp.none 0 x y (l.map byteAV) tg 17 _ _ 17 17) ?_ 0)
  refine EvF.call (n27 1 _ _ _) (EvF.mid 2 (fun n => z10_5 _ n Hp.none 0 x y 17 17 17) ?_ 0)
  refine EvF.call (n21 1 _ _ _ _) (EvF.mid 3 (fun n => z10_6 _ n Hp.none 0 x y 17 17 17) ?_ 0)
  refine EvF.bdt (by decide) (EvF.bdt (by decide) (EvF.bdt (by decide) (EvF.call (n12 1 _ _) (EvF.mid 1 (fun n => z10_7 _ n Hp.none 0 17 17 17 0) ?_ 1))))
  refine EvF.bdt (by decide) (EvF.call (n15 1 _ _) (EvF.mid 1 (fun n => z10_8 _ n Hp.none 0 17 17 17 0 0) ?_ 1))
  refine EvF.bdt (by decide) (EvF.call (n14 1 _ _) (EvF.mid 1 (fun n => z10_9 _ n Hp.none 0 17 17 17 0 0 false) ?_ 1))
  refine EvF.brt rfl (EvF.brt rfl (EvF.call haw (EvF.brt (by rw [ho]; rfl) ?_)))
  rw [ho]
  exact EvF.mid 1 (fun n => z10_10 _ n Hp.none 0 17 17 17 0 0 false) EvF.ret 1

end Go.Proofs.Ytjipknfohmgjaaa
