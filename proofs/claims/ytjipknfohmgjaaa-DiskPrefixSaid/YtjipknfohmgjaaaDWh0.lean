/- Whole: all bytes of a disk at the base 0. -/
import Derived.Test.YtjipknfohmgjaaaDSp0
import Derived.Test.YtjipknfohmgjaaaDStW0
namespace Go.Proofs.Ytjipknfohmgjaaa
open Go Go.Vai

attribute [local irreducible] midRun goTo bodyOf mkS run

theorem s0_22 (d : Nat) (T : Hp) (nx : Nat) (k : Dk) (ok : k.Ok) (s : Nat) (hs : k.n = s * 32) (hdn : k.dn = false) : CW (d + 3) 22 [.ptr 0 0] ((k).hp 0 T) nx = some ⟨.str k.C, ((k).hp 0 T), nx⟩ := by
  have hn := ok.n
  have hc := ok.c
  refine cw rfl (Ev.stage 4 (fun n => d0_22_0 _ n T nx k.n k.tg (k.q.map qAV) k.ar k.lf k.dn (k.D.map byteAV) (k.C.map byteAV)) ?_) (fun n => by kernel_rfl)
  refine EvF.call (s0_12 (d + 1) T nx k) ?_
  have e : IntKind.wrap IntKind.i64 (Int.tdiv (k.n : Int) 32) = (s : Int) := by rw [Int.tdiv_eq_ediv_of_nonneg (by omega), wrap64 (by omega) (by omega)]; omega
  rw [e]
  refine EvF.mid 0 (fun n => d0_22_1 _ n T nx k.n k.tg (k.q.map qAV) k.ar k.lf k.dn (k.D.map byteAV) (k.C.map byteAV) (s : Int)) ?_ 0
  have e2 : IntKind.wrap IntKind.i64 ((s : Int) * 32) = (k.n : Int) := by rw [wrap64 (by omega) (by omega)]; omega
  rw [e2]
  have h := s0_13 d T nx k ok 0 k.n hdn (by omega)
  rw [List.drop_zero, List.take_of_length_le (by omega)] at h
  refine EvF.call h ?_
  rw [← e2]
  exact EvF.mid 3 (fun n => d0_22_2 _ n T nx k.n k.tg (k.q.map qAV) k.ar k.lf k.dn (k.D.map byteAV) (k.C.map byteAV) (s : Int) _ _ _) (EvF.bnd (bytesOf_map _) EvF.ret) 0

end Go.Proofs.Ytjipknfohmgjaaa
