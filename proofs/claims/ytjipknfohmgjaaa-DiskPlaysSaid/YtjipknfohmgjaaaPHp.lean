/- The reference disk in memory, behind a disk. -/
import Derived.Test.YtjipknfohmgjaaaDHp
namespace Go.Proofs.Ytjipknfohmgjaaa
open Go Go.Vai

/-- the blocks of the reference disk -/
def hrf (n : Nat) (tg : Bool) (q : List AV) (off ar : Bool) (ct : Int) (D : List AV) (T : Hp) : Hp :=
  ((8, ⟨[.arr 9 0 n 1, .vs 2 tg q, .bool off, .bool ar, .int .i64 ct], [1]⟩) :: (9, ⟨D, []⟩) :: (T : List (Nat × Blk)) : List (Nat × Blk))

end Go.Proofs.Ytjipknfohmgjaaa
