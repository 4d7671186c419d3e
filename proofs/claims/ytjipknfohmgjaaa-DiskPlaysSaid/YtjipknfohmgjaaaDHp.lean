/- A disk in memory: its three blocks; the bytes that its queue stands for. -/
import Derived.Test.YtjipknfohmgjaaaDPre
namespace Go.Proofs.Ytjipknfohmgjaaa
open Go Go.Vai

/-- the blocks of a disk at the base b -/
def hdk (b n : Nat) (tg : Bool) (q : List AV) (ar : Bool) (lf : Int) (dn : Bool) (D C : List AV) (T : Hp) : Hp :=
  ((b, ⟨[.arr (b + 1) 0 n 1, .arr (b + 3) 0 n 1, .vs 2 tg q, .bool ar, .int .i64 lf, .bool dn], [2]⟩) :: (b + 1, ⟨D, []⟩) :: (b + 3, ⟨C, []⟩) :: (T : List (Nat × Blk)) : List (Nat × Blk))
/-- another disk before it -/
def pre (Z : Blk × Blk × Blk) (T : Hp) : Hp := ((0, Z.1) :: (1, Z.2.1) :: (3, Z.2.2) :: (T : List (Nat × Blk)) : List (Nat × Blk))
/-- a block of bytes before it -/
def pre1 (W : List AV) (T : Hp) : Hp := ((0, ⟨W, []⟩) :: (T : List (Nat × Blk)) : List (Nat × Blk))

end Go.Proofs.Ytjipknfohmgjaaa
