/-
  No cell of these rows narrows 'for every input' (looked for: loops, veiled, ifaces, maps, wideKeys, modest, calm, conditions, laid).
  DERIVED. THE GIVEN ROWS OF THIS SEAT. 8 by the template 'for every input the law returns true; each argument reads behind the call as it read before'; 0 by the template 'total and deterministic' (their statements: YtjipknfohmgjaaaTotals.lean).
  GIVEN WITH THE SEED: the statements are not yours to turn. If you find one false, say at which input.
  Laid BY PROGRAM, IN A SANDBOX (cutbox-rows.mjs): the forced cells as the released guide's own fill.sh prints them over the translation d59eb5510641c0bb… (all of the seat's roots in one cut). By AI agents, Wed Nov 11 2026. No macro, syntax, notation, axiom, sorry.
-/
import Derived.Test.YtjipknfohmgjaaaChecked
import GoSem.Claim
import GoSem.ClaimJoined
import GoSem.ClaimMapViews
import Derived.JoinedTies
import Derived.KernelRfl
namespace Go.Proofs.Ytjipknfohmgjaaa
/- THE CELL 'sum', in the pinned program and in every row, IS THE sha256 OF THE DUMP (.gsa) THAT YtjipknfohmgjaaaProg.lean LOADS. Nothing in Lean hashes anything: it is a label: what it is worth is what the hold of that sum in a sandbox is worth. -/
noncomputable def Try.pinned : Pinned := { name := "ytjipknfohmgjaaa", sum := "d59eb5510641c0bb8cccd6e57b619ba83de6bdf773ee8de28636db587d3ca0aa", checked := Try.checked }
namespace Rows
def none {H : Type} : Left H := { results := [], args := [] }

/-- 'elasticstorelaw24.DiskSizes': WHATEVER THE INPUT: true; the input reads as it did. -/
def diskSizesSpec : ChangeSpec := { name := "diskSizes", fn := fun _ => fun
  | [d] => { results := [.lit (.bool true)], args := [d] }
  | _ => none }
def diskSizesRow : OpenClaim := { program := "ytjipknfohmgjaaa", sum := "d59eb5510641c0bb8cccd6e57b619ba83de6bdf773ee8de28636db587d3ca0aa", func := "elasticstore/elasticstorelaw24.DiskSizes", spec := "diskSizes", apart := false }
def DiskSizesSaid : Prop := diskSizesRow.holds Try.pinned (OpenSpec.ofChange diskSizesSpec)

/-- ITS FALSE NEIGHBOUR: 'it returns false'. Refute it at one input. -/
def diskSizesWrong : ChangeSpec := { name := "diskSizes", fn := fun _ => fun
  | [d] => { results := [.lit (.bool false)], args := [d] }
  | _ => none }
def DiskSizesWrongFalsely : Prop := diskSizesRow.holds Try.pinned (OpenSpec.ofChange diskSizesWrong)

/-- 'elasticstorelaw24.DiskPrefix': WHATEVER THE INPUT: true; the input reads as it did. -/
def diskPrefixSpec : ChangeSpec := { name := "diskPrefix", fn := fun _ => fun
  | [d1, d2, d3, d4, d5] => { results := [.lit (.bool true)], args := [d1, d2, d3, d4, d5] }
  | _ => none }
def diskPrefixRow : OpenClaim := { program := "ytjipknfohmgjaaa", sum := "d59eb5510641c0bb8cccd6e57b619ba83de6bdf773ee8de28636db587d3ca0aa", func := "elasticstore/elasticstorelaw24.DiskPrefix", spec := "diskPrefix", apart := false }
def DiskPrefixSaid : Prop := diskPrefixRow.holds Try.pinned (OpenSpec.ofChange diskPrefixSpec)

/-- ITS FALSE NEIGHBOUR: 'it returns false'. Refute it at one input. -/
def diskPrefixWrong : ChangeSpec := { name := "diskPrefix", fn := fun _ => fun
  | [d1, d2, d3, d4, d5] => { results := [.lit (.bool false)], args := [d1, d2, d3, d4, d5] }
  | _ => none }
def DiskPrefixWrongFalsely : Prop := diskPrefixRow.holds Try.pinned (OpenSpec.ofChange diskPrefixWrong)

/-- 'elasticstorelaw24.DiskOwn': WHATEVER THE INPUT: true; the input reads as it did. -/
def diskOwnSpec : ChangeSpec := { name := "diskOwn", fn := fun _ => fun
  | [d1, d2, d3] => { results := [.lit (.bool true)], args := [d1, d2, d3] }
  | _ => none }
def diskOwnRow : OpenClaim := { program := "ytjipknfohmgjaaa", sum := "d59eb5510641c0bb8cccd6e57b619ba83de6bdf773ee8de28636db587d3ca0aa", func := "elasticstore/elasticstorelaw24.DiskOwn", spec := "diskOwn", apart := false }
def DiskOwnSaid : Prop := diskOwnRow.holds Try.pinned (OpenSpec.ofChange diskOwnSpec)

/-- ITS FALSE NEIGHBOUR: 'it returns false'. Refute it at one input. -/
def diskOwnWrong : ChangeSpec := { name := "diskOwn", fn := fun _ => fun
  | [d1, d2, d3] => { results := [.lit (.bool false)], args := [d1, d2, d3] }
  | _ => none }
def DiskOwnWrongFalsely : Prop := diskOwnRow.holds Try.pinned (OpenSpec.ofChange diskOwnWrong)

/-- 'elasticstorelaw24.DiskParts': WHATEVER THE INPUT: true; the input reads as it did. -/
def diskPartsSpec : ChangeSpec := { name := "diskParts", fn := fun _ => fun
  | [d1, d2, d3] => { results := [.lit (.bool true)], args := [d1, d2, d3] }
  | _ => none }
def diskPartsRow : OpenClaim := { program := "ytjipknfohmgjaaa", sum := "d59eb5510641c0bb8cccd6e57b619ba83de6bdf773ee8de28636db587d3ca0aa", func := "elasticstore/elasticstorelaw24.DiskParts", spec := "diskParts", apart := false }
def DiskPartsSaid : Prop := diskPartsRow.holds Try.pinned (OpenSpec.ofChange diskPartsSpec)

/-- ITS FALSE NEIGHBOUR: 'it returns false'. Refute it at one input. -/
def diskPartsWrong : ChangeSpec := { name := "diskParts", fn := fun _ => fun
  | [d1, d2, d3] => { results := [.lit (.bool false)], args := [d1, d2, d3] }
  | _ => none }
def DiskPartsWrongFalsely : Prop := diskPartsRow.holds Try.pinned (OpenSpec.ofChange diskPartsWrong)

/-- 'elasticstorelaw24.DiskPlays': WHATEVER THE INPUT: true; the input reads as it did. -/
def diskPlaysSpec : ChangeSpec := { name := "diskPlays", fn := fun _ => fun
  | [d1, d2] => { results := [.lit (.bool true)], args := [d1, d2] }
  | _ => none }
def diskPlaysRow : OpenClaim := { program := "ytjipknfohmgjaaa", sum := "d59eb5510641c0bb8cccd6e57b619ba83de6bdf773ee8de28636db587d3ca0aa", func := "elasticstore/elasticstorelaw24.DiskPlays", spec := "diskPlays", apart := false }
def DiskPlaysSaid : Prop := diskPlaysRow.holds Try.pinned (OpenSpec.ofChange diskPlaysSpec)

/-- ITS FALSE NEIGHBOUR: 'it returns false'. Refute it at one input. -/
def diskPlaysWrong : ChangeSpec := { name := "diskPlays", fn := fun _ => fun
  | [d1, d2] => { results := [.lit (.bool false)], args := [d1, d2] }
  | _ => none }
def DiskPlaysWrongFalsely : Prop := diskPlaysRow.holds Try.pinned (OpenSpec.ofChange diskPlaysWrong)

/-- 'elasticstorelaw24.DiskSynced': WHATEVER THE INPUT: true; the input reads as it did. -/
def diskSyncedSpec : ChangeSpec := { name := "diskSynced", fn := fun _ => fun
  | [d1, d2, d3, d4, d5, d6] => { results := [.lit (.bool true)], args := [d1, d2, d3, d4, d5, d6] }
  | _ => none }
def diskSyncedRow : OpenClaim := { program := "ytjipknfohmgjaaa", sum := "d59eb5510641c0bb8cccd6e57b619ba83de6bdf773ee8de28636db587d3ca0aa", func := "elasticstore/elasticstorelaw24.DiskSynced", spec := "diskSynced", apart := false }
def DiskSyncedSaid : Prop := diskSyncedRow.holds Try.pinned (OpenSpec.ofChange diskSyncedSpec)

/-- ITS FALSE NEIGHBOUR: 'it returns false'. Refute it at one input. -/
def diskSyncedWrong : ChangeSpec := { name := "diskSynced", fn := fun _ => fun
  | [d1, d2, d3, d4, d5, d6] => { results := [.lit (.bool false)], args := [d1, d2, d3, d4, d5, d6] }
  | _ => none }
def DiskSyncedWrongFalsely : Prop := diskSyncedRow.holds Try.pinned (OpenSpec.ofChange diskSyncedWrong)

/-- 'elasticstorelaw24.DiskPower': WHATEVER THE INPUT: true; the input reads as it did. -/
def diskPowerSpec : ChangeSpec := { name := "diskPower", fn := fun _ => fun
  | [d1, d2, d3] => { results := [.lit (.bool true)], args := [d1, d2, d3] }
  | _ => none }
def diskPowerRow : OpenClaim := { program := "ytjipknfohmgjaaa", sum := "d59eb5510641c0bb8cccd6e57b619ba83de6bdf773ee8de28636db587d3ca0aa", func := "elasticstore/elasticstorelaw24.DiskPower", spec := "diskPower", apart := false }
def DiskPowerSaid : Prop := diskPowerRow.holds Try.pinned (OpenSpec.ofChange diskPowerSpec)

/-- ITS FALSE NEIGHBOUR: 'it returns false'. Refute it at one input. -/
def diskPowerWrong : ChangeSpec := { name := "diskPower", fn := fun _ => fun
  | [d1, d2, d3] => { results := [.lit (.bool false)], args := [d1, d2, d3] }
  | _ => none }
def DiskPowerWrongFalsely : Prop := diskPowerRow.holds Try.pinned (OpenSpec.ofChange diskPowerWrong)

/-- 'elasticstorelaw24.DiskNil': WHATEVER THE INPUT: true; the input reads as it did. -/
def diskNilSpec : ChangeSpec := { name := "diskNil", fn := fun _ => fun
  | [d1, d2, d3] => { results := [.lit (.bool true)], args := [d1, d2, d3] }
  | _ => none }
def diskNilRow : OpenClaim := { program := "ytjipknfohmgjaaa", sum := "d59eb5510641c0bb8cccd6e57b619ba83de6bdf773ee8de28636db587d3ca0aa", func := "elasticstore/elasticstorelaw24.DiskNil", spec := "diskNil", apart := false }
def DiskNilSaid : Prop := diskNilRow.holds Try.pinned (OpenSpec.ofChange diskNilSpec)

/-- ITS FALSE NEIGHBOUR: 'it returns false'. Refute it at one input. -/
def diskNilWrong : ChangeSpec := { name := "diskNil", fn := fun _ => fun
  | [d1, d2, d3] => { results := [.lit (.bool false)], args := [d1, d2, d3] }
  | _ => none }
def DiskNilWrongFalsely : Prop := diskNilRow.holds Try.pinned (OpenSpec.ofChange diskNilWrong)

/- THE SECOND FORM. 'bulk': how many values and letters a reading holds, each counted each time it is reached (what is shared counts as often as it is met; a slice's spare places count too). A statement '..UptoSaid' is the law's where the arguments, and the package variables that the reading takes, are together of bulk at most 1048576: NARROWER than '..Said'. Prove '..Said' where nothing that the law and all that it calls make is longer than what came in: it says more and counts as full. Else prove '..UptoSaid'. A law counts once. -/
mutual
def uptoBulk {H : Type} : DataW H → Nat
  | .lit (.string bytes) => bytes.length + 1
  | .lit _ => 1
  | .nil => 1
  | .ptr d => uptoBulk d + 1
  | .slice elems spare => uptoBulkAll elems + uptoBulkAll spare + 1
  | .agg parts => uptoBulkAll parts + 1
  | .iface _ d => uptoBulk d + 1
  | .map entries => uptoBulkEntries entries + 1
  | .held _ => 1
def uptoBulkAll {H : Type} : List (DataW H) → Nat
  | [] => 0
  | d :: r => uptoBulk d + uptoBulkAll r
def uptoBulkEntries {H : Type} : List (Lit × DataW H) → Nat
  | [] => 0
  | x :: r => uptoBulkEntry x + uptoBulkEntries r
def uptoBulkEntry {H : Type} : Lit × DataW H → Nat
  | (.string bytes, d) => bytes.length + uptoBulk d + 1
  | (_, d) => uptoBulk d + 1
 end
def uptoSmall : (H : Type) → List (DataW H) → Bool := fun _ ds => decide (uptoBulkAll ds ≤ 1048576)
def OpenSpec.upto (s : _root_.Go.ChangeSpec) : _root_.Go.OpenSpec := { _root_.Go.OpenSpec.ofChange s with cond := some uptoSmall }

/-- 'elasticstorelaw24.DiskSizes', WHERE WHAT IT READS IS OF BULK AT MOST 1048576: true; the input reads as it did. -/
def diskSizesUptoRow : OpenClaim := { program := "ytjipknfohmgjaaa", sum := "d59eb5510641c0bb8cccd6e57b619ba83de6bdf773ee8de28636db587d3ca0aa", func := "elasticstore/elasticstorelaw24.DiskSizes", spec := "diskSizes", apart := false, narrowed := true }
def DiskSizesUptoSaid : Prop := diskSizesUptoRow.holds Try.pinned (OpenSpec.upto diskSizesSpec)

/-- 'elasticstorelaw24.DiskPrefix', WHERE WHAT IT READS IS OF BULK AT MOST 1048576: true; the input reads as it did. -/
def diskPrefixUptoRow : OpenClaim := { program := "ytjipknfohmgjaaa", sum := "d59eb5510641c0bb8cccd6e57b619ba83de6bdf773ee8de28636db587d3ca0aa", func := "elasticstore/elasticstorelaw24.DiskPrefix", spec := "diskPrefix", apart := false, narrowed := true }
def DiskPrefixUptoSaid : Prop := diskPrefixUptoRow.holds Try.pinned (OpenSpec.upto diskPrefixSpec)

/-- 'elasticstorelaw24.DiskOwn', WHERE WHAT IT READS IS OF BULK AT MOST 1048576: true; the input reads as it did. -/
def diskOwnUptoRow : OpenClaim := { program := "ytjipknfohmgjaaa", sum := "d59eb5510641c0bb8cccd6e57b619ba83de6bdf773ee8de28636db587d3ca0aa", func := "elasticstore/elasticstorelaw24.DiskOwn", spec := "diskOwn", apart := false, narrowed := true }
def DiskOwnUptoSaid : Prop := diskOwnUptoRow.holds Try.pinned (OpenSpec.upto diskOwnSpec)

/-- 'elasticstorelaw24.DiskParts', WHERE WHAT IT READS IS OF BULK AT MOST 1048576: true; the input reads as it did. -/
def diskPartsUptoRow : OpenClaim := { program := "ytjipknfohmgjaaa", sum := "d59eb5510641c0bb8cccd6e57b619ba83de6bdf773ee8de28636db587d3ca0aa", func := "elasticstore/elasticstorelaw24.DiskParts", spec := "diskParts", apart := false, narrowed := true }
def DiskPartsUptoSaid : Prop := diskPartsUptoRow.holds Try.pinned (OpenSpec.upto diskPartsSpec)

/-- 'elasticstorelaw24.DiskPlays', WHERE WHAT IT READS IS OF BULK AT MOST 1048576: true; the input reads as it did. -/
def diskPlaysUptoRow : OpenClaim := { program := "ytjipknfohmgjaaa", sum := "d59eb5510641c0bb8cccd6e57b619ba83de6bdf773ee8de28636db587d3ca0aa", func := "elasticstore/elasticstorelaw24.DiskPlays", spec := "diskPlays", apart := false, narrowed := true }
def DiskPlaysUptoSaid : Prop := diskPlaysUptoRow.holds Try.pinned (OpenSpec.upto diskPlaysSpec)

/-- 'elasticstorelaw24.DiskSynced', WHERE WHAT IT READS IS OF BULK AT MOST 1048576: true; the input reads as it did. -/
def diskSyncedUptoRow : OpenClaim := { program := "ytjipknfohmgjaaa", sum := "d59eb5510641c0bb8cccd6e57b619ba83de6bdf773ee8de28636db587d3ca0aa", func := "elasticstore/elasticstorelaw24.DiskSynced", spec := "diskSynced", apart := false, narrowed := true }
def DiskSyncedUptoSaid : Prop := diskSyncedUptoRow.holds Try.pinned (OpenSpec.upto diskSyncedSpec)

/-- 'elasticstorelaw24.DiskPower', WHERE WHAT IT READS IS OF BULK AT MOST 1048576: true; the input reads as it did. -/
def diskPowerUptoRow : OpenClaim := { program := "ytjipknfohmgjaaa", sum := "d59eb5510641c0bb8cccd6e57b619ba83de6bdf773ee8de28636db587d3ca0aa", func := "elasticstore/elasticstorelaw24.DiskPower", spec := "diskPower", apart := false, narrowed := true }
def DiskPowerUptoSaid : Prop := diskPowerUptoRow.holds Try.pinned (OpenSpec.upto diskPowerSpec)

/-- 'elasticstorelaw24.DiskNil', WHERE WHAT IT READS IS OF BULK AT MOST 1048576: true; the input reads as it did. -/
def diskNilUptoRow : OpenClaim := { program := "ytjipknfohmgjaaa", sum := "d59eb5510641c0bb8cccd6e57b619ba83de6bdf773ee8de28636db587d3ca0aa", func := "elasticstore/elasticstorelaw24.DiskNil", spec := "diskNil", apart := false, narrowed := true }
def DiskNilUptoSaid : Prop := diskNilUptoRow.holds Try.pinned (OpenSpec.upto diskNilSpec)

end Rows
end Go.Proofs.Ytjipknfohmgjaaa
