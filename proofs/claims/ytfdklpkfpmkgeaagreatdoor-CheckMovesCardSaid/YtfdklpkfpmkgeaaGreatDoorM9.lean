/- The sanity check of the check chapter, run by the kernel behind its parse; the oracles with it. -/
import Derived.Test.YtfdklpkfpmkgeaaGreatDoorM8
set_option linter.unusedSimpArgs false
set_option linter.unusedVariables false
set_option linter.unusedSectionVars false
set_option linter.unnecessarySimpa false
namespace Go.Proofs.YtfdklpkfpmkgeaaGreatDoor
open Go Go.Vai
noncomputable def aw14 : Oracle := fun g args H nx=>calN Tryz.prog ann (zt3 pCal (lvl Tryz.prog ann 1000 40)) 1000 g args H nx
theorem aw14_ok : zcn Tryz.prog ann aw14 := fun f args H nx out h=>zqr mixed numOk (zso pCal_ok (zod mixed numOk 1000 40)) 1000 f args H nx out h
noncomputable def aCal : Oracle := znt 14 aw14
theorem aCal_ok : zcn Tryz.prog ann aCal := zst aw14_ok 14
theorem ztg : ((aCal 14 [] Hp.none 0).bind fun o=>some o.v) = some (.bool true) := by kernel_rfl
end Go.Proofs.YtfdklpkfpmkgeaaGreatDoor
