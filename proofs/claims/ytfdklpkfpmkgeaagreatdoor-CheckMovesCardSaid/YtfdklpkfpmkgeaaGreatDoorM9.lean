/- The sanity check of the check chapter, run by the kernel behind its parse; the oracles with it. -/
import Derived.Test.YtfdklpkfpmkgeaaGreatDoorM8
set_option linter.unusedSimpArgs false
set_option linter.unusedVariables false
set_option linter.unusedSectionVars false
set_option linter.unnecessarySimpa false
namespace Go.Proofs.YtfdklpkfpmkgeaaGreatDoor
open Go Go.Vai
noncomputable def aw14 : Oracle := fun g args H nx=>calN Tryz.prog ann (zti pCal (lvl Tryz.prog ann 1000 40)) 1000 g args H nx
theorem aw14_ok : zco Tryz.prog ann aw14 := fun f args H nx out h=>zqa mixed numOk (zrx pCal_ok (zog mixed numOk 1000 40)) 1000 f args H nx out h
noncomputable def aCal : Oracle := zmh 14 aw14
theorem aCal_ok : zco Tryz.prog ann aCal := zss aw14_ok 14
theorem zth : ((aCal 14 [] Hp.none 0).bind fun o=>some o.v) = some (.bool true) := by kernel_rfl
end Go.Proofs.YtfdklpkfpmkgeaaGreatDoor
