/- The closed facts of the row CheckMoves, each by itself. -/
import Derived.JoinedOf
import Derived.Test.YtfdklpkfpmkgeaaGreatDoorM16
set_option linter.unusedSimpArgs false
set_option linter.unusedVariables false
set_option linter.unusedSectionVars false
set_option linter.unnecessarySimpa false
namespace Go.Proofs.YtfdklpkfpmkgeaaGreatDoor
open Go
set_option maxRecDepth 100000
set_option maxHeartbeats 40000000
theorem closed5 : joinedFacts Tryz.prog 5 Tryz.f5 Rows.checkMovesSpec Rows.checkMovesRow = true:=by
 unfold joinedFacts;simp only [Bool.and_eq_true]
 repeat' apply And.intro
 all_goals as_aux_lemma=>kernel_rfl
end Go.Proofs.YtfdklpkfpmkgeaaGreatDoor
