/- The variables that the check chapter's rows list, as abstract values; the door's own heap meets the rows' condition. -/
import Derived.Test.YtfdklpkfpmkgeaaGreatDoorRows
import Derived.LaidLaws
import Derived.Test.YtfdklpkfpmkgeaaGreatDoorM7
import Derived.Test.YtfdklpkfpmkgeaaGreatDoorM17
set_option linter.unusedSimpArgs false
set_option linter.unusedVariables false
set_option linter.unusedSectionVars false
set_option linter.unnecessarySimpa false
namespace Go.Proofs.YtfdklpkfpmkgeaaGreatDoor
open Go Go.Vai Go.ChangeShapes Go.WideShapes Go.ChangeAt Go.RowKit
abbrev laid7 : List (String × DataW Unit) := [("math/bits.deBruijn32tab",Rows.laid_math_bits_deBruijn32tab),("math/bits.deBruijn64tab",Rows.laid_math_bits_deBruijn64tab),("internal/strconv.uint64pow10",Rows.laid_internal_strconv_uint64pow10),("strconv.ErrRange",Rows.laid_strconv_ErrRange),("strconv.ErrSyntax",Rows.laid_strconv_ErrSyntax),("elasticstore/schema.keywords",Rows.laid_elasticstore_schema_keywords),("elasticstore/schema.signs",Rows.laid_elasticstore_schema_signs)]
def aInts : List AV→List Int
 | []=>[]
 | .int _ n :: l=>n :: aInts l
 | _ :: l=>aInts l
def aStrs : List AV→List (List UInt8)
 | []=>[]
 | .str s :: l=>s :: aStrs l
 | _ :: l=>aStrs l
def cs3 : List (List UInt8) := match globOf ann 3 with
 | some [.vs _ _ l]=>aStrs l
 | _=>[]
def cs4 : List (List UInt8) := match globOf ann 4 with
 | some [.vs _ _ l]=>aStrs l
 | _=>[]
def csI (i : Nat) : List Int := match globOf ann i with
 | some l=>aInts l
 | _=>[]
theorem row319 (u : TypeId) (h : Tryz.prog.typeName? 3 u = some "*errors.errorString") : u = 319 :=
 typeName_ptr_named (nm := "errors.errorString") (by rw [show "*" ++ "errors.errorString" = "*errors.errorString" by decide]; kernel_rfl) (by kernel_rfl) (by decide) u (by rw [show "*" ++ "errors.errorString" = "*errors.errorString" by decide]; exact h)
theorem globs {W : World} (h : laidMetH Tryz.prog laid7 W) : GlobOk ann (gStart W) W:=by
 rw [MakeChecks.laidMetH_plain _ _ _ (by kernel_rfl)] at h
 have r3 := glob_strs (n := "elasticstore/schema.signs") (ss := cs3) (g := 3) (t := 67) (e := 9) h (show ("elasticstore/schema.signs",_) ∈ laid7 from .tail _ (.tail _ (.tail _ (.tail _ (.tail _ (.tail _ (.head _))))))) (by kernel_rfl) (by kernel_rfl) (by kernel_rfl) (by kernel_rfl) (by kernel_rfl) (by decide)
 have r4 := glob_strs (n := "elasticstore/schema.keywords") (ss := cs4) (g := 4) (t := 67) (e := 9) h (show ("elasticstore/schema.keywords",_) ∈ laid7 from .tail _ (.tail _ (.tail _ (.tail _ (.tail _ (.head _)))))) (by kernel_rfl) (by kernel_rfl) (by kernel_rfl) (by kernel_rfl) (by kernel_rfl) (by decide)
 have r5 := glob_ints (n := "internal/strconv.uint64pow10") (k := .u64) (zs := csI 5) (g := 5) (t := 295) (e := 131) h (show ("internal/strconv.uint64pow10",_) ∈ laid7 from .tail _ (.tail _ (.head _))) (by kernel_rfl) (by kernel_rfl) (by kernel_rfl) (by kernel_rfl) (by kernel_rfl) (by kernel_rfl)
 have r9 := glob_ints (n := "math/bits.deBruijn32tab") (k := .u8) (zs := csI 9) (g := 9) (t := 322) (e := 5) h (show ("math/bits.deBruijn32tab",_) ∈ laid7 from .head _) (by kernel_rfl) (by kernel_rfl) (by kernel_rfl) (by kernel_rfl) (by kernel_rfl) (by kernel_rfl)
 have r10 := glob_ints (n := "math/bits.deBruijn64tab") (k := .u8) (zs := csI 10) (g := 10) (t := 323) (e := 5) h (show ("math/bits.deBruijn64tab",_) ∈ laid7 from .tail _ (.head _)) (by kernel_rfl) (by kernel_rfl) (by kernel_rfl) (by kernel_rfl) (by kernel_rfl) (by kernel_rfl)
 have r6 := glob_err (n := "strconv.ErrSyntax") (nm := "*errors.errorString") (g := 6) (ti := 179) (tp := 319) (te := 321) (ts := 9) h (show ("strconv.ErrSyntax",_) ∈ laid7 from .tail _ (.tail _ (.tail _ (.tail _ (.head _))))) (by kernel_rfl) (by kernel_rfl) Tryz.underlying179 row319 Tryz.underlying319 Tryz.underlying321 rfl rfl Tryz.underlying9 (by kernel_rfl) (by kernel_rfl)
 have r7 := glob_err (n := "strconv.ErrRange") (nm := "*errors.errorString") (g := 7) (ti := 179) (tp := 319) (te := 321) (ts := 9) h (show ("strconv.ErrRange",_) ∈ laid7 from .tail _ (.tail _ (.tail _ (.head _)))) (by kernel_rfl) (by kernel_rfl) Tryz.underlying179 row319 Tryz.underlying319 Tryz.underlying321 rfl rfl Tryz.underlying9 (by kernel_rfl) (by kernel_rfl)
 refine globOk_of fun p hp=>?_
 have hall : (getA ann 1000000).gl = [(3,[.vs 1 true (cs3.map .str)]),(4,[.vs 1 true (cs4.map .str)]),(5,(csI 5).map (.int .u64)),(6,[.iface 319 (.cptr [.str [105,110,118,97,108,105,100,32,115,121,110,116,97,120]])]),(7,[.iface 319 (.cptr [.str [118,97,108,117,101,32,111,117,116,32,111,102,32,114,97,110,103,101]])]),(9,(csI 9).map (.int .u8)),(10,(csI 10).map (.int .u8))] := by kernel_rfl
 rw [hall] at hp
 simp only [List.mem_cons,List.not_mem_nil,or_false] at hp
 rcases hp with rfl | rfl | rfl | rfl | rfl | rfl | rfl
 ·exact ⟨by kernel_rfl,r3⟩
 ·exact ⟨by kernel_rfl,r4⟩
 ·exact ⟨by kernel_rfl,r5⟩
 ·exact ⟨by kernel_rfl,r6⟩
 ·exact ⟨by kernel_rfl,r7⟩
 ·exact ⟨by kernel_rfl,r9⟩
 ·exact ⟨by kernel_rfl,r10⟩
theorem door_met (os : Os) (args : Array Value) : laidMetH Tryz.prog laid7 ((World.doorLaid Tryz.prog 4000 os).forCall (fun _ _=>0) ⟨#[],args,[]⟩).memory :=
 laidMetH_of_parts3 (fuel := 8) (laidMet_of_run' 8 (by kernel_rfl) (by kernel_rfl)) (by kernel_rfl) (by kernel_rfl)
end Go.Proofs.YtfdklpkfpmkgeaaGreatDoor
