/- The oracle of the check chapter's laws: the sanity check by the kernel, IndexByte and ParseInt by their contracts. -/
import Derived.Test.YtfdklpkfpmkgeaaGreatDoorM9
import Derived.Test.YtfdklpkfpmkgeaaGreatDoorM14
set_option linter.unusedSimpArgs false
set_option linter.unusedVariables false
set_option linter.unusedSectionVars false
set_option linter.unnecessarySimpa false
namespace Go.Proofs.YtfdklpkfpmkgeaaGreatDoor
open Go Go.Vai
noncomputable def bs : Oracle := zt3 aCal xCal
theorem bs_ok : zcn Tryz.prog ann bs := zso aCal_ok zu0
theorem aCal_no {g : Nat} (args : List AV) (H : Hp) (nx : Nat) (h : Nat.beq g 14 = false) : aCal g args H nx = none:=by
 unfold aCal znt;rw [h]
theorem bs_no {g : Nat} (args : List AV) (H : Hp) (nx : Nat) (h : Nat.beq g 14 = false) : bs g args H nx = xCal g args H nx:=by
 unfold bs zt3;rw [aCal_no args H nx h]
theorem bs_ext : Ext (calW Tryz.prog ann bs) := mkExt bs
 (fun g args H nx h=>bs_no args H nx (by
  cases he : Nat.beq g 14 with
  | false=>rfl
  | true =>
   obtain rfl := beqN he;exact absurd (show xCal 14 args H nx = none from rfl) h))
 (fun g args H nx h=>(bs_no args H nx (by
  cases he : Nat.beq g 14 with
  | false=>rfl
  | true =>
   obtain rfl := beqN he;cases h)).trans (zv7 g args H nx h))
theorem bs_aw : Was (calL (calW Tryz.prog ann bs) 14 [] Hp.none 0) QT:=by
 have h := ztg;cases e : aCal 14 [] Hp.none 0 with
 | none=>rw [e] at h; cases h
 | some o =>
  rw [e] at h;refine ⟨o,calB bs ?_,Option.some.inj h⟩;unfold bs zt3;rw [e]
theorem c5 (tg : Bool) (l : List Int) (b : Bool) (x : Int) : ∃ d H nx,calW Tryz.prog ann bs d 5 [.vs 1 tg (ints l),.bool b,.int .i64 x] Hp.none 0 = some ⟨.bool true,H,nx⟩:=by
 obtain ⟨⟨v,H,nx⟩,h1,h2⟩ := w5 bs_ext bs_aw tg l b x;obtain ⟨d,h⟩ := zv0 h1;exact ⟨d,H,nx,by rw [h,show v = .bool true from h2]⟩
end Go.Proofs.YtfdklpkfpmkgeaaGreatDoor
