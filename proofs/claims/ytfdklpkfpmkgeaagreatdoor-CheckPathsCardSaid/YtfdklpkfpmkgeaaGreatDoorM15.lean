/- The oracle of the check chapter's laws: the sanity check by the kernel, IndexByte and ParseInt by their contracts. -/
import Derived.Test.YtfdklpkfpmkgeaaGreatDoorM9
import Derived.Test.YtfdklpkfpmkgeaaGreatDoorM14
set_option linter.unusedSimpArgs false
set_option linter.unusedVariables false
set_option linter.unusedSectionVars false
set_option linter.unnecessarySimpa false
namespace Go.Proofs.YtfdklpkfpmkgeaaGreatDoor
open Go Go.Vai
noncomputable def bs : Oracle := zqq aCal xCal
theorem bs_ok : zc6 Tryz.prog ann bs := zq0 aCal_ok zt4
theorem aCal_no {g : Nat} (args : List AV) (H : Hp) (nx : Nat) (h : Nat.beq g 14 = false) : aCal g args H nx = none:=by
 unfold aCal zko
 rw [h]
theorem bs_no {g : Nat} (args : List AV) (H : Hp) (nx : Nat) (h : Nat.beq g 14 = false) : bs g args H nx = xCal g args H nx:=by
 unfold bs zqq
 rw [aCal_no args H nx h]
theorem bs_ext : Ext (calW Tryz.prog ann bs) := mkExt bs
 (fun g args H nx h=>bs_no args H nx (by
  cases he : Nat.beq g 14 with
  | false=>rfl
  | true =>
   obtain rfl := Nat.eq_of_beq_eq_true he
   exact absurd (show xCal 14 args H nx = none from rfl) h))
 (fun g args H nx h=>(bs_no args H nx (by
  cases he : Nat.beq g 14 with
  | false=>rfl
  | true =>
   obtain rfl := Nat.eq_of_beq_eq_true he
   cases h)).trans (zs5 g args H nx h))
theorem bs_aw : Was (calL (calW Tryz.prog ann bs) 14 [] Hp.none 0) QT:=by
 have h := zqx
 cases e : aCal 14 [] Hp.none 0 with
 | none=>rw [e] at h; cases h
 | some o =>
  rw [e] at h
  refine ⟨o,calB bs ?_,Option.some.inj h⟩
  unfold bs zqq
  rw [e]
theorem c6 (x : Int) (t1 : Bool) (ws : List Bool) (t2 : Bool) (es : List Bool) : ∃ d H nx,calW Tryz.prog ann bs d 6 [.int .i64 x,.vs 1 t1 (bls ws),.vs 1 t2 (bls es)] Hp.none 0 = some ⟨.bool true,H,nx⟩:=by
 obtain ⟨⟨v,H,nx⟩,h1,h2⟩ := w6 bs_ext bs_aw x t1 ws t2 es
 obtain ⟨d,h⟩ := zsr h1
 exact ⟨d,H,nx,by rw [h,show v = .bool true from h2]⟩
end Go.Proofs.YtfdklpkfpmkgeaaGreatDoor
