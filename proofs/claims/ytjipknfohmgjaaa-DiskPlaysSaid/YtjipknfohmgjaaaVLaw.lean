/- From what the interpreter says to a call on the machine, in any world. -/
import Derived.Test.YtjipknfohmgjaaaVRun
import Derived.Below
namespace Go.Vai
open Go.RowKit

/-- how many cells a block has -/
def blkSize (W : World) (B : Nat) : Nat := match W.heap[B]? with
  | some (.cells c _ _) => c.size
  | _ => 0

/-- at the start everything that is there is published, and nothing is one's own -/
def gStart (W : World) : G := ⟨fun _ => .ext, blkSize W⟩

theorem gStart_inv (W : World) : Inv (gStart W) W := by
  refine ⟨fun B hB => ⟨rfl, ?_⟩, fun _ _ h => (by cases h), fun _ _ h => (by cases h), fun _ _ _ h => (by cases h), fun _ _ _ h => (by cases h)⟩
  show blkSize W B = 0
  unfold blkSize
  rw [Array.getElem?_eq_none hB]

theorem pub_of_cell {W : World} {B o : Nat} {u : Value} (h : W.cell? ⟨B, o, none⟩ = some u) : o < (gStart W).pub B := by
  show o < blkSize W B
  unfold blkSize
  unfold World.cell? at h
  simp only at h
  cases hb : W.heap[B]? with
  | none => rw [hb] at h; cases h
  | some x =>
    rw [hb] at h
    cases x <;> simp_all
    exact (Array.getElem?_eq_some_iff.1 h).1

theorem law_calls {P : Program} {A : List (Nat × Ann)} {cal : Oracle} (hcal : CalOk P A cal) {f : Nat} {args : List AV} {out : Out} (h : cal f args Hp.none 0 = some out) {W : World} {cargs : List Value} (hrep : RepL (gStart W) W cargs args) (hgl : GlobOk A (gStart W) W) :
    Calls P f cargs.toArray W fun e w' => ∃ u g', e = .returned u ∧ Rep g' w' u out.v ∧ Below W.heap.size W w' := by
  obtain ⟨_, h2⟩ := hcal _ _ _ _ _ h
  refine (h2 (gStart W) W cargs (gStart_inv W) ⟨fun _ _ hb => (by cases hb), fun _ _ hB => (by cases hB)⟩ (fun _ => .inl rfl) (fun _ _ => rfl) hgl hrep).mono ?_
  rintro e w' ⟨v, g', rfl, hret⟩
  exact ⟨v, g', rfl, hret.rep, ⟨hret.fr.os, hret.fr.tape, hret.fr.output, hret.fr.size, fun B hB => (hret.fr.same B hB (fun hx => hx rfl)).1⟩⟩

theorem law_true {P : Program} {A : List (Nat × Ann)} {cal : Oracle} (hcal : CalOk P A cal) {f : Nat} {args : List AV} {H : Hp} {nx : Nat} (h : cal f args Hp.none 0 = some ⟨.bool true, H, nx⟩) {W : World} {cargs : List Value} (hrep : RepL (gStart W) W cargs args) (hgl : GlobOk A (gStart W) W) :
    Calls P f cargs.toArray W fun e w' => e = .returned (.bool true) ∧ Below W.heap.size W w' := by
  refine (law_calls hcal h hrep hgl).mono ?_
  rintro e w' ⟨u, g', rfl, hr, hb⟩
  rw [rep_bool hr]
  exact ⟨rfl, hb⟩

theorem globOk_nil {A : List (Nat × Ann)} (h : (getA A 1000000).gl = []) (g : G) (w : World) : GlobOk A g w := fun i cs hc => by
  unfold globOf at hc
  rw [h] at hc
  cases hc

theorem repL_nil {g : G} {w : World} : RepL g w [] [] := ⟨rfl, by simp⟩
theorem repL_cons {g : G} {w : World} {u : Value} {v : AV} {us : List Value} {vs : List AV} (h : Rep g w u v) (t : RepL g w us vs) : RepL g w (u :: us) (v :: vs) := by
  refine ⟨by simp [t.1], fun j u' c hu hc => ?_⟩
  cases j with
  | zero => simp at hu hc; subst hu hc; exact h
  | succ j => exact t.2 j u' c (by simpa using hu) (by simpa using hc)

theorem addCal_hit {g : Nat} {spec : List AV → Option AV} {cal : Oracle} {args : List AV} {v : AV} {H : Hp} {nx : Nat} (h : spec args = some v) : addCal g spec cal g args H nx = some ⟨v, H, nx⟩ := by
  have e : Nat.beq g g = true := by simp
  unfold addCal
  rw [e, h]
theorem addCal_miss {g f : Nat} {spec : List AV → Option AV} {cal : Oracle} {args : List AV} {H : Hp} {nx : Nat} (h : Nat.beq f g = false) : addCal g spec cal f args H nx = cal f args H nx := by
  unfold addCal
  rw [h]

/-- an oracle's depth -/
theorem calOk_lvl {P : Program} {A : List (Nat × Ann)} (hM : P.follows .mixedOrders = true) (hN : ∀ (f : Nat) (fn : Func), P.funcs[f]? = some fn → fn.name ≠ "runtime.NumGoroutine") (n : Nat) : ∀ d, CalOk P A (lvl P A n d)
  | 0 => calOk_none
  | d + 1 => calN_ok hM hN (calOk_lvl hM hN n d) n

end Go.Vai
