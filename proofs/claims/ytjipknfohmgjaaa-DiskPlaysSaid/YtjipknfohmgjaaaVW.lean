/- Calls to a depth, with as much fuel as they need: an oracle that needs no program of its own. -/
import Derived.Test.YtjipknfohmgjaaaVLaw
namespace Go.Vai

/-- with all fuel from some on the call gives out -/
def EvC (P : Program) (A : List (Nat × Ann)) (cal : Oracle) (g : Nat) (args : List AV) (H : Hp) (nx : Nat) (out : Out) : Prop := ∃ m, ∀ n, m ≤ n → calN P A cal n g args H nx = some out

theorem EvC.uniq {P : Program} {A : List (Nat × Ann)} {cal : Oracle} {g : Nat} {args : List AV} {H : Hp} {nx : Nat} {o o' : Out} (h : EvC P A cal g args H nx o) (h' : EvC P A cal g args H nx o') : o = o' := by
  obtain ⟨m, hm⟩ := h
  obtain ⟨m', hm'⟩ := h'
  have h1 := hm (m + m') (by omega)
  have h2 := hm' (m + m') (by omega)
  rw [h1] at h2
  injection h2

open Classical in
noncomputable def calW (P : Program) (A : List (Nat × Ann)) (base : Oracle) : Nat → Oracle
  | 0 => base
  | d + 1 => fun g args H nx => match base g args H nx with
    | some o => some o
    | none => if h : ∃ out, EvC P A (calW P A base d) g args H nx out then some h.choose else none

theorem calW_ok {P : Program} {A : List (Nat × Ann)} {base : Oracle} (hM : P.follows .mixedOrders = true) (hN : ∀ (f : Nat) (fn : Func), P.funcs[f]? = some fn → fn.name ≠ "runtime.NumGoroutine") (hb : CalOk P A base) : ∀ d, CalOk P A (calW P A base d)
  | 0 => hb
  | d + 1 => by
    intro f args H nx out hc
    unfold calW at hc
    split at hc
    · rename_i o ho
      injection hc with hc
      subst hc
      exact hb _ _ _ _ _ ho
    · split at hc
      · rename_i h
        injection hc with hc
        obtain ⟨m, hm⟩ := h.choose_spec
        rw [hc] at hm
        exact calN_ok hM hN (calW_ok hM hN hb d) m _ _ _ _ _ (hm m (Nat.le_refl _))
      · cases hc

theorem calW_of {P : Program} {A : List (Nat × Ann)} {base : Oracle} {d g : Nat} {args : List AV} {H : Hp} {nx : Nat} {out : Out} (h0 : base g args H nx = none) (h : EvC P A (calW P A base d) g args H nx out) : calW P A base (d + 1) g args H nx = some out := by
  show (match base g args H nx with
    | some o => some o
    | none => _) = _
  rw [h0]
  simp only
  have he : ∃ out, EvC P A (calW P A base d) g args H nx out := ⟨out, h⟩
  rw [dif_pos he, he.choose_spec.uniq h]

theorem calW_base {P : Program} {A : List (Nat × Ann)} {base : Oracle} {g : Nat} {args : List AV} {H : Hp} {nx : Nat} {out : Out} (h0 : base g args H nx = some out) : ∀ d, calW P A base d g args H nx = some out
  | 0 => h0
  | d + 1 => by
    show (match base g args H nx with
      | some o => some o
      | none => _) = _
    rw [h0]

/-- one call alone, of what is known already -/
def baseCal (g : Nat) (cal : Oracle) : Oracle := fun f args H nx => match Nat.beq f g with
  | true => match args with
    | [] => match H with
      | [] => match nx with
        | 0 => cal g [] Hp.none 0
        | _ => none
      | _ => none
    | _ => none
  | false => none

theorem baseCal_ok {P : Program} {A : List (Nat × Ann)} {cal : Oracle} (h : CalOk P A cal) (g : Nat) : CalOk P A (baseCal g cal) := by
  intro f args H nx out hc
  unfold baseCal at hc
  split at hc
  · rename_i hf
    obtain rfl := Nat.eq_of_beq_eq_true hf
    split at hc
    · split at hc
      · split at hc
        · exact h _ _ _ _ _ hc
        · cases hc
      · cases hc
    · cases hc
  · cases hc

end Go.Vai
