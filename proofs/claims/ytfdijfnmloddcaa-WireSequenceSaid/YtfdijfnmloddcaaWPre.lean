/- Places in a function's code; the table of annotations; runs from the middle of a region. -/
import Derived.Test.YtfdijfnmloddcaaVRun
import Derived.Test.YtfdijfnmloddcaaProg
import Derived.KernelRfl
namespace Go.Proofs.Ytfdijfnmloddcaa
open Go Go.Vai

def ann : List (Nat × Ann) := [
  (3, ⟨[3, 131, 16, 16], false, [], []⟩),
  (4, ⟨[1, 2049, 4, 57, 505, 137438953529, 4, 549755813913, 4, 4], false, [], []⟩),
  (5, ⟨[3, 2051, 16, 35, 481, 16], false, [], []⟩),
  (6, ⟨[3, 99, 227, 483, 262627, 483, 483, 16], false, [], []⟩),
  (7, ⟨[3, 2051, 16, 35, 481, 16], false, [], []⟩),
  (8, ⟨[1, 2049, 4, 57, 504, 4], false, [], []⟩),
  (9, ⟨[3, 65539, 16, 35, 481, 16], false, [], []⟩),
  (10, ⟨[1, 2049, 4, 57, 504, 4], false, [], []⟩),
  (11, ⟨[3, 8195, 16, 227, 2019, 16], false, [], []⟩),
  (12, ⟨[7, 68719476743, 64, 135, 391, 2199023255943, 391, 391, 647, 9007199254741639, 647, 2305843009213694599, 64, 647, 1159, 4722366482869645214855, 1159, 1159, 2183, 6279, 19342813113834066795305095, 6279, 63623, 83076749736557242056487941267544199, 64, 6279, 67718, 10633823966279326983230456482242824326, 67718, 985222, 45671926166590716193865151022383844364248221830, 64, 67718, 1050756, 5846006549323611672814739330865132078623731222660, 1050756, 15730820, 25108406941546723055343157692830665664409421777856143296644, 64, 1050756, 64], false, [], []⟩),
  (13, ⟨[0, 14, 126, 1022, 8190, 1], false, [], []⟩),
  (14, ⟨[3, 35, 163, 35, 35, 33, 16], false, [0], []⟩),
  (15, ⟨[3, 34, 1058, 34, 34, 16], false, [0], []⟩),
  (16, ⟨[1, 97, 2145, 28, 225, 2097377, 28, 225, 225, 8589934817, 549755813984, 28, 28], false, [], []⟩),
  (17, ⟨[1, 33, 97, 353, 97, 16481, 28, 8388705, 28, 97, 1099511627873, 562949953421408, 28, 28, 28], false, [], []⟩),
  (18, ⟨[3, 16], false, [0], []⟩),
  (19, ⟨[1, 224, 32992, 28, 28], false, [], []⟩),
  (20, ⟨[1, 17, 4, 4], false, [], []⟩),
  (21, ⟨[1, 224, 32992, 28, 524384, 28, 28], false, [], []⟩),
  (22, ⟨[3, 16], false, [0], []⟩),
  (23, ⟨[1, 225, 32993, 28, 8388705, 28, 28], false, [], []⟩),
  (24, ⟨[3, 16], false, [0], []⟩),
  (25, ⟨[1, 225, 32993, 28, 8388705, 28, 28], false, [], []⟩),
  (26, ⟨[1, 33, 28, 513, 28, 28], false, [], []⟩),
  (27, ⟨[1, 33, 28, 513, 28, 28], false, [], []⟩),
  (28, ⟨[3, 33, 16, 16], false, [0], []⟩),
  (29, ⟨[3, 33, 16, 16], false, [0], []⟩)]

/-- to a place: 0 into a sequence, 2 a block, 3 a loop, 4 a scope, 5 past the first item, 6 and 7 the branches, 9 l a goto -/
def goTo : List Nat → List Item → List Item
  | [], k => k
  | 0 :: p, .code (.seq a b) :: k => goTo p (.code a :: .code b :: k)
  | 2 :: p, .code (.block id b) :: k => goTo p (.code b :: .inBlock id :: k)
  | 3 :: p, .code (.loop b) :: k => goTo p (.code b :: .inLoop b :: k)
  | 4 :: p, .code (.scope b) :: k => goTo p (.code b :: .inScope b :: k)
  | 5 :: p, _ :: k => goTo p k
  | 6 :: p, .code (.cond _ t _) :: k => goTo p (.code t :: k)
  | 7 :: p, .code (.cond _ _ e) :: k => goTo p (.code e :: k)
  | 9 :: l :: p, k => match gotoIn l k with
    | some k' => goTo p k'
    | none => []
  | _, _ => []

noncomputable def bodyOf (f : Nat) : List Item := match Try.prog.funcs[f]? with
  | some fn => match fn.body with
    | some c => [.code c]
    | none => []
  | none => []

noncomputable def isResOf (f : Nat) (d : Nat) : Bool := match Try.prog.funcs[f]? with
  | some fn => memN d (resSlots fn.results.toList)
  | none => false

def mkL (l : List (Nat × Slot)) : Nat → Nat → List Slot
  | 0, _ => []
  | n + 1, i => (match l with
    | (t, s) :: r => match Nat.beq t i with
      | true => s :: mkL r n (i + 1)
      | false => .und :: mkL ((t, s) :: r) n (i + 1)
    | [] => .und :: mkL [] n (i + 1))

/-- the slots that say something, in their order -/
def mkS (n : Nat) (l : List (Nat × Slot)) (H : Hp) (nx : Nat) : St := ⟨mkL l n 0, [], H, nx⟩

noncomputable def midRun (cal : Oracle) (n : Nat) (f : Nat) (todo : List Item) (i : Nat) (S : St) : Option Out := match todo with
  | .code (.region id ops draw) :: k => match draw with
    | false => absOps Try.prog ann (getA ann f) (isResOf f) cal ops.toList (ops.toList.drop i) S fun S' => run Try.prog ann cal n f k (S'.keep (nthN (getA ann f).K id))
    | true => absVal Try.prog ann (getA ann f) (isResOf f) cal ops ((ops.toList.take (countV ops.toList)).drop i) S fun S' =>
      br (pureL ((lookAll ops (ops.toList.take (countV ops.toList))).map fun t => (S'.slot t).av)) (absOps Try.prog ann (getA ann f) (isResOf f) cal ops.toList (ops.toList.drop (countV ops.toList)) S' fun S' => run Try.prog ann cal n f k (S'.keep (nthN (getA ann f).K id))) none
  | _ => none

noncomputable def vAt (cal : Oracle) (f : Nat) (todo : List Item) (i : Nat) (S : St) : Option AV := match todo with
  | .code (.region _ ops _) :: _ => match ops[i]? with
    | some o => vOp Try.prog ann (getA ann f) (isResOf f) cal o (o.looksAt ops) S
    | none => none
  | _ => none

/-- from some fuel on -/
def Ev (cal : Oracle) (f : Nat) (todo : List Item) (S : St) (out : Out) : Prop := ∃ m, ∀ n, m ≤ n → run Try.prog ann cal n f todo S = some out
def EvF (F : Nat → Option Out) (out : Out) : Prop := ∃ m, ∀ n, m ≤ n → F n = some out

theorem Ev.stage {cal : Oracle} {f : Nat} {todo : List Item} {S : St} {out : Out} {F : Nat → Option Out} (K : Nat) (h : ∀ n, run Try.prog ann cal (n + K) f todo S = F n) (hF : EvF F out) : Ev cal f todo S out := by
  obtain ⟨m, hm⟩ := hF
  refine ⟨m + K, fun n hn => ?_⟩
  have := h (n - K)
  rw [show n - K + K = n by omega] at this
  rw [this]
  exact hm _ (by omega)

theorem EvF.congr {F F' : Nat → Option Out} {out : Out} (h : EvF F out) (e : ∀ n, F' n = F n) : EvF F' out := by
  obtain ⟨m, hm⟩ := h
  exact ⟨m, fun n hn => by rw [e]; exact hm n hn⟩
theorem EvF.stage {F : Nat → Option Out} {out : Out} (h : ∀ n, F n = some out) : EvF F out := ⟨0, fun n _ => h n⟩
theorem Ev.at {cal : Oracle} {f : Nat} {todo : List Item} {S : St} {out : Out} (h : Ev cal f todo S out) (r : Nat) : EvF (fun n => run Try.prog ann cal (n + r) f todo S) out := by
  obtain ⟨m, hm⟩ := h
  exact ⟨m, fun n hn => hm _ (by omega)⟩
theorem EvF.mid {cal : Oracle} {f : Nat} {todo : List Item} {i : Nat} {S : St} {out : Out} {F : Nat → Option Out} (K : Nat) (h : ∀ n, midRun cal (n + K) f todo i S = F n) (hF : EvF F out) (r : Nat) : EvF (fun n => midRun cal (n + r) f todo i S) out := by
  obtain ⟨m, hm⟩ := hF
  refine ⟨m + K, fun n hn => ?_⟩
  have := h (n + r - K)
  rw [show n + r - K + K = n + r by omega] at this
  show midRun cal (n + r) f todo i S = _
  rw [this]
  exact hm _ (by omega)

theorem calN_of {cal : Oracle} {f : Nat} {args : List AV} {H : Hp} {nx : Nat} {out : Out} {S : St} (h : Ev cal f (bodyOf f) S out) (hc : ∀ n, calN Try.prog ann cal n f args H nx = run Try.prog ann cal n f (bodyOf f) S) : ∃ n, calN Try.prog ann cal n f args H nx = some out := by
  obtain ⟨m, hm⟩ := h
  exact ⟨m, by rw [hc]; exact hm m (Nat.le_refl _)⟩

end Go.Proofs.Ytfdijfnmloddcaa
