/- Places in a function's code; the table of annotations; runs from the middle of a region. -/
import Derived.Test.YtjipknfohmgjaaaVRun
import Derived.Test.YtjipknfohmgjaaaProg
import Derived.KernelRfl
namespace Go.Proofs.Ytjipknfohmgjaaa
open Go Go.Vai

def ann : List (Nat × Ann) := [
  (2, ⟨[0], false, [], [], [], [], [], [], [], [], false⟩),
  (3, ⟨[1, 9, 24, 2097176, 4, 120, 360, 4], false, [], [], [], [], [], [], [], [], false⟩),
  (4, ⟨[31, 2079, 264223, 1024, 6175, 6174, 6174, 6174, 4398046517278, 1024, 6174, 6174, 6174, 14366, 30750, 1152921504606877726, 30750, 30750, 14342, 43014, 34816, 1024], false, [], [], [], [], [], [], [], [], false⟩),
  (5, ⟨[7, 7, 135, 135, 1073741959, 64, 391, 390, 1926, 18014398509482886, 64, 386, 36893488147419103618, 64, 6400, 64], false, [], [], [], [], [], [], [], [], false⟩),
  (6, ⟨[7, 7, 7, 7, 391, 72057594037928327, 64, 302231454903657293676679, 64, 1671, 7681, 64], false, [], [], [], [], [], [], [], [], false⟩),
  (7, ⟨[3, 8195, 16, 34, 194, 8388802, 16, 450, 134218178, 450, 144115188075856322, 16, 1986, 604462909807314587353538, 16, 16], false, [], [7], [], [], [], [], [], [(4, 16, [(0, 0, 6), (1, 1, 0), (3, 1, 1), (8, 0, 7), (9, 9, 0)], [(8, 1)]), (10, 16, [(0, 0, 6), (1, 1, 0), (3, 1, 1), (8, 0, 7), (9, 9, 0)], []), (13, 16, [(0, 0, 6), (1, 1, 0), (3, 1, 1), (8, 0, 7), (9, 9, 0)], [])], false⟩),
  (8, ⟨[63, 63, 8255, 34359746623, 4096, 8223, 8221, 8197, 57345, 4096], false, [], [], [], [], [], [], [], [], false⟩),
  (9, ⟨[7, 135, 65671, 64, 135, 135, 391, 391, 903, 2305843009213694087, 64, 18446744073709551751, 64, 2183, 2183, 14471, 316912650057057350374175801478, 64, 130, 64], false, [], [], [], [], [], [], [], [], false⟩),
  (10, ⟨[7, 135, 647, 3715, 3715, 3712, 64], false, [], [], [], [], [], [], [], [], false⟩),
  (11, ⟨[1, 8, 4], true, [], [13], [], [], [], [], [], [], false⟩),
  (12, ⟨[1, 17, 4, 4], true, [], [], [], [], [], [], [], [], true⟩),
  (13, ⟨[7, 263, 16647, 192, 192], true, [], [], [], [], [], [], [], [], false⟩),
  (14, ⟨[1, 4], true, [], [], [], [], [], [], [], [], true⟩),
  (15, ⟨[1, 17, 4, 4], true, [], [], [], [], [], [], [], [], true⟩),
  (16, ⟨[0, 2, 524290, 1, 2, 14, 46, 1], false, [], [], [], [], [], [], [], [], false⟩),
  (17, ⟨[3, 16], false, [], [], [], [], [], [], [], [], false⟩),
  (18, ⟨[3, 67, 16, 16], false, [], [], [], [], [], [], [], [], false⟩),
  (19, ⟨[7, 135, 32903, 64, 524295, 1073741831, 0, 64, 137438953479, 7, 263, 263, 263, 7, 64], true, [], [], [], [], [], [], [], [], false⟩),
  (20, ⟨[1, 9, 521, 4, 114689, 245761, 114721, 114689, 114689, 0, 4], true, [], [], [], [], [], [], [], [], false⟩),
  (21, ⟨[9, 521, 25, 117440537, 251658265, 117440601, 117440537, 117440537, 140737488355353, 137, 1, 1, 0], true, [], [], [], [], [], [], [], [], false⟩),
  (22, ⟨[1, 8, 4], true, [], [], [], [], [], [], [], [], false⟩),
  (23, ⟨[5, 4], true, [], [], [], [], [], [], [], [], false⟩),
  (24, ⟨[35, 1048611, 131107, 64, 17592187093027, 418, 1920, 64, 18889465931478581903395, 2083, 6147, 30722, 122880, 64, 20769187434139310514121985317928995, 64, 2658455991569831745807614120561737763, 34, 0, 43556142965880123323311949751266332114979, 34, 0, 1427247692705959881058285969449495136382746659, 64, 64], true, [], [], [], [], [], [], [], [], false⟩),
  (25, ⟨[1, 4], true, [], [], [], [], [], [], [], [], true⟩),
  (26, ⟨[1, 9, 25, 131097, 25, 25, 4], true, [], [], [10], [], [], [], [], [], false⟩),
  (27, ⟨[2051, 0], true, [], [], [], [], [], [], [], [], false⟩),
  (28, ⟨[7, 135, 64, 1031, 64, 32768, 64, 64], true, [], [], [], [], [], [], [], [], false⟩),
  (29, ⟨[7, 2055, 192, 65543, 192, 192], true, [], [], [], [], [], [], [], [], false⟩),
  (30, ⟨[1, 65, 4, 1, 0, 4], true, [], [], [], [], [], [], [], [], false⟩),
  (31, ⟨[259, 3, 0], true, [], [], [], [], [], [], [], [], false⟩),
  (32, ⟨[7, 71, 262215, 71, 71, 562949953421319, 133, 1, 1, 1, 1, 0], true, [], [], [], [], [], [], [], [], false⟩),
  (33, ⟨[7, 2055, 64, 131079, 64, 1048583, 135, 137438953607, 0, 64, 17592186044551, 135, 135, 135, 7, 64], true, [], [], [], [], [], [], [], [], false⟩),
  (34, ⟨[7, 64], true, [], [], [], [], [], [], [], [], false⟩)]

/-- to a place: 0 into a sequence, 2 a block, 3 a loop, 4 a scope, 5 past the first item, 6 and 7 the branches, 9 l a goto -/
def goTo : List Nat → List Item → List Item
  | [], k => k
  | 0 :: p, .code (.seq a b) :: k => goTo p (.code a :: .code b :: k)
  | 2 :: p, .code (.block id b) :: k => goTo p (.code b :: .inBlock id :: k)
  | 3 :: p, .code (.loop b) :: k => goTo p (.code b :: .inLoop b :: k)
  | 4 :: p, .code (.scope b) :: k => goTo p (.code b :: .inScope b :: k)
  | 5 :: p, _ :: k => goTo p k
  | 6 :: p, .code (.cond _ t _) :: k => goTo p (.code t :: k)
  | 7 :: p, .code (.cond _ _ e) :: k => goTo p (.code e :: k)
  | 9 :: l :: p, k => match gotoIn l k with
    | some k' => goTo p k'
    | none => []
  | _, _ => []

noncomputable def bodyOf (f : Nat) : List Item := match Try.prog.funcs[f]? with
  | some fn => match fn.body with
    | some c => [.code c]
    | none => []
  | none => []

noncomputable def isResOf (f : Nat) (d : Nat) : Bool := match Try.prog.funcs[f]? with
  | some fn => memN d (resSlots fn.results.toList)
  | none => false

def mkL (l : List (Nat × Slot)) : Nat → Nat → List Slot
  | 0, _ => []
  | n + 1, i => (match l with
    | (t, s) :: r => match Nat.beq t i with
      | true => s :: mkL r n (i + 1)
      | false => .und :: mkL ((t, s) :: r) n (i + 1)
    | [] => .und :: mkL [] n (i + 1))

/-- the slots that say something, in their order -/
def mkS (n : Nat) (l : List (Nat × Slot)) (L : List (Nat × Blk)) (H : Hp) (nx : Nat) : St := ⟨mkL l n 0, L, H, nx, []⟩

/-- the run from operation i of a region on -/
noncomputable def midRun (cal : Oracle) (n : Nat) (f : Nat) (todo : List Item) (i : Nat) (S : St) : Option Out := match todo with
  | .code (.region id ops draw) :: k => match draw with
    | false => absOps Try.prog ann (getA ann f) (isResOf f) cal ops.toList (ops.toList.drop i) S fun S' => behind (getA ann f) id (S'.keep (nthN (getA ann f).K id)) fun S'' => run Try.prog ann cal n f k S''
    | true => dsteps Try.prog ann (getA ann f) (isResOf f) cal ops.toList (valDsts (oisOf ann ops (depsT ops.toList []) ops.toList)) (oisOf ann ops (depsT ops.toList []) ops.toList) i ((oisOf ann ops (depsT ops.toList []) ops.toList).drop i) (ops.toList.drop i) S fun S' =>
      behind (getA ann f) id ((match anyMake (oisOf ann ops (depsT ops.toList []) ops.toList) with
        | true => { S' with nx := S'.nx + ops.size }
        | false => S').keep (nthN (getA ann f).K id)) fun S'' => run Try.prog ann cal n f k S''
  | _ => none

/-- from some fuel on -/
def Ev (cal : Oracle) (f : Nat) (todo : List Item) (S : St) (out : Out) : Prop := ∃ m, ∀ n, m ≤ n → run Try.prog ann cal n f todo S = some out
def EvF (F : Nat → Option Out) (out : Out) : Prop := ∃ m, ∀ n, m ≤ n → F n = some out

theorem Ev.stage {cal : Oracle} {f : Nat} {todo : List Item} {S : St} {out : Out} {F : Nat → Option Out} (K : Nat) (h : ∀ n, run Try.prog ann cal (n + K) f todo S = F n) (hF : EvF F out) : Ev cal f todo S out := by
  obtain ⟨m, hm⟩ := hF
  refine ⟨m + K, fun n hn => ?_⟩
  have := h (n - K)
  rw [show n - K + K = n by omega] at this
  rw [this]
  exact hm _ (by omega)

theorem EvF.congr {F F' : Nat → Option Out} {out : Out} (h : EvF F out) (e : ∀ n, F' n = F n) : EvF F' out := by
  obtain ⟨m, hm⟩ := h
  exact ⟨m, fun n hn => by rw [e]; exact hm n hn⟩
theorem EvF.stage {F : Nat → Option Out} {out : Out} (h : ∀ n, F n = some out) : EvF F out := ⟨0, fun n _ => h n⟩
theorem Ev.at {cal : Oracle} {f : Nat} {todo : List Item} {S : St} {out : Out} (h : Ev cal f todo S out) (r : Nat) : EvF (fun n => run Try.prog ann cal (n + r) f todo S) out := by
  obtain ⟨m, hm⟩ := h
  exact ⟨m, fun n hn => hm _ (by omega)⟩
theorem EvF.mid {cal : Oracle} {f : Nat} {todo : List Item} {i : Nat} {S : St} {out : Out} {F : Nat → Option Out} (K : Nat) (h : ∀ n, midRun cal (n + K) f todo i S = F n) (hF : EvF F out) (r : Nat) : EvF (fun n => midRun cal (n + r) f todo i S) out := by
  obtain ⟨m, hm⟩ := hF
  refine ⟨m + K, fun n hn => ?_⟩
  have := h (n + r - K)
  rw [show n + r - K + K = n + r by omega] at this
  show midRun cal (n + r) f todo i S = _
  rw [this]
  exact hm _ (by omega)

theorem calN_of {cal : Oracle} {f : Nat} {args : List AV} {H : Hp} {nx : Nat} {out : Out} {S : St} (h : Ev cal f (bodyOf f) S out) (hc : ∀ n, calN Try.prog ann cal n f args H nx = run Try.prog ann cal n f (bodyOf f) S) : ∃ n, calN Try.prog ann cal n f args H nx = some out := by
  obtain ⟨m, hm⟩ := h
  exact ⟨m, by rw [hc]; exact hm m (Nat.le_refl _)⟩

end Go.Proofs.Ytjipknfohmgjaaa
