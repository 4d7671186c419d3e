/- Steps of proofs about runs; the oracle of this seat. -/
import Derived.Test.YtjipknfohmgjaaaDPre
import Derived.Test.YtjipknfohmgjaaaVW
namespace Go.Proofs.Ytjipknfohmgjaaa
open Go Go.Vai

theorem ble_t {a b : Nat} (h : a ≤ b) : Nat.ble a b = true := by rw [Nat.ble_eq]; exact h
theorem br_t {R : Type} {c : Bool} {x y : Option R} (h : c = true) : br c x y = x := by rw [h]; rfl
theorem br_f {R : Type} {c : Bool} {x y : Option R} (h : c = false) : br c x y = y := by rw [h]; rfl
theorem br_dt {R : Type} {p : Prop} [h : Decidable p] {x y : Option R} (hp : p) : br (decide p) x y = x := by rw [decide_eq_true hp]; rfl
theorem br_df {R : Type} {p : Prop} [h : Decidable p] {x y : Option R} (hp : ¬ p) : br (decide p) x y = y := by rw [decide_eq_false hp]; rfl

theorem pure_bytes (l : List UInt8) : pureL (l.map byteAV) = true := by
  induction l with
  | nil => rfl
  | cons x l ih => rw [List.map_cons, pureL_cons, ih]; rfl
theorem pureL_vs {sz : Nat} {tg : Bool} {l r : List AV} (h : pureL l = true) (h2 : pureL r = true) : pureL (.vs sz tg l :: r) = true := by
  rw [pureL_cons, h2, Bool.and_true]; exact h
theorem pureL_int {k : IntKind} {n : Int} {r : List AV} (h2 : pureL r = true) : pureL (.int k n :: r) = true := by
  rw [pureL_cons, h2, Bool.and_true]; rfl
theorem bytesOf_map (l : List UInt8) : bytesOf (l.map byteAV) = some l := by
  induction l with
  | nil => rfl
  | cons x l ih =>
    show (bytesOf (l.map byteAV)).bind _ = _
    rw [ih]
    simp
theorem eqS_refl (l : List UInt8) : eqS l l = true := by
  induction l with
  | nil => rfl
  | cons x l ih => simp [eqS, ih]

theorem EvF.call {cal : Oracle} {g : Nat} {args : List AV} {H : Hp} {nx : Nat} {o out : Out} {K : Nat → Out → Option Out} (h : cal g args H nx = some o) (hK : EvF (fun n => K n o) out) :
    EvF (fun n => (cal g args H nx).bind (K n)) out := hK.congr fun n => by rw [h]; rfl
theorem EvF.brt {c : Bool} {F G : Nat → Option Out} {out : Out} (h : c = true) (hF : EvF F out) : EvF (fun n => br c (F n) (G n)) out := hF.congr fun _ => br_t h
theorem EvF.brf {c : Bool} {F G : Nat → Option Out} {out : Out} (h : c = false) (hG : EvF G out) : EvF (fun n => br c (F n) (G n)) out := hG.congr fun _ => br_f h
theorem EvF.bdt {p : Prop} [hd : Decidable p] {F G : Nat → Option Out} {out : Out} (h : p) (hF : EvF F out) : EvF (fun n => br (decide p) (F n) (G n)) out := hF.congr fun _ => br_dt h
theorem EvF.bdf {p : Prop} [hd : Decidable p] {F G : Nat → Option Out} {out : Out} (h : ¬ p) (hG : EvF G out) : EvF (fun n => br (decide p) (F n) (G n)) out := hG.congr fun _ => br_df h
theorem EvF.bnt {p : Prop} [hd : Decidable p] {F G : Nat → Option Out} {out : Out} (h : ¬ p) (hF : EvF F out) : EvF (fun n => br (!decide p) (F n) (G n)) out := hF.congr fun _ => br_t (by rw [decide_eq_false h]; rfl)
theorem EvF.bnf {p : Prop} [hd : Decidable p] {F G : Nat → Option Out} {out : Out} (h : p) (hG : EvF G out) : EvF (fun n => br (!decide p) (F n) (G n)) out := hG.congr fun _ => br_f (by rw [decide_eq_true h]; rfl)
theorem Ev.same {cal : Oracle} {f : Nat} {todo : List Item} {S S' : St} {out : Out} {F : Nat → Option Out} (K : Nat) (h : ∀ n, run Try.prog ann cal (n + K) f todo S = F n) (h' : ∀ n, run Try.prog ann cal (n + K) f todo S' = F n) (hS : Ev cal f todo S out) : Ev cal f todo S' out :=
  Ev.stage K h' ((hS.at K).congr fun n => (h n).symm)
theorem EvF.ret {out : Out} : EvF (fun _ => some out) out := ⟨0, fun _ _ => rfl⟩
theorem EvF.ret' {o out : Out} (h : o = out) : EvF (fun _ => some o) out := h ▸ ⟨0, fun _ _ => rfl⟩

theorem mixed : Try.prog.follows .mixedOrders = true := by kernel_rfl
theorem names : (Try.prog.funcs.toList.all fun fn => !(fn.name == "runtime.NumGoroutine")) = true := by kernel_rfl
theorem noNum (f : Nat) (fn : Func) (h : Try.prog.funcs[f]? = some fn) : fn.name ≠ "runtime.NumGoroutine" := by
  intro he
  have h1 := List.all_eq_true.1 names fn (Array.mem_toList_iff.2 (Array.mem_of_getElem? h))
  rw [he] at h1
  simp at h1

/-- the sanity check alone, run by the kernel -/
noncomputable def base : Oracle := baseCal 16 (lvl Try.prog ann 1000 8)
theorem base_ok : CalOk Try.prog ann base := baseCal_ok (calOk_lvl mixed noNum 1000 8) 16
theorem awake_true : ((base 16 [] Hp.none 0).bind fun o => some o.v) = some (.bool true) := by kernel_rfl

/-- calls to a depth -/
noncomputable def CW (d : Nat) : Oracle := calW Try.prog ann base d
theorem CW_ok (d : Nat) : CalOk Try.prog ann (CW d) := calW_ok mixed noNum base_ok d
theorem cw_awake (d : Nat) : ∃ o : Out, o.v = .bool true ∧ CW d 16 [] Hp.none 0 = some o := by
  have h := awake_true
  cases hb : base 16 [] Hp.none 0 with
  | none => rw [hb] at h; cases h
  | some o =>
    rw [hb] at h
    injection h with h
    exact ⟨o, h, calW_base hb d⟩
theorem cw {d g : Nat} {args : List AV} {H : Hp} {nx : Nat} {out : Out} {S : St} (hg : base g args H nx = none) (h : Ev (CW d) g (bodyOf g) S out) (hc : ∀ n, calN Try.prog ann (CW d) n g args H nx = run Try.prog ann (CW d) n g (bodyOf g) S) : CW (d + 1) g args H nx = some out := by
  refine calW_of hg ?_
  obtain ⟨m, hm⟩ := h
  exact ⟨m, fun n hn => (hc n).trans (hm n hn)⟩

end Go.Proofs.Ytjipknfohmgjaaa
