/- Operations that write their slot alone: what they write hangs on what they look at. -/
import Derived.Test.YtjipknfohmgjaaaVOp13
namespace Go.Vai

/-- a computation that hands one value on, or none -/
def Par {T : Type} (F : ∀ R : Type, (T → Option R) → Option R) : Prop := (∀ R k, F R k = none) ∨ ∃ v, ∀ R k, F R k = k v

namespace Par
variable {T U : Type}
theorem none' : Par (T := T) fun _ _ => none := .inl fun _ _ => rfl
theorem ret (v : T) : Par fun _ k => k v := .inr ⟨v, fun _ _ => rfl⟩
theorem br {b : Bool} {F G : ∀ R : Type, (T → Option R) → Option R} (h : b = true → Par F) (h2 : b = false → Par G) : Par fun R k => Vai.br b (F R k) (G R k) := by
  cases b
  · exact h2 rfl
  · exact h rfl
theorem brn {b : Bool} {F : ∀ R : Type, (T → Option R) → Option R} (h : Par F) : Par fun R k => Vai.br b (F R k) none := br (fun _ => h) fun _ => none'
theorem bind {A : Type} {o : Option A} {F : A → ∀ R : Type, (T → Option R) → Option R} (h : ∀ a, Par (F a)) : Par fun R k => o.bind fun a => F a R k := by
  cases o with
  | none => exact none'
  | some a => exact h a
theorem int? {v : AV} {F : IntKind → Int → ∀ R : Type, (T → Option R) → Option R} (h : ∀ i n, Par (F i n)) : Par fun R k => v.int? fun i n => F i n R k := by
  cases v <;> first | exact h _ _ | exact none'
theorem bool? {v : AV} {F : Bool → ∀ R : Type, (T → Option R) → Option R} (h : ∀ b, Par (F b)) : Par fun R k => v.bool? fun b => F b R k := by
  cases v <;> first | exact h _ | exact none'
theorem str? {v : AV} {F : List UInt8 → ∀ R : Type, (T → Option R) → Option R} (h : ∀ b, Par (F b)) : Par fun R k => v.str? fun b => F b R k := by
  cases v <;> first | exact h _ | exact none'
theorem agg? {v : AV} {F : List AV → ∀ R : Type, (T → Option R) → Option R} (h : ∀ b, Par (F b)) : Par fun R k => v.agg? fun b => F b R k := by
  cases v <;> first | exact h _ | exact none'
theorem cells? {v : AV} {F : List AV → ∀ R : Type, (T → Option R) → Option R} (h : ∀ b, Par (F b)) : Par fun R k => v.cells? fun b => F b R k := by
  cases v <;> first | exact h _ | exact none'
theorem comp {F : ∀ R : Type, (T → Option R) → Option R} {G : T → ∀ R : Type, (U → Option R) → Option R} (h : Par F) (h2 : ∀ v, Par (G v)) : Par fun R k => F R fun v => G v R k := by
  rcases h with h | ⟨v, h⟩
  · exact .inl fun R k => h R _
  · rcases h2 v with h2 | ⟨u, h2⟩
    · exact .inl fun R k => (h R _).trans (h2 R k)
    · exact .inr ⟨u, fun R k => (h R _).trans (h2 R k)⟩
end Par

section
variable {P : Program}

theorem par_tAggK (t : TypeId) : Par fun _ k => tAggK P t k := by
  unfold tAggK
  cases P.underlying t with
  | none => exact Par.none'
  | some d => cases d <;> exact Par.ret _
theorem par_opInt (op : BinOp) (i : IntKind) (a b : Int) : Par fun _ k => opInt op i a b k := by
  cases op <;> first | exact Par.ret _ | exact Par.none' | exact Par.br (fun _ => Par.none') fun _ => Par.ret _
theorem par_opStr (op : BinOp) (a b : List UInt8) : Par fun _ k => opStr op a b k := by
  cases op <;> first | exact Par.ret _ | exact Par.none' | exact Par.brn (Par.ret _)
theorem par_opBin (op : BinOp) (x y : AV) : Par fun _ k => opBin op x y k := by
  cases x <;> first | exact Par.none' | skip
  · rename_i i a
    refine Par.int? fun j b => ?_
    have d : Par fun _ k => Vai.br (sameKind i j) (opInt op i a b k) none := Par.brn (par_opInt op i a b)
    cases op <;> first | exact d | exact Par.br (fun _ => Par.none') fun _ => Par.ret _
  · exact Par.str? fun b => par_opStr op _ b
theorem par_eq1 (x y : AV) : Par fun _ k => eq1 x y k := by
  cases x <;> first | exact Par.none' | skip
  · exact Par.bool? fun b => Par.ret _
  · exact Par.int? fun j b => Par.brn (Par.ret _)
  · exact Par.str? fun b => Par.ret _
theorem par_eqIface (x y : AV) : Par fun _ k => eqIface P x y k := by
  cases x <;> first | exact Par.none' | skip
  · rename_i t v
    cases y <;> first | exact Par.none' | exact Par.ret _ | skip
    exact Par.br (fun _ => Par.brn (par_eq1 _ _)) fun _ => Par.ret _
  · cases y <;> first | exact Par.none' | exact Par.ret _
theorem par_eqFs (xs ys : List AV) : ∀ fs : List Field, Par fun _ k => eqFs P xs ys fs k
  | [] => Par.ret _
  | f :: fs => by
    refine Par.bind fun a => Par.bind fun b => Par.brn ?_
    refine Par.comp (par_eq1 a b) fun e => ?_
    cases e
    · exact Par.ret _
    · exact par_eqFs xs ys fs
theorem par_eqlK (op : BinOp) (b : Bool) : Par fun _ k => eqlK op b k := by
  cases op <;> first | exact Par.none' | exact Par.ret _
theorem par_opBinT (op : BinOp) (t : TypeId) (xc yc : Bool) (x y : AV) : Par fun _ k => opBinT P op t xc yc x y k := by
  have d := par_opBin op x y
  cases x <;> first | exact d | skip
  · refine Par.bool? fun b => ?_
    cases P.underlying t with
    | none => exact Par.none'
    | some dd => cases dd <;> first | exact Par.none' | (cases op <;> first | exact Par.ret _ | exact Par.none')
  · cases y <;> first | exact Par.none' | skip
    unfold opBinT
    simp only
    cases P.underlying t with
    | none => exact Par.none'
    | some dd => cases dd <;> first | exact Par.none' | (cases op <;> first | exact Par.ret _ | exact Par.none')
  · cases y <;> first | exact Par.none' | skip
    unfold opBinT
    simp only
    cases P.underlying t with
    | none => exact Par.none'
    | some dd => cases dd <;> first | exact Par.none' | (cases op <;> first | exact Par.ret _ | exact Par.none')
  · rename_i xs
    refine Par.agg? fun ys => ?_
    cases tFields P t with
    | none => exact Par.none'
    | some fs => exact Par.brn (Par.comp (par_eqFs xs ys fs) fun b => par_eqlK op b)
  · unfold opBinT
    simp only
    cases P.underlying t with
    | none => exact Par.none'
    | some dd => cases dd <;> first | exact Par.none' | exact Par.comp (par_eqIface _ _) fun b => par_eqlK op b
  · unfold opBinT
    simp only
    cases P.underlying t with
    | none => exact Par.none'
    | some dd =>
      cases dd <;> first | exact Par.none' | skip
      cases y <;> first | exact Par.brn (par_eqlK op true) | exact Par.comp (par_eqIface _ _) fun b => par_eqlK op b
theorem par_opIface (t : TypeId) (v : AV) : Par fun _ k => opIface P t v k := by
  unfold opIface
  cases P.underlying t with
  | none => exact Par.none'
  | some dd => cases dd <;> first | exact Par.none' | exact Par.ret _
theorem par_opUn (op : UnOp) (x : AV) : Par fun _ k => opUn op x k := by
  cases op <;> first | exact Par.none' | exact Par.int? fun _ _ => Par.ret _ | exact Par.bool? fun _ => Par.ret _
theorem par_partOf (ag : Bool) (sz : Nat) (cs : List AV) (off : Nat) : Par fun _ k => partOf ag sz cs off k := by
  cases ag
  · exact Par.bind (o := nth cs off) (F := fun a _ k => k a) fun a => Par.ret a
  · exact Par.brn (Par.ret _)
theorem par_opField (t : TypeId) (x : AV) (fi : Nat) : Par fun _ k => opField P t x fi k := by
  unfold opField
  cases tFields P t with
  | none => exact Par.none'
  | some fs =>
    simp only
    cases fs[fi]? with
    | none => exact Par.none'
    | some f => exact Par.agg? fun cs => Par.comp (par_tAggK _) fun ag => par_partOf _ _ _ _
theorem par_opIndex (t : TypeId) (x ix : AV) : Par fun _ k => opIndex P t x ix k := by
  refine Par.int? fun _ i => ?_
  cases P.underlying t with
  | none => exact Par.none'
  | some d =>
    cases d <;> first | exact Par.none' | skip
    · exact Par.str? fun s => Par.brn (Par.bind fun b => Par.ret _)
    · exact Par.agg? fun cs => Par.brn (Par.brn (Par.comp (par_tAggK _) fun ag => par_partOf _ _ _ _))
theorem par_fillC (place : Nat → Option (Nat × Nat)) : ∀ (l : List (Nat × AV)) (cells : List AV), Par fun _ k => fillC place cells l k
  | [], cells => Par.ret _
  | (i, v) :: rest, cells => by
    simp only [fillC]
    cases place i with
    | none => exact Par.none'
    | some x =>
      obtain ⟨off, size⟩ := x
      exact Par.cells? fun cs => Par.brn (Par.brn (par_fillC place rest _))
theorem par_bound (v : AV) (y : Nat) : Par fun _ k => v.bound? y k := Par.int? fun _ _ => Par.brn (Par.brn (Par.ret _))
theorem par_minMax (mx : Bool) (S : St) : ∀ (l : List Operand) (x : AV), Par fun _ k => minMax mx P S x l k
  | [], _ => Par.ret _
  | _ :: l, _ => Par.int? fun _ _ => Par.int? fun _ _ => par_minMax mx S l _
theorem par_lenOf (t : TypeId) (v : AV) : Par fun _ k => lenOf P t v k := by
  unfold lenOf
  cases P.underlying t with
  | none => exact Par.none'
  | some d =>
    cases d <;> first | exact Par.none' | exact Par.ret _ | exact Par.str? fun _ => Par.ret _ | (cases v <;> first | exact Par.ret _ | exact Par.none')

/-- the states agree on what the operation looks at -/
structure Same (S S' : St) (l : List Nat) : Prop where
  slot : ∀ t ∈ l, (S'.slot t).bare = (S.slot t).bare
  L : ∀ t ∈ l, ∀ d off, S.slot t = .lp d off → (getL S'.L d).map (·.cells) = (getL S.L d).map (·.cells)
  len : S'.sl.length = S.sl.length

/-- the blocks hold the same -/
def SameH (S S' : St) : Prop := ∀ i, (S'.H i).map (·.cells) = (S.H i).map (·.cells)
theorem SameH.of {S S' : St} (h : S'.H = S.H) : SameH S S' := fun i => by rw [h]
theorem SameH.symm {S S' : St} (h : SameH S S') : SameH S' S := fun i => (h i).symm
theorem SameH.bind {S S' : St} {R : Type} (h : SameH S S') (id : Nat) (F : List AV → Option R) : ((S'.H id).bind fun b => F b.cells) = (S.H id).bind fun b => F b.cells := by
  have := h id
  cases h1 : S.H id with
  | none =>
    rw [h1] at this
    cases h2 : S'.H id with
    | none => rfl
    | some b => rw [h2] at this; cases this
  | some b =>
    rw [h1] at this
    cases h2 : S'.H id with
    | none => rw [h2] at this; cases this
    | some b' =>
      rw [h2] at this
      have hc : b'.cells = b.cells := by simpa using this
      simp only [Option.bind_some, hc]

theorem bare_av (s : Slot) : s.bare.av = s.av := by cases s <;> rfl
theorem Same.ev {S S' : St} {l : List Nat} (h : Same S S' l) {x : Operand} (hx : ∀ t, x = .tmp t → t ∈ l) : S'.ev x = S.ev x := by
  cases x with
  | tmp t =>
    show (S'.slot t).av = (S.slot t).av
    rw [← bare_av, h.slot t (hx t rfl), bare_av]
  | _ => rfl
theorem Same.evT {S S' : St} {l : List Nat} (h : Same S S' l) {x : Operand} (hx : ∀ t, x = .tmp t → t ∈ l) (ty : TypeId) : evT P S' ty x = evT P S ty x := by
  cases x with
  | tmp t => exact h.ev hx
  | _ => rfl
theorem par_opBounds {S S' : St} (len : Nat) (lo hi : Option Operand) (hlo : ∀ x, lo = some x → S'.ev x = S.ev x) (hhi : ∀ x, hi = some x → S'.ev x = S.ev x) :
    (Par fun _ (k : Nat × Nat → Option _) => opBounds S len lo hi fun l h => k (l, h)) ∧ ∀ (R : Type) (k : Nat → Nat → Option R), opBounds S' len lo hi k = opBounds S len lo hi k := by
  constructor
  · have low : ∀ h, Par fun R (k : Nat × Nat → Option R) => match lo with
        | some x => (S.ev x).bound? h fun l => k (l, h)
        | none => k (0, h) := by
      intro h
      cases lo with
      | none => exact Par.ret _
      | some x => exact Par.comp (par_bound _ _) fun l => Par.ret (l, h)
    cases hi with
    | none => exact low len
    | some x => exact Par.comp (par_bound _ _) fun h => low h
  · intro R k
    unfold opBounds
    cases lo with
    | none =>
      cases hi with
      | none => rfl
      | some y => simp only; rw [hhi y rfl]
    | some x =>
      cases hi with
      | none => simp only; rw [hlo x rfl]
      | some y => simp only; rw [hhi y rfl, hlo x rfl]
end
end Go.Vai
