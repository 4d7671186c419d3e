/- Each such operation. -/
import Derived.Test.YtjipknfohmgjaaaVDag1
namespace Go.Vai

section
variable {P : Program} {A : List (Nat × Ann)} {an : Ann} {isRes : Nat → Bool} {cal : Oracle} {o : Oper} {S S' : St} {l : List Nat}

/-- it writes its slot alone, and the same under both states -/
def Uni (P : Program) (A : List (Nat × Ann)) (an : Ann) (isRes : Nat → Bool) (cal : Oracle) (o : Oper) (S S' : St) : Prop :=
  (∀ (R : Type) (k : St → Option R), absOp P A an isRes cal o S k = none) ∨
  ∃ s, (∀ (R : Type) (k : St → Option R), absOp P A an isRes cal o S k = k (S.putd o.dst s)) ∧ ∀ (R : Type) (k : St → Option R), absOp P A an isRes cal o S' k = k (S'.putd o.dst s)

theorem Uni.of {T : Type} {F : ∀ R : Type, (T → Option R) → Option R} (hp : Par F) (mk : T → Slot) (h1 : ∀ (R : Type) (k : St → Option R), absOp P A an isRes cal o S k = F R fun v => k (S.putd o.dst (mk v)))
    (h2 : ∀ (R : Type) (k : St → Option R), absOp P A an isRes cal o S' k = F R fun v => k (S'.putd o.dst (mk v))) : Uni P A an isRes cal o S S' := by
  rcases hp with hp | ⟨v, hp⟩
  · exact .inl fun R k => (h1 R k).trans (hp R _)
  · exact .inr ⟨mk v, fun R k => (h1 R k).trans (hp R _), fun R k => (h2 R k).trans (hp R _)⟩

theorem bare_lp {s s' : Slot} (h : s'.bare = s.bare) {d off : Nat} (hs : s = .lp d off) : s' = .lp d off := by
  subst hs; cases s' <;> simp [Slot.bare] at h ⊢ <;> exact h
theorem bare_val {s s' : Slot} (h : s'.bare = s.bare) {v : AV} {f : Fl} (hs : s = .val v f) : ∃ f', s' = .val v f' := by
  subst hs; cases s' <;> simp [Slot.bare] at h ⊢ <;> exact h
theorem bare_und {s s' : Slot} (h : s'.bare = s.bare) (hs : s = .und) : s' = .und := by
  subst hs; cases s' <;> simp [Slot.bare] at h ⊢

theorem par_elemsOf (ag : Bool) (sz : Nat) (v : AV) : Par fun _ k => elemsOf ag sz v S k := by
  cases v <;> first | exact Par.none' | skip
  · rename_i s
    unfold elemsOf
    simp only
    cases Nat.beq sz 1 with
    | true => exact Par.ret _
    | false => exact Par.none'
  · rename_i z tg l
    unfold elemsOf
    simp only
    cases Nat.beq z sz with
    | true => exact Par.ret _
    | false => cases l with
      | nil => exact Par.ret _
      | cons _ _ => exact Par.none'
  · rename_i id off len z
    unfold elemsOf
    simp only
    cases ag with
    | true => exact Par.none'
    | false =>
      cases Nat.beq z sz with
      | false => exact Par.none'
      | true => cases Nat.beq sz 1 with
        | false => exact Par.none'
        | true => exact Par.bind fun b => Par.brn (Par.ret _)
theorem elemsOf_congr {R : Type} (ag : Bool) (sz : Nat) (v : AV) (k : List AV → Option R) (h : SameH S S' ∨ ∀ id off len z, v ≠ .arr id off len z) : elemsOf ag sz v S' k = elemsOf ag sz v S k := by
  cases v <;> first | rfl | skip
  rename_i id off len z
  rcases h with h | h
  · unfold elemsOf
    simp only
    cases ag <;> cases Nat.beq z sz <;> cases Nat.beq sz 1 <;> first | rfl | exact h.bind id fun cs => br (Nat.ble (off + len) cs.length) (k ((cs.drop off).take len)) none
  · exact absurd rfl (h _ _ _ _)

theorem partsOf_congr (ty : Nat → TypeId) : ∀ (ps : List (Nat × Operand)), (∀ i x, (i, x) ∈ ps → ∀ t, evT P S' t x = evT P S t x) → partsOf P S' ty ps = partsOf P S ty ps
  | [], _ => rfl
  | (i, x) :: l, h => by
    simp only [partsOf]
    rw [h i x List.mem_cons_self, partsOf_congr ty l fun i x hx => h i x (List.mem_cons_of_mem _ hx)]

theorem minMax_congr {R : Type} (mx : Bool) : ∀ (l : List Operand) (x : AV) (k : AV → Option R), (∀ y ∈ l, S'.ev y = S.ev y) → minMax mx P S' x l k = minMax mx P S x l k
  | [], x, k, _ => rfl
  | y :: l, x, k, h => by
    simp only [minMax]
    rw [h y List.mem_cons_self]
    congr 1; funext i a; congr 1; funext _ b
    exact minMax_congr mx l _ _ fun y hy => h y (List.mem_cons_of_mem _ hy)

theorem uni_binOp {op : BinOp} {t ty : TypeId} {x y : Operand} (ho : o.op = .binOp op t x y ty) (hx : S'.ev x = S.ev x) (hy : S'.ev y = S.ev y) : Uni P A an isRes cal o S S' :=
  .of (par_opBinT (P := P) op t (isConst x) (isConst y) (S.ev x) (S.ev y)) (fun v => .val v .no) (fun R k => by simp only [absOp, ho]) (fun R k => by simp only [absOp, ho, hx, hy])
theorem uni_unOp {op : UnOp} {t : TypeId} {x : Operand} (ho : o.op = .unOp op t x) (hx : S'.ev x = S.ev x) : Uni P A an isRes cal o S S' :=
  .of (par_opUn op (S.ev x)) (fun v => .val v .no) (fun R k => by simp only [absOp, ho]) (fun R k => by simp only [absOp, ho, hx])
theorem uni_iface {t : TypeId} {x : Operand} (ho : o.op = .makeInterface t x) (hx : evT P S' t x = evT P S t x) : Uni P A an isRes cal o S S' :=
  .of (par_opIface (P := P) t (evT P S t x)) (fun v => .val v .no) (fun R k => by simp only [absOp, ho]) (fun R k => by simp only [absOp, ho, hx])
theorem bare_mp {s s' : Slot} (h : s'.bare = s.bare) {d : Nat} (hs : s = .mp d) : s' = .mp d := by
  subst hs; cases s' <;> simp [Slot.bare] at h ⊢ <;> exact h
theorem uni_pick {c x y : Operand} (ho : o.op = .pick c x y) (hc : S'.ev c = S.ev c) (hx : S'.ev x = S.ev x) (hy : S'.ev y = S.ev y) : Uni P A an isRes cal o S S' :=
  .of (F := fun R k => (S.ev c).bool? fun b => br b (k (S.ev x)) (k (S.ev y))) (Par.bool? fun b => Par.br (fun _ => Par.ret _) fun _ => Par.ret _) (fun v => .val v .no) (fun R k => by simp only [absOp, ho, opPick]) (fun R k => by simp only [absOp, ho, opPick, hc, hx, hy])
theorem uni_field {t : TypeId} {x : Operand} {fi : Nat} (ho : o.op = .field t x fi) (hx : S'.ev x = S.ev x) : Uni P A an isRes cal o S S' :=
  .of (par_opField (P := P) t (S.ev x) fi) (fun v => .val v .no) (fun R k => by simp only [absOp, ho]) (fun R k => by simp only [absOp, ho, hx])
theorem uni_index {t : TypeId} {x y : Operand} (ho : o.op = .index t x y) (hx : S'.ev x = S.ev x) (hy : S'.ev y = S.ev y) : Uni P A an isRes cal o S S' :=
  .of (par_opIndex (P := P) t (S.ev x) (S.ev y)) (fun v => .val v .no) (fun R k => by simp only [absOp, ho]) (fun R k => by simp only [absOp, ho, hx, hy])
theorem uni_move {x : Operand} (ho : o.op = .move x) (hx : ∀ t, x ≠ .tmp t) : Uni P A an isRes cal o S S' := by
  cases x with
  | tmp t => exact absurd rfl (hx t)
  | const c => exact .inr ⟨.val (ofConst P o.type c) .no, fun R k => by simp only [absOp, ho, opMove], fun R k => by simp only [absOp, ho, opMove]⟩
  | func f => exact .inr ⟨.val (.func f []) .no, fun R k => by simp only [absOp, ho, opMove], fun R k => by simp only [absOp, ho, opMove]⟩
  | global _ => exact .inl fun R k => by simp only [absOp, ho, opMove]

theorem uni_nilCheck {x : Operand} (ho : o.op = .nilCheck x) (hx : ∀ t, x = .tmp t → (S'.slot t).bare = (S.slot t).bare) : Uni P A an isRes cal o S S' := by
  have e : ∀ (T : St) (R : Type) (k : St → Option R), absOp P A an isRes cal o T k = opNilCheck o x T k := fun T R k => by simp only [absOp, ho]
  unfold Uni
  simp only [e]
  cases x with
  | const c => exact .inl fun R k => rfl
  | global g => exact .inl fun R k => rfl
  | func f => exact .inr ⟨.val (.func f []) .no, fun R k => rfl, fun R k => rfl⟩
  | tmp t =>
    have hb := hx t rfl
    cases hs : S.slot t with
    | und => exact .inl fun R k => by simp only [opNilCheck, hs]
    | lp d off =>
      have hs' := bare_lp hb hs
      exact .inr ⟨.lp d off, fun R k => by simp only [opNilCheck, hs], fun R k => by simp only [opNilCheck, hs']⟩
    | mp d => exact .inl fun R k => by simp only [opNilCheck, hs]
    | val v f =>
      obtain ⟨f', hs'⟩ := bare_val hb hs
      cases v with
      | ptr id off => exact .inr ⟨.val (.ptr id off) .no, fun R k => by simp only [opNilCheck, hs], fun R k => by simp only [opNilCheck, hs']⟩
      | cptr cs => exact .inr ⟨.val (.cptr cs) .no, fun R k => by simp only [opNilCheck, hs], fun R k => by simp only [opNilCheck, hs']⟩
      | func fn caps =>
        cases caps with
        | nil => exact .inr ⟨.val (.func fn []) .no, fun R k => by simp only [opNilCheck, hs], fun R k => by simp only [opNilCheck, hs']⟩
        | cons _ _ => exact .inl fun R k => by simp only [opNilCheck, hs]
      | _ => exact .inl fun R k => by simp only [opNilCheck, hs]

theorem uni_fieldAddr {ty : TypeId} {x : Operand} {fi : Nat} (ho : o.op = .fieldAddr ty x fi) (hx : ∀ t, x = .tmp t → (S'.slot t).bare = (S.slot t).bare) : Uni P A an isRes cal o S S' := by
  have e : ∀ (T : St) (R : Type) (k : St → Option R), absOp P A an isRes cal o T k = opFieldAddr P o ty x fi T k := fun T R k => by simp only [absOp, ho]
  unfold Uni
  simp only [e]
  unfold opFieldAddr
  cases tFields P ty with
  | none => exact .inl fun R k => rfl
  | some fs =>
    simp only
    cases fs[fi]? with
    | none => exact .inl fun R k => rfl
    | some f =>
      simp only
      cases Nat.beq (tSize P f.type) 0 with
      | true => exact .inl fun R k => rfl
      | false =>
        simp only
        cases x with
        | const c => exact .inl fun R k => rfl
        | global g => exact .inl fun R k => rfl
        | func f => exact .inl fun R k => rfl
        | tmp t =>
          have hb := hx t rfl
          simp only
          cases hs : S.slot t with
          | und => exact .inl fun R k => rfl
          | lp d off =>
            rw [bare_lp hb hs]
            exact .inr ⟨_, fun R k => rfl, fun R k => rfl⟩
          | mp d => exact .inl fun R k => rfl
          | val v fl =>
            obtain ⟨f', hs'⟩ := bare_val hb hs
            rw [hs']
            cases v with
            | ptr id off => exact .inr ⟨_, fun R k => rfl, fun R k => rfl⟩
            | cptr cs => exact .inr ⟨_, fun R k => rfl, fun R k => rfl⟩
            | _ => exact .inl fun R k => rfl

/-- the boxes hold the same -/
def SameL (S S' : St) : Prop := ∀ d, (getL S'.L d).map (·.cells) = (getL S.L d).map (·.cells)

/-- it writes its slot alone; the same value under both states, the same right too where the memory is the same -/
def Uni2 (P : Program) (A : List (Nat × Ann)) (an : Ann) (isRes : Nat → Bool) (cal : Oracle) (o : Oper) (S S' : St) : Prop :=
  (∀ (R : Type) (k : St → Option R), absOp P A an isRes cal o S k = none) ∨
  ∃ s s', (∀ (R : Type) (k : St → Option R), absOp P A an isRes cal o S k = k (S.putd o.dst s)) ∧ (∀ (R : Type) (k : St → Option R), absOp P A an isRes cal o S' k = k (S'.putd o.dst s')) ∧
    s'.bare = s.bare ∧ (S'.L = S.L → S'.H = S.H → s' = s)
theorem Uni.two (h : Uni P A an isRes cal o S S') : Uni2 P A an isRes cal o S S' := by
  rcases h with h | ⟨s, h1, h2⟩
  · exact .inl h
  · exact .inr ⟨s, s, h1, h2, rfl, fun _ _ => rfl⟩

theorem uni_load {ty : TypeId} {x : Operand} (ho : o.op = .load ty x) (hx : ∀ t, x = .tmp t → (S'.slot t).bare = (S.slot t).bare) (hL : ∀ t, x = .tmp t → ∀ d off, S.slot t = .lp d off → (getL S'.L d).map (·.cells) = (getL S.L d).map (·.cells)) (hH : SameH S S' ∨ floatOk o S = true) : Uni2 P A an isRes cal o S S' := by
  by_cases hgx : ∃ gi, x = .global gi
  · obtain ⟨gi, rfl⟩ := hgx
    exact (Uni.of (F := fun R k => (globOf A gi).bind fun cs => tAggK P ty fun ag => partOf ag (tSize P ty) cs 0 k) (Par.bind fun cs => Par.comp (par_tAggK ty) fun ag => par_partOf _ _ _ _) (fun v => .val v .no) (fun R k => by simp only [absOp, ho, opLoadA]) (fun R k => by simp only [absOp, ho, opLoadA])).two
  have e : ∀ (T : St) (R : Type) (k : St → Option R), absOp P A an isRes cal o T k = opLoad P o ty x T k := fun T R k => by
    simp only [absOp, ho]
    cases x with
    | global gi => exact absurd ⟨gi, rfl⟩ hgx
    | _ => rfl
  unfold Uni2
  simp only [e]
  have get : ∀ (cells : List AV) (off : Nat), (∀ (f : Fl) (R : Type) (k : Slot → Option R), (tAggK P ty fun ag => match ag with
      | true => br (Nat.ble (off + tSize P ty) cells.length) (k (.val (.agg ((cells.drop off).take (tSize P ty))) .no)) none
      | false => (nth cells off).bind fun c => k (.val c f)) = none) ∨ ∃ c : AV, ∃ ag : Bool, ∀ (f : Fl) (R : Type) (k : Slot → Option R), (tAggK P ty fun ag => match ag with
      | true => br (Nat.ble (off + tSize P ty) cells.length) (k (.val (.agg ((cells.drop off).take (tSize P ty))) .no)) none
      | false => (nth cells off).bind fun c => k (.val c f)) = k (.val c (match ag with
        | true => .no
        | false => f)) := by
    intro cells off
    rcases par_tAggK (P := P) ty with h | ⟨ag, h⟩
    · exact .inl fun f R k => h R _
    · cases ag with
      | false =>
        cases hn : nth cells off with
        | none => exact .inl fun f R k => (h R _).trans rfl
        | some c => exact .inr ⟨c, false, fun f R k => (h R _).trans rfl⟩
      | true =>
        cases hb : Nat.ble (off + tSize P ty) cells.length with
        | false => exact .inl fun f R k => (h R _).trans rfl
        | true => exact .inr ⟨.agg ((cells.drop off).take (tSize P ty)), true, fun f R k => (h R _).trans rfl⟩
  cases x with
  | const c => exact .inl fun R k => rfl
  | global g => exact .inl fun R k => rfl
  | func f => exact .inl fun R k => rfl
  | tmp t =>
    have hb := hx t rfl
    unfold opLoad
    simp only
    cases hs : S.slot t with
    | und => exact .inl fun R k => rfl
    | lp d off =>
      rw [bare_lp hb hs]
      simp only
      have hLd := hL t rfl d off hs
      cases hL2 : getL S.L d with
      | none => exact .inl fun R k => rfl
      | some b =>
        rw [hL2] at hLd
        cases hL3 : getL S'.L d with
        | none => rw [hL3] at hLd; cases hLd
        | some b' =>
          rw [hL3] at hLd
          have hcell : b'.cells = b.cells := by simpa using hLd
          rcases get b.cells off with hp | ⟨c, ag, hp⟩
          · exact .inl fun R k => hp _ R fun s => k (S.putd o.dst s)
          · refine .inr ⟨_, .val c (match (generalizing := false) ag with
              | true => .no
              | false => match memN off b'.free with
                | true => .lL d off
                | false => .no), fun R k => hp _ R fun s => k (S.putd o.dst s), fun R k => ?_, rfl, fun h1 h2 => ?_⟩
            · simp only [Option.bind_some, hcell]
              exact hp _ R fun s => k (S'.putd o.dst s)
            · rw [h1, hL2] at hL3
              injection hL3 with hL3
              subst hL3
              rfl
    | mp d => exact .inl fun R k => rfl
    | val v fl =>
      obtain ⟨f', hs'⟩ := bare_val hb hs
      rw [hs']
      have hH' : SameH S S' := by
        rcases hH with h | h
        · exact h
        · simp only [floatOk, ho, hs] at h; cases h
      cases v with
      | ptr id off =>
        have hb' := hH' id
        simp only
        cases hL2 : S.H id with
        | none => exact .inl fun R k => rfl
        | some b =>
          rw [hL2] at hb'
          cases hL3 : S'.H id with
          | none => rw [hL3] at hb'; cases hb'
          | some b' =>
          rw [hL3] at hb'
          have hcell : b'.cells = b.cells := by simpa using hb'
          simp only [hL3, Option.bind_some, hcell]
          rcases get b.cells off with hp | ⟨c, ag, hp⟩
          · exact .inl fun R k => hp _ R fun s => k (S.putd o.dst s)
          · exact .inr ⟨_, _, fun R k => hp _ R fun s => k (S.putd o.dst s), fun R k => hp _ R fun s => k (S'.putd o.dst s), rfl, fun _ _ => rfl⟩
      | cptr cs =>
        rcases get cs 0 with hp | ⟨c, ag, hp⟩
        · exact .inl fun R k => hp _ R fun s => k (S.putd o.dst s)
        · exact .inr ⟨_, _, fun R k => hp _ R fun s => k (S.putd o.dst s), fun R k => hp _ R fun s => k (S'.putd o.dst s), rfl, fun _ _ => rfl⟩
      | _ => exact .inl fun R k => rfl

theorem uni_convert {st dt : TypeId} {x : Operand} (ho : o.op = .convert st dt x) (hx : ∀ t, evT P S' t x = evT P S t x) (hH : SameH S S' ∨ ∀ id off len z, evT P S st x ≠ .arr id off len z) : Uni P A an isRes cal o S S' := by
  have e : ∀ (T : St) (R : Type) (k : St → Option R), absOp P A an isRes cal o T k = opConvert P o st dt (evT P T st x) T k := fun T R k => by simp only [absOp, ho]
  unfold Uni
  simp only [e, hx]
  have fin : ∀ (F : ∀ R : Type, (AV → Option R) → Option R), Par F → (∀ (T : St), (T = S ∨ T = S') → ∀ (R : Type) (k : St → Option R), opConvert P o st dt (evT P S st x) T k = F R fun v => k (T.putd o.dst (.val v .no))) →
      (∀ (R : Type) (k : St → Option R), opConvert P o st dt (evT P S st x) S k = none) ∨ ∃ s, (∀ (R : Type) (k : St → Option R), opConvert P o st dt (evT P S st x) S k = k (S.putd o.dst s)) ∧ ∀ (R : Type) (k : St → Option R), opConvert P o st dt (evT P S st x) S' k = k (S'.putd o.dst s) := by
    intro F hp hF
    rcases hp with hp | ⟨v, hp⟩
    · exact .inl fun R k => (hF S (.inl rfl) R k).trans (hp R _)
    · exact .inr ⟨.val v .no, fun R k => (hF S (.inl rfl) R k).trans (hp R _), fun R k => (hF S' (.inr rfl) R k).trans (hp R _)⟩
  have dead : (∀ (T : St) (R : Type) (k : St → Option R), opConvert P o st dt (evT P S st x) T k = none) → (∀ (R : Type) (k : St → Option R), opConvert P o st dt (evT P S st x) S k = none) ∨ ∃ s, (∀ (R : Type) (k : St → Option R), opConvert P o st dt (evT P S st x) S k = k (S.putd o.dst s)) ∧ ∀ (R : Type) (k : St → Option R), opConvert P o st dt (evT P S st x) S' k = k (S'.putd o.dst s) := fun h => .inl fun R k => h S R k
  cases h1 : P.underlying st with
  | none => exact dead fun T R k => by simp only [opConvert, h1]
  | some a =>
    cases h2 : P.underlying dt with
    | none => exact dead fun T R k => by unfold opConvert; rw [h1, h2]; cases a <;> rfl
    | some b =>
      cases a <;> first | (refine dead fun T R k => ?_; simp only [opConvert, h1, h2]; done) | skip
      · cases b <;> first | (refine dead fun T R k => ?_; simp only [opConvert, h1, h2]; done) | skip
        rename_i i j
        exact fin (fun R k => (evT P S st x).int? fun _ n => k (.int j (j.wrap n))) (Par.int? fun _ _ => Par.ret _) fun T _ R k => by simp only [opConvert, h1, h2]
      · cases b <;> first | (refine dead fun T R k => ?_; simp only [opConvert, h1, h2]; done) | skip
        · exact fin (fun R k => (evT P S st x).str? fun s => k (.str s)) (Par.str? fun _ => Par.ret _) fun T _ R k => by simp only [opConvert, h1, h2]
        · rename_i e
          cases h3 : P.underlying e with
          | none => exact fin (fun R k => (evT P S st x).str? fun s => none) (Par.str? fun _ => Par.none') fun T _ R k => by simp only [opConvert, h1, h2, h3]
          | some c =>
            cases c <;> first | (refine fin (fun R k => (evT P S st x).str? fun s => none) (Par.str? fun _ => Par.none') fun T _ R k => ?_; simp only [opConvert, h1, h2, h3]; done) | skip
            rename_i kk
            cases kk <;> first | (refine fin (fun R k => (evT P S st x).str? fun s => none) (Par.str? fun _ => Par.none') fun T _ R k => ?_; simp only [opConvert, h1, h2, h3]; done) | skip
            cases h4 : Nat.beq (tSize P e) 1 with
            | false => exact fin (fun R k => (evT P S st x).str? fun s => none) (Par.str? fun _ => Par.none') fun T _ R k => by simp only [opConvert, h1, h2, h3, h4]
            | true => exact fin (fun R k => (evT P S st x).str? fun s => k (.vs 1 false (s.map byteAV))) (Par.str? fun _ => Par.ret _) fun T _ R k => by simp only [opConvert, h1, h2, h3, h4]
      · rename_i e
        cases b <;> first | (refine dead fun T R k => ?_; simp only [opConvert, h1, h2]; done) | skip
        cases h3 : P.underlying e with
        | none => exact dead fun T R k => by simp only [opConvert, h1, h2, h3]
        | some c =>
          cases c <;> first | (refine dead fun T R k => ?_; simp only [opConvert, h1, h2, h3]; done) | skip
          rename_i kk
          cases kk <;> first | (refine dead fun T R k => ?_; simp only [opConvert, h1, h2, h3]; done) | skip
          have hh : ∀ (T : St), (T = S ∨ T = S') → ∀ (R : Type) (k : List AV → Option R), elemsOf false 1 (evT P S st x) T k = elemsOf false 1 (evT P S st x) S k := by
            rintro T (rfl | rfl) R k
            · rfl
            · exact elemsOf_congr _ _ _ _ hH
          by_cases hstr : ∃ s, evT P S st x = .str s
          · obtain ⟨s, hs⟩ := hstr
            exact dead fun T R k => by simp only [opConvert, h1, h2, h3, hs]
          · refine fin (fun R k => elemsOf false 1 (evT P S st x) S fun l => (bytesOf l).bind fun s => k (.str s)) (Par.comp (par_elemsOf _ _ _) fun l => Par.bind fun s => Par.ret _) fun T hT R k => ?_
            rw [← hh T hT]
            simp only [opConvert, h1, h2, h3]
            cases hv : evT P S st x with
            | str s => exact absurd ⟨s, hv⟩ hstr
            | _ => rfl

theorem par_bd {T : Type} {len : Nat} {lo hi : Option Operand} {G : Nat → Nat → ∀ R : Type, (T → Option R) → Option R} (h : ∀ l hh, Par (G l hh)) : Par fun R k => opBounds S len lo hi fun l hh => G l hh R k :=
  Par.comp (F := fun R (k : Nat × Nat → Option R) => opBounds S len lo hi fun l h => k (l, h)) (G := fun p R k => G p.1 p.2 R k) (par_opBounds (S := S) (S' := S) len lo hi (fun _ _ => rfl) (fun _ _ => rfl)).1 fun p => h p.1 p.2
theorem par_opSliceV (t : TypeId) (x : Operand) (lo hi mx : Option Operand) : Par fun _ k => opSliceV P t x lo hi mx S k := by
  unfold opSliceV
  cases P.underlying t with
  | none => exact Par.none'
  | some a =>
    cases a with
    | string =>
      cases mx with
      | some m => exact Par.none'
      | none => exact Par.str? fun s => par_bd fun l h => Par.ret _
    | slice el =>
      simp only
      cases Nat.beq (tSize P el) 0 with
      | true => exact Par.none'
      | false =>
        simp only
        cases S.ev x with
        | vs z tg v =>
          simp only
          cases Nat.beq z (tSize P el) with
          | false => exact Par.none'
          | true =>
            cases mx with
            | none => exact par_bd fun l h => Par.ret _
            | some m =>
              cases hi with
              | none => exact Par.none'
              | some hh => exact par_bd fun l h => Par.int? fun _ j => Par.brn (Par.ret _)
        | arr id off len z =>
          simp only
          cases Nat.beq z (tSize P el) with
          | false => exact Par.none'
          | true =>
            cases mx with
            | none => exact par_bd fun l h => Par.br (fun _ => Par.ret _) fun _ => Par.ret _
            | some m =>
              cases hi with
              | none => exact Par.none'
              | some hh => exact par_bd fun l h => Par.int? fun _ j => Par.brn (Par.br (fun _ => Par.ret _) fun _ => Par.ret _)
        | _ => exact Par.none'
    | _ => exact Par.none'
theorem uni_slice {ty : TypeId} {x : Operand} {lo hi mx : Option Operand} (ho : o.op = .slice ty x lo hi mx) (hx : S'.ev x = S.ev x) (hlo : ∀ y, lo = some y → S'.ev y = S.ev y) (hhi : ∀ y, hi = some y → S'.ev y = S.ev y) (hmx : ∀ y, mx = some y → S'.ev y = S.ev y) : Uni P A an isRes cal o S S' := by
  refine .of (par_opSliceV (P := P) (S := S) ty x lo hi mx) (fun v => .val v .no) (fun R k => by simp only [absOp, ho, opSlice]) (fun R k => ?_)
  have hb : ∀ (len : Nat) (R : Type) (k : Nat → Nat → Option R), opBounds S' len lo hi k = opBounds S len lo hi k := fun len R k => (par_opBounds len lo hi hlo hhi).2 R k
  simp only [absOp, ho, opSlice]
  unfold opSliceV
  cases mx with
  | none => simp only [hx, hb]
  | some m => simp only [hx, hb, hmx m rfl]

theorem uni_indexAddr {ty : TypeId} {x ix : Operand} (ho : o.op = .indexAddr ty x ix) (hx : ∀ t, x = .tmp t → (S'.slot t).bare = (S.slot t).bare) (hev : S'.ev x = S.ev x) (hix : S'.ev ix = S.ev ix) : Uni P A an isRes cal o S S' := by
  by_cases hgx : ∃ gi, x = .global gi
  · obtain ⟨gi, rfl⟩ := hgx
    refine Uni.of (F := fun R k => (globOf A gi).bind fun cs => (S.ev ix).int? fun _ i => idxG P ty cs i k) (Par.bind fun cs => Par.int? fun _ i => ?_) (fun v => .val v .no) (fun R k => by simp only [absOp, ho, opIndexAddrA]) (fun R k => by simp only [absOp, ho, opIndexAddrA, hix])
    unfold idxG
    cases P.underlying ty with
    | none => exact Par.none'
    | some dd =>
      cases dd <;> first | exact Par.none' | skip
      rename_i len el
      simp only
      cases Nat.beq (tSize P el) 0 with
      | true => exact Par.none'
      | false => exact Par.brn (Par.brn (Par.brn (Par.ret _)))
  have e : ∀ (T : St) (R : Type) (k : St → Option R), absOp P A an isRes cal o T k = opIndexAddr P o ty x ix T k := fun T R k => by
    simp only [absOp, ho]
    cases x with
    | global gi => exact absurd ⟨gi, rfl⟩ hgx
    | _ => rfl
  unfold Uni
  simp only [e]
  unfold opIndexAddr
  rw [hix, hev]
  have fin : ∀ (F : ∀ R : Type, (Slot → Option R) → Option R), Par F → (∀ R (k : St → Option R), (F R fun s => k (S.putd o.dst s)) = none) ∨ ∃ s, (∀ R (k : St → Option R), (F R fun s => k (S.putd o.dst s)) = k (S.putd o.dst s)) ∧ ∀ R (k : St → Option R), (F R fun s => k (S'.putd o.dst s)) = k (S'.putd o.dst s) := by
    intro F hp
    rcases hp with hp | ⟨v, hp⟩
    · exact .inl fun R k => hp R _
    · exact .inr ⟨v, fun R k => hp R _, fun R k => hp R _⟩
  cases hi : S.ev ix with
  | int kk i =>
    simp only [AV.int?]
    cases P.underlying ty with
    | none => exact .inl fun R k => rfl
    | some a =>
      cases a with
      | slice el =>
        simp only
        cases Nat.beq (tSize P el) 0 with
        | true => exact .inl fun R k => rfl
        | false =>
          simp only
          cases S.ev x with
          | vs z tg l =>
            simp only
            cases Nat.beq z (tSize P el) with
            | false => exact .inl fun R k => rfl
            | true => exact fin (fun R k => br (decide (0 ≤ i)) (br (decide (i < (l.length : Int))) ((nth l i.toNat).bind fun c => k (.val (.cptr c.cells) .no)) none) none) (Par.brn (Par.brn (Par.bind fun c => Par.ret (Slot.val (.cptr c.cells) .no))))
          | arr id off len z =>
            simp only
            cases Nat.beq z (tSize P el) with
            | false => exact .inl fun R k => rfl
            | true => exact fin (fun R k => br (decide (0 ≤ i)) (br (decide (i < (len : Int))) (k (.val (.ptr id (off + i.toNat * z)) .no)) none) none) (Par.brn (Par.brn (Par.ret _)))
          | _ => exact .inl fun R k => rfl
      | array len el =>
        simp only
        cases x with
        | tmp tx =>
          have hb := hx tx rfl
          simp only
          cases Nat.beq (tSize P el) 0 with
          | true => exact .inl fun R k => rfl
          | false =>
            simp only
            cases hs : S.slot tx with
            | und => exact .inl fun R k => rfl
            | lp d off =>
              rw [bare_lp hb hs]
              exact fin (fun R k => br (decide (0 ≤ i)) (br (decide (i < (len : Int))) (k (.lp d (off + i.toNat * tSize P el))) none) none) (Par.brn (Par.brn (Par.ret _)))
            | mp d => exact .inl fun R k => rfl
            | val v f =>
              obtain ⟨f', hs'⟩ := bare_val hb hs
              rw [hs']
              cases v with
              | ptr id off => exact fin (fun R k => br (decide (0 ≤ i)) (br (decide (i < (len : Int))) (k (.val (.ptr id (off + i.toNat * tSize P el)) .no)) none) none) (Par.brn (Par.brn (Par.ret _)))
              | _ => exact .inl fun R k => rfl
        | _ => exact .inl fun R k => rfl
      | _ => exact .inl fun R k => rfl
  | _ => exact .inl fun R k => rfl

theorem par_opBuild (t : TypeId) (parts : List (Nat × Operand)) : Par fun _ k => opBuild P t parts S k := by
  unfold opBuild
  cases zeroCells P t with
  | none => exact Par.none'
  | some z =>
    simp only
    cases P.underlying t with
    | none => exact Par.none'
    | some d =>
      cases d with
      | struct fs =>
        simp only
        cases placesOf P fs.toList with
        | none => exact Par.none'
        | some pl => exact Par.comp (par_fillC _ _ _) fun cs => Par.ret _
      | array n e =>
        simp only
        cases P.info? e with
        | none => exact Par.none'
        | some ie => exact Par.comp (par_fillC _ _ _) fun cs => Par.ret _
      | _ => exact Par.none'
theorem par_opBuildSlice (t : TypeId) (len : Nat) (parts : List (Nat × Operand)) : Par fun _ k => opBuildSlice P t len parts S k := by
  unfold opBuildSlice
  cases tElem P t with
  | none => exact Par.none'
  | some e =>
    simp only
    cases zeroCells P e with
    | none => exact Par.none'
    | some z =>
      simp only
      cases Nat.beq (tSize P e) 0 with
      | true => exact Par.none'
      | false =>
        cases Nat.ble (len * tSize P e) 16777216 with
        | false => exact Par.none'
        | true =>
          cases Nat.beq z.length (tSize P e) with
          | false => exact Par.none'
          | true =>
            cases (tAgg P e || Nat.beq (tSize P e) 1) with
            | false => exact Par.none'
            | true => exact Par.comp (par_fillC _ _ _) fun cs => Par.ret _
theorem uni_build {t : TypeId} {parts : Array (Nat × Operand)} (ho : o.op = .build t parts) (hx : ∀ i x, (i, x) ∈ parts.toList → ∀ t, evT P S' t x = evT P S t x) : Uni P A an isRes cal o S S' := by
  refine .of (par_opBuild (P := P) (S := S) t parts.toList) (fun v => .val v .no) (fun R k => by simp only [absOp, ho]) (fun R k => ?_)
  simp only [absOp, ho, opBuild]
  simp only [partsOf_congr (P := P) (S := S) (S' := S') _ parts.toList hx]
theorem uni_buildSlice {t : TypeId} {n : Nat} {parts : Array (Nat × Operand)} (ho : o.op = .buildSlice t n parts) (hx : ∀ i x, (i, x) ∈ parts.toList → ∀ t, evT P S' t x = evT P S t x) : Uni P A an isRes cal o S S' := by
  refine .of (par_opBuildSlice (P := P) (S := S) t n parts.toList) (fun v => .val v .no) (fun R k => by simp only [absOp, ho]) (fun R k => ?_)
  simp only [absOp, ho, opBuildSlice]
  simp only [partsOf_congr (P := P) (S := S) (S' := S') _ parts.toList hx]
end
end Go.Vai
