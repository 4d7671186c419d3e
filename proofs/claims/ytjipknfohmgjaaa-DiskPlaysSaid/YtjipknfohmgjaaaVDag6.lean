/- Calls and appends that change the state: a slot that they do not look at is as it was. -/
import Derived.Test.YtjipknfohmgjaaaVDag5
namespace Go.Vai

section
variable {eb ebj ebi : Bool} {P : Program} {A : List (Nat × Ann)} {an : Ann} {isRes : Nat → Bool} {cal : Oracle} {o : Oper} {S S' T T' : St} {l : List Nat} {d : Nat} {dst : Option Nat}

/-- the same but for slot d -/
structure Off (d : Nat) (S S' : St) : Prop where
  L : S'.L = S.L
  H : S'.H = S.H
  M : S'.M = S.M
  nx : S'.nx = S.nx
  len : S'.sl.length = S.sl.length
  sl : ∀ t, t ≠ d → S'.slot t = S.slot t

/-- what such a step leaves of two such states -/
structure FrC (d : Nat) (dst : Option Nat) (S S' T T' : St) : Prop where
  off : Off d T T'
  at1 : (S.slot d).bare = S.slot d → T.slot d = S.slot d
  at2 : (S'.slot d).bare = S'.slot d → T'.slot d = S'.slot d
  pres : ∀ t, dst ≠ some t → (T.slot t).bare = (S.slot t).bare
  pres2 : ∀ t, dst ≠ some t → (T'.slot t).bare = (S'.slot t).bare
  L1 : SameL S T
  L2 : SameL S' T'
  len1 : T.sl.length = S.sl.length

theorem SameL.refl (S : St) : SameL S S := fun _ => rfl
theorem FrC.refl (h : Off d S S') : FrC d dst S S' S S' := ⟨h, fun _ => rfl, fun _ => rfl, fun _ _ => rfl, fun _ _ => rfl, .refl _, .refl _, rfl⟩

theorem bare_unlent {s : Slot} (h : s.bare = s) : s.unlent = s := by
  cases s with
  | val v f => simp only [Slot.bare, Slot.val.injEq, true_and] at h; subst h; rfl
  | _ => rfl
theorem unlent_bare (s : Slot) : s.unlent.bare = s.bare := by cases s <;> rfl
theorem bare_unS {s : Slot} (e : Nat) (h : s.bare = s) : s.unS e = s := by
  cases s with
  | val v f => simp only [Slot.bare, Slot.val.injEq, true_and] at h; subst h; rfl
  | _ => rfl
theorem unS_bare (s : Slot) (e : Nat) : (s.unS e).bare = s.bare := by
  cases s with
  | val v f => cases f <;> first | rfl | (simp only [Slot.unS]; split <;> rfl)
  | _ => rfl

theorem FrC.unlent (h : FrC d dst S S' T T') : FrC d dst S S' T.unlent T'.unlent := by
  refine ⟨⟨h.off.L, h.off.H, h.off.M, h.off.nx, by show (T'.sl.map _).length = (T.sl.map _).length; rw [List.length_map, List.length_map]; exact h.off.len, fun t ht => by rw [slot_unlent, slot_unlent, h.off.sl t ht]⟩,
    fun hb => by rw [slot_unlent, h.at1 hb]; exact bare_unlent hb, fun hb => by rw [slot_unlent, h.at2 hb]; exact bare_unlent hb,
    fun t ht => by rw [slot_unlent, unlent_bare]; exact h.pres t ht, fun t ht => by rw [slot_unlent, unlent_bare]; exact h.pres2 t ht, h.L1, h.L2, by show (T.sl.map _).length = _; rw [List.length_map]; exact h.len1⟩
theorem bare_unlentH {s : Slot} (h : s.bare = s) : s.unlentH = s := by
  cases s with
  | val v f => simp only [Slot.bare, Slot.val.injEq, true_and] at h; subst h; rfl
  | _ => rfl
theorem unlentH_bare (s : Slot) : s.unlentH.bare = s.bare := by
  cases s with
  | val v f => cases f <;> rfl
  | _ => rfl
theorem FrC.unlentH (h : FrC d dst S S' T T') : FrC d dst S S' T.unlentH T'.unlentH := by
  refine ⟨⟨h.off.L, h.off.H, h.off.M, h.off.nx, by show (T'.sl.map _).length = (T.sl.map _).length; rw [List.length_map, List.length_map]; exact h.off.len, fun t ht => by rw [slot_unlentH, slot_unlentH, h.off.sl t ht]⟩,
    fun hb => by rw [slot_unlentH, h.at1 hb]; exact bare_unlentH hb, fun hb => by rw [slot_unlentH, h.at2 hb]; exact bare_unlentH hb,
    fun t ht => by rw [slot_unlentH, unlentH_bare]; exact h.pres t ht, fun t ht => by rw [slot_unlentH, unlentH_bare]; exact h.pres2 t ht, h.L1, h.L2, by show (T.sl.map _).length = _; rw [List.length_map]; exact h.len1⟩
theorem slot_mapUnS (T : St) (e t : Nat) : ({ T with sl := T.sl.map (Slot.unS e) } : St).slot t = (T.slot t).unS e := nthS_map _ rfl _ _
theorem FrC.unS (h : FrC d dst S S' T T') (e : Nat) : FrC d dst S S' { T with sl := T.sl.map (Slot.unS e) } { T' with sl := T'.sl.map (Slot.unS e) } := by
  refine ⟨⟨h.off.L, h.off.H, h.off.M, h.off.nx, by show (T'.sl.map _).length = (T.sl.map _).length; rw [List.length_map, List.length_map]; exact h.off.len, fun t ht => by rw [slot_mapUnS, slot_mapUnS, h.off.sl t ht]⟩,
    fun hb => by rw [slot_mapUnS, h.at1 hb]; exact bare_unS e hb, fun hb => by rw [slot_mapUnS, h.at2 hb]; exact bare_unS e hb,
    fun t ht => by rw [slot_mapUnS, unS_bare]; exact h.pres t ht, fun t ht => by rw [slot_mapUnS, unS_bare]; exact h.pres2 t ht, h.L1, h.L2, by show (T.sl.map _).length = _; rw [List.length_map]; exact h.len1⟩
theorem FrC.put (h : FrC d dst S S' T T') {e : Nat} (hne : e ≠ d) (s : Slot) (hs : dst = some e ∨ s.bare = (T.slot e).bare) : FrC d dst S S' (T.put e s) (T'.put e s) := by
  have hs' : dst = some e ∨ s.bare = (T'.slot e).bare := by rw [h.off.sl e hne]; exact hs
  refine ⟨⟨h.off.L, h.off.H, h.off.M, h.off.nx, by show (setS T'.sl e s).length = (setS T.sl e s).length; rw [setS_length, setS_length]; exact h.off.len, fun t ht => ?_⟩, fun hb => ?_, fun hb => ?_, fun t ht => ?_, fun t ht => ?_, h.L1, h.L2, by show (setS T.sl e s).length = _; rw [setS_length]; exact h.len1⟩
  · rw [slot_put, slot_put, h.off.len, h.off.sl t ht]
  · rw [slot_put_ne _ _ (Ne.symm hne)]; exact h.at1 hb
  · rw [slot_put_ne _ _ (Ne.symm hne)]; exact h.at2 hb
  · rw [slot_put]
    split
    · rename_i hh
      rcases hs with hs | hs
      · rw [← hh.1] at hs; exact absurd hs ht
      · rw [hs, ← hh.1]; exact h.pres t ht
    · exact h.pres t ht
  · rw [slot_put]
    split
    · rename_i hh
      rcases hs' with hs | hs
      · rw [← hh.1] at hs; exact absurd hs ht
      · rw [hs, ← hh.1]; exact h.pres2 t ht
    · exact h.pres2 t ht
theorem FrC.putd (h : FrC d dst S S' T T') (hne : dst ≠ some d) (s : Slot) : FrC d dst S S' (T.putd dst s) (T'.putd dst s) := by
  cases hd : dst with
  | none => rw [hd] at h; exact h
  | some e => rw [hd] at h hne; exact h.put (fun he => hne (by rw [he])) s (.inl rfl)
theorem FrC.putown (h : FrC d dst S S' T T') (hne : dst ≠ some d) (v : AV) (f : Fl) : FrC d dst S S' (T.putown dst v f) (T'.putown dst v f) := by
  cases hd : dst with
  | none => rw [hd] at h; exact h
  | some e =>
    rw [hd] at h hne
    have he : e ≠ d := fun he => hne (by rw [he])
    cases f with
    | no => exact h.put he _ (.inl rfl)
    | own => exact (h.unS e).put he _ (.inl rfl)
    | lS q => exact (h.unS e).put he _ (.inl rfl)
    | lL q q2 => exact (h.unS e).put he _ (.inl rfl)
    | lH q q2 => exact (h.unS e).put he _ (.inl rfl)
    | comps cs => exact (h.unS e).put he _ (.inl rfl)
theorem FrC.mem (h : FrC d dst S S' T T') (H : Hp) (n : Nat) : FrC d dst S S' { T with H := H, nx := n } { T' with H := H, nx := n } :=
  ⟨⟨h.off.L, rfl, h.off.M, rfl, h.off.len, h.off.sl⟩, h.at1, h.at2, h.pres, h.pres2, h.L1, h.L2, h.len1⟩
theorem FrC.setH (h : FrC d dst S S' T T') (H : Hp) : FrC d dst S S' { T with H := H } { T' with H := H } :=
  ⟨⟨h.off.L, rfl, h.off.M, h.off.nx, h.off.len, h.off.sl⟩, h.at1, h.at2, h.pres, h.pres2, h.L1, h.L2, h.len1⟩
theorem FrC.setL (h : FrC d dst S S' T T') {e : Nat} {b : Blk} {fr : List Nat} (hb : getL T.L e = some b) : FrC d dst S S' { T with L := Vai.setL T.L e ⟨b.cells, fr⟩ } { T' with L := Vai.setL T'.L e ⟨b.cells, fr⟩ } := by
  refine ⟨⟨by show Vai.setL T'.L e _ = Vai.setL T.L e _; rw [h.off.L], h.off.H, h.off.M, h.off.nx, h.off.len, h.off.sl⟩, h.at1, h.at2, h.pres, h.pres2, fun q => ?_, fun q => ?_, h.len1⟩
  · show (getL (Vai.setL T.L e ⟨b.cells, fr⟩) q).map (·.cells) = _
    rw [getL_setL]
    split
    · rename_i hq
      rw [← h.L1 q, hq, hb]
      rfl
    · exact h.L1 q
  · show (getL (Vai.setL T'.L e ⟨b.cells, fr⟩) q).map (·.cells) = _
    rw [getL_setL]
    split
    · rename_i hq
      rw [← h.L2 q, hq, h.off.L, hb]
      rfl
    · exact h.L2 q

/-- the step's two runs -/
def TwoC (d : Nat) (F F' : ∀ R : Type, (St → Option R) → Option R) (dst : Option Nat) (S S' : St) : Prop :=
  (∀ R k, F R k = none) ∨ ∃ T T', (∀ R k, F R k = k T) ∧ (∀ R k, F' R k = k T') ∧ FrC d dst S S' T T'

theorem Off.evx (h : Off d S S') {x : Operand} (hx : x ≠ .tmp d) : S'.ev x = S.ev x := by
  cases x with
  | tmp t => show (S'.slot t).av = (S.slot t).av; rw [h.sl t (fun e => hx (by rw [e]))]
  | _ => rfl
theorem Off.evTx (h : Off d S S') {x : Operand} (hx : x ≠ .tmp d) (t : TypeId) : evT P S' t x = evT P S t x := by
  cases x with
  | const c => rfl
  | tmp t => exact h.evx hx
  | _ => rfl
theorem evsT_off (h : Off d S S') : ∀ (args : List Operand) (tys : List TypeId), (∀ x ∈ args, x ≠ .tmp d) → evsT P S' tys args = evsT P S tys args
  | [], _, _ => by simp [evsT]
  | x :: l, [], hx => by simp only [evsT]; rw [h.evx (hx x List.mem_cons_self), evsT_off h l [] fun y hy => hx y (List.mem_cons_of_mem _ hy)]
  | x :: l, t :: ts, hx => by simp only [evsT]; rw [h.evTx (hx x List.mem_cons_self), evsT_off h l ts fun y hy => hx y (List.mem_cons_of_mem _ hy)]

theorem frame_append {st st2 : TypeId} {x y : Operand} (h : Off d S S') (hx : x ≠ .tmp d) (hy : y ≠ .tmp d) (hdst : o.dst ≠ some d) (hlent : ∀ t v q, x = .tmp t → S.slot t = .val v (.lS q) → q ≠ d) :
    TwoC d (fun _ k => opAppend P o st st2 x y S k) (fun _ k => opAppend P o st st2 x y S' k) o.dst S S' := by
  unfold TwoC opAppend
  cases tElem P st with
  | none => exact .inl fun R k => rfl
  | some e =>
    cases zeroOk P st with
    | false => exact .inl fun R k => rfl
    | true =>
      simp only
      cases Nat.beq (tSize P e) 0 with
      | true => exact .inl fun R k => rfl
      | false =>
        cases srcType P st2 with
        | false => exact .inl fun R k => rfl
        | true =>
          simp only
          rw [h.evTx hy, h.evTx hx]
          rcases par_elemsOf (S := S) (tAgg P e) (tSize P e) (evT P S st y) with hn | ⟨l2, h2⟩
          · exact .inl fun R k => hn R _
          · have h2' : ∀ (R : Type) (k : List AV → Option R), elemsOf (tAgg P e) (tSize P e) (evT P S st y) S' k = k l2 := fun R k => (elemsOf_congr _ _ _ _ (.inl (.of h.H))).trans (h2 R k)
            have h2'' : ∀ (R : Type) (k : List AV → Option R), elemsOf (tAgg P e) (tSize P e) (evT P S st y) S k = k l2 := h2
            simp only [h2', h2'']
            cases evT P S st x with
            | vs z tg l =>
              simp only [AV.vs?]
              cases Nat.beq z (tSize P e) with
              | false => exact .inl fun R k => rfl
              | true =>
                simp only
                have fin : ∀ (X X' : St), FrC d o.dst S S' X X' → (∀ (R : Type) (k : St → Option R), (br (Nat.ble ((l.length + l2.length) * tBytes P e) maxBytes) (br (Nat.ble (l.length + l2.length) maxBytes) (match o.dst with
                    | some _ => k (X.unlent.putown o.dst (.vs (tSize P e) false (l ++ l2)) .own)
                    | none => none) none) none) = none) ∨ ∃ T T', (∀ (R : Type) (k : St → Option R), (br (Nat.ble ((l.length + l2.length) * tBytes P e) maxBytes) (br (Nat.ble (l.length + l2.length) maxBytes) (match o.dst with
                    | some _ => k (X.unlent.putown o.dst (.vs (tSize P e) false (l ++ l2)) .own)
                    | none => none) none) none) = k T) ∧ (∀ (R : Type) (k : St → Option R), (br (Nat.ble ((l.length + l2.length) * tBytes P e) maxBytes) (br (Nat.ble (l.length + l2.length) maxBytes) (match o.dst with
                    | some _ => k (X'.unlent.putown o.dst (.vs (tSize P e) false (l ++ l2)) .own)
                    | none => none) none) none) = k T') ∧ FrC d o.dst S S' T T' := by
                  intro X X' hX
                  cases Nat.ble ((l.length + l2.length) * tBytes P e) maxBytes with
                  | false => exact .inl fun R k => rfl
                  | true =>
                    cases Nat.ble (l.length + l2.length) maxBytes with
                    | false => exact .inl fun R k => rfl
                    | true =>
                      cases hd : o.dst with
                      | none => exact .inl fun R k => rfl
                      | some q =>
                        rw [hd] at hX hdst
                        exact .inr ⟨_, _, fun R k => rfl, fun R k => rfl, hX.unlent.putown hdst _ _⟩
                have tight : (∀ (R : Type) (k : St → Option R), (br tg (br (Nat.ble ((l.length + l2.length) * tBytes P e) maxBytes) (br (Nat.ble (l.length + l2.length) maxBytes) (match o.dst with
                    | some _ => k (S.unlent.putown o.dst (.vs (tSize P e) false (l ++ l2)) .own)
                    | none => none) none) none) none) = none) ∨ ∃ T T', (∀ (R : Type) (k : St → Option R), (br tg (br (Nat.ble ((l.length + l2.length) * tBytes P e) maxBytes) (br (Nat.ble (l.length + l2.length) maxBytes) (match o.dst with
                    | some _ => k (S.unlent.putown o.dst (.vs (tSize P e) false (l ++ l2)) .own)
                    | none => none) none) none) none) = k T) ∧ (∀ (R : Type) (k : St → Option R), (br tg (br (Nat.ble ((l.length + l2.length) * tBytes P e) maxBytes) (br (Nat.ble (l.length + l2.length) maxBytes) (match o.dst with
                    | some _ => k (S'.unlent.putown o.dst (.vs (tSize P e) false (l ++ l2)) .own)
                    | none => none) none) none) none) = k T') ∧ FrC d o.dst S S' T T' := by
                  cases tg with
                  | false => exact .inl fun R k => rfl
                  | true => exact fin S S' (.refl h)
                cases x with
                | const c => exact fin S S' (.refl h)
                | func f => exact .inl fun R k => rfl
                | global g => exact .inl fun R k => rfl
                | tmp t =>
                  have htd : t ≠ d := fun e => hx (by rw [e])
                  simp only
                  rw [h.sl t htd]
                  cases hs : S.slot t with
                  | und => exact tight
                  | lp a b => exact tight
                  | mp a => exact tight
                  | val v f =>

                    cases f with
                    | no => exact tight
                    | comps cs => exact tight
                    | own => exact fin _ _ ((FrC.refl h).put htd (.val v .no) (.inr (by rw [hs]; rfl)))
                    | lS q =>
                      have hq := hlent t v q rfl hs
                      simp only
                      rw [h.sl q hq]
                      cases hsq : S.slot q with
                      | und => exact tight
                      | lp a b => exact tight
                      | mp a => exact tight
                      | val u fu =>
                        cases fu with
                        | own => exact fin _ _ ((FrC.refl h).put hq (.val u .no) (.inr (by rw [hsq]; rfl)))
                        | _ => exact tight
                    | lL q off =>
                      simp only
                      rw [h.L]
                      cases hL : getL S.L q with
                      | none => exact .inl fun R k => rfl
                      | some b =>
                        simp only [Option.bind_some]
                        cases memN off b.free with
                        | false => exact tight
                        | true =>
                          have := (FrC.refl (dst := o.dst) h).setL (fr := delN off b.free) hL
                          rw [h.L] at this
                          exact fin _ _ this
                    | lH id off =>
                      simp only
                      rw [h.H]
                      cases hH : S.H id with
                      | none => exact .inl fun R k => rfl
                      | some b =>
                        simp only [Option.bind_some]
                        cases memN off b.free with
                        | false => exact tight
                        | true => exact fin _ _ ((FrC.refl (dst := o.dst) h).setH _)
            | _ => exact .inl fun R k => rfl

theorem frame_assign {x : Operand} (h : Off d S S') (hx : x ≠ .tmp d) (hdst : o.dst ≠ some d) (hlent : ∀ t v q, x = .tmp t → S.slot t = .val v (.lS q) → q ≠ d) :
    TwoC d (fun _ k => opAssign P isRes o x S k) (fun _ k => opAssign P isRes o x S' k) o.dst S S' := by
  unfold TwoC opAssign
  cases hd : o.dst with
  | none => exact .inl fun R k => rfl
  | some e =>
    rw [hd] at hdst
    have he : e ≠ d := fun he => hdst (by rw [he])
    have fin : ∀ (X X' : St) (s : Slot), FrC d (some e) S S' X X' → FrC d (some e) S S' (X.unlent.put e s) (X'.unlent.put e s) := fun X X' s hX => hX.unlent.put he s (.inl rfl)
    cases x with
    | const c => exact .inr ⟨_, _, fun R k => rfl, fun R k => rfl, fin _ _ _ (.refl h)⟩
    | func f => exact .inr ⟨_, _, fun R k => rfl, fun R k => rfl, fin _ _ _ (.refl h)⟩
    | global g => exact .inl fun R k => rfl
    | tmp t =>
      have htd : t ≠ d := fun e => hx (by rw [e])
      simp only
      rw [h.sl t htd]
      cases hs : S.slot t with
      | und => exact .inr ⟨_, _, fun R k => rfl, fun R k => rfl, fin _ _ _ (.refl h)⟩
      | lp a b => exact .inr ⟨_, _, fun R k => rfl, fun R k => rfl, fin _ _ _ (.refl h)⟩
      | mp a => exact .inr ⟨_, _, fun R k => rfl, fun R k => rfl, fin _ _ _ (.refl h)⟩
      | val v f =>
        cases f with
        | own => exact .inr ⟨_, _, fun R k => rfl, fun R k => rfl, fin _ _ _ ((FrC.refl h).put htd (.val v .no) (.inr (by rw [hs]; rfl)))⟩
        | lS q =>
          have hq := hlent t v q rfl hs
          simp only
          cases isRes e with
          | false => exact .inr ⟨_, _, fun R k => rfl, fun R k => rfl, fin _ _ _ (.refl h)⟩
          | true =>
            simp only
            rw [h.sl q hq]
            cases hsq : S.slot q with
            | val u fu =>
              cases fu with
              | own => exact .inr ⟨_, _, fun R k => rfl, fun R k => rfl, fin _ _ _ ((FrC.refl h).put hq (.val u .no) (.inr (by rw [hsq]; rfl)))⟩
              | _ => exact .inr ⟨_, _, fun R k => rfl, fun R k => rfl, fin _ _ _ (.refl h)⟩
            | _ => exact .inr ⟨_, _, fun R k => rfl, fun R k => rfl, fin _ _ _ (.refl h)⟩
        | _ => exact .inr ⟨_, _, fun R k => rfl, fun R k => rfl, fin _ _ _ (.refl h)⟩

/-- an append, an impure call, a make, an assignment -/
theorem frameC (hcl : clOf A eb o = 3 ∨ clOf A eb o = 4) (h : Off d S S') (hd : Operand.tmp d ∉ o.op.operands) (hdst : o.dst ≠ some d) (hlent : clOf A eb o = 3 → ∀ t v q, Operand.tmp t ∈ o.op.operands → S.slot t = .val v (.lS q) → q ≠ d) :
    TwoC d (fun _ k => absOp P A an isRes cal o S k) (fun _ k => absOp P A an isRes cal o S' k) o.dst S S' := by
  cases hop : o.op with
  | call c =>
    obtain ⟨callee, args, tys⟩ := c
    have harg : ∀ x, x ∈ args.toList → x ∈ o.op.operands := fun x hx => by
      have : x ∈ args := Array.mem_toList_iff.1 hx
      simp [hop, Op.operands, Call.operands, this]
    cases callee with
    | builtin b =>
      cases b with
      | append =>
        simp only [absOp, hop, opBuiltin]
        match hty : tys.toList, har : args.toList with
        | [t, t2], [x, y] =>
          have hx := harg x (by rw [har]; simp)
          have hy := harg y (by rw [har]; simp)
          exact frame_append h (fun e => hd (e ▸ hx)) (fun e => hd (e ▸ hy)) hdst fun t v q ht hs => hlent (by
            rcases hcl with h | h
            · exact h
            · simp only [clOf, hop] at h
              repeat' split at h
              all_goals cases h) t v q (ht ▸ hx) hs
        | [], _ => exact .inl fun R k => rfl
        | [_], _ => exact .inl fun R k => rfl
        | _ :: _ :: _ :: _, _ => exact .inl fun R k => rfl
        | [_, _], [] => exact .inl fun R k => rfl
        | [_, _], [_] => exact .inl fun R k => rfl
        | [_, _], _ :: _ :: _ :: _ => exact .inl fun R k => rfl
      | _ => simp [clOf, hop] at hcl
    | value f =>
      cases f with
      | func g =>
        simp only [absOp, hop]
        unfold TwoC opCall
        simp only [St.ev, AV.func?]
        cases hi : (getA A g).imp with
        | false => simp [clOf, hop, hi] at hcl
        | true =>
          simp only
          rw [evsT_off h args.toList tys.toList fun x hx e => hd (e ▸ harg x hx), h.H, h.nx]
          cases cal g (evsT P S tys.toList args.toList ++ []) S.H S.nx with
          | none => exact .inl fun R k => rfl
          | some r => exact .inr ⟨_, _, fun R k => rfl, fun R k => rfl, (((FrC.refl h).mem r.H r.nx).unlentH).putown hdst _ _⟩
      | _ => simp [clOf, hop] at hcl
    | invoke _ _ => simp [clOf, hop] at hcl
  | makeSlice t n c =>
    have hn : n ≠ .tmp d := fun e => hd (by simp [hop, Op.operands, e])
    have hc : c ≠ .tmp d := fun e => hd (by simp [hop, Op.operands, e])
    simp only [absOp, hop]
    unfold TwoC opMake
    cases tElem P t with
    | none => exact .inl fun R k => rfl
    | some e =>
      simp only
      cases zeroCells P e with
      | none => exact .inl fun R k => rfl
      | some z =>
        simp only
        cases Nat.beq (tSize P e) 0 with
        | true => exact .inl fun R k => rfl
        | false =>
          cases Nat.beq z.length (tSize P e) with
          | false => exact .inl fun R k => rfl
          | true =>
            simp only
            rw [h.evx hn, h.evx hc]
            cases S.ev n with
            | int k1 len =>
              cases S.ev c with
              | int k2 cap =>
                simp only [AV.int?]
                cases decide (0 ≤ len) with
                | false => exact .inl fun R k => rfl
                | true =>
                  cases decide (len ≤ cap) with
                  | false => exact .inl fun R k => rfl
                  | true =>
                    cases decide (cap * (tBytes P e : Int) ≤ 281474976710656) with
                    | false => exact .inl fun R k => rfl
                    | true =>
                      cases decide (cap ≤ 281474976710656) with
                      | false => exact .inl fun R k => rfl
                      | true =>
                        cases decide (len = cap) with
                        | true =>
                          simp only [br]
                          rw [h.H, h.nx]
                          unfold Hp.new?
                          cases S.H.get S.nx with
                          | some b => exact .inl fun R k => rfl
                          | none => exact .inr ⟨_, _, fun R k => rfl, fun R k => rfl, (((FrC.refl h).mem _ _).unlent).putd hdst _⟩
                        | false =>
                          cases decide (len = 0) with
                          | false => exact .inl fun R k => rfl
                          | true => exact .inr ⟨_, _, fun R k => rfl, fun R k => rfl, (FrC.refl h).putown hdst _ _⟩
              | _ => exact .inl fun R k => rfl
            | _ => exact .inl fun R k => rfl
  | assign x =>
    have hx : x ∈ o.op.operands := by simp [hop, Op.operands]
    simp only [absOp, hop]
    exact frame_assign h (fun e => hd (e ▸ hx)) hdst fun t v q ht hs => hlent (by simp [clOf, hop]) t v q (ht ▸ hx) hs
  | move x =>
    exfalso
    simp only [clOf, hop] at hcl
    split at hcl <;> simp at hcl
  | alloc _ =>
    exfalso
    simp only [clOf, hop] at hcl
    split at hcl <;> simp at hcl
  | _ => simp [clOf, hop] at hcl

/-- an assignment leaves memory as it is -/
theorem assign_mem {x : Operand} (S : St) : (∀ (R : Type) (k : St → Option R), opAssign P isRes o x S k = none) ∨ ∃ T, (∀ (R : Type) (k : St → Option R), opAssign P isRes o x S k = k T) ∧ T.H = S.H := by
  unfold opAssign
  cases o.dst with
  | none => exact .inl fun R k => rfl
  | some d =>
    cases x with
    | const c => exact .inr ⟨_, fun R k => rfl, rfl⟩
    | func f => exact .inr ⟨_, fun R k => rfl, rfl⟩
    | global g => exact .inl fun R k => rfl
    | tmp t =>
      simp only
      cases S.slot t with
      | und => exact .inr ⟨_, fun R k => rfl, rfl⟩
      | lp a b => exact .inr ⟨_, fun R k => rfl, rfl⟩
      | mp a => exact .inr ⟨_, fun R k => rfl, rfl⟩
      | val v f =>
        cases f with
        | lS q =>
          simp only
          cases isRes d with
          | false => exact .inr ⟨_, fun R k => rfl, rfl⟩
          | true =>
            simp only
            cases S.slot q with
            | val u fu =>
              cases fu with
              | own => exact .inr ⟨_, fun R k => rfl, rfl⟩
              | _ => exact .inr ⟨_, fun R k => rfl, rfl⟩
            | _ => exact .inr ⟨_, fun R k => rfl, rfl⟩
        | _ => exact .inr ⟨_, fun R k => rfl, rfl⟩

/-- an append leaves what the blocks hold as it is -/
theorem append_mem {st st2 : TypeId} {x y : Operand} {S T : St} (h : opAppend P o st st2 x y S some = some T) : SameH S T := by
  have fin : ∀ (l l2 : List AV) (sz bt : Nat) (X : St), SameH S X → br (Nat.ble ((l.length + l2.length) * bt) maxBytes) (br (Nat.ble (l.length + l2.length) maxBytes) (match o.dst with
      | some _ => some (X.unlent.putown o.dst (.vs sz false (l ++ l2)) .own)
      | none => none) none) none = some T → SameH S T := by
    intro l l2 sz bt X hX h
    obtain ⟨_, h⟩ := br_left h
    obtain ⟨_, h⟩ := br_left h
    split at h
    · injection h with h
      rw [← h]
      intro i
      rw [← hX i]
      congr 1
      rename_i hd
      rw [hd]
      rfl
    · cases h
  unfold opAppend at h
  split at h
  · split at h
    · have key : ∀ (ag : Bool) (sz : Nat) (v : AV) (K : List AV → Option St), elemsOf ag sz v S K = some T → ∃ l, K l = some T := by
        intro ag sz v K hh
        unfold elemsOf at hh
        repeat' split at hh
        all_goals first | exact ⟨_, hh⟩ | cases hh | skip
        obtain ⟨b, _, hh⟩ := bind_some' hh
        obtain ⟨_, hh⟩ := br_left hh
        exact ⟨_, hh⟩
      obtain ⟨l2, h⟩ := key _ _ _ _ h
      simp only at h
      rename_i e _ _ _ _ _
      cases hv : evT P S st x with
      | vs z tg l =>
        rw [hv] at h
        simp only [AV.vs?] at h
        split at h
        · cases h
        · split at h
          · (refine fin _ _ _ _ _ ?_ h; exact .of rfl)
          · split at h
            · (refine fin _ _ _ _ _ ?_ h; exact .of rfl)
            · split at h
              · (refine fin _ _ _ _ _ ?_ h; exact .of rfl)
              · obtain ⟨_, h⟩ := br_left h
                (refine fin _ _ _ _ _ ?_ h; exact .of rfl)
            · obtain ⟨bl, _, h⟩ := bind_some' h
              split at h
              · (refine fin _ _ _ _ _ ?_ h; exact .of rfl)
              · obtain ⟨_, h⟩ := br_left h
                (refine fin _ _ _ _ _ ?_ h; exact .of rfl)
            · obtain ⟨bl, hb, h⟩ := bind_some' h
              split at h
              · refine fin _ _ _ _ _ (fun i => ?_) h
                show ((S.H.set _ _) i).map _ = _
                rw [Hp_set]
                split
                · rename_i hi; rw [hi, hb]; rfl
                · rfl
              · obtain ⟨_, h⟩ := br_left h
                (refine fin _ _ _ _ _ ?_ h; exact .of rfl)
            · obtain ⟨_, h⟩ := br_left h
              (refine fin _ _ _ _ _ ?_ h; exact .of rfl)
          · cases h
      | _ => rw [hv] at h; cases h
    · cases h
  · cases h

/-! stores, variables -/

/-- a slot that speaks of none of these boxes -/
def NoB (wb : List Nat) (s : Slot) : Prop := ∀ e off, (s = .lp e off ∨ s = .mp e) → e ∉ wb
/-- what a store or a new variable leaves of two such states -/
structure FrW (hz : Bool) (wb : List Nat) (d : Nat) (dst : Option Nat) (S S' T T' : St) : Prop where
  off : Off d T T'
  at1 : (S.slot d).bare = S.slot d → NoB wb (S.slot d) → T.slot d = S.slot d
  pres2 : ∀ t, dst ≠ some t → NoB wb (S'.slot t) → (T'.slot t).bare = (S'.slot t).bare
  L2 : ∀ q, q ∉ wb → (getL T'.L q).map (·.cells) = (getL S'.L q).map (·.cells)
  H2 : hz = false → T'.H = S'.H
  len1 : T.sl.length = S.sl.length
def TwoW (hz : Bool) (wb : List Nat) (d : Nat) (F F' : ∀ R : Type, (St → Option R) → Option R) (dst : Option Nat) (S S' : St) : Prop :=
  (∀ R k, F R k = none) ∨ ∃ T T', (∀ R k, F R k = k T) ∧ (∀ R k, F' R k = k T') ∧ FrW hz wb d dst S S' T T'

theorem disown_slot (S : St) (x : Operand) (t : Nat) : (disown S x).slot t = S.slot t ∨ x = .tmp t ∧ ∃ v f, S.slot t = .val v f ∧ (disown S x).slot t = .val v .no := by
  unfold disown
  cases x with
  | tmp u =>
    simp only
    cases hs : S.slot u with
    | val v f =>
      cases f with
      | own =>
        simp only
        rw [slot_put]
        split
        · rename_i hh
          obtain ⟨rfl, _⟩ := hh
          exact .inr ⟨rfl, v, .own, hs, rfl⟩
        · exact .inl rfl
      | _ => exact .inl rfl
    | _ => exact .inl rfl
  | _ => exact .inl rfl
theorem disown_rest (S : St) (x : Operand) : (disown S x).L = S.L ∧ (disown S x).H = S.H ∧ (disown S x).M = S.M ∧ (disown S x).nx = S.nx ∧ (disown S x).sl.length = S.sl.length := by
  unfold disown
  cases x with
  | tmp u =>
    simp only
    cases S.slot u with
    | val v f =>
      cases f with
      | own => exact ⟨rfl, rfl, rfl, rfl, by show (setS S.sl u _).length = _; rw [setS_length]⟩
      | _ => exact ⟨rfl, rfl, rfl, rfl, rfl⟩
    | _ => exact ⟨rfl, rfl, rfl, rfl, rfl⟩
  | _ => exact ⟨rfl, rfl, rfl, rfl, rfl⟩
theorem disown_off {x : Operand} (h : Off d S S') (hx : x ≠ .tmp d) : Off d (disown S x) (disown S' x) := by
  obtain ⟨a1, a2, a3, a4, a5⟩ := disown_rest S x
  obtain ⟨b1, b2, b3, b4, b5⟩ := disown_rest S' x
  refine ⟨by rw [a1, b1, h.L], by rw [a2, b2, h.H], by rw [a3, b3, h.M], by rw [a4, b4, h.nx], by rw [a5, b5, h.len], fun t ht => ?_⟩
  unfold disown
  cases x with
  | tmp u =>
    have hu : u ≠ d := fun e => hx (by rw [e])
    simp only
    rw [h.sl u hu]
    cases S.slot u with
    | val v f =>
      cases f with
      | own => simp only; rw [slot_put, slot_put, h.len, h.sl t ht]
      | _ => exact h.sl t ht
    | _ => exact h.sl t ht
  | _ => exact h.sl t ht

theorem frame_put {X X' : St} {L : List (Nat × Blk)} {H : Hp} {x : Operand} {hz : Bool} {wb : List Nat} (h : Off d S S') (hx : x ≠ .tmp d) (hX : X = ({ (disown S x) with L := L, H := H } : St).unlent) (hX' : X' = ({ (disown S' x) with L := L, H := H } : St).unlent)
    (hL : ∀ q, q ∉ wb → (getL L q).map (·.cells) = (getL S'.L q).map (·.cells)) (hH : hz = false → H = S'.H) : FrW hz wb d dst S S' X X' := by
  subst hX hX'
  have o := disown_off h hx
  have sl1 : ∀ (T : St) t, ({ (disown T x) with L := L, H := H } : St).unlent.slot t = ((disown T x).slot t).unlent := fun T t => slot_unlent _ t
  refine ⟨⟨rfl, rfl, o.M, o.nx, by show ((disown S' x).sl.map _).length = ((disown S x).sl.map _).length; rw [List.length_map, List.length_map]; exact o.len, fun t ht => by rw [sl1, sl1, o.sl t ht]⟩, fun hb _ => ?_, fun t _ _ => ?_, hL, hH, ?_⟩
  · rw [sl1]
    rcases disown_slot S x d with e | ⟨e, _⟩
    · rw [e]; exact bare_unlent hb
    · exact absurd e hx
  · rw [sl1, unlent_bare]
    rcases disown_slot S' x t with e | ⟨_, v, f, e1, e2⟩
    · rw [e]
    · rw [e1, e2]; rfl
  · show ((disown S x).sl.map _).length = _
    rw [List.length_map]
    exact (disown_rest S x).2.2.2.2

theorem frame_store {fz : Fx} {x : OI} {ty : TypeId} {a v : Operand} (ho : o.op = .store ty a v) (h : Off d S S') (ha : a ≠ .tmp d) (hv : v ≠ .tmp d) :
    TwoW fz.hz x.wb d (fun _ k => br (stOk fz x o S) (absOp P A an isRes cal o S k) none) (fun _ k => br (stOk fz x o S') (absOp P A an isRes cal o S' k) none) o.dst S S' := by
  unfold TwoW
  have nn : ∀ {R : Type} (b : Bool), br b (none : Option R) none = none := fun b => by cases b <;> rfl
  cases a with
  | tmp ta =>
    have hta : ta ≠ d := fun e => ha (by rw [e])
    simp only [stOk, ho, absOp, h.sl ta hta]
    cases hd : o.dst with
    | some q => exact .inl fun R k => nn _
    | none =>
      simp only
      unfold opStore
      cases Nat.beq (tSize P ty) 0 with
      | true => exact .inl fun R k => nn _
      | false =>
        simp only
        rw [h.evTx hv]
        have ow : ownOf S' v = ownOf S v := by
          unfold ownOf
          cases v with
          | tmp u => simp only; rw [h.sl u fun e => hv (by rw [e])]
          | _ => rfl
        simp only [ow, h.sl ta hta, h.L, h.H]
        rcases (show Par fun _ (k : List AV → Option _) => (evT P S ty v).cells? k from by cases evT P S ty v <;> first | exact Par.ret _ | exact Par.none') with hn | ⟨cs, hc⟩
        · have hn' : ∀ (R : Type) (k : List AV → Option R), (evT P S ty v).cells? k = none := hn
          simp only [hn']
          exact .inl fun R k => nn _
        · have hc' : ∀ (R : Type) (k : List AV → Option R), (evT P S ty v).cells? k = k cs := hc
          simp only [hc']
          cases Nat.beq cs.length (tSize P ty) with
          | false => exact .inl fun R k => nn _
          | true =>
            cases hs : S.slot ta with
            | und => exact .inl fun R k => by cases fz.hz <;> rfl
            | mp e => exact .inl fun R k => by cases fz.hz <;> rfl
            | lp e off =>
              simp only
              cases hm : memN e x.wb with
              | false => exact .inl fun R k => rfl
              | true =>
                cases hL : getL S.L e with
                | none => exact .inl fun R k => rfl
                | some b =>
                  simp only [Option.bind_some]
                  cases Nat.ble (off + cs.length) b.cells.length with
                  | false => exact .inl fun R k => rfl
                  | true =>
                    refine .inr ⟨_, _, fun R k => rfl, fun R k => rfl, frame_put (L := setL S.L e ⟨patch b.cells off cs, newFree off cs.length (ownOf S v && isVs (evT P S ty v)) b.free⟩) (H := S.H) h hv ?_ ?_ (fun q hq => ?_) fun _ => h.H.symm⟩
                    · rw [show S.H = (disown S v).H from (disown_rest S v).2.1.symm]
                    · rw [show S.H = (disown S' v).H from by rw [(disown_rest S' v).2.1, h.H]]
                    · rw [getL_setL, if_neg (fun he : q = e => hq (he ▸ memN_iff.1 hm)), h.L]
            | val u f =>
              simp only
              cases hz : fz.hz with
              | false => exact .inl fun R k => rfl
              | true =>
                cases u with
                | ptr id off =>
                  simp only
                  cases hH : S.H id with
                  | none => exact .inl fun R k => rfl
                  | some b =>
                    simp only [Option.bind_some]
                    cases Nat.ble (off + cs.length) b.cells.length with
                    | false => exact .inl fun R k => rfl
                    | true =>
                      refine .inr ⟨_, _, fun R k => rfl, fun R k => rfl, frame_put (L := S.L) (H := S.H.set id ⟨patch b.cells off cs, newFree off cs.length (ownOf S v && isVs (evT P S ty v)) b.free⟩) h hv ?_ ?_ (fun q hq => ?_) fun hh => (by cases hh)⟩
                      · rw [show S.L = (disown S v).L from (disown_rest S v).1.symm]
                      · rw [show S.L = (disown S' v).L from by rw [(disown_rest S' v).1, h.L]]
                      · rw [h.L]
                | _ => exact .inl fun R k => rfl
  | _ => exact .inl fun R k => by simp only [stOk, ho, br]

theorem NoB.drop {wb : List Nat} {s : Slot} {q : Nat} (h : NoB wb s) (hq : q ∈ wb) : dropLp q s = s := by
  cases s with
  | lp e off =>
    have : e ≠ q := fun he => h e off (.inl rfl) (he ▸ hq)
    have hb : Nat.beq e q = false := by
      cases hb : Nat.beq e q with
      | false => rfl
      | true => exact absurd (Nat.eq_of_beq_eq_true hb) this
    simp only [dropLp, hb]
  | mp e =>
    have : e ≠ q := fun he => h e 0 (.inr rfl) (he ▸ hq)
    have hb : Nat.beq e q = false := by
      cases hb : Nat.beq e q with
      | false => rfl
      | true => exact absurd (Nat.eq_of_beq_eq_true hb) this
    simp only [dropLp, hb]
  | _ => rfl

/-- what a new variable does -/
def newRes (S : St) (q : Nat) (z : List AV) (fr : List Nat) : St := ({ S with L := setL S.L q ⟨z, fr⟩, sl := S.sl.map (dropLp q) } : St).unlent.put q (.lp q 0)
theorem slot_newRes (S : St) (q : Nat) (z : List AV) (fr : List Nat) (t : Nat) : (newRes S q z fr).slot t = if t = q ∧ q < S.sl.length then .lp q 0 else (dropLp q (S.slot t)).unlent := by
  unfold newRes
  rw [slot_put]
  have e : ({ S with L := setL S.L q ⟨z, fr⟩, sl := S.sl.map (dropLp q) } : St).unlent.sl.length = S.sl.length := by show ((S.sl.map _).map _).length = _; rw [List.length_map, List.length_map]
  rw [e]
  split
  · rfl
  · refine (slot_unlent _ t).trans ?_
    congr 1
    exact nthS_map _ rfl _ _
theorem len_newRes (S : St) (q : Nat) (z : List AV) (fr : List Nat) : (newRes S q z fr).sl.length = S.sl.length := by
  show (setS ((S.sl.map _).map _) q _).length = _
  rw [setS_length, List.length_map, List.length_map]

/-- a new variable: it fails everywhere, or it does that wherever the place is free -/
theorem alloc_shape {D : List Nat} {i : Nat} {fz : Fx} {x : OI} (hx : x.cl = 6) (hop : clOf A eb o = 6) : (∀ (S : St) (R : Type) (k : St → Option R), dop P A an isRes cal D i fz x o S k = none) ∨ ∃ q z fr, o.dst = some q ∧ ∀ (S : St) (R : Type) (k : St → Option R), dop P A an isRes cal D i fz x o S k =
    match getM S.M q with
    | none => br (Nat.blt q S.sl.length) (k (newRes S q z fr)) none
    | some _ => none := by
  obtain ⟨e, ho⟩ : ∃ e, o.op = .alloc e := by
    cases ho : o.op with
    | alloc e => exact ⟨e, rfl⟩
    | move x => simp only [clOf, ho] at hop; split at hop <;> cases hop
    | makeSlice _ _ _ => simp only [clOf, ho] at hop; split at hop <;> cases hop
    | call c =>
      simp only [clOf, ho] at hop
      repeat' split at hop
      all_goals cases hop
    | _ => simp [clOf, ho] at hop
  unfold dop
  rw [hx]
  simp only
  cases hd : o.dst with
  | none => exact .inl fun S R k => rfl
  | some q =>
    simp only [absOp, ho]
    cases zeroCells P e with
    | none => exact .inl fun S R k => rfl
    | some z =>
      simp only
      unfold opNew
      rw [hd]
      simp only
      cases memN q an.esc with
      | true =>
        refine .inl fun S R k => ?_
        unfold Hp.new?
        simp only
        cases S.H.get S.nx with
        | some b => rfl
        | none =>
          simp only
          rw [slot_put]
          by_cases hh : q = q ∧ q < ({ S with H := S.H.set S.nx ⟨z, tightPlaces 0 z⟩, nx := S.nx + 1 } : St).unlent.sl.length
          · rw [if_pos hh]
          · rw [if_neg hh]
            have : ¬ q < ({ S with H := S.H.set S.nx ⟨z, tightPlaces 0 z⟩, nx := S.nx + 1 } : St).unlent.sl.length := fun hl => hh ⟨rfl, hl⟩
            have hz : ∀ (Y : St), ¬ q < Y.sl.length → Y.slot q = .und := fun Y hY => by
              cases hy : Y.slot q with
              | und => rfl
              | _ => exact absurd (nthS_lt (by show Y.slot q ≠ _; rw [hy]; simp)) hY
            rw [hz _ this]
      | false =>
        refine .inr ⟨q, z, tightPlaces 0 z, rfl, fun S R k => ?_⟩
        simp only
        cases getM S.M q with
        | some _ => rfl
        | none =>
          simp only
          show (match (newRes S q z (tightPlaces 0 z)).slot q with
            | .lp e _ => br (Nat.beq e q) (k (newRes S q z (tightPlaces 0 z))) none
            | _ => none) = _
          rw [slot_newRes]
          by_cases hl : q < S.sl.length
          · rw [if_pos ⟨rfl, hl⟩, show Nat.blt q S.sl.length = true from by simpa [Nat.blt_eq] using hl]
            simp only [show Nat.beq q q = true from Nat.beq_refl q, br]
          · rw [if_neg (fun hh => hl hh.2), show Nat.blt q S.sl.length = false from by
              cases hb : Nat.blt q S.sl.length with
              | false => rfl
              | true => exact absurd (by simpa [Nat.blt_eq] using hb) hl]
            have hz : S.slot q = .und := by
              cases hy : S.slot q with
              | und => rfl
              | _ => exact absurd (nthS_lt (by show S.slot q ≠ _; rw [hy]; simp)) hl
            rw [hz]
            rfl

theorem frame_alloc {D : List Nat} {i : Nat} {fz : Fx} {x : OI} (hx : x.cl = 6) (hop : clOf A eb o = 6) (hwb : ∀ q, o.dst = some q → q ∈ x.wb) (h : Off d S S') (hdst : o.dst ≠ some d) :
    TwoW fz.hz x.wb d (fun _ k => dop P A an isRes cal D i fz x o S k) (fun _ k => dop P A an isRes cal D i fz x o S' k) o.dst S S' := by
  rcases alloc_shape (P := P) (an := an) (isRes := isRes) (cal := cal) (D := D) (i := i) (fz := fz) hx hop with hn | ⟨q, z, fr, hq, hs⟩
  · exact .inl fun R k => hn S R k
  · unfold TwoW
    simp only [hs]
    rw [h.M, h.len]
    cases getM S.M q with
    | some _ => exact .inl fun R k => rfl
    | none =>
      cases Nat.blt q S.sl.length with
      | false => exact .inl fun R k => rfl
      | true =>
        have hqd : q ≠ d := fun e => hdst (by rw [hq, e])
        have hqw := hwb q hq
        refine .inr ⟨newRes S q z fr, newRes S' q z fr, fun R k => rfl, fun R k => rfl, ⟨⟨?_, h.H, h.M, h.nx, by rw [len_newRes, len_newRes]; exact h.len, fun t ht => by rw [slot_newRes, slot_newRes, h.len, h.sl t ht]⟩, fun hb hnb => ?_, fun t ht hnb => ?_, fun e he => ?_, fun _ => rfl, len_newRes _ _ _ _⟩⟩
        · show setL S'.L q _ = setL S.L q _
          rw [h.L]
        · rw [slot_newRes, if_neg (fun hh => hqd hh.1.symm), hnb.drop hqw]
          exact bare_unlent hb
        · rw [slot_newRes, if_neg (fun hh : t = q ∧ _ => ht (by rw [hq, hh.1])), hnb.drop hqw, unlent_bare]
        · show (getL (setL S'.L q _) e).map _ = _
          rw [getL_setL, if_neg (fun hh : e = q => he (hh ▸ hqw))]


end
end Go.Vai
