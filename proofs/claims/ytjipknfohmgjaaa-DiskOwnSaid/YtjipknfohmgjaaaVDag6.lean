/- Calls and appends that change the state: a slot that they do not look at is as it was. -/
import Derived.Test.YtjipknfohmgjaaaVDag5
namespace Go.Vai

section
variable {P : Program} {A : List (Nat × Ann)} {an : Ann} {isRes : Nat → Bool} {cal : Oracle} {o : Oper} {S S' T T' : St} {l : List Nat} {d : Nat} {dst : Option Nat}

/-- the same but for slot d -/
structure Off (d : Nat) (S S' : St) : Prop where
  L : S'.L = S.L
  H : S'.H = S.H
  nx : S'.nx = S.nx
  len : S'.sl.length = S.sl.length
  sl : ∀ t, t ≠ d → S'.slot t = S.slot t

/-- what such a step leaves of two such states -/
structure FrC (d : Nat) (dst : Option Nat) (S S' T T' : St) : Prop where
  off : Off d T T'
  at1 : (S.slot d).bare = S.slot d → T.slot d = S.slot d
  at2 : (S'.slot d).bare = S'.slot d → T'.slot d = S'.slot d
  pres : ∀ t, dst ≠ some t → (T.slot t).bare = (S.slot t).bare
  pres2 : ∀ t, dst ≠ some t → (T'.slot t).bare = (S'.slot t).bare
  L1 : SameL S T
  L2 : SameL S' T'
  len1 : T.sl.length = S.sl.length

theorem SameL.refl (S : St) : SameL S S := fun _ => rfl
theorem FrC.refl (h : Off d S S') : FrC d dst S S' S S' := ⟨h, fun _ => rfl, fun _ => rfl, fun _ _ => rfl, fun _ _ => rfl, .refl _, .refl _, rfl⟩

theorem bare_unlent {s : Slot} (h : s.bare = s) : s.unlent = s := by
  cases s with
  | val v f => simp only [Slot.bare, Slot.val.injEq, true_and] at h; subst h; rfl
  | _ => rfl
theorem unlent_bare (s : Slot) : s.unlent.bare = s.bare := by cases s <;> rfl
theorem bare_unS {s : Slot} (e : Nat) (h : s.bare = s) : s.unS e = s := by
  cases s with
  | val v f => simp only [Slot.bare, Slot.val.injEq, true_and] at h; subst h; rfl
  | _ => rfl
theorem unS_bare (s : Slot) (e : Nat) : (s.unS e).bare = s.bare := by
  cases s with
  | val v f => cases f <;> first | rfl | (simp only [Slot.unS]; split <;> rfl)
  | _ => rfl

theorem FrC.unlent (h : FrC d dst S S' T T') : FrC d dst S S' T.unlent T'.unlent := by
  refine ⟨⟨h.off.L, h.off.H, h.off.nx, by show (T'.sl.map _).length = (T.sl.map _).length; rw [List.length_map, List.length_map]; exact h.off.len, fun t ht => by rw [slot_unlent, slot_unlent, h.off.sl t ht]⟩,
    fun hb => by rw [slot_unlent, h.at1 hb]; exact bare_unlent hb, fun hb => by rw [slot_unlent, h.at2 hb]; exact bare_unlent hb,
    fun t ht => by rw [slot_unlent, unlent_bare]; exact h.pres t ht, fun t ht => by rw [slot_unlent, unlent_bare]; exact h.pres2 t ht, h.L1, h.L2, by show (T.sl.map _).length = _; rw [List.length_map]; exact h.len1⟩
theorem slot_mapUnS (T : St) (e t : Nat) : ({ T with sl := T.sl.map (Slot.unS e) } : St).slot t = (T.slot t).unS e := nthS_map _ rfl _ _
theorem FrC.unS (h : FrC d dst S S' T T') (e : Nat) : FrC d dst S S' { T with sl := T.sl.map (Slot.unS e) } { T' with sl := T'.sl.map (Slot.unS e) } := by
  refine ⟨⟨h.off.L, h.off.H, h.off.nx, by show (T'.sl.map _).length = (T.sl.map _).length; rw [List.length_map, List.length_map]; exact h.off.len, fun t ht => by rw [slot_mapUnS, slot_mapUnS, h.off.sl t ht]⟩,
    fun hb => by rw [slot_mapUnS, h.at1 hb]; exact bare_unS e hb, fun hb => by rw [slot_mapUnS, h.at2 hb]; exact bare_unS e hb,
    fun t ht => by rw [slot_mapUnS, unS_bare]; exact h.pres t ht, fun t ht => by rw [slot_mapUnS, unS_bare]; exact h.pres2 t ht, h.L1, h.L2, by show (T.sl.map _).length = _; rw [List.length_map]; exact h.len1⟩
theorem FrC.put (h : FrC d dst S S' T T') {e : Nat} (hne : e ≠ d) (s : Slot) (hs : dst = some e ∨ s.bare = (T.slot e).bare) : FrC d dst S S' (T.put e s) (T'.put e s) := by
  have hs' : dst = some e ∨ s.bare = (T'.slot e).bare := by rw [h.off.sl e hne]; exact hs
  refine ⟨⟨h.off.L, h.off.H, h.off.nx, by show (setS T'.sl e s).length = (setS T.sl e s).length; rw [setS_length, setS_length]; exact h.off.len, fun t ht => ?_⟩, fun hb => ?_, fun hb => ?_, fun t ht => ?_, fun t ht => ?_, h.L1, h.L2, by show (setS T.sl e s).length = _; rw [setS_length]; exact h.len1⟩
  · rw [slot_put, slot_put, h.off.len, h.off.sl t ht]
  · rw [slot_put_ne _ _ (Ne.symm hne)]; exact h.at1 hb
  · rw [slot_put_ne _ _ (Ne.symm hne)]; exact h.at2 hb
  · rw [slot_put]
    split
    · rename_i hh
      rcases hs with hs | hs
      · rw [← hh.1] at hs; exact absurd hs ht
      · rw [hs, ← hh.1]; exact h.pres t ht
    · exact h.pres t ht
  · rw [slot_put]
    split
    · rename_i hh
      rcases hs' with hs | hs
      · rw [← hh.1] at hs; exact absurd hs ht
      · rw [hs, ← hh.1]; exact h.pres2 t ht
    · exact h.pres2 t ht
theorem FrC.putd (h : FrC d dst S S' T T') (hne : dst ≠ some d) (s : Slot) : FrC d dst S S' (T.putd dst s) (T'.putd dst s) := by
  cases hd : dst with
  | none => rw [hd] at h; exact h
  | some e => rw [hd] at h hne; exact h.put (fun he => hne (by rw [he])) s (.inl rfl)
theorem FrC.putown (h : FrC d dst S S' T T') (hne : dst ≠ some d) (v : AV) (f : Fl) : FrC d dst S S' (T.putown dst v f) (T'.putown dst v f) := by
  cases hd : dst with
  | none => rw [hd] at h; exact h
  | some e =>
    rw [hd] at h hne
    have he : e ≠ d := fun he => hne (by rw [he])
    cases f with
    | no => exact h.put he _ (.inl rfl)
    | own => exact (h.unS e).put he _ (.inl rfl)
    | lS q => exact (h.unS e).put he _ (.inl rfl)
    | lL q q2 => exact (h.unS e).put he _ (.inl rfl)
    | lH q q2 => exact (h.unS e).put he _ (.inl rfl)
    | comps cs => exact (h.unS e).put he _ (.inl rfl)
theorem FrC.mem (h : FrC d dst S S' T T') (H : Hp) (n : Nat) : FrC d dst S S' { T with H := H, nx := n } { T' with H := H, nx := n } :=
  ⟨⟨h.off.L, rfl, rfl, h.off.len, h.off.sl⟩, h.at1, h.at2, h.pres, h.pres2, h.L1, h.L2, h.len1⟩
theorem FrC.setH (h : FrC d dst S S' T T') (H : Hp) : FrC d dst S S' { T with H := H } { T' with H := H } :=
  ⟨⟨h.off.L, rfl, h.off.nx, h.off.len, h.off.sl⟩, h.at1, h.at2, h.pres, h.pres2, h.L1, h.L2, h.len1⟩
theorem FrC.setL (h : FrC d dst S S' T T') {e : Nat} {b : Blk} {fr : List Nat} (hb : getL T.L e = some b) : FrC d dst S S' { T with L := Vai.setL T.L e ⟨b.cells, fr⟩ } { T' with L := Vai.setL T'.L e ⟨b.cells, fr⟩ } := by
  refine ⟨⟨by show Vai.setL T'.L e _ = Vai.setL T.L e _; rw [h.off.L], h.off.H, h.off.nx, h.off.len, h.off.sl⟩, h.at1, h.at2, h.pres, h.pres2, fun q => ?_, fun q => ?_, h.len1⟩
  · show (getL (Vai.setL T.L e ⟨b.cells, fr⟩) q).map (·.cells) = _
    rw [getL_setL]
    split
    · rename_i hq
      rw [← h.L1 q, hq, hb]
      rfl
    · exact h.L1 q
  · show (getL (Vai.setL T'.L e ⟨b.cells, fr⟩) q).map (·.cells) = _
    rw [getL_setL]
    split
    · rename_i hq
      rw [← h.L2 q, hq, h.off.L, hb]
      rfl
    · exact h.L2 q

/-- the step's two runs -/
def TwoC (d : Nat) (F F' : ∀ R : Type, (St → Option R) → Option R) (dst : Option Nat) (S S' : St) : Prop :=
  (∀ R k, F R k = none) ∨ ∃ T T', (∀ R k, F R k = k T) ∧ (∀ R k, F' R k = k T') ∧ FrC d dst S S' T T'

theorem Off.evx (h : Off d S S') {x : Operand} (hx : x ≠ .tmp d) : S'.ev x = S.ev x := by
  cases x with
  | tmp t => show (S'.slot t).av = (S.slot t).av; rw [h.sl t (fun e => hx (by rw [e]))]
  | _ => rfl
theorem Off.evTx (h : Off d S S') {x : Operand} (hx : x ≠ .tmp d) (t : TypeId) : evT P S' t x = evT P S t x := by
  cases x with
  | const c => rfl
  | tmp t => exact h.evx hx
  | _ => rfl
theorem evsT_off (h : Off d S S') : ∀ (args : List Operand) (tys : List TypeId), (∀ x ∈ args, x ≠ .tmp d) → evsT P S' tys args = evsT P S tys args
  | [], _, _ => by simp [evsT]
  | x :: l, [], hx => by simp only [evsT]; rw [h.evx (hx x List.mem_cons_self), evsT_off h l [] fun y hy => hx y (List.mem_cons_of_mem _ hy)]
  | x :: l, t :: ts, hx => by simp only [evsT]; rw [h.evTx (hx x List.mem_cons_self), evsT_off h l ts fun y hy => hx y (List.mem_cons_of_mem _ hy)]

theorem frame_append {st st2 : TypeId} {x y : Operand} (h : Off d S S') (hx : x ≠ .tmp d) (hy : y ≠ .tmp d) (hdst : o.dst ≠ some d) (hlent : ∀ t v q, x = .tmp t → S.slot t = .val v (.lS q) → q ≠ d) :
    TwoC d (fun _ k => opAppend P o st st2 x y S k) (fun _ k => opAppend P o st st2 x y S' k) o.dst S S' := by
  unfold TwoC opAppend
  cases tElem P st with
  | none => exact .inl fun R k => rfl
  | some e =>
    cases zeroOk P st with
    | false => exact .inl fun R k => rfl
    | true =>
      simp only
      cases Nat.beq (tSize P e) 0 with
      | true => exact .inl fun R k => rfl
      | false =>
        cases srcType P st2 with
        | false => exact .inl fun R k => rfl
        | true =>
          simp only
          rw [h.evTx hy, h.evTx hx]
          rcases par_elemsOf (S := S) (tAgg P e) (tSize P e) (evT P S st y) with hn | ⟨l2, h2⟩
          · exact .inl fun R k => hn R _
          · have h2' : ∀ (R : Type) (k : List AV → Option R), elemsOf (tAgg P e) (tSize P e) (evT P S st y) S' k = k l2 := fun R k => (elemsOf_congr _ _ _ _ (.inl h.H)).trans (h2 R k)
            have h2'' : ∀ (R : Type) (k : List AV → Option R), elemsOf (tAgg P e) (tSize P e) (evT P S st y) S k = k l2 := h2
            simp only [h2', h2'']
            cases evT P S st x with
            | vs z tg l =>
              simp only [AV.vs?]
              cases Nat.beq z (tSize P e) with
              | false => exact .inl fun R k => rfl
              | true =>
                simp only
                have fin : ∀ (X X' : St), FrC d o.dst S S' X X' → (∀ (R : Type) (k : St → Option R), (br (Nat.ble ((l.length + l2.length) * tBytes P e) maxBytes) (br (Nat.ble (l.length + l2.length) maxBytes) (match o.dst with
                    | some _ => k (X.unlent.putown o.dst (.vs (tSize P e) false (l ++ l2)) .own)
                    | none => none) none) none) = none) ∨ ∃ T T', (∀ (R : Type) (k : St → Option R), (br (Nat.ble ((l.length + l2.length) * tBytes P e) maxBytes) (br (Nat.ble (l.length + l2.length) maxBytes) (match o.dst with
                    | some _ => k (X.unlent.putown o.dst (.vs (tSize P e) false (l ++ l2)) .own)
                    | none => none) none) none) = k T) ∧ (∀ (R : Type) (k : St → Option R), (br (Nat.ble ((l.length + l2.length) * tBytes P e) maxBytes) (br (Nat.ble (l.length + l2.length) maxBytes) (match o.dst with
                    | some _ => k (X'.unlent.putown o.dst (.vs (tSize P e) false (l ++ l2)) .own)
                    | none => none) none) none) = k T') ∧ FrC d o.dst S S' T T' := by
                  intro X X' hX
                  cases Nat.ble ((l.length + l2.length) * tBytes P e) maxBytes with
                  | false => exact .inl fun R k => rfl
                  | true =>
                    cases Nat.ble (l.length + l2.length) maxBytes with
                    | false => exact .inl fun R k => rfl
                    | true =>
                      cases hd : o.dst with
                      | none => exact .inl fun R k => rfl
                      | some q =>
                        rw [hd] at hX hdst
                        exact .inr ⟨_, _, fun R k => rfl, fun R k => rfl, hX.unlent.putown hdst _ _⟩
                have tight : (∀ (R : Type) (k : St → Option R), (br tg (br (Nat.ble ((l.length + l2.length) * tBytes P e) maxBytes) (br (Nat.ble (l.length + l2.length) maxBytes) (match o.dst with
                    | some _ => k (S.unlent.putown o.dst (.vs (tSize P e) false (l ++ l2)) .own)
                    | none => none) none) none) none) = none) ∨ ∃ T T', (∀ (R : Type) (k : St → Option R), (br tg (br (Nat.ble ((l.length + l2.length) * tBytes P e) maxBytes) (br (Nat.ble (l.length + l2.length) maxBytes) (match o.dst with
                    | some _ => k (S.unlent.putown o.dst (.vs (tSize P e) false (l ++ l2)) .own)
                    | none => none) none) none) none) = k T) ∧ (∀ (R : Type) (k : St → Option R), (br tg (br (Nat.ble ((l.length + l2.length) * tBytes P e) maxBytes) (br (Nat.ble (l.length + l2.length) maxBytes) (match o.dst with
                    | some _ => k (S'.unlent.putown o.dst (.vs (tSize P e) false (l ++ l2)) .own)
                    | none => none) none) none) none) = k T') ∧ FrC d o.dst S S' T T' := by
                  cases tg with
                  | false => exact .inl fun R k => rfl
                  | true => exact fin S S' (.refl h)
                cases x with
                | const c => exact fin S S' (.refl h)
                | func f => exact .inl fun R k => rfl
                | global g => exact .inl fun R k => rfl
                | tmp t =>
                  have htd : t ≠ d := fun e => hx (by rw [e])
                  simp only
                  rw [h.sl t htd]
                  cases hs : S.slot t with
                  | und => exact tight
                  | lp a b => exact tight
                  | val v f =>

                    cases f with
                    | no => exact tight
                    | comps cs => exact tight
                    | own => exact fin _ _ ((FrC.refl h).put htd (.val v .no) (.inr (by rw [hs]; rfl)))
                    | lS q =>
                      have hq := hlent t v q rfl hs
                      simp only
                      rw [h.sl q hq]
                      cases hsq : S.slot q with
                      | und => exact tight
                      | lp a b => exact tight
                      | val u fu =>
                        cases fu with
                        | own => exact fin _ _ ((FrC.refl h).put hq (.val u .no) (.inr (by rw [hsq]; rfl)))
                        | _ => exact tight
                    | lL q off =>
                      simp only
                      rw [h.L]
                      cases hL : getL S.L q with
                      | none => exact .inl fun R k => rfl
                      | some b =>
                        simp only [Option.bind_some]
                        cases memN off b.free with
                        | false => exact tight
                        | true =>
                          have := (FrC.refl (dst := o.dst) h).setL (fr := delN off b.free) hL
                          rw [h.L] at this
                          exact fin _ _ this
                    | lH id off =>
                      simp only
                      rw [h.H]
                      cases hH : S.H id with
                      | none => exact .inl fun R k => rfl
                      | some b =>
                        simp only [Option.bind_some]
                        cases memN off b.free with
                        | false => exact tight
                        | true => exact fin _ _ ((FrC.refl (dst := o.dst) h).setH _)
            | _ => exact .inl fun R k => rfl

theorem frame_assign {x : Operand} (h : Off d S S') (hx : x ≠ .tmp d) (hdst : o.dst ≠ some d) (hlent : ∀ t v q, x = .tmp t → S.slot t = .val v (.lS q) → q ≠ d) :
    TwoC d (fun _ k => opAssign P isRes o x S k) (fun _ k => opAssign P isRes o x S' k) o.dst S S' := by
  unfold TwoC opAssign
  cases hd : o.dst with
  | none => exact .inl fun R k => rfl
  | some e =>
    rw [hd] at hdst
    have he : e ≠ d := fun he => hdst (by rw [he])
    have fin : ∀ (X X' : St) (s : Slot), FrC d (some e) S S' X X' → FrC d (some e) S S' (X.unlent.put e s) (X'.unlent.put e s) := fun X X' s hX => hX.unlent.put he s (.inl rfl)
    cases x with
    | const c => exact .inr ⟨_, _, fun R k => rfl, fun R k => rfl, fin _ _ _ (.refl h)⟩
    | func f => exact .inr ⟨_, _, fun R k => rfl, fun R k => rfl, fin _ _ _ (.refl h)⟩
    | global g => exact .inl fun R k => rfl
    | tmp t =>
      have htd : t ≠ d := fun e => hx (by rw [e])
      simp only
      rw [h.sl t htd]
      cases hs : S.slot t with
      | und => exact .inr ⟨_, _, fun R k => rfl, fun R k => rfl, fin _ _ _ (.refl h)⟩
      | lp a b => exact .inr ⟨_, _, fun R k => rfl, fun R k => rfl, fin _ _ _ (.refl h)⟩
      | val v f =>
        cases f with
        | own => exact .inr ⟨_, _, fun R k => rfl, fun R k => rfl, fin _ _ _ ((FrC.refl h).put htd (.val v .no) (.inr (by rw [hs]; rfl)))⟩
        | lS q =>
          have hq := hlent t v q rfl hs
          simp only
          cases isRes e with
          | false => exact .inr ⟨_, _, fun R k => rfl, fun R k => rfl, fin _ _ _ (.refl h)⟩
          | true =>
            simp only
            rw [h.sl q hq]
            cases hsq : S.slot q with
            | val u fu =>
              cases fu with
              | own => exact .inr ⟨_, _, fun R k => rfl, fun R k => rfl, fin _ _ _ ((FrC.refl h).put hq (.val u .no) (.inr (by rw [hsq]; rfl)))⟩
              | _ => exact .inr ⟨_, _, fun R k => rfl, fun R k => rfl, fin _ _ _ (.refl h)⟩
            | _ => exact .inr ⟨_, _, fun R k => rfl, fun R k => rfl, fin _ _ _ (.refl h)⟩
        | _ => exact .inr ⟨_, _, fun R k => rfl, fun R k => rfl, fin _ _ _ (.refl h)⟩

/-- an append, an impure call, a make, an assignment -/
theorem frameC (hcl : clOf A o = 3 ∨ clOf A o = 4) (h : Off d S S') (hd : Operand.tmp d ∉ o.op.operands) (hdst : o.dst ≠ some d) (hlent : clOf A o = 3 → ∀ t v q, Operand.tmp t ∈ o.op.operands → S.slot t = .val v (.lS q) → q ≠ d) :
    TwoC d (fun _ k => absOp P A an isRes cal o S k) (fun _ k => absOp P A an isRes cal o S' k) o.dst S S' := by
  cases hop : o.op with
  | call c =>
    obtain ⟨callee, args, tys⟩ := c
    have harg : ∀ x, x ∈ args.toList → x ∈ o.op.operands := fun x hx => by
      have : x ∈ args := Array.mem_toList_iff.1 hx
      simp [hop, Op.operands, Call.operands, this]
    cases callee with
    | builtin b =>
      cases b with
      | append =>
        simp only [absOp, hop, opBuiltin]
        match hty : tys.toList, har : args.toList with
        | [t, t2], [x, y] =>
          have hx := harg x (by rw [har]; simp)
          have hy := harg y (by rw [har]; simp)
          exact frame_append h (fun e => hd (e ▸ hx)) (fun e => hd (e ▸ hy)) hdst fun t v q ht hs => hlent (by
            rcases hcl with h | h
            · exact h
            · simp only [clOf, hop] at h
              split at h <;> cases h) t v q (ht ▸ hx) hs
        | [], _ => exact .inl fun R k => rfl
        | [_], _ => exact .inl fun R k => rfl
        | _ :: _ :: _ :: _, _ => exact .inl fun R k => rfl
        | [_, _], [] => exact .inl fun R k => rfl
        | [_, _], [_] => exact .inl fun R k => rfl
        | [_, _], _ :: _ :: _ :: _ => exact .inl fun R k => rfl
      | _ => simp [clOf, hop] at hcl
    | value f =>
      cases f with
      | func g =>
        simp only [absOp, hop]
        unfold TwoC opCall
        simp only [St.ev, AV.func?]
        cases hi : (getA A g).imp with
        | false => simp [clOf, hop, hi] at hcl
        | true =>
          simp only
          rw [evsT_off h args.toList tys.toList fun x hx e => hd (e ▸ harg x hx), h.H, h.nx]
          cases cal g (evsT P S tys.toList args.toList ++ []) S.H S.nx with
          | none => exact .inl fun R k => rfl
          | some r => exact .inr ⟨_, _, fun R k => rfl, fun R k => rfl, (((FrC.refl h).mem r.H r.nx).unlent).putown hdst _ _⟩
      | _ => simp [clOf, hop] at hcl
    | invoke _ _ => simp [clOf, hop] at hcl
  | makeSlice t n c =>
    have hn : n ≠ .tmp d := fun e => hd (by simp [hop, Op.operands, e])
    have hc : c ≠ .tmp d := fun e => hd (by simp [hop, Op.operands, e])
    simp only [absOp, hop]
    unfold TwoC opMake
    cases tElem P t with
    | none => exact .inl fun R k => rfl
    | some e =>
      simp only
      cases zeroCells P e with
      | none => exact .inl fun R k => rfl
      | some z =>
        simp only
        cases Nat.beq (tSize P e) 0 with
        | true => exact .inl fun R k => rfl
        | false =>
          cases Nat.beq z.length (tSize P e) with
          | false => exact .inl fun R k => rfl
          | true =>
            simp only
            rw [h.evx hn, h.evx hc]
            cases S.ev n with
            | int k1 len =>
              cases S.ev c with
              | int k2 cap =>
                simp only [AV.int?]
                cases decide (0 ≤ len) with
                | false => exact .inl fun R k => rfl
                | true =>
                  cases decide (len ≤ cap) with
                  | false => exact .inl fun R k => rfl
                  | true =>
                    cases decide (cap * (tBytes P e : Int) ≤ 281474976710656) with
                    | false => exact .inl fun R k => rfl
                    | true =>
                      cases decide (cap ≤ 281474976710656) with
                      | false => exact .inl fun R k => rfl
                      | true =>
                        cases decide (len = cap) with
                        | true =>
                          simp only [br]
                          rw [h.H, h.nx]
                          unfold Hp.new?
                          cases S.H.get S.nx with
                          | some b => exact .inl fun R k => rfl
                          | none => exact .inr ⟨_, _, fun R k => rfl, fun R k => rfl, (((FrC.refl h).mem _ _).unlent).putd hdst _⟩
                        | false =>
                          cases decide (len = 0) with
                          | false => exact .inl fun R k => rfl
                          | true => exact .inr ⟨_, _, fun R k => rfl, fun R k => rfl, (FrC.refl h).putown hdst _ _⟩
              | _ => exact .inl fun R k => rfl
            | _ => exact .inl fun R k => rfl
  | assign x =>
    have hx : x ∈ o.op.operands := by simp [hop, Op.operands]
    simp only [absOp, hop]
    exact frame_assign h (fun e => hd (e ▸ hx)) hdst fun t v q ht hs => hlent (by simp [clOf, hop]) t v q (ht ▸ hx) hs
  | move x =>
    exfalso
    simp only [clOf, hop] at hcl
    split at hcl <;> simp at hcl
  | _ => simp [clOf, hop] at hcl

end
end Go.Vai
