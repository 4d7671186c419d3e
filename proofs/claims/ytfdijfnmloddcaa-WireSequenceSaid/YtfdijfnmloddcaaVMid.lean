/- One value of a drawn region at a time. -/
import Derived.Test.YtfdijfnmloddcaaWPre
namespace Go.Proofs.Ytfdijfnmloddcaa
open Go Go.Vai

/-- of value i: its slot; its guard: the wanted answer and the guard's slot -/
noncomputable def stepInfo (todo : List Item) (i : Nat) : Option (Nat × Option (Bool × Nat)) := match todo with
  | .code (.region _ ops true) :: _ => match Nat.blt i (countV ops.toList) with
    | true => match ops[i]? with
      | some o => match o.dst with
        | some e => match o.guard with
          | none => some (e, none)
          | some (j, w) => match dstOf ops.toList j with
            | some d => some (e, some (w, d))
            | none => none
        | none => none
      | none => none
    | false => none
  | _ => none

theorem stepInfo_some {todo : List Item} {i e : Nat} {gd : Option (Bool × Nat)} (h : stepInfo todo i = some (e, gd)) : ∃ id ops k o, todo = .code (.region id ops true) :: k ∧ ops[i]? = some o ∧ o.dst = some e ∧
    (ops.toList.take (countV ops.toList)).drop i = o :: (ops.toList.take (countV ops.toList)).drop (i + 1) ∧
    ((o.guard = none ∧ gd = none) ∨ ∃ j w d, o.guard = some (j, w) ∧ dstOf ops.toList j = some d ∧ gd = some (w, d)) := by
  unfold stepInfo at h
  split at h
  · rename_i id ops k
    split at h
    · rename_i hlt
      have hlt' : i < countV ops.toList := by simpa [Nat.blt_eq] using hlt
      split at h
      · rename_i o ho
        split at h
        · rename_i e' he
          have hdrop : (ops.toList.take (countV ops.toList)).drop i = o :: (ops.toList.take (countV ops.toList)).drop (i + 1) := by
            have e0 : (ops.toList.take (countV ops.toList))[i]? = some o := by rw [List.getElem?_take, if_pos hlt', Array.getElem?_toList]; exact ho
            have hl := (List.getElem?_eq_some_iff.1 e0).1
            rw [List.drop_eq_getElem_cons hl]
            rw [List.getElem?_eq_getElem hl] at e0
            injection e0 with e0
            rw [e0]
          split at h
          · rename_i hg
            injection h with h
            injection h with h1 h2
            exact ⟨id, ops, k, o, rfl, ho, by rw [he, h1], hdrop, .inl ⟨hg, h2.symm⟩⟩
          · rename_i j w hg
            split at h
            · rename_i d hd
              injection h with h
              injection h with h1 h2
              exact ⟨id, ops, k, o, rfl, ho, by rw [he, h1], hdrop, .inr ⟨j, w, d, hg, hd, h2.symm⟩⟩
            · cases h
        · cases h
      · cases h
    · cases h
  · cases h

theorem br_t' {R : Type} {c : Bool} {x y : Option R} (h : c = true) : br c x y = x := by rw [h]; rfl

section
variable {cal : Oracle} {n f : Nat} {todo : List Item} {i e d : Nat} {S S' : St} {v : AV} {w b : Bool}

/-- a value -/
theorem mid_val (h : stepInfo todo i = some (e, none)) (hv : vAt cal f todo i S = some v) (hS : S.put e (.val v .no) = S') : midRun cal n f todo i S = midRun cal n f todo (i + 1) S' := by
  obtain ⟨id, ops, k, o, rfl, ho, he, hdrop, hg⟩ := stepInfo_some h
  rcases hg with ⟨hg, _⟩ | ⟨j, w, d, _, _, h2⟩
  · simp only [vAt, ho] at hv
    simp only [midRun, hdrop]
    rw [absVal, he, hg]
    simp only
    rw [hv, ← hS]
    rfl
  · cases h2

/-- a value that its guard asks for -/
theorem mid_yes (h : stepInfo todo i = some (e, some (w, d))) (hd : (S.slot d).av = .bool w) (hv : vAt cal f todo i (S.put d (.val (.bool w) .no)) = some v) (hS : (S.put d (.val (.bool w) .no)).put e (.val v .no) = S') : midRun cal n f todo i S = midRun cal n f todo (i + 1) S' := by
  obtain ⟨id, ops, k, o, rfl, ho, he, hdrop, hg⟩ := stepInfo_some h
  rcases hg with ⟨_, h2⟩ | ⟨j, w', d', hg, hj, h2⟩
  · cases h2
  · injection h2 with h2
    injection h2 with h3 h4
    subst h3 h4
    simp only [vAt, ho] at hv
    simp only [midRun, hdrop]
    rw [absVal, he, hg]
    simp only
    rw [hj]
    simp only
    rw [hd, ← hS]
    cases w <;> (simp only [AV.guard?, br]; rw [hv]; rfl)

theorem mid_yes2 (h : stepInfo todo i = some (e, some (w, d))) (hd : (S.slot d).av = .bool w) (h0 : S.put d (.val (.bool w) .no) = S) (hv : vAt cal f todo i S = some v) (hS : S.put e (.val v .no) = S') : midRun cal n f todo i S = midRun cal n f todo (i + 1) S' :=
  mid_yes h hd (by rw [h0]; exact hv) (by rw [h0]; exact hS)

/-- operation i -/
noncomputable def opOf (todo : List Item) (i : Nat) : Option Oper := match todo with
  | .code (.region _ ops _) :: _ => ops[i]?
  | _ => none
noncomputable def lookOf (todo : List Item) (i : Nat) : List Nat := match todo with
  | .code (.region _ ops _) :: _ => match ops[i]? with
    | some o => o.looksAt ops
    | none => []
  | _ => []

theorem vAt_eq {o : Oper} (ho : opOf todo i = some o) : vAt cal f todo i S = vOp Try.prog ann (getA ann f) (isResOf f) cal o (lookOf todo i) S := by
  unfold opOf at ho
  split at ho
  · rename_i id ops d k
    simp only [vAt, lookOf, ho]
  · cases ho

theorem putown_slot {S : St} {d : Nat} {v : AV} {fl : Fl} (hd : d < S.sl.length) : (S.putown (some d) v fl).slot d = .val v fl := by
  unfold St.putown
  cases fl <;> (simp only; rw [slot_put, if_pos ⟨rfl, by first | exact hd | (simpa using hd)⟩])

/-- a call in a drawn region -/
theorem vAt_call {o : Oper} {g : Nat} {L : List AV} {out : Out} {c : Call} (ho : opOf todo i = some o) (hop : o.op = .call c) (hc : c.callee = .value (.func g)) (hd : o.dst = some d) (hlt : d < S.sl.length)
    (himp : (getA ann g).imp = false) (hL : evsT Try.prog (S.mask (lookOf todo i)) c.argTypes.toList c.args.toList = L) (hp : pureL L = true) (hcal : cal g L Hp.none 0 = some out) (hp2 : out.v.pure = true) : vAt cal f todo i S = some out.v := by
  rw [vAt_eq ho]
  have hm : d < (S.mask (lookOf todo i)).sl.length := by show d < (maskS _ 0 S.sl).length; rw [maskS_length]; exact hlt
  simp only [vOp, absOp, hop, hc, opCall, St.ev, AV.func?, himp, hL, List.append_nil]
  rw [br_t' hp, hcal]
  simp only [Option.bind_some]
  rw [br_t' hp2]
  simp only [Option.bind_some, hd]
  rw [putown_slot hm]

/-- bytes into a string -/
theorem vAt_conv {o : Oper} {t : Nat} {tg : Bool} {L : List AV} {s : List UInt8} {fl : Fl} {st dt e : TypeId} (ho : opOf todo i = some o) (hop : o.op = .convert st dt (.tmp t)) (hd : o.dst = some d) (hlt : d < S.sl.length)
    (h1 : Try.prog.underlying st = some (.slice e)) (h2 : Try.prog.underlying dt = some .string) (h3 : Try.prog.underlying e = some (.int .u8)) (hm : memN t (lookOf todo i) = true) (hs : S.slot t = .val (.vs 1 tg L) fl) (hb : bytesOf L = some s) : vAt cal f todo i S = some (.str s) := by
  rw [vAt_eq ho]
  have hsl : (S.mask (lookOf todo i)).slot t = .val (.vs 1 tg L) .no := by rw [slot_mask, hm, hs]
  have hl : d < (S.mask (lookOf todo i)).sl.length := by show d < (maskS _ 0 S.sl).length; rw [maskS_length]; exact hlt
  simp only [vOp, absOp, hop, evT, St.ev, hsl, Slot.av, opConvert, h1, h2, h3, elemsOf]
  simp only [show Nat.beq 1 1 = true from rfl, hb, Option.bind_some, hd, St.putd]
  rw [slot_put, if_pos ⟨rfl, hl⟩]

/-- a call's function and slot -/
noncomputable def callOf (todo : List Item) (i : Nat) : Option (Nat × Nat) := match opOf todo i with
  | some o => match o.op with
    | .call c => match c.callee with
      | .value (.func g) => match (getA ann g).imp with
        | false => match o.dst with
          | some d => some (g, d)
          | none => none
        | true => none
      | _ => none
    | _ => none
  | none => none
noncomputable def argsOf (todo : List Item) (i : Nat) (S : St) : List AV := match opOf todo i with
  | some o => match o.op with
    | .call c => evsT Try.prog (S.mask (lookOf todo i)) c.argTypes.toList c.args.toList
    | _ => []
  | none => []
theorem vAt_callOf {g : Nat} {L : List AV} {out : Out} (h : callOf todo i = some (g, d)) (hlt : Nat.blt d S.sl.length = true) (hL : argsOf todo i S = L) (hp : pureL L = true) (hcal : cal g L Hp.none 0 = some out) (hp2 : out.v.pure = true) :
    vAt cal f todo i S = some out.v := by
  unfold callOf at h
  cases ho : opOf todo i with
  | none => rw [ho] at h; cases h
  | some o =>
    rw [ho] at h
    simp only at h
    split at h
    · rename_i c hop
      split at h
      · rename_i g' hc
        split at h
        · rename_i himp
          split at h
          · rename_i d' hd
            injection h with h
            injection h with h1 h2
            subst h1 h2
            refine vAt_call ho hop hc hd (by simpa [Nat.blt_eq] using hlt) himp ?_ hp hcal hp2
            unfold argsOf at hL
            rw [ho] at hL
            simp only [hop] at hL
            exact hL
          · cases h
        · cases h
      · cases h
    · cases h

noncomputable def convOf (todo : List Item) (i : Nat) (S : St) : Option (Nat × List AV) := match opOf todo i with
  | some o => match o.op with
    | .convert st dt (.tmp t) => match Try.prog.underlying st, Try.prog.underlying dt with
      | some (.slice e), some .string => match Try.prog.underlying e with
        | some (.int .u8) => match memN t (lookOf todo i), S.slot t with
          | true, .val (.vs z _ L) _ => match Nat.beq z 1, o.dst with
            | true, some d => some (d, L)
            | _, _ => none
          | _, _ => none
        | _ => none
      | _, _ => none
    | _ => none
  | none => none
theorem vAt_convOf {L : List AV} {s : List UInt8} (h : convOf todo i S = some (d, L)) (hlt : Nat.blt d S.sl.length = true) (hb : bytesOf L = some s) : vAt cal f todo i S = some (.str s) := by
  unfold convOf at h
  cases ho : opOf todo i with
  | none => rw [ho] at h; cases h
  | some o =>
    rw [ho] at h
    simp only at h
    split at h
    · rename_i st dt t hop
      split at h
      · rename_i e h1 h2
        split at h
        · rename_i h3
          split at h
          · rename_i z tg L' fl hm hs
            split at h
            · rename_i d' hz hd
              injection h with h
              injection h with h4 h5
              subst h4 h5
              obtain rfl := Nat.eq_of_beq_eq_true hz
              exact vAt_conv ho hop hd (by simpa [Nat.blt_eq] using hlt) h1 h2 h3 hm hs hb
            · cases h
          · cases h
        · cases h
      · cases h
    · cases h

noncomputable def isDraw (f : Nat) (todo : List Item) (len : Nat) : Bool := match todo with
  | .code (.region _ ops true) :: _ => match Try.prog.funcs[f]? with
    | some _ => drawOk ops (countV ops.toList) len
    | none => false
  | _ => false
theorem run_draw (h : isDraw f todo S.sl.length = true) : run Try.prog ann cal (n + 1) f todo S = midRun cal n f todo 0 S := by
  unfold isDraw at h
  split at h
  · rename_i id ops k
    split at h
    · rename_i fn hfn
      have e : isResOf f = fun d => memN d (resSlots fn.results.toList) := by
        funext d
        simp only [isResOf, hfn]
      simp only [run, hfn, absDraw, midRun, List.drop_zero, e]
      rw [br_t' h]
    · cases h
  · cases h

end
end Go.Proofs.Ytfdijfnmloddcaa
