/- One operation of a drawn region that gives a value: it writes its slot alone. -/
import Derived.Test.YtjipknfohmgjaaaVDag3
import Derived.Test.YtjipknfohmgjaaaVDraw
namespace Go.Vai

section
variable {eb ebj ebi : Bool} {P : Program} {A : List (Nat × Ann)} {an : Ann} {isRes : Nat → Bool} {cal : Oracle} {o : Oper} {S S' : St} {l : List Nat}

theorem setS_setS : ∀ (l : List Slot) (n : Nat) (s s' : Slot), setS (setS l n s) n s' = setS l n s'
  | [], _, _, _ => rfl
  | _ :: _, 0, _, _ => rfl
  | x :: l, n + 1, s, s' => by simp only [setS, setS_setS l n s s']
theorem setS_self : ∀ (l : List Slot) (n : Nat), setS l n (nthS l n) = l
  | [], _ => rfl
  | _ :: _, 0 => rfl
  | x :: l, n + 1 => by simp only [setS, nthS, setS_self l n]
theorem setS_comm : ∀ (l : List Slot) (n m : Nat) (s s' : Slot), n ≠ m → setS (setS l n s) m s' = setS (setS l m s') n s
  | [], _, _, _, _, _ => rfl
  | _ :: _, 0, 0, _, _, h => absurd rfl h
  | _ :: _, 0, m + 1, _, _, _ => rfl
  | _ :: _, n + 1, 0, _, _, _ => rfl
  | x :: l, n + 1, m + 1, s, s', h => by simp only [setS, setS_comm l n m s s' (fun e => h (by rw [e]))]
theorem put_put (S : St) (d : Nat) (s s' : Slot) : (S.put d s).put d s' = S.put d s' := by unfold St.put; simp only [setS_setS]
theorem put_self (S : St) (d : Nat) : S.put d (S.slot d) = S := by unfold St.put St.slot; simp only [setS_self]
theorem put_comm (S : St) {d e : Nat} (s s' : Slot) (h : d ≠ e) : (S.put d s).put e s' = (S.put e s').put d s := by unfold St.put; simp only [setS_comm _ _ _ _ _ h]
theorem putd_comm (S : St) {x y : Option Nat} (s s' : Slot) (h : ∀ d, x = some d → y ≠ some d) : (S.putd x s).putd y s' = (S.putd y s').putd x s := by
  cases x with
  | none => rfl
  | some d => cases y with
    | none => rfl
    | some e => exact put_comm S s s' fun h' => h d rfl (by rw [h'])
theorem slot_put_ne (S : St) {d t : Nat} (s : Slot) (h : t ≠ d) : (S.put d s).slot t = S.slot t := by rw [slot_put, if_neg fun e => h e.1]
theorem slot_putd_ne (S : St) {d : Option Nat} {t : Nat} (s : Slot) (h : d ≠ some t) : (S.putd d s).slot t = S.slot t := by
  cases d with
  | none => rfl
  | some d => exact slot_put_ne S s fun e => h (by rw [e])
theorem putd_bareAt (S : St) (d : Option Nat) (s : Slot) : (S.putd d s).bareAt d = S.putd d s.bare := by
  cases d with
  | none => rfl
  | some d =>
    show (S.put d s).put d ((S.put d s).slot d).bare = S.put d s.bare
    rw [put_put, slot_put]
    split
    · rfl
    · rename_i h
      have hlt : ¬ d < S.sl.length := fun hh => h ⟨rfl, hh⟩
      have e : ∀ s1 s2 : Slot, setS S.sl d s1 = setS S.sl d s2 := by
        have key : ∀ (l : List Slot) (n : Nat), ¬ n < l.length → ∀ s1 : Slot, setS l n s1 = l := by
          intro l
          induction l with
          | nil => intro n _ s1; rfl
          | cons x l ih =>
            intro n hn s1
            cases n with
            | zero => simp at hn
            | succ n => simp only [setS]; rw [ih n (by simpa using hn)]
        intro s1 s2
        rw [key _ _ hlt, key _ _ hlt]
      unfold St.put
      rw [e]

theorem mask_same (h : Same S S' l) : S'.mask l = S.mask l := by
  refine mask_congr h.len fun t ht => ?_
  rw [slot_mask, slot_mask]
  have hb := h.slot t ht
  cases memN t l with
  | false => rfl
  | true =>
    simp only
    cases hs : S.slot t with
    | und => rw [bare_und hb hs]
    | lp d off => rw [bare_lp hb hs]
    | mp d => rw [bare_mp hb hs]
    | val v f => obtain ⟨f', hs'⟩ := bare_val hb hs; rw [hs']

/-- a pure call, an append to nil, an extraction: one state, or none -/
theorem par2 (hcl : clOf A eb o = 2) (T : St) : Par fun _ k => absOp P A an isRes cal o T k := by
  cases hop : o.op with
  | extract x i =>
    simp only [absOp, hop]
    cases x with
    | tmp t =>
      unfold opExtract
      simp only
      cases T.slot t with
      | val v f =>
        simp only
        cases v with
        | tuple l =>
          simp only [AV.tup?]
          refine Par.bind fun c => ?_
          cases f with
          | comps cs => simp only; cases memN i cs <;> exact Par.ret _
          | _ => exact Par.ret _
        | _ => exact Par.none'
      | _ => exact Par.none'
    | _ => exact Par.none'
  | call c =>
    obtain ⟨callee, args, tys⟩ := c
    cases callee with
    | builtin b =>
      cases b with
      | append =>
        simp only [absOp, hop, opBuiltin]
        match hty : tys.toList, har : args.toList with
        | [t, t2], [a, b] =>
          simp only
          unfold opAppend
          cases tElem P t with
          | none => exact Par.none'
          | some e =>
            cases zeroOk P t with
            | false => exact Par.none'
            | true =>
              simp only
              cases Nat.beq (tSize P e) 0 with
              | true => exact Par.none'
              | false =>
                cases srcType P t2 with
                | false => exact Par.none'
                | true =>
                  simp only
                  refine Par.comp (par_elemsOf _ _ _) fun l2 => ?_
                  have fin : ∀ (l : List AV) (X : St), Par fun R (k : St → Option R) => br (Nat.ble ((l.length + l2.length) * tBytes P e) maxBytes) (br (Nat.ble (l.length + l2.length) maxBytes) (match o.dst with
                      | some _ => k (X.unlent.putown o.dst (.vs (tSize P e) false (l ++ l2)) .own)
                      | none => none) none) none := by
                    intro l X
                    refine Par.brn (Par.brn ?_)
                    cases o.dst with
                    | none => exact Par.none'
                    | some d => exact Par.ret _
                  cases evT P T t a with
                  | vs z tg l =>
                    simp only [AV.vs?]
                    cases Nat.beq z (tSize P e) with
                    | false => exact Par.none'
                    | true =>
                      cases a with
                      | const v => exact fin _ _
                      | tmp u =>
                        simp only
                        cases T.slot u with
                        | val v f =>
                          cases f with
                          | own => exact fin _ _
                          | lS q =>
                            simp only
                            cases T.slot q with
                            | val v2 f2 =>
                              cases f2 with
                              | own => exact fin _ _
                              | _ => exact Par.brn (fin _ _)
                            | _ => exact Par.brn (fin _ _)
                          | lL d off =>
                            refine Par.bind fun bl => ?_
                            cases memN off bl.free with
                            | true => exact fin _ _
                            | false => exact Par.brn (fin _ _)
                          | lH id off =>
                            refine Par.bind fun bl => ?_
                            cases memN off bl.free with
                            | true => exact fin _ _
                            | false => exact Par.brn (fin _ _)
                          | _ => exact Par.brn (fin _ _)
                        | _ => exact Par.brn (fin _ _)
                      | _ => exact Par.none'
                  | _ => exact Par.none'
        | [], _ => exact Par.none'
        | [_], _ => exact Par.none'
        | _ :: _ :: _ :: _, _ => exact Par.none'
        | [_, _], [] => exact Par.none'
        | [_, _], [_] => exact Par.none'
        | [_, _], _ :: _ :: _ :: _ => exact Par.none'
      | _ => simp [clOf, hop] at hcl
    | value f =>
      cases f with
      | func g =>
        simp only [absOp, hop]
        unfold opCall
        simp only [St.ev, AV.func?]
        cases hi : (getA A g).imp with
        | true => simp [clOf, hop, hi] at hcl
        | false => exact Par.brn (Par.bind fun r => Par.brn (Par.ret _))
      | _ => simp [clOf, hop] at hcl
    | invoke _ _ => simp [clOf, hop] at hcl
  | move x =>
    exfalso
    simp only [clOf, hop] at hcl
    split at hcl <;> cases hcl
  | makeSlice _ _ _ =>
    exfalso
    simp only [clOf, hop] at hcl
    split at hcl <;> cases hcl
  | alloc _ =>
    exfalso
    simp only [clOf, hop] at hcl
    split at hcl <;> cases hcl
  | _ => simp [clOf, hop] at hcl

/-- the states agree, and have the same rights where that is asked -/
structure Sim (fx fh : Bool) (S S' : St) (l : List Nat) : Prop where
  same : Same S S' l
  mem : fh = true → SameH S S'
  ex : fx = true → (∀ t ∈ l, S'.slot t = S.slot t) ∧ S'.L = S.L ∧ S'.H = S.H

theorem floatOk_same (hl : ∀ t, Operand.tmp t ∈ o.op.operands → t ∈ l) (h : Same S S' l) : floatOk o S' = floatOk o S := by
  unfold floatOk
  cases hop : o.op with
  | load t x =>
    simp only
    cases x with
    | tmp t =>
      have hb := h.slot t (hl t (by simp [hop, Op.operands]))
      simp only
      cases hs : S.slot t with
      | und => rw [bare_und hb hs]
      | lp d off => rw [bare_lp hb hs]
      | mp d => rw [bare_mp hb hs]
      | val v f => obtain ⟨f', hs'⟩ := bare_val hb hs; rw [hs']
    | _ => rfl
  | convert a b x =>
    simp only
    cases x with
    | tmp t =>
      have hb := h.slot t (hl t (by simp [hop, Op.operands]))
      simp only
      cases hs : S.slot t with
      | und => rw [bare_und hb hs]
      | lp d off => rw [bare_lp hb hs]
      | mp d => rw [bare_mp hb hs]
      | val v f => obtain ⟨f', hs'⟩ := bare_val hb hs; rw [hs']
    | _ => rfl
  | _ => rfl

theorem noBoxL_congr {ws : List Nat} : ∀ {l : List Nat}, (∀ t ∈ l, (S'.slot t).bare = (S.slot t).bare) → noBoxL S' ws l = noBoxL S ws l
  | [], _ => rfl
  | t :: l, h => by
    have hb := h t List.mem_cons_self
    unfold noBoxL
    rw [noBoxL_congr (l := l) fun t ht => h t (List.mem_cons_of_mem _ ht)]
    cases hs : S.slot t with
    | und => rw [bare_und hb hs]
    | lp d off => rw [bare_lp hb hs]
    | mp d => rw [bare_mp hb hs]
    | val v f => obtain ⟨f', hs'⟩ := bare_val hb hs; rw [hs']
theorem noBox_congr {ws : List Nat} {l : List Nat} (h : ∀ t ∈ l, (S'.slot t).bare = (S.slot t).bare) : noBox S' ws l = noBox S ws l := by
  unfold noBox
  cases ws with
  | nil => rfl
  | cons b bs => exact noBoxL_congr h
theorem noBox_same {ws : List Nat} (h : Same S S' l) : noBox S' ws l = noBox S ws l := noBox_congr h.slot
theorem noBox_putd {ws l : List Nat} {s s' : Slot} (hds : ∀ q, q ∈ l → o.dst = some q) (hlen : S'.sl.length = S.sl.length) (h : s'.bare = s.bare) : noBox (S'.putd o.dst s') ws l = noBox (S.putd o.dst s) ws l := by
  refine noBox_congr fun t ht => ?_
  rw [hds t ht]
  show ((S'.put t s').slot t).bare = ((S.put t s).slot t).bare
  rw [slot_put, slot_put, hlen]
  split
  · exact h
  · rename_i hh
    have hz : ∀ (Y : St), ¬ t < Y.sl.length → Y.slot t = .und := fun Y hY => by
      cases hy : Y.slot t with
      | und => rfl
      | _ => exact absurd (nthS_lt (by show Y.slot t ≠ _; rw [hy]; simp)) hY
    have hlt : ¬ t < S.sl.length := fun hl => hh ⟨rfl, hl⟩
    rw [hz S' (by rw [hlen]; exact hlt), hz S hlt]
theorem noBox_spec {ws l : List Nat} (h : noBox S ws l = true) {t e off : Nat} (ht : t ∈ l) (hs : S.slot t = .lp e off ∨ S.slot t = .mp e) : e ∉ ws := by
  unfold noBox at h
  cases ws with
  | nil => simp
  | cons b bs =>
    simp only at h
    induction l with
    | nil => cases ht
    | cons u l ih =>
      unfold noBoxL at h
      split at h
      · cases h
      · rename_i hm
        rcases List.mem_cons.1 ht with e1 | ht
        · subst e1
          intro hmem
          rcases hs with hs | hs
          · rw [hs] at hm; simp only at hm; rw [memN_iff.2 hmem] at hm; cases hm
          · rw [hs] at hm; simp only at hm; rw [memN_iff.2 hmem] at hm; cases hm
        · exact ih ht h

theorem av_same (h : Same S S' l) : (l.map fun t => (S'.slot t).av) = l.map fun t => (S.slot t).av :=
  List.map_congr_left fun t ht => by rw [← bare_av, h.slot t ht, bare_av]

/-- what one step does to two states -/
def Two (F F' : ∀ R : Type, (St → Option R) → Option R) (dst : Option Nat) (S S' : St) : Prop :=
  (∀ R k, F R k = none) ∨ ∃ s, (∀ R k, F R k = k (S.putd dst s)) ∧ ∀ R k, F' R k = k (S'.putd dst s)
/-- the same, and without a right where the step floats -/
def TwoF (fx : Bool) (F F' : ∀ R : Type, (St → Option R) → Option R) (dst : Option Nat) (S S' : St) : Prop :=
  (∀ R k, F R k = none) ∨ ∃ s, (∀ R k, F R k = k (S.putd dst s)) ∧ (∀ R k, F' R k = k (S'.putd dst s)) ∧ (fx = false → s.bare = s)

theorem bare_bare (s : Slot) : s.bare.bare = s.bare := by cases s <;> rfl

theorem catOk_same {l : List Nat} {fx : Bool} (hl : ∀ t, Operand.tmp t ∈ o.op.operands → t ∈ l) (h : Same S S' l) : catOk o fx S' = catOk o fx S := by
  unfold catOk
  cases hop : o.op with
  | call c =>
    simp only
    split
    · split
      · split
        · rename_i x y hty har
          split
          · split
            · rename_i t
              have ht : t ∈ l := by
                refine hl t ?_
                rw [hop]
                have : Operand.tmp t ∈ c.args.toList := by rw [har]; simp
                simp only [Op.operands, Call.operands, Array.mem_append]
                exact .inr (Array.mem_toList_iff.1 this)
              rw [← bare_av (S'.slot t), h.slot t ht, bare_av]
            · rfl
          · rfl
        · rfl
      · rfl
    · rfl
  | _ => rfl
theorem catOk_fx {fx : Bool} (h : catOk o fx S = true) : fx = true := by
  unfold catOk at h
  repeat' split at h
  all_goals first | exact h | cases h
theorem opCat_same {l : List Nat} (hl : ∀ t, Operand.tmp t ∈ o.op.operands → t ∈ l) (h : Same S S' l) (hH : S'.H = S.H) {R : Type} (k : AV → Option R) : opCat P o S' k = opCat P o S k := by
  unfold opCat
  cases hop : o.op with
  | call c =>
    simp only
    split
    · split
      · split
        · rename_i st st2 x y hty har
          split
          · have hy : evT P S' st y = evT P S st y := h.evT (fun t e => hl t (by
              rw [hop]
              have : Operand.tmp t ∈ c.args.toList := by rw [har, e]; simp
              simp only [Op.operands, Call.operands, Array.mem_append]
              exact .inr (Array.mem_toList_iff.1 this))) st
            rw [hy]
            split
            · split
              · exact elemsOf_congr _ _ _ _ (.inl (.of hH))
              · rfl
            · rfl
          · rfl
        · rfl
      · rfl
    · rfl
  | _ => rfl
theorem par_opCat (T : St) : Par fun _ k => opCat P o T k := by
  unfold opCat
  split
  · split
    · split
      · split
        · split
          · split
            · split
              · refine Par.comp (F := fun _ k => elemsOf false 1 _ T k) (par_elemsOf _ _ _) fun l2 => ?_
                cases evT P T _ (.const _) with
                | vs z tg l => cases l with
                  | nil => exact Par.brn (Par.brn (Par.brn (Par.ret _)))
                  | cons _ _ => exact Par.none'
                | _ => exact Par.none'
              · exact Par.none'
            · exact Par.none'
          · exact Par.none'
        · exact Par.none'
      · exact Par.none'
    · exact Par.none'
  · exact Par.none'

attribute [local irreducible] opCat catOk in
theorem dop_two {D : List Nat} {i : Nat} {fz : Fx} {x : OI} (hx : x.cl = clOf A eb o) (hl : ∀ t, Operand.tmp t ∈ o.op.operands → t ∈ x.lk) (hv : isVal x.cl = true) (h : Sim fz.fx fz.fh S S' x.lk) :
    TwoF fz.fx (fun _ k => dop P A an isRes cal D i fz x o S k) (fun _ k => dop P A an isRes cal D i fz x o S' k) o.dst S S' := by
  have hcl : x.cl = 0 ∨ x.cl = 1 ∨ x.cl = 2 := by
    have : x.cl < 3 := by simpa [isVal, Nat.blt_eq] using hv
    omega
  unfold dop
  rcases hcl with hc | hc | hc
  · rw [hc]
    simp only
    rw [hx] at hc
    have hop : ∃ t, o.op = .move (.tmp t) := by
      cases hop : o.op with
      | move x =>
        cases x with
        | tmp t => exact ⟨t, rfl⟩
        | _ => simp [clOf, hop] at hc
      | call c =>
        exfalso
        simp only [clOf, hop] at hc
        repeat' split at hc
        all_goals cases hc
      | makeSlice _ _ _ =>
        exfalso
        simp only [clOf, hop] at hc
        split at hc <;> cases hc
      | alloc _ =>
        exfalso
        simp only [clOf, hop] at hc
        split at hc <;> cases hc
      | _ => simp [clOf, hop] at hc
    obtain ⟨t, hop⟩ := hop
    have ht := hl t (by simp [hop, Op.operands])
    simp only [absOp, hop, opMove]
    cases hfx : fz.fx with
    | true =>
      obtain ⟨he, _, _⟩ := h.ex hfx
      refine .inr ⟨moveSlot S t, fun R k => rfl, fun R k => ?_, fun h => (by cases h)⟩
      have : moveSlot S' t = moveSlot S t := by unfold moveSlot; rw [he t ht]
      show k (S'.putd o.dst (moveSlot S' t)) = _
      rw [this]
    | false =>
      have hb := h.same.slot t ht
      have : (moveSlot S' t).bare = (moveSlot S t).bare := by
        have mb : ∀ (T : St), (moveSlot T t).bare = (T.slot t).bare := fun T => by
          unfold moveSlot
          cases T.slot t with
          | val v f => cases f <;> rfl
          | _ => rfl
        rw [mb, mb, hb]
      refine .inr ⟨(moveSlot S t).bare, fun R k => ?_, fun R k => ?_, fun _ => bare_bare _⟩
      · show k ((S.putd o.dst (moveSlot S t)).bareAt o.dst) = _
        rw [putd_bareAt]
      · show k ((S'.putd o.dst (moveSlot S' t)).bareAt o.dst) = _
        rw [putd_bareAt, this]
  · rw [hc]
    simp only
    rw [hx] at hc
    cases hfx : fz.fx with
    | true =>
      obtain ⟨_, h1, h2⟩ := h.ex hfx
      rcases uni1 (P := P) (an := an) (isRes := isRes) (cal := cal) hc hl h.same (.inl (.of h2)) with hn | ⟨s, s', h3, h4, _, h5⟩
      · exact .inl fun R k => hn R k
      · rw [h5 h1 h2] at h4
        exact .inr ⟨s, fun R k => h3 R k, fun R k => h4 R k, fun h => (by cases h)⟩
    | false =>
      simp only
      rw [floatOk_same hl h.same]
      cases hf : (fz.fh || floatOk o S) with
      | false => exact .inl fun R k => rfl
      | true =>
        rw [Bool.or_eq_true] at hf
        have hH : SameH S S' ∨ floatOk o S = true := hf.imp h.mem id
        rcases uni1 (P := P) (an := an) (isRes := isRes) (cal := cal) hc hl h.same hH with hn | ⟨s, s', h3, h4, h5, _⟩
        · exact .inl fun R k => hn R _
        · refine .inr ⟨s.bare, fun R k => ?_, fun R k => ?_, fun _ => bare_bare _⟩
          · show absOp P A an isRes cal o S (fun S' => k (S'.bareAt o.dst)) = _
            rw [h3, putd_bareAt]
          · show absOp P A an isRes cal o S' (fun S' => k (S'.bareAt o.dst)) = _
            rw [h4, putd_bareAt, h5]
  · rw [hc]
    simp only
    rw [hx] at hc
    cases hd : o.dst with
    | none => exact .inl fun R k => rfl
    | some d =>
      simp only
      rw [av_same h.same, mask_same h.same, h.same.len, catOk_same hl h.same]
      cases hcat : catOk o fz.fx S with
      | true =>
        obtain ⟨_, _, h2⟩ := h.ex (catOk_fx hcat)
        cases Nat.blt d S.sl.length with
        | false => exact .inl fun R k => rfl
        | true =>
          rcases par_opCat (P := P) (o := o) S with hn | ⟨v, hv⟩
          · have hn' : ∀ (R : Type) (k : AV → Option R), opCat P o S k = none := hn
            exact .inl fun R k => by show opCat P o S (fun v => k (S.put d (.val v .no))) = none; rw [hn']
          · have hv' : ∀ (R : Type) (k : AV → Option R), opCat P o S k = k v := hv
            refine .inr ⟨.val v .no, fun R k => ?_, fun R k => ?_, fun _ => rfl⟩
            · show opCat P o S (fun v => k (S.put d (.val v .no))) = k (S.put d (.val v .no))
              rw [hv']
            · show opCat P o S' (fun v => k (S'.put d (.val v .no))) = k (S'.put d (.val v .no))
              rw [opCat_same hl h.same h2, hv']
      | false =>
      simp only
      cases hp : (Nat.blt d S.sl.length && pureL (x.lk.map fun t => (S.slot t).av)) with
      | false => exact .inl fun R k => rfl
      | true =>
        rcases par2 (P := P) (an := an) (isRes := isRes) (cal := cal) hc (S.mask x.lk) with hn | ⟨T, hT⟩
        · exact .inl fun R k => hn R _
        · cases hs : T.slot d with
          | val v f =>
            cases hpv : v.pure with
            | true =>
              refine .inr ⟨.val v .no, fun R k => ?_, fun R k => ?_, fun _ => rfl⟩
              · refine (hT R _).trans ?_; simp only [hs, hpv]; rfl
              · refine (hT R _).trans ?_; simp only [hs, hpv]; rfl
            | false => refine .inl fun R k => (hT R _).trans ?_; simp only [hs, hpv]; rfl
          | _ => refine .inl fun R k => (hT R _).trans ?_; simp only [hs]

end
end Go.Vai
