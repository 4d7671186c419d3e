/- Regions whose order is drawn: every order that the edges allow ends as the order of the text does. -/
import Derived.Test.YtjipknfohmgjaaaVDag7
namespace Go.Vai

section
variable {g0 : G} {w0 : World} {Ex : Nat → Prop} {g g' : G} {a : Act} {w w' : World}
variable {eb ebj ebi : Bool} {P : Program} {A : List (Nat × Ann)} {an : Ann} {isRes : Nat → Bool} {cal : Oracle} {S S' T : St} {R : Type} {r : R} {all : Array Oper} {D : List Nat}

theorem slot_mkRes (X : St) (i d : Nat) (cells : List AV) (len sz t : Nat) : (mkRes X i d cells len sz).slot t = if t = d ∧ d < X.sl.length then .val (.arr (X.nx + i) 0 len sz) .no else (X.slot t).unlent := by
  unfold mkRes
  rw [slot_put]
  have e : ({ X with H := X.H.set (X.nx + i) ⟨cells, []⟩ } : St).unlent.sl.length = X.sl.length := by show (X.sl.map _).length = _; rw [List.length_map]
  rw [e]
  split
  · rfl
  · exact slot_unlent _ t
theorem len_mkRes (X : St) (i d : Nat) (cells : List AV) (len sz : Nat) : (mkRes X i d cells len sz).sl.length = X.sl.length := by
  show (setS (X.sl.map _) d _).length = _
  rw [setS_length, List.length_map]

theorem exMM {j i : Nat} {fj fi : Fx} {oj oi : Oper} {xj xi : OI} (hj : xj.cl = 4) (hi : xi.cl = 4) (oj4 : clOf A ebj oj = 4) (oi4 : clOf A ebi oi = 4) (lj : ∀ t, Operand.tmp t ∈ oj.op.operands → t ∈ xj.lk) (li : ∀ t, Operand.tmp t ∈ oi.op.operands → t ∈ xi.lk)
    (h1 : ∀ q, oj.dst = some q → q ∉ xi.lk) (h2 : ∀ q, oj.dst = some q → oi.dst ≠ some q) (h3 : ∀ q, oi.dst = some q → q ∉ xj.lk) (hne : j ≠ i) {K : St → Option R}
    (h : dop P A an isRes cal D j fj xj oj T (fun X => dop P A an isRes cal D i fi xi oi X K) = some r) : dop P A an isRes cal D i fi xi oi T (fun X => dop P A an isRes cal D j fj xj oj X K) = some r := by
  rcases make_shape (P := P) (an := an) (isRes := isRes) (cal := cal) (D := D) (i := j) (fz := fj) hj oj4 lj T with hn | ⟨dj, cj, lenj, sj, ej, shj⟩
  · rw [hn] at h; cases h
  · rw [shj T (fun _ _ => rfl) rfl] at h
    obtain ⟨n1, h⟩ := new?_some h
    rcases make_shape (P := P) (an := an) (isRes := isRes) (cal := cal) (D := D) (i := i) (fz := fi) hi oi4 li (mkRes T j dj cj lenj sj) with hn | ⟨di, ci, leni, si, ei, shi⟩
    · rw [hn] at h; cases h
    · have b1 : ∀ t ∈ xi.lk, (T.slot t).bare = ((mkRes T j dj cj lenj sj).slot t).bare := fun t ht => by
        rw [slot_mkRes, if_neg (fun hh : t = dj ∧ dj < T.sl.length => h1 dj ej (hh.1 ▸ ht)), unlent_bare]
      rw [shi _ (fun _ _ => rfl) rfl] at h
      obtain ⟨n2, h⟩ := new?_some h
      have n2' : T.H (T.nx + i) = none := by
        have e : (T.H.set (T.nx + j) ⟨cj, []⟩) (T.nx + i) = none := n2
        rw [Hp_set, if_neg (by omega)] at e
        exact e
      rw [shi T b1 (len_mkRes _ _ _ _ _ _).symm]
      have b2 : ∀ t ∈ xj.lk, ((mkRes T i di ci leni si).slot t).bare = (T.slot t).bare := fun t ht => by
        rw [slot_mkRes, if_neg (fun hh : t = di ∧ di < T.sl.length => h3 di ei (hh.1 ▸ ht)), unlent_bare]
      unfold Hp.new?
      rw [show T.H.get (T.nx + i) = none from n2']
      simp only
      rw [shj _ b2 (len_mkRes _ _ _ _ _ _)]
      unfold Hp.new?
      have n3 : (mkRes T i di ci leni si).H.get ((mkRes T i di ci leni si).nx + j) = none := by
        show (T.H.set (T.nx + i) ⟨ci, []⟩) (T.nx + j) = none
        rw [Hp_set, if_neg (by omega)]
        exact n1
      rw [n3]
      simp only
      have hdd : di ≠ dj := fun e => h2 dj ej (by rw [ei, e])
      have : mkRes (mkRes T i di ci leni si) j dj cj lenj sj = mkRes (mkRes T j dj cj lenj sj) i di ci leni si := by
        refine st_ext (S := mkRes (mkRes T j dj cj lenj sj) i di ci leni si) (S' := mkRes (mkRes T i di ci leni si) j dj cj lenj sj) rfl ?_ rfl rfl (by simp only [len_mkRes]) fun t => ?_
        · exact insH_comm T.H (T.nx + i) (T.nx + j) _ _ (by omega)
        · have uu : ∀ s : Slot, s.unlent.unlent = s.unlent := fun s => by
            cases s with
            | val v f => cases f <;> rfl
            | _ => rfl
          simp only [slot_mkRes, len_mkRes]
          by_cases q1 : t = dj ∧ dj < T.sl.length
          · rw [if_pos q1, if_neg (fun hh => hdd (hh.1.symm.trans q1.1)), if_pos q1]; rfl
          · rw [if_neg q1]
            by_cases q2 : t = di ∧ di < T.sl.length
            · rw [if_pos q2, if_pos q2]; rfl
            · rw [if_neg q2, if_neg q2, if_neg q1]
      rw [this]
      exact h

theorem notLent_spec {d : Nat} (hd : d ∈ D) : ∀ {l : List Nat}, notLent S D l = true → ∀ t ∈ l, ∀ v q, S.slot t = .val v (.lS q) → q ≠ d
  | [], _, t, ht, _, _, _ => by cases ht
  | u :: l, h, t, ht, v, q, hs => by
    unfold notLent at h
    rw [Bool.and_eq_true] at h
    rcases List.mem_cons.1 ht with e | ht
    · subst e
      have h1 := h.1
      rw [hs] at h1
      simp only [Bool.not_eq_true'] at h1
      intro e
      subst e
      rw [memN_iff.2 hd] at h1
      cases h1
    · exact notLent_spec hd h.2 t ht v q hs
theorem notLent_congr : ∀ {l : List Nat}, (∀ t ∈ l, S'.slot t = S.slot t) → notLent S' D l = notLent S D l
  | [], _ => rfl
  | u :: l, h => by
    unfold notLent
    rw [h u List.mem_cons_self, notLent_congr fun t ht => h t (List.mem_cons_of_mem _ ht)]

theorem dstep_isV {o : Oper} {i : Nat} {fz : Fx} {x : OI} (hds : ∀ q, q ∈ x.ds → o.dst = some q) (hx : x.cl = clOf A eb o) (hl : ∀ t, Operand.tmp t ∈ o.op.operands → t ∈ x.lk) (hg : ∀ j want d, o.guard = some (j, want) → dstOf all.toList j = some d → d ∈ x.lk)
    (hv : isVal x.cl = true) : IsV (fun S _ k => dstep P A an isRes cal all.toList D i fz x o S k) fz.fx fz.fh o.dst x.lk := fun _ _ h => dstep_two hds hx hl hg hv h

theorem dstep_isC {o : Oper} {i : Nat} {fz : Fx} {x : OI} {d : Nat} (hx : x.cl = clOf A eb o) (hc : x.cl = 3 ∨ x.cl = 4) (hl : ∀ t, Operand.tmp t ∈ o.op.operands → t ∈ x.lk) (hg : ∀ j want d, o.guard = some (j, want) → dstOf all.toList j = some d → d ∈ x.lk)
    (hd : d ∉ x.lk) (hdst : o.dst ≠ some d) (hD : d ∈ D) : IsC (fun S _ k => dstep P A an isRes cal all.toList D i fz x o S k) d o.dst := by
  intro S S' h
  have hsl : ∀ t ∈ x.lk, S'.slot t = S.slot t := fun t ht => h.sl t fun e => hd (e ▸ ht)
  have e : gres all.toList o S' = gres all.toList o S := gres_same hg fun t ht => by rw [hsl t ht]
  have hv : isVal x.cl = false := by rcases hc with h | h <;> rw [h] <;> rfl
  unfold TwoC
  simp only [dstep_nv hv, dstep0_eq, e]
  cases gres all.toList o S with
  | none => exact .inl fun R k => rfl
  | some b =>
    cases b with
    | false => exact .inr ⟨_, _, fun R k => rfl, fun R k => rfl, (FrC.refl h).putd hdst _⟩
    | true =>
      simp only
      have hdo : Operand.tmp d ∉ o.op.operands := fun hh => hd (hl d hh)
      rcases hc with hc | hc
      · unfold dop
        rw [hc]
        simp only
        rw [notLent_congr hsl]
        cases hn : notLent S D x.lk with
        | false => exact .inl fun R k => by cases roOf A o <;> rfl
        | true =>
          have fr0 := frameC (P := P) (an := an) (isRes := isRes) (cal := cal) (.inl (hx ▸ hc)) h hdo hdst fun _ t v q ht hs => notLent_spec hD hn t (hl t ht) v q hs
          cases roOf A o with
          | false => exact fr0
          | true =>
            rcases fr0 with h0 | ⟨X, X', e1, e2, fr⟩
            · exact .inl fun R k => h0 R _
            · have e1' : ∀ (R : Type) (k : St → Option R), absOp P A an isRes cal o S k = k X := e1
              have e2' : ∀ (R : Type) (k : St → Option R), absOp P A an isRes cal o S' k = k X' := e2
              simp only [e1', e2']
              by_cases hH : X.H = S.H
              · have hH' : X'.H = S'.H := by rw [fr.off.H, h.H]; exact hH
                exact .inr ⟨X, X', fun R k => by rw [@decide_eq_true _ (Classical.propDecidable _) hH]; rfl, fun R k => by rw [@decide_eq_true _ (Classical.propDecidable _) hH']; rfl, fr⟩
              · exact .inl fun R k => by rw [@decide_eq_false _ (Classical.propDecidable _) hH]; rfl
      · unfold dop
        rw [hc]
        simp only
        cases hdd : o.dst with
        | none => exact .inl fun R k => rfl
        | some q =>
          simp only
          have hoff : Off d { S with nx := S.nx + i } { S' with nx := S'.nx + i } := ⟨h.L, h.H, h.M, by show S'.nx + i = S.nx + i; rw [h.nx], h.len, h.sl⟩
          rcases frameC (P := P) (an := an) (isRes := isRes) (cal := cal) (.inr (hx ▸ hc)) hoff hdo hdst (fun h3 => by rw [← hx, hc] at h3; cases h3) with hn | ⟨X, X', e1, e2, fr⟩
          · exact .inl fun R k => hn R _
          · have e1' : ∀ (R : Type) (k : St → Option R), absOp P A an isRes cal o { S with nx := S.nx + i } k = k X := e1
            have e2' : ∀ (R : Type) (k : St → Option R), absOp P A an isRes cal o { S' with nx := S'.nx + i } k = k X' := e2
            simp only [e1', e2']
            have hq : q ≠ d := fun e => hdst (by rw [hdd, e])
            rw [fr.off.sl q hq]
            cases hs : X.slot q with
            | val v f =>
              cases v with
              | arr a b c d' =>
                refine .inr ⟨_, _, fun R k => rfl, fun R k => rfl, ?_⟩
                rw [hdd] at fr
                exact ⟨⟨fr.off.L, fr.off.H, fr.off.M, h.nx, fr.off.len, fr.off.sl⟩, fr.at1, fr.at2, fr.pres, fr.pres2, fr.L1, fr.L2, fr.len1⟩
              | _ => exact .inl fun R k => rfl
            | _ => exact .inl fun R k => rfl

theorem dropLp_unlent (q : Nat) (s : Slot) : (dropLp q s).unlent = dropLp q s.unlent := by
  cases s with
  | lp e off => simp only [dropLp]; cases hb : Nat.beq e q <;> simp only [Slot.unlent, dropLp, hb]
  | mp e => simp only [dropLp]; cases hb : Nat.beq e q <;> simp only [Slot.unlent, dropLp, hb]
  | val v f => cases f <;> rfl
  | und => rfl
theorem dropLp_comm (q p : Nat) (s : Slot) : dropLp q (dropLp p s) = dropLp p (dropLp q s) := by
  cases s with
  | lp e off => simp only [dropLp]; cases hb : Nat.beq e q <;> cases hb2 : Nat.beq e p <;> simp only [dropLp, hb, hb2]
  | mp e => simp only [dropLp]; cases hb : Nat.beq e q <;> cases hb2 : Nat.beq e p <;> simp only [dropLp, hb, hb2]
  | _ => rfl
theorem newRes_comm {p q : Nat} (hne : p ≠ q) (S : St) (z1 z2 : List AV) (f1 f2 : List Nat) : newRes (newRes S p z1 f1) q z2 f2 = newRes (newRes S q z2 f2) p z1 f1 := by
  refine st_ext (S := newRes (newRes S q z2 f2) p z1 f1) (S' := newRes (newRes S p z1 f1) q z2 f2) ?_ rfl rfl rfl (by simp only [len_newRes]) fun t => ?_
  · exact insH_comm S.L p q _ _ hne
  · have nb : ∀ a b : Nat, a ≠ b → Nat.beq a b = false := fun a b h => by
      cases hb : Nat.beq a b with
      | false => rfl
      | true => exact absurd (Nat.eq_of_beq_eq_true hb) h
    have dl : ∀ a b : Nat, a ≠ b → (dropLp b (.lp a 0)).unlent = .lp a 0 := fun a b h => by simp only [dropLp, nb a b h, Slot.unlent]
    simp only [slot_newRes, len_newRes]
    by_cases h1 : t = p ∧ p < S.sl.length
    · rw [if_pos h1, if_pos h1, if_neg (fun hh => hne (h1.1.symm.trans hh.1)), dl p q hne]
    · rw [if_neg h1, if_neg h1]
      by_cases h2 : t = q ∧ q < S.sl.length
      · rw [if_pos h2, if_pos h2, dl q p (Ne.symm hne)]
      · rw [if_neg h2, if_neg h2, ← dropLp_unlent q, ← dropLp_unlent p, dropLp_comm]
theorem exAA {j i : Nat} {fj fi : Fx} {oj oi : Oper} {xj xi : OI} (hj : xj.cl = 6) (hi : xi.cl = 6) (oj6 : clOf A ebj oj = 6) (oi6 : clOf A ebi oi = 6) (h2 : ∀ q, oj.dst = some q → oi.dst ≠ some q) {K : St → Option R}
    (h : dop P A an isRes cal D j fj xj oj T (fun X => dop P A an isRes cal D i fi xi oi X K) = some r) : dop P A an isRes cal D i fi xi oi T (fun X => dop P A an isRes cal D j fj xj oj X K) = some r := by
  rcases alloc_shape (P := P) (an := an) (isRes := isRes) (cal := cal) (D := D) (i := j) (fz := fj) hj oj6 with hn | ⟨qj, zj, frj, ej, hsj⟩
  · rw [hn] at h; cases h
  · rcases alloc_shape (P := P) (an := an) (isRes := isRes) (cal := cal) (D := D) (i := i) (fz := fi) hi oi6 with hn | ⟨qi, zi, fri, ei, hsi⟩
    · rw [hsj] at h
      split at h
      · obtain ⟨_, h⟩ := br_left h
        rw [hn] at h; cases h
      · cases h
    · have hne : qj ≠ qi := fun e => h2 qj ej (by rw [ei, e])
      rw [hsj] at h
      split at h
      · rename_i m1
        obtain ⟨l1, h⟩ := br_left h
        rw [hsi] at h
        split at h
        · rename_i m2
          obtain ⟨l2, h⟩ := br_left h
          rw [len_newRes] at l2
          rw [hsi, show getM T.M qi = none from m2]
          simp only [l2, br]
          rw [hsj, show getM (newRes T qi zi fri).M qj = none from m1]
          simp only [len_newRes, l1, br]
          rw [newRes_comm (Ne.symm hne)]
          exact h
        · cases h
      · cases h

theorem FrW.skip {hz : Bool} {wb : List Nat} {d : Nat} {dst : Option Nat} (h : Off d S S') (hdst : dst ≠ some d) (s : Slot) : FrW hz wb d dst S S' (S.putd dst s) (S'.putd dst s) := by
  have fr := (FrC.refl (dst := dst) h).putd hdst s
  refine ⟨fr.off, fun hb _ => fr.at1 hb, fun t ht _ => fr.pres2 t ht, fun q _ => fr.L2 q, fun _ => by cases dst <;> rfl, fr.len1⟩

theorem dstep_isW {o : Oper} {i : Nat} {fz : Fx} {x : OI} {d : Nat} (hx : x.cl = clOf A eb o) (hc : x.cl = 6 ∨ x.cl = 7) (hwb : x.cl = 6 → ∀ q, o.dst = some q → q ∈ x.wb) (hl : ∀ t, Operand.tmp t ∈ o.op.operands → t ∈ x.lk) (hg : ∀ j want d, o.guard = some (j, want) → dstOf all.toList j = some d → d ∈ x.lk)
    (hd : d ∉ x.lk) (hdst : o.dst ≠ some d) : IsW (fun S _ k => dstep P A an isRes cal all.toList D i fz x o S k) fz.hz x.wb d o.dst := by
  intro S S' h
  have hsl : ∀ t ∈ x.lk, S'.slot t = S.slot t := fun t ht => h.sl t fun e => hd (e ▸ ht)
  have e : gres all.toList o S' = gres all.toList o S := gres_same hg fun t ht => by rw [hsl t ht]
  have hv : isVal x.cl = false := by rcases hc with h | h <;> rw [h] <;> rfl
  unfold TwoW
  simp only [dstep_nv hv, dstep0_eq, e]
  cases gres all.toList o S with
  | none => exact .inl fun R k => rfl
  | some b =>
    cases b with
    | false => exact .inr ⟨_, _, fun R k => rfl, fun R k => rfl, FrW.skip h hdst _⟩
    | true =>
      simp only
      have hdo : Operand.tmp d ∉ o.op.operands := fun hh => hd (hl d hh)
      rcases hc with hc | hc
      · exact frame_alloc hc (hx ▸ hc) (hwb hc) h hdst
      · unfold dop
        rw [hc]
        simp only
        obtain ⟨ty, a, v, ho⟩ : ∃ ty a v, o.op = .store ty a v := by
          rw [hx] at hc
          cases ho : o.op with
          | store ty a v => exact ⟨ty, a, v, rfl⟩
          | move x => simp only [clOf, ho] at hc; split at hc <;> cases hc
          | alloc _ => simp only [clOf, ho] at hc; split at hc <;> cases hc
          | makeSlice _ _ _ => simp only [clOf, ho] at hc; split at hc <;> cases hc
          | call c =>
            simp only [clOf, ho] at hc
            repeat' split at hc
            all_goals cases hc
          | _ => simp [clOf, ho] at hc
        exact frame_store ho h (fun ee => hdo (by rw [ho, ← ee]; simp [Op.operands])) (fun ee => hdo (by rw [ho, ← ee]; simp [Op.operands]))

theorem dstep_noW {o : Oper} {i : Nat} {fz : Fx} {x : OI} {d : Nat} {wb : List Nat} (hv : isVal x.cl = true) (hfx : fz.fx = false) (hws : ∀ e ∈ wb, e ∈ fz.ws) (hds : d ∈ x.ds) : NoW (fun S _ k => dstep P A an isRes cal all.toList D i fz x o S k) wb d x.lk := by
  intro S T h
  obtain ⟨h1, h2⟩ := dstep_box (P := P) (an := an) (isRes := isRes) (cal := cal) (all := all.toList) (D := D) (i := i) hv hfx fun k => h St k
  exact ⟨fun t ht e off hs he => h1 t ht e off hs (hws e he), fun e off hs he => h2 d hds e off hs (hws e he)⟩

theorem dstep_mem {o : Oper} {i : Nat} {fz : Fx} {x : OI} (hx : x.cl = clOf A eb o) (hc : x.cl = 3 ∨ x.cl = 4) (hnh : nhOf A o = true) : ∀ S T, (∀ (R : Type) (k : St → Option R), dstep P A an isRes cal all.toList D i fz x o S k = k T) → SameH S T := by
  intro S T h
  have hv : isVal x.cl = false := by rcases hc with h | h <;> rw [h] <;> rfl
  simp only [dstep_nv hv, dstep0_eq] at h
  have one := h St some
  cases hgr : gres all.toList o S with
  | none => rw [hgr] at one; cases one
  | some b =>
    rw [hgr] at one
    cases b with
    | false =>
      injection one with one
      rw [← one]
      cases o.dst <;> exact .of rfl
    | true =>
      simp only at one
      rw [hx] at hc
      cases ho : o.op with
      | alloc _ => simp only [clOf, ho] at hc; split at hc <;> simp at hc
      | store _ _ _ => simp [clOf, ho] at hc
      | assign y =>
        have h3 : x.cl = 3 := by rw [hx]; simp [clOf, ho]
        unfold dop at one
        rw [h3] at one
        simp only [roOf, ho] at one
        obtain ⟨_, one⟩ := br_left one
        simp only [absOp, ho] at one
        rcases assign_mem (P := P) (isRes := isRes) (o := o) (x := y) S with hn | ⟨U, hU, hH⟩
        · rw [hn] at one; cases one
        · rw [hU] at one
          injection one with one
          rw [← one]
          exact .of hH
      | call c =>
        obtain ⟨callee, args, tys⟩ := c
        cases callee with
        | builtin b =>
          cases b with
          | append =>
            have h3 : x.cl = 3 := by
              rw [hx]
              rcases hc with hc | hc
              · exact hc
              · exfalso
                simp only [clOf, ho] at hc
                repeat' split at hc
                all_goals cases hc
            unfold dop at one
            rw [h3] at one
            simp only [roOf, ho] at one
            obtain ⟨_, one⟩ := br_left one
            simp only [absOp, ho, opBuiltin] at one
            split at one
            · exact append_mem one
            · cases one
          | _ => simp [nhOf, ho] at hnh
        | value f =>
          cases f with
          | func g =>
            have hro : roOf A o = true := by simpa [nhOf, roOf, ho] using hnh
            have h3 : x.cl = 3 := by
              rw [hx]
              rcases hc with hc | hc
              · exact hc
              · exfalso
                simp only [clOf, ho] at hc
                split at hc <;> cases hc
            unfold dop at one
            rw [h3] at one
            simp only [hro] at one
            obtain ⟨_, one⟩ := br_left one
            have h6 : clOf A eb o = 3 ∨ clOf A eb o = 4 := .inl (hx ▸ h3)
            obtain ⟨U, hU⟩ : ∃ U, absOp P A an isRes cal o S (fun S' => br (@decide (S'.H = S.H) (Classical.propDecidable _)) (some S') none) = br (@decide (U.H = S.H) (Classical.propDecidable _)) (some U) none := by
              simp only [absOp, ho]
              unfold opCall
              simp only [St.ev, AV.func?]
              cases hi : (getA A g).imp with
              | false => rw [hx] at h3; simp [clOf, ho, hi] at h3
              | true =>
                simp only
                cases hcl : cal g (evsT P S tys.toList args.toList ++ []) S.H S.nx with
                | none =>
                  simp only [absOp, ho] at one
                  unfold opCall at one
                  simp only [St.ev, AV.func?, hi, hcl] at one
                  cases one
                | some r => exact ⟨_, rfl⟩
            rw [hU] at one
            obtain ⟨hd, one⟩ := br_left one
            injection one with one
            rw [← one]
            exact .of (@of_decide_eq_true _ (Classical.propDecidable _) hd)
          | _ => simp [nhOf, ho] at hnh
        | _ => simp [nhOf, ho] at hnh
      | _ => simp [nhOf, ho] at hnh

theorem dstep0_ok (hN : ∀ (f : Nat) (fn : Func), P.funcs[f]? = some fn → fn.name ≠ "runtime.NumGoroutine") (hcal : CalOk P A cal) (hgl : GlobOk A g0 w0) {o : Oper} {i : Nat} {fz : Fx} {x : OI} (hx : x.cl = clOf A eb o) (hi : all[i]? = some o) {k : St → Option R}
    (h : dstep0 P A an isRes cal all.toList D i fz x o S k = some r) (hg : Rel g0 w0 Ex g S a w) (Q : Exit → Act → World → Prop) (K : Act → World → Prop) (hK : ∀ S' a' w', Good g0 w0 Ex S' a' w' → k S' = some r → K a' w') : wpOp P all Q i K a w := by
  unfold wpOp
  rw [hi]
  simp only
  rw [dstep0_eq] at h
  have run : dop P A an isRes cal D i fz x o S k = some r → o.wp P a w K Q := fun h => Oper.wp_mono (fun a' w' ⟨S', hgd, hk⟩ => hK S' a' w' hgd hk) (dop_ok hN hcal hgl hx h hg Q)
  cases hr : gres all.toList o S with
  | none => rw [hr] at h; cases h
  | some b =>
    rw [hr] at h
    unfold gres at hr
    cases hgd : o.guard with
    | none =>
      rw [hgd] at hr
      injection hr with hr
      subst hr
      rw [if_pos (by simp [Region.wanted, hgd])]
      exact .inl (run h)
    | some jw =>
      obtain ⟨j, want⟩ := jw
      rw [hgd] at hr
      simp only at hr
      cases hd : dstOf all.toList j with
      | none => rw [hd] at hr; cases hr
      | some d =>
        rw [hd] at hr
        simp only at hr
        have hd' := hd
        rw [dstOf_get] at hd'
        have hev := hg.ev (.tmp d)
        have hy : ∀ v : Value, a.eval (.tmp d) = v → (∀ b, v = .bool b → yielded all a.tmps j = some b) ∧ ((∀ b, v ≠ .bool b) → yielded all a.tmps j = none) := by
          intro v hv
          have hv' : a.tmps.getD d undef = v := hv
          rw [Array.getD_eq_getD_getElem?] at hv'
          unfold yielded
          rw [hd']
          simp only [Option.bind_some]
          cases ht : a.tmps[d]? with
          | none =>
            rw [ht] at hv'
            refine ⟨fun b hb => ?_, fun _ => rfl⟩
            subst hb
            cases hv'
          | some u =>
            rw [ht] at hv'
            simp only [Option.getD_some] at hv'
            subst hv'
            refine ⟨fun b hb => by subst hb; rfl, fun hn => ?_⟩
            cases u <;> first | rfl | exact absurd rfl (hn _)
        cases hs : S.slot d with
        | und => rw [hs] at hr; cases hr
        | lp e off => rw [hs] at hr; cases hr
        | mp e => rw [hs] at hr; cases hr
        | val v f =>
          rw [hs] at hr
          have hev' : S.ev (.tmp d) = v := by show (S.slot d).av = v; rw [hs]; rfl
          rw [hev'] at hev
          cases v with
          | bool c =>
            have hyb := (hy _ (rep_bool hev)).1 c rfl
            simp only at hr
            injection hr with hr
            subst hr
            by_cases hcw : c = want
            · rw [if_pos (by simp [Region.wanted, hgd, hyb, hcw])]
              have : (c == want) = true := by simpa using hcw
              rw [this] at h
              exact .inl (run h)
            · rw [if_neg (by simp [Region.wanted, hgd, hyb, hcw])]
              have : (c == want) = false := by simpa using hcw
              rw [this] at h
              exact hK _ _ _ ⟨g, hg.skip o.dst⟩ h
          | tuple l =>
            cases l with
            | nil =>
              obtain ⟨us, hvt, _⟩ := rep_tuple hev
              have hyn := (hy _ hvt).2 (by simp)
              simp only at hr
              injection hr with hr
              subst hr
              rw [if_neg (by simp [Region.wanted, hgd, hyn])]
              exact hK _ _ _ ⟨g, hg.skip o.dst⟩ h
            | cons _ _ => cases hr
          | _ => cases hr

theorem dstep_ok (hN : ∀ (f : Nat) (fn : Func), P.funcs[f]? = some fn → fn.name ≠ "runtime.NumGoroutine") (hcal : CalOk P A cal) (hgl : GlobOk A g0 w0) {o : Oper} {i : Nat} {fz : Fx} {x : OI} (hx : x.cl = clOf A eb o) (hi : all[i]? = some o) {k : St → Option R}
    (h : dstep P A an isRes cal all.toList D i fz x o S k = some r) (hg : Rel g0 w0 Ex g S a w) (Q : Exit → Act → World → Prop) (K : Act → World → Prop) (hK : ∀ S' a' w', Good g0 w0 Ex S' a' w' → k S' = some r → K a' w') : wpOp P all Q i K a w := by
  unfold dstep at h
  split at h
  · exact dstep0_ok hN hcal hgl hx hi h hg Q K hK
  · obtain ⟨_, h⟩ := br_left h
    exact dstep0_ok hN hcal hgl hx hi h hg Q K fun S' a' w' hgd hk => hK S' a' w' hgd (br_left hk).2

end
end Go.Vai
