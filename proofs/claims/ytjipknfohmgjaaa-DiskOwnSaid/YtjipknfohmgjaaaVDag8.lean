/- Regions whose order is drawn: every order that the edges allow ends as the order of the text does. -/
import Derived.Test.YtjipknfohmgjaaaVDag7
namespace Go.Vai

section
variable {g0 : G} {w0 : World} {Ex : Nat → Prop} {g g' : G} {a : Act} {w w' : World}
variable {P : Program} {A : List (Nat × Ann)} {an : Ann} {isRes : Nat → Bool} {cal : Oracle} {S S' T : St} {R : Type} {r : R} {all : Array Oper} {D : List Nat}

theorem slot_mkRes (X : St) (i d : Nat) (cells : List AV) (len sz t : Nat) : (mkRes X i d cells len sz).slot t = if t = d ∧ d < X.sl.length then .val (.arr (X.nx + i) 0 len sz) .no else (X.slot t).unlent := by
  unfold mkRes
  rw [slot_put]
  have e : ({ X with H := X.H.set (X.nx + i) ⟨cells, []⟩ } : St).unlent.sl.length = X.sl.length := by show (X.sl.map _).length = _; rw [List.length_map]
  rw [e]
  split
  · rfl
  · exact slot_unlent _ t
theorem len_mkRes (X : St) (i d : Nat) (cells : List AV) (len sz : Nat) : (mkRes X i d cells len sz).sl.length = X.sl.length := by
  show (setS (X.sl.map _) d _).length = _
  rw [setS_length, List.length_map]

theorem exMM {j i : Nat} {fj fi : Bool} {oj oi : Oper} {xj xi : OI} (hj : xj.cl = 4) (hi : xi.cl = 4) (oj4 : clOf A oj = 4) (oi4 : clOf A oi = 4) (lj : ∀ t, Operand.tmp t ∈ oj.op.operands → t ∈ xj.lk) (li : ∀ t, Operand.tmp t ∈ oi.op.operands → t ∈ xi.lk)
    (h1 : ∀ q, oj.dst = some q → q ∉ xi.lk) (h2 : ∀ q, oj.dst = some q → oi.dst ≠ some q) (h3 : ∀ q, oi.dst = some q → q ∉ xj.lk) (hne : j ≠ i) {K : St → Option R}
    (h : dop P A an isRes cal D j fj xj oj T (fun X => dop P A an isRes cal D i fi xi oi X K) = some r) : dop P A an isRes cal D i fi xi oi T (fun X => dop P A an isRes cal D j fj xj oj X K) = some r := by
  rcases make_shape (P := P) (an := an) (isRes := isRes) (cal := cal) (D := D) (i := j) (fx := fj) hj oj4 lj T with hn | ⟨dj, cj, lenj, sj, ej, shj⟩
  · rw [hn] at h; cases h
  · rw [shj T (fun _ _ => rfl) rfl] at h
    obtain ⟨n1, h⟩ := new?_some h
    rcases make_shape (P := P) (an := an) (isRes := isRes) (cal := cal) (D := D) (i := i) (fx := fi) hi oi4 li (mkRes T j dj cj lenj sj) with hn | ⟨di, ci, leni, si, ei, shi⟩
    · rw [hn] at h; cases h
    · have b1 : ∀ t ∈ xi.lk, (T.slot t).bare = ((mkRes T j dj cj lenj sj).slot t).bare := fun t ht => by
        rw [slot_mkRes, if_neg (fun hh : t = dj ∧ dj < T.sl.length => h1 dj ej (hh.1 ▸ ht)), unlent_bare]
      rw [shi _ (fun _ _ => rfl) rfl] at h
      obtain ⟨n2, h⟩ := new?_some h
      have n2' : T.H (T.nx + i) = none := by
        have e : (T.H.set (T.nx + j) ⟨cj, []⟩) (T.nx + i) = none := n2
        rw [Hp_set, if_neg (by omega)] at e
        exact e
      rw [shi T b1 (len_mkRes _ _ _ _ _ _).symm]
      have b2 : ∀ t ∈ xj.lk, ((mkRes T i di ci leni si).slot t).bare = (T.slot t).bare := fun t ht => by
        rw [slot_mkRes, if_neg (fun hh : t = di ∧ di < T.sl.length => h3 di ei (hh.1 ▸ ht)), unlent_bare]
      unfold Hp.new?
      rw [show T.H.get (T.nx + i) = none from n2']
      simp only
      rw [shj _ b2 (len_mkRes _ _ _ _ _ _)]
      unfold Hp.new?
      have n3 : (mkRes T i di ci leni si).H.get ((mkRes T i di ci leni si).nx + j) = none := by
        show (T.H.set (T.nx + i) ⟨ci, []⟩) (T.nx + j) = none
        rw [Hp_set, if_neg (by omega)]
        exact n1
      rw [n3]
      simp only
      have hdd : di ≠ dj := fun e => h2 dj ej (by rw [ei, e])
      have : mkRes (mkRes T i di ci leni si) j dj cj lenj sj = mkRes (mkRes T j dj cj lenj sj) i di ci leni si := by
        refine st_ext (S := mkRes (mkRes T j dj cj lenj sj) i di ci leni si) (S' := mkRes (mkRes T i di ci leni si) j dj cj lenj sj) rfl ?_ rfl (by simp only [len_mkRes]) fun t => ?_
        · exact insH_comm T.H (T.nx + i) (T.nx + j) _ _ (by omega)
        · have uu : ∀ s : Slot, s.unlent.unlent = s.unlent := fun s => by
            cases s with
            | val v f => cases f <;> rfl
            | _ => rfl
          simp only [slot_mkRes, len_mkRes]
          by_cases q1 : t = dj ∧ dj < T.sl.length
          · rw [if_pos q1, if_neg (fun hh => hdd (hh.1.symm.trans q1.1)), if_pos q1]; rfl
          · rw [if_neg q1]
            by_cases q2 : t = di ∧ di < T.sl.length
            · rw [if_pos q2, if_pos q2]; rfl
            · rw [if_neg q2, if_neg q2, if_neg q1]
      rw [this]
      exact h

theorem notLent_spec {d : Nat} (hd : d ∈ D) : ∀ {l : List Nat}, notLent S D l = true → ∀ t ∈ l, ∀ v q, S.slot t = .val v (.lS q) → q ≠ d
  | [], _, t, ht, _, _, _ => by cases ht
  | u :: l, h, t, ht, v, q, hs => by
    unfold notLent at h
    rw [Bool.and_eq_true] at h
    rcases List.mem_cons.1 ht with e | ht
    · subst e
      have h1 := h.1
      rw [hs] at h1
      simp only [Bool.not_eq_true'] at h1
      intro e
      subst e
      rw [memN_iff.2 hd] at h1
      cases h1
    · exact notLent_spec hd h.2 t ht v q hs
theorem notLent_congr : ∀ {l : List Nat}, (∀ t ∈ l, S'.slot t = S.slot t) → notLent S' D l = notLent S D l
  | [], _ => rfl
  | u :: l, h => by
    unfold notLent
    rw [h u List.mem_cons_self, notLent_congr fun t ht => h t (List.mem_cons_of_mem _ ht)]

theorem dstep_isV {o : Oper} {i : Nat} {fx : Bool} {x : OI} (hx : x.cl = clOf A o) (hl : ∀ t, Operand.tmp t ∈ o.op.operands → t ∈ x.lk) (hg : ∀ j want d, o.guard = some (j, want) → dstOf all.toList j = some d → d ∈ x.lk)
    (hv : isVal x.cl = true) : IsV (fun S _ k => dstep P A an isRes cal all.toList D i fx x o S k) fx o.dst x.lk := fun _ _ h => dstep_two hx hl hg hv h

theorem dstep_isC {o : Oper} {i : Nat} {fx : Bool} {x : OI} {d : Nat} (hx : x.cl = clOf A o) (hc : x.cl = 3 ∨ x.cl = 4) (hl : ∀ t, Operand.tmp t ∈ o.op.operands → t ∈ x.lk) (hg : ∀ j want d, o.guard = some (j, want) → dstOf all.toList j = some d → d ∈ x.lk)
    (hd : d ∉ x.lk) (hdst : o.dst ≠ some d) (hD : d ∈ D) : IsC (fun S _ k => dstep P A an isRes cal all.toList D i fx x o S k) d o.dst := by
  intro S S' h
  have hsl : ∀ t ∈ x.lk, S'.slot t = S.slot t := fun t ht => h.sl t fun e => hd (e ▸ ht)
  have e : gres all.toList o S' = gres all.toList o S := gres_same hg fun t ht => by rw [hsl t ht]
  unfold TwoC
  simp only [dstep_eq, e]
  cases gres all.toList o S with
  | none => exact .inl fun R k => rfl
  | some b =>
    cases b with
    | false => exact .inr ⟨_, _, fun R k => rfl, fun R k => rfl, (FrC.refl h).putd hdst _⟩
    | true =>
      simp only
      have hdo : Operand.tmp d ∉ o.op.operands := fun hh => hd (hl d hh)
      rcases hc with hc | hc
      · unfold dop
        rw [hc]
        simp only
        rw [notLent_congr hsl]
        cases hn : notLent S D x.lk with
        | false => exact .inl fun R k => rfl
        | true =>
          exact frameC (.inl (hx ▸ hc)) h hdo hdst fun _ t v q ht hs => notLent_spec hD hn t (hl t ht) v q hs
      · unfold dop
        rw [hc]
        simp only
        cases hdd : o.dst with
        | none => exact .inl fun R k => rfl
        | some q =>
          simp only
          have hoff : Off d { S with nx := S.nx + i } { S' with nx := S'.nx + i } := ⟨h.L, h.H, by show S'.nx + i = S.nx + i; rw [h.nx], h.len, h.sl⟩
          rcases frameC (P := P) (an := an) (isRes := isRes) (cal := cal) (.inr (hx ▸ hc)) hoff hdo hdst (fun h3 => by rw [← hx, hc] at h3; cases h3) with hn | ⟨X, X', e1, e2, fr⟩
          · exact .inl fun R k => hn R _
          · have e1' : ∀ (R : Type) (k : St → Option R), absOp P A an isRes cal o { S with nx := S.nx + i } k = k X := e1
            have e2' : ∀ (R : Type) (k : St → Option R), absOp P A an isRes cal o { S' with nx := S'.nx + i } k = k X' := e2
            simp only [e1', e2']
            have hq : q ≠ d := fun e => hdst (by rw [hdd, e])
            rw [fr.off.sl q hq]
            cases hs : X.slot q with
            | val v f =>
              cases v with
              | arr a b c d' =>
                refine .inr ⟨_, _, fun R k => rfl, fun R k => rfl, ?_⟩
                rw [hdd] at fr
                exact ⟨⟨fr.off.L, fr.off.H, h.nx, fr.off.len, fr.off.sl⟩, fr.at1, fr.at2, fr.pres, fr.pres2, fr.L1, fr.L2, fr.len1⟩
              | _ => exact .inl fun R k => rfl
            | _ => exact .inl fun R k => rfl

theorem dstep_ok (hN : ∀ (f : Nat) (fn : Func), P.funcs[f]? = some fn → fn.name ≠ "runtime.NumGoroutine") (hcal : CalOk P A cal) {o : Oper} {i : Nat} {fx : Bool} {x : OI} (hx : x.cl = clOf A o) (hi : all[i]? = some o) {k : St → Option R}
    (h : dstep P A an isRes cal all.toList D i fx x o S k = some r) (hg : Rel g0 w0 Ex g S a w) (Q : Exit → Act → World → Prop) (K : Act → World → Prop) (hK : ∀ S' a' w', Good g0 w0 Ex S' a' w' → k S' = some r → K a' w') : wpOp P all Q i K a w := by
  unfold wpOp
  rw [hi]
  simp only
  rw [dstep_eq] at h
  have run : dop P A an isRes cal D i fx x o S k = some r → o.wp P a w K Q := fun h => Oper.wp_mono (fun a' w' ⟨S', hgd, hk⟩ => hK S' a' w' hgd hk) (dop_ok hN hcal hx h hg Q)
  cases hr : gres all.toList o S with
  | none => rw [hr] at h; cases h
  | some b =>
    rw [hr] at h
    unfold gres at hr
    cases hgd : o.guard with
    | none =>
      rw [hgd] at hr
      injection hr with hr
      subst hr
      rw [if_pos (by simp [Region.wanted, hgd])]
      exact .inl (run h)
    | some jw =>
      obtain ⟨j, want⟩ := jw
      rw [hgd] at hr
      simp only at hr
      cases hd : dstOf all.toList j with
      | none => rw [hd] at hr; cases hr
      | some d =>
        rw [hd] at hr
        simp only at hr
        have hd' := hd
        rw [dstOf_get] at hd'
        have hev := hg.ev (.tmp d)
        have hy : ∀ v : Value, a.eval (.tmp d) = v → (∀ b, v = .bool b → yielded all a.tmps j = some b) ∧ ((∀ b, v ≠ .bool b) → yielded all a.tmps j = none) := by
          intro v hv
          have hv' : a.tmps.getD d undef = v := hv
          rw [Array.getD_eq_getD_getElem?] at hv'
          unfold yielded
          rw [hd']
          simp only [Option.bind_some]
          cases ht : a.tmps[d]? with
          | none =>
            rw [ht] at hv'
            refine ⟨fun b hb => ?_, fun _ => rfl⟩
            subst hb
            cases hv'
          | some u =>
            rw [ht] at hv'
            simp only [Option.getD_some] at hv'
            subst hv'
            refine ⟨fun b hb => by subst hb; rfl, fun hn => ?_⟩
            cases u <;> first | rfl | exact absurd rfl (hn _)
        cases hs : S.slot d with
        | und => rw [hs] at hr; cases hr
        | lp e off => rw [hs] at hr; cases hr
        | val v f =>
          rw [hs] at hr
          have hev' : S.ev (.tmp d) = v := by show (S.slot d).av = v; rw [hs]; rfl
          rw [hev'] at hev
          cases v with
          | bool c =>
            have hyb := (hy _ (rep_bool hev)).1 c rfl
            simp only at hr
            injection hr with hr
            subst hr
            by_cases hcw : c = want
            · rw [if_pos (by simp [Region.wanted, hgd, hyb, hcw])]
              have : (c == want) = true := by simpa using hcw
              rw [this] at h
              exact .inl (run h)
            · rw [if_neg (by simp [Region.wanted, hgd, hyb, hcw])]
              have : (c == want) = false := by simpa using hcw
              rw [this] at h
              exact hK _ _ _ ⟨g, hg.skip o.dst⟩ h
          | tuple l =>
            cases l with
            | nil =>
              obtain ⟨us, hvt, _⟩ := rep_tuple hev
              have hyn := (hy _ hvt).2 (by simp)
              simp only at hr
              injection hr with hr
              subst hr
              rw [if_neg (by simp [Region.wanted, hgd, hyn])]
              exact hK _ _ _ ⟨g, hg.skip o.dst⟩ h
            | cons _ _ => cases hr
          | _ => cases hr

end
end Go.Vai
