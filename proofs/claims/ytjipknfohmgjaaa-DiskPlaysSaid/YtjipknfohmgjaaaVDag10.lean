/- Every order. -/
import Derived.Test.YtjipknfohmgjaaaVDag9
namespace Go.Vai

section
variable {g0 : G} {w0 : World} {Ex : Nat → Prop} {g g' : G} {a : Act} {w w' : World}
variable {eb ebj ebi : Bool} {P : Program} {A : List (Nat × Ann)} {an : Ann} {isRes : Nat → Bool} {cal : Oracle} {S S' T : St} {R : Type} {r : R} {all : Array Oper}

abbrev oisA (A : List (Nat × Ann)) (all : Array Oper) : List OI := oisOf A all (depsT all.toList []) all.toList
theorem ois_at {i : Nat} {o : Oper} (h : all[i]? = some o) : (oisA A all)[i]? = some (oiOf A all (nthN (depsT all.toList []) i) o) :=
  oisOf_at _ _ (by rw [depsT_length]; simp) i o (by rw [Array.getElem?_toList]; exact h)
theorem ois_len : (oisA A all).length = all.size := by
  rw [oisA, oisOf_length _ _ (by rw [depsT_length]; simp), Array.length_toList]
theorem oi_look {o : Oper} {m : Nat} : ∀ t, Operand.tmp t ∈ o.op.operands → t ∈ (oiOf A all m o).lk := fun _ h => look_mem h
theorem oi_guard {o : Oper} {m : Nat} : ∀ j want d, o.guard = some (j, want) → dstOf all.toList j = some d → d ∈ (oiOf A all m o).lk := fun j want d hg hd => by
  rw [dstOf_get] at hd
  show d ∈ o.looksAt all
  unfold Oper.looksAt
  rw [hg]
  simp only [hd]
  exact List.mem_append_right _ (by simp)
theorem oi_ds {o : Oper} {m d : Nat} (h : o.dst = some d) : d ∈ (oiOf A all m o).ds := by
  show d ∈ (match o.dst with
    | some d => [d]
    | none => [])
  rw [h]; simp

theorem oi_ds' {o : Oper} {m : Nat} : ∀ q, q ∈ (oiOf A all m o).ds → o.dst = some q := fun q h => by
  have h' : q ∈ (match o.dst with
    | some d => [d]
    | none => []) := h
  cases hd : o.dst with
  | none => rw [hd] at h'; cases h'
  | some d => rw [hd] at h'; rw [List.mem_singleton.1 h']

/-- an exchange -/
theorem exch (he : edgesOk 0 all.toList = true) (hd : dagOk [] (oisA A all) = true) {j i : Nat} {oj oi : Oper} (hj : all[j]? = some oj) (hi : all[i]? = some oi) (hji : j < i) (hun : (nthN (depsT all.toList []) i).testBit j = false) {K : St → Option R}
    (h : dstep P A an isRes cal all.toList (valDsts (oisA A all)) j (fxOf (oisA A all) j (oiOf A all (nthN (depsT all.toList []) j) oj)) (oiOf A all (nthN (depsT all.toList []) j) oj) oj T
      (fun X => dstep P A an isRes cal all.toList (valDsts (oisA A all)) i (fxOf (oisA A all) i (oiOf A all (nthN (depsT all.toList []) i) oi)) (oiOf A all (nthN (depsT all.toList []) i) oi) oi X K) = some r) :
    dstep P A an isRes cal all.toList (valDsts (oisA A all)) i (fxOf (oisA A all) i (oiOf A all (nthN (depsT all.toList []) i) oi)) (oiOf A all (nthN (depsT all.toList []) i) oi) oi T
      (fun X => dstep P A an isRes cal all.toList (valDsts (oisA A all)) j (fxOf (oisA A all) j (oiOf A all (nthN (depsT all.toList []) j) oj)) (oiOf A all (nthN (depsT all.toList []) j) oj) oj X K) = some r := by
  have xj := ois_at (A := A) hj
  have xi := ois_at (A := A) hi
  have his : i < all.size := (Array.getElem?_eq_some_iff.1 hi).1
  have hjs : j < all.size := (Array.getElem?_eq_some_iff.1 hj).1
  have hun' : (nthN (depsT all.toList []) j).testBit i = false := by
    cases hb : (nthN (depsT all.toList []) j).testBit i with
    | false => rfl
    | true => have := bits_lt he j i hjs hb; omega
  obtain ⟨hvi, hex⟩ := dagOk_spec _ [] hd i _ xi
  obtain ⟨hvj, _⟩ := dagOk_spec _ [] hd j _ xj
  have hm : mayEx (oiOf A all (nthN (depsT all.toList []) j) oj) (oiOf A all (nthN (depsT all.toList []) i) oi) = true := by
    rcases hex j _ (by simpa using hji) (by simpa using xj) with h | h
    · have : (nthN (depsT all.toList []) i).testBit j = true := h
      rw [hun] at this; cases this
    · exact h
  generalize hxj : oiOf A all (nthN (depsT all.toList []) j) oj = yj at *
  generalize hxi : oiOf A all (nthN (depsT all.toList []) i) oi = yi at *
  have cj : yj.cl = clOf A (eArg all.toList oj) oj := by rw [← hxj]; rfl
  have ci : yi.cl = clOf A (eArg all.toList oi) oi := by rw [← hxi]; rfl
  have lj : ∀ t, Operand.tmp t ∈ oj.op.operands → t ∈ yj.lk := by rw [← hxj]; exact oi_look
  have li : ∀ t, Operand.tmp t ∈ oi.op.operands → t ∈ yi.lk := by rw [← hxi]; exact oi_look
  have gj : ∀ q want d, oj.guard = some (q, want) → dstOf all.toList q = some d → d ∈ yj.lk := by rw [← hxj]; exact oi_guard
  have gi : ∀ q want d, oi.guard = some (q, want) → dstOf all.toList q = some d → d ∈ yi.lk := by rw [← hxi]; exact oi_guard
  have hdsj : ∀ q, q ∈ yj.ds → oj.dst = some q := by rw [← hxj]; exact oi_ds'
  have hdsi : ∀ q, q ∈ yi.ds → oi.dst = some q := by rw [← hxi]; exact oi_ds'
  have nhj : yj.nh = nhOf A oj := by rw [← hxj]; rfl
  have nhi : yi.nh = nhOf A oi := by rw [← hxi]; rfl
  have dj : ∀ q, oj.dst = some q → q ∈ yj.ds := fun q hq => by rw [← hxj]; exact oi_ds hq
  have di : ∀ q, oi.dst = some q → q ∈ yi.ds := fun q hq => by rw [← hxi]; exact oi_ds hq
  have pj : yj.pre = nthN (depsT all.toList []) j := by rw [← hxj]; rfl
  have pi : yi.pre = nthN (depsT all.toList []) i := by rw [← hxi]; rfl
  unfold mayEx at hm
  rw [Bool.and_eq_true, Bool.and_eq_true, Bool.and_eq_true] at hm
  obtain ⟨⟨m1, m2, m3⟩, m4⟩ := hm
  have a1 : ∀ q, oj.dst = some q → q ∉ yi.lk := fun q hq => apartN_spec m1 q (dj q hq)
  have a2 : ∀ q, oj.dst = some q → oi.dst ≠ some q := fun q hq hq2 => apartN_spec m2 q (dj q hq) (di q hq2)
  have a3 : ∀ q, oi.dst = some q → q ∉ yj.lk := fun q hq => apartN_spec m3 q (di q hq)
  have sj : isVal yj.cl = true → ∃ d, oj.dst = some d := fun hv => by
    have := hvj hv
    rw [← hxj] at this
    cases hdd : oj.dst with
    | some d => exact ⟨d, rfl⟩
    | none => exact absurd (show (match oj.dst with
        | some d => [d]
        | none => []) = ([] : List Nat) by rw [hdd]) this
  have si : isVal yi.cl = true → ∃ d, oi.dst = some d := fun hv => by
    have := hvi hv
    rw [← hxi] at this
    cases hdd : oi.dst with
    | some d => exact ⟨d, rfl⟩
    | none => exact absurd (show (match oi.dst with
        | some d => [d]
        | none => []) = ([] : List Nat) by rw [hdd]) this
  have fj : isVal yi.cl = false → fixedOf (oisA A all) j yj 0 (oisA A all) = false := fun hv => by
    cases hf : fixedOf (oisA A all) j yj 0 (oisA A all) with
    | false => rfl
    | true =>
      rcases fixedOf_spec _ 0 hf i _ xi with h | h | h | h
      · rw [hv] at h; cases h
      · omega
      · rw [Nat.zero_add, pj, hun'] at h; cases h
      · rw [pi, hun] at h; cases h
  have fi : isVal yj.cl = false → fixedOf (oisA A all) i yi 0 (oisA A all) = false := fun hv => by
    cases hf : fixedOf (oisA A all) i yi 0 (oisA A all) with
    | false => rfl
    | true =>
      rcases fixedOf_spec _ 0 hf j _ xj with h | h | h | h
      · rw [hv] at h; cases h
      · omega
      · rw [Nat.zero_add, pi, hun] at h; cases h
      · rw [pj, hun'] at h; cases h
  have Dj : ∀ d, isVal yj.cl = true → oj.dst = some d → d ∈ valDsts (oisA A all) := fun d hv hq => valDsts_mem (List.mem_of_getElem? xj) hv d (dj d hq)
  have Di : ∀ d, isVal yi.cl = true → oi.dst = some d → d ∈ valDsts (oisA A all) := fun d hv hq => valDsts_mem (List.mem_of_getElem? xi) hv d (di d hq)
  cases hvj2 : isVal yj.cl with
  | true =>
    cases hvi2 : isVal yi.cl with
    | true =>
      exact exVV (F := fun S _ k => dstep P A an isRes cal all.toList _ j _ yj oj S k) (G := fun S _ k => dstep P A an isRes cal all.toList _ i _ yi oi S k) (dstep_isV hdsj cj lj gj hvj2) (dstep_isV hdsi ci li gi hvi2) a1 a2 a3 h
    | false =>
      rw [hvj2, hvi2] at m4
      have hc : (yi.cl = 3 ∨ yi.cl = 4) ∨ (yi.cl = 6 ∨ yi.cl = 7) := by
        have h1 : yi.cl < 5 ∨ yi.cl = 6 ∨ yi.cl = 7 := by
          have := m4
          simp only [Bool.or_eq_true, Nat.blt_eq] at this
          exact this.imp id (Or.imp Nat.eq_of_beq_eq_true Nat.eq_of_beq_eq_true)
        have h2 : ¬ yi.cl < 3 := fun hh => by
          have : isVal yi.cl = true := by simpa [isVal, Nat.blt_eq] using hh
          rw [hvi2] at this; cases this
        omega
      obtain ⟨d, hdd⟩ := sj hvj2
      have hV : IsV (fun S _ k => dstep P A an isRes cal all.toList (valDsts (oisA A all)) j (fxOf (oisA A all) j yj) yj oj S k) false (fxOf (oisA A all) j yj).fh (some d) yj.lk := by
        have := dstep_isV (P := P) (an := an) (isRes := isRes) (cal := cal) (all := all) (D := valDsts (oisA A all)) (i := j) (fz := fxOf (oisA A all) j yj) hdsj cj lj gj hvj2
        rw [show (fxOf (oisA A all) j yj).fx = false from fj hvi2, hdd] at this
        exact this
      rcases hc with hc | hc
      · have hC : IsC (fun S _ k => dstep P A an isRes cal all.toList (valDsts (oisA A all)) i (fxOf (oisA A all) i yi) yi oi S k) d oi.dst := dstep_isC ci hc li gi (a1 d hdd) (a2 d hdd) (Dj d hvj2 hdd)
        have hm : (fxOf (oisA A all) j yj).fh = true → ∀ S T, (∀ (R : Type) (k : St → Option R), dstep P A an isRes cal all.toList (valDsts (oisA A all)) i (fxOf (oisA A all) i yi) yi oi S k = k T) → SameH S T := by
          intro hf
          have hf' : (yj.hr && fhOf j yj 0 (oisA A all)) = true := hf
          rw [Bool.and_eq_true] at hf'
          have hnh : nhOf A oi = true := by
            rcases fhOf_spec _ 0 hf'.2 i _ xi with h | h | h | h | h
            · rw [hvi2] at h; cases h
            · rw [← nhi]; exact h
            · omega
            · rw [Nat.zero_add, pj, hun'] at h; cases h
            · rw [pi, hun] at h; cases h
          exact dstep_mem ci hc hnh
        exact exVC hV hC hm a3 h
      · have hB : NoW (fun S _ k => dstep P A an isRes cal all.toList (valDsts (oisA A all)) j (fxOf (oisA A all) j yj) yj oj S k) yi.wb d yj.lk :=
          dstep_noW hvj2 (fj hvi2) (fun e he => wsOf_spec _ 0 i _ xi (by omega) (by rw [Nat.zero_add, pj]; exact hun') (by rw [pi]; exact hun) e he) (dj d hdd)
        have hW : IsW (fun S _ k => dstep P A an isRes cal all.toList (valDsts (oisA A all)) i (fxOf (oisA A all) i yi) yi oi S k) (fxOf (oisA A all) i yi).hz yi.wb d oi.dst :=
          dstep_isW ci hc (fun h6 q hq => by
            rw [← hxi] at h6 ⊢
            have h6' : clOf A (eArg all.toList oi) oi = 6 := h6
            cases ho : oi.op with
            | alloc e => show q ∈ wbOf all.toList oi; simp only [wbOf, ho, dsL, hq, List.mem_singleton]
            | move x => simp only [clOf, ho] at h6'; split at h6' <;> cases h6'
            | makeSlice _ _ _ => simp only [clOf, ho] at h6'; split at h6' <;> cases h6'
            | call c =>
              simp only [clOf, ho] at h6'
              repeat' split at h6'
              all_goals cases h6'
            | _ => simp [clOf, ho] at h6') li gi (a1 d hdd) (a2 d hdd)
        have hm : (fxOf (oisA A all) j yj).fh = true → (fxOf (oisA A all) i yi).hz = false := by
          intro hf
          have hf' : (yj.hr && fhOf j yj 0 (oisA A all)) = true := hf
          rw [Bool.and_eq_true] at hf'
          cases hz : (fxOf (oisA A all) i yi).hz with
          | false => rfl
          | true =>
            rcases hzOf_spec _ 0 hz j _ xj with h | h | h | h | h
            · rw [hvj2] at h; cases h
            · rw [hf'.1] at h; cases h
            · omega
            · rw [Nat.zero_add, pi, hun] at h; cases h
            · rw [pj, hun'] at h; cases h
        exact exVW hV hB hW hm a3 h
  | false =>
    cases hvi2 : isVal yi.cl with
    | true =>
      rw [hvj2, hvi2] at m4
      have hc : yj.cl = 3 ∨ yj.cl = 4 := by
        have h1 : yj.cl < 5 := by simpa [Nat.blt_eq] using m4
        have h2 : ¬ yj.cl < 3 := fun hh => by
          have : isVal yj.cl = true := by simpa [isVal, Nat.blt_eq] using hh
          rw [hvj2] at this; cases this
        omega
      obtain ⟨d, hdd⟩ := si hvi2
      have hV : IsV (fun S _ k => dstep P A an isRes cal all.toList (valDsts (oisA A all)) i (fxOf (oisA A all) i yi) yi oi S k) false (fxOf (oisA A all) i yi).fh (some d) yi.lk := by
        have := dstep_isV (P := P) (an := an) (isRes := isRes) (cal := cal) (all := all) (D := valDsts (oisA A all)) (i := i) (fz := fxOf (oisA A all) i yi) hdsi ci li gi hvi2
        rw [show (fxOf (oisA A all) i yi).fx = false from fi hvj2, hdd] at this
        exact this
      have hC : IsC (fun S _ k => dstep P A an isRes cal all.toList (valDsts (oisA A all)) j (fxOf (oisA A all) j yj) yj oj S k) d oj.dst := dstep_isC cj hc lj gj (a3 d hdd) (fun hq => a2 d hq hdd) (Di d hvi2 hdd)
      have hm : (fxOf (oisA A all) i yi).fh = true → ∀ S T, (∀ (R : Type) (k : St → Option R), dstep P A an isRes cal all.toList (valDsts (oisA A all)) j (fxOf (oisA A all) j yj) yj oj S k = k T) → SameH S T := by
        intro hf
        have hf' : (yi.hr && fhOf i yi 0 (oisA A all)) = true := hf
        rw [Bool.and_eq_true] at hf'
        have hnh : nhOf A oj = true := by
          rcases fhOf_spec _ 0 hf'.2 j _ xj with h | h | h | h | h
          · rw [hvj2] at h; cases h
          · rw [← nhj]; exact h
          · omega
          · rw [Nat.zero_add, pi, hun] at h; cases h
          · rw [pj, hun'] at h; cases h
        exact dstep_mem cj hc hnh
      exact exCV hV hC hm a1 h
    | false =>
      rw [hvj2, hvi2] at m4
      simp only [Bool.or_eq_true, Bool.and_eq_true] at m4
      have nog : ∀ (eb : Bool) (o : Oper), clOf A eb o = 4 ∨ clOf A eb o = 6 → o.guard = none := by
        intro eb o ho
        cases hop : o.op with
        | makeSlice _ _ _ =>
          simp only [clOf, hop] at ho
          split at ho
          · assumption
          · simp at ho
        | alloc _ =>
          simp only [clOf, hop] at ho
          split at ho
          · assumption
          · simp at ho
        | move x => simp only [clOf, hop] at ho; split at ho <;> simp at ho
        | call c =>
          exfalso
          simp only [clOf, hop] at ho
          repeat' split at ho
          all_goals simp at ho
        | _ => simp [clOf, hop] at ho
      have gg : ∀ (o : Oper), o.guard = none → ∀ (S : St), gres all.toList o S = some true := fun o ho S => by unfold gres; rw [ho]
      rcases m4 with ⟨c4j, c4i⟩ | ⟨c6j, c6i⟩
      · have c4j := Nat.eq_of_beq_eq_true c4j
        have c4i := Nat.eq_of_beq_eq_true c4i
        have gj0 := gg oj (nog _ oj (.inl (cj ▸ c4j)))
        have gi0 := gg oi (nog _ oi (.inl (ci ▸ c4i)))
        simp only [dstep_nv hvj2, dstep_nv hvi2, dstep0_eq, gj0, gi0] at h ⊢
        exact exMM c4j c4i (cj ▸ c4j) (ci ▸ c4i) lj li a1 a2 a3 (by omega) h
      · have c6j := Nat.eq_of_beq_eq_true c6j
        have c6i := Nat.eq_of_beq_eq_true c6i
        have gj0 := gg oj (nog _ oj (.inr (cj ▸ c6j)))
        have gi0 := gg oi (nog _ oi (.inr (ci ▸ c6i)))
        simp only [dstep_nv hvj2, dstep_nv hvi2, dstep0_eq, gj0, gi0] at h ⊢
        exact exAA c6j c6i (cj ▸ c6j) (ci ▸ c6i) a2 h

/-- an operation that no unlisted one must come before may come first -/
theorem pull (he : edgesOk 0 all.toList = true) (hd : dagOk [] (oisA A all) = true) {i : Nat} {oi : Oper} (hi : all[i]? = some oi) {post : List Nat} {k : St → Option R} : ∀ (pre : List Nat) (S : St), (∀ j ∈ pre, j < i ∧ (nthN (depsT all.toList []) i).testBit j = false) →
    runL P A an isRes cal all (valDsts (oisA A all)) (oisA A all) (pre ++ i :: post) S k = some r → runL P A an isRes cal all (valDsts (oisA A all)) (oisA A all) (i :: (pre ++ post)) S k = some r
  | [], S, _, h => h
  | j :: pre, S, hp, h => by
    obtain ⟨hji, hun⟩ := hp j List.mem_cons_self
    have hjs : j < all.size := by have := (Array.getElem?_eq_some_iff.1 hi).1; omega
    have hj : all[j]? = some all[j] := Array.getElem?_eq_getElem hjs
    have xj := ois_at (A := A) hj
    have xi := ois_at (A := A) hi
    have hm : (oiOf A all (nthN (depsT all.toList []) j) all[j]).cl < 5 ∨ (oiOf A all (nthN (depsT all.toList []) j) all[j]).cl = 6 := by
      obtain ⟨_, hex⟩ := dagOk_spec _ [] hd i _ xi
      rcases hex j _ (by simpa using hji) (by simpa using xj) with h | h
      · have : (nthN (depsT all.toList []) i).testBit j = true := h
        rw [hun] at this; cases this
      · unfold mayEx at h
        rw [Bool.and_eq_true] at h
        have h2 := h.2
        revert h2
        generalize (oiOf A all (nthN (depsT all.toList []) j) all[j]) = yj
        generalize (oiOf A all (nthN (depsT all.toList []) i) oi) = yi
        intro h2
        cases hv : isVal yj.cl with
        | true =>
          have : yj.cl < 3 := by simpa [isVal, Nat.blt_eq] using hv
          omega
        | false =>
          rw [hv] at h2
          cases hv2 : isVal yi.cl with
          | true => rw [hv2] at h2; exact .inl (by simpa [Nat.blt_eq] using h2)
          | false =>
            rw [hv2] at h2
            simp only [Bool.or_eq_true, Bool.and_eq_true] at h2
            rcases h2 with h2 | h2
            · have := Nat.eq_of_beq_eq_true h2.1
              omega
            · exact .inr (Nat.eq_of_beq_eq_true h2.1)
    rw [List.cons_append] at h
    unfold runL at h
    simp only [xj, hj] at h
    have h2 := dstep_mono (F' := fun S' => runL P A an isRes cal all (valDsts (oisA A all)) (oisA A all) (i :: (pre ++ post)) S' k) oi_ds' rfl hm oi_look oi_guard (fun T hT => pull he hd hi pre T (fun q hq => hp q (List.mem_cons_of_mem _ hq)) hT) h
    have e1 : ∀ S', runL P A an isRes cal all (valDsts (oisA A all)) (oisA A all) (i :: (pre ++ post)) S' k = dstep P A an isRes cal all.toList (valDsts (oisA A all)) i (fxOf (oisA A all) i (oiOf A all (nthN (depsT all.toList []) i) oi)) (oiOf A all (nthN (depsT all.toList []) i) oi) oi S' (fun S'' => runL P A an isRes cal all (valDsts (oisA A all)) (oisA A all) (pre ++ post) S'' k) := by
      intro S'
      conv => lhs; unfold runL
      simp only [xi, hi]
    simp only [e1] at h2
    have h3 := exch he hd hj hi hji hun h2
    conv => lhs; unfold runL
    simp only [xi, hi]
    have e2 : ∀ S', runL P A an isRes cal all (valDsts (oisA A all)) (oisA A all) (j :: pre ++ post) S' k = dstep P A an isRes cal all.toList (valDsts (oisA A all)) j (fxOf (oisA A all) j (oiOf A all (nthN (depsT all.toList []) j) all[j])) (oiOf A all (nthN (depsT all.toList []) j) all[j]) all[j] S' (fun S'' => runL P A an isRes cal all (valDsts (oisA A all)) (oisA A all) (pre ++ post) S'' k) := by
      intro S'
      rw [List.cons_append]
      conv => lhs; unfold runL
      simp only [xj, hj]
    simp only [e2]
    exact h3

def unl (n : Nat) (listed : Array Bool) : List Nat := (List.range n).filter fun i => !listed.getD i true

theorem unl_sorted (n : Nat) (listed : Array Bool) : (unl n listed).Pairwise (· < ·) := List.Pairwise.filter _ List.pairwise_lt_range

theorem unl_set {n i : Nat} {listed : Array Bool} (hn : listed.size = n) {pre post : List Nat} (h : unl n listed = pre ++ i :: post) : unl n (listed.setIfInBounds i true) = pre ++ post := by
  have hs := unl_sorted n listed
  rw [h, List.pairwise_append] at hs
  obtain ⟨_, h2, h3⟩ := hs
  have hpre : ∀ a ∈ pre, a ≠ i := fun a ha e => by have := h3 a ha i List.mem_cons_self; omega
  have hpost : ∀ a ∈ post, a ≠ i := fun a ha e => by
    have := (List.pairwise_cons.1 h2).1 a ha
    omega
  have e : unl n (listed.setIfInBounds i true) = (unl n listed).filter fun q => decide (q ≠ i) := by
    unfold unl
    rw [List.filter_filter]
    refine List.filter_congr fun q hq => ?_
    by_cases hqi : q = i
    · subst hqi
      have hlt : q < listed.size := by rw [hn]; exact List.mem_range.1 hq
      simp [hlt]
    · rw [getD_set_ne true (Ne.symm hqi)]
      simp [hqi]
  rw [e, h, List.filter_append, List.filter_cons]
  simp only [ne_eq, not_true_eq_false, decide_false, Bool.false_eq_true, if_false]
  rw [List.filter_eq_self.2 fun a ha => by simpa using hpre a ha, List.filter_eq_self.2 fun a ha => by simpa using hpost a ha]

theorem any_ok (hN : ∀ (f : Nat) (fn : Func), P.funcs[f]? = some fn → fn.name ≠ "runtime.NumGoroutine") (hcal : CalOk P A cal) (hgl : GlobOk A g0 w0) (he : edgesOk 0 all.toList = true) (hd : dagOk [] (oisA A all) = true) {k : St → Option R} (Q : Exit → Act → World → Prop)
    (hQ : ∀ S' a' w', Good g0 w0 Ex S' a' w' → k S' = some r → Q .normal a' w') :
    ∀ (fuel : Nat) (listed : Array Bool) (a : Act) (w : World) (T : St), listed.size = all.size → (unl all.size listed).length ≤ fuel → Closed all listed → runL P A an isRes cal all (valDsts (oisA A all)) (oisA A all) (unl all.size listed) T k = some r → Good g0 w0 Ex T a w →
      wpAny P .any all Q fuel listed a w := by
  have none_ready : ∀ (listed : Array Bool), listed.size = all.size → unl all.size listed = [] → Region.ready .any all listed = [] := by
    intro listed hls h
    cases hr : Region.ready .any all listed with
    | nil => rfl
    | cons x l =>
      have hm : x ∈ Region.ready .any all listed := by rw [hr]; exact List.mem_cons_self
      obtain ⟨h1, o, ho, _⟩ := mem_ready.1 hm
      have : x ∈ unl all.size listed := List.mem_filter.2 ⟨List.mem_range.2 (Array.getElem?_eq_some_iff.1 ho).1, by rw [h1]; rfl⟩
      rw [h] at this; cases this
  intro fuel
  induction fuel with
  | zero =>
    intro listed a w T hls hf hc h hg
    have h0 : unl all.size listed = [] := List.eq_nil_of_length_eq_zero (by omega)
    rw [h0] at h
    exact ⟨none_ready listed hls h0, hQ T a w hg h⟩
  | succ fuel ih =>
    intro listed a w T hls hf hc h hg
    refine ⟨fun h0 => ?_, fun x hx => ?_⟩
    · -- nothing is ready: nothing is left
      cases hu : unl all.size listed with
      | nil => rw [hu] at h; exact hQ T a w hg h
      | cons i l =>
        exfalso
        have hm : i ∈ unl all.size listed := by rw [hu]; exact List.mem_cons_self
        obtain ⟨h1, h2⟩ := List.mem_filter.1 hm
        have his := List.mem_range.1 h1
        have ho : all[i]? = some all[i] := Array.getElem?_eq_getElem his
        have hi : listed.getD i true = false := by simpa using h2
        have : i ∈ Region.ready .any all listed := by
          refine mem_ready.2 ⟨hi, _, ho, fun e he2 hbd => ?_⟩
          have hlt := edgesOk_spec all.toList 0 he i _ (by rw [Array.getElem?_toList]; exact ho) e he2 hbd
          have hs := unl_sorted all.size listed
          rw [hu] at hs
          cases hb : listed.getD e.on true with
          | true =>
            have : e.on < listed.size := by omega
            simp only [Array.getD_eq_getD_getElem?, Array.getElem?_eq_getElem this, Option.getD_some] at hb ⊢
            exact hb
          | false =>
            have hmem : e.on ∈ unl all.size listed := List.mem_filter.2 ⟨List.mem_range.2 (by omega), by rw [hb]; rfl⟩
            rw [hu] at hmem
            rcases List.mem_cons.1 hmem with e1 | e1
            · omega
            · have := (List.pairwise_cons.1 hs).1 _ e1; omega
        rw [h0] at this; cases this
    · obtain ⟨hun, o, ho, hall⟩ := mem_ready.1 hx
      have hxs : x < all.size := (Array.getElem?_eq_some_iff.1 ho).1
      have hmem : x ∈ unl all.size listed := List.mem_filter.2 ⟨List.mem_range.2 hxs, by rw [hun]; rfl⟩
      obtain ⟨pre, post, hsplit⟩ := List.append_of_mem hmem
      have hsort := unl_sorted all.size listed
      rw [hsplit] at h
      have hbits : ∀ j, (nthN (depsT all.toList []) x).testBit j = true → listed.getD j false = true := bits_listed he hc x hxs fun o' ho' e he2 hb => by
        rw [ho] at ho'
        injection ho' with ho'
        subst ho'
        exact hall e he2 hb
      have hpre : ∀ j ∈ pre, j < x ∧ (nthN (depsT all.toList []) x).testBit j = false := by
        intro j hj
        rw [hsplit, List.pairwise_append] at hsort
        refine ⟨hsort.2.2 j hj x List.mem_cons_self, ?_⟩
        cases hb : (nthN (depsT all.toList []) x).testBit j with
        | false => rfl
        | true =>
          have h1 := hbits j hb
          have h2 : j ∈ unl all.size listed := by rw [hsplit]; exact List.mem_append_left _ hj
          obtain ⟨h3, h4⟩ := List.mem_filter.1 h2
          have hjs := List.mem_range.1 h3
          have : j < listed.size := by omega
          simp only [Array.getD_eq_getD_getElem?, Array.getElem?_eq_getElem this, Option.getD_some] at h1 h4
          rw [h1] at h4
          cases h4
      have h2 := pull he hd ho pre T hpre h
      have xi := ois_at (A := A) ho
      unfold runL at h2
      simp only [xi, ho] at h2
      obtain ⟨g, hg⟩ := hg
      refine dstep_ok hN hcal hgl rfl ho h2 hg Q _ fun S' a' w' hgd hk => ih _ a' w' S' (by simpa using hls) ?_ ?_ ?_ hgd
      · rw [unl_set hls hsplit]
        rw [hsplit] at hf
        simp only [List.length_append, List.length_cons] at hf ⊢
        omega
      · intro i oi hoi hli e he2 hb
        by_cases hix : i = x
        · subst hix
          rw [ho] at hoi
          injection hoi with hoi
          subst hoi
          exact getD_set_true (hall e he2 hb)
        · have : listed.getD i false = true := by rw [getD_set_ne false (Ne.symm hix)] at hli; exact hli
          exact getD_set_true (hc i oi hoi this e he2 hb)
      · rw [unl_set hls hsplit]
        exact hk

theorem draw_ok {k : St → Option R} (hN : ∀ (f : Nat) (fn : Func), P.funcs[f]? = some fn → fn.name ≠ "runtime.NumGoroutine") (hcal : CalOk P A cal) (hgl : GlobOk A g0 w0) (Q : Exit → Act → World → Prop)
    (hQ : ∀ S' a' w', Good g0 w0 Ex S' a' w' → k S' = some r → Q .normal a' w')
    (h : absDag P A an isRes cal all S k = some r) (hg : Good g0 w0 Ex S a w) : wpAny P .any all Q all.size (Array.replicate all.size false) a w := by
  unfold absDag at h
  obtain ⟨h1, h2⟩ := br_left h
  rw [Bool.and_eq_true] at h1
  have hall : unl all.size (Array.replicate all.size false) = List.range all.size := by
    unfold unl
    refine List.filter_eq_self.2 fun i hi => ?_
    have := List.mem_range.1 hi
    simp [this]
  have h3 := dsteps_runL (P := P) (A := A) (an := an) (isRes := isRes) (cal := cal) (all := all) (D := valDsts (oisA A all)) (ois := oisA A all) (k := fun S' => k (match anyMake (oisA A all) with
        | true => { S' with nx := S'.nx + all.size }
        | false => S')) all.size 0 S ois_len (by omega)
  rw [List.drop_zero, List.drop_zero] at h3
  have h4 := h3.symm.trans h2
  rw [← List.range_eq_range'] at h4
  refine any_ok hN hcal hgl h1.1 h1.2 (k := fun S' => k (match anyMake (oisA A all) with
        | true => { S' with nx := S'.nx + all.size }
        | false => S')) Q (fun S' a' w' hgd hk => ?_) all.size _ a w S (by simp) (by rw [hall]; simp) ?_ (by rw [hall]; exact h4) hg
  · obtain ⟨g, hg⟩ := hgd
    cases hm : anyMake (oisA A all) with
    | true => rw [hm] at hk; exact hQ _ a' w' ⟨g, hg.nx _⟩ hk
    | false => rw [hm] at hk; exact hQ _ a' w' ⟨g, hg⟩ hk
  · intro i o ho hl
    have : i < all.size := (Array.getElem?_eq_some_iff.1 ho).1
    simp [this] at hl

end
end Go.Vai
