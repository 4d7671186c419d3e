/- Every order. -/
import Derived.Scope
import Derived.Test.YtfdklpkfpmkgeaaGreatDoorM5
set_option linter.unusedSimpArgs false
set_option linter.unusedVariables false
set_option linter.unusedSectionVars false
set_option linter.unnecessarySimpa false
section
namespace Go.Vai
section
variable {g0 : G} {w0 : World} {Ex : Nat→Prop} {g g' : G} {a : Act} {w w' : World}
variable {eb ebj ebi : Bool} {P : Program} {A : List (Nat × Ann)} {an : Ann} {isRes : Nat→Bool} {cal : Oracle} {S S' T : St} {R : Type} {r : R} {all : Array Oper}
abbrev oisA (A : List (Nat × Ann)) (all : Array Oper) : List OI := oisOf A all (depsT all.toList []) all.toList
theorem ois_at {i : Nat} {o : Oper} (h : all[i]? = some o) : (oisA A all)[i]? = some (oiOf A all (nthN (depsT all.toList []) i) o) :=
 oisOf_at _ _ (by rw [depsT_length]; simp) i o (by rw [Array.getElem?_toList]; exact h)
theorem ois_len : (oisA A all).length = all.size:=by
 rw [oisA,oisOf_length _ _ (by rw [depsT_length]; simp),Array.length_toList]
theorem oi_look {o : Oper} {m : Nat} : ∀ t,Operand.tmp t ∈ o.op.operands→t ∈ (oiOf A all m o).lk := fun _ h=>look_mem h
theorem oi_guard {o : Oper} {m : Nat} : ∀ j want d,o.guard = some (j,want)→dstOf all.toList j = some d→d ∈ (oiOf A all m o).lk := fun j want d hg hd=>by
 rw [dstOf_get] at hd
 show d ∈ o.looksAt all
 unfold Oper.looksAt
 rw [hg]
 simp only [hd]
 exact List.mem_append_right _ (by simp)
theorem oi_ds {o : Oper} {m d : Nat} (h : o.dst = some d) : d ∈ (oiOf A all m o).ds:=by
 show d ∈ (match o.dst with
  | some d=>[d]
  | none=>[])
 rw [h]; simp
theorem oi_ds' {o : Oper} {m : Nat} : ∀ q,q ∈ (oiOf A all m o).ds→o.dst = some q := fun q h=>by
 have h' : q ∈ (match o.dst with
  | some d=>[d]
  | none=>[]) := h
 cases hd : o.dst with
 | none=>rw [hd] at h'; cases h'
 | some d=>rw [hd] at h'; rw [List.mem_singleton.1 h']
theorem exch (he : edgesOk 0 all.toList = true) (hd : dagOk [] (oisA A all) = true) {j i : Nat} {oj oi : Oper} (hj : all[j]? = some oj) (hi : all[i]? = some oi) (hji : j < i) (hun : (nthN (depsT all.toList []) i).testBit j = false) {K : St→Option R}
    (h : dstep P A an isRes cal all.toList (valDsts (oisA A all)) j (fxOf (oisA A all) j (oiOf A all (nthN (depsT all.toList []) j) oj)) (oiOf A all (nthN (depsT all.toList []) j) oj) oj T
      (fun X=>dstep P A an isRes cal all.toList (valDsts (oisA A all)) i (fxOf (oisA A all) i (oiOf A all (nthN (depsT all.toList []) i) oi)) (oiOf A all (nthN (depsT all.toList []) i) oi) oi X K) = some r) :
    dstep P A an isRes cal all.toList (valDsts (oisA A all)) i (fxOf (oisA A all) i (oiOf A all (nthN (depsT all.toList []) i) oi)) (oiOf A all (nthN (depsT all.toList []) i) oi) oi T
      (fun X=>dstep P A an isRes cal all.toList (valDsts (oisA A all)) j (fxOf (oisA A all) j (oiOf A all (nthN (depsT all.toList []) j) oj)) (oiOf A all (nthN (depsT all.toList []) j) oj) oj X K) = some r:=by
  have xj := ois_at (A := A) hj
  have xi := ois_at (A := A) hi
  have his : i < all.size := (Array.getElem?_eq_some_iff.1 hi).1
  have hjs : j < all.size := (Array.getElem?_eq_some_iff.1 hj).1
  have hun' : (nthN (depsT all.toList []) j).testBit i = false:=by
    cases hb : (nthN (depsT all.toList []) j).testBit i with
    | false=>rfl
    | true=>have := bits_lt he j i hjs hb; omega
  obtain ⟨hvi,hex⟩ := dagOk_spec _ [] hd i _ xi
  obtain ⟨hvj,_⟩ := dagOk_spec _ [] hd j _ xj
  have hm : mayEx (oiOf A all (nthN (depsT all.toList []) j) oj) (oiOf A all (nthN (depsT all.toList []) i) oi) = true:=by
    rcases hex j _ (by simpa using hji) (by simpa using xj) with h | h
    · have : (nthN (depsT all.toList []) i).testBit j = true := h
      rw [hun] at this; cases this
    · exact h
  generalize hxj : oiOf A all (nthN (depsT all.toList []) j) oj = yj at *
  generalize hxi : oiOf A all (nthN (depsT all.toList []) i) oi = yi at *
  have cj : yj.cl = clOf A (eArg all.toList oj) oj := by rw [← hxj]; rfl
  have ci : yi.cl = clOf A (eArg all.toList oi) oi := by rw [← hxi]; rfl
  have lj : ∀ t,Operand.tmp t ∈ oj.op.operands→t ∈ yj.lk := by rw [← hxj]; exact oi_look
  have li : ∀ t,Operand.tmp t ∈ oi.op.operands→t ∈ yi.lk := by rw [← hxi]; exact oi_look
  have gj : ∀ q want d,oj.guard = some (q,want)→dstOf all.toList q = some d→d ∈ yj.lk := by rw [← hxj]; exact oi_guard
  have gi : ∀ q want d,oi.guard = some (q,want)→dstOf all.toList q = some d→d ∈ yi.lk := by rw [← hxi]; exact oi_guard
  have hdsj : ∀ q,q ∈ yj.ds→oj.dst = some q := by rw [← hxj]; exact oi_ds'
  have hdsi : ∀ q,q ∈ yi.ds→oi.dst = some q := by rw [← hxi]; exact oi_ds'
  have nhj : yj.nh = nhOf A oj := by rw [← hxj]; rfl
  have nhi : yi.nh = nhOf A oi := by rw [← hxi]; rfl
  have dj : ∀ q,oj.dst = some q→q ∈ yj.ds := fun q hq=>by rw [← hxj]; exact oi_ds hq
  have di : ∀ q,oi.dst = some q→q ∈ yi.ds := fun q hq=>by rw [← hxi]; exact oi_ds hq
  have pj : yj.pre = nthN (depsT all.toList []) j := by rw [← hxj]; rfl
  have pi : yi.pre = nthN (depsT all.toList []) i := by rw [← hxi]; rfl
  unfold mayEx at hm
  rw [Bool.and_eq_true,Bool.and_eq_true,Bool.and_eq_true] at hm
  obtain ⟨⟨m1,m2,m3⟩,m4⟩ := hm
  have a1 : ∀ q,oj.dst = some q→q ∉ yi.lk := fun q hq=>apartN_spec m1 q (dj q hq)
  have a2 : ∀ q,oj.dst = some q→oi.dst ≠ some q := fun q hq hq2=>apartN_spec m2 q (dj q hq) (di q hq2)
  have a3 : ∀ q,oi.dst = some q→q ∉ yj.lk := fun q hq=>apartN_spec m3 q (di q hq)
  have sj : isVal yj.cl = true→∃ d,oj.dst = some d := fun hv=>by
    have := hvj hv
    rw [← hxj] at this
    cases hdd : oj.dst with
    | some d=>exact ⟨d,rfl⟩
    | none=>exact absurd (show (match oj.dst with
        | some d=>[d]
        | none=>[]) = ([] : List Nat) by rw [hdd]) this
  have si : isVal yi.cl = true→∃ d,oi.dst = some d := fun hv=>by
    have := hvi hv
    rw [← hxi] at this
    cases hdd : oi.dst with
    | some d=>exact ⟨d,rfl⟩
    | none=>exact absurd (show (match oi.dst with
        | some d=>[d]
        | none=>[]) = ([] : List Nat) by rw [hdd]) this
  have fj : isVal yi.cl = false→fixedOf (oisA A all) j yj 0 (oisA A all) = false := fun hv=>by
    cases hf : fixedOf (oisA A all) j yj 0 (oisA A all) with
    | false=>rfl
    | true =>
      rcases fixedOf_spec _ 0 hf i _ xi with h | h | h | h
      · rw [hv] at h; cases h
      · omega
      · rw [Nat.zero_add,pj,hun'] at h; cases h
      · rw [pi,hun] at h; cases h
  have fi : isVal yj.cl = false→fixedOf (oisA A all) i yi 0 (oisA A all) = false := fun hv=>by
    cases hf : fixedOf (oisA A all) i yi 0 (oisA A all) with
    | false=>rfl
    | true =>
      rcases fixedOf_spec _ 0 hf j _ xj with h | h | h | h
      · rw [hv] at h; cases h
      · omega
      · rw [Nat.zero_add,pi,hun] at h; cases h
      · rw [pj,hun'] at h; cases h
  have Dj : ∀ d,isVal yj.cl = true→oj.dst = some d→d ∈ valDsts (oisA A all) := fun d hv hq=>valDsts_mem (List.mem_of_getElem? xj) hv d (dj d hq)
  have Di : ∀ d,isVal yi.cl = true→oi.dst = some d→d ∈ valDsts (oisA A all) := fun d hv hq=>valDsts_mem (List.mem_of_getElem? xi) hv d (di d hq)
  cases hvj2 : isVal yj.cl with
  | true =>
    cases hvi2 : isVal yi.cl with
    | true =>
      exact exVV (F := fun S _ k=>dstep P A an isRes cal all.toList _ j _ yj oj S k) (G := fun S _ k=>dstep P A an isRes cal all.toList _ i _ yi oi S k) (dstep_isV st_or hdsj cj lj gj hvj2) (dstep_isV st_or hdsi ci li gi hvi2) a1 a2 a3 h
    | false =>
      rw [hvj2,hvi2] at m4
      have hc : (yi.cl = 3 ∨ yi.cl = 4) ∨ (yi.cl = 6 ∨ yi.cl = 7):=by
        have h1 : yi.cl < 5 ∨ yi.cl = 6 ∨ yi.cl = 7:=by
          have := m4
          simp only [Bool.or_eq_true,Nat.blt_eq] at this
          exact this.imp id (Or.imp Nat.eq_of_beq_eq_true Nat.eq_of_beq_eq_true)
        have h2 : ¬ yi.cl < 3 := fun hh=>by
          have : isVal yi.cl = true := by simpa [isVal,Nat.blt_eq] using hh
          rw [hvi2] at this; cases this
        omega
      obtain ⟨d,hdd⟩ := sj hvj2
      cases hfl : (fxOf (oisA A all) j yj).fl with
      | true =>
        have hf' : (yj.hr && flOf j yj 0 (oisA A all)) = true := hfl
        rw [Bool.and_eq_true] at hf'
        have hkc : kcOf A oi = true:=by
          rcases flOf_spec _ 0 hf'.2 i _ xi with h | h | h | h | h
          · rw [hvi2] at h; cases h
          · rw [← hxi] at h; exact h
          · omega
          · rw [Nat.zero_add,pj,hun'] at h; cases h
          · rw [pi,hun] at h; cases h
        have c3 : yi.cl = 3 := by rw [ci]; exact kc_cl hkc
        have hS : IsS (fun S _ k=>dstep P A an isRes cal all.toList (valDsts (oisA A all)) j (fxOf (oisA A all) j yj) yj oj S k) (fxOf (oisA A all) j yj).fh (some d) yj.lk:=by
          have := dstep_isS (P := P) (an := an) (isRes := isRes) (cal := cal) (all := all) (D := valDsts (oisA A all)) (i := j) (fz := fxOf (oisA A all) j yj) (fj hvi2) hdsj cj lj gj hvj2
          rw [hdd] at this
          exact this
        have hK : IsK (fun S _ k=>dstep P A an isRes cal all.toList (valDsts (oisA A all)) i (fxOf (oisA A all) i yi) yi oi S k) d oi.dst := dstep_isK ci c3 hkc li gi (a1 d hdd) (a2 d hdd) (Dj d hvj2 hdd)
        have hm : (fxOf (oisA A all) j yj).fh = true→∀ S T,(∀ (R : Type) (k : St→Option R),dstep P A an isRes cal all.toList (valDsts (oisA A all)) i (fxOf (oisA A all) i yi) yi oi S k = k T)→SameH S T:=by
          intro hf
          have hf' : (yj.hr && fhOf j yj 0 (oisA A all)) = true := hf
          rw [Bool.and_eq_true] at hf'
          have hnh : nhOf A oi = true:=by
            rcases fhOf_spec _ 0 hf'.2 i _ xi with h | h | h | h | h
            · rw [hvi2] at h; cases h
            · rw [← nhi]; exact h
            · omega
            · rw [Nat.zero_add,pj,hun'] at h; cases h
            · rw [pi,hun] at h; cases h
          exact dstep_mem ci (.inl c3) hnh
        exact exVS hS hK hm a3 h
      | false =>
      have hV : IsV (fun S _ k=>dstep P A an isRes cal all.toList (valDsts (oisA A all)) j (fxOf (oisA A all) j yj) yj oj S k) false (fxOf (oisA A all) j yj).fh (some d) yj.lk:=by
        have := dstep_isV (P := P) (an := an) (isRes := isRes) (cal := cal) (all := all) (D := valDsts (oisA A all)) (i := j) (fz := fxOf (oisA A all) j yj) (st := false) (fun _=>⟨fj hvi2,hfl⟩) hdsj cj lj gj hvj2
        rw [hdd] at this
        exact this
      rcases hc with hc | hc
      · have hC : IsC (fun S _ k=>dstep P A an isRes cal all.toList (valDsts (oisA A all)) i (fxOf (oisA A all) i yi) yi oi S k) d oi.dst := dstep_isC ci hc li gi (a1 d hdd) (a2 d hdd) (Dj d hvj2 hdd)
        have hm : (fxOf (oisA A all) j yj).fh = true→∀ S T,(∀ (R : Type) (k : St→Option R),dstep P A an isRes cal all.toList (valDsts (oisA A all)) i (fxOf (oisA A all) i yi) yi oi S k = k T)→SameH S T:=by
          intro hf
          have hf' : (yj.hr && fhOf j yj 0 (oisA A all)) = true := hf
          rw [Bool.and_eq_true] at hf'
          have hnh : nhOf A oi = true:=by
            rcases fhOf_spec _ 0 hf'.2 i _ xi with h | h | h | h | h
            · rw [hvi2] at h; cases h
            · rw [← nhi]; exact h
            · omega
            · rw [Nat.zero_add,pj,hun'] at h; cases h
            · rw [pi,hun] at h; cases h
          exact dstep_mem ci hc hnh
        exact exVC hV hC hm a3 h
      · have hB : NoW (fun S _ k=>dstep P A an isRes cal all.toList (valDsts (oisA A all)) j (fxOf (oisA A all) j yj) yj oj S k) yi.wb d yj.lk :=
          dstep_noW hvj2 (fj hvi2) (fun e he=>wsOf_spec _ 0 i _ xi (by omega) (by rw [Nat.zero_add,pj]; exact hun') (by rw [pi]; exact hun) e he) (dj d hdd)
        have hW : IsW (fun S _ k=>dstep P A an isRes cal all.toList (valDsts (oisA A all)) i (fxOf (oisA A all) i yi) yi oi S k) (fxOf (oisA A all) i yi).hz yi.wb d oi.dst :=
          dstep_isW ci hc (fun h6 q hq=>by
            rw [← hxi] at h6 ⊢
            have h6' : clOf A (eArg all.toList oi) oi = 6 := h6
            cases ho : oi.op with
            | alloc e=>show q ∈ wbOf all.toList oi; simp only [wbOf,ho,dsL,hq,List.mem_singleton]
            | move x=>simp only [clOf,ho] at h6'; split at h6' <;> cases h6'
            | makeSlice _ _ _=>simp only [clOf,ho] at h6'; split at h6' <;> cases h6'
            | call c =>
              simp only [clOf,ho] at h6'
              repeat' split at h6'
              all_goals cases h6'
            | _=>simp [clOf,ho] at h6') li gi (a1 d hdd) (a2 d hdd)
        have hm : (fxOf (oisA A all) j yj).fh = true→(fxOf (oisA A all) i yi).hz = false:=by
          intro hf
          have hf' : (yj.hr && fhOf j yj 0 (oisA A all)) = true := hf
          rw [Bool.and_eq_true] at hf'
          cases hz : (fxOf (oisA A all) i yi).hz with
          | false=>rfl
          | true =>
            rcases hzOf_spec _ 0 hz j _ xj with h | h | h | h | h
            · rw [hvj2] at h; cases h
            · rw [hf'.1] at h; cases h
            · omega
            · rw [Nat.zero_add,pi,hun] at h; cases h
            · rw [pj,hun'] at h; cases h
        exact exVW hV hB hW hm a3 h
  | false =>
    cases hvi2 : isVal yi.cl with
    | true =>
      rw [hvj2,hvi2] at m4
      have hc : yj.cl = 3 ∨ yj.cl = 4:=by
        have h1 : yj.cl < 5 := by simpa [Nat.blt_eq] using m4
        have h2 : ¬ yj.cl < 3 := fun hh=>by
          have : isVal yj.cl = true := by simpa [isVal,Nat.blt_eq] using hh
          rw [hvj2] at this; cases this
        omega
      obtain ⟨d,hdd⟩ := si hvi2
      cases hfl : (fxOf (oisA A all) i yi).fl with
      | true =>
        have hf' : (yi.hr && flOf i yi 0 (oisA A all)) = true := hfl
        rw [Bool.and_eq_true] at hf'
        have hkc : kcOf A oj = true:=by
          rcases flOf_spec _ 0 hf'.2 j _ xj with h | h | h | h | h
          · rw [hvj2] at h; cases h
          · rw [← hxj] at h; exact h
          · omega
          · rw [Nat.zero_add,pi,hun] at h; cases h
          · rw [pj,hun'] at h; cases h
        have c3 : yj.cl = 3 := by rw [cj]; exact kc_cl hkc
        have hS : IsS (fun S _ k=>dstep P A an isRes cal all.toList (valDsts (oisA A all)) i (fxOf (oisA A all) i yi) yi oi S k) (fxOf (oisA A all) i yi).fh (some d) yi.lk:=by
          have := dstep_isS (P := P) (an := an) (isRes := isRes) (cal := cal) (all := all) (D := valDsts (oisA A all)) (i := i) (fz := fxOf (oisA A all) i yi) (fi hvj2) hdsi ci li gi hvi2
          rw [hdd] at this
          exact this
        have hK : IsK (fun S _ k=>dstep P A an isRes cal all.toList (valDsts (oisA A all)) j (fxOf (oisA A all) j yj) yj oj S k) d oj.dst := dstep_isK cj c3 hkc lj gj (a3 d hdd) (fun hq=>a2 d hq hdd) (Di d hvi2 hdd)
        have hm : (fxOf (oisA A all) i yi).fh = true→∀ S T,(∀ (R : Type) (k : St→Option R),dstep P A an isRes cal all.toList (valDsts (oisA A all)) j (fxOf (oisA A all) j yj) yj oj S k = k T)→SameH S T:=by
          intro hf
          have hf' : (yi.hr && fhOf i yi 0 (oisA A all)) = true := hf
          rw [Bool.and_eq_true] at hf'
          have hnh : nhOf A oj = true:=by
            rcases fhOf_spec _ 0 hf'.2 j _ xj with h | h | h | h | h
            · rw [hvj2] at h; cases h
            · rw [← nhj]; exact h
            · omega
            · rw [Nat.zero_add,pi,hun] at h; cases h
            · rw [pj,hun'] at h; cases h
          exact dstep_mem cj (.inl c3) hnh
        exact exSV hS hK hm a1 h
      | false =>
      have hV : IsV (fun S _ k=>dstep P A an isRes cal all.toList (valDsts (oisA A all)) i (fxOf (oisA A all) i yi) yi oi S k) false (fxOf (oisA A all) i yi).fh (some d) yi.lk:=by
        have := dstep_isV (P := P) (an := an) (isRes := isRes) (cal := cal) (all := all) (D := valDsts (oisA A all)) (i := i) (fz := fxOf (oisA A all) i yi) (st := false) (fun _=>⟨fi hvj2,hfl⟩) hdsi ci li gi hvi2
        rw [hdd] at this
        exact this
      have hC : IsC (fun S _ k=>dstep P A an isRes cal all.toList (valDsts (oisA A all)) j (fxOf (oisA A all) j yj) yj oj S k) d oj.dst := dstep_isC cj hc lj gj (a3 d hdd) (fun hq=>a2 d hq hdd) (Di d hvi2 hdd)
      have hm : (fxOf (oisA A all) i yi).fh = true→∀ S T,(∀ (R : Type) (k : St→Option R),dstep P A an isRes cal all.toList (valDsts (oisA A all)) j (fxOf (oisA A all) j yj) yj oj S k = k T)→SameH S T:=by
        intro hf
        have hf' : (yi.hr && fhOf i yi 0 (oisA A all)) = true := hf
        rw [Bool.and_eq_true] at hf'
        have hnh : nhOf A oj = true:=by
          rcases fhOf_spec _ 0 hf'.2 j _ xj with h | h | h | h | h
          · rw [hvj2] at h; cases h
          · rw [← nhj]; exact h
          · omega
          · rw [Nat.zero_add,pi,hun] at h; cases h
          · rw [pj,hun'] at h; cases h
        exact dstep_mem cj hc hnh
      exact exCV hV hC hm a1 h
    | false =>
      rw [hvj2,hvi2] at m4
      simp only [Bool.or_eq_true,Bool.and_eq_true] at m4
      have nog : ∀ (eb : Bool) (o : Oper),clOf A eb o = 4 ∨ clOf A eb o = 6→o.guard = none:=by
        intro eb o ho
        cases hop : o.op with
        | makeSlice _ _ _ =>
          simp only [clOf,hop] at ho
          split at ho
          · assumption
          · simp at ho
        | alloc _ =>
          simp only [clOf,hop] at ho
          split at ho
          · assumption
          · simp at ho
        | move x=>simp only [clOf,hop] at ho; split at ho <;> simp at ho
        | call c =>
          exfalso
          simp only [clOf,hop] at ho
          repeat' split at ho
          all_goals simp at ho
        | _=>simp [clOf,hop] at ho
      have gg : ∀ (o : Oper),o.guard = none→∀ (S : St),gres all.toList o S = some true := fun o ho S=>by unfold gres; rw [ho]
      rcases m4 with ⟨c4j,c4i⟩ | ⟨c6j,c6i⟩
      · have c4j := Nat.eq_of_beq_eq_true c4j
        have c4i := Nat.eq_of_beq_eq_true c4i
        have gj0 := gg oj (nog _ oj (.inl (cj ▸ c4j)))
        have gi0 := gg oi (nog _ oi (.inl (ci ▸ c4i)))
        simp only [dstep_nv hvj2,dstep_nv hvi2,dstep0_eq,gj0,gi0] at h ⊢
        exact exMM c4j c4i (cj ▸ c4j) (ci ▸ c4i) lj li a1 a2 a3 (by omega) h
      · have c6j := Nat.eq_of_beq_eq_true c6j
        have c6i := Nat.eq_of_beq_eq_true c6i
        have gj0 := gg oj (nog _ oj (.inr (cj ▸ c6j)))
        have gi0 := gg oi (nog _ oi (.inr (ci ▸ c6i)))
        simp only [dstep_nv hvj2,dstep_nv hvi2,dstep0_eq,gj0,gi0] at h ⊢
        exact exAA c6j c6i (cj ▸ c6j) (ci ▸ c6i) a2 h
theorem pull (he : edgesOk 0 all.toList = true) (hd : dagOk [] (oisA A all) = true) {i : Nat} {oi : Oper} (hi : all[i]? = some oi) {post : List Nat} {k : St→Option R} : ∀ (pre : List Nat) (S : St),(∀ j ∈ pre,j < i∧(nthN (depsT all.toList []) i).testBit j = false) →
  runL P A an isRes cal all (valDsts (oisA A all)) (oisA A all) (pre ++ i :: post) S k = some r→runL P A an isRes cal all (valDsts (oisA A all)) (oisA A all) (i :: (pre ++ post)) S k = some r
 | [],S,_,h=>h
 | j :: pre,S,hp,h=>by
  obtain ⟨hji,hun⟩ := hp j List.mem_cons_self
  have hjs : j < all.size := by have := (Array.getElem?_eq_some_iff.1 hi).1; omega
  have hj : all[j]? = some all[j] := Array.getElem?_eq_getElem hjs
  have xj := ois_at (A := A) hj
  have xi := ois_at (A := A) hi
  have hm : (oiOf A all (nthN (depsT all.toList []) j) all[j]).cl < 5 ∨ (oiOf A all (nthN (depsT all.toList []) j) all[j]).cl = 6:=by
   obtain ⟨_,hex⟩ := dagOk_spec _ [] hd i _ xi
   rcases hex j _ (by simpa using hji) (by simpa using xj) with h | h
   ·have : (nthN (depsT all.toList []) i).testBit j = true := h
    rw [hun] at this; cases this
   ·unfold mayEx at h
    rw [Bool.and_eq_true] at h
    have h2 := h.2
    revert h2
    generalize (oiOf A all (nthN (depsT all.toList []) j) all[j]) = yj
    generalize (oiOf A all (nthN (depsT all.toList []) i) oi) = yi
    intro h2
    cases hv : isVal yj.cl with
    | true =>
     have : yj.cl < 3 := by simpa [isVal,Nat.blt_eq] using hv
     omega
    | false =>
     rw [hv] at h2
     cases hv2 : isVal yi.cl with
     | true=>rw [hv2] at h2; exact .inl (by simpa [Nat.blt_eq] using h2)
     | false =>
      rw [hv2] at h2
      simp only [Bool.or_eq_true,Bool.and_eq_true] at h2
      rcases h2 with h2 | h2
      ·have := Nat.eq_of_beq_eq_true h2.1
       omega
      ·exact .inr (Nat.eq_of_beq_eq_true h2.1)
  rw [List.cons_append] at h
  unfold runL at h
  simp only [xj,hj] at h
  have h2 := dstep_mono (F' := fun S'=>runL P A an isRes cal all (valDsts (oisA A all)) (oisA A all) (i :: (pre ++ post)) S' k) oi_ds' rfl hm oi_look oi_guard (fun T hT=>pull he hd hi pre T (fun q hq=>hp q (List.mem_cons_of_mem _ hq)) hT) h
  have e1 : ∀ S',runL P A an isRes cal all (valDsts (oisA A all)) (oisA A all) (i :: (pre ++ post)) S' k = dstep P A an isRes cal all.toList (valDsts (oisA A all)) i (fxOf (oisA A all) i (oiOf A all (nthN (depsT all.toList []) i) oi)) (oiOf A all (nthN (depsT all.toList []) i) oi) oi S' (fun S''=>runL P A an isRes cal all (valDsts (oisA A all)) (oisA A all) (pre ++ post) S'' k):=by
   intro S'
   conv=>lhs; unfold runL
   simp only [xi,hi]
  simp only [e1] at h2
  have h3 := exch he hd hj hi hji hun h2
  conv=>lhs; unfold runL
  simp only [xi,hi]
  have e2 : ∀ S',runL P A an isRes cal all (valDsts (oisA A all)) (oisA A all) (j :: pre ++ post) S' k = dstep P A an isRes cal all.toList (valDsts (oisA A all)) j (fxOf (oisA A all) j (oiOf A all (nthN (depsT all.toList []) j) all[j])) (oiOf A all (nthN (depsT all.toList []) j) all[j]) all[j] S' (fun S''=>runL P A an isRes cal all (valDsts (oisA A all)) (oisA A all) (pre ++ post) S'' k):=by
   intro S'
   rw [List.cons_append]
   conv=>lhs; unfold runL
   simp only [xj,hj]
  simp only [e2]
  exact h3
def unl (n : Nat) (listed : Array Bool) : List Nat := (List.range n).filter fun i=>!listed.getD i true
theorem unl_sorted (n : Nat) (listed : Array Bool) : (unl n listed).Pairwise (· < ·) := List.Pairwise.filter _ List.pairwise_lt_range
theorem unl_set {n i : Nat} {listed : Array Bool} (hn : listed.size = n) {pre post : List Nat} (h : unl n listed = pre ++ i :: post) : unl n (listed.setIfInBounds i true) = pre ++ post:=by
 have hs := unl_sorted n listed
 rw [h,List.pairwise_append] at hs
 obtain ⟨_,h2,h3⟩ := hs
 have hpre : ∀ a ∈ pre,a ≠ i := fun a ha e=>by have := h3 a ha i List.mem_cons_self; omega
 have hpost : ∀ a ∈ post,a ≠ i := fun a ha e=>by
  have := (List.pairwise_cons.1 h2).1 a ha
  omega
 have e : unl n (listed.setIfInBounds i true) = (unl n listed).filter fun q=>decide (q ≠ i):=by
  unfold unl
  rw [List.filter_filter]
  refine List.filter_congr fun q hq=>?_
  by_cases hqi : q = i
  ·subst hqi
   have hlt : q < listed.size := by rw [hn]; exact List.mem_range.1 hq
   simp [hlt]
  ·rw [getD_set_ne true (Ne.symm hqi)]
   simp [hqi]
 rw [e,h,List.filter_append,List.filter_cons]
 simp only [ne_eq,not_true_eq_false,decide_false,Bool.false_eq_true,if_false]
 rw [List.filter_eq_self.2 fun a ha=>by simpa using hpre a ha,List.filter_eq_self.2 fun a ha=>by simpa using hpost a ha]
theorem any_ok (hN : ∀ (f : Nat) (fn : Func),P.funcs[f]? = some fn→fn.name ≠ "runtime.NumGoroutine") (hcal : CalOk P A cal) (hgl : GlobOk A g0 w0) (he : edgesOk 0 all.toList = true) (hd : dagOk [] (oisA A all) = true) {k : St→Option R} (Q : Exit→Act→World→Prop)
  (hQ : ∀ S' a' w',Good g0 w0 Ex S' a' w'→k S' = some r→Q .normal a' w') :
  ∀ (fuel : Nat) (listed : Array Bool) (a : Act) (w : World) (T : St),listed.size = all.size→(unl all.size listed).length ≤ fuel→Closed all listed→runL P A an isRes cal all (valDsts (oisA A all)) (oisA A all) (unl all.size listed) T k = some r→Good g0 w0 Ex T a w →
   wpAny P .any all Q fuel listed a w:=by
 have none_ready : ∀ (listed : Array Bool),listed.size = all.size→unl all.size listed = []→Region.ready .any all listed = []:=by
  intro listed hls h
  cases hr : Region.ready .any all listed with
  | nil=>rfl
  | cons x l =>
   have hm : x ∈ Region.ready .any all listed := by rw [hr]; exact List.mem_cons_self
   obtain ⟨h1,o,ho,_⟩ := mem_ready.1 hm
   have : x ∈ unl all.size listed := List.mem_filter.2 ⟨List.mem_range.2 (Array.getElem?_eq_some_iff.1 ho).1,by rw [h1]; rfl⟩
   rw [h] at this; cases this
 intro fuel
 induction fuel with
 | zero =>
  intro listed a w T hls hf hc h hg
  have h0 : unl all.size listed = [] := List.eq_nil_of_length_eq_zero (by omega)
  rw [h0] at h
  exact ⟨none_ready listed hls h0,hQ T a w hg h⟩
 | succ fuel ih =>
  intro listed a w T hls hf hc h hg
  refine ⟨fun h0=>?_,fun x hx=>?_⟩
  ·
   cases hu : unl all.size listed with
   | nil=>rw [hu] at h; exact hQ T a w hg h
   | cons i l =>
    exfalso
    have hm : i ∈ unl all.size listed := by rw [hu]; exact List.mem_cons_self
    obtain ⟨h1,h2⟩ := List.mem_filter.1 hm
    have his := List.mem_range.1 h1
    have ho : all[i]? = some all[i] := Array.getElem?_eq_getElem his
    have hi : listed.getD i true = false := by simpa using h2
    have : i ∈ Region.ready .any all listed:=by
     refine mem_ready.2 ⟨hi,_,ho,fun e he2 hbd=>?_⟩
     have hlt := edgesOk_spec all.toList 0 he i _ (by rw [Array.getElem?_toList]; exact ho) e he2 hbd
     have hs := unl_sorted all.size listed
     rw [hu] at hs
     cases hb : listed.getD e.on true with
     | true =>
      have : e.on < listed.size := by omega
      simp only [Array.getD_eq_getD_getElem?,Array.getElem?_eq_getElem this,Option.getD_some] at hb ⊢
      exact hb
     | false =>
      have hmem : e.on ∈ unl all.size listed := List.mem_filter.2 ⟨List.mem_range.2 (by omega),by rw [hb]; rfl⟩
      rw [hu] at hmem
      rcases List.mem_cons.1 hmem with e1 | e1
      ·omega
      ·have := (List.pairwise_cons.1 hs).1 _ e1; omega
    rw [h0] at this; cases this
  ·obtain ⟨hun,o,ho,hall⟩ := mem_ready.1 hx
   have hxs : x < all.size := (Array.getElem?_eq_some_iff.1 ho).1
   have hmem : x ∈ unl all.size listed := List.mem_filter.2 ⟨List.mem_range.2 hxs,by rw [hun]; rfl⟩
   obtain ⟨pre,post,hsplit⟩ := List.append_of_mem hmem
   have hsort := unl_sorted all.size listed
   rw [hsplit] at h
   have hbits : ∀ j,(nthN (depsT all.toList []) x).testBit j = true→listed.getD j false = true := bits_listed he hc x hxs fun o' ho' e he2 hb=>by
    rw [ho] at ho'
    injection ho' with ho'
    subst ho'
    exact hall e he2 hb
   have hpre : ∀ j ∈ pre,j < x∧(nthN (depsT all.toList []) x).testBit j = false:=by
    intro j hj
    rw [hsplit,List.pairwise_append] at hsort
    refine ⟨hsort.2.2 j hj x List.mem_cons_self,?_⟩
    cases hb : (nthN (depsT all.toList []) x).testBit j with
    | false=>rfl
    | true =>
     have h1 := hbits j hb
     have h2 : j ∈ unl all.size listed := by rw [hsplit]; exact List.mem_append_left _ hj
     obtain ⟨h3,h4⟩ := List.mem_filter.1 h2
     have hjs := List.mem_range.1 h3
     have : j < listed.size := by omega
     simp only [Array.getD_eq_getD_getElem?,Array.getElem?_eq_getElem this,Option.getD_some] at h1 h4
     rw [h1] at h4
     cases h4
   have h2 := pull he hd ho pre T hpre h
   have xi := ois_at (A := A) ho
   unfold runL at h2
   simp only [xi,ho] at h2
   obtain ⟨g,hg⟩ := hg
   refine dstep_ok hN hcal hgl rfl ho h2 hg Q _ fun S' a' w' hgd hk=>ih _ a' w' S' (by simpa using hls) ?_ ?_ ?_ hgd
   ·rw [unl_set hls hsplit]
    rw [hsplit] at hf
    simp only [List.length_append,List.length_cons] at hf ⊢
    omega
   ·intro i oi hoi hli e he2 hb
    by_cases hix : i = x
    ·subst hix
     rw [ho] at hoi
     injection hoi with hoi
     subst hoi
     exact getD_set_true (hall e he2 hb)
    ·have : listed.getD i false = true := by rw [getD_set_ne false (Ne.symm hix)] at hli; exact hli
     exact getD_set_true (hc i oi hoi this e he2 hb)
   ·rw [unl_set hls hsplit]
    exact hk
theorem draw_ok {k : St→Option R} (hN : ∀ (f : Nat) (fn : Func),P.funcs[f]? = some fn→fn.name ≠ "runtime.NumGoroutine") (hcal : CalOk P A cal) (hgl : GlobOk A g0 w0) (Q : Exit→Act→World→Prop)
  (hQ : ∀ S' a' w',Good g0 w0 Ex S' a' w'→k S' = some r→Q .normal a' w')
  (h : absDag P A an isRes cal all S k = some r) (hg : Good g0 w0 Ex S a w) : wpAny P .any all Q all.size (Array.replicate all.size false) a w:=by
 unfold absDag at h
 obtain ⟨h1,h2⟩ := br_left h
 rw [Bool.and_eq_true] at h1
 have hall : unl all.size (Array.replicate all.size false) = List.range all.size:=by
  unfold unl
  refine List.filter_eq_self.2 fun i hi=>?_
  have := List.mem_range.1 hi
  simp [this]
 have h3 := dsteps_runL (P := P) (A := A) (an := an) (isRes := isRes) (cal := cal) (all := all) (D := valDsts (oisA A all)) (ois := oisA A all) (k := fun S'=>k (match anyMake (oisA A all) with
    | true=>{ S' with nx := S'.nx + all.size }
    | false=>S')) all.size 0 S ois_len (by omega)
 rw [List.drop_zero,List.drop_zero] at h3
 have h4 := h3.symm.trans h2
 rw [← List.range_eq_range'] at h4
 refine any_ok hN hcal hgl h1.1 h1.2 (k := fun S'=>k (match anyMake (oisA A all) with
    | true=>{ S' with nx := S'.nx + all.size }
    | false=>S')) Q (fun S' a' w' hgd hk=>?_) all.size _ a w S (by simp) (by rw [hall]; simp) ?_ (by rw [hall]; exact h4) hg
 ·obtain ⟨g,hg⟩ := hgd
  cases hm : anyMake (oisA A all) with
  | true=>rw [hm] at hk; exact hQ _ a' w' ⟨g,hg.nx _⟩ hk
  | false=>rw [hm] at hk; exact hQ _ a' w' ⟨g,hg⟩ hk
 ·intro i o ho hl
  have : i < all.size := (Array.getElem?_eq_some_iff.1 ho).1
  simp [this] at hl
end
end Go.Vai
end
section
namespace Go.Vai
section
variable {g0 : G} {w0 : World} {Ex : Nat→Prop} {g g' : G} {S : St} {a : Act} {w w' : World} {R : Type} {r : R}
theorem getL_remH (id : Nat) : ∀ (H : List (Nat × Blk)) (i : Nat),getL (remH id H) i = if i = id then none else getL H i
 | [],i=>by simp [remH,getL]
 | (j,b) :: H,i=>by
  have ih := getL_remH id H i
  simp only [remH]
  cases hj : Nat.beq j id with
  | true =>
   obtain rfl := beq_true hj
   simp only
   rw [ih]
   split
   ·rfl
   ·rename_i hne
    have : Nat.beq i j = false:=by
     cases hb : Nat.beq i j with
     | false=>rfl
     | true=>exact absurd (beq_true hb) hne
    simp only [getL,this]
  | false =>
   simp only [getL]
   cases hb : Nat.beq i j with
   | true =>
    obtain rfl := beq_true hb
    simp only
    rw [if_neg (fun e=>by subst e; rw [show Nat.beq i i = true from Nat.beq_refl i] at hj; cases hj)]
   | false=>simp only; exact ih
theorem blksI_get {id : Nat} : ∀ {H : List (Nat × Blk)},blksI id H = true→∀ {i : Nat} {b : Blk},i ≠ id→getL H i = some b→cellsI id b.cells = true
 | [],_,i,b,_,hb=>by cases hb
 | (j,c) :: H,h,i,b,hne,hb=>by
  simp only [getL] at hb
  simp only [blksI] at h
  cases hj : Nat.beq j id with
  | true =>
   rw [hj] at h
   obtain rfl := beq_true hj
   have : Nat.beq i j = false:=by
    cases hb : Nat.beq i j with
    | false=>rfl
    | true=>exact absurd (beq_true hb) hne
   rw [this] at hb
   exact blksI_get h hne hb
  | false =>
   rw [hj] at h
   simp only at h
   split at h
   ·rename_i hc
    split at hb
    ·injection hb with hb; subst hb; exact hc
    ·exact blksI_get h hne hb
   ·cases h
theorem cellsI_get {id : Nat} : ∀ {l : List AV},cellsI id l = true→∀ {j : Nat} {c : AV},l[j]? = some c→c.keepI id = true
 | [],_,j,c,hc=>by simp at hc
 | x :: l,h,j,c,hc=>by
  simp only [cellsI] at h
  split at h
  ·rename_i hx
   cases j with
   | zero=>simp at hc; rw [← hc]; exact hx
   | succ j=>exact cellsI_get h (by simpa using hc)
  ·cases h
theorem flat_pure {v : AV} (h : v.flat = true) : v.pure = true:=by
 cases v <;> first | rfl | cases h
theorem keepF_I {id : Nat} {v : AV} (h : v.keepF id = true) : v.keepI id = true:=by
 cases v <;> first | exact h | exact flat_pure h
theorem rep_keepI {id : Nat} {u : Value} {v : AV} (h : Rep g w u v) (hv : v.keepI id = true) (hr : ∀ B i,i ≠ id→g.role B = .h i→g'.role B = .h i) (hp : ∀ B,g.pub B ≤ g'.pub B) : Rep g' w u v:=by
 cases v with
 | ptr i off =>
  obtain ⟨B,hB,rfl⟩ := rep_ptr h
  have hne : i ≠ id := fun e=>by subst e; simp [AV.keepI] at hv
  exact .ptr B i off (hr B i hne hB)
 | arr i off len z =>
  obtain ⟨B,cap,hB,rfl,hcap⟩ := rep_arr h
  have hne : i ≠ id := fun e=>by subst e; simp [AV.keepI] at hv
  exact .arr B i off len cap z (hr B i hne hB) hcap
 | _=>exact h.pure hv g' hp
theorem Rel.frz (h : Rel g0 w0 Ex g S a w) (hf : Fresh0 g0 w0 Ex) {s id off len : Nat} {f : Fl} {b : Blk} (hs : S.slot s = .val (.arr id off len 1) f) (hb : S.H id = some b) (hle : off + len ≤ b.cells.length) (hfl : flatL b.cells = true) (hbl : blksI id S.H = true) :
  Good g0 w0 Ex ((⟨S.sl.map (Slot.without id),[],remH id S.H,S.nx,[]⟩ : St).put s (.val (.vs 1 false ((b.cells.drop off).take len)) .no)) a w:=by
 have h1 := (h.slotv hs).1
 obtain ⟨B,cap,hB,hu,hcap⟩ := rep_arr h1
 obtain ⟨B',hB',⟨us,e,hheap,hone,hrl⟩,_⟩ := h.h.blk id b hb
 obtain rfl := h.inv.injh B B' id hB hB'
 have hBlt := heap_lt hheap
 have hw0 : w0.heap.size ≤ B:=by
  rcases h.fr.role B (by rw [hB]; simp) with h1 | h1
  ·exact h1
  ·exact absurd h1 (hf.2 B)
 let g1 : G := ⟨fun c=>if c = B then .ext else g.role c,fun c=>if c = B then off + len else g.pub c⟩
 have r1 : ∀ c,g1.role c = if c = B then .ext else g.role c := fun _=>rfl
 have p1 : ∀ c,g1.pub c = if c = B then off + len else g.pub c := fun _=>rfl
 have hp : ∀ c,g.pub c ≤ g1.pub c := fun c=>by
  rw [p1]
  split
  ·rename_i hc; rw [hc,h.inv.ph B id hB]; exact Nat.zero_le _
  ·exact Nat.le_refl _
 have hr : ∀ c i,i ≠ id→g.role c = .h i→g1.role c = .h i := fun c i hne hc=>by
  rw [r1,if_neg (fun e=>by subst e; rw [hB] at hc; injection hc with hc; exact hne hc.symm)]
  exact hc
 have back : ∀ c,g1.role c ≠ .ext→c ≠ B∧g1.role c = g.role c := fun c hc=>by
  rw [r1] at hc ⊢
  split
  ·rename_i he; rw [if_pos he] at hc; exact absurd rfl hc
  ·rename_i he; exact ⟨he,rfl⟩
 have hvals : RepL g1 w ((us.drop off).take len) ((b.cells.drop off).take len):=by
  have := hrl.cut hle
  refine ⟨this.1,fun j u c hu hc=>rep_flat (this.2 j u c hu hc) ?_ _ _⟩
  rw [List.getElem?_take] at hc
  split at hc
  ·rw [List.getElem?_drop] at hc; exact flat_mem hfl hc
  ·cases hc
 have hfl2 : flatL ((b.cells.drop off).take len) = true:=by
  have key : ∀ (l : List AV),(∀ x ∈ l,x.flat = true)→flatL l = true:=by
   intro l
   induction l with
   | nil=>intro _; rfl
   | cons x l ih=>intro hx; simp only [flatL,hx x (by simp)]; exact ih fun y hy=>hx y (by simp [hy])
  refine key _ fun x hx=>?_
  obtain ⟨j,hj⟩ := List.mem_iff_getElem?.1 (List.mem_of_mem_drop (List.mem_of_mem_take hx))
  exact flat_mem hfl hj
 have hlen2 : ((b.cells.drop off).take len).length = len := by simp; omega
 have hrep : Rep g1 w (a.tmps.getD s undef) (.vs 1 false ((b.cells.drop off).take len)):=by
  rw [show a.tmps.getD s undef = a.eval (.tmp s) from rfl,hu]
  have := Rep.vs (g := g1) (w := w) B off cap 1 false ((b.cells.drop off).take len) ((us.drop off).take len) (by rw [flat_cells hfl2]; exact hvals.1)
   (fun x hx=>by
    obtain ⟨j,hj⟩ := List.mem_iff_getElem?.1 hx
    have := flat_mem hfl2 hj
    cases x <;> first | rfl | cases this) (by simp) (by rw [hlen2]; exact hcap)
   (fun j u hu=>by
    rw [List.getElem?_take] at hu
    split at hu
    ·rename_i hj
     rw [List.getElem?_drop] at hu
     refine ⟨?_,by rw [p1,if_pos rfl]; omega,hone (off + j) u (by omega) hu⟩
     simp [World.cell?,hheap,hu]
    ·cases hu) (by rw [flat_cells hfl2]; exact hvals.2)
  rw [hlen2] at this
  exact this
 have hbase : Rel g0 w0 Ex g1 (⟨S.sl.map (Slot.without id),[],remH id S.H,S.nx,[]⟩ : St) a w:=by
  refine ⟨⟨fun c hc=>?_,fun c i hc=>?_,fun c d hc=>?_,fun c c' i k1 k2=>?_,fun c c' d k1 k2=>?_⟩,⟨fun i c hc=>?_,fun c i hc=>?_⟩,fun d c hc=>(by cases hc),fun d c hc=>(by cases hc),?_,fun t=>?_,?_,h.nodef⟩
  ·rw [r1,p1,if_neg (by omega),if_neg (by omega)]
   exact h.inv.new c hc
  ·obtain ⟨k1,k2⟩ := back c (by rw [hc]; simp)
   rw [p1,if_neg k1]
   exact h.inv.ph c i (k2 ▸ hc)
  ·obtain ⟨k1,k2⟩ := back c (by rw [hc]; simp)
   rw [p1,if_neg k1]
   exact h.inv.pl c d (k2 ▸ hc)
  ·obtain ⟨_,k3⟩ := back c (by rw [k1]; simp)
   obtain ⟨_,k4⟩ := back c' (by rw [k2]; simp)
   exact h.inv.injh c c' i (k3 ▸ k1) (k4 ▸ k2)
  ·obtain ⟨_,k3⟩ := back c (by rw [k1]; simp)
   obtain ⟨_,k4⟩ := back c' (by rw [k2]; simp)
   exact h.inv.injl c c' d (k3 ▸ k1) (k4 ▸ k2)
  ·have hc' : getL (remH id S.H) i = some c := hc
   have eR := getL_remH id S.H i
   rw [eR] at hc'
   split at hc'
   ·cases hc'
   ·rename_i hne
    obtain ⟨C,hC,⟨us',e',k1,k2,k3⟩,k4⟩ := h.h.blk i c hc'
    have hCB : C ≠ B := fun e=>by subst e; rw [hB] at hC; injection hC with hC; exact hne hC.symm
    have hci := blksI_get hbl hne hc'
    refine ⟨C,hr C i hne hC,⟨us',e',k1,k2,k3.1,fun j u x hu hx=>rep_keepI (k3.2 j u x hu hx) (cellsI_get hci hx) hr hp⟩,fun o ho u v hu hv=>?_⟩
    have := k4 o ho u v hu hv
    cases v with
    | vs sz tg l =>
     rcases this with k5 | k5 | ⟨D,n,cp,ud,ed,k5,k6,k7,k8,k9,k10⟩
     ·exact .inl k5
     ·exact .inr (.inl k5)
     ·have hDB : D ≠ B := fun e=>by subst e; rw [hB] at k6; cases k6
      exact .inr (.inr ⟨D,n,cp,ud,ed,k5,by rw [r1,if_neg hDB]; exact k6,k7,k8,k9,by rw [p1,if_neg hDB]; exact k10⟩)
    | _=>trivial
  ·obtain ⟨k1,k2⟩ := back c (by rw [hc]; simp)
   rw [k2] at hc
   show getL (remH id S.H) i ≠ none
   have eR := getL_remH id S.H i
   rw [eR,if_neg (fun e=>by subst e; exact k1 (h.inv.injh c B i hc hB))]
   exact h.h.lt c i hc
  ·show (S.sl.map _).length = _
   rw [List.length_map]; exact h.len
  ·show SlotRel g1 _ a w t (nthS (S.sl.map (Slot.without id)) t)
   rw [nthS_map _ rfl]
   have e0 : nthS S.sl t = S.slot t := rfl
   have hst' := h.sl t
   rw [e0]
   cases hst : S.slot t with
   | und=>trivial
   | lp d o=>trivial
   | mp d=>trivial
   | val v f =>
    rw [hst] at hst'
    simp only [Slot.without]
    split
    ·rename_i hv
     exact ⟨rep_keepI hst'.1 (keepF_I hv) hr hp,trivial⟩
    ·trivial
  ·refine ⟨⟨fun c i hc=>?_,fun c=>Nat.le_trans (h.fr.ext.2 c) (hp c),h.fr.ext.3⟩,h.fr.os,h.fr.tape,h.fr.output,h.fr.size,fun c hc hx=>?_,fun c hc=>?_⟩
   ·have hcB : c ≠ B := fun e=>by
     subst e
     rw [(hf.1.new c hw0).1] at hc
     cases hc
    rw [r1,if_neg hcB]
    exact h.fr.ext.1 c i hc
   ·rw [p1,if_neg (by omega)]
    exact h.fr.same c hc hx
   ·obtain ⟨_,k2⟩ := back c hc
    exact h.fr.role c (k2 ▸ hc)
 refine ⟨g1,hbase.reslot rfl rfl rfl rfl (by show (setS _ s _).length = _; rw [setS_length]) fun t=>?_⟩
 rw [slot_put]
 split
 ·rename_i ht
  exact .inr (.inr ⟨_,rfl,by rw [ht.1]; exact hrep⟩)
 ·exact .inl rfl
theorem getL_blkW (id : Nat) : ∀ (L : List (Nat × Blk)) (i : Nat),getL (L.map (blkW id)) i = (getL L i).map fun b=>⟨b.cells.map (wI id),b.free⟩
 | [],i=>rfl
 | (d,b) :: l,i=>by
  simp only [List.map_cons,blkW,getL]
  cases Nat.beq i d with
  | true=>rfl
  | false=>exact getL_blkW id l i
theorem Rel.frzN (h : Rel g0 w0 Ex g S a w) (hf : Fresh0 g0 w0 Ex) {s id off len z : Nat} {f : Fl} {b : Blk} (hz : 0 < z) (hs : S.slot s = .val (.arr id off len z) f) (hb : S.H id = some b) (hle : off + len * z ≤ b.cells.length) (hfl : flatL b.cells = true) :
  Good g0 w0 Ex ((⟨S.sl.map (Slot.without id),[],(remH id S.H).map (blkW id),S.nx,[]⟩ : St).put s (.val (.vs z false (chunks true z len ((b.cells.drop off).take (len * z)))) .no)) a w:=by
 have h1 := (h.slotv hs).1
 obtain ⟨B,cap,hB,hu,hcap⟩ := rep_arr h1
 obtain ⟨B',hB',⟨us,e,hheap,hone,hrl⟩,_⟩ := h.h.blk id b hb
 obtain rfl := h.inv.injh B B' id hB hB'
 have hBlt := heap_lt hheap
 have hw0 : w0.heap.size ≤ B:=by
  rcases h.fr.role B (by rw [hB]; simp) with h1 | h1
  ·exact h1
  ·exact absurd h1 (hf.2 B)
 let g1 : G := ⟨fun c=>if c = B then .ext else g.role c,fun c=>if c = B then off + len * z else g.pub c⟩
 have r1 : ∀ c,g1.role c = if c = B then .ext else g.role c := fun _=>rfl
 have p1 : ∀ c,g1.pub c = if c = B then off + len * z else g.pub c := fun _=>rfl
 have hp : ∀ c,g.pub c ≤ g1.pub c := fun c=>by
  rw [p1]
  split
  ·rename_i hc; rw [hc,h.inv.ph B id hB]; exact Nat.zero_le _
  ·exact Nat.le_refl _
 have hr : ∀ c i,i ≠ id→g.role c = .h i→g1.role c = .h i := fun c i hne hc=>by
  rw [r1,if_neg (fun e=>by subst e; rw [hB] at hc; injection hc with hc; exact hne hc.symm)]
  exact hc
 have back : ∀ c,g1.role c ≠ .ext→c ≠ B∧g1.role c = g.role c := fun c hc=>by
  rw [r1] at hc ⊢
  split
  ·rename_i he; rw [if_pos he] at hc; exact absurd rfl hc
  ·rename_i he; exact ⟨he,rfl⟩
 have hvals : RepL g1 w ((us.drop off).take (len * z)) ((b.cells.drop off).take (len * z)):=by
  have := hrl.cut hle
  refine ⟨this.1,fun j u c hu hc=>rep_flat (this.2 j u c hu hc) ?_ _ _⟩
  rw [List.getElem?_take] at hc
  split at hc
  ·rw [List.getElem?_drop] at hc; exact flat_mem hfl hc
  ·cases hc
 have hfl2 : flatL ((b.cells.drop off).take (len * z)) = true:=by
  have key : ∀ (l : List AV),(∀ x ∈ l,x.flat = true)→flatL l = true:=by
   intro l
   induction l with
   | nil=>intro _; rfl
   | cons x l ih=>intro hx; simp only [flatL,hx x (by simp)]; exact ih fun y hy=>hx y (by simp [hy])
  refine key _ fun x hx=>?_
  obtain ⟨j,hj⟩ := List.mem_iff_getElem?.1 (List.mem_of_mem_drop (List.mem_of_mem_take hx))
  exact flat_mem hfl hj
 have hlen2 : ((b.cells.drop off).take (len * z)).length = len * z := by simp; omega
 obtain ⟨c1,c2,c3⟩ := chunks_cells (ag := true) hz (fun h=>by cases h) len ((b.cells.drop off).take (len * z)) hlen2 (fun x hx l e=>by
  obtain ⟨j,hj⟩ := List.mem_iff_getElem?.1 hx
  have := flat_mem hfl2 hj
  subst e
  cases this)
 have hrep : Rep g1 w (a.tmps.getD s undef) (.vs z false (chunks true z len ((b.cells.drop off).take (len * z)))):=by
  rw [show a.tmps.getD s undef = a.eval (.tmp s) from rfl,hu]
  have := Rep.vs (g := g1) (w := w) B off cap z false (chunks true z len ((b.cells.drop off).take (len * z))) ((us.drop off).take (len * z)) (by rw [c1]; exact hvals.1)
   c3 (by simp) (by rw [c2]; exact hcap)
   (fun j u hu=>by
    rw [List.getElem?_take] at hu
    split at hu
    ·rename_i hj
     rw [List.getElem?_drop] at hu
     refine ⟨?_,by rw [p1,if_pos rfl]; omega,hone (off + j) u (by omega) hu⟩
     simp [World.cell?,hheap,hu]
    ·cases hu) (by rw [c1]; exact hvals.2)
  rw [c2] at this
  exact this
 have hbase : Rel g0 w0 Ex g1 (⟨S.sl.map (Slot.without id),[],(remH id S.H).map (blkW id),S.nx,[]⟩ : St) a w:=by
  refine ⟨⟨fun c hc=>?_,fun c i hc=>?_,fun c d hc=>?_,fun c c' i k1 k2=>?_,fun c c' d k1 k2=>?_⟩,⟨fun i c hc=>?_,fun c i hc=>?_⟩,fun d c hc=>(by cases hc),fun d c hc=>(by cases hc),?_,fun t=>?_,?_,h.nodef⟩
  ·rw [r1,p1,if_neg (by omega),if_neg (by omega)]
   exact h.inv.new c hc
  ·obtain ⟨k1,k2⟩ := back c (by rw [hc]; simp)
   rw [p1,if_neg k1]
   exact h.inv.ph c i (k2 ▸ hc)
  ·obtain ⟨k1,k2⟩ := back c (by rw [hc]; simp)
   rw [p1,if_neg k1]
   exact h.inv.pl c d (k2 ▸ hc)
  ·obtain ⟨_,k3⟩ := back c (by rw [k1]; simp)
   obtain ⟨_,k4⟩ := back c' (by rw [k2]; simp)
   exact h.inv.injh c c' i (k3 ▸ k1) (k4 ▸ k2)
  ·obtain ⟨_,k3⟩ := back c (by rw [k1]; simp)
   obtain ⟨_,k4⟩ := back c' (by rw [k2]; simp)
   exact h.inv.injl c c' d (k3 ▸ k1) (k4 ▸ k2)
  ·have hc' : getL ((remH id S.H).map (blkW id)) i = some c := hc
   rw [getL_blkW,getL_remH id S.H i] at hc'
   split at hc'
   ·cases hc'
   ·rename_i hne
    cases hc0 : getL S.H i with
    | none=>rw [hc0] at hc'; cases hc'
    | some c0 =>
     rw [hc0] at hc'
     injection hc' with hc'
     subst hc'
     obtain ⟨C,hC,⟨us',e',k1,k2,k3⟩,k4⟩ := h.h.blk i c0 hc0
     have hCB : C ≠ B := fun e=>by subst e; rw [hB] at hC; injection hC with hC; exact hne hC.symm
     have hmap : ∀ (j : Nat) (x : AV),(c0.cells.map (wI id))[j]? = some x→x = .undef ∨ (x.keepI id = true∧c0.cells[j]? = some x):=by
      intro j x hx
      rw [List.getElem?_map] at hx
      cases hx0 : c0.cells[j]? with
      | none=>rw [hx0] at hx; cases hx
      | some x0 =>
       rw [hx0] at hx
       injection hx with hx
       unfold wI at hx
       split at hx
       ·rename_i hk; subst hx; exact .inr ⟨hk,rfl⟩
       ·exact .inl hx.symm
     refine ⟨C,hr C i hne hC,⟨us',e',k1,by rw [List.length_map]; exact k2,by rw [List.length_map]; exact k3.1,fun j u x hu hx=>?_⟩,fun o ho u v hu hv=>?_⟩
     ·rcases hmap j x hx with rfl | ⟨hk,hx0⟩
      ·exact .undef _
      ·exact rep_keepI (k3.2 j u x hu hx0) hk hr hp
     ·rcases hmap o v hv with rfl | ⟨_,hv0⟩
      ·trivial
      ·have := k4 o ho u v hu hv0
       cases v with
       | vs sz tg l =>
        rcases this with k5 | k5 | ⟨D,n,cp,ud,ed,k5,k6,k7,k8,k9,k10⟩
        ·exact .inl k5
        ·exact .inr (.inl k5)
        ·have hDB : D ≠ B := fun e=>by subst e; rw [hB] at k6; cases k6
         exact .inr (.inr ⟨D,n,cp,ud,ed,k5,by rw [r1,if_neg hDB]; exact k6,k7,k8,k9,by rw [p1,if_neg hDB]; exact k10⟩)
       | _=>trivial
  ·obtain ⟨k1,k2⟩ := back c (by rw [hc]; simp)
   rw [k2] at hc
   show getL ((remH id S.H).map (blkW id)) i ≠ none
   rw [getL_blkW,getL_remH id S.H i,if_neg (fun e=>by subst e; exact k1 (h.inv.injh c B i hc hB))]
   have := h.h.lt c i hc
   have this' : getL S.H i ≠ none := this
   cases hx : getL S.H i with
   | none=>exact absurd hx this'
   | some _=>simp
  ·show (S.sl.map _).length = _
   rw [List.length_map]; exact h.len
  ·show SlotRel g1 _ a w t (nthS (S.sl.map (Slot.without id)) t)
   rw [nthS_map _ rfl]
   have e0 : nthS S.sl t = S.slot t := rfl
   have hst' := h.sl t
   rw [e0]
   cases hst : S.slot t with
   | und=>trivial
   | lp d o=>trivial
   | mp d=>trivial
   | val v f =>
    rw [hst] at hst'
    simp only [Slot.without]
    split
    ·rename_i hv
     exact ⟨rep_keepI hst'.1 (keepF_I hv) hr hp,trivial⟩
    ·trivial
  ·refine ⟨⟨fun c i hc=>?_,fun c=>Nat.le_trans (h.fr.ext.2 c) (hp c),h.fr.ext.3⟩,h.fr.os,h.fr.tape,h.fr.output,h.fr.size,fun c hc hx=>?_,fun c hc=>?_⟩
   ·have hcB : c ≠ B := fun e=>by
     subst e
     rw [(hf.1.new c hw0).1] at hc
     cases hc
    rw [r1,if_neg hcB]
    exact h.fr.ext.1 c i hc
   ·rw [p1,if_neg (by omega)]
    exact h.fr.same c hc hx
   ·obtain ⟨_,k2⟩ := back c hc
    exact h.fr.role c (k2 ▸ hc)
 refine ⟨g1,hbase.reslot rfl rfl rfl rfl (by show (setS _ s _).length = _; rw [setS_length]) fun t=>?_⟩
 rw [slot_put]
 split
 ·rename_i ht
  exact .inr (.inr ⟨_,rfl,by rw [ht.1]; exact hrep⟩)
 ·exact .inl rfl
theorem frzAll_ok {imp : Bool} (hf : imp = false→Fresh0 g0 w0 Ex) {id : Nat} : ∀ {l : List (Nat × Nat)} {S : St} {k : St→Option R},frzAll imp l id S k = some r→Good g0 w0 Ex S a w→∃ S',Good g0 w0 Ex S' a w∧k S' = some r
 | [],S,k,h,hg=>⟨S,hg,h⟩
 | (q,s) :: l,S,k,h,hg=>by
  simp only [frzAll] at h
  split at h
  ·split at h
   ·cases h
   ·rename_i himp
    unfold St.frz at h
    split at h
    ·rename_i v f hs
     split at h
     ·rename_i i off len z
      obtain ⟨b,hb,h2⟩ := bind_some' h
      obtain ⟨g,hg⟩ := hg
      split at h2
      ·rename_i h5
       obtain ⟨h3,h4⟩ := br_left h2
       rw [Bool.and_eq_true,Bool.and_eq_true] at h3
       obtain ⟨h6,h7,h8⟩ := h3
       obtain rfl := beq_true h5
       exact frzAll_ok hf h4 (hg.frz (hf rfl) hs hb (ble_true h6) h7 h8)
      ·obtain ⟨h3,h4⟩ := br_left h2
       rw [Bool.and_eq_true,Bool.and_eq_true] at h3
       obtain ⟨h5,h6,h7⟩ := h3
       exact frzAll_ok hf h4 (hg.frzN (hf rfl) (by simpa [Nat.blt_eq] using h5) hs hb (ble_true h6) h7)
     ·cases h
    ·cases h
  ·exact frzAll_ok hf h hg
end
end Go.Vai
end
section
namespace Go.Vai
section
variable {g0 : G} {w0 : World} {Ex : Nat→Prop} {g g' : G} {S : St} {a : Act} {w w' : World} {R : Type} {r : R}
theorem idxN_mem : ∀ {π : List (Nat × Nat)} {o n : Nat},idxN π o = some n→(o,n) ∈ π
 | [],o,n,h=>by cases h
 | (p,q) :: π,o,n,h=>by
  simp only [idxN] at h
  split at h
  ·rename_i hb
   injection h with h
   obtain rfl := beq_true hb
   subst h
   exact List.mem_cons_self
  ·exact List.mem_cons_of_mem _ (idxN_mem h)
theorem nodupN_not {a : Nat} {l : List Nat} (h : nodupN (a :: l) = true) : a ∉ l∧nodupN l = true:=by
 simp only [nodupN] at h
 split at h
 ·cases h
 ·rename_i hm
  exact ⟨fun ha=>absurd (memN_iff.2 ha) (by rw [hm]; simp),h⟩
theorem fstN_mem : ∀ {π : List (Nat × Nat)} {o n : Nat},(o,n) ∈ π→o ∈ fstN π
 | [],_,_,h=>by cases h
 | (p,q) :: π,o,n,h=>by
  rcases List.mem_cons.1 h with h | h
  ·cases h; exact List.mem_cons_self
  ·exact List.mem_cons_of_mem _ (fstN_mem h)
theorem sndN_mem : ∀ {π : List (Nat × Nat)} {o n : Nat},(o,n) ∈ π→n ∈ sndN π
 | [],_,_,h=>by cases h
 | (p,q) :: π,o,n,h=>by
  rcases List.mem_cons.1 h with h | h
  ·cases h; exact List.mem_cons_self
  ·exact List.mem_cons_of_mem _ (sndN_mem h)
theorem sndN_ex : ∀ {π : List (Nat × Nat)} {n : Nat},n ∈ sndN π→∃ o,(o,n) ∈ π
 | [],_,h=>by cases h
 | (p,q) :: π,n,h=>by
  rcases List.mem_cons.1 h with e | e
  ·exact ⟨p,by rw [e]; exact List.mem_cons_self⟩
  ·obtain ⟨o,ho⟩ := sndN_ex e
   exact ⟨o,List.mem_cons_of_mem _ ho⟩
theorem idxN_of : ∀ {π : List (Nat × Nat)} {o n : Nat},nodupN (fstN π) = true→(o,n) ∈ π→idxN π o = some n
 | [],_,_,_,h=>by cases h
 | (p,q) :: π,o,n,hn,h=>by
  obtain ⟨h1,h2⟩ := nodupN_not hn
  simp only [idxN]
  rcases List.mem_cons.1 h with h | h
  ·cases h
   rw [show Nat.beq p p = true from Nat.beq_refl p]
  ·have hne : Nat.beq p o = false:=by
    cases hb : Nat.beq p o with
    | false=>rfl
    | true =>
     obtain rfl := beq_true hb
     exact absurd (fstN_mem h) h1
   rw [hne]
   exact idxN_of h2 h
theorem snd_inj : ∀ {π : List (Nat × Nat)} {o o' n : Nat},nodupN (sndN π) = true→(o,n) ∈ π→(o',n) ∈ π→o = o'
 | [],_,_,_,_,h,_=>by cases h
 | (p,q) :: π,o,o',n,hn,h,h'=>by
  obtain ⟨h1,h2⟩ := nodupN_not hn
  rcases List.mem_cons.1 h with h | h
  ·cases h
   rcases List.mem_cons.1 h' with h' | h'
   ·cases h'; rfl
   ·exact absurd (sndN_mem h') h1
  ·rcases List.mem_cons.1 h' with h' | h'
   ·cases h'; exact absurd (sndN_mem h) h1
   ·exact snd_inj h2 h h'
theorem cellsN_get : ∀ {l : List AV},cellsN l = true→∀ {j : Nat} {c : AV},l[j]? = some c→c.okN = true
 | [],_,j,c,hc=>by simp at hc
 | x :: l,h,j,c,hc=>by
  simp only [cellsN] at h
  split at h
  ·rename_i hx
   cases j with
   | zero=>simp at hc; rw [← hc]; exact hx
   | succ j=>exact cellsN_get h (by simpa using hc)
  ·cases h
theorem slotsN_get : ∀ {l : List Slot},slotsN l = true→∀ {t : Nat} {v : AV} {f : Fl},nthS l t = .val v f→v.okN = true
 | [],_,t,v,f,hc=>by cases hc
 | x :: l,h,t,v,f,hc=>by
  simp only [slotsN] at h
  split at h
  ·rename_i hx
   cases t with
   | zero =>
    have hc' : x = .val v f := hc
    rw [hc'] at hx
    exact hx
   | succ t=>exact slotsN_get h (t := t) hc
  ·cases h
theorem nrmH_spec {π : List (Nat × Nat)} {H : Hp} : ∀ {l : List (Nat × Nat)} {acc : Hp} {k : Hp→Option R},nrmH π H l acc k = some r→nodupN (sndN l) = true→∃ H' : Hp,k H' = some r ∧
  (∀ o n,(o,n) ∈ l→∃ b,H o = some b∧cellsN b.cells = true∧H' n = some ⟨b.cells.map (renV π),b.free⟩)∧∀ i,i ∉ sndN l→H' i = acc i
 | [],acc,k,h,_=>⟨acc,h,fun o n hm=>(by cases hm),fun i _=>rfl⟩
 | (o,n) :: l,acc,k,h,hn=>by
  obtain ⟨h1,h2⟩ := nodupN_not hn
  simp only [nrmH] at h
  obtain ⟨b,hb,h⟩ := bind_some' h
  obtain ⟨hc,h⟩ := br_left h
  obtain ⟨H',hk,hm,hr⟩ := nrmH_spec h h2
  refine ⟨H',hk,fun o' n' hon=>?_,fun i hi=>?_⟩
  ·rcases List.mem_cons.1 hon with e | e
   ·cases e
    exact ⟨b,hb,hc,by rw [hr n h1,Hp_set,if_pos rfl]⟩
   ·exact hm o' n' e
  ·rw [hr i (fun h=>hi (List.mem_cons_of_mem _ h)),Hp_set,if_neg (fun e : i = n=>hi (e ▸ List.mem_cons_self))]
def renRole (π : List (Nat × Nat)) : Role→Role
 | .h id=>match idxN π id with
  | some n=>.h n
  | none=>.ext
 | .c (.h id off)=>match idxN π id with
  | some n=>.c (.h n off)
  | none=>.ext
 | x=>x
theorem rep_ren {π : List (Nat × Nat)} {u : Value} {v : AV} (h : Rep g w u v) (hv : v.okN = true) (hr : ∀ B,g'.role B = renRole π (g.role B)) (hp : ∀ B,g.pub B ≤ g'.pub B) : Rep g' w u (renV π v):=by
 cases v with
 | ptr i off =>
  obtain ⟨B,hB,rfl⟩ := rep_ptr h
  simp only [renV]
  cases hi : idxN π i with
  | none=>exact .undef _
  | some n=>exact .ptr B n off (by rw [hr,hB]; simp only [renRole,hi])
 | arr i off len z =>
  obtain ⟨B,cap,hB,rfl,hcap⟩ := rep_arr h
  simp only [renV]
  cases hi : idxN π i with
  | none=>exact .undef _
  | some n=>exact .arr B n off len cap z (by rw [hr,hB]; simp only [renRole,hi]) hcap
 | _=>exact h.pure hv g' hp
theorem renRole_h {π : List (Nat × Nat)} {x : Role} {n : Nat} (h : renRole π x = .h n) : ∃ o,x = .h o∧idxN π o = some n:=by
 unfold renRole at h
 split at h
 ·rename_i id
  cases hi : idxN π id with
  | none=>rw [hi] at h; cases h
  | some m=>rw [hi] at h; injection h with h; exact ⟨id,rfl,by rw [hi,h]⟩
 ·rename_i id off
  cases hi : idxN π id with
  | none=>rw [hi] at h; cases h
  | some m=>rw [hi] at h; cases h
 ·rename_i h1 h2
  exact absurd h (h1 n)
theorem renRole_l {π : List (Nat × Nat)} {x : Role} {n : Nat} (h : renRole π x = .l n) : x = .l n:=by
 unfold renRole at h
 split at h
 ·rename_i id
  cases hi : idxN π id <;> (rw [hi] at h; cases h)
 ·rename_i id off
  cases hi : idxN π id <;> (rw [hi] at h; cases h)
 ·exact h
theorem Rel.nrm (h : Rel g0 w0 Ex g S a w) (hf : Fresh0 g0 w0 Ex) {π : List (Nat × Nat)} {H' : Hp} (nx : Nat) (h1 : nodupN (fstN π) = true) (h2 : nodupN (sndN π) = true) (h3 : slotsN S.sl = true)
  (hm : ∀ o n,(o,n) ∈ π→∃ b,S.H o = some b∧cellsN b.cells = true∧H' n = some ⟨b.cells.map (renV π),b.free⟩) (hr : ∀ i,i ∉ sndN π→H' i = none) : Good g0 w0 Ex ⟨S.sl.map (renS π),[],H',nx,[]⟩ a w:=by
 let g1 : G := ⟨fun c=>renRole π (g.role c),g.pub⟩
 have r1 : ∀ c,g1.role c = renRole π (g.role c) := fun _=>rfl
 have noh : ∀ c,c < w0.heap.size→g.role c ≠ .ext→False := fun c hc hne=>by
  rcases h.fr.role c hne with h4 | h4
  ·omega
  ·exact hf.2 c h4
 refine ⟨g1,⟨fun c hc=>?_,fun c i hc=>?_,fun c d hc=>?_,fun c c' i k1 k2=>?_,fun c c' d k1 k2=>?_⟩,⟨fun i c hc=>?_,fun c i hc=>?_⟩,fun d c hc=>(by cases hc),fun d c hc=>(by cases hc),?_,fun t=>?_,?_,h.nodef⟩
 ·exact ⟨by rw [r1,(h.inv.new c hc).1]; rfl,(h.inv.new c hc).2⟩
 ·obtain ⟨o,h4,_⟩ := renRole_h ((r1 c).symm.trans hc)
  exact h.inv.ph c o h4
 ·exact h.inv.pl c d (renRole_l ((r1 c).symm.trans hc))
 ·obtain ⟨o,h4,h5⟩ := renRole_h ((r1 c).symm.trans k1)
  obtain ⟨o',h6,h7⟩ := renRole_h ((r1 c').symm.trans k2)
  obtain rfl := snd_inj h2 (idxN_mem h5) (idxN_mem h7)
  exact h.inv.injh c c' o h4 h6
 ·exact h.inv.injl c c' d (renRole_l ((r1 c).symm.trans k1)) (renRole_l ((r1 c').symm.trans k2))
 ·have hc' : H' i = some c := hc
  by_cases hi : i ∈ sndN π
  ·obtain ⟨o,ho⟩ := sndN_ex hi
   obtain ⟨b,hb,hcb,hbn⟩ := hm o i ho
   rw [hc'] at hbn
   injection hbn with hbn
   subst hbn
   obtain ⟨C,hC,⟨us,e,k1,k2,k3⟩,k4⟩ := h.h.blk o b hb
   have hidx := idxN_of h1 ho
   refine ⟨C,by rw [r1,hC]; simp only [renRole,hidx],⟨us,e,k1,by rw [List.length_map]; exact k2,by rw [List.length_map]; exact k3.1,fun j u x hu hx=>?_⟩,fun off hoff u v hu hv=>?_⟩
   ·rw [List.getElem?_map] at hx
    cases hx0 : b.cells[j]? with
    | none=>rw [hx0] at hx; cases hx
    | some x0 =>
     rw [hx0] at hx
     injection hx with hx
     subst hx
     exact rep_ren (k3.2 j u x0 hu hx0) (cellsN_get hcb hx0) r1 fun B=>Nat.le_refl _
   ·have hv' : (b.cells.map (renV π))[off]? = some v := hv
    rw [List.getElem?_map] at hv'
    cases hx0 : b.cells[off]? with
    | none=>rw [hx0] at hv'; cases hv'
    | some x0 =>
     rw [hx0] at hv'
     injection hv' with hv'
     have := k4 off hoff u x0 hu hx0
     cases x0 with
     | vs sz tg l =>
      subst hv'
      rcases this with k5 | k5 | ⟨D,n,cp,ud,ed,k5,k6,k7,k8,k9,k10⟩
      ·exact .inl k5
      ·exact .inr (.inl k5)
      ·exact .inr (.inr ⟨D,n,cp,ud,ed,k5,by rw [r1,k6]; simp only [renRole,hidx],k7,k8,k9,k10⟩)
     | ptr p q =>
      subst hv'
      simp only [renV]
      cases idxN π p <;> trivial
     | arr p q l z =>
      subst hv'
      simp only [renV]
      cases idxN π p <;> trivial
     | _=>subst hv'; trivial
  ·rw [hr i hi] at hc'; cases hc'
 ·obtain ⟨o,h4,h5⟩ := renRole_h ((r1 c).symm.trans hc)
  show H' i ≠ none
  obtain ⟨b,_,_,hbn⟩ := hm o i (idxN_mem h5)
  rw [hbn]; simp
 ·show (S.sl.map _).length = _
  rw [List.length_map]; exact h.len
 ·show SlotRel g1 _ a w t (nthS (S.sl.map (renS π)) t)
  rw [nthS_map _ rfl]
  have e0 : nthS S.sl t = S.slot t := rfl
  have hst' := h.sl t
  rw [e0]
  cases hst : S.slot t with
  | und=>trivial
  | lp d o=>trivial
  | mp d=>trivial
  | val v f =>
   rw [hst] at hst'
   exact ⟨rep_ren hst'.1 (slotsN_get h3 (e0.trans hst)) r1 fun B=>Nat.le_refl _,trivial⟩
 ·refine ⟨⟨fun c i hc=>?_,h.fr.ext.2,h.fr.ext.3⟩,h.fr.os,h.fr.tape,h.fr.output,h.fr.size,h.fr.same,fun c hc=>?_⟩
  ·exfalso
   have hlt : c < w0.heap.size:=by
    rcases Nat.lt_or_ge c w0.heap.size with h4 | h4
    ·exact h4
    ·rw [(hf.1.new c h4).1] at hc; cases hc
   exact noh c hlt (by rw [h.fr.ext.1 c i hc]; simp)
  ·refine h.fr.role c fun he=>hc ?_
   rw [r1,he]; rfl
theorem nrmIds_some {π0 : List (Nat × Nat)} : ∀ {l : List (Nat × Nat × Nat)} {π0 : List (Nat × Nat)} {k : List (Nat × Nat)→Option R},nrmIds S l π0 k = some r→∃ π,k π = some r
 | [],π0,k,h=>⟨π0,h⟩
 | (n,a,b) :: l,π0,k,h=>by
  unfold nrmIds at h
  split at h
  ·obtain ⟨o,_,h⟩ := bind_some' h
   exact nrmIds_some (π0 := π0) h
  ·obtain ⟨o,_,h⟩ := bind_some' h
   obtain ⟨blk,_,h⟩ := bind_some' h
   obtain ⟨v,_,h⟩ := bind_some' h
   obtain ⟨o',_,h⟩ := bind_some' h
   exact nrmIds_some (π0 := π0) h
theorem Rel.tight (h : Rel g0 w0 Ex g S a w) (hsl : ∀ t v f,S.slot t = .val v f→f = .no) {n c sz : Nat} {l : List AV} {b : Blk} (hb : S.H n = some b) (hv : b.cells[c]? = some (.vs sz true l)) :
  Rel g0 w0 Ex g { S with H := S.H.set n ⟨b.cells,insN c b.free⟩ } a w:=by
 refine ⟨h.inv,⟨fun i b' hb'=>?_,fun B i hB=>Hp_set_ne (h.h.lt B i hB)⟩,h.l,h.m,h.len,fun t=>?_,h.fr,h.nodef⟩
 ·have hb2 : (S.H.set n ⟨b.cells,insN c b.free⟩) i = some b' := hb'
  rw [Hp_set] at hb2
  split at hb2
  ·rename_i hi
   subst hi
   injection hb2 with hb2
   subst hb2
   obtain ⟨B,hB,hrep,hown⟩ := h.h.blk i b hb
   refine ⟨B,hB,hrep,fun off hoff u v hu hv'=>?_⟩
   rcases mem_insN.1 hoff with e | hoff
   ·subst e
    have hv2 : b.cells[off]? = some v := hv'
    rw [hv] at hv2
    injection hv2 with hv2
    subst hv2
    obtain ⟨us,e,k1,k2,k3⟩ := hrep
    obtain ⟨u',hu',hr⟩ := k3.get hv
    have : u' = u:=by
     simp only [World.cell?,k1] at hu
     have h4 : us.toArray[off]? = some u := hu
     have h5 : us.toArray[off]? = some u' := by simpa using hu'
     rw [h4] at h5
     injection h5 with h5
     exact h5.symm
    subst this
    exact tight_own hr g w _
   ·exact hown off hoff u v hu hv'
  ·exact h.h.blk i b' hb2
 ·have hs := h.sl t
  show SlotRel g _ a w t (S.slot t)
  cases hst : S.slot t with
  | und=>trivial
  | lp d o=>rw [hst] at hs; exact hs
  | mp d=>rw [hst] at hs; exact hs
  | val v f =>
   rw [hst] at hs
   have := hsl t v f hst
   subst this
   exact ⟨hs.1,trivial⟩
theorem tightH_ok : ∀ {ti : List (Nat × Nat)} {S : St} {k : Hp→Option R},tightH ti S.H k = some r→(∀ t v f,S.slot t = .val v f→f = .no)→Rel g0 w0 Ex g S a w→∃ H',Rel g0 w0 Ex g { S with H := H' } a w∧k H' = some r
 | [],S,k,h,_,hg=>⟨S.H,hg,h⟩
 | (n,c) :: l,S,k,h,hs,hg=>by
  simp only [tightH] at h
  obtain ⟨b,hb,h⟩ := bind_some' h
  obtain ⟨v,hv,h⟩ := bind_some' h
  cases v with
  | vs sz tg l0 =>
   simp only at h
   obtain ⟨htg,h⟩ := br_left h
   subst htg
   have hv' : b.cells[c]? = some (.vs sz true l0) := by rw [← nth_get]; exact hv
   have hg' := hg.tight hs hb hv'
   obtain ⟨H',h1,h2⟩ := tightH_ok (S := { S with H := S.H.set n ⟨b.cells,insN c b.free⟩ }) h hs hg'
   exact ⟨H',h1,h2⟩
  | _=>cases h
theorem nrmAll_ok {imp : Bool} (hf : imp = false→Fresh0 g0 w0 Ex) {id : Nat} : ∀ {l : List (Nat × Nat × List (Nat × Nat × Nat) × List (Nat × Nat))} {S : St} {k : St→Option R},nrmAll imp l id S k = some r→Good g0 w0 Ex S a w→∃ S',Good g0 w0 Ex S' a w∧k S' = some r
 | [],S,k,h,hg=>⟨S,hg,h⟩
 | (q,nx,steps,ti) :: l,S,k,h,hg=>by
  simp only [nrmAll] at h
  split at h
  ·split at h
   ·cases h
   ·unfold St.nrm at h
    obtain ⟨π,h⟩ := nrmIds_some (π0 := []) h
    obtain ⟨h1,h⟩ := br_left h
    rw [Bool.and_eq_true,Bool.and_eq_true] at h1
    obtain ⟨h1,h2,h3⟩ := h1
    obtain ⟨H',hk,hm,hr⟩ := nrmH_spec h h2
    obtain ⟨g,hg⟩ := hg
    obtain ⟨g1,hg1⟩ := hg.nrm (hf rfl) nx h1 h2 h3 hm fun i hi=>hr i hi
    obtain ⟨H2,hg2,hk2⟩ := tightH_ok hk (fun t v f hs=>by
     have hs' : nthS (S.sl.map (renS π)) t = .val v f := hs
     rw [nthS_map _ rfl] at hs'
     cases hx : nthS S.sl t with
     | val v' f'=>rw [hx] at hs'; simp only [renS,Slot.val.injEq] at hs'; exact hs'.2.symm
     | _=>rw [hx] at hs'; cases hs') hg1
    exact nrmAll_ok hf hk2 ⟨g1,hg2⟩
  ·exact nrmAll_ok hf h hg
def dropRole (m : Nat) : Role→Role
 | .h id=>match Nat.blt id m with
  | true=>.h id
  | false=>.ext
 | .c (.h id off)=>match Nat.blt id m with
  | true=>.c (.h id off)
  | false=>.ext
 | x=>x
theorem dropRole_h {m : Nat} {x : Role} {n : Nat} (h : dropRole m x = .h n) : x = .h n∧Nat.blt n m = true:=by
 unfold dropRole at h
 split at h
 ·rename_i id
  cases hb : Nat.blt id m with
  | true=>rw [hb] at h; injection h with h; subst h; exact ⟨rfl,hb⟩
  | false=>rw [hb] at h; cases h
 ·rename_i id off
  cases hb : Nat.blt id m <;> (rw [hb] at h; cases h)
 ·rename_i h1 _
  exact absurd h (h1 n)
theorem dropRole_l {m : Nat} {x : Role} {n : Nat} (h : dropRole m x = .l n) : x = .l n:=by
 unfold dropRole at h
 split at h
 ·rename_i id
  cases hb : Nat.blt id m <;> (rw [hb] at h; cases h)
 ·rename_i id off
  cases hb : Nat.blt id m <;> (rw [hb] at h; cases h)
 ·exact h
theorem slotsD_get {m : Nat} : ∀ {l : List Slot},slotsD m l = true→∀ {t : Nat} {v : AV} {f : Fl},nthS l t = .val v f→v.okD m = true
 | [],_,t,v,f,h=>by cases t <;> cases h
 | s :: l,hs,t,v,f,h=>by
  unfold slotsD at hs
  split at hs
  ·rename_i h1
   cases t with
   | zero =>
    have h : s = .val v f := h
    subst h
    exact h1
   | succ t=>exact slotsD_get hs h
  ·cases hs
theorem boxesP_get : ∀ {l : List (Nat × Blk)},boxesP l = true→∀ {d : Nat} {b : Blk},getL l d = some b→pureL b.cells = true
 | [],_,d,b,h=>by cases h
 | (e,c) :: l,hs,d,b,h=>by
  unfold boxesP at hs
  unfold getL at h
  split at hs
  ·rename_i h1
   split at h
   ·injection h with h; subst h; exact h1
   ·exact boxesP_get hs h
  ·cases hs
theorem keepH_get {m : Nat} : ∀ {l : List (Nat × Blk)} {d : Nat} {b : Blk},getL (keepH m l) d = some b→getL l d = some b∧Nat.blt d m = true ∨ False
 | [],d,b,h=>by cases h
 | (e,c) :: l,d,b,h=>by
  unfold keepH at h
  unfold getL
  cases hb : Nat.blt e m with
  | true =>
   rw [hb] at h
   simp only [getL] at h
   cases he : Nat.beq d e with
   | true =>
    rw [he] at h
    have := Nat.eq_of_beq_eq_true he
    subst this
    exact .inl ⟨h,hb⟩
   | false=>rw [he] at h; exact keepH_get h
  | false =>
   rw [hb] at h
   cases he : Nat.beq d e with
   | true =>
    have := Nat.eq_of_beq_eq_true he
    subst this
    rcases keepH_get h with ⟨_,h2⟩ | h2
    ·rw [hb] at h2; cases h2
    ·exact h2.elim
   | false=>exact keepH_get h
theorem keepH_some {m : Nat} : ∀ {l : List (Nat × Blk)} {d : Nat},Nat.blt d m = true→getL l d ≠ none→getL (keepH m l) d ≠ none
 | [],d,_,h=>absurd rfl h
 | (e,c) :: l,d,hd,h=>by
  unfold getL at h
  unfold keepH
  cases he : Nat.beq d e with
  | true =>
   have := Nat.eq_of_beq_eq_true he
   subst this
   rw [hd]
   simp only [getL,he]
   simp
  | false =>
   rw [he] at h
   cases hb : Nat.blt e m with
   | true=>simp only [getL,he]; exact keepH_some hd h
   | false=>exact keepH_some hd h
theorem rep_drop {m : Nat} {u : Value} {v : AV} (h : Rep g w u v) (hv : v.okD m = true) (hr : ∀ B,g'.role B = dropRole m (g.role B)) (hp : ∀ B,g.pub B ≤ g'.pub B) : Rep g' w u v:=by
 cases v with
 | ptr i off =>
  obtain ⟨B,hB,rfl⟩ := rep_ptr h
  have hv : Nat.blt i m = true := hv
  exact .ptr B i off (by rw [hr,hB]; simp only [dropRole,hv])
 | arr i off len z =>
  obtain ⟨B,cap,hB,rfl,hcap⟩ := rep_arr h
  have hv : Nat.blt i m = true := hv
  exact .arr B i off len cap z (by rw [hr,hB]; simp only [dropRole,hv]) hcap
 | _=>exact h.pure hv g' hp
theorem ownAV_role {p p' : Pl} {u : Value} {v : AV} (h : OwnAV g w p u v) (hr : ∀ B,g.role B = .c p→g'.role B = .c p') (hp : g'.pub = g.pub) : OwnAV g' w p' u v:=by
 cases v with
 | vs sz tg l =>
  rcases h with k | k | ⟨D,n,cp,ud,ed,k5,k6,k7,k8,k9,k10⟩
  ·exact .inl k
  ·exact .inr (.inl k)
  ·exact .inr (.inr ⟨D,n,cp,ud,ed,k5,hr D k6,k7,k8,k9,by rw [hp]; exact k10⟩)
 | _=>trivial
theorem Rel.drop (h : Rel g0 w0 Ex g S a w) (hf : Fresh0 g0 w0 Ex) {m : Nat} (hd : dropOk m S = true) : Good g0 w0 Ex (S.drop m) a w:=by
 unfold dropOk at hd
 split at hd
 ·rename_i d1
  split at hd
  ·rename_i d2
   split at hd
   ·rename_i d3
    let g1 : G := ⟨fun c=>dropRole m (g.role c),g.pub⟩
    have r1 : ∀ c,g1.role c = dropRole m (g.role c) := fun _=>rfl
    have noh : ∀ c,c < w0.heap.size→g.role c ≠ .ext→False := fun c hc hne=>by
     rcases h.fr.role c hne with h4 | h4
     ·omega
     ·exact hf.2 c h4
    refine ⟨g1,⟨fun c hc=>?_,fun c i hc=>?_,fun c d hc=>?_,fun c c' i k1 k2=>?_,fun c c' d k1 k2=>?_⟩,⟨fun i b hb=>?_,fun c i hc=>?_⟩,fun d b hb=>?_,fun d c hc=>(by cases hc),?_,fun t=>?_,?_,h.nodef⟩
    ·exact ⟨by rw [r1,(h.inv.new c hc).1]; rfl,(h.inv.new c hc).2⟩
    ·exact h.inv.ph c i (dropRole_h ((r1 c).symm.trans hc)).1
    ·exact h.inv.pl c d (dropRole_l ((r1 c).symm.trans hc))
    ·exact h.inv.injh c c' i (dropRole_h ((r1 c).symm.trans k1)).1 (dropRole_h ((r1 c').symm.trans k2)).1
    ·exact h.inv.injl c c' d (dropRole_l ((r1 c).symm.trans k1)) (dropRole_l ((r1 c').symm.trans k2))
    ·have hb' : getL (keepH m S.H) i = some b := hb
     rcases keepH_get hb' with ⟨hb1,hlt⟩ | hx
     ·obtain ⟨B,hB,⟨us,e,k1,k2,k3⟩,k4⟩ := h.h.blk i b hb1
      refine ⟨B,by rw [r1,hB]; simp only [dropRole,hlt],⟨us,e,k1,k2,k3.1,fun j u c hu hc=>(k3.2 j u c hu hc).pure (pureL_get (boxesP_get d3 hb') j c hc) g1 fun _=>Nat.le_refl _⟩,fun off hoff u v hu hv=>?_⟩
      exact ownAV_role (k4 off hoff u v hu hv) (fun D hD=>by rw [r1,hD]; simp only [dropRole,hlt]) rfl
     ·exact hx.elim
    ·obtain ⟨h4,h5⟩ := dropRole_h ((r1 c).symm.trans hc)
     exact keepH_some h5 (h.h.lt c i h4)
    ·obtain ⟨B,hB,⟨us,e,k1,k2,k3⟩,k4⟩ := h.l d b hb
     refine ⟨B,by rw [r1,hB]; rfl,⟨us,e,k1,k2,k3.1,fun j u c hu hc=>(k3.2 j u c hu hc).pure (pureL_get (boxesP_get d2 hb) j c hc) g1 fun _=>Nat.le_refl _⟩,fun off hoff u v hu hv=>?_⟩
     exact ownAV_role (k4 off hoff u v hu hv) (fun D hD=>by rw [r1,hD]; rfl) rfl
    ·show (S.sl.map _).length = _
     rw [List.length_map]; exact h.len
    ·show SlotRel g1 _ a w t (nthS (S.sl.map Slot.unlentH) t)
     rw [nthS_map _ rfl]
     have e0 : nthS S.sl t = S.slot t := rfl
     have hst' := h.sl t
     rw [e0]
     cases hst : S.slot t with
     | und=>trivial
     | lp d o =>
      rw [hst] at hst'
      obtain ⟨B,hB,hx⟩ := hst'
      exact ⟨B,by rw [r1,hB]; rfl,hx⟩
     | mp d =>
      rw [hst] at hst'
      obtain ⟨B,hB,hx⟩ := hst'
      exact ⟨B,by rw [r1,hB]; rfl,hx⟩
     | val v f =>
      rw [hst] at hst'
      have hrep := rep_drop hst'.1 (slotsD_get d1 (e0.trans hst)) r1 fun B=>Nat.le_refl _
      cases f with
      | no=>exact ⟨hrep,trivial⟩
      | own=>exact ⟨hrep,ownAV_role hst'.2 (fun D hD=>by rw [r1,hD]; rfl) rfl⟩
      | lS q =>
       refine ⟨hrep,fun v' hv'=>hst'.2 v' ?_⟩
       have hv' : nthS (S.sl.map Slot.unlentH) q = .val v' .own := hv'
       rw [nthS_map _ rfl] at hv'
       show nthS S.sl q = _
       cases hq : nthS S.sl q with
       | val v2 f2=>rw [hq] at hv'; cases f2 <;> first | exact hv' | cases hv'
       | _=>rw [hq] at hv'; cases hv'
      | lL d off =>
       refine ⟨hrep,fun b hb hoff=>?_⟩
       obtain ⟨B,hB,hx⟩ := hst'.2 b hb hoff
       exact ⟨B,by rw [r1,hB]; rfl,hx⟩
      | lH id off=>exact ⟨hrep,trivial⟩
      | comps cs=>exact ⟨hrep,fun i hi us vs ui vi h1 h2 h3 h4=>ownAV_role (hst'.2 i hi us vs ui vi h1 h2 h3 h4) (fun D hD=>by rw [r1,hD]; rfl) rfl⟩
    ·refine ⟨⟨fun c i hc=>?_,h.fr.ext.2,h.fr.ext.3⟩,h.fr.os,h.fr.tape,h.fr.output,h.fr.size,h.fr.same,fun c hc=>?_⟩
     ·exfalso
      have hlt : c < w0.heap.size:=by
       rcases Nat.lt_or_ge c w0.heap.size with h4 | h4
       ·exact h4
       ·rw [(hf.1.new c h4).1] at hc; cases hc
      exact noh c hlt (by rw [h.fr.ext.1 c i hc]; simp)
     ·refine h.fr.role c fun he=>hc ?_
      rw [r1,he]; rfl
   ·cases hd
  ·cases hd
 ·cases hd
theorem drpAll_ok {imp : Bool} (hf : imp = false→Fresh0 g0 w0 Ex) {id : Nat} : ∀ {l : List (Nat × Nat)} {S : St} {k : St→Option R},drpAll imp l id S k = some r→Good g0 w0 Ex S a w→∃ S',Good g0 w0 Ex S' a w∧k S' = some r
 | [],S,k,h,hg=>⟨S,hg,h⟩
 | (q,m) :: l,S,k,h,hg=>by
  simp only [drpAll] at h
  split at h
  ·split at h
   ·cases h
   ·obtain ⟨hd,h⟩ := br_left h
    obtain ⟨g,hg⟩ := hg
    exact drpAll_ok hf h (hg.drop (hf rfl) hd)
  ·exact drpAll_ok hf h hg
theorem behind_ok {an : Ann} (hf : an.imp = false→Fresh0 g0 w0 Ex) {id : Nat} {S : St} {k : St→Option R} (h : behind an id S k = some r) (hg : Good g0 w0 Ex S a w) : ∃ S',Good g0 w0 Ex S' a w∧k S' = some r:=by
 unfold behind at h
 obtain ⟨S1,h1,h2⟩ := frzAll_ok hf h hg
 obtain ⟨S2,h3,h4⟩ := nrmAll_ok hf h2 h1
 exact drpAll_ok hf h4 h3
end
end Go.Vai
end
section
namespace Go.Vai
section
variable {g0 : G} {w0 : World} {Ex : Nat→Prop} {g g' : G} {S : St} {a : Act} {w w' : World} {P : Program} {A : List (Nat × Ann)}
def packV : List Value→Value
 | [v]=>v
 | l=>.tuple l.toArray
def resVal (tmps : Array Value) : ResultVar→Sem Value
 | .tmp t=>pure (tmps.getD t undef)
 | .cell a t=>do loadVar t (← asAddr (tmps.getD a undef))
theorem results_eq (fn : Func) (tmps : Array Value) : results fn tmps = (do
  let vs ← fn.results.mapM (resVal tmps)
  pure (if h : vs.size = 1 then vs[0] else .tuple vs)) := rfl
theorem results_run (fn : Func) (tmps : Array Value) {us : List Value} (h : (fn.results.toList.mapM (resVal tmps)).run P w = .ok us w) :
  (results fn tmps).run P w = .ok (packV us) w:=by
 rw [results_eq,Array.mapM_eq_mapM_toList]
 simp only [Sem.run_bind,Sem.run_map,h,Result.andThen_ok,Sem.run_pure]
 match us with
 | []=>rfl
 | [t]=>rfl
 | t :: t2 :: l=>simp [packV]
theorem resVals_ok (hg : Rel g0 w0 Ex g S a w) : ∀ {rs : List ResultVar} {vs : List AV},resVals P S rs = some vs→∃ us : List Value,RepL g w us vs ∧
  (rs.mapM (resVal a.tmps)).run P w = .ok us w ∧
  (∀ (j t : Nat),rs[j]? = some (.tmp t)→us[j]? = some (a.tmps.getD t undef)∧vs[j]? = some (S.slot t).av)∧rs.length = us.length
 | [],vs,h=>by
  simp only [resVals,Option.some.injEq] at h
  subst h
  exact ⟨[],⟨rfl,by simp⟩,by simp,by simp,rfl⟩
 | .tmp t :: rs,vs,h=>by
  unfold resVals at h
  split at h
  ·rename_i v f hs
   obtain ⟨r,h1,h2⟩ := bind_some' h
   obtain ⟨us,hr,hrun,hget,hlen⟩ := resVals_ok hg h1
   injection h2 with h2
   subst h2
   have hv := (hg.slotv hs).1
   refine ⟨a.tmps.getD t undef :: us,⟨by simp [hr.1],fun j u c hu hc=>?_⟩,?_,fun j t' hj=>?_,by simp [hlen]⟩
   ·cases j with
    | zero=>simp only [List.getElem?_cons_zero,Option.some.injEq] at hu hc; subst hu hc; exact hv
    | succ j=>exact hr.2 j u c (by simpa using hu) (by simpa using hc)
   ·rw [List.mapM_cons]
    simp only [resVal,Sem.run_bind,Sem.run_pure,Result.andThen_ok,hrun]
   ·cases j with
    | zero =>
     simp only [List.getElem?_cons_zero,Option.some.injEq,ResultVar.tmp.injEq] at hj
     subst hj
     exact ⟨rfl,by rw [hs]; rfl⟩
    | succ j=>exact hget j t' (by simpa using hj)
  ·cases h
 | .cell c ty :: rs,vs,h=>by
  unfold resVals at h
  split at h
  ·rename_i d off hs
   obtain ⟨b,hb,h1⟩ := bind_some' h
   obtain ⟨ag,dd,hd,hk,hag⟩ := tAggK_some h1
   clear h h1
   have h1 := hg.sl c
   rw [hs] at h1
   obtain ⟨B,hB,hev⟩ := h1
   obtain ⟨B',hB',⟨us0,e,hheap,hone,hrl⟩,_⟩ := hg.l d b hb
   obtain rfl := hg.inv.injl B B' d hB hB'
   have hl := loadVar_sound (n := off) hd hag (blk_take hheap hone) hrl.full.part
   have fin : ∀ (u : Value) (v : AV),(loadVar ty ⟨B,0 + off,none⟩).run P w = .ok u w→Rep g w u v→((resVals P S rs).bind fun r=>some (v :: r)) = some vs→∃ us : List Value,RepL g w us vs ∧
     ((ResultVar.cell c ty :: rs).mapM (resVal a.tmps)).run P w = .ok us w ∧
     (∀ (j t : Nat),(ResultVar.cell c ty :: rs)[j]? = some (.tmp t)→us[j]? = some (a.tmps.getD t undef)∧vs[j]? = some (S.slot t).av)∧(ResultVar.cell c ty :: rs).length = us.length:=by
    intro u v hu hv hk
    rw [Nat.zero_add] at hu
    obtain ⟨r,h1,h2⟩ := bind_some' hk
    obtain ⟨us,hr,hrun,hget,hlen⟩ := resVals_ok hg h1
    injection h2 with h2
    subst h2
    refine ⟨u :: us,⟨by simp [hr.1],fun j u' c' hu' hc=>?_⟩,?_,fun j t' hj=>?_,by simp [hlen]⟩
    ·cases j with
     | zero=>simp only [List.getElem?_cons_zero,Option.some.injEq] at hu' hc; subst hu' hc; exact hv
     | succ j=>exact hr.2 j u' c' (by simpa using hu') (by simpa using hc)
    ·rw [List.mapM_cons]
     simp only [resVal,Sem.run_bind,hev,asAddr,Sem.run_pure,Result.andThen_ok,hu,hrun]
    ·cases j with
     | zero=>simp at hj
     | succ j=>exact hget j t' (by simpa using hj)
   cases ag with
   | true =>
    obtain ⟨h0,hk⟩ := br_left hk
    obtain ⟨u,hu,hrep⟩ := hl (ble_true h0)
    exact fin u _ hu hrep hk
   | false =>
    obtain ⟨c',hcc,hk⟩ := bind_some' hk
    rw [nth_get] at hcc
    obtain ⟨u,hu,hrep,_⟩ := hl c' hcc
    exact fin u _ hu hrep hk
  ·cases h
theorem resOwn_claims {rs : List ResultVar} : ∀ {rf : List Nat} {S : St} {g : G},resOwn S rs rf = true→Rel g0 w0 Ex g S a w→∃ g' S',Rel g0 w0 Ex g' S' a w∧S'.H = S.H∧S'.nx = S.nx ∧
  (∀ q x y,(∃ j,q = .r j)→OwnAV g w q x y→OwnAV g' w q x y)∧(∀ B id,g'.role B = .h id ↔ g.role B = .h id)∧g'.pub = g.pub ∧
  ∀ j ∈ rf,∃ t,rs[j]? = some (.tmp t)∧OwnAV g' w (.r j) (a.tmps.getD t undef) (S.slot t).av
 | [],S,g,_,h=>⟨g,S,h,rfl,rfl,fun _ _ _ _ h=>h,fun _ _=>Iff.rfl,rfl,by simp⟩
 | j :: l,S,g,hr,h=>by
  unfold resOwn at hr
  split at hr
  ·rename_i t ht
   have ht' : rs[j]? = some (.tmp t) := ht
   split at hr
   ·rename_i v hs
    have hlt : t < S.sl.length := nthS_lt (by show S.slot t ≠ _; rw [hs]; simp)
    have hown := (h.slotv hs).2
    have h1 := h.reflag hs (f' := .no) trivial (by simp) (by simp)
    have hnc : NoClaim (S.put t (.val v .no)) (.s t):=by
     intro v' hv'
     rw [slot_put,if_pos ⟨rfl,hlt⟩] at hv'
     injection hv' with _ e
     cases e
    obtain ⟨g1,h2,h3,h4,h5,h6,h7,_⟩ := h1.retag hnc hown (.r j)
    obtain ⟨g2,S2,h8,h9,h10,h11,h12,h13,h14⟩ := resOwn_claims hr h2
    refine ⟨g2,S2,h8,h9,h10,fun q x y hq hxy=>h11 q x y hq (h7 q x y (by obtain ⟨j',rfl⟩ := hq; simp) hxy),fun B id=>(h12 B id).trans (h4 B id),h13.trans h6,fun j' hj'=>?_⟩
    rcases List.mem_cons.1 hj' with rfl | hj'
    ·refine ⟨t,ht',?_⟩
     rw [hs]
     exact h11 _ _ _ ⟨j',rfl⟩ h3
    ·obtain ⟨t',ht2,h15⟩ := h14 j' hj'
     refine ⟨t',ht2,?_⟩
     rw [slot_put] at h15
     split at h15
     ·rename_i he; rw [he.1,hs]; rw [he.1] at h15; exact h15
     ·exact h15
   ·cases hr
  ·cases hr
theorem absRet_ok {f : Nat} {fn : Func} {out : Out} (hfn : P.funcs[f]? = some fn) (h : absRet P (getA A f) fn.results.toList S = some out) (hg : Rel g0 w0 Ex g S a w) :
  ∃ v,(results fn a.tmps).run P w = .ok v w∧∃ g',Ret (getA A f).rf (oneRes P f) g0 w0 Ex out v g' w:=by
 unfold absRet at h
 split at h
 ·cases h
 ·rename_i hro
  obtain ⟨vs,hvs,h2⟩ := bind_some' h
  obtain ⟨us,hrl,hrun0,hget,hlen⟩ := resVals_ok hg hvs
  obtain ⟨g1,S1,h3,hH,hnx,_,hh,hp,hcl⟩ := resOwn_claims hro hg
  have hrun := results_run (P := P) (w := w) fn a.tmps hrun0
  let g2 : G := ⟨fun B=>match g1.role B with
   | .h id=>.h id
   | .c (.h id off)=>.c (.h id off)
   | .c (.r i)=>.c (.r i)
   | _=>.ext,g1.pub⟩
  have r2 : ∀ B,g2.role B = match g1.role B with
   | .h id=>.h id
   | .c (.h id off)=>.c (.h id off)
   | .c (.r i)=>.c (.r i)
   | _=>.ext := fun _=>rfl
  have h2h : ∀ B id,g2.role B = .h id ↔ g1.role B = .h id:=by
   intro B id
   rw [r2]
   cases hr : g1.role B with
   | c p=>cases p <;> simp
   | _=>simp
  have h2ne : ∀ B,g2.role B ≠ .ext→g1.role B ≠ .ext:=by
   intro B hB he
   apply hB
   rw [r2,he]
  have hE : Ext g1 w g2 w := ⟨fun B id hB=>(h2h B id).2 hB,fun _=>Nat.le_refl _,fun _ _ _=>rfl⟩
  have own2 : ∀ p u c,((∃ id off,p = .h id off) ∨ ∃ i,p = .r i)→OwnAV g1 w p u c→OwnAV g2 w p u c:=by
   intro p u c hp hc
   cases c with
   | vs sz tg l =>
    rcases hc with h | h | ⟨B,n,cap,us,e,h1,h2,h3⟩
    ·exact .inl h
    ·exact .inr (.inl h)
    ·refine .inr (.inr ⟨B,n,cap,us,e,h1,?_,h3⟩)
     rw [r2,h2]
     rcases hp with ⟨id,off,rfl⟩ | ⟨i,rfl⟩ <;> rfl
   | _=>trivial
  have hE0 : Ext g w g1 w := ⟨fun B id hB=>(hh B id).2 hB,fun B=>by rw [hp]; exact Nat.le_refl _,fun _ _ _=>rfl⟩
  have hrepl : RepL g2 w us vs := (hrl.ext hE0).ext hE
  have hcl' : ∀ i ∈ (getA A f).rf,∃ u v,us[i]? = some u∧vs[i]? = some v∧OwnAV g2 w (.r i) u v := fun i hi=>by
   obtain ⟨t,ht,ho⟩ := hcl i hi
   obtain ⟨k1,k2⟩ := hget i t ht
   exact ⟨_,_,k1,k2,own2 _ _ _ (.inr ⟨i,rfl⟩) ho⟩
  have base : ∀ (v : Value) (o : Out),o.H = S.H→o.nx = S.nx→Rep g2 w v o.v→(oneRes P f = true→0 ∈ (getA A f).rf→OwnAV g2 w (.r 0) v o.v) →
    (oneRes P f = false→∀ i ∈ (getA A f).rf,∀ us vs ui vi,v = .tuple us→o.v = .tuple vs→us[i]? = some ui→vs[i]? = some vi→OwnAV g2 w (.r i) ui vi)→Ret (getA A f).rf (oneRes P f) g0 w0 Ex o v g2 w:=by
   intro v o e1 e2 hrep ho1 ho
   refine ⟨⟨fun B hB=>?_,fun B id hB=>h3.inv.ph B id ((h2h B id).1 hB),fun B d hB=>?_,fun B B' id h1 h2=>h3.inv.injh B B' id ((h2h _ _).1 h1) ((h2h _ _).1 h2),fun B B' d h1 _=>?_⟩,?_,hrep,?_,fun B hB=>?_,ho1,ho⟩
   ·obtain ⟨h1,h2⟩ := h3.inv.new B hB
    exact ⟨by rw [r2,h1],h2⟩
   ·rw [r2] at hB; cases hr : g1.role B with
    | c p=>rw [hr] at hB; cases p <;> cases hB
    | _=>rw [hr] at hB; cases hB
   ·rw [r2] at h1; cases hr : g1.role B with
    | c p=>rw [hr] at h1; cases p <;> cases h1
    | _=>rw [hr] at h1; cases h1
   ·rw [e1,e2,← hH,← hnx]
    refine ⟨fun id b hb=>?_,fun B id hB=>h3.h.lt B id ((h2h B id).1 hB)⟩
    obtain ⟨B,hB,⟨us,e,k1,k2,k3⟩,hf⟩ := h3.h.blk id b hb
    exact ⟨B,(h2h B id).2 hB,⟨us,e,k1,k2,k3.ext hE⟩,fun off hoff u v hu hv=>own2 _ _ _ (.inl ⟨id,off,rfl⟩) (hf off hoff u v hu hv)⟩
   ·exact ⟨h3.fr.ext.trans hE,h3.fr.os,h3.fr.tape,h3.fr.output,h3.fr.size,fun B hB hx=>h3.fr.same B hB hx,fun B hB=>h3.fr.role B (h2ne B hB)⟩
   ·rw [r2] at hB
    cases hr : g1.role B with
    | c p=>rw [hr] at hB; cases p <;> simp at hB
    | _=>rw [hr] at hB; simp at hB
  have hone : oneRes P f = Nat.beq us.length 1:=by
   unfold oneRes
   rw [hfn]
   simp only
   rw [← Array.length_toList,hlen]
  refine ⟨_,hrun,g2,?_⟩
  match us,vs,hone,hrepl,hcl',h2 with
  | [],[],hone,hrepl,hcl',h2 =>
   injection h2 with h2
   subst h2
   refine base _ _ rfl rfl (.tuple [] [] rfl (by simp)) (fun h=>by rw [hone] at h; cases h) (fun _ i _ us vs ui vi e1 _ e3 _=>?_)
   have e1' : (#[] : Array Value) = us := by injection e1
   subst e1'
   simp at e3
  | [],_ :: _,_,hrepl,_,_=>have := hrepl.1; simp at this
  | [u],[v],hone,hrepl,hcl',h2 =>
   injection h2 with h2
   subst h2
   refine base _ _ rfl rfl (hrepl.2 0 _ _ rfl rfl) (fun _ h0=>?_) (fun h=>by rw [hone] at h; cases h)
   obtain ⟨u',v',hu',hv',ho⟩ := hcl' 0 h0
   simp at hu' hv'
   subst hu' hv'
   exact ho
  | [_],[],_,hrepl,_,_=>have := hrepl.1; simp at this
  | [_],_ :: _ :: _,_,hrepl,_,_=>have := hrepl.1; simp at this
  | u :: u2 :: l,[],_,hrepl,_,_=>have := hrepl.1; simp at this
  | u :: u2 :: l,[_],_,hrepl,_,_=>have := hrepl.1; simp at this
  | u :: u2 :: l,v :: v2 :: m,hone,hrepl,hcl',h2 =>
   injection h2 with h2
   subst h2
   refine base _ _ rfl rfl (.tuple _ _ hrepl.1 hrepl.2) (fun h=>by rw [hone] at h; cases h) (fun _ i hi us vs ui vi e1 e2 e3 e4=>?_)
   obtain ⟨u',v',hu',hv',ho⟩ := hcl' i hi
   have e1' : (u :: u2 :: l).toArray = us := by injection e1
   have e2' : (v :: v2 :: m) = vs := by injection e2
   subst e1' e2'
   rw [List.getElem?_toArray,hu'] at e3
   rw [hv'] at e4
   injection e3 with e3
   injection e4 with e4
   subst e3 e4
   exact ho
theorem keepS_get : ∀ (l : List Slot) (m i t : Nat),nthS (keepS m i l) t = .und ∨ nthS (keepS m i l) t = keepSlot (i + t) (nthS l t)
 | [],m,i,t=>.inl (by simp [keepS,nthS])
 | s :: l,m,i,t=>by
  cases t with
  | zero =>
   simp only [keepS]
   split
   ·exact .inr rfl
   ·exact .inl rfl
  | succ t =>
   have ih := keepS_get l (m / 2) (i + 1) t
   rw [show i + 1 + t = i + (t + 1) by omega] at ih
   simp only [keepS]
   split <;> exact ih
theorem keepS_length : ∀ (l : List Slot) (m i : Nat),(keepS m i l).length = l.length
 | [],_,_=>rfl
 | s :: l,m,i=>by
  simp only [keepS]
  split <;> simp [keepS_length l]
theorem Rel.keepm (h : Rel g0 w0 Ex g S a w) (m : Nat) : Rel g0 w0 Ex g (S.keep m) a w:=by
 refine ⟨h.inv,h.h,h.l,h.m,by show (keepS m 0 S.sl).length = _; rw [keepS_length]; exact h.len,fun t=>?_,h.fr,h.nodef⟩
 have h1 := (h.sl t).c
 have e : (S.keep m).slot t = nthS (keepS m 0 S.sl) t := rfl
 rcases keepS_get S.sl m 0 t with h2 | h2
 ·rw [e,h2]; trivial
 ·rw [e,h2,Nat.zero_add]
  have e2 : nthS S.sl t = S.slot t := rfl
  rw [e2]
  cases hs : S.slot t with
  | und=>trivial
  | lp d off =>
   rw [hs] at h1
   simp only [keepSlot]
   cases h3 : Nat.beq d t with
   | false=>trivial
   | true =>
    cases h4 : Nat.beq off 0 with
    | false=>trivial
    | true =>
     obtain rfl := beq_true h4
     exact h1
  | mp d =>
   rw [hs] at h1
   exact h1
  | val v f =>
   rw [hs] at h1
   exact SlotC.rel h1 _
def Goes (P : Program) (A : List (Nat × Ann)) (f : Nat) (g0 : G) (w0 : World) (Ex : Nat→Prop) (out : Out) (todo : List Item) (a : Act) (w : World) : Prop :=
 ∀ (b : Frame) (cs : List Frame),b.fn = f→b.kind = .normal→∃ v w' fr,(∃ g',Ret (getA A f).rf (oneRes P f) g0 w0 Ex out v g' w')∧Steps P (lone (b.at a todo) cs w) (lone fr cs w')∧fr.fn = f∧fr.leaving P w' (.returned v)
theorem Goes.step {f : Nat} {out : Out} {todo todo' : List Item} {a' : Act} (h : Goes P A f g0 w0 Ex out todo' a' w') (hs : ∀ (b : Frame) (cs : List Frame),step P (lone (b.at a todo) cs w) = .next (lone (b.at a' todo') cs w')) : Goes P A f g0 w0 Ex out todo a w:=by
 intro b cs hb hk
 obtain ⟨v,w2,fr,h1,h2,h3⟩ := h b cs hb hk
 exact ⟨v,w2,fr,h1,.head (hs b cs) h2,h3⟩
theorem start_get : ∀ (n : Nat) (l : List AV) (t : Nat),nthS (start n l) t = .und ∨ ∃ v,l[t]? = some v∧nthS (start n l) t = .val v .no
 | 0,_,t=>.inl (by simp [start,nthS])
 | n + 1,[],t=>by
  cases t with
  | zero=>exact .inl rfl
  | succ t =>
   rcases start_get n [] t with h | ⟨v,h,_⟩
   ·exact .inl h
   ·simp at h
 | n + 1,a :: l,t=>by
  cases t with
  | zero=>exact .inr ⟨a,rfl,rfl⟩
  | succ t=>exact start_get n l t
theorem start_length : ∀ (n : Nat) (l : List AV),(start n l).length = n
 | 0,_=>rfl
 | n + 1,[]=>by simp [start,start_length n]
 | n + 1,a :: l=>by simp [start,start_length n]
end
section main
variable {P : Program} {A : List (Nat × Ann)} {cal : Oracle}
def RunOk (P : Program) (A : List (Nat × Ann)) (cal : Oracle) (n : Nat) : Prop :=
 ∀ f todo S out,run P A cal n f todo S = some out→∀ g0 w0 Ex a w,((getA A f).imp = false→Fresh0 g0 w0 Ex)→GlobOk A g0 w0→Good g0 w0 Ex S a w→Goes P A f g0 w0 Ex out todo a w
theorem calOk_of_run {n : Nat} (h : RunOk P A cal n) : CalOk P A (calN P A cal n):=by
 intro f args H nx out hc
 unfold calN at hc
 split at hc
 ·rename_i fn hfn
  split at hc
  ·rename_i c hb
   split at hc
   ·rename_i hle
    have hle' := ble_true hle
    refine ⟨⟨fn,c,hfn,hb⟩,fun g w cargs hi hH hsh himp hgl hargs=>?_⟩
    have hal := hargs.1
    have hgood : Good g w (fun B=>g.role B ≠ .ext) ⟨start fn.ntmps args,[],H,nx,[]⟩ { tmps := cargs.toArray ++ Array.replicate (fn.ntmps - cargs.toArray.size) undef,defers := [] } w:=by
     refine ⟨g,hi,hH,fun d b hb=>(by cases hb),fun d b hb=>(by cases hb),?_,fun t=>?_,⟨Ext.refl _ _,rfl,rfl,rfl,Nat.le_refl _,fun _ _ _=>⟨rfl,rfl⟩,fun B hB=>.inr hB⟩,rfl⟩
     ·show (start fn.ntmps args).length = _
      rw [start_length]
      simp only [Array.size_append,List.size_toArray,Array.size_replicate]
      omega
     ·show SlotRel g _ _ w t (nthS (start fn.ntmps args) t)
      rcases start_get fn.ntmps args t with h1 | ⟨v,h1,h2⟩
      ·rw [h1]; trivial
      ·rw [h2]
       refine ⟨?_,trivial⟩
       obtain ⟨u,hu,hr⟩ := hargs.get h1
       have hlt : t < cargs.length := (List.getElem?_eq_some_iff.1 hu).1
       have : (cargs.toArray ++ Array.replicate (fn.ntmps - cargs.toArray.size) undef).getD t undef = u:=by
        rw [Array.getD_eq_getD_getElem?,Array.getElem?_append_left (by simpa using hlt)]
        simp [hu]
       show Rep g w ((cargs.toArray ++ Array.replicate (fn.ntmps - cargs.toArray.size) undef).getD t undef) v
       rw [this]
       exact hr
    intro cs
    let b : Frame := { (default : Frame) with fn := f,kind := .normal }
    have henter : Frame.enter P f cargs.toArray .normal = b.at { tmps := cargs.toArray ++ Array.replicate (fn.ntmps - cargs.toArray.size) undef,defers := [] } [.code c]:=by
     simp [Frame.enter,Frame.at,hfn,hb,b]
    obtain ⟨v,w',fr,⟨g',hret⟩,hs,hf,hl⟩ := h f [.code c] _ out hc g w (fun B=>g.role B ≠ .ext) _ w (fun h0=>⟨hi,fun B hB=>hB (himp h0 B)⟩) hgl hgood b cs rfl rfl
    rw [henter]
    exact ⟨.returned v,w',fr,⟨v,g',rfl,hret⟩,hs,hf,hl⟩
   ·cases hc
  ·cases hc
 ·cases hc
theorem run_ok (hM : P.follows .mixedOrders = true) (hN : ∀ (f : Nat) (fn : Func),P.funcs[f]? = some fn→fn.name ≠ "runtime.NumGoroutine") (hcal : CalOk P A cal) : ∀ n,RunOk P A cal n
 | 0=>by
  intro f todo S out h
  cases h
 | n + 1=>by
  have ih := run_ok hM hN hcal n
  intro f todo S out h g0 w0 Ex a w hfr hgl hgood
  simp only [run] at h
  split at h
  ·cases h
  ·rename_i fn hfn
   have ret : absRet P (getA A f) fn.results.toList S = some out→∀ todo,(∀ (b : Frame) (cs : List Frame),step P (lone (b.at a todo) cs w) = .next (lone { b.at a todo with mode := .returning } cs w))→Goes P A f g0 w0 Ex out todo a w:=by
    intro hr todo hs b cs hb hk
    obtain ⟨g,hg⟩ := hgood
    obtain ⟨v,hrun,hret⟩ := absRet_ok hfn hr hg
    refine ⟨v,w,_,hret,.one (hs b cs),hb,rfl,hg.nodef,hk,fn,by show P.funcs[b.fn]? = _; rw [hb]; exact hfn,hrun⟩
   split at h
   ·exact ret h _ (fun b cs=>step_end)
   ·exact (ih _ _ _ _ h _ _ _ _ _ hfr hgl hgood).step fun b cs=>step_inBlock
   ·exact (ih _ _ _ _ h _ _ _ _ _ hfr hgl hgood).step fun b cs=>step_inScope
   ·exact (ih _ _ _ _ h _ _ _ _ _ hfr hgl hgood).step fun b cs=>step_inLoop
   ·rename_i c k
    split at h
    ·exact ret h _ (fun b cs=>step_ret)
    ·exact (ih _ _ _ _ h _ _ _ _ _ hfr hgl hgood).step fun b cs=>step_skip
    ·exact (ih _ _ _ _ h _ _ _ _ _ hfr hgl hgood).step fun b cs=>step_label
    ·exact (ih _ _ _ _ h _ _ _ _ _ hfr hgl hgood).step fun b cs=>step_seq
    ·rename_i x t e
     obtain ⟨bv,hb,h2⟩ := bool?_some h
     obtain ⟨g,hg⟩ := hgood
     have hx := hg.ev x
     rw [hb] at hx
     have hx' := rep_bool hx
     have hlit : Rel g0 w0 Ex g (S.lit x bv) a w:=by
      cases x with
      | tmp d=>exact hg.lit hb
      | _=>exact hg
     rcases br_some h2 with ⟨rfl,h3⟩ | ⟨rfl,h3⟩
     ·exact (ih _ _ _ _ h3 _ _ _ _ _ hfr hgl ⟨g,hlit⟩).step fun b cs=>step_cond hx'
     ·exact (ih _ _ _ _ h3 _ _ _ _ _ hfr hgl ⟨g,hlit⟩).step fun b cs=>step_cond hx'
    ·exact (ih _ _ _ _ h _ _ _ _ _ hfr hgl hgood).step fun b cs=>step_block
    ·exact (ih _ _ _ _ h _ _ _ _ _ hfr hgl hgood).step fun b cs=>step_loop
    ·exact (ih _ _ _ _ h _ _ _ _ _ hfr hgl hgood).step fun b cs=>step_scope
    ·split at h
     ·rename_i k' hk'
      exact (ih _ _ _ _ h _ _ _ _ _ hfr hgl hgood).step fun b cs=>step_exit hk'
     ·cases h
    ·split at h
     ·rename_i k' hk'
      exact (ih _ _ _ _ h _ _ _ _ _ hfr hgl hgood).step fun b cs=>step_goto hk'
     ·cases h
    ·rename_i id ops draw
     split at h
     ·
      have hw := ops_ok (g0 := g0) (w0 := w0) (Ex := Ex) (k := fun S'=>behind (getA A f) id (S'.keep (nthN (getA A f).K id)) fun S''=>run P A cal n f k S'') (r := out) hN hcal hgl hfr (fun e a' w'=>e = .normal∧∃ S',Good g0 w0 Ex S' a' w'∧(behind (getA A f) id (S'.keep (nthN (getA A f).K id)) fun S''=>run P A cal n f k S'') = some out)
       (fun S' a' w' hgd hk=>⟨rfl,S',hgd,hk⟩) ops.size 0 S a w (Nat.add_zero _) (by rw [List.drop_zero]; exact h) hgood
      rw [List.drop_zero] at hw
      intro b cs hb hk
      obtain ⟨e,a',w',⟨rfl,S',hgd,hrun⟩,harr⟩ := wp_ops _ a w hw b k cs
      obtain ⟨g',hg'⟩ := hgd
      obtain ⟨S2,hgd2,hrun2⟩ := behind_ok hfr hrun ⟨g',hg'.keepm _⟩
      obtain ⟨v,w2,fr,h1,h2,h3⟩ := ih _ _ _ _ hrun2 _ _ _ _ _ hfr hgl hgd2 b cs hb hk
      exact ⟨v,w2,fr,h1,.head step_region (harr.trans h2),h3⟩
     ·
      obtain ⟨g,hg⟩ := hgood
      have hg2 : Good g0 w0 Ex S a { w with drawn := w.drawn + 1 } := ⟨g,hg.world rfl rfl rfl rfl⟩
      have hw := draw_ok (k := fun S'=>behind (getA A f) id (S'.keep (nthN (getA A f).K id)) fun S''=>run P A cal n f k S'') (r := out) hN hcal hgl (fun e a' w'=>e = .normal∧∃ S',Good g0 w0 Ex S' a' w'∧(behind (getA A f) id (S'.keep (nthN (getA A f).K id)) fun S''=>run P A cal n f k S'') = some out)
       (fun S' a' w' hgd hk=>⟨rfl,S',hgd,hk⟩) h hg2
      intro b cs hb hk
      obtain ⟨e,a',w',⟨rfl,S',hgd,hrun⟩,harr⟩ := wp_region_any (id := id) hM hw b k cs
      obtain ⟨g',hg'⟩ := hgd
      obtain ⟨S2,hgd2,hrun2⟩ := behind_ok hfr hrun ⟨g',hg'.keepm _⟩
      obtain ⟨v,w2,fr,h1,h2,h3⟩ := ih _ _ _ _ hrun2 _ _ _ _ _ hfr hgl hgd2 b cs hb hk
      exact ⟨v,w2,fr,h1,harr.trans h2,h3⟩
    ·cases h
   ·cases h
theorem calN_ok (hM : P.follows .mixedOrders = true) (hN : ∀ (f : Nat) (fn : Func),P.funcs[f]? = some fn→fn.name ≠ "runtime.NumGoroutine") (hcal : CalOk P A cal) (n : Nat) : CalOk P A (calN P A cal n) := calOk_of_run (run_ok hM hN hcal n)
theorem calOk_none : CalOk P A fun _ _ _ _=>Option.none := fun _ _ _ _ _ h=>by cases h
end main
end Go.Vai
end
