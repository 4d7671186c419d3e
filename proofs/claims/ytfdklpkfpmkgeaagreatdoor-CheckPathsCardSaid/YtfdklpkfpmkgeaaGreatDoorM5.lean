/- Every order. -/
import Derived.Scope
import Derived.Test.YtfdklpkfpmkgeaaGreatDoorProg
import Derived.KernelRfl
import Derived.Below
import Derived.Lib.ParseIntB
import Derived.Lib.Bytealg
import Derived.Test.YtfdklpkfpmkgeaaGreatDoorM0
import Derived.Test.YtfdklpkfpmkgeaaGreatDoorM4
set_option linter.unusedSimpArgs false
set_option linter.unusedVariables false
set_option linter.unusedSectionVars false
set_option linter.unnecessarySimpa false
section
namespace Go.Vai
section
variable {g0 : G} {w0 : World} {Ex : Nat→Prop} {g g' : G} {a : Act} {w w' : World}
variable {eb ebj ebi : Bool} {P : Program} {A : List (Nat × Ann)} {an : Ann} {isRes : Nat→Bool} {cal : Oracle} {S S' T : St} {R : Type} {r : R} {all : Array Oper}
abbrev oisA (A : List (Nat × Ann)) (all : Array Oper) : List OI := zha A all (zb4 all.toList []) all.toList
theorem zmt {i : Nat} {o : Oper} (h : all[i]? = some o) : (oisA A all)[i]? = some (oiOf A all (nthN (zb4 all.toList []) i) o) :=
 zpp _ _ (by rw [zf4]; simp) i o (by rw [Array.getElem?_toList]; exact h)
theorem ois_len : (oisA A all).length = all.size:=by
 rw [oisA,zhh _ _ (by rw [zf4]; simp),Array.length_toList]
theorem zoo {o : Oper} {m : Nat} : ∀ t,Operand.tmp t ∈ o.op.operands→t ∈ (oiOf A all m o).lk := fun _ h=>look_mem h
theorem zlh {o : Oper} {m : Nat} : ∀ j want d,o.guard = some (j,want)→zct all.toList j = some d→d ∈ (oiOf A all m o).lk := fun j want d hg hd=>by
 rw [zj4] at hd
 show d ∈ o.looksAt all
 unfold Oper.looksAt
 rw [hg]
 simp only [hd]
 exact List.mem_append_right _ (by simp)
theorem oi_ds {o : Oper} {m d : Nat} (h : o.dst = some d) : d ∈ (oiOf A all m o).ds:=by
 show d ∈ (match o.dst with
  | some d=>[d]
  | none=>[])
 rw [h]; simp
theorem zth {o : Oper} {m : Nat} : ∀ q,q ∈ (oiOf A all m o).ds→o.dst = some q := fun q h=>by
 have h' : q ∈ (match o.dst with
  | some d=>[d]
  | none=>[]) := h
 cases hd : o.dst with
 | none=>rw [hd] at h'; cases h'
 | some d=>rw [hd] at h'; rw [List.mem_singleton.1 h']
theorem exch (he : zef 0 all.toList = true) (hd : znx [] (oisA A all) = true) {j i : Nat} {oj oi : Oper} (hj : all[j]? = some oj) (hi : all[i]? = some oi) (hji : j < i) (hun : (nthN (zb4 all.toList []) i).testBit j = false) {K : St→Option R}
    (h : zb8 P A an isRes cal all.toList (zar (oisA A all)) j (fxOf (oisA A all) j (oiOf A all (nthN (zb4 all.toList []) j) oj)) (oiOf A all (nthN (zb4 all.toList []) j) oj) oj T
      (fun X=>zb8 P A an isRes cal all.toList (zar (oisA A all)) i (fxOf (oisA A all) i (oiOf A all (nthN (zb4 all.toList []) i) oi)) (oiOf A all (nthN (zb4 all.toList []) i) oi) oi X K) = some r) :
    zb8 P A an isRes cal all.toList (zar (oisA A all)) i (fxOf (oisA A all) i (oiOf A all (nthN (zb4 all.toList []) i) oi)) (oiOf A all (nthN (zb4 all.toList []) i) oi) oi T
      (fun X=>zb8 P A an isRes cal all.toList (zar (oisA A all)) j (fxOf (oisA A all) j (oiOf A all (nthN (zb4 all.toList []) j) oj)) (oiOf A all (nthN (zb4 all.toList []) j) oj) oj X K) = some r:=by
  have xj := zmt (A := A) hj
  have xi := zmt (A := A) hi
  have his : i < all.size := (Array.getElem?_eq_some_iff.1 hi).1
  have hjs : j < all.size := (Array.getElem?_eq_some_iff.1 hj).1
  have hun' : (nthN (zb4 all.toList []) j).testBit i = false:=by
    cases hb : (nthN (zb4 all.toList []) j).testBit i with
    | false=>rfl
    | true=>have := bits_lt he j i hjs hb; omega
  obtain ⟨hvi,hex⟩ := zff _ [] hd i _ xi
  obtain ⟨hvj,_⟩ := zff _ [] hd j _ xj
  have hm : zr1 (oiOf A all (nthN (zb4 all.toList []) j) oj) (oiOf A all (nthN (zb4 all.toList []) i) oi) = true:=by
    rcases hex j _ (by simpa using hji) (by simpa using xj) with h | h
    · have : (nthN (zb4 all.toList []) i).testBit j = true := h
      rw [hun] at this; cases this
    · exact h
  generalize hxj : oiOf A all (nthN (zb4 all.toList []) j) oj = yj at *
  generalize hxi : oiOf A all (nthN (zb4 all.toList []) i) oi = yi at *
  have cj : yj.cl = clOf A (eArg A all.toList oj) oj := by rw [← hxj]; rfl
  have ci : yi.cl = clOf A (eArg A all.toList oi) oi := by rw [← hxi]; rfl
  have lj : ∀ t,Operand.tmp t ∈ oj.op.operands→t ∈ yj.lk := by rw [← hxj]; exact zoo
  have li : ∀ t,Operand.tmp t ∈ oi.op.operands→t ∈ yi.lk := by rw [← hxi]; exact zoo
  have gj : ∀ q want d,oj.guard = some (q,want)→zct all.toList q = some d→d ∈ yj.lk := by rw [← hxj]; exact zlh
  have gi : ∀ q want d,oi.guard = some (q,want)→zct all.toList q = some d→d ∈ yi.lk := by rw [← hxi]; exact zlh
  have hdsj : ∀ q,q ∈ yj.ds→oj.dst = some q := by rw [← hxj]; exact zth
  have hdsi : ∀ q,q ∈ yi.ds→oi.dst = some q := by rw [← hxi]; exact zth
  have nhj : yj.nh = nhOf A oj := by rw [← hxj]; rfl
  have nhi : yi.nh = nhOf A oi := by rw [← hxi]; rfl
  have dj : ∀ q,oj.dst = some q→q ∈ yj.ds := fun q hq=>by rw [← hxj]; exact oi_ds hq
  have di : ∀ q,oi.dst = some q→q ∈ yi.ds := fun q hq=>by rw [← hxi]; exact oi_ds hq
  have pj : yj.pre = nthN (zb4 all.toList []) j := by rw [← hxj]; rfl
  have pi : yi.pre = nthN (zb4 all.toList []) i := by rw [← hxi]; rfl
  unfold zr1 at hm
  rw [Bool.and_eq_true,Bool.and_eq_true,Bool.and_eq_true] at hm
  obtain ⟨⟨m1,m2,m3⟩,m4⟩ := hm
  have a1 : ∀ q,oj.dst = some q→q ∉ yi.lk := fun q hq=>ze8 m1 q (dj q hq)
  have a2 : ∀ q,oj.dst = some q→oi.dst ≠ some q := fun q hq hq2=>ze8 m2 q (dj q hq) (di q hq2)
  have a3 : ∀ q,oi.dst = some q→q ∉ yj.lk := fun q hq=>ze8 m3 q (di q hq)
  have sj : zb6 yj.cl = true→∃ d,oj.dst = some d := fun hv=>by
    have := hvj hv
    rw [← hxj] at this
    cases hdd : oj.dst with
    | some d=>exact ⟨d,rfl⟩
    | none=>exact absurd (show (match oj.dst with
        | some d=>[d]
        | none=>[]) = ([] : List Nat) by rw [hdd]) this
  have si : zb6 yi.cl = true→∃ d,oi.dst = some d := fun hv=>by
    have := hvi hv
    rw [← hxi] at this
    cases hdd : oi.dst with
    | some d=>exact ⟨d,rfl⟩
    | none=>exact absurd (show (match oi.dst with
        | some d=>[d]
        | none=>[]) = ([] : List Nat) by rw [hdd]) this
  have fj : zb6 yi.cl = false→zf8 (oisA A all) j yj 0 (oisA A all) = false := fun hv=>by
    cases hf : zf8 (oisA A all) j yj 0 (oisA A all) with
    | false=>rfl
    | true =>
      rcases zf2 _ 0 hf i _ xi with h | h | h | h
      · rw [hv] at h; cases h
      · omega
      · rw [Nat.zero_add,pj,hun'] at h; cases h
      · rw [pi,hun] at h; cases h
  have fi : zb6 yj.cl = false→zf8 (oisA A all) i yi 0 (oisA A all) = false := fun hv=>by
    cases hf : zf8 (oisA A all) i yi 0 (oisA A all) with
    | false=>rfl
    | true =>
      rcases zf2 _ 0 hf j _ xj with h | h | h | h
      · rw [hv] at h; cases h
      · omega
      · rw [Nat.zero_add,pi,hun] at h; cases h
      · rw [pj,hun'] at h; cases h
  have Dj : ∀ d,zb6 yj.cl = true→oj.dst = some d→d ∈ zar (oisA A all) := fun d hv hq=>zdy (List.mem_of_getElem? xj) hv d (dj d hq)
  have Di : ∀ d,zb6 yi.cl = true→oi.dst = some d→d ∈ zar (oisA A all) := fun d hv hq=>zdy (List.mem_of_getElem? xi) hv d (di d hq)
  cases hvj2 : zb6 yj.cl with
  | true =>
    cases hvi2 : zb6 yi.cl with
    | true =>
      exact exVV (F := fun S _ k=>zb8 P A an isRes cal all.toList _ j _ yj oj S k) (G := fun S _ k=>zb8 P A an isRes cal all.toList _ i _ yi oi S k) (zgj st_or hdsj cj lj gj hvj2) (zgj st_or hdsi ci li gi hvi2) a1 a2 a3 h
    | false =>
      rw [hvj2,hvi2] at m4
      have hc : (yi.cl = 3 ∨ yi.cl = 4) ∨ (yi.cl = 6 ∨ yi.cl = 7):=by
        have h1 : yi.cl < 5 ∨ yi.cl = 6 ∨ yi.cl = 7:=by
          have := m4
          simp only [Bool.or_eq_true,Nat.blt_eq] at this
          exact this.imp id (Or.imp Nat.eq_of_beq_eq_true Nat.eq_of_beq_eq_true)
        have h2 : ¬ yi.cl < 3 := fun hh=>by
          have : zb6 yi.cl = true := by simpa [zb6,Nat.blt_eq] using hh
          rw [hvi2] at this; cases this
        omega
      obtain ⟨d,hdd⟩ := sj hvj2
      cases hfl : (fxOf (oisA A all) j yj).fl with
      | true =>
        have hf' : (yj.hr && flOf j yj 0 (oisA A all)) = true := hfl
        rw [Bool.and_eq_true] at hf'
        have hkc : kcOf A oi = true:=by
          rcases zir _ 0 hf'.2 i _ xi with h | h | h | h | h
          · rw [hvi2] at h; cases h
          · rw [← hxi] at h; exact h
          · omega
          · rw [Nat.zero_add,pj,hun'] at h; cases h
          · rw [pi,hun] at h; cases h
        have c3 : yi.cl = 3 := by rw [ci]; exact kc_cl hkc
        have hS : IsS (fun S _ k=>zb8 P A an isRes cal all.toList (zar (oisA A all)) j (fxOf (oisA A all) j yj) yj oj S k) (fxOf (oisA A all) j yj).fh (some d) yj.lk:=by
          have := zml (P := P) (an := an) (isRes := isRes) (cal := cal) (all := all) (D := zar (oisA A all)) (i := j) (fz := fxOf (oisA A all) j yj) (fj hvi2) hdsj cj lj gj hvj2
          rw [hdd] at this
          exact this
        have hK : IsK (fun S _ k=>zb8 P A an isRes cal all.toList (zar (oisA A all)) i (fxOf (oisA A all) i yi) yi oi S k) d oi.dst := zmp ci c3 hkc li gi (a1 d hdd) (a2 d hdd) (Dj d hvj2 hdd)
        have hm : (fxOf (oisA A all) j yj).fh = true→∀ S T,(∀ (R : Type) (k : St→Option R),zb8 P A an isRes cal all.toList (zar (oisA A all)) i (fxOf (oisA A all) i yi) yi oi S k = k T)→zc7 S T:=by
          intro hf
          have hf' : (yj.hr && fhOf j yj 0 (oisA A all)) = true := hf
          rw [Bool.and_eq_true] at hf'
          have hnh : nhOf A oi = true:=by
            rcases zf5 _ 0 hf'.2 i _ xi with h | h | h | h | h
            · rw [hvi2] at h; cases h
            · rw [← nhi]; exact h
            · omega
            · rw [Nat.zero_add,pj,hun'] at h; cases h
            · rw [pi,hun] at h; cases h
          exact zgr ci (.inl c3) hnh
        exact exVS hS hK hm a3 h
      | false =>
      have hV : IsV (fun S _ k=>zb8 P A an isRes cal all.toList (zar (oisA A all)) j (fxOf (oisA A all) j yj) yj oj S k) false (fxOf (oisA A all) j yj).fh (some d) yj.lk:=by
        have := zgj (P := P) (an := an) (isRes := isRes) (cal := cal) (all := all) (D := zar (oisA A all)) (i := j) (fz := fxOf (oisA A all) j yj) (st := false) (fun _=>⟨fj hvi2,hfl⟩) hdsj cj lj gj hvj2
        rw [hdd] at this
        exact this
      rcases hc with hc | hc
      · have hC : IsC (fun S _ k=>zb8 P A an isRes cal all.toList (zar (oisA A all)) i (fxOf (oisA A all) i yi) yi oi S k) d oi.dst := znr ci hc li gi (a1 d hdd) (a2 d hdd) (Dj d hvj2 hdd)
        have hm : (fxOf (oisA A all) j yj).fh = true→∀ S T,(∀ (R : Type) (k : St→Option R),zb8 P A an isRes cal all.toList (zar (oisA A all)) i (fxOf (oisA A all) i yi) yi oi S k = k T)→zc7 S T:=by
          intro hf
          have hf' : (yj.hr && fhOf j yj 0 (oisA A all)) = true := hf
          rw [Bool.and_eq_true] at hf'
          have hnh : nhOf A oi = true:=by
            rcases zf5 _ 0 hf'.2 i _ xi with h | h | h | h | h
            · rw [hvi2] at h; cases h
            · rw [← nhi]; exact h
            · omega
            · rw [Nat.zero_add,pj,hun'] at h; cases h
            · rw [pi,hun] at h; cases h
          exact zgr ci hc hnh
        exact exVC hV hC hm a3 h
      · have hB : NoW (fun S _ k=>zb8 P A an isRes cal all.toList (zar (oisA A all)) j (fxOf (oisA A all) j yj) yj oj S k) yi.wb d yj.lk :=
          zsz hvj2 (fj hvi2) (fun e he=>zmg _ 0 i _ xi (by omega) (by rw [Nat.zero_add,pj]; exact hun') (by rw [pi]; exact hun) e he) (dj d hdd)
        have hW : IsW (fun S _ k=>zb8 P A an isRes cal all.toList (zar (oisA A all)) i (fxOf (oisA A all) i yi) yi oi S k) (fxOf (oisA A all) i yi).hz yi.wb d oi.dst :=
          zr6 ci hc (fun h6 q hq=>by
            rw [← hxi] at h6 ⊢
            have h6' : clOf A (eArg A all.toList oi) oi = 6 := h6
            cases ho : oi.op with
            | alloc e=>show q ∈ wbOf all.toList oi; simp only [wbOf,ho,dsL,hq,List.mem_singleton]
            | move x=>simp only [clOf,ho] at h6'; split at h6' <;> cases h6'
            | extract _ _=>simp only [clOf,ho] at h6'; split at h6' <;> cases h6'
            | call c =>
              simp only [clOf,ho] at h6'
              repeat' split at h6'
              all_goals cases h6'
            | _=>simp [clOf,ho] at h6') li gi (a1 d hdd) (a2 d hdd)
        have hm : (fxOf (oisA A all) j yj).fh = true→(fxOf (oisA A all) i yi).hz = false:=by
          intro hf
          have hf' : (yj.hr && fhOf j yj 0 (oisA A all)) = true := hf
          rw [Bool.and_eq_true] at hf'
          cases hz : (fxOf (oisA A all) i yi).hz with
          | false=>rfl
          | true =>
            rcases zme _ 0 hz j _ xj with h | h | h | h | h
            · rw [hvj2] at h; cases h
            · rw [hf'.1] at h; cases h
            · omega
            · rw [Nat.zero_add,pi,hun] at h; cases h
            · rw [pj,hun'] at h; cases h
        exact exVW hV hB hW hm a3 h
  | false =>
    cases hvi2 : zb6 yi.cl with
    | true =>
      rw [hvj2,hvi2] at m4
      have hc : yj.cl = 3 ∨ yj.cl = 4:=by
        have h1 : yj.cl < 5 := by simpa [Nat.blt_eq] using m4
        have h2 : ¬ yj.cl < 3 := fun hh=>by
          have : zb6 yj.cl = true := by simpa [zb6,Nat.blt_eq] using hh
          rw [hvj2] at this; cases this
        omega
      obtain ⟨d,hdd⟩ := si hvi2
      cases hfl : (fxOf (oisA A all) i yi).fl with
      | true =>
        have hf' : (yi.hr && flOf i yi 0 (oisA A all)) = true := hfl
        rw [Bool.and_eq_true] at hf'
        have hkc : kcOf A oj = true:=by
          rcases zir _ 0 hf'.2 j _ xj with h | h | h | h | h
          · rw [hvj2] at h; cases h
          · rw [← hxj] at h; exact h
          · omega
          · rw [Nat.zero_add,pi,hun] at h; cases h
          · rw [pj,hun'] at h; cases h
        have c3 : yj.cl = 3 := by rw [cj]; exact kc_cl hkc
        have hS : IsS (fun S _ k=>zb8 P A an isRes cal all.toList (zar (oisA A all)) i (fxOf (oisA A all) i yi) yi oi S k) (fxOf (oisA A all) i yi).fh (some d) yi.lk:=by
          have := zml (P := P) (an := an) (isRes := isRes) (cal := cal) (all := all) (D := zar (oisA A all)) (i := i) (fz := fxOf (oisA A all) i yi) (fi hvj2) hdsi ci li gi hvi2
          rw [hdd] at this
          exact this
        have hK : IsK (fun S _ k=>zb8 P A an isRes cal all.toList (zar (oisA A all)) j (fxOf (oisA A all) j yj) yj oj S k) d oj.dst := zmp cj c3 hkc lj gj (a3 d hdd) (fun hq=>a2 d hq hdd) (Di d hvi2 hdd)
        have hm : (fxOf (oisA A all) i yi).fh = true→∀ S T,(∀ (R : Type) (k : St→Option R),zb8 P A an isRes cal all.toList (zar (oisA A all)) j (fxOf (oisA A all) j yj) yj oj S k = k T)→zc7 S T:=by
          intro hf
          have hf' : (yi.hr && fhOf i yi 0 (oisA A all)) = true := hf
          rw [Bool.and_eq_true] at hf'
          have hnh : nhOf A oj = true:=by
            rcases zf5 _ 0 hf'.2 j _ xj with h | h | h | h | h
            · rw [hvj2] at h; cases h
            · rw [← nhj]; exact h
            · omega
            · rw [Nat.zero_add,pi,hun] at h; cases h
            · rw [pj,hun'] at h; cases h
          exact zgr cj (.inl c3) hnh
        exact exSV hS hK hm a1 h
      | false =>
      have hV : IsV (fun S _ k=>zb8 P A an isRes cal all.toList (zar (oisA A all)) i (fxOf (oisA A all) i yi) yi oi S k) false (fxOf (oisA A all) i yi).fh (some d) yi.lk:=by
        have := zgj (P := P) (an := an) (isRes := isRes) (cal := cal) (all := all) (D := zar (oisA A all)) (i := i) (fz := fxOf (oisA A all) i yi) (st := false) (fun _=>⟨fi hvj2,hfl⟩) hdsi ci li gi hvi2
        rw [hdd] at this
        exact this
      have hC : IsC (fun S _ k=>zb8 P A an isRes cal all.toList (zar (oisA A all)) j (fxOf (oisA A all) j yj) yj oj S k) d oj.dst := znr cj hc lj gj (a3 d hdd) (fun hq=>a2 d hq hdd) (Di d hvi2 hdd)
      have hm : (fxOf (oisA A all) i yi).fh = true→∀ S T,(∀ (R : Type) (k : St→Option R),zb8 P A an isRes cal all.toList (zar (oisA A all)) j (fxOf (oisA A all) j yj) yj oj S k = k T)→zc7 S T:=by
        intro hf
        have hf' : (yi.hr && fhOf i yi 0 (oisA A all)) = true := hf
        rw [Bool.and_eq_true] at hf'
        have hnh : nhOf A oj = true:=by
          rcases zf5 _ 0 hf'.2 j _ xj with h | h | h | h | h
          · rw [hvj2] at h; cases h
          · rw [← nhj]; exact h
          · omega
          · rw [Nat.zero_add,pi,hun] at h; cases h
          · rw [pj,hun'] at h; cases h
        exact zgr cj hc hnh
      exact exCV hV hC hm a1 h
    | false =>
      rw [hvj2,hvi2] at m4
      simp only [Bool.and_eq_true] at m4
      have nog : ∀ (eb : Bool) (o : Oper),clOf A eb o = 6→o.guard = none:=by
        intro eb o ho
        cases hop : o.op with
        | alloc _ =>
          simp only [clOf,hop] at ho
          split at ho
          · assumption
          · simp at ho
        | move x=>simp only [clOf,hop] at ho; split at ho <;> simp at ho
        | extract _ _=>simp only [clOf,hop] at ho; split at ho <;> simp at ho
        | call c =>
          exfalso
          simp only [clOf,hop] at ho
          repeat' split at ho
          all_goals simp at ho
        | _=>simp [clOf,hop] at ho
      have gg : ∀ (o : Oper),o.guard = none→∀ (S : St),gres all.toList o S = some true := fun o ho S=>by unfold gres; rw [ho]
      obtain ⟨c6j,c6i⟩ := m4
      · have c6j := Nat.eq_of_beq_eq_true c6j
        have c6i := Nat.eq_of_beq_eq_true c6i
        have gj0 := gg oj (nog _ oj (cj ▸ c6j))
        have gi0 := gg oi (nog _ oi (ci ▸ c6i))
        simp only [zdk hvj2,zdk hvi2,zbw,gj0,gi0] at h ⊢
        exact exAA c6j c6i (cj ▸ c6j) (ci ▸ c6i) a2 h
theorem pull (he : zef 0 all.toList = true) (hd : znx [] (oisA A all) = true) {i : Nat} {oi : Oper} (hi : all[i]? = some oi) {post : List Nat} {k : St→Option R} : ∀ (pre : List Nat) (S : St),(∀ j ∈ pre,j < i∧(nthN (zb4 all.toList []) i).testBit j = false) →
  runL P A an isRes cal all (zar (oisA A all)) (oisA A all) (pre ++ i :: post) S k = some r→runL P A an isRes cal all (zar (oisA A all)) (oisA A all) (i :: (pre ++ post)) S k = some r
 | [],S,_,h=>h
 | j :: pre,S,hp,h=>by
  obtain ⟨hji,hun⟩ := hp j List.mem_cons_self
  have hjs : j < all.size := by have := (Array.getElem?_eq_some_iff.1 hi).1; omega
  have hj : all[j]? = some all[j] := Array.getElem?_eq_getElem hjs
  have xj := zmt (A := A) hj
  have xi := zmt (A := A) hi
  have hm : (oiOf A all (nthN (zb4 all.toList []) j) all[j]).cl < 5 ∨ (oiOf A all (nthN (zb4 all.toList []) j) all[j]).cl = 6:=by
   obtain ⟨_,hex⟩ := zff _ [] hd i _ xi
   rcases hex j _ (by simpa using hji) (by simpa using xj) with h | h
   ·have : (nthN (zb4 all.toList []) i).testBit j = true := h
    rw [hun] at this; cases this
   ·unfold zr1 at h
    rw [Bool.and_eq_true] at h
    have h2 := h.2
    revert h2
    generalize (oiOf A all (nthN (zb4 all.toList []) j) all[j]) = yj
    generalize (oiOf A all (nthN (zb4 all.toList []) i) oi) = yi
    intro h2
    cases hv : zb6 yj.cl with
    | true =>
     have : yj.cl < 3 := by simpa [zb6,Nat.blt_eq] using hv
     omega
    | false =>
     rw [hv] at h2
     cases hv2 : zb6 yi.cl with
     | true=>rw [hv2] at h2; exact .inl (by simpa [Nat.blt_eq] using h2)
     | false =>
      rw [hv2] at h2
      simp only [Bool.and_eq_true] at h2
      exact .inr (Nat.eq_of_beq_eq_true h2.1)
  rw [List.cons_append] at h
  unfold runL at h
  simp only [xj,hj] at h
  have h2 := zqj (F' := fun S'=>runL P A an isRes cal all (zar (oisA A all)) (oisA A all) (i :: (pre ++ post)) S' k) zth rfl hm zoo zlh (fun T hT=>pull he hd hi pre T (fun q hq=>hp q (List.mem_cons_of_mem _ hq)) hT) h
  have e1 : ∀ S',runL P A an isRes cal all (zar (oisA A all)) (oisA A all) (i :: (pre ++ post)) S' k = zb8 P A an isRes cal all.toList (zar (oisA A all)) i (fxOf (oisA A all) i (oiOf A all (nthN (zb4 all.toList []) i) oi)) (oiOf A all (nthN (zb4 all.toList []) i) oi) oi S' (fun S''=>runL P A an isRes cal all (zar (oisA A all)) (oisA A all) (pre ++ post) S'' k):=by
   intro S'
   conv=>lhs; unfold runL
   simp only [xi,hi]
  simp only [e1] at h2
  have h3 := exch he hd hj hi hji hun h2
  conv=>lhs; unfold runL
  simp only [xi,hi]
  have e2 : ∀ S',runL P A an isRes cal all (zar (oisA A all)) (oisA A all) (j :: pre ++ post) S' k = zb8 P A an isRes cal all.toList (zar (oisA A all)) j (fxOf (oisA A all) j (oiOf A all (nthN (zb4 all.toList []) j) all[j])) (oiOf A all (nthN (zb4 all.toList []) j) all[j]) all[j] S' (fun S''=>runL P A an isRes cal all (zar (oisA A all)) (oisA A all) (pre ++ post) S'' k):=by
   intro S'
   rw [List.cons_append]
   conv=>lhs; unfold runL
   simp only [xj,hj]
  simp only [e2]
  exact h3
def unl (n : Nat) (listed : Array Bool) : List Nat := (List.range n).filter fun i=>!listed.getD i true
theorem zhe (n : Nat) (listed : Array Bool) : (unl n listed).Pairwise (· < ·) := List.Pairwise.filter _ List.pairwise_lt_range
theorem zti {n i : Nat} {listed : Array Bool} (hn : listed.size = n) {pre post : List Nat} (h : unl n listed = pre ++ i :: post) : unl n (listed.setIfInBounds i true) = pre ++ post:=by
 have hs := zhe n listed
 rw [h,List.pairwise_append] at hs
 obtain ⟨_,h2,h3⟩ := hs
 have hpre : ∀ a ∈ pre,a ≠ i := fun a ha e=>by have := h3 a ha i List.mem_cons_self; omega
 have hpost : ∀ a ∈ post,a ≠ i := fun a ha e=>by
  have := (List.pairwise_cons.1 h2).1 a ha
  omega
 have e : unl n (listed.setIfInBounds i true) = (unl n listed).filter fun q=>decide (q ≠ i):=by
  unfold unl
  rw [List.filter_filter]
  refine List.filter_congr fun q hq=>?_
  by_cases hqi : q = i
  ·subst hqi
   have hlt : q < listed.size := by rw [hn]; exact List.mem_range.1 hq
   simp [hlt]
  ·rw [getD_set_ne true (Ne.symm hqi)]
   simp [hqi]
 rw [e,h,List.filter_append,List.filter_cons]
 simp only [ne_eq,not_true_eq_false,decide_false,Bool.false_eq_true,if_false]
 rw [List.filter_eq_self.2 fun a ha=>by simpa using hpre a ha,List.filter_eq_self.2 fun a ha=>by simpa using hpost a ha]
theorem any_ok (hN : ∀ (f : Nat) (fn : Func),P.funcs[f]? = some fn→fn.name ≠ "runtime.NumGoroutine") (hcal : zc6 P A cal) (hgl : zbf A g0 w0) (he : zef 0 all.toList = true) (hd : znx [] (oisA A all) = true) {k : St→Option R} (Q : Exit→Act→World→Prop)
  (hQ : ∀ S' a' w',Good g0 w0 Ex S' a' w'→k S' = some r→Q .normal a' w') :
  ∀ (fuel : Nat) (listed : Array Bool) (a : Act) (w : World) (T : St),listed.size = all.size→(unl all.size listed).length ≤ fuel→Closed all listed→runL P A an isRes cal all (zar (oisA A all)) (oisA A all) (unl all.size listed) T k = some r→Good g0 w0 Ex T a w →
   wpAny P .any all Q fuel listed a w:=by
 have none_ready : ∀ (listed : Array Bool),listed.size = all.size→unl all.size listed = []→Region.ready .any all listed = []:=by
  intro listed hls h
  cases hr : Region.ready .any all listed with
  | nil=>rfl
  | cons x l =>
   have hm : x ∈ Region.ready .any all listed := by rw [hr]; exact List.mem_cons_self
   obtain ⟨h1,o,ho,_⟩ := mem_ready.1 hm
   have : x ∈ unl all.size listed := List.mem_filter.2 ⟨List.mem_range.2 (Array.getElem?_eq_some_iff.1 ho).1,by rw [h1]; rfl⟩
   rw [h] at this; cases this
 intro fuel
 induction fuel with
 | zero =>
  intro listed a w T hls hf hc h hg
  have h0 : unl all.size listed = [] := List.eq_nil_of_length_eq_zero (by omega)
  rw [h0] at h
  exact ⟨none_ready listed hls h0,hQ T a w hg h⟩
 | succ fuel ih =>
  intro listed a w T hls hf hc h hg
  refine ⟨fun h0=>?_,fun x hx=>?_⟩
  ·
   cases hu : unl all.size listed with
   | nil=>rw [hu] at h; exact hQ T a w hg h
   | cons i l =>
    exfalso
    have hm : i ∈ unl all.size listed := by rw [hu]; exact List.mem_cons_self
    obtain ⟨h1,h2⟩ := List.mem_filter.1 hm
    have his := List.mem_range.1 h1
    have ho : all[i]? = some all[i] := Array.getElem?_eq_getElem his
    have hi : listed.getD i true = false := by simpa using h2
    have : i ∈ Region.ready .any all listed:=by
     refine mem_ready.2 ⟨hi,_,ho,fun e he2 hbd=>?_⟩
     have hlt := zdm all.toList 0 he i _ (by rw [Array.getElem?_toList]; exact ho) e he2 hbd
     have hs := zhe all.size listed
     rw [hu] at hs
     cases hb : listed.getD e.on true with
     | true =>
      have : e.on < listed.size := by omega
      simp only [Array.getD_eq_getD_getElem?,Array.getElem?_eq_getElem this,Option.getD_some] at hb ⊢
      exact hb
     | false =>
      have hmem : e.on ∈ unl all.size listed := List.mem_filter.2 ⟨List.mem_range.2 (by omega),by rw [hb]; rfl⟩
      rw [hu] at hmem
      rcases List.mem_cons.1 hmem with e1 | e1
      ·omega
      ·have := (List.pairwise_cons.1 hs).1 _ e1; omega
    rw [h0] at this; cases this
  ·obtain ⟨hun,o,ho,hall⟩ := mem_ready.1 hx
   have hxs : x < all.size := (Array.getElem?_eq_some_iff.1 ho).1
   have hmem : x ∈ unl all.size listed := List.mem_filter.2 ⟨List.mem_range.2 hxs,by rw [hun]; rfl⟩
   obtain ⟨pre,post,hsplit⟩ := List.append_of_mem hmem
   have hsort := zhe all.size listed
   rw [hsplit] at h
   have hbits : ∀ j,(nthN (zb4 all.toList []) x).testBit j = true→listed.getD j false = true := zo7 he hc x hxs fun o' ho' e he2 hb=>by
    rw [ho] at ho'
    injection ho' with ho'
    subst ho'
    exact hall e he2 hb
   have hpre : ∀ j ∈ pre,j < x∧(nthN (zb4 all.toList []) x).testBit j = false:=by
    intro j hj
    rw [hsplit,List.pairwise_append] at hsort
    refine ⟨hsort.2.2 j hj x List.mem_cons_self,?_⟩
    cases hb : (nthN (zb4 all.toList []) x).testBit j with
    | false=>rfl
    | true =>
     have h1 := hbits j hb
     have h2 : j ∈ unl all.size listed := by rw [hsplit]; exact List.mem_append_left _ hj
     obtain ⟨h3,h4⟩ := List.mem_filter.1 h2
     have hjs := List.mem_range.1 h3
     have : j < listed.size := by omega
     simp only [Array.getD_eq_getD_getElem?,Array.getElem?_eq_getElem this,Option.getD_some] at h1 h4
     rw [h1] at h4
     cases h4
   have h2 := pull he hd ho pre T hpre h
   have xi := zmt (A := A) ho
   unfold runL at h2
   simp only [xi,ho] at h2
   obtain ⟨g,hg⟩ := hg
   refine dstep_ok hN hcal hgl rfl ho h2 hg Q _ fun S' a' w' hgd hk=>ih _ a' w' S' (by simpa using hls) ?_ ?_ ?_ hgd
   ·rw [zti hls hsplit]
    rw [hsplit] at hf
    simp only [List.length_append,List.length_cons] at hf ⊢
    omega
   ·intro i oi hoi hli e he2 hb
    by_cases hix : i = x
    ·subst hix
     rw [ho] at hoi
     injection hoi with hoi
     subst hoi
     exact getD_set_true (hall e he2 hb)
    ·have : listed.getD i false = true := by rw [getD_set_ne false (Ne.symm hix)] at hli; exact hli
     exact getD_set_true (hc i oi hoi this e he2 hb)
   ·rw [zti hls hsplit]
    exact hk
theorem draw_ok {k : St→Option R} (hN : ∀ (f : Nat) (fn : Func),P.funcs[f]? = some fn→fn.name ≠ "runtime.NumGoroutine") (hcal : zc6 P A cal) (hgl : zbf A g0 w0) (Q : Exit→Act→World→Prop)
  (hQ : ∀ S' a' w',Good g0 w0 Ex S' a' w'→k S' = some r→Q .normal a' w')
  (h : zrt P A an isRes cal all S k = some r) (hg : Good g0 w0 Ex S a w) : wpAny P .any all Q all.size (Array.replicate all.size false) a w:=by
 unfold zrt at h
 obtain ⟨h1,h2⟩ := zag h
 rw [Bool.and_eq_true] at h1
 have hall : unl all.size (Array.replicate all.size false) = List.range all.size:=by
  unfold unl
  refine List.filter_eq_self.2 fun i hi=>?_
  have := List.mem_range.1 hi
  simp [this]
 have h3 := zj8 (P := P) (A := A) (an := an) (isRes := isRes) (cal := cal) (all := all) (D := zar (oisA A all)) (ois := oisA A all) (k := k) all.size 0 S ois_len (by omega)
 rw [List.drop_zero,List.drop_zero] at h3
 have h4 := h3.symm.trans h2
 rw [← List.range_eq_range'] at h4
 refine any_ok hN hcal hgl h1.1 h1.2 (k := k) Q (fun S' a' w' hgd hk=>?_) all.size _ a w S (by simp) (by rw [hall]; simp) ?_ (by rw [hall]; exact h4) hg
 ·exact hQ _ a' w' hgd hk
 ·intro i o ho hl
  have : i < all.size := (Array.getElem?_eq_some_iff.1 ho).1
  simp [this] at hl
end
end Go.Vai
end
section
namespace Go.Vai
section
variable {g0 : G} {w0 : World} {Ex : Nat→Prop} {g g' : G} {S : St} {a : Act} {w w' : World} {R : Type} {r : R}
def zcd (m : Nat) : Role→Role
 | .h id=>match Nat.blt id m with
  | true=>.h id
  | false=>.ext
 | .c (.h id off)=>match Nat.blt id m with
  | true=>.c (.h id off)
  | false=>.ext
 | x=>x
theorem zfi {m : Nat} {x : Role} {n : Nat} (h : zcd m x = .h n) : x = .h n∧Nat.blt n m = true:=by
 unfold zcd at h
 split at h
 ·rename_i id
  cases hb : Nat.blt id m with
  | true=>rw [hb] at h; injection h with h; subst h; exact ⟨rfl,hb⟩
  | false=>rw [hb] at h; cases h
 ·rename_i id off
  cases hb : Nat.blt id m <;> (rw [hb] at h; cases h)
 ·rename_i h1 _
  exact absurd h (h1 n)
theorem zgz {m : Nat} {x : Role} {n : Nat} (h : zcd m x = .l n) : x = .l n:=by
 unfold zcd at h
 split at h
 ·rename_i id
  cases hb : Nat.blt id m <;> (rw [hb] at h; cases h)
 ·rename_i id off
  cases hb : Nat.blt id m <;> (rw [hb] at h; cases h)
 ·exact h
theorem zk7 {m : Nat} : ∀ {l : List Slot},zfs m l = true→∀ {t : Nat} {v : AV} {f : Fl},nthS l t = .val v f→v.okD m = true
 | [],_,t,v,f,h=>by cases t <;> cases h
 | s :: l,hs,t,v,f,h=>by
  unfold zfs at hs
  split at hs
  ·rename_i h1
   cases t with
   | zero =>
    have h : s = .val v f := h
    subst h
    exact h1
   | succ t=>exact zk7 hs h
  ·cases hs
theorem zh1 : ∀ {l : List (Nat × Blk)},zhv l = true→∀ {d : Nat} {b : Blk},getL l d = some b→zab b.cells = true
 | [],_,d,b,h=>by cases h
 | (e,c) :: l,hs,d,b,h=>by
  unfold zhv at hs
  unfold getL at h
  split at hs
  ·rename_i h1
   split at h
   ·injection h with h; subst h; exact h1
   ·exact zh1 hs h
  ·cases hs
theorem zgf {m : Nat} : ∀ {l : List (Nat × Blk)} {d : Nat} {b : Blk},getL (zju m l) d = some b→getL l d = some b∧Nat.blt d m = true ∨ False
 | [],d,b,h=>by cases h
 | (e,c) :: l,d,b,h=>by
  unfold zju at h
  unfold getL
  cases hb : Nat.blt e m with
  | true =>
   rw [hb] at h
   simp only [getL] at h
   cases he : Nat.beq d e with
   | true =>
    rw [he] at h
    have := Nat.eq_of_beq_eq_true he
    subst this
    exact .inl ⟨h,hb⟩
   | false=>rw [he] at h; exact zgf h
  | false =>
   rw [hb] at h
   cases he : Nat.beq d e with
   | true =>
    have := Nat.eq_of_beq_eq_true he
    subst this
    rcases zgf h with ⟨_,h2⟩ | h2
    ·rw [hb] at h2; cases h2
    ·exact h2.elim
   | false=>exact zgf h
theorem zgy {m : Nat} : ∀ {l : List (Nat × Blk)} {d : Nat},Nat.blt d m = true→getL l d ≠ none→getL (zju m l) d ≠ none
 | [],d,_,h=>absurd rfl h
 | (e,c) :: l,d,hd,h=>by
  unfold getL at h
  unfold zju
  cases he : Nat.beq d e with
  | true =>
   have := Nat.eq_of_beq_eq_true he
   subst this
   rw [hd]
   simp only [getL,he]
   simp
  | false =>
   rw [he] at h
   cases hb : Nat.blt e m with
   | true=>simp only [getL,he]; exact zgy hd h
   | false=>exact zgy hd h
theorem rep_drop {m : Nat} {u : Value} {v : AV} (h : Rep g w u v) (hv : v.okD m = true) (hr : ∀ B,g'.role B = zcd m (g.role B)) (hp : ∀ B,g.pub B ≤ g'.pub B) : Rep g' w u v:=by
 cases v with
 | ptr i off =>
  obtain ⟨B,hB,rfl⟩ := zg1 h
  have hv : Nat.blt i m = true := hv
  exact .ptr B i off (by rw [hr,hB]; simp only [zcd,hv])
 | arr i off len z =>
  obtain ⟨B,cap,hB,rfl,hcap⟩ := zit h
  have hv : Nat.blt i m = true := hv
  exact .arr B i off len cap z (by rw [hr,hB]; simp only [zcd,hv]) hcap
 | _=>exact h.pure hv g' hp
theorem zfj {p p' : Pl} {u : Value} {v : AV} (h : zat g w p u v) (hr : ∀ B,g.role B = .c p→g'.role B = .c p') (hp : g'.pub = g.pub) : zat g' w p' u v:=by
 cases v with
 | vs sz tg l =>
  rcases h with k | k | ⟨D,n,cp,ud,ed,k5,k6,k7,k8,k9,k10⟩
  ·exact .inl k
  ·exact .inr (.inl k)
  ·exact .inr (.inr ⟨D,n,cp,ud,ed,k5,hr D k6,k7,k8,k9,by rw [hp]; exact k10⟩)
 | _=>trivial
theorem Rel.drop (h : Rel g0 w0 Ex g S a w) (hf : zki g0 w0 Ex) {m : Nat} (hd : zk9 m S = true) : Good g0 w0 Ex (S.drop m) a w:=by
 unfold zk9 at hd
 split at hd
 ·rename_i d1
  split at hd
  ·rename_i d2
   split at hd
   ·rename_i d3
    let g1 : G := ⟨fun c=>zcd m (g.role c),g.pub⟩
    have r1 : ∀ c,g1.role c = zcd m (g.role c) := fun _=>rfl
    have noh : ∀ c,c < w0.heap.size→g.role c ≠ .ext→False := fun c hc hne=>by
     rcases h.fr.role c hne with h4 | h4
     ·omega
     ·exact hf.2 c h4
    refine ⟨g1,⟨fun c hc=>?_,fun c i hc=>?_,fun c d hc=>?_,fun c c' i k1 k2=>?_,fun c c' d k1 k2=>?_⟩,⟨fun i b hb=>?_,fun c i hc=>?_⟩,fun d b hb=>?_,fun d c hc=>(by cases hc),?_,fun t=>?_,?_,h.nodef⟩
    ·exact ⟨by rw [r1,(h.inv.new c hc).1]; rfl,(h.inv.new c hc).2⟩
    ·exact h.inv.ph c i (zfi ((r1 c).symm.trans hc)).1
    ·exact h.inv.pl c d (zgz ((r1 c).symm.trans hc))
    ·exact h.inv.injh c c' i (zfi ((r1 c).symm.trans k1)).1 (zfi ((r1 c').symm.trans k2)).1
    ·exact h.inv.injl c c' d (zgz ((r1 c).symm.trans k1)) (zgz ((r1 c').symm.trans k2))
    ·have hb' : getL (zju m S.H) i = some b := hb
     rcases zgf hb' with ⟨hb1,hlt⟩ | hx
     ·obtain ⟨B,hB,⟨us,e,k1,k2,k3⟩,k4⟩ := h.h.blk i b hb1
      refine ⟨B,by rw [r1,hB]; simp only [zcd,hlt],⟨us,e,k1,k2,k3.1,fun j u c hu hc=>(k3.2 j u c hu hc).pure (zc8 (zh1 d3 hb') j c hc) g1 fun _=>Nat.le_refl _⟩,fun off hoff u v hu hv=>?_⟩
      exact zfj (k4 off hoff u v hu hv) (fun D hD=>by rw [r1,hD]; simp only [zcd,hlt]) rfl
     ·exact hx.elim
    ·obtain ⟨h4,h5⟩ := zfi ((r1 c).symm.trans hc)
     exact zgy h5 (h.h.lt c i h4)
    ·obtain ⟨B,hB,⟨us,e,k1,k2,k3⟩,k4⟩ := h.l d b hb
     refine ⟨B,by rw [r1,hB]; rfl,⟨us,e,k1,k2,k3.1,fun j u c hu hc=>(k3.2 j u c hu hc).pure (zc8 (zh1 d2 hb) j c hc) g1 fun _=>Nat.le_refl _⟩,fun off hoff u v hu hv=>?_⟩
     exact zfj (k4 off hoff u v hu hv) (fun D hD=>by rw [r1,hD]; rfl) rfl
    ·show (S.sl.map _).length = _
     rw [List.length_map]; exact h.len
    ·show zbd g1 _ a w t (nthS (S.sl.map Slot.unlentH) t)
     rw [zd1 _ rfl]
     have e0 : nthS S.sl t = S.slot t := rfl
     have hst' := h.sl t
     rw [e0]
     cases hst : S.slot t with
     | und=>trivial
     | lp d o =>
      rw [hst] at hst'
      obtain ⟨B,hB,hx⟩ := hst'
      exact ⟨B,by rw [r1,hB]; rfl,hx⟩
     | mp d =>
      rw [hst] at hst'
      obtain ⟨B,hB,hx⟩ := hst'
      exact ⟨B,by rw [r1,hB]; rfl,hx⟩
     | val v f =>
      rw [hst] at hst'
      have hrep := rep_drop hst'.1 (zk7 d1 (e0.trans hst)) r1 fun B=>Nat.le_refl _
      cases f with
      | no=>exact ⟨hrep,trivial⟩
      | own=>exact ⟨hrep,zfj hst'.2 (fun D hD=>by rw [r1,hD]; rfl) rfl⟩
      | lS q =>
       exact ⟨hrep,fun v' fq hcq hv'=>hst'.2 v' fq hcq (zei (S := S) hcq hv')⟩
      | lL d off =>
       refine ⟨hrep,fun b hb hoff=>?_⟩
       obtain ⟨B,hB,hx⟩ := hst'.2 b hb hoff
       exact ⟨B,by rw [r1,hB]; rfl,hx⟩
      | lH id off=>exact ⟨hrep,trivial⟩
      | comps cs=>exact ⟨hrep,fun i hi us vs ui vi h1 h2 h3 h4=>zfj (hst'.2 i hi us vs ui vi h1 h2 h3 h4) (fun D hD=>by rw [r1,hD]; rfl) rfl⟩
    ·refine ⟨⟨fun c i hc=>?_,h.fr.ext.2,h.fr.ext.3⟩,h.fr.os,h.fr.tape,h.fr.output,h.fr.size,h.fr.same,fun c hc=>?_⟩
     ·exfalso
      have hlt : c < w0.heap.size:=by
       rcases Nat.lt_or_ge c w0.heap.size with h4 | h4
       ·exact h4
       ·rw [(hf.1.new c h4).1] at hc; cases hc
      exact noh c hlt (by rw [h.fr.ext.1 c i hc]; simp)
     ·refine h.fr.role c fun he=>hc ?_
      rw [r1,he]; rfl
   ·cases hd
  ·cases hd
 ·cases hd
theorem zj7 {imp : Bool} (hf : imp = false→zki g0 w0 Ex) {id : Nat} : ∀ {l : List (Nat × Nat)} {S : St} {k : St→Option R},znk imp l id S k = some r→Good g0 w0 Ex S a w→∃ S',Good g0 w0 Ex S' a w∧k S' = some r
 | [],S,k,h,hg=>⟨S,hg,h⟩
 | (q,m) :: l,S,k,h,hg=>by
  simp only [znk] at h
  split at h
  ·split at h
   ·cases h
   ·obtain ⟨hd,h⟩ := zag h
    obtain ⟨g,hg⟩ := hg
    exact zj7 hf h (hg.drop (hf rfl) hd)
  ·exact zj7 hf h hg
theorem zo2 {sl : List Slot} {d : Nat} (hd : lvB sl d = false) : ∀ l : List (Nat × Blk),getL (zod sl l) d = Option.none
 | []=>rfl
 | (e,c) :: l=>by
  unfold zod
  cases he : lvB sl e
  ·exact zo2 hd l
  ·simp only [getL]
   split
   ·rename_i hb
    obtain rfl := Nat.eq_of_beq_eq_true hb
    rw [hd] at he; cases he
   ·exact zo2 hd l
theorem zgg {sl : List Slot} {d : Nat} {b : Blk} : ∀ {l : List (Nat × Blk)},getL (zod sl l) d = some b→getL l d = some b
 | [],h=>by cases h
 | (e,c) :: l,h=>by
  unfold zod at h
  cases he : lvB sl e
  ·rw [he] at h
   simp only [getL]
   split
   ·rename_i hb
    obtain rfl := Nat.eq_of_beq_eq_true hb
    rw [zo2 he] at h; cases h
   ·exact zgg h
  ·rw [he] at h
   simp only [getL] at h ⊢
   split at h
   ·exact h
   ·exact zgg h
theorem zrs {dbx : Bool} {S : St} {k : St→Option R} (h : zrp dbx S k = some r) (hg : Good g0 w0 Ex S a w) : ∃ S',Good g0 w0 Ex S' a w∧k S' = some r:=by
 unfold zrp at h
 split at h
 ·refine ⟨_,?_,h⟩
  obtain ⟨g,hg⟩ := hg
  refine ⟨g,hg.inv,hg.h,fun d b hb=>hg.l d b (zgg hb),hg.m,hg.len,fun t=>?_,hg.fr,hg.nodef⟩
  have := hg.sl t
  show zbd g _ a w t (S.slot t)
  unfold zbd at this ⊢
  split at this
  ·trivial
  ·exact this
  ·exact this
  ·refine ⟨this.1,?_⟩
   have h2 := this.2
   unfold zqv at h2 ⊢
   split at h2
   ·trivial
   ·exact h2
   ·exact h2
   ·exact fun b hb=>h2 b (zgg hb)
   ·exact h2
   ·exact h2
 ·exact ⟨S,hg,h⟩
theorem zmf {an : Ann} (hf : an.imp = false→zki g0 w0 Ex) {id : Nat} {S : St} {k : St→Option R} (h : zfa an id S k = some r) (hg : Good g0 w0 Ex S a w) : ∃ S',Good g0 w0 Ex S' a w∧k S' = some r:=by
 unfold zfa at h
 obtain ⟨S3,h5,h6⟩ := zj7 hf h hg
 exact zrs h6 h5
end
end Go.Vai
end
section
namespace Go.Vai
section
variable {g0 : G} {w0 : World} {Ex : Nat→Prop} {g g' : G} {S : St} {a : Act} {w w' : World} {P : Program} {A : List (Nat × Ann)}
def packV : List Value→Value
 | [v]=>v
 | l=>.tuple l.toArray
def zk3 (tmps : Array Value) : ResultVar→Sem Value
 | .tmp t=>pure (tmps.getD t undef)
 | .cell a t=>do loadVar t (← asAddr (tmps.getD a undef))
theorem zqu (fn : Func) (tmps : Array Value) : results fn tmps = (do
  let vs ← fn.results.mapM (zk3 tmps)
  pure (if h : vs.size = 1 then vs[0] else .tuple vs)) := rfl
theorem zo5 (fn : Func) (tmps : Array Value) {us : List Value} (h : (fn.results.toList.mapM (zk3 tmps)).run P w = .ok us w) :
  (results fn tmps).run P w = .ok (packV us) w:=by
 rw [zqu,Array.mapM_eq_mapM_toList]
 simp only [Sem.run_bind,Sem.run_map,h,Result.andThen_ok,Sem.run_pure]
 match us with
 | []=>rfl
 | [t]=>rfl
 | t :: t2 :: l=>simp [packV]
theorem zhd (hg : Rel g0 w0 Ex g S a w) : ∀ {rs : List ResultVar} {vs : List AV},zf3 P S rs = some vs→∃ us : List Value,RepL g w us vs ∧
  (rs.mapM (zk3 a.tmps)).run P w = .ok us w ∧
  (∀ (j t : Nat),rs[j]? = some (.tmp t)→us[j]? = some (a.tmps.getD t undef)∧vs[j]? = some (S.slot t).av)∧rs.length = us.length
 | [],vs,h=>by
  simp only [zf3,Option.some.injEq] at h
  subst h
  exact ⟨[],⟨rfl,by simp⟩,by simp,by simp,rfl⟩
 | .tmp t :: rs,vs,h=>by
  unfold zf3 at h
  split at h
  ·rename_i v f hs
   obtain ⟨r,h1,h2⟩ := zai h
   obtain ⟨us,hr,hrun,hget,hlen⟩ := zhd hg h1
   injection h2 with h2
   subst h2
   have hv := (hg.slotv hs).1
   refine ⟨a.tmps.getD t undef :: us,⟨by simp [hr.1],fun j u c hu hc=>?_⟩,?_,fun j t' hj=>?_,by simp [hlen]⟩
   ·cases j with
    | zero=>simp only [List.getElem?_cons_zero,Option.some.injEq] at hu hc; subst hu hc; exact hv
    | succ j=>exact hr.2 j u c (by simpa using hu) (by simpa using hc)
   ·rw [List.mapM_cons]
    simp only [zk3,Sem.run_bind,Sem.run_pure,Result.andThen_ok,hrun]
   ·cases j with
    | zero =>
     simp only [List.getElem?_cons_zero,Option.some.injEq,ResultVar.tmp.injEq] at hj
     subst hj
     exact ⟨rfl,by rw [hs]; rfl⟩
    | succ j=>exact hget j t' (by simpa using hj)
  ·cases h
 | .cell c ty :: rs,vs,h=>by
  unfold zf3 at h
  split at h
  ·rename_i d off hs
   obtain ⟨b,hb,h1⟩ := zai h
   obtain ⟨ag,dd,hd,hk,hag⟩ := zdv h1
   clear h h1
   have h1 := hg.sl c
   rw [hs] at h1
   obtain ⟨B,hB,hev⟩ := h1
   obtain ⟨B',hB',⟨us0,e,hheap,hone,hrl⟩,_⟩ := hg.l d b hb
   obtain rfl := hg.inv.injl B B' d hB hB'
   have hl := zea (n := off) hd hag (zgu hheap hone) hrl.full.part
   have fin : ∀ (u : Value) (v : AV),(loadVar ty ⟨B,0 + off,none⟩).run P w = .ok u w→Rep g w u v→((zf3 P S rs).bind fun r=>some (v :: r)) = some vs→∃ us : List Value,RepL g w us vs ∧
     ((ResultVar.cell c ty :: rs).mapM (zk3 a.tmps)).run P w = .ok us w ∧
     (∀ (j t : Nat),(ResultVar.cell c ty :: rs)[j]? = some (.tmp t)→us[j]? = some (a.tmps.getD t undef)∧vs[j]? = some (S.slot t).av)∧(ResultVar.cell c ty :: rs).length = us.length:=by
    intro u v hu hv hk
    rw [Nat.zero_add] at hu
    obtain ⟨r,h1,h2⟩ := zai hk
    obtain ⟨us,hr,hrun,hget,hlen⟩ := zhd hg h1
    injection h2 with h2
    subst h2
    refine ⟨u :: us,⟨by simp [hr.1],fun j u' c' hu' hc=>?_⟩,?_,fun j t' hj=>?_,by simp [hlen]⟩
    ·cases j with
     | zero=>simp only [List.getElem?_cons_zero,Option.some.injEq] at hu' hc; subst hu' hc; exact hv
     | succ j=>exact hr.2 j u' c' (by simpa using hu') (by simpa using hc)
    ·rw [List.mapM_cons]
     simp only [zk3,Sem.run_bind,hev,asAddr,Sem.run_pure,Result.andThen_ok,hu,hrun]
    ·cases j with
     | zero=>simp at hj
     | succ j=>exact hget j t' (by simpa using hj)
   cases ag with
   | true =>
    obtain ⟨h0,hk⟩ := zag hk
    obtain ⟨u,hu,hrep⟩ := hl (zbr h0)
    exact fin u _ hu hrep hk
   | false =>
    obtain ⟨c',hcc,hk⟩ := zai hk
    rw [zcc] at hcc
    obtain ⟨u,hu,hrep,_⟩ := hl c' hcc
    exact fin u _ hu hrep hk
  ·cases h
theorem zq8 {g : G} {w : World} {u : Value} {v : AV} (h : Rep g w u v) (ht : zk1 v = true) (g' : G) (w' : World) (p : Pl) : zat g' w' p u v:=by
 unfold zk1 at ht
 split at ht
 ·exact zj3 h _ _ _
 ·cases ht
theorem zkd {S : St} {g : G} {t : Nat} {v : AV} (hs : S.slot t = .val v .own) (h : Rel g0 w0 Ex g S a w) (j : Nat) : ∃ g1,Rel g0 w0 Ex g1 (S.put t (.val v .no)) a w ∧
  (∀ q x y,(∃ j,q = .r j)→zat g w q x y→zat g1 w q x y)∧(∀ B id,g1.role B = .h id ↔ g.role B = .h id)∧g1.pub = g.pub∧zat g1 w (.r j) (a.tmps.getD t undef) v:=by
 have hlt : t < S.sl.length := zbz (by show S.slot t ≠ _; rw [hs]; simp)
 have hown := (h.slotv hs).2
 have h1 := h.reflag hs (f' := .no) trivial (by simp) (by simp)
 have hnc : zfv (S.put t (.val v .no)) (.s t):=by
  intro v' hv'
  rw [zak,if_pos ⟨rfl,hlt⟩] at hv'
  injection hv' with _ e
  cases e
 obtain ⟨g1,h2,h3,h4,h5,h6,h7,_⟩ := h1.retag hnc hown (.r j)
 exact ⟨g1,h2,fun q x y hq hxy=>h7 q x y (by obtain ⟨j',rfl⟩ := hq; simp) hxy,h4,h6,h3⟩
theorem zjf {S : St} {q t' : Nat} {u : AV} {f f' : Fl} (hs : S.slot q = .val u f) : ((S.put q (.val u f')).slot t').av = (S.slot t').av:=by
 rw [zak]
 split
 ·rename_i he; rw [he.1,hs]; rfl
 ·rfl
theorem zd3 {rs : List ResultVar} : ∀ {rf : List Nat} {S : St} {g : G},zgb S rs rf = true→Rel g0 w0 Ex g S a w→∃ g' S',Rel g0 w0 Ex g' S' a w∧S'.H = S.H∧S'.nx = S.nx ∧
  (∀ q x y,(∃ j,q = .r j)→zat g w q x y→zat g' w q x y)∧(∀ B id,g'.role B = .h id ↔ g.role B = .h id)∧g'.pub = g.pub ∧
  ∀ j ∈ rf,∃ t,rs[j]? = some (.tmp t)∧zat g' w (.r j) (a.tmps.getD t undef) (S.slot t).av
 | [],S,g,_,h=>⟨g,S,h,rfl,rfl,fun _ _ _ _ h=>h,fun _ _=>Iff.rfl,rfl,by simp⟩
 | j :: l,S,g,hr,h=>by
  have tight : ∀ {t : Nat} {v : AV} {f : Fl},rs[j]? = some (.tmp t)→S.slot t = .val v f→(zk1 v && zgb S rs l) = true→∃ g' S',Rel g0 w0 Ex g' S' a w∧S'.H = S.H∧S'.nx = S.nx ∧
    (∀ q x y,(∃ j,q = .r j)→zat g w q x y→zat g' w q x y)∧(∀ B id,g'.role B = .h id ↔ g.role B = .h id)∧g'.pub = g.pub ∧
    ∀ j' ∈ j :: l,∃ t,rs[j']? = some (.tmp t)∧zat g' w (.r j') (a.tmps.getD t undef) (S.slot t).av:=by
   intro t v f ht hs hrr
   rw [Bool.and_eq_true] at hrr
   obtain ⟨g2,S2,h8,h9,h10,h11,h12,h13,h14⟩ := zd3 hrr.2 h
   refine ⟨g2,S2,h8,h9,h10,h11,h12,h13,fun j' hj'=>?_⟩
   rcases List.mem_cons.1 hj' with rfl | hj'
   ·refine ⟨t,ht,?_⟩
    rw [hs]
    exact zq8 (h.slotv hs).1 hrr.1 _ _ _
   ·exact h14 j' hj'
  unfold zgb at hr
  split at hr
  ·rename_i t ht
   have ht' : rs[j]? = some (.tmp t) := ht
   split at hr
   ·rename_i v f hs
    split at hr
    ·obtain ⟨g1,h2,h7,h4,h6,h3⟩ := zkd hs h j
     obtain ⟨g2,S2,h8,h9,h10,h11,h12,h13,h14⟩ := zd3 hr h2
     refine ⟨g2,S2,h8,h9,h10,fun q x y hq hxy=>h11 q x y hq (h7 q x y hq hxy),fun B id=>(h12 B id).trans (h4 B id),h13.trans h6,fun j' hj'=>?_⟩
     rcases List.mem_cons.1 hj' with rfl | hj'
     ·refine ⟨t,ht',?_⟩
      rw [hs]
      exact h11 _ _ _ ⟨j',rfl⟩ h3
     ·obtain ⟨t',ht2,h15⟩ := h14 j' hj'
      exact ⟨t',ht2,by rw [zjf hs] at h15; exact h15⟩
    ·rename_i q
     split at hr
     ·rename_i u fu hq
      split at hr
      ·obtain ⟨e1,e2⟩ := (h.slotv hs).2 u _ rfl hq
       obtain ⟨g1,h2,h7,h4,h6,h3⟩ := zkd hq h j
       obtain ⟨g2,S2,h8,h9,h10,h11,h12,h13,h14⟩ := zd3 hr h2
       refine ⟨g2,S2,h8,h9,h10,fun q x y hq hxy=>h11 q x y hq (h7 q x y hq hxy),fun B id=>(h12 B id).trans (h4 B id),h13.trans h6,fun j' hj'=>?_⟩
       rcases List.mem_cons.1 hj' with rfl | hj'
       ·refine ⟨t,ht',?_⟩
        rw [hs]
        have := h11 _ _ _ ⟨j',rfl⟩ h3
        rw [e1,e2] at this
        exact this
       ·obtain ⟨t',ht2,h15⟩ := h14 j' hj'
        exact ⟨t',ht2,by rw [zjf hq] at h15; exact h15⟩
      ·exact tight ht' hs hr
     ·exact tight ht' hs hr
    ·exact tight ht' hs hr
   ·cases hr
  ·cases hr
theorem ztb {f : Nat} {fn : Func} {out : Out} (hfn : P.funcs[f]? = some fn) (h : znd P (getA A f) fn.results.toList S = some out) (hg : Rel g0 w0 Ex g S a w) :
  ∃ v,(results fn a.tmps).run P w = .ok v w∧∃ g',Ret (getA A f).rf (zek P f) g0 w0 Ex out v g' w:=by
 unfold znd at h
 split at h
 ·cases h
 ·rename_i hro
  obtain ⟨vs,hvs,h2⟩ := zai h
  obtain ⟨us,hrl,hrun0,hget,hlen⟩ := zhd hg hvs
  obtain ⟨g1,S1,h3,hH,hnx,_,hh,hp,hcl⟩ := zd3 hro hg
  have hrun := zo5 (P := P) (w := w) fn a.tmps hrun0
  let g2 : G := ⟨fun B=>match g1.role B with
   | .h id=>.h id
   | .c (.h id off)=>.c (.h id off)
   | .c (.r i)=>.c (.r i)
   | _=>.ext,g1.pub⟩
  have r2 : ∀ B,g2.role B = match g1.role B with
   | .h id=>.h id
   | .c (.h id off)=>.c (.h id off)
   | .c (.r i)=>.c (.r i)
   | _=>.ext := fun _=>rfl
  have h2h : ∀ B id,g2.role B = .h id ↔ g1.role B = .h id:=by
   intro B id
   rw [r2]
   cases hr : g1.role B with
   | c p=>cases p <;> simp
   | _=>simp
  have h2ne : ∀ B,g2.role B ≠ .ext→g1.role B ≠ .ext:=by
   intro B hB he
   apply hB
   rw [r2,he]
  have hE : Ext g1 w g2 w := ⟨fun B id hB=>(h2h B id).2 hB,fun _=>Nat.le_refl _,fun _ _ _=>rfl⟩
  have own2 : ∀ p u c,((∃ id off,p = .h id off) ∨ ∃ i,p = .r i)→zat g1 w p u c→zat g2 w p u c:=by
   intro p u c hp hc
   cases c with
   | vs sz tg l =>
    rcases hc with h | h | ⟨B,n,cap,us,e,h1,h2,h3⟩
    ·exact .inl h
    ·exact .inr (.inl h)
    ·refine .inr (.inr ⟨B,n,cap,us,e,h1,?_,h3⟩)
     rw [r2,h2]
     rcases hp with ⟨id,off,rfl⟩ | ⟨i,rfl⟩ <;> rfl
   | _=>trivial
  have hE0 : Ext g w g1 w := ⟨fun B id hB=>(hh B id).2 hB,fun B=>by rw [hp]; exact Nat.le_refl _,fun _ _ _=>rfl⟩
  have hrepl : RepL g2 w us vs := (hrl.ext hE0).ext hE
  have hcl' : ∀ i ∈ (getA A f).rf,∃ u v,us[i]? = some u∧vs[i]? = some v∧zat g2 w (.r i) u v := fun i hi=>by
   obtain ⟨t,ht,ho⟩ := hcl i hi
   obtain ⟨k1,k2⟩ := hget i t ht
   exact ⟨_,_,k1,k2,own2 _ _ _ (.inr ⟨i,rfl⟩) ho⟩
  have base : ∀ (v : Value) (o : Out),o.H = S.H→o.nx = S.nx→Rep g2 w v o.v→(zek P f = true→0 ∈ (getA A f).rf→zat g2 w (.r 0) v o.v) →
    (zek P f = false→∀ i ∈ (getA A f).rf,∀ us vs ui vi,v = .tuple us→o.v = .tuple vs→us[i]? = some ui→vs[i]? = some vi→zat g2 w (.r i) ui vi)→Ret (getA A f).rf (zek P f) g0 w0 Ex o v g2 w:=by
   intro v o e1 e2 hrep ho1 ho
   refine ⟨⟨fun B hB=>?_,fun B id hB=>h3.inv.ph B id ((h2h B id).1 hB),fun B d hB=>?_,fun B B' id h1 h2=>h3.inv.injh B B' id ((h2h _ _).1 h1) ((h2h _ _).1 h2),fun B B' d h1 _=>?_⟩,?_,hrep,?_,fun B hB=>?_,ho1,ho⟩
   ·obtain ⟨h1,h2⟩ := h3.inv.new B hB
    exact ⟨by rw [r2,h1],h2⟩
   ·rw [r2] at hB; cases hr : g1.role B with
    | c p=>rw [hr] at hB; cases p <;> cases hB
    | _=>rw [hr] at hB; cases hB
   ·rw [r2] at h1; cases hr : g1.role B with
    | c p=>rw [hr] at h1; cases p <;> cases h1
    | _=>rw [hr] at h1; cases h1
   ·rw [e1,e2,← hH,← hnx]
    refine ⟨fun id b hb=>?_,fun B id hB=>h3.h.lt B id ((h2h B id).1 hB)⟩
    obtain ⟨B,hB,⟨us,e,k1,k2,k3⟩,hf⟩ := h3.h.blk id b hb
    exact ⟨B,(h2h B id).2 hB,⟨us,e,k1,k2,k3.ext hE⟩,fun off hoff u v hu hv=>own2 _ _ _ (.inl ⟨id,off,rfl⟩) (hf off hoff u v hu hv)⟩
   ·exact ⟨h3.fr.ext.trans hE,h3.fr.os,h3.fr.tape,h3.fr.output,h3.fr.size,fun B hB hx=>h3.fr.same B hB hx,fun B hB=>h3.fr.role B (h2ne B hB)⟩
   ·rw [r2] at hB
    cases hr : g1.role B with
    | c p=>rw [hr] at hB; cases p <;> simp at hB
    | _=>rw [hr] at hB; simp at hB
  have hone : zek P f = Nat.beq us.length 1:=by
   unfold zek
   rw [hfn]
   simp only
   rw [← Array.length_toList,hlen]
  refine ⟨_,hrun,g2,?_⟩
  match us,vs,hone,hrepl,hcl',h2 with
  | [],[],hone,hrepl,hcl',h2 =>
   injection h2 with h2
   subst h2
   refine base _ _ rfl rfl (.tuple [] [] rfl (by simp)) (fun h=>by rw [hone] at h; cases h) (fun _ i _ us vs ui vi e1 _ e3 _=>?_)
   have e1' : (#[] : Array Value) = us := by injection e1
   subst e1'
   simp at e3
  | [],_ :: _,_,hrepl,_,_=>have := hrepl.1; simp at this
  | [u],[v],hone,hrepl,hcl',h2 =>
   injection h2 with h2
   subst h2
   refine base _ _ rfl rfl (hrepl.2 0 _ _ rfl rfl) (fun _ h0=>?_) (fun h=>by rw [hone] at h; cases h)
   obtain ⟨u',v',hu',hv',ho⟩ := hcl' 0 h0
   simp at hu' hv'
   subst hu' hv'
   exact ho
  | [_],[],_,hrepl,_,_=>have := hrepl.1; simp at this
  | [_],_ :: _ :: _,_,hrepl,_,_=>have := hrepl.1; simp at this
  | u :: u2 :: l,[],_,hrepl,_,_=>have := hrepl.1; simp at this
  | u :: u2 :: l,[_],_,hrepl,_,_=>have := hrepl.1; simp at this
  | u :: u2 :: l,v :: v2 :: m,hone,hrepl,hcl',h2 =>
   injection h2 with h2
   subst h2
   refine base _ _ rfl rfl (.tuple _ _ hrepl.1 hrepl.2) (fun h=>by rw [hone] at h; cases h) (fun _ i hi us vs ui vi e1 e2 e3 e4=>?_)
   obtain ⟨u',v',hu',hv',ho⟩ := hcl' i hi
   have e1' : (u :: u2 :: l).toArray = us := by injection e1
   have e2' : (v :: v2 :: m) = vs := by injection e2
   subst e1' e2'
   rw [List.getElem?_toArray,hu'] at e3
   rw [hv'] at e4
   injection e3 with e3
   injection e4 with e4
   subst e3 e4
   exact ho
theorem zna : ∀ (l : List Slot) (m i t : Nat),nthS (zi2 m i l) t = .und ∨ nthS (zi2 m i l) t = zln (i + t) (nthS l t)
 | [],m,i,t=>.inl (by simp [zi2,nthS])
 | s :: l,m,i,t=>by
  cases t with
  | zero =>
   simp only [zi2]
   split
   ·exact .inr rfl
   ·exact .inl rfl
  | succ t =>
   have ih := zna l (m / 2) (i + 1) t
   rw [show i + 1 + t = i + (t + 1) by omega] at ih
   simp only [zi2]
   split <;> exact ih
theorem zhx : ∀ (l : List Slot) (m i : Nat),(zi2 m i l).length = l.length
 | [],_,_=>rfl
 | s :: l,m,i=>by
  simp only [zi2]
  split <;> simp [zhx l]
theorem Rel.keepm (h : Rel g0 w0 Ex g S a w) (m : Nat) : Rel g0 w0 Ex g (S.keep m) a w:=by
 refine ⟨h.inv,h.h,h.l,h.m,by show (zi2 m 0 S.sl).length = _; rw [zhx]; exact h.len,fun t=>?_,h.fr,h.nodef⟩
 have h1 := (h.sl t).c
 have e : (S.keep m).slot t = nthS (zi2 m 0 S.sl) t := rfl
 rcases zna S.sl m 0 t with h2 | h2
 ·rw [e,h2]; trivial
 ·rw [e,h2,Nat.zero_add]
  have e2 : nthS S.sl t = S.slot t := rfl
  rw [e2]
  cases hs : S.slot t with
  | und=>trivial
  | lp d off =>
   rw [hs] at h1
   simp only [zln]
   cases h3 : Nat.beq d t with
   | false=>trivial
   | true =>
    cases h4 : Nat.beq off 0 with
    | false=>trivial
    | true =>
     obtain rfl := zaz h4
     exact h1
  | mp d =>
   rw [hs] at h1
   exact h1
  | val v f =>
   rw [hs] at h1
   exact zlb.rel h1 _
def Goes (P : Program) (A : List (Nat × Ann)) (f : Nat) (g0 : G) (w0 : World) (Ex : Nat→Prop) (out : Out) (todo : List Item) (a : Act) (w : World) : Prop :=
 ∀ (b : Frame) (cs : List Frame),b.fn = f→b.kind = .normal→∃ v w' fr,(∃ g',Ret (getA A f).rf (zek P f) g0 w0 Ex out v g' w')∧Steps P (lone (b.at a todo) cs w) (lone fr cs w')∧fr.fn = f∧fr.leaving P w' (.returned v)
theorem Goes.step {f : Nat} {out : Out} {todo todo' : List Item} {a' : Act} (h : Goes P A f g0 w0 Ex out todo' a' w') (hs : ∀ (b : Frame) (cs : List Frame),step P (lone (b.at a todo) cs w) = .next (lone (b.at a' todo') cs w')) : Goes P A f g0 w0 Ex out todo a w:=by
 intro b cs hb hk
 obtain ⟨v,w2,fr,h1,h2,h3⟩ := h b cs hb hk
 exact ⟨v,w2,fr,h1,.head (hs b cs) h2,h3⟩
theorem zja : ∀ (n : Nat) (l : List AV) (t : Nat),nthS (zi5 n l) t = .und ∨ ∃ v,l[t]? = some v∧nthS (zi5 n l) t = .val v .no
 | 0,_,t=>.inl (by simp [zi5,nthS])
 | n + 1,[],t=>by
  cases t with
  | zero=>exact .inl rfl
  | succ t =>
   rcases zja n [] t with h | ⟨v,h,_⟩
   ·exact .inl h
   ·simp at h
 | n + 1,a :: l,t=>by
  cases t with
  | zero=>exact .inr ⟨a,rfl,rfl⟩
  | succ t=>exact zja n l t
theorem zes : ∀ (n : Nat) (l : List AV),(zi5 n l).length = n
 | 0,_=>rfl
 | n + 1,[]=>by simp [zi5,zes n]
 | n + 1,a :: l=>by simp [zi5,zes n]
end
section main
variable {P : Program} {A : List (Nat × Ann)} {cal : Oracle}
def RunOk (P : Program) (A : List (Nat × Ann)) (cal : Oracle) (n : Nat) : Prop :=
 ∀ f todo S out,run P A cal n f todo S = some out→∀ g0 w0 Ex a w,((getA A f).imp = false→zki g0 w0 Ex)→zbf A g0 w0→Good g0 w0 Ex S a w→Goes P A f g0 w0 Ex out todo a w
theorem zmi {n : Nat} (h : RunOk P A cal n) : zc6 P A (calN P A cal n):=by
 intro f args H nx out hc
 unfold calN at hc
 split at hc
 ·rename_i fn hfn
  split at hc
  ·rename_i c hb
   split at hc
   ·rename_i hle
    have hle' := zbr hle
    refine ⟨⟨fn,c,hfn,hb⟩,fun g w cargs hi hH hsh himp hgl hargs=>?_⟩
    have hal := hargs.1
    have hgood : Good g w (fun B=>g.role B ≠ .ext) ⟨zi5 fn.ntmps args,[],H,nx,[]⟩ { tmps := cargs.toArray ++ Array.replicate (fn.ntmps - cargs.toArray.size) undef,defers := [] } w:=by
     refine ⟨g,hi,hH,fun d b hb=>(by cases hb),fun d b hb=>(by cases hb),?_,fun t=>?_,⟨Ext.refl _ _,rfl,rfl,rfl,Nat.le_refl _,fun _ _ _=>⟨rfl,rfl⟩,fun B hB=>.inr hB⟩,rfl⟩
     ·show (zi5 fn.ntmps args).length = _
      rw [zes]
      simp only [Array.size_append,List.size_toArray,Array.size_replicate]
      omega
     ·show zbd g _ _ w t (nthS (zi5 fn.ntmps args) t)
      rcases zja fn.ntmps args t with h1 | ⟨v,h1,h2⟩
      ·rw [h1]; trivial
      ·rw [h2]
       refine ⟨?_,trivial⟩
       obtain ⟨u,hu,hr⟩ := hargs.get h1
       have hlt : t < cargs.length := (List.getElem?_eq_some_iff.1 hu).1
       have : (cargs.toArray ++ Array.replicate (fn.ntmps - cargs.toArray.size) undef).getD t undef = u:=by
        rw [Array.getD_eq_getD_getElem?,Array.getElem?_append_left (by simpa using hlt)]
        simp [hu]
       show Rep g w ((cargs.toArray ++ Array.replicate (fn.ntmps - cargs.toArray.size) undef).getD t undef) v
       rw [this]
       exact hr
    intro cs
    let b : Frame := { (default : Frame) with fn := f,kind := .normal }
    have henter : Frame.enter P f cargs.toArray .normal = b.at { tmps := cargs.toArray ++ Array.replicate (fn.ntmps - cargs.toArray.size) undef,defers := [] } [.code c]:=by
     simp [Frame.enter,Frame.at,hfn,hb,b]
    obtain ⟨v,w',fr,⟨g',hret⟩,hs,hf,hl⟩ := h f [.code c] _ out hc g w (fun B=>g.role B ≠ .ext) _ w (fun h0=>⟨hi,fun B hB=>hB (himp h0 B)⟩) hgl hgood b cs rfl rfl
    rw [henter]
    exact ⟨.returned v,w',fr,⟨v,g',rfl,hret⟩,hs,hf,hl⟩
   ·cases hc
  ·cases hc
 ·cases hc
theorem run_ok (hM : P.follows .mixedOrders = true) (hN : ∀ (f : Nat) (fn : Func),P.funcs[f]? = some fn→fn.name ≠ "runtime.NumGoroutine") (hcal : zc6 P A cal) : ∀ n,RunOk P A cal n
 | 0=>by
  intro f todo S out h
  cases h
 | n + 1=>by
  have ih := run_ok hM hN hcal n
  intro f todo S out h g0 w0 Ex a w hfr hgl hgood
  simp only [run] at h
  split at h
  ·cases h
  ·rename_i fn hfn
   have ret : znd P (getA A f) fn.results.toList S = some out→∀ todo,(∀ (b : Frame) (cs : List Frame),step P (lone (b.at a todo) cs w) = .next (lone { b.at a todo with mode := .returning } cs w))→Goes P A f g0 w0 Ex out todo a w:=by
    intro hr todo hs b cs hb hk
    obtain ⟨g,hg⟩ := hgood
    obtain ⟨v,hrun,hret⟩ := ztb hfn hr hg
    refine ⟨v,w,_,hret,.one (hs b cs),hb,rfl,hg.nodef,hk,fn,by show P.funcs[b.fn]? = _; rw [hb]; exact hfn,hrun⟩
   split at h
   ·exact ret h _ (fun b cs=>step_end)
   ·exact (ih _ _ _ _ h _ _ _ _ _ hfr hgl hgood).step fun b cs=>step_inBlock
   ·exact (ih _ _ _ _ h _ _ _ _ _ hfr hgl hgood).step fun b cs=>step_inScope
   ·exact (ih _ _ _ _ h _ _ _ _ _ hfr hgl hgood).step fun b cs=>step_inLoop
   ·rename_i c k
    split at h
    ·exact ret h _ (fun b cs=>step_ret)
    ·exact (ih _ _ _ _ h _ _ _ _ _ hfr hgl hgood).step fun b cs=>step_skip
    ·exact (ih _ _ _ _ h _ _ _ _ _ hfr hgl hgood).step fun b cs=>step_label
    ·exact (ih _ _ _ _ h _ _ _ _ _ hfr hgl hgood).step fun b cs=>step_seq
    ·rename_i x t e
     obtain ⟨bv,hb,h2⟩ := bool?_some h
     obtain ⟨g,hg⟩ := hgood
     have hx := hg.ev x
     rw [hb] at hx
     have hx' := zbt hx
     have hlit : Rel g0 w0 Ex g (S.lit x bv) a w:=by
      cases x with
      | tmp d=>exact hg.lit hb
      | _=>exact hg
     rcases zg0 h2 with ⟨rfl,h3⟩ | ⟨rfl,h3⟩
     ·exact (ih _ _ _ _ h3 _ _ _ _ _ hfr hgl ⟨g,hlit⟩).step fun b cs=>step_cond hx'
     ·exact (ih _ _ _ _ h3 _ _ _ _ _ hfr hgl ⟨g,hlit⟩).step fun b cs=>step_cond hx'
    ·exact (ih _ _ _ _ h _ _ _ _ _ hfr hgl hgood).step fun b cs=>step_block
    ·exact (ih _ _ _ _ h _ _ _ _ _ hfr hgl hgood).step fun b cs=>step_loop
    ·exact (ih _ _ _ _ h _ _ _ _ _ hfr hgl hgood).step fun b cs=>step_scope
    ·split at h
     ·rename_i k' hk'
      exact (ih _ _ _ _ h _ _ _ _ _ hfr hgl hgood).step fun b cs=>step_exit hk'
     ·cases h
    ·split at h
     ·rename_i k' hk'
      exact (ih _ _ _ _ h _ _ _ _ _ hfr hgl hgood).step fun b cs=>step_goto hk'
     ·cases h
    ·rename_i id ops draw
     split at h
     ·
      have hw := ops_ok (g0 := g0) (w0 := w0) (Ex := Ex) (k := fun S'=>zfa (getA A f) id (S'.keep (nthN (getA A f).K id)) fun S''=>run P A cal n f k S'') (r := out) hN hcal hgl hfr (fun e a' w'=>e = .normal∧∃ S',Good g0 w0 Ex S' a' w'∧(zfa (getA A f) id (S'.keep (nthN (getA A f).K id)) fun S''=>run P A cal n f k S'') = some out)
       (fun S' a' w' hgd hk=>⟨rfl,S',hgd,hk⟩) ops.size 0 S a w (Nat.add_zero _) (by rw [List.drop_zero]; exact h) hgood
      rw [List.drop_zero] at hw
      intro b cs hb hk
      obtain ⟨e,a',w',⟨rfl,S',hgd,hrun⟩,harr⟩ := wp_ops _ a w hw b k cs
      obtain ⟨g',hg'⟩ := hgd
      obtain ⟨S2,hgd2,hrun2⟩ := zmf hfr hrun ⟨g',hg'.keepm _⟩
      obtain ⟨v,w2,fr,h1,h2,h3⟩ := ih _ _ _ _ hrun2 _ _ _ _ _ hfr hgl hgd2 b cs hb hk
      exact ⟨v,w2,fr,h1,.head step_region (harr.trans h2),h3⟩
     ·
      obtain ⟨g,hg⟩ := hgood
      have hg2 : Good g0 w0 Ex S a { w with drawn := w.drawn + 1 } := ⟨g,hg.world rfl rfl rfl rfl⟩
      have hw := draw_ok (k := fun S'=>zfa (getA A f) id (S'.keep (nthN (getA A f).K id)) fun S''=>run P A cal n f k S'') (r := out) hN hcal hgl (fun e a' w'=>e = .normal∧∃ S',Good g0 w0 Ex S' a' w'∧(zfa (getA A f) id (S'.keep (nthN (getA A f).K id)) fun S''=>run P A cal n f k S'') = some out)
       (fun S' a' w' hgd hk=>⟨rfl,S',hgd,hk⟩) h hg2
      intro b cs hb hk
      obtain ⟨e,a',w',⟨rfl,S',hgd,hrun⟩,harr⟩ := wp_region_any (id := id) hM hw b k cs
      obtain ⟨g',hg'⟩ := hgd
      obtain ⟨S2,hgd2,hrun2⟩ := zmf hfr hrun ⟨g',hg'.keepm _⟩
      obtain ⟨v,w2,fr,h1,h2,h3⟩ := ih _ _ _ _ hrun2 _ _ _ _ _ hfr hgl hgd2 b cs hb hk
      exact ⟨v,w2,fr,h1,harr.trans h2,h3⟩
    ·cases h
   ·cases h
theorem zo0 (hM : P.follows .mixedOrders = true) (hN : ∀ (f : Nat) (fn : Func),P.funcs[f]? = some fn→fn.name ≠ "runtime.NumGoroutine") (hcal : zc6 P A cal) (n : Nat) : zc6 P A (calN P A cal n) := zmi (run_ok hM hN hcal n)
theorem zql : zc6 P A fun _ _ _ _=>Option.none := fun _ _ _ _ _ h=>by cases h
end main
end Go.Vai
end
section
namespace Go.Proofs.YtfdklpkfpmkgeaaGreatDoor
open Go Go.Vai
def ann : List (Nat × Ann) := [
 (3,⟨[3,4099,16,96,224,134217952,224,480,274877907424,480,992,18014398509482464,16,16],false,[],[],[],[],false⟩),
 (4,⟨[3,8195,16,35,131105,32,352,134217824,16,544,1568,17179870752,1568,81129638414606681695789005145632,16,16],false,[],[],[],[],false⟩),
 (5,⟨[7,1048583,64,135,16777349,132,384,2944,23296,4503599627375360,64,98560,4611686018427486464,64,229632,73786976294838436096,229632,39614081257132168796772204800,64,64],false,[],[],[],[],false⟩),
 (6,⟨[7,134,390,1926,3974,33558406,3974,8070,16262,32646,281474976743302,32646,562949953453958,32646,32646,20358,2361183241434822627206,3974,3974,34688,4835703278458516698859392,34688,34688,329216,1298074214633706907132624082372096,64,591360,2596148429267413814265248165200896,590848,5192296858534827628530496329809920,589824,64],false,[],[],[],[],false⟩),
 (7,⟨[3,131075,16,96,224,4294967520,224,480,992,17592186045408,992,2016,281474976712672,2016,8160,32736,158456325028528675187087902688,16,16],false,[],[],[],[],true⟩),
 (14,⟨[0,10,134217730,1,18,48,1],false,[],[],[],[],false⟩),
 (15,⟨[19,83,4177,80,656,48],false,[],[],[],[],false⟩),
 (16,⟨[2,8,136,4,2097152,4,4],false,[],[],[],[],false⟩),
 (17,⟨[2,120,32840,4,1073741824,4,4],false,[],[],[],[],false⟩),
 (18,⟨[1,9,25,57,32825,57,57,121,121,249,549755814137,249,505,1017,1017,1017,4503599627371513,249,580964351930795001,249,147578456189303784441,249,37778936366556789081081,249,9671406561420633025020921,249,2475880078575264149425619961,249,633825300114119204347978974201,249,162259276829213367895177637659641,2041,249,170141183460469231731687303715884106745,2041,249,57,4],false,[],[],[],[],false⟩),
 (19,⟨[1,9,25,57,32825,57,121,489,1001,1001,68719477673,1321,1168231105449,1961,70368744179113,1321,1125968626319785,1321,36028865738441129,1321,1152921573326324137,1321,36893488147419103657,1321,297,2345,12329,8233,57,4],false,[],[],[],[],false⟩),
 (20,⟨[5,517,28,36,36,100,262244,100,2147483748,100,8796093022308,28,28],false,[],[14],[],[(7,1)],false⟩),
 (21,⟨[2,10,10,57352,122888,57384,57352,57352,8,4],false,[],[7],[],[],true⟩),
 (22,⟨[3,67,16,16],false,[],[],[],[],false⟩),
 (23,⟨[90,768],false,[],[],[],[],true⟩),
 (24,⟨[90,524378,1572954,768,4718682,768,17301594,768,67633242,768,34360262746,1112,2199023256656,768,281474976711760,768,36028797018964032,768,768,147573952589676413018,6208,14400,4835703278458516698839104,14400,768,19807040628566084398385987674,768,49242,245824,114752,1361129467683753853853498429727072960576,4083388403051261561560495289181218652224,4083388403051261561560495289181218652224,4083388403051261561560495289181218652224,768,89204341923590176319996726589023173096882240,89204341923590176319996726589023173096882240,768,1461501638692032385887438686569781449383005503552,1461501637330902918203684832716283019655932657728,768,768],false,[],[],[],[],true⟩),
 (25,⟨[3,1027,16,35,16419,35,1099511627811,16,16],false,[],[],[],[],true⟩),
 (29,⟨[1,17,4,4],false,[],[],[],[],false⟩),
 (34,⟨[3,131,16,16],false,[],[],[],[],false⟩),
 (35,⟨[5,13,1804,3852,1836,67372,1836,1836,1836,1804,1996,1996,1996,1996,1804,1804,4],false,[],[],[],[],false⟩),
 (36,⟨[61,125,262269,125,2045,33556477,100665341,2045,268437501,2045,32765,2045,125,60],false,[],[],[],[],false⟩),
 (37,⟨[1,4],false,[],[],[],[],false⟩),
 (38,⟨[7,263,775,16777991,775,1799,7941,16133,60165,41733,13061,288230376151716613,197381,131845,4869,9444732965739290443525,4869,1237940039285380274899140357,4869,775,192],false,[],[],[],[],false⟩),
 (39,⟨[1,9,25,281,25,4121,25,25,4],false,[],[],[],[],false⟩),
 (40,⟨[7,263,1073742087,192,775,549755814407,1649267442183,192,70918499992071,192,72058143793742343,192,36893488697174917639,192,9444732966289046241799,9444732966289046241799,3584,192,9903520314283042748948808199,12288,192,324518553658426726783705776390663,324518553658426726783705776390663,324518553658426726783705776390663,324518553658426726783156020576775,49669,213504,475136,192,192],false,[],[],[],[],false⟩),
 (41,⟨[31,4127,12319,17592186056735,12319,28703,144115188075884575,432345564227596319,57375,147573952589676470303,229405,884736,3072,40564819207303340847894502580255,3145728,3072,42535295865117307932921825928971034626,3072,3072,5575186299632655785383929568162090376523807,713623846352979940529142984724747568191381506,3072,3072,4218911,5846006549323611672814739330865132078623734374431,23384026197294446691258957323460528314494924890143,29360157,113246208,3072,803469022129495137770981046170581301261101496891396421853215,402653184,3072,105312291668557186697918027683670432318895095400549111254315180059,1610612736,3072,110427941548649020598956093796432407239217743554726184882600387580796955,2147491867,15032393753,55834583040,3072,3885337784451458141838923813647037813284813678104279042503624819477808570410417004546,3072,3072],false,[],[],[],[],false⟩),
 (42,⟨[257,13,131085,0,0],true,[],[],[],[],false⟩),
 (43,⟨[3,16],true,[],[],[],[],false⟩),
 (44,⟨[5,13,13,13,13,16777229,13,12,4],true,[],[3],[],[],false⟩),
 (45,⟨[1031,1,0],true,[],[],[],[],false⟩),
 (46,⟨[71,28741,61509,28997,30277,67139141,29253,28741,28741],true,[],[],[],[],true⟩),
 (47,⟨[2,12],false,[],[],[],[],true⟩),
 (48,⟨[9,9,25,7340057,15728665,7340121,7340121,7340121,7340121,281474984050777,7340121,144115188083195993,7340057,7340057,129127208515966861337,276701161105643274265,129127208515966861593,129127208515966861593,129127208515966861593,129127208515966862361,129127208515966861337,129127208515966861337,9,9,9086519502435948349928368576135177,19471113219505603606989361234575369,9086519502435948349928368576139273,9086519502435948349928368576163849,10642910485781762931580384850818904073,9086519502435948349928368576135177,1361138554203256289801848358095648985097,9086519502435948349928368576135177,9086519502435948349928368576135177],true,[],[],[],[],true⟩),
 (49,⟨[19,0],true,[],[],[],[],false⟩),
 (50,⟨[12,524,16,16],false,[],[],[],[],false⟩),
 (51,⟨[1,257,4,9,8201,9,33554441,25,57,4294967353,57,17592186044473,57,57,9,4,4],true,[],[],[],[],false⟩),
 (52,⟨[12,32780,98316,48,294924,48,1081356,48,4227084,48,536870924,48,76,562949953421324,48,2305843009213693964,48,140,396,2066035336255469781388,4427218577690292388236,2066035336255469782412,2066035336255469787532,2066035336255469781388,2066035336255469781388,1237940039285380274899124616,48,8200,158456325028528675187087908872,48,48],false,[1],[],[],[],true⟩),
 (53,⟨[90,1114,132186,768,2136,4294969424,768,4398046513232,13194139535440,768,2256197860196416,768,144115188075855872,768,768],false,[],[],[],[],true⟩),
 (54,⟨[6,38,1062,38,1048614,16,16],false,[],[],[],[],true⟩),
 (55,⟨[30,4126,768,32792,768,768],false,[],[],[],[],true⟩),
 (56,⟨[90,32858,768,1114,3162,134220890,3162,2199023258714,1114,3162,15424,15424,4722366482869645214784,1024,2417851639229258349413376,768,768],false,[],[],[],[],true⟩),
 (67,⟨[1,17,4,4],false,[],[],[],[],false⟩),
 (77,⟨[7,134,390,8582,390,390,64],false,[],[],[],[],false⟩),
 (78,⟨[1,9,25,537,25,2097177,25,25,4],false,[],[],[],[],false⟩),
 (79,⟨[5,5,21,134217749,12,53,274877906997,20,12,70368744177717,21,84,468,295147905179352826004,12,20,12,9444732965739290427413,21,12,33849922949209616891772949,72535549176877750482370581,33849922949209616891773973,316946499980006559991067575317,1045,20,12,33849922949209616891772949,12],true,[],[],[],[],false⟩),
 (80,⟨[1,17,16,2065,16,16777233,16,12],true,[],[],[],[],false⟩),
 (81,⟨[129,0,0],true,[],[],[],[],false⟩),
 (82,⟨[3,16],true,[],[],[],[],false⟩),
 (83,⟨[19,4115,12307,12307,12307,12307,12307,51,51,536870947,35,1,0,70368744181763,67,67,67,66,0,2361183241434822610947,131,131,131,131,131,1,0,1267650600228229401496703205379,259,259,1,0],true,[],[],[],[],false⟩),
 (84,⟨[0],true,[],[],[],[],false⟩),
 (85,⟨[71,28741,61509,28997,30277,67139141,29253,28741,28741],true,[],[],[],[],true⟩),
 (86,⟨[2,12],false,[],[],[],[],false⟩),
 (87,⟨[71,28741,61509,28997,30277,67139141,29253,28741,28741],true,[],[],[],[],true⟩),
 (88,⟨[2,12],false,[],[],[],[],false⟩),
 (89,⟨[21,917521,1966097,917649,34472081,918417,918417,281474977628305,917649,917649,917521,920721,933009,949393,941201,302231454903657294617745,941201,38685626227668133591538833,941201,79228162514264337593544891537,316912650057057350374176741521,936081,1034385,1034385,340282366920938463463374607431769129105,917521,917521],true,[],[],[],[],true⟩),
 (90,⟨[71,28741,61509,28997,30277,67139141,29253,28741,28741],true,[],[],[],[],true⟩),
 (91,⟨[2,12],false,[],[],[],[],false⟩),
 (92,⟨[71,28741,61509,28997,30277,67139141,29253,28741,28741],true,[],[],[],[],true⟩),
 (93,⟨[2,12],false,[],[],[],[],false⟩),
 (94,⟨[22,3602,7698,3730,265874,48,3602,48],false,[],[],[],[],true⟩),
 (95,⟨[1055,3103,7199,33561631,0,4294974495,0,549755821087,7199,7199,31775,72057594037959711,15391,15391,31775,37778931862957161724959,1208925819614629174721567,158456325028528675187087916063,35869,3103,200735,71711,858143,1902623,42535295865117307932921825928972929055,68639,68637,3103,68639,68635,3103],true,[],[],[],[],false⟩),
 (96,⟨[1,4,4],false,[],[],[],[],false⟩),
 (97,⟨[12,14348,30732,14476,2111628,48,14348,776,8589934856,48,549755814152,1649267441928,48,18141941858312,18141941858312,48,140737488355336,48,48],false,[1],[],[],[],true⟩),
 (98,⟨[12,204,65736,48,16777288,48,2147483656,48,48],false,[1],[],[],[],true⟩),
 (99,⟨[6,48],false,[1],[],[],[],true⟩),
 (100,⟨[12,16396,48,76,204,972,8796093022412,204,36028797018964172,204,3272,3272,4835703278458516698824776,64,2475880078570760549798248512,48,48],false,[1],[],[],[],true⟩),
 (101,⟨[3,97,481,1073742304,3221225952,3221225952,3221225952,34359738368,16,69793218912,69793218912,69793218912,1099511627776,16,2200096997728,2200096997728,70368744177664,16,140738562097504,140738562097504,140738562097504,140737488355680,288230376151711744,16,16],false,[],[],[],[],true⟩),
 (102,⟨[3,35,547,35,262179,16,16],false,[],[],[],[],true⟩),
 (103,⟨[42,131112,64,136,64],false,[],[],[],[],true⟩),
 (113,⟨[1,8,24,4,72,4,264,264,264,264,264,264,264,4,65544,65544,4,524288,4,4],false,[],[],[],[],false⟩),
 (139,⟨[4097,2097153,6291457,6291457,6291457,6291457,1,17179869185,5,140737488355333,5,1],true,[],[],[],[],false⟩),
 (140,⟨[1,4],false,[],[],[],[],false⟩),
 (141,⟨[3,35,4294967331,35,16],true,[],[],[],[],false⟩),
 (142,⟨[1,4],false,[],[],[],[],false⟩),
 (143,⟨[1,4],false,[],[],[],[],false⟩),
 (145,⟨[25,89,217,1048793,217,473,536871385,88,549755813976,48,24,48,35184372089305,217,18889465931478580855001,48,473,4835703278458516698825177,48,217,48],true,[],[],[],[],false⟩),
 (146,⟨[3,16],false,[],[],[],[],false⟩),
 (147,⟨[1,4],false,[],[],[],[],false⟩),
 (148,⟨[3,897,1921,993,66465,32,16,897,0,16],true,[],[],[],[],false⟩),
 (149,⟨[1,9,9,265,9,32777,9,9,8,4],true,[],[],[],[],false⟩),
 (150,⟨[1,9,9,32777,9,8,4],true,[],[],[],[],false⟩),
 (151,⟨[5,4],true,[],[],[],[],false⟩),
 (152,⟨[6,70,4,4],false,[],[],[],[],true⟩),
 (153,⟨[1,16,48,12,144,12,528,12,2048,12,12],false,[],[],[],[],false⟩),
 (154,⟨[271,16655,271,783,17179869967,783,783],true,[],[],[],[],false⟩),
 (155,⟨[271,783,1801,3849,2101001,3849,3849,4873,8589939465,4873,4873,4873],true,[],[],[],[],false⟩),
 (156,⟨[259,131331,771,1795,3843,34359742211,3843,7939,35184372096771,7939,3843],true,[],[9],[],[],false⟩),
 (157,⟨[15,1035,3083,7179,15371,31753,17179900937,68719507465,30729,30729,30729,10240,36028797018972160,768,180143985094828032,768,1152921504606855168,768],true,[],[11],[],[],false⟩),
 (158,⟨[261,769,33537,769,769,769],true,[],[],[],[],false⟩),
 (159,⟨[15,527,1551,67087,1551,68719478287,1551,2199023257103,256,35184372090383,256,1551,36893488147419104783,3599,590295810358705655311,3599,19342813113834066795302415,3599,20282409603651670423947251287567,5647,649037107316853453566312041158159,5647,21267647932558653966460912964485518863,5647,256],true,[],[],[],[],false⟩),
 (160,⟨[31,23,6163,140737488361491,6163,36893488147419109395,6163,1180591620717411309587,6163,6163,6163,1024],true,[],[],[],[],false⟩),
 (161,⟨[31,23,12307,140737488367635,12307,73786976294838218771,12307,2361183241434822619155,8192,3072,12307,12307,12307,1329227995784915872903807060280356883,12307,696898287454081973172991196020261297074195,12307,22300745198530623141535718272648361505992723,12307,12307,12307,8192,3072],true,[],[],[],[],false⟩),
 (162,⟨[5,21,1,5,261,5,5,4],false,[],[],[],[],false⟩),
 (163,⟨[5,21,1,5,261,5,5,16389,5,5,4],false,[],[],[],[],false⟩),
 (164,⟨[22,3606,7702,3734,265750,48,3606,8388630,48,48],false,[],[],[],[],true⟩),
 (184,⟨[3,16],false,[],[],[],[],false⟩),
 (185,⟨[3,16],false,[],[],[],[],false⟩),
 (186,⟨[5,13,13,12,4],true,[],[],[],[],false⟩),
 (187,⟨[5,13,2061,13,13,13,13,13,33554445,13,13,12,4,13,13,70368744177677,13,13,12,4],true,[],[],[],[],false⟩),
 (188,⟨[19,147,16,51,536870963,51,51,51,36028797018964019,16],true,[],[],[],[],false⟩),
 (189,⟨[1053,3101,265245,1099511630877,3101,288230376151714845,2077,1053],true,[],[],[],[],false⟩),
 (190,⟨[1,4],false,[],[],[],[],false⟩),
 (191,⟨[1,1,1,1,4],true,[],[],[],[],false⟩),
 (192,⟨[15,256],true,[],[],[],[],false⟩),
 (193,⟨[63,63,55,4,4096],true,[],[],[],[],false⟩),
 (212,⟨[3,387,899,419,65955,16,387,16],false,[],[],[],[],false⟩),
 (213,⟨[65,1,0],true,[],[],[],[],false⟩),
 (214,⟨[0],true,[],[],[],[],false⟩),
 (215,⟨[5,2053,4,13,13,13,13,12,4],true,[],[],[],[],false⟩),
 (216,⟨[31,4194318,6,3072,3072],true,[],[],[],[],false⟩),
 (231,⟨[5,13,29,21,20,524317,21,20,536870941,21,20,549755813909,21,20,70368744177685,21,20,4503599627370517,21,21,21,21,20,295147905179352825877,21,21,21,21,20,4],true,[],[],[],[],false⟩),
 (1000000,⟨[],false,[],[],[(3,[(.vs 1 true [(.str [123]),(.str [125]),(.str [40]),(.str [41]),(.str [59]),(.str [44]),(.str [61,61]),(.str [61]),(.str [33,61]),(.str [33]),(.str [60,61]),(.str [60]),(.str [62,61]),(.str [62]),(.str [43]),(.str [45]),(.str [42]),(.str [38,38]),(.str [124,124])])]),(4,[(.vs 1 true [(.str [116,121,112,101]),(.str [114,101,103,105,115,116,101,114]),(.str [99,111,117,110,116,101,114]),(.str [109,97,120]),(.str [115,101,116]),(.str [102,108,97,103]),(.str [111,112]),(.str [113,117,101,114,121]),(.str [105,110,100,101,120]),(.str [119,114,105,116,101]),(.str [97,100,100]),(.str [114,97,105,115,101]),(.str [105,110,115,101,114,116]),(.str [109,97,114,107]),(.str [105,102]),(.str [101,108,115,101]),(.str [105,110,116]),(.str [116,101,120,116]),(.str [98,111,111,108]),(.str [116,114,117,101]),(.str [102,97,108,115,101]),(.str [104,97,115]),(.str [115,105,122,101])])]),(5,[(.int .u64 1),(.int .u64 10),(.int .u64 100),(.int .u64 1000),(.int .u64 10000),(.int .u64 100000),(.int .u64 1000000),(.int .u64 10000000),(.int .u64 100000000),(.int .u64 1000000000),(.int .u64 10000000000),(.int .u64 100000000000),(.int .u64 1000000000000),(.int .u64 10000000000000),(.int .u64 100000000000000),(.int .u64 1000000000000000),(.int .u64 10000000000000000),(.int .u64 100000000000000000),(.int .u64 1000000000000000000),(.int .u64 10000000000000000000)]),(6,[(.iface 319 (.cptr [(.str [105,110,118,97,108,105,100,32,115,121,110,116,97,120])]))]),(7,[(.iface 319 (.cptr [(.str [118,97,108,117,101,32,111,117,116,32,111,102,32,114,97,110,103,101])]))]),(9,[(.int .u8 0),(.int .u8 1),(.int .u8 28),(.int .u8 2),(.int .u8 29),(.int .u8 14),(.int .u8 24),(.int .u8 3),(.int .u8 30),(.int .u8 22),(.int .u8 20),(.int .u8 15),(.int .u8 25),(.int .u8 17),(.int .u8 4),(.int .u8 8),(.int .u8 31),(.int .u8 27),(.int .u8 13),(.int .u8 23),(.int .u8 21),(.int .u8 19),(.int .u8 16),(.int .u8 7),(.int .u8 26),(.int .u8 12),(.int .u8 18),(.int .u8 6),(.int .u8 11),(.int .u8 5),(.int .u8 10),(.int .u8 9)]),(10,[(.int .u8 0),(.int .u8 1),(.int .u8 56),(.int .u8 2),(.int .u8 57),(.int .u8 49),(.int .u8 28),(.int .u8 3),(.int .u8 61),(.int .u8 58),(.int .u8 42),(.int .u8 50),(.int .u8 38),(.int .u8 29),(.int .u8 17),(.int .u8 4),(.int .u8 62),(.int .u8 47),(.int .u8 59),(.int .u8 36),(.int .u8 45),(.int .u8 43),(.int .u8 51),(.int .u8 22),(.int .u8 53),(.int .u8 39),(.int .u8 33),(.int .u8 30),(.int .u8 24),(.int .u8 18),(.int .u8 12),(.int .u8 5),(.int .u8 63),(.int .u8 55),(.int .u8 48),(.int .u8 27),(.int .u8 60),(.int .u8 41),(.int .u8 37),(.int .u8 16),(.int .u8 46),(.int .u8 35),(.int .u8 44),(.int .u8 21),(.int .u8 52),(.int .u8 32),(.int .u8 23),(.int .u8 11),(.int .u8 54),(.int .u8 26),(.int .u8 40),(.int .u8 15),(.int .u8 34),(.int .u8 20),(.int .u8 31),(.int .u8 10),(.int .u8 25),(.int .u8 14),(.int .u8 19),(.int .u8 9),(.int .u8 13),(.int .u8 8),(.int .u8 7),(.int .u8 6)])],[],false⟩)]
def goTo : List Nat→List Item→List Item
 | [],k=>k
 | 0 :: p,.code (.seq a b) :: k=>goTo p (.code a :: .code b :: k)
 | 2 :: p,.code (.block id b) :: k=>goTo p (.code b :: .inBlock id :: k)
 | 3 :: p,.code (.loop b) :: k=>goTo p (.code b :: .inLoop b :: k)
 | 4 :: p,.code (.scope b) :: k=>goTo p (.code b :: .inScope b :: k)
 | 5 :: p,_ :: k=>goTo p k
 | 6 :: p,.code (.cond _ t _) :: k=>goTo p (.code t :: k)
 | 7 :: p,.code (.cond _ _ e) :: k=>goTo p (.code e :: k)
 | 9 :: l :: p,k=>match gotoIn l k with
  | some k'=>goTo p k'
  | none=>[]
 | _,_=>[]
noncomputable def zaq (f : Nat) : List Item := match Tryz.prog.funcs[f]? with
 | some fn=>match fn.body with
  | some c=>[.code c]
  | none=>[]
 | none=>[]
noncomputable def zsm (f : Nat) (d : Nat) : Bool := match Tryz.prog.funcs[f]? with
 | some fn=>memN d (zg6 fn.results.toList)
 | none=>false
def mkL (l : List (Nat × Slot)) : Nat→Nat→List Slot
 | 0,_=>[]
 | n + 1,i=>(match l with
  | (t,s) :: r=>match Nat.beq t i with
   | true=>s :: mkL r n (i + 1)
   | false=>.und :: mkL ((t,s) :: r) n (i + 1)
  | []=>.und :: mkL [] n (i + 1))
def mkS (n : Nat) (l : List (Nat × Slot)) (L : List (Nat × Blk)) (H : Hp) (nx : Nat) : St := ⟨mkL l n 0,L,H,nx,[]⟩
noncomputable def zmy (cal : Oracle) (n : Nat) (f : Nat) (todo : List Item) (i : Nat) (S : St) : Option Out := match todo with
 | .code (.region id ops draw) :: k=>match draw with
  | false=>zcs Tryz.prog ann (getA ann f) (zsm f) cal ops.toList (ops.toList.drop i) S fun S'=>zfa (getA ann f) id (S'.keep (nthN (getA ann f).K id)) fun S''=>run Tryz.prog ann cal n f k S''
  | true=>zmb Tryz.prog ann (getA ann f) (zsm f) cal ops.toList (zar (zha ann ops (zb4 ops.toList []) ops.toList)) (zha ann ops (zb4 ops.toList []) ops.toList) i ((zha ann ops (zb4 ops.toList []) ops.toList).drop i) (ops.toList.drop i) S fun S' =>
   zfa (getA ann f) id (S'.keep (nthN (getA ann f).K id)) fun S''=>run Tryz.prog ann cal n f k S''
 | _=>none
def EvF (F : Nat→Option Out) (out : Out) : Prop := ∃ m,∀ n,m ≤ n→F n = some out
end Go.Proofs.YtfdklpkfpmkgeaaGreatDoor
end
section
namespace Go.Vai
open Go.RowKit
def ziz (W : World) (B : Nat) : Nat := match W.heap[B]? with
 | some (.cells c _ _)=>c.size
 | _=>0
def zcj (W : World) : G := ⟨fun _=>.ext,ziz W⟩
theorem zr0 (W : World) : Inv (zcj W) W:=by
 refine ⟨fun B hB=>⟨rfl,?_⟩,fun _ _ h=>(by cases h),fun _ _ h=>(by cases h),fun _ _ _ h=>(by cases h),fun _ _ _ h=>(by cases h)⟩
 show ziz W B = 0
 unfold ziz
 rw [Array.getElem?_eq_none hB]
theorem zed {W : World} {B o : Nat} {u : Value} (h : W.cell? ⟨B,o,none⟩ = some u) : o < (zcj W).pub B:=by
 show o < ziz W B
 unfold ziz
 unfold World.cell? at h
 simp only at h
 cases hb : W.heap[B]? with
 | none=>rw [hb] at h; cases h
 | some x =>
  rw [hb] at h
  cases x <;> simp_all
  exact (Array.getElem?_eq_some_iff.1 h).1
theorem zrd {P : Program} {A : List (Nat × Ann)} {cal : Oracle} (hcal : zc6 P A cal) {f : Nat} {args : List AV} {out : Out} (h : cal f args Hp.none 0 = some out) {W : World} {cargs : List Value} (hrep : RepL (zcj W) W cargs args) (hgl : zbf A (zcj W) W) :
  Calls P f cargs.toArray W fun e w'=>∃ u g',e = .returned u∧Rep g' w' u out.v∧Below W.heap.size W w':=by
 obtain ⟨_,h2⟩ := hcal _ _ _ _ _ h
 refine (h2 (zcj W) W cargs (zr0 W) ⟨fun _ _ hb=>(by cases hb),fun _ _ hB=>(by cases hB)⟩ (fun _=>.inl rfl) (fun _ _=>rfl) hgl hrep).mono ?_
 rintro e w' ⟨v,g',rfl,hret⟩
 exact ⟨v,g',rfl,hret.rep,⟨hret.fr.os,hret.fr.tape,hret.fr.output,hret.fr.size,fun B hB=>(hret.fr.same B hB (fun hx=>hx rfl)).1⟩⟩
theorem law_true {P : Program} {A : List (Nat × Ann)} {cal : Oracle} (hcal : zc6 P A cal) {f : Nat} {args : List AV} {H : Hp} {nx : Nat} (h : cal f args Hp.none 0 = some ⟨.bool true,H,nx⟩) {W : World} {cargs : List Value} (hrep : RepL (zcj W) W cargs args) (hgl : zbf A (zcj W) W) :
  Calls P f cargs.toArray W fun e w'=>e = .returned (.bool true)∧Below W.heap.size W w':=by
 refine (zrd hcal h hrep hgl).mono ?_
 rintro e w' ⟨u,g',rfl,hr,hb⟩
 rw [zbt hr]
 exact ⟨rfl,hb⟩
theorem zpx {g : G} {w : World} : RepL g w [] [] := ⟨rfl,by simp⟩
theorem zgx {g : G} {w : World} {u : Value} {v : AV} {us : List Value} {vs : List AV} (h : Rep g w u v) (t : RepL g w us vs) : RepL g w (u :: us) (v :: vs):=by
 refine ⟨by simp [t.1],fun j u' c hu hc=>?_⟩
 cases j with
 | zero=>simp at hu hc; subst hu hc; exact h
 | succ j=>exact t.2 j u' c (by simpa using hu) (by simpa using hc)
theorem znh {P : Program} {A : List (Nat × Ann)} (hM : P.follows .mixedOrders = true) (hN : ∀ (f : Nat) (fn : Func),P.funcs[f]? = some fn→fn.name ≠ "runtime.NumGoroutine") (n : Nat) : ∀ d,zc6 P A (lvl P A n d)
 | 0=>zql
 | d + 1=>zo0 hM hN (znh hM hN n d) n
end Go.Vai
end
section
namespace Go.Vai
def EvC (P : Program) (A : List (Nat × Ann)) (cal : Oracle) (g : Nat) (args : List AV) (H : Hp) (nx : Nat) (out : Out) : Prop := ∃ m,∀ n,m ≤ n→calN P A cal n g args H nx = some out
theorem EvC.uniq {P : Program} {A : List (Nat × Ann)} {cal : Oracle} {g : Nat} {args : List AV} {H : Hp} {nx : Nat} {o o' : Out} (h : EvC P A cal g args H nx o) (h' : EvC P A cal g args H nx o') : o = o':=by
 obtain ⟨m,hm⟩ := h
 obtain ⟨m',hm'⟩ := h'
 have h1 := hm (m + m') (by omega)
 have h2 := hm' (m + m') (by omega)
 rw [h1] at h2
 injection h2
open Classical in
noncomputable def calW (P : Program) (A : List (Nat × Ann)) (base : Oracle) : Nat→Oracle
 | 0=>base
 | d + 1=>fun g args H nx=>match base g args H nx with
  | some o=>some o
  | none=>if h : ∃ out,EvC P A (calW P A base d) g args H nx out then some h.choose else none
theorem zoe {P : Program} {A : List (Nat × Ann)} {base : Oracle} (hM : P.follows .mixedOrders = true) (hN : ∀ (f : Nat) (fn : Func),P.funcs[f]? = some fn→fn.name ≠ "runtime.NumGoroutine") (hb : zc6 P A base) : ∀ d,zc6 P A (calW P A base d)
 | 0=>hb
 | d + 1=>by
  intro f args H nx out hc
  unfold calW at hc
  split at hc
  ·rename_i o ho
   injection hc with hc
   subst hc
   exact hb _ _ _ _ _ ho
  ·split at hc
   ·rename_i h
    injection hc with hc
    obtain ⟨m,hm⟩ := h.choose_spec
    rw [hc] at hm
    exact zo0 hM hN (zoe hM hN hb d) m _ _ _ _ _ (hm m (Nat.le_refl _))
   ·cases hc
theorem calW_of {P : Program} {A : List (Nat × Ann)} {base : Oracle} {d g : Nat} {args : List AV} {H : Hp} {nx : Nat} {out : Out} (h0 : base g args H nx = none) (h : EvC P A (calW P A base d) g args H nx out) : calW P A base (d + 1) g args H nx = some out:=by
 show (match base g args H nx with
  | some o=>some o
  | none=>_) = _
 rw [h0]
 simp only
 have he : ∃ out,EvC P A (calW P A base d) g args H nx out := ⟨out,h⟩
 rw [dif_pos he,he.choose_spec.uniq h]
theorem zsw {P : Program} {A : List (Nat × Ann)} {base : Oracle} {g : Nat} {args : List AV} {H : Hp} {nx : Nat} {out : Out} (h0 : base g args H nx = some out) : ∀ d,calW P A base d g args H nx = some out
 | 0=>h0
 | d + 1=>by
  show (match base g args H nx with
   | some o=>some o
   | none=>_) = _
  rw [h0]
def zko (g : Nat) (cal : Oracle) : Oracle := fun f args H nx=>match Nat.beq f g with
 | true=>match args with
  | []=>match H with
   | []=>match nx with
    | 0=>cal g [] Hp.none 0
    | _=>none
   | _=>none
  | _=>none
 | false=>none
theorem zqi {P : Program} {A : List (Nat × Ann)} {cal : Oracle} (h : zc6 P A cal) (g : Nat) : zc6 P A (zko g cal):=by
 intro f args H nx out hc
 unfold zko at hc
 split at hc
 ·rename_i hf
  obtain rfl := Nat.eq_of_beq_eq_true hf
  split at hc
  ·split at hc
   ·split at hc
    ·exact h _ _ _ _ _ hc
    ·cases hc
   ·cases hc
  ·cases hc
 ·cases hc
end Go.Vai
end
section
namespace Go.Proofs.YtfdklpkfpmkgeaaGreatDoor
open Go Go.Vai
open Classical in
noncomputable def lim (F : Nat→Option Out) : Option Out := if h : ∃ out,EvF F out then some h.choose else none
theorem EvF.uniq {F : Nat→Option Out} {o o' : Out} (h : EvF F o) (h' : EvF F o') : o = o':=by
 obtain ⟨m,hm⟩ := h
 obtain ⟨m',hm'⟩ := h'
 have h1 := hm (m + m') (by omega)
 have h2 := hm' (m + m') (by omega)
 rw [h1] at h2
 injection h2
theorem zje {F : Nat→Option Out} {o : Out} (h : EvF F o) : lim F = some o:=by
 unfold lim
 have he : ∃ out,EvF F out := ⟨o,h⟩
 rw [dif_pos he,he.choose_spec.uniq h]
theorem zgp {F : Nat→Option Out} {o : Out} (h : lim F = some o) : EvF F o:=by
 unfold lim at h
 split at h
 ·rename_i he
  injection h with h
  rw [← h]
  exact he.choose_spec
 ·cases h
theorem lim_ext {F G : Nat→Option Out} (h : ∀ o,EvF F o ↔ EvF G o) : lim F = lim G:=by
 cases hf : lim F with
 | some o=>exact (zje ((h o).1 (zgp hf))).symm
 | none =>
  cases hg : lim G with
  | none=>rfl
  | some o =>
   rw [zje ((h o).2 (zgp hg))] at hf
   cases hf
theorem zgl (F : Nat→Option Out) (k : Nat) : lim (fun n=>F (n + k)) = lim F:=by
 refine lim_ext fun o=>⟨?_,?_⟩
 ·rintro ⟨m,hm⟩
  refine ⟨m + k,fun n hn=>?_⟩
  have := hm (n - k) (by omega)
  simp only at this
  rwa [show n - k + k = n by omega] at this
 ·rintro ⟨m,hm⟩
  exact ⟨m,fun n hn=>hm _ (by omega)⟩
theorem lim_some (o : Out) : lim (fun _=>some o) = some o := zje ⟨0,fun _ _=>rfl⟩
theorem zfg : lim (fun _=>none) = none:=by
 cases h : lim (fun _=>none) with
 | none=>rfl
 | some o =>
  obtain ⟨m,hm⟩ := zgp h
  cases hm m (Nat.le_refl _)
inductive Tr : Type 1
 | none
 | ret (o : Out)
 | br (c : Bool) (a b : Tr)
 | bind {α : Type} (o : Option α) (K : α→Tr)
 | call (g : Nat) (args : List AV) (H : Hp) (nx : Nat) (K : Out→Tr)
 | run (k : Nat) (p : List Nat) (S : St)
 | mid (k : Nat) (p : List Nat) (i : Nat) (S : St)
 | fnd (key : AV) (l : List (AV × AV)) (K : Option AV→Tr)
 | look (key : AV) (l : List (AV × AV)) (z : AV) (K : AV→Tr)
 | isb (v : AV) (K : Bool→Tr)
theorem eq1_ans (a b : AV) : (∀ (R : Type) (k : Bool→Option R),eq1 a b k = none) ∨ ∃ e,∀ (R : Type) (k : Bool→Option R),eq1 a b k = k e:=by
 cases a <;> cases b <;> first | exact Or.inl fun _ _=>rfl | exact Or.inr ⟨_,fun _ _=>rfl⟩ | skip
 rename_i i x j y
 cases h : zd4 i j with
 | true=>exact Or.inr ⟨decide (x = y),fun R k=>by show Vai.br (zd4 i j) _ _ = _; rw [h]; rfl⟩
 | false=>exact Or.inl fun R k=>by show Vai.br (zd4 i j) _ _ = _; rw [h]; rfl
def optE {R : Type} (r : Option AV) (n : R) (s : AV→R) : R := match r with
 | some v=>s v
 | none=>n
theorem zf6 (key : AV) : ∀ l : List (AV × AV),(∀ (R : Type) (k : Option AV→Option R),zd2 key l k = none) ∨ ∃ r,∀ (R : Type) (k : Option AV→Option R),zd2 key l k = k r
 | []=>Or.inr ⟨none,fun _ _=>rfl⟩
 | (a,v) :: l=>by
  rcases eq1_ans key a with h | ⟨e,h⟩
  ·exact Or.inl fun R k=>h R _
  ·cases e with
   | true=>exact Or.inr ⟨some v,fun R k=>h R _⟩
   | false =>
    rcases zf6 key l with h' | ⟨r,h'⟩
    ·exact Or.inl fun R k=>(h R _).trans (h' R k)
    ·exact Or.inr ⟨r,fun R k=>(h R _).trans (h' R k)⟩
noncomputable def Tr.at (cal : Oracle) (f : Nat) (n : Nat) : Tr→Option Out
 | .none=>Option.none
 | .ret o=>some o
 | .br c a b=>Vai.br c (a.at cal f n) (b.at cal f n)
 | .bind o K=>o.bind fun x=>(K x).at cal f n
 | .call g args H nx K=>(cal g args H nx).bind fun x=>(K x).at cal f n
 | .run k p S=>Vai.run Tryz.prog ann cal (n + k) f (goTo p (zaq f)) S
 | .mid k p i S=>zmy cal (n + k) f (goTo p (zaq f)) i S
 | .fnd key l K=>zd2 key l fun r=>(K r).at cal f n
 | .look key l z K=>zd2 key l fun r=>optE r ((K z).at cal f n) fun v=>(K v).at cal f n
 | .isb v K=>v.bool? fun b=>(K b).at cal f n
noncomputable def Rn (cal : Oracle) (f : Nat) (p : List Nat) (S : St) : Option Out := lim fun n=>Vai.run Tryz.prog ann cal n f (goTo p (zaq f)) S
noncomputable def Mn (cal : Oracle) (f : Nat) (p : List Nat) (i : Nat) (S : St) : Option Out := lim fun n=>zmy cal n f (goTo p (zaq f)) i S
noncomputable def Tr.lim (cal : Oracle) (f : Nat) : Tr→Option Out
 | .none=>Option.none
 | .ret o=>some o
 | .br c a b=>Vai.br c (a.lim cal f) (b.lim cal f)
 | .bind o K=>o.bind fun x=>(K x).lim cal f
 | .call g args H nx K=>(cal g args H nx).bind fun x=>(K x).lim cal f
 | .run _ p S=>Rn cal f p S
 | .mid _ p i S=>Mn cal f p i S
 | .fnd key l K=>zd2 key l fun r=>(K r).lim cal f
 | .look key l z K=>zd2 key l fun r=>optE r ((K z).lim cal f) fun v=>(K v).lim cal f
 | .isb v K=>v.bool? fun b=>(K b).lim cal f
theorem lim_tr (cal : Oracle) (f : Nat) (t : Tr) : Go.Proofs.YtfdklpkfpmkgeaaGreatDoor.lim (fun n=>t.at cal f n) = t.lim cal f:=by
 induction t with
 | none=>exact zfg
 | ret o=>exact lim_some o
 | br c a b iha ihb=>cases c <;> assumption
 | bind o K ih =>
  cases o with
  | none=>exact zfg
  | some x=>exact ih x
 | call g args H nx K ih =>
  show Go.Proofs.YtfdklpkfpmkgeaaGreatDoor.lim (fun n=>(cal g args H nx).bind fun x=>(K x).at cal f n) = (cal g args H nx).bind fun x=>(K x).lim cal f
  cases cal g args H nx with
  | none=>exact zfg
  | some x=>exact ih x
 | run k p S=>exact zgl (fun n=>Vai.run Tryz.prog ann cal n f (goTo p (zaq f)) S) k
 | mid k p i S=>exact zgl (fun n=>zmy cal n f (goTo p (zaq f)) i S) k
 | fnd key l K ih =>
  rcases zf6 key l with h | ⟨r,h⟩
  ·show Go.Proofs.YtfdklpkfpmkgeaaGreatDoor.lim (fun n=>zd2 key l fun r=>(K r).at cal f n) = zd2 key l fun r=>(K r).lim cal f
   simp only [h]
   exact zfg
  ·show Go.Proofs.YtfdklpkfpmkgeaaGreatDoor.lim (fun n=>zd2 key l fun r=>(K r).at cal f n) = zd2 key l fun r=>(K r).lim cal f
   simp only [h]
   exact ih r
 | look key l z K ih =>
  show Go.Proofs.YtfdklpkfpmkgeaaGreatDoor.lim (fun n=>zd2 key l fun r=>optE r ((K z).at cal f n) fun v=>(K v).at cal f n) = zd2 key l fun r=>optE r ((K z).lim cal f) fun v=>(K v).lim cal f
  rcases zf6 key l with h | ⟨r,h⟩
  ·simp only [h]
   exact zfg
  ·simp only [h]
   cases r with
   | none=>exact ih z
   | some v=>exact ih v
 | isb v K ih =>
  cases v <;> first | exact zfg | exact ih _
theorem stRn {cal : Oracle} {f : Nat} {p : List Nat} {S : St} (K : Nat) {t : Tr} (h : ∀ n,Vai.run Tryz.prog ann cal (n + K) f (goTo p (zaq f)) S = t.at cal f n) : Rn cal f p S = t.lim cal f:=by
 rw [← lim_tr]
 exact (zgl _ K).symm.trans (congrArg Go.Proofs.YtfdklpkfpmkgeaaGreatDoor.lim (funext h))
theorem stMn {cal : Oracle} {f : Nat} {p : List Nat} {i : Nat} {S : St} (K : Nat) {t : Tr} (h : ∀ n,zmy cal (n + K) f (goTo p (zaq f)) i S = t.at cal f n) : Mn cal f p i S = t.lim cal f:=by
 rw [← lim_tr]
 exact (zgl _ K).symm.trans (congrArg Go.Proofs.YtfdklpkfpmkgeaaGreatDoor.lim (funext h))
section
variable (C : Nat→Oracle)
noncomputable def calL : Oracle := fun g args H nx=>lim fun d=>C d g args H nx
noncomputable def RL (f : Nat) (p : List Nat) (S : St) : Option Out := lim fun d=>Rn (C d) f p S
noncomputable def ML (f : Nat) (p : List Nat) (i : Nat) (S : St) : Option Out := lim fun d=>Mn (C d) f p i S
noncomputable def Tr.val (f : Nat) : Tr→Option Out
 | .none=>Option.none
 | .ret o=>some o
 | .br c a b=>Vai.br c (a.val f) (b.val f)
 | .bind o K=>o.bind fun x=>(K x).val f
 | .call g args H nx K=>(calL C g args H nx).bind fun x=>(K x).val f
 | .run _ p S=>RL C f p S
 | .mid _ p i S=>ML C f p i S
 | .fnd key l K=>zd2 key l fun r=>(K r).val f
 | .look key l z K=>zd2 key l fun r=>optE r ((K z).val f) fun v=>(K v).val f
 | .isb v K=>v.bool? fun b=>(K b).val f
theorem val_ev (f : Nat) (t : Tr) (o : Out) (h : t.val C f = some o) : EvF (fun d=>t.lim (C d) f) o:=by
 induction t with
 | none=>cases h
 | ret x=>injection h with h; subst h; exact ⟨0,fun _ _=>rfl⟩
 | br c a b iha ihb =>
  cases c with
  | true=>exact iha h
  | false=>exact ihb h
 | bind x K ih =>
  cases x with
  | none=>cases h
  | some y=>exact ih y h
 | call g args H nx K ih =>
  have h : (calL C g args H nx).bind (fun x=>(K x).val C f) = some o := h
  cases hx : calL C g args H nx with
  | none=>rw [hx] at h; cases h
  | some x =>
   rw [hx] at h
   obtain ⟨m,hm⟩ := ih x h
   obtain ⟨k,hk⟩ := zgp hx
   refine ⟨m + k,fun d hd=>?_⟩
   show (C d g args H nx).bind (fun x=>(K x).lim (C d) f) = some o
   have hk := hk d (by omega)
   simp only at hk
   rw [hk]
   exact hm d (by omega)
 | run k p S=>exact zgp h
 | mid k p i S=>exact zgp h
 | fnd key l K ih =>
  rcases zf6 key l with hf | ⟨r,hf⟩
  ·cases (hf _ _).symm.trans h
  ·have h := (hf _ _).symm.trans h
   obtain ⟨m,hm⟩ := ih r h
   exact ⟨m,fun d hd=>(hf _ _).trans (hm d hd)⟩
 | look key l z K ih =>
  rcases zf6 key l with hf | ⟨r,hf⟩
  ·cases (hf _ _).symm.trans h
  ·have h := (hf _ _).symm.trans h
   cases r with
   | none=>obtain ⟨m,hm⟩ := ih z h; exact ⟨m,fun d hd=>(hf _ _).trans (hm d hd)⟩
   | some v=>obtain ⟨m,hm⟩ := ih v h; exact ⟨m,fun d hd=>(hf _ _).trans (hm d hd)⟩
 | isb v K ih =>
  cases v <;> first | cases h | (obtain ⟨m,hm⟩ := ih _ h; exact ⟨m,fun d hd=>hm d hd⟩)
theorem stR {f : Nat} {p : List Nat} {S : St} (K : Nat) {t : Tr} (h : ∀ cal n,Vai.run Tryz.prog ann cal (n + K) f (goTo p (zaq f)) S = t.at cal f n) {o : Out} (ho : t.val C f = some o) : RL C f p S = some o:=by
 refine zje ?_
 obtain ⟨m,hm⟩ := val_ev C f t o ho
 exact ⟨m,fun d hd=>(stRn K (h (C d))).trans (hm d hd)⟩
theorem stM {f : Nat} {p : List Nat} {i : Nat} {S : St} (K : Nat) {t : Tr} (h : ∀ cal n,zmy cal (n + K) f (goTo p (zaq f)) i S = t.at cal f n) {o : Out} (ho : t.val C f = some o) : ML C f p i S = some o:=by
 refine zje ?_
 obtain ⟨m,hm⟩ := val_ev C f t o ho
 exact ⟨m,fun d hd=>(stMn K (h (C d))).trans (hm d hd)⟩
end
theorem goTo_nil (k : List Item) : goTo [] k = k := by unfold goTo; rfl
theorem calR (base : Oracle) {g : Nat} {args : List AV} {H : Hp} {nx : Nat} {S : St} (hg : base g args H nx = none) (hc : ∀ cal n,calN Tryz.prog ann cal n g args H nx = Vai.run Tryz.prog ann cal n g (zaq g) S) {o : Out} (ho : RL (calW Tryz.prog ann base) g [] S = some o) : calL (calW Tryz.prog ann base) g args H nx = some o:=by
 obtain ⟨m,hm⟩ := zgp ho
 refine zje ⟨m + 1,fun d hd=>?_⟩
 obtain ⟨d,rfl⟩ : ∃ e,d = e + 1 := ⟨d - 1,by omega⟩
 have hm := hm d (by omega)
 obtain ⟨k,hk⟩ := zgp hm
 refine calW_of hg ⟨k,fun n hn=>?_⟩
 have hk := hk n hn
 simp only [goTo_nil] at hk
 rw [hc]
 exact hk
theorem calB (base : Oracle) {g : Nat} {args : List AV} {H : Hp} {nx : Nat} {o : Out} (hg : base g args H nx = some o) : calL (calW Tryz.prog ann base) g args H nx = some o :=
 zje ⟨0,fun d _=>zsw hg d⟩
theorem zsr {C : Nat→Oracle} {g : Nat} {args : List AV} {H : Hp} {nx : Nat} {o : Out} (h : calL C g args H nx = some o) : ∃ d,C d g args H nx = some o:=by
 obtain ⟨m,hm⟩ := zgp h
 exact ⟨m,hm m (Nat.le_refl _)⟩
theorem ble_t {a b : Nat} (h : a ≤ b) : Nat.ble a b = true := by rw [Nat.ble_eq]; exact h
theorem br_t {R : Type} {c : Bool} {x y : Option R} (h : c = true) : Vai.br c x y = x := by rw [h]; rfl
theorem br_f {R : Type} {c : Bool} {x y : Option R} (h : c = false) : Vai.br c x y = y := by rw [h]; rfl
theorem za0 {R : Type} (x y : Option R) : Vai.br true x y = x := rfl
theorem zam {R : Type} (x y : Option R) : Vai.br false x y = y := rfl
theorem zo4 (l : List UInt8) : zdp (l.map zcy) = some l:=by
 induction l with
 | nil=>rfl
 | cons x l ih =>
  show (zdp (l.map zcy)).bind _ = _
  rw [ih]
  simp
theorem zpa (l : List UInt8) : eqS l l = true:=by
 induction l with
 | nil=>rfl
 | cons x l ih=>simp [eqS,ih]
theorem zcx (a b : List UInt8) : eqS a b = true ↔ a = b:=by
 constructor
 ·induction a generalizing b with
  | nil=>cases b <;> simp [eqS]
  | cons x a ih =>
   cases b with
   | nil=>simp [eqS]
   | cons y b =>
    intro h
    unfold eqS at h
    split at h
    ·rename_i hx
     have hx := Nat.eq_of_beq_eq_true hx
     rw [ih b h,UInt8.toNat_inj.1 hx]
    ·cases h
 ·rintro rfl; exact zpa a
theorem mixed : Tryz.prog.follows .mixedOrders = true := by kernel_rfl
theorem names : (Tryz.prog.funcs.toList.all fun fn=>!(fn.name == "runtime.NumGoroutine")) = true := by kernel_rfl
theorem noNum (f : Nat) (fn : Func) (h : Tryz.prog.funcs[f]? = some fn) : fn.name ≠ "runtime.NumGoroutine":=by
 intro he
 have h1 := List.all_eq_true.1 names fn (Array.mem_toList_iff.2 (Array.mem_of_getElem? h))
 rw [he] at h1
 simp at h1
def zqq (a b : Oracle) : Oracle := fun g args H nx=>match a g args H nx with
 | some o=>some o
 | Option.none=>b g args H nx
theorem zq0 {a b : Oracle} (ha : zc6 Tryz.prog ann a) (hb : zc6 Tryz.prog ann b) : zc6 Tryz.prog ann (zqq a b):=by
 intro f args H nx out hc
 unfold zqq at hc
 split at hc
 ·rename_i o ho
  injection hc with hc
  subst hc
  exact ha _ _ _ _ _ ho
 ·exact hb _ _ _ _ _ hc
end Go.Proofs.YtfdklpkfpmkgeaaGreatDoor
end
section
namespace Go.Proofs.YtfdklpkfpmkgeaaGreatDoor
open Go Go.Vai
structure PS where
 src : List UInt8
 pos : Int
 kind : Int
 s : List UInt8
 n : Int
 tat : Int
 depth : Int
 err : Int
 eat : Int
def hp (p : PS) (T : Hp) : Hp := ((0,⟨[.str p.src,.int .i64 p.pos,.int .i64 p.kind,.str p.s,.int .i64 p.n,.int .i64 p.tat,.int .i64 p.depth,.int .i64 p.err,.int .i64 p.eat],[]⟩) :: (T : List (Nat × Blk)) : List (Nat × Blk))
def zns (c : UInt8) : Bool := (decide (97 ≤ (c.toNat : Int)) && decide ((c.toNat : Int) ≤ 122)) || (decide (65 ≤ (c.toNat : Int)) && decide ((c.toNat : Int) ≤ 90))
def zdq (c : UInt8) : Bool := decide (48 ≤ (c.toNat : Int)) && decide ((c.toNat : Int) ≤ 57)
def isWs (c : UInt8) : Bool := c.toNat == 9 || c.toNat == 10 || c.toNat == 13 || c.toNat == 32
def zbs : Bool→List UInt8→Nat
 | _,[]=>0
 | false,c :: r=>if isWs c then zbs false r + 1 else if c.toNat = 35 then zbs true r + 1 else 0
 | true,c :: r=>if c.toNat = 10 then zbs false r + 1 else zbs true r + 1
def zca : List UInt8→Option (List UInt8 × Nat)
 | []=>none
 | c :: r =>
  if c.toNat = 34 then some ([],1)
  else if c.toNat = 92 then match r with
   | []=>none
   | d :: r'=>if d.toNat = 34 ∨ d.toNat = 92 then (zca r').map fun (s,k)=>(d :: s,k + 2) else none
  else if c.toNat < 32 ∨ 126 < c.toNat then none
  else (zca r).map fun (s,k)=>(c :: s,k + 1)
def zeu : List (List UInt8) := [[123],[125],[40],[41],[59],[44],[61,61],[61],[33,61],[33],[60,61],[60],[62,61],[62],[43],[45],[42],[38,38],[124,124]]
end Go.Proofs.YtfdklpkfpmkgeaaGreatDoor
end
section
namespace Go.Proofs.YtfdklpkfpmkgeaaGreatDoor
open Go Go.Vai
abbrev i6 (x : Int) : AV := .int .i64 x
abbrev vi (k : Nat) (x : Int) : Nat × Slot := (k,.val (.int .i64 x) .no)
abbrev vb (k : Nat) (b : Bool) : Nat × Slot := (k,.val (.bool b) .no)
abbrev vt (k : Nat) (s : List UInt8) : Nat × Slot := (k,.val (.str s) .no)
abbrev vv (k : Nat) (v : AV) : Nat × Slot := (k,.val v .no)
abbrev mk0 (n : Nat) (l : List (Nat × Slot)) : St := mkS n l [] Hp.none 0
abbrev cl0 (g : Nat) (args : List AV) (K : Out→Tr) : Tr := .br (zab args) (.call g args Hp.none 0 K) .none
def ext (g : Nat) : Bool := memN g [14,26,181,144]
structure Ext (C : Nat→Oracle) : Prop where
 base : ∃ b : Oracle,C = calW Tryz.prog ann b∧∀ g args H nx,ext g = false→b g args H nx = none
 idx : ∀ (s : List UInt8) (c : Int),s.length ≤ 1099511627776→calL C 181 [.str s,.int .u8 c] Hp.none 0 = some ⟨.int .i64 (Lib.indexByte s (UInt8.ofNat c.toNat)),Hp.none,0⟩
 pint : ∀ (s : List UInt8),s.length ≤ 1099511627776→∃ v e,calL C 144 [.str s,.int .i64 10,.int .i64 64] Hp.none 0 = some ⟨.tuple [.int .i64 v,e],Hp.none,0⟩∧AV.pure e = true ∧
  (match Lib.parseIntB 64 s with
  | .ok u=>v = u∧e = .nilI
  | _=>∃ t w,e = .iface t w)
theorem Ext.call {C : Nat→Oracle} (hC : Ext C) {g : Nat} {args : List AV} {H : Hp} {nx : Nat} {S : St} (hg : ext g = false) (hc : ∀ cal n,calN Tryz.prog ann cal n g args H nx = Vai.run Tryz.prog ann cal n g (zaq g) S) {o : Out} (ho : RL C g [] S = some o) : calL C g args H nx = some o:=by
 obtain ⟨b,rfl,hb⟩ := hC.base
 exact calR b (hb _ _ _ _ hg) hc ho
abbrev w64 (x : Int) : Int := IntKind.wrap .i64 x
abbrev rt (v : AV) : Tr := .ret ⟨v,Hp.none,0⟩
abbrev ix (l : List AV) (i : Int) (K : AV→Tr) : Tr := .br (decide ((0 : Int) ≤ i)) (.br (decide (i < (l.length : Int))) (.bind (nth l (Int.toNat i)) K) .none) .none
abbrev ixl (n : Int) (l : List AV) (i : Int) (K : AV→Tr) : Tr := .br (decide ((0 : Int) ≤ i)) (.br (decide (i < n)) (.bind (nth l (Int.toNat i)) K) .none) .none
theorem zb9 {x : Int} (h : -9223372036854775808 ≤ x) (h2 : x < 9223372036854775808) : w64 x = x:=by
 simp [w64,IntKind.wrap,IntKind.bits,IntKind.signed]
 omega
theorem bT {R : Type} {p : Prop} [hd : Decidable p] {x y z : Option R} (h : p) (e : x = z) : Vai.br (decide p) x y = z := (br_t (decide_eq_true h)).trans e
theorem bF {R : Type} {p : Prop} [hd : Decidable p] {x y z : Option R} (h : ¬ p) (e : y = z) : Vai.br (decide p) x y = z := (br_f (decide_eq_false h)).trans e
theorem nT {R : Type} {p : Prop} [hd : Decidable p] {x y z : Option R} (h : ¬ p) (e : x = z) : Vai.br (!decide p) x y = z := (br_t (by rw [decide_eq_false h]; rfl)).trans e
theorem nF {R : Type} {p : Prop} [hd : Decidable p] {x y z : Option R} (h : p) (e : y = z) : Vai.br (!decide p) x y = z := (br_f (by rw [decide_eq_true h]; rfl)).trans e
theorem ct {R : Type} {c : Bool} {x y z : Option R} (h : c = true) (e : x = z) : Vai.br c x y = z := (br_t h).trans e
theorem cf {R : Type} {c : Bool} {x y z : Option R} (h : c = false) (e : y = z) : Vai.br c x y = z := (br_f h).trans e
theorem bnd {R α : Type} {o : Option α} {K : α→Option R} {x : α} {z : Option R} (h : o = some x) (e : K x = z) : o.bind K = z := by rw [h]; exact e
theorem zae {n : Nat} (h : n ≤ 140737488355328) : Nat.ble n za1 = true := ble_t (by unfold za1; omega)
theorem zau {α : Type} (l : List α) (k : Nat) {x : α} {r : List α} (h : l.drop k = x :: r) : l[k]? = some x∧l.drop (k + 1) = r∧k < l.length:=by
 have h1 : (l.drop k)[0]? = some x := by rw [h]; rfl
 rw [List.getElem?_drop] at h1
 refine ⟨by simpa using h1,?_,?_⟩
 ·rw [show k + 1 = k + 1 from rfl,← List.drop_drop,h]; rfl
 ·exact (List.getElem?_eq_some_iff.1 (by simpa using h1)).1
theorem zaj {α : Type} (l : List α) (k : Nat) (hk : k ≤ l.length) (h : l.drop k = []) : k = l.length:=by
 have := congrArg List.length h
 rw [List.length_drop] at this
 simp at this
 omega
theorem drop_cons {α : Type} (l : List α) (k : Nat) (hk : k < l.length) : ∃ x r,l.drop k = x :: r:=by
 cases h : l.drop k with
 | nil=>have := zaj l k (by omega) h; omega
 | cons x r=>exact ⟨x,r,rfl⟩
theorem pureL_nil : zab [] = true := rfl
theorem nth_getq : ∀ (l : List AV) (n : Nat),nth l n = l[n]? := zcc
end Go.Proofs.YtfdklpkfpmkgeaaGreatDoor
end
