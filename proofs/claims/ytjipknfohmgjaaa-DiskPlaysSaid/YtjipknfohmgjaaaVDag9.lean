/- The whole region. -/
import Derived.Test.YtjipknfohmgjaaaVDag8
namespace Go.Vai

section
variable {g0 : G} {w0 : World} {Ex : Nat → Prop} {g g' : G} {a : Act} {w w' : World}
variable {eb ebj ebi : Bool} {P : Program} {A : List (Nat × Ann)} {an : Ann} {isRes : Nat → Bool} {cal : Oracle} {S S' T : St} {R : Type} {r : R} {all : Array Oper} {D : List Nat}

theorem apartN_spec : ∀ {l m : List Nat}, apartN l m = true → ∀ a ∈ l, a ∉ m
  | [], _, _, a, ha => by cases ha
  | b :: l, m, h, a, ha => by
    unfold apartN at h
    split at h
    · cases h
    · rename_i hb
      rcases List.mem_cons.1 ha with e | ha
      · subst e
        intro hm
        rw [memN_iff.2 hm] at hb
        cases hb
      · exact apartN_spec h a ha

/-! the table of what must come before -/

theorem nthN_app : ∀ (T : List Nat) (m i : Nat), nthN (T ++ [m]) i = if i = T.length then m else nthN T i
  | [], m, 0 => rfl
  | [], m, i + 1 => by simp [nthN]
  | x :: T, m, 0 => by simp [nthN]
  | x :: T, m, i + 1 => by
    simp only [List.cons_append, nthN, List.length_cons, Nat.add_right_cancel_iff]
    exact nthN_app T m i
theorem depsT_length : ∀ (os : List Oper) (T : List Nat), (depsT os T).length = T.length + os.length
  | [], T => by simp [depsT]
  | o :: os, T => by rw [depsT, depsT_length os]; simp; omega
theorem depsT_pre : ∀ (os : List Oper) (T : List Nat) (i : Nat), i < T.length → nthN (depsT os T) i = nthN T i
  | [], T, i, _ => rfl
  | o :: os, T, i, h => by
    rw [depsT, depsT_pre os _ i (by simp; omega), nthN_app, if_neg (by omega)]

theorem depsM_spec (T : List Nat) {j : Nat} : ∀ {l : List Edge}, (depsM T l).testBit j = true → ∃ e ∈ l, Region.binds .any e = true ∧ (e.on = j ∨ (nthN T e.on).testBit j = true)
  | [], h => by simp [depsM] at h
  | e :: l, h => by
    unfold depsM at h
    split at h
    · rename_i hb
      have h' : ((2 ^ e.on ||| nthN T e.on) ||| depsM T l).testBit j = true := h
      rw [Nat.testBit_or, Nat.testBit_or, Bool.or_eq_true, Bool.or_eq_true] at h'
      rcases h' with (h1 | h1) | h1
      · rw [Nat.testBit_two_pow] at h1
        exact ⟨e, List.mem_cons_self, hb, .inl (by simpa using h1)⟩
      · exact ⟨e, List.mem_cons_self, hb, .inr h1⟩
      · obtain ⟨e', h2, h3⟩ := depsM_spec T h1
        exact ⟨e', List.mem_cons_of_mem _ h2, h3⟩
    · obtain ⟨e', h2, h3⟩ := depsM_spec T h
      exact ⟨e', List.mem_cons_of_mem _ h2, h3⟩

/-- the table at one operation -/
theorem depsT_at : ∀ (os : List Oper) (T : List Nat) (i : Nat) (o : Oper), os[i]? = some o → ∃ U : List Nat, (∀ q, q < T.length + i → nthN U q = nthN (depsT os T) q) ∧ nthN (depsT os T) (T.length + i) = depsM U o.after.toList
  | [], _, _, _, h => by simp at h
  | o' :: os, T, 0, o, h => by
    simp only [List.getElem?_cons_zero, Option.some.injEq] at h
    subst h
    refine ⟨T, fun q hq => ?_, ?_⟩
    · rw [depsT, depsT_pre _ _ _ (by simp; omega), nthN_app, if_neg (by omega)]
    · rw [depsT, depsT_pre _ _ _ (by simp), nthN_app, if_pos (by omega)]
  | o' :: os, T, i + 1, o, h => by
    simp only [List.getElem?_cons_succ] at h
    obtain ⟨U, h1, h2⟩ := depsT_at os (T ++ [depsM T o'.after.toList]) i o h
    rw [List.length_append, List.length_singleton] at h1 h2
    exact ⟨U, fun q hq => by rw [depsT]; exact h1 q (by omega), by rw [depsT, show T.length + (i + 1) = T.length + 1 + i by omega]; exact h2⟩

theorem edgesOk_spec : ∀ (os : List Oper) (n : Nat), edgesOk n os = true → ∀ i o, os[i]? = some o → ∀ e ∈ o.after, Region.binds .any e = true → e.on < n + i
  | [], _, _, i, o, h, _, _, _ => by simp at h
  | o' :: os, n, hk, i, o, h, e, he, hbd => by
    unfold edgesOk at hk
    rw [Bool.and_eq_true, List.all_eq_true] at hk
    cases i with
    | zero =>
      simp only [List.getElem?_cons_zero, Option.some.injEq] at h
      subst h
      have := hk.1 e (Array.mem_toList_iff.2 he)
      rw [hbd] at this
      simpa [Nat.blt_eq] using this
    | succ i =>
      simp only [List.getElem?_cons_succ] at h
      have := edgesOk_spec os (n + 1) hk.2 i o h e he hbd
      omega

/-- bits are below -/
theorem bits_lt (he : edgesOk 0 all.toList = true) : ∀ (i : Nat) (j : Nat), i < all.size → (nthN (depsT all.toList []) i).testBit j = true → j < i := by
  intro i
  induction i using Nat.strongRecOn with
  | _ i ih =>
    intro j hi hb
    have ho : all.toList[i]? = some all[i] := by rw [Array.getElem?_toList, Array.getElem?_eq_getElem hi]
    obtain ⟨U, h1, h2⟩ := depsT_at all.toList [] i _ ho
    simp only [List.length_nil, Nat.zero_add] at h1 h2
    rw [h2] at hb
    obtain ⟨e, hm, hbind, h3⟩ := depsM_spec U hb
    have hlt : e.on < i := by
      have := edgesOk_spec all.toList 0 he i _ ho e (Array.mem_toList_iff.1 hm) hbind
      omega
    rcases h3 with h3 | h3
    · omega
    · rw [h1 _ hlt] at h3
      have := ih e.on hlt j (by omega) h3
      omega

/-- what is listed has its edges listed -/
def Closed (all : Array Oper) (listed : Array Bool) : Prop := ∀ i (o : Oper), all[i]? = some o → listed.getD i false = true → ∀ e ∈ o.after, Region.binds .any e = true → listed.getD e.on false = true

theorem bits_listed (he : edgesOk 0 all.toList = true) {listed : Array Bool} (hc : Closed all listed) : ∀ (i : Nat), i < all.size → (∀ (o : Oper), all[i]? = some o → ∀ e ∈ o.after, Region.binds .any e = true → listed.getD e.on false = true) →
    ∀ j, (nthN (depsT all.toList []) i).testBit j = true → listed.getD j false = true := by
  intro i
  induction i using Nat.strongRecOn with
  | _ i ih =>
    intro hi hall j hb
    have ho' : all[i]? = some all[i] := Array.getElem?_eq_getElem hi
    have ho : all.toList[i]? = some all[i] := by rw [Array.getElem?_toList]; exact ho'
    obtain ⟨U, h1, h2⟩ := depsT_at all.toList [] i _ ho
    simp only [List.length_nil, Nat.zero_add] at h1 h2
    rw [h2] at hb
    obtain ⟨e, hm, hbind, h3⟩ := depsM_spec U hb
    have hlt : e.on < i := by
      have := edgesOk_spec all.toList 0 he i _ ho e (Array.mem_toList_iff.1 hm) hbind
      omega
    have hl := hall _ ho' e (Array.mem_toList_iff.1 hm) hbind
    rcases h3 with h3 | h3
    · rw [← h3]; exact hl
    · rw [h1 _ hlt] at h3
      exact ih e.on hlt (by omega) (fun o ho2 e2 he2 hb2 => hc e.on o ho2 hl e2 he2 hb2) j h3

/-! the operations' infos -/

theorem oisOf_at : ∀ (T : List Nat) (os : List Oper), T.length = os.length → ∀ i o, os[i]? = some o → (oisOf A all T os)[i]? = some (oiOf A all (nthN T i) o)
  | [], [], _, i, o, h => by simp at h
  | [], _ :: _, hl, _, _, _ => by simp at hl
  | _ :: _, [], hl, _, _, _ => by simp at hl
  | m :: T, o' :: os, hl, i, o, h => by
    cases i with
    | zero =>
      simp only [List.getElem?_cons_zero, Option.some.injEq] at h
      subst h
      rfl
    | succ i =>
      simp only [List.getElem?_cons_succ] at h
      simp only [oisOf, List.getElem?_cons_succ, nthN]
      exact oisOf_at T os (by simpa using hl) i o h
theorem oisOf_length : ∀ (T : List Nat) (os : List Oper), T.length = os.length → (oisOf A all T os).length = os.length
  | [], [], _ => rfl
  | [], _ :: _, hl => by simp at hl
  | _ :: _, [], hl => by simp at hl
  | m :: T, o' :: os, hl => by simp only [oisOf, List.length_cons, oisOf_length T os (by simpa using hl)]

theorem exAll_spec {y : OI} : ∀ (l : List OI) (n : Nat), exAll y n l = true → ∀ j x, l[j]? = some x → y.pre.testBit (n + j) = true ∨ mayEx x y = true
  | [], _, _, j, x, h => by simp at h
  | z :: l, n, hk, j, x, h => by
    unfold exAll at hk
    rw [Bool.and_eq_true, Bool.or_eq_true] at hk
    cases j with
    | zero =>
      simp only [List.getElem?_cons_zero, Option.some.injEq] at h
      subst h
      exact hk.1
    | succ j =>
      simp only [List.getElem?_cons_succ] at h
      have := exAll_spec l (n + 1) hk.2 j x h
      rwa [show n + 1 + j = n + (j + 1) by omega] at this
theorem dagOk_spec : ∀ (l bef : List OI), dagOk bef l = true → ∀ i y, l[i]? = some y → (isVal y.cl = true → y.ds ≠ []) ∧ ∀ j x, j < bef.length + i → (bef ++ l)[j]? = some x → y.pre.testBit j = true ∨ mayEx x y = true
  | [], _, _, i, y, h => by simp at h
  | z :: l, bef, hk, i, y, h => by
    unfold dagOk at hk
    rw [Bool.and_eq_true, Bool.and_eq_true] at hk
    obtain ⟨⟨h1, h2⟩, h3⟩ := hk
    cases i with
    | zero =>
      simp only [List.getElem?_cons_zero, Option.some.injEq] at h
      subst h
      refine ⟨fun hv he => (by rw [he] at h2; rw [hv] at h2; cases h2), fun j x hj hx => ?_⟩
      rw [List.getElem?_append_left (by omega)] at hx
      have := exAll_spec bef 0 h1 j x hx
      rwa [Nat.zero_add] at this
    | succ i =>
      simp only [List.getElem?_cons_succ] at h
      obtain ⟨h4, h5⟩ := dagOk_spec l (bef ++ [z]) h3 i y h
      refine ⟨h4, fun j x hj hx => h5 j x (by simp; omega) ?_⟩
      rw [List.append_assoc]
      exact hx
theorem fixedOf_spec {ois : List OI} {i : Nat} {x : OI} : ∀ (l : List OI) (n : Nat), fixedOf ois i x n l = true → ∀ j y, l[j]? = some y → isVal y.cl = true ∨ n + j = i ∨ x.pre.testBit (n + j) = true ∨ y.pre.testBit i = true
  | [], _, _, j, y, h => by simp at h
  | z :: l, n, hk, j, y, h => by
    unfold fixedOf at hk
    rw [Bool.and_eq_true, Bool.or_eq_true, Bool.or_eq_true, Bool.or_eq_true] at hk
    cases j with
    | zero =>
      simp only [List.getElem?_cons_zero, Option.some.injEq] at h
      subst h
      rcases hk.1 with h1 | h1 | h1 | h1
      · exact .inl h1
      · exact .inr (.inl (Nat.eq_of_beq_eq_true h1))
      · exact .inr (.inr (.inl h1))
      · exact .inr (.inr (.inr h1))
    | succ j =>
      simp only [List.getElem?_cons_succ] at h
      have := fixedOf_spec l (n + 1) hk.2 j y h
      rwa [show n + 1 + j = n + (j + 1) by omega] at this
theorem fhOf_spec {i : Nat} {x : OI} : ∀ (l : List OI) (n : Nat), fhOf i x n l = true → ∀ j y, l[j]? = some y → isVal y.cl = true ∨ y.nh = true ∨ n + j = i ∨ x.pre.testBit (n + j) = true ∨ y.pre.testBit i = true
  | [], _, _, j, y, h => by simp at h
  | z :: l, n, hk, j, y, h => by
    unfold fhOf at hk
    rw [Bool.and_eq_true, Bool.or_eq_true, Bool.or_eq_true, Bool.or_eq_true, Bool.or_eq_true] at hk
    cases j with
    | zero =>
      simp only [List.getElem?_cons_zero, Option.some.injEq] at h
      subst h
      rcases hk.1 with h1 | h1 | h1 | h1 | h1
      · exact .inl h1
      · exact .inr (.inl h1)
      · exact .inr (.inr (.inl (Nat.eq_of_beq_eq_true h1)))
      · exact .inr (.inr (.inr (.inl h1)))
      · exact .inr (.inr (.inr (.inr h1)))
    | succ j =>
      simp only [List.getElem?_cons_succ] at h
      have := fhOf_spec l (n + 1) hk.2 j y h
      rwa [show n + 1 + j = n + (j + 1) by omega] at this
theorem hzOf_spec {i : Nat} {x : OI} : ∀ (l : List OI) (n : Nat), hzOf i x n l = true → ∀ j y, l[j]? = some y → isVal y.cl = false ∨ y.hr = false ∨ n + j = i ∨ x.pre.testBit (n + j) = true ∨ y.pre.testBit i = true
  | [], _, _, j, y, h => by simp at h
  | z :: l, n, hk, j, y, h => by
    unfold hzOf at hk
    rw [Bool.and_eq_true, Bool.or_eq_true, Bool.or_eq_true, Bool.or_eq_true, Bool.or_eq_true] at hk
    cases j with
    | zero =>
      simp only [List.getElem?_cons_zero, Option.some.injEq] at h
      subst h
      rcases hk.1 with h1 | h1 | h1 | h1 | h1
      · exact .inl (by simpa using h1)
      · exact .inr (.inl (by simpa using h1))
      · exact .inr (.inr (.inl (Nat.eq_of_beq_eq_true h1)))
      · exact .inr (.inr (.inr (.inl h1)))
      · exact .inr (.inr (.inr (.inr h1)))
    | succ j =>
      simp only [List.getElem?_cons_succ] at h
      have := hzOf_spec l (n + 1) hk.2 j y h
      rwa [show n + 1 + j = n + (j + 1) by omega] at this
theorem wsOf_spec {i : Nat} {x : OI} : ∀ (l : List OI) (n : Nat) (j : Nat) (y : OI), l[j]? = some y → n + j ≠ i → x.pre.testBit (n + j) = false → y.pre.testBit i = false → ∀ b ∈ y.wb, b ∈ wsOf i x n l
  | [], _, j, y, h => by simp at h
  | z :: l, n, j, y, h => by
    intro h1 h2 h3 b hb
    cases j with
    | zero =>
      simp only [List.getElem?_cons_zero, Option.some.injEq] at h
      subst h
      unfold wsOf
      split
      · rename_i hz; rw [hz] at hb; cases hb
      · rename_i c cs hz
        have hne : Nat.beq n i = false := by
          cases hb : Nat.beq n i with
          | false => rfl
          | true => exact absurd (Nat.eq_of_beq_eq_true hb) h1
        rw [Nat.add_zero] at h2
        rw [hne, h2, h3]
        show b ∈ (c :: cs) ++ wsOf i x (n + 1) l
        rw [hz] at hb
        exact List.mem_append_left _ hb
    | succ j =>
      simp only [List.getElem?_cons_succ] at h
      have hm := wsOf_spec l (n + 1) j y h (by omega) (by rwa [show n + 1 + j = n + (j + 1) by omega]) h3 b hb
      unfold wsOf
      split
      · exact hm
      · split
        · exact hm
        · exact List.mem_append_right _ hm
theorem valDsts_mem {x : OI} : ∀ {l : List OI}, x ∈ l → isVal x.cl = true → ∀ d ∈ x.ds, d ∈ valDsts l
  | [], h, _, _, _ => by cases h
  | z :: l, h, hv, d, hd => by
    unfold valDsts
    rcases List.mem_cons.1 h with e | h
    · subst e
      rw [hv]
      exact List.mem_append_left _ hd
    · split
      · exact List.mem_append_right _ (valDsts_mem h hv d hd)
      · exact valDsts_mem h hv d hd

/-! the steps that are left, in the order of the text -/

noncomputable def runL (P : Program) (A : List (Nat × Ann)) (an : Ann) (isRes : Nat → Bool) (cal : Oracle) (all : Array Oper) (D : List Nat) (ois : List OI) : List Nat → St → (St → Option R) → Option R
  | [], S, k => k S
  | i :: is, S, k => match ois[i]?, all[i]? with
    | some x, some o => dstep P A an isRes cal all.toList D i (fxOf ois i x) x o S fun S' => runL P A an isRes cal all D ois is S' k
    | _, _ => none

theorem dsteps_runL {ois : List OI} {k : St → Option R} : ∀ (n i : Nat) (S : St), ois.length = all.size → n + i = all.size →
    dsteps P A an isRes cal all.toList D ois i (ois.drop i) (all.toList.drop i) S k = runL P A an isRes cal all D ois (List.range' i n) S k
  | 0, i, S, hl, hi => by
    rw [List.drop_eq_nil_of_le (by omega), List.drop_eq_nil_of_le (by rw [Array.length_toList]; omega)]
    rfl
  | n + 1, i, S, hl, hi => by
    have h1 : i < ois.length := by omega
    have h2 : i < all.toList.length := by rw [Array.length_toList]; omega
    rw [List.drop_eq_getElem_cons h1, List.drop_eq_getElem_cons h2, List.range'_succ]
    have h3 : ois[i]? = some ois[i] := List.getElem?_eq_getElem h1
    have h4 : all[i]? = some all.toList[i] := by rw [← Array.getElem?_toList]; exact List.getElem?_eq_getElem h2
    simp only [dsteps, runL, h3, h4]
    congr 1
    funext S'
    exact dsteps_runL n (i + 1) S' hl (by omega)

/-- a step that may be exchanged runs its continuation once -/
theorem dstep_mono {o : Oper} {i : Nat} {fz : Fx} {x : OI} (hds : ∀ q, q ∈ x.ds → o.dst = some q) (hx : x.cl = clOf A eb o) (hlt : x.cl < 5 ∨ x.cl = 6) (hl : ∀ t, Operand.tmp t ∈ o.op.operands → t ∈ x.lk) (hg : ∀ j want d, o.guard = some (j, want) → dstOf all.toList j = some d → d ∈ x.lk)
    {F F' : St → Option R} (hF : ∀ T, F T = some r → F' T = some r) (h : dstep P A an isRes cal all.toList D i fz x o S F = some r) : dstep P A an isRes cal all.toList D i fz x o S F' = some r := by
  have one : (∀ (R : Type) (k : St → Option R), dstep P A an isRes cal all.toList D i fz x o S k = none) ∨ ∃ T, ∀ (R : Type) (k : St → Option R), dstep P A an isRes cal all.toList D i fz x o S k = k T := by
    by_cases hv : isVal x.cl = true
    · rcases dstep_two (P := P) (an := an) (isRes := isRes) (cal := cal) (all := all.toList) (D := D) (i := i) (fz := fz) hds hx hl hg hv (.refl _ _ S x.lk) with h | ⟨s, h, _, _⟩
      · exact .inl h
      · exact .inr ⟨_, h⟩
    · have hvf : isVal x.cl = false := by simpa using hv
      by_cases h6 : x.cl = 6
      · simp only [dstep_nv hvf, dstep0_eq]
        cases gres all.toList o S with
        | none => exact .inl fun R k => rfl
        | some b =>
          cases b with
          | false => exact .inr ⟨_, fun R k => rfl⟩
          | true =>
            simp only
            rcases alloc_shape (P := P) (an := an) (isRes := isRes) (cal := cal) (D := D) (i := i) (fz := fz) h6 (hx ▸ h6) with hn | ⟨q, z, fr, _, hs⟩
            · exact .inl fun R k => hn S R k
            · simp only [hs]
              cases getM S.M q with
              | some _ => exact .inl fun R k => rfl
              | none =>
                cases Nat.blt q S.sl.length with
                | false => exact .inl fun R k => rfl
                | true => exact .inr ⟨_, fun R k => rfl⟩
      have hc : x.cl = 3 ∨ x.cl = 4 := by
        have : ¬ x.cl < 3 := fun h => hv (by simpa [isVal, Nat.blt_eq] using h)
        omega
      -- a slot that nothing speaks of
      have hfresh : ∃ d, d ∉ x.lk ∧ o.dst ≠ some d ∧ ∀ t ∈ x.lk, ∀ v q, S.slot t = .val v (.lS q) → q ≠ d := by
        have ub : ∀ l : List Nat, ∃ m, ∀ t ∈ l, t < m := by
          intro l
          induction l with
          | nil => exact ⟨0, fun t ht => by cases ht⟩
          | cons y l ih =>
            obtain ⟨m, hm⟩ := ih
            refine ⟨max m (y + 1), fun t ht => ?_⟩
            rcases List.mem_cons.1 ht with e | ht
            · subst e; omega
            · have := hm t ht; omega
        obtain ⟨m, hm⟩ := ub (x.lk ++ (match o.dst with
          | some q => [q]
          | none => []) ++ x.lk.map fun t => match S.slot t with
            | .val _ (.lS q) => q
            | _ => 0)
        refine ⟨m, fun h => ?_, fun h => ?_, fun t ht v q hs e => ?_⟩
        · have := hm m (by simp [h]); omega
        · have := hm m (by simp [h]); omega
        · have := hm q (List.mem_append_right _ (List.mem_map.2 ⟨t, ht, by rw [hs]⟩))
          omega
      obtain ⟨d, hd, hdst, hq⟩ := hfresh
      have hdo : Operand.tmp d ∉ o.op.operands := fun hh => hd (hl d hh)
      simp only [dstep_nv hvf, dstep0_eq]
      cases gres all.toList o S with
      | none => exact .inl fun R k => rfl
      | some b =>
        cases b with
        | false => exact .inr ⟨_, fun R k => rfl⟩
        | true =>
          simp only
          unfold dop
          rcases hc with hc | hc
          · rw [hc]
            simp only
            cases notLent S D x.lk with
            | false => exact .inl fun R k => by cases roOf A o <;> rfl
            | true =>
              rcases frameC (P := P) (an := an) (isRes := isRes) (cal := cal) (.inl (hx ▸ hc)) (⟨rfl, rfl, rfl, rfl, rfl, fun _ _ => rfl⟩ : Off d S S) hdo hdst (fun _ t v q ht hs => hq t (hl t ht) v q hs) with h | ⟨T, _, h, _, _⟩
              · exact .inl fun R k => by cases roOf A o <;> exact h R _
              · cases roOf A o with
                | false => exact .inr ⟨T, fun R k => h R k⟩
                | true =>
                  by_cases hH : T.H = S.H
                  · exact .inr ⟨T, fun R k => (h R _).trans (by rw [@decide_eq_true _ (Classical.propDecidable _) hH]; rfl)⟩
                  · exact .inl fun R k => (h R _).trans (by rw [@decide_eq_false _ (Classical.propDecidable _) hH]; rfl)
          · rw [hc]
            simp only
            cases hdd : o.dst with
            | none => exact .inl fun R k => rfl
            | some q =>
              simp only
              rcases frameC (P := P) (an := an) (isRes := isRes) (cal := cal) (.inr (hx ▸ hc)) (⟨rfl, rfl, rfl, rfl, rfl, fun _ _ => rfl⟩ : Off d { S with nx := S.nx + i } { S with nx := S.nx + i }) hdo hdst (fun h3 => by rw [← hx, hc] at h3; cases h3) with h | ⟨T, _, h, _, _⟩
              · exact .inl fun R k => h R _
              · have h' : ∀ (R : Type) (k : St → Option R), absOp P A an isRes cal o { S with nx := S.nx + i } k = k T := h
                simp only [h']
                cases T.slot q with
                | val v f =>
                  cases v with
                  | arr _ _ _ _ => exact .inr ⟨_, fun R k => rfl⟩
                  | _ => exact .inl fun R k => rfl
                | _ => exact .inl fun R k => rfl
  rcases one with hn | ⟨T, hT⟩
  · rw [hn] at h; cases h
  · rw [hT] at h ⊢
    exact hF T h

end
end Go.Vai
