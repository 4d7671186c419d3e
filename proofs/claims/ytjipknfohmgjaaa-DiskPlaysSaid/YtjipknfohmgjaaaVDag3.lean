/- One operation of a drawn region: what it does under states that agree. -/
import Derived.Test.YtjipknfohmgjaaaVDag2
namespace Go.Vai

section
variable {eb ebj ebi : Bool} {P : Program} {A : List (Nat × Ann)} {an : Ann} {isRes : Nat → Bool} {cal : Oracle} {o : Oper} {S S' : St} {l : List Nat}

theorem look_mem {ops : Array Oper} {t : Nat} (h : Operand.tmp t ∈ o.op.operands) : t ∈ o.looksAt ops :=
  List.mem_append_left _ (List.mem_filterMap.2 ⟨.tmp t, by simpa using h, rfl⟩)

theorem ofConst1_arr {sz : Nat} {c : Value} {id off len z : Nat} (h : ofConst1 sz c = .arr id off len z) : False := by
  unfold ofConst1 at h
  split at h <;> first | cases h | (split at h <;> cases h)
theorem ofConst_arr {t : TypeId} {c : Value} {id off len z : Nat} (h : ofConst P t c = .arr id off len z) : False := by
  unfold ofConst at h
  split at h
  · split at h <;> cases h
  · exact ofConst1_arr h

theorem uni1 (hcl : clOf A eb o = 1) (hl : ∀ t, Operand.tmp t ∈ o.op.operands → t ∈ l) (hs : Same S S' l) (hH : SameH S S' ∨ floatOk o S = true) : Uni2 P A an isRes cal o S S' := by
  have ev : ∀ x, x ∈ o.op.operands → S'.ev x = S.ev x := fun x hx => hs.ev fun t ht => hl t (ht ▸ hx)
  have evT' : ∀ x, x ∈ o.op.operands → ∀ ty, evT P S' ty x = evT P S ty x := fun x hx ty => hs.evT (fun t ht => hl t (ht ▸ hx)) ty
  have sl : ∀ x, x ∈ o.op.operands → ∀ t, x = .tmp t → (S'.slot t).bare = (S.slot t).bare := fun x hx t ht => hs.slot t (hl t (ht ▸ hx))
  cases hop : o.op with
  | move x =>
    refine (uni_move hop fun t ht => ?_).two
    subst ht
    simp [clOf, hop] at hcl
  | pick c x y =>
    rw [hop] at ev
    exact (uni_pick hop (ev c (by simp [Op.operands])) (ev x (by simp [Op.operands])) (ev y (by simp [Op.operands]))).two
  | binOp op t x y ty =>
    rw [hop] at ev
    exact (uni_binOp hop (ev x (by simp [Op.operands])) (ev y (by simp [Op.operands]))).two
  | makeInterface t x =>
    rw [hop] at evT'
    exact (uni_iface hop (evT' x (by simp [Op.operands]) t)).two
  | unOp op t x =>
    rw [hop] at ev
    exact (uni_unOp hop (ev x (by simp [Op.operands]))).two
  | convert st dt x =>
    rw [hop] at evT' sl
    refine (uni_convert hop (evT' x (by simp [Op.operands])) ?_).two
    rcases hH with h | h
    · exact .inl h
    · refine .inr fun id off len z he => ?_
      cases x with
      | tmp t =>
        have he' : (S.slot t).av = .arr id off len z := he
        cases hst : S.slot t with
        | val v f =>
          rw [hst] at he'
          have : v = .arr id off len z := he'
          subst this
          simp [floatOk, hop, hst] at h
        | _ => rw [hst] at he'; cases he'
      | const c =>
        exact ofConst_arr (P := P) he
      | func f => cases he
      | global g => cases he
  | slice t x lo hi mx =>
    rw [hop] at ev
    exact (uni_slice hop (ev x (by simp [Op.operands])) (fun y hy => ev y (by subst hy; simp [Op.operands])) (fun y hy => ev y (by subst hy; simp [Op.operands])) (fun y hy => ev y (by subst hy; simp [Op.operands]))).two
  | field t x fi =>
    rw [hop] at ev
    exact (uni_field hop (ev x (by simp [Op.operands]))).two
  | fieldAddr t x fi =>
    rw [hop] at sl
    exact (uni_fieldAddr hop (sl x (by simp [Op.operands]))).two
  | nilCheck x =>
    rw [hop] at sl
    exact (uni_nilCheck hop (sl x (by simp [Op.operands]))).two
  | index t x y =>
    rw [hop] at ev
    exact (uni_index hop (ev x (by simp [Op.operands])) (ev y (by simp [Op.operands]))).two
  | indexAddr t x y =>
    rw [hop] at ev sl
    exact (uni_indexAddr hop (sl x (by simp [Op.operands])) (ev x (by simp [Op.operands])) (ev y (by simp [Op.operands]))).two
  | load t x =>
    rw [hop] at sl
    exact uni_load hop (sl x (by simp [Op.operands])) (fun t ht => hs.L t (hl t (by rw [hop, ← ht]; simp [Op.operands]))) hH
  | build t ps =>
    rw [hop] at evT'
    exact (uni_build hop fun i x hx => evT' x (by simp [Op.operands]; exact ⟨i, by simpa using hx⟩)).two
  | buildSlice t n ps =>
    rw [hop] at evT'
    exact (uni_buildSlice hop fun i x hx => evT' x (by simp [Op.operands]; exact ⟨i, by simpa using hx⟩)).two
  | call c =>
    rw [hop] at ev evT'
    obtain ⟨callee, args, tys⟩ := c
    cases callee with
    | builtin b =>
      cases b with
      | len =>
        have e : ∀ (T : St) (R : Type) (k : St → Option R), absOp P A an isRes cal o T k = opBuiltin P .len o tys.toList args.toList T k := fun T R k => by simp only [absOp, hop]
        unfold Uni2
        simp only [e, opBuiltin]
        match hty : tys.toList, har : args.toList with
        | [t], [x] =>
          have hx : x ∈ (Op.call { callee := .builtin .len, args := args, argTypes := tys }).operands := by
            have : x ∈ args := by rw [← Array.mem_toList_iff, har]; simp
            simp [Op.operands, Call.operands, this]
          simp only [evT' x hx t]
          rcases par_lenOf (P := P) t (evT P S t x) with h | ⟨n, h⟩
          · exact .inl fun R k => h R _
          · exact .inr ⟨_, _, fun R k => h R fun n => k (S.putd o.dst (.val (.int .i64 (n : Int)) .no)), fun R k => h R fun n => k (S'.putd o.dst (.val (.int .i64 (n : Int)) .no)), rfl, fun _ _ => rfl⟩
        | [], _ => exact .inl fun R k => rfl
        | [_], [] => exact .inl fun R k => rfl
        | [_], _ :: _ :: _ => exact .inl fun R k => rfl
        | _ :: _ :: _, _ => exact .inl fun R k => rfl
      | min =>
        have e : ∀ (T : St) (R : Type) (k : St → Option R), absOp P A an isRes cal o T k = opBuiltin P .min o tys.toList args.toList T k := fun T R k => by simp only [absOp, hop]
        unfold Uni2
        simp only [e, opBuiltin]
        match har : args.toList with
        | [] => exact .inl fun R k => rfl
        | x :: l =>
          have hm : ∀ y, y ∈ x :: l → S'.ev y = S.ev y := fun y hy => ev y (by
            have : y ∈ args := by rw [← Array.mem_toList_iff, har]; exact hy
            simp [Op.operands, Call.operands, this])
          simp only [hm x List.mem_cons_self, minMax_congr (P := P) false l _ _ fun y hy => hm y (List.mem_cons_of_mem _ hy)]
          rcases par_minMax (P := P) false S l (S.ev x) with h | ⟨n, h⟩
          · exact .inl fun R k => h R _
          · exact .inr ⟨_, _, fun R k => h R fun n => k (S.putd o.dst (.val n .no)), fun R k => h R fun n => k (S'.putd o.dst (.val n .no)), rfl, fun _ _ => rfl⟩
      | max =>
        have e : ∀ (T : St) (R : Type) (k : St → Option R), absOp P A an isRes cal o T k = opBuiltin P .max o tys.toList args.toList T k := fun T R k => by simp only [absOp, hop]
        unfold Uni2
        simp only [e, opBuiltin]
        match har : args.toList with
        | [] => exact .inl fun R k => rfl
        | x :: l =>
          have hm : ∀ y, y ∈ x :: l → S'.ev y = S.ev y := fun y hy => ev y (by
            have : y ∈ args := by rw [← Array.mem_toList_iff, har]; exact hy
            simp [Op.operands, Call.operands, this])
          simp only [hm x List.mem_cons_self, minMax_congr (P := P) true l _ _ fun y hy => hm y (List.mem_cons_of_mem _ hy)]
          rcases par_minMax (P := P) true S l (S.ev x) with h | ⟨n, h⟩
          · exact .inl fun R k => h R _
          · exact .inr ⟨_, _, fun R k => h R fun n => k (S.putd o.dst (.val n .no)), fun R k => h R fun n => k (S'.putd o.dst (.val n .no)), rfl, fun _ _ => rfl⟩
      | append =>
        exfalso
        simp only [clOf, hop] at hcl
        repeat' split at hcl
        all_goals cases hcl
      | _ => simp [clOf, hop] at hcl
    | value f =>
      exfalso
      cases f with
      | func g =>
        simp only [clOf, hop] at hcl
        split at hcl <;> cases hcl
      | _ => simp [clOf, hop] at hcl
    | invoke _ _ => simp [clOf, hop] at hcl
  | extract _ _ => simp [clOf, hop] at hcl
  | makeSlice _ _ _ =>
    simp only [clOf, hop] at hcl
    split at hcl <;> cases hcl
  | alloc _ =>
    simp only [clOf, hop] at hcl
    split at hcl <;> cases hcl
  | _ => simp [clOf, hop] at hcl

end
end Go.Vai
