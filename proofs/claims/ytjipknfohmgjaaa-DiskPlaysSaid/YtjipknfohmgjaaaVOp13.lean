/- Every operation; a region's list of operations. -/
import Derived.Test.YtjipknfohmgjaaaVOpP
namespace Go.Vai

section
variable {X : Nat → Prop} {g0 : G} {w0 : World} {Ex : Nat → Prop} {g g' : G} {S : St} {a : Act} {w w' : World} {P : Program} {R : Type} {r : R} {o : Oper} {A : List (Nat × Ann)} {cal : Oracle}

theorem one_arg {α : Type} {xs : Array α} {x : α} (h : xs.toList = [x]) : xs = #[x] := by
  apply Array.toList_inj.1; simpa using h
theorem two_args {α : Type} {xs : Array α} {x y : α} (h : xs.toList = [x, y]) : xs = #[x, y] := by
  apply Array.toList_inj.1; simpa using h

theorem opBuiltin_step {c : Call} {b : Builtin} {k : St → Option R} (ho : o.op = .call c) (hb : c.callee = .builtin b) (h : opBuiltin P b o c.argTypes.toList c.args.toList S k = some r) (hg : Rel g0 w0 Ex g S a w) :
    StepTo P o a w g0 w0 Ex k r := by
  obtain ⟨callee, args, tys⟩ := c
  simp only at hb h
  subst hb
  unfold opBuiltin at h
  split at h
  · split at h
    · rename_i t x ht hx
      obtain rfl := one_arg ht
      obtain rfl := one_arg hx
      obtain ⟨n, hrun, hk⟩ := lenOf_sound (ty := o.type) h (hg.evT (P := P) t x)
      exact .val hg (by simp only [execOp, ho, resolve, invoke, builtin, Sem.run_bind, Sem.run_pure, Result.andThen_ok, List.map_toArray, List.map_cons, List.map_nil, hrun]) (.int _ _) hk
    · cases h
  · split at h
    · rename_i t t2 x y ht hx
      obtain rfl := two_args ht
      obtain rfl := two_args hx
      exact opAppend_step ho h hg
    · cases h
  · split at h
    · rename_i t t2 x y ht hx
      obtain rfl := two_args ht
      obtain rfl := two_args hx
      exact opCopy_step ho h hg
    · cases h
  · split at h
    · rename_i x l hx
      obtain ⟨u', v, hrun, hrep, hk⟩ := minMax_sound (P := P) false hg l _ _ (hg.ev x) h
      refine .val hg (u := u') ?_ hrep hk
      have e : (args.map a.eval).toList = a.eval x :: l.map a.eval := by rw [Array.toList_map, hx]; rfl
      simp only [execOp, ho, resolve, invoke, builtin, Sem.run_bind, Sem.run_pure, Result.andThen_ok, Builtin.min_, e]
      rw [hrun]
      rfl
    · cases h
  · split at h
    · rename_i x l hx
      obtain ⟨u', v, hrun, hrep, hk⟩ := minMax_sound (P := P) true hg l _ _ (hg.ev x) h
      refine .val hg (u := u') ?_ hrep hk
      have e : (args.map a.eval).toList = a.eval x :: l.map a.eval := by rw [Array.toList_map, hx]; rfl
      simp only [execOp, ho, resolve, invoke, builtin, Sem.run_bind, Sem.run_pure, Result.andThen_ok, Builtin.max_, e]
      rw [hrun]
      rfl
    · cases h
  · cases h

theorem absOp_ok {an : Ann} {isRes : Nat → Bool} {k : St → Option R} (hN : ∀ (f : Nat) (fn : Func), P.funcs[f]? = some fn → fn.name ≠ "runtime.NumGoroutine") (hcal : CalOk P A cal) (hgl : GlobOk A g0 w0)
    (h : absOp P A an isRes cal o S k = some r) (hg : Rel g0 w0 Ex g S a w) : OpOk P o a w g0 w0 Ex k r := by
  unfold absOp at h
  cases ho : o.op <;> rw [ho] at h <;> simp only at h <;> try (cases h; done)
  case move x => exact (opMove_step ho h hg).ok
  case assign x => exact (opAssign_step ho h hg).ok
  case pick c x y => exact (pick_step ho h hg).ok
  case alloc e =>
    split at h
    · rename_i z hz; exact (alloc_step ho hz h hg).ok
    · cases h
  case box e x =>
    split at h
    · exact (cbox_step ho h hg).ok
    · exact (box_step ho h hg).ok
  case makeInterface t x => exact (opIface_step ho h hg).ok
  case makeMap t r =>
    split at h
    · exact (opMakeMap_step ho h hg).ok
    · cases h
  case insert t m key v =>
    split at h
    · rename_i hd; exact (opMapUpdate_step (.inl ho) hd h hg).ok
    · cases h
  case mapUpdate t m key v =>
    split at h
    · rename_i hd; exact (opMapUpdate_step (.inr ho) hd h hg).ok
    · cases h
  case lookup t x i ok => exact (opLookup_step ho h hg).ok
  case build t parts => exact (opBuild_step ho h hg).ok
  case buildSlice t len parts => exact (opBuildSlice_step ho h hg).ok
  case load t x => exact (opLoadA_step ho (hgl.ext hg.fr.ext) h hg).ok
  case store t x y =>
    split at h
    · rename_i hd; exact (opStore_step ho hd h hg).ok
    · cases h
  case nilCheck x => exact (opNilCheck_step ho h hg).ok
  case binOp op t x y t2 =>
    obtain ⟨u, v, hrun, hrep, hk⟩ := opBinT_sound (xo := x) (yo := y) h (hg.ev x) (hg.ev y)
    exact (StepTo.val hg (by simp only [execOp, ho]; rw [Sem.run_bind, hrun]; rfl) hrep hk).ok
  case unOp op t x =>
    obtain ⟨u, v, hrun, hrep, hk⟩ := opUn_sound (P := P) h (hg.ev x)
    exact (StepTo.val hg (by simp only [execOp, ho]; rw [Sem.run_bind, hrun]; rfl) hrep hk).ok
  case convert s d x => exact (opConvert_step ho h hg).ok
  case makeSlice t n c => exact (opMake_step ho h hg).ok
  case slice t x lo hi mx => exact (opSlice_step ho h hg).ok
  case fieldAddr t x f => exact (opFieldAddr_step ho h hg).ok
  case field t x f =>
    obtain ⟨u, v, hrun, hrep, hk⟩ := opField_sound h (hg.ev x)
    exact (StepTo.val hg (by simp only [execOp, ho]; rw [Sem.run_bind, hrun]; rfl) hrep hk).ok
  case indexAddr t x i => exact (opIndexAddrA_step ho (hgl.ext hg.fr.ext) h hg).ok
  case index t x i =>
    obtain ⟨u, v, hrun, hrep, hk⟩ := opIndex_sound h (hg.ev x) (hg.ev i)
    exact (StepTo.val hg (by simp only [execOp, ho]; rw [Sem.run_bind, hrun]; rfl) hrep hk).ok
  case extract x i => exact (opExtract_step ho h hg).ok
  case call c =>
    split at h
    · rename_i b hb; exact (opBuiltin_step ho hb h hg).ok
    · rename_i fo hf; exact opCall_ok hN hcal hgl ho hf h hg
    · cases h

/-- an operation whose block is memory, too -/
theorem absOpM_ok {an : Ann} {isRes : Nat → Bool} {k : St → Option R} (hN : ∀ (f : Nat) (fn : Func), P.funcs[f]? = some fn → fn.name ≠ "runtime.NumGoroutine") (hcal : CalOk P A cal) (hgl : GlobOk A g0 w0) (hf : an.imp = false → Fresh0 g0 w0 Ex)
    (h : absOpM P A an isRes cal o S k = some r) (hg : Rel g0 w0 Ex g S a w) : OpOk P o a w g0 w0 Ex k r := by
  unfold absOpM at h
  split at h
  · exact absOp_ok hN hcal hgl h hg
  · split at h
    · rename_i c hop
      split at h
      · rename_i bi hbi
        split at h
        · split at h
          · rename_i st st2 x y hty har
            have ho : o.op = .call { callee := .builtin .append, args := #[x, y], argTypes := #[st, st2] } := by
              rw [hop]
              congr 1
              obtain ⟨cal, args, tys⟩ := c
              simp only at hbi hty har
              rw [hbi, two_args har, two_args hty]
            split at h
            · exact (opAppendM_step ho h hg).ok
            · exact (opAppendT_step ho hf h hg).ok
          · cases h
        · cases h
      · cases h
    · cases h

theorem guard?_some {v : AV} {kb : Bool → Option R} {ks : Option R} (h : v.guard? kb ks = some r) : (∃ b, v = .bool b ∧ kb b = some r) ∨ (v = .tuple [] ∧ ks = some r) := by
  unfold AV.guard? at h
  split at h
  · exact .inl ⟨_, rfl, h⟩
  · exact .inr ⟨rfl, h⟩
  · cases h

theorem dstOf_get (all : Array Oper) (j : Nat) : dstOf all.toList j = (all[j]?).bind (·.dst) := by
  have : ∀ (l : List Oper) (j : Nat), dstOf l j = (l[j]?).bind (·.dst) := by
    intro l
    induction l with
    | nil => intro j; simp [dstOf]
    | cons x l ih => intro j; cases j <;> simp [dstOf, ih]
  rw [this]; simp

/-- a slot's bool is known -/
theorem Rel.lit (hg : Rel g0 w0 Ex g S a w) {d : Nat} {b : Bool} (hd : (S.slot d).av = .bool b) : Rel g0 w0 Ex g (S.put d (.val (.bool b) .no)) a w := by
  cases hs : S.slot d with
  | und => rw [hs] at hd; cases hd
  | lp e off => rw [hs] at hd; cases hd
  | mp e => rw [hs] at hd; cases hd
  | val v f =>
    rw [hs] at hd
    have hv : v = .bool b := hd
    subst hv
    exact hg.reflag hs (f' := .no) trivial (by simp) (by simp)

theorem Rel.skip (hg : Rel g0 w0 Ex g S a w) (dst : Option Nat) : Rel g0 w0 Ex g (S.putd dst (.val (.tuple []) .no)) (a.put dst undef) w :=
  hg.putv (f := .no) dst (.tuple [] [] rfl (by simp)) (fun _ _ => trivial) (by simp) (by simp)

/-- one operation with its guard -/
theorem guarded_ok {an : Ann} {isRes : Nat → Bool} {all : Array Oper} {k : St → Option R} (hN : ∀ (f : Nat) (fn : Func), P.funcs[f]? = some fn → fn.name ≠ "runtime.NumGoroutine") (hcal : CalOk P A cal) (hgl : GlobOk A g0 w0) (hf : an.imp = false → Fresh0 g0 w0 Ex) {i : Nat} (hi : all[i]? = some o)
    (h : absOps P A an isRes cal all.toList [o] S k = some r) (hg : Rel g0 w0 Ex g S a w) (Q : Exit → Act → World → Prop) (K : Act → World → Prop)
    (hK : ∀ S' a' w', Good g0 w0 Ex S' a' w' → k S' = some r → K a' w') : wpOp P all Q i K a w := by
  unfold wpOp
  rw [hi]
  simp only
  have run : ∀ {S1 : St}, Rel g0 w0 Ex g S1 a w → (absOpM P A an isRes cal o S1 fun S' => absOps P A an isRes cal all.toList [] S' k) = some r → o.wp P a w K Q := by
    intro S1 h1 h2
    have := absOpM_ok hN hcal hgl hf h2 h1 Q
    exact Oper.wp_mono (fun a' w' ⟨S', hgd, hk⟩ => hK S' a' w' hgd hk) this
  unfold absOps at h
  cases hgd : o.guard with
  | none =>
    rw [hgd] at h
    simp only at h
    rw [if_pos (by simp [Region.wanted, hgd])]
    exact .inl (run hg h)
  | some jw =>
    obtain ⟨j, want⟩ := jw
    rw [hgd] at h
    simp only at h
    cases hd : dstOf all.toList j with
    | none => rw [hd] at h; cases h
    | some d =>
      rw [hd] at h
      simp only at h
      have hd' := hd
      rw [dstOf_get] at hd'
      have hev := hg.ev (.tmp d)
      have hy : ∀ v : Value, a.eval (.tmp d) = v → (∀ b, v = .bool b → yielded all a.tmps j = some b) ∧ ((∀ b, v ≠ .bool b) → yielded all a.tmps j = none) := by
        intro v hv
        have hv' : a.tmps.getD d undef = v := hv
        rw [Array.getD_eq_getD_getElem?] at hv'
        unfold yielded
        rw [hd']
        simp only [Option.bind_some]
        cases ht : a.tmps[d]? with
        | none =>
          rw [ht] at hv'
          refine ⟨fun b hb => ?_, fun _ => rfl⟩
          subst hb
          cases hv'
        | some u =>
          rw [ht] at hv'
          simp only [Option.getD_some] at hv'
          subst hv'
          refine ⟨fun b hb => by subst hb; rfl, fun hn => ?_⟩
          cases u <;> first | rfl | exact absurd rfl (hn _)
      rcases guard?_some h with ⟨b, hb, h2⟩ | ⟨hb, h2⟩
      · have hrb : Rep g w (a.eval (.tmp d)) (.bool b) := by
          have : S.ev (.tmp d) = .bool b := hb
          rw [← this]; exact hev
        have hvb := rep_bool hrb
        have hyb := (hy _ hvb).1 b rfl
        have hlit := hg.lit hb
        rcases br_some h2 with ⟨rfl, h3⟩ | ⟨rfl, h3⟩
        · cases want with
          | true =>
            rw [if_pos (by simp [Region.wanted, hgd, hyb])]
            exact .inl (run hlit h3)
          | false =>
            rw [if_neg (by simp [Region.wanted, hgd, hyb])]
            exact hK _ _ _ ⟨g, hlit.skip o.dst⟩ h3
        · cases want with
          | false =>
            rw [if_pos (by simp [Region.wanted, hgd, hyb])]
            exact .inl (run hlit h3)
          | true =>
            rw [if_neg (by simp [Region.wanted, hgd, hyb])]
            exact hK _ _ _ ⟨g, hlit.skip o.dst⟩ h3
      · have hrb : Rep g w (a.eval (.tmp d)) (.tuple []) := by
          have : S.ev (.tmp d) = .tuple [] := hb
          rw [← this]; exact hev
        obtain ⟨us, hvt, _⟩ := rep_tuple hrb
        have hyn := (hy _ hvt).2 (by simp)
        rw [if_neg (by simp [Region.wanted, hgd, hyn])]
        exact hK _ _ _ ⟨g, hg.skip o.dst⟩ h2

/-- the list of operations is worked off one by one -/
theorem absOps_cons {an : Ann} {isRes : Nat → Bool} {all : List Oper} {os : List Oper} {k : St → Option R} :
    absOps P A an isRes cal all (o :: os) S k = absOps P A an isRes cal all [o] S fun S' => absOps P A an isRes cal all os S' k := by
  conv => lhs; unfold absOps
  conv => rhs; unfold absOps
  rfl

theorem ops_ok {an : Ann} {isRes : Nat → Bool} {all : Array Oper} {k : St → Option R} (hN : ∀ (f : Nat) (fn : Func), P.funcs[f]? = some fn → fn.name ≠ "runtime.NumGoroutine") (hcal : CalOk P A cal) (hgl : GlobOk A g0 w0) (hf : an.imp = false → Fresh0 g0 w0 Ex) (Q : Exit → Act → World → Prop)
    (hQ : ∀ S' a' w', Good g0 w0 Ex S' a' w' → k S' = some r → Q .normal a' w') :
    ∀ (n i : Nat) (S : St) (a : Act) (w : World), n + i = all.size → absOps P A an isRes cal all.toList (all.toList.drop i) S k = some r → Good g0 w0 Ex S a w → wpOps P all Q ((List.range all.size).drop i) a w
  | 0, i, S, a, w, hi, h, hg => by
    have e1 : all.toList.drop i = [] := List.drop_eq_nil_of_le (by rw [Array.length_toList]; omega)
    have e2 : (List.range all.size).drop i = [] := List.drop_eq_nil_of_le (by rw [List.length_range]; omega)
    rw [e1] at h
    rw [e2]
    exact hQ S a w hg h
  | n + 1, i, S, a, w, hi, h, hg => by
    have hlt : i < all.size := by omega
    have e1 : all.toList.drop i = all[i] :: all.toList.drop (i + 1) := by
      rw [List.drop_eq_getElem_cons (by rw [Array.length_toList]; exact hlt)]; simp
    have e2 : (List.range all.size).drop i = i :: (List.range all.size).drop (i + 1) := by
      rw [List.drop_eq_getElem_cons (by rw [List.length_range]; exact hlt)]; simp
    rw [e1, absOps_cons] at h
    rw [e2, wpOps_cons]
    obtain ⟨g, hg⟩ := hg
    exact guarded_ok hN hcal hgl hf (by rw [Array.getElem?_eq_getElem hlt]) h hg Q _ fun S' a' w' hgd hk => ops_ok hN hcal hgl hf Q hQ n (i + 1) S' a' w' (by omega) hk hgd

end
end Go.Vai
