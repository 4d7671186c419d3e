/- A step with its guard; what it does to the machine. -/
import Derived.Test.YtjipknfohmgjaaaVDag4
namespace Go.Vai

section
variable {g0 : G} {w0 : World} {Ex : Nat → Prop} {g g' : G} {a : Act} {w w' : World} {R : Type} {r : R}
variable {eb ebj ebi : Bool} {P : Program} {A : List (Nat × Ann)} {an : Ann} {isRes : Nat → Bool} {cal : Oracle} {o : Oper} {S S' : St} {l : List Nat}

/-- is the operation wanted -/
def gres (all : List Oper) (o : Oper) (S : St) : Option Bool := match o.guard with
  | none => some true
  | some (j, want) => match dstOf all j with
    | none => none
    | some d => match S.slot d with
      | .val (.bool b) _ => some (b == want)
      | .val (.tuple []) _ => some false
      | _ => none

theorem dstep0_eq {all : List Oper} {D : List Nat} {i : Nat} {fz : Fx} {x : OI} {k : St → Option R} : dstep0 P A an isRes cal all D i fz x o S k = match gres all o S with
    | some true => dop P A an isRes cal D i fz x o S k
    | some false => k (S.putd o.dst (.val (.tuple []) .no))
    | none => none := by
  unfold dstep0 gres
  cases o.guard with
  | none => rfl
  | some jw =>
    obtain ⟨j, want⟩ := jw
    simp only
    cases dstOf all j with
    | none => rfl
    | some d =>
      simp only
      cases hs : S.slot d with
      | und => rfl
      | lp e off => rfl
      | mp e => rfl
      | val v f =>
        cases v with
        | bool b =>
          have e : S.put d (.val (.bool b) f) = S := by rw [← hs]; exact put_self S d
          cases b <;> cases want <;> simp only [br, e] <;> rfl
        | tuple l => cases l <;> rfl
        | _ => rfl

theorem gres_same {all : List Oper} (hg : ∀ j want d, o.guard = some (j, want) → dstOf all j = some d → d ∈ l) (h : ∀ t ∈ l, (S'.slot t).bare = (S.slot t).bare) : gres all o S' = gres all o S := by
  unfold gres
  cases hgd : o.guard with
  | none => rfl
  | some jw =>
    obtain ⟨j, want⟩ := jw
    simp only
    cases hd : dstOf all j with
    | none => rfl
    | some d =>
      simp only
      have hb := h d (hg j want d hgd hd)
      cases hs : S.slot d with
      | und => rw [bare_und hb hs]
      | lp e off => rw [bare_lp hb hs]
      | mp e => rw [bare_mp hb hs]
      | val v f =>
        obtain ⟨f', hs'⟩ := bare_val hb hs
        rw [hs']
        cases v with
        | tuple l => cases l <;> rfl
        | _ => rfl

theorem dstep0_two {all : List Oper} {D : List Nat} {i : Nat} {fz : Fx} {x : OI} (hx : x.cl = clOf A eb o) (hl : ∀ t, Operand.tmp t ∈ o.op.operands → t ∈ x.lk) (hg : ∀ j want d, o.guard = some (j, want) → dstOf all j = some d → d ∈ x.lk)
    (hv : isVal x.cl = true) (h : Sim fz.fx fz.fh S S' x.lk) : TwoF fz.fx (fun _ k => dstep0 P A an isRes cal all D i fz x o S k) (fun _ k => dstep0 P A an isRes cal all D i fz x o S' k) o.dst S S' := by
  have e : gres all o S' = gres all o S := gres_same hg h.same.slot
  unfold TwoF
  simp only [dstep0_eq, e]
  cases gres all o S with
  | none => exact .inl fun R k => rfl
  | some b =>
    cases b with
    | true => exact dop_two hx hl hv h
    | false => exact .inr ⟨_, fun R k => rfl, fun R k => rfl, fun _ => rfl⟩

theorem dstep_nv {all : List Oper} {D : List Nat} {i : Nat} {fz : Fx} {x : OI} {k : St → Option R} (hv : isVal x.cl = false) : dstep P A an isRes cal all D i fz x o S k = dstep0 P A an isRes cal all D i fz x o S k := by
  unfold dstep needs
  rw [hv]

theorem chk_congr {fz : Fx} {x : OI} {l : List Nat} (h : ∀ t ∈ l, (S'.slot t).bare = (S.slot t).bare) : chk fz x S' l = chk fz x S l := by
  unfold chk
  rw [noBox_congr h]

theorem dstep_two {all : List Oper} {D : List Nat} {i : Nat} {fz : Fx} {x : OI} (hds : ∀ q, q ∈ x.ds → o.dst = some q) (hx : x.cl = clOf A eb o) (hl : ∀ t, Operand.tmp t ∈ o.op.operands → t ∈ x.lk) (hg : ∀ j want d, o.guard = some (j, want) → dstOf all j = some d → d ∈ x.lk)
    (hv : isVal x.cl = true) (h : Sim fz.fx fz.fh S S' x.lk) : TwoF fz.fx (fun _ k => dstep P A an isRes cal all D i fz x o S k) (fun _ k => dstep P A an isRes cal all D i fz x o S' k) o.dst S S' := by
  unfold dstep
  cases needs fz x with
  | false => exact dstep0_two hx hl hg hv h
  | true =>
  unfold TwoF
  simp only [chk_congr h.same.slot]
  cases hc : chk fz x S x.lk with
  | false => exact .inl fun R k => rfl
  | true =>
    rcases dstep0_two (P := P) (an := an) (isRes := isRes) (cal := cal) (all := all) (D := D) (i := i) (fz := fz) hx hl hg hv h with hn | ⟨s, h1, h2, h3⟩
    · exact .inl fun R k => hn R _
    · have e : chk fz x (S'.putd o.dst s) x.ds = chk fz x (S.putd o.dst s) x.ds := by
        unfold chk
        rw [noBox_putd hds h.same.len rfl]
      cases hc2 : chk fz x (S.putd o.dst s) x.ds with
      | false => exact .inl fun R k => (h1 R _).trans (by simp only [hc2, br])
      | true => exact .inr ⟨s, fun R k => (h1 R _).trans (by simp only [hc2, br]), fun R k => (h2 R _).trans (by simp only [e, hc2, br]), h3⟩

/-- what floats hands on no box that is written in no fixed order with it -/
theorem dstep_box {all : List Oper} {D : List Nat} {i : Nat} {fz : Fx} {x : OI} {T : St} (hv : isVal x.cl = true) (hfx : fz.fx = false) (h : ∀ k : St → Option St, dstep P A an isRes cal all D i fz x o S k = k T) :
    (∀ t ∈ x.lk, ∀ e off, (S.slot t = .lp e off ∨ S.slot t = .mp e) → e ∉ fz.ws) ∧ ∀ t ∈ x.ds, ∀ e off, (T.slot t = .lp e off ∨ T.slot t = .mp e) → e ∉ fz.ws := by
  have hne : fz.ws = [] ∨ needs fz x = true := by
    unfold needs
    rw [hv, hfx]
    cases fz.ws with
    | nil => exact .inl rfl
    | cons _ _ => exact .inr rfl
  rcases hne with hnil | hneed
  · rw [hnil]
    exact ⟨fun t _ e off _ => by simp, fun t _ e off _ => by simp⟩
  have h1 := h some
  unfold dstep at h1
  rw [hneed] at h1
  obtain ⟨hc, h1⟩ := br_left h1
  have c : ∀ T l, chk fz x T l = noBox T fz.ws l := fun T l => by unfold chk; rw [hv, hfx]
  rw [c] at hc
  refine ⟨fun t ht e off hs => noBox_spec hc ht hs, ?_⟩
  have key : ∀ U : St, U = T → chk fz x U x.ds = true ∨ dstep0 P A an isRes cal all D i fz x o S (fun S' => br (chk fz x S' x.ds) (some S') none) ≠ some U := by
    intro U hU
    cases hcc : chk fz x U x.ds with
    | true => exact .inl rfl
    | false =>
      right
      intro hh
      have h2 := h (fun S' => br (chk fz x S' x.ds) (some S') none)
      have h3 : dstep P A an isRes cal all D i fz x o S (fun S' => br (chk fz x S' x.ds) (some S') none) = some U := by
        unfold dstep
        rw [hneed]
        simp only
        rw [c, hc]
        have e : (fun S' => br (chk fz x S' x.ds) (br (chk fz x S' x.ds) (some S') none) none) = fun S' => br (chk fz x S' x.ds) (some S') (none : Option St) := by
          funext S'
          cases chk fz x S' x.ds <;> rfl
        rw [e]
        exact hh
      rw [h3] at h2
      rw [← hU, hcc] at h2
      cases h2
  rcases key T rfl with hk | hk
  · rw [c] at hk
    exact fun t ht e off hs => noBox_spec hk ht hs
  · exact absurd h1 hk

theorem Rel.nx (h : Rel g0 w0 Ex g S a w) (n : Nat) : Rel g0 w0 Ex g { S with nx := n } a w :=
  ⟨h.inv, ⟨h.h.blk, h.h.lt⟩, h.l, h.m, h.len, fun t => by
    have := h.sl t
    cases hst : S.slot t with
    | und => show SlotRel g _ a w t (S.slot t); rw [hst]; trivial
    | lp d' off => show SlotRel g _ a w t (S.slot t); rw [hst] at this ⊢; exact this
    | mp d' => show SlotRel g _ a w t (S.slot t); rw [hst] at this ⊢; exact this
    | val v f => show SlotRel g _ a w t (S.slot t); rw [hst] at this ⊢; exact ⟨this.1, by cases f <;> exact this.2⟩, h.fr, h.nodef⟩

theorem Rel.bareAt (h : Rel g0 w0 Ex g S a w) (d : Option Nat) : Rel g0 w0 Ex g (S.bareAt d) a w := by
  cases d with
  | none => exact h
  | some d =>
    show Rel g0 w0 Ex g (S.put d (S.slot d).bare) a w
    cases hs : S.slot d with
    | val v f => exact h.reflag hs (f' := .no) trivial (by simp) (by simp)
    | und => rw [show S.put d Slot.und.bare = S by show S.put d Slot.und = S; rw [← hs]; exact put_self S d]; exact h
    | lp e off => rw [show S.put d (Slot.lp e off).bare = S by show S.put d (Slot.lp e off) = S; rw [← hs]; exact put_self S d]; exact h
    | mp e => rw [show S.put d (Slot.mp e).bare = S by show S.put d (Slot.mp e) = S; rw [← hs]; exact put_self S d]; exact h

theorem dop_ok (hN : ∀ (f : Nat) (fn : Func), P.funcs[f]? = some fn → fn.name ≠ "runtime.NumGoroutine") (hcal : CalOk P A cal) (hgl : GlobOk A g0 w0) {D : List Nat} {i : Nat} {fz : Fx} {x : OI} (hx : x.cl = clOf A eb o) {k : St → Option R} (h : dop P A an isRes cal D i fz x o S k = some r)
    (hg : Rel g0 w0 Ex g S a w) (Q : Exit → Act → World → Prop) : o.wp P a w (fun a' w' => ∃ S', Good g0 w0 Ex S' a' w' ∧ k S' = some r) Q := by
  unfold dop at h
  split at h
  · split at h
    · exact absOp_ok hN hcal hgl h hg Q
    · refine Oper.wp_mono ?_ (absOp_ok hN hcal hgl h hg Q)
      rintro a' w' ⟨S1, ⟨g1, h1⟩, h2⟩
      exact ⟨_, ⟨g1, h1.bareAt o.dst⟩, h2⟩
  · split at h
    · exact absOp_ok hN hcal hgl h hg Q
    · obtain ⟨_, h⟩ := br_left h
      refine Oper.wp_mono ?_ (absOp_ok hN hcal hgl h hg Q)
      rintro a' w' ⟨S1, ⟨g1, h1⟩, h2⟩
      exact ⟨_, ⟨g1, h1.bareAt o.dst⟩, h2⟩
  · rename_i hc
    rw [hx] at hc
    split at h
    · cases h
    · rename_i d hd
      cases hcat : catOk o fz.fx S with
      | true =>
        rw [hcat] at h
        simp only at h
        obtain ⟨_, h⟩ := br_left h
        obtain ⟨u, w', g', v, hrun, hk, hrel⟩ := opCat_ok h hd hg
        exact (StepTo.mk hrun ⟨g', by rw [hd]; exact hrel⟩ hk).ok Q
      | false =>
      rw [hcat] at h
      simp only at h
      obtain ⟨hp0, h⟩ := br_left h
      rw [Bool.and_eq_true] at hp0
      obtain ⟨hlt0, hp⟩ := hp0
      rcases par2 (P := P) (an := an) (isRes := isRes) (cal := cal) hc (S.mask x.lk) with hn | ⟨T, hT⟩
      · rw [show absOp P A an isRes cal o (S.mask x.lk) _ = none from hn _ _] at h; cases h
      · have hT' : ∀ (R : Type) (k : St → Option R), absOp P A an isRes cal o (S.mask x.lk) k = k T := hT
        rw [hT'] at h
        split at h
        · rename_i v f hs
          obtain ⟨hpv, hk⟩ := br_left h
          have hv : vOp P A an isRes cal o x.lk S = some v := by
            unfold vOp
            rw [hT']
            simp only [Option.bind_some, hd, hs]
          have hlt : d < S.sl.length := by simpa [Nat.blt_eq] using hlt0
          have hund : (S.put d .und).slot d = .und := by rw [slot_put, if_pos ⟨rfl, hlt⟩]
          have hg0 : Rel g0 w0 Ex g (S.put d .und) a w := hg.reslot rfl rfl rfl rfl (by show (setS S.sl d _).length = _; rw [setS_length]) fun t => by
            rw [slot_put]
            split
            · exact .inr (.inl rfl)
            · exact .inl rfl
          refine vOp_ok (S := S.put d .und) hN hcal hgl hv hpv (by show _ = (setS S.sl d _).length; rw [setS_length]) (fun t ht => ?_) hd hund (by show d < (setS S.sl d _).length; rw [setS_length]; exact hlt) hg0 Q _ ?_
          · cases hst : S.slot t with
            | und => exact .inr (by simp)
            | lp e off => exact .inr (by simp)
            | mp e => exact .inr (by simp)
            | val y fy =>
              refine .inl ⟨y, fy, rfl, ?_, ?_⟩
              · have hm : y ∈ x.lk.map fun t => (S.slot t).av := List.mem_map.2 ⟨t, ht, by rw [hst]; rfl⟩
                obtain ⟨n, hn⟩ := List.getElem?_of_mem hm
                exact pureL_get hp n _ hn
              · have := hg.sl t
                rw [hst] at this
                exact this.1
          · intro g' u w' h1 _ h3
            refine ⟨S.put d (.val v .no), ⟨g', h1.reslot rfl rfl rfl rfl (by show (setS S.sl d _).length = (setS S.sl d _).length; rw [setS_length, setS_length]) fun t => ?_⟩, hk⟩
            rw [slot_put, slot_put]
            split
            · rename_i ht
              refine .inr (.inr ⟨v, rfl, ?_⟩)
              rw [ht.1, hd, getD_put, if_pos ⟨rfl, by rw [← hg.len]; exact hlt⟩]
              exact h3
            · exact .inl rfl
        · cases h
  · split at h
    · cases h
    · refine Oper.wp_mono ?_ (absOp_ok hN hcal hgl h (hg.nx _) Q)
      rintro a' w' ⟨S1, ⟨g1, h1⟩, h2⟩
      split at h2
      · split at h2
        · exact ⟨_, ⟨g1, h1.nx _⟩, h2⟩
        · cases h2
      · cases h2
  · split at h
    · cases h
    · refine Oper.wp_mono ?_ (absOp_ok hN hcal hgl h hg Q)
      rintro a' w' ⟨S1, ⟨g1, h1⟩, h2⟩
      split at h2
      · obtain ⟨_, h2⟩ := br_left h2
        exact ⟨_, ⟨g1, h1⟩, h2⟩
      · cases h2
  · obtain ⟨_, h⟩ := br_left h
    exact absOp_ok hN hcal hgl h hg Q
  · split at h
    · obtain ⟨_, h⟩ := br_left h
      exact absOp_ok hN hcal hgl h hg Q
    · obtain ⟨_, h⟩ := br_left h
      refine Oper.wp_mono ?_ (absOp_ok hN hcal hgl h hg Q)
      rintro a' w' ⟨S1, ⟨g1, h1⟩, h2⟩
      obtain ⟨_, h2⟩ := br_left h2
      exact ⟨_, ⟨g1, h1⟩, h2⟩

end
end Go.Vai
