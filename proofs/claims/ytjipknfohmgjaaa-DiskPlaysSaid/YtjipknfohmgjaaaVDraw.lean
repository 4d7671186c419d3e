/- Regions whose order is drawn: every order that the edges allow gives the values that the order of the text gives. -/
import Derived.Test.YtjipknfohmgjaaaVOp13
namespace Go.Vai

section
variable {g0 : G} {w0 : World} {Ex : Nat → Prop} {g g' : G} {S : St} {a : Act} {w w' : World} {P : Program} {R : Type} {r : R} {o : Oper} {A : List (Nat × Ann)} {cal : Oracle}

/-- other slots, as good -/
theorem Rel.reslot {S' : St} (h : Rel g0 w0 Ex g S a w) (hL : S'.L = S.L) (hM : S'.M = S.M) (hH : S'.H = S.H) (hnx : S'.nx = S.nx) (hlen : S'.sl.length = S.sl.length)
    (hs : ∀ t, S'.slot t = S.slot t ∨ S'.slot t = .und ∨ ∃ v, S'.slot t = .val v .no ∧ Rep g w (a.tmps.getD t undef) v) : Rel g0 w0 Ex g S' a w := by
  refine ⟨h.inv, by rw [hH, hnx]; exact h.h, by rw [hL]; exact h.l, by rw [hM]; exact h.m, by rw [hlen]; exact h.len, fun t => ?_, h.fr, h.nodef⟩
  have key : ∀ q v', S'.slot q = .val v' .own → S.slot q = .val v' .own := by
    intro q v' hq
    rcases hs q with h1 | h1 | ⟨v, h1, _⟩
    · rw [← h1]; exact hq
    · rw [h1] at hq; cases hq
    · rw [h1] at hq; injection hq with _ e; cases e
  rcases hs t with h1 | h1 | ⟨v, h1, h2⟩
  · rw [h1]
    have h3 := h.sl t
    cases hst : S.slot t with
    | und => trivial
    | lp d off => rw [hst] at h3; exact h3
    | mp d => rw [hst] at h3; exact h3
    | val v f =>
      rw [hst] at h3
      refine ⟨h3.1, ?_⟩
      cases f with
      | no => trivial
      | own => exact h3.2
      | lS q => exact fun v' hq => h3.2 v' (key q v' hq)
      | lL d off => exact fun b hb hoff => h3.2 b (by rw [← hL]; exact hb) hoff
      | lH id off => exact fun b hb hoff => h3.2 b (by rw [← hH]; exact hb) hoff
      | comps cs => exact h3.2
  · rw [h1]; trivial
  · rw [h1]; exact ⟨h2, trivial⟩

/-- a slot that says nothing may be written -/
theorem Rel.put_und (h : Rel g0 w0 Ex g S a w) {d : Nat} (hd : S.slot d = .und) (u : Value) : Rel g0 w0 Ex g S (a.put (some d) u) w := by
  refine ⟨h.inv, h.h, h.l, h.m, by rw [put_size]; exact h.len, fun t => ?_, h.fr, by rw [put_defers']; exact h.nodef⟩
  have hs := h.sl t
  have key : ∀ q, S.slot q ≠ .und → (a.put (some d) u).tmps.getD q undef = a.tmps.getD q undef := by
    intro q hq
    rw [getD_put, if_neg]
    rintro ⟨rfl, _⟩
    exact hq hd
  cases hst : S.slot t with
  | und => trivial
  | lp e off =>
    rw [hst] at hs
    obtain ⟨B, h1, h2⟩ := hs
    exact ⟨B, h1, by rw [key t (by rw [hst]; simp)]; exact h2⟩
  | mp e =>
    rw [hst] at hs
    obtain ⟨B, h1, h2⟩ := hs
    exact ⟨B, h1, by rw [key t (by rw [hst]; simp)]; exact h2⟩
  | val v f =>
    rw [hst] at hs
    have e := key t (by rw [hst]; simp)
    refine ⟨by rw [e]; exact hs.1, ?_⟩
    rw [e]
    cases f with
    | lS q =>
      intro v' hq
      rw [key q (by rw [hq]; simp)]
      exact hs.2 v' hq
    | _ => exact hs.2

theorem Rel.world (h : Rel g0 w0 Ex g S a w) (hh : w'.heap = w.heap) (h1 : w'.os = w.os) (h2 : w'.tape = w.tape) (h3 : w'.output = w.output) : Rel g0 w0 Ex g S a w' := by
  have hc : ∀ p, w'.cell? p = w.cell? p := fun p => by simp only [World.cell?, hh]
  exact h.grow (g' := g) ⟨⟨fun _ _ h => h, fun _ => Nat.le_refl _, fun B o _ => hc _⟩, h1, h2, h3, by rw [hh]; exact Nat.le_refl _, fun B _ _ => ⟨by rw [hh], rfl, rfl⟩⟩
    ⟨fun B hB => h.inv.new B (by rw [← hh]; exact hB), h.inv.ph, h.inv.pl, h.inv.injh, h.inv.injl⟩ h.h.lt

theorem nthS_maskS (l : List Nat) : ∀ (sl : List Slot) (i t : Nat), nthS (maskS l i sl) t = match memN (i + t) l with
    | true => (match nthS sl t with
      | .val v _ => .val v .no
      | _ => .und)
    | false => .und
  | [], i, t => by cases h : memN (i + t) l <;> simp [maskS, nthS]
  | s :: r, i, 0 => by simp [maskS, nthS]; rfl
  | s :: r, i, t + 1 => by
    have := nthS_maskS l r (i + 1) t
    rw [show i + 1 + t = i + (t + 1) by omega] at this
    simpa [maskS, nthS] using this

theorem maskS_length (l : List Nat) : ∀ (sl : List Slot) (i : Nat), (maskS l i sl).length = sl.length
  | [], _ => rfl
  | _ :: r, i => by simp [maskS, maskS_length l r (i + 1)]

theorem slot_mask (S : St) (l : List Nat) (t : Nat) : (S.mask l).slot t = match memN t l with
    | true => (match S.slot t with
      | .val v _ => .val v .no
      | _ => .und)
    | false => .und := by
  have := nthS_maskS l S.sl 0 t
  rw [Nat.zero_add] at this
  exact this

theorem nthS_ext : ∀ {l l' : List Slot}, l.length = l'.length → (∀ t, nthS l t = nthS l' t) → l = l'
  | [], [], _, _ => rfl
  | x :: l, y :: l', hl, h => by
    have h0 := h 0
    simp only [nthS] at h0
    rw [h0, nthS_ext (l := l) (l' := l') (by simpa using hl) (fun t => h (t + 1))]

/-- the mask looks at the slots of its list alone -/
theorem mask_congr {S' : St} {l : List Nat} (hlen : S'.sl.length = S.sl.length) (h : ∀ t ∈ l, (S'.mask l).slot t = (S.mask l).slot t) : S'.mask l = S.mask l := by
  have : maskS l 0 S'.sl = maskS l 0 S.sl := by
    apply nthS_ext (by rw [maskS_length, maskS_length]; exact hlen)
    intro t
    have e1 := slot_mask S' l t
    have e2 := slot_mask S l t
    cases hm : memN t l with
    | false => rw [hm] at e1 e2; exact e1.trans e2.symm
    | true => exact h t (memN_iff.1 hm)
  simp only [St.mask, this]

theorem wp_put {K : Act → World → Prop} {Q : Exit → Act → World → Prop} (hK : ∀ a' w', K a' w' → a'.defers = []) (_hna : a.defers = []) (h : o.wp P a w K Q) : o.wp P a w (fun a' w' => (∃ u, a' = a.put o.dst u) ∧ K a' w') Q := by
  unfold Oper.wp at *
  generalize (execOp a.eval o).run P w = rr at *
  cases rr with
  | ok n w' =>
    cases n <;> simp only [Oper.upon] at h ⊢
    case value v => exact ⟨⟨v, rfl⟩, h⟩
    case skip => exact ⟨⟨undef, rfl⟩, h⟩
    case defer d =>
      have := hK _ _ h
      rw [put_defers'] at this
      cases this
    case enter f args =>
      refine Calls.mono h fun e w'' he => ?_
      cases e with
      | returned v => exact ⟨⟨v, rfl⟩, he⟩
      | _ => exact he
    case row row args => exact Rows.mono h fun v w'' he => ⟨⟨v, rfl⟩, he⟩
  | halt x w' => cases x <;> simp only [Oper.upon] at h ⊢ <;> exact h

def vOp (P : Program) (A : List (Nat × Ann)) (an : Ann) (isRes : Nat → Bool) (cal : Oracle) (o : Oper) (l : List Nat) (S : St) : Option AV :=
  (absOp P A an isRes cal o (S.mask l) some).bind fun S' => match o.dst with
    | Option.none => Option.none
    | some d => match S'.slot d with
      | .val v _ => some v
      | _ => Option.none

/-- one operation that gives a value, in a world where everything that it looks at is pure -/
theorem vOp_ok {an : Ann} {isRes : Nat → Bool} {l : List Nat} {T : St} {v : AV} (hN : ∀ (f : Nat) (fn : Func), P.funcs[f]? = some fn → fn.name ≠ "runtime.NumGoroutine") (hcal : CalOk P A cal) (hgl : GlobOk A g0 w0)
    (h : vOp P A an isRes cal o l T = some v) (hp : v.pure = true) (hT : T.sl.length = S.sl.length) (hl : ∀ t ∈ l, (∃ x f, T.slot t = .val x f ∧ x.pure = true ∧ Rep g w (a.tmps.getD t undef) x) ∨ ∀ x f, T.slot t ≠ .val x f)
    {d : Nat} (hdst : o.dst = some d) (hd : S.slot d = .und) (hdlt : d < S.sl.length)
    (hg : Rel g0 w0 Ex g S a w) (Q : Exit → Act → World → Prop) (K : Act → World → Prop)
    (hK : ∀ g' u w', Rel g0 w0 Ex g' S (a.put o.dst u) w' → Ext g w g' w' → Rep g' w' u v → K (a.put o.dst u) w') : o.wp P a w K Q := by
  unfold vOp at h
  obtain ⟨S1, h1, h2⟩ := bind_some' h
  rw [hdst] at h2
  simp only at h2
  have hS1 : ∃ f, S1.slot d = .val v f := by
    split at h2
    · rename_i x f hx
      injection h2 with e
      subst e
      exact ⟨f, hx⟩
    · cases h2
  obtain ⟨f, hS1⟩ := hS1
  have hrel : Rel g.none w (fun B => g.none.role B ≠ .ext) g.none (T.mask l) a w := by
    refine ⟨none_inv hg.inv, none_relH, fun d b hb => (by cases hb), fun d b hb => (by cases hb), ?_, fun t => ?_, ⟨Ext.refl _ _, rfl, rfl, rfl, Nat.le_refl _, fun _ _ _ => ⟨rfl, rfl⟩, fun B hB => .inr hB⟩, hg.nodef⟩
    · show (maskS l 0 T.sl).length = _
      rw [maskS_length, hT]; exact hg.len
    · rw [slot_mask]
      cases hm : memN t l with
      | false => trivial
      | true =>
        rcases hl t (memN_iff.1 hm) with ⟨x, f, h3, h4, h5⟩ | h3
        · rw [h3]
          exact ⟨h5.pure h4 g.none (fun _ => Nat.le_refl _), trivial⟩
        · cases hs : T.slot t with
          | val x f => exact absurd hs (h3 x f)
          | _ => trivial
  have hw := wp_put (fun a' w' hk => by obtain ⟨S', ⟨g', hg'⟩, _⟩ := hk; exact hg'.nodef) hg.nodef (absOp_ok hN hcal (GlobOk.pure (g' := g.none) (hgl.ext hg.fr.ext) fun _ => Nat.le_refl _) h1 hrel Q)
  refine Oper.wp_mono ?_ hw
  rintro a' w' ⟨⟨u, rfl⟩, S', ⟨g', hg'⟩, hS'⟩
  injection hS' with hS'
  subst hS'
  have hslot := hg'.sl d
  rw [hS1] at hslot
  have hrep : Rep g' w' u v := by
    have := hslot.1
    rw [hdst, getD_put, if_pos ⟨rfl, by rw [← hg.len]; exact hdlt⟩] at this
    exact this
  have old : ∀ B, B < w.heap.size → w'.heap[B]? = w.heap[B]? ∧ g'.pub B = g.pub B := fun B hB => hg'.fr.same B hB (fun h => h rfl)
  let g2 : G := ⟨fun B => if B < w.heap.size then g.role B else .ext, g'.pub⟩
  have r2 : ∀ B, g2.role B = if B < w.heap.size then g.role B else .ext := fun _ => rfl
  have rne : ∀ B, g2.role B ≠ .ext → B < w.heap.size ∧ g2.role B = g.role B := by
    intro B hB
    rw [r2] at hB ⊢
    split
    · rename_i h; exact ⟨h, rfl⟩
    · rename_i h; rw [if_neg h] at hB; exact absurd rfl hB
  have hinv : Inv g2 w' := by
    refine ⟨fun B hB => ?_, fun B id hB => ?_, fun B d hB => ?_, fun B B' id k1 k2 => ?_, fun B B' d k1 k2 => ?_⟩
    · have hs := hg'.fr.size
      exact ⟨by rw [r2, if_neg (by omega)], (hg'.inv.new B hB).2⟩
    · obtain ⟨k1, k2⟩ := rne B (by rw [hB]; simp)
      show g'.pub B = 0
      rw [(old B k1).2]; exact hg.inv.ph B id (k2 ▸ hB)
    · obtain ⟨k1, k2⟩ := rne B (by rw [hB]; simp)
      show g'.pub B = 0
      rw [(old B k1).2]; exact hg.inv.pl B d (k2 ▸ hB)
    · obtain ⟨_, k3⟩ := rne B (by rw [k1]; simp)
      obtain ⟨_, k4⟩ := rne B' (by rw [k2]; simp)
      exact hg.inv.injh B B' id (k3 ▸ k1) (k4 ▸ k2)
    · obtain ⟨_, k3⟩ := rne B (by rw [k1]; simp)
      obtain ⟨_, k4⟩ := rne B' (by rw [k2]; simp)
      exact hg.inv.injl B B' d (k3 ▸ k1) (k4 ▸ k2)
  have hE : Ext g w g2 w' := by
    refine ⟨fun B id hB => ?_, fun B => hg'.fr.ext.pub B, fun B o ho => hg'.fr.ext.cell B o ho⟩
    have : B < w.heap.size := by
      rcases Nat.lt_or_ge B w.heap.size with h | h
      · exact h
      · rw [(hg.inv.new B h).1] at hB; cases hB
    rw [r2, if_pos this]; exact hB
  have hk : Keep (fun _ => False) g w g2 w' := ⟨hE, hg'.fr.os, hg'.fr.tape, hg'.fr.output, hg'.fr.size, fun B hB _ => ⟨(old B hB).1, by rw [r2, if_pos hB], (old B hB).2⟩⟩
  have hgrow := hg.grow hk hinv (fun B id hB => by
    obtain ⟨_, k2⟩ := rne B (by rw [hB]; simp)
    exact hg.h.lt B id (k2 ▸ hB))
  refine hK g2 u w' ?_ hE (hrep.pure hp g2 (fun _ => Nat.le_refl _))
  rw [hdst]
  exact hgrow.put_und hd u

end
end Go.Vai
