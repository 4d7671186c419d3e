/- Slots: reading and writing them on both sides. -/
import Derived.Test.YtjipknfohmgjaaaVRel
namespace Go.Vai

theorem nthS_setS : ∀ (l : List Slot) (n : Nat) (s : Slot) (t : Nat), nthS (setS l n s) t = if t = n ∧ n < l.length then s else nthS l t
  | [], n, s, t => by simp [setS, nthS]
  | x :: l, 0, s, t => by cases t <;> simp [setS, nthS]
  | x :: l, n + 1, s, t => by
    cases t with
    | zero => simp [setS, nthS]
    | succ t => simp only [setS, nthS, nthS_setS l n s t]; simp

theorem setS_length : ∀ (l : List Slot) (n : Nat) (s : Slot), (setS l n s).length = l.length
  | [], _, _ => rfl
  | _ :: _, 0, _ => rfl
  | _ :: l, n + 1, s => by simp [setS, setS_length l n s]

theorem nthS_map (f : Slot → Slot) (hf : f .und = .und) : ∀ (l : List Slot) (t : Nat), nthS (l.map f) t = f (nthS l t)
  | [], t => by simp [nthS, hf]
  | x :: l, 0 => rfl
  | x :: l, t + 1 => by simpa [nthS] using nthS_map f hf l t

theorem nthS_lt {l : List Slot} {t : Nat} (h : nthS l t ≠ .und) : t < l.length := by
  induction l generalizing t with
  | nil => simp [nthS] at h
  | cons x l ih =>
    cases t with
    | zero => simp
    | succ t => simp only [List.length_cons]; have := ih (t := t) (by simpa [nthS] using h); omega

theorem getD_put (a : Act) (d : Nat) (v : Value) (t : Nat) : (a.put (some d) v).tmps.getD t undef = if t = d ∧ d < a.tmps.size then v else a.tmps.getD t undef := by
  simp only [Act.put]
  rw [Array.getD_eq_getD_getElem?, Array.getElem?_setIfInBounds, Array.getD_eq_getD_getElem?]
  by_cases h : d = t
  · subst h
    by_cases h2 : d < a.tmps.size
    · simp [h2]
    · simp [h2]
  · have h' : ¬ t = d := fun e => h e.symm
    simp [h, h']

theorem put_size (a : Act) (d : Option Nat) (v : Value) : (a.put d v).tmps.size = a.tmps.size := by
  cases d <;> simp [Act.put]

theorem put_defers' (a : Act) (d : Option Nat) (v : Value) : (a.put d v).defers = a.defers := by
  cases d <;> rfl

theorem eval_tmp (a : Act) (t : Nat) : a.eval (.tmp t) = a.tmps.getD t undef := rfl

theorem slot_put (S : St) (d : Nat) (s : Slot) (t : Nat) : (S.put d s).slot t = if t = d ∧ d < S.sl.length then s else S.slot t := nthS_setS _ _ _ _

section
variable {g0 : G} {w0 : World} {Ex : Nat → Prop} {g : G} {S : St} {a : Act} {w : World}

/-- the slots' relation where nothing is lent any more -/
def FlC (g : G) (w : World) (t : Nat) (u : Value) (v : AV) : Fl → Prop
  | .own => OwnAV g w (.s t) u v
  | .comps cs => ∀ i ∈ cs, ∀ us vs ui vi, u = .tuple us → v = .tuple vs → us[i]? = some ui → vs[i]? = some vi → OwnAV g w (.sc t i) ui vi
  | _ => True

def SlotC (g : G) (a : Act) (w : World) (t : Nat) : Slot → Prop
  | .und => True
  | .lp d off => ∃ B, g.role B = .l d ∧ a.tmps.getD t undef = .pointer (some ⟨B, off, none⟩)
  | .mp d => ∃ B, g.role B = .l d ∧ a.tmps.getD t undef = .map (some B)
  | .val v f => Rep g w (a.tmps.getD t undef) v ∧ FlC g w t (a.tmps.getD t undef) v f

theorem SlotRel.c {t : Nat} {s : Slot} (h : SlotRel g S a w t s) : SlotC g a w t s := by
  cases s with
  | und => trivial
  | lp d off => exact h
  | mp d => exact h
  | val v f => exact ⟨h.1, by cases f <;> first | exact h.2 | trivial⟩

theorem SlotC.rel {t : Nat} {s : Slot} (h : SlotC g a w t s) (S : St) : SlotRel g S a w t s.unlent := by
  cases s with
  | und => trivial
  | lp d off => exact h
  | mp d => exact h
  | val v f => exact ⟨h.1, by cases f <;> first | exact h.2 | trivial⟩

theorem slot_unlent (S : St) (t : Nat) : S.unlent.slot t = (S.slot t).unlent := nthS_map _ rfl _ _
theorem slot_unlentH (S : St) (t : Nat) : S.unlentH.slot t = (S.slot t).unlentH := nthS_map _ rfl _ _
theorem slot_unlentH_own {t : Nat} {v : AV} (h : S.unlentH.slot t = .val v .own) : S.slot t = .val v .own := by
  rw [slot_unlentH] at h
  revert h
  cases S.slot t with
  | val v2 f2 => cases f2 <;> (intro h; first | exact h | cases h)
  | _ => exact fun h => h

theorem Rel.unlent (h : Rel g0 w0 Ex g S a w) : Rel g0 w0 Ex g S.unlent a w :=
  ⟨h.inv, h.h, h.l, h.m, by simpa [St.unlent] using h.len, fun t => by rw [slot_unlent]; exact (h.sl t).c.rel _, h.fr, h.nodef⟩

/-- a value without a right of its own goes into a slot -/
theorem Rel.putv (h : Rel g0 w0 Ex g S a w) (dst : Option Nat) {u : Value} {v : AV} {f : Fl} (hr : Rep g w u v) (hf : ∀ d, dst = some d → FlRel g S a w d u v f) (hno : f ≠ .own) (hnc : ∀ cs, f ≠ .comps cs) :
    Rel g0 w0 Ex g (S.putd dst (.val v f)) (a.put dst u) w := by
  cases dst with
  | none => exact h
  | some d =>
    refine ⟨h.inv, h.h, h.l, h.m, ?_, fun t => ?_, h.fr, by rw [put_defers']; exact h.nodef⟩
    · show (setS S.sl d _).length = _
      rw [setS_length, put_size]; exact h.len
    show SlotRel g (S.put d (.val v f)) (a.put (some d) u) w t ((S.put d (.val v f)).slot t)
    have hs := h.sl t
    have key : ∀ q v', (S.put d (.val v f)).slot q = .val v' .own → S.slot q = .val v' .own ∧ (a.put (some d) u).tmps.getD q undef = a.tmps.getD q undef := by
      intro q v' hq
      rw [slot_put] at hq
      split at hq
      · rename_i hqd; injection hq with h1 h2; exact absurd h2 hno
      · rename_i hqd
        refine ⟨hq, ?_⟩
        rw [getD_put, if_neg (by rw [← h.len]; exact hqd)]
    rw [slot_put]
    by_cases htd : t = d ∧ d < S.sl.length
    · rw [if_pos htd]
      obtain ⟨rfl, hlt⟩ := htd
      have e : (a.put (some t) u).tmps.getD t undef = u := by rw [getD_put, if_pos ⟨rfl, by rw [← h.len]; exact hlt⟩]
      refine ⟨by rw [e]; exact hr, ?_⟩
      rw [e]
      have hf' := hf t rfl
      cases f with
      | no => trivial
      | own => exact absurd rfl hno
      | lS q =>
        intro v' hq
        obtain ⟨h1, h2⟩ := key q v' hq
        rw [h2]
        exact hf' v' h1
      | lL d' off => exact hf'
      | lH id off => exact hf'
      | comps cs => exact absurd rfl (hnc cs)
    · rw [if_neg htd]
      have e : (a.put (some d) u).tmps.getD t undef = a.tmps.getD t undef := by rw [getD_put, if_neg (by rw [← h.len]; exact htd)]
      cases hst : S.slot t with
      | und => trivial
      | lp d' off => rw [hst] at hs; obtain ⟨B, h1, h2⟩ := hs; exact ⟨B, h1, by rw [e]; exact h2⟩
      | mp d' => rw [hst] at hs; obtain ⟨B, h1, h2⟩ := hs; exact ⟨B, h1, by rw [e]; exact h2⟩
      | val v2 f2 =>
        rw [hst] at hs
        obtain ⟨h1, h2⟩ := hs
        refine ⟨by rw [e]; exact h1, ?_⟩
        rw [e]
        cases f2 with
        | no => trivial
        | own => exact h2
        | lS q =>
          intro v' hq
          obtain ⟨h3, h4⟩ := key q v' hq
          rw [h4]
          exact h2 v' h3
        | lL d' off => exact h2
        | lH id off => exact h2
        | comps cs => exact h2

/-- a pointer into a box goes into a slot -/
theorem Rel.putlp (h : Rel g0 w0 Ex g S a w) (dst : Option Nat) {u : Value} {s : Slot} (hs : s = .und ∨ (∃ d off B, s = .lp d off ∧ g.role B = .l d ∧ u = .pointer (some ⟨B, off, none⟩)) ∨ ∃ d B, s = .mp d ∧ g.role B = .l d ∧ u = .map (some B)) :
    Rel g0 w0 Ex g (S.putd dst s) (a.put dst u) w := by
  cases dst with
  | none => exact h
  | some d =>
    refine ⟨h.inv, h.h, h.l, h.m, ?_, fun t => ?_, h.fr, by rw [put_defers']; exact h.nodef⟩
    · show (setS S.sl d _).length = _
      rw [setS_length, put_size]; exact h.len
    show SlotRel g (S.put d s) (a.put (some d) u) w t ((S.put d s).slot t)
    have hsl := h.sl t
    have key : ∀ q v', (S.put d s).slot q = .val v' .own → S.slot q = .val v' .own ∧ (a.put (some d) u).tmps.getD q undef = a.tmps.getD q undef := by
      intro q v' hq
      rw [slot_put] at hq
      split at hq
      · rcases hs with rfl | ⟨_, _, _, rfl, _⟩ | ⟨_, _, rfl, _⟩ <;> cases hq
      · rename_i hqd
        refine ⟨hq, ?_⟩
        rw [getD_put, if_neg (by rw [← h.len]; exact hqd)]
    rw [slot_put]
    by_cases htd : t = d ∧ d < S.sl.length
    · rw [if_pos htd]
      obtain ⟨rfl, hlt⟩ := htd
      have e : (a.put (some t) u).tmps.getD t undef = u := by rw [getD_put, if_pos ⟨rfl, by rw [← h.len]; exact hlt⟩]
      rcases hs with rfl | ⟨d', off, B, rfl, h1, h2⟩ | ⟨d', B, rfl, h1, h2⟩
      · trivial
      · exact ⟨B, h1, by rw [e]; exact h2⟩
      · exact ⟨B, h1, by rw [e]; exact h2⟩
    · rw [if_neg htd]
      have e : (a.put (some d) u).tmps.getD t undef = a.tmps.getD t undef := by rw [getD_put, if_neg (by rw [← h.len]; exact htd)]
      cases hst : S.slot t with
      | und => trivial
      | lp d' off => rw [hst] at hsl; obtain ⟨B, h1, h2⟩ := hsl; exact ⟨B, h1, by rw [e]; exact h2⟩
      | mp d' => rw [hst] at hsl; obtain ⟨B, h1, h2⟩ := hsl; exact ⟨B, h1, by rw [e]; exact h2⟩
      | val v2 f2 =>
        rw [hst] at hsl
        obtain ⟨h1, h2⟩ := hsl
        refine ⟨by rw [e]; exact h1, ?_⟩
        rw [e]
        cases f2 with
        | no => trivial
        | own => exact h2
        | lS q =>
          intro v' hq
          obtain ⟨h3, h4⟩ := key q v' hq
          rw [h4]
          exact h2 v' h3
        | lL d' off => exact h2
        | lH id off => exact h2
        | comps cs => exact h2

theorem slot_unS (S : St) (d t : Nat) : ({ S with sl := S.sl.map (Slot.unS d) } : St).slot t = (S.slot t).unS d := nthS_map _ rfl _ _

/-- a value with a right of its own goes into a slot -/
theorem Rel.putown (h : Rel g0 w0 Ex g S a w) (dst : Option Nat) {u : Value} {v : AV} {f : Fl} (hr : Rep g w u v) (hf : ∀ d, dst = some d → FlC g w d u v f) (hfl : f = .no ∨ f = .own ∨ ∃ cs, f = .comps cs) :
    Rel g0 w0 Ex g (S.putown dst v f) (a.put dst u) w := by
  cases dst with
  | none => exact h
  | some d =>
    rcases Classical.em (f = .no) with hno | hno
    · subst hno
      exact h.putv (some d) hr (fun _ _ => trivial) (by simp) (by simp)
    have e0 : S.putown (some d) v f = ({ S with sl := S.sl.map (Slot.unS d) } : St).put d (.val v f) := by
      cases f <;> first | exact absurd rfl hno | rfl
    rw [e0]
    refine ⟨h.inv, h.h, h.l, h.m, ?_, fun t => ?_, h.fr, by rw [put_defers']; exact h.nodef⟩
    · show (setS _ d _).length = _
      rw [setS_length, put_size, List.length_map]; exact h.len
    have hsl := h.sl t
    have key : ∀ q v', q ≠ d → ((({ S with sl := S.sl.map (Slot.unS d) } : St).put d (.val v f)).slot q) = .val v' .own → S.slot q = .val v' .own ∧ (a.put (some d) u).tmps.getD q undef = a.tmps.getD q undef := by
      intro q v' hne hq
      rw [slot_put, if_neg (by intro hh; exact hne hh.1), slot_unS] at hq
      refine ⟨?_, ?_⟩
      · revert hq
        cases S.slot q with
        | und => exact fun h => h
        | lp d' off => exact fun h => h
        | mp d' => exact fun h => h
        | val v2 f2 => cases f2 with
          | lS q' =>
            simp only [Slot.unS]
            split <;> (intro h; cases h)
          | _ => exact fun h => h
      · rw [getD_put, if_neg (by intro hh; exact hne hh.1)]
    rw [slot_put]
    by_cases htd : t = d ∧ d < ({ S with sl := S.sl.map (Slot.unS d) } : St).sl.length
    · rw [if_pos htd]
      obtain ⟨rfl, hlt⟩ := htd
      have e : (a.put (some t) u).tmps.getD t undef = u := by rw [getD_put, if_pos ⟨rfl, by rw [← h.len]; simpa using hlt⟩]
      refine ⟨by rw [e]; exact hr, ?_⟩
      rw [e]
      have hf' := hf t rfl
      rcases hfl with rfl | rfl | ⟨cs, rfl⟩
      · trivial
      · exact hf'
      · exact hf'
    · rw [if_neg htd, slot_unS]
      have e : (a.put (some d) u).tmps.getD t undef = a.tmps.getD t undef := by rw [getD_put, if_neg (by rw [← h.len]; simpa using htd)]
      cases hst : S.slot t with
      | und => trivial
      | lp d' off => rw [hst] at hsl; obtain ⟨B, h1, h2⟩ := hsl; exact ⟨B, h1, by rw [e]; exact h2⟩
      | mp d' => rw [hst] at hsl; obtain ⟨B, h1, h2⟩ := hsl; exact ⟨B, h1, by rw [e]; exact h2⟩
      | val v2 f2 =>
        rw [hst] at hsl
        obtain ⟨h1, h2⟩ := hsl
        cases f2 with
        | no => exact ⟨by rw [e]; exact h1, trivial⟩
        | own => exact ⟨by rw [e]; exact h1, by rw [e]; exact h2⟩
        | lS q =>
          simp only [Slot.unS]
          by_cases hqd : q = d
          · subst hqd
            rw [show Nat.beq q q = true from Nat.beq_refl q]
            exact ⟨by rw [e]; exact h1, trivial⟩
          · rw [show Nat.beq q d = false from by cases hb : Nat.beq q d with | false => rfl | true => exact absurd (Nat.eq_of_beq_eq_true hb) hqd]
            refine ⟨by rw [e]; exact h1, ?_⟩
            rw [e]
            intro v' hq
            obtain ⟨h3, h4⟩ := key q v' hqd hq
            rw [h4]
            exact h2 v' h3
        | lL d' off => exact ⟨by rw [e]; exact h1, by rw [e]; exact h2⟩
        | lH id off => exact ⟨by rw [e]; exact h1, by rw [e]; exact h2⟩
        | comps cs => exact ⟨by rw [e]; exact h1, by rw [e]; exact h2⟩

/-- what an operand is -/
theorem Rel.slotv (h : Rel g0 w0 Ex g S a w) {t : Nat} {v : AV} {f : Fl} (hs : S.slot t = .val v f) : Rep g w (a.eval (.tmp t)) v ∧ FlRel g S a w t (a.eval (.tmp t)) v f := by
  have := h.sl t
  rw [hs] at this
  exact this

theorem ofConst1_rep (sz : Nat) (c : Value) : Rep g w c (ofConst1 sz c) := by
  unfold ofConst1
  split
  · exact .bool _
  · exact .int _ _
  · exact .str _
  · exact .nilp
  · exact .vsnil _ _ _
  · split
    · rename_i f first captured _ _ h1 h2
      have e1 : first = #[] := by apply Array.toList_inj.1; simpa using h1
      have e2 : captured = [].toArray := by apply Array.toList_inj.1; simpa using h2
      rw [e1, e2]
      exact .func f [] [] rfl (by simp)
    · exact .undef _
  · exact .nilI
  · split
    · rename_i l _ h1
      have e1 : l = [].toArray := by apply Array.toList_inj.1; simpa using h1
      rw [e1]
      exact .tuple [] [] rfl (by simp)
    · exact .undef _
  · exact .undef _

theorem ofCells_get : ∀ (hs : List Nat) (cs : List Value), (ofCells hs cs).length = cs.length ∧ ∀ (j : Nat) (u : Value) (c : AV), cs[j]? = some u → (ofCells hs cs)[j]? = some c → ∃ sz, c = ofConst1 sz u
  | [], [] => ⟨rfl, by simp⟩
  | _ :: _, [] => ⟨rfl, by simp⟩
  | h :: hs, x :: cs => by
    obtain ⟨h1, h2⟩ := ofCells_get hs cs
    refine ⟨by simp [ofCells, h1], fun j u c hu hc => ?_⟩
    cases j with
    | zero => simp [ofCells] at hu hc; exact ⟨h, by rw [← hu, hc]⟩
    | succ j => exact h2 j u c (by simpa using hu) (by simpa [ofCells] using hc)
  | [], x :: cs => by
    obtain ⟨h1, h2⟩ := ofCells_get [] cs
    refine ⟨by simp [ofCells, h1], fun j u c hu hc => ?_⟩
    cases j with
    | zero => simp [ofCells] at hu hc; exact ⟨0, by rw [← hu, hc]⟩
    | succ j => exact h2 j u c (by simpa using hu) (by simpa [ofCells] using hc)

theorem ofCells_rep (hs : List Nat) (cs : List Value) : RepL g w cs (ofCells hs cs) := by
  obtain ⟨h1, h2⟩ := ofCells_get hs cs
  refine ⟨h1.symm, fun j u c hu hc => ?_⟩
  obtain ⟨sz, rfl⟩ := h2 j u c hu hc
  exact ofConst1_rep sz u

end
end Go.Vai
