/- The blocks of memory numbered anew; those that nothing leads to any more are forgotten. -/
import Derived.Test.YtjipknfohmgjaaaVFrz
namespace Go.Vai

section
variable {g0 : G} {w0 : World} {Ex : Nat → Prop} {g g' : G} {S : St} {a : Act} {w w' : World} {R : Type} {r : R}

theorem idxN_mem : ∀ {π : List (Nat × Nat)} {o n : Nat}, idxN π o = some n → (o, n) ∈ π
  | [], o, n, h => by cases h
  | (p, q) :: π, o, n, h => by
    simp only [idxN] at h
    split at h
    · rename_i hb
      injection h with h
      obtain rfl := beq_true hb
      subst h
      exact List.mem_cons_self
    · exact List.mem_cons_of_mem _ (idxN_mem h)
theorem nodupN_not {a : Nat} {l : List Nat} (h : nodupN (a :: l) = true) : a ∉ l ∧ nodupN l = true := by
  simp only [nodupN] at h
  split at h
  · cases h
  · rename_i hm
    exact ⟨fun ha => absurd (memN_iff.2 ha) (by rw [hm]; simp), h⟩
theorem fstN_mem : ∀ {π : List (Nat × Nat)} {o n : Nat}, (o, n) ∈ π → o ∈ fstN π
  | [], _, _, h => by cases h
  | (p, q) :: π, o, n, h => by
    rcases List.mem_cons.1 h with h | h
    · cases h; exact List.mem_cons_self
    · exact List.mem_cons_of_mem _ (fstN_mem h)
theorem sndN_mem : ∀ {π : List (Nat × Nat)} {o n : Nat}, (o, n) ∈ π → n ∈ sndN π
  | [], _, _, h => by cases h
  | (p, q) :: π, o, n, h => by
    rcases List.mem_cons.1 h with h | h
    · cases h; exact List.mem_cons_self
    · exact List.mem_cons_of_mem _ (sndN_mem h)
theorem sndN_ex : ∀ {π : List (Nat × Nat)} {n : Nat}, n ∈ sndN π → ∃ o, (o, n) ∈ π
  | [], _, h => by cases h
  | (p, q) :: π, n, h => by
    rcases List.mem_cons.1 h with e | e
    · exact ⟨p, by rw [e]; exact List.mem_cons_self⟩
    · obtain ⟨o, ho⟩ := sndN_ex e
      exact ⟨o, List.mem_cons_of_mem _ ho⟩
theorem idxN_of : ∀ {π : List (Nat × Nat)} {o n : Nat}, nodupN (fstN π) = true → (o, n) ∈ π → idxN π o = some n
  | [], _, _, _, h => by cases h
  | (p, q) :: π, o, n, hn, h => by
    obtain ⟨h1, h2⟩ := nodupN_not hn
    simp only [idxN]
    rcases List.mem_cons.1 h with h | h
    · cases h
      rw [show Nat.beq p p = true from Nat.beq_refl p]
    · have hne : Nat.beq p o = false := by
        cases hb : Nat.beq p o with
        | false => rfl
        | true =>
          obtain rfl := beq_true hb
          exact absurd (fstN_mem h) h1
      rw [hne]
      exact idxN_of h2 h
theorem snd_inj : ∀ {π : List (Nat × Nat)} {o o' n : Nat}, nodupN (sndN π) = true → (o, n) ∈ π → (o', n) ∈ π → o = o'
  | [], _, _, _, _, h, _ => by cases h
  | (p, q) :: π, o, o', n, hn, h, h' => by
    obtain ⟨h1, h2⟩ := nodupN_not hn
    rcases List.mem_cons.1 h with h | h
    · cases h
      rcases List.mem_cons.1 h' with h' | h'
      · cases h'; rfl
      · exact absurd (sndN_mem h') h1
    · rcases List.mem_cons.1 h' with h' | h'
      · cases h'; exact absurd (sndN_mem h) h1
      · exact snd_inj h2 h h'

theorem cellsN_get : ∀ {l : List AV}, cellsN l = true → ∀ {j : Nat} {c : AV}, l[j]? = some c → c.okN = true
  | [], _, j, c, hc => by simp at hc
  | x :: l, h, j, c, hc => by
    simp only [cellsN] at h
    split at h
    · rename_i hx
      cases j with
      | zero => simp at hc; rw [← hc]; exact hx
      | succ j => exact cellsN_get h (by simpa using hc)
    · cases h
theorem slotsN_get : ∀ {l : List Slot}, slotsN l = true → ∀ {t : Nat} {v : AV} {f : Fl}, nthS l t = .val v f → v.okN = true
  | [], _, t, v, f, hc => by cases hc
  | x :: l, h, t, v, f, hc => by
    simp only [slotsN] at h
    split at h
    · rename_i hx
      cases t with
      | zero =>
        have hc' : x = .val v f := hc
        rw [hc'] at hx
        exact hx
      | succ t => exact slotsN_get h (t := t) hc
    · cases h

/-- what is said of the memory that is left -/
theorem nrmH_spec {π : List (Nat × Nat)} {H : Hp} : ∀ {l : List (Nat × Nat)} {acc : Hp} {k : Hp → Option R}, nrmH π H l acc k = some r → nodupN (sndN l) = true → ∃ H' : Hp, k H' = some r ∧
    (∀ o n, (o, n) ∈ l → ∃ b, H o = some b ∧ cellsN b.cells = true ∧ H' n = some ⟨b.cells.map (renV π), b.free⟩) ∧ ∀ i, i ∉ sndN l → H' i = acc i
  | [], acc, k, h, _ => ⟨acc, h, fun o n hm => (by cases hm), fun i _ => rfl⟩
  | (o, n) :: l, acc, k, h, hn => by
    obtain ⟨h1, h2⟩ := nodupN_not hn
    simp only [nrmH] at h
    obtain ⟨b, hb, h⟩ := bind_some' h
    obtain ⟨hc, h⟩ := br_left h
    obtain ⟨H', hk, hm, hr⟩ := nrmH_spec h h2
    refine ⟨H', hk, fun o' n' hon => ?_, fun i hi => ?_⟩
    · rcases List.mem_cons.1 hon with e | e
      · cases e
        exact ⟨b, hb, hc, by rw [hr n h1, Hp_set, if_pos rfl]⟩
      · exact hm o' n' e
    · rw [hr i (fun h => hi (List.mem_cons_of_mem _ h)), Hp_set, if_neg (fun e : i = n => hi (e ▸ List.mem_cons_self))]

/-- the roles, numbered anew -/
def renRole (π : List (Nat × Nat)) : Role → Role
  | .h id => match idxN π id with
    | some n => .h n
    | none => .ext
  | .c (.h id off) => match idxN π id with
    | some n => .c (.h n off)
    | none => .ext
  | x => x
theorem rep_ren {π : List (Nat × Nat)} {u : Value} {v : AV} (h : Rep g w u v) (hv : v.okN = true) (hr : ∀ B, g'.role B = renRole π (g.role B)) (hp : ∀ B, g.pub B ≤ g'.pub B) : Rep g' w u (renV π v) := by
  cases v with
  | ptr i off =>
    obtain ⟨B, hB, rfl⟩ := rep_ptr h
    simp only [renV]
    cases hi : idxN π i with
    | none => exact .undef _
    | some n => exact .ptr B n off (by rw [hr, hB]; simp only [renRole, hi])
  | arr i off len z =>
    obtain ⟨B, cap, hB, rfl, hcap⟩ := rep_arr h
    simp only [renV]
    cases hi : idxN π i with
    | none => exact .undef _
    | some n => exact .arr B n off len cap z (by rw [hr, hB]; simp only [renRole, hi]) hcap
  | _ => exact h.pure hv g' hp

theorem renRole_h {π : List (Nat × Nat)} {x : Role} {n : Nat} (h : renRole π x = .h n) : ∃ o, x = .h o ∧ idxN π o = some n := by
  unfold renRole at h
  split at h
  · rename_i id
    cases hi : idxN π id with
    | none => rw [hi] at h; cases h
    | some m => rw [hi] at h; injection h with h; exact ⟨id, rfl, by rw [hi, h]⟩
  · rename_i id off
    cases hi : idxN π id with
    | none => rw [hi] at h; cases h
    | some m => rw [hi] at h; cases h
  · rename_i h1 h2
    exact absurd h (h1 n)
theorem renRole_l {π : List (Nat × Nat)} {x : Role} {n : Nat} (h : renRole π x = .l n) : x = .l n := by
  unfold renRole at h
  split at h
  · rename_i id
    cases hi : idxN π id <;> (rw [hi] at h; cases h)
  · rename_i id off
    cases hi : idxN π id <;> (rw [hi] at h; cases h)
  · exact h
theorem renRole_ext {π : List (Nat × Nat)} {x : Role} (h : x = .ext) : renRole π x = .ext := by subst h; rfl

theorem Rel.nrm (h : Rel g0 w0 Ex g S a w) (hf : Fresh0 g0 w0 Ex) {π : List (Nat × Nat)} {H' : Hp} (nx : Nat) (h1 : nodupN (fstN π) = true) (h2 : nodupN (sndN π) = true) (h3 : slotsN S.sl = true)
    (hm : ∀ o n, (o, n) ∈ π → ∃ b, S.H o = some b ∧ cellsN b.cells = true ∧ H' n = some ⟨b.cells.map (renV π), b.free⟩) (hr : ∀ i, i ∉ sndN π → H' i = none) : Good g0 w0 Ex ⟨S.sl.map (renS π), [], H', nx, []⟩ a w := by
  let g1 : G := ⟨fun c => renRole π (g.role c), g.pub⟩
  have r1 : ∀ c, g1.role c = renRole π (g.role c) := fun _ => rfl
  have noh : ∀ c, c < w0.heap.size → g.role c ≠ .ext → False := fun c hc hne => by
    rcases h.fr.role c hne with h4 | h4
    · omega
    · exact hf.2 c h4
  refine ⟨g1, ⟨fun c hc => ?_, fun c i hc => ?_, fun c d hc => ?_, fun c c' i k1 k2 => ?_, fun c c' d k1 k2 => ?_⟩, ⟨fun i c hc => ?_, fun c i hc => ?_⟩, fun d c hc => (by cases hc), fun d c hc => (by cases hc), ?_, fun t => ?_, ?_, h.nodef⟩
  · exact ⟨by rw [r1, (h.inv.new c hc).1]; rfl, (h.inv.new c hc).2⟩
  · obtain ⟨o, h4, _⟩ := renRole_h ((r1 c).symm.trans hc)
    exact h.inv.ph c o h4
  · exact h.inv.pl c d (renRole_l ((r1 c).symm.trans hc))
  · obtain ⟨o, h4, h5⟩ := renRole_h ((r1 c).symm.trans k1)
    obtain ⟨o', h6, h7⟩ := renRole_h ((r1 c').symm.trans k2)
    obtain rfl := snd_inj h2 (idxN_mem h5) (idxN_mem h7)
    exact h.inv.injh c c' o h4 h6
  · exact h.inv.injl c c' d (renRole_l ((r1 c).symm.trans k1)) (renRole_l ((r1 c').symm.trans k2))
  · have hc' : H' i = some c := hc
    by_cases hi : i ∈ sndN π
    · obtain ⟨o, ho⟩ := sndN_ex hi
      obtain ⟨b, hb, hcb, hbn⟩ := hm o i ho
      rw [hc'] at hbn
      injection hbn with hbn
      subst hbn
      obtain ⟨C, hC, ⟨us, e, k1, k2, k3⟩, k4⟩ := h.h.blk o b hb
      have hidx := idxN_of h1 ho
      refine ⟨C, by rw [r1, hC]; simp only [renRole, hidx], ⟨us, e, k1, by rw [List.length_map]; exact k2, by rw [List.length_map]; exact k3.1, fun j u x hu hx => ?_⟩, fun off hoff u v hu hv => ?_⟩
      · rw [List.getElem?_map] at hx
        cases hx0 : b.cells[j]? with
        | none => rw [hx0] at hx; cases hx
        | some x0 =>
          rw [hx0] at hx
          injection hx with hx
          subst hx
          exact rep_ren (k3.2 j u x0 hu hx0) (cellsN_get hcb hx0) r1 fun B => Nat.le_refl _
      · have hv' : (b.cells.map (renV π))[off]? = some v := hv
        rw [List.getElem?_map] at hv'
        cases hx0 : b.cells[off]? with
        | none => rw [hx0] at hv'; cases hv'
        | some x0 =>
          rw [hx0] at hv'
          injection hv' with hv'
          have := k4 off hoff u x0 hu hx0
          cases x0 with
          | vs sz tg l =>
            subst hv'
            rcases this with k5 | k5 | ⟨D, n, cp, ud, ed, k5, k6, k7, k8, k9, k10⟩
            · exact .inl k5
            · exact .inr (.inl k5)
            · exact .inr (.inr ⟨D, n, cp, ud, ed, k5, by rw [r1, k6]; simp only [renRole, hidx], k7, k8, k9, k10⟩)
          | ptr p q =>
            subst hv'
            simp only [renV]
            cases idxN π p <;> trivial
          | arr p q l z =>
            subst hv'
            simp only [renV]
            cases idxN π p <;> trivial
          | _ => subst hv'; trivial
    · rw [hr i hi] at hc'; cases hc'
  · obtain ⟨o, h4, h5⟩ := renRole_h ((r1 c).symm.trans hc)
    show H' i ≠ none
    obtain ⟨b, _, _, hbn⟩ := hm o i (idxN_mem h5)
    rw [hbn]; simp
  · show (S.sl.map _).length = _
    rw [List.length_map]; exact h.len
  · show SlotRel g1 _ a w t (nthS (S.sl.map (renS π)) t)
    rw [nthS_map _ rfl]
    have e0 : nthS S.sl t = S.slot t := rfl
    have hst' := h.sl t
    rw [e0]
    cases hst : S.slot t with
    | und => trivial
    | lp d o => trivial
    | mp d => trivial
    | val v f =>
      rw [hst] at hst'
      exact ⟨rep_ren hst'.1 (slotsN_get h3 (e0.trans hst)) r1 fun B => Nat.le_refl _, trivial⟩
  · refine ⟨⟨fun c i hc => ?_, h.fr.ext.2, h.fr.ext.3⟩, h.fr.os, h.fr.tape, h.fr.output, h.fr.size, h.fr.same, fun c hc => ?_⟩
    · exfalso
      have hlt : c < w0.heap.size := by
        rcases Nat.lt_or_ge c w0.heap.size with h4 | h4
        · exact h4
        · rw [(hf.1.new c h4).1] at hc; cases hc
      exact noh c hlt (by rw [h.fr.ext.1 c i hc]; simp)
    · refine h.fr.role c fun he => hc ?_
      rw [r1, he]; rfl

theorem nrmIds_some {π0 : List (Nat × Nat)} : ∀ {l : List (Nat × Nat × Nat)} {π0 : List (Nat × Nat)} {k : List (Nat × Nat) → Option R}, nrmIds S l π0 k = some r → ∃ π, k π = some r
  | [], π0, k, h => ⟨π0, h⟩
  | (n, a, b) :: l, π0, k, h => by
    unfold nrmIds at h
    split at h
    · obtain ⟨o, _, h⟩ := bind_some' h
      exact nrmIds_some (π0 := π0) h
    · obtain ⟨o, _, h⟩ := bind_some' h
      obtain ⟨blk, _, h⟩ := bind_some' h
      obtain ⟨v, _, h⟩ := bind_some' h
      obtain ⟨o', _, h⟩ := bind_some' h
      exact nrmIds_some (π0 := π0) h

/-- a cell that holds a slice without room is one's own -/
theorem Rel.tight (h : Rel g0 w0 Ex g S a w) (hsl : ∀ t v f, S.slot t = .val v f → f = .no) {n c sz : Nat} {l : List AV} {b : Blk} (hb : S.H n = some b) (hv : b.cells[c]? = some (.vs sz true l)) :
    Rel g0 w0 Ex g { S with H := S.H.set n ⟨b.cells, insN c b.free⟩ } a w := by
  refine ⟨h.inv, ⟨fun i b' hb' => ?_, fun B i hB => Hp_set_ne (h.h.lt B i hB)⟩, h.l, h.m, h.len, fun t => ?_, h.fr, h.nodef⟩
  · have hb2 : (S.H.set n ⟨b.cells, insN c b.free⟩) i = some b' := hb'
    rw [Hp_set] at hb2
    split at hb2
    · rename_i hi
      subst hi
      injection hb2 with hb2
      subst hb2
      obtain ⟨B, hB, hrep, hown⟩ := h.h.blk i b hb
      refine ⟨B, hB, hrep, fun off hoff u v hu hv' => ?_⟩
      rcases mem_insN.1 hoff with e | hoff
      · subst e
        have hv2 : b.cells[off]? = some v := hv'
        rw [hv] at hv2
        injection hv2 with hv2
        subst hv2
        obtain ⟨us, e, k1, k2, k3⟩ := hrep
        obtain ⟨u', hu', hr⟩ := k3.get hv
        have : u' = u := by
          simp only [World.cell?, k1] at hu
          have h4 : us.toArray[off]? = some u := hu
          have h5 : us.toArray[off]? = some u' := by simpa using hu'
          rw [h4] at h5
          injection h5 with h5
          exact h5.symm
        subst this
        exact tight_own hr g w _
      · exact hown off hoff u v hu hv'
    · exact h.h.blk i b' hb2
  · have hs := h.sl t
    show SlotRel g _ a w t (S.slot t)
    cases hst : S.slot t with
    | und => trivial
    | lp d o => rw [hst] at hs; exact hs
    | mp d => rw [hst] at hs; exact hs
    | val v f =>
      rw [hst] at hs
      have := hsl t v f hst
      subst this
      exact ⟨hs.1, trivial⟩
theorem tightH_ok : ∀ {ti : List (Nat × Nat)} {S : St} {k : Hp → Option R}, tightH ti S.H k = some r → (∀ t v f, S.slot t = .val v f → f = .no) → Rel g0 w0 Ex g S a w → ∃ H', Rel g0 w0 Ex g { S with H := H' } a w ∧ k H' = some r
  | [], S, k, h, _, hg => ⟨S.H, hg, h⟩
  | (n, c) :: l, S, k, h, hs, hg => by
    simp only [tightH] at h
    obtain ⟨b, hb, h⟩ := bind_some' h
    obtain ⟨v, hv, h⟩ := bind_some' h
    cases v with
    | vs sz tg l0 =>
      simp only at h
      obtain ⟨htg, h⟩ := br_left h
      subst htg
      have hv' : b.cells[c]? = some (.vs sz true l0) := by rw [← nth_get]; exact hv
      have hg' := hg.tight hs hb hv'
      obtain ⟨H', h1, h2⟩ := tightH_ok (S := { S with H := S.H.set n ⟨b.cells, insN c b.free⟩ }) h hs hg'
      exact ⟨H', h1, h2⟩
    | _ => cases h

theorem nrmAll_ok {imp : Bool} (hf : imp = false → Fresh0 g0 w0 Ex) {id : Nat} : ∀ {l : List (Nat × Nat × List (Nat × Nat × Nat) × List (Nat × Nat))} {S : St} {k : St → Option R}, nrmAll imp l id S k = some r → Good g0 w0 Ex S a w → ∃ S', Good g0 w0 Ex S' a w ∧ k S' = some r
  | [], S, k, h, hg => ⟨S, hg, h⟩
  | (q, nx, steps, ti) :: l, S, k, h, hg => by
    simp only [nrmAll] at h
    split at h
    · split at h
      · cases h
      · unfold St.nrm at h
        obtain ⟨π, h⟩ := nrmIds_some (π0 := []) h
        obtain ⟨h1, h⟩ := br_left h
        rw [Bool.and_eq_true, Bool.and_eq_true] at h1
        obtain ⟨h1, h2, h3⟩ := h1
        obtain ⟨H', hk, hm, hr⟩ := nrmH_spec h h2
        obtain ⟨g, hg⟩ := hg
        obtain ⟨g1, hg1⟩ := hg.nrm (hf rfl) nx h1 h2 h3 hm fun i hi => hr i hi
        obtain ⟨H2, hg2, hk2⟩ := tightH_ok hk (fun t v f hs => by
          have hs' : nthS (S.sl.map (renS π)) t = .val v f := hs
          rw [nthS_map _ rfl] at hs'
          cases hx : nthS S.sl t with
          | val v' f' => rw [hx] at hs'; simp only [renS, Slot.val.injEq] at hs'; exact hs'.2.symm
          | _ => rw [hx] at hs'; cases hs') hg1
        exact nrmAll_ok hf hk2 ⟨g1, hg2⟩
    · exact nrmAll_ok hf h hg

theorem behind_ok {an : Ann} (hf : an.imp = false → Fresh0 g0 w0 Ex) {id : Nat} {S : St} {k : St → Option R} (h : behind an id S k = some r) (hg : Good g0 w0 Ex S a w) : ∃ S', Good g0 w0 Ex S' a w ∧ k S' = some r := by
  unfold behind at h
  obtain ⟨S1, h1, h2⟩ := frzAll_ok hf h hg
  exact nrmAll_ok hf h2 h1

end
end Go.Vai
