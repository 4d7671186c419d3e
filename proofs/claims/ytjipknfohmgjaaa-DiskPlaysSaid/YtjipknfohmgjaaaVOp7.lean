/- Composite literals, and new variables. -/
import Derived.Test.YtjipknfohmgjaaaVOp6
import Derived.Laws.Tables
namespace Go.Vai

section
variable {X : Nat → Prop} {g0 : G} {w0 : World} {Ex : Nat → Prop} {g g' : G} {S : St} {a : Act} {w w' : World} {P : Program} {R : Type} {r : R} {o : Oper}

/-- new values over the values from off on -/
def patchV (us : List Value) (off : Nat) (new : List Value) : List Value := us.take off ++ (new ++ us.drop (off + new.length))

theorem patch_eq : ∀ (cells : List AV) (off : Nat) (new : List AV), off ≤ cells.length → patch cells off new = cells.take off ++ (new ++ cells.drop (off + new.length))
  | cells, 0, new, _ => by simp [patch]
  | [], n + 1, new, h => by simp at h
  | c :: cells, n + 1, new, h => by
    have ih := patch_eq cells n new (by simpa using h)
    simp only [patch, ih, List.take_succ_cons, List.cons_append]
    rw [show n + 1 + new.length = (n + new.length) + 1 by omega, List.drop_succ_cons]

theorem RepL.patch {us new : List Value} {cs ncs : List AV} {off : Nat} (h : RepL g w us cs) (hn : RepL g w new ncs) (hle : off + ncs.length ≤ cs.length) :
    RepL g w (patchV us off new) (Go.Vai.patch cs off ncs) := by
  rw [patch_eq _ _ _ (by omega)]
  unfold patchV
  refine (h.take off).append (hn.append ?_)
  rw [hn.1]
  exact h.drop _

theorem RepP.patch {us new : List Value} {cs ncs : List AV} {off : Nat} (h : RepP g w us cs) (hn : RepL g w new ncs) (hle : off + ncs.length ≤ cs.length) :
    RepP g w (patchV us off new) (Go.Vai.patch cs off ncs) := by
  have hl := h.1
  have hl2 := hn.1
  rw [patch_eq _ _ _ (by omega)]
  unfold patchV
  refine ⟨by simp; omega, fun j u c hu hc => ?_⟩
  rw [List.getElem?_append, List.length_take, Nat.min_eq_left (by omega)] at hu hc
  split at hu
  · rename_i hj
    rw [if_pos hj, List.getElem?_take, if_pos hj] at hc
    rw [List.getElem?_take, if_pos hj] at hu
    exact h.2 j u c hu hc
  · rename_i hj
    rw [if_neg hj] at hc
    rw [List.getElem?_append] at hu hc
    rw [hl2] at hu
    split at hu
    · rename_i h2
      rw [if_pos h2] at hc
      exact hn.2 _ u c hu hc
    · rename_i h2
      rw [if_neg h2, List.getElem?_drop] at hc
      rw [List.getElem?_drop] at hu
      exact h.2 _ u c hu hc

theorem patchV_length {us new : List Value} {off : Nat} (h : off + new.length ≤ us.length) : (patchV us off new).length = us.length := by
  simp only [patchV, List.length_append, List.length_take, List.length_drop]; omega

theorem patchV_one {us new : List Value} {off : Nat} (h : ∀ u ∈ us, u.oneCell' = true) (hn : ∀ u ∈ new, u.oneCell' = true) : ∀ u ∈ patchV us off new, u.oneCell' = true := by
  intro u hu
  simp only [patchV, List.mem_append] at hu
  rcases hu with hu | hu | hu
  · exact h u (List.mem_of_mem_take hu)
  · exact hn u hu
  · exact h u (List.mem_of_mem_drop hu)

theorem patch_length {cs ncs : List AV} {off : Nat} (h : off + ncs.length ≤ cs.length) : (Go.Vai.patch cs off ncs).length = cs.length := by
  rw [patch_eq _ _ _ (by omega)]
  simp only [List.length_append, List.length_take, List.length_drop]
  omega
theorem OneP.patch {us new : List Value} {cs ncs : List AV} {off : Nat} (h : OneP us cs.length) (hu : cs.length ≤ us.length) (hn : ∀ u ∈ new, u.oneCell' = true) (hl : new.length = ncs.length) (hle : off + ncs.length ≤ cs.length) :
    OneP (patchV us off new) (Go.Vai.patch cs off ncs).length := by
  intro j u hj hu2
  rw [patch_length hle] at hj
  unfold patchV at hu2
  rw [List.getElem?_append, List.length_take, Nat.min_eq_left (by omega)] at hu2
  split at hu2
  · rename_i hjo
    rw [List.getElem?_take, if_pos hjo] at hu2
    exact h j u hj hu2
  · rw [List.getElem?_append] at hu2
    split at hu2
    · exact hn u (List.mem_of_getElem? hu2)
    · rw [List.getElem?_drop] at hu2
      refine h _ u ?_ hu2
      omega

theorem fold_patch : ∀ (new : List Value) (k off : Nat) (us : List Value), off + k + new.length ≤ us.length →
    ((new.zipIdx k).foldl (fun (cs : Array Value) (x : Value × Nat) => cs.setIfInBounds (off + x.2) x.1) us.toArray) = (us.take (off + k) ++ (new ++ us.drop (off + k + new.length))).toArray
  | [], k, off, us, _ => by simp
  | v :: new, k, off, us, h => by
    simp only [List.length_cons] at h
    have hlt : off + k < us.length := by omega
    have e1 : us.toArray.setIfInBounds (off + k) v = (us.set (off + k) v).toArray := by
      apply Array.ext'; simp
    simp only [List.zipIdx_cons, List.foldl_cons, e1]
    rw [fold_patch new (k + 1) off (us.set (off + k) v) (by simp; omega)]
    apply Array.ext'
    simp only [List.length_cons]
    have e2 : (us.set (off + k) v).take (off + (k + 1)) = us.take (off + k) ++ [v] := by
      rw [← Nat.add_assoc, List.take_succ_eq_append_getElem (by simpa using hlt)]
      simp [List.take_set_of_le]
    have e3 : (us.set (off + k) v).drop (off + (k + 1) + new.length) = us.drop (off + k + (new.length + 1)) := by
      rw [List.drop_set_of_lt (by omega)]
      congr 1; omega
    rw [e2, e3]
    simp

theorem not_agg {u : Value} {v : AV} (h : Rep g w u v) (h1 : v ≠ .undef) (h2 : ∀ cs, v ≠ .agg cs) (h3 : ∀ cs, v ≠ .tuple cs) : u.oneCell' = true ∧ u.cells = #[u] := by
  cases h <;> first | exact absurd rfl h1 | exact absurd rfl (h2 _) | exact absurd rfl (h3 _) | exact ⟨rfl, rfl⟩

theorem cells?_sound {u : Value} {v : AV} {k : List AV → Option R} (hr : Rep g w u v) (h : v.cells? k = some r) :
    ∃ (cs : List AV) (us : List Value), k cs = some r ∧ u.cells = us.toArray ∧ RepL g w us cs ∧ (∀ x ∈ us, x.oneCell' = true) ∧ cs = v.cells ∧ v ≠ .undef ∧ ((∃ l, v = .agg l) ∨ (us = [u] ∧ cs = [v])) := by
  unfold AV.cells? at h
  split at h
  · cases h
  · cases h
  · rename_i cs
    obtain ⟨us, rfl, h1, h2⟩ := rep_agg hr
    exact ⟨cs, us, h, rfl, h2, h1, rfl, by simp, .inl ⟨_, rfl⟩⟩
  · rename_i hn1 hn2 hn3
    obtain ⟨h1, h2⟩ := not_agg hr hn1 hn3 hn2
    refine ⟨[v], [u], h, by rw [h2], ⟨rfl, fun j x c hx hc => ?_⟩, by simpa using h1, ?_, hn1, .inr ⟨rfl, rfl⟩⟩
    · cases j with
      | zero => simp at hx hc; subst hx hc; exact hr
      | succ j => simp at hx
    · cases v <;> first | rfl | exact absurd rfl (hn3 _)

theorem fillC_sound {place : Nat → Option (Nat × Nat)} {k : List AV → Option R} : ∀ (ps : List (Nat × AV)) (qs : List (Nat × Value)) (cs : List AV) (us : List Value),
    qs.map (·.1) = ps.map (·.1) → (∀ (j : Nat) (p : Nat × AV) (q : Nat × Value), ps[j]? = some p → qs[j]? = some q → Rep g w q.2 p.2) → RepL g w us cs → (∀ u ∈ us, u.oneCell' = true) → fillC place cs ps k = some r →
    ∃ us' cs', Instr.fill place us.toArray qs = some us'.toArray ∧ RepL g w us' cs' ∧ (∀ u ∈ us', u.oneCell' = true) ∧ us'.length = us.length ∧ k cs' = some r
  | [], [], cs, us, _, _, hr, h1, h => ⟨us, cs, rfl, hr, h1, rfl, h⟩
  | [], _ :: _, _, _, he, _, _, _, _ => by simp at he
  | _ :: _, [], _, _, he, _, _, _, _ => by simp at he
  | (i, v) :: ps, (i', u) :: qs, cs, us, he, hrep, hr, h1, h => by
    simp only [List.map_cons, List.cons.injEq] at he
    obtain ⟨rfl, he⟩ := he
    simp only [fillC] at h
    cases hp : place i' with
    | none => rw [hp] at h; cases h
    | some os =>
      obtain ⟨off, size⟩ := os
      rw [hp] at h
      simp only at h
      obtain ⟨ncs, nus, h2, hcells, hnr, hn1, _⟩ := cells?_sound (hrep 0 (i', v) (i', u) rfl rfl) h
      obtain ⟨h3, h4⟩ := br_left h2
      obtain ⟨h5, h6⟩ := br_left h4
      have e1 := beq_true h3
      have e2 := ble_true h5
      have hsz : u.cells.size = size := by rw [hcells, List.size_toArray, hnr.1, e1]
      have hle : ¬ (off + u.cells.size > us.toArray.size) := by rw [hsz, List.size_toArray, hr.1]; omega
      have hfold : (u.cells.zipIdx.foldl (fun (cs : Array Value) (x : Value × Nat) => cs.setIfInBounds (off + x.2) x.1) us.toArray) = (patchV us off nus).toArray := by
        rw [hcells]
        have := fold_patch nus 0 off us (by rw [hr.1, hnr.1]; omega)
        simp only [Nat.add_zero] at this
        unfold patchV
        rw [← this]
        simp
      obtain ⟨us', cs', h7, h8, h9, h10, h11⟩ := fillC_sound ps qs (patch cs off ncs) (patchV us off nus) he (fun j p q hp hq => hrep (j + 1) p q (by simpa using hp) (by simpa using hq))
        (hr.patch hnr e2) (patchV_one h1 hn1) h6
      refine ⟨us', cs', ?_, h8, h9, by rw [h10, patchV_length]; rw [hr.1, hnr.1]; exact e2, h11⟩
      simp only [Instr.fill, hp]
      rw [if_neg (by simp [hsz, hr.1]; omega)]
      rw [← h7, ← hfold]

theorem partsOf_map (ty : Nat → TypeId) (parts : List (Nat × Operand)) : (partsOf P S ty parts).map (·.1) = parts.map (·.1) := by
  induction parts with
  | nil => rfl
  | cons p l ih => obtain ⟨i, x⟩ := p; simp [partsOf, ih]

theorem partsOf_rep (hg : Rel g0 w0 Ex g S a w) (ty : Nat → TypeId) : ∀ (parts : List (Nat × Operand)) (j : Nat) (p : Nat × AV) (q : Nat × Value), (partsOf P S ty parts)[j]? = some p → (parts.map fun x => (x.1, a.eval x.2))[j]? = some q → Rep g w q.2 p.2
  | [], j, p, q, h, _ => by simp [partsOf] at h
  | (i, x) :: l, 0, p, q, h, h' => by
    simp [partsOf] at h h'
    subst h h'
    exact hg.evT (ty i) x
  | (i, x) :: l, j + 1, p, q, h, h' => partsOf_rep hg ty l j p q (by simpa [partsOf] using h) (by simpa using h')

theorem zeroCells_some {t : TypeId} {z : List AV} (h : zeroCells P t = some z) : ∃ (i : TypeInfo) (v : Value), P.info? t = some i ∧ i.zero = some v ∧ RepL g w v.cells.toList z ∧ ∀ u ∈ v.cells.toList, u.oneCell' = true := by
  unfold zeroCells at h
  split at h
  · rename_i i hi
    split at h
    · rename_i v hv
      split at h
      · rename_i h1
        injection h with h
        subst h
        exact ⟨i, v, hi, hv, ofCells_rep _ _, allOne_mem h1⟩
      · cases h
    · cases h
  · cases h

theorem placesOf_mapM : ∀ {l : List Field} {r : List (Nat × Nat)}, placesOf P l = some r → l.mapM (fun f => (P.info? f.type).map fun i => (f.offset, i.size)) = some r
  | [], r, h => by simp [placesOf] at h; simp [h]
  | f :: l, r, h => by
    simp only [placesOf] at h
    split at h
    · rename_i i hi
      obtain ⟨r', h1, h2⟩ := bind_some' h
      injection h2 with h2
      subst h2
      simp [List.mapM_cons, hi, placesOf_mapM h1]
    · cases h

theorem nthP_get : ∀ (l : List (Nat × Nat)) (n : Nat), nthP l n = l[n]?
  | [], n => by simp [nthP]
  | x :: l, 0 => by simp [nthP]
  | x :: l, n + 1 => by simp [nthP, nthP_get l n]

theorem opBuild_step {t : TypeId} {parts : Array (Nat × Operand)} {k : St → Option R} (ho : o.op = .build t parts) (h : opBuild P t parts.toList S (fun v => k (S.putd o.dst (.val v .no))) = some r) (hg : Rel g0 w0 Ex g S a w) :
    StepTo P o a w g0 w0 Ex k r := by
  unfold opBuild at h
  split at h
  · cases h
  · rename_i z hz
    obtain ⟨i, v, hi, hv, hrz, h1z⟩ := zeroCells_some (g := g) (w := w) hz
    have key : ∀ us' : List Value, P.built t (parts.map fun (i, x) => (i, a.eval x)).toList = some us'.toArray → (execOp a.eval o).run P w = .ok (.value (.agg us'.toArray)) w := by
      intro us' hb
      simp only [execOp, ho, Sem.run_bind, run_build w t _ _ hb, Result.andThen_ok, Sem.run_pure]
    have e0 : (parts.map fun (i, x) => (i, a.eval x)).toList = parts.toList.map fun x => (x.1, a.eval x.2) := by simp
    split at h
    · rename_i fs hu
      split at h
      · rename_i pl hpl
        obtain ⟨us', cs', h2, h3, h4, _, h6⟩ := fillC_sound (w := w) (g := g) _ (parts.toList.map fun x => (x.1, a.eval x.2)) _ _ (by rw [partsOf_map]; simp) (fun j p q => partsOf_rep hg _ _ j p q) hrz h1z h
        refine .val hg (key us' ?_) (.agg us' cs' h3.1 h4 h3.2) h6
        unfold Program.built
        simp only [hi, hu, hv, placesOf_mapM hpl, e0]
        rw [← h2]
        congr 1
        · funext j; rw [nthP_get]; simp
      · cases h
    · rename_i n e hu
      split at h
      · rename_i ie hie
        obtain ⟨us', cs', h2, h3, h4, _, h6⟩ := fillC_sound (w := w) (g := g) _ (parts.toList.map fun x => (x.1, a.eval x.2)) _ _ (by rw [partsOf_map]; simp) (fun j p q => partsOf_rep hg _ _ j p q) hrz h1z h
        refine .val hg (key us' ?_) (.agg us' cs' h3.1 h4 h3.2) h6
        unfold Program.built
        simp only [hi, hu, hv, hie, e0]
        rw [← h2]
      · cases h
    · cases h

theorem range_repl (zs : List Value) (n : Nat) (hn : zs.length = n) (hpos : 0 < n) : ∀ len : Nat, (List.range (len * n)).map (fun j => zs.toArray[j % n]!) = (List.replicate len zs).flatten
  | 0 => by simp
  | len + 1 => by
    rw [Nat.succ_mul, Nat.add_comm, List.range_add, List.map_append, List.map_map, List.replicate_succ, List.flatten_cons, ← range_repl zs n hn hpos len]
    congr 1
    · apply List.ext_getElem?
      intro j
      rw [List.getElem?_map]
      by_cases hj : j < n
      · rw [List.getElem?_range hj, List.getElem?_eq_getElem (by omega)]
        simp only [Option.map_some, Nat.mod_eq_of_lt hj]
        rw [getElem!_pos _ _ (by simpa using (by omega : j < zs.length))]
        simp
      · rw [List.getElem?_eq_none (by simp; omega), List.getElem?_eq_none (by omega)]; rfl
    · apply List.map_congr_left
      intro j _
      simp

theorem replC_eq (z : List AV) : ∀ n, replC z n = (List.replicate n z).flatten
  | 0 => rfl
  | n + 1 => by rw [replC, replC_eq z n, List.replicate_succ, List.flatten_cons]

theorem RepL.repl {us : List Value} {cs : List AV} (h : RepL g w us cs) : ∀ n, RepL g w (List.replicate n us).flatten (replC cs n)
  | 0 => ⟨rfl, by simp⟩
  | n + 1 => by rw [List.replicate_succ, List.flatten_cons, replC]; exact h.append (h.repl n)

theorem chunks_cells {ag : Bool} {n : Nat} (hn : 0 < n) (hag : ag = false → n = 1) : ∀ (k : Nat) (cs : List AV), cs.length = k * n → (∀ x ∈ cs, ∀ l, x ≠ .agg l) →
    (chunks ag n k cs).flatMap AV.cells = cs ∧ (chunks ag n k cs).length = k ∧ ∀ x ∈ chunks ag n k cs, x.cells.length = n
  | 0, cs, h, _ => by
    have : cs = [] := List.eq_nil_of_length_eq_zero (by simpa using h)
    subst this
    simp [chunks]
  | k + 1, cs, h, hc => by
    rw [Nat.succ_mul] at h
    obtain ⟨i1, i2, i3⟩ := chunks_cells hn hag k (cs.drop n) (by rw [List.length_drop]; omega) (fun x hx => hc x (List.mem_of_mem_drop hx))
    have hpk : (pack ag (cs.take n)).cells = cs.take n := by
      cases ag with
      | true => rfl
      | false =>
        obtain rfl := hag rfl
        cases cs with
        | nil => simp at h
        | cons x l =>
          simp only [List.take_succ_cons, List.take_zero, pack]
          have := hc x (by simp)
          cases x <;> first | rfl | exact absurd rfl (this _)
    have hlen : (cs.take n).length = n := by rw [List.length_take]; omega
    refine ⟨by simp only [chunks, List.flatMap_cons, hpk, i1, List.take_append_drop], by simp [chunks, i2], fun x hx => ?_⟩
    simp only [chunks, List.mem_cons] at hx
    rcases hx with rfl | hx
    · rw [hpk]; exact hlen
    · exact i3 x hx

theorem noagg_of_rep {us : List Value} {cs : List AV} (h : RepL g w us cs) (h1 : ∀ u ∈ us, u.oneCell' = true) : ∀ x ∈ cs, ∀ l, x ≠ .agg l := by
  intro x hx l e
  subst e
  obtain ⟨j, hj⟩ := List.mem_iff_getElem?.1 hx
  obtain ⟨u, hu, hr⟩ := h.get hj
  obtain ⟨us', rfl, _⟩ := rep_agg hr
  have := h1 _ (List.mem_of_getElem? hu)
  cases this

end
end Go.Vai
