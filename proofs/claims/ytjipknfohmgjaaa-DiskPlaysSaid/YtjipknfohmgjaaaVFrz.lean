/- A block that is not written any more becomes a value. -/
import Derived.Test.YtjipknfohmgjaaaVDag10
namespace Go.Vai

section
variable {g0 : G} {w0 : World} {Ex : Nat → Prop} {g g' : G} {S : St} {a : Act} {w w' : World} {R : Type} {r : R}

theorem getL_remH (id : Nat) : ∀ (H : List (Nat × Blk)) (i : Nat), getL (remH id H) i = if i = id then none else getL H i
  | [], i => by simp [remH, getL]
  | (j, b) :: H, i => by
    have ih := getL_remH id H i
    simp only [remH]
    cases hj : Nat.beq j id with
    | true =>
      obtain rfl := beq_true hj
      simp only
      rw [ih]
      split
      · rfl
      · rename_i hne
        have : Nat.beq i j = false := by
          cases hb : Nat.beq i j with
          | false => rfl
          | true => exact absurd (beq_true hb) hne
        simp only [getL, this]
    | false =>
      simp only [getL]
      cases hb : Nat.beq i j with
      | true =>
        obtain rfl := beq_true hb
        simp only
        rw [if_neg (fun e => by subst e; rw [show Nat.beq i i = true from Nat.beq_refl i] at hj; cases hj)]
      | false => simp only; exact ih

theorem blksI_get {id : Nat} : ∀ {H : List (Nat × Blk)}, blksI id H = true → ∀ {i : Nat} {b : Blk}, i ≠ id → getL H i = some b → cellsI id b.cells = true
  | [], _, i, b, _, hb => by cases hb
  | (j, c) :: H, h, i, b, hne, hb => by
    simp only [getL] at hb
    simp only [blksI] at h
    cases hj : Nat.beq j id with
    | true =>
      rw [hj] at h
      obtain rfl := beq_true hj
      have : Nat.beq i j = false := by
        cases hb : Nat.beq i j with
        | false => rfl
        | true => exact absurd (beq_true hb) hne
      rw [this] at hb
      exact blksI_get h hne hb
    | false =>
      rw [hj] at h
      simp only at h
      split at h
      · rename_i hc
        split at hb
        · injection hb with hb; subst hb; exact hc
        · exact blksI_get h hne hb
      · cases h
theorem cellsI_get {id : Nat} : ∀ {l : List AV}, cellsI id l = true → ∀ {j : Nat} {c : AV}, l[j]? = some c → c.keepI id = true
  | [], _, j, c, hc => by simp at hc
  | x :: l, h, j, c, hc => by
    simp only [cellsI] at h
    split at h
    · rename_i hx
      cases j with
      | zero => simp at hc; rw [← hc]; exact hx
      | succ j => exact cellsI_get h (by simpa using hc)
    · cases h

theorem flat_pure {v : AV} (h : v.flat = true) : v.pure = true := by
  cases v <;> first | rfl | cases h
theorem keepF_I {id : Nat} {v : AV} (h : v.keepF id = true) : v.keepI id = true := by
  cases v <;> first | exact h | exact flat_pure h
/-- what says nothing of the block stays true -/
theorem rep_keepI {id : Nat} {u : Value} {v : AV} (h : Rep g w u v) (hv : v.keepI id = true) (hr : ∀ B i, i ≠ id → g.role B = .h i → g'.role B = .h i) (hp : ∀ B, g.pub B ≤ g'.pub B) : Rep g' w u v := by
  cases v with
  | ptr i off =>
    obtain ⟨B, hB, rfl⟩ := rep_ptr h
    have hne : i ≠ id := fun e => by subst e; simp [AV.keepI] at hv
    exact .ptr B i off (hr B i hne hB)
  | arr i off len z =>
    obtain ⟨B, cap, hB, rfl, hcap⟩ := rep_arr h
    have hne : i ≠ id := fun e => by subst e; simp [AV.keepI] at hv
    exact .arr B i off len cap z (hr B i hne hB) hcap
  | _ => exact h.pure hv g' hp

theorem Rel.frz (h : Rel g0 w0 Ex g S a w) (hf : Fresh0 g0 w0 Ex) {s id off len : Nat} {f : Fl} {b : Blk} (hs : S.slot s = .val (.arr id off len 1) f) (hb : S.H id = some b) (hle : off + len ≤ b.cells.length) (hfl : flatL b.cells = true) (hbl : blksI id S.H = true) :
    Good g0 w0 Ex ((⟨S.sl.map (Slot.without id), [], remH id S.H, S.nx, []⟩ : St).put s (.val (.vs 1 false ((b.cells.drop off).take len)) .no)) a w := by
  have h1 := (h.slotv hs).1
  obtain ⟨B, cap, hB, hu, hcap⟩ := rep_arr h1
  obtain ⟨B', hB', ⟨us, e, hheap, hone, hrl⟩, _⟩ := h.h.blk id b hb
  obtain rfl := h.inv.injh B B' id hB hB'
  have hBlt := heap_lt hheap
  have hw0 : w0.heap.size ≤ B := by
    rcases h.fr.role B (by rw [hB]; simp) with h1 | h1
    · exact h1
    · exact absurd h1 (hf.2 B)
  let g1 : G := ⟨fun c => if c = B then .ext else g.role c, fun c => if c = B then off + len else g.pub c⟩
  have r1 : ∀ c, g1.role c = if c = B then .ext else g.role c := fun _ => rfl
  have p1 : ∀ c, g1.pub c = if c = B then off + len else g.pub c := fun _ => rfl
  have hp : ∀ c, g.pub c ≤ g1.pub c := fun c => by
    rw [p1]
    split
    · rename_i hc; rw [hc, h.inv.ph B id hB]; exact Nat.zero_le _
    · exact Nat.le_refl _
  have hr : ∀ c i, i ≠ id → g.role c = .h i → g1.role c = .h i := fun c i hne hc => by
    rw [r1, if_neg (fun e => by subst e; rw [hB] at hc; injection hc with hc; exact hne hc.symm)]
    exact hc
  have back : ∀ c, g1.role c ≠ .ext → c ≠ B ∧ g1.role c = g.role c := fun c hc => by
    rw [r1] at hc ⊢
    split
    · rename_i he; rw [if_pos he] at hc; exact absurd rfl hc
    · rename_i he; exact ⟨he, rfl⟩
  have hvals : RepL g1 w ((us.drop off).take len) ((b.cells.drop off).take len) := by
    have := hrl.cut hle
    refine ⟨this.1, fun j u c hu hc => rep_flat (this.2 j u c hu hc) ?_ _ _⟩
    rw [List.getElem?_take] at hc
    split at hc
    · rw [List.getElem?_drop] at hc; exact flat_mem hfl hc
    · cases hc
  have hfl2 : flatL ((b.cells.drop off).take len) = true := by
    have key : ∀ (l : List AV), (∀ x ∈ l, x.flat = true) → flatL l = true := by
      intro l
      induction l with
      | nil => intro _; rfl
      | cons x l ih => intro hx; simp only [flatL, hx x (by simp)]; exact ih fun y hy => hx y (by simp [hy])
    refine key _ fun x hx => ?_
    obtain ⟨j, hj⟩ := List.mem_iff_getElem?.1 (List.mem_of_mem_drop (List.mem_of_mem_take hx))
    exact flat_mem hfl hj
  have hlen2 : ((b.cells.drop off).take len).length = len := by simp; omega
  have hrep : Rep g1 w (a.tmps.getD s undef) (.vs 1 false ((b.cells.drop off).take len)) := by
    rw [show a.tmps.getD s undef = a.eval (.tmp s) from rfl, hu]
    have := Rep.vs (g := g1) (w := w) B off cap 1 false ((b.cells.drop off).take len) ((us.drop off).take len) (by rw [flat_cells hfl2]; exact hvals.1)
      (fun x hx => by
        obtain ⟨j, hj⟩ := List.mem_iff_getElem?.1 hx
        have := flat_mem hfl2 hj
        cases x <;> first | rfl | cases this) (by simp) (by rw [hlen2]; exact hcap)
      (fun j u hu => by
        rw [List.getElem?_take] at hu
        split at hu
        · rename_i hj
          rw [List.getElem?_drop] at hu
          refine ⟨?_, by rw [p1, if_pos rfl]; omega, hone (off + j) u (by omega) hu⟩
          simp [World.cell?, hheap, hu]
        · cases hu) (by rw [flat_cells hfl2]; exact hvals.2)
    rw [hlen2] at this
    exact this
  have hbase : Rel g0 w0 Ex g1 (⟨S.sl.map (Slot.without id), [], remH id S.H, S.nx, []⟩ : St) a w := by
    refine ⟨⟨fun c hc => ?_, fun c i hc => ?_, fun c d hc => ?_, fun c c' i k1 k2 => ?_, fun c c' d k1 k2 => ?_⟩, ⟨fun i c hc => ?_, fun c i hc => ?_⟩, fun d c hc => (by cases hc), fun d c hc => (by cases hc), ?_, fun t => ?_, ?_, h.nodef⟩
    · rw [r1, p1, if_neg (by omega), if_neg (by omega)]
      exact h.inv.new c hc
    · obtain ⟨k1, k2⟩ := back c (by rw [hc]; simp)
      rw [p1, if_neg k1]
      exact h.inv.ph c i (k2 ▸ hc)
    · obtain ⟨k1, k2⟩ := back c (by rw [hc]; simp)
      rw [p1, if_neg k1]
      exact h.inv.pl c d (k2 ▸ hc)
    · obtain ⟨_, k3⟩ := back c (by rw [k1]; simp)
      obtain ⟨_, k4⟩ := back c' (by rw [k2]; simp)
      exact h.inv.injh c c' i (k3 ▸ k1) (k4 ▸ k2)
    · obtain ⟨_, k3⟩ := back c (by rw [k1]; simp)
      obtain ⟨_, k4⟩ := back c' (by rw [k2]; simp)
      exact h.inv.injl c c' d (k3 ▸ k1) (k4 ▸ k2)
    · have hc' : getL (remH id S.H) i = some c := hc
      have eR := getL_remH id S.H i
      rw [eR] at hc'
      split at hc'
      · cases hc'
      · rename_i hne
        obtain ⟨C, hC, ⟨us', e', k1, k2, k3⟩, k4⟩ := h.h.blk i c hc'
        have hCB : C ≠ B := fun e => by subst e; rw [hB] at hC; injection hC with hC; exact hne hC.symm
        have hci := blksI_get hbl hne hc'
        refine ⟨C, hr C i hne hC, ⟨us', e', k1, k2, k3.1, fun j u x hu hx => rep_keepI (k3.2 j u x hu hx) (cellsI_get hci hx) hr hp⟩, fun o ho u v hu hv => ?_⟩
        have := k4 o ho u v hu hv
        cases v with
        | vs sz tg l =>
          rcases this with k5 | k5 | ⟨D, n, cp, ud, ed, k5, k6, k7, k8, k9, k10⟩
          · exact .inl k5
          · exact .inr (.inl k5)
          · have hDB : D ≠ B := fun e => by subst e; rw [hB] at k6; cases k6
            exact .inr (.inr ⟨D, n, cp, ud, ed, k5, by rw [r1, if_neg hDB]; exact k6, k7, k8, k9, by rw [p1, if_neg hDB]; exact k10⟩)
        | _ => trivial
    · obtain ⟨k1, k2⟩ := back c (by rw [hc]; simp)
      rw [k2] at hc
      show getL (remH id S.H) i ≠ none
      have eR := getL_remH id S.H i
      rw [eR, if_neg (fun e => by subst e; exact k1 (h.inv.injh c B i hc hB))]
      exact h.h.lt c i hc
    · show (S.sl.map _).length = _
      rw [List.length_map]; exact h.len
    · show SlotRel g1 _ a w t (nthS (S.sl.map (Slot.without id)) t)
      rw [nthS_map _ rfl]
      have e0 : nthS S.sl t = S.slot t := rfl
      have hst' := h.sl t
      rw [e0]
      cases hst : S.slot t with
      | und => trivial
      | lp d o => trivial
      | mp d => trivial
      | val v f =>
        rw [hst] at hst'
        simp only [Slot.without]
        split
        · rename_i hv
          exact ⟨rep_keepI hst'.1 (keepF_I hv) hr hp, trivial⟩
        · trivial
    · refine ⟨⟨fun c i hc => ?_, fun c => Nat.le_trans (h.fr.ext.2 c) (hp c), h.fr.ext.3⟩, h.fr.os, h.fr.tape, h.fr.output, h.fr.size, fun c hc hx => ?_, fun c hc => ?_⟩
      · have hcB : c ≠ B := fun e => by
          subst e
          rw [(hf.1.new c hw0).1] at hc
          cases hc
        rw [r1, if_neg hcB]
        exact h.fr.ext.1 c i hc
      · rw [p1, if_neg (by omega)]
        exact h.fr.same c hc hx
      · obtain ⟨_, k2⟩ := back c hc
        exact h.fr.role c (k2 ▸ hc)
  refine ⟨g1, hbase.reslot rfl rfl rfl rfl (by show (setS _ s _).length = _; rw [setS_length]) fun t => ?_⟩
  rw [slot_put]
  split
  · rename_i ht
    exact .inr (.inr ⟨_, rfl, by rw [ht.1]; exact hrep⟩)
  · exact .inl rfl

theorem getL_blkW (id : Nat) : ∀ (L : List (Nat × Blk)) (i : Nat), getL (L.map (blkW id)) i = (getL L i).map fun b => ⟨b.cells.map (wI id), b.free⟩
  | [], i => rfl
  | (d, b) :: l, i => by
    simp only [List.map_cons, blkW, getL]
    cases Nat.beq i d with
    | true => rfl
    | false => exact getL_blkW id l i

theorem Rel.frzN (h : Rel g0 w0 Ex g S a w) (hf : Fresh0 g0 w0 Ex) {s id off len z : Nat} {f : Fl} {b : Blk} (hz : 0 < z) (hs : S.slot s = .val (.arr id off len z) f) (hb : S.H id = some b) (hle : off + len * z ≤ b.cells.length) (hfl : flatL b.cells = true) :
    Good g0 w0 Ex ((⟨S.sl.map (Slot.without id), [], (remH id S.H).map (blkW id), S.nx, []⟩ : St).put s (.val (.vs z false (chunks true z len ((b.cells.drop off).take (len * z)))) .no)) a w := by
  have h1 := (h.slotv hs).1
  obtain ⟨B, cap, hB, hu, hcap⟩ := rep_arr h1
  obtain ⟨B', hB', ⟨us, e, hheap, hone, hrl⟩, _⟩ := h.h.blk id b hb
  obtain rfl := h.inv.injh B B' id hB hB'
  have hBlt := heap_lt hheap
  have hw0 : w0.heap.size ≤ B := by
    rcases h.fr.role B (by rw [hB]; simp) with h1 | h1
    · exact h1
    · exact absurd h1 (hf.2 B)
  let g1 : G := ⟨fun c => if c = B then .ext else g.role c, fun c => if c = B then off + len * z else g.pub c⟩
  have r1 : ∀ c, g1.role c = if c = B then .ext else g.role c := fun _ => rfl
  have p1 : ∀ c, g1.pub c = if c = B then off + len * z else g.pub c := fun _ => rfl
  have hp : ∀ c, g.pub c ≤ g1.pub c := fun c => by
    rw [p1]
    split
    · rename_i hc; rw [hc, h.inv.ph B id hB]; exact Nat.zero_le _
    · exact Nat.le_refl _
  have hr : ∀ c i, i ≠ id → g.role c = .h i → g1.role c = .h i := fun c i hne hc => by
    rw [r1, if_neg (fun e => by subst e; rw [hB] at hc; injection hc with hc; exact hne hc.symm)]
    exact hc
  have back : ∀ c, g1.role c ≠ .ext → c ≠ B ∧ g1.role c = g.role c := fun c hc => by
    rw [r1] at hc ⊢
    split
    · rename_i he; rw [if_pos he] at hc; exact absurd rfl hc
    · rename_i he; exact ⟨he, rfl⟩
  have hvals : RepL g1 w ((us.drop off).take (len * z)) ((b.cells.drop off).take (len * z)) := by
    have := hrl.cut hle
    refine ⟨this.1, fun j u c hu hc => rep_flat (this.2 j u c hu hc) ?_ _ _⟩
    rw [List.getElem?_take] at hc
    split at hc
    · rw [List.getElem?_drop] at hc; exact flat_mem hfl hc
    · cases hc
  have hfl2 : flatL ((b.cells.drop off).take (len * z)) = true := by
    have key : ∀ (l : List AV), (∀ x ∈ l, x.flat = true) → flatL l = true := by
      intro l
      induction l with
      | nil => intro _; rfl
      | cons x l ih => intro hx; simp only [flatL, hx x (by simp)]; exact ih fun y hy => hx y (by simp [hy])
    refine key _ fun x hx => ?_
    obtain ⟨j, hj⟩ := List.mem_iff_getElem?.1 (List.mem_of_mem_drop (List.mem_of_mem_take hx))
    exact flat_mem hfl hj
  have hlen2 : ((b.cells.drop off).take (len * z)).length = len * z := by simp; omega
  obtain ⟨c1, c2, c3⟩ := chunks_cells (ag := true) hz (fun h => by cases h) len ((b.cells.drop off).take (len * z)) hlen2 (fun x hx l e => by
    obtain ⟨j, hj⟩ := List.mem_iff_getElem?.1 hx
    have := flat_mem hfl2 hj
    subst e
    cases this)
  have hrep : Rep g1 w (a.tmps.getD s undef) (.vs z false (chunks true z len ((b.cells.drop off).take (len * z)))) := by
    rw [show a.tmps.getD s undef = a.eval (.tmp s) from rfl, hu]
    have := Rep.vs (g := g1) (w := w) B off cap z false (chunks true z len ((b.cells.drop off).take (len * z))) ((us.drop off).take (len * z)) (by rw [c1]; exact hvals.1)
      c3 (by simp) (by rw [c2]; exact hcap)
      (fun j u hu => by
        rw [List.getElem?_take] at hu
        split at hu
        · rename_i hj
          rw [List.getElem?_drop] at hu
          refine ⟨?_, by rw [p1, if_pos rfl]; omega, hone (off + j) u (by omega) hu⟩
          simp [World.cell?, hheap, hu]
        · cases hu) (by rw [c1]; exact hvals.2)
    rw [c2] at this
    exact this
  have hbase : Rel g0 w0 Ex g1 (⟨S.sl.map (Slot.without id), [], (remH id S.H).map (blkW id), S.nx, []⟩ : St) a w := by
    refine ⟨⟨fun c hc => ?_, fun c i hc => ?_, fun c d hc => ?_, fun c c' i k1 k2 => ?_, fun c c' d k1 k2 => ?_⟩, ⟨fun i c hc => ?_, fun c i hc => ?_⟩, fun d c hc => (by cases hc), fun d c hc => (by cases hc), ?_, fun t => ?_, ?_, h.nodef⟩
    · rw [r1, p1, if_neg (by omega), if_neg (by omega)]
      exact h.inv.new c hc
    · obtain ⟨k1, k2⟩ := back c (by rw [hc]; simp)
      rw [p1, if_neg k1]
      exact h.inv.ph c i (k2 ▸ hc)
    · obtain ⟨k1, k2⟩ := back c (by rw [hc]; simp)
      rw [p1, if_neg k1]
      exact h.inv.pl c d (k2 ▸ hc)
    · obtain ⟨_, k3⟩ := back c (by rw [k1]; simp)
      obtain ⟨_, k4⟩ := back c' (by rw [k2]; simp)
      exact h.inv.injh c c' i (k3 ▸ k1) (k4 ▸ k2)
    · obtain ⟨_, k3⟩ := back c (by rw [k1]; simp)
      obtain ⟨_, k4⟩ := back c' (by rw [k2]; simp)
      exact h.inv.injl c c' d (k3 ▸ k1) (k4 ▸ k2)
    · have hc' : getL ((remH id S.H).map (blkW id)) i = some c := hc
      rw [getL_blkW, getL_remH id S.H i] at hc'
      split at hc'
      · cases hc'
      · rename_i hne
        cases hc0 : getL S.H i with
        | none => rw [hc0] at hc'; cases hc'
        | some c0 =>
          rw [hc0] at hc'
          injection hc' with hc'
          subst hc'
          obtain ⟨C, hC, ⟨us', e', k1, k2, k3⟩, k4⟩ := h.h.blk i c0 hc0
          have hCB : C ≠ B := fun e => by subst e; rw [hB] at hC; injection hC with hC; exact hne hC.symm
          have hmap : ∀ (j : Nat) (x : AV), (c0.cells.map (wI id))[j]? = some x → x = .undef ∨ (x.keepI id = true ∧ c0.cells[j]? = some x) := by
            intro j x hx
            rw [List.getElem?_map] at hx
            cases hx0 : c0.cells[j]? with
            | none => rw [hx0] at hx; cases hx
            | some x0 =>
              rw [hx0] at hx
              injection hx with hx
              unfold wI at hx
              split at hx
              · rename_i hk; subst hx; exact .inr ⟨hk, rfl⟩
              · exact .inl hx.symm
          refine ⟨C, hr C i hne hC, ⟨us', e', k1, by rw [List.length_map]; exact k2, by rw [List.length_map]; exact k3.1, fun j u x hu hx => ?_⟩, fun o ho u v hu hv => ?_⟩
          · rcases hmap j x hx with rfl | ⟨hk, hx0⟩
            · exact .undef _
            · exact rep_keepI (k3.2 j u x hu hx0) hk hr hp
          · rcases hmap o v hv with rfl | ⟨_, hv0⟩
            · trivial
            · have := k4 o ho u v hu hv0
              cases v with
              | vs sz tg l =>
                rcases this with k5 | k5 | ⟨D, n, cp, ud, ed, k5, k6, k7, k8, k9, k10⟩
                · exact .inl k5
                · exact .inr (.inl k5)
                · have hDB : D ≠ B := fun e => by subst e; rw [hB] at k6; cases k6
                  exact .inr (.inr ⟨D, n, cp, ud, ed, k5, by rw [r1, if_neg hDB]; exact k6, k7, k8, k9, by rw [p1, if_neg hDB]; exact k10⟩)
              | _ => trivial
    · obtain ⟨k1, k2⟩ := back c (by rw [hc]; simp)
      rw [k2] at hc
      show getL ((remH id S.H).map (blkW id)) i ≠ none
      rw [getL_blkW, getL_remH id S.H i, if_neg (fun e => by subst e; exact k1 (h.inv.injh c B i hc hB))]
      have := h.h.lt c i hc
      have this' : getL S.H i ≠ none := this
      cases hx : getL S.H i with
      | none => exact absurd hx this'
      | some _ => simp
    · show (S.sl.map _).length = _
      rw [List.length_map]; exact h.len
    · show SlotRel g1 _ a w t (nthS (S.sl.map (Slot.without id)) t)
      rw [nthS_map _ rfl]
      have e0 : nthS S.sl t = S.slot t := rfl
      have hst' := h.sl t
      rw [e0]
      cases hst : S.slot t with
      | und => trivial
      | lp d o => trivial
      | mp d => trivial
      | val v f =>
        rw [hst] at hst'
        simp only [Slot.without]
        split
        · rename_i hv
          exact ⟨rep_keepI hst'.1 (keepF_I hv) hr hp, trivial⟩
        · trivial
    · refine ⟨⟨fun c i hc => ?_, fun c => Nat.le_trans (h.fr.ext.2 c) (hp c), h.fr.ext.3⟩, h.fr.os, h.fr.tape, h.fr.output, h.fr.size, fun c hc hx => ?_, fun c hc => ?_⟩
      · have hcB : c ≠ B := fun e => by
          subst e
          rw [(hf.1.new c hw0).1] at hc
          cases hc
        rw [r1, if_neg hcB]
        exact h.fr.ext.1 c i hc
      · rw [p1, if_neg (by omega)]
        exact h.fr.same c hc hx
      · obtain ⟨_, k2⟩ := back c hc
        exact h.fr.role c (k2 ▸ hc)
  refine ⟨g1, hbase.reslot rfl rfl rfl rfl (by show (setS _ s _).length = _; rw [setS_length]) fun t => ?_⟩
  rw [slot_put]
  split
  · rename_i ht
    exact .inr (.inr ⟨_, rfl, by rw [ht.1]; exact hrep⟩)
  · exact .inl rfl

theorem frzAll_ok {imp : Bool} (hf : imp = false → Fresh0 g0 w0 Ex) {id : Nat} : ∀ {l : List (Nat × Nat)} {S : St} {k : St → Option R}, frzAll imp l id S k = some r → Good g0 w0 Ex S a w → ∃ S', Good g0 w0 Ex S' a w ∧ k S' = some r
  | [], S, k, h, hg => ⟨S, hg, h⟩
  | (q, s) :: l, S, k, h, hg => by
    simp only [frzAll] at h
    split at h
    · split at h
      · cases h
      · rename_i himp
        unfold St.frz at h
        split at h
        · rename_i v f hs
          split at h
          · rename_i i off len z
            obtain ⟨b, hb, h2⟩ := bind_some' h
            obtain ⟨g, hg⟩ := hg
            split at h2
            · rename_i h5
              obtain ⟨h3, h4⟩ := br_left h2
              rw [Bool.and_eq_true, Bool.and_eq_true] at h3
              obtain ⟨h6, h7, h8⟩ := h3
              obtain rfl := beq_true h5
              exact frzAll_ok hf h4 (hg.frz (hf rfl) hs hb (ble_true h6) h7 h8)
            · obtain ⟨h3, h4⟩ := br_left h2
              rw [Bool.and_eq_true, Bool.and_eq_true] at h3
              obtain ⟨h5, h6, h7⟩ := h3
              exact frzAll_ok hf h4 (hg.frzN (hf rfl) (by simpa [Nat.blt_eq] using h5) hs hb (ble_true h6) h7)
          · cases h
        · cases h
    · exact frzAll_ok hf h hg

end
end Go.Vai
