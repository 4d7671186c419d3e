/- Slice literals, new variables, stores. -/
import Derived.Test.YtjipknfohmgjaaaVOp7
namespace Go.Vai

section
variable {X : Nat → Prop} {g0 : G} {w0 : World} {Ex : Nat → Prop} {g g' : G} {S : St} {a : Act} {w w' : World} {P : Program} {R : Type} {r : R} {o : Oper}

theorem heap_alloc_lt (w : World) (x : Obj) {B : Nat} (h : B < w.heap.size) : (w.alloc x).heap[B]? = w.heap[B]? := by
  show (w.heap.push x)[B]? = _
  rw [Array.getElem?_push, if_neg (by omega)]
theorem heap_alloc_at (w : World) (x : Obj) : (w.alloc x).heap[w.heap.size]? = some x := by
  show (w.heap.push x)[w.heap.size]? = _
  rw [Array.getElem?_push, if_pos rfl]
theorem size_alloc' (w : World) (x : Obj) : (w.alloc x).heap.size = w.heap.size + 1 := by simp

theorem opBuildSlice_step {t : TypeId} {len : Nat} {parts : Array (Nat × Operand)} {k : St → Option R} (ho : o.op = .buildSlice t len parts)
    (h : opBuildSlice P t len parts.toList S (fun v => k (S.putd o.dst (.val v .no))) = some r) (hg : Rel g0 w0 Ex g S a w) : StepTo P o a w g0 w0 Ex k r := by
  unfold opBuildSlice at h
  split at h
  · cases h
  · rename_i e he
    have hu : P.underlying t = some (.slice e) := by
      unfold tElem at he
      split at he
      · rename_i e' hu; injection he with he; rw [hu, he]
      · cases he
    split at h
    · cases h
    · rename_i z hz
      obtain ⟨i, v, hi, hv, hrz, h1z⟩ := zeroCells_some (g := g) (w := w) hz
      split at h
      · rename_i hz0 hsm hzl hag
        have hzpos : tSize P e ≠ 0 := fun e' => by rw [e'] at hz0; cases hz0
        have hsm' := ble_true hsm
        have hzl' := beq_true hzl
        have hsz : i.size = tSize P e := by simp [tSize, hi]
        have hvl : v.cells.size = tSize P e := by rw [← hzl', ← hrz.1, Array.length_toList]
        obtain ⟨us', cs', h2, h3, h4, h5, h6⟩ := fillC_sound (w := w) (g := g) _ (parts.toList.map fun x => (x.1, a.eval x.2)) _ _ (by rw [partsOf_map]; simp) (fun j p q => partsOf_rep hg _ _ j p q)
          (hrz.repl len) (fun u hu => by
            obtain ⟨l, hl, hul⟩ := List.mem_flatten.1 hu
            rw [(List.mem_replicate.1 hl).2] at hul
            exact h1z u hul) h
        have hl2 : us'.length = len * tSize P e := by
          rw [h5, ((hrz.repl (w := w) (g := g)) len).1, replC_eq, List.length_flatten]
          simp [hzl']
        have hrun : (execOp a.eval o).run P w = .ok (.value (.slice (some ⟨w.heap.size, 0, none⟩) len len)) (w.alloc (.cells us'.toArray e)) := by
          have e0 : (parts.map fun (i, x) => (i, a.eval x)).toList = parts.toList.map fun x => (x.1, a.eval x.2) := by simp
          have hbs : (Instr.buildSlice t len (parts.map fun (i, x) => (i, a.eval x))).run P w = .ok (.slice (some ⟨w.heap.size, 0, none⟩) len len) (w.alloc (.cells us'.toArray e)) := by
            have hnb : ¬ (len * i.size > 2 ^ 24) := by rw [hsz]; omega
            by_cases hl0 : len * i.size = 0
            · have hlen0 : len = 0 := by
                rcases Nat.mul_eq_zero.1 hl0 with h | h
                · exact h
                · rw [hsz] at h; exact absurd h hzpos
              subst hlen0
              have hfill : Instr.fill (fun i_1 => some (i_1 * i.size, i.size)) #[] (parts.toList.map fun x => (x.1, a.eval x.2)) = some us'.toArray := by
                rw [← h2, hsz]; rfl
              simp only [Instr.buildSlice, Sem.run_bind, run_und hu, Result.andThen_ok, sizeOf, typeInfo, run_program, hi, Sem.run_pure, Nat.zero_mul, ↓reduceIte, e0]
              rw [show Array.range 0 = #[] from rfl]
              simp [hfill, newRow]
            · have hfill : Instr.fill (fun i_1 => some (i_1 * i.size, i.size)) ((Array.range (len * i.size)).map (v.cells[· % v.cells.size]!)) (parts.toList.map fun x => (x.1, a.eval x.2)) = some us'.toArray := by
                rw [← h2, hsz]
                congr 1
                apply Array.ext'
                rw [Array.toList_map, Array.toList_range, hvl]
                have := range_repl v.cells.toList (tSize P e) (by rw [Array.length_toList]; exact hvl) (by omega) len
                simpa using this
              simp [Instr.buildSlice, run_und hu, sizeOf, typeInfo, zeroValue, hi, hv, hnb, hl0, hfill, newRow]
          simp only [execOp, ho, Sem.run_bind, hbs, Result.andThen_ok, Sem.run_pure]
        refine .mk hrun ?_ h6
        have hr := hg.newblk (w' := w.alloc (.cells us'.toArray e)) (fun B hB => heap_alloc_lt w _ hB) (size_alloc' w _) rfl rfl rfl .ext us'.length (.inl rfl)
        have hk := keep_new (w' := w.alloc (.cells us'.toArray e)) hg.inv (fun B hB => heap_alloc_lt w _ hB) (by simp) rfl rfl rfl .ext us'.length
        have h3' := h3.ext hk.ext
        obtain ⟨c1, c2, c3⟩ := chunks_cells (ag := tAgg P e) (n := tSize P e) (Nat.pos_of_ne_zero hzpos) (fun hf => by rw [hf] at hag; exact beq_true (by rw [Bool.false_or] at hag; exact hag)) len cs' (by rw [← h3.1, hl2]) (noagg_of_rep h3 h4)
        refine ⟨_, hr.putv (f := .no) o.dst ?_ (fun _ _ => trivial) (by simp) (by simp)⟩
        have := Rep.vs (g := g.new w.heap.size .ext us'.length) (w := w.alloc (.cells us'.toArray e)) w.heap.size 0 len (tSize P e) true (chunks (tAgg P e) (tSize P e) len cs') us' (by rw [c1]; exact h3'.1) c3 (fun _ => c2.symm) (by rw [c2]; exact Nat.le_refl _)
          (fun j u hu => by
            obtain ⟨h7, h8⟩ := blk_cells (heap_alloc_at w _) h4 j u hu
            refine ⟨h7, ?_, h8⟩
            rw [new_pub, if_pos rfl, Nat.zero_add]
            exact (List.getElem?_eq_some_iff.1 hu).1) (by rw [c1]; exact h3'.2)
        rw [c2] at this
        exact this
      · cases h


theorem getM_setM : ∀ (M : List (Nat × List (AV × AV))) (d : Nat) (b : List (AV × AV)) (d' : Nat), getM (setM M d b) d' = if d' = d then some b else getM M d'
  | [], d, b, d' => by
    simp only [setM, getM]
    cases hb : Nat.beq d' d with
    | true => rw [if_pos (beq_true hb)]
    | false => rw [if_neg (fun e => by subst e; rw [show Nat.beq d' d' = true from Nat.beq_refl d'] at hb; cases hb)]
  | (e, c) :: L, d, b, d' => by
    simp only [setM]
    have hn : ∀ x y : Nat, Nat.beq x y = false → x ≠ y := fun x y hb e => by subst e; rw [show Nat.beq x x = true from Nat.beq_refl x] at hb; cases hb
    cases hb : Nat.beq d e with
    | true =>
      obtain rfl := beq_true hb
      simp only [getM]
      cases hb2 : Nat.beq d' d with
      | true => rw [if_pos (beq_true hb2)]
      | false => rw [if_neg (hn _ _ hb2)]
    | false =>
      simp only [getM, getM_setM L d b d']
      cases hb2 : Nat.beq d' e with
      | true =>
        obtain rfl := beq_true hb2
        exact (if_neg (fun e : d' = d => hn _ _ hb e.symm)).symm
      | false => rfl

theorem getL_insH : ∀ (L : List (Nat × Blk)) (d : Nat) (b : Blk) (d' : Nat), getL (insH L d b) d' = if d' = d then some b else getL L d'
  | [], d, b, d' => by
    simp only [insH, getL]
    cases hb : Nat.beq d' d with
    | true => rw [if_pos (beq_true hb)]
    | false => rw [if_neg (fun e => by subst e; rw [show Nat.beq d' d' = true from Nat.beq_refl d'] at hb; cases hb)]
  | (e, c) :: L, d, b, d' => by
    simp only [insH]
    cases hde : Nat.beq d e with
    | true =>
      obtain rfl := beq_true hde
      simp only [getL]
      cases hb : Nat.beq d' d with
      | true => rw [if_pos (beq_true hb)]
      | false => rw [if_neg (fun e => by subst e; rw [show Nat.beq d' d' = true from Nat.beq_refl d'] at hb; cases hb)]
    | false =>
      simp only
      cases hlt : Nat.blt d e with
      | true =>
        simp only [getL]
        cases hb : Nat.beq d' d with
        | true => rw [if_pos (beq_true hb)]
        | false => rw [if_neg (fun e => by subst e; rw [show Nat.beq d' d' = true from Nat.beq_refl d'] at hb; cases hb)]
      | false =>
        simp only [getL, getL_insH L d b d']
        cases hb : Nat.beq d' e with
        | true =>
          obtain rfl := beq_true hb
          have hne : d' ≠ d := fun h => by subst h; rw [show Nat.beq d' d' = true from Nat.beq_refl d'] at hde; cases hde
          simp [hne]
        | false => rfl

/-- the order in which two blocks come does not matter -/
theorem insH_comm : ∀ (L : List (Nat × Blk)) (i j : Nat) (b c : Blk), i ≠ j → insH (insH L i b) j c = insH (insH L j c) i b := by
  have nb : ∀ {i j : Nat}, i ≠ j → Nat.beq i j = false := fun {i j} h => by
    cases hb : Nat.beq i j with
    | false => rfl
    | true => exact absurd (beq_true hb) h
  have bl : ∀ {i j : Nat}, i < j → Nat.blt i j = true := fun h => by simpa [Nat.blt_eq] using h
  have nl : ∀ {i j : Nat}, ¬ i < j → Nat.blt i j = false := fun {i j} h => by
    cases hb : Nat.blt i j with
    | false => rfl
    | true => exact absurd (by simpa [Nat.blt_eq] using hb) h
  have br : ∀ i : Nat, Nat.beq i i = true := Nat.beq_refl
  intro L
  induction L with
  | nil =>
    intro i j b c hij
    rcases Nat.lt_or_gt_of_ne hij with h | h
    · simp [insH, nb hij, nb (Ne.symm hij), bl h, nl (Nat.lt_asymm h)]
    · simp [insH, nb hij, nb (Ne.symm hij), bl h, nl (Nat.lt_asymm h)]
  | cons x L ih =>
    obtain ⟨d, e⟩ := x
    intro i j b c hij
    have h3 : i < d ∨ i = d ∨ d < i := by omega
    have h4 : j < d ∨ j = d ∨ d < j := by omega
    rcases h3 with h3 | rfl | h3 <;> rcases h4 with h4 | rfl | h4
    · rcases Nat.lt_or_gt_of_ne hij with h | h
      · simp [insH, nb hij, nb (Ne.symm hij), bl h, nl (Nat.lt_asymm h), nb (Nat.ne_of_lt h3), bl h3, nb (Nat.ne_of_lt h4), bl h4]
      · simp [insH, nb hij, nb (Ne.symm hij), bl h, nl (Nat.lt_asymm h), nb (Nat.ne_of_lt h3), bl h3, nb (Nat.ne_of_lt h4), bl h4]
    · simp [insH, nb (Nat.ne_of_lt h3), nb (Nat.ne_of_gt h3), bl h3, nl (Nat.lt_asymm h3)]
    · simp [insH, nb (Nat.ne_of_lt h3), bl h3, nb (Nat.ne_of_gt h4), nl (Nat.lt_asymm h4), nb (Ne.symm hij), nl (Nat.lt_asymm (Nat.lt_trans h3 h4))]
    · simp [insH, nb (Nat.ne_of_lt h4), nb (Nat.ne_of_gt h4), bl h4, nl (Nat.lt_asymm h4)]
    · exact absurd rfl hij
    · simp [insH, nb (Nat.ne_of_gt h4), nl (Nat.lt_asymm h4)]
    · simp [insH, nb (Nat.ne_of_lt h4), bl h4, nb (Nat.ne_of_gt h3), nl (Nat.lt_asymm h3), nb hij, nl (Nat.lt_asymm (Nat.lt_trans h4 h3))]
    · simp [insH, nb (Nat.ne_of_gt h3), nl (Nat.lt_asymm h3)]
    · simp [insH, nb (Nat.ne_of_gt h3), nl (Nat.lt_asymm h3), nb (Nat.ne_of_gt h4), nl (Nat.lt_asymm h4), ih i j b c hij]

theorem getL_setL (L : List (Nat × Blk)) (d : Nat) (b : Blk) (d' : Nat) : getL (setL L d b) d' = if d' = d then some b else getL L d' := getL_insH L d b d'
theorem Hp_set (H : Hp) (i j : Nat) (b : Blk) : H.set i b j = if j = i then some b else H j := getL_insH H i b j
theorem Hp_set_ne {H : Hp} {i j : Nat} {b : Blk} (h : H j ≠ none) : H.set i b j ≠ none := by
  rw [Hp_set]
  split
  · simp
  · exact h
theorem new?_some {R : Type} {H : Hp} {i : Nat} {x : Option R} {r : R} (h : H.new? i x = some r) : H i = none ∧ x = some r := by
  unfold Hp.new? at h
  split at h
  · rename_i hn; exact ⟨hn, h⟩
  · cases h

theorem slot_dropLp (S : St) (d t : Nat) : ({ S with sl := S.sl.map (dropLp d) } : St).slot t = dropLp d (S.slot t) := nthS_map _ rfl _ _

/-- a slice without room may be appended to: that makes a new one -/
theorem tight_own {g : G} {w : World} {u : Value} {sz : Nat} {l : List AV} (h : Rep g w u (.vs sz true l)) (g' : G) (w' : World) (p : Pl) : OwnV g' w' p sz u := by
  rcases rep_vs h with ⟨⟨q, rfl⟩, _⟩ | ⟨B, off, cap, vals, rfl, _, ht, _⟩
  · cases q with
    | none => exact .inl rfl
    | some a => exact .inr (.inl ⟨_, _, rfl⟩)
  · have := ht rfl
    subst this
    exact .inr (.inl ⟨_, _, rfl⟩)

/-- a new block of shared memory -/
theorem Rel.newHf (hg : Rel g0 w0 Ex g S a w) {us : List Value} {cells : List AV} {free : List Nat} (e : TypeId) {id : Nat} (hn : S.H id = none) (nx' : Nat) (h1 : OneP us cells.length) (hrl : RepP g w us cells)
    (hfree : ∀ off ∈ free, ∃ sz l, cells[off]? = some (.vs sz true l)) :
    Rel g0 w0 Ex (g.new w.heap.size (.h id) 0) ({ S with H := S.H.set id ⟨cells, free⟩, nx := nx' } : St).unlent a (w.alloc (.cells us.toArray e)) := by
  have hold : ∀ B, B < w.heap.size → (w.alloc (.cells us.toArray e)).heap[B]? = w.heap[B]? := fun B hB => heap_alloc_lt w _ hB
  have hat := heap_alloc_at w (.cells us.toArray e)
  have hk := keep_new (w' := w.alloc (.cells us.toArray e)) hg.inv hold (by simp) rfl rfl rfl (.h id) 0
  have hi := inv_new (w' := w.alloc (.cells us.toArray e)) hg.inv (size_alloc' w _) (.h id) 0 (fun _ => rfl) (fun id' B e he => by injection e with e; subst e; exact absurd hn (hg.h.lt B _ he)) (fun d B e => by cases e)
  have role : ∀ B d, g.role B = .l d → (g.new w.heap.size (.h id) 0).role B = .l d := fun B d hB => by
    rcases Nat.lt_or_ge B w.heap.size with hlt | hge
    · rw [(hk.blk B hlt (fun x => x)).2.1]; exact hB
    · rw [(hg.inv.new B hge).1] at hB; cases hB
  refine ⟨hi, ⟨fun id' b hb => ?_, fun B id' hB => ?_⟩, hg.l.keep hk (fun _ _ _ _ _ => fun x => x) (fun _ _ _ _ => fun x => x), hg.m.keep hk (fun _ _ _ _ _ => fun x => x), by show (S.sl.map Slot.unlent).length = _; rw [List.length_map]; exact hg.len, fun t => ?_, hg.fr.keep hk (fun _ hx => hx.elim) (fun _ _ hx => hx.elim), hg.nodef⟩
  · have hb' : S.H.set id ⟨cells, free⟩ id' = some b := hb
    rw [Hp_set] at hb'
    split at hb'
    · rename_i hid
      subst hid
      injection hb' with hb'
      subst hb'
      refine ⟨w.heap.size, by rw [new_role, if_pos rfl], ⟨us, e, hat, h1, hrl.ext hk.ext⟩, fun off hoff u v hu hv => ?_⟩
      obtain ⟨sz, l, hc⟩ := hfree off hoff
      have hv' : cells[off]? = some v := hv
      rw [hc] at hv'
      injection hv' with hv'
      subst hv'
      have hlt : off < us.length := Nat.lt_of_lt_of_le (List.getElem?_eq_some_iff.1 hc).1 hrl.1
      have h3 := (blk_take hat h1 off us[off] (by rw [List.getElem?_take, if_pos (List.getElem?_eq_some_iff.1 hc).1]; exact List.getElem?_eq_getElem hlt)).1
      rw [Nat.zero_add, hu] at h3
      injection h3 with h3
      have := hrl.2 off _ _ (List.getElem?_eq_getElem hlt) hc
      rw [← h3] at this
      exact tight_own this _ _ _
    · obtain ⟨B, hB, ⟨us', e', k1, k2, k3⟩, hf⟩ := hg.h.blk id' b hb'
      have hBlt : B < w.heap.size := by
        rcases Nat.lt_or_ge B w.heap.size with hlt | hge
        · exact hlt
        · rw [(hg.inv.new B hge).1] at hB; cases hB
      have hBr : (g.new w.heap.size (.h id) 0).role B = .h id' := by rw [(hk.blk B hBlt (fun x => x)).2.1]; exact hB
      refine ⟨B, hBr, ⟨us', e', by rw [hold B hBlt]; exact k1, k2, k3.ext hk.ext⟩, fun off hoff u v hu hv => ?_⟩
      rw [cell_keep (hold B hBlt)] at hu
      exact OwnAV.keep (hf off hoff u v hu hv) hk fun _ _ => fun x => x
  · show S.H.set id ⟨cells, free⟩ id' ≠ none
    rw [Hp_set]
    split
    · simp
    · rename_i hne
      rw [new_role] at hB
      split at hB
      · injection hB with hB; exact absurd hB.symm hne
      · exact hg.h.lt B id' hB
  · show SlotRel _ _ a _ t (S.unlent.slot t)
    rw [slot_unlent]
    refine SlotC.rel ?_ _
    have h1 := (hg.sl t).c
    cases hst : S.slot t with
    | und => trivial
    | lp d off =>
      rw [hst] at h1
      obtain ⟨B, h2, h3⟩ := h1
      exact ⟨B, role B d h2, h3⟩
    | mp d =>
      rw [hst] at h1
      obtain ⟨B, h2, h3⟩ := h1
      exact ⟨B, role B d h2, h3⟩
    | val v f =>
      rw [hst] at h1
      refine ⟨h1.1.ext hk.ext, ?_⟩
      cases f with
      | own => exact OwnAV.keep h1.2 hk fun _ _ => fun x => x
      | comps cs => exact fun i hi us vs ui vi e1 e2 e3 e4 => OwnAV.keep (h1.2 i hi us vs ui vi e1 e2 e3 e4) hk fun _ _ => fun x => x
      | _ => trivial

/-- a new block, in the frame's own box or in shared memory -/
theorem opNew_step {A : Ann} {cells : List AV} {free : List Nat} {k : St → Option R} {us : List Value} {e : TypeId} (hrun : (execOp a.eval o).run P w = .ok (.value (.pointer (some ⟨w.heap.size, 0, none⟩))) (w.alloc (.cells us.toArray e)))
    (h1 : ∀ u ∈ us, u.oneCell' = true) (hrl : RepP g w us cells) (hfree : ∀ off ∈ free, ∃ sz l, cells[off]? = some (.vs sz true l))
    (h : opNew A o cells free S k = some r) (hg : Rel g0 w0 Ex g S a w) : StepTo P o a w g0 w0 Ex k r := by
  unfold opNew at h
  have hold : ∀ B, B < w.heap.size → (w.alloc (.cells us.toArray e)).heap[B]? = w.heap[B]? := fun B hB => heap_alloc_lt w _ hB
  have hat := heap_alloc_at w (.cells us.toArray e)
  split at h
  · cases h
  · rename_i d hd
    split at h
    · -- shared
      obtain ⟨hn, h⟩ := new?_some h
      have hr2 := hg.newHf e hn (S.nx + 1) (oneP_of h1 _) hrl hfree
      refine .mk hrun ⟨g.new w.heap.size (.h S.nx) 0, ?_⟩ h
      rw [hd]
      exact hr2.putv (f := .no) (some d) (.ptr w.heap.size S.nx 0 (by rw [new_role, if_pos rfl])) (fun _ _ => trivial) (by simp) (by simp)
    · -- the frame's own
      split at h
      rotate_left
      · cases h
      rename_i hMn
      let g1 : G := ⟨fun b => if g.role b = .l d then .ext else g.role b, g.pub⟩
      have r1 : ∀ b, g1.role b = if g.role b = .l d then .ext else g.role b := fun _ => rfl
      have r1ne : ∀ b x, g.role b = x → x ≠ .l d → g1.role b = x := fun b x hb hx => by rw [r1, if_neg (by rw [hb]; exact hx), hb]
      have r1inv : ∀ b x, g1.role b = x → x ≠ .ext → g.role b = x ∧ x ≠ .l d := fun b x hb hx => by
        rw [r1] at hb
        split at hb
        · exact absurd hb.symm hx
        · rename_i hn; subst hb; exact ⟨rfl, hn⟩
      have hE1 : Ext g w g1 w := ⟨fun B id hB => r1ne B _ hB (by simp), fun _ => Nat.le_refl _, fun _ _ _ => rfl⟩
      have own1 : ∀ p u c, OwnAV g w p u c → OwnAV g1 w p u c := by
        intro p u c hc
        cases c with
        | vs sz tg l =>
          rcases hc with hc | hc | ⟨B, n, cap, us, e, h1, h2, h3⟩
          · exact .inl hc
          · exact .inr (.inl hc)
          · exact .inr (.inr ⟨B, n, cap, us, e, h1, r1ne B _ h2 (by simp), h3⟩)
        | _ => trivial
      have hg1 : Rel g0 w0 Ex g1 ({ S with L := [], sl := S.sl.map (dropLp d) } : St).unlent a w := by
        refine ⟨⟨fun B hB => ?_, fun B id hB => hg.inv.ph B id (r1inv B _ hB (by simp)).1, fun B d' hB => hg.inv.pl B d' (r1inv B _ hB (by simp)).1, fun B B' id hB hB' => hg.inv.injh B B' id (r1inv B _ hB (by simp)).1 (r1inv B' _ hB' (by simp)).1, fun B B' id hB hB' => hg.inv.injl B B' id (r1inv B _ hB (by simp)).1 (r1inv B' _ hB' (by simp)).1⟩, ?_, ?_, fun d' l hl => ?_, ?_, fun t => ?_, ?_, hg.nodef⟩
        · obtain ⟨h2, h3⟩ := hg.inv.new B hB
          exact ⟨r1ne B _ h2 (by simp), h3⟩
        · refine ⟨fun id b hb => ?_, fun B id hB => hg.h.lt B id (r1inv B _ hB (by simp)).1⟩
          obtain ⟨B, hB, ⟨us', e', hh, ho', hr'⟩, hf⟩ := hg.h.blk id b hb
          exact ⟨B, r1ne B _ hB (by simp), ⟨us', e', hh, ho', hr'.ext hE1⟩, fun off hoff u v hu hv => own1 _ _ _ (hf off hoff u v hu hv)⟩
        · intro d' b hb; cases hb
        · obtain ⟨B, es, ck, h2, h3, h4⟩ := hg.m d' l hl
          exact ⟨B, es, ck, r1ne B _ h2 (by intro e; injection e with e; have hl' : getM S.M d' = some l := hl; rw [e, hMn] at hl'; cases hl'), h3, h4.ext hE1⟩
        · show ((S.sl.map (dropLp d)).map Slot.unlent).length = _
          rw [List.length_map, List.length_map]; exact hg.len
        · have hs := hg.sl t
          rw [slot_unlent]
          have e1 : ({ S with L := [], sl := S.sl.map (dropLp d) } : St).slot t = dropLp d (S.slot t) := nthS_map _ rfl _ _
          rw [e1]
          cases hst : S.slot t with
          | und => trivial
          | lp d' off =>
            rw [hst] at hs
            obtain ⟨B, h2, h3⟩ := hs
            simp only [dropLp]
            cases hb : Nat.beq d' d with
            | true => trivial
            | false =>
              have hne : d' ≠ d := fun e => by subst e; rw [show Nat.beq d' d' = true from Nat.beq_refl d'] at hb; cases hb
              exact ⟨B, r1ne B _ h2 (by intro e; injection e with e; exact hne e), h3⟩
          | mp d' =>
            rw [hst] at hs
            obtain ⟨B, h2, h3⟩ := hs
            simp only [dropLp]
            cases hb : Nat.beq d' d with
            | true => trivial
            | false =>
              have hne : d' ≠ d := fun e => by subst e; rw [show Nat.beq d' d' = true from Nat.beq_refl d'] at hb; cases hb
              exact ⟨B, r1ne B _ h2 (by intro e; injection e with e; exact hne e), h3⟩
          | val v f =>
            rw [hst] at hs
            refine SlotC.rel (s := .val v f) ⟨hs.1.ext hE1, ?_⟩ _
            cases f with
            | own => exact own1 _ _ _ hs.2
            | comps cs => exact fun i hi us vs ui vi e1 e2 e3 e4 => own1 _ _ _ (hs.2 i hi us vs ui vi e1 e2 e3 e4)
            | _ => trivial
        · exact ⟨hg.fr.ext.trans hE1, hg.fr.os, hg.fr.tape, hg.fr.output, hg.fr.size, fun B hB hx => hg.fr.same B hB hx, fun B hB => hg.fr.role B fun e => hB (r1ne B _ e (by simp))⟩
      have hk := keep_new (w' := w.alloc (.cells us.toArray e)) hg1.inv hold (by simp) rfl rfl rfl (.l d) 0
      have hi := inv_new (w' := w.alloc (.cells us.toArray e)) hg1.inv (size_alloc' w _) (.l d) 0 (fun _ => rfl) (fun id B e => by cases e) (fun d' B e he => by
        injection e with e; subst e; exact (r1inv B _ he (by simp)).2 rfl)
      have hr := hg1.grow hk hi (fun B id hB => by
        rw [new_role] at hB
        split at hB
        · cases hB
        · exact hg1.h.lt B id hB)
      refine .mk hrun ⟨g1.new w.heap.size (.l d) 0, ?_⟩ h
      rw [hd]
      have hr2 : Rel g0 w0 Ex (g1.new w.heap.size (.l d) 0) ({ S with L := setL S.L d ⟨cells, free⟩, sl := S.sl.map (dropLp d) } : St).unlent a (w.alloc (.cells us.toArray e)) := by
        refine ⟨hr.inv, hr.h, fun d' b hb => ?_, hr.m, hr.len, fun t => ?_, hr.fr, hr.nodef⟩
        · have hb' : getL (setL S.L d ⟨cells, free⟩) d' = some b := hb
          rw [getL_setL] at hb'
          split at hb'
          · rename_i hid
            subst hid
            injection hb' with hb'
            subst hb'
            refine ⟨w.heap.size, by rw [new_role, if_pos rfl], ⟨us, e, hat, oneP_of h1 _, hrl.ext (hE1.trans hk.ext)⟩, fun off hoff u v hu hv => ?_⟩
            obtain ⟨sz, l, hc⟩ := hfree off hoff
            have hv' : cells[off]? = some v := hv
            rw [hc] at hv'
            injection hv' with hv'
            subst hv'
            have hlt : off < us.length := Nat.lt_of_lt_of_le (List.getElem?_eq_some_iff.1 hc).1 hrl.1
            have h3 := (blk_cells hat h1 off _ (List.getElem?_eq_getElem hlt)).1
            rw [Nat.zero_add, hu] at h3
            injection h3 with h3
            have := hrl.2 off _ _ (List.getElem?_eq_getElem hlt) hc
            rw [← h3] at this
            exact tight_own this _ _ _
          · rename_i hne
            obtain ⟨B, hB, hblk, hf⟩ := hg.l d' b hb'
            obtain ⟨us', e', hh, ho', hr'⟩ := hblk
            have hB1 : g1.role B = .l d' := r1ne B _ hB (by intro e; injection e with e; exact hne e)
            have hBlt := heap_lt hh
            refine ⟨B, by rw [new_role, if_neg (by omega)]; exact hB1, BlkRep.keep ⟨us', e', hh, ho', hr'.ext hE1⟩ hk (fun x => x), fun off hoff u v hu hv => ?_⟩
            rw [cell_keep (hold B hBlt)] at hu
            exact OwnAV.keep (own1 _ _ _ (hf off hoff u v hu hv)) hk fun _ _ x => x
        · have := hr.sl t
          have e1 : (({ S with L := setL S.L d ⟨cells, free⟩, sl := S.sl.map (dropLp d) } : St).unlent.slot t) = ({ S with L := [], sl := S.sl.map (dropLp d) } : St).unlent.slot t := rfl
          rw [e1]
          have e2 : (({ S with L := [], sl := S.sl.map (dropLp d) } : St).unlent.slot t).unlent = ({ S with L := [], sl := S.sl.map (dropLp d) } : St).unlent.slot t := by
            rw [slot_unlent]
            cases ({ S with L := [], sl := S.sl.map (dropLp d) } : St).slot t with
            | val v f => cases f <;> rfl
            | _ => rfl
          rw [← e2]
          exact (SlotRel.c this).rel _
      exact hr2.putlp (some d) (.inr (.inl ⟨d, 0, w.heap.size, rfl, by rw [new_role, if_pos rfl], rfl⟩))

end
end Go.Vai
