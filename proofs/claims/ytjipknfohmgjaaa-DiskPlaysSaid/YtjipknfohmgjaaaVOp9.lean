/- Stores. -/
import Derived.Test.YtjipknfohmgjaaaVOp8
namespace Go.Vai

theorem mem_insN {n m : Nat} : ∀ {l : List Nat}, m ∈ insN n l ↔ m = n ∨ m ∈ l
  | [] => by simp [insN]
  | x :: l => by
    have ih := mem_insN (n := n) (m := m) (l := l)
    unfold insN
    cases Nat.blt n x with
    | true => simp
    | false =>
      cases hb : Nat.beq n x with
      | true => obtain rfl := beq_true hb; simp
      | false =>
        simp only [List.mem_cons, ih]
        constructor
        · rintro (h | h | h) <;> simp [h]
        · rintro (h | h | h) <;> simp [h]

theorem mem_cutN {a b m : Nat} : ∀ {l : List Nat}, m ∈ cutN a b l ↔ m ∈ l ∧ ¬ (a ≤ m ∧ m < b)
  | [] => by simp [cutN]
  | x :: l => by
    have ih := mem_cutN (a := a) (b := b) (m := m) (l := l)
    unfold cutN
    have hble : ∀ p q : Nat, Nat.ble p q = false → ¬ p ≤ q := fun p q h h2 => by rw [Nat.ble_eq_true_of_le h2] at h; cases h
    cases h1 : Nat.ble a x with
    | true =>
      cases h2 : Nat.blt x b with
      | true =>
        have e1 := ble_true h1
        have e2 : x < b := Nat.le_of_ble_eq_true h2
        simp only [ih, List.mem_cons]
        constructor
        · rintro ⟨h, h'⟩; exact ⟨.inr h, h'⟩
        · rintro ⟨rfl | h, h'⟩
          · exact absurd ⟨e1, e2⟩ h'
          · exact ⟨h, h'⟩
      | false =>
        have e2 : ¬ x < b := fun h => hble _ _ h2 h
        simp only [List.mem_cons, ih]
        constructor
        · rintro (rfl | ⟨h, h'⟩)
          · exact ⟨.inl rfl, fun h => e2 h.2⟩
          · exact ⟨.inr h, h'⟩
        · rintro ⟨rfl | h, h'⟩
          · exact .inl rfl
          · exact .inr ⟨h, h'⟩
    | false =>
      have e1 := hble _ _ h1
      simp only [List.mem_cons, ih]
      constructor
      · rintro (rfl | ⟨h, h'⟩)
        · exact ⟨.inl rfl, fun h => e1 h.1⟩
        · exact ⟨.inr h, h'⟩
      · rintro ⟨rfl | h, h'⟩
        · exact .inl rfl
        · exact .inr ⟨h, h'⟩

section
variable {X : Nat → Prop} {g0 : G} {w0 : World} {Ex : Nat → Prop} {g g' : G} {S : St} {a : Act} {w w' : World} {P : Program} {R : Type} {r : R} {o : Oper}

/-- one block of the state's own is written -/
theorem keep_row {B : Nat} {us : List Value} {e : TypeId} (hheap : w.heap[B]? = some (.cells us.toArray e (0, 0))) (hp : g.pub B = 0) (nus : List Value) : Keep (fun b => b = B) g w g (w.setRow B nus.toArray) :=
  ⟨⟨fun _ _ h => h, fun _ => Nat.le_refl _, fun B' o ho => by
    have hne : B' ≠ B := fun e => by subst e; omega
    exact cell_keep (setRow_other w B B' _ hne)⟩, rfl, rfl, rfl, by simp, fun B' _ hne => ⟨setRow_other w B B' _ hne, rfl, rfl⟩⟩

theorem inv_row (h : Inv g w) {B : Nat} {nus : Array Value} : Inv g (w.setRow B nus) := ⟨fun B' hB => h.new B' (by simpa using hB), h.ph, h.pl, h.injh, h.injl⟩

theorem slots_keep (h : Rel g0 w0 Ex g S a w) (k : Keep X g w g w') (hX : ∀ B p, g.role B = .c p → ¬ X B) (S' : St) (hs : S'.sl = S.sl) (t : Nat) : SlotRel g S'.unlent a w' t (S'.unlent.slot t) := by
  have e : S'.unlent.slot t = (S.slot t).unlent := by rw [slot_unlent]; show (nthS S'.sl t).unlent = _; rw [hs]; rfl
  rw [e]
  have h1 := (h.sl t).c
  refine SlotC.rel ?_ _
  cases hst : S.slot t with
  | und => trivial
  | lp d off => rw [hst] at h1; exact h1
  | mp d => rw [hst] at h1; exact h1
  | val v f =>
    rw [hst] at h1
    refine ⟨h1.1.ext k.ext, ?_⟩
    cases f with
    | own => exact OwnAV.keep h1.2 k fun B hB => hX B _ hB
    | comps cs => exact fun i hi us vs ui vi e1 e2 e3 e4 => OwnAV.keep (h1.2 i hi us vs ui vi e1 e2 e3 e4) k fun B hB => hX B _ hB
    | _ => trivial

theorem Rel.writeL (h : Rel g0 w0 Ex g S a w) {d B : Nat} {b : Blk} {us nus : List Value} {e : TypeId} {ncells : List AV} {nfree : List Nat} (hb : getL S.L d = some b) (hB : g.role B = .l d) (hheap : w.heap[B]? = some (.cells us.toArray e (0, 0)))
    (hn : RepP g w nus ncells) (h1 : OneP nus ncells.length) (hfree : ∀ off ∈ nfree, ∀ u v, nus[off]? = some u → ncells[off]? = some v → OwnAV g w (.l d off) u v) :
    Rel g0 w0 Ex g ({ S with L := setL S.L d ⟨ncells, nfree⟩ } : St).unlent a (w.setRow B nus.toArray) := by
  have k := keep_row hheap (h.inv.pl B d hB) nus
  have hX : ∀ B' p, g.role B' = .c p → ¬ B' = B := fun B' p hp e => by subst e; rw [hB] at hp; cases hp
  have hat := setRow_heap w B us.toArray nus.toArray e (0, 0) hheap
  refine ⟨inv_row h.inv, h.h.keep k (fun B' id b' hB' _ e => by subst e; rw [hB] at hB'; cases hB') (fun B' id off hB' => hX B' _ hB') h.h.lt, fun d' b' hb' => ?_, h.m.keep k (h.m.nocells h.inv hheap), by show (S.sl.map Slot.unlent).length = _; rw [List.length_map]; exact h.len, fun t => slots_keep h k hX { S with L := setL S.L d ⟨ncells, nfree⟩ } rfl t, h.fr.keep k ?_ ?_, h.nodef⟩
  · have hb2 : getL (setL S.L d ⟨ncells, nfree⟩) d' = some b' := hb'
    rw [getL_setL] at hb2
    split at hb2
    · rename_i hd
      subst hd
      injection hb2 with hb2
      subst hb2
      refine ⟨B, hB, ⟨nus, e, hat, h1, hn.ext k.ext⟩, fun off hoff u v hu hv => OwnAV.keep (hfree off hoff u v ?_ hv) k fun B' hB' => hX B' _ hB'⟩
      simpa [World.cell?, hat] using hu
    · rename_i hd
      obtain ⟨B', hB', hblk, hf⟩ := h.l d' b' hb2
      have hne : ¬ B' = B := fun e => by subst e; rw [hB] at hB'; injection hB' with e; exact hd e.symm
      obtain ⟨us', e', hh, hrest⟩ := hblk
      refine ⟨B', hB', BlkRep.keep ⟨us', e', hh, hrest⟩ k hne, fun off hoff u v hu hv => ?_⟩
      rw [cell_keep (setRow_other w B B' _ hne)] at hu
      exact OwnAV.keep (hf off hoff u v hu hv) k fun B'' hB'' => hX B'' _ hB''
  · rintro B' rfl
    exact h.fr.role B' (by rw [hB]; simp)
  · rintro B' hlt rfl _
    rcases h.fr.role B' (by rw [hB]; simp) with hx | hx
    · omega
    · exact hx

theorem Rel.writeH (h : Rel g0 w0 Ex g S a w) {id B : Nat} {b : Blk} {us nus : List Value} {e : TypeId} {ncells : List AV} {nfree : List Nat} (hb : S.H id = some b) (hB : g.role B = .h id) (hheap : w.heap[B]? = some (.cells us.toArray e (0, 0)))
    (hn : RepP g w nus ncells) (h1 : OneP nus ncells.length) (hfree : ∀ off ∈ nfree, ∀ u v, nus[off]? = some u → ncells[off]? = some v → OwnAV g w (.h id off) u v) :
    Rel g0 w0 Ex g ({ S with H := S.H.set id ⟨ncells, nfree⟩ } : St).unlent a (w.setRow B nus.toArray) := by
  have k := keep_row hheap (h.inv.ph B id hB) nus
  have hX : ∀ B' p, g.role B' = .c p → ¬ B' = B := fun B' p hp e => by subst e; rw [hB] at hp; cases hp
  have hat := setRow_heap w B us.toArray nus.toArray e (0, 0) hheap
  refine ⟨inv_row h.inv, ⟨fun id' b' hb' => ?_, fun B' id'' hB' => Hp_set_ne (h.h.lt B' id'' hB')⟩, h.l.keep k (fun B' d b' hB' _ e => by subst e; rw [hB] at hB'; cases hB') (fun B' d off hB' => hX B' _ hB'), h.m.keep k (h.m.nocells h.inv hheap), by show (S.sl.map Slot.unlent).length = _; rw [List.length_map]; exact h.len, fun t => slots_keep h k hX { S with H := S.H.set id ⟨ncells, nfree⟩ } rfl t, h.fr.keep k ?_ ?_, h.nodef⟩
  · have hb2 : S.H.set id ⟨ncells, nfree⟩ id' = some b' := hb'
    rw [Hp_set] at hb2
    split at hb2
    · rename_i hd
      subst hd
      injection hb2 with hb2
      subst hb2
      refine ⟨B, hB, ⟨nus, e, hat, h1, hn.ext k.ext⟩, fun off hoff u v hu hv => OwnAV.keep (hfree off hoff u v ?_ hv) k fun B' hB' => hX B' _ hB'⟩
      simpa [World.cell?, hat] using hu
    · rename_i hd
      obtain ⟨B', hB', hblk, hf⟩ := h.h.blk id' b' hb2
      have hne : ¬ B' = B := fun e => by subst e; rw [hB] at hB'; injection hB' with e; exact hd e.symm
      obtain ⟨us', e', hh, hrest⟩ := hblk
      refine ⟨B', hB', BlkRep.keep ⟨us', e', hh, hrest⟩ k hne, fun off hoff u v hu hv => ?_⟩
      rw [cell_keep (setRow_other w B B' _ hne)] at hu
      exact OwnAV.keep (hf off hoff u v hu hv) k fun B'' hB'' => hX B'' _ hB''
  · rintro B' rfl
    exact h.fr.role B' (by rw [hB]; simp)
  · rintro B' hlt rfl _
    rcases h.fr.role B' (by rw [hB]; simp) with hx | hx
    · omega
    · exact hx

theorem own_nil (p : Pl) (v : AV) : OwnAV g w p (.slice none 0 0) v := by
  cases v <;> first | trivial | exact .inl rfl

/-- what is stored hands its right on -/
theorem Rel.disowned (h : Rel g0 w0 Ex g S a w) (x : Operand) (t : TypeId) (p : Pl) : ∃ g1, Rel g0 w0 Ex g1 (disown S x) a w ∧ Ext g w g1 w ∧ (∀ B id, g1.role B = .h id ↔ g.role B = .h id) ∧ (∀ B d, g1.role B = .l d ↔ g.role B = .l d) ∧
    (ownOf S x = true → OwnAV g1 w p (a.eval x) (Go.Vai.evT P S t x)) := by
  have same : disown S x = S → (ownOf S x = true → OwnAV g w p (a.eval x) (Go.Vai.evT P S t x)) → ∃ g1, Rel g0 w0 Ex g1 (disown S x) a w ∧ Ext g w g1 w ∧ (∀ B id, g1.role B = .h id ↔ g.role B = .h id) ∧ (∀ B d, g1.role B = .l d ↔ g.role B = .l d) ∧
      (ownOf S x = true → OwnAV g1 w p (a.eval x) (Go.Vai.evT P S t x)) := fun e ho => ⟨g, by rw [e]; exact h, Ext.refl _ _, fun _ _ => Iff.rfl, fun _ _ => Iff.rfl, ho⟩
  cases x with
  | const c =>
    refine same rfl fun ho => ?_
    simp only [ownOf] at ho
    split at ho
    · exact own_nil _ _
    · cases ho
  | global n => exact same rfl fun ho => by cases ho
  | func f => exact same rfl fun ho => by cases ho
  | tmp ts =>
    cases hs : S.slot ts with
    | und => exact same (by simp [disown, hs]) fun ho => by simp [ownOf, hs] at ho
    | lp d off => exact same (by simp [disown, hs]) fun ho => by simp [ownOf, hs] at ho
    | mp d => exact same (by simp [disown, hs]) fun ho => by simp [ownOf, hs] at ho
    | val v f =>
      cases f with
      | own =>
        have e : disown S (.tmp ts) = S.put ts (.val v .no) := by simp [disown, hs]
        rw [e]
        obtain ⟨hrep, hown⟩ := h.slotv hs
        have hlt : ts < S.sl.length := nthS_lt (by show S.slot ts ≠ _; rw [hs]; simp)
        have h1 := h.reflag hs (f' := .no) trivial (by simp) (by simp)
        have hnc : NoClaim (S.put ts (.val v .no)) (.s ts) := by
          intro v' hv'
          rw [slot_put, if_pos ⟨rfl, hlt⟩] at hv'
          injection hv' with _ e
          cases e
        obtain ⟨g1, h2, h3, h4, h5, h6, _⟩ := h1.retag hnc hown p
        refine ⟨g1, h2, ⟨fun B id hB => (h4 B id).2 hB, fun B => by rw [h6]; exact Nat.le_refl _, fun _ _ _ => rfl⟩, h4, h5, fun _ => ?_⟩
        have : Go.Vai.evT P S t (.tmp ts) = v := by show (S.slot ts).av = v; rw [hs]; rfl
        rw [this]
        exact h3
      | _ => exact same (by simp [disown, hs]) fun ho => by simp [ownOf, hs] at ho

theorem patchV_get_out {us new : List Value} {off i : Nat} (h : off + new.length ≤ us.length) (hi : ¬ (off ≤ i ∧ i < off + new.length)) : (patchV us off new)[i]? = us[i]? := by
  unfold patchV
  by_cases h1 : i < off
  · rw [List.getElem?_append_left (by rw [List.length_take]; omega), List.getElem?_take, if_pos h1]
  · rw [List.getElem?_append_right (by rw [List.length_take]; omega), List.length_take, Nat.min_eq_left (by omega), List.getElem?_append_right (by omega), List.getElem?_drop]
    congr 1; omega

theorem patch_get_out {us new : List AV} {off i : Nat} (h : off + new.length ≤ us.length) (hi : ¬ (off ≤ i ∧ i < off + new.length)) : (patch us off new)[i]? = us[i]? := by
  rw [patch_eq _ _ _ (by omega)]
  by_cases h1 : i < off
  · rw [List.getElem?_append_left (by rw [List.length_take]; omega), List.getElem?_take, if_pos h1]
  · rw [List.getElem?_append_right (by rw [List.length_take]; omega), List.length_take, Nat.min_eq_left (by omega), List.getElem?_append_right (by omega), List.getElem?_drop]
    congr 1; omega

theorem patchV_get_one {us : List Value} {off : Nat} {u : Value} (h : off + 1 ≤ us.length) : (patchV us off [u])[off]? = some u := by
  unfold patchV
  rw [List.getElem?_append_right (by rw [List.length_take]; omega), List.length_take, Nat.min_eq_left (by omega)]
  simp
theorem patch_get_one {us : List AV} {off : Nat} {u : AV} (h : off + 1 ≤ us.length) : (patch us off [u])[off]? = some u := by
  rw [patch_eq _ _ _ (by omega)]
  rw [List.getElem?_append_right (by rw [List.length_take]; omega), List.length_take, Nat.min_eq_left (by omega)]
  simp

theorem run_store_row {t : TypeId} {B off : Nat} {us nus : List Value} {e : TypeId} {u : Value} (hz : tSize P t ≠ 0) (hheap : w.heap[B]? = some (.cells us.toArray e (0, 0))) (hu : u.cells = nus.toArray) (hn : nus.length = tSize P t) (h1 : ∀ x ∈ nus, x.oneCell' = true)
    (hle : off + nus.length ≤ us.length) : (storeVar t ⟨B, off, none⟩ u).run P w = .ok () (w.setRow B (patchV us off nus).toArray) := by
  have hst := run_storeCells_at P B off e nus 0 us.toArray w hheap (by simpa using hle) h1
  have hs : u.cells.size = tSize P t := by rw [hu, List.size_toArray, hn]
  simp only [storeVar, Sem.run_bind, run_sizeOf_pos hz, Result.andThen_ok, ne_eq, hu]
  simp only [Nat.add_zero] at hst
  simp only [List.append_assoc] at hst
  unfold patchV
  simpa [hn] using hst

theorem opStore_step {t : TypeId} {ad x : Operand} {k : St → Option R} (ho : o.op = .store t ad x) (hod : o.dst = none) (h : opStore P t ad x S k = some r) (hg : Rel g0 w0 Ex g S a w) :
    StepTo P o a w g0 w0 Ex k r := by
  unfold opStore at h
  split at h
  · cases h
  · rename_i hz0
    have hz : tSize P t ≠ 0 := fun e => by rw [e] at hz0; cases hz0
    obtain ⟨cs, nus, h2, hcells, hnr, hn1, hcs, hnu, hshape⟩ := cells?_sound (hg.evT (P := P) t x) h
    obtain ⟨h3, h4⟩ := br_left h2
    clear h h2
    have hlen := beq_true h3
    have hnlen : nus.length = tSize P t := by rw [hnr.1, hlen]
    split at h4
    · rename_i ta
      have fin : ∀ (B off : Nat) (us : List Value) (e : TypeId) (S' : St), a.eval (.tmp ta) = .pointer (some ⟨B, off, none⟩) → w.heap[B]? = some (.cells us.toArray e (0, 0)) → off + nus.length ≤ us.length →
          Good g0 w0 Ex S' a (w.setRow B (patchV us off nus).toArray) → k S' = some r → StepTo P o a w g0 w0 Ex k r := by
        intro B off us e S' hev hheap hle hgood hk
        refine ⟨.skip, undef, w.setRow B (patchV us off nus).toArray, S', ?_, .inr ⟨rfl, rfl⟩, ?_, hk⟩
        · simp only [execOp, ho, Instr.storeAt, hev, Instr.sureAddr, Sem.run_bind, Sem.run_pure, Result.andThen_ok, run_store_row hz hheap hcells hnlen hn1 hle]
        · rw [hod]; exact hgood
      have claims : ∀ (g1 : G) (p : Nat → Pl) (off : Nat) (us : List Value) (cells : List AV) (free : List Nat), off + cs.length ≤ cells.length → cells.length ≤ us.length →
          (∀ i ∈ free, ∀ u v, us[i]? = some u → cells[i]? = some v → OwnAV g1 w (p i) u v) → (ownOf S x = true → OwnAV g1 w (p off) (a.eval x) (evT P S t x)) →
          ∀ i ∈ newFree off cs.length (ownOf S x && isVs (evT P S t x)) free, ∀ u v, (patchV us off nus)[i]? = some u → (patch cells off cs)[i]? = some v → OwnAV g1 w (p i) u v := by
        intro g1 p off us cells free hle hul hold hnew i hi u v hu hv
        have hle2 : off + nus.length ≤ us.length := by rw [hnr.1]; omega
        have out : i ∈ cutN off (off + cs.length) free → OwnAV g1 w (p i) u v := by
          intro hi
          obtain ⟨hm, hn⟩ := mem_cutN.1 hi
          rw [patchV_get_out hle2 (by rw [hnr.1]; exact hn)] at hu
          rw [patch_get_out hle hn] at hv
          exact hold i hm u v hu hv
        unfold newFree at hi
        cases hb : (ownOf S x && isVs (evT P S t x)) with
        | false => rw [hb] at hi; exact out hi
        | true =>
          rw [hb] at hi
          rcases mem_insN.1 hi with rfl | hi
          · rw [Bool.and_eq_true] at hb
            rcases hshape with ⟨l, hl⟩ | ⟨hs1, hs2⟩
            · rw [hl] at hb
              cases hb.2
            · subst hs1 hs2
              rw [patchV_get_one hle2] at hu
              rw [patch_get_one hle] at hv
              injection hu with hu
              injection hv with hv
              subst hu hv
              exact hnew hb.1
          · exact out hi
      split at h4
      · rename_i d off hs
        obtain ⟨b, hb, h5⟩ := bind_some' h4
        obtain ⟨h6, h7⟩ := br_left h5
        have hle := ble_true h6
        have h8 := hg.sl ta
        rw [hs] at h8
        obtain ⟨B, hB, hev⟩ := h8
        obtain ⟨g1, hr1, hE, hh, hl, hown⟩ := hg.disowned (P := P) x t (.l d off)
        have hL : (disown S x).L = S.L := by unfold disown; split <;> (try split) <;> rfl
        obtain ⟨B', hB', ⟨us, e, hheap, hone, hrl⟩, hfree⟩ := hr1.l d b (by rw [hL]; exact hb)
        obtain rfl := hr1.inv.injl B B' d ((hl _ _).2 hB) hB'
        have hul := hrl.1
        refine fin B off us e _ hev hheap (by rw [hnr.1]; omega) ⟨g1, ?_⟩ h7
        have := hr1.writeL (d := d) (B := B) (b := b) (us := us) (nus := patchV us off nus) (e := e) (ncells := patch b.cells off cs) (nfree := newFree off cs.length (ownOf S x && isVs (evT P S t x)) b.free) (by rw [hL]; exact hb) ((hl _ _).2 hB) hheap
          (hrl.patch (hnr.ext hE) hle) (hone.patch hul hn1 hnr.1 hle) (claims g1 (fun i => .l d i) off us b.cells b.free hle hul (fun i hi u v hu hv => hfree i hi u v (by simpa [World.cell?, hheap] using hu) hv) hown)
        rw [hL] at this
        exact this
      · rename_i v f hs
        have hrep := (hg.slotv hs).1
        split at h4
        · rename_i id off
          obtain ⟨b, hb, h5⟩ := bind_some' h4
          obtain ⟨h6, h7⟩ := br_left h5
          have hle := ble_true h6
          obtain ⟨B, hB, hev⟩ := rep_ptr hrep
          obtain ⟨g1, hr1, hE, hh, hl, hown⟩ := hg.disowned (P := P) x t (.h id off)
          have hH : (disown S x).H = S.H := by unfold disown; split <;> (try split) <;> rfl
          obtain ⟨B', hB', ⟨us, e, hheap, hone, hrl⟩, hfree⟩ := hr1.h.blk id b (by rw [hH]; exact hb)
          obtain rfl := hr1.inv.injh B B' id ((hh _ _).2 hB) hB'
          have hul := hrl.1
          refine fin B off us e _ hev hheap (by rw [hnr.1]; omega) ⟨g1, ?_⟩ h7
          have := hr1.writeH (id := id) (B := B) (b := b) (us := us) (nus := patchV us off nus) (e := e) (ncells := patch b.cells off cs) (nfree := newFree off cs.length (ownOf S x && isVs (evT P S t x)) b.free) (by rw [hH]; exact hb) ((hh _ _).2 hB) hheap
            (hrl.patch (hnr.ext hE) hle) (hone.patch hul hn1 hnr.1 hle) (claims g1 (fun i => .h id i) off us b.cells b.free hle hul (fun i hi u v hu hv => hfree i hi u v (by simpa [World.cell?, hheap] using hu) hv) hown)
          rw [hH] at this
          exact this
        · cases h4
      · cases h4
    · cases h4

end
end Go.Vai
