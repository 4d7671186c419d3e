/- Stores. -/
import Derived.MapKept
import Derived.Carry
import Derived.Test.YtfdklpkfpmkgeaaGreatDoorM2
set_option linter.unusedSimpArgs false
set_option linter.unusedVariables false
set_option linter.unusedSectionVars false
set_option linter.unnecessarySimpa false
section
namespace Go.Vai
theorem mem_insN {n m : Nat} : ∀ {l : List Nat},m ∈ insN n l ↔ m = n ∨ m ∈ l
 | []=>by simp [insN]
 | x :: l=>by
  have ih := mem_insN (n := n) (m := m) (l := l)
  unfold insN
  cases Nat.blt n x with
  | true=>simp
  | false =>
   cases hb : Nat.beq n x with
   | true=>obtain rfl := beq_true hb; simp
   | false =>
    simp only [List.mem_cons,ih]
    constructor
    ·rintro (h | h | h) <;> simp [h]
    ·rintro (h | h | h) <;> simp [h]
theorem mem_cutN {a b m : Nat} : ∀ {l : List Nat},m ∈ cutN a b l ↔ m ∈ l∧¬ (a ≤ m∧m < b)
 | []=>by simp [cutN]
 | x :: l=>by
  have ih := mem_cutN (a := a) (b := b) (m := m) (l := l)
  unfold cutN
  have hble : ∀ p q : Nat,Nat.ble p q = false→¬ p ≤ q := fun p q h h2=>by rw [Nat.ble_eq_true_of_le h2] at h; cases h
  cases h1 : Nat.ble a x with
  | true =>
   cases h2 : Nat.blt x b with
   | true =>
    have e1 := ble_true h1
    have e2 : x < b := Nat.le_of_ble_eq_true h2
    simp only [ih,List.mem_cons]
    constructor
    ·rintro ⟨h,h'⟩; exact ⟨.inr h,h'⟩
    ·rintro ⟨rfl | h,h'⟩
     ·exact absurd ⟨e1,e2⟩ h'
     ·exact ⟨h,h'⟩
   | false =>
    have e2 : ¬ x < b := fun h=>hble _ _ h2 h
    simp only [List.mem_cons,ih]
    constructor
    ·rintro (rfl | ⟨h,h'⟩)
     ·exact ⟨.inl rfl,fun h=>e2 h.2⟩
     ·exact ⟨.inr h,h'⟩
    ·rintro ⟨rfl | h,h'⟩
     ·exact .inl rfl
     ·exact .inr ⟨h,h'⟩
  | false =>
   have e1 := hble _ _ h1
   simp only [List.mem_cons,ih]
   constructor
   ·rintro (rfl | ⟨h,h'⟩)
    ·exact ⟨.inl rfl,fun h=>e1 h.1⟩
    ·exact ⟨.inr h,h'⟩
   ·rintro ⟨rfl | h,h'⟩
    ·exact .inl rfl
    ·exact .inr ⟨h,h'⟩
section
variable {X : Nat→Prop} {g0 : G} {w0 : World} {Ex : Nat→Prop} {g g' : G} {S : St} {a : Act} {w w' : World} {P : Program} {R : Type} {r : R} {o : Oper}
theorem keep_row {B : Nat} {us : List Value} {e : TypeId} (hheap : w.heap[B]? = some (.cells us.toArray e (0,0))) (hp : g.pub B = 0) (nus : List Value) : Keep (fun b=>b = B) g w g (w.setRow B nus.toArray) :=
 ⟨⟨fun _ _ h=>h,fun _=>Nat.le_refl _,fun B' o ho=>by
  have hne : B' ≠ B := fun e=>by subst e; omega
  exact cell_keep (setRow_other w B B' _ hne)⟩,rfl,rfl,rfl,by simp,fun B' _ hne=>⟨setRow_other w B B' _ hne,rfl,rfl⟩⟩
theorem inv_row (h : Inv g w) {B : Nat} {nus : Array Value} : Inv g (w.setRow B nus) := ⟨fun B' hB=>h.new B' (by simpa using hB),h.ph,h.pl,h.injh,h.injl⟩
theorem slots_keep (h : Rel g0 w0 Ex g S a w) (k : Keep X g w g w') (hX : ∀ B p,g.role B = .c p→¬ X B) (S' : St) (hs : S'.sl = S.sl) (t : Nat) : SlotRel g S'.unlent a w' t (S'.unlent.slot t):=by
 have e : S'.unlent.slot t = (S.slot t).unlent := by rw [slot_unlent]; show (nthS S'.sl t).unlent = _; rw [hs]; rfl
 rw [e]
 have h1 := (h.sl t).c
 refine SlotC.rel ?_ _
 cases hst : S.slot t with
 | und=>trivial
 | lp d off=>rw [hst] at h1; exact h1
 | mp d=>rw [hst] at h1; exact h1
 | val v f =>
  rw [hst] at h1
  refine ⟨h1.1.ext k.ext,?_⟩
  cases f with
  | own=>exact OwnAV.keep h1.2 k fun B hB=>hX B _ hB
  | comps cs=>exact fun i hi us vs ui vi e1 e2 e3 e4=>OwnAV.keep (h1.2 i hi us vs ui vi e1 e2 e3 e4) k fun B hB=>hX B _ hB
  | _=>trivial
theorem Rel.writeL (h : Rel g0 w0 Ex g S a w) {d B : Nat} {b : Blk} {us nus : List Value} {e : TypeId} {ncells : List AV} {nfree : List Nat} (hb : getL S.L d = some b) (hB : g.role B = .l d) (hheap : w.heap[B]? = some (.cells us.toArray e (0,0)))
  (hn : RepP g w nus ncells) (h1 : OneP nus ncells.length) (hfree : ∀ off ∈ nfree,∀ u v,nus[off]? = some u→ncells[off]? = some v→OwnAV g w (.l d off) u v) :
  Rel g0 w0 Ex g ({ S with L := setL S.L d ⟨ncells,nfree⟩ } : St).unlent a (w.setRow B nus.toArray):=by
 have k := keep_row hheap (h.inv.pl B d hB) nus
 have hX : ∀ B' p,g.role B' = .c p→¬ B' = B := fun B' p hp e=>by subst e; rw [hB] at hp; cases hp
 have hat := setRow_heap w B us.toArray nus.toArray e (0,0) hheap
 refine ⟨inv_row h.inv,h.h.keep k (fun B' id b' hB' _ e=>by subst e; rw [hB] at hB'; cases hB') (fun B' id off hB'=>hX B' _ hB') h.h.lt,fun d' b' hb'=>?_,h.m.keep k (h.m.nocells h.inv hheap),by show (S.sl.map Slot.unlent).length = _; rw [List.length_map]; exact h.len,fun t=>slots_keep h k hX { S with L := setL S.L d ⟨ncells,nfree⟩ } rfl t,h.fr.keep k ?_ ?_,h.nodef⟩
 ·have hb2 : getL (setL S.L d ⟨ncells,nfree⟩) d' = some b' := hb'
  rw [getL_setL] at hb2
  split at hb2
  ·rename_i hd
   subst hd
   injection hb2 with hb2
   subst hb2
   refine ⟨B,hB,⟨nus,e,hat,h1,hn.ext k.ext⟩,fun off hoff u v hu hv=>OwnAV.keep (hfree off hoff u v ?_ hv) k fun B' hB'=>hX B' _ hB'⟩
   simpa [World.cell?,hat] using hu
  ·rename_i hd
   obtain ⟨B',hB',hblk,hf⟩ := h.l d' b' hb2
   have hne : ¬ B' = B := fun e=>by subst e; rw [hB] at hB'; injection hB' with e; exact hd e.symm
   obtain ⟨us',e',hh,hrest⟩ := hblk
   refine ⟨B',hB',BlkRep.keep ⟨us',e',hh,hrest⟩ k hne,fun off hoff u v hu hv=>?_⟩
   rw [cell_keep (setRow_other w B B' _ hne)] at hu
   exact OwnAV.keep (hf off hoff u v hu hv) k fun B'' hB''=>hX B'' _ hB''
 ·rintro B' rfl
  exact h.fr.role B' (by rw [hB]; simp)
 ·rintro B' hlt rfl _
  rcases h.fr.role B' (by rw [hB]; simp) with hx | hx
  ·omega
  ·exact hx
theorem Rel.writeH (h : Rel g0 w0 Ex g S a w) {id B : Nat} {b : Blk} {us nus : List Value} {e : TypeId} {ncells : List AV} {nfree : List Nat} (hb : S.H id = some b) (hB : g.role B = .h id) (hheap : w.heap[B]? = some (.cells us.toArray e (0,0)))
  (hn : RepP g w nus ncells) (h1 : OneP nus ncells.length) (hfree : ∀ off ∈ nfree,∀ u v,nus[off]? = some u→ncells[off]? = some v→OwnAV g w (.h id off) u v) :
  Rel g0 w0 Ex g ({ S with H := S.H.set id ⟨ncells,nfree⟩ } : St).unlent a (w.setRow B nus.toArray):=by
 have k := keep_row hheap (h.inv.ph B id hB) nus
 have hX : ∀ B' p,g.role B' = .c p→¬ B' = B := fun B' p hp e=>by subst e; rw [hB] at hp; cases hp
 have hat := setRow_heap w B us.toArray nus.toArray e (0,0) hheap
 refine ⟨inv_row h.inv,⟨fun id' b' hb'=>?_,fun B' id'' hB'=>Hp_set_ne (h.h.lt B' id'' hB')⟩,h.l.keep k (fun B' d b' hB' _ e=>by subst e; rw [hB] at hB'; cases hB') (fun B' d off hB'=>hX B' _ hB'),h.m.keep k (h.m.nocells h.inv hheap),by show (S.sl.map Slot.unlent).length = _; rw [List.length_map]; exact h.len,fun t=>slots_keep h k hX { S with H := S.H.set id ⟨ncells,nfree⟩ } rfl t,h.fr.keep k ?_ ?_,h.nodef⟩
 ·have hb2 : S.H.set id ⟨ncells,nfree⟩ id' = some b' := hb'
  rw [Hp_set] at hb2
  split at hb2
  ·rename_i hd
   subst hd
   injection hb2 with hb2
   subst hb2
   refine ⟨B,hB,⟨nus,e,hat,h1,hn.ext k.ext⟩,fun off hoff u v hu hv=>OwnAV.keep (hfree off hoff u v ?_ hv) k fun B' hB'=>hX B' _ hB'⟩
   simpa [World.cell?,hat] using hu
  ·rename_i hd
   obtain ⟨B',hB',hblk,hf⟩ := h.h.blk id' b' hb2
   have hne : ¬ B' = B := fun e=>by subst e; rw [hB] at hB'; injection hB' with e; exact hd e.symm
   obtain ⟨us',e',hh,hrest⟩ := hblk
   refine ⟨B',hB',BlkRep.keep ⟨us',e',hh,hrest⟩ k hne,fun off hoff u v hu hv=>?_⟩
   rw [cell_keep (setRow_other w B B' _ hne)] at hu
   exact OwnAV.keep (hf off hoff u v hu hv) k fun B'' hB''=>hX B'' _ hB''
 ·rintro B' rfl
  exact h.fr.role B' (by rw [hB]; simp)
 ·rintro B' hlt rfl _
  rcases h.fr.role B' (by rw [hB]; simp) with hx | hx
  ·omega
  ·exact hx
theorem own_nil (p : Pl) (v : AV) : OwnAV g w p (.slice none 0 0) v:=by
 cases v <;> first | trivial | exact .inl rfl
theorem Rel.disowned (h : Rel g0 w0 Ex g S a w) (x : Operand) (t : TypeId) (p : Pl) : ∃ g1,Rel g0 w0 Ex g1 (disown S x) a w∧Ext g w g1 w∧(∀ B id,g1.role B = .h id ↔ g.role B = .h id)∧(∀ B d,g1.role B = .l d ↔ g.role B = .l d) ∧
  (ownOf S x = true→OwnAV g1 w p (a.eval x) (Go.Vai.evT P S t x)):=by
 have same : disown S x = S→(ownOf S x = true→OwnAV g w p (a.eval x) (Go.Vai.evT P S t x))→∃ g1,Rel g0 w0 Ex g1 (disown S x) a w∧Ext g w g1 w∧(∀ B id,g1.role B = .h id ↔ g.role B = .h id)∧(∀ B d,g1.role B = .l d ↔ g.role B = .l d) ∧
   (ownOf S x = true→OwnAV g1 w p (a.eval x) (Go.Vai.evT P S t x)) := fun e ho=>⟨g,by rw [e]; exact h,Ext.refl _ _,fun _ _=>Iff.rfl,fun _ _=>Iff.rfl,ho⟩
 cases x with
 | const c =>
  refine same rfl fun ho=>?_
  simp only [ownOf] at ho
  split at ho
  ·exact own_nil _ _
  ·cases ho
 | global n=>exact same rfl fun ho=>by cases ho
 | func f=>exact same rfl fun ho=>by cases ho
 | tmp ts =>
  cases hs : S.slot ts with
  | und=>exact same (by simp [disown,hs]) fun ho=>by simp [ownOf,hs] at ho
  | lp d off=>exact same (by simp [disown,hs]) fun ho=>by simp [ownOf,hs] at ho
  | mp d=>exact same (by simp [disown,hs]) fun ho=>by simp [ownOf,hs] at ho
  | val v f =>
   cases f with
   | own =>
    have e : disown S (.tmp ts) = S.put ts (.val v .no) := by simp [disown,hs]
    rw [e]
    obtain ⟨hrep,hown⟩ := h.slotv hs
    have hlt : ts < S.sl.length := nthS_lt (by show S.slot ts ≠ _; rw [hs]; simp)
    have h1 := h.reflag hs (f' := .no) trivial (by simp) (by simp)
    have hnc : NoClaim (S.put ts (.val v .no)) (.s ts):=by
     intro v' hv'
     rw [slot_put,if_pos ⟨rfl,hlt⟩] at hv'
     injection hv' with _ e
     cases e
    obtain ⟨g1,h2,h3,h4,h5,h6,_⟩ := h1.retag hnc hown p
    refine ⟨g1,h2,⟨fun B id hB=>(h4 B id).2 hB,fun B=>by rw [h6]; exact Nat.le_refl _,fun _ _ _=>rfl⟩,h4,h5,fun _=>?_⟩
    have : Go.Vai.evT P S t (.tmp ts) = v := by show (S.slot ts).av = v; rw [hs]; rfl
    rw [this]
    exact h3
   | _=>exact same (by simp [disown,hs]) fun ho=>by simp [ownOf,hs] at ho
theorem patchV_get_out {us new : List Value} {off i : Nat} (h : off + new.length ≤ us.length) (hi : ¬ (off ≤ i∧i < off + new.length)) : (patchV us off new)[i]? = us[i]?:=by
 unfold patchV
 by_cases h1 : i < off
 ·rw [List.getElem?_append_left (by rw [List.length_take]; omega),List.getElem?_take,if_pos h1]
 ·rw [List.getElem?_append_right (by rw [List.length_take]; omega),List.length_take,Nat.min_eq_left (by omega),List.getElem?_append_right (by omega),List.getElem?_drop]
  congr 1; omega
theorem patch_get_out {us new : List AV} {off i : Nat} (h : off + new.length ≤ us.length) (hi : ¬ (off ≤ i∧i < off + new.length)) : (patch us off new)[i]? = us[i]?:=by
 rw [patch_eq _ _ _ (by omega)]
 by_cases h1 : i < off
 ·rw [List.getElem?_append_left (by rw [List.length_take]; omega),List.getElem?_take,if_pos h1]
 ·rw [List.getElem?_append_right (by rw [List.length_take]; omega),List.length_take,Nat.min_eq_left (by omega),List.getElem?_append_right (by omega),List.getElem?_drop]
  congr 1; omega
theorem patchV_get_one {us : List Value} {off : Nat} {u : Value} (h : off + 1 ≤ us.length) : (patchV us off [u])[off]? = some u:=by
 unfold patchV
 rw [List.getElem?_append_right (by rw [List.length_take]; omega),List.length_take,Nat.min_eq_left (by omega)]
 simp
theorem patch_get_one {us : List AV} {off : Nat} {u : AV} (h : off + 1 ≤ us.length) : (patch us off [u])[off]? = some u:=by
 rw [patch_eq _ _ _ (by omega)]
 rw [List.getElem?_append_right (by rw [List.length_take]; omega),List.length_take,Nat.min_eq_left (by omega)]
 simp
theorem run_store_row {t : TypeId} {B off : Nat} {us nus : List Value} {e : TypeId} {u : Value} (hz : tSize P t ≠ 0) (hheap : w.heap[B]? = some (.cells us.toArray e (0,0))) (hu : u.cells = nus.toArray) (hn : nus.length = tSize P t) (h1 : ∀ x ∈ nus,x.oneCell' = true)
  (hle : off + nus.length ≤ us.length) : (storeVar t ⟨B,off,none⟩ u).run P w = .ok () (w.setRow B (patchV us off nus).toArray):=by
 have hst := run_storeCells_at P B off e nus 0 us.toArray w hheap (by simpa using hle) h1
 have hs : u.cells.size = tSize P t := by rw [hu,List.size_toArray,hn]
 simp only [storeVar,Sem.run_bind,run_sizeOf_pos hz,Result.andThen_ok,ne_eq,hu]
 simp only [Nat.add_zero] at hst
 simp only [List.append_assoc] at hst
 unfold patchV
 simpa [hn] using hst
theorem opStore_step {t : TypeId} {ad x : Operand} {k : St→Option R} (ho : o.op = .store t ad x) (hod : o.dst = none) (h : opStore P t ad x S k = some r) (hg : Rel g0 w0 Ex g S a w) :
  StepTo P o a w g0 w0 Ex k r:=by
 unfold opStore at h
 split at h
 ·cases h
 ·rename_i hz0
  have hz : tSize P t ≠ 0 := fun e=>by rw [e] at hz0; cases hz0
  obtain ⟨cs,nus,h2,hcells,hnr,hn1,hcs,hnu,hshape⟩ := cells?_sound (hg.evT (P := P) t x) h
  obtain ⟨h3,h4⟩ := br_left h2
  clear h h2
  have hlen := beq_true h3
  have hnlen : nus.length = tSize P t := by rw [hnr.1,hlen]
  split at h4
  ·rename_i ta
   have fin : ∀ (B off : Nat) (us : List Value) (e : TypeId) (S' : St),a.eval (.tmp ta) = .pointer (some ⟨B,off,none⟩)→w.heap[B]? = some (.cells us.toArray e (0,0))→off + nus.length ≤ us.length →
     Good g0 w0 Ex S' a (w.setRow B (patchV us off nus).toArray)→k S' = some r→StepTo P o a w g0 w0 Ex k r:=by
    intro B off us e S' hev hheap hle hgood hk
    refine ⟨.skip,undef,w.setRow B (patchV us off nus).toArray,S',?_,.inr ⟨rfl,rfl⟩,?_,hk⟩
    ·simp only [execOp,ho,Instr.storeAt,hev,Instr.sureAddr,Sem.run_bind,Sem.run_pure,Result.andThen_ok,run_store_row hz hheap hcells hnlen hn1 hle]
    ·rw [hod]; exact hgood
   have claims : ∀ (g1 : G) (p : Nat→Pl) (off : Nat) (us : List Value) (cells : List AV) (free : List Nat),off + cs.length ≤ cells.length→cells.length ≤ us.length →
     (∀ i ∈ free,∀ u v,us[i]? = some u→cells[i]? = some v→OwnAV g1 w (p i) u v)→(ownOf S x = true→OwnAV g1 w (p off) (a.eval x) (evT P S t x)) →
     ∀ i ∈ newFree off cs.length (ownOf S x && isVs (evT P S t x)) free,∀ u v,(patchV us off nus)[i]? = some u→(patch cells off cs)[i]? = some v→OwnAV g1 w (p i) u v:=by
    intro g1 p off us cells free hle hul hold hnew i hi u v hu hv
    have hle2 : off + nus.length ≤ us.length := by rw [hnr.1]; omega
    have out : i ∈ cutN off (off + cs.length) free→OwnAV g1 w (p i) u v:=by
     intro hi
     obtain ⟨hm,hn⟩ := mem_cutN.1 hi
     rw [patchV_get_out hle2 (by rw [hnr.1]; exact hn)] at hu
     rw [patch_get_out hle hn] at hv
     exact hold i hm u v hu hv
    unfold newFree at hi
    cases hb : (ownOf S x && isVs (evT P S t x)) with
    | false=>rw [hb] at hi; exact out hi
    | true =>
     rw [hb] at hi
     rcases mem_insN.1 hi with rfl | hi
     ·rw [Bool.and_eq_true] at hb
      rcases hshape with ⟨l,hl⟩ | ⟨hs1,hs2⟩
      ·rw [hl] at hb
       cases hb.2
      ·subst hs1 hs2
       rw [patchV_get_one hle2] at hu
       rw [patch_get_one hle] at hv
       injection hu with hu
       injection hv with hv
       subst hu hv
       exact hnew hb.1
     ·exact out hi
   split at h4
   ·rename_i d off hs
    obtain ⟨b,hb,h5⟩ := bind_some' h4
    obtain ⟨h6,h7⟩ := br_left h5
    have hle := ble_true h6
    have h8 := hg.sl ta
    rw [hs] at h8
    obtain ⟨B,hB,hev⟩ := h8
    obtain ⟨g1,hr1,hE,hh,hl,hown⟩ := hg.disowned (P := P) x t (.l d off)
    have hL : (disown S x).L = S.L := by unfold disown; split <;> (try split) <;> rfl
    obtain ⟨B',hB',⟨us,e,hheap,hone,hrl⟩,hfree⟩ := hr1.l d b (by rw [hL]; exact hb)
    obtain rfl := hr1.inv.injl B B' d ((hl _ _).2 hB) hB'
    have hul := hrl.1
    refine fin B off us e _ hev hheap (by rw [hnr.1]; omega) ⟨g1,?_⟩ h7
    have := hr1.writeL (d := d) (B := B) (b := b) (us := us) (nus := patchV us off nus) (e := e) (ncells := patch b.cells off cs) (nfree := newFree off cs.length (ownOf S x && isVs (evT P S t x)) b.free) (by rw [hL]; exact hb) ((hl _ _).2 hB) hheap
     (hrl.patch (hnr.ext hE) hle) (hone.patch hul hn1 hnr.1 hle) (claims g1 (fun i=>.l d i) off us b.cells b.free hle hul (fun i hi u v hu hv=>hfree i hi u v (by simpa [World.cell?,hheap] using hu) hv) hown)
    rw [hL] at this
    exact this
   ·rename_i v f hs
    have hrep := (hg.slotv hs).1
    split at h4
    ·rename_i id off
     obtain ⟨b,hb,h5⟩ := bind_some' h4
     obtain ⟨h6,h7⟩ := br_left h5
     have hle := ble_true h6
     obtain ⟨B,hB,hev⟩ := rep_ptr hrep
     obtain ⟨g1,hr1,hE,hh,hl,hown⟩ := hg.disowned (P := P) x t (.h id off)
     have hH : (disown S x).H = S.H := by unfold disown; split <;> (try split) <;> rfl
     obtain ⟨B',hB',⟨us,e,hheap,hone,hrl⟩,hfree⟩ := hr1.h.blk id b (by rw [hH]; exact hb)
     obtain rfl := hr1.inv.injh B B' id ((hh _ _).2 hB) hB'
     have hul := hrl.1
     refine fin B off us e _ hev hheap (by rw [hnr.1]; omega) ⟨g1,?_⟩ h7
     have := hr1.writeH (id := id) (B := B) (b := b) (us := us) (nus := patchV us off nus) (e := e) (ncells := patch b.cells off cs) (nfree := newFree off cs.length (ownOf S x && isVs (evT P S t x)) b.free) (by rw [hH]; exact hb) ((hh _ _).2 hB) hheap
      (hrl.patch (hnr.ext hE) hle) (hone.patch hul hn1 hnr.1 hle) (claims g1 (fun i=>.h id i) off us b.cells b.free hle hul (fun i hi u v hu hv=>hfree i hi u v (by simpa [World.cell?,hheap] using hu) hv) hown)
     rw [hH] at this
     exact this
    ·cases h4
   ·cases h4
  ·cases h4
end
end Go.Vai
end
section
namespace Go.Vai
section
variable {X : Nat→Prop} {g0 : G} {w0 : World} {Ex : Nat→Prop} {g g' : G} {S : St} {a : Act} {w w' : World} {P : Program} {R : Type} {r : R} {o : Oper}
theorem Rel.keepX (h : Rel g0 w0 Ex g S a w) (k : Keep X g w g' w') (hi : Inv g' w') (hX : ∀ B,X B→g.role B = .c (.r 0)) (hrole : ∀ B,B < w.heap.size→g'.role B = g.role B) (hlt : ∀ B id,g'.role B = .h id→S.H id ≠ none) :
  Rel g0 w0 Ex g' S.unlent a w':=by
 have nX : ∀ B p,g.role B = .c p→p ≠ .r 0→¬ X B := fun B p hp hne hx=>by rw [hX B hx] at hp; injection hp with e; exact hne e.symm
 refine ⟨hi,h.h.keep k (fun B id b hB _ hx=>by rw [hX B hx] at hB; cases hB) (fun B id off hB=>nX B _ hB (by simp)) hlt,h.l.keep k (fun B id b hB _ hx=>by rw [hX B hx] at hB; cases hB) (fun B id off hB=>nX B _ hB (by simp)),h.m.keep k (fun B d l hB _ hx=>by rw [hX B hx] at hB; cases hB),
  by show (S.sl.map Slot.unlent).length = _; rw [List.length_map]; exact h.len,fun t=>?_,h.fr.keep k (fun B hx=>h.fr.role B (by rw [hX B hx]; simp)) (fun B hB hx _=>?_),h.nodef⟩
 ·rw [slot_unlent]
  refine SlotC.rel ?_ _
  have h1 := (h.sl t).c
  cases hst : S.slot t with
  | und=>trivial
  | lp d off =>
   rw [hst] at h1
   obtain ⟨B,h2,h3⟩ := h1
   refine ⟨B,?_,h3⟩
   have hB : B < w.heap.size:=by
    rcases Nat.lt_or_ge B w.heap.size with hl | hl
    ·exact hl
    ·rw [(h.inv.new B hl).1] at h2; cases h2
   rw [hrole B hB]; exact h2
  | mp d =>
   rw [hst] at h1
   obtain ⟨B,h2,h3⟩ := h1
   refine ⟨B,?_,h3⟩
   have hB : B < w.heap.size:=by
    rcases Nat.lt_or_ge B w.heap.size with hl | hl
    ·exact hl
    ·rw [(h.inv.new B hl).1] at h2; cases h2
   rw [hrole B hB]; exact h2
  | val v f =>
   rw [hst] at h1
   refine ⟨h1.1.ext k.ext,?_⟩
   cases f with
   | own=>exact OwnAV.keep h1.2 k fun B hB=>nX B _ hB (by simp)
   | comps cs=>exact fun i hi us vs ui vi e1 e2 e3 e4=>OwnAV.keep (h1.2 i hi us vs ui vi e1 e2 e3 e4) k fun B hB=>nX B _ hB (by simp)
   | _=>trivial
 ·rcases h.fr.role B (by rw [hX B hx]; simp) with h1 | h1
  ·omega
  ·exact h1
theorem run_append_base {t t2 ty e : TypeId} {i : TypeInfo} {x : Value} {base : Option Addr} {n cap m : Nat} {news : List Value} (ht : P.underlying t = some (.slice e)) (ht2 : (∃ e2,P.underlying t2 = some (.slice e2)) ∨ P.underlying t2 = some .string)
  (hi : P.info? e = some i) (hlen : (Builtin.lenOf x).run P w = .ok m w) (hfc : (Builtin.firstCells i.size m x).run P w = .ok news.toArray w) (hroom : n + m ≤ cap) :
  (Builtin.append_ #[t,t2] ty #[.slice base n cap,x]).run P w = (match base with
   | some a=>(storeCells (a.add (n * i.size)) news).run P w
   | none=>Result.ok () w).andThen fun _ w'=>.ok (.slice base (n + m) cap) w':=by
 rcases ht2 with ⟨e2,ht2⟩ | ht2 <;> cases base <;> simp [Builtin.append_,run_und ht,run_und ht2,sizeOf,typeInfo,hi,hlen,hroom,hfc]
theorem run_append_grow' {t t2 ty e : TypeId} {i : TypeInfo} {z x : Value} {base : Option Addr} {n cap m : Nat} {olds news : List Value} (ht : P.underlying t = some (.slice e)) (ht2 : (∃ e2,P.underlying t2 = some (.slice e2)) ∨ P.underlying t2 = some .string)
  (hi : P.info? e = some i) (hz : i.zero = some z) (hlen : (Builtin.lenOf x).run P w = .ok m w) (hfc : (Builtin.firstCells i.size m x).run P w.drew = .ok news.toArray w.drew)
  (hfo : (Builtin.firstCells i.size n (.slice base n cap)).run P w.drew = .ok olds.toArray w.drew) (hgrow : cap < n + m) (h63 : n + m ≤ 140737488355328) (hb : (n + m) * i.bytes ≤ 140737488355328) :
  (Builtin.append_ #[t,t2] ty #[.slice base n cap,x]).run P w =
   .ok (.slice (some ⟨w.heap.size,0,none⟩) (n + m) (grownCap w (n + m) cap e)) (w.drew.alloc (.cells (olds ++ (news ++ (Builtin.zeroCells z.cells (grownCap w (n + m) cap e - (n + m))).toList)).toArray e)):=by
 have hn : ¬ (n + m ≤ cap) := by omega
 have h63' : ¬ (9223372036854775807 < ((n : Int) + (m : Int))) := by omega
 have hfit := growslice_fits hgrow hb
 have h48' : ¬ (281474976710656 < Builtin.nextslicecap (n + m) cap * i.bytes) := by omega
 rcases ht2 with ⟨e2,ht2⟩ | ht2 <;>
  (simp [Builtin.append_,run_und ht,run_und ht2,sizeOf,typeInfo,zeroValue,hi,hz,hlen,hn,h63',h48',Question.forced,hfc,hfo,newRow,grownCap]; try (congr 2; apply Array.ext'; simp))
theorem append_core {st st2 ty e : TypeId} {ua ub : Value} {z : Nat} {tg : Bool} {l l2 : List AV} {news : List Value} {i : TypeInfo} {zv : Value} (hg : Rel g0 w0 Ex g S a w)
  (ht : P.underlying st = some (.slice e)) (ht2 : (∃ e2,P.underlying st2 = some (.slice e2)) ∨ P.underlying st2 = some .string) (hi : P.info? e = some i) (hzv : i.zero = some zv) (hzc : zv.cells.size = i.size) (_hsz : i.size ≠ 0)
  (hra : Rep g w ua (.vs z tg l)) (hz : z = i.size ∨ l = []) (ho : OwnV g w (.r 0) i.size ua) (hsrc : Src P g w i.size ub l2 news)
  (hb1 : (l.length + l2.length) * i.bytes ≤ 140737488355328) (hb2 : l.length + l2.length ≤ 140737488355328) :
  ∃ u' w' g',(Builtin.append_ #[st,st2] ty #[ua,ub]).run P w = .ok u' w'∧Rel g0 w0 Ex g' S.unlent a w'∧Rep g' w' u' (.vs i.size false (l ++ l2))∧OwnV g' w' (.r 0) i.size u'∧(l2 ≠ []→OwnB g' w' (.r 0) i.size u'):=by
 have hszs : ∀ x ∈ l,x.cells.length = i.size:=by
  rcases hz with rfl | rfl
  ·rcases rep_vs hra with ⟨_,rfl⟩ | ⟨_,_,_,_,_,h,_⟩
   ·simp
   ·exact h
  ·simp
 have hszs2 : ∀ x ∈ l ++ l2,x.cells.length = i.size := fun x hx=>by
  rcases List.mem_append.1 hx with h | h
  ·exact hszs x h
  ·exact hsrc.sizes x h
 have hfc : ∀ w',(∀ B o,B < w.heap.size→w'.cell? ⟨B,o,none⟩ = w.cell? ⟨B,o,none⟩)→(Builtin.firstCells i.size l2.length ub).run P w' = .ok news.toArray w' := fun w' hw=>by
  have h := hsrc.cells l2.length w' (Nat.le_refl _) hw
  rwa [List.take_of_length_le (by rw [hsrc.rep.1,flat_len hsrc.sizes]; exact Nat.le_refl _)] at h
 have hnl : news.length = l2.length * i.size := by rw [hsrc.rep.1,flat_len hsrc.sizes]
 have grow : ∀ (base : Option Addr) (cap : Nat) (olds : List Value),ua = .slice base l.length cap→cap < l.length + l2.length→RepL g w olds (l.flatMap AV.cells)→(∀ u ∈ olds,u.oneCell' = true) →
   (Builtin.firstCells i.size l.length (.slice base l.length cap)).run P w.drew = .ok olds.toArray w.drew →
   ∃ u' w' g',(Builtin.append_ #[st,st2] ty #[ua,ub]).run P w = .ok u' w'∧Rel g0 w0 Ex g' S.unlent a w'∧Rep g' w' u' (.vs i.size false (l ++ l2))∧OwnV g' w' (.r 0) i.size u'∧(l2 ≠ []→OwnB g' w' (.r 0) i.size u'):=by
  intro base cap olds hua hgr holds hone hfo
  subst hua
  have hrun := run_append_grow' (ty := ty) ht ht2 hi hzv (hsrc.len w) (hfc w.drew (fun _ _ _=>rfl)) hfo hgr hb2 hb1
  have hge := grownCap_ge w (l.length + l2.length) cap e
  generalize hcells : olds ++ (news ++ (Builtin.zeroCells zv.cells (grownCap w (l.length + l2.length) cap e - (l.length + l2.length))).toList) = cells at hrun
  have hd := hg.drew
  have hr := hd.newblk (w' := w.drew.alloc (.cells cells.toArray e)) (fun B hB=>heap_alloc_lt w.drew _ hB) (size_alloc' w.drew _) rfl rfl rfl (.c (.r 0)) ((l.length + l2.length) * i.size) (.inr ⟨_,rfl⟩)
  have hk := keep_new (w' := w.drew.alloc (.cells cells.toArray e)) hd.inv (fun B hB=>heap_alloc_lt w.drew _ hB) (by simp) rfl rfl rfl (.c (.r 0)) ((l.length + l2.length) * i.size)
  have hol : olds.length = l.length * i.size := by rw [holds.1,flat_len hszs]
  have hcl : cells.length = grownCap w (l.length + l2.length) cap e * i.size:=by
   rw [← hcells]
   simp only [List.length_append,Array.length_toList,size_zeroCells,hzc,hol,hnl,← Nat.add_mul]
   congr 1; omega
  have hat := heap_alloc_at w.drew (.cells cells.toArray e)
  have hB : OwnB (g.new w.drew.heap.size (.c (.r 0)) ((l.length + l2.length) * i.size)) (w.drew.alloc (.cells cells.toArray e)) (.r 0) i.size (.slice (some ⟨w.heap.size,0,none⟩) (l.length + l2.length) (grownCap w (l.length + l2.length) cap e)) := ⟨w.heap.size,_,_,cells.toArray,e,rfl,by rw [new_role]; exact if_pos rfl,hat,by simpa using hcl,hge,by rw [new_pub]; exact if_pos rfl⟩
  refine ⟨_,_,_,hrun,hr.unlent,?_,hB.v,fun _=>hB⟩
  have hrl := ((holds.append hsrc.rep).ext (⟨fun _ _ h=>h,fun _=>Nat.le_refl _,fun _ _ _=>rfl⟩ : Ext g w g w.drew)).ext hk.ext
  rw [← List.flatMap_append] at hrl
  have hcat : ∀ (j : Nat) (u : Value),(olds ++ news)[j]? = some u→cells[j]? = some u := fun j u hu=>by
   rw [← hcells,← List.append_assoc,List.getElem?_append_left (List.getElem?_eq_some_iff.1 hu).1]; exact hu
  have := Rep.vs (g := g.new w.drew.heap.size (.c (.r 0)) ((l.length + l2.length) * i.size)) (w := w.drew.alloc (.cells cells.toArray e)) w.heap.size 0 (grownCap w (l.length + l2.length) cap e) i.size false (l ++ l2) (olds ++ news) hrl.1 hszs2 (by simp) (by rw [List.length_append]; exact hge)
   (fun j u hu=>by
    have h1 := hcat j u hu
    refine ⟨?_,?_,?_⟩
    ·rw [Nat.zero_add]; simp only [World.cell?]; rw [show (w.drew.alloc (Obj.cells cells.toArray e)).heap[w.heap.size]? = some (Obj.cells cells.toArray e) from hat]; simpa using h1
    ·rw [Nat.zero_add,new_pub,if_pos (show w.heap.size = w.drew.heap.size from rfl)]
     have := (List.getElem?_eq_some_iff.1 hu).1
     rw [List.length_append,hol,hnl,← Nat.add_mul] at this
     exact this
    ·rcases List.mem_append.1 (List.mem_of_getElem? hu) with h | h
     ·exact hone u h
     ·exact hsrc.one u h) hrl.2
  rw [List.length_append] at this
  exact this
 have none' : ∀ (base : Option Addr) (cap : Nat),ua = .slice base l.length cap→l2 = []→l.length ≤ cap→
   ∃ u' w' g',(Builtin.append_ #[st,st2] ty #[ua,ub]).run P w = .ok u' w'∧Rel g0 w0 Ex g' S.unlent a w'∧Rep g' w' u' (.vs i.size false (l ++ l2))∧OwnV g' w' (.r 0) i.size u'∧(l2 ≠ []→OwnB g' w' (.r 0) i.size u'):=by
  intro base cap hua hl2 hle
  subst hl2 hua
  have hn0 : news = [] := List.eq_nil_of_length_eq_zero (by simpa using hnl)
  subst hn0
  have hrun := run_append_base (ty := ty) (base := base) ht ht2 hi (hsrc.len w) (hfc w (fun _ _ _=>rfl)) (by simpa using hle)
  refine ⟨.slice base l.length cap,w,g,?_,hg.unlent,?_,ho,fun h=>absurd rfl h⟩
  ·rw [hrun]; cases base <;> rfl
  ·rw [List.append_nil]
   rcases rep_vs hra with ⟨⟨p0,hu⟩,rfl⟩ | ⟨B,off,cap',vals,hu,hs,ht',hc,hcell,hrl⟩
   ·injection hu with e1 e2 e3; subst e1 e3; exact .vsnil _ _ _
   ·injection hu with e1 e2 e3; subst e1 e3; exact .vs B off _ _ false l vals hrl.1 hszs (by simp) hle hcell hrl.2
 have odd : ∀ p,ua = .slice p 0 0→l = [] →
   ∃ u' w' g',(Builtin.append_ #[st,st2] ty #[ua,ub]).run P w = .ok u' w'∧Rel g0 w0 Ex g' S.unlent a w'∧Rep g' w' u' (.vs i.size false (l ++ l2))∧OwnV g' w' (.r 0) i.size u'∧(l2 ≠ []→OwnB g' w' (.r 0) i.size u'):=by
  intro p hp hl
  subst hl
  by_cases hm : l2 = []
  ·exact none' p 0 hp hm (Nat.le_refl _)
  ·refine grow p 0 [] hp ?_ ⟨rfl,by simp⟩ (by simp) ?_
   ·have : l2.length ≠ 0 := fun h=>hm (List.eq_nil_of_length_eq_zero h)
    simp only [List.length_nil]; omega
   ·cases p with
    | none=>simp [Builtin.firstCells]
    | some ad =>
     have := run_loadCells_list (P := P) w.drew ad [] (fun j v hv=>by simp at hv)
     simpa [Builtin.firstCells] using this
 rcases ho with hnil | ⟨ad,n,htight⟩ | ⟨B,n,cap,us,e',hu,hrole,hheap,hus,hncap,hpub⟩
 ·
  obtain ⟨p,cap,he,hcap⟩ := rep_vs_len hra
  have hl0 : l = []:=by
   rw [hnil] at he; injection he with _ e2 _; exact List.eq_nil_of_length_eq_zero e2.symm
  subst hl0
  by_cases hm : l2 = []
  ·exact none' none 0 (by rw [hnil]; rfl) hm (Nat.le_refl _)
  ·refine grow none 0 [] (by rw [hnil]; rfl) ?_ ⟨rfl,by simp⟩ (by simp) (by simp [Builtin.firstCells])
   have : l2.length ≠ 0 := fun h=>hm (List.eq_nil_of_length_eq_zero h)
   simp only [List.length_nil]; omega
 ·
  rcases rep_vs hra with ⟨⟨p0,hu⟩,hl0⟩ | ⟨B,off,cap',vals,hu,hs,ht',hc,hcell,hrl⟩
  ·exact odd p0 hu hl0
  ·have hcap : cap' = l.length := by rw [htight] at hu; injection hu with _ e2 e3; rw [← e3,e2]
   subst hcap
   by_cases hm : l2 = []
   ·exact none' _ _ hu hm (Nat.le_refl _)
   ·have hca : CellsAt w B off vals := fun j u hu=>⟨(hcell j u hu).1,(hcell j u hu).2.2⟩
    refine grow _ _ vals hu ?_ hrl hca.one ?_
    ·have : l2.length ≠ 0 := fun h=>hm (List.eq_nil_of_length_eq_zero h)
     omega
    ·simp only [Builtin.firstCells]
     have hca' : CellsAt w.drew B off vals := hca
     exact hca'.run (by rw [hrl.1,flat_len hszs])
 ·
  rcases rep_vs hra with ⟨⟨p0,hu2⟩,hl0⟩ | ⟨B2,off,cap',vals,hu2,hs,ht',hc,hcell,hrl⟩
  ·exact odd p0 hu2 hl0
  ·have h3 := hu2
   rw [hu] at h3
   injection h3 with e1 e2 e3
   injection e1 with e1
   injection e1 with e1 e4 _
   subst e1 e2 e3 e4
   have hvl : vals.length = l.length * i.size := by rw [hrl.1,flat_len hszs]
   have hul : us.toList.length = us.size := Array.length_toList
   by_cases hroom : l.length + l2.length ≤ cap
   ·
    have hrun := run_append_base (ty := ty) (base := some ⟨B,0,none⟩) ht ht2 hi (hsrc.len w) (hfc w (fun _ _ _=>rfl)) hroom
    have hle : l.length * i.size + news.length ≤ us.size := by rw [hnl,hus,← Nat.add_mul]; exact Nat.mul_le_mul_right _ hroom
    have hst := run_storeCells_at P B (l.length * i.size) e' news 0 us w hheap (by simpa using hle) hsrc.one
    simp only [Nat.add_zero,List.append_assoc] at hst
    generalize hrow : (us.toList.take (l.length * i.size) ++ (news ++ us.toList.drop (l.length * i.size + news.length))).toArray = row at hst
    have hrun2 : (Builtin.append_ #[st,st2] ty #[ua,ub]).run P w = .ok (.slice (some ⟨B,0,none⟩) (l.length + l2.length) cap) (w.setRow B row):=by
     rw [hu,hrun]
     simp only [Addr.add_lit,Nat.zero_add]
     rw [hst]
     rfl
    let g2 : G := ⟨g.role,fun b=>if b = B then (l.length + l2.length) * i.size else g.pub b⟩
    have hp2 : ∀ b,g2.pub b = if b = B then (l.length + l2.length) * i.size else g.pub b := fun _=>rfl
    have hat := setRow_heap w B us row e' (0,0) hheap
    have hlow : ∀ o,o < l.length * i.size→row[o]? = us[o]? := fun o ho=>by
     rw [← hrow]
     simp only [List.getElem?_toArray]
     rw [List.getElem?_append_left (by rw [List.length_take,hul]; omega),List.getElem?_take,if_pos ho]
     simp
    have hrow_size : row.size = us.size:=by
     rw [← hrow]
     simp only [List.size_toArray,List.length_append,List.length_take,List.length_drop,hul]; omega
    have hext : Ext g w g2 (w.setRow B row):=by
     refine ⟨fun _ _ h=>h,fun b=>?_,fun b o hb=>?_⟩
     ·rw [hp2]; split
      ·rename_i hbB; subst hbB; rw [hpub]; exact Nat.mul_le_mul_right _ (Nat.le_add_right _ _)
      ·exact Nat.le_refl _
     ·by_cases hbB : b = B
      ·subst hbB
       rw [hpub] at hb
       simp only [World.cell?,hat,hheap]
       simp [hlow o hb]
      ·exact cell_keep (setRow_other w B b _ hbB)
    have hk : Keep (fun b=>b = B) g w g2 (w.setRow B row) := ⟨hext,rfl,rfl,rfl,by simp,fun b _ hne=>⟨setRow_other w B b _ hne,rfl,by rw [hp2,if_neg hne]⟩⟩
    have hinv : Inv g2 (w.setRow B row):=by
     have hBl := heap_lt hheap
     refine ⟨fun b hb=>?_,fun b id hb=>?_,fun b d hb=>?_,hg.inv.injh,hg.inv.injl⟩
     ·have hb' : w.heap.size ≤ b := by simpa using hb
      rw [hp2,if_neg (by omega)]; exact hg.inv.new b hb'
     ·rw [hp2,if_neg (fun e=>by subst e; rw [show g2.role b = g.role b from rfl,hrole] at hb; cases hb)]; exact hg.inv.ph b id hb
     ·rw [hp2,if_neg (fun e=>by subst e; rw [show g2.role b = g.role b from rfl,hrole] at hb; cases hb)]; exact hg.inv.pl b d hb
    have hrel := hg.keepX hk hinv (fun b hb=>by subst hb; exact hrole) (fun _ _=>rfl) hg.h.lt
    have hB : OwnB g2 (w.setRow B row) (.r 0) i.size (.slice (some ⟨B,0,none⟩) (l.length + l2.length) cap) := ⟨B,_,cap,row,e',rfl,hrole,hat,by rw [hrow_size]; exact hus,hroom,by rw [hp2]; exact if_pos rfl⟩
    refine ⟨_,_,g2,hrun2,hrel,?_,hB.v,fun _=>hB⟩
    have hrl2 := (hrl.append hsrc.rep).ext hext
    rw [← List.flatMap_append] at hrl2
    have := Rep.vs (g := g2) (w := w.setRow B row) B 0 cap i.size false (l ++ l2) (vals ++ news) hrl2.1 hszs2 (by simp) (by rw [List.length_append]; exact hroom)
     (fun j u hu=>by
      have hj : j < (l.length + l2.length) * i.size:=by
       have := (List.getElem?_eq_some_iff.1 hu).1
       rw [List.length_append,hvl,hnl,← Nat.add_mul] at this
       exact this
      refine ⟨?_,by rw [Nat.zero_add,hp2,if_pos rfl]; exact hj,?_⟩
      ·rw [Nat.zero_add]
       by_cases hjl : j < l.length * i.size
       ·rw [List.getElem?_append_left (by omega)] at hu
        have h1 := (hcell j u hu).1
        rw [Nat.zero_add] at h1
        simp only [World.cell?,hheap] at h1
        simp only [World.cell?,hat]
        simpa [hlow j hjl] using h1
       ·rw [List.getElem?_append_right (by omega)] at hu
        simp only [World.cell?,hat]
        rw [← hrow]
        simp only [List.getElem?_toArray,Option.isSome_none,Bool.false_eq_true,if_false]
        rw [List.getElem?_append_right (by rw [List.length_take,hul]; omega),List.length_take,hul,Nat.min_eq_left (by omega),List.getElem?_append_left (by have := (List.getElem?_eq_some_iff.1 hu).1; omega)]
        rw [hvl] at hu
        exact hu
      ·rcases List.mem_append.1 (List.mem_of_getElem? hu) with h | h
       ·obtain ⟨j',hj'⟩ := List.mem_iff_getElem?.1 h
        exact (hcell j' u hj').2.2
       ·exact hsrc.one u h) hrl2.2
    rw [List.length_append] at this
    exact this
   ·have hca : CellsAt w B 0 vals := fun j u hu=>⟨(hcell j u hu).1,(hcell j u hu).2.2⟩
    refine grow _ _ vals hu (by omega) hrl hca.one ?_
    simp only [Builtin.firstCells]
    have hca' : CellsAt w.drew B 0 vals := hca
    exact hca'.run hvl
def AppMid (P : Program) (o : Oper) (g0 : G) (w0 : World) (Ex : Nat→Prop) (a : Act) (w : World) (k : St→Option R) (r : R) (l : List AV) (sz : Nat) : Prop :=
 ∃ S0 l2 u' w' g',(execOp a.eval o).run P w = .ok (.value u') w'∧Rel g0 w0 Ex g' (St.unlent S0) a w'∧Rep g' w' u' (.vs sz false (l ++ l2))∧OwnV g' w' (.r 0) sz u' ∧
  (l2 ≠ []→OwnB g' w' (.r 0) sz u')∧(∃ d,o.dst = some d)∧k ((St.unlent S0).putown o.dst (.vs sz false (l ++ l2)) .own) = some r
theorem opAppend_mid {st st2 : TypeId} {x y : Operand} {k : St→Option R} (ho : o.op = .call { callee := .builtin .append,args := #[x,y],argTypes := #[st,st2] })
  (h : opAppend P o st st2 x y S k = some r) (hg : Rel g0 w0 Ex g S a w) : ∃ sz tg l,evT P S st x = .vs sz tg l∧AppMid P o g0 w0 Ex a w k r l sz:=by
 unfold opAppend at h
 split at h
 ·rename_i e he hzo
  have hu : P.underlying st = some (.slice e):=by
   unfold tElem at he
   split at he
   ·rename_i e' hu; injection he with he; rw [hu,he]
   ·cases he
  split at h
  ·rename_i hz0 hst
   have hz : tSize P e ≠ 0 := fun e=>by rw [e] at hz0; cases hz0
   obtain ⟨i,hi,hisz,hiby⟩ := info_of_pos hz
   obtain ⟨zv,hzv,hzc⟩ : ∃ zv,i.zero = some zv∧zv.cells.size = i.size:=by
    unfold zeroOk at hzo
    rw [he] at hzo
    simp only at hzo
    split at hzo
    ·rename_i z hzz
     obtain ⟨i',v,hi',hv,hr,_⟩ := zeroCells_some (g := g) (w := w) hzz
     rw [hi] at hi'
     injection hi' with hi'
     subst hi'
     refine ⟨v,hv,?_⟩
     have := hr.1
     rw [Array.length_toList] at this
     rw [this,beq_true hzo,hisz]
    ·cases hzo
   have ht2 : (∃ e2,P.underlying st2 = some (.slice e2)) ∨ P.underlying st2 = some .string:=by
    unfold srcType at hst
    split at hst
    ·exact .inl ⟨_,‹_›⟩
    ·exact .inr ‹_›
    ·cases hst
   obtain ⟨l2,news,h1,hsrc⟩ := elemsOf_sound (P := P) hg h (hg.evT (P := P) st y)
   clear h
   simp only at h1
   obtain ⟨z,tg,l,hva,h2⟩ := vs?_some h1
   clear h1
   have hra := hg.evT (P := P) st x
   rw [hva] at hra
   split at h2
   ·cases h2
   ·rename_i hzz
    have hzl : z = i.size := by rw [hisz]; exact beq_true hzz
    subst hzl
    refine ⟨i.size,tg,l,hva,?_⟩
    have fin : ∀ (S1 : St) (g1 : G),Rel g0 w0 Ex g1 S1 a w→Ext g w g1 w→OwnV g1 w (.r 0) i.size (a.eval x) →
      br (Nat.ble ((l.length + l2.length) * tBytes P e) maxBytes) (br (Nat.ble (l.length + l2.length) maxBytes) (match o.dst with
       | some _=>k (S1.unlent.putown o.dst (.vs (tSize P e) false (l ++ l2)) .own)
       | Option.none=>Option.none) Option.none) Option.none = some r→AppMid P o g0 w0 Ex a w k r l i.size:=by
     intro S1 g1 hr1 hE hown hk
     obtain ⟨hb1,hk⟩ := br_left hk
     obtain ⟨hb2,hk⟩ := br_left hk
     have hb1' := ble_true hb1
     have hb2' := ble_true hb2
     rw [← hiby] at hb1'
     rw [← hisz] at hsrc
     have hsrc1 : Src P g1 w i.size (a.eval y) l2 news := ⟨hsrc.rep.ext hE,hsrc.one,hsrc.sizes,hsrc.len,hsrc.shape,hsrc.cells⟩
     obtain ⟨u',w',g',hrun,hrel,hrep,hown',hB⟩ := append_core (ty := o.type) hr1 hu ht2 hi hzv hzc (by rw [hisz]; exact hz) (hra.ext hE) (.inl rfl) hown hsrc1 hb1' hb2'
     split at hk
     ·rename_i d hd
      refine ⟨S1,l2,u',w',g',?_,hrel,hrep,hown',hB,⟨d,hd⟩,by rw [hisz]; exact hk⟩
      simp only [execOp,ho,resolve,invoke,builtin,Sem.run_bind,Sem.run_pure,Result.andThen_ok,List.map_toArray,List.map_cons,List.map_nil,hrun]
     ·cases hk
    have tight : ∀ (hk : br tg (br (Nat.ble ((l.length + l2.length) * tBytes P e) maxBytes) (br (Nat.ble (l.length + l2.length) maxBytes) (match o.dst with
       | some _=>k (S.unlent.putown o.dst (.vs (tSize P e) false (l ++ l2)) .own)
       | Option.none=>Option.none) Option.none) Option.none) Option.none = some r),AppMid P o g0 w0 Ex a w k r l i.size:=by
     intro hk
     obtain ⟨htg,hk⟩ := br_left hk
     refine fin S g hg (Ext.refl _ _) ?_ hk
     rcases rep_vs hra with ⟨⟨q,h⟩,_⟩ | ⟨B,off,cap,vals,h,_,ht,_⟩
     ·cases q with
      | none=>exact .inl h
      | some ad=>exact .inr (.inl ⟨_,_,h⟩)
     ·have := ht htg
      subst this
      exact .inr (.inl ⟨_,_,h⟩)
    have take : ∀ (S1 : St) (p : Pl),Rel g0 w0 Ex g S1 a w→NoClaim S1 p→OwnAV g w p (a.eval x) (.vs i.size tg l) →
      br (Nat.ble ((l.length + l2.length) * tBytes P e) maxBytes) (br (Nat.ble (l.length + l2.length) maxBytes) (match o.dst with
       | some _=>k (S1.unlent.putown o.dst (.vs (tSize P e) false (l ++ l2)) .own)
       | Option.none=>Option.none) Option.none) Option.none = some r→AppMid P o g0 w0 Ex a w k r l i.size:=by
     intro S1 p hr1 hnc hown hk
     obtain ⟨g1,h3,h4,h5,h6,h7,_⟩ := hr1.retag hnc hown (.r 0)
     exact fin S1 g1 h3 ⟨fun B id h=>(h5 B id).2 h,fun B=>by rw [h7]; exact Nat.le_refl _,fun _ _ _=>rfl⟩ h4 hk
    have slotOwn : ∀ (q : Nat) (v : AV),S.slot q = .val v .own→a.tmps.getD q undef = a.eval x→v = .vs i.size tg l →
      br (Nat.ble ((l.length + l2.length) * tBytes P e) maxBytes) (br (Nat.ble (l.length + l2.length) maxBytes) (match o.dst with
       | some _=>k ((S.put q (.val v .no)).unlent.putown o.dst (.vs (tSize P e) false (l ++ l2)) .own)
       | Option.none=>Option.none) Option.none) Option.none = some r→AppMid P o g0 w0 Ex a w k r l i.size:=by
     intro q v hs heq hv hk
     have hlt : q < S.sl.length := nthS_lt (by show S.slot q ≠ _; rw [hs]; simp)
     have hown := (hg.slotv hs).2
     refine take _ (.s q) (hg.reflag hs (f' := .no) trivial (by simp) (by simp)) ?_ ?_ hk
     ·intro v' hv'
      rw [slot_put,if_pos ⟨rfl,hlt⟩] at hv'
      injection hv' with _ e
      cases e
     ·have h1 : OwnAV g w (.s q) (a.tmps.getD q undef) v := hown
      rw [heq,hv] at h1
      exact h1
    split at h2
    ·rename_i c
     refine fin S g hg (Ext.refl _ _) ?_ h2
     rcases rep_vs hra with ⟨⟨q,h⟩,_⟩ | ⟨B,off,cap,vals,h,_⟩
     ·cases q with
      | none=>exact .inl h
      | some ad=>exact .inr (.inl ⟨_,_,h⟩)
     ·exfalso
      have hc : a.eval (.const c) = c := rfl
      rw [hc] at h
      subst h
      have : evT P S st (.const (Value.slice (some ⟨B,off,none⟩) l.length cap)) = .undef := rfl
      rw [this] at hva
      cases hva
    ·rename_i t
     have hev : ∀ v f,S.slot t = .val v f→v = .vs i.size tg l := fun v f hs=>by
      have : evT P S st (.tmp t) = v := by show (S.slot t).av = v; rw [hs]; rfl
      rw [← this,hva]
     split at h2
     ·rename_i v hs
      exact slotOwn t v hs rfl (hev v _ hs) h2
     ·rename_i v q hs
      split at h2
      ·rename_i u hq
       obtain ⟨h3,h4⟩ := (hg.slotv hs).2 u hq
       exact slotOwn q u hq h3 (h4.trans (hev v _ hs)) h2
      ·exact tight h2
     ·rename_i v d off hs
      obtain ⟨bl,hbl,h3⟩ := bind_some' h2
      have hv := hev v _ hs
      split at h3
      ·rename_i hm
       obtain ⟨B,hB,hcell,hc⟩ := (hg.slotv hs).2 bl hbl (memN_iff.1 hm)
       obtain ⟨B',hB',hblk,hfree⟩ := hg.l d bl hbl
       obtain rfl := hg.inv.injl B B' d hB hB'
       have hown := hfree off (memN_iff.1 hm) _ _ hcell hc
       rw [hv] at hown
       refine take { S with L := setL S.L d ⟨bl.cells,delN off bl.free⟩ } (.l d off) ⟨hg.inv,hg.h,fun d' b' hb'=>?_,hg.m,hg.len,fun t'=>?_,hg.fr,hg.nodef⟩ ?_ hown ?_
       ·rw [getL_setL] at hb'
        split at hb'
        ·rename_i hd
         subst hd
         injection hb' with hb'
         subst hb'
         exact ⟨B,hB,hblk,fun off' hoff'=>hfree off' (mem_delN.1 hoff').1⟩
        ·exact hg.l d' b' hb'
       ·have h5 := hg.sl t'
        show SlotRel g _ a w t' (S.slot t')
        cases hst : S.slot t' with
        | und=>trivial
        | lp d' off'=>rw [hst] at h5; exact h5
        | mp d'=>rw [hst] at h5; exact h5
        | val v2 f2 =>
         rw [hst] at h5
         refine ⟨h5.1,?_⟩
         cases f2 with
         | lL d2 off2 =>
          intro b2 hb2 hoff2
          have hb2' : getL (setL S.L d ⟨bl.cells,delN off bl.free⟩) d2 = some b2 := hb2
          rw [getL_setL] at hb2'
          split at hb2'
          ·rename_i hd
           subst hd
           injection hb2' with hb2'
           subst hb2'
           exact h5.2 bl hbl (mem_delN.1 hoff2).1
          ·exact h5.2 b2 hb2' hoff2
         | _=>exact h5.2
       ·intro b' hb'
        have hb2 : getL (setL S.L d ⟨bl.cells,delN off bl.free⟩) d = some b' := hb'
        rw [getL_setL,if_pos rfl] at hb2
        injection hb2 with hb2
        subst hb2
        intro hh
        exact (mem_delN.1 hh).2 rfl
       ·exact h3
      ·exact tight h3
     ·rename_i v id off hs
      obtain ⟨bl,hbl,h3⟩ := bind_some' h2
      have hv := hev v _ hs
      split at h3
      ·rename_i hm
       obtain ⟨B,hB,hcell,hc⟩ := (hg.slotv hs).2 bl hbl (memN_iff.1 hm)
       obtain ⟨B',hB',hblk,hfree⟩ := hg.h.blk id bl hbl
       obtain rfl := hg.inv.injh B B' id hB hB'
       have hown := hfree off (memN_iff.1 hm) _ _ hcell hc
       rw [hv] at hown
       refine take { S with H := S.H.set id ⟨bl.cells,delN off bl.free⟩ } (.h id off) ⟨hg.inv,⟨fun d' b' hb'=>?_,fun B' id'' hB'=>Hp_set_ne (hg.h.lt B' id'' hB')⟩,hg.l,hg.m,hg.len,fun t'=>?_,hg.fr,hg.nodef⟩ ?_ hown ?_
       ·have hb2 : S.H.set id ⟨bl.cells,delN off bl.free⟩ d' = some b' := hb'
        rw [Hp_set] at hb2
        split at hb2
        ·rename_i hd
         subst hd
         injection hb2 with hb2
         subst hb2
         exact ⟨B,hB,hblk,fun off' hoff'=>hfree off' (mem_delN.1 hoff').1⟩
        ·exact hg.h.blk d' b' hb2
       ·have h5 := hg.sl t'
        show SlotRel g _ a w t' (S.slot t')
        cases hst : S.slot t' with
        | und=>trivial
        | lp d' off'=>rw [hst] at h5; exact h5
        | mp d'=>rw [hst] at h5; exact h5
        | val v2 f2 =>
         rw [hst] at h5
         refine ⟨h5.1,?_⟩
         cases f2 with
         | lH d2 off2 =>
          intro b2 hb2 hoff2
          have hb2' : S.H.set id ⟨bl.cells,delN off bl.free⟩ d2 = some b2 := hb2
          rw [Hp_set] at hb2'
          split at hb2'
          ·rename_i hd
           subst hd
           injection hb2' with hb2'
           subst hb2'
           exact h5.2 bl hbl (mem_delN.1 hoff2).1
          ·exact h5.2 b2 hb2' hoff2
         | _=>exact h5.2
       ·intro b' hb'
        have hb2 : S.H.set id ⟨bl.cells,delN off bl.free⟩ id = some b' := hb'
        rw [Hp_set,if_pos rfl] at hb2
        injection hb2 with hb2
        subst hb2
        intro hh
        exact (mem_delN.1 hh).2 rfl
       ·exact h3
      ·exact tight h3
     ·exact tight h2
    ·cases h2
  ·cases h
 ·cases h
theorem opAppend_step {st st2 : TypeId} {x y : Operand} {k : St→Option R} (ho : o.op = .call { callee := .builtin .append,args := #[x,y],argTypes := #[st,st2] })
  (h : opAppend P o st st2 x y S k = some r) (hg : Rel g0 w0 Ex g S a w) : StepTo P o a w g0 w0 Ex k r:=by
 obtain ⟨sz,tg,l,_,S0,l2,u',w',g',hrun,hrel,hrep,hown',_,⟨d,hd⟩,hk⟩ := opAppend_mid ho h hg
 obtain ⟨g2,h3,h4,h5,h6,h7,_⟩ := hrel.retag (p := .r 0) trivial (c := .vs sz false (l ++ l2)) hown' (.s d)
 have hE2 : Ext g' w' g2 w' := ⟨fun B id h=>(h5 B id).2 h,fun B=>by rw [h7]; exact Nat.le_refl _,fun _ _ _=>rfl⟩
 refine .mk (u := u') (w' := w') hrun ⟨g2,?_⟩ hk
 rw [hd]
 exact h3.putown (some d) (hrep.ext hE2) (fun d' e=>by injection e with e; subst e; exact h4) (.inr (.inl rfl))
end
end Go.Vai
end
section
namespace Go.Vai
section
variable {X : Nat→Prop} {g0 : G} {w0 : World} {Ex : Nat→Prop} {g g' : G} {S : St} {a : Act} {w w' : World} {P : Program} {R : Type} {r : R} {o : Oper}
theorem tightPlaces_spec : ∀ (z : List AV) (n off : Nat),off ∈ tightPlaces n z→∃ j,off = n + j∧∃ sz l,z[j]? = some (.vs sz true l)
 | [],n,off,h=>by simp [tightPlaces] at h
 | x :: l,n,off,h=>by
  have rest : off ∈ tightPlaces (n + 1) l→∃ j,off = n + j∧∃ sz l',(x :: l)[j]? = some (.vs sz true l') := fun h=>by
   obtain ⟨j,h1,h2⟩ := tightPlaces_spec l (n + 1) off h
   exact ⟨j + 1,by omega,by simpa using h2⟩
  unfold tightPlaces at h
  split at h
  ·rename_i sz tg l'
   split at h
   ·rcases List.mem_cons.1 h with e | h
    ·exact ⟨0,by omega,sz,l',by rfl⟩
    ·exact rest h
   ·exact rest h
  ·exact rest h
theorem tight0 {z : List AV} : ∀ off ∈ tightPlaces 0 z,∃ sz l,z[off]? = some (.vs sz true l) := fun off h=>by
 obtain ⟨j,h1,h2⟩ := tightPlaces_spec z 0 off h
 rw [Nat.zero_add] at h1
 rw [h1]
 exact h2
theorem alloc_step {A : Ann} {e : TypeId} {z : List AV} {k : St→Option R} (ho : o.op = .alloc e) (hz : zeroCells P e = some z) (h : opNew A o z (tightPlaces 0 z) S k = some r) (hg : Rel g0 w0 Ex g S a w) : StepTo P o a w g0 w0 Ex k r:=by
 obtain ⟨i,v,hi,hv,hr,h1⟩ := zeroCells_some (g := g) (w := w) hz
 refine opNew_step (us := v.cells.toList) (e := e) ?_ h1 hr.part tight0 h hg
 simp [execOp,ho,Instr.alloc,zeroValue,typeInfo,hi,hv,newVar,newRow]
theorem box_step {A : Ann} {e : TypeId} {x : Operand} {k : St→Option R} (ho : o.op = .box e x) (h : ((evT P S e x).cells? fun cs=>opNew A o cs (tightPlaces 0 cs) S k) = some r) (hg : Rel g0 w0 Ex g S a w) : StepTo P o a w g0 w0 Ex k r:=by
 obtain ⟨cs,us,h2,hcells,hr,h1,_⟩ := cells?_sound (hg.evT (P := P) e x) h
 refine opNew_step (us := us) (e := e) ?_ h1 hr.part tight0 h2 hg
 simp [execOp,ho,Instr.box,newVar,newRow,hcells]
theorem wrap_small {n : Int} (h0 : 0 ≤ n) (h1 : n ≤ 281474976710656) : IntKind.i64.wrap n = n:=by
 simp [IntKind.wrap,IntKind.bits,IntKind.signed]; omega
theorem opMake_step {t : TypeId} {n c : Operand} {k : St→Option R} (ho : o.op = .makeSlice t n c) (h : opMake P o t n c S k = some r) (hg : Rel g0 w0 Ex g S a w) : StepTo P o a w g0 w0 Ex k r:=by
 unfold opMake at h
 split at h
 ·cases h
 ·rename_i e he
  have hu : P.underlying t = some (.slice e):=by
   unfold tElem at he
   split at he
   ·rename_i e' hu; injection he with he; rw [hu,he]
   ·cases he
  split at h
  ·cases h
  ·rename_i z hz
   obtain ⟨i,v,hi,hv,hrz,h1z⟩ := zeroCells_some (g := g) (w := w) hz
   split at h
   ·rename_i hz0 hzl
    have hzpos : tSize P e ≠ 0 := fun e=>by rw [e] at hz0; cases hz0
    have hsz : i.size = tSize P e := by simp [tSize,hi]
    have hby : i.bytes = tBytes P e := by simp [tBytes,hi]
    have hvl : v.cells.size = tSize P e := by rw [← beq_true hzl,← hrz.1,Array.length_toList]
    obtain ⟨nk,len,hn,h2⟩ := int?_some h
    obtain ⟨ck,cap,hc,h3⟩ := int?_some h2
    obtain ⟨b1,h4⟩ := br_left h3
    obtain ⟨b2,h5⟩ := br_left h4
    obtain ⟨b3,h6⟩ := br_left h5
    obtain ⟨b4,h7⟩ := br_left h6
    clear h h2 h3 h4 h5 h6
    have c1 : 0 ≤ len := by simpa using b1
    have c2 : len ≤ cap := by simpa using b2
    have c3 : cap * (tBytes P e : Int) ≤ 281474976710656 := by simpa using b3
    have c4 : cap ≤ 281474976710656 := by simpa using b4
    have hnr := hg.ev n
    rw [hn] at hnr
    have hn' := rep_int hnr
    have hcr := hg.ev c
    rw [hc] at hcr
    have hc' := rep_int hcr
    have w1 := wrap_small c1 (by omega : len ≤ 281474976710656)
    have w2 := wrap_small (by omega : 0 ≤ cap) c4
    have hzc : ∀ m : Nat,((Array.range (m * i.size)).map (v.cells[· % v.cells.size]!)) = ((List.replicate m v.cells.toList).flatten).toArray:=by
     intro m
     apply Array.ext'
     rw [Array.toList_map,Array.toList_range,hvl,hsz]
     have := range_repl v.cells.toList (tSize P e) (by rw [Array.length_toList]; exact hvl) (by omega) m
     simpa using this
    have hrun : (execOp a.eval o).run P w = .ok (.value (.slice (some ⟨w.heap.size,0,none⟩) len.toNat cap.toNat)) (w.alloc (.cells ((List.replicate cap.toNat v.cells.toList).flatten).toArray e)):=by
     have hb' : ¬ (281474976710656 < (i.bytes : Int) * cap) := by rw [hby,Int.mul_comm]; omega
     have hneg : ¬ cap < 0 := by omega
     have hneg2 : ¬ len < 0 := by omega
     have hgt : ¬ cap < len := by omega
     have hn0 : cap.toNat * i.size = 0 ∨ ¬ cap.toNat * i.size = 0 := Classical.em _
     simp only [execOp,ho,Instr.makeSlice,hn',hc',asInt,asIntOf,Sem.run_bind,run_und hu,Result.andThen_ok,typeInfo,run_program,hi,Sem.run_pure,w1,w2,sizeOf]
     rcases hn0 with h0 | h0
     ·have hc0 : cap.toNat = 0:=by
       rcases Nat.mul_eq_zero.1 h0 with h | h
       ·exact h
       ·rw [hsz] at h; exact absurd h hzpos
      have hcap0 : cap = 0 := by omega
      have hlen0 : len = 0 := by omega
      subst hcap0 hlen0
      simp [newRow,hi,show Array.range 0 = #[] from rfl]
     ·simp [hb',hneg,hneg2,hgt,h0,zeroValue,typeInfo,hi,hv,newRow,hzc]
    have hrc := hrz.repl (w := w) (g := g) cap.toNat
    have h1c : ∀ u ∈ (List.replicate cap.toNat v.cells.toList).flatten,u.oneCell' = true := fun u hu=>by
     obtain ⟨l,hl,hul⟩ := List.mem_flatten.1 hu
     rw [(List.mem_replicate.1 hl).2] at hul
     exact h1z u hul
    rcases br_some h7 with ⟨b5,h8⟩ | ⟨_,h8⟩
    ·have e5 : len = cap := by simpa using b5
     subst e5
     obtain ⟨hn,h8⟩ := new?_some h8
     refine .mk hrun ⟨_,(hg.newHf (free := []) e hn (S.nx + 1) (oneP_of h1c _) hrc.part (by simp)).putv (f := .no) o.dst ?_ (fun _ _=>trivial) (by simp) (by simp)⟩ h8
     exact .arr w.heap.size S.nx 0 len.toNat len.toNat (tSize P e) (by rw [new_role,if_pos rfl]) (Nat.le_refl _)
    ·obtain ⟨b6,h9⟩ := br_left h8
     have e6 : len = 0 := by simpa using b6
     subst e6
     have hold : ∀ B,B < w.heap.size→(w.alloc (.cells ((List.replicate cap.toNat v.cells.toList).flatten).toArray e)).heap[B]? = w.heap[B]? := fun B hB=>heap_alloc_lt w _ hB
     have hat := heap_alloc_at w (.cells ((List.replicate cap.toNat v.cells.toList).flatten).toArray e)
     cases hd : o.dst with
     | none =>
      rw [hd] at h9
      refine .mk hrun ⟨g.new w.heap.size .ext 0,?_⟩ h9
      rw [hd]
      exact hg.newblk (w' := w.alloc (.cells ((List.replicate cap.toNat v.cells.toList).flatten).toArray e)) hold (size_alloc' w _) rfl rfl rfl .ext 0 (.inl rfl)
     | some d =>
      rw [hd] at h9
      refine .mk hrun ⟨g.new w.heap.size (.c (.s d)) 0,?_⟩ h9
      rw [hd]
      refine (hg.newblk (w' := w.alloc (.cells ((List.replicate cap.toNat v.cells.toList).flatten).toArray e)) hold (size_alloc' w _) rfl rfl rfl (.c (.s d)) 0 (.inr ⟨_,rfl⟩)).putown (some d) ?_ (fun d' e'=>?_) (.inr (.inl rfl))
      ·exact .vs w.heap.size 0 cap.toNat (tSize P e) false [] [] (by simp) (by simp) (by simp) (by simp) (by simp) (by simp)
      ·injection e' with e'
       subst e'
       refine .inr (.inr ⟨w.heap.size,_,_,_,e,rfl,by rw [new_role]; exact if_pos rfl,hat,?_,by omega,?_⟩)
       ·rw [List.size_toArray,hrc.1,replC_eq,List.length_flatten]
        simp [beq_true hzl]
       ·rw [new_pub,if_pos rfl]; simp
   ·cases h
theorem opCopy_step {dt st : TypeId} {d s : Operand} {k : St→Option R} (ho : o.op = .call { callee := .builtin .copy,args := #[d,s],argTypes := #[dt,st] }) (h : opCopy P o dt d s S k = some r) (hg : Rel g0 w0 Ex g S a w) :
  StepTo P o a w g0 w0 Ex k r:=by
 unfold opCopy at h
 split at h
 ·cases h
 ·rename_i e he
  have hu : P.underlying dt = some (.slice e):=by
   unfold tElem at he
   split at he
   ·rename_i e' hu; injection he with he; rw [hu,he]
   ·cases he
  split at h
  ·rename_i hag h1
   have hsz := beq_true h1
   have hpos : tSize P e ≠ 0 := by omega
   obtain ⟨l,news,h2,hsrc⟩ := elemsOf_sound (P := P) hg h (hg.evT (P := P) dt s)
   clear h
   have hdr := hg.evT (P := P) dt d
   split at h2
   ·rename_i id off len z hd
    rw [hd] at hdr
    obtain ⟨B,cap,hB,hev,hcap⟩ := rep_arr hdr
    split at h2
    ·obtain ⟨b,hb,h3⟩ := bind_some' h2
     obtain ⟨h4,h5⟩ := br_left h3
     have hle := ble_true h4
     obtain ⟨B',hB',⟨us,e',hheap,hone,hrl⟩,hfree⟩ := hg.h.blk id b hb
     obtain rfl := hg.inv.injh B B' id hB hB'
     have hmin : Nat.min l.length len ≤ l.length := Nat.min_le_left _ _
     have hfc := hsrc.cells (Nat.min l.length len) w hmin (fun _ _ _=>rfl)
     rw [Nat.mul_one] at hfc
     have hflat := flat_len hsrc.sizes
     rw [Nat.mul_one] at hflat
     have hnl : news.length = l.length := by rw [hsrc.rep.1,hflat]
     have hml : Nat.min l.length len ≤ len := Nat.min_le_right _ _
     have hcl : (news.take (Nat.min l.length len)).length = Nat.min l.length len := by rw [List.length_take,hnl]; exact Nat.min_eq_left hmin
     have hul := hrl.1
     have hst := run_storeCells_at P B off e' (news.take (Nat.min l.length len)) 0 us.toArray w hheap (by rw [hcl]; simp only [List.size_toArray,Nat.add_zero]; omega) (fun v hv=>hsrc.one v (List.mem_of_mem_take hv))
     simp only [Nat.add_zero,List.append_assoc] at hst
     have hpv : (us.toArray.toList.take off ++ ((news.take (Nat.min l.length len)) ++ us.toArray.toList.drop (off + (news.take (Nat.min l.length len)).length))) = patchV us off (news.take (Nat.min l.length len)) := rfl
     rw [hpv] at hst
     have hrun : (Builtin.copy_ #[dt,st] o.type #[a.eval d,a.eval s]).run P w = .ok (.int .i64 (Nat.min l.length len : Nat)) (w.setRow B (patchV us off (news.take (Nat.min l.length len))).toArray):=by
      simp only [Builtin.copy_,List.getElem?_toArray,List.getElem?_cons_zero,List.getElem?_cons_succ,Sem.run_bind,run_und hu,Result.andThen_ok,hev,hsrc.len w,run_sizeOf_pos hpos,hsz,hfc,hst,Sem.run_pure,goInt]
     have hfl := flatMap_take (z := 1) (Nat.min l.length len) hsrc.sizes
     rw [Nat.mul_one] at hfl
     have hnr : RepL g w (news.take (Nat.min l.length len)) ((l.take (Nat.min l.length len)).flatMap AV.cells) := by rw [hfl]; exact hsrc.rep.take _
     have hple : off + ((l.take (Nat.min l.length len)).flatMap AV.cells).length ≤ b.cells.length := by rw [← hnr.1,hcl]; omega
     have hw := hg.writeH (id := id) (B := B) (b := b) (us := us) (nus := patchV us off (news.take (Nat.min l.length len))) (e := e') (ncells := patch b.cells off ((l.take (Nat.min l.length len)).flatMap AV.cells)) (nfree := cutN off (off + len) b.free) hb hB hheap
      (hrl.patch hnr hple) (hone.patch hul (fun u hu=>hsrc.one u (List.mem_of_mem_take hu)) hnr.1 hple) (fun i hi u v hu hv=>by
       obtain ⟨hm,hn⟩ := mem_cutN.1 hi
       rw [patchV_get_out (by rw [hcl]; omega) (by rw [hcl]; omega)] at hu
       rw [patch_get_out hple (by rw [← hnr.1,hcl]; omega)] at hv
       exact hfree i hm u v (by simpa [World.cell?,hheap] using hu) hv)
     exact .mk (by simp only [execOp,ho,resolve,invoke,builtin,Sem.run_bind,Sem.run_pure,Result.andThen_ok,List.map_toArray,List.map_cons,List.map_nil,hrun]) ⟨g,hw.putv (f := .no) o.dst (.int _ _) (fun _ _=>trivial) (by simp) (by simp)⟩ h5
    ·cases h2
   ·rename_i z tg hd
    rw [hd] at hdr
    obtain ⟨p,cap,hev,hcap⟩ := rep_vs_len hdr
    have hfc := hsrc.cells 0 w (Nat.zero_le _) (fun _ _ _=>rfl)
    rw [Nat.zero_mul] at hfc
    refine .val hg (u := .int .i64 0) ?_ (.int _ _) h2
    have hrun : (Builtin.copy_ #[dt,st] o.type #[a.eval d,a.eval s]).run P w = .ok (.int .i64 0) w:=by
     have hm0 : Nat.min l.length ([] : List AV).length = 0 := Nat.min_eq_right (Nat.zero_le _)
     simp only [Builtin.copy_,List.getElem?_toArray,List.getElem?_cons_zero,List.getElem?_cons_succ,Sem.run_bind,run_und hu,Result.andThen_ok,hev,hsrc.len w,run_sizeOf_pos hpos,hsz,hm0,hfc]
     cases p <;> simp [storeCells,goInt]
    simp only [execOp,ho,resolve,invoke,builtin,Sem.run_bind,Sem.run_pure,Result.andThen_ok,List.map_toArray,List.map_cons,List.map_nil,hrun]
   ·cases h2
  ·cases h
end
end Go.Vai
end
section
namespace Go.Vai
structure Ret (rf : List Nat) (one : Bool) (g : G) (w : World) (Ex : Nat→Prop) (out : Out) (v : Value) (g' : G) (w' : World) : Prop where
 inv : Inv g' w'
 h : RelH g' out.H out.nx w'
 rep : Rep g' w' v out.v
 fr : Fr g w Ex g' w'
 roles : ∀ B,(∃ d,g'.role B = .l d) ∨ (∃ t,g'.role B = .c (.s t)) ∨ (∃ t i,g'.role B = .c (.sc t i)) ∨ (∃ d off,g'.role B = .c (.l d off))→False
 own1 : one = true→0 ∈ rf→OwnAV g' w' (.r 0) v out.v
 own : one = false→∀ i ∈ rf,∀ us vs ui vi,v = .tuple us→out.v = .tuple vs→us[i]? = some ui→vs[i]? = some vi→OwnAV g' w' (.r i) ui vi
def Shared (g : G) : Prop := ∀ B,g.role B = .ext ∨ (∃ id,g.role B = .h id) ∨ ∃ id off,g.role B = .c (.h id off)
def CalOk (P : Program) (A : List (Nat × Ann)) (cal : Oracle) : Prop :=
 ∀ f args H nx out,cal f args H nx = some out→(∃ fn c,P.funcs[f]? = some fn∧fn.body = some c)∧∀ (g : G) (w : World) (cargs : List Value),Inv g w→RelH g H nx w→Shared g→((getA A f).imp = false→∀ B,g.role B = .ext)→GlobOk A g w→RepL g w cargs args →
  Calls P f cargs.toArray w fun e w'=>∃ v g',e = .returned v∧Ret (getA A f).rf (oneRes P f) g w (fun B=>g.role B ≠ .ext) out v g' w'
section
variable {X : Nat→Prop} {g0 : G} {w0 : World} {Ex : Nat→Prop} {g g' : G} {S : St} {a : Act} {w w' : World} {P : Program} {R : Type} {r : R} {o : Oper} {A : List (Nat × Ann)} {cal : Oracle}
def OpOk (P : Program) (o : Oper) (a : Act) (w : World) (g0 : G) (w0 : World) (Ex : Nat→Prop) (k : St→Option R) (r : R) : Prop :=
 ∀ Q,o.wp P a w (fun a' w'=>∃ S',Good g0 w0 Ex S' a' w'∧k S' = some r) Q
theorem StepTo.ok {k : St→Option R} (h : StepTo P o a w g0 w0 Ex k r) : OpOk P o a w g0 w0 Ex k r:=by
 intro Q
 obtain ⟨n,u,w',S',hrun,hn,hgood,hk⟩ := h
 unfold Oper.wp
 rw [hrun]
 rcases hn with rfl | ⟨rfl,rfl⟩
 ·rw [Oper.upon_value]; exact ⟨S',hgood,hk⟩
 ·rw [Oper.upon_skip]; exact ⟨S',hgood,hk⟩
theorem evsT_rep (hg : Rel g0 w0 Ex g S a w) : ∀ (tys : List TypeId) (l : List Operand),RepL g w (l.map a.eval) (evsT P S tys l)
 | _,[]=>by cases ‹List TypeId› <;> exact ⟨rfl,by simp [evsT]⟩
 | t :: ts,x :: l=>by
  have ih := evsT_rep hg ts l
  refine ⟨by simp [evsT,ih.1],fun j u c hu hc=>?_⟩
  cases j with
  | zero=>simp [evsT] at hu hc; subst hu hc; exact hg.evT t x
  | succ j=>exact ih.2 j u c (by simpa using hu) (by simpa [evsT] using hc)
 | [],x :: l=>by
  have ih := evsT_rep hg [] l
  refine ⟨by simp [evsT,ih.1],fun j u c hu hc=>?_⟩
  cases j with
  | zero=>simp [evsT] at hu hc; subst hu hc; exact hg.ev x
  | succ j=>exact ih.2 j u c (by simpa using hu) (by simpa [evsT] using hc)
def G.shared (g : G) : G := ⟨fun B=>match g.role B with
 | .h id=>.h id
 | .c (.h id off)=>.c (.h id off)
 | _=>.ext,g.pub⟩
theorem shared_h {B id : Nat} : (g.shared).role B = .h id ↔ g.role B = .h id:=by
 unfold G.shared
 cases hr : g.role B with
 | c p=>cases p <;> simp [hr]
 | _=>simp [hr]
theorem shared_ch {B id off : Nat} : (g.shared).role B = .c (.h id off) ↔ g.role B = .c (.h id off):=by
 unfold G.shared
 cases hr : g.role B with
 | c p=>cases p <;> simp [hr]
 | _=>simp [hr]
theorem shared_shared : Shared g.shared:=by
 intro B
 unfold G.shared
 cases hr : g.role B with
 | c p=>cases p <;> simp [hr]
 | _=>simp [hr]
theorem shared_noL {B d : Nat} : (g.shared).role B ≠ .l d:=by
 unfold G.shared
 cases hr : g.role B with
 | c p=>cases p <;> simp [hr]
 | _=>simp [hr]
theorem shared_ext : Ext g w g.shared w := ⟨fun _B _id h=>shared_h.2 h,fun _=>Nat.le_refl _,fun _ _ _=>rfl⟩
theorem shared_own {id off : Nat} {u : Value} {c : AV} (h : OwnAV g w (.h id off) u c) : OwnAV g.shared w (.h id off) u c:=by
 cases c with
 | vs sz tg l =>
  rcases h with h | h | ⟨B,n,cap,us,e,h1,h2,h3⟩
  ·exact .inl h
  ·exact .inr (.inl h)
  ·exact .inr (.inr ⟨B,n,cap,us,e,h1,shared_ch.2 h2,h3⟩)
 | _=>trivial
theorem shared_inv (h : Inv g w) : Inv g.shared w:=by
 refine ⟨fun B hB=>⟨?_,(h.new B hB).2⟩,fun B id hB=>h.ph B id (shared_h.1 hB),fun B d hB=>absurd hB shared_noL,fun B B' id h1 h2=>h.injh B B' id (shared_h.1 h1) (shared_h.1 h2),fun B B' d h1 _=>absurd h1 shared_noL⟩
 show (match g.role B with
  | .h id=>Role.h id
  | .c (.h id off)=>.c (.h id off)
  | _=>.ext) = .ext
 rw [(h.new B hB).1]
theorem shared_relH {H : Hp} {nx : Nat} (h : RelH g H nx w) : RelH g.shared H nx w:=by
 refine ⟨fun id b hb=>?_,fun B id hB=>h.lt B id (shared_h.1 hB)⟩
 obtain ⟨B,hB,⟨us,e,h1,h2,h3⟩,hf⟩ := h.blk id b hb
 exact ⟨B,shared_h.2 hB,⟨us,e,h1,h2,h3.ext shared_ext⟩,fun off hoff u v hu hv=>shared_own (hf off hoff u v hu hv)⟩
def G.back (g : G) (n : Nat) (g' : G) (pl : Nat→Pl) : G := ⟨fun B=>match g'.role B with
 | .c (.r i)=>.c (pl i)
 | .ext=>if B < n then (match g.role B with
  | .h _=>.ext
  | .c (.h _ _)=>.ext
  | x=>x) else .ext
 | x=>x,g'.pub⟩
theorem back_h {n : Nat} {pl : Nat→Pl} (_hpl : ∀ i,(∃ d,pl i = .s d) ∨ (∃ d j,pl i = .sc d j) ∨ ∃ j,pl i = .r j) {B id : Nat} : (g.back n g' pl).role B = .h id ↔ g'.role B = .h id:=by
 unfold G.back
 simp only
 cases hr : g'.role B with
 | h id'=>simp
 | l d=>simp
 | c p=>cases p <;> simp
 | ext =>
  simp only
  split
  ·cases hg : g.role B with
   | c p=>cases p <;> simp
   | _=>simp
  ·simp
theorem call_imp (hg : Rel g0 w0 Ex g S a w) {rf : List Nat} {one : Bool} {out : Out} {v : Value} (hret : Ret rf one g.shared w (fun B=>g.shared.role B ≠ .ext) out v g' w') (dst : Option Nat) :
  Good g0 w0 Ex (({ S with H := out.H,nx := out.nx } : St).unlentH.putown dst out.v (resFl one rf)) (a.put dst v) w':=by
 let pl : Nat→Pl := fun i=>match dst with
  | some d=>match one with
   | true=>.s d
   | false=>.sc d i
  | none=>.r i
 have hpl : ∀ i,(∃ d,pl i = .s d) ∨ (∃ d j,pl i = .sc d j) ∨ ∃ j,pl i = .r j:=by
  intro i
  simp only [pl]
  cases dst with
  | none=>exact .inr (.inr ⟨i,rfl⟩)
  | some d=>cases one with
   | true=>exact .inl ⟨d,rfl⟩
   | false=>exact .inr (.inl ⟨d,i,rfl⟩)
 let g2 := g.back w.heap.size g' pl
 have r2 : ∀ B,g2.role B = match g'.role B with
  | .c (.r i)=>.c (pl i)
  | .ext=>if B < w.heap.size then (match g.role B with
   | .h _=>.ext
   | .c (.h _ _)=>.ext
   | x=>x) else .ext
  | x=>x := fun _=>rfl
 have p2 : g2.pub = g'.pub := rfl
 have hh : ∀ B id,g2.role B = .h id ↔ g'.role B = .h id := fun B id=>back_h hpl
 have loc : ∀ B,B < w.heap.size→g.shared.role B = .ext→g'.role B = .ext∧w'.heap[B]? = w.heap[B]?∧g'.pub B = g.pub B := fun B hB he=>by
  have hne : ¬ (g.shared.role B ≠ .ext) := fun h=>h he
  obtain ⟨h1,h2⟩ := hret.fr.same B hB hne
  refine ⟨?_,h1,h2⟩
  rcases Classical.em (g'.role B = .ext) with h | h
  ·exact h
  ·rcases hret.fr.role B h with h3 | h3
   ·omega
   ·exact absurd he h3
 have shExt : ∀ B x,g.role B = x→(∀ id,x ≠ .h id)→(∀ id off,x ≠ .c (.h id off))→g.shared.role B = .ext:=by
  intro B x hx h1 h2
  unfold G.shared
  simp only
  subst hx
  cases hr : g.role B with
  | h id=>exact absurd hr (h1 id)
  | c p=>cases p <;> first | rfl | (rename_i id off; exact absurd hr (h2 id off))
  | _=>rfl
 have keep : ∀ B x,B < w.heap.size→g.role B = x→x ≠ .ext→(∀ id,x ≠ .h id)→(∀ id off,x ≠ .c (.h id off))→g2.role B = x∧w'.heap[B]? = w.heap[B]?∧g2.pub B = g.pub B:=by
  intro B x hB hx h0 h1 h2
  obtain ⟨h3,h4,h5⟩ := loc B hB (shExt B x hx h1 h2)
  refine ⟨?_,h4,h5⟩
  rw [r2,h3]
  simp only
  rw [if_pos hB,hx]
  cases x with
  | h id=>exact absurd rfl (h1 id)
  | c p=>cases p <;> first | rfl | exact absurd rfl (h2 _ _)
  | _=>rfl
 have hE : Ext g w g2 w' := ⟨fun B id hB=>(hh B id).2 (hret.fr.ext.hrole B id (shared_h.2 hB)),fun B=>hret.fr.ext.pub B,fun B o ho=>hret.fr.ext.cell B o ho⟩
 have hE' : Ext g' w' g2 w' := ⟨fun B id hB=>(hh B id).2 hB,fun _=>Nat.le_refl _,fun _ _ _=>rfl⟩
 have inb : ∀ B x,g.role B = x→x ≠ .ext→B < w.heap.size := fun B x hx h0=>by
  rcases Nat.lt_or_ge B w.heap.size with h | h
  ·exact h
  ·rw [(hg.inv.new B h).1] at hx; exact absurd hx.symm h0
 have l2 : ∀ B d,g2.role B = .l d→g.role B = .l d:=by
  intro B d hB
  rw [r2] at hB
  cases hr : g'.role B with
  | ext =>
   rw [hr] at hB
   simp only at hB
   split at hB
   ·cases hgr : g.role B with
    | c p=>rw [hgr] at hB; cases p <;> cases hB
    | l d'=>rw [hgr] at hB; exact hB
    | _=>rw [hgr] at hB; cases hB
   ·cases hB
  | l d'=>exact absurd (.inl ⟨d',hr⟩) (hret.roles B)
  | h id=>rw [hr] at hB; cases hB
  | c p=>rw [hr] at hB; cases p <;> cases hB
 have ownKeep : ∀ p u c,(∀ id off,p ≠ .h id off)→OwnAV g w p u c→OwnAV g2 w' p u c:=by
  intro p u c hp hc
  cases c with
  | vs sz tg l =>
   rcases hc with h | h | ⟨B,n,cap,us,e,h1,h2,h3,h4,h5,h6⟩
   ·exact .inl h
   ·exact .inr (.inl h)
   ·obtain ⟨k1,k2,k3⟩ := keep B _ (heap_lt h3) h2 (by simp) (by simp) (fun id off e=>by injection e with e; exact hp id off e)
    exact .inr (.inr ⟨B,n,cap,us,e,h1,k1,by rw [k2]; exact h3,h4,h5,by rw [k3]; exact h6⟩)
  | _=>trivial
 have hrel : Rel g0 w0 Ex g2 ({ S with H := out.H,nx := out.nx } : St).unlentH a w':=by
  refine ⟨⟨fun B hB=>?_,fun B id hB=>hret.inv.ph B id ((hh B id).1 hB),fun B d hB=>?_,fun B B' id h1 h2=>hret.inv.injh B B' id ((hh _ _).1 h1) ((hh _ _).1 h2),fun B B' d h1 h2=>hg.inv.injl B B' d (l2 B d h1) (l2 B' d h2)⟩,
   ⟨fun id b hb=>?_,fun B id hB=>hret.h.lt B id ((hh B id).1 hB)⟩,fun d b hb=>?_,fun d l hl=>?_,by show (S.sl.map Slot.unlentH).length = _; rw [List.length_map]; exact hg.len,fun t=>?_,?_,hg.nodef⟩
  ·obtain ⟨h1,h2⟩ := hret.inv.new B hB
   refine ⟨?_,h2⟩
   rw [r2,h1]
   simp only
   rw [if_neg (by have := hret.fr.size; omega)]
  ·have hl := l2 B d hB
   rw [(keep B _ (inb B _ hl (by simp)) hl (by simp) (by simp) (by simp)).2.2]
   exact hg.inv.pl B d hl
  ·obtain ⟨B,hB,⟨us,e,h1,h2,h3⟩,hf⟩ := hret.h.blk id b hb
   refine ⟨B,(hh B id).2 hB,⟨us,e,h1,h2,h3.ext hE'⟩,fun off hoff u v hu hv=>?_⟩
   have := hf off hoff u v hu hv
   cases v with
   | vs sz tg l =>
    rcases this with h | h | ⟨B',n,cap,us',e',h1,h2,h3⟩
    ·exact .inl h
    ·exact .inr (.inl h)
    ·exact .inr (.inr ⟨B',n,cap,us',e',h1,by rw [r2,h2],h3⟩)
   | _=>trivial
  ·obtain ⟨B,hB,⟨us,e,h1,h2,h3⟩,hf⟩ := hg.l d b hb
   obtain ⟨k1,k2,k3⟩ := keep B _ (heap_lt h1) hB (by simp) (by simp) (by simp)
   refine ⟨B,k1,⟨us,e,by rw [k2]; exact h1,h2,h3.ext hE⟩,fun off hoff u v hu hv=>?_⟩
   rw [cell_keep k2] at hu
   exact ownKeep _ _ _ (by simp) (hf off hoff u v hu hv)
  ·obtain ⟨B,es,ck,h1,h2,h3⟩ := hg.m d l hl
   obtain ⟨k1,k2,k3⟩ := keep B _ (heap_lt h2) h1 (by simp) (by simp) (by simp)
   exact ⟨B,es,ck,k1,by rw [k2]; exact h2,h3.ext hE⟩
  ·rw [slot_unlentH]
   have hown : ∀ q v',(({ S with H := out.H,nx := out.nx } : St).unlentH).slot q = .val v' .own→S.slot q = .val v' .own := fun q v' hq=>slot_unlentH_own (S := { S with H := out.H,nx := out.nx }) hq
   show SlotRel g2 _ a w' t (S.slot t).unlentH
   have h1 := hg.sl t
   cases hst : S.slot t with
   | und=>trivial
   | lp d off =>
    rw [hst] at h1
    obtain ⟨B,h2,h3⟩ := h1
    exact ⟨B,(keep B _ (inb B _ h2 (by simp)) h2 (by simp) (by simp) (by simp)).1,h3⟩
   | mp d =>
    rw [hst] at h1
    obtain ⟨B,h2,h3⟩ := h1
    exact ⟨B,(keep B _ (inb B _ h2 (by simp)) h2 (by simp) (by simp) (by simp)).1,h3⟩
   | val v f =>
    rw [hst] at h1
    cases f with
    | no=>exact ⟨h1.1.ext hE,trivial⟩
    | own=>exact ⟨h1.1.ext hE,ownKeep _ _ _ (by simp) h1.2⟩
    | lS q=>exact ⟨h1.1.ext hE,fun v' hq=>h1.2 v' (hown q v' hq)⟩
    | lL d off =>
     refine ⟨h1.1.ext hE,fun b hb hoff=>?_⟩
     obtain ⟨B,h2,h3,h4⟩ := h1.2 b hb hoff
     obtain ⟨k1,k2,_⟩ := keep B _ (inb B _ h2 (by simp)) h2 (by simp) (by simp) (by simp)
     exact ⟨B,k1,by rw [cell_keep k2]; exact h3,h4⟩
    | lH id off=>exact ⟨h1.1.ext hE,trivial⟩
    | comps cs=>exact ⟨h1.1.ext hE,fun i hi us vs ui vi e1 e2 e3 e4=>ownKeep _ _ _ (by simp) (h1.2 i hi us vs ui vi e1 e2 e3 e4)⟩
  ·refine ⟨hg.fr.ext.trans hE,hret.fr.os.trans hg.fr.os,hret.fr.tape.trans hg.fr.tape,hret.fr.output.trans hg.fr.output,Nat.le_trans hg.fr.size hret.fr.size,fun B hB hx=>?_,fun B hB=>?_⟩
   ·have hge : g.role B = .ext:=by
     rcases Classical.em (g.role B = .ext) with h | h
     ·exact h
     ·rcases hg.fr.role B h with h1 | h1
      ·omega
      ·exact absurd h1 hx
    obtain ⟨_,h2,h3⟩ := loc B (Nat.lt_of_lt_of_le hB hg.fr.size) (shExt B _ hge (by simp) (by simp))
    obtain ⟨h4,h5⟩ := hg.fr.same B hB hx
    exact ⟨h2.trans h4,h3.trans h5⟩
   ·rcases Nat.lt_or_ge B w.heap.size with hlt | hge
    ·rcases Classical.em (g.role B = .ext) with h | h
     ·exfalso
      obtain ⟨h2,_⟩ := loc B hlt (shExt B _ h (by simp) (by simp))
      apply hB
      rw [r2,h2]
      simp only
      rw [if_pos hlt,h]
     ·exact hg.fr.role B h
    ·exact .inl (Nat.le_trans hg.fr.size hge)
 refine ⟨g2,hrel.putown dst (hret.rep.ext hE') (fun d hd=>?_) ?_⟩
 ·have conv : ∀ i u c,OwnAV g' w' (.r i) u c→OwnAV g2 w' (pl i) u c:=by
   intro i u c hc
   cases c with
   | vs sz tg l =>
    rcases hc with h | h | ⟨B,n,cap,us,e,h1,h2,h3⟩
    ·exact .inl h
    ·exact .inr (.inl h)
    ·exact .inr (.inr ⟨B,n,cap,us,e,h1,by rw [r2,h2],h3⟩)
   | _=>trivial
  subst hd
  unfold resFl
  cases one with
  | true =>
   simp only
   split
   ·rename_i hm
    exact conv 0 _ _ (hret.own1 rfl (memN_iff.1 hm))
   ·trivial
  | false =>
   simp only
   split
   ·trivial
   ·rename_i hne
    intro i hi us vs ui vi e1 e2 e3 e4
    exact conv i _ _ (hret.own rfl i hi us vs ui vi e1 e2 e3 e4)
 ·unfold resFl
  cases one with
  | true=>simp only; split <;> simp
  | false=>simp only; split <;> simp
def G.pback (g : G) (n : Nat) (g' : G) (pl : Nat→Pl) : G := ⟨fun B=>if B < n then g.role B else match g'.role B with
 | .c (.r i)=>.c (pl i)
 | _=>.ext,g'.pub⟩
def G.none (g : G) : G := ⟨fun _=>.ext,g.pub⟩
theorem none_inv (h : Inv g w) : Inv g.none w := ⟨fun B hB=>⟨rfl,(h.new B hB).2⟩,fun _ _ hB=>(by cases hB),fun _ _ hB=>(by cases hB),fun _ _ _ hB=>(by cases hB),fun _ _ _ hB=>(by cases hB)⟩
theorem call_pure (hg : Rel g0 w0 Ex g S a w) {rf : List Nat} {one : Bool} {out : Out} {v : Value} (hret : Ret rf one g.none w (fun B=>g.none.role B ≠ .ext) out v g' w') (hp : out.v.pure = true) (dst : Option Nat) :
  Good g0 w0 Ex (S.putown dst out.v (resFl one rf)) (a.put dst v) w':=by
 let pl : Nat→Pl := fun i=>match dst with
  | some d=>match one with
   | true=>.s d
   | false=>.sc d i
  | none=>.r i
 let g2 := g.pback w.heap.size g' pl
 have r2 : ∀ B,g2.role B = if B < w.heap.size then g.role B else match g'.role B with
  | .c (.r i)=>.c (pl i)
  | _=>.ext := fun _=>rfl
 have old : ∀ B,B < w.heap.size→w'.heap[B]? = w.heap[B]?∧g'.pub B = g.pub B := fun B hB=>hret.fr.same B hB (fun h=>h rfl)
 have hpl : ∀ i,(∀ id,Role.c (pl i) ≠ .h id)∧∀ d,Role.c (pl i) ≠ .l d := fun i=>⟨by simp,by simp⟩
 have newr : ∀ B,¬ B < w.heap.size→(∀ id,g2.role B ≠ .h id)∧∀ d,g2.role B ≠ .l d:=by
  intro B hB
  rw [r2,if_neg hB]
  cases g'.role B with
  | c p=>cases p <;> simp
  | _=>simp
 have hinv : Inv g2 w':=by
  refine ⟨fun B hB=>?_,fun B id hB=>?_,fun B d hB=>?_,fun B B' id h1 h2=>?_,fun B B' d h1 h2=>?_⟩
  ·obtain ⟨h1,h2⟩ := hret.inv.new B hB
   refine ⟨?_,h2⟩
   rw [r2,if_neg (by have := hret.fr.size; omega),h1]
  ·rcases Classical.em (B < w.heap.size) with h | h
   ·rw [r2,if_pos h] at hB
    show g'.pub B = 0
    rw [(old B h).2]; exact hg.inv.ph B id hB
   ·exact absurd hB ((newr B h).1 id)
  ·rcases Classical.em (B < w.heap.size) with h | h
   ·rw [r2,if_pos h] at hB
    show g'.pub B = 0
    rw [(old B h).2]; exact hg.inv.pl B d hB
   ·exact absurd hB ((newr B h).2 d)
  ·rcases Classical.em (B < w.heap.size) with h | h
   ·rcases Classical.em (B' < w.heap.size) with h' | h'
    ·rw [r2,if_pos h] at h1
     rw [r2,if_pos h'] at h2
     exact hg.inv.injh B B' id h1 h2
    ·exact absurd h2 ((newr B' h').1 id)
   ·exact absurd h1 ((newr B h).1 id)
  ·rcases Classical.em (B < w.heap.size) with h | h
   ·rcases Classical.em (B' < w.heap.size) with h' | h'
    ·rw [r2,if_pos h] at h1
     rw [r2,if_pos h'] at h2
     exact hg.inv.injl B B' d h1 h2
    ·exact absurd h2 ((newr B' h').2 d)
   ·exact absurd h1 ((newr B h).2 d)
 have hE : Ext g w g2 w':=by
  refine ⟨fun B id hB=>?_,fun B=>hret.fr.ext.pub B,fun B o ho=>hret.fr.ext.cell B o ho⟩
  have : B < w.heap.size:=by
   rcases Nat.lt_or_ge B w.heap.size with h | h
   ·exact h
   ·rw [(hg.inv.new B h).1] at hB; cases hB
  rw [r2,if_pos this]; exact hB
 have hk : Keep (fun _=>False) g w g2 w' := ⟨hE,hret.fr.os,hret.fr.tape,hret.fr.output,hret.fr.size,fun B hB _=>⟨(old B hB).1,by rw [r2,if_pos hB],(old B hB).2⟩⟩
 have hrel := hg.grow hk hinv (fun B id hB=>by
  rcases Classical.em (B < w.heap.size) with h | h
  ·rw [r2,if_pos h] at hB; exact hg.h.lt B id hB
  ·exact absurd hB ((newr B h).1 id))
 refine ⟨g2,hrel.putown dst (hret.rep.pure hp g2 (fun _=>Nat.le_refl _)) (fun d hd=>?_) ?_⟩
 ·have conv : ∀ i u c,OwnAV g' w' (.r i) u c→OwnAV g2 w' (pl i) u c:=by
   intro i u c hc
   cases c with
   | vs sz tg l =>
    rcases hc with h | h | ⟨B,n,cap,us,e,h1,h2,h3⟩
    ·exact .inl h
    ·exact .inr (.inl h)
    ·have hB : ¬ B < w.heap.size := fun hlt=>by
      rcases hret.fr.role B (by rw [h2]; simp) with h | h
      ·omega
      ·exact h rfl
     exact .inr (.inr ⟨B,n,cap,us,e,h1,by rw [r2,if_neg hB,h2],h3⟩)
   | _=>trivial
  subst hd
  unfold resFl
  cases one with
  | true =>
   simp only
   split
   ·rename_i hm
    exact conv 0 _ _ (hret.own1 rfl (memN_iff.1 hm))
   ·trivial
  | false =>
   simp only
   split
   ·trivial
   ·rename_i hne
    intro i hi us vs ui vi e1 e2 e3 e4
    exact conv i _ _ (hret.own rfl i hi us vs ui vi e1 e2 e3 e4)
 ·unfold resFl
  cases one with
  | true=>simp only; split <;> simp
  | false=>simp only; split <;> simp
theorem none_relH : RelH g.none Hp.none 0 w := ⟨fun id b hb=>(by cases hb),fun B id hB=>(by cases hB)⟩
theorem opCall_ok {c : Call} {fo : Operand} {k : St→Option R} (hN : ∀ (f : Nat) (fn : Func),P.funcs[f]? = some fn→fn.name ≠ "runtime.NumGoroutine") (hcal : CalOk P A cal) (hgl : GlobOk A g0 w0) (ho : o.op = .call c) (hf : c.callee = .value fo)
  (h : opCall P A cal o fo c.argTypes.toList c.args.toList S k = some r) (hg : Rel g0 w0 Ex g S a w) : OpOk P o a w g0 w0 Ex k r:=by
 unfold opCall at h
 obtain ⟨f,caps,hev,h1⟩ := func?_some h
 clear h
 have hfr := hg.ev fo
 rw [hev] at hfr
 obtain ⟨cus,hfv,hcr⟩ := rep_func hfr
 have hargs := (evsT_rep (P := P) hg c.argTypes.toList c.args.toList).append hcr
 have hrun : (∃ fn cc,P.funcs[f]? = some fn∧fn.body = some cc)→(execOp a.eval o).run P w = .ok (.enter f (c.args.toList.map a.eval ++ cus).toArray) w:=by
  rintro ⟨fn,cc,hfn,hb⟩
  have hn := hN f fn hfn
  have e1 : c.args.map a.eval ++ cus.toArray = (c.args.toList.map a.eval ++ cus).toArray:=by
   apply Array.ext'; simp
  simp only [execOp,ho,resolve,hf,hfv,Deferred.ofValue,invoke,callFunc,Sem.run_bind,Sem.run_pure,Result.andThen_ok,run_program,hfn,hb]
  simp [hn,e1]
 intro Q
 unfold Oper.wp
 split at h1
 ·obtain ⟨out,hc,h2⟩ := bind_some' h1
  obtain ⟨hfn,hcc⟩ := hcal _ _ _ _ _ hc
  rw [hrun hfn,Oper.upon_enter]
  refine (hcc g.shared w _ (shared_inv hg.inv) (shared_relH hg.h) shared_shared (fun h0=>by simp_all) ((hgl.ext hg.fr.ext).ext shared_ext) (hargs.ext shared_ext)).mono ?_
  rintro e w' ⟨v,g',rfl,hret⟩
  exact ⟨_,call_imp hg hret o.dst,h2⟩
 ·obtain ⟨hp,h2⟩ := br_left h1
  obtain ⟨out,hc,h3⟩ := bind_some' h2
  obtain ⟨hp2,h4⟩ := br_left h3
  obtain ⟨hfn,hcc⟩ := hcal _ _ _ _ _ hc
  rw [hrun hfn,Oper.upon_enter]
  have hargs' : RepL g.none w (c.args.toList.map a.eval ++ cus) (evsT P S c.argTypes.toList c.args.toList ++ caps) :=
   ⟨hargs.1,fun j u cv hu hcv=>(hargs.2 j u cv hu hcv).pure (pureL_get hp j cv hcv) g.none (fun _=>Nat.le_refl _)⟩
  refine (hcc g.none w _ (none_inv hg.inv) none_relH (fun _=>.inl rfl) (fun _ _=>rfl) ((hgl.ext hg.fr.ext).pure fun _=>Nat.le_refl _) hargs').mono ?_
  rintro e w' ⟨v,g',rfl,hret⟩
  exact ⟨_,call_pure hg hret hp2 o.dst,h4⟩
end
end Go.Vai
end
section
namespace Go.Vai
section
variable {X : Nat→Prop} {g0 : G} {w0 : World} {Ex : Nat→Prop} {g g' : G} {S : St} {a : Act} {w w' : World} {P : Program} {R : Type} {r : R} {o : Oper} {A : List (Nat × Ann)} {cal : Oracle}
def Fresh0 (g0 : G) (w0 : World) (Ex : Nat→Prop) : Prop := Inv g0 w0∧∀ B,¬ Ex B
theorem rep_flat {u : Value} {c : AV} (h : Rep g w u c) (hc : c.flat = true) (g' : G) (w' : World) : Rep g' w' u c:=by
 cases h <;> first | (cases hc; done) | skip
 ·exact .bool _
 ·exact .int _ _
 ·exact .str _
 ·exact .nilp
 ·exact .nilI
theorem flat_cells {l : List AV} (h : flatL l = true) : l.flatMap AV.cells = l:=by
 induction l with
 | nil=>rfl
 | cons x l ih =>
  simp only [flatL] at h
  split at h
  ·rename_i hx
   rw [List.flatMap_cons,ih h]
   cases x <;> first | rfl | cases hx
  ·cases h
theorem flat_mem {l : List AV} (h : flatL l = true) {j : Nat} {c : AV} (hc : l[j]? = some c) : c.flat = true:=by
 induction l generalizing j with
 | nil=>simp at hc
 | cons x l ih =>
  simp only [flatL] at h
  split at h
  ·rename_i hx
   cases j with
   | zero=>simp at hc; rw [← hc]; exact hx
   | succ j=>exact ih h (by simpa using hc)
  ·cases h
theorem Rel.thaw (h : Rel g0 w0 Ex g S a w) (hf : Fresh0 g0 w0 Ex) {u : Value} {tg : Bool} {l : List AV} (hB : OwnB g w (.r 0) 1 u) (hr : Rep g w u (.vs 1 tg l)) (hfl : flatL l = true) (hH : ∀ i,S.H i = none) (id nx' : Nat) :
  ∃ g',Rel g0 w0 Ex g' ⟨S.sl.map Slot.purge,[],Hp.none.set id ⟨l,[]⟩,nx',[]⟩ a w∧Rep g' w u (.arr id 0 l.length 1):=by
 obtain ⟨B,n,cap,us,e,rfl,hrole,hheap,hsz,hle,hpub⟩ := hB
 have hBlt := heap_lt hheap
 have hw0 : w0.heap.size ≤ B:=by
  rcases h.fr.role B (by rw [hrole]; simp) with h1 | h1
  ·exact h1
  ·exact absurd h1 (hf.2 B)
 have noh : ∀ b i,g.role b ≠ .h i := fun b i he=>h.h.lt b i he (hH i)
 let g1 : G := ⟨fun b=>if b = B then .h id else g.role b,fun b=>if b = B then 0 else g.pub b⟩
 have r1 : ∀ b,g1.role b = if b = B then .h id else g.role b := fun _=>rfl
 have p1 : ∀ b,g1.pub b = if b = B then 0 else g.pub b := fun _=>rfl
 have hset : ∀ i,Hp.none.set id ⟨l,[]⟩ i = if i = id then some ⟨l,[]⟩ else none := fun i=>by
  rw [Hp_set]; rfl
 have hone : ∀ b d,g1.role b = .l d→b ≠ B∧g.role b = .l d := fun b d hb=>by
  rw [r1] at hb
  split at hb
  ·cases hb
  ·rename_i hne; exact ⟨hne,hb⟩
 have honeh : ∀ b i,g1.role b = .h i→b = B∧i = id := fun b i hb=>by
  rw [r1] at hb
  split at hb
  ·rename_i he; injection hb with hb; exact ⟨he,hb.symm⟩
  ·exact absurd hb (noh b i)
 have hr2 : ∃ B2 off cap' vals,Value.slice (some ⟨B,0,none⟩) n cap = .slice (some ⟨B2,off,none⟩) l.length cap'∧(∀ x ∈ l,x.cells.length = 1)∧(tg = true→cap' = l.length)∧l.length ≤ cap' ∧
   (∀ (j : Nat) (u : Value),vals[j]? = some u→w.cell? ⟨B2,off + j,none⟩ = some u∧off + j < g.pub B2∧u.oneCell' = true)∧RepL g w vals (l.flatMap AV.cells):=by
  rcases rep_vs hr with ⟨⟨q,hu⟩,hl0⟩ | h
  ·subst hl0
   injection hu with e1 e2 e3
   subst e2 e3
   exact ⟨B,0,0,[],rfl,by simp,fun _=>rfl,Nat.le_refl _,fun j u hu=>by simp at hu,⟨rfl,fun j u c hu=>by simp at hu⟩⟩
  ·exact h
 obtain ⟨B2,off,cap',vals,hu,hs,_,hc,hcell,hrl⟩ := hr2
 injection hu with e1 e2 e3
 injection e1 with e1
 injection e1 with e1 e4 _
 subst e1 e2 e3 e4
 rw [flat_cells hfl] at hrl
 have hus : us.toList.toArray = us := by simp
 have hval : ∀ j x,j < l.length→us.toList[j]? = some x→vals[j]? = some x∧x.oneCell' = true := fun j x hj hx=>by
  have hjv : j < vals.length := by rw [hrl.1]; exact hj
  have h1 := hcell j vals[j] (List.getElem?_eq_getElem hjv)
  have h2 := h1.1
  rw [Nat.zero_add] at h2
  simp only [World.cell?,hheap] at h2
  have h3 : us[j]? = some vals[j] := by simpa using h2
  have h4 : us[j]? = some x := by simpa using hx
  rw [h3] at h4
  injection h4 with h4
  rw [← h4]
  exact ⟨List.getElem?_eq_getElem hjv,h1.2.2⟩
 have hul : l.length ≤ us.toList.length:=by
  have h7 : us.toList.length = us.size := Array.length_toList
  omega
 refine ⟨g1,⟨⟨fun b hb=>?_,fun b i hb=>?_,fun b d hb=>?_,fun b b' i k1 k2=>?_,fun b b' d k1 k2=>?_⟩,⟨fun i b hb=>?_,fun b i hb=>?_⟩,fun d b hb=>(by cases hb),fun d b hb=>(by cases hb),?_,fun t=>?_,?_,h.nodef⟩,?_⟩
 ·rw [r1,p1,if_neg (by omega),if_neg (by omega)]
  exact h.inv.new b hb
 ·rw [p1,if_pos (honeh b i hb).1]
 ·rw [p1,if_neg (hone b d hb).1]
  exact h.inv.pl b d (hone b d hb).2
 ·rw [(honeh b i k1).1,(honeh b' i k2).1]
 ·exact h.inv.injl b b' d (hone b d k1).2 (hone b' d k2).2
 ·have hb' : Hp.none.set id ⟨l,[]⟩ i = some b := hb
  rw [hset] at hb'
  split at hb'
  ·rename_i hi
   subst hi
   injection hb' with hb'
   subst hb'
   refine ⟨B,by rw [r1,if_pos rfl],⟨us.toList,e,by rw [hus]; exact hheap,fun j x hj hx=>(hval j x hj hx).2,hul,fun j x c hx hcj=>?_⟩,fun off hoff=>(by cases hoff)⟩
   have hj : j < l.length := (List.getElem?_eq_some_iff.1 hcj).1
   exact rep_flat (hrl.2 j x c (hval j x hj hx).1 hcj) (flat_mem hfl hcj) _ _
  ·cases hb'
 ·show Hp.none.set id ⟨l,[]⟩ i ≠ none
  rw [hset,if_pos (honeh b i hb).2]
  simp
 ·show (S.sl.map Slot.purge).length = _
  rw [List.length_map]; exact h.len
 ·show SlotRel g1 _ a w t (nthS (S.sl.map Slot.purge) t)
  rw [nthS_map _ rfl]
  have h1 := h.sl t
  have e0 : nthS S.sl t = S.slot t := rfl
  rw [e0]
  cases hst : S.slot t with
  | und=>trivial
  | lp d off=>trivial
  | mp d=>trivial
  | val v f =>
   rw [hst] at h1
   simp only [Slot.purge]
   split
   ·rename_i hv
    exact ⟨rep_flat h1.1 hv _ _,trivial⟩
   ·trivial
 ·refine ⟨⟨fun b i hb=>absurd (h.fr.ext.1 b i hb) (noh b i),fun b=>?_,h.fr.ext.3⟩,h.fr.os,h.fr.tape,h.fr.output,h.fr.size,fun b hb hx=>?_,fun b hb=>?_⟩
  ·rw [p1]
   split
   ·rename_i hbB
    rw [hbB,(hf.1.new B hw0).2]
    exact Nat.le_refl _
   ·exact h.fr.ext.2 b
  ·rw [p1,if_neg (by omega)]
   exact h.fr.same b hb hx
  ·rw [r1] at hb
   split at hb
   ·rename_i hbB; exact .inl (hbB ▸ hw0)
   ·exact h.fr.role b hb
 ·exact .arr B id 0 l.length cap 1 (by rw [r1,if_pos rfl]) hc
theorem setS_twice : ∀ (l : List Slot) (d : Nat) (s s' : Slot),setS (setS l d s) d s' = setS l d s'
 | [],_,_,_=>rfl
 | _ :: _,0,_,_=>rfl
 | y :: l,d + 1,s,s'=>by simp only [setS,setS_twice l d s s']
theorem purge_putown (S : St) (d : Nat) (v : AV) (x : Slot) (H : Hp) (n : Nat) :
  ((⟨(S.putown (some d) v .own).sl.map Slot.purge,[],H,n,[]⟩ : St).put d x) = ((⟨S.sl.map Slot.purge,[],H,n,[]⟩ : St).put d x):=by
 have e1 : ∀ (l : List Slot) (s : Slot),(setS l d s).map Slot.purge = setS (l.map Slot.purge) d s.purge:=by
  intro l s
  induction l generalizing d with
  | nil=>rfl
  | cons y l ih=>cases d with
   | zero=>rfl
   | succ d=>simp only [setS,List.map_cons,ih]
 have e2 : (S.sl.map (Slot.unS d)).map Slot.purge = S.sl.map Slot.purge:=by
  rw [List.map_map]
  congr 1
  funext s
  cases s with
  | val v f =>
   cases f with
   | lS q =>
    simp only [Function.comp,Slot.unS]
    split <;> rfl
   | _=>rfl
  | _=>rfl
 show (⟨setS ((setS (S.sl.map (Slot.unS d)) d (.val v .own)).map Slot.purge) d x,[],H,n,[]⟩ : St) = ⟨setS (S.sl.map Slot.purge) d x,[],H,n,[]⟩
 rw [e1,e2,setS_twice]
theorem opAppendT_step {an : Ann} {st st2 : TypeId} {x y : Operand} {k : St→Option R} (ho : o.op = .call { callee := .builtin .append,args := #[x,y],argTypes := #[st,st2] })
  (hf : an.imp = false→Fresh0 g0 w0 Ex) (h : opAppendT P an o st st2 x y S k = some r) (hg : Rel g0 w0 Ex g S a w) : StepTo P o a w g0 w0 Ex k r:=by
 unfold opAppendT at h
 split at h
 ·cases h
 ·rename_i himp
  split at h
  ·cases h
  ·rename_i d hd
   obtain ⟨sz,tg,l,hva,S0,l2,u',w',g',hrun,hrel,hrep,_,hB,_,hk⟩ := opAppend_mid ho h hg
   rw [hd] at hk
   simp only at hk
   split at hk
   ·rename_i z tg1 l1 hav
    have hlt : d < (St.unlent S0).sl.length:=by
     rcases Nat.lt_or_ge d (St.unlent S0).sl.length with hlt | hge
     ·exact hlt
     ·exfalso
      have : ((St.unlent S0).putown (some d) (.vs sz false (l ++ l2)) .own).slot d = .und:=by
       show nthS (setS ((St.unlent S0).sl.map (Slot.unS d)) d _) d = .und
       cases hn : nthS (setS ((St.unlent S0).sl.map (Slot.unS d)) d (.val (.vs sz false (l ++ l2)) .own)) d with
       | und=>rfl
       | _ =>
        have := nthS_lt (l := setS ((St.unlent S0).sl.map (Slot.unS d)) d (.val (.vs sz false (l ++ l2)) .own)) (t := d) (by rw [hn]; simp)
        rw [setS_length,List.length_map] at this
        omega
      rw [this] at hav
      cases hav
    have hsl : ((St.unlent S0).putown (some d) (.vs sz false (l ++ l2)) .own).slot d = .val (.vs sz false (l ++ l2)) .own:=by
     show (({ (St.unlent S0) with sl := (St.unlent S0).sl.map (Slot.unS d) } : St).put d _).slot d = _
     rw [slot_put,if_pos ⟨rfl,by show d < ((St.unlent S0).sl.map _).length; rw [List.length_map]; exact hlt⟩]
    rw [hsl] at hav
    injection hav with e1 e2 e3
    subst e1 e2 e3
    obtain ⟨hc,hk⟩ := br_left hk
    rw [Bool.and_eq_true,Bool.and_eq_true] at hc
    obtain ⟨hz,hfl,hlen⟩ := hc
    obtain rfl := beq_true hz
    have hne : l2 ≠ [] := fun e=>by
     subst e
     rw [hva,List.append_nil] at hlen
     rw [Nat.blt_eq] at hlen
     exact Nat.lt_irrefl _ hlen
    split at hk
    ·rename_i hH
     have hH' : (St.unlent S0).H = [] := hH
     obtain ⟨g1,h1,h2⟩ := hrel.thaw (hf himp) (hB hne) hrep hfl (fun i=>by rw [hH']; rfl) ((St.unlent S0).putown (some d) (.vs 1 false (l ++ l2)) .own).nx (((St.unlent S0).putown (some d) (.vs 1 false (l ++ l2)) .own).nx + 1)
     refine .mk hrun ⟨g1,?_⟩ hk
     rw [purge_putown,hd]
     exact h1.putv (f := .no) (some d) h2 (fun _ _=>trivial) (by simp) (by simp)
    ·cases hk
   ·cases hk
theorem mem_zeroCells {z : Array Value} {n : Nat} (h : ∀ u ∈ z.toList,u.oneCell' = true) : ∀ u ∈ (Builtin.zeroCells z n).toList,u.oneCell' = true:=by
 intro u hu
 unfold Builtin.zeroCells at hu
 simp at hu
 obtain ⟨j,hj,hu⟩ := hu
 have hs : 0 < z.size:=by
  rcases Nat.eq_zero_or_pos z.size with h0 | h0
  ·rw [h0,Nat.mul_zero] at hj; omega
  ·exact h0
 have hlt : j % z.size < z.size := Nat.mod_lt _ hs
 rw [getElem!_pos z _ hlt] at hu
 exact h u (by rw [← hu]; simp)
theorem opAppendM_step {st st2 : TypeId} {x y : Operand} {k : St→Option R} (ho : o.op = .call { callee := .builtin .append,args := #[x,y],argTypes := #[st,st2] })
  (h : opAppendM P o st st2 x y S k = some r) (hg : Rel g0 w0 Ex g S a w) : StepTo P o a w g0 w0 Ex k r:=by
 unfold opAppendM at h
 split at h
 ·cases h
 rename_i d hd
 split at h
 ·rename_i e he hzo
  have hu : P.underlying st = some (.slice e):=by
   unfold tElem at he
   split at he
   ·rename_i e' hu; injection he with he; rw [hu,he]
   ·cases he
  split at h
  ·rename_i hag hz1 hst
   have hz1' := beq_true hz1
   have hz : tSize P e ≠ 0 := by omega
   obtain ⟨i,hi,hisz,hiby⟩ := info_of_pos hz
   obtain ⟨zv,hzv,hzone⟩ : ∃ zv,i.zero = some zv∧∀ u ∈ zv.cells.toList,u.oneCell' = true:=by
    unfold zeroOk at hzo
    rw [he] at hzo
    simp only at hzo
    split at hzo
    ·rename_i z hzz
     obtain ⟨i',v,hi',hv,_,h1⟩ := zeroCells_some (g := g) (w := w) hzz
     rw [hi] at hi'
     injection hi' with hi'
     subst hi'
     exact ⟨v,hv,h1⟩
    ·cases hzo
   have ht2 : (∃ e2,P.underlying st2 = some (.slice e2)) ∨ P.underlying st2 = some .string:=by
    unfold srcType at hst
    split at hst
    ·exact .inl ⟨_,‹_›⟩
    ·exact .inr ‹_›
    ·cases hst
   obtain ⟨l2,news,h1,hsrc⟩ := elemsOf_sound (P := P) hg h (hg.evT (P := P) st y)
   clear h
   obtain ⟨z,tg,l,hva,h2⟩ := vs?_some h1
   clear h1
   have hra := hg.evT (P := P) st x
   rw [hva] at hra
   split at h2
   ·obtain ⟨h3,h4⟩ := br_left h2
    clear h2
    rw [Bool.and_eq_true] at h3
    obtain ⟨htg,hz3⟩ := h3
    obtain rfl := beq_true hz3
    subst htg
    obtain ⟨hb1,h5⟩ := br_left h4
    clear h4
    obtain ⟨hb2,h6⟩ := br_left h5
    clear h5
    have hb1' := ble_true hb1
    have hb2' := ble_true hb2
    have hmx : maxBytes = 140737488355328 := rfl
    have his1 : i.size = 1 := by omega
    rw [← hiby] at hb1'
    have hfc : ∀ w',(∀ B o,B < w.heap.size→w'.cell? ⟨B,o,none⟩ = w.cell? ⟨B,o,none⟩)→(Builtin.firstCells i.size l2.length (a.eval y)).run P w' = .ok news.toArray w' := fun w' hw=>by
     have h := hsrc.cells l2.length w' (Nat.le_refl _) hw
     rw [his1]
     rwa [List.take_of_length_le (by rw [hsrc.rep.1,flat_len hsrc.sizes]; exact Nat.le_refl _)] at h
    have hnl : news.length = l2.length := by rw [hsrc.rep.1,flat_len hsrc.sizes,Nat.mul_one]
    obtain ⟨base,hbase⟩ : ∃ base : Option Addr,a.eval x = .slice base 0 0:=by
     rcases rep_vs hra with ⟨h,_⟩ | ⟨B,off,cap,vals,h,_,ht,_⟩
     ·exact h
     ·have := ht rfl
      subst this
      exact ⟨_,h⟩
    have hexe : ∀ u' w',(Builtin.append_ #[st,st2] o.type #[a.eval x,a.eval y]).run P w = .ok u' w'→(execOp a.eval o).run P w = .ok (.value u') w' := fun u' w' hrun=>by
     simp only [execOp,ho,resolve,invoke,builtin,Sem.run_bind,Sem.run_pure,Result.andThen_ok,List.map_toArray,List.map_cons,List.map_nil,hrun]
    rcases br_some h6 with ⟨h0,h3⟩ | ⟨h0,h3⟩
    ·have h0' := beq_true h0
     have hl0 : l2 = [] := List.eq_nil_of_length_eq_zero h0'
     subst hl0
     have hn0 : news = [] := List.eq_nil_of_length_eq_zero (by simpa using hnl)
     subst hn0
     have hrun := run_append_base (ty := o.type) (base := base) (n := 0) (cap := 0) (m := 0) hu ht2 hi (hsrc.len w) (hfc w (fun _ _ _=>rfl)) (Nat.le_refl _)
     refine .mk (u := .slice base 0 0) (w' := w) (hexe _ _ ?_) ⟨g,?_⟩ h3
     ·rw [hbase,hrun]
      cases base <;> rfl
     ·rw [hd]
      refine hg.unlent.putv (f := .no) (some d) ?_ (fun _ _=>trivial) (by simp) (by simp)
      rw [← hbase]
      exact hra
    ·have hne : l2.length ≠ 0 := fun e=>by rw [e] at h0; cases h0
     obtain ⟨hn,h4⟩ := new?_some h3
     have hfo : (Builtin.firstCells i.size 0 (.slice base 0 0)).run P w.drew = .ok ([] : List Value).toArray w.drew:=by
      cases base with
      | none=>simp [Builtin.firstCells]
      | some ad =>
       have := run_loadCells_list (P := P) w.drew ad [] (fun j v hv=>by simp at hv)
       simpa [Builtin.firstCells] using this
     have hrun := run_append_grow' (ty := o.type) (base := base) (n := 0) (cap := 0) (m := l2.length) (olds := []) hu ht2 hi hzv (hsrc.len w) (hfc w.drew (fun _ _ _=>rfl)) hfo (by omega) (by omega) (by rw [Nat.zero_add]; omega)
     have hge := grownCap_ge w (0 + l2.length) 0 e
     have hoz := mem_zeroCells (z := zv.cells) (n := grownCap w (0 + l2.length) 0 e - (0 + l2.length)) hzone
     generalize (Builtin.zeroCells zv.cells (grownCap w (0 + l2.length) 0 e - (0 + l2.length))).toList = zs at hrun hoz
     have hfl : (l2.flatMap AV.cells).length = l2.length := by rw [flat_len hsrc.sizes,Nat.mul_one]
     have hrl : RepP g w.drew (news ++ zs) (l2.flatMap AV.cells):=by
      refine ⟨by rw [List.length_append,hfl]; omega,fun j u c hu hc=>?_⟩
      have hj : j < news.length := by have := (List.getElem?_eq_some_iff.1 hc).1; omega
      rw [List.getElem?_append_left hj] at hu
      exact Rep.ext (w := w) (g := g) (hsrc.rep.2 j u c hu hc) (⟨fun _ _ h=>h,fun _=>Nat.le_refl _,fun _ _ _=>rfl⟩ : Ext g w g w.drew)
     have hone : ∀ u ∈ news ++ zs,u.oneCell' = true := fun u hu=>by
      rcases List.mem_append.1 hu with h | h
      ·exact hsrc.one u h
      ·exact hoz u h
     have hnew := hg.drew.newHf (us := news ++ zs) (cells := l2.flatMap AV.cells) (free := []) e hn (S.nx + 1) (oneP_of hone _) hrl (by simp)
     rw [hbase] at hexe
     refine .mk (hexe _ _ hrun) ⟨g.new w.drew.heap.size (.h S.nx) 0,?_⟩ h4
     rw [hd]
     refine hnew.putv (f := .no) (some d) ?_ (fun _ _=>trivial) (by simp) (by simp)
     have := Rep.arr (g := g.new w.drew.heap.size (.h S.nx) 0) (w := w.drew.alloc (.cells (news ++ zs).toArray e)) w.heap.size S.nx 0 (0 + l2.length) (grownCap w (0 + l2.length) 0 e) 1 (by rw [new_role]; exact if_pos rfl) hge
     rw [Nat.zero_add] at this
     rw [Nat.zero_add]
     exact this
   ·cases h2
  ·cases h
 ·cases h
theorem opCat_ok {k : AV→Option R} {d : Nat} (h : opCat P o S k = some r) (hd : o.dst = some d) (hg : Rel g0 w0 Ex g S a w) :
  ∃ u w' g' v,(execOp a.eval o).run P w = .ok (.value u) w'∧k v = some r∧Rel g0 w0 Ex g' (S.put d (.val v .no)) (a.put (some d) u) w':=by
 unfold opCat at h
 split at h
 ·rename_i c hop
  split at h
  ·rename_i bi hbi
   split at h
   ·split at h
    ·rename_i st st2 x y hty har
     have ho : o.op = .call { callee := .builtin .append,args := #[x,y],argTypes := #[st,st2] }:=by
      rw [hop]
      congr 1
      obtain ⟨cal,args,tys⟩ := c
      simp only at hbi hty har
      have e1 : args = #[x,y] := by rw [← Array.toArray_toList (xs := args),har]
      have e2 : tys = #[st,st2] := by rw [← Array.toArray_toList (xs := tys),hty]
      rw [hbi,e1,e2]
     split at h
     ·rename_i cc
      split at h
      ·rename_i e he hzo
       have hu : P.underlying st = some (.slice e):=by
        unfold tElem at he
        split at he
        ·rename_i e' hu; injection he with he; rw [hu,he]
        ·cases he
       split at h
       ·rename_i hag hz1 hst
        have hz1' := beq_true hz1
        have hz : tSize P e ≠ 0 := by omega
        obtain ⟨i,hi,hisz,hiby⟩ := info_of_pos hz
        obtain ⟨zv,hzv⟩ : ∃ zv,i.zero = some zv:=by
         unfold zeroOk at hzo
         rw [he] at hzo
         simp only at hzo
         split at hzo
         ·rename_i z hzz
          obtain ⟨i',v,hi',hv,_⟩ := zeroCells_some (g := g) (w := w) hzz
          rw [hi] at hi'
          injection hi' with hi'
          subst hi'
          exact ⟨v,hv⟩
         ·cases hzo
        have ht2 : (∃ e2,P.underlying st2 = some (.slice e2)) ∨ P.underlying st2 = some .string:=by
         unfold srcType at hst
         split at hst
         ·exact .inl ⟨_,‹_›⟩
         ·exact .inr ‹_›
         ·cases hst
        obtain ⟨l2,news,h1,hsrc⟩ := elemsOf_sound (P := P) hg h (hg.evT (P := P) st y)
        clear h
        obtain ⟨z,tg,l,hva,h2⟩ := vs?_some h1
        clear h1
        have hra := hg.evT (P := P) st (.const cc)
        rw [hva] at hra
        split at h2
        ·obtain ⟨h3,h2⟩ := br_left h2
         rw [Bool.and_eq_true] at h3
         obtain ⟨hb1,h2⟩ := br_left h2
         obtain ⟨hb2,h2⟩ := br_left h2
         have hb1' := ble_true hb1
         have hb2' := ble_true hb2
         have hmx : maxBytes = 140737488355328 := rfl
         have his1 : i.size = 1 := by omega
         rw [← hiby] at hb1'
         have hfc : ∀ w',(∀ B o,B < w.heap.size→w'.cell? ⟨B,o,none⟩ = w.cell? ⟨B,o,none⟩)→(Builtin.firstCells i.size l2.length (a.eval y)).run P w' = .ok news.toArray w' := fun w' hw=>by
          have h := hsrc.cells l2.length w' (Nat.le_refl _) hw
          rw [his1]
          rwa [List.take_of_length_le (by rw [hsrc.rep.1,flat_len hsrc.sizes]; exact Nat.le_refl _)] at h
         have hnl : news.length = l2.length := by rw [hsrc.rep.1,flat_len hsrc.sizes,Nat.mul_one]
         have hbase : a.eval (.const cc) = .slice none 0 0:=by
          rcases rep_vs hra with ⟨⟨q,h⟩,_⟩ | ⟨B,off,cap,vals,h,_⟩
          ·cases q with
           | none=>exact h
           | some ad =>
            exfalso
            have hc : a.eval (.const cc) = cc := rfl
            rw [hc] at h
            subst h
            have : evT P S st (.const (Value.slice (some ad) 0 0)) = .undef := rfl
            rw [this] at hva
            cases hva
          ·exfalso
           have hc : a.eval (.const cc) = cc := rfl
           rw [hc] at h
           subst h
           have : evT P S st (.const (Value.slice (some ⟨B,off,none⟩) ([] : List AV).length cap)) = .undef := rfl
           rw [this] at hva
           cases hva
         have hexe : ∀ u' w',(Builtin.append_ #[st,st2] o.type #[a.eval (.const cc),a.eval y]).run P w = .ok u' w'→(execOp a.eval o).run P w = .ok (.value u') w' := fun u' w' hrun=>by
          simp only [execOp,ho,resolve,invoke,builtin,Sem.run_bind,Sem.run_pure,Result.andThen_ok,List.map_toArray,List.map_cons,List.map_nil,hrun]
         rw [hbase] at hexe
         by_cases hne : l2.length = 0
         ·have hl0 : l2 = [] := List.eq_nil_of_length_eq_zero hne
          subst hl0
          have hn0 : news = [] := List.eq_nil_of_length_eq_zero (by simpa using hnl)
          subst hn0
          have hrun := run_append_base (ty := o.type) (base := none) (n := 0) (cap := 0) (m := 0) hu ht2 hi (hsrc.len w) (hfc w (fun _ _ _=>rfl)) (Nat.le_refl _)
          exact ⟨.slice none 0 0,w,g,_,hexe _ _ hrun,h2,hg.putv (f := .no) (some d) (.vsnil _ _ _) (fun _ _=>trivial) (by simp) (by simp)⟩
         ·have hfo : (Builtin.firstCells i.size 0 (.slice none 0 0)).run P w.drew = .ok ([] : List Value).toArray w.drew:=by
           simp [Builtin.firstCells]
          have hrun := run_append_grow' (ty := o.type) (base := none) (n := 0) (cap := 0) (m := l2.length) (olds := []) hu ht2 hi hzv (hsrc.len w) (hfc w.drew (fun _ _ _=>rfl)) hfo (by omega) (by omega) (by rw [Nat.zero_add]; omega)
          have hge := grownCap_ge w (0 + l2.length) 0 e
          generalize hcells : ([] : List Value) ++ (news ++ (Builtin.zeroCells zv.cells (grownCap w (0 + l2.length) 0 e - (0 + l2.length))).toList) = cells at hrun
          have hd' := hg.drew
          have hr := hd'.newblk (w' := w.drew.alloc (.cells cells.toArray e)) (fun B hB=>heap_alloc_lt w.drew _ hB) (size_alloc' w.drew _) rfl rfl rfl .ext l2.length (.inl rfl)
          have hk := keep_new (w' := w.drew.alloc (.cells cells.toArray e)) hd'.inv (fun B hB=>heap_alloc_lt w.drew _ hB) (by simp) rfl rfl rfl .ext l2.length
          have hat := heap_alloc_at w.drew (.cells cells.toArray e)
          have hrl := (hsrc.rep.ext (⟨fun _ _ h=>h,fun _=>Nat.le_refl _,fun _ _ _=>rfl⟩ : Ext g w g w.drew)).ext hk.ext
          have hcat : ∀ (j : Nat) (u : Value),news[j]? = some u→cells[j]? = some u := fun j u hu=>by
           rw [← hcells,List.nil_append,List.getElem?_append_left (List.getElem?_eq_some_iff.1 hu).1]; exact hu
          refine ⟨_,_,_,_,hexe _ _ hrun,h2,hr.putv (f := .no) (some d) ?_ (fun _ _=>trivial) (by simp) (by simp)⟩
          have := Rep.vs (g := g.new w.drew.heap.size .ext l2.length) (w := w.drew.alloc (.cells cells.toArray e)) w.heap.size 0 (grownCap w (0 + l2.length) 0 e) 1 false l2 news hrl.1 hsrc.sizes (by simp) (by omega)
           (fun j u hu=>by
            have h1 := hcat j u hu
            refine ⟨?_,?_,hsrc.one u (List.mem_of_getElem? hu)⟩
            ·rw [Nat.zero_add]; simp only [World.cell?]; rw [show (w.drew.alloc (Obj.cells cells.toArray e)).heap[w.heap.size]? = some (Obj.cells cells.toArray e) from hat]; simpa using h1
            ·rw [Nat.zero_add,new_pub,if_pos (show w.heap.size = w.drew.heap.size from rfl)]
             have := (List.getElem?_eq_some_iff.1 hu).1
             omega) hrl.2
          rw [Nat.zero_add] at this ⊢
          exact this
        ·cases h2
       ·cases h
      ·cases h
     ·cases h
    ·cases h
   ·cases h
  ·cases h
 ·cases h
end
end Go.Vai
end
section
namespace Go.Vai
section
variable {X : Nat→Prop} {g0 : G} {w0 : World} {Ex : Nat→Prop} {g g' : G} {S : St} {a : Act} {w w' : World} {P : Program} {R : Type} {r : R} {o : Oper} {A : List (Nat × Ann)} {cal : Oracle}
theorem glob_cells {i : Nat} {cs : List AV} (h : GlobOk A g w) (hi : globOf A i = some cs) : ∃ vals,CellsAt w i 0 vals∧RepL g w vals cs∧∀ (j : Nat) (u : Value),vals[j]? = some u→j < g.pub i:=by
 obtain ⟨B,off,vals,he,hc,hrl⟩ := rep_cptr (h i cs hi).2
 injection he with he
 injection he with he
 injection he with e1 e2 _
 subst e1 e2
 refine ⟨vals,fun j u hu=>⟨(hc j u hu).1,(hc j u hu).2.2⟩,hrl,fun j u hu=>?_⟩
 have := (hc j u hu).2.1
 omega
theorem opLoadA_step {t : TypeId} {x : Operand} {k : St→Option R} (ho : o.op = .load t x) (hgl : GlobOk A g w) (h : opLoadA P A o t x S k = some r) (hg : Rel g0 w0 Ex g S a w) : StepTo P o a w g0 w0 Ex k r:=by
 unfold opLoadA at h
 split at h
 ·rename_i gi
  obtain ⟨cs,hcs,h1⟩ := bind_some' h
  clear h
  obtain ⟨ag,d,hd,hk,hag⟩ := tAggK_some h1
  obtain ⟨vals,hc,hrl,_⟩ := glob_cells hgl hcs
  have hl := loadVar_sound (n := 0) hd hag hc hrl.part
  have he' : ∀ u,(loadVar t ⟨gi,0 + 0,none⟩).run P w = .ok u w→(execOp a.eval o).run P w = .ok (.value u) w:=by
   intro u hu
   have e : a.eval (.global gi) = .pointer (some ⟨gi,0,none⟩) := rfl
   simp only [execOp,ho,Instr.loadAt,e,Instr.sureAddr,Sem.run_bind,Sem.run_pure,Result.andThen_ok,hu]
  cases ag with
  | true =>
   obtain ⟨h0,hk⟩ := br_left hk
   obtain ⟨u,hu,hrep⟩ := hl (ble_true h0)
   exact .val hg (he' u hu) hrep hk
  | false =>
   obtain ⟨c,hcc,hk⟩ := bind_some' hk
   rw [nth_get] at hcc
   obtain ⟨u,hu,hrep,_⟩ := hl c hcc
   exact .val hg (he' u hu) hrep hk
 ·exact opLoad_step ho h hg
theorem opIndexAddrA_step {t : TypeId} {x ix : Operand} {k : St→Option R} (ho : o.op = .indexAddr t x ix) (hgl : GlobOk A g w) (h : opIndexAddrA P A o t x ix S k = some r) (hg : Rel g0 w0 Ex g S a w) : StepTo P o a w g0 w0 Ex k r:=by
 unfold opIndexAddrA at h
 split at h
 ·rename_i gi
  obtain ⟨cs,hcs,h1⟩ := bind_some' h
  clear h
  obtain ⟨ik,i,hix,h2⟩ := int?_some h1
  clear h1
  have hi := hg.ev ix
  rw [hix] at hi
  have hi' := rep_int hi
  obtain ⟨vals,hc,hrl,hp⟩ := glob_cells hgl hcs
  unfold idxG at h2
  split at h2
  ·rename_i len e hu
   split at h2
   ·cases h2
   ·rename_i hz
    have hz' : tSize P e ≠ 0 := fun e=>by rw [e] at hz; cases hz
    obtain ⟨h3,h4⟩ := br_left h2
    obtain ⟨h5,h6⟩ := br_left h4
    obtain ⟨h7,h8⟩ := br_left h6
    have h0' : 0 ≤ i := by simpa using h3
    have h3' : i < (len : Int) := by simpa using h5
    have h9 := ble_true h7
    have ev : a.eval (.global gi) = .pointer (some ⟨gi,0,none⟩) := rfl
    have hk : (execOp a.eval o).run P w = .ok (.value (.pointer (some ((⟨gi,0,none⟩ : Addr).add (i.toNat * tSize P e))))) w:=by
     simp only [execOp,ho,Instr.indexAt,hi',asIntOf,Sem.run_bind,Sem.run_pure,Result.andThen_ok,run_und hu,ev,Instr.sureAddr,if_pos (And.intro h0' h3'),Sem.run_ite,run_sizeOf_pos hz']
    rw [Addr.add_lit] at hk
    refine .val hg hk (.cptr gi _ _ (vals.drop (i.toNat * tSize P e)) (hrl.drop _).1 (fun j u hu=>?_) (hrl.drop _).2) h8
    have hj : vals[i.toNat * tSize P e + j]? = some u := by simpa [List.getElem?_drop] using hu
    have := hc _ u hj
    refine ⟨?_,?_,this.2⟩
    ·have e : 0 + i.toNat * tSize P e + j = 0 + (i.toNat * tSize P e + j) := by omega
     rw [e]; exact this.1
    ·have := hp _ u hj
     omega
  ·cases h2
 ·exact opIndexAddr_step ho h hg
theorem opIface_step {t : TypeId} {x : Operand} {k : St→Option R} (ho : o.op = .makeInterface t x) (h : opIface P t (evT P S t x) (fun v=>k (S.putd o.dst (.val v .no))) = some r) (hg : Rel g0 w0 Ex g S a w) : StepTo P o a w g0 w0 Ex k r:=by
 have hx := hg.evT (P := P) t x
 unfold opIface at h
 split at h
 ·cases h
 ·rename_i d hd hu
  refine .val hg ?_ (.iface t _ _ hx) h
  have : (Instr.makeInterface t (a.eval x)).run P w = .ok (.iface t (a.eval x)) w:=by
   simp only [Instr.makeInterface,Sem.run_bind,run_und hu,Result.andThen_ok]
   cases d <;> first | exact absurd rfl (hd _) | rfl
  simp only [execOp,ho,Sem.run_bind,this,Result.andThen_ok,Sem.run_pure]
 ·cases h
theorem cbox_step {e : TypeId} {x : Operand} {k : St→Option R} (ho : o.op = .box e x) (h : ((evT P S e x).cells? fun cs=>br (Nat.ble cs.length 16777216) (k (S.putd o.dst (.val (.cptr cs) .no))) Option.none) = some r) (hg : Rel g0 w0 Ex g S a w) : StepTo P o a w g0 w0 Ex k r:=by
 obtain ⟨cs,us,h2,hcells,hr,h1,_⟩ := cells?_sound (hg.evT (P := P) e x) h
 obtain ⟨_,h3⟩ := br_left h2
 have hrun : (execOp a.eval o).run P w = .ok (.value (.pointer (some ⟨w.heap.size,0,none⟩))) (w.alloc (.cells us.toArray e)):=by
  simp [execOp,ho,Instr.box,newVar,newRow,hcells]
 refine .mk hrun ?_ h3
 have hrel := hg.newblk (w' := w.alloc (.cells us.toArray e)) (fun B hB=>heap_alloc_lt w _ hB) (size_alloc' w _) rfl rfl rfl .ext us.length (.inl rfl)
 have hk := keep_new (w' := w.alloc (.cells us.toArray e)) hg.inv (fun B hB=>heap_alloc_lt w _ hB) (by simp) rfl rfl rfl .ext us.length
 refine ⟨_,hrel.putv (f := .no) o.dst ?_ (fun _ _=>trivial) (by simp) (by simp)⟩
 refine .cptr w.heap.size 0 cs us hr.1 (fun j u hu=>?_) (hr.ext hk.ext).2
 obtain ⟨h7,h8⟩ := blk_cells (heap_alloc_at w _) h1 j u hu
 refine ⟨h7,?_,h8⟩
 rw [new_pub,if_pos rfl,Nat.zero_add]
 exact (List.getElem?_eq_some_iff.1 hu).1
end
end Go.Vai
end
section
namespace Go.Vai
open MapKept
section
variable {X : Nat→Prop} {g0 : G} {w0 : World} {Ex : Nat→Prop} {g g' : G} {S : St} {a : Act} {w w' : World} {P : Program} {R : Type} {r : R} {o : Oper} {A : List (Nat × Ann)} {cal : Oracle}
theorem scal_key {t : TypeId} {v : AV} {u : Value} (h : scal P t v = true) (hr : Rep g w u v) : ∃ d,P.underlying t = some d∧IsKey d u:=by
 cases v with
 | int i n=>obtain rfl := rep_int hr; exact ⟨_,scal_int' h,rfl⟩
 | str s=>obtain ⟨b,rfl,_⟩ := rep_str hr; exact ⟨_,scal_str h,trivial⟩
 | bool b=>obtain rfl := rep_bool hr; exact ⟨_,scal_bool h,trivial⟩
 | _=>cases h
theorem eq1_key {t : TypeId} {x y : AV} {ux uy : Value} {k : Bool→Option R} (h : eq1 x y k = some r) (hx : Rep g w ux x) (hy : Rep g w uy y) (h1 : scal P t x = true) (h2 : scal P t y = true) :
  ∃ b,k b = some r∧(b = true ↔ ux = uy)∧∀ (R' : Type) (k' : Bool→Option R'),eq1 x y k' = k' b:=by
 cases x with
 | int i a =>
  simp only [eq1] at h
  obtain ⟨j,b,rfl,h3⟩ := int?_some h
  obtain ⟨h0,h4⟩ := br_left h3
  clear h h3
  obtain rfl := rep_int hx
  obtain rfl := rep_int hy
  have e := sameKind_eq h0
  subst e
  exact ⟨_,h4,by simp,fun R' k'=>by simp only [eq1,AV.int?,h0,br]⟩
 | str a =>
  simp only [eq1] at h
  obtain ⟨b,rfl,h3⟩ := str?_some h
  clear h
  obtain ⟨s1,rfl,rfl⟩ := rep_str hx
  obtain ⟨s2,rfl,rfl⟩ := rep_str hy
  refine ⟨_,h3,?_,fun R' k'=>rfl⟩
  rw [eqS_eq,beq_iff_eq]
  constructor
  ·intro e
   have : s1 = s2:=by
    apply ByteArray.ext; apply Array.toList_inj.1; exact e
   rw [this]
  ·intro e; injection e with e; rw [e]
 | bool a =>
  simp only [eq1] at h
  obtain ⟨b,rfl,h3⟩ := bool?_some h
  clear h
  obtain rfl := rep_bool hx
  obtain rfl := rep_bool hy
  exact ⟨_,h3,by simp,fun R' k'=>rfl⟩
 | _=>cases h
theorem mFind_sound {t : TypeId} {d : TypeDesc} {key v : AV} {uk : Value} (hd : P.underlying t = some d) (hk : scal P t key = true) (hrk : Rep g w uk key) : ∀ {l : List (AV × AV)} {es : List MapEntry} {kk : Option AV→Option R} (i : Nat),
  mScal P t l = true→MapRep g w es l→mFind key l kk = some r →
  (Instr.findNow d uk es i = some none∧kk none = some r∧mIns key v l = l ++ [(key,v)]) ∨
  ∃ j e p,Instr.findNow d uk es i = some (some (i + j,e.val))∧es[j]? = some e∧l[j]? = some p∧e.key = uk∧kk (some p.2) = some r∧mIns key v l = l.set j (key,v)
 | [],[],kk,i,_,_,h=>.inl ⟨rfl,h,rfl⟩
 | [],_ :: _,_,_,_,hr,_=>by have := hr.1; simp at this
 | (a,x) :: l,[],_,_,_,hr,_=>by have := hr.1; simp at this
 | (a,x) :: l,e :: es,kk,i,hs,hr,h=>by
  simp only [mScal] at hs
  split at hs
  ·rename_i hsa
   have h0 := hr.2 0 _ _ rfl rfl
   simp only [mFind] at h
   obtain ⟨b,hb,hiff,hall⟩ := eq1_key h hrk h0.1 hk hsa
   obtain ⟨d1,hd1,hkey⟩ := scal_key hk hrk
   obtain ⟨d2,hd2,hkey2⟩ := scal_key hsa h0.1
   rw [hd] at hd1 hd2
   injection hd1 with hd1
   injection hd2 with hd2
   subst hd1
   rw [← hd2] at hkey2
   obtain ⟨q,hq,hqi⟩ := sameNow_of_keys hkey hkey2
   have hbq : b = q:=by
    have := hiff.trans hqi.symm
    cases b <;> cases q <;> simp_all
   subst hbq
   cases b with
   | true =>
    refine .inr ⟨0,e,(a,x),by simp [Instr.findNow,hq],rfl,rfl,(hiff.1 rfl).symm,hb,?_⟩
    simp only [mIns,hall]
    rfl
   | false =>
    rcases mFind_sound (v := v) hd hk hrk (i + 1) hs ⟨by simpa using hr.1,fun j e' p he hp=>hr.2 (j + 1) e' p (by simpa using he) (by simpa using hp)⟩ hb with ⟨h1,h2,h3⟩ | ⟨j,e',p,h1,h2,h3,h4,h5,h6⟩
    ·refine .inl ⟨by simp [Instr.findNow,hq,h1],h2,?_⟩
     simp only [mIns,hall,h3]
     rfl
    ·refine .inr ⟨j + 1,e',p,by simp [Instr.findNow,hq,h1]; omega,by simpa using h2,by simpa using h3,h4,h5,?_⟩
     simp only [mIns,hall,h6]
     rfl
  ·cases hs
theorem Rel.writeM (h : Rel g0 w0 Ex g S a w) {d B ck ck' : Nat} {es es' : Array MapEntry} {l l' : List (AV × AV)} (_hl : getM S.M d = some l) (hB : g.role B = .l d) (hheap : w.heap[B]? = some (.map es ck))
  (hn : MapRep g w es'.toList l') : Rel g0 w0 Ex g { S with M := setM S.M d l' } a { w with heap := w.heap.setIfInBounds B (.map es' ck') }:=by
 have hset := heap_set (o' := .map es' ck') hheap
 have k : Keep (fun b=>b = B) g w g { w with heap := w.heap.setIfInBounds B (.map es' ck') }:=by
  refine ⟨⟨fun _ _ h=>h,fun _=>Nat.le_refl _,fun B' o ho=>?_⟩,rfl,rfl,rfl,by simp,fun B' _ hne=>⟨hset.2 B' hne,rfl,rfl⟩⟩
  by_cases hb : B' = B
  ·subst hb; have := h.inv.pl B' d hB; omega
  ·exact cell_keep (hset.2 B' hb)
 have hX : ∀ B' p,g.role B' = .c p→¬ B' = B := fun B' p hp e=>by subst e; rw [hB] at hp; cases hp
 have hi : Inv g { w with heap := w.heap.setIfInBounds B (.map es' ck') } := ⟨fun B' hB'=>h.inv.new B' (by simpa using hB'),h.inv.ph,h.inv.pl,h.inv.injh,h.inv.injl⟩
 refine ⟨hi,h.h.keep k (fun B' id b' hB' _ e=>by subst e; rw [hB] at hB'; cases hB') (fun B' id off hB'=>hX B' _ hB') h.h.lt,
  h.l.keep k (fun B' d' b' hB' hb' e=>?_) (fun B' d' off hB'=>hX B' _ hB'),fun d' l2 hl2=>?_,h.len,fun t=>?_,h.fr.keep k ?_ ?_,h.nodef⟩
 ·subst e
  obtain ⟨B2,h2,⟨us,e,h3,_⟩,_⟩ := h.l d' b' hb'
  obtain rfl := h.inv.injl B' B2 d' hB' h2
  rw [hheap] at h3
  cases h3
 ·have hl3 : getM (setM S.M d l') d' = some l2 := hl2
  rw [getM_setM] at hl3
  split at hl3
  ·rename_i hd
   subst hd
   injection hl3 with hl3
   subst hl3
   exact ⟨B,es',ck',hB,hset.1,hn.ext k.ext⟩
  ·rename_i hd
   obtain ⟨B2,es2,ck2,h2,h3,h4⟩ := h.m d' l2 hl3
   have hne : B2 ≠ B := fun e=>by subst e; rw [hB] at h2; injection h2 with e; exact hd e.symm
   exact ⟨B2,es2,ck2,h2,by rw [← h3]; exact hset.2 B2 hne,h4.ext k.ext⟩
 ·have h1 := h.sl t
  cases hst : S.slot t with
  | und=>show SlotRel _ _ _ _ t (S.slot t); rw [hst]; trivial
  | lp d off=>show SlotRel _ _ _ _ t (S.slot t); rw [hst] at h1 ⊢; exact h1
  | mp d=>show SlotRel _ _ _ _ t (S.slot t); rw [hst] at h1 ⊢; exact h1
  | val v f =>
   show SlotRel _ _ _ _ t (S.slot t)
   rw [hst] at h1 ⊢
   refine ⟨h1.1.ext k.ext,?_⟩
   cases f with
   | no=>trivial
   | own=>exact OwnAV.keep h1.2 k fun B' hB'=>hX B' _ hB'
   | lS q=>exact h1.2
   | lL d' off =>
    intro b hb hoff
    obtain ⟨B',h2,h3,h4⟩ := h1.2 b hb hoff
    refine ⟨B',h2,?_,h4⟩
    have hne : B' ≠ B := fun e=>by subst e; simp [World.cell?,hheap] at h3
    rw [cell_keep (hset.2 B' hne)]; exact h3
   | lH id off =>
    intro b hb hoff
    obtain ⟨B',h2,h3,h4⟩ := h1.2 b hb hoff
    refine ⟨B',h2,?_,h4⟩
    have hne : B' ≠ B := fun e=>by subst e; simp [World.cell?,hheap] at h3
    rw [cell_keep (hset.2 B' hne)]; exact h3
   | comps cs=>exact fun i hi us vs ui vi e1 e2 e3 e4=>OwnAV.keep (h1.2 i hi us vs ui vi e1 e2 e3 e4) k fun B' hB'=>hX B' _ hB'
 ·rintro B' rfl
  exact h.fr.role B' (by rw [hB]; simp)
 ·rintro B' hlt rfl _
  rcases h.fr.role B' (by rw [hB]; simp) with hx | hx
  ·omega
  ·exact hx
theorem keyStays {d : TypeDesc} {k : Value} (h : IsKey d k) : (Instr.keyThatStays k k).run P w = .ok k w:=by
 have : Instr.sameBits 10000 k k = true:=by
  cases d <;> cases k <;> simp_all [IsKey,Instr.sameBits]
  exact (bytes_beq _ _).2 rfl
 simp [Instr.keyThatStays,this]
theorem run_mapUpdate {t kt et : TypeId} {B ck : Nat} {es : Array MapEntry} {uk uv : Value} {d : TypeDesc} (hu : P.underlying t = some (.map kt et)) (hd : P.underlying kt = some d) (hk : IsKey d uk) (hheap : w.heap[B]? = some (.map es ck)) :
  (Instr.findNow d uk es.toList 0 = some none→(Instr.mapUpdate t (.map (some B)) uk uv).run P w = .ok () { w with heap := w.heap.setIfInBounds B (.map (es.push { key := uk,val := uv,born := ck }) (ck + 1)) }) ∧
  ∀ j e,Instr.findNow d uk es.toList 0 = some (some (0 + j,e.val))→es[j]? = some e→e.key = uk→(Instr.mapUpdate t (.map (some B)) uk uv).run P w = .ok () { w with heap := w.heap.setIfInBounds B (.map (es.modify j fun e=>{ e with key := uk,val := uv }) ck) }:=by
 refine ⟨fun h=>?_,fun j e h he hek=>?_⟩
 ·simp only [Instr.mapUpdate,Sem.run_bind,run_underlying hu,Result.andThen_ok,Go.MapKept.run_getObj_map hheap,run_checkKey hd hk,run_findKey hd h,Go.MapKept.run_setObj_map _ hheap]
 ·rw [Nat.zero_add] at h
  simp only [Instr.mapUpdate,Sem.run_bind,run_underlying hu,Result.andThen_ok,Go.MapKept.run_getObj_map hheap,run_checkKey hd hk,run_findKey hd h,he,Option.map_some,Option.getD_some,hek,keyStays hk,Go.MapKept.run_setObj_map _ hheap]
theorem opMapUpdate_step {t : TypeId} {m key v : Operand} {k : St→Option R} (ho : o.op = .insert t m key v ∨ o.op = .mapUpdate t m key v) (hod : o.dst = none) (h : opMapUpdate P t m key v S k = some r) (hg : Rel g0 w0 Ex g S a w) :
  StepTo P o a w g0 w0 Ex k r:=by
 unfold opMapUpdate at h
 split at h
 ·rename_i kt et hu
  split at h
  ·rename_i tm
   split at h
   ·rename_i d hs
    obtain ⟨l,hl,h1⟩ := bind_some' h
    clear h
    obtain ⟨h2,h3⟩ := br_left h1
    rw [Bool.and_eq_true] at h2
    have hsl := hg.sl tm
    rw [hs] at hsl
    obtain ⟨B,hB,hev⟩ := hsl
    have hev' : a.eval (.tmp tm) = .map (some B) := hev
    obtain ⟨B2,es,ck,h4,hheap,hmr⟩ := hg.m d l hl
    obtain rfl := hg.inv.injl B B2 d hB h4
    have hrk := hg.evT (P := P) kt key
    have hrv := hg.evT (P := P) et v
    obtain ⟨dd,hdd,hkey⟩ := scal_key h2.1 hrk
    have hrun := run_mapUpdate (w := w) (uv := a.eval v) hu hdd hkey hheap
    have hex : ∀ w',(Instr.mapUpdate t (.map (some B)) (a.eval key) (a.eval v)).run P w = .ok () w'→(execOp a.eval o).run P w = .ok .skip w':=by
     intro w' hw
     rcases ho with ho | ho <;> simp only [execOp,ho,hev',Sem.run_bind,hw,Result.andThen_ok,Sem.run_pure]
    have fin : ∀ (es' : Array MapEntry) (ck' : Nat) (l' : List (AV × AV)),MapRep g w es'.toList l'→(Instr.mapUpdate t (.map (some B)) (a.eval key) (a.eval v)).run P w = .ok () { w with heap := w.heap.setIfInBounds B (.map es' ck') } →
      k { S with M := setM S.M d l' } = some r→StepTo P o a w g0 w0 Ex k r:=by
     intro es' ck' l' hm hw hk
     refine ⟨.skip,undef,_,_,hex _ hw,.inr ⟨rfl,rfl⟩,⟨g,?_⟩,hk⟩
     rw [hod]
     exact hg.writeM hl hB hheap hm
    rcases mFind_sound (v := evT P S et v) hdd h2.1 hrk 0 h2.2 hmr h3 with ⟨h5,h6,h7⟩ | ⟨j,e,p,h5,h6,h7,h8,h9,h10⟩
    ·rw [h7] at h6
     refine fin _ _ _ ?_ (hrun.1 h5) h6
     rw [Array.toList_push]
     refine ⟨by simp [hmr.1],fun j x q hx hq=>?_⟩
     rcases Nat.lt_trichotomy j es.toList.length with hj | hj | hj
     ·rw [List.getElem?_append_left hj] at hx
      rw [List.getElem?_append_left (by rw [← hmr.1]; exact hj)] at hq
      exact hmr.2 j x q hx hq
     ·subst hj
      rw [List.getElem?_append_right (Nat.le_refl _),Nat.sub_self] at hx
      rw [List.getElem?_append_right (by rw [hmr.1]; exact Nat.le_refl _),hmr.1,Nat.sub_self] at hq
      simp at hx hq
      subst hx hq
      exact ⟨hrk,hrv⟩
     ·rw [List.getElem?_append_right (by omega),List.getElem?_eq_none (by rw [List.length_singleton]; omega)] at hx
      cases hx
    ·rw [h10] at h9
     have he' : es[j]? = some e := by simpa using h6
     refine fin _ _ _ ?_ (hrun.2 j e h5 he' h8) h9
     refine ⟨by simp [hmr.1],fun i x q hx hq=>?_⟩
     rw [Array.getElem?_toList,Array.getElem?_modify] at hx
     rw [List.getElem?_set] at hq
     by_cases hij : j = i
     ·subst hij
      have hlt : j < l.length := (List.getElem?_eq_some_iff.1 h7).1
      rw [if_pos rfl,he'] at hx
      rw [if_pos rfl,if_pos hlt] at hq
      simp at hx hq
      subst hx hq
      exact ⟨hrk,hrv⟩
     ·rw [if_neg hij] at hx hq
      exact hmr.2 i x q (by simpa using hx) hq
   ·cases h
  ·cases h
 ·cases h
theorem zeroAV_sound {t : TypeId} {k : AV→Option R} (h : zeroAV P t k = some r) : ∃ u v,(zeroValue t).run P w = .ok u w∧Rep g w u v∧k v = some r:=by
 unfold zeroAV at h
 split at h
 ·rename_i i hi
  split at h
  ·rename_i z hz
   exact ⟨z,_,by simp [zeroValue,typeInfo,hi,hz],ofConst_rep _ _,h⟩
  ·cases h
 ·cases h
theorem opLookup_step {t : TypeId} {x ix : Operand} {ok : Bool} {k : St→Option R} (ho : o.op = .lookup t x ix ok) (h : opLookup P o t x ix ok S k = some r) (hg : Rel g0 w0 Ex g S a w) : StepTo P o a w g0 w0 Ex k r:=by
 unfold opLookup at h
 split at h
 ·rename_i kt et hu
  split at h
  ·rename_i tm
   split at h
   ·rename_i d hs
    obtain ⟨l,hl,h1⟩ := bind_some' h
    clear h
    obtain ⟨h2,h3⟩ := br_left h1
    rw [Bool.and_eq_true] at h2
    have hsl := hg.sl tm
    rw [hs] at hsl
    obtain ⟨B,hB,hev⟩ := hsl
    have hev' : a.eval (.tmp tm) = .map (some B) := hev
    obtain ⟨B2,es,ck,h4,hheap,hmr⟩ := hg.m d l hl
    obtain rfl := hg.inv.injl B B2 d hB h4
    have hrk := hg.evT (P := P) kt ix
    obtain ⟨dd,hdd,hkey⟩ := scal_key h2.1 hrk
    have fin : ∀ (u : Value) (v : AV) (b : Bool),Rep g w u v→(Instr.lookup t (.map (some B)) (a.eval ix) ok).run P w = .ok (if ok then .tuple #[u,.bool b] else u) w →
      lookRes o ok S v b k = some r→StepTo P o a w g0 w0 Ex k r:=by
     intro u v b hr hw hk
     have hex : (execOp a.eval o).run P w = .ok (.value (if ok then .tuple #[u,.bool b] else u)) w:=by
      simp only [execOp,ho,hev',Sem.run_bind,hw,Result.andThen_ok,Sem.run_pure]
     cases ok with
     | true =>
      refine .val hg hex ?_ hk
      refine .tuple [u,.bool b] _ rfl fun j x c hx hc=>?_
      match j with
      | 0=>simp at hx hc; subst hx hc; exact hr
      | 1=>simp at hx hc; subst hx hc; exact .bool b
      | j + 2=>simp at hx
     | false=>exact .val hg hex hr hk
    rcases mFind_sound (v := .undef) hdd h2.1 hrk 0 h2.2 hmr h3 with ⟨h5,h6,h7⟩ | ⟨j,e,p,h5,h6,h7,h8,h9,h10⟩
    ·obtain ⟨u,v,hz,hr,hk⟩ := zeroAV_sound (w := w) (g := g) h6
     refine fin u v false hr ?_ hk
     simp only [Instr.lookup,Sem.run_bind,run_underlying hu,Result.andThen_ok,Go.MapKept.run_getObj_map hheap,Sem.run_pure,run_checkKey hdd hkey,run_findKey hdd h5,hz]
    ·rw [Nat.zero_add] at h5
     refine fin e.val p.2 true (hmr.2 j e p h6 h7).2 ?_ h9
     simp only [Instr.lookup,Sem.run_bind,run_underlying hu,Result.andThen_ok,Go.MapKept.run_getObj_map hheap,Sem.run_pure,run_checkKey hdd hkey,run_findKey hdd h5]
   ·cases h
  ·cases h
 ·cases h
theorem opMakeMap_step {t : TypeId} {k : St→Option R} (ho : o.op = .makeMap t none) (h : opMakeMap P o t S k = some r) (hg : Rel g0 w0 Ex g S a w) : StepTo P o a w g0 w0 Ex k r:=by
 unfold opMakeMap at h
 have hold : ∀ B,B < w.heap.size→(w.alloc (.map #[] 0)).heap[B]? = w.heap[B]? := fun B hB=>heap_alloc_lt w _ hB
 have hat := heap_alloc_at w (.map #[] 0)
 split at h
 ·rename_i d hd
  split at h
  ·rename_i hLn
   let g1 : G := ⟨fun b=>if g.role b = .l d then .ext else g.role b,g.pub⟩
   have r1 : ∀ b,g1.role b = if g.role b = .l d then .ext else g.role b := fun _=>rfl
   have r1ne : ∀ b x,g.role b = x→x ≠ .l d→g1.role b = x := fun b x hb hx=>by rw [r1,if_neg (by rw [hb]; exact hx),hb]
   have r1inv : ∀ b x,g1.role b = x→x ≠ .ext→g.role b = x∧x ≠ .l d := fun b x hb hx=>by
    rw [r1] at hb
    split at hb
    ·exact absurd hb.symm hx
    ·rename_i hn; subst hb; exact ⟨rfl,hn⟩
   have hE1 : Ext g w g1 w := ⟨fun B id hB=>r1ne B _ hB (by simp),fun _=>Nat.le_refl _,fun _ _ _=>rfl⟩
   have own1 : ∀ p u c,OwnAV g w p u c→OwnAV g1 w p u c:=by
    intro p u c hc
    cases c with
    | vs sz tg l =>
     rcases hc with hc | hc | ⟨B,n,cap,us,e,h1,h2,h3⟩
     ·exact .inl hc
     ·exact .inr (.inl hc)
     ·exact .inr (.inr ⟨B,n,cap,us,e,h1,r1ne B _ h2 (by simp),h3⟩)
    | _=>trivial
   have hg1 : Rel g0 w0 Ex g1 ({ S with M := [],sl := S.sl.map (dropLp d) } : St).unlent a w:=by
    refine ⟨⟨fun B hB=>?_,fun B id hB=>hg.inv.ph B id (r1inv B _ hB (by simp)).1,fun B d' hB=>hg.inv.pl B d' (r1inv B _ hB (by simp)).1,fun B B' id hB hB'=>hg.inv.injh B B' id (r1inv B _ hB (by simp)).1 (r1inv B' _ hB' (by simp)).1,fun B B' id hB hB'=>hg.inv.injl B B' id (r1inv B _ hB (by simp)).1 (r1inv B' _ hB' (by simp)).1⟩,?_,?_,fun d' l hl=>(by cases hl),?_,fun t=>?_,?_,hg.nodef⟩
    ·obtain ⟨h2,h3⟩ := hg.inv.new B hB
     exact ⟨r1ne B _ h2 (by simp),h3⟩
    ·refine ⟨fun id b hb=>?_,fun B id hB=>hg.h.lt B id (r1inv B _ hB (by simp)).1⟩
     obtain ⟨B,hB,⟨us',e',hh,ho',hr'⟩,hf⟩ := hg.h.blk id b hb
     exact ⟨B,r1ne B _ hB (by simp),⟨us',e',hh,ho',hr'.ext hE1⟩,fun off hoff u v hu hv=>own1 _ _ _ (hf off hoff u v hu hv)⟩
    ·intro d' b hb
     have hb' : getL S.L d' = some b := hb
     obtain ⟨B,hB,⟨us',e',hh,ho',hr'⟩,hf⟩ := hg.l d' b hb'
     exact ⟨B,r1ne B _ hB (by intro e; injection e with e; rw [e,hLn] at hb'; cases hb'),⟨us',e',hh,ho',hr'.ext hE1⟩,fun off hoff u v hu hv=>own1 _ _ _ (hf off hoff u v hu hv)⟩
    ·show ((S.sl.map (dropLp d)).map Slot.unlent).length = _
     rw [List.length_map,List.length_map]; exact hg.len
    ·have hs := hg.sl t
     rw [slot_unlent]
     have e1 : ({ S with M := [],sl := S.sl.map (dropLp d) } : St).slot t = dropLp d (S.slot t) := nthS_map _ rfl _ _
     rw [e1]
     cases hst : S.slot t with
     | und=>trivial
     | lp d' off =>
      rw [hst] at hs
      obtain ⟨B,h2,h3⟩ := hs
      simp only [dropLp]
      cases hb : Nat.beq d' d with
      | true=>trivial
      | false =>
       have hne : d' ≠ d := fun e=>by subst e; rw [show Nat.beq d' d' = true from Nat.beq_refl d'] at hb; cases hb
       exact ⟨B,r1ne B _ h2 (by intro e; injection e with e; exact hne e),h3⟩
     | mp d' =>
      rw [hst] at hs
      obtain ⟨B,h2,h3⟩ := hs
      simp only [dropLp]
      cases hb : Nat.beq d' d with
      | true=>trivial
      | false =>
       have hne : d' ≠ d := fun e=>by subst e; rw [show Nat.beq d' d' = true from Nat.beq_refl d'] at hb; cases hb
       exact ⟨B,r1ne B _ h2 (by intro e; injection e with e; exact hne e),h3⟩
     | val v f =>
      rw [hst] at hs
      refine SlotC.rel (s := .val v f) ⟨hs.1.ext hE1,?_⟩ _
      cases f with
      | own=>exact own1 _ _ _ hs.2
      | comps cs=>exact fun i hi us vs ui vi e1 e2 e3 e4=>own1 _ _ _ (hs.2 i hi us vs ui vi e1 e2 e3 e4)
      | _=>trivial
    ·exact ⟨hg.fr.ext.trans hE1,hg.fr.os,hg.fr.tape,hg.fr.output,hg.fr.size,fun B hB hx=>hg.fr.same B hB hx,fun B hB=>hg.fr.role B fun e=>hB (r1ne B _ e (by simp))⟩
   have hk := keep_new (w' := w.alloc (.map #[] 0)) hg1.inv hold (by simp) rfl rfl rfl (.l d) 0
   have hi := inv_new (w' := w.alloc (.map #[] 0)) hg1.inv (size_alloc' w _) (.l d) 0 (fun _=>rfl) (fun id B e=>by cases e) (fun d' B e he=>by
    injection e with e; subst e; exact (r1inv B _ he (by simp)).2 rfl)
   have hr := hg1.grow hk hi (fun B id hB=>by
    rw [new_role] at hB
    split at hB
    ·cases hB
    ·exact hg1.h.lt B id hB)
   have hrun : (execOp a.eval o).run P w = .ok (.value (.map (some w.heap.size))) (w.alloc (.map #[] 0)):=by
    have hmk : (Instr.makeMap t none).run P w = .ok (.map (some w.heap.size)) (w.alloc (.map #[] 0)) := rfl
    simp only [execOp,ho,Option.map_none,Sem.run_bind,hmk,Result.andThen_ok,Sem.run_pure]
   refine .mk hrun ⟨g1.new w.heap.size (.l d) 0,?_⟩ h
   rw [hd]
   have hr2 : Rel g0 w0 Ex (g1.new w.heap.size (.l d) 0) ({ S with M := setM S.M d [],sl := S.sl.map (dropLp d) } : St).unlent a (w.alloc (.map #[] 0)):=by
    refine ⟨hr.inv,hr.h,hr.l,fun d' l hl=>?_,hr.len,fun t=>?_,hr.fr,hr.nodef⟩
    ·have hl' : getM (setM S.M d []) d' = some l := hl
     rw [getM_setM] at hl'
     split at hl'
     ·rename_i hid
      subst hid
      injection hl' with hl'
      subst hl'
      exact ⟨w.heap.size,#[],0,by rw [new_role,if_pos rfl],hat,rfl,fun j e p he=>by simp at he⟩
     ·rename_i hne
      obtain ⟨B,es,ck,h1,h2,h3⟩ := hg.m d' l hl'
      have hB1 : g1.role B = .l d' := r1ne B _ h1 (by intro e; injection e with e; exact hne e)
      have hBlt := heap_lt h2
      exact ⟨B,es,ck,by rw [new_role,if_neg (by omega)]; exact hB1,by rw [hold B hBlt]; exact h2,(h3.ext hE1).ext hk.ext⟩
    ·have := hr.sl t
     have e1 : (({ S with M := setM S.M d [],sl := S.sl.map (dropLp d) } : St).unlent.slot t) = ({ S with M := [],sl := S.sl.map (dropLp d) } : St).unlent.slot t := rfl
     rw [e1]
     have e2 : (({ S with M := [],sl := S.sl.map (dropLp d) } : St).unlent.slot t).unlent = ({ S with M := [],sl := S.sl.map (dropLp d) } : St).unlent.slot t:=by
      rw [slot_unlent]
      cases ({ S with M := [],sl := S.sl.map (dropLp d) } : St).slot t with
      | val v f=>cases f <;> rfl
      | _=>rfl
     rw [← e2]
     exact (SlotRel.c this).rel _
   exact hr2.putlp (some d) (.inr (.inr ⟨d,w.heap.size,rfl,by rw [new_role,if_pos rfl],rfl⟩))
  ·cases h
 ·cases h
end
end Go.Vai
end
