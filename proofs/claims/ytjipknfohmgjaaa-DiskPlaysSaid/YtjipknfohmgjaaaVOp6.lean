/- Memory grows: new blocks; what is kept. -/
import Derived.Laws.IdiomStrings
import Derived.Test.YtjipknfohmgjaaaVOp5
namespace Go.Vai

/-- everything but the blocks of X is as it was -/
structure Keep (X : Nat → Prop) (g : G) (w : World) (g' : G) (w' : World) : Prop where
  ext : Ext g w g' w'
  os : w'.os = w.os
  tape : w'.tape = w.tape
  output : w'.output = w.output
  size : w.heap.size ≤ w'.heap.size
  blk : ∀ B, B < w.heap.size → ¬ X B → w'.heap[B]? = w.heap[B]? ∧ g'.role B = g.role B ∧ g'.pub B = g.pub B

section
variable {X : Nat → Prop} {g0 : G} {w0 : World} {Ex : Nat → Prop} {g g' : G} {S : St} {a : Act} {w w' : World} {P : Program} {R : Type} {r : R} {o : Oper}

theorem heap_lt {B : Nat} {x : Obj} (h : w.heap[B]? = some x) : B < w.heap.size := (Array.getElem?_eq_some_iff.1 h).1

theorem BlkRep.keep {B : Nat} {cells : List AV} (h : BlkRep g w B cells) (k : Keep X g w g' w') (hX : ¬ X B) : BlkRep g' w' B cells := by
  obtain ⟨us, e, h1, h2, h3⟩ := h
  exact ⟨us, e, by rw [(k.blk B (heap_lt h1) hX).1]; exact h1, h2, h3.ext k.ext⟩

theorem OwnAV.keep {p : Pl} {u : Value} {c : AV} (h : OwnAV g w p u c) (k : Keep X g w g' w') (hX : ∀ B, g.role B = .c p → ¬ X B) : OwnAV g' w' p u c := by
  cases c with
  | vs sz tg l =>
    rcases h with h | h | ⟨B, n, cap, us, e, h1, h2, h3, h4, h5, h6⟩
    · exact .inl h
    · exact .inr (.inl h)
    · obtain ⟨k1, k2, k3⟩ := k.blk B (heap_lt h3) (hX B h2)
      exact .inr (.inr ⟨B, n, cap, us, e, h1, by rw [k2]; exact h2, by rw [k1]; exact h3, h4, h5, by rw [k3]; exact h6⟩)
  | _ => trivial

theorem cell_keep {B o : Nat} (h : w'.heap[B]? = w.heap[B]?) : w'.cell? ⟨B, o, none⟩ = w.cell? ⟨B, o, none⟩ := by simp [World.cell?, h]

theorem RelH.keep {H : Hp} {nx nx' : Nat} (h : RelH g H nx w) (k : Keep X g w g' w') (h1 : ∀ B id b, g.role B = .h id → H id = some b → ¬ X B) (h2 : ∀ B id off, g.role B = .c (.h id off) → ¬ X B)
    (h3 : ∀ B id, g'.role B = .h id → H id ≠ none) : RelH g' H nx' w' := by
  refine ⟨fun id b hb => ?_, h3⟩
  obtain ⟨B, hB, hblk, hfree⟩ := h.blk id b hb
  have hn := h1 B id b hB hb
  obtain ⟨us, e, hheap, _⟩ := hblk
  obtain ⟨k1, k2, k3⟩ := k.blk B (heap_lt hheap) hn
  refine ⟨B, by rw [k2]; exact hB, BlkRep.keep (by exact (h.blk id b hb).elim fun B' hh => by obtain ⟨hB', hb', _⟩ := hh; exact (show BlkRep g w B b.cells from ⟨us, e, hheap, ‹_›⟩)) k hn, fun off hoff u v hu hv => ?_⟩
  rw [cell_keep k1] at hu
  exact (hfree off hoff u v hu hv).keep k fun B' hB' => h2 B' id off hB'

theorem RelL.keep {L : List (Nat × Blk)} (h : RelL g L w) (k : Keep X g w g' w') (h1 : ∀ B d b, g.role B = .l d → getL L d = some b → ¬ X B) (h2 : ∀ B d off, g.role B = .c (.l d off) → ¬ X B) : RelL g' L w' := by
  intro d b hb
  obtain ⟨B, hB, hblk, hfree⟩ := h d b hb
  have hn := h1 B d b hB hb
  obtain ⟨us, e, hheap, hrest⟩ := hblk
  obtain ⟨k1, k2, k3⟩ := k.blk B (heap_lt hheap) hn
  refine ⟨B, by rw [k2]; exact hB, BlkRep.keep ⟨us, e, hheap, hrest⟩ k hn, fun off hoff u v hu hv => ?_⟩
  rw [cell_keep k1] at hu
  exact (hfree off hoff u v hu hv).keep k fun B' hB' => h2 B' d off hB'

theorem RelM.keep {M : List (Nat × List (AV × AV))} (h : RelM g M w) (k : Keep X g w g' w') (h1 : ∀ B d l, g.role B = .l d → getM M d = some l → ¬ X B) : RelM g' M w' := by
  intro d l hl
  obtain ⟨B, es, ck, hB, hheap, hr⟩ := h d l hl
  obtain ⟨k1, k2, k3⟩ := k.blk B (heap_lt hheap) (h1 B d l hB hl)
  exact ⟨B, es, ck, by rw [k2]; exact hB, by rw [k1]; exact hheap, hr.ext k.ext⟩
/-- a block of cells is no map -/
theorem RelM.nocells {M : List (Nat × List (AV × AV))} (h : RelM g M w) (hi : Inv g w) {B : Nat} {us : Array Value} {e : TypeId} {fz : Nat × Nat} (hheap : w.heap[B]? = some (.cells us e fz)) :
    ∀ B' d l, g.role B' = .l d → getM M d = some l → ¬ B' = B := by
  rintro B' d l hB' hl rfl
  obtain ⟨B2, es, ck, h2, h3, _⟩ := h d l hl
  obtain rfl := hi.injl B' B2 d hB' h2
  rw [hheap] at h3
  cases h3

theorem Fr.keep (h : Fr g0 w0 Ex g w) (k : Keep X g w g' w') (hX : ∀ B, X B → w0.heap.size ≤ B ∨ Ex B) (hr : ∀ B, B < w0.heap.size → X B → g'.role B ≠ .ext → Ex B) : Fr g0 w0 Ex g' w' := by
  refine ⟨h.ext.trans k.ext, k.os.trans h.os, k.tape.trans h.tape, k.output.trans h.output, Nat.le_trans h.size k.size, fun B hB hE => ?_, fun B hB => ?_⟩
  · have hn : ¬ X B := fun hx => by
      rcases hX B hx with h1 | h1
      · omega
      · exact hE h1
    obtain ⟨k1, k2, k3⟩ := k.blk B (Nat.lt_of_lt_of_le hB h.size) hn
    obtain ⟨h1, h2⟩ := h.same B hB hE
    exact ⟨k1.trans h1, k3.trans h2⟩
  · rcases Nat.lt_or_ge B w0.heap.size with hlt | hge
    · rcases Classical.em (X B) with hx | hx
      · exact .inr (hr B hlt hx hB)
      · obtain ⟨_, k2, _⟩ := k.blk B (Nat.lt_of_lt_of_le hlt h.size) hx
        rw [k2] at hB
        exact h.role B hB
    · exact .inl hge

/-- nothing that was there has turned -/
theorem Rel.grow (h : Rel g0 w0 Ex g S a w) (k : Keep (fun _ => False) g w g' w') (hi : Inv g' w') (h3 : ∀ B id, g'.role B = .h id → S.H id ≠ none) : Rel g0 w0 Ex g' S a w' := by
  refine ⟨hi, h.h.keep k (fun _ _ _ _ _ => id) (fun _ _ _ _ => id) h3, h.l.keep k (fun _ _ _ _ _ => id) (fun _ _ _ _ => id), h.m.keep k (fun _ _ _ _ _ => id), h.len, fun t => ?_, h.fr.keep k (fun _ hx => hx.elim) (fun _ _ hx => hx.elim), h.nodef⟩
  have hs := h.sl t
  have role : ∀ B d, g.role B = .l d → g'.role B = .l d := fun B d hB => by
    rcases Nat.lt_or_ge B w.heap.size with hlt | hge
    · rw [(k.blk B hlt id).2.1]; exact hB
    · rw [(h.inv.new B hge).1] at hB; cases hB
  cases hst : S.slot t with
  | und => trivial
  | lp d off =>
    rw [hst] at hs
    obtain ⟨B, h1, h2⟩ := hs
    exact ⟨B, role B d h1, h2⟩
  | mp d =>
    rw [hst] at hs
    obtain ⟨B, h1, h2⟩ := hs
    exact ⟨B, role B d h1, h2⟩
  | val v f =>
    rw [hst] at hs
    obtain ⟨h1, h2⟩ := hs
    refine ⟨h1.ext k.ext, ?_⟩
    cases f with
    | no => trivial
    | own => exact OwnAV.keep h2 k fun _ _ => id
    | lS q => exact h2
    | lL d off =>
      intro b hb hoff
      obtain ⟨B, h4, h5, h6⟩ := h2 b hb hoff
      exact ⟨B, role B d h4, by rw [cell_keep (k.blk B (cell_lt h5) id).1]; exact h5, h6⟩
    | lH id off =>
      intro b hb hoff
      obtain ⟨B, h4, h5, h6⟩ := h2 b hb hoff
      exact ⟨B, k.ext.hrole B id h4, by rw [cell_keep (k.blk B (cell_lt h5) (fun x => x)).1]; exact h5, h6⟩
    | comps cs => exact fun i hi us vs ui vi e1 e2 e3 e4 => OwnAV.keep (h2 i hi us vs ui vi e1 e2 e3 e4) k fun _ _ => id

/-- a draw -/
theorem Rel.drew (h : Rel g0 w0 Ex g S a w) : Rel g0 w0 Ex g S a w.drew :=
  h.grow ⟨⟨fun _ _ h => h, fun _ => Nat.le_refl _, fun _ _ _ => rfl⟩, rfl, rfl, rfl, Nat.le_refl _, fun _ _ _ => ⟨rfl, rfl, rfl⟩⟩ ⟨h.inv.new, h.inv.ph, h.inv.pl, h.inv.injh, h.inv.injl⟩ h.h.lt

/-- one more block -/
def G.new (g : G) (B : Nat) (r : Role) (p : Nat) : G := ⟨fun b => if b = B then r else g.role b, fun b => if b = B then p else g.pub b⟩

theorem new_role {B b : Nat} {r : Role} {p : Nat} : (g.new B r p).role b = if b = B then r else g.role b := rfl
theorem new_pub {B b : Nat} {r : Role} {p : Nat} : (g.new B r p).pub b = if b = B then p else g.pub b := rfl

theorem keep_new (hi : Inv g w) (hold : ∀ B, B < w.heap.size → w'.heap[B]? = w.heap[B]?) (hsz : w.heap.size ≤ w'.heap.size) (ho : w'.os = w.os) (ht : w'.tape = w.tape) (hu : w'.output = w.output) (r : Role) (p : Nat) :
    Keep (fun _ => False) g w (g.new w.heap.size r p) w' := by
  have hne : ∀ B, B < w.heap.size → ¬ B = w.heap.size := fun B h => by omega
  refine ⟨⟨fun B id hB => ?_, fun B => ?_, fun B o hB => ?_⟩, ho, ht, hu, hsz, fun B hB _ => ⟨hold B hB, by rw [new_role, if_neg (hne B hB)], by rw [new_pub, if_neg (hne B hB)]⟩⟩
  · rw [new_role, if_neg ?_]; exact hB
    intro e; subst e; rw [(hi.new _ (Nat.le_refl _)).1] at hB; cases hB
  · rw [new_pub]
    split
    · rename_i e; subst e; rw [(hi.new _ (Nat.le_refl _)).2]; exact Nat.zero_le _
    · exact Nat.le_refl _
  · have hlt : B < w.heap.size := by
      rcases Nat.lt_or_ge B w.heap.size with h | h
      · exact h
      · rw [(hi.new B h).2] at hB; omega
    exact cell_keep (hold B hlt)

theorem inv_new (hi : Inv g w) (hsz : w'.heap.size = w.heap.size + 1) (r : Role) (p : Nat) (hp : (∃ id, r = .h id) ∨ (∃ d, r = .l d) → p = 0) (hfh : ∀ id B, r = .h id → g.role B ≠ .h id) (hfl : ∀ d B, r = .l d → g.role B ≠ .l d) :
    Inv (g.new w.heap.size r p) w' := by
  refine ⟨fun B hB => ?_, fun B id hB => ?_, fun B d hB => ?_, fun B B' id h1 h2 => ?_, fun B B' d h1 h2 => ?_⟩
  · rw [new_role, new_pub, if_neg (by omega), if_neg (by omega)]; exact hi.new B (by omega)
  · rw [new_role] at hB
    rw [new_pub]
    split at hB
    · rename_i e; rw [if_pos e]; exact hp (.inl ⟨id, hB⟩)
    · rename_i e; rw [if_neg e]; exact hi.ph B id hB
  · rw [new_role] at hB
    rw [new_pub]
    split at hB
    · rename_i e; rw [if_pos e]; exact hp (.inr ⟨d, hB⟩)
    · rename_i e; rw [if_neg e]; exact hi.pl B d hB
  · rw [new_role] at h1 h2
    split at h1 <;> split at h2
    · rename_i e1 e2; rw [e1, e2]
    · exact absurd h2 (hfh id B' h1)
    · exact absurd h1 (hfh id B h2)
    · exact hi.injh B B' id h1 h2
  · rw [new_role] at h1 h2
    split at h1 <;> split at h2
    · rename_i e1 e2; rw [e1, e2]
    · exact absurd h2 (hfl d B' h1)
    · exact absurd h1 (hfl d B h2)
    · exact hi.injl B B' d h1 h2

/-- a new block that is published, or claimed for a place -/
theorem Rel.newblk (h : Rel g0 w0 Ex g S a w) (hold : ∀ B, B < w.heap.size → w'.heap[B]? = w.heap[B]?) (hsz : w'.heap.size = w.heap.size + 1) (ho : w'.os = w.os) (ht : w'.tape = w.tape) (hu : w'.output = w.output)
    (r : Role) (p : Nat) (hr : r = .ext ∨ ∃ q, r = .c q) : Rel g0 w0 Ex (g.new w.heap.size r p) S a w' := by
  refine h.grow (keep_new h.inv hold (by omega) ho ht hu r p) (inv_new h.inv hsz r p ?_ ?_ ?_) ?_
  · rintro (⟨id, e⟩ | ⟨d, e⟩) <;> rcases hr with rfl | ⟨q, rfl⟩ <;> cases e
  · intro id B e; rcases hr with rfl | ⟨q, rfl⟩ <;> cases e
  · intro id B e; rcases hr with rfl | ⟨q, rfl⟩ <;> cases e
  · intro B id hB
    rw [new_role] at hB
    split at hB
    · rcases hr with rfl | ⟨q, rfl⟩ <;> cases hB
    · exact h.h.lt B id hB

theorem rep_bytes_new {wn : World} {B : Nat} {l : List UInt8} (hc : ∀ (j : Nat) (b : UInt8), l[j]? = some b → wn.cell? ⟨B, j, none⟩ = some (.int .u8 b.toNat)) (hp : g'.pub B = l.length) (cap : Nat) (hcap : l.length ≤ cap) :
    Rep g' wn (.slice (some ⟨B, 0, none⟩) l.length cap) (.vs 1 false (l.map byteAV)) := by
  have := Rep.vs (g := g') (w := wn) B 0 cap 1 false (l.map byteAV) (l.map fun b => Value.int .u8 b.toNat) (by rw [byte_cells]; simp) (fun x hx => by obtain ⟨b, _, rfl⟩ := List.mem_map.1 hx; rfl) (by simp) (by simpa using hcap) (fun j u hu => ?_) (fun j u c hu hc => ?_)
  · simpa using this
  · rw [List.getElem?_map] at hu
    cases hb : l[j]? with
    | none => rw [hb] at hu; cases hu
    | some b =>
      rw [hb] at hu
      injection hu with hu
      subst hu
      rw [Nat.zero_add]
      exact ⟨hc j b hb, by rw [hp]; exact (List.getElem?_eq_some_iff.1 hb).1, rfl⟩
  · rw [byte_cells] at hc
    rw [List.getElem?_map] at hu hc
    cases hb : l[j]? with
    | none => rw [hb] at hu; cases hu
    | some b =>
      rw [hb] at hu hc
      injection hu with hu
      injection hc with hc
      subst hu hc
      exact .int _ _

theorem opConvert_step {s d : TypeId} {x : Operand} {k : St → Option R} (ho : o.op = .convert s d x) (h : opConvert P o s d (evT P S s x) S k = some r) (hg : Rel g0 w0 Ex g S a w) :
    StepTo P o a w g0 w0 Ex k r := by
  unfold opConvert at h
  have hx := hg.evT (P := P) s x
  split at h
  · rename_i j1 j2 hs hd
    obtain ⟨ik, n, hv, h1⟩ := int?_some h
    rw [hv] at hx
    have hx' := rep_int hx
    exact .val hg (by simp only [execOp, ho, hx', convert, Sem.run_bind, run_und hs, run_und hd, Result.andThen_ok, Conv.intToInt, Sem.run_pure]) (.int _ _) h1
  · rename_i hs hd
    obtain ⟨l, hv, h1⟩ := str?_some h
    rw [hv] at hx
    obtain ⟨bs, hbs, rfl⟩ := rep_str hx
    exact .val hg (by simp only [execOp, ho, hbs, convert, Sem.run_bind, run_und hs, run_und hd, Result.andThen_ok, Sem.run_pure]) (.str bs) h1
  · rename_i e hs hd
    obtain ⟨l, hv, h1⟩ := str?_some h
    clear h
    rw [hv] at hx
    obtain ⟨bs, hbs, rfl⟩ := rep_str hx
    split at h1
    · rename_i he
      split at h1
      · have hrun := Lib.run_convert_string_bytes (P := P) w s d e bs hs hd he
        have hsz : bs.data.toList.length = bs.size := by rw [Array.length_toList]; rfl
        refine .mk (w' := Lib.bytesWorld w e bs) (u := .slice (some ⟨w.heap.size, 0, none⟩) bs.size (grownCap w bs.size 0 e)) (by simp only [execOp, ho, hbs, Sem.run_bind, hrun, Result.andThen_ok, Sem.run_pure]) ?_ h1
        have hr := hg.newblk (w' := Lib.bytesWorld w e bs) (fun B hB => Lib.bytesWorld_at_old w e bs B hB) (Lib.bytesWorld_size w e bs) rfl rfl rfl .ext bs.size (.inl rfl)
        refine ⟨_, hr.putv (f := .no) o.dst ?_ (fun _ _ => trivial) (by simp) (by simp)⟩
        rw [← hsz]
        refine rep_bytes_new (fun j b hb => ?_) (by rw [new_pub, if_pos rfl]) _ (by rw [hsz]; exact grownCap_ge w bs.size 0 e)
        have hj : j < bs.size := by rw [← hsz]; exact (List.getElem?_eq_some_iff.1 hb).1
        rw [Lib.bytesWorld_cell w e bs j hj]
        simp [List.getD, hb]
      · cases h1
    · cases h1
  · rename_i e hs hd
    split at h
    · rename_i he
      split at h
      · cases h
      · rename_i y hny
        obtain ⟨l, news, h1, hsrc⟩ := elemsOf_sound (P := P) hg h hx
        obtain ⟨str, hstr, h2⟩ := bind_some' h1
        obtain ⟨ns, rfl, rfl⟩ := bytesOf_ints hstr
        have hrl := hsrc.rep
        rw [ints_flat] at hrl
        have hnews := rep_ints hrl
        have hstr' : Rep g w (.string ⟨(ns.map fun x => UInt8.ofNat x.toNat).toArray⟩) (.str (ns.map fun x => UInt8.ofNat x.toNat)) := rep_str_mk _
        refine .val hg (u := .string (strOfNums ns)) ?_ hstr' h2
        rcases hsrc.shape with ⟨hu, hn⟩ | ⟨B, off, cap, hu, hc⟩ | ⟨bs, hu⟩
        · have hn' : ns = [] := by simpa using hn
          subst hn'
          obtain ⟨p, hu⟩ := hu
          cases p with
          | none =>
            simp only [execOp, ho, hu, Sem.run_bind, run_convert_bytes_nil w s e hs he 0 0 d hd, Result.andThen_ok, Sem.run_pure]
            rfl
          | some ad =>
            have hrun : (convert s d (.slice (some ad) 0 0)).run P w = .ok (.string ⟨([] : List UInt8).toArray⟩) w := run_convert_bytes_back w s d e ad 0 [] hs he hd (fun j hj => by simp at hj)
            simp only [execOp, ho, hu, Sem.run_bind, hrun, Result.andThen_ok, Sem.run_pure]
            rfl
        · have hrun := run_convert_bytes_arg (P := P) w s e hs he B off (ns.map fun x => AV.int .u8 x).length cap ns (by simp) (fun i hi => by
            rw [List.length_map] at hi
            refine (hc i _ ?_).1
            rw [hnews, List.getElem?_map, List.getElem?_eq_getElem hi]
            simp [List.getD, List.getElem?_eq_getElem hi]) d hd
          simp only [execOp, ho, hu, Sem.run_bind, hrun, Result.andThen_ok, Sem.run_pure]
        · rw [hu] at hx
          exfalso
          cases hev : evT P S s x <;> rw [hev] at hx <;> first | (cases hx; done) | skip
          · rw [hev] at h; cases h
          · exact hny _ hev
    · cases h
  · cases h

end
end Go.Vai
