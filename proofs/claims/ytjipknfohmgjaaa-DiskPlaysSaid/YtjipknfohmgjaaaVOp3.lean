/- How the relation is kept when a right is handed on, when memory grows and when a block is written. -/
import Derived.Test.YtjipknfohmgjaaaVOp2
namespace Go.Vai

theorem memN_iff {n : Nat} : ∀ {l : List Nat}, memN n l = true ↔ n ∈ l
  | [] => by simp [memN]
  | m :: l => by
    have ih := memN_iff (n := n) (l := l)
    unfold memN
    cases hb : Nat.beq n m with
    | true => simp [Nat.eq_of_beq_eq_true hb]
    | false =>
      have hne : n ≠ m := fun e => by subst e; rw [show Nat.beq n n = true from Nat.beq_refl n] at hb; cases hb
      simp [hne, ih]

theorem mem_delN {n m : Nat} : ∀ {l : List Nat}, m ∈ delN n l ↔ m ∈ l ∧ m ≠ n
  | [] => by simp [delN]
  | x :: l => by
    have ih := mem_delN (n := n) (m := m) (l := l)
    unfold delN
    cases hb : Nat.beq n x with
    | true =>
      obtain rfl := Nat.eq_of_beq_eq_true hb
      simp only [ih, List.mem_cons]
      constructor
      · rintro ⟨h1, h2⟩; exact ⟨.inr h1, h2⟩
      · rintro ⟨h1 | h1, h2⟩
        · exact absurd h1 h2
        · exact ⟨h1, h2⟩
    | false =>
      have hne : n ≠ x := fun e => by subst e; rw [show Nat.beq n n = true from Nat.beq_refl n] at hb; cases hb
      simp only [List.mem_cons, ih]
      constructor
      · rintro (rfl | ⟨h1, h2⟩)
        · exact ⟨.inl rfl, fun e => hne e.symm⟩
        · exact ⟨.inr h1, h2⟩
      · rintro ⟨rfl | h1, h2⟩
        · exact .inl rfl
        · exact .inr ⟨h1, h2⟩

section
variable {g0 : G} {w0 : World} {Ex : Nat → Prop} {g : G} {S : St} {a : Act} {w : World} {P : Program} {R : Type} {r : R} {o : Oper}

/-- nobody in the state holds the right of place p -/
def NoClaim (S : St) : Pl → Prop
  | .s t => ∀ v, S.slot t ≠ .val v .own
  | .sc t i => ∀ v cs, S.slot t = .val v (.comps cs) → i ∉ cs
  | .l d off => ∀ b, getL S.L d = some b → off ∉ b.free
  | .h id off => ∀ b, S.H id = some b → off ∉ b.free
  | .r _ => True

/-- the right of p goes to p' -/
theorem Rel.retag (h : Rel g0 w0 Ex g S a w) {p : Pl} (hn : NoClaim S p) {u : Value} {c : AV} (ho : OwnAV g w p u c) (p' : Pl) :
    ∃ g', Rel g0 w0 Ex g' S a w ∧ OwnAV g' w p' u c ∧ (∀ B id, g'.role B = .h id ↔ g.role B = .h id) ∧ (∀ B d, g'.role B = .l d ↔ g.role B = .l d) ∧ g'.pub = g.pub ∧
      (∀ q x y, q ≠ p → OwnAV g w q x y → OwnAV g' w q x y) ∧ (∀ B, g'.role B = .ext ↔ g.role B = .ext) := by
  have trivialCase : (∀ p', OwnAV g w p' u c) → ∃ g', Rel g0 w0 Ex g' S a w ∧ OwnAV g' w p' u c ∧ (∀ B id, g'.role B = .h id ↔ g.role B = .h id) ∧ (∀ B d, g'.role B = .l d ↔ g.role B = .l d) ∧ g'.pub = g.pub ∧
      (∀ q x y, q ≠ p → OwnAV g w q x y → OwnAV g' w q x y) ∧ (∀ B, g'.role B = .ext ↔ g.role B = .ext) :=
    fun hh => ⟨g, h, hh p', fun _ _ => Iff.rfl, fun _ _ => Iff.rfl, rfl, fun _ _ _ _ h => h, fun _ => Iff.rfl⟩
  cases c with
  | vs sz tg l =>
    rcases ho with hnil | ⟨ad, n, htight⟩ | ⟨B, n, cap, us, e, hu, hrole, hheap, hsz, hle, hpub⟩
    · exact trivialCase fun _ => .inl hnil
    · exact trivialCase fun _ => .inr (.inl ⟨ad, n, htight⟩)
    · let g' : G := ⟨fun B' => if B' = B then .c p' else g.role B', g.pub⟩
      have hr : ∀ B', B' ≠ B → g'.role B' = g.role B' := fun B' hne => by show (if B' = B then _ else _) = _; rw [if_neg hne]
      have hrB : g'.role B = .c p' := by show (if B = B then _ else _) = _; rw [if_pos rfl]
      have hh : ∀ B' id, g'.role B' = .h id ↔ g.role B' = .h id := fun B' id => by
        by_cases hb : B' = B
        · subst hb; rw [hrB, hrole]; constructor <;> (intro h; cases h)
        · rw [hr B' hb]
      have hl : ∀ B' d, g'.role B' = .l d ↔ g.role B' = .l d := fun B' id => by
        by_cases hb : B' = B
        · subst hb; rw [hrB, hrole]; constructor <;> (intro h; cases h)
        · rw [hr B' hb]
      have hext : ∀ B', g'.role B' = .ext ↔ g.role B' = .ext := fun B' => by
        by_cases hb : B' = B
        · subst hb; rw [hrB, hrole]; constructor <;> (intro h; cases h)
        · rw [hr B' hb]
      have hE : Ext g w g' w := ⟨fun B' id h => (hh B' id).2 h, fun _ => Nat.le_refl _, fun _ _ _ => rfl⟩
      have hown : ∀ q x y, q ≠ p → OwnAV g w q x y → OwnAV g' w q x y := by
        intro q x y hq hy
        cases y with
        | vs sz2 tg2 l2 =>
          rcases hy with h1 | h1 | ⟨B2, n2, cap2, us2, e2, hu2, hrole2, rest⟩
          · exact .inl h1
          · exact .inr (.inl h1)
          · refine .inr (.inr ⟨B2, n2, cap2, us2, e2, hu2, ?_, rest⟩)
            rw [hr B2 (fun e => by subst e; rw [hrole] at hrole2; injection hrole2 with e; exact hq e.symm)]
            exact hrole2
        | _ => trivial
      have hBlk : ∀ B' cells, BlkRep g w B' cells → BlkRep g' w B' cells := fun B' cells ⟨us, e, h1, h2, h3⟩ => ⟨us, e, h1, h2, h3.ext hE⟩
      refine ⟨g', ⟨?_, ?_, ?_, fun d l hl' => (by obtain ⟨B', es, ck, k1, k2, k3⟩ := h.m d l hl'; exact ⟨B', es, ck, (hl B' d).2 k1, k2, k3.ext hE⟩), h.len, fun t => ?_, ?_, h.nodef⟩, .inr (.inr ⟨B, n, cap, us, e, hu, hrB, hheap, hsz, hle, hpub⟩), hh, hl, rfl, hown, hext⟩
      · have hBlt : B < w.heap.size := (Array.getElem?_eq_some_iff.1 hheap).1
        refine ⟨fun B' hB' => ?_, fun B' id hb => h.inv.ph B' id ((hh B' id).1 hb), fun B' d hb => h.inv.pl B' d ((hl B' d).1 hb), fun B1 B2 id h1 h2 => h.inv.injh B1 B2 id ((hh _ _).1 h1) ((hh _ _).1 h2), fun B1 B2 id h1 h2 => h.inv.injl B1 B2 id ((hl _ _).1 h1) ((hl _ _).1 h2)⟩
        rw [hr B' (by omega)]
        exact h.inv.new B' hB'
      · refine ⟨fun id b hb => ?_, fun B' id hb => h.h.lt B' id ((hh B' id).1 hb)⟩
        obtain ⟨B', h1, h2, h3⟩ := h.h.blk id b hb
        refine ⟨B', (hh _ _).2 h1, hBlk _ _ h2, fun off hoff x y hx hy => hown _ _ _ ?_ (h3 off hoff x y hx hy)⟩
        intro e
        subst e
        exact hn b hb hoff
      · intro d b hb
        obtain ⟨B', h1, h2, h3⟩ := h.l d b hb
        refine ⟨B', (hl _ _).2 h1, hBlk _ _ h2, fun off hoff x y hx hy => hown _ _ _ ?_ (h3 off hoff x y hx hy)⟩
        intro e
        subst e
        exact hn b hb hoff
      · have hs := h.sl t
        cases hst : S.slot t with
        | und => trivial
        | lp d off => rw [hst] at hs; obtain ⟨B', h1, h2⟩ := hs; exact ⟨B', (hl _ _).2 h1, h2⟩
        | mp d => rw [hst] at hs; obtain ⟨B', h1, h2⟩ := hs; exact ⟨B', (hl _ _).2 h1, h2⟩
        | val v f =>
          rw [hst] at hs
          obtain ⟨h1, h2⟩ := hs
          refine ⟨h1.ext hE, ?_⟩
          cases f with
          | no => trivial
          | own => exact hown _ _ _ (fun e => by subst e; exact hn v hst) h2
          | lS q => exact h2
          | lL d off => intro b hb hoff; obtain ⟨B', h3, h4⟩ := h2 b hb hoff; exact ⟨B', (hl _ _).2 h3, h4⟩
          | lH id off => intro b hb hoff; obtain ⟨B', h3, h4⟩ := h2 b hb hoff; exact ⟨B', (hh _ _).2 h3, h4⟩
          | comps cs => intro i hi xs vs xi vi e1 e2 e3 e4; exact hown _ _ _ (fun e => by subst e; exact hn v cs hst hi) (h2 i hi xs vs xi vi e1 e2 e3 e4)
      · refine ⟨h.fr.ext.trans hE, h.fr.os, h.fr.tape, h.fr.output, h.fr.size, fun B' hB' hx => h.fr.same B' hB' hx, fun B' hB' => h.fr.role B' fun e => hB' ((hext B').2 e)⟩
  | _ => exact trivialCase fun _ => trivial

/-- a slot's flag is weakened -/
theorem Rel.reflag (h : Rel g0 w0 Ex g S a w) {t : Nat} {v : AV} {f f' : Fl} (hs : S.slot t = .val v f) (hf : FlRel g S a w t (a.tmps.getD t undef) v f') (hno : f' ≠ .own) (hlS : ∀ q, f' ≠ .lS q) :
    Rel g0 w0 Ex g (S.put t (.val v f')) a w := by
  have hlt : t < S.sl.length := nthS_lt (by show S.slot t ≠ _; rw [hs]; simp)
  refine ⟨h.inv, h.h, h.l, h.m, by show (setS S.sl t _).length = _; rw [setS_length]; exact h.len, fun t' => ?_, h.fr, h.nodef⟩
  have key : ∀ q v', (S.put t (.val v f')).slot q = .val v' .own → S.slot q = .val v' .own := by
    intro q v' hq
    rw [slot_put] at hq
    split at hq
    · injection hq with _ e; exact absurd e hno
    · exact hq
  rw [slot_put]
  by_cases ht : t' = t ∧ t < S.sl.length
  · rw [if_pos ht]
    obtain ⟨rfl, _⟩ := ht
    have h1 := h.sl t'
    rw [hs] at h1
    refine ⟨h1.1, ?_⟩
    cases f' with
    | no => trivial
    | own => exact absurd rfl hno
    | lS q => exact absurd rfl (hlS q)
    | lL d off => exact hf
    | lH id off => exact hf
    | comps cs => exact hf
  · rw [if_neg ht]
    have h1 := h.sl t'
    cases hst : S.slot t' with
    | und => trivial
    | lp d off => rw [hst] at h1; exact h1
    | mp d => rw [hst] at h1; exact h1
    | val v2 f2 =>
      rw [hst] at h1
      refine ⟨h1.1, ?_⟩
      have h2 := h1.2
      cases f2 with
      | lS q => exact fun v' hq => h2 v' (key q v' hq)
      | _ => exact h2

theorem opExtract_step {x : Operand} {i : Nat} {k : St → Option R} (ho : o.op = .extract x i) (h : opExtract o x i S k = some r) (hg : Rel g0 w0 Ex g S a w) :
    StepTo P o a w g0 w0 Ex k r := by
  unfold opExtract at h
  split at h
  · rename_i t
    split at h
    · rename_i v f hs
      obtain ⟨l, rfl, h3⟩ := tup?_some h
      obtain ⟨c, hc, h4⟩ := bind_some' h3
      clear h h3
      rw [nth_get] at hc
      obtain ⟨hrep, hfl⟩ := hg.slotv hs
      obtain ⟨us, hus, hrl⟩ := rep_tuple hrep
      obtain ⟨u, hu, hru⟩ := hrl.get hc
      have he : (execOp a.eval o).run P w = .ok (.value u) w := by
        simp only [execOp, ho, hus, Instr.extract, Sem.run_bind, List.getElem?_toArray, hu, Sem.run_pure, Result.andThen_ok]
      cases f with
      | comps cs =>
        cases hm : memN i cs with
        | false =>
          simp only [hm] at h4
          exact .val hg he hru h4
        | true =>
          simp only [hm] at h4
          have hmem := memN_iff.1 hm
          have hr1 := hg.reflag hs (f' := .comps (delN i cs)) (fun j hj => hfl j (mem_delN.1 hj).1) (by simp) (by simp)
          have hlt : t < S.sl.length := nthS_lt (by show S.slot t ≠ _; rw [hs]; simp)
          have hnc : NoClaim (S.put t (.val (.tuple l) (.comps (delN i cs)))) (.sc t i) := by
            intro v' cs' hv'
            rw [slot_put, if_pos ⟨rfl, hlt⟩] at hv'
            injection hv' with _ e2
            injection e2 with e2
            subst e2
            intro hh
            exact (mem_delN.1 hh).2 rfl
          have hown : OwnAV g w (.sc t i) u c := hfl i hmem us.toArray l u c hus rfl (by simpa using hu) hc
          cases hd : o.dst with
          | none =>
            rw [hd] at h4
            refine .mk he ⟨g, ?_⟩ h4
            rw [hd]
            exact hr1
          | some d =>
            rw [hd] at h4
            obtain ⟨g', hr2, hown', hh', hl', hp', _⟩ := hr1.retag hnc hown (.s d)
            have hE : Ext g w g' w := ⟨fun B id h => (hh' B id).2 h, fun B => by rw [hp']; exact Nat.le_refl _, fun _ _ _ => rfl⟩
            refine .mk he ⟨g', ?_⟩ h4
            rw [hd]
            refine hr2.putown (some d) (hru.ext hE) (fun d' e => ?_) (.inr (.inl rfl))
            injection e with e
            subst e
            exact hown'
      | _ => exact .val hg he hru h4
    · cases h
  · cases h

theorem unS_unlent (d : Nat) (s : Slot) : s.unlent.unS d = s.unlent := by
  cases s with
  | val v f => cases f <;> rfl
  | _ => rfl

theorem unlent_put_own (S : St) (d : Nat) (v : AV) : S.unlent.put d (.val v .own) = S.unlent.putown (some d) v .own := by
  show _ = ({ S.unlent with sl := S.unlent.sl.map (Slot.unS d) } : St).put d _
  congr 1
  have : S.unlent.sl.map (Slot.unS d) = S.unlent.sl := by
    show (S.sl.map Slot.unlent).map (Slot.unS d) = S.sl.map Slot.unlent
    rw [List.map_map]
    congr 1
    funext s
    exact unS_unlent d s
  rw [this]

theorem slot_unlent_own {S : St} {t : Nat} {v : AV} (h : S.unlent.slot t = .val v .own) : S.slot t = .val v .own := by
  rw [slot_unlent] at h
  revert h
  cases S.slot t with
  | val v2 f2 => cases f2 <;> (intro h; first | exact h | cases h)
  | _ => exact fun h => h

/-- the right of slot t goes, with its value, to slot d -/
theorem Rel.hand (h : Rel g0 w0 Ex g S a w) {t : Nat} {v : AV} (hs : S.slot t = .val v .own) (d : Nat) :
    Good g0 w0 Ex (((S.put t (.val v .no)).unlent).put d (.val v .own)) (a.put (some d) (a.tmps.getD t undef)) w := by
  obtain ⟨hrep, hown⟩ := h.slotv hs
  have hlt : t < S.sl.length := nthS_lt (by show S.slot t ≠ _; rw [hs]; simp)
  have h1 := (h.reflag hs (f' := .no) trivial (by simp) (by simp)).unlent
  have hnc : NoClaim (S.put t (.val v .no)).unlent (.s t) := by
    intro v' hv'
    have := slot_unlent_own hv'
    rw [slot_put, if_pos ⟨rfl, hlt⟩] at this
    injection this with _ e
    cases e
  obtain ⟨g', h2, hown', hh', hl', hp', _⟩ := h1.retag hnc hown (.s d)
  have hE : Ext g w g' w := ⟨fun B id h => (hh' B id).2 h, fun B => by rw [hp']; exact Nat.le_refl _, fun _ _ _ => rfl⟩
  rw [unlent_put_own]
  refine ⟨g', h2.putown (some d) (hrep.ext hE) (fun d' e => ?_) (.inr (.inl rfl))⟩
  injection e with e
  subst e
  exact hown'

theorem opAssign_step {isRes : Nat → Bool} {x : Operand} {k : St → Option R} (ho : o.op = .assign x) (h : opAssign P isRes o x S k = some r) (hg : Rel g0 w0 Ex g S a w) :
    StepTo P o a w g0 w0 Ex k r := by
  have he : (execOp a.eval o).run P w = .ok (.value (a.eval x)) w := by simp [execOp, ho]
  have plain : ∀ (d : Nat) (v : AV), o.dst = some d → Rep g w (a.eval x) v → k (S.unlent.put d (.val v .no)) = some r → StepTo P o a w g0 w0 Ex k r := by
    intro d v hd hv hk
    refine .mk he ⟨g, ?_⟩ hk
    rw [hd]
    exact hg.unlent.putv (f := .no) (some d) hv (fun _ _ => trivial) (by simp) (by simp)
  unfold opAssign at h
  split at h
  · cases h
  · rename_i d hd
    split at h
    · rename_i c
      unfold constSlot at h
      split at h
      · refine .mk he ⟨g, ?_⟩ h
        rw [hd]
        have e : ofConst P o.type (.slice none 0 0) = .vs (match tElem P o.type with
          | some e => tSize P e
          | Option.none => 0) true [] := rfl
        rw [e, unlent_put_own]
        exact hg.unlent.putown (some d) (.vsnil _ _ _) (fun d' _ => .inl rfl) (.inr (.inl rfl))
      · exact plain d _ hd (ofConst_rep _ _) h
    · exact plain d _ hd (.func _ [] [] rfl (by simp)) h
    · cases h
    · rename_i t
      split at h
      · refine .mk he ⟨g, ?_⟩ h
        rw [hd]
        exact hg.unlent.putlp (some d) (.inl rfl)
      · rename_i e off hs
        have h1 := hg.sl t
        rw [hs] at h1
        obtain ⟨B, h1, h2⟩ := h1
        refine .mk he ⟨g, ?_⟩ h
        rw [hd]
        exact hg.unlent.putlp (some d) (.inr (.inl ⟨e, off, B, rfl, h1, h2⟩))
      · rename_i e hs
        have h1 := hg.sl t
        rw [hs] at h1
        obtain ⟨B, h1, h2⟩ := h1
        refine .mk he ⟨g, ?_⟩ h
        rw [hd]
        exact hg.unlent.putlp (some d) (.inr (.inr ⟨e, B, rfl, h1, h2⟩))
      · rename_i v hs
        have := hg.hand hs d
        refine .mk he ?_ h
        rw [hd]
        exact this
      · rename_i v q hs
        split at h
        · exact plain d _ hd (hg.slotv hs).1 h
        · split at h
          · rename_i u hq
            obtain ⟨h1, h2⟩ := (hg.slotv hs).2 u hq
            subst h2
            have := hg.hand hq d
            refine .mk he ?_ h
            rw [hd]
            have e : a.eval (.tmp t) = a.tmps.getD q undef := h1.symm
            rw [e]
            exact this
          · exact plain d _ hd (hg.slotv hs).1 h
      · rename_i v f _ _ hs
        exact plain d _ hd (hg.slotv hs).1 h

end
end Go.Vai
