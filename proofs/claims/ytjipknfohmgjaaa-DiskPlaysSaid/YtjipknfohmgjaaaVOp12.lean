/- Calls. -/
import Derived.Test.YtjipknfohmgjaaaVOp11
namespace Go.Vai

/-- what a call leaves behind -/
structure Ret (rf : List Nat) (one : Bool) (g : G) (w : World) (Ex : Nat → Prop) (out : Out) (v : Value) (g' : G) (w' : World) : Prop where
  inv : Inv g' w'
  h : RelH g' out.H out.nx w'
  rep : Rep g' w' v out.v
  fr : Fr g w Ex g' w'
  roles : ∀ B, (∃ d, g'.role B = .l d) ∨ (∃ t, g'.role B = .c (.s t)) ∨ (∃ t i, g'.role B = .c (.sc t i)) ∨ (∃ d off, g'.role B = .c (.l d off)) → False
  own1 : one = true → 0 ∈ rf → OwnAV g' w' (.r 0) v out.v
  own : one = false → ∀ i ∈ rf, ∀ us vs ui vi, v = .tuple us → out.v = .tuple vs → us[i]? = some ui → vs[i]? = some vi → OwnAV g' w' (.r i) ui vi

/-- only shared memory -/
def Shared (g : G) : Prop := ∀ B, g.role B = .ext ∨ (∃ id, g.role B = .h id) ∨ ∃ id off, g.role B = .c (.h id off)

/-- a call's contract, for one level of fuel -/
def CalOk (P : Program) (A : List (Nat × Ann)) (cal : Oracle) : Prop :=
  ∀ f args H nx out, cal f args H nx = some out → (∃ fn c, P.funcs[f]? = some fn ∧ fn.body = some c) ∧ ∀ (g : G) (w : World) (cargs : List Value), Inv g w → RelH g H nx w → Shared g → ((getA A f).imp = false → ∀ B, g.role B = .ext) → GlobOk A g w → RepL g w cargs args →
    Calls P f cargs.toArray w fun e w' => ∃ v g', e = .returned v ∧ Ret (getA A f).rf (oneRes P f) g w (fun B => g.role B ≠ .ext) out v g' w'

section
variable {X : Nat → Prop} {g0 : G} {w0 : World} {Ex : Nat → Prop} {g g' : G} {S : St} {a : Act} {w w' : World} {P : Program} {R : Type} {r : R} {o : Oper} {A : List (Nat × Ann)} {cal : Oracle}

/-- one operation, calls among them -/
def OpOk (P : Program) (o : Oper) (a : Act) (w : World) (g0 : G) (w0 : World) (Ex : Nat → Prop) (k : St → Option R) (r : R) : Prop :=
  ∀ Q, o.wp P a w (fun a' w' => ∃ S', Good g0 w0 Ex S' a' w' ∧ k S' = some r) Q

theorem StepTo.ok {k : St → Option R} (h : StepTo P o a w g0 w0 Ex k r) : OpOk P o a w g0 w0 Ex k r := by
  intro Q
  obtain ⟨n, u, w', S', hrun, hn, hgood, hk⟩ := h
  unfold Oper.wp
  rw [hrun]
  rcases hn with rfl | ⟨rfl, rfl⟩
  · rw [Oper.upon_value]; exact ⟨S', hgood, hk⟩
  · rw [Oper.upon_skip]; exact ⟨S', hgood, hk⟩

theorem evsT_rep (hg : Rel g0 w0 Ex g S a w) : ∀ (tys : List TypeId) (l : List Operand), RepL g w (l.map a.eval) (evsT P S tys l)
  | _, [] => by cases ‹List TypeId› <;> exact ⟨rfl, by simp [evsT]⟩
  | t :: ts, x :: l => by
    have ih := evsT_rep hg ts l
    refine ⟨by simp [evsT, ih.1], fun j u c hu hc => ?_⟩
    cases j with
    | zero => simp [evsT] at hu hc; subst hu hc; exact hg.evT t x
    | succ j => exact ih.2 j u c (by simpa using hu) (by simpa [evsT] using hc)
  | [], x :: l => by
    have ih := evsT_rep hg [] l
    refine ⟨by simp [evsT, ih.1], fun j u c hu hc => ?_⟩
    cases j with
    | zero => simp [evsT] at hu hc; subst hu hc; exact hg.ev x
    | succ j => exact ih.2 j u c (by simpa using hu) (by simpa [evsT] using hc)

/-- the ghost that a callee sees -/
def G.shared (g : G) : G := ⟨fun B => match g.role B with
  | .h id => .h id
  | .c (.h id off) => .c (.h id off)
  | _ => .ext, g.pub⟩

theorem shared_h {B id : Nat} : (g.shared).role B = .h id ↔ g.role B = .h id := by
  unfold G.shared
  cases hr : g.role B with
  | c p => cases p <;> simp [hr]
  | _ => simp [hr]
theorem shared_ch {B id off : Nat} : (g.shared).role B = .c (.h id off) ↔ g.role B = .c (.h id off) := by
  unfold G.shared
  cases hr : g.role B with
  | c p => cases p <;> simp [hr]
  | _ => simp [hr]
theorem shared_shared : Shared g.shared := by
  intro B
  unfold G.shared
  cases hr : g.role B with
  | c p => cases p <;> simp [hr]
  | _ => simp [hr]
theorem shared_noL {B d : Nat} : (g.shared).role B ≠ .l d := by
  unfold G.shared
  cases hr : g.role B with
  | c p => cases p <;> simp [hr]
  | _ => simp [hr]
theorem shared_ext : Ext g w g.shared w := ⟨fun _B _id h => shared_h.2 h, fun _ => Nat.le_refl _, fun _ _ _ => rfl⟩
theorem shared_own {id off : Nat} {u : Value} {c : AV} (h : OwnAV g w (.h id off) u c) : OwnAV g.shared w (.h id off) u c := by
  cases c with
  | vs sz tg l =>
    rcases h with h | h | ⟨B, n, cap, us, e, h1, h2, h3⟩
    · exact .inl h
    · exact .inr (.inl h)
    · exact .inr (.inr ⟨B, n, cap, us, e, h1, shared_ch.2 h2, h3⟩)
  | _ => trivial

theorem shared_inv (h : Inv g w) : Inv g.shared w := by
  refine ⟨fun B hB => ⟨?_, (h.new B hB).2⟩, fun B id hB => h.ph B id (shared_h.1 hB), fun B d hB => absurd hB shared_noL, fun B B' id h1 h2 => h.injh B B' id (shared_h.1 h1) (shared_h.1 h2), fun B B' d h1 _ => absurd h1 shared_noL⟩
  show (match g.role B with
    | .h id => Role.h id
    | .c (.h id off) => .c (.h id off)
    | _ => .ext) = .ext
  rw [(h.new B hB).1]

theorem shared_relH {H : Hp} {nx : Nat} (h : RelH g H nx w) : RelH g.shared H nx w := by
  refine ⟨fun id b hb => ?_, fun B id hB => h.lt B id (shared_h.1 hB)⟩
  obtain ⟨B, hB, ⟨us, e, h1, h2, h3⟩, hf⟩ := h.blk id b hb
  exact ⟨B, shared_h.2 hB, ⟨us, e, h1, h2, h3.ext shared_ext⟩, fun off hoff u v hu hv => shared_own (hf off hoff u v hu hv)⟩

/-- the ghost behind an impure call: the frame's own names stay, a result's right goes to 'pl i' -/
def G.back (g : G) (n : Nat) (g' : G) (pl : Nat → Pl) : G := ⟨fun B => match g'.role B with
  | .c (.r i) => .c (pl i)
  | .ext => if B < n then (match g.role B with
    | .h _ => .ext
    | .c (.h _ _) => .ext
    | x => x) else .ext
  | x => x, g'.pub⟩


theorem back_h {n : Nat} {pl : Nat → Pl} (_hpl : ∀ i, (∃ d, pl i = .s d) ∨ (∃ d j, pl i = .sc d j) ∨ ∃ j, pl i = .r j) {B id : Nat} : (g.back n g' pl).role B = .h id ↔ g'.role B = .h id := by
  unfold G.back
  simp only
  cases hr : g'.role B with
  | h id' => simp
  | l d => simp
  | c p => cases p <;> simp
  | ext =>
    simp only
    split
    · cases hg : g.role B with
      | c p => cases p <;> simp
      | _ => simp
    · simp

theorem call_imp (hg : Rel g0 w0 Ex g S a w) {rf : List Nat} {one : Bool} {out : Out} {v : Value} (hret : Ret rf one g.shared w (fun B => g.shared.role B ≠ .ext) out v g' w') (dst : Option Nat) :
    Good g0 w0 Ex (({ S with H := out.H, nx := out.nx } : St).unlentH.putown dst out.v (resFl one rf)) (a.put dst v) w' := by
  let pl : Nat → Pl := fun i => match dst with
    | some d => match one with
      | true => .s d
      | false => .sc d i
    | none => .r i
  have hpl : ∀ i, (∃ d, pl i = .s d) ∨ (∃ d j, pl i = .sc d j) ∨ ∃ j, pl i = .r j := by
    intro i
    simp only [pl]
    cases dst with
    | none => exact .inr (.inr ⟨i, rfl⟩)
    | some d => cases one with
      | true => exact .inl ⟨d, rfl⟩
      | false => exact .inr (.inl ⟨d, i, rfl⟩)
  let g2 := g.back w.heap.size g' pl
  have r2 : ∀ B, g2.role B = match g'.role B with
    | .c (.r i) => .c (pl i)
    | .ext => if B < w.heap.size then (match g.role B with
      | .h _ => .ext
      | .c (.h _ _) => .ext
      | x => x) else .ext
    | x => x := fun _ => rfl
  have p2 : g2.pub = g'.pub := rfl
  have hh : ∀ B id, g2.role B = .h id ↔ g'.role B = .h id := fun B id => back_h hpl
  -- the frame's own blocks
  have loc : ∀ B, B < w.heap.size → g.shared.role B = .ext → g'.role B = .ext ∧ w'.heap[B]? = w.heap[B]? ∧ g'.pub B = g.pub B := fun B hB he => by
    have hne : ¬ (g.shared.role B ≠ .ext) := fun h => h he
    obtain ⟨h1, h2⟩ := hret.fr.same B hB hne
    refine ⟨?_, h1, h2⟩
    rcases Classical.em (g'.role B = .ext) with h | h
    · exact h
    · rcases hret.fr.role B h with h3 | h3
      · omega
      · exact absurd he h3
  have shExt : ∀ B x, g.role B = x → (∀ id, x ≠ .h id) → (∀ id off, x ≠ .c (.h id off)) → g.shared.role B = .ext := by
    intro B x hx h1 h2
    unfold G.shared
    simp only
    subst hx
    cases hr : g.role B with
    | h id => exact absurd hr (h1 id)
    | c p => cases p <;> first | rfl | (rename_i id off; exact absurd hr (h2 id off))
    | _ => rfl
  have keep : ∀ B x, B < w.heap.size → g.role B = x → x ≠ .ext → (∀ id, x ≠ .h id) → (∀ id off, x ≠ .c (.h id off)) → g2.role B = x ∧ w'.heap[B]? = w.heap[B]? ∧ g2.pub B = g.pub B := by
    intro B x hB hx h0 h1 h2
    obtain ⟨h3, h4, h5⟩ := loc B hB (shExt B x hx h1 h2)
    refine ⟨?_, h4, h5⟩
    rw [r2, h3]
    simp only
    rw [if_pos hB, hx]
    cases x with
    | h id => exact absurd rfl (h1 id)
    | c p => cases p <;> first | rfl | exact absurd rfl (h2 _ _)
    | _ => rfl
  have hE : Ext g w g2 w' := ⟨fun B id hB => (hh B id).2 (hret.fr.ext.hrole B id (shared_h.2 hB)), fun B => hret.fr.ext.pub B, fun B o ho => hret.fr.ext.cell B o ho⟩
  have hE' : Ext g' w' g2 w' := ⟨fun B id hB => (hh B id).2 hB, fun _ => Nat.le_refl _, fun _ _ _ => rfl⟩
  have inb : ∀ B x, g.role B = x → x ≠ .ext → B < w.heap.size := fun B x hx h0 => by
    rcases Nat.lt_or_ge B w.heap.size with h | h
    · exact h
    · rw [(hg.inv.new B h).1] at hx; exact absurd hx.symm h0
  have l2 : ∀ B d, g2.role B = .l d → g.role B = .l d := by
    intro B d hB
    rw [r2] at hB
    cases hr : g'.role B with
    | ext =>
      rw [hr] at hB
      simp only at hB
      split at hB
      · cases hgr : g.role B with
        | c p => rw [hgr] at hB; cases p <;> cases hB
        | l d' => rw [hgr] at hB; exact hB
        | _ => rw [hgr] at hB; cases hB
      · cases hB
    | l d' => exact absurd (.inl ⟨d', hr⟩) (hret.roles B)
    | h id => rw [hr] at hB; cases hB
    | c p => rw [hr] at hB; cases p <;> cases hB
  have ownKeep : ∀ p u c, (∀ id off, p ≠ .h id off) → OwnAV g w p u c → OwnAV g2 w' p u c := by
    intro p u c hp hc
    cases c with
    | vs sz tg l =>
      rcases hc with h | h | ⟨B, n, cap, us, e, h1, h2, h3, h4, h5, h6⟩
      · exact .inl h
      · exact .inr (.inl h)
      · obtain ⟨k1, k2, k3⟩ := keep B _ (heap_lt h3) h2 (by simp) (by simp) (fun id off e => by injection e with e; exact hp id off e)
        exact .inr (.inr ⟨B, n, cap, us, e, h1, k1, by rw [k2]; exact h3, h4, h5, by rw [k3]; exact h6⟩)
    | _ => trivial
  have hrel : Rel g0 w0 Ex g2 ({ S with H := out.H, nx := out.nx } : St).unlentH a w' := by
    refine ⟨⟨fun B hB => ?_, fun B id hB => hret.inv.ph B id ((hh B id).1 hB), fun B d hB => ?_, fun B B' id h1 h2 => hret.inv.injh B B' id ((hh _ _).1 h1) ((hh _ _).1 h2), fun B B' d h1 h2 => hg.inv.injl B B' d (l2 B d h1) (l2 B' d h2)⟩,
      ⟨fun id b hb => ?_, fun B id hB => hret.h.lt B id ((hh B id).1 hB)⟩, fun d b hb => ?_, fun d l hl => ?_, by show (S.sl.map Slot.unlentH).length = _; rw [List.length_map]; exact hg.len, fun t => ?_, ?_, hg.nodef⟩
    · obtain ⟨h1, h2⟩ := hret.inv.new B hB
      refine ⟨?_, h2⟩
      rw [r2, h1]
      simp only
      rw [if_neg (by have := hret.fr.size; omega)]
    · have hl := l2 B d hB
      rw [(keep B _ (inb B _ hl (by simp)) hl (by simp) (by simp) (by simp)).2.2]
      exact hg.inv.pl B d hl
    · obtain ⟨B, hB, ⟨us, e, h1, h2, h3⟩, hf⟩ := hret.h.blk id b hb
      refine ⟨B, (hh B id).2 hB, ⟨us, e, h1, h2, h3.ext hE'⟩, fun off hoff u v hu hv => ?_⟩
      have := hf off hoff u v hu hv
      cases v with
      | vs sz tg l =>
        rcases this with h | h | ⟨B', n, cap, us', e', h1, h2, h3⟩
        · exact .inl h
        · exact .inr (.inl h)
        · exact .inr (.inr ⟨B', n, cap, us', e', h1, by rw [r2, h2], h3⟩)
      | _ => trivial
    · obtain ⟨B, hB, ⟨us, e, h1, h2, h3⟩, hf⟩ := hg.l d b hb
      obtain ⟨k1, k2, k3⟩ := keep B _ (heap_lt h1) hB (by simp) (by simp) (by simp)
      refine ⟨B, k1, ⟨us, e, by rw [k2]; exact h1, h2, h3.ext hE⟩, fun off hoff u v hu hv => ?_⟩
      rw [cell_keep k2] at hu
      exact ownKeep _ _ _ (by simp) (hf off hoff u v hu hv)
    · obtain ⟨B, es, ck, h1, h2, h3⟩ := hg.m d l hl
      obtain ⟨k1, k2, k3⟩ := keep B _ (heap_lt h2) h1 (by simp) (by simp) (by simp)
      exact ⟨B, es, ck, k1, by rw [k2]; exact h2, h3.ext hE⟩
    · rw [slot_unlentH]
      have hown : ∀ q v', (({ S with H := out.H, nx := out.nx } : St).unlentH).slot q = .val v' .own → S.slot q = .val v' .own := fun q v' hq => slot_unlentH_own (S := { S with H := out.H, nx := out.nx }) hq
      show SlotRel g2 _ a w' t (S.slot t).unlentH
      have h1 := hg.sl t
      cases hst : S.slot t with
      | und => trivial
      | lp d off =>
        rw [hst] at h1
        obtain ⟨B, h2, h3⟩ := h1
        exact ⟨B, (keep B _ (inb B _ h2 (by simp)) h2 (by simp) (by simp) (by simp)).1, h3⟩
      | mp d =>
        rw [hst] at h1
        obtain ⟨B, h2, h3⟩ := h1
        exact ⟨B, (keep B _ (inb B _ h2 (by simp)) h2 (by simp) (by simp) (by simp)).1, h3⟩
      | val v f =>
        rw [hst] at h1
        cases f with
        | no => exact ⟨h1.1.ext hE, trivial⟩
        | own => exact ⟨h1.1.ext hE, ownKeep _ _ _ (by simp) h1.2⟩
        | lS q => exact ⟨h1.1.ext hE, fun v' hq => h1.2 v' (hown q v' hq)⟩
        | lL d off =>
          refine ⟨h1.1.ext hE, fun b hb hoff => ?_⟩
          obtain ⟨B, h2, h3, h4⟩ := h1.2 b hb hoff
          obtain ⟨k1, k2, _⟩ := keep B _ (inb B _ h2 (by simp)) h2 (by simp) (by simp) (by simp)
          exact ⟨B, k1, by rw [cell_keep k2]; exact h3, h4⟩
        | lH id off => exact ⟨h1.1.ext hE, trivial⟩
        | comps cs => exact ⟨h1.1.ext hE, fun i hi us vs ui vi e1 e2 e3 e4 => ownKeep _ _ _ (by simp) (h1.2 i hi us vs ui vi e1 e2 e3 e4)⟩
    · refine ⟨hg.fr.ext.trans hE, hret.fr.os.trans hg.fr.os, hret.fr.tape.trans hg.fr.tape, hret.fr.output.trans hg.fr.output, Nat.le_trans hg.fr.size hret.fr.size, fun B hB hx => ?_, fun B hB => ?_⟩
      · have hge : g.role B = .ext := by
          rcases Classical.em (g.role B = .ext) with h | h
          · exact h
          · rcases hg.fr.role B h with h1 | h1
            · omega
            · exact absurd h1 hx
        obtain ⟨_, h2, h3⟩ := loc B (Nat.lt_of_lt_of_le hB hg.fr.size) (shExt B _ hge (by simp) (by simp))
        obtain ⟨h4, h5⟩ := hg.fr.same B hB hx
        exact ⟨h2.trans h4, h3.trans h5⟩
      · rcases Nat.lt_or_ge B w.heap.size with hlt | hge
        · rcases Classical.em (g.role B = .ext) with h | h
          · exfalso
            obtain ⟨h2, _⟩ := loc B hlt (shExt B _ h (by simp) (by simp))
            apply hB
            rw [r2, h2]
            simp only
            rw [if_pos hlt, h]
          · exact hg.fr.role B h
        · exact .inl (Nat.le_trans hg.fr.size hge)
  refine ⟨g2, hrel.putown dst (hret.rep.ext hE') (fun d hd => ?_) ?_⟩
  · have conv : ∀ i u c, OwnAV g' w' (.r i) u c → OwnAV g2 w' (pl i) u c := by
      intro i u c hc
      cases c with
      | vs sz tg l =>
        rcases hc with h | h | ⟨B, n, cap, us, e, h1, h2, h3⟩
        · exact .inl h
        · exact .inr (.inl h)
        · exact .inr (.inr ⟨B, n, cap, us, e, h1, by rw [r2, h2], h3⟩)
      | _ => trivial
    subst hd
    unfold resFl
    cases one with
    | true =>
      simp only
      split
      · rename_i hm
        exact conv 0 _ _ (hret.own1 rfl (memN_iff.1 hm))
      · trivial
    | false =>
      simp only
      split
      · trivial
      · rename_i hne
        intro i hi us vs ui vi e1 e2 e3 e4
        exact conv i _ _ (hret.own rfl i hi us vs ui vi e1 e2 e3 e4)
  · unfold resFl
    cases one with
    | true => simp only; split <;> simp
    | false => simp only; split <;> simp

/-- the ghost behind a call that saw nothing -/
def G.pback (g : G) (n : Nat) (g' : G) (pl : Nat → Pl) : G := ⟨fun B => if B < n then g.role B else match g'.role B with
  | .c (.r i) => .c (pl i)
  | _ => .ext, g'.pub⟩

def G.none (g : G) : G := ⟨fun _ => .ext, g.pub⟩

theorem none_inv (h : Inv g w) : Inv g.none w := ⟨fun B hB => ⟨rfl, (h.new B hB).2⟩, fun _ _ hB => (by cases hB), fun _ _ hB => (by cases hB), fun _ _ _ hB => (by cases hB), fun _ _ _ hB => (by cases hB)⟩

theorem call_pure (hg : Rel g0 w0 Ex g S a w) {rf : List Nat} {one : Bool} {out : Out} {v : Value} (hret : Ret rf one g.none w (fun B => g.none.role B ≠ .ext) out v g' w') (hp : out.v.pure = true) (dst : Option Nat) :
    Good g0 w0 Ex (S.putown dst out.v (resFl one rf)) (a.put dst v) w' := by
  let pl : Nat → Pl := fun i => match dst with
    | some d => match one with
      | true => .s d
      | false => .sc d i
    | none => .r i
  let g2 := g.pback w.heap.size g' pl
  have r2 : ∀ B, g2.role B = if B < w.heap.size then g.role B else match g'.role B with
    | .c (.r i) => .c (pl i)
    | _ => .ext := fun _ => rfl
  have old : ∀ B, B < w.heap.size → w'.heap[B]? = w.heap[B]? ∧ g'.pub B = g.pub B := fun B hB => hret.fr.same B hB (fun h => h rfl)
  have hpl : ∀ i, (∀ id, Role.c (pl i) ≠ .h id) ∧ ∀ d, Role.c (pl i) ≠ .l d := fun i => ⟨by simp, by simp⟩
  have newr : ∀ B, ¬ B < w.heap.size → (∀ id, g2.role B ≠ .h id) ∧ ∀ d, g2.role B ≠ .l d := by
    intro B hB
    rw [r2, if_neg hB]
    cases g'.role B with
    | c p => cases p <;> simp
    | _ => simp
  have hinv : Inv g2 w' := by
    refine ⟨fun B hB => ?_, fun B id hB => ?_, fun B d hB => ?_, fun B B' id h1 h2 => ?_, fun B B' d h1 h2 => ?_⟩
    · obtain ⟨h1, h2⟩ := hret.inv.new B hB
      refine ⟨?_, h2⟩
      rw [r2, if_neg (by have := hret.fr.size; omega), h1]
    · rcases Classical.em (B < w.heap.size) with h | h
      · rw [r2, if_pos h] at hB
        show g'.pub B = 0
        rw [(old B h).2]; exact hg.inv.ph B id hB
      · exact absurd hB ((newr B h).1 id)
    · rcases Classical.em (B < w.heap.size) with h | h
      · rw [r2, if_pos h] at hB
        show g'.pub B = 0
        rw [(old B h).2]; exact hg.inv.pl B d hB
      · exact absurd hB ((newr B h).2 d)
    · rcases Classical.em (B < w.heap.size) with h | h
      · rcases Classical.em (B' < w.heap.size) with h' | h'
        · rw [r2, if_pos h] at h1
          rw [r2, if_pos h'] at h2
          exact hg.inv.injh B B' id h1 h2
        · exact absurd h2 ((newr B' h').1 id)
      · exact absurd h1 ((newr B h).1 id)
    · rcases Classical.em (B < w.heap.size) with h | h
      · rcases Classical.em (B' < w.heap.size) with h' | h'
        · rw [r2, if_pos h] at h1
          rw [r2, if_pos h'] at h2
          exact hg.inv.injl B B' d h1 h2
        · exact absurd h2 ((newr B' h').2 d)
      · exact absurd h1 ((newr B h).2 d)
  have hE : Ext g w g2 w' := by
    refine ⟨fun B id hB => ?_, fun B => hret.fr.ext.pub B, fun B o ho => hret.fr.ext.cell B o ho⟩
    have : B < w.heap.size := by
      rcases Nat.lt_or_ge B w.heap.size with h | h
      · exact h
      · rw [(hg.inv.new B h).1] at hB; cases hB
    rw [r2, if_pos this]; exact hB
  have hk : Keep (fun _ => False) g w g2 w' := ⟨hE, hret.fr.os, hret.fr.tape, hret.fr.output, hret.fr.size, fun B hB _ => ⟨(old B hB).1, by rw [r2, if_pos hB], (old B hB).2⟩⟩
  have hrel := hg.grow hk hinv (fun B id hB => by
    rcases Classical.em (B < w.heap.size) with h | h
    · rw [r2, if_pos h] at hB; exact hg.h.lt B id hB
    · exact absurd hB ((newr B h).1 id))
  refine ⟨g2, hrel.putown dst (hret.rep.pure hp g2 (fun _ => Nat.le_refl _)) (fun d hd => ?_) ?_⟩
  · have conv : ∀ i u c, OwnAV g' w' (.r i) u c → OwnAV g2 w' (pl i) u c := by
      intro i u c hc
      cases c with
      | vs sz tg l =>
        rcases hc with h | h | ⟨B, n, cap, us, e, h1, h2, h3⟩
        · exact .inl h
        · exact .inr (.inl h)
        · have hB : ¬ B < w.heap.size := fun hlt => by
            rcases hret.fr.role B (by rw [h2]; simp) with h | h
            · omega
            · exact h rfl
          exact .inr (.inr ⟨B, n, cap, us, e, h1, by rw [r2, if_neg hB, h2], h3⟩)
      | _ => trivial
    subst hd
    unfold resFl
    cases one with
    | true =>
      simp only
      split
      · rename_i hm
        exact conv 0 _ _ (hret.own1 rfl (memN_iff.1 hm))
      · trivial
    | false =>
      simp only
      split
      · trivial
      · rename_i hne
        intro i hi us vs ui vi e1 e2 e3 e4
        exact conv i _ _ (hret.own rfl i hi us vs ui vi e1 e2 e3 e4)
  · unfold resFl
    cases one with
    | true => simp only; split <;> simp
    | false => simp only; split <;> simp

theorem none_relH : RelH g.none Hp.none 0 w := ⟨fun id b hb => (by cases hb), fun B id hB => (by cases hB)⟩

theorem opCall_ok {c : Call} {fo : Operand} {k : St → Option R} (hN : ∀ (f : Nat) (fn : Func), P.funcs[f]? = some fn → fn.name ≠ "runtime.NumGoroutine") (hcal : CalOk P A cal) (hgl : GlobOk A g0 w0) (ho : o.op = .call c) (hf : c.callee = .value fo)
    (h : opCall P A cal o fo c.argTypes.toList c.args.toList S k = some r) (hg : Rel g0 w0 Ex g S a w) : OpOk P o a w g0 w0 Ex k r := by
  unfold opCall at h
  obtain ⟨f, caps, hev, h1⟩ := func?_some h
  clear h
  have hfr := hg.ev fo
  rw [hev] at hfr
  obtain ⟨cus, hfv, hcr⟩ := rep_func hfr
  have hargs := (evsT_rep (P := P) hg c.argTypes.toList c.args.toList).append hcr
  have hrun : (∃ fn cc, P.funcs[f]? = some fn ∧ fn.body = some cc) → (execOp a.eval o).run P w = .ok (.enter f (c.args.toList.map a.eval ++ cus).toArray) w := by
    rintro ⟨fn, cc, hfn, hb⟩
    have hn := hN f fn hfn
    have e1 : c.args.map a.eval ++ cus.toArray = (c.args.toList.map a.eval ++ cus).toArray := by
      apply Array.ext'; simp
    simp only [execOp, ho, resolve, hf, hfv, Deferred.ofValue, invoke, callFunc, Sem.run_bind, Sem.run_pure, Result.andThen_ok, run_program, hfn, hb]
    simp [hn, e1]
  intro Q
  unfold Oper.wp
  split at h1
  · obtain ⟨out, hc, h2⟩ := bind_some' h1
    obtain ⟨hfn, hcc⟩ := hcal _ _ _ _ _ hc
    rw [hrun hfn, Oper.upon_enter]
    refine (hcc g.shared w _ (shared_inv hg.inv) (shared_relH hg.h) shared_shared (fun h0 => by simp_all) ((hgl.ext hg.fr.ext).ext shared_ext) (hargs.ext shared_ext)).mono ?_
    rintro e w' ⟨v, g', rfl, hret⟩
    exact ⟨_, call_imp hg hret o.dst, h2⟩
  · obtain ⟨hp, h2⟩ := br_left h1
    obtain ⟨out, hc, h3⟩ := bind_some' h2
    obtain ⟨hp2, h4⟩ := br_left h3
    obtain ⟨hfn, hcc⟩ := hcal _ _ _ _ _ hc
    rw [hrun hfn, Oper.upon_enter]
    have hargs' : RepL g.none w (c.args.toList.map a.eval ++ cus) (evsT P S c.argTypes.toList c.args.toList ++ caps) :=
      ⟨hargs.1, fun j u cv hu hcv => (hargs.2 j u cv hu hcv).pure (pureL_get hp j cv hcv) g.none (fun _ => Nat.le_refl _)⟩
    refine (hcc g.none w _ (none_inv hg.inv) none_relH (fun _ => .inl rfl) (fun _ _ => rfl) ((hgl.ext hg.fr.ext).pure fun _ => Nat.le_refl _) hargs').mono ?_
    rintro e w' ⟨v, g', rfl, hret⟩
    exact ⟨_, call_pure hg hret hp2 o.dst, h4⟩

end
end Go.Vai
